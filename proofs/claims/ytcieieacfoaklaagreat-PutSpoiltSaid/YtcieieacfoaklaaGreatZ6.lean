/- The statement PutSpoilt holds: for every input the law answers true. The texts are joined. -/
import Derived.Test.YtcieieacfoaklaaGreatV5
import Derived.ChangeOld
import Derived.ChangeSlices
import Derived.OpenShut
import Derived.ProofKit
import Derived.Shelf.SlicesE.IndexFunc
import Derived.ShutString
import Derived.SizedLaws
set_option linter.unusedVariables false
set_option linter.unusedSimpArgs false
set_option maxRecDepth 100000
set_option maxHeartbeats 8000000
namespace Go.Proofs.YtcieieacfoaklaaGreat
open Go.RowKit YtcieieacfoaklaaGreatW.PrintWords YtcieieacfoaklaaGreatW.PrintLast YtcieieacfoaklaaGreatW.PrintMore Go.Proofs.YtcieieacfoaklaaGreat.Nm
section
section
namespace Pk
attribute [local go_sem] max2_int min2_int max_two min_two max_three min_three max_four min_four   -- for this text's walks alone
structure S57 where
 f0:Int
 f1:Int
 f2:Int
def k57:Kd S57:=Kd.iso (Kd.pair (Kd.int .i64) (Kd.pair (Kd.int .i64) (Kd.int .i64))) (fun x:S57=>(x.f0,x.f1,x.f2))
end Pk
end
namespace Pw
open Go.Shelf Go.Maps Fr Ext Pt Dk Mn Pu Ct Lg
open Rc (Re Lo withinB keyB zeroR recC Norm Norm.intro Norm.elim)
variable {w w' w1:World} {B l g wb cb c N:Nat} {M M':DiskM} {F F' G:Nat→Prop} {S S':LogS} {p p':Wr} {hv pv hv' pv':Value} {A A':Option Addr}
theorem WTo.below {w2:World} {q:St} (h:WTo w w1 B l g wb cb N F pv q) (hb:RowKit.Below w1.heap.size w1 w2):WTo w w2 B l g wb cb N F pv q:=by
 obtain⟨F',hv',pv',A',c',h1,h2,h3,h4,h5⟩:=h
 exact⟨F',hv',pv',A',c',h1.below hb,h2,h3,h4,h5.trans (Keeps.of_below hb)⟩
end Pw
namespace Qd
open Go.Shelf Go.Maps Fr Ext Dk
abbrev View:=ByteArray→Option (List Int)
def upd (c:View) (s:ByteArray) (v:Option (List Int)):View:=fun t=>if t=s then v else c t
theorem af (c:View) (s:ByteArray) (v:Option (List Int)):upd c s v s=v:=if_pos rfl
theorem upd_ne (c:View) {s t:ByteArray} (v:Option (List Int)) (h:t≠s):upd c s v t=c t:=if_neg h
def aC (M:DiskM) (s:ByteArray):Option (List Int):=(Dk.look M.D s).map fun i=>(M.fs.getD i ⟨[],0,0⟩).b
def tot (M:DiskM):Nat:=(M.fs.map fun f=>f.b.length).sum
structure Quiet (M:DiskM):Prop where
 fit:Fit M
 inj:∀s t i,Dk.look M.D s=some i→Dk.look M.D t=some i→s=t
 fi:M.d.fi=false
 ci:M.d.ci=false
 down:M.d.down=false
structure ag (M:DiskM) (c:View) (a n:Nat) (m:Int):Prop where
 quiet:Quiet M
 aC:aC M=c
 tot:tot M≤a
 files:M.fs.length≤n
 most:M.d.most=m
variable {M:DiskM} {c:View} {a n:Nat} {m:Int} {s t:ByteArray} {i:Nat} {b bs:List Int}
theorem Quiet.thing (h:Quiet M):thingE M.d=0:=by unfold Dk.thingE nowB;rw[h.ci,h.fi];rfl
theorem Quiet.thingN (h:Quiet M):(thingN M.d).fi=false∧(thingN M.d).ci=false∧(thingN M.d).down=false∧(thingN M.d).most=M.d.most:=by
 unfold Dk.thingN nowB
 rw[h.ci,h.fi]
 exact⟨rfl,rfl,h.down,rfl⟩
theorem isMap (h:Fit M):IsMap M.D:=by
 obtain⟨es,e,_⟩:=h.tidy
 exact⟨es,e⟩
theorem ei (h:aC M s=some b):∃i,Dk.look M.D s=some i∧(M.fs.getD i ⟨[],0,0⟩).b=b:=by
 unfold aC at h
 obtain⟨i,h1,h2⟩:=Option.map_eq_some_iff.1 h
 exact⟨i,h1,h2⟩
theorem cO:aC M s=none↔Dk.look M.D s=none:=by
 unfold aC
 exact Option.map_eq_none_iff
theorem bP:(Dk.look M.D s).isSome=(aC M s).isSome:=by
 unfold aC
 cases Dk.look M.D s <;> rfl
theorem dp (f:Nat→Nat):∀(n:Nat) (js:List Nat),js.Nodup→(∀j∈js,j < n)→(js.map f).sum≤((List.range n).map f).sum
 | 0,js,_,h=>by
  cases js with
  | nil=>simp
  | cons j l=>exact absurd (h j (by simp)) (by omega)
 | n+1,js,hn,h=>by
  have h1:=dp f n (js.erase n) (hn.erase n) (fun j hj=>by
   have h2:=(hn.mem_erase_iff).1 hj
   have:=h j h2.2
   have:=h2.1
   omega)
  rw[List.range_succ,List.map_append,List.sum_append]
  simp only[List.map_cons,List.map_nil,List.sum_cons,List.sum_nil]
  by_cases hm:n∈js
  ·have h2:=((List.perm_cons_erase hm).map f).sum_nat
   rw[List.map_cons,List.sum_cons] at h2
   omega
  ·rw[List.erase_of_not_mem hm] at h1
   omega
theorem cP (l:List Nat):(l.map fun _=>1).sum=l.length:=by
 induction l with
 | nil=>rfl
 | cons x l ih=>rw[List.map_cons,List.sum_cons,ih,List.length_cons];omega
theorem dP (xs:List Nat):(List.range xs.length).map (fun i=>xs.getD i 0)=xs:=by
 apply List.ext_getElem
 ·simp
 ·intro i h1 h2
  simp [List.getElem?_eq_getElem h2]
theorem Quiet.idx (h:Quiet M):∀l:List (List UInt8),l.Nodup→(∀x∈l,(Dk.look M.D ⟨x.toArray⟩).isSome=true)→∃js:List Nat,js.Nodup∧(∀j∈js,j < M.fs.length)∧js.length=l.length∧sumM M l=((js.map fun j=>((M.fs.map fun f=>f.b.length).getD j 0)).sum:Nat)∧∀j∈js,∃x∈l,Dk.look M.D ⟨x.toArray⟩=some j
 | [],_,_=>⟨[],by simp,by simp,rfl,by simp [sumM],by simp⟩
 | x::l,hn,hp=>by
  obtain⟨js,h1,h2,h3,h4,h5⟩:=Quiet.idx h l (List.nodup_cons.1 hn).2 (fun y hy=>hp y (by simp [hy]))
  obtain⟨i,hi⟩:=Option.isSome_iff_exists.1 (hp x (by simp))
  have hil:=h.fit.inD hi
  refine⟨i::js,List.nodup_cons.2 ⟨fun hm=>?_,h1⟩,fun j hj=>?_,by simp [h3],?_,fun j hj=>?_⟩
  ·obtain⟨y,hy,gL⟩:=h5 i hm
   have h6:=h.inj _ _ _ hi gL
   have h7:x=y:=by
    have:=congrArg (fun z:ByteArray=>z.data.toList) h6
    simpa using this
   exact(List.nodup_cons.1 hn).1 (h7 ▸ hy)
  ·rcases List.mem_cons.1 hj with rfl | hj
   ·exact hil
   ·exact h2 j hj
  ·have e1:lenM M x=(((M.fs.map fun f=>f.b.length).getD i 0:Nat):Int):=by
    unfold lenM sizeM fileM
    rw[hi,Option.bind_some,List.getElem?_eq_getElem hil]
    simp [List.getElem?_eq_getElem hil]
   simp only[sumM,List.map_cons,List.sum_cons]
   rw[e1,h4]
   omega
  ·rcases List.mem_cons.1 hj with rfl | hj
   ·exact⟨x,by simp,hi⟩
   ·obtain⟨y,hy,gL⟩:=h5 j hj
    exact⟨y,by simp [hy],gL⟩
theorem Quiet.used (h:Quiet M):usedM M≤tot M:=by
 obtain⟨js,h1,h2,h3,h4,h5⟩:=h.idx (strKeys M.D) h.fit.nodup (fun x hx=>h.fit.mem.1 hx)
 rw[h.fit.used.1,h4]
 have h6:=dp (fun j=>(M.fs.map fun f=>f.b.length).getD j 0) M.fs.length js h1 h2
 have h7:(List.range M.fs.length).map (fun j=>(M.fs.map fun f=>f.b.length).getD j 0)=M.fs.map fun f=>f.b.length:=by
  have:=dP (M.fs.map fun f=>f.b.length)
  rwa [List.length_map] at this
 rw[h7] at h6
 exact Int.ofNat_le.2 h6
theorem Quiet.size (h:Quiet M):Maps.size M.D≤M.fs.length:=by
 obtain⟨js,h1,h2,h3,h4,h5⟩:=h.idx (strKeys M.D) h.fit.nodup (fun x hx=>h.fit.mem.1 hx)
 rw[← strKeys_length,← h3]
 have h6:=dp (fun _=>1) M.fs.length js h1 h2
 rwa [cP,cP,List.length_range] at h6
theorem ag.look (h:ag M c a n m) (hc:c s=some b):∃i,Dk.look M.D s=some i∧(M.fs.getD i ⟨[],0,0⟩).b=b:=ei (by rw[h.aC];exact hc)
theorem ag.cF (h:ag M c a n m) (hc:c s=none):Dk.look M.D s=none:=cO.1 (by rw[h.aC];exact hc)
theorem ag.isSome (h:ag M c a n m):(Dk.look M.D s).isSome=(c s).isSome:=by rw[bP,h.aC]
theorem ag.sizeM (h:ag M c a n m):Dk.sizeM M s=(((c s).getD []).length:Int):=by
 unfold Dk.sizeM fileM
 cases hc:c s with
 | none=>rw[h.cF hc];rfl
 | some b=>
  obtain⟨i,h1,h2⟩:=h.look hc
  have hi:=h.quiet.fit.inD h1
  rw[h1,Option.bind_some,List.getElem?_eq_getElem hi]
  rw[List.getD_eq_getElem?_getD,List.getElem?_eq_getElem hi] at h2
  simp only[Option.getD_some] at h2 ⊢
  rw[h2]
theorem ag.len (h:ag M c a n m) (hc:c s=some b):b.length≤a:=by
 obtain⟨i,h1,h2⟩:=h.look hc
 have h3:=h.quiet.fit.part h1
 rw[h2] at h3
 have h4:=h.quiet.used
 have h5:=h.tot
 omega
theorem ag.bytes (h:ag M c a n m) (hc:c s=some b):IsBytes b:=by
 obtain⟨i,h1,h2⟩:=h.look hc
 have hi:=h.quiet.fit.inD h1
 rw[List.getD_eq_getElem?_getD,List.getElem?_eq_getElem hi,Option.getD_some] at h2
 rw[← h2]
 exact h.quiet.fit.bytes _ (List.getElem_mem hi)
theorem ag.aQ {a' n':Nat} (h:ag M c a n m) (ha:a≤a') (hn:n≤n'):ag M c a' n' m:=⟨h.quiet,h.aC,Nat.le_trans h.tot ha,Nat.le_trans h.files hn,h.most⟩
theorem ag.view {c':View} (h:ag M c a n m) (e:∀t,c t=c' t):ag M c' a n m:=⟨h.quiet,h.aC.trans (funext e),h.tot,h.files,h.most⟩
theorem dG (fs:List FileM) (i:Nat) (f:FileM) (hi:i < fs.length):((fs.set i f).map fun f=>f.b.length).sum+(fs.getD i ⟨[],0,0⟩).b.length=(fs.map fun f=>f.b.length).sum+f.b.length:=by
 induction fs generalizing i with
 | nil=>exact absurd hi (Nat.not_lt_zero _)
 | cons g l ih=>
  cases i with
  | zero=>simp;omega
  | succ i=>
   have h1:=ih i (by simpa using hi)
   simp only[List.set_cons_succ,List.map_cons,List.sum_cons,List.getD_cons_succ]
   omega
theorem bh (fs:List FileM) (i j:Nat) (f:FileM) (hi:i < fs.length):(fs.set i f).getD j ⟨[],0,0⟩=if j=i then f else fs.getD j ⟨[],0,0⟩:=by
 rw[List.getD_eq_getElem?_getD,List.getElem?_set,List.getD_eq_getElem?_getD]
 by_cases h:i=j
 ·subst h
  rw[if_pos rfl,if_pos rfl,if_pos hi];rfl
 ·rw[if_neg h,if_neg (Ne.symm h)]
def ej (f:FileM):FileM:={f with kept:=f.b.length}
def ek (f:FileM) (bs:List Int):FileM:={f with b:=f.b++bs}
theorem ag.append (h:ag M c a n m) (hb:IsBytes bs) (hc:c s=some b) (hr:(a+bs.length:Nat)≤m):(appendM M s bs).2=0∧ag (appendM M s bs).1 (upd c s (some (b++bs))) (a+bs.length) n m:=by
 have hf:=h.quiet.fit.append s bs hb
 obtain⟨i,h1,h2⟩:=h.look hc
 have hi:=h.quiet.fit.inD h1
 have hu:=h.quiet.fit.used
 have iP:=h.quiet.fit.most
 have iQ:=h.quiet.used
 have ht:=h.tot
 have hm:=h.most
 have e1:wrap64 (M.d.most - usedM M)=M.d.most - usedM M:=by unfold wrap64;omega
 have e:appendM M s bs=({M with d:=Dk.thingN M.d,fs:=M.fs.set i (ek (M.fs.getD i ⟨[],0,0⟩) bs)},0):=by
  unfold appendM
  rw[h.quiet.down,if_neg (by decide),h1]
  dsimp only
  rw[e1,if_neg (by omega),if_pos h.quiet.thing]
  rfl
 rw[e] at hf ⊢
 obtain⟨q1,q2,q3,q4⟩:=h.quiet.thingN
 refine⟨rfl,⟨hf,h.quiet.inj,q1,q2,q3⟩,?_,?_,?_,q4.trans hm⟩
 ·funext t
  show(Dk.look M.D t).map (fun j=>((M.fs.set i (ek (M.fs.getD i ⟨[],0,0⟩) bs)).getD j ⟨[],0,0⟩).b)=upd c s (some (b++bs)) t
  by_cases bQ:t=s
  ·subst bQ
   rw[af,h1,Option.map_some,bh _ _ _ _ hi,if_pos rfl]
   show some ((M.fs.getD i ⟨[],0,0⟩).b++bs)=_
   rw[h2]
  ·rw[upd_ne _ _ bQ,← h.aC]
   unfold Qd.aC
   cases hl:Dk.look M.D t with
   | none=>rfl
   | some j=>
    have hji:j≠i:=fun e=>bQ (h.quiet.inj _ _ _ hl (e ▸ h1))
    rw[Option.map_some,Option.map_some,bh _ _ _ _ hi,if_neg hji]
 ·have h3:=dG M.fs i (ek (M.fs.getD i ⟨[],0,0⟩) bs) hi
  rw[show(ek (M.fs.getD i ⟨[],0,0⟩) bs).b.length=(M.fs.getD i ⟨[],0,0⟩).b.length+bs.length from List.length_append] at h3
  have h4:(M.fs.map fun f=>f.b.length).sum≤a:=ht
  show((M.fs.set i (ek (M.fs.getD i ⟨[],0,0⟩) bs)).map fun f=>f.b.length).sum≤a+bs.length
  omega
 ·show(M.fs.set i _).length≤n
  rw[List.length_set]
  exact h.files
theorem ag.sync (h:ag M c a n m) (hc:c s=some b):(syncM M s).2=0∧ag (syncM M s).1 c a n m:=by
 have hf:=h.quiet.fit.sync s
 obtain⟨i,h1,h2⟩:=h.look hc
 have hi:=h.quiet.fit.inD h1
 obtain⟨q1,q2,q3,q4⟩:=h.quiet.thingN
 unfold syncM at hf ⊢
 rw[h.quiet.down,if_neg (by decide),h1] at hf ⊢
 dsimp only at hf ⊢
 rw[if_pos h.quiet.thing] at hf ⊢
 refine⟨rfl,⟨hf,h.quiet.inj,q1,q2,q3⟩,?_,?_,?_,q4.trans h.most⟩
 ·rw[← h.aC]
  funext t
  unfold Qd.aC
  cases hl:Dk.look M.D t with
  | none=>rfl
  | some j=>
   rw[Option.map_some,Option.map_some,bh _ _ _ _ hi]
   split
   ·rename_i e;rw[e]
   ·rfl
 ·have h3:=dG M.fs i (ej (M.fs.getD i ⟨[],0,0⟩)) hi
  have h4:(M.fs.map fun f=>f.b.length).sum≤a:=h.tot
  have h5:(ej (M.fs.getD i ⟨[],0,0⟩)).b.length=(M.fs.getD i ⟨[],0,0⟩).b.length:=rfl
  show((M.fs.set i (ej (M.fs.getD i ⟨[],0,0⟩))).map fun f=>f.b.length).sum≤a
  omega
 ·show(M.fs.set i _).length≤n
  rw[List.length_set]
  exact h.files
theorem ag.syncDir (h:ag M c a n m):(syncDirM M).2=0∧ag (syncDirM M).1 c a n m:=by
 have hf:=h.quiet.fit.syncDir
 obtain⟨q1,q2,q3,q4⟩:=h.quiet.thingN
 unfold syncDirM at hf ⊢
 rw[h.quiet.down,if_neg (by decide),if_pos h.quiet.thing] at hf ⊢
 exact⟨rfl,⟨hf,h.quiet.inj,q1,q2,q3⟩,h.aC,h.tot,h.files,q4.trans h.most⟩
theorem bw (fs:List FileM) (f:FileM) (j:Nat):(fs++[f]).getD j ⟨[],0,0⟩=if j=fs.length then f else fs.getD j ⟨[],0,0⟩:=by
 rw[List.getD_eq_getElem?_getD,List.getD_eq_getElem?_getD]
 rcases Nat.lt_trichotomy j fs.length with h | h | h
 ·rw[List.getElem?_append_left h,if_neg (by omega)]
 ·subst h
  rw[List.getElem?_concat_length,if_pos rfl];rfl
 ·rw[if_neg (by omega),List.getElem?_eq_none (by simp;omega),List.getElem?_eq_none (by omega)]
theorem ag.create (h:ag M c a n m) (ha:Ascii s) (hs:rightN s=true) (hc:c s=none) (hn:n < 4096):(createM M s).2=0∧ag (createM M s).1 (upd c s (some [])) a (n+1) m:=by
 have hf:=h.quiet.fit.create s ha
 have hl:=h.cF hc
 have hz:=h.quiet.size
 have hfl:=h.files
 obtain⟨q1,q2,q3,q4⟩:=h.quiet.thingN
 unfold createM at hf ⊢
 rw[h.quiet.down,if_neg (by decide),hs,if_neg (by decide),hl,if_neg (by decide),if_neg (by omega),if_pos h.quiet.thing] at hf ⊢
 have hlk:∀t,Dk.look (M.D.put (keyN s) (.held M.fs.length)) t=if t=s then some M.fs.length else Dk.look M.D t:=fun t=>look_put (isMap h.quiet.fit) s t _
 refine⟨rfl,⟨hf,fun u v j hu hv=>?_,q1,q2,q3⟩,?_,?_,?_,q4.trans h.most⟩
 ·have aR:Dk.look (M.D.put (keyN s) (.held M.fs.length)) u=some j:=hu
  have hv':Dk.look (M.D.put (keyN s) (.held M.fs.length)) v=some j:=hv
  rw[hlk] at aR hv'
  by_cases h1:u=s
  ·by_cases h2:v=s
   ·rw[h1,h2]
   ·rw[if_pos h1] at aR
    rw[if_neg h2] at hv'
    have:=h.quiet.fit.inD hv'
    have:=Option.some.inj aR
    omega
  ·by_cases h2:v=s
   ·rw[if_neg h1] at aR
    rw[if_pos h2] at hv'
    have:=h.quiet.fit.inD aR
    have:=Option.some.inj hv'
    omega
   ·rw[if_neg h1] at aR
    rw[if_neg h2] at hv'
    exact h.quiet.inj _ _ _ aR hv'
 ·funext t
  show(Dk.look (M.D.put (keyN s) (.held M.fs.length)) t).map (fun j=>((M.fs++[(⟨[],0,M.d.made⟩:FileM)]).getD j ⟨[],0,0⟩).b)=upd c s (some []) t
  rw[hlk]
  by_cases bQ:t=s
  ·rw[if_pos bQ,bQ,af,Option.map_some,bw,if_pos rfl]
  ·rw[if_neg bQ,upd_ne _ _ bQ,← h.aC]
   unfold Qd.aC
   cases hl:Dk.look M.D t with
   | none=>rfl
   | some j=>
    have:=h.quiet.fit.inD hl
    rw[Option.map_some,Option.map_some,bw,if_neg (by omega)]
 ·show((M.fs++[(⟨[],0,M.d.made⟩:FileM)]).map fun f=>f.b.length).sum≤a
  rw[List.map_append,List.sum_append]
  exact h.tot
 ·show(M.fs++[(⟨[],0,M.d.made⟩:FileM)]).length≤n+1
  rw[List.length_append]
  exact Nat.succ_le_succ h.files
theorem ag.del (h:ag M c a n m) (s:ByteArray):ag {M with d:=Dk.thingN M.d,D:=M.D.del (keyN s)} (upd c s none) a n m:=by
 obtain⟨q1,q2,q3,q4⟩:=h.quiet.thingN
 refine⟨⟨Fit.nums (M:={M with D:=M.D.del (keyN s)}) (h.quiet.fit.del s) (thingN_most _),fun u v j hu hv=>?_,q1,q2,q3⟩,?_,h.tot,h.files,q4.trans h.most⟩
 ·have aR:Dk.look (M.D.del (keyN s)) u=some j:=hu
  have hv':Dk.look (M.D.del (keyN s)) v=some j:=hv
  rw[look_del] at aR hv'
  split at aR
  ·cases aR
  split at hv'
  ·cases hv'
  exact h.quiet.inj _ _ _ aR hv'
 ·funext t
  show(Dk.look (M.D.del (keyN s)) t).map (fun j=>(M.fs.getD j ⟨[],0,0⟩).b)=upd c s none t
  rw[look_del]
  by_cases bQ:t=s
  ·rw[if_pos bQ,bQ,af];rfl
  ·rw[if_neg bQ,upd_ne _ _ bQ,← h.aC];rfl
theorem ag.remove (h:ag M c a n m) (hc:c s=some b):(removeM M s).2=0∧ag (removeM M s).1 (upd c s none) a n m:=by
 obtain⟨i,h1,h2⟩:=h.look hc
 unfold removeM
 rw[h.quiet.down,if_neg (by decide),h1]
 dsimp only
 rw[if_pos h.quiet.thing]
 exact⟨rfl,h.del s⟩
theorem ag.rename (h:ag M c a n m) (ht:Ascii t) (hr:rightN t=true) (hc:c s=some b) (hne:t≠s):(renameM M s t).2=0∧ag (renameM M s t).1 (upd (upd c s none) t (some b)) a n m:=by
 have hf:=h.quiet.fit.rename s t ht
 obtain⟨i,h1,h2⟩:=h.look hc
 have hi:=h.quiet.fit.inD h1
 obtain⟨q1,q2,q3,q4⟩:=h.quiet.thingN
 have hb:(t.toList==s.toList)=false:=by
  rw[beq_eq_false_iff_ne]
  intro e
  exact hne (Go.WideShapes.bytes_inj (by rw[← ByteArray.toList_eq,← ByteArray.toList_eq,e]))
 unfold renameM moveD at hf ⊢
 rw[h.quiet.down,if_neg (by decide),h1,if_neg (show ¬(some i).isSome=false from fun e=>by cases e),hr,if_neg (by decide),hb,if_neg (by decide),if_pos h.quiet.thing] at hf ⊢
 dsimp only at hf ⊢
 have hlk:∀u,Dk.look ((M.D.del (keyN s)).put (keyN t) (.held i)) u=if u=t then some i else if u=s then none else Dk.look M.D u:=fun u=>by
  rw[look_put (isMap (h.quiet.fit.del s)) t u i,look_del]
 refine⟨rfl,⟨hf,fun u v j hu hv=>?_,q1,q2,q3⟩,?_,h.tot,h.files,q4.trans h.most⟩
 ·have aR:Dk.look ((M.D.del (keyN s)).put (keyN t) (.held i)) u=some j:=hu
  have hv':Dk.look ((M.D.del (keyN s)).put (keyN t) (.held i)) v=some j:=hv
  rw[hlk] at aR hv'
  by_cases k1:u=t
  ·rw[if_pos k1] at aR
   by_cases k2:v=t
   ·rw[k1,k2]
   ·rw[if_neg k2] at hv'
    split at hv'
    ·cases hv'
    rename_i k3
    exact absurd (h.quiet.inj _ _ _ hv' (aR ▸ h1)) k3
  ·rw[if_neg k1] at aR
   split at aR
   ·cases aR
   rename_i k3
   by_cases k2:v=t
   ·rw[if_pos k2] at hv'
    exact absurd (h.quiet.inj _ _ _ aR (hv' ▸ h1)) k3
   ·rw[if_neg k2] at hv'
    split at hv'
    ·cases hv'
    exact h.quiet.inj _ _ _ aR hv'
 ·funext u
  show(Dk.look ((M.D.del (keyN s)).put (keyN t) (.held i)) u).map (fun j=>(M.fs.getD j ⟨[],0,0⟩).b)=upd (upd c s none) t (some b) u
  rw[hlk]
  by_cases k1:u=t
  ·rw[if_pos k1,k1,af,Option.map_some,h2]
  ·rw[if_neg k1,upd_ne _ _ k1]
   by_cases k2:u=s
   ·rw[if_pos k2,k2,af];rfl
   ·rw[if_neg k2,upd_ne _ _ k2,← h.aC];rfl
theorem ag.read (h:ag M c a n m) (hc:c s=some b) (x y:Int):readM M s x y=if partB b.length x y=true then(cutL b x y,0) else([],1):=by
 obtain⟨i,h1,h2⟩:=h.look hc
 unfold readM
 rw[h.quiet.down,if_neg (by decide),h1]
 dsimp only
 rw[h2]
theorem ag.new (x:Int):ag (newM x) (fun _=>none) 0 0 (newM x).d.most:=
 ⟨⟨Fit.new x,fun s t i h=>(by rw[show Dk.look (newM x).D s=none from rfl] at h;cases h),rfl,rfl,rfl⟩,funext fun s=>rfl,Nat.le_refl _,Nat.le_refl _,rfl⟩
end Qd
namespace Qd
open Go.Shelf Go.Maps Fr Ext Dk Mn
open Sg (segN segN_le segN_ascii)
open Lg
theorem bj (l:List Int):(strOfNums l).data.toList=l.map fun n=>UInt8.ofNat n.toNat:=by simp [strOfNums]
theorem cx:∀k n acc,numL ((digs k n).map fun d=>UInt8.ofNat d) acc=some (acc*10 ^ k+n % 10 ^ k)
 | 0,n,acc=>by simp [digs,numL,Nat.mod_one]
 | k+1,n,acc=>by
  have hd:n / 10 ^ k % 10 < 10:=Nat.mod_lt _ (by decide)
  have e1:(UInt8.ofNat (48+n / 10 ^ k % 10)).toNat=48+n / 10 ^ k % 10:=by
   rw[UInt8.toNat_ofNat']
   omega
  have e2:n % 10 ^ (k+1)=n % 10 ^ k+10 ^ k*(n / 10 ^ k % 10):=by rw[Nat.pow_succ,Nat.mod_mul]
  have e3:(10* acc+n / 10 ^ k % 10)*10 ^ k+n % 10 ^ k=acc*10 ^ (k+1)+n % 10 ^ (k+1):=by
   rw[e2,Nat.pow_succ,Nat.add_mul,Nat.mul_comm (n / 10 ^ k % 10) (10 ^ k),Nat.mul_comm 10 acc,Nat.mul_assoc,Nat.mul_comm 10 (10 ^ k)]
   omega
  simp only[digs,List.map_cons]
  rw[numL_cons,e1,if_pos (by omega),show 48+n / 10 ^ k % 10 - 48=n / 10 ^ k % 10 from by omega,cx k n,e3]
theorem cy (c:Nat) (n:Int) (h0:0≤n) (h1:n≤99999999):∃l,(strOfNums (nameL c n.toNat)).data.toList=UInt8.ofNat c::l∧numberM l=some n.toNat∧l.isEmpty=false:=by
 refine⟨(digs 8 n.toNat).map fun d=>UInt8.ofNat d,?_,?_,?_⟩
 ·rw[bj]
  simp [nameL]
 ·unfold numberM
  rw[if_pos (by simp [digs_length]),cx,Nat.zero_mul,Nat.zero_add,Nat.mod_eq_of_lt (by omega)]
 ·simp [digs]
theorem bm (c:UInt8) (l:List UInt8):parseL (c::l)=(if(c==109 && l.isEmpty)=true then(3,0,true) else if(c==116 && l.isEmpty)=true then(4,0,true) else if(numberM l).isSome=true then(if(c==115)=true then(1,((numberM l).getD 0:Nat),true) else if(c==104)=true then(2,((numberM l).getD 0:Nat),true) else(0,0,false)) else(0,0,false):Int×Int×Bool):=rfl
theorem dH {n:Int} (h0:0≤n) (h1:n≤99999999):segN n=strOfNums (nameL 115 n.toNat):=by
 unfold segN nameOf
 rw[if_neg (by omega),if_neg (by omega),if_pos rfl]
theorem cQ {n:Int} (h0:0≤n) (h1:n≤99999999):hintN n=strOfNums (nameL 104 n.toNat):=by
 unfold hintN nameOf
 rw[if_neg (by omega),if_neg (by omega),if_neg (by decide),if_pos rfl]
theorem aw {n:Int} (h0:0≤n) (h1:n≤99999999):parseM (segN n)=(1,n,true):=by
 obtain⟨l,e1,e2,e3⟩:=cy 115 n h0 h1
 unfold parseM
 rw[dH h0 h1,e1]
 rw[bm,e2,e3]
 simp only[Bool.and_false,Option.isSome_some,Option.getD_some]
 rw[show(UInt8.ofNat 115==115)=true from rfl]
 simp
 omega
theorem aD {n:Int} (h0:0≤n) (h1:n≤99999999):parseM (hintN n)=(2,n,true):=by
 obtain⟨l,e1,e2,e3⟩:=cy 104 n h0 h1
 unfold parseM
 rw[cQ h0 h1,e1]
 rw[bm,e2,e3]
 simp only[Bool.and_false,Option.isSome_some,Option.getD_some]
 rw[show(UInt8.ofNat 104==115)=false from rfl,show(UInt8.ofNat 104==104)=true from rfl]
 simp
 omega
theorem bA:parseM manN=(3,0,true):=rfl
theorem bD:parseM tempN=(4,0,true):=rfl
theorem aM {n k:Int} (h0:0≤n) (h1:n≤99999999) (k0:0≤k) (k1:k≤99999999):segN n=segN k↔n=k:=by
 constructor
 ·intro e
  have:=congrArg parseM e
  rw[aw h0 h1,aw k0 k1] at this
  exact(Prod.mk.inj (Prod.mk.inj this).2).1
 ·intro e;rw[e]
theorem bM {n k:Int} (h0:0≤n) (h1:n≤99999999) (k0:0≤k) (k1:k≤99999999):hintN n=hintN k↔n=k:=by
 constructor
 ·intro e
  have:=congrArg parseM e
  rw[aD h0 h1,aD k0 k1] at this
  exact(Prod.mk.inj (Prod.mk.inj this).2).1
 ·intro e;rw[e]
theorem bB {s t:ByteArray} {a b:Int×Int×Bool} (hs:parseM s=a) (ht:parseM t=b) (h:a.1≠b.1):s≠t:=fun e=>h (by rw[← hs,← ht,e])
theorem aj {n k:Int} (h0:0≤n) (h1:n≤99999999) (k0:0≤k) (k1:k≤99999999):segN n≠hintN k:=bB (aw h0 h1) (aD k0 k1) (show(1:Int)≠2 by decide)
theorem az {n:Int} (h0:0≤n) (h1:n≤99999999):segN n≠manN:=bB (aw h0 h1) bA (show(1:Int)≠3 by decide)
theorem aT {n:Int} (h0:0≤n) (h1:n≤99999999):segN n≠tempN:=bB (aw h0 h1) bD (show(1:Int)≠4 by decide)
theorem bn {n:Int} (h0:0≤n) (h1:n≤99999999):hintN n≠manN:=bB (aD h0 h1) bA (show(2:Int)≠3 by decide)
theorem dQ {n:Int} (h0:0≤n) (h1:n≤99999999):hintN n≠tempN:=bB (aD h0 h1) bD (show(2:Int)≠4 by decide)
theorem bR:manN≠tempN:=bB bA bD (by decide)
theorem cR (c n:Nat):(strOfNums (nameL c n)).size=9:=by
 show(strOfNums (nameL c n)).data.size=9
 rw[← Array.length_toList,bj,List.length_map]
 simp [nameL,digs_length]
theorem bS {n:Int} (h0:0≤n) (h1:n≤99999999):(segN n).size=9:=by rw[dH h0 h1];exact cR _ _
theorem cz {n:Int} (h0:0≤n) (h1:n≤99999999):rightN (segN n)=true:=by unfold rightN;rw[bS h0 h1];rfl
theorem bT {n:Int} (h0:0≤n) (h1:n≤99999999):rightN (hintN n)=true:=by unfold rightN;rw[cQ h0 h1,cR];rfl
theorem cA:rightN manN=true:=rfl
theorem bU:rightN tempN=true:=rfl
theorem bN:Ascii manN:=Sg.nameOf_ascii _ _
theorem bE:Ascii tempN:=Sg.nameOf_ascii _ _
end Qd
namespace Qd
open Go.Shelf Go.Maps Fr Ext Dk Mn
open Sg (segN segN_le segN_ascii makeM putF firstB firstB_bytes getSM bodyG)
open Lg
variable {M:DiskM} {c:View} {a n:Nat} {m:Int} {s t:ByteArray} {i:Nat} {b bs:List Int} {k:Int}
theorem bO (c:View) (s:ByteArray) (u v:Option (List Int)):upd (upd c s u) s v=upd c s v:=by
 funext t
 unfold upd
 split
 ·rfl
 ·rfl
theorem ax (k:Int):(putL (firstB k)).length=13:=by
 have h:=Fr.put_len (firstB k)
 rw[sizeI_of _ (by show(1:Int)≤5;decide) (by show(5:Int)≤8192;decide)] at h
 have e:((firstB k).length:Int)=5:=rfl
 omega
theorem ag.make (h:ag M c a n m) (h0:0≤k) (h1:k≤99999999) (hc:c (segN k)=none) (hn:n < 4096) (ha:((a+13:Nat):Int)≤m):(makeM M k).2=0∧ag (makeM M k).1 (upd c (segN k) (some (putL (firstB k)))) (a+13) (n+1) m:=by
 obtain⟨e1,s1⟩:=h.create (segN_ascii k) (cz h0 h1) hc hn
 have hb:=put_bytes _ (firstB_bytes k)
 obtain⟨e2,s2⟩:=s1.append (s:=segN k) hb (af _ _ _) (by rw[ax];exact ha)
 rw[ax,bO,List.nil_append] at s2
 unfold makeM
 rw[if_neg (by rw[bS h0 h1];decide),if_pos e1]
 unfold putF
 rw[if_pos e2]
 exact⟨e2,s2⟩
theorem ag.gone (h:ag M c a n m) (s:ByteArray):(gone1 M s).2=0∧ag (gone1 M s).1 (upd c s none) a n m:=by
 unfold gone1
 cases hc:c s with
 | none=>
  rw[h.isSome,hc,if_neg (by decide)]
  refine⟨rfl,h.view fun t=>?_⟩
  unfold upd
  split
  ·rename_i e;rw[e,hc]
  ·rfl
 | some b=>
  rw[h.isSome,hc,if_pos (by rfl)]
  exact h.remove hc
theorem aa {f:DiskM→DiskM×Int} {l:List (DiskM→DiskM×Int)} (h:(f M).2=0):turnsM (f::l) M=turnsM l (f M).1:=by
 show(if(f M).2=0 then turnsM l (f M).1 else f M)=_
 rw[if_pos h]
theorem ag.save (h:ag M c a n m) {man:ManM} (hr:rightM man=true) (hn:n < 4096) (ha:((a+(Mn.putM man).length:Nat):Int)≤m):(saveM M man).2=0∧ag (saveM M man).1 (upd (upd c tempN none) manN (some (Mn.putM man))) (a+(Mn.putM man).length) (n+1) m:=by
 obtain⟨e1,s1⟩:=h.gone tempN
 obtain⟨e2,s2⟩:=s1.create bE bU (af _ _ _) hn
 obtain⟨e3,s3⟩:=s2.append (s:=tempN) (Mn.putM_bytes man) (af _ _ _) ha
 obtain⟨e4,s4⟩:=s3.sync (s:=tempN) (af _ _ _)
 obtain⟨e5,s5⟩:=s4.rename (s:=tempN) (t:=manN) bN cA (af _ _ _) bR
 obtain⟨e6,s6⟩:=s5.syncDir
 unfold saveM
 rw[if_pos hr]
 rw[aa e1,aa e2,aa e3,aa e4,aa e5,aa e6]
 refine⟨rfl,s6.view fun t=>?_⟩
 unfold upd
 by_cases h1:t=manN
 ·rw[if_pos h1,if_pos h1,List.nil_append]
 ·rw[if_neg h1,if_neg h1]
  by_cases h2:t=tempN
  ·rw[if_pos h2,if_pos h2]
  ·simp only[if_neg h2]
theorem eK (p x q:List Int) (n:Nat) (hn:n≤x.length):cutL (p++x++q) (p.length:Int) (n:Int)=x.take n:=by
 unfold cutL
 rw[show((p.length:Int)+(n:Int)).toNat=p.length+n from by omega,Int.toNat_natCast,List.append_assoc,List.take_append,List.drop_append]
 rw[show p.length+n - p.length=n from by omega,List.take_of_length_le (by omega),List.drop_of_length_le (Nat.le_refl _),Nat.sub_self,List.drop_zero,List.nil_append,List.take_append,show n - x.length=0 from by omega,List.take_zero,List.append_nil]
theorem ag.en (h:ag M c a n m) (p x q:List Int) (hc:c s=some (p++x++q)) (j:Nat) (hj:j≤x.length):readM M s (p.length:Int) (j:Int)=(x.take j,0):=by
 rw[h.read hc,if_pos,eK p x q j hj]
 unfold partB
 simp only[List.length_append,Bool.and_eq_true,decide_eq_true_eq]
 omega
end Qd
namespace Qd
open Go.Shelf Go.Maps Fr Ext Dk Mn
open Sg (segN segN_le segN_ascii makeM putF firstB firstB_bytes getSM bodyG allSM)
open Lg
variable {M:DiskM} {S:LogS} {c:View} {a n:Nat} {m:Int} {s t:ByteArray} {b bs:List Int} {k:Int}
def Names (c:View) (next:Int):Prop:=∀s,c s≠none→s=manN∨∃k,0≤k∧k < next∧(s=segN k∨s=hintN k)
theorem cT {zs:List Int} {x:Int} (h:x∈Lib.compact zs):x∈zs:=by
 unfold Lib.compact Lib.compactUpTo at h
 obtain⟨i,hi,rfl⟩:=List.mem_map.1 h
 have h1:=List.mem_range.1 (List.mem_filter.1 hi).1
 rw[getElem!_pos zs.toArray i (by simpa using h1)]
 simp
theorem cU {L:List ByteArray} {x:Int} (h:x∈segsL L):∃s∈L,(parseM s).2.2=true∧(parseM s).1=1∧(parseM s).2.1=x:=by
 unfold segsL at h
 have h1:=(Sh.isort_perm _ _).mem_iff.1 (cT h)
 unfold segL at h1
 obtain⟨s,hs,e⟩:=List.mem_map.1 h1
 obtain⟨h2,h3⟩:=List.mem_filter.1 hs
 unfold isSeg at h3
 rw[Bool.and_eq_true] at h3
 exact⟨s,h2,h3.1,eq_of_beq h3.2,e⟩
theorem ag.next (h:ag M c a n m) (hn:Names c S.man.next) (h9:S.man.next≤100000000):nextM M S=S.man.next:=by
 unfold nextM
 cases hl:(segsL (namesM M)).getLast? with
 | none=>rfl
 | some z=>
  obtain⟨s,hs,p1,p2,p3⟩:=cU (List.mem_of_getLast? hl)
  have h1:=h.quiet.fit.mem.1 (names_mem hs)
  rw[show(⟨s.data.toList.toArray⟩:ByteArray)=s from rfl,h.isSome] at h1
  have h2:c s≠none:=fun e=>by rw[e] at h1;cases h1
  have h3:0≤z∧z < S.man.next:=by
   rcases hn s h2 with rfl | ⟨k,k0,k1,rfl | rfl⟩
   ·rw[bA] at p2;exact absurd p2 (by decide)
   ·rw[aw k0 (by omega)] at p3
    have e:k=z:=p3
    omega
   ·rw[aD k0 (by omega)] at p2;exact absurd (show(2:Int)=1 from p2) (by decide)
  have h4:wrap64 (z+1)=z+1:=by unfold wrap64;omega
  show max S.man.next (wrap64 (z+1))=S.man.next
  rw[h4]
  omega
def cG (b:List Int) (k:Int):List Sg.Fo:=if Sg.headOk (Sg.itemsM b) k=true then Sg.foundsL (Sg.itemsM b).tail else []
def aZ (b:List Int) (k:Int):List Int:=Hu.putAll (Hn.ofL (cG b k)) (b.length:Int)
theorem ag.whole (h:ag M c a n m) (hc:c s=some b):readM M s 0 (Dk.sizeM M s)=(b,0):=by
 have e:Dk.sizeM M s=(b.length:Int):=by rw[h.sizeM,hc];rfl
 have h1:=h.en (s:=s) [] b [] (by rw[hc];simp) b.length (Nat.le_refl _)
 rw[List.take_of_length_le (Nat.le_refl _)] at h1
 rw[e]
 exact h1
theorem ag.all (h:ag M c a n m) (hc:c (segN k)=some b):(allSM M k).1=cG b k:=by
 unfold allSM cG
 rw[h.whole hc]
 dsimp only
 rw[if_pos rfl]
 split
 ·rfl
 ·rfl
theorem ag.hintB (h:ag M c a n m) (hc:c (segN k)=some b):Lg.hintB M k=aZ b k:=by
 unfold Lg.hintB aZ
 rw[h.all hc,show Dk.sizeM M (segN k)=(b.length:Int) by rw[h.sizeM,hc];rfl]
theorem cB (b:List Int) (k:Int) (hB:IsBytes b):(aZ b k).length≤9*b.length+21:=by
 have h1:=putAll_len (Hn.ofL (cG b k)) (b.length:Int)
 have h2:=ofGo_len (cG b k) []
 have h3:9*(cG b k).length≤b.length:=by
  unfold cG
  split
  ·have h4:=scan_nine b hB (b.length+1) 0 0 [] (by simp) (Nat.zero_le _)
   have h5:=Sg.founds_le (Sg.itemsM b).tail
   rw[List.length_tail] at h5
   have h6:(Sg.itemsM b).length=(Pure.scanGo (b.length+1) b 0 0 []).1.length:=List.length_map _
   omega
  ·simp
 have h7:(Hn.ofL (cG b k)).length≤(cG b k).length:=h2
 unfold aZ
 omega
theorem ag.hint (h:ag M c a n m) (k0:0≤k) (k1:k≤99999999) (hc:c (segN k)=some b) (hh:c (hintN k)=none) (hn:n < 4096) (ha:((a+(aZ b k).length:Nat):Int)≤m):ag (Lg.hintM M k) (upd c (hintN k) (some (aZ b k))) (a+(aZ b k).length) (n+1) m:=by
 have hB:=(hintB_fit h.quiet.fit k).1
 rw[h.hintB hc] at hB
 obtain⟨e1,s1⟩:=h.create (hintN_ascii k) (bT k0 k1) hh hn
 obtain⟨e2,s2⟩:=s1.append (s:=hintN k) hB (af _ _ _) ha
 obtain⟨e3,s3⟩:=s2.sync (s:=hintN k) (af _ _ _)
 unfold Lg.hintM
 rw[h.hintB hc]
 unfold hintSteps
 rw[aa e1,aa e2,aa e3,]
 rw[bO,List.nil_append] at s3
 exact s3
theorem aG:∀(l:List Int) (x n:Int),risesB x (l++[n])=true→n+1≤99999999→risesB x (l++[n]++[n+1])=true
 | [],x,n,h,h1=>by
  simp only[List.nil_append,List.cons_append] at h ⊢
  unfold risesB at h ⊢
  split at h
  ·cases h
  rename_i h2
  split at h
  ·cases h
  rename_i h3
  rw[if_neg h2,if_neg h3]
  unfold risesB
  rw[if_neg (by omega),if_neg (by omega)]
  rfl
 | y::l,x,n,h,h1=>by
  simp only[List.cons_append] at h ⊢
  unfold risesB at h ⊢
  split at h
  ·cases h
  rename_i h2
  split at h
  ·cases h
  rename_i h3
  rw[if_neg h2,if_neg h3]
  have:=aG l y n h h1
  simpa only[List.append_assoc] using this
theorem aU:∀(l:List Int) (x n:Int),risesB x (l++[n])=true→∀k∈l,x < k∧k < n
 | [],_,_,_,k,hk=>by cases hk
 | y::l,x,n,h,k,hk=>by
  simp only[List.cons_append] at h
  unfold risesB at h
  split at h
  ·cases h
  rename_i h2
  split at h
  ·cases h
  have hy:y < n:=by
   cases l with
   | nil=>
    simp only[List.nil_append] at h
    unfold risesB at h
    split at h
    ·cases h
    omega
   | cons z l=>
    have h4:=aU (z::l) y n h z (by simp)
    omega
  rcases List.mem_cons.1 hk with rfl | hk
  ·omega
  ·have h5:=aU l y n h k hk
   omega
theorem putM_len (man:ManM):(Mn.putM man).length≤4*man.segs.length+15:=by
 unfold Mn.putM
 split
 ·have h:=Fr.put_len (bodyM man)
  have e:(bodyM man).length=4*man.segs.length+7:=by
   unfold bodyM
   simp only[List.length_cons,List.length_append,numsM_length,be4,List.length_nil]
   omega
  by_cases h8:(bodyM man).length≤8192
  ·rw[sizeI_of _ (by omega) (by omega)] at h
   omega
  ·rw[sizeI_no _ (by omega)] at h
   omega
 ·simp
structure LV (M:DiskM) (S:LogS) (c:View) (a n:Nat) (m:Int):Prop where
 sees:ag M c a n m
 names:Names c S.man.next
 rises:risesB (-1) (S.man.segs++[S.man.next])=true
 last:(S.man.segs=[]∧S.last=-1)∨∃p,S.man.segs=p++[S.last]
 segs:∀k∈S.man.segs,∃b,c (segN k)=some b
 open_:0≤S.last→c (hintN S.last)=none
def bp (c:View) (S:LogS):View:=
 if 0≤S.last then upd (upd (upd c (segN S.man.next) (some (putL (firstB S.man.next)))) manN (some (Mn.putM (rollMan S S.man.next)))) (hintN S.last) (some (aZ ((c (segN S.last)).getD []) S.last))
 else upd (upd c (segN S.man.next) (some (putL (firstB S.man.next)))) manN (some (Mn.putM (rollMan S S.man.next)))
def aN (S:LogS):LogS:={S with man:=rollMan S S.man.next,last:=S.man.next}
theorem LV.aH (h:LV M S c a n m):0≤S.man.next∧S.man.next≤99999999:=by
 have:∀(l:List Int) (x n:Int),risesB x (l++[n])=true→x < n∧n≤99999999:=by
  intro l
  induction l with
  | nil=>
   intro x n h
   simp only[List.nil_append] at h
   unfold risesB at h
   split at h
   ·cases h
   split at h
   ·cases h
   omega
  | cons y l ih=>
   intro x n h
   simp only[List.cons_append] at h
   unfold risesB at h
   split at h
   ·cases h
   split at h
   ·cases h
   have:=ih y n h
   omega
 have:=this _ _ _ h.rises
 omega
theorem LV.aV (h:LV M S c a n m) (h0:0≤S.last):S.last∈S.man.segs:=by
 rcases h.last with⟨_,e⟩ | ⟨p,e⟩
 ·omega
 ·rw[e];simp
theorem LV.bC (h:LV M S c a n m):-1≤S.last∧S.last < S.man.next:=by
 have h1:=h.aH
 rcases h.last with⟨_,e⟩ | ⟨p,e⟩
 ·omega
 ·have:=aU _ _ _ h.rises S.last (by rw[e];simp)
  omega
theorem LV.fresh (h:LV M S c a n m):c (segN S.man.next)=none:=by
 cases hc:c (segN S.man.next) with
 | none=>rfl
 | some b=>
  have h1:=h.aH
  rcases h.names (segN S.man.next) (by rw[hc];exact fun e=>by cases e) with e | ⟨k,k0,k1,e | e⟩
  ·exact absurd e (az h1.1 h1.2)
  ·rw[aM h1.1 h1.2 k0 (by omega)] at e;omega
  ·exact absurd e (aj h1.1 h1.2 k0 (by omega))
theorem LV.fK (h:LV M S c a n m):c tempN=none:=by
 cases hc:c tempN with
 | none=>rfl
 | some b=>
  have h1:=h.aH
  rcases h.names tempN (by rw[hc];exact fun e=>by cases e) with e | ⟨k,k0,k1,e | e⟩
  ·exact absurd e.symm bR
  ·exact absurd e.symm (aT k0 (by omega))
  ·exact absurd e.symm (dQ k0 (by omega))
theorem LV.cC (h:LV M S c a n m):c (hintN S.man.next)=none:=by
 cases hc:c (hintN S.man.next) with
 | none=>rfl
 | some b=>
  have h1:=h.aH
  rcases h.names (hintN S.man.next) (by rw[hc];exact fun e=>by cases e) with e | ⟨k,k0,k1,e | e⟩
  ·exact absurd e (bn h1.1 h1.2)
  ·exact absurd e.symm (aj k0 (by omega) h1.1 h1.2)
  ·rw[bM h1.1 h1.2 k0 (by omega)] at e;omega
theorem LV.dR (h:LV M S c a n m) {z:Nat} (hz:∀b,c (segN S.last)=some b→b.length≤z) (hs:S.man.segs.length < 1000) (h9:S.man.next < 99999999) (hn:n+3≤4096) (ha:((a+13+(4*S.man.segs.length+19)+(9*z+21):Nat):Int)≤m):
  ∃M',rollM M S=(M',aN S,0)∧LV M' (aN S) (bp c S) (a+13+(4*S.man.segs.length+19)+(9*z+21)) (n+3) m:=by
 have hnx:=h.aH
 have hll:=h.bC
 have hsy:∃M1,logSync M S=(M1,0)∧ag M1 c a n m:=by
  unfold logSync
  by_cases h0:S.last < 0
  ·rw[if_pos h0];exact⟨M,rfl,h.sees⟩
  ·rw[if_neg h0]
   obtain⟨b,hb⟩:=h.segs _ (h.aV (by omega))
   obtain⟨e1,s1⟩:=h.sees.sync hb
   exact⟨(syncM M (segN S.last)).1,Prod.ext rfl e1,s1⟩
 obtain⟨M1,iR,s1⟩:=hsy
 have gM:=s1.next h.names (by omega)
 have hr2:rightM (rollMan S S.man.next)=true:=by
  unfold rightM rollMan
  have e1:wrap64 (S.man.next+1)=S.man.next+1:=by unfold wrap64;omega
  rw[e1,aG _ _ _ h.rises (by omega)]
  simp
  omega
 have e1:wrap64 (S.man.next+1)=S.man.next+1:=by unfold wrap64;omega
 have iT:=putM_len (rollMan S S.man.next)
 have gN:(rollMan S S.man.next).segs.length=S.man.segs.length+1:=by simp [rollMan]
 obtain⟨g2,s2⟩:=s1.make hnx.1 hnx.2 h.fresh (by omega) (by omega)
 obtain⟨g3,s3⟩:=s2.save hr2 (by omega) (by omega)
 have hv:upd (upd c (segN S.man.next) (some (putL (firstB S.man.next)))) tempN none=upd c (segN S.man.next) (some (putL (firstB S.man.next))):=by
  funext t
  unfold upd
  by_cases h1:t=tempN
  ·rw[if_pos h1,if_neg (fun e=>aT hnx.1 hnx.2 (e.symm.trans h1)),h1,h.fK]
  ·rw[if_neg h1]
 rw[hv] at s3
 have fL:∀(c':View),(∀s,c' s≠none→c s≠none∨s=manN∨s=segN S.man.next∨(0≤S.last∧s=hintN S.last))→Names c' (aN S).man.next:=by
  intro c' hc' s hs'
  show s=manN∨∃k,0≤k∧k < wrap64 (S.man.next+1)∧_
  rw[e1]
  rcases hc' s hs' with h1 | h1 | h1 | ⟨h1,h2⟩
  ·rcases h.names s h1 with h2 | ⟨k,k0,k1,h2⟩
   ·exact .inl h2
   ·exact .inr ⟨k,k0,by omega,h2⟩
  ·exact .inl h1
  ·exact .inr ⟨S.man.next,hnx.1,by omega,.inl h1⟩
  ·exact .inr ⟨S.last,h1,by omega,.inr h2⟩
 have eo:risesB (-1) ((aN S).man.segs++[(aN S).man.next])=true:=by
  show risesB (-1) ((S.man.segs++[S.man.next])++[wrap64 (S.man.next+1)])=true
  rw[e1]
  exact aG _ _ _ h.rises (by omega)
 have fM:turnsM (rollSteps S.man.next (rollMan S S.man.next)) M1=((saveM (makeM M1 S.man.next).1 (rollMan S S.man.next)).1,0):=by
  unfold rollSteps
  rw[aa g2,aa g3]
  rfl
 have fN:rollM M S=rollEnd M1 S S.man.next ((saveM (makeM M1 S.man.next).1 (rollMan S S.man.next)).1,0):=by
  unfold rollM
  rw[iR]
  dsimp only
  rw[if_pos rfl,gM]
  unfold rollN
  rw[if_neg (by omega),if_neg (by omega),fM]
 rw[fN]
 unfold rollEnd
 dsimp only
 rw[if_pos rfl]
 have hlk:∀t,t≠segN S.man.next→t≠manN→upd (upd c (segN S.man.next) (some (putL (firstB S.man.next)))) manN (some (Mn.putM (rollMan S S.man.next))) t=c t:=fun t h1 h2=>by rw[upd_ne _ _ h2,upd_ne _ _ h1]
 have hsn:upd (upd c (segN S.man.next) (some (putL (firstB S.man.next)))) manN (some (Mn.putM (rollMan S S.man.next))) (segN S.man.next)=some (putL (firstB S.man.next)):=by
  rw[upd_ne _ _ (az hnx.1 hnx.2),af]
 have eY:∀k∈(aN S).man.segs,∃b,upd (upd c (segN S.man.next) (some (putL (firstB S.man.next)))) manN (some (Mn.putM (rollMan S S.man.next))) (segN k)=some b:=by
  intro k hk
  rcases List.mem_append.1 (show k∈S.man.segs++[S.man.next] from hk) with hk | hk
  ·obtain⟨b,hb⟩:=h.segs k hk
   have hkl:=aU _ _ _ h.rises k hk
   refine⟨b,?_⟩
   rw[hlk _ (fun e=>by rw[aM (by omega) (by omega) hnx.1 hnx.2] at e;omega) (az (by omega) (by omega))]
   exact hb
  ·rw[List.mem_singleton.1 hk]
   exact⟨_,hsn⟩
 by_cases h0:0≤S.last
 ·rw[if_pos h0]
  obtain⟨b,hb⟩:=h.segs _ (h.aV h0)
  have hb3:upd (upd c (segN S.man.next) (some (putL (firstB S.man.next)))) manN (some (Mn.putM (rollMan S S.man.next))) (segN S.last)=some b:=by
   rw[hlk _ (fun e=>by rw[aM h0 (by omega) hnx.1 hnx.2] at e;omega) (az h0 (by omega))]
   exact hb
  have gO:upd (upd c (segN S.man.next) (some (putL (firstB S.man.next)))) manN (some (Mn.putM (rollMan S S.man.next))) (hintN S.last)=none:=by
   rw[hlk _ (fun e=>aj hnx.1 hnx.2 h0 (by omega) e.symm) (bn h0 (by omega))]
   exact h.open_ h0
  have hbz:=hz b hb
  have iU:=cB b S.last (h.sees.bytes hb)
  have s4:=s3.hint h0 (by omega) hb3 gO (by omega) (by omega)
  have ec:bp c S=upd (upd (upd c (segN S.man.next) (some (putL (firstB S.man.next)))) manN (some (Mn.putM (rollMan S S.man.next)))) (hintN S.last) (some (aZ b S.last)):=by
   unfold bp
   rw[if_pos h0,hb]
   rfl
  refine⟨_,rfl,?_⟩
  rw[ec]
  refine⟨s4.aQ (by omega) (by omega),fL _ (fun s hs'=>?_),eo,.inr ⟨S.man.segs,rfl⟩,fun k hk=>?_,fun _=>?_⟩
  ·by_cases h1:s=hintN S.last
   ·exact .inr (.inr (.inr ⟨h0,h1⟩))
   ·rw[upd_ne _ _ h1] at hs'
    by_cases h2:s=manN
    ·exact .inr (.inl h2)
    ·rw[upd_ne _ _ h2] at hs'
     by_cases h3:s=segN S.man.next
     ·exact .inr (.inr (.inl h3))
     ·rw[upd_ne _ _ h3] at hs'
      exact .inl hs'
  ·obtain⟨b',hb'⟩:=eY k hk
   refine⟨b',?_⟩
   have hkl:-1 < k∧k≤S.man.next:=by
    rcases List.mem_append.1 (show k∈S.man.segs++[S.man.next] from hk) with hk | hk
    ·have:=aU _ _ _ h.rises k hk;omega
    ·rw[List.mem_singleton.1 hk];omega
   rw[upd_ne _ _ (aj (by omega) (by omega) h0 (by omega))]
   exact hb'
  ·show upd _ _ _ (hintN S.man.next)=none
   rw[upd_ne _ _ (fun e=>by rw[bM hnx.1 hnx.2 h0 (by omega)] at e;omega),hlk _ (fun e=>aj hnx.1 hnx.2 hnx.1 hnx.2 e.symm) (bn hnx.1 hnx.2)]
   exact h.cC
 ·rw[if_neg h0]
  have ec:bp c S=upd (upd c (segN S.man.next) (some (putL (firstB S.man.next)))) manN (some (Mn.putM (rollMan S S.man.next))):=by
   unfold bp
   rw[if_neg h0]
  refine⟨_,rfl,?_⟩
  rw[ec]
  refine⟨s3.aQ (by omega) (by omega),fL _ (fun s hs'=>?_),eo,.inr ⟨S.man.segs,rfl⟩,eY,fun _=>?_⟩
  ·by_cases h2:s=manN
   ·exact .inr (.inl h2)
   ·rw[upd_ne _ _ h2] at hs'
    by_cases h3:s=segN S.man.next
    ·exact .inr (.inr (.inl h3))
    ·rw[upd_ne _ _ h3] at hs'
     exact .inl hs'
  ·show upd _ _ _ (hintN S.man.next)=none
   rw[hlk _ (fun e=>aj hnx.1 hnx.2 hnx.1 hnx.2 e.symm) (bn hnx.1 hnx.2)]
   exact h.cC
theorem LV.end_ (h:LV M S c a n m) {R:Rc.Re} (h0:0≤S.last) (hc:c (segN S.last)=some b) (hr:Rc.rightM R=true) (h6:IsBytes R.f6) (ha:((a+(putL (Rc.putM R)).length:Nat):Int)≤m):
  ∃M',addEnd M S R=(M',S,S.last,(b.length:Int),((putL (Rc.putM R)).length:Int),0)∧LV M' S (upd c (segN S.last) (some (b++putL (Rc.putM R)))) (a+(putL (Rc.putM R)).length) n m:=by
 have hB:=put_bytes _ (La.putM_isBytes R h6)
 have hll:=h.bC
 have hnx:=h.aH
 have hpl:=Rc.put_len R
 have iV:(Rc.putM R).length≠0:=fun e=>by rw[Rc.put_nil.1 e] at hr;cases hr
 have hfl:=Fr.put_len (Rc.putM R)
 rw[sizeI_of _ (by omega) (by omega)] at hfl
 obtain⟨e1,s1⟩:=h.sees.append hB hc ha
 have hz:Dk.sizeM M (segN S.last)=(b.length:Int):=by rw[h.sees.sizeM,hc];rfl
 have e2:Sg.addM M S.last R=((appendM M (segN S.last) (putL (Rc.putM R))).1,(b.length:Int),((putL (Rc.putM R)).length:Int),0):=by
  unfold Sg.addM
  rw[if_neg (by omega),if_pos e1,hz]
 refine⟨_,?_,s1,?_,h.rises,h.last,?_,?_⟩
 ·unfold addEnd
  rw[e2]
  dsimp only
  rw[if_pos rfl]
 ·intro s hs
  by_cases h1:s=segN S.last
  ·exact .inr ⟨S.last,h0,by omega,.inl h1⟩
  ·rw[upd_ne _ _ h1] at hs
   exact h.names s hs
 ·intro k hk
  by_cases h1:segN k=segN S.last
  ·rw[h1,af];exact⟨_,rfl⟩
  ·rw[upd_ne _ _ h1];exact h.segs k hk
 ·intro _
  rw[upd_ne _ _ (fun e=>aj h0 (by omega) h0 (by omega) e.symm)]
  exact h.open_ h0
theorem LV.new {x:Int} (limit:Int):LV (newM x) ⟨limit,⟨[],1⟩,-1⟩ (fun _=>none) 0 0 (newM x).d.most:=
 ⟨ag.new x,fun s hs=>absurd rfl hs,rfl,.inl ⟨rfl,rfl⟩,fun k hk=>(by cases hk),fun h=>(by have h':(0:Int)≤-1:=h;omega)⟩
end Qd
namespace Lg
open Go.Maps Go.Shelf Fr Ext Dk Mn
open Sg (segN segN_le segN_ascii)
open Rc (Norm Norm.intro Norm.elim)
variable {w w' w1:World} {B l g N:Nat} {M M':DiskM} {F F' G:Nat→Prop} {S S':LogS}
def ep (S:LogS) (n:Int):Bool:=n==S.last || !(S.man.segs.contains n)
def aW (S:LogS) (segs:List Int):ManM:=⟨S.man.segs.filter fun n=>!segs.contains n,S.man.next⟩
def dropsM (segs:List Int):List Int→DiskM→DiskM
 | [],M=>M
 | n::r,M=>dropsM segs r (if segs.contains n=true then removesM [segN n,hintN n] M else M)
def dI (M:DiskM) (S:LogS) (segs:List Int):DiskM×LogS×Int:=
 if segs.any (ep S)=true then(M,S,1)
 else if(saveM M (aW S segs)).2=0 then(dropsM segs S.man.segs (saveM M (aW S segs)).1,{S with man:=aW S segs},0)
 else((saveM M (aW S segs)).1,S,(saveM M (aW S segs)).2)
end Lg
namespace Th
open Go.Shelf Go.Maps Fr Ext Dk Mn Qd
open Sg (segN segN_le segN_ascii makeM putF firstB firstB_bytes getSM)
open Lg
open Rc (Re)
variable {M M1 M2:DiskM} {S:LogS} {s t:ByteArray} {b bs:List Int} {k:Int} {X Y:ByteArray→Prop}
structure Calm (M:DiskM):Prop where
 fit:Fit M
 inj:∀s t i,Dk.look M.D s=some i→Dk.look M.D t=some i→s=t
 ci:M.d.ci=false
 down:M.d.down=false
def ai (X:ByteArray→Prop) (M M':DiskM):Prop:=Calm M'∧∀t,¬X t→aC M' t=aC M t
theorem ai.refl (h:Calm M):ai X M M:=⟨h,fun _ _=>rfl⟩
theorem ai.trans (h1:ai X M M1) (h2:ai X M1 M2):ai X M M2:=⟨h2.1,fun t ht=>(h2.2 t ht).trans (h1.2 t ht)⟩
theorem ai.aQ (h:ai X M M1) (hx:∀t,X t→Y t):ai Y M M1:=⟨h.1,fun t ht=>h.2 t (fun hh=>ht (hx t hh))⟩
def aI (M:DiskM):DiskM:={M with d:={M.d with fi:=false}}
theorem Calm.quiet (h:Calm M):Qd.Quiet (aI M):=⟨h.fit.nums rfl,h.inj,rfl,h.ci,h.down⟩
theorem Calm.sees (h:Calm M):ag (aI M) (aC M) (tot M) M.fs.length M.d.most:=⟨h.quiet,rfl,Nat.le_refl _,Nat.le_refl _,rfl⟩
theorem Calm.thingN (h:Calm M):(thingN M.d).ci=false∧(thingN M.d).down=false∧(thingN M.d).most=M.d.most:=by
 unfold Dk.thingN nowB
 rw[h.ci,Bool.false_and,if_neg (by decide)]
 split
 ·exact⟨rfl,h.down,rfl⟩
 ·exact⟨rfl,h.down,rfl⟩
theorem Calm.nums (h:Calm M):Calm {M with d:=Dk.thingN M.d}:=⟨h.fit.thing,h.inj,h.thingN.1,h.thingN.2.1⟩
theorem Calm.thing (h:Calm M):ai X M {M with d:=Dk.thingN M.d}:=⟨h.nums,fun _ _=>rfl⟩
theorem Calm.fail (h:Calm M) (fi:Bool) (fn:Int):ai X M {M with d:={M.d with fi:=fi,fn:=fn}}:=⟨⟨h.fit.nums rfl,h.inj,h.ci,h.down⟩,fun _ _=>rfl⟩
theorem cV {i:Nat} (h:Dk.look M.D s=some i):aC M s=some (M.fs.getD i ⟨[],0,0⟩).b:=by unfold aC;rw[h];rfl
theorem cH (h:Calm M) {i:Nat} (hi:Dk.look M.D s=some i) (f:FileM) (d:Nums) (t:ByteArray):aC {M with d:=d,fs:=M.fs.set i f} t=if t=s then some f.b else aC M t:=by
 have hil:=h.fit.inD hi
 show(Dk.look M.D t).map (fun j=>((M.fs.set i f).getD j ⟨[],0,0⟩).b)=_
 by_cases bQ:t=s
 ·subst bQ
  rw[if_pos rfl,hi,Option.map_some,bh _ _ _ _ hil,if_pos rfl]
 ·rw[if_neg bQ]
  unfold aC
  cases hl:Dk.look M.D t with
  | none=>rfl
  | some j=>
   have hji:j≠i:=fun e=>bQ (h.inj _ _ _ hl (e ▸ hi))
   rw[Option.map_some,Option.map_some,bh _ _ _ _ hil,if_neg hji]
theorem Calm.sync (h:Calm M) (s:ByteArray):ai X M (syncM M s).1:=by
 have hf:=h.fit.sync s
 unfold syncM at hf ⊢
 rw[h.down,if_neg (by decide)] at hf ⊢
 cases hl:Dk.look M.D s with
 | none=>exact ai.refl h
 | some i=>
  rw[hl] at hf
  dsimp only at hf ⊢
  split
  ·rename_i ht
   rw[if_pos ht] at hf
   refine⟨⟨hf,h.inj,h.thingN.1,h.thingN.2.1⟩,fun t _=>?_⟩
   rw[cH h hl]
   split
   ·rename_i e;rw[e,cV hl]
   ·rfl
  ·exact h.thing
theorem Calm.append (h:Calm M) (s:ByteArray) (bs:List Int) (hb:IsBytes bs):ai (·=s) M (appendM M s bs).1∧((appendM M s bs).2=0→∃b,aC M s=some b∧aC (appendM M s bs).1 s=some (b++bs))∧((appendM M s bs).2≠0→aC (appendM M s bs).1 s=aC M s):=by
 have hf:=h.fit.append s bs hb
 unfold appendM at hf ⊢
 rw[h.down,if_neg (by decide)] at hf ⊢
 cases hl:Dk.look M.D s with
 | none=>exact⟨ai.refl h,fun e=>absurd e (show(3:Int)≠0 by decide),fun _=>rfl⟩
 | some i=>
  rw[hl] at hf
  dsimp only at hf ⊢
  split
  ·exact⟨ai.refl h,fun e=>absurd e (show(5:Int)≠0 by decide),fun _=>rfl⟩
  rename_i hroom
  rw[if_neg hroom] at hf
  split
  ·rename_i ht
   rw[if_pos ht] at hf
   refine⟨⟨⟨hf,h.inj,h.thingN.1,h.thingN.2.1⟩,fun t bQ=>?_⟩,fun _=>⟨_,cV hl,?_⟩,fun e=>absurd rfl e⟩
   ·rw[cH h hl,if_neg bQ]
   ·rw[cH h hl,if_pos rfl]
  ·rename_i ht
   exact⟨h.thing,fun e=>absurd e ht,fun _=>rfl⟩
theorem bH {M:DiskM} (h:Fit M) {f:FileM} {t:ByteArray}:(Dk.look M.D t).map (fun j=>((M.fs++[f]).getD j ⟨[],0,0⟩).b)=aC M t:=by
 unfold aC
 cases hl:Dk.look M.D t with
 | none=>rfl
 | some j=>
  have:=h.inD hl
  rw[Option.map_some,Option.map_some,bw,if_neg (by omega)]
theorem Calm.create (h:Calm M) (s:ByteArray) (ha:Ascii s):ai (·=s) M (createM M s).1∧((createM M s).2=0→aC M s=none∧aC (createM M s).1 s=some [])∧((createM M s).2≠0→aC (createM M s).1 s=aC M s):=by
 have hf:=h.fit.create s ha
 unfold createM at hf ⊢
 rw[h.down,if_neg (by decide)] at hf ⊢
 split
 ·exact⟨ai.refl h,fun e=>absurd e (show(1:Int)≠0 by decide),fun _=>rfl⟩
 rename_i hr
 rw[if_neg hr] at hf
 split
 ·exact⟨ai.refl h,fun e=>absurd e (show(4:Int)≠0 by decide),fun _=>rfl⟩
 rename_i hn
 rw[if_neg hn] at hf
 split
 ·exact⟨ai.refl h,fun e=>absurd e (show(2:Int)≠0 by decide),fun _=>rfl⟩
 rename_i hz
 rw[if_neg hz] at hf
 have hl:Dk.look M.D s=none:=by cases hl:Dk.look M.D s with
  | none=>rfl
  | some i=>rw[hl] at hn;exact absurd rfl hn
 have hlk:∀t,Dk.look (M.D.put (keyN s) (.held M.fs.length)) t=if t=s then some M.fs.length else Dk.look M.D t:=fun t=>look_put (isMap h.fit) s t _
 split
 ·rename_i ht
  rw[if_pos ht] at hf
  refine⟨⟨⟨hf,fun u v j hu hv=>?_,h.thingN.1,h.thingN.2.1⟩,fun t bQ=>?_⟩,fun _=>⟨cO.2 hl,?_⟩,fun e=>absurd rfl e⟩
  ·have aR:Dk.look (M.D.put (keyN s) (.held M.fs.length)) u=some j:=hu
   have hv':Dk.look (M.D.put (keyN s) (.held M.fs.length)) v=some j:=hv
   rw[hlk] at aR hv'
   by_cases h1:u=s
   ·by_cases h2:v=s
    ·rw[h1,h2]
    ·rw[if_pos h1] at aR
     rw[if_neg h2] at hv'
     have:=h.fit.inD hv'
     have:=Option.some.inj aR
     omega
   ·by_cases h2:v=s
    ·rw[if_neg h1] at aR
     rw[if_pos h2] at hv'
     have:=h.fit.inD aR
     have:=Option.some.inj hv'
     omega
    ·rw[if_neg h1] at aR
     rw[if_neg h2] at hv'
     exact h.inj _ _ _ aR hv'
  ·show(Dk.look (M.D.put (keyN s) (.held M.fs.length)) t).map (fun j=>((M.fs++[(⟨[],0,M.d.made⟩:FileM)]).getD j ⟨[],0,0⟩).b)=_
   rw[hlk,if_neg bQ]
   exact bH h.fit
  ·show(Dk.look (M.D.put (keyN s) (.held M.fs.length)) s).map (fun j=>((M.fs++[(⟨[],0,M.d.made⟩:FileM)]).getD j ⟨[],0,0⟩).b)=_
   rw[hlk,if_pos rfl,Option.map_some,bw,if_pos rfl]
 ·rename_i ht
  rw[if_neg ht] at hf
  refine⟨⟨⟨hf,h.inj,h.thingN.1,h.thingN.2.1⟩,fun t _=>bH h.fit⟩,fun e=>absurd e ht,fun _=>bH h.fit⟩
theorem Calm.del (h:Calm M) (s:ByteArray):ai (·=s) M {M with d:=Dk.thingN M.d,D:=M.D.del (keyN s)}:=by
 have hlk:∀u,Dk.look (M.D.del (keyN s)) u=if u=s then none else Dk.look M.D u:=fun u=>look_del M.D s u
 refine⟨⟨Fit.nums (M:={M with D:=M.D.del (keyN s)}) (h.fit.del s) (thingN_most _),fun u v j hu hv=>?_,h.thingN.1,h.thingN.2.1⟩,fun t bQ=>?_⟩
 ·have aR:Dk.look (M.D.del (keyN s)) u=some j:=hu
  have hv':Dk.look (M.D.del (keyN s)) v=some j:=hv
  rw[hlk] at aR hv'
  split at aR
  ·cases aR
  split at hv'
  ·cases hv'
  exact h.inj _ _ _ aR hv'
 ·show(Dk.look (M.D.del (keyN s)) t).map _=_
  rw[hlk,if_neg bQ]
  rfl
theorem Calm.remove (h:Calm M) (s:ByteArray):ai (·=s) M (removeM M s).1:=by
 unfold removeM
 rw[h.down,if_neg (by decide)]
 split
 ·exact ai.refl h
 split
 ·exact h.del s
 ·exact h.thing
theorem Calm.rename (h:Calm M) (s t:ByteArray) (ht:Ascii t):ai (fun u=>u=s∨u=t) M (renameM M s t).1:=by
 have hf:=h.fit.rename s t ht
 unfold renameM at hf ⊢
 rw[h.down,if_neg (by decide)] at hf ⊢
 split
 ·exact ai.refl h
 rename_i h1
 rw[if_neg h1] at hf
 split
 ·exact ai.refl h
 rename_i h2
 rw[if_neg h2] at hf
 split
 ·exact ai.refl h
 rename_i h3
 rw[if_neg h3] at hf
 split
 ·rename_i h4
  rw[if_pos h4] at hf
  unfold moveD at hf ⊢
  cases hl:Dk.look M.D s with
  | none=>rw[hl] at h1;exact absurd rfl h1
  | some i=>
   rw[hl] at hf
   dsimp only at hf ⊢
   have hlk:∀u,Dk.look ((M.D.del (keyN s)).put (keyN t) (.held i)) u=if u=t then some i else if u=s then none else Dk.look M.D u:=fun u=>by
    rw[look_put (isMap (h.fit.del s)) t u i,look_del]
   refine⟨⟨hf,fun u v j hu hv=>?_,h.thingN.1,h.thingN.2.1⟩,fun u hu=>?_⟩
   ·have aR:Dk.look ((M.D.del (keyN s)).put (keyN t) (.held i)) u=some j:=hu
    have hv':Dk.look ((M.D.del (keyN s)).put (keyN t) (.held i)) v=some j:=hv
    rw[hlk] at aR hv'
    by_cases k1:u=t
    ·rw[if_pos k1] at aR
     by_cases k2:v=t
     ·rw[k1,k2]
     ·rw[if_neg k2] at hv'
      split at hv'
      ·cases hv'
      rename_i k3
      exact absurd (h.inj _ _ _ hv' (aR ▸ hl)) k3
    ·rw[if_neg k1] at aR
     split at aR
     ·cases aR
     rename_i k3
     by_cases k2:v=t
     ·rw[if_pos k2] at hv'
      exact absurd (h.inj _ _ _ aR (hv' ▸ hl)) k3
     ·rw[if_neg k2] at hv'
      split at hv'
      ·cases hv'
      exact h.inj _ _ _ aR hv'
   ·show(Dk.look ((M.D.del (keyN s)).put (keyN t) (.held i)) u).map _=_
    rw[hlk,if_neg (fun e=>hu (.inr e)),if_neg (fun e=>hu (.inl e))]
    rfl
 ·exact h.thing
theorem Calm.syncDir (h:Calm M):ai X M (syncDirM M).1:=by
 have hf:=h.fit.syncDir
 unfold syncDirM at hf ⊢
 rw[h.down,if_neg (by decide)] at hf ⊢
 split
 ·rename_i ht
  rw[if_pos ht] at hf
  exact⟨⟨hf,h.inj,h.thingN.1,h.thingN.2.1⟩,fun _ _=>rfl⟩
 ·exact h.thing
theorem bV (fs:List (DiskM→DiskM×Int)) (h:∀f∈fs,∀M,Calm M→ai X M (f M).1):∀M,Calm M→ai X M (turnsM fs M).1:=by
 induction fs with
 | nil=>exact fun M hM=>ai.refl hM
 | cons f l ih=>
  intro M hM
  unfold turnsM
  have h1:=h f (by simp) M hM
  split
  ·exact h1.trans (ih (fun f hf=>h f (by simp [hf])) _ h1.1)
  ·exact h1
theorem Calm.gone (h:Calm M) (s:ByteArray):ai (·=s) M (gone1 M s).1:=by
 unfold gone1
 split
 ·exact h.remove s
 ·exact ai.refl h
def dS (u:ByteArray):Prop:=u=tempN∨u=manN
theorem Calm.save (h:Calm M) (m:ManM):ai dS M (saveM M m).1:=by
 unfold saveM
 split
 ·refine bV _ (fun f hf M hM=>?_) M h
  simp only[List.mem_cons,List.not_mem_nil,or_false] at hf
  rcases hf with rfl | rfl | rfl | rfl | rfl | rfl
  ·exact(hM.gone tempN).aQ fun _ e=>.inl e
  ·exact(hM.create tempN bE).1.aQ fun _ e=>.inl e
  ·exact(hM.append tempN _ (Mn.putM_bytes m)).1.aQ fun _ e=>.inl e
  ·exact hM.sync tempN
  ·exact hM.rename tempN manN bN
  ·exact hM.syncDir
 ·exact ai.refl h
theorem Calm.hint (h:Calm M) (n:Int):ai (·=hintN n) M (hintM M n):=by
 unfold hintM hintSteps
 have hB:=(hintB_fit h.fit n).1
 refine bV _ (fun f hf M hM=>?_) M h
 simp only[List.mem_cons,List.not_mem_nil,or_false] at hf
 rcases hf with rfl | rfl | rfl
 ·exact(hM.create _ (hintN_ascii n)).1
 ·exact(hM.append _ _ hB).1
 ·exact hM.sync _
theorem Calm.make (h:Calm M) (n:Int):ai (·=segN n) M (makeM M n).1∧((makeM M n).2=0→aC (makeM M n).1 (segN n)=some (putL (firstB n))):=by
 unfold makeM
 split
 ·exact⟨ai.refl h,fun e=>absurd e (show(1:Int)≠0 by decide)⟩
 obtain⟨h1,h2,h3⟩:=h.create (segN n) (segN_ascii n)
 split
 ·rename_i hc
  obtain⟨_,g2⟩:=h2 hc
  obtain⟨a1,a2,a3⟩:=h1.1.append (segN n) (putL (firstB n)) (put_bytes _ (firstB_bytes n))
  unfold putF
  split
  ·rename_i hp
   refine⟨h1.trans a1,fun _=>?_⟩
   obtain⟨b,e1,e2⟩:=a2 hp
   rw[g2] at e1
   obtain rfl:=Option.some.inj e1
   rw[e2,List.nil_append]
  ·rename_i hp
   exact⟨(h1.trans a1).trans (a1.1.remove _),fun e=>absurd e hp⟩
 ·rename_i hc
  exact⟨h1,fun e=>absurd e hc⟩
theorem Calm.logSync (h:Calm M) (S:LogS):ai X M (logSync M S).1:=by
 unfold Lg.logSync
 split
 ·exact ai.refl h
 ·exact h.sync _
theorem Calm.eL (l:List ByteArray):∀{M:DiskM},Calm M→ai (·∈l) M (removesM l M):=by
 induction l with
 | nil=>exact fun h=>ai.refl h
 | cons s l ih=>
  intro M h
  have h1:=h.gone s
  exact(h1.aQ fun _ e=>by simp [e]).trans ((ih h1.1).aQ fun _ e=>by simp [e])
theorem Calm.fO (segs:List Int) (L:List Int):∀{M:DiskM},Calm M→ai (fun u=>∃n∈L,segs.contains n=true∧(u=segN n∨u=hintN n)) M (dropsM segs L M):=by
 induction L with
 | nil=>exact fun h=>ai.refl h
 | cons n l ih=>
  intro M h
  unfold dropsM
  by_cases hn:segs.contains n=true
  ·rw[if_pos hn]
   have h1:=Calm.eL [segN n,hintN n] h
   refine(h1.aQ fun u hu=>⟨n,by simp,hn,?_⟩).trans ((ih h1.1).aQ fun u ⟨x,hx,hu⟩=>⟨x,by simp [hx],hu⟩)
   simpa using hu
  ·rw[if_neg hn]
   exact(ih h).aQ fun u ⟨x,hx,hu⟩=>⟨x,by simp [hx],hu⟩
theorem bI (d:Array Int):∀m,(Lib.compactUpTo d (m+1)).getLast? =some d[m]!
 | 0=>by rw[Lib.compactUpTo_succ,Lib.keeps_lt_one d 0 (by decide)];simp [Lib.compactUpTo]
 | m+1=>by
  rw[Lib.compactUpTo_succ]
  by_cases hk:Lib.keeps d (m+1)=true
  ·rw[hk];simp
  ·have hk':Lib.keeps d (m+1)=false:=Bool.eq_false_iff.2 hk
   have e:d[m+1]! =d[m]! :=by
    unfold Lib.keeps at hk'
    have h2:=of_decide_eq_false hk'
    rw[not_or] at h2
    exact Classical.not_not.1 h2.2
   rw[hk',e,← bI d m]
   simp
theorem dT (L:List ByteArray) {x:Int} (hx:x∈segL L):∃z,(segsL L).getLast? =some z∧x≤z:=by
 have hp:=Sh.isort_perm (fun x y:Int=>decide (x≤y)) (segL L)
 have hs:=Sh.isort_pairwise (le:=fun x y:Int=>decide (x≤y)) (fun a b c h1 h2=>decide_eq_true (Int.le_trans (of_decide_eq_true h1) (of_decide_eq_true h2))) (fun a b=>by rcases Int.le_total a b with h | h <;> simp [h]) (segL L)
 have hm:=hp.mem_iff.2 hx
 unfold segsL Sh.sortL Lib.compact
 generalize Sh.isort (fun x y:Int=>decide (x≤y)) (segL L)=zs at hm hs
 obtain⟨n,hn⟩:∃n,zs.length=n+1:=⟨zs.length - 1,by have:=List.length_pos_of_mem hm;omega⟩
 refine⟨zs.toArray[n]!,by rw[hn];exact bI _ n,?_⟩
 obtain⟨i,hi,rfl⟩:=List.getElem_of_mem hm
 have e:zs.toArray[n]! =zs[n]:=by rw[getElem!_pos zs.toArray n (by simp;omega)];simp
 rw[e]
 rcases Nat.lt_or_ge i n with h | h
 ·exact of_decide_eq_true (List.pairwise_iff_getElem.1 hs i n hi (by omega) h)
 ·have:i=n:=by omega
  subst this
  exact Int.le_refl _
theorem et (l:List UInt8):(parseL l).2.1≤99999999:=by
 cases l with
 | nil=>decide
 | cons c l=>
  have hn:(((numberM l).getD 0:Nat):Int)≤99999999:=by
   unfold numberM
   split
   ·rename_i h8
    cases hl:numL l 0 with
    | none=>simp
    | some m=>
     have:=numL_le l 0 m hl
     rw[h8] at this
     rw[Option.getD_some]
     omega
   ·simp
  rw[bm]
  repeat' split
  all_goals first | exact hn | decide
theorem eM (h:Fit M) (hk:aC M (segN k)≠none) (k0:0≤k) (k1:k≤99999999):k < nextM M S:=by
 have hm:segN k∈namesM M:=by
  have h1:(segN k).data.toList∈strKeys M.D:=h.mem.2 (by
   rw[show(⟨(segN k).data.toList.toArray⟩:ByteArray)=segN k from rfl,bP]
   cases hc:aC M (segN k) with
   | none=>exact absurd hc hk
   | some b=>rfl)
  exact List.mem_map.2 ⟨_,(Sh.isort_perm _ _).mem_iff.2 h1,rfl⟩
 have hx:k∈segL (namesM M):=by
  unfold segL
  refine List.mem_map.2 ⟨segN k,List.mem_filter.2 ⟨hm,?_⟩,by rw[aw k0 k1]⟩
  unfold isSeg
  rw[aw k0 k1]
  rfl
 obtain⟨z,hz,jv⟩:=dT _ hx
 obtain⟨s,hs,p1,p2,p3⟩:=cU (List.mem_of_getLast? hz)
 have hz9:z≤99999999:=by
  rw[← p3]
  unfold parseM
  exact et _
 unfold nextM
 rw[hz]
 dsimp only
 have:wrap64 (z+1)=z+1:=by unfold wrap64;omega
 omega
theorem eN:S.man.next≤nextM M S:=by
 unfold nextM
 split
 ·exact Int.le_refl _
 ·omega
end Th
namespace Gt
open Go.Shelf Go.Maps Fr Ext Dk Mn Qd
open Sg (segN firstB)
open Lg
open Rc (Re)
def M0:DiskM:=newM 4194304
def S0:LogS:=⟨1048576,⟨[],1⟩,-1⟩
abbrev St:=DiskM×LogS×List Int
def GI (p:St) (k:Nat):Prop:=
 p=(M0,S0,[])∨(p.2.2.head? =some 13∧p.2.1.man.segs=[1]∧p.2.1.last=1∧p.2.1.limit=1048576∧∃c a n b,LV p.1 p.2.1 c a n 4194304∧a≤100+5308*k∧n≤3∧c (segN 1)=some b∧13≤b.length∧b.length≤13+5308*k∧
  ∀x∈p.2.2,∃u y v R,x=(u.length:Int)∧b=u++putL y++v∧1≤y.length∧y.length≤8192∧Rc.getM y=(R,true))
theorem aq {R:Re} (hr:Rc.rightM R=true):1≤(Rc.putM R).length∧(Rc.putM R).length≤5300∧(putL (Rc.putM R)).length=(Rc.putM R).length+8∧sizeI (Rc.putM R).length=(Rc.putM R).length+8:=by
 have hpl:=Rc.put_len R
 have iV:(Rc.putM R).length≠0:=fun e=>by rw[Rc.put_nil.1 e] at hr;cases hr
 have hfl:=Fr.put_len (Rc.putM R)
 have hs:=sizeI_of ((Rc.putM R).length:Int) (by omega) (by omega)
 omega
theorem aX (M:DiskM) (S:LogS) {R:Re} (hr:Rc.rightM R=false):laddM M S R=(M,S,0,0,0,1):=by
 unfold laddM
 rw[Rc.put_nil.2 hr,if_pos (by rfl)]
theorem GI.gone {p:St} {k:Nat} (h:GI p k) {n:Int} (at_:Int) (hn:p.2.2=[]∨n≠1):(getLM p.1 p.2.1 n at_).2=3:=by
 unfold getLM
 rw[if_neg]
 rcases h with rfl | ⟨h1,h2,_⟩
 ·simp [S0]
 ·rcases hn with hn | hn
  ·rw[hn] at h1;cases h1
  ·rw[h2]
   simp [hn]
theorem GI.segs {p:St} {k:Nat} (h:GI p k):p.2.1.man.segs.length≤1000000:=by
 rcases h with rfl | ⟨h1,h2,_⟩
 ·decide
 ·rw[h2];decide
end Gt
namespace Th
open Go.Shelf Go.Maps Fr Ext Dk Mn Qd
open Sg (segN segN_le segN_ascii makeM putF firstB firstB_bytes getSM bodyG)
open Lg
open Rc (Re)
open Gt (aq aX)
variable {M M' M1 M2:DiskM} {S:LogS} {s t:ByteArray} {b bs:List Int} {k lim:Int} {X Y:ByteArray→Prop}
abbrev av:=Int×Int×Re
def dr (M:DiskM) (x:av):Prop:=∃p q,aC M (segN x.1)=some (p++putL (Rc.putM x.2.2)++q)∧(p.length:Int)=x.2.1
structure TI (lim:Int) (M:DiskM) (S:LogS) (all:List av):Prop where
 calm:Calm M
 limit:S.limit=lim
 next:1≤S.man.next∧S.man.next≤100000000
 many:S.man.segs.length≤1000
 cW:∀n∈S.man.segs,0≤n∧n≤99999999
 last:S.last < 0∨S.last∈S.man.segs∧∃b,aC M (segN S.last)=some b∧13≤b.length
 stand:∀x∈all,x.1∈S.man.segs∧x.1≤S.last∧Rc.rightM x.2.2=true∧dr M x
 rises:all.Pairwise fun x y=>x.1≤y.1
variable {all:List av}
theorem TI.only (h:TI lim M S all) (ho:ai X M M') (hx:∀n∈S.man.segs,¬X (segN n)):TI lim M' S all:=
 ⟨ho.1,h.limit,h.next,h.many,h.cW,h.last.imp id fun⟨h1,b,h2,h3⟩=>⟨h1,b,by rw[ho.2 _ (hx _ h1)];exact h2,h3⟩,
  fun x gG=>by
   obtain⟨h1,h2,h3,p,q,h4,h5⟩:=h.stand x gG
   exact⟨h1,h2,h3,p,q,by rw[ho.2 _ (hx _ h1)];exact h4,h5⟩,h.rises⟩
theorem TI.fP (h:TI lim M S all) (x:Int) (h1:1≤x∧x≤100000000):TI lim M {S with man:=⟨S.man.segs,x⟩} all:=⟨h.calm,h.limit,h1,h.many,h.cW,h.last,h.stand,h.rises⟩
theorem TI.sync (h:TI lim M S all):TI lim (logSync M S).1 S all:=h.only (X:=fun _=>False) (h.calm.logSync S) fun _ _ e=>e
theorem TI.dS (h:TI lim M S all):∀n∈S.man.segs,¬dS (segN n):=fun n hn e=>by
 obtain⟨k0,k1⟩:=h.cW n hn
 rcases e with e | e
 ·exact aT k0 k1 e
 ·exact az k0 k1 e
theorem TI.there (h:TI lim M S all) (x:av) (hx:x∈all):aC M (segN x.1)≠none∧0≤x.1∧x.1≤99999999:=by
 obtain⟨h1,h2,h3,p,q,h4,h5⟩:=h.stand x hx
 exact⟨by rw[h4];exact fun e=>(by cases e),h.cW _ h1⟩
theorem TI.keep (h:TI lim M S all) (ho:ai X M M') (hl:0≤S.last→¬X (segN S.last)) (hx:∀x∈all,¬X (segN x.1)):TI lim M' S all:=
 ⟨ho.1,h.limit,h.next,h.many,h.cW,h.last.imp id fun⟨h1,b,h2,h3⟩=>⟨h1,b,by rw[ho.2 _ (hl (h.cW _ h1).1)];exact h2,h3⟩,
  fun x gG=>by
   obtain⟨h1,h2,h3,p,q,h4,h5⟩:=h.stand x gG
   exact⟨h1,h2,h3,p,q,by rw[ho.2 _ (hx _ gG)];exact h4,h5⟩,h.rises⟩
theorem TI.dR (h:TI lim M S all):TI lim (rollM M S).1 (rollM M S).2.1 all∧((rollM M S).2.2=0→0≤(rollM M S).2.1.last∧aC (rollM M S).1 (segN (rollM M S).2.1.last)=some (putL (firstB (rollM M S).2.1.last))):=by
 have hs:=h.sync
 unfold rollM
 split
 rotate_left
 ·rename_i he
  exact⟨hs,fun e=>absurd e he⟩
 generalize (logSync M S).1=Ma at hs ⊢
 obtain⟨n,hn⟩:∃n,nextM Ma S=n:=⟨_,rfl⟩
 have hge:=eN (M:=Ma) (S:=S)
 have ij:∀k,aC Ma (segN k)≠none→0≤k→k≤99999999→k < n:=fun k h1 h2 h3=>by rw[← hn];exact eM hs.calm.fit h1 h2 h3
 rw[hn] at hge ⊢
 clear hn
 have hnx:=hs.next
 unfold rollN
 split
 ·exact⟨hs,fun e=>absurd e (show ¬(5:Int)=0 by decide)⟩
 rename_i h9
 split
 ·exact⟨hs,fun e=>absurd e (show ¬(5:Int)=0 by decide)⟩
 rename_i h10
 have n0:0≤n:=by omega
 have n1:n≤99999999:=by omega
 have ew:wrap64 (n+1)=n+1:=by unfold wrap64;omega
 obtain⟨m1,m2⟩:=hs.calm.make n
 have iW:∃Y,Y=(fun u=>u=segN n∨Th.dS u)∧ai Y Ma (turnsM (rollSteps n (rollMan S n)) Ma).1∧((turnsM (rollSteps n (rollMan S n)) Ma).2=0→aC (turnsM (rollSteps n (rollMan S n)) Ma).1 (segN n)=some (putL (firstB n))):=by
  refine⟨_,rfl,?_⟩
  unfold rollSteps turnsM
  split
  ·rename_i hm
   unfold turnsM
   have ik:=m1.1.save (rollMan S n)
   have hc:aC (saveM (makeM Ma n).1 (rollMan S n)).1 (segN n)=some (putL (firstB n)):=by
    rw[ik.2 _ (fun e=>by
     rcases e with e | e
     ·exact aT n0 n1 e
     ·exact az n0 n1 e)]
    exact m2 hm
   have ho:ai (fun u=>u=segN n∨Th.dS u) Ma (saveM (makeM Ma n).1 (rollMan S n)).1:=(m1.aQ fun _ e=>.inl e).trans (ik.aQ fun _ e=>.inr e)
   split
   ·exact⟨ho,fun _=>hc⟩
   ·rename_i hsz
    exact⟨ho,fun e=>absurd e hsz⟩
  ·rename_i hm
   exact⟨m1.aQ fun _ e=>.inl e,fun e=>absurd e hm⟩
 obtain⟨Y,hY,t1,t2⟩:=iW
 generalize turnsM (rollSteps n (rollMan S n)) Ma=p at t1 t2 ⊢
 have hfree:∀k,aC Ma (segN k)≠none→0≤k→k≤99999999→¬Y (segN k):=by
  intro k h1 h2 h3 hk
  rw[hY] at hk
  rcases hk with e | e | e
  ·rw[aM h2 h3 n0 n1] at e
   have:=ij k h1 h2 h3
   omega
  ·exact aT h2 h3 e
  ·exact az h2 h3 e
 have bJ:0≤S.last→aC Ma (segN S.last)≠none∧S.last≤99999999:=by
  intro h0
  rcases hs.last with h1 | ⟨h1,b,h2,h3⟩
  ·omega
  ·exact⟨by rw[h2];exact fun e=>(by cases e),(hs.cW _ h1).2⟩
 have hk1:TI lim p.1 S all:=hs.keep t1 (fun h0=>hfree _ (bJ h0).1 h0 (bJ h0).2) (fun x hx=>by
  obtain⟨g1,g2,g3⟩:=hs.there x hx
  exact hfree _ g1 g2 g3)
 unfold rollEnd
 split
 rotate_left
 ·rename_i hp
  rw[ew]
  exact⟨hk1.fP (n+1) (by omega),fun e=>absurd e hp⟩
 rename_i hp
 have hc:=t2 hp
 dsimp only
 obtain⟨Mb,iX,iY,il⟩:∃Mb,Mb=(if 0≤S.last then hintM p.1 S.last else p.1)∧ai (fun u=>0≤S.last∧u=hintN S.last) p.1 Mb∧aC Mb (segN n)=some (putL (firstB n)):=by
  by_cases h0:0≤S.last
  ·have hh:=hk1.calm.hint S.last
   refine⟨_,rfl,?_⟩
   rw[if_pos h0]
   refine⟨hh.aQ fun _ e=>⟨h0,e⟩,?_⟩
   rw[hh.2 _ (aj n0 n1 h0 (bJ h0).2)]
   exact hc
  ·refine⟨_,rfl,?_⟩
   rw[if_neg h0]
   exact⟨ai.refl hk1.calm,hc⟩
 rw[← iX]
 have hk2:TI lim Mb S all:=hk1.keep iY (fun h0 e=>aj h0 (bJ h0).2 h0 (bJ h0).2 e.2) (fun x hx e=>by
  obtain⟨g1,g2,g3⟩:=hs.there x hx
  exact aj g2 g3 e.1 (bJ e.1).2 e.2)
 refine⟨⟨hk2.calm,hk2.limit,?_,?_,?_,.inr ⟨?_,_,il,by rw[ax];exact Nat.le_refl _⟩,fun x hx=>?_,hk2.rises⟩,fun _=>⟨n0,il⟩⟩
 ·show 1≤wrap64 (n+1)∧wrap64 (n+1)≤100000000
  rw[ew];omega
 ·show(S.man.segs++[n]).length≤1000
  rw[List.length_append,List.length_singleton];omega
 ·intro x hx
  rcases List.mem_append.1 (show x∈S.man.segs++[n] from hx) with hx | hx
  ·exact hs.cW x hx
  ·rw[List.mem_singleton.1 hx];exact⟨n0,n1⟩
 ·exact List.mem_append.2 (.inr (List.mem_singleton.2 rfl))
 ·obtain⟨g1,g2,g3⟩:=hs.there x hx
  obtain⟨h1,h2,h3,h4⟩:=hk2.stand x hx
  exact⟨List.mem_append.2 (.inl h1),Int.le_of_lt (ij _ g1 g2 g3),h3,h4⟩
theorem TI.dJ (h:TI lim M S all) (h0:0≤S.last) {R:Re} (h6:IsBytes R.f6) (hr:Rc.rightM R=true):
  TI lim (addEnd M S R).1 (addEnd M S R).2.1 (if(addEnd M S R).2.2.2.2.2=0 then all++[((addEnd M S R).2.2.1,(addEnd M S R).2.2.2.1,R)] else all)∧
   ((addEnd M S R).2.2.2.2.2=0→(addEnd M S R).2.2.2.1=sizeM M (segN S.last)∧(addEnd M S R).2.2.2.2.1=((Rc.putM R).length:Int)+8):=by
 obtain⟨z1,z2,z3,z4⟩:=aq hr
 obtain⟨a1,a2,a3⟩:=h.calm.append (segN S.last) (putL (Rc.putM R)) (put_bytes _ (La.putM_isBytes _ h6))
 obtain⟨fQ,b,hb,gP⟩:S.last∈S.man.segs∧∃b,aC M (segN S.last)=some b∧13≤b.length:=h.last.resolve_left (by omega)
 have hsz:sizeM M (segN S.last)=(b.length:Int):=by
  have h1:sizeM (aI M) (segN S.last)=_:=h.calm.sees.sizeM
  rw[hb] at h1
  exact h1
 have hle:=(h.cW _ fQ).2
 unfold addEnd Sg.addM
 rw[if_neg (show ¬(putL (Rc.putM R)).length=0 by omega)]
 by_cases he:(appendM M (segN S.last) (putL (Rc.putM R))).2=0
 ·rw[if_pos he]
  dsimp only
  rw[if_pos rfl]
  dsimp only
  rw[if_pos rfl]
  obtain⟨b',e1,e2⟩:=a2 he
  rw[hb] at e1
  obtain rfl:=Option.some.inj e1
  generalize (appendM M (segN S.last) (putL (Rc.putM R))).1=Mn at a1 e2 ⊢
  have hst:∀x:av,x.1=S.last∨(0≤x.1∧x.1≤99999999)→dr M x→dr Mn x:=by
   rintro x hx ⟨p,q,g1,g2⟩
   by_cases hxl:x.1=S.last
   ·rw[hxl,hb] at g1
    refine⟨p,q++putL (Rc.putM R),?_,g2⟩
    rw[hxl,e2,Option.some.inj g1]
    simp only[List.append_assoc]
   ·have hx':=hx.resolve_left hxl
    exact⟨p,q,by rw[a1.2 _ (fun e=>hxl ((aM hx'.1 hx'.2 h0 hle).1 e))];exact g1,g2⟩
  refine⟨⟨a1.1,h.limit,h.next,h.many,h.cW,.inr ⟨fQ,_,e2,by rw[List.length_append];omega⟩,fun x hx=>?_,?_⟩,fun _=>⟨rfl,by rw[z3];omega⟩⟩
  ·rcases List.mem_append.1 hx with hx | hx
   ·obtain⟨g1,g2,g3,g4⟩:=h.stand x hx
    exact⟨g1,g2,g3,hst x (.inr (h.cW _ g1)) g4⟩
   ·rw[List.mem_singleton.1 hx]
    exact⟨fQ,Int.le_refl _,hr,b,[],by rw[e2,List.append_nil],hsz.symm⟩
  ·refine List.pairwise_append.2 ⟨h.rises,List.pairwise_singleton _ _,fun x hx y hy=>?_⟩
   rw[List.mem_singleton.1 hy]
   exact(h.stand x hx).2.1
 ·rw[if_neg he]
  dsimp only
  rw[if_neg he]
  dsimp only
  rw[if_neg he]
  refine⟨h.keep (X:=fun _=>False) ⟨a1.1,fun t _=>?_⟩ (fun _ e=>e) (fun _ _ e=>e),fun e=>absurd e he⟩
  by_cases ht:t=segN S.last
  ·rw[ht];exact a3 he
  ·exact a1.2 t ht
def cI (all:List av) (R:Re) (q:DiskM×LogS×Int×Int×Int×Int):List av:=if q.2.2.2.2.2=0 then all++[(q.2.2.1,q.2.2.2.1,R)] else all
theorem TI.add (h:TI lim M S all) {R:Re} (h6:IsBytes R.f6):
  TI lim (laddM M S R).1 (laddM M S R).2.1 (cI all R (laddM M S R))∧
   ((laddM M S R).2.2.2.2.2=0→Rc.rightM R=true∧((laddM M S R).2.2.2.1=13∨(laddM M S R).2.2.2.1+(laddM M S R).2.2.2.2.1≤lim)∧0≤(laddM M S R).2.2.2.1∧(laddM M S R).2.2.2.1≤67108864∧0≤(laddM M S R).2.2.2.2.1∧(laddM M S R).2.2.2.2.1≤5308):=by
 unfold cI
 cases hr:Rc.rightM R with
 | false=>
  rw[aX M S hr]
  dsimp only
  rw[if_neg (by decide)]
  exact⟨h,fun e=>absurd e (show ¬(1:Int)=0 by decide)⟩
 | true=>
  obtain⟨z1,z2,z3,z4⟩:=aq hr
  unfold laddM
  rw[if_neg (by omega)]
  split
  ·unfold addRoll
   obtain⟨r1,r2⟩:=h.dR
   generalize rollM M S=p at r1 r2 ⊢
   split
   ·rename_i hp
    obtain⟨q1,q2⟩:=r2 hp
    obtain⟨e1,e2⟩:=r1.dJ q1 h6 hr
    refine⟨e1,fun hz=>⟨rfl,?_⟩⟩
    obtain⟨g1,g2⟩:=e2 hz
    have h1:sizeM (aI p.1) (segN p.2.1.last)=_:=r1.calm.sees.sizeM
    rw[q2,Option.getD_some,ax] at h1
    have h2:sizeM p.1 (segN p.2.1.last)=13:=h1
    rw[g1,g2,h2]
    omega
   ·rename_i hp
    exact⟨r1,fun e=>absurd e hp⟩
  ·rename_i hw
   have hw':wantsRoll M S (sizeI ((Rc.putM R).length:Int))=false:=Bool.eq_false_iff.mpr hw
   unfold wantsRoll at hw'
   rw[Bool.or_eq_false_iff,Bool.and_eq_false_iff] at hw'
   obtain⟨w1,w2⟩:=hw'
   have h0:0≤S.last:=by have:=of_decide_eq_false w1;omega
   obtain⟨e1,e2⟩:=h.dJ h0 h6 hr
   refine⟨e1,fun hz=>⟨rfl,?_⟩⟩
   obtain⟨g1,g2⟩:=e2 hz
   obtain⟨fQ,b,hb,gP⟩:=h.last.resolve_left (by omega)
   have h1:sizeM (aI M) (segN S.last)=_:=h.calm.sees.sizeM
   rw[hb,Option.getD_some] at h1
   have h2:sizeM M (segN S.last)=(b.length:Int):=h1
   have h3:=(h.calm.fit.sizeM (segN S.last)).2
   rw[h2] at w2 h3
   rw[g1,g2,h2]
   rw[z4,h.limit,show wrap64 ((b.length:Int)+(((Rc.putM R).length:Int)+8))=(b.length:Int)+(((Rc.putM R).length:Int)+8) by unfold wrap64;omega] at w2
   rcases w2 with w2 | w2
   ·have:=of_decide_eq_false w2;omega
   ·have:=of_decide_eq_false w2;omega
def eO (all:List av) (segs:List Int):List av:=all.filter fun x=>!segs.contains x.1
theorem TI.drop (h:TI lim M S all) (segs:List Int):TI lim (dI M S segs).1 (dI M S segs).2.1 (if(dI M S segs).2.2=0 then eO all segs else all):=by
 unfold dI
 split
 ·dsimp only
  rw[if_neg (by decide)]
  exact h
 rename_i hw
 have hs:TI lim (saveM M (aW S segs)).1 S all:=h.only (h.calm.save _) h.dS
 split
 rotate_left
 ·exact hs
 dsimp only
 rw[if_pos rfl]
 generalize (saveM M (aW S segs)).1=Ma at hs ⊢
 have hd:=hs.calm.fO segs S.man.segs
 have hno:∀k,0≤k→k≤99999999→segs.contains k=false→¬∃n∈S.man.segs,segs.contains n=true∧(segN k=segN n∨segN k=hintN n):=by
  rintro k k0 k1 hk ⟨n,hn,hc,e | e⟩
  ·obtain⟨n0,n1⟩:=h.cW n hn
   rw[aM k0 k1 n0 n1] at e
   rw[e,hc] at hk
   cases hk
  ·obtain⟨n0,n1⟩:=h.cW n hn
   exact aj k0 k1 n0 n1 e
 have bJ:segs.contains S.last=false:=by
  rw[Bool.eq_false_iff]
  intro hc
  refine hw (List.any_eq_true.2 ⟨S.last,List.contains_iff_mem.1 hc,?_⟩)
  unfold ep
  simp
 refine⟨hd.1,hs.limit,hs.next,Nat.le_trans (List.length_filter_le _ _) hs.many,fun n hn=>hs.cW n (List.mem_filter.1 hn).1,?_,fun x hx=>?_,hs.rises.sublist List.filter_sublist⟩
 ·rcases hs.last with h1 | ⟨h1,b,h2,h3⟩
  ·exact .inl h1
  ·obtain⟨k0,k1⟩:=h.cW _ h1
   exact .inr ⟨List.mem_filter.2 ⟨h1,by rw[bJ];rfl⟩,b,by rw[hd.2 _ (hno _ k0 k1 bJ)];exact h2,h3⟩
 ·obtain⟨hx1,hx2⟩:=List.mem_filter.1 hx
  obtain⟨g1,g2,g3,p,q,g4,g5⟩:=hs.stand x hx1
  obtain⟨k0,k1⟩:=h.cW _ g1
  have hc:segs.contains x.1=false:=by simpa using hx2
  exact⟨List.mem_filter.2 ⟨g1,hx2⟩,g2,g3,p,q,by rw[hd.2 _ (hno _ k0 k1 hc)];exact g4,g5⟩
end Th
namespace Pu
open Go.Shelf Go.Maps Fr Ext Dk Mn Qd
open Sg (segN firstB)
open Lg
open Rc (Re Lo)
open Gt (aq aX)
variable {M:DiskM} {S:LogS} {c:View} {a n k T:Nat} {m lim:Int}
def ah (c:View) (S:LogS):Nat:=((c (segN S.last)).getD []).length
structure PI (lim m:Int) (M:DiskM) (S:LogS) (c:View) (a n k T:Nat):Prop where
 lv:LV M S c a n m
 none_:S.last < 0→c=fun _=>none
 room:a+9*ah c S≤4200*k+10*T
 files:n≤3*k
 many:S.man.segs.length≤k
 next:S.man.next≤k+1
 limit:S.limit=lim
def eP (S:LogS) (c:View) (T:Nat):Prop:=(S.last=-1∧S.man.next=1∧T=0)∨(S.last=1∧ah c S=13+T)
theorem PI.new (x:Int) (lim:Int):PI lim (newM x).d.most (newM x) ⟨lim,⟨[],1⟩,-1⟩ (fun _=>none) 0 0 0 0:=⟨LV.new lim,fun _=>rfl,Nat.le_refl _,Nat.le_refl _,Nat.le_refl _,Int.le_refl _,rfl⟩
theorem eP.new (lim:Int):eP ⟨lim,⟨[],1⟩,-1⟩ (fun _=>none) 0:=.inl ⟨rfl,rfl,rfl⟩
theorem PI.add (h:PI lim m M S c a n k T) {R:Re} (hr:Rc.rightM R=true) (h6:IsBytes R.f6) (hk:k < 1000) (hm:4200*(k+1)+10*(T+((Rc.putM R).length+8))≤m):
  (laddM M S R).2.2.2.2.2=0∧((laddM M S R).2.2.2.2.1=((Rc.putM R).length:Int)+8)∧∃c' a' n',PI lim m (laddM M S R).1 (laddM M S R).2.1 c' a' n' (k+1) (T+((Rc.putM R).length+8))∧
   (eP S c T→13+T+((Rc.putM R).length+8)≤lim→(laddM M S R).2.2.1=1∧(laddM M S R).2.2.2.1=13+T∧eP (laddM M S R).2.1 c' (T+((Rc.putM R).length+8))):=by
 have hrm:=h.room
 have hfl:=h.files
 have iZ:=h.many
 have hnx:=h.next
 obtain⟨z1,z2,z3,z4⟩:=aq hr
 have hsz:¬sizeI ((Rc.putM R).length:Int)=0:=by rw[z4];omega
 have hll:=h.lv.bC
 have hnn:=h.lv.aH
 have hlim:=h.limit
 unfold laddM
 rw[if_neg hsz]
 by_cases hw:wantsRoll M S (sizeI ((Rc.putM R).length:Int))=true
 ·rw[if_pos hw]
  obtain⟨M',e1,l1⟩:=h.lv.dR (z:=ah c S) (fun b hb=>by unfold ah;rw[hb];exact Nat.le_refl _) (by omega) (by omega) (by omega) (by omega)
  have k0:(0:Int)≤S.man.next:=hnn.1
  have k1:S.man.next≤99999999:=hnn.2
  have hseg:bp c S (segN S.man.next)=some (putL (firstB S.man.next)):=by
   unfold bp
   split
   ·rename_i h0
    rw[upd_ne _ _ (aj k0 k1 h0 (by omega)),upd_ne _ _ (az k0 k1),af]
   ·rw[upd_ne _ _ (az k0 k1),af]
  have hl:=ax S.man.next
  obtain⟨M2,e2,l2⟩:=l1.end_ (R:=R) k0 hseg hr h6 (by rw[z3];omega)
  rw[e1]
  unfold addRoll
  dsimp only
  rw[if_pos rfl]
  have ja:addEnd M' (aN S) R=(M2,aN S,S.man.next,((putL (firstB S.man.next)).length:Int),((putL (Rc.putM R)).length:Int),0):=e2
  rw[ja]
  have hlen:ah (upd (bp c S) (segN (aN S).last) (some (putL (firstB S.man.next)++putL (Rc.putM R)))) (aN S)=13+((Rc.putM R).length+8):=by
   unfold ah
   rw[af,Option.getD_some,List.length_append,hl,z3]
  refine⟨rfl,by rw[z3];dsimp only;omega,_,_,_,⟨l2,?_,?_,?_,?_,?_,hlim⟩,fun ho hb=>?_⟩
  ·intro e;have e':S.man.next < 0:=e;omega
  ·rw[hlen,z3];omega
  ·omega
  ·show(S.man.segs++[S.man.next]).length≤_
   rw[List.length_append,List.length_singleton]
   omega
  ·show wrap64 (S.man.next+1)≤_
   unfold wrap64
   omega
  ·rcases ho with⟨o1,o2,o3⟩ | ⟨o1,o2⟩
   ·refine⟨o2,by rw[hl,o3];rfl,.inr ⟨o2,?_⟩⟩
    rw[hlen];omega
   ·exfalso
    unfold wantsRoll at hw
    rw[o1,decide_eq_false (by omega),Bool.false_or,z4] at hw
    have hq:Dk.sizeM M (segN 1)=((13+T:Nat):Int):=by
     have:=h.lv.sees.sizeM (s:=segN S.last)
     rw[o1] at this
     rw[this,← o2]
     unfold ah
     rw[o1]
    rw[hq,hlim,Bool.and_eq_true] at hw
    have:=of_decide_eq_true hw.2
    unfold wrap64 at this
    omega
 ·rw[if_neg hw]
  have hw':wantsRoll M S (sizeI ((Rc.putM R).length:Int))=false:=Bool.eq_false_iff.mpr hw
  unfold wantsRoll at hw'
  rw[Bool.or_eq_false_iff] at hw'
  have h0:0≤S.last:=by have:=of_decide_eq_false hw'.1;omega
  obtain⟨b,hb⟩:=h.lv.segs _ (h.lv.aV h0)
  have hlb:ah c S=b.length:=by unfold ah;rw[hb];rfl
  obtain⟨M2,e2,l2⟩:=h.lv.end_ (R:=R) h0 hb hr h6 (by rw[z3];omega)
  rw[e2]
  have hlen:ah (upd c (segN S.last) (some (b++putL (Rc.putM R)))) S=b.length+((Rc.putM R).length+8):=by
   unfold ah
   rw[af,Option.getD_some,List.length_append,z3]
  refine⟨rfl,by rw[z3];dsimp only;omega,_,_,_,⟨l2,?_,?_,by omega,by dsimp only;omega,by dsimp only;omega,hlim⟩,fun ho hb=>?_⟩
  ·intro e;have e':S.last < 0:=e;omega
  ·rw[hlen,z3];omega
  ·rcases ho with⟨o1,o2,o3⟩ | ⟨o1,o2⟩
   ·omega
   ·exact⟨o1,by dsimp only;rw[← hlb,o2];rfl,.inr ⟨o1,by rw[hlen,← hlb,o2];omega⟩⟩
end Pu
namespace Pu
open Go.Maps Fr Ext Pt Dk Lg
open Rc (Re Lo withinB keyB zeroR)
open Th (TI av cI)
open Gt (aq)
variable {lim m:Int} {q:St} {k T K T0:Nat} {st:List av} {l bs chs:List (List Int)} {b all:List Int}
theorem ay {x y:List Int}:IsBytes (x++y)↔IsBytes x∧IsBytes y:=⟨fun h=>⟨fun z hz=>h z (List.mem_append_left _ hz),fun z hz=>h z (List.mem_append_right _ hz)⟩,fun h z hz=>(List.mem_append.1 hz).elim (h.1 z) (h.2 z)⟩
structure QI (lim m:Int) (M:DiskM) (S:LogS) (k T:Nat) (st:List av):Prop where
 pi:∃c a n,PI lim m M S c a n k T
 ti:TI lim M S st
theorem QI.add {M:DiskM} {S:LogS} (h:QI lim m M S k T st) {R:Re} (hr:Rc.rightM R=true) (h6:IsBytes R.f6) (hk:k < 1000) (hm:4200*(k+1)+10*(T+((Rc.putM R).length+8))≤m):
  (laddM M S R).2.2.2.2.2=0∧(laddM M S R).2.2.2.2.1=((Rc.putM R).length:Int)+8∧QI lim m (laddM M S R).1 (laddM M S R).2.1 (k+1) (T+((Rc.putM R).length+8)) (st++[((laddM M S R).2.2.1,(laddM M S R).2.2.2.1,R)]):=by
 obtain⟨c,a,n,hp⟩:=h.pi
 obtain⟨e1,e2,c',a',n',p2,_⟩:=hp.add hr h6 hk hm
 have ht:=(h.ti.add h6).1
 unfold cI at ht
 rw[if_pos e1] at ht
 exact⟨e1,e2,⟨c',a',n',p2⟩,ht⟩
def cX (p:Wr) (st:List av) (l:List (List Int)):Prop:=
 p.pieces.length=l.length∧∀(i:Nat) (x:List Int),l[i]? =some x→∃lo:Lo,p.pieces[i]? =some lo∧lo.f2=(x.length:Int)∧((lo.f0,lo.f1,(⟨1,⟨#[]⟩,p.id,(i:Int),0,[],x⟩:Re)):av)∈st
theorem cX.mono {p:Wr} (h:cX p st l) {bg:List av} (hs:∀x∈st,x∈bg):cX p bg l:=⟨h.1,fun i x hx=>by
 obtain⟨lo,h1,h2,h3⟩:=h.2 i x hx
 exact⟨lo,h1,h2,hs _ h3⟩⟩
theorem cX.same {p p':Wr} (h:cX p st l) (e1:p'.pieces=p.pieces) (e2:p'.id=p.id):cX p' st l:=by
 unfold cX
 rw[e1,e2]
 exact h
theorem QI.piece (h:QI lim m q.1 q.2.1 k T st) (hp:cX q.2.2 st l) (hid:withinB q.2.2.id 0 1099511627776=true) (hl:l.length≤511) (h1:1≤b.length) (h2:b.length≤4096) (hB:IsBytes b) (hk:k < 1000) (hm:4200*(k+1)+10*(T+(17+b.length))≤m):
  ∃x lo,(pieceM q b).2=0∧QI lim m (pieceM q b).1.1 (pieceM q b).1.2.1 (k+1) (T+(17+b.length)) (st++[x])∧cX (pieceM q b).1.2.2 (st++[x]) (l++[b])∧(pieceM q b).1.2.2={q.2.2 with spoilt:=false,pieces:=q.2.2.pieces++[lo]}:=by
 have hpl:=hp.1
 have hr:=piece_right (p:=q.2.2) (b:=b) hid (by omega) h1 h2
 have hlen:=piece_len q.2.2 b hr
 have gQ:(Rc.putM (pieceR q.2.2 b)).length+8=17+b.length:=by omega
 have ha:=h.add hr hB hk (by omega)
 rw[gQ] at ha
 obtain⟨e1,e2,hq⟩:=ha
 have ew:pieceW q.2.2 b.length (laddM q.1 q.2.1 (pieceR q.2.2 b))={q.2.2 with spoilt:=false,pieces:=q.2.2.pieces++[⟨(laddM q.1 q.2.1 (pieceR q.2.2 b)).2.2.1,(laddM q.1 q.2.1 (pieceR q.2.2 b)).2.2.2.1,b.length⟩]}:=if_pos e1
 refine⟨_,_,e1,hq,?_,ew⟩
 show cX (pieceW q.2.2 b.length (laddM q.1 q.2.1 (pieceR q.2.2 b))) _ _
 rw[ew]
 refine⟨by simp [hpl],fun i x hx=>?_⟩
 dsimp only
 rcases Nat.lt_trichotomy i l.length with hi | hi | hi
 ·rw[List.getElem?_append_left hi] at hx
  obtain⟨lo,g1,g2,g3⟩:=hp.2 i x hx
  exact⟨lo,by rw[List.getElem?_append_left (by omega)];exact g1,g2,List.mem_append_left _ g3⟩
 ·subst hi
  rw[List.getElem?_concat_length] at hx
  obtain rfl:=Option.some.inj hx
  refine⟨_,by rw[← hpl,List.getElem?_concat_length],rfl,?_⟩
  rw[← hpl]
  exact List.mem_append_right _ (List.mem_singleton.2 rfl)
 ·rw[List.getElem?_eq_none (by simp;omega)] at hx
  cases hx
theorem QI.each:∀(bs:List (List Int)) (q:St) (k T:Nat) (st:List av) (l:List (List Int)),QI lim m q.1 q.2.1 k T st→cX q.2.2 st l→withinB q.2.2.id 0 1099511627776=true→q.2.2.spoilt=false→(∀b∈bs,1≤b.length∧b.length≤4096∧IsBytes b)→l.length+bs.length≤512→k+bs.length≤1000→
  4200*(k+bs.length)+10*(T+(17*bs.length+bs.flatten.length))≤m→
  ∃bg ps,(eachM bs q).2=0∧QI lim m (eachM bs q).1.1 (eachM bs q).1.2.1 (k+bs.length) (T+(17*bs.length+bs.flatten.length)) (st++bg)∧cX (eachM bs q).1.2.2 (st++bg) (l++bs)∧(eachM bs q).1.2.2={q.2.2 with pieces:=ps}
 | [],q,k,T,st,l,h,hp,_,_,_,_,_,_=>⟨[],q.2.2.pieces,rfl,by rw[List.append_nil];exact h,by rw[List.append_nil,List.append_nil];exact hp,rfl⟩
 | b::bs,q,k,T,st,l,h,hp,hid,hs,hb,hl,hk,hm=>by
  obtain⟨g1,g2,g3⟩:=hb b (by simp)
  rw[List.length_cons] at hl hk
  rw[List.length_cons,List.flatten_cons,List.length_append] at hm
  obtain⟨x,lo,e1,q1,p1,w1⟩:=h.piece hp hid (by omega) g1 g2 g3 (by omega) (by omega)
  obtain⟨bg,ps,e2,q2,p2,w2⟩:=QI.each bs (pieceM q b).1 (k+1) (T+(17+b.length)) (st++[x]) (l++[b]) q1 p1 (by rw[w1];exact hid) (by rw[w1]) (fun y hy=>hb y (by simp [hy])) (by simp;omega) (by omega) (by omega)
  have e:eachM (b::bs) q=eachM bs (pieceM q b).1:=by
   show(if(pieceM q b).2=0 then eachM bs (pieceM q b).1 else pieceM q b)=_
   rw[if_pos e1]
  rw[e]
  refine⟨x::bg,ps,e2,?_,?_,?_⟩
  ·rw[List.length_cons,List.flatten_cons,List.length_append,show k+(bs.length+1)=k+1+bs.length by omega,show T+(17*(bs.length+1)+(b.length+bs.flatten.length))=T+(17+b.length)+(17*bs.length+bs.flatten.length) by omega]
   simpa using q2
  ·simpa using p2
  ·rw[w2,w1]
   cases hw:q.2.2
   rw[hw] at hs
   simp only at hs ⊢
   rw[hs]
structure WI (p:Wr) (st:List av) (all:List Int) (chs:List (List Int)):Prop where
 cfg:rightC p.c=true
 key:keyB p.key=true
 id:withinB p.id 0 1099511627776=true
 done:p.done=false
 spoilt:p.spoilt=false
 size:p.size=(all.length:Int)
 fit:(all.length:Int)≤p.c.max
 bytes:IsBytes all
 whole:chs.flatten++(p.left++p.held)=all
 each:∀x∈chs,(x.length:Int)=p.c.piece
 dU:cX p st chs
 small:p.size≤p.c.small→chs=[]∧p.left=[]
 gH:p.c.small < p.size→p.held=[]∧(p.left.length:Int) < p.c.piece
theorem ar {c:Cfg} (h:rightC c=true):1≤c.piece∧c.piece≤4096∧0≤c.small∧c.small≤4096∧0≤c.max∧c.max≤65536∧c.max≤512*c.piece:=by
 simp only[rightC,withinB,Bool.and_eq_true,decide_eq_true_eq] at h
 omega
theorem WI.new {key:ByteArray} {id:Int} {c:Cfg} (h1:rightC c=true) (h2:keyB key=true) (h3:withinB id 0 1099511627776=true):WI (wr0 key id c) [] [] []:=by
 have:=ar h1
 exact⟨h1,h2,h3,rfl,rfl,rfl,by show((0:Nat):Int)≤c.max;omega,fun x hx=>(by cases hx),rfl,fun x hx=>(by cases hx),⟨rfl,fun i x hx=>by cases hx⟩,fun _=>⟨rfl,rfl⟩,fun h=>(by have h':c.small < 0:=h;omega)⟩
theorem WI.mono {p:Wr} (h:WI p st all chs) (bg:List av):WI p (st++bg) all chs:=⟨h.cfg,h.key,h.id,h.done,h.spoilt,h.size,h.fit,h.bytes,h.whole,h.each,h.dU.mono fun x hx=>List.mem_append_left _ hx,h.small,h.gH⟩
theorem dK {k:Int} (l:List (List Int)) (h:∀x∈l,(x.length:Int)=k) (hk:1≤k):(l.flatten.length:Int)=l.length*k:=by
 have h1:=flat_len (k:=k.toNat) l (fun x hx=>by have:=h x hx;omega)
 obtain⟨n,rfl⟩:=Int.eq_ofNat_of_zero_le (show 0≤k by omega)
 rw[Int.toNat_natCast] at h1
 rw[h1]
 push_cast
 rfl
theorem WI.state {p:Wr} (h:WI p st all chs):¬stateM p≠0:=fun e=>e (by unfold stateM;rw[h.done,h.spoilt];rfl)
theorem WI.many {p:Wr} (h:WI p st all chs):chs.length≤512∧chs.flatten.length≤all.length∧(p.left≠[]→chs.length≤511):=by
 have hc:=ar h.cfg
 have h1:=dK chs h.each hc.1
 have h2:=congrArg List.length h.whole
 simp only[List.length_append] at h2
 have h3:=h.fit
 have h4:(chs.length:Int)*p.c.piece≤512*p.c.piece:=by omega
 have h5:(chs.length:Int)≤512:=Int.le_of_mul_le_mul_right h4 (by omega)
 refine⟨by omega,by omega,fun hne=>?_⟩
 have h6:1≤p.left.length:=List.length_pos_iff.2 hne
 have h7:(chs.length:Int)*p.c.piece < 512*p.c.piece:=by omega
 have h8:(chs.length:Int) < 512:=Int.lt_of_mul_lt_mul_right h7 (by omega)
 omega
theorem WI.write (h:QI lim m q.1 q.2.1 (K+chs.length) (T0+(17*chs.length+chs.flatten.length)) st) (w:WI q.2.2 st all chs) (b:List Int) (hB:IsBytes b) (hf:(all.length:Int)+b.length≤q.2.2.c.max) (hK:K+512≤1000) (hm:4200*(K+512)+10*(T0+(17*512+(all.length+b.length)))≤m):
  ∃bg cY,(writeM q b).2=0∧QI lim m (writeM q b).1.1 (writeM q b).1.2.1 (K+cY.length) (T0+(17*cY.length+cY.flatten.length)) (st++bg)∧WI (writeM q b).1.2.2 (st++bg) (all++b) cY∧(writeM q b).1.2.2.key=q.2.2.key∧(writeM q b).1.2.2.id=q.2.2.id∧(writeM q b).1.2.2.c=q.2.2.c:=by
 have hc:=ar w.cfg
 have hs:=w.size
 have hsz:wrap64 (q.2.2.size+b.length)=((all++b).length:Int):=by
  rw[List.length_append];unfold wrap64;omega
 unfold writeM
 rw[if_neg w.state,if_neg (by unfold wrap64;omega)]
 by_cases hsm:(heldIn q.2.2 b).size≤q.2.2.c.small
 ·rw[if_pos hsm]
  have cJ:wrap64 (q.2.2.size+b.length)≤q.2.2.c.small:=hsm
  rw[hsz,List.length_append] at cJ
  obtain⟨e1,e2⟩:=w.small (by omega)
  subst e1
  refine⟨[],[],rfl,by rw[List.append_nil];exact h,⟨w.cfg,w.key,w.id,w.done,w.spoilt,hsz,by rw[List.length_append];show _≤q.2.2.c.max;omega,ay.2 ⟨w.bytes,hB⟩,?_,fun x hx=>(by cases hx),by rw[List.append_nil];exact w.dU.same rfl rfl,fun _=>⟨rfl,e2⟩,fun hbig=>?_⟩,rfl,rfl,rfl⟩
  ·show [].flatten++(q.2.2.left++(q.2.2.held++b))=all++b
   rw[← w.whole]
   simp only[List.append_assoc]
  ·exact absurd hbig (by show ¬q.2.2.c.small < wrap64 (q.2.2.size+b.length);rw[hsz,List.length_append];omega)
 ·rw[if_neg hsm]
  have cJ:¬wrap64 (q.2.2.size+b.length)≤q.2.2.c.small:=hsm
  rw[hsz] at cJ
  obtain⟨s1,s2,s3⟩:=cutW_spec (k:=q.2.2.c.piece) hc.1 (q.2.2.left++(q.2.2.held++b))
  generalize hcw:cutW q.2.2.c.piece (q.2.2.left++(q.2.2.held++b))=cw at s1 s2 s3 ⊢
  have bF:(chs++cw.1).flatten++cw.2=all++b:=by
   rw[List.flatten_append,List.append_assoc,s1,← w.whole]
   simp only[List.append_assoc]
  have cZ:∀x∈chs++cw.1,(x.length:Int)=q.2.2.c.piece:=fun x hx=>(List.mem_append.1 hx).elim (w.each x) (s2 x)
  have hfl:=dK (chs++cw.1) cZ hc.1
  have hle:=congrArg List.length bF
  rw[List.length_append,List.length_append] at hle
  have h4:((chs++cw.1).length:Int)*q.2.2.c.piece≤512*q.2.2.c.piece:=by omega
  have h5:((chs++cw.1).length:Int)≤512:=Int.le_of_mul_le_mul_right h4 (by omega)
  rw[List.length_append] at h5
  have bW:IsBytes (all++b):=ay.2 ⟨w.bytes,hB⟩
  have hfb:∀x∈cw.1,IsBytes x:=fun x hx=>by
   rw[← bF] at bW
   have h6:=(ay.1 bW).1
   exact fun z hz=>h6 z (List.mem_flatten.2 ⟨x,List.mem_append_right _ hx,hz⟩)
  have fk:(chs++cw.1).flatten.length=chs.flatten.length+cw.1.flatten.length:=by rw[List.flatten_append,List.length_append]
  obtain⟨bg,ps,e2,q2,p2,w2⟩:=QI.each (lim:=lim) (m:=m) cw.1 (q.1,q.2.1,cutIn (heldIn q.2.2 b) (q.2.2.held++b)) (K+chs.length) (T0+(17*chs.length+chs.flatten.length)) st chs h (w.dU.same rfl rfl) w.id w.spoilt (fun x hx=>⟨by have:=s2 x hx;omega,by have:=s2 x hx;omega,hfb x hx⟩) (by omega) (by omega) (by omega)
  generalize eachM cw.1 (q.1,q.2.1,cutIn (heldIn q.2.2 b) (q.2.2.held++b))=r at e2 q2 p2 w2 ⊢
  refine⟨bg,chs++cw.1,e2,?_,?_,by rw[w2];rfl,by rw[w2];rfl,by rw[w2];rfl⟩
  ·rw[List.length_append,fk,show K+(chs.length+cw.1.length)=K+chs.length+cw.1.length by omega,show T0+(17*(chs.length+cw.1.length)+(chs.flatten.length+cw.1.flatten.length))=T0+(17*chs.length+chs.flatten.length)+(17*cw.1.length+cw.1.flatten.length) by omega]
   exact q2
  ·have dc:r.1.2.2.left=cw.2:=by rw[w2];show(cutW q.2.2.c.piece (q.2.2.left++(q.2.2.held++b))).2=_;rw[hcw]
   have ba:r.1.2.2.held=[]:=by rw[w2];rfl
   have hcc:r.1.2.2.c=q.2.2.c:=by rw[w2];rfl
   have fR:r.1.2.2.size=((all++b).length:Int):=by rw[w2];exact hsz
   refine⟨by rw[hcc];exact w.cfg,by rw[w2];exact w.key,by rw[w2];exact w.id,by rw[w2];exact w.done,by rw[w2];exact w.spoilt,fR,by rw[hcc,List.length_append];omega,bW,?_,by rw[hcc];exact cZ,p2,fun hh=>?_,fun _=>⟨ba,by rw[dc,hcc];exact s3⟩⟩
   ·rw[dc,ba,List.append_nil];exact bF
   ·rw[fR,hcc] at hh
    exact absurd hh cJ
theorem df:∀(l:List Lo) (a:Int),0≤a→a+4096*l.length≤4611686018427387904→(∀x∈l,Rc.locFine x=true)→Rc.locsM l a=some (a+(l.map (·.f2)).sum)
 | [],a,_,_,_=>by simp [Rc.locsM]
 | x::l,a,h0,h1,h2=>by
  have hf:=h2 x (by simp)
  have hx:=Rc.locFine_iff hf
  rw[Rc.locsM_cons,if_pos hf]
  rw[List.length_cons] at h1
  have e:wrap64 (a+x.f2)=a+x.f2:=by unfold wrap64;omega
  rw[e,df l (a+x.f2) (by omega) (by push_cast at h1;omega) (fun y hy=>h2 y (by simp [hy]))]
  simp only[List.map_cons,List.sum_cons]
  congr 1
  omega
theorem cX.sum {p:Wr} (h:cX p st l):(p.pieces.map (·.f2)).sum=(l.flatten.length:Int):=by
 have e:p.pieces.map (·.f2)=l.map fun x=>(x.length:Int):=by
  apply List.ext_getElem?
  intro i
  rw[List.getElem?_map,List.getElem?_map]
  cases hl:l[i]? with
  | none=>rw[List.getElem?_eq_none (by rw[h.1];exact List.getElem?_eq_none_iff.1 hl)];rfl
  | some x=>
   obtain⟨lo,g1,g2,_⟩:=h.2 i x hl
   rw[g1,Option.map_some,Option.map_some,g2]
 rw[e]
 clear e h
 induction l with
 | nil=>rfl
 | cons x l ih=>rw[List.map_cons,List.sum_cons,ih,List.flatten_cons,List.length_append];omega
theorem eu {M:DiskM} {S:LogS} (h:TI lim M S st) {x:av} (hx:x∈st):0≤x.1∧x.1≤99999999∧0≤x.2.1∧x.2.1≤67108864:=by
 obtain⟨g1,g2,g3,p,r,g4,g5⟩:=h.stand x hx
 have h1:=h.cW _ g1
 have h2:Dk.sizeM (Th.aI M) (Sg.segN x.1)=_:=h.calm.sees.sizeM
 rw[g4,Option.getD_some,List.length_append,List.length_append] at h2
 have h3:Dk.sizeM M (Sg.segN x.1)=_:=h2
 have h4:=(h.calm.fit.sizeM (Sg.segN x.1)).2
 omega
theorem dL (s:ByteArray):(s==s)=true:=by
 show(s.data==s.data)=true
 exact beq_self_eq_true s.data
theorem cL {p:Wr} (hf:∀y∈p.pieces,Rc.locFine y=true) (hl:p.pieces.length≤512) (hsm:(p.pieces.map (·.f2)).sum=p.size) (hk:keyB p.key=true) (hid:withinB p.id 0 1099511627776=true) (h1:1≤p.size) (h2:p.size≤65536):Rc.rightM (rootR p)=true:=by
 have hsum:=df p.pieces 0 (Int.le_refl _) (by omega) hf
 rw[hsm,Int.zero_add] at hsum
 have hb:Rc.bareM (rootR p) (Rc.hasM 2 (rootR p))=true:=by
  show((p.key==p.key) && ((p.id==p.id) && (((0:Int)==0) && ((p.size==p.size) && ((p.pieces.length==p.pieces.length) && (([]:List Int).length==([]:List Int).length))))))=true
  rw[dL]
  simp
 have hfine:Rc.fineM (rootR p)=true:=by
  show Rc.rootFineM (rootR p)=true
  unfold Rc.rootFineM
  show(match Rc.locsM p.pieces 0 with | none=>false | some s=>keyB p.key && (decide (p.pieces.length≤512) && ((s==p.size) && withinB s 1 65536)))=true
  rw[hsum]
  simp only[withinB,hk,beq_self_eq_true,decide_eq_true h1,decide_eq_true h2,decide_eq_true hl,Bool.and_true]
 show(Rc.isKind 2 && (withinB p.id 0 1099511627776 && (Rc.bareM (rootR p) (Rc.hasM 2 (rootR p)) && Rc.fineM (rootR p))))=true
 rw[hid,hb,hfine]
 rfl
theorem bX {M:DiskM} {S:LogS} {p:Wr} (ht:TI lim M S st) (hp:cX p st l) (hk:keyB p.key=true) (hid:withinB p.id 0 1099511627776=true) (hl:l.length≤512) (hx:∀x∈l,1≤x.length∧x.length≤4096) (hs:p.size=(l.flatten.length:Int)) (h1:1≤p.size) (h2:p.size≤65536):Rc.rightM (rootR p)=true:=by
 have hf:∀y∈p.pieces,Rc.locFine y=true:=by
  intro y hy
  obtain⟨i,hi,rfl⟩:=List.getElem_of_mem hy
  have hil:i < l.length:=by rw[← hp.1];exact hi
  obtain⟨lo,g1,g2,g3⟩:=hp.2 i _ (List.getElem?_eq_getElem hil)
  rw[List.getElem?_eq_getElem hi] at g1
  obtain rfl:=Option.some.inj g1
  have h3:=eu ht g3
  have h4:=hx _ (List.getElem_mem hil)
  simp only[Rc.locFine,withinB,Bool.and_eq_true,decide_eq_true_eq]
  dsimp only at h3
  omega
 exact cL hf (by rw[hp.1];exact hl) (by rw[hp.sum,hs]) hk hid h1 h2
theorem bK {p:Wr} (hk:keyB p.key=true) (hl:p.held.length≤4096):Rc.rightM (inlineR p)=true:=by
 have hb:Rc.bareM (inlineR p) (Rc.hasM 3 (inlineR p))=true:=by
  show((p.key==p.key) && (((0:Int)==0) && (((0:Int)==0) && (((0:Int)==0) && ((([]:List Lo).length==([]:List Lo).length) && (p.held.length==p.held.length))))))=true
  rw[dL]
  simp
 show(Rc.isKind 3 && (withinB 0 0 1099511627776 && (Rc.bareM (inlineR p) (Rc.hasM 3 (inlineR p)) && (keyB p.key && decide (p.held.length≤4096)))))=true
 rw[hb,hk,decide_eq_true hl]
 rfl
def Done (p:Wr) (pl:Pl) (st:List av) (all:List Int):Prop:=
 pl.key=p.key∧(((all.length:Int)≤p.c.small∧pl.kind=3∧((pl.seg,pl.at_,(⟨3,p.key,0,0,0,[],all⟩:Re)):av)∈st)∨
  (p.c.small < all.length∧pl.kind=2∧∃l,l.flatten=all∧l.length≤512∧cX p st l∧((pl.seg,pl.at_,(⟨2,p.key,p.id,0,(all.length:Int),p.pieces,[]⟩:Re)):av)∈st))
theorem WI.commit (h:QI lim m q.1 q.2.1 (K+chs.length) (T0+(17*chs.length+chs.flatten.length)) st) (w:WI q.2.2 st all chs) (hK:K+513≤1000) (hm:4200*(K+514)+10*(T0+(17*513+(all.length+5308)))≤m):
  ∃bg k' T',(commitM q).2.2=0∧QI lim m (commitM q).1.1 (commitM q).1.2.1 k' T' (st++bg)∧Done (commitM q).1.2.2 (commitM q).2.1 (st++bg) all∧(commitM q).1.2.2.key=q.2.2.key∧(commitM q).1.2.2.c=q.2.2.c∧(commitM q).1.2.2.size=q.2.2.size∧(commitM q).1.2.2.spoilt=false:=by
 have hc:=ar w.cfg
 have hs:=w.size
 have hmany:=w.many
 have hfit:=w.fit
 have hend:∀(p:Wr) (M:DiskM) (S:LogS) (k T:Nat) (st1:List av) (R:Re),QI lim m M S k T (st++st1)→Rc.rightM R=true→IsBytes R.f6→k < 1000→4200*(k+1)+10*(T+5308)≤m→
   ∃bg k' T',(commitEnd p R (laddM M S R)).2.2=0∧QI lim m (commitEnd p R (laddM M S R)).1.1 (commitEnd p R (laddM M S R)).1.2.1 k' T' (st++bg)∧(∀x∈st++st1,x∈st++bg)∧(((commitEnd p R (laddM M S R)).2.1.seg,(commitEnd p R (laddM M S R)).2.1.at_,R):av)∈st++bg∧
    (commitEnd p R (laddM M S R)).2.1.key=p.key∧(commitEnd p R (laddM M S R)).2.1.kind=R.f0∧(commitEnd p R (laddM M S R)).1.2.2={p with spoilt:=false,done:=true}:=by
  intro p M S k T st1 R hq hr h6 hk hmm
  obtain⟨z1,z2,z3,z4⟩:=aq hr
  obtain⟨e1,e2,hq2⟩:=hq.add hr h6 hk (by omega)
  unfold commitEnd
  rw[if_pos e1]
  exact⟨st1++[((laddM M S R).2.2.1,(laddM M S R).2.2.2.1,R)],_,_,rfl,by rw[← List.append_assoc];exact hq2,fun x hx=>by rw[← List.append_assoc];exact List.mem_append_left _ hx,by rw[← List.append_assoc];exact List.mem_append_right _ (List.mem_singleton.2 rfl),rfl,rfl,rfl⟩
 unfold commitM
 rw[if_neg w.state]
 unfold recM
 by_cases hsm:q.2.2.size≤q.2.2.c.small
 ·rw[if_pos hsm]
  obtain⟨e1,e2⟩:=w.small hsm
  have ba:q.2.2.held=all:=by
   have:=w.whole
   rw[e1,e2] at this
   exact this
  have gR:q.2.2.held.length≤4096:=by rw[ba];omega
  unfold commitR
  dsimp only
  rw[if_pos rfl]
  obtain⟨bg,k',T',g1,g2,g3,g4,g5,g6,g7⟩:=hend q.2.2 q.1 q.2.1 _ _ [] (inlineR q.2.2) (by rw[List.append_nil];exact h) (bK w.key gR) (by show IsBytes q.2.2.held;rw[ba];exact w.bytes) (by omega) (by omega)
  generalize commitEnd q.2.2 (inlineR q.2.2) (laddM q.1 q.2.1 (inlineR q.2.2))=r at *
  refine⟨bg,k',T',g1,g2,⟨by rw[g5,g7],.inl ⟨by rw[g7];show _≤q.2.2.c.small;omega,g6,?_⟩⟩,by rw[g7],by rw[g7],by rw[g7],by rw[g7]⟩
  rw[g7,← ba]
  exact g4
 ·rw[if_neg hsm]
  obtain⟨b1,b2⟩:=w.gH (by omega)
  have dM:=w.whole
  rw[b1,List.append_nil] at dM
  have hlen:=congrArg List.length dM
  rw[List.length_append] at hlen
  have hcl:∀x∈chs,1≤x.length∧x.length≤4096:=fun x hx=>by have:=w.each x hx;omega
  by_cases hle:q.2.2.left=[]
  ·rw[if_pos hle]
   unfold commitR
   dsimp only
   rw[if_pos rfl]
   rw[hle,List.append_nil] at dM
   have hr:=bX h.ti w.dU w.key w.id hmany.1 hcl (by rw[dM];exact hs) (by omega) (by omega)
   obtain⟨bg,k',T',g1,g2,g3,g4,g5,g6,g7⟩:=hend q.2.2 q.1 q.2.1 _ _ [] (rootR q.2.2) (by rw[List.append_nil];exact h) hr (fun x hx=>by cases hx) (by omega) (by omega)
   rw[List.append_nil] at g3
   generalize commitEnd q.2.2 (rootR q.2.2) (laddM q.1 q.2.1 (rootR q.2.2))=r at *
   refine⟨bg,k',T',g1,g2,⟨by rw[g5,g7],.inr ⟨by rw[g7];show q.2.2.c.small < _;omega,g6,chs,dM,hmany.1,?_,?_⟩⟩,by rw[g7],by rw[g7],by rw[g7],by rw[g7]⟩
   ·rw[g7];exact(w.dU.mono g3).same rfl rfl
   ·rw[g7,← hs]
    exact g4
  ·rw[if_neg hle]
   have fp:1≤q.2.2.left.length:=List.length_pos_iff.2 hle
   have hbl:IsBytes q.2.2.left:=by
    have:=w.bytes
    rw[← dM] at this
    exact(ay.1 this).2
   obtain⟨x,lo,e1,q1,p1,w1⟩:=QI.piece (q:=(q.1,q.2.1,{q.2.2 with left:=[]})) (b:=q.2.2.left) h (w.dU.same rfl rfl) w.id (hmany.2.2 hle) fp (by omega) hbl (by omega) (by omega)
   generalize pieceM (q.1,q.2.1,{q.2.2 with left:=[]}) q.2.2.left=r1 at e1 q1 p1 w1 ⊢
   rw[if_pos e1]
   unfold commitR
   dsimp only
   rw[if_pos rfl]
   have hfl:(chs++[q.2.2.left]).flatten=all:=by rw[List.flatten_append,List.flatten_cons,List.flatten_nil,List.append_nil];exact dM
   have hr:=bX (p:=r1.1.2.2) q1.ti p1 (by rw[w1];exact w.key) (by rw[w1];exact w.id) (by have:=hmany.2.2 hle;simp;omega) (fun y hy=>by
    rcases List.mem_append.1 hy with hy | hy
    ·exact hcl y hy
    ·rw[List.mem_singleton.1 hy];omega) (by rw[w1,hfl];exact hs) (by rw[w1];show 1≤q.2.2.size;omega) (by rw[w1];show q.2.2.size≤65536;omega)
   obtain⟨bg,k',T',g1,g2,g3,g4,g5,g6,g7⟩:=hend r1.1.2.2 r1.1.1 r1.1.2.1 _ _ [x] (rootR r1.1.2.2) q1 hr (fun x hx=>by cases hx) (by have:=hmany.2.2 hle;omega) (by omega)
   generalize commitEnd r1.1.2.2 (rootR r1.1.2.2) (laddM r1.1.1 r1.1.2.1 (rootR r1.1.2.2))=r at *
   have hcc:r.1.2.2.c=q.2.2.c:=by rw[g7,w1]
   have hkk:r.1.2.2.key=q.2.2.key:=by rw[g7,w1]
   refine⟨bg,k',T',g1,g2,⟨by rw[g5,g7],.inr ⟨by rw[hcc];omega,g6,chs++[q.2.2.left],hfl,by have:=hmany.2.2 hle;simp;omega,?_,?_⟩⟩,hkk,hcc,by rw[g7,w1],by rw[g7]⟩
   ·rw[g7];exact(p1.mono g3).same rfl rfl
   ·have e5:r1.1.2.2.size=(all.length:Int):=by rw[w1];exact hs
    rw[g7,← e5]
    exact g4
theorem QI.new (x:Int) (lim:Int) (hl:0≤(newM x).d.most):QI lim (newM x).d.most (newM x) ⟨lim,⟨[],1⟩,-1⟩ 0 0 []:=by
 refine⟨⟨_,_,_,PI.new x lim⟩,⟨Fit.new x,fun s t i h=>(by rw[show Dk.look (newM x).D s=none from rfl] at h;cases h),rfl,rfl⟩,rfl,show(1:Int)≤1∧(1:Int)≤100000000 by decide,Nat.zero_le _,fun n hn=>(by cases hn),.inl (show(-1:Int) < 0 by decide),fun x hx=>(by cases hx),List.Pairwise.nil⟩
abbrev iq:=St×List Int
structure AI (key:ByteArray) (c:Cfg) (s:iq) (i C:Nat):Prop where
 ex:∃K T0 st chs,QI 4096 16777216 s.1.1 s.1.2.1 (K+chs.length) (T0+(17*chs.length+chs.flatten.length)) st∧WI s.1.2.2 st s.2 chs∧K≤i∧T0≤60*i+C
 len:s.2.length≤C
 key:s.1.2.2.key=key
 c:s.1.2.2.c=c
theorem AI.new {key:ByteArray} {id:Int} {c:Cfg} (h1:rightC c=true) (h2:keyB key=true) (h3:withinB id 0 1099511627776=true):AI key c ((newM 16777216,⟨4096,⟨[],1⟩,-1⟩,wr0 key id c),[]) 0 0:=
 ⟨⟨0,0,[],[],QI.new 16777216 4096 (by decide),WI.new h1 h2 h3,Nat.le_refl _,Nat.le_refl _⟩,Nat.le_refl _,rfl,rfl⟩
theorem AI.commit {key:ByteArray} {c:Cfg} {s:iq} {i C:Nat} (h:AI key c s i C) (hi:i≤100) (hC:C≤20000):
  ∃bg,(commitM s.1).2.2=0∧TI 4096 (commitM s.1).1.1 (commitM s.1).1.2.1 bg∧Done (commitM s.1).1.2.2 (commitM s.1).2.1 bg s.2∧(commitM s.1).1.2.2.key=key∧(commitM s.1).1.2.2.c=c∧(commitM s.1).1.2.2.size=(s.2.length:Int):=by
 obtain⟨K,T0,st,chs,hq,hw,hK,hT⟩:=h.ex
 have hl:=h.len
 obtain⟨bg,k',T',g1,g2,g3,g4,g5,g6,g7⟩:=WI.commit hq hw (by omega) (by omega)
 exact⟨st++bg,g1,g2.ti,g3,by rw[g4,h.key],by rw[g5,h.c],by rw[g6,hw.size]⟩
theorem whole (x:Int) (lim:Int) {key:ByteArray} {id:Int} {c:Cfg} (h1:rightC c=true) (h2:keyB key=true) (h3:withinB id 0 1099511627776=true) (hm:(newM x).d.most=4194304) (b:List Int) (hB:IsBytes b) (hf:(b.length:Int)≤c.max):
  ∃q bg,writeM (newM x,⟨lim,⟨[],1⟩,-1⟩,wr0 key id c) b=(q,0)∧(commitM q).2.2=0∧TI lim (commitM q).1.1 (commitM q).1.2.1 bg∧Done (commitM q).1.2.2 (commitM q).2.1 bg b∧(commitM q).1.2.2.key=key∧(commitM q).1.2.2.c=c:=by
 have jb:=ar h1
 have ir:=QI.new x lim (by rw[hm];decide)
 rw[hm] at ir
 have hw0:=WI.new h1 h2 h3
 obtain⟨bg,cY,g1,g2,g3,g4,g5,g6⟩:=WI.write (q:=(newM x,⟨lim,⟨[],1⟩,-1⟩,wr0 key id c)) (K:=0) (T0:=0) (chs:=[]) ir hw0 b hB (by show((0:Nat):Int)+_≤c.max;omega) (by omega) (by simp only[List.length_nil];omega)
 rw[List.nil_append] at g3
 obtain⟨st2,k',T',c1,c2,c3,c4,c5,c6,c7⟩:=WI.commit (K:=0) (T0:=0) g2 g3 (by omega) (by rw[List.nil_append];omega)
 exact⟨_,_,Prod.ext rfl g1,c1,c2.ti,c3,by rw[c4,g4];rfl,by rw[c5,g6];rfl⟩
end Pu
end
end Go.Proofs.YtcieieacfoaklaaGreat
section
namespace Go.Proofs.YtcieieacfoaklaaGreat.Pw
open Go.RowKit Go.Maps Fr Ext Dk Mn Lg Pu YtcieieacfoaklaaGreatW.PrintWords YtcieieacfoaklaaGreatW.PrintLast
open Rc (Re Lo zeroR recC keyB withinB)
abbrev cN:ByteArray:=⟨#[107]⟩
abbrev dg:Cfg:=⟨4,6,200,128,4⟩
def gI:St:=(newM 10000,⟨128,⟨[],1⟩,-1⟩,wr0 cN 7 dg)
def ey:List Int:=[97,98,99,100,101,102]
def eA:List Int:=[103,104,105]
def eC:List Int:=List.replicate 192 0
def he1:St:=(writeM gI ey).1
def he2:St:=(writeM he1 eA).1
def bY:St:=(commitM he2).1
theorem bZ:rightC dg=true:=by decide
theorem dt:keyB cN=true:=by decide+kernel
theorem eZ:(writeM gI ey).2=0∧(locsW he1.2.2).length=0:=by decide+kernel
theorem fc:(writeM he1 eA).2=0∧(locsW he2.2.2).length=2:=by decide+kernel
theorem fe:stateM he2.2.2=0∧(eC.length:Int) > wrap64 (he2.2.2.c.max - he2.2.2.size):=by decide+kernel
theorem fS:(commitM he2).2.2=0:=by decide+kernel
theorem dN:stateM bY.2.2=3∧bY.2.2.size=9∧bY.2.2.spoilt=false:=by decide+kernel
theorem fq:(getLM bY.1 bY.2.1 (commitM he2).2.1.seg (commitM he2).2.1.at_).2=0∧(getLM bY.1 bY.2.1 (commitM he2).2.1.seg (commitM he2).2.1.at_).1.f0=2∧(getLM bY.1 bY.2.1 (commitM he2).2.1.seg (commitM he2).2.1.at_).1.f4=9∧(getLM bY.1 bY.2.1 (commitM he2).2.1.seg (commitM he2).2.1.at_).1.f5.length=3∧((getLM bY.1 bY.2.1 (commitM he2).2.1.seg (commitM he2).2.1.at_).1.f5[2]?.map (·.f2))=some 1:=by decide+kernel
theorem ft:newW ⟨#[]⟩ 7 dg=none:=if_neg (fun h=>absurd h.2.1 (by decide+kernel))
theorem fu:newW cN 7 ⟨0,0,0,0,0⟩=none:=if_neg (fun h=>absurd h.1 (by decide))
end Go.Proofs.YtcieieacfoaklaaGreat.Pw
end
namespace Go.Proofs.YtcieieacfoaklaaGreat
open Go.RowKit YtcieieacfoaklaaGreatW.PrintWords YtcieieacfoaklaaGreatW.PrintLast YtcieieacfoaklaaGreatW.PrintMore Go.Proofs.YtcieieacfoaklaaGreat.Nm
section
namespace Pw
open Go.Shelf Go.Maps Fr Ext Pt Dk Mn Pu Ct Lg
open Rc (Re Lo withinB keyB zeroR recC Norm Norm.intro Norm.elim)
variable {W w w' w1:World} {B l g wb cb c N k n:Nat} {M M':DiskM} {F F' G:Nat→Prop} {S S':LogS} {p p':Wr} {hv pv hv' pv':Value} {A A':Option Addr} {q q':St} {b:List Int}
theorem eQ {w W':World} {wb:Nat} {xs:List Int} (fr:Nat×Nat) (hn:xs.length≤1000000) (hw:wb < w.heap.size) (h:Keeps (fun j=>j=wb) (w.alloc (.cells (nums .u8 xs).toArray 5 fr)) W'):Kd.C (Kd.int .u8) W' (some ⟨w.heap.size,0,none⟩) xs.length xs:=
 C_blk (const_reads w 5 .u8 fr xs (by omega)) (fun a e=>by
  cases e
  exact h.block _ (by rw[World.size_alloc];exact Nat.lt_succ_self _) (fun e=>by simp only at e;omega))
theorem AtW.start {W w w':World} {key:ByteArray} {id:Int} {c:Cfg} (hb:RowKit.Below W.heap.size W w) (hd:DiskAt w W.heap.size g 0 M F) (hM:Fit M) (hl:LogO w W.heap.size l g F S) (hs:S.man.segs.length≤1000000) (hc:rightC c=true) (hb2:RowKit.Below w.heap.size w w') (h1:w.heap.size≤wb) (h2:w.heap.size≤cb) (h3:w'.heap[wb]? =some (.cells (wrC cb l (wr0 key id c) (.slice none 0 0) (.slice none 0 0)) 88 (0,0))) (h4:w'.heap[cb]? =some (.cells #[.int .i64 c.piece,.int .i64 0,.slice none 0 0] 117 (0,0))):AtW W w' l g wb cb (M,S,wr0 key id c) 0 0:=by
 have hx:∀k,LX F l k→k < w.heap.size:=fun k hk=>hk.elim (hd.lt k) (fun e=>e ▸ hl.lt)
 have hp:=ar hc
 exact⟨⟨F,_,_,none,0,(hd.below hb2).mono (Nat.zero_le _),hl.below hb2,WrO.new h3 h4 (fun hk=>by have:=hx _ hk;omega) (fun hk=>by have:=hx _ hk;omega) (Nat.le_trans hb.size h1) (Nat.le_trans hb.size h2)⟩,hb.trans (hb2.mono hb.size),hM,hs,Nat.le_refl _,(fun z hz=>by cases hz),hp.1,hp.2.1⟩
theorem dV (w:World):Calls Tryz.prog 25 #[] w fun e w'=>e=.returned (.agg (cfgV dg))∧RowKit.Below w.heap.size w w':=by
 have hz:=heap_alloc_new w (.cells (cfgV ⟨0,0,0,0,0⟩) 23)
 have hb:=below_alloc (RowKit.Below.refl w.heap.size w) (.cells (cfgV ⟨0,0,0,0,0⟩) 23)
 go_enter Tryz.func25,Tryz.ntmps25
 go_upto_region 1 with(fail)
 generalize hw1:w.alloc (.cells #[.int .i64 0,.int .i64 0,.int .i64 0,.int .i64 0,.int .i64 0] 23)=w1 at hz hb ⊢
 clear hw1
 have x0:=bq hz 0 (.int .i64 0)
 have x1:=bq hz 1 (.int .i64 0)
 have x2:=bq hz 2 (.int .i64 0)
 have x3:=bq hz 3 (.int .i64 0)
 have x4:=bq hz 4 (.int .i64 0)
 have z0:=blk_frozen hz 0
 have z1:=blk_frozen hz 1
 have z2:=blk_frozen hz 2
 have z3:=blk_frozen hz 3
 have z4:=blk_frozen hz 4
 have HZ:=ak hz
 have HB:=ak hb
 clear hz hb
 go_wp2
 refine bodyPost_ret (results_cell_row rfl _ _ w.heap.size 23 (cfgV dg) (0,0) _ rfl (blk_put (blk_put (blk_put (blk_put (blk_put HZ.out 0 _ rfl) 1 _ rfl) 2 _ rfl) 3 _ rfl) 4 _ rfl) Tryz.underlying23 rfl (by kernel_rfl)) rfl ?_
 exact⟨rfl,((((HB.out.setCell (p:=⟨_,0,none⟩) (Nat.le_refl _) _).setCell (p:=⟨_,1,none⟩) (Nat.le_refl _) _).setCell (p:=⟨_,2,none⟩) (Nat.le_refl _) _).setCell (p:=⟨_,3,none⟩) (Nat.le_refl _) _).setCell (p:=⟨_,4,none⟩) (Nat.le_refl _) _⟩
theorem fw (n:Nat):IsBytes (List.replicate n 0):=fun z hz=>by
 rw[List.eq_of_mem_replicate hz]
 decide
theorem dv (n:Nat):madeCells #[.int .u8 0] n=(nums .u8 (List.replicate n 0)).toArray:=by
 apply Array.ext
 ·simp [madeCells,nums]
 ·intro i h1 h2
  simp [madeCells,nums,Nat.mod_one]
theorem fT:IsBytes ey:=by intro z hz;simp [ey] at hz;omega
theorem fU:IsBytes eA:=by intro z hz;simp [eA] at hz;omega
theorem make_calls (n:Nat) (h:n≤1000000):∀W:World,(Instr.makeSlice 35 (.int .i64 n) (.int .i64 n)).run Tryz.prog W=.ok (.slice (some ⟨W.heap.size,0,none⟩) n n) (W.alloc (.cells (nums .u8 (List.replicate n 0)).toArray 5)):=by
 intro W
 rw[← dv]
 exact print_make (P:=Tryz.prog) 35 5 .u8 1 Tryz.underlying35 info5 (by decide) n (by omega) W
theorem AtW.fx (h:AtW W w l g wb cb q k n) (hk:k≤50000) (hb:IsBytes b) (hn:n+b.length≤500000) (Ab:Option Addr) (c6:Nat) (hc6:b.length≤c6) (hC:Kd.C (Kd.int .u8) W Ab b.length b):
  Calls Tryz.prog 14 #[ptr wb,.slice Ab b.length c6] w fun e w'=>e=.returned (.int .i64 (writeM q b).2)∧AtW W w' l g wb cb (writeM q b).1 (k+1) (n+b.length):=by
 have hx:=h.ex
 obtain⟨F,hv,pv,A,c,h1⟩:=hx
 exact h.write hk hb hn Ab c6 hc6 (fun W' hK=>Kd.C_below hC (Rc.below_keeps h.bel hK (fun j e=>e ▸ h1.wr.above)))
theorem AtW.lt (h:AtW W w l g wb cb q k n):wb < w.heap.size:=by
 obtain⟨F,hv,pv,A,c,h1⟩:=h.ex
 exact h1.wr.lt
theorem AtW.dw (fr:Nat×Nat) (h:AtW W w l g wb cb q k n) (hk:k≤50000) (hb:IsBytes b) (hn:n+b.length≤500000):
  Calls Tryz.prog 14 #[ptr wb,.slice (some ⟨w.heap.size,0,none⟩) b.length b.length] (w.alloc (.cells (nums .u8 b).toArray 5 fr)) fun e w'=>e=.returned (.int .i64 (writeM q b).2)∧AtW W w' l g wb cb (writeM q b).1 (k+1) (n+b.length):=
 (h.below (below_alloc (RowKit.Below.refl _ _) _)).write hk hb hn _ _ (Nat.le_refl _) (fun W' hK=>eQ fr (by omega) h.lt hK)
theorem AtW.eR (h:AtW W w l g wb cb q k n) (hk:k≤50000) (hn:n≤500000) (o:Obj):Calls Tryz.prog 15 #[ptr wb] (w.alloc o) fun e w'=>e=.returned (.tuple #[.agg (placeV (commitM q).2.1),.int .i64 (commitM q).2.2])∧AtW W w' l g wb cb (commitM q).1 (k+1) n∧w'.heap[w.heap.size]? =some o:=by
 obtain⟨F,hv,pv,A,c,h1⟩:=h.ex
 have hl:=h.ok.len
 have hb:=below_alloc (RowKit.Below.refl w.heap.size w) o
 refine(commit_calls (h1.below hb) h.ok.fit h.ok.segs (by omega) (by omega) (isB_left h.ok.bytes)).mono ?_
 rintro e w' ⟨rfl,ht⟩
 refine⟨rfl,AtW.to (h1.below hb) (h.bel.trans (hb.mono h.bel.size)) ht (by omega) h.ok.commit,?_⟩
 obtain⟨F',hv',pv',A',c',-,-,-,-,h5⟩:=ht
 refine h5.obj (heap_alloc_new w o) (fun hk=>?_)
 rcases hk with hk | hk | hk | hk
 ·have:=h1.xlt _ hk;omega
 ·have:=h1.wr.lt;omega
 ·have:=blk_lt h1.wr.cut.st;omega
 ·have:=Kd.R_lt h1.wr.rows _ hk.symm;omega
theorem fy:writeM he2 eC=(he2,2):=by
 unfold writeM
 rw[if_neg (by rw[fe.1];decide),if_pos fe.2]
theorem fz:commitM bY=(bY,noPl,3):=by
 unfold commitM
 rw[if_pos (by rw[dN.1];decide),dN.1]
theorem fA:∃R:Re,getLM bY.1 bY.2.1 (commitM he2).2.1.seg (commitM he2).2.1.at_=(R,0)∧R.f0=2∧R.f4=9∧∃x y z,R.f5=[x,y,z]∧z.f2=1:=by
 obtain⟨h1,h2,h3,h4,h5⟩:=fq
 generalize getLM bY.1 bY.2.1 (commitM he2).2.1.seg (commitM he2).2.1.at_=r at *
 obtain⟨R,e⟩:=r
 dsimp only at *
 refine⟨R,by rw[h1],h2,h3,?_⟩
 match hl:R.f5,h4 with
 | [x,y,z],_=>
  rw[hl] at h5
  exact⟨x,y,z,rfl,Option.some.inj h5⟩
theorem dx (W:World):Calls Tryz.prog 8 #[] W fun e w'=>e=.returned (.bool true)∧RowKit.Below W.heap.size W w':=by
 have fV:=ak (new? 10000 W.heap.size W (Nat.le_refl _))
 have fB:=ak (fun w=>dV w)
 go_enter Tryz.func8,Tryz.ntmps8
 go_upto_region 2 with(go_at_call 9;(with_reducible refine fV.out.mono ?_);rintro e w1 ⟨g,F,rfl,hd1,hf1,hb1⟩;have HD1:=ak hd1;have HB1:=ak hb1;clear hd1 hf1 hb1)
 have hop:=open_calls HD1.out (Fit.new _) 128
 rw[show openM (newM 10000) 128=(some ⟨128,⟨[],1⟩,-1⟩,0) from rfl] at hop
 have fW:=ak hop
 clear hop fV
 go_upto_region 5 with(go_at_call 11;(with_reducible refine fW.out.mono ?_);rintro e w2 ⟨hb2,l,rfl,ho2,hl2⟩;have HB2:=ak (HB1.out.trans (hb2.mono HB1.out.size));have HD2:=ak (HD1.out.below hb2);have HO2:=ak ho2;clear hb2 ho2 hl2)
 clear fW HD1 HB1
 go_upto_region 8 with(first
  | (go_at_call 25;(with_reducible refine(fB.out _).mono ?_);rintro e w3 ⟨rfl,hb3⟩;have HD3:=ak (HD2.out.below hb3);have HO3:=ak (HO2.out.below hb3);have HB3:=ak (HB2.out.trans (hb3.mono HB2.out.size));have HN1:=ak (new_some l cN 7 dg w3 bZ dt (by decide));clear hb3)
  | (go_at_call 12;(with_reducible refine HN1.out.mono ?_);rintro e w4 ⟨wb,cb,rfl,hb4,hw4,hc4,ho4,iu⟩;have iv:=ak (AtW.start HB3.out HD3.out (Fit.new _) HO3.out (Nat.zero_le _) bZ hb4 hw4 hc4 ho4 iu);clear hb4 hw4 hc4 ho4 iu))
 clear HN1 HD2 HO2 HB2 HD3 HO3 HB3
 have iw:=ak (fun w=>new_none l ⟨#[]⟩ 7 dg w ft)
 have HNB:=ak (fun w=>new_none l cN 7 ⟨0,0,0,0,0⟩ w fu)
 go_upto_region 10 with(first
  | (go_at_call 25;(with_reducible refine(fB.out _).mono ?_);rintro e w5 ⟨rfl,hb5⟩;have fX:=ak (iv.out.below hb5);clear hb5)
  | (go_at_call 12;(with_reducible refine(iw.out _).mono ?_);rintro e w6 ⟨rfl,hb6⟩;have fJ:=ak (fX.out.below hb6);clear hb6)
  | (go_at_call 12;(with_reducible refine(HNB.out _).mono ?_);rintro e w7 ⟨rfl,hb7⟩;have eD:=ak (fJ.out.below hb7);clear hb7))
 clear iw HNB iv fX fJ
 have eD:=ak (show AtW W w7 l g wb cb gI 0 0 from eD.out)
 have kc:=fun(w:World) (C:Array Value) (n c:Nat)=>Lib.run_convert_bytes_const (P:=Tryz.prog) w 35 5 C n c Tryz.underlying35 Tryz.underlying5
 have ix:=ak (show Calls Tryz.prog 14 #[ptr wb,.slice (some ⟨w7.heap.size,0,none⟩) 6 6] (w7.alloc (.cells #[.int .u8 97,.int .u8 98,.int .u8 99,.int .u8 100,.int .u8 101,.int .u8 102] 5 (6,7))) (fun e w'=>e=.returned (.int .i64 0)∧AtW W w' l g wb cb he1 1 6) from(eD.out.dw (6,7) (q:=gI) (b:=ey) (by decide) fT (by decide)).mono (by rintro e w' ⟨rfl,h⟩;exact⟨by rw[eZ.1],h⟩))
 go_upto_region 11 with(go_at_call 14;(with_reducible refine ix.out.mono ?_);rintro e w8 ⟨rfl,h8⟩;have gS:=ak h8;clear h8)
 have HL8:=ak (show Calls Tryz.prog 19 #[ptr wb] w8 (fun e w'=>∃A' c',e=.returned (.slice A' 0 c')∧RowKit.Below w8.heap.size w8 w') from(gS.out.locs (by decide)).mono (by rintro e w' ⟨A',c',rfl,-,hb⟩;rw[eZ.2];exact⟨A',c',rfl,hb⟩))
 go_upto_region 12 with(go_at_call 19;(with_reducible refine HL8.out.mono ?_);rintro e w9 ⟨A8,c8,rfl,hb⟩;have iy:=ak (gS.out.below hb);clear hb)
 have iz:=ak (show Calls Tryz.prog 14 #[ptr wb,.slice (some ⟨w9.heap.size,0,none⟩) 3 3] (w9.alloc (.cells #[.int .u8 103,.int .u8 104,.int .u8 105] 5 (3,4))) (fun e w'=>e=.returned (.int .i64 0)∧AtW W w' l g wb cb he2 2 9) from(iy.out.dw (3,4) (q:=he1) (b:=eA) (by decide) fU (by decide)).mono (by rintro e w' ⟨rfl,h⟩;exact⟨by rw[fc.1],h⟩))
 go_upto_region 13 with(go_at_call 14;(with_reducible refine iz.out.mono ?_);rintro e fY ⟨rfl,h10⟩;have fC:=ak h10;clear h10)
 have fZ:=ak (show Calls Tryz.prog 19 #[ptr wb] fY (fun e w'=>∃A' c',e=.returned (.slice A' 2 c')∧RowKit.Below fY.heap.size fY w') from(fC.out.locs (by decide)).mono (by rintro e w' ⟨A',c',rfl,-,hb⟩;rw[fc.2];exact⟨A',c',rfl,hb⟩))
 go_upto_region 14 with(go_at_call 19;(with_reducible refine fZ.out.mono ?_);rintro e w11 ⟨jw,c10,rfl,hb⟩;have gb:=ak (fC.out.below hb);clear hb)
 clear ix iz HL8 fZ eD gS iy fC
 have jc:∀W:World,(Instr.makeSlice 35 (.int .i64 192) (.int .i64 192)).run Tryz.prog W=.ok (.slice (some ⟨W.heap.size,0,none⟩) 192 192) (W.alloc (.cells (nums .u8 eC).toArray 5)):=make_calls 192 (by decide)
 have HW3:=ak (show Calls Tryz.prog 14 #[ptr wb,.slice (some ⟨w11.heap.size,0,none⟩) 192 192] (w11.alloc (.cells (nums .u8 eC).toArray 5)) (fun e w'=>e=.returned (.int .i64 2)∧AtW W w' l g wb cb he2 3 201) from(gb.out.dw (0,0) (q:=he2) (b:=eC) (by decide) (fw 192) (by decide)).mono (by rintro e w' ⟨rfl,h⟩;exact(by rw[fy] at h ⊢;exact⟨rfl,h⟩)))
 go_upto_region 15 with(go_at_call 14;(with_reducible refine HW3.out.mono ?_);rintro e gh ⟨rfl,h12⟩;have gi:=ak h12;clear h12)
 clear jc HW3 gb
 obtain⟨pl,hpl⟩:∃pl,(commitM he2).2.1=pl:=⟨_,rfl⟩
 have HPL:=ak hpl
 have HC1:=ak (show Calls Tryz.prog 15 #[ptr wb] gh (fun e w'=>e=.returned (.tuple #[.agg #[.int .i64 pl.seg,.int .i64 pl.kind,.string pl.key,.int .i64 pl.at_,.int .i64 pl.size],.int .i64 0])∧AtW W w' l g wb cb bY 4 201) from(gi.out.commit (by decide) (by decide)).mono (by rintro e w' ⟨rfl,h⟩;rw[fS,hpl];exact⟨rfl,h⟩))
 clear hpl
 go_upto_region 16 with(go_at_call 15;(with_reducible refine HC1.out.mono ?_);rintro e w13 ⟨rfl,iA⟩;have gj:=ak iA;clear iA)
 have HC2:=ak (show Calls Tryz.prog 15 #[ptr wb] (w13.alloc (.cells #[.int .i64 pl.seg,.int .i64 pl.kind,.string pl.key,.int .i64 pl.at_,.int .i64 pl.size] 47)) (fun e w'=>e=.returned (.tuple #[.agg #[.int .i64 0,.int .i64 0,.string ⟨#[]⟩,.int .i64 0,.int .i64 0],.int .i64 3])∧AtW W w' l g wb cb bY 5 201∧w'.heap[w13.heap.size]? =some (.cells (placeV pl) 47 (0,0))) from(gj.out.eR (by decide) (by decide) _).mono (by rintro e w' ⟨rfl,h⟩;rw[fz] at h ⊢;exact⟨rfl,h⟩))
 clear gi HC1
 go_upto_region 17 with(go_at_call 15;(with_reducible refine HC2.out.mono ?_);rintro e gT ⟨rfl,iB,gl⟩;have gp:=ak iB;have fD:=ak gl;clear iB gl)
 have eT:=below_alloc (RowKit.Below.refl gT.heap.size gT) (.cells #[.int .i64 0,.int .i64 0,.string ⟨#[]⟩,.int .i64 0,.int .i64 0] 47)
 generalize gU:gT.alloc (.cells #[.int .i64 0,.int .i64 0,.string ⟨#[]⟩,.int .i64 0,.int .i64 0] 47)=w15 at eT ⊢
 clear gU
 have fE:=ak (gp.out.below eT)
 have fF:=(eT.block _ (blk_lt fD.out)).trans fD.out
 have y0:=bq fF 0 (.int .i64 pl.seg)
 have y3:=bq fF 3 (.int .i64 pl.at_)
 clear eT fF HC2 fD gp gj
 obtain⟨R,hR,iC,iD,x,y,z,hR5,hz2⟩:=fA
 rw[HPL.out] at hR
 have hget:=fE.out.get pl.seg pl.at_
 rw[hR] at hget
 unfold Sg.GotE at hget
 simp only[recC] at hget
 rw[iC,iD,hR5] at hget
 have HG:=ak hget
 have HZ2:=ak hz2
 clear hget hR iC iD hR5 hz2
 go_upto_region 18 with(go_at_call 26;(with_reducible refine HG.out.mono ?_);rintro e gJ ⟨A5,c5,A6,c6,rfl,h5,-,hb⟩;have gq:=ak (fE.out.below hb);have H5:=ak h5;clear h5 hb)
 clear y0 y3
 have eE:=heap_alloc_new gJ (.cells #[.int .i64 2,.string R.f1,.int .i64 R.f2,.int .i64 R.f3,.int .i64 9,.slice A5 3 c5,.slice A6 R.f6.length c6] 38)
 have eU:=below_alloc (RowKit.Below.refl gJ.heap.size gJ) (.cells #[.int .i64 2,.string R.f1,.int .i64 R.f2,.int .i64 R.f3,.int .i64 9,.slice A5 3 c5,.slice A6 R.f6.length c6] 38)
 obtain⟨gg,e5⟩:∃gg,A5=some ⟨gg,0,none⟩:=by
  obtain⟨-,inner,hown,-⟩:=H5.out
  rcases hown.2 with⟨h,-⟩ | ⟨gg,cap,cur,he,-⟩
  ·cases h
  ·cases he;exact⟨gg,rfl⟩
 subst e5
 obtain⟨ad,e5,-,-,hl2⟩:=at_lo (xs:=[x,y,z]) (Kd.C_below (Kd.R_reads' H5.out).2.2 eU) 2 (show 2 < 3 by decide)
 cases e5
 generalize gV:gJ.alloc (.cells #[.int .i64 2,.string R.f1,.int .i64 R.f2,.int .i64 R.f3,.int .i64 9,.slice (some ⟨gg,0,none⟩) 3 c5,.slice A6 R.f6.length c6] 38)=jd at eE eU hl2 ⊢
 clear gV
 have fG:=ak (gq.out.below eU)
 have x0:=bq eE 0 (.int .i64 2)
 have x4:=bq eE 4 (.int .i64 9)
 have x5:=bq eE 5 (.slice (some ⟨gg,0,none⟩) 3 c5)
 have x7:jd.cell? ⟨gg,8,none⟩=some (.int .i64 1):=by rw[← HZ2.out];exact hl2
 have je:=ak (fun w h=>(AtW.size (w:=w) (W:=W) (l:=l) (g:=g) (wb:=wb) (cb:=cb) (q:=bY) (k:=5) (n:=201) h).mono (fun e w' he=>(show e=.returned (.int .i64 9)∧w'=w from⟨he.1.trans (by rw[dN.2.1]),he.2⟩)))
 have jf:=ak (fun w h=>(AtW.spoilt (w:=w) (W:=W) (l:=l) (g:=g) (wb:=wb) (cb:=cb) (q:=bY) (k:=5) (n:=201) h).mono (fun e w' he=>(show e=.returned (.bool false)∧w'=w from⟨he.1.trans (by rw[dN.2.2]),he.2⟩)))
 have HRI:=ak (fun w=>(right_calls dg w).mono (fun e w' he=>(show e=.returned (.bool true)∧RowKit.Below w.heap.size w w' from⟨he.1.trans (by rw[bZ]),he.2⟩)))
 clear eE eU hl2 fE HG gq H5
 go_wp2_with (first
  | (go_at_call 17;(with_reducible refine(je.out _ fG.out).mono ?_);rintro e jg ⟨rfl,hw⟩;obtain rfl:=hw.symm)
  | (go_at_call 22;(with_reducible refine(jf.out _ fG.out).mono ?_);rintro e jg ⟨rfl,hw⟩;obtain rfl:=hw.symm)
  | (go_at_call 25;(with_reducible refine(fB.out _).mono ?_);rintro e jx ⟨rfl,gu⟩;have gW:=ak (fG.out.below gu);clear gu)
  | (go_at_call 18;(with_reducible refine(HRI.out _).mono ?_);rintro e jy ⟨rfl,gw⟩;have gX:=ak (gW.out.below gw);clear gw))
 go_ret
 exact⟨rfl,gX.out.bel⟩
end Pw
namespace Pu
open Go.Shelf Go.Maps Fr Ext Dk Mn Qd
open Sg (segN segN_ascii firstB firstB_bytes makeM putF)
open Lg
open Rc (Re Lo)
open Gt (aq aX)
open Th (aI ai)
variable {M M':DiskM} {S:LogS} {c c':View} {s t:ByteArray} {a n a' n' k T:Nat} {m lim:Int} {b bs:List Int} {x:Int}
theorem ag.swap (h:ag M c a n m) (hf:Fit M') (e1:M'.D=M.D) (e2:M'.fs=M.fs) (e3:M'.d.fi=false) (e4:M'.d.ci=false) (e5:M'.d.down=false) (e6:M'.d.most=M.d.most):ag M' c a n m:=by
 refine⟨⟨hf,by rw[e1];exact h.quiet.inj,e3,e4,e5⟩,?_,?_,by rw[e2];exact h.files,e6.trans h.most⟩
 ·rw[← h.aC]
  funext t
  unfold Qd.aC
  rw[e1,e2]
 ·have:=h.tot
  unfold Qd.tot at *
  rw[e2]
  exact this
structure SF (M:DiskM) (c:View) (a n:Nat) (m:Int):Prop where
 calm:Th.Calm M
 sees:ag (aI M) c a n m
theorem SF.aQ (h:SF M c a n m) (ha:a≤a') (hn:n≤n'):SF M c a' n' m:=⟨h.calm,h.sees.aQ ha hn⟩
theorem bt (h:Th.Calm M):thingE M.d=0∨thingE M.d=81:=by
 unfold Dk.thingE nowB
 rw[h.ci,Bool.false_and,if_neg (by decide)]
 split
 ·exact .inr rfl
 ·exact .inl rfl
theorem SF.nums (h:SF M c a n m):SF {M with d:=Dk.thingN M.d} c a n m:=
 ⟨h.calm.nums,ag.swap h.sees (h.calm.nums.fit.nums rfl) rfl rfl rfl h.calm.thingN.1 h.calm.thingN.2.1 h.calm.thingN.2.2⟩
theorem SF.of {r q:DiskM} (hc:Th.Calm r) (hs:ag q c a n m) (e1:r.D=q.D) (e2:r.fs=q.fs) (e3:r.d.most=q.d.most):SF r c a n m:=
 ⟨hc,ag.swap hs (hc.fit.nums rfl) e1 e2 rfl hc.ci hc.down e3⟩
def eV (r:DiskM×Int) (c:View) (a n:Nat) (m:Int):Prop:=(r.2=0∧SF r.1 c a n m)∨r.2=81
theorem cg (h:Th.Calm M):(Dk.thingN (aI M).d).most=(Dk.thingN M.d).most:=by rw[thingN_most,thingN_most];rfl
theorem dh (M:DiskM):∀l,sumM (aI M) l=sumM M l
 | []=>rfl
 | x::l=>by
  show lenM (aI M) x+sumM (aI M) l=lenM M x+sumM M l
  rw[dh M l]
  rfl
theorem cD (M:DiskM):usedM (aI M)=usedM M:=by
 unfold usedM
 rw[show strKeys (aI M).D=strKeys M.D from rfl,dh]
theorem SF.create (h:SF M c a n m) (ha:Ascii s) (hs:rightN s=true) (hc:c s=none) (hn:n < 4096):((createM M s).2=0∧SF (createM M s).1 (upd c s (some [])) a (n+1) m)∨((createM M s).2=81∧SF (createM M s).1 c a (n+1) m):=by
 have hC:=(h.calm.create s ha).1.1
 obtain⟨q1,q2⟩:=h.sees.create ha hs hc hn
 have hl:Dk.look M.D s=none:=h.sees.cF hc
 have hz:Maps.size M.D≤M.fs.length:=h.sees.quiet.size
 have hfl:M.fs.length≤n:=h.sees.files
 unfold createM at *
 rw[h.calm.down,if_neg (by decide),hs,if_neg (by decide),hl,if_neg (by decide),if_neg (by omega)] at hC ⊢
 rw[show(aI M).d.down=false from h.calm.down,if_neg (by decide),hs,if_neg (by decide),show Dk.look (aI M).D s=none from hl,if_neg (by decide),if_neg (by show ¬Maps.size M.D≥4096;omega),if_pos h.sees.quiet.thing] at q2
 rcases bt h.calm with ht | ht
 ·rw[if_pos ht] at hC ⊢
  exact .inl ⟨rfl,SF.of hC q2 rfl rfl (cg h.calm).symm⟩
 ·rw[if_neg (by rw[ht];decide)] at hC ⊢
  refine .inr ⟨ht,hC,?_⟩
  refine⟨⟨hC.fit.nums rfl,hC.inj,rfl,hC.ci,hC.down⟩,?_,?_,?_,?_⟩
  ·rw[← h.sees.aC]
   funext t
   exact Th.bH h.calm.fit
  ·show((M.fs++[(⟨[],0,M.d.made⟩:FileM)]).map fun f=>f.b.length).sum≤a
   have h4:(M.fs.map fun f=>f.b.length).sum≤a:=h.sees.tot
   rw[List.map_append,List.sum_append]
   simpa using h4
  ·show(M.fs++[(⟨[],0,M.d.made⟩:FileM)]).length≤n+1
   rw[List.length_append,List.length_singleton]
   omega
  ·show(Dk.thingN M.d).most=m
   rw[thingN_most];exact h.sees.most
theorem SF.append (h:SF M c a n m) (hb:IsBytes bs) (hc:c s=some b) (hr:(a+bs.length:Nat)≤m):((appendM M s bs).2=0∧SF (appendM M s bs).1 (upd c s (some (b++bs))) (a+bs.length) n m)∨((appendM M s bs).2=81∧SF (appendM M s bs).1 c a n m):=by
 have hC:=(h.calm.append s bs hb).1.1
 obtain⟨q1,q2⟩:=h.sees.append hb hc hr
 obtain⟨i,h1,h2⟩:=h.sees.look hc
 have h1':Dk.look M.D s=some i:=h1
 have hu:=h.calm.fit.used
 have iP:=h.calm.fit.most
 have iQ:usedM M≤tot M:=by rw[← cD];exact h.sees.quiet.used
 have ht:tot M≤a:=h.sees.tot
 have hm:M.d.most=m:=h.sees.most
 have e1:wrap64 (M.d.most - usedM M)=M.d.most - usedM M:=by unfold wrap64;omega
 unfold appendM at *
 rw[h.calm.down,if_neg (by decide),h1'] at hC ⊢
 rw[show(aI M).d.down=false from h.calm.down,if_neg (by decide),h1] at q2
 dsimp only at hC q2 ⊢
 rw[if_neg (by rw[e1];omega)] at hC ⊢
 rw[cD,show(aI M).d.most=M.d.most from rfl,if_neg (by rw[e1];omega),if_pos h.sees.quiet.thing] at q2
 rcases bt h.calm with ht | ht
 ·rw[if_pos ht] at hC ⊢
  exact .inl ⟨rfl,SF.of hC q2 rfl rfl (cg h.calm).symm⟩
 ·rw[if_neg (by rw[ht];decide)]
  exact .inr ⟨ht,h.nums⟩
theorem SF.sync (h:SF M c a n m) (hc:c s=some b):((syncM M s).2=0∧SF (syncM M s).1 c a n m)∨((syncM M s).2=81∧SF (syncM M s).1 c a n m):=by
 have hC:=(h.calm.sync (X:=fun _=>True) s).1
 obtain⟨q1,q2⟩:=h.sees.sync hc
 obtain⟨i,h1,h2⟩:=h.sees.look hc
 have h1':Dk.look M.D s=some i:=h1
 unfold syncM at *
 rw[h.calm.down,if_neg (by decide),h1'] at hC ⊢
 rw[show(aI M).d.down=false from h.calm.down,if_neg (by decide),h1] at q2
 dsimp only at hC q2 ⊢
 rw[if_pos h.sees.quiet.thing] at q2
 rcases bt h.calm with ht | ht
 ·rw[if_pos ht] at hC ⊢
  exact .inl ⟨rfl,SF.of hC q2 rfl rfl (cg h.calm).symm⟩
 ·rw[if_neg (by rw[ht];decide)]
  exact .inr ⟨ht,h.nums⟩
theorem SF.syncDir (h:SF M c a n m):eV (syncDirM M) c a n m:=by
 have hC:=(h.calm.syncDir (X:=fun _=>True)).1
 obtain⟨q1,q2⟩:=h.sees.syncDir
 unfold syncDirM at *
 rw[h.calm.down,if_neg (by decide)] at hC ⊢
 rw[show(aI M).d.down=false from h.calm.down,if_neg (by decide),if_pos h.sees.quiet.thing] at q2
 rcases bt h.calm with ht | ht
 ·rw[if_pos ht] at hC ⊢
  exact .inl ⟨rfl,SF.of hC q2 rfl rfl (cg h.calm).symm⟩
 ·rw[if_neg (by rw[ht];decide)]
  exact .inr ht
theorem SF.rename (h:SF M c a n m) (ht:Ascii t) (hr:rightN t=true) (hc:c s=some b) (hne:t≠s):eV (renameM M s t) (upd (upd c s none) t (some b)) a n m:=by
 have hC:=(h.calm.rename s t ht).1
 obtain⟨q1,q2⟩:=h.sees.rename ht hr hc hne
 obtain⟨i,h1,h2⟩:=h.sees.look hc
 have h1':Dk.look M.D s=some i:=h1
 have hb:(t.toList==s.toList)=false:=by
  rw[beq_eq_false_iff_ne]
  intro e
  exact hne (Go.WideShapes.bytes_inj (by rw[← ByteArray.toList_eq,← ByteArray.toList_eq,e]))
 unfold renameM at *
 rw[h.calm.down,if_neg (by decide),h1',if_neg (show ¬(some i).isSome=false from fun e=>by cases e),hr,if_neg (by decide),hb,if_neg (by decide)] at hC ⊢
 rw[show(aI M).d.down=false from h.calm.down,if_neg (by decide),h1,if_neg (show ¬(some i).isSome=false from fun e=>by cases e),hr,if_neg (by decide),hb,if_neg (by decide),if_pos h.sees.quiet.thing] at q2
 rcases bt h.calm with ht | ht
 ·rw[if_pos ht] at hC ⊢
  exact .inl ⟨rfl,SF.of hC q2 rfl rfl (cg h.calm).symm⟩
 ·rw[if_neg (by rw[ht];decide)]
  exact .inr ht
theorem SF.make {k:Int} (h:SF M c a n m) (h0:0≤k) (h1:k≤99999999) (hc:c (segN k)=none) (hn:n < 4096) (ha:((a+13:Nat):Int)≤m):eV (makeM M k) (upd c (segN k) (some (putL (firstB k)))) (a+13) (n+1) m:=by
 unfold makeM
 rw[if_neg (by rw[bS h0 h1];decide)]
 rcases h.create (segN_ascii k) (cz h0 h1) hc hn with⟨e1,s1⟩ | ⟨e1,s1⟩
 ·rw[if_pos e1]
  have hb:=put_bytes _ (firstB_bytes k)
  unfold putF
  rcases s1.append (s:=segN k) hb (af _ _ _) (by rw[ax];exact ha) with⟨e2,s2⟩ | ⟨e2,s2⟩
  ·rw[ax,bO,List.nil_append] at s2
   rw[if_pos e2]
   exact .inl ⟨e2,s2⟩
  ·rw[if_neg (by rw[e2];decide)]
   exact .inr e2
 ·rw[if_neg (by rw[e1];decide)]
  exact .inr e1
theorem au {f:DiskM→DiskM×Int} {l:List (DiskM→DiskM×Int)} (h:(f M).2=81):turnsM (f::l) M=f M:=by
 show(if(f M).2=0 then turnsM l (f M).1 else f M)=_
 rw[if_neg (by rw[h];decide)]
theorem SF.save (h:SF M c a n m) {man:ManM} (hr:rightM man=true) (ht:c tempN=none) (hn:n < 4096) (ha:((a+(Mn.putM man).length:Nat):Int)≤m):eV (saveM M man) (upd c manN (some (Mn.putM man))) (a+(Mn.putM man).length) (n+1) m:=by
 have hl:Dk.look M.D tempN=none:=h.sees.cF ht
 have e0:gone1 M tempN=(M,0):=by unfold gone1;rw[hl];rfl
 unfold saveM
 rw[if_pos hr,aa (by rw[e0]),e0]
 rcases h.create bE bU ht hn with⟨e2,s2⟩ | ⟨e2,s2⟩
 ·rw[aa e2]
  rcases s2.append (s:=tempN) (Mn.putM_bytes man) (af _ _ _) ha with⟨e3,s3⟩ | ⟨e3,s3⟩
  ·rw[aa e3]
   rcases s3.sync (s:=tempN) (af _ _ _) with⟨e4,s4⟩ | ⟨e4,s4⟩
   ·rw[aa e4]
    rcases s4.rename (s:=tempN) (t:=manN) bN cA (af _ _ _) bR with⟨e5,s5⟩ | e5
    ·rw[aa e5]
     rcases s5.syncDir with⟨e6,s6⟩ | e6
     ·rw[aa e6]
      refine .inl ⟨rfl,s6.calm,s6.sees.view fun u=>?_⟩
      unfold upd
      by_cases h1:u=manN
      ·rw[if_pos h1,if_pos h1,List.nil_append]
      ·rw[if_neg h1,if_neg h1]
       by_cases h2:u=tempN
       ·rw[if_pos h2,h2,ht]
       ·simp only[if_neg h2]
     ·rw[au e6];exact .inr e6
    ·rw[au e5];exact .inr e5
   ·rw[au e4];exact .inr e4
  ·rw[au e3];exact .inr e3
 ·rw[au e2];exact .inr e2
theorem SF.hint {k:Int} (h:SF M c a n m) (k0:0≤k) (k1:k≤99999999) (hc:c (segN k)=some b) (hh:c (hintN k)=none) (hn:n < 4096) (ha:((a+(aZ b k).length:Nat):Int)≤m):∃v,SF (Lg.hintM M k) (upd c (hintN k) v) (a+(aZ b k).length) (n+1) m:=by
 have hB:=(hintB_fit h.calm.fit k).1
 have eB:Lg.hintB M k=aZ b k:=h.sees.hintB hc
 rw[eB] at hB
 unfold Lg.hintM
 rw[eB]
 unfold hintSteps
 rcases h.create (hintN_ascii k) (bT k0 k1) hh hn with⟨e1,s1⟩ | ⟨e1,s1⟩
 ·rw[aa e1]
  rcases s1.append (s:=hintN k) hB (af _ _ _) ha with⟨e2,s2⟩ | ⟨e2,s2⟩
  ·rw[aa e2]
   rw[bO] at s2
   rcases s2.sync (s:=hintN k) (af _ _ _) with⟨e3,s3⟩ | ⟨e3,s3⟩
   ·rw[aa e3]
    exact⟨_,s3⟩
   ·rw[au e3]
    exact⟨_,s3⟩
  ·rw[au e2]
   exact⟨_,s2.aQ (by omega) (Nat.le_refl _)⟩
 ·rw[au e1]
  refine⟨none,s1.calm,(s1.sees.aQ (by omega) (Nat.le_refl _)).view fun u=>?_⟩
  unfold upd
  split
  ·rename_i e;rw[e,hh]
  ·rfl
theorem LV.turn {k:Int} (h:LV M S c a n m) (h':ag M' c' a' n' m) (k0:0≤k) (k1:k < S.man.next) (kl:k≠S.last) (hd:∀t,t≠hintN k→c' t=c t):LV M' S c' a' n' m:=by
 have hnx:=h.aH
 have hll:=h.bC
 refine⟨h',fun u hu=>?_,h.rises,h.last,fun j hj=>?_,fun h0=>?_⟩
 ·by_cases e:u=hintN k
  ·exact .inr ⟨k,k0,k1,.inr e⟩
  ·rw[hd u e] at hu
   exact h.names u hu
 ·have hr:=aU _ _ _ h.rises j hj
  obtain⟨b,hb⟩:=h.segs j hj
  exact⟨b,by rw[hd _ (aj (by omega) (by omega) k0 (by omega))];exact hb⟩
 ·rw[hd _ (fun e=>by rw[bM h0 (by omega) k0 (by omega)] at e;exact kl e.symm)]
  exact h.open_ h0
structure eW (M:DiskM) (S:LogS) (c:View) (a n:Nat) (m:Int):Prop where
 calm:Th.Calm M
 lv:LV (aI M) S c a n m
theorem eW.sf (h:eW M S c a n m):SF M c a n m:=⟨h.calm,h.lv.sees⟩
theorem eW.dR (h:eW M S c a n m) {z:Nat} (hz:∀b,c (segN S.last)=some b→b.length≤z) (hs:S.man.segs.length < 1000) (h9:S.man.next < 99999999) (hn:n+3≤4096) (ha:((a+13+(4*S.man.segs.length+19)+(9*z+21):Nat):Int)≤m):
  ((rollM M S).2=(aN S,0)∧∃c',eW (rollM M S).1 (aN S) c' (a+13+(4*S.man.segs.length+19)+(9*z+21)) (n+3) m∧c' (segN S.man.next)=some (putL (firstB S.man.next)))∨(rollM M S).2.2=81:=by
 obtain⟨Mq,eq,lq⟩:=h.lv.dR hz hs h9 hn ha
 have hnx:=h.lv.aH
 have hll:=h.lv.bC
 unfold rollM
 have hsy:((logSync M S).2=0∧SF (logSync M S).1 c a n m)∨(logSync M S).2=81:=by
  unfold logSync
  by_cases h0:S.last < 0
  ·rw[if_pos h0];exact .inl ⟨rfl,h.sf⟩
  ·rw[if_neg h0]
   obtain⟨b,hb⟩:=h.lv.segs _ (h.lv.aV (by omega))
   rcases h.sf.sync hb with⟨e1,s1⟩ | ⟨e1,s1⟩
   ·exact .inl ⟨e1,s1⟩
   ·exact .inr e1
 rcases hsy with⟨e1,s1⟩ | e1
 rotate_left
 ·rw[if_neg (by rw[e1];decide)]
  exact .inr e1
 rw[if_pos e1]
 generalize (logSync M S).1=M1 at s1 ⊢
 have gM:nextM M1 S=S.man.next:=s1.sees.next h.lv.names (by omega)
 rw[gM]
 unfold rollN
 rw[if_neg (by omega),if_neg (by omega)]
 have jh:wrap64 (S.man.next+1)=S.man.next+1:=by unfold wrap64;omega
 have hr2:rightM (rollMan S S.man.next)=true:=by
  unfold rightM rollMan
  rw[jh,aG _ _ _ h.lv.rises (by omega)]
  simp
  omega
 have iT:=Qd.putM_len (rollMan S S.man.next)
 have gN:(rollMan S S.man.next).segs.length=S.man.segs.length+1:=by simp [rollMan]
 unfold rollSteps
 rcases s1.make hnx.1 hnx.2 h.lv.fresh (by omega) (by omega) with⟨g2,s2⟩ | g2
 rotate_left
 ·rw[au g2]
  unfold rollEnd
  rw[if_neg (by rw[g2];decide)]
  exact .inr g2
 rw[aa g2]
 have ji:upd c (segN S.man.next) (some (putL (firstB S.man.next))) tempN=none:=by
  rw[upd_ne _ _ (fun e=>aT hnx.1 hnx.2 e.symm)];exact h.lv.fK
 rcases s2.save hr2 ji (by omega) (by omega) with⟨g3,s3⟩ | g3
 rotate_left
 ·rw[au g3]
  unfold rollEnd
  rw[if_neg (by rw[g3];decide)]
  exact .inr g3
 rw[aa g3]
 unfold rollEnd turnsM
 dsimp only
 rw[if_pos rfl]
 refine .inl ⟨rfl,?_⟩
 have hsn:upd (upd c (segN S.man.next) (some (putL (firstB S.man.next)))) manN (some (Mn.putM (rollMan S S.man.next))) (segN S.man.next)=some (putL (firstB S.man.next)):=by
  rw[upd_ne _ _ (az hnx.1 hnx.2),af]
 by_cases h0:0≤S.last
 ·rw[if_pos h0]
  obtain⟨b,hb⟩:=h.lv.segs _ (h.lv.aV h0)
  have hb3:upd (upd c (segN S.man.next) (some (putL (firstB S.man.next)))) manN (some (Mn.putM (rollMan S S.man.next))) (segN S.last)=some b:=by
   rw[upd_ne _ _ (az h0 (by omega)),upd_ne _ _ (fun e=>by rw[aM h0 (by omega) hnx.1 hnx.2] at e;omega)]
   exact hb
  have gO:upd (upd c (segN S.man.next) (some (putL (firstB S.man.next)))) manN (some (Mn.putM (rollMan S S.man.next))) (hintN S.last)=none:=by
   rw[upd_ne _ _ (bn h0 (by omega)),upd_ne _ _ (fun e=>aj hnx.1 hnx.2 h0 (by omega) e.symm)]
   exact h.lv.open_ h0
  have hbz:=hz b hb
  have iU:=cB b S.last (h.lv.sees.bytes hb)
  obtain⟨v,s4⟩:=s3.hint h0 (by omega) hb3 gO (by omega) (by omega)
  refine⟨_,⟨s4.calm,LV.turn (k:=S.last) lq (s4.sees.aQ (by omega) (by omega)) h0 (by show S.last < wrap64 (S.man.next+1);omega) (by show S.last≠S.man.next;omega) fun u hu=>?_⟩,?_⟩
  ·unfold bp
   rw[if_pos h0,upd_ne _ _ hu,upd_ne _ _ hu]
  ·rw[upd_ne _ _ (aj hnx.1 hnx.2 h0 (by omega))]
   exact hsn
 ·rw[if_neg h0]
  refine⟨_,⟨s3.calm,?_⟩,hsn⟩
  have hc:upd (upd c (segN S.man.next) (some (putL (firstB S.man.next)))) manN (some (Mn.putM (rollMan S S.man.next)))=bp c S:=by unfold bp;rw[if_neg h0]
  rw[hc] at s3 ⊢
  exact⟨s3.sees.aQ (by omega) (by omega),lq.names,lq.rises,lq.last,lq.segs,lq.open_⟩
theorem eW.end_ (h:eW M S c a n m) {R:Re} (h0:0≤S.last) (hc:c (segN S.last)=some b) (hr:Rc.rightM R=true) (h6:IsBytes R.f6) (ha:((a+(putL (Rc.putM R)).length:Nat):Int)≤m):
  ((addEnd M S R).2=(S,S.last,(b.length:Int),((putL (Rc.putM R)).length:Int),0)∧eW (addEnd M S R).1 S (upd c (segN S.last) (some (b++putL (Rc.putM R)))) (a+(putL (Rc.putM R)).length) n m)∨((addEnd M S R).2.2.2.2.2=81∧(addEnd M S R).2.1=S):=by
 obtain⟨Mq,eq,lq⟩:=h.lv.end_ h0 hc hr h6 ha
 have hB:=put_bytes _ (La.putM_isBytes R h6)
 obtain⟨z1,z2,z3,z4⟩:=aq hr
 have hz:Dk.sizeM M (segN S.last)=(b.length:Int):=by
  have h1:Dk.sizeM (aI M) (segN S.last)=_:=h.lv.sees.sizeM
  rw[hc] at h1
  exact h1
 unfold addEnd Sg.addM
 rw[if_neg (show ¬(putL (Rc.putM R)).length=0 by omega)]
 rcases h.sf.append hB hc ha with⟨e1,s1⟩ | ⟨e1,s1⟩
 ·rw[if_pos e1]
  dsimp only
  rw[if_pos rfl,hz]
  exact .inl ⟨rfl,s1.calm,s1.sees,lq.names,lq.rises,lq.last,lq.segs,lq.open_⟩
 ·rw[if_neg (show ¬(appendM M (segN S.last) (putL (Rc.putM R))).2=0 by rw[e1];decide)]
  dsimp only
  rw[if_neg (show ¬(appendM M (segN S.last) (putL (Rc.putM R))).2=0 by rw[e1];decide)]
  exact .inr ⟨e1,rfl⟩
structure eF (lim m:Int) (M:DiskM) (S:LogS) (k T:Nat):Prop where
 ex:∃c a n,eW M S c a n m∧a+9*ah c S≤4200*k+10*T∧n≤3*k
 many:S.man.segs.length≤k
 next:S.man.next≤k+1
theorem eF.add (h:eF lim m M S k T) {R:Re} (hr:Rc.rightM R=true) (h6:IsBytes R.f6) (hk:k < 1000) (hm:4200*(k+1)+10*(T+((Rc.putM R).length+8))≤m):
  ((laddM M S R).2.2.2.2.2=0∧eF lim m (laddM M S R).1 (laddM M S R).2.1 (k+1) (T+((Rc.putM R).length+8))∧0≤(laddM M S R).2.2.1∧(laddM M S R).2.2.1≤99999999∧0≤(laddM M S R).2.2.2.1∧(laddM M S R).2.2.2.1≤1073741824)∨(laddM M S R).2.2.2.2.2=81:=by
 obtain⟨c,a,n,hl,hrm,hfl⟩:=h.ex
 have iZ:=h.many
 have hnx:=h.next
 obtain⟨z1,z2,z3,z4⟩:=aq hr
 have hsz:¬sizeI ((Rc.putM R).length:Int)=0:=by rw[z4];omega
 have hll:=hl.lv.bC
 have hnn:=hl.lv.aH
 unfold laddM
 rw[if_neg hsz]
 by_cases hw:wantsRoll M S (sizeI ((Rc.putM R).length:Int))=true
 ·rw[if_pos hw]
  have k0:(0:Int)≤S.man.next:=hnn.1
  have gY:=ax S.man.next
  unfold addRoll
  rcases hl.dR (z:=ah c S) (fun b hb=>by unfold ah;rw[hb];exact Nat.le_refl _) (by omega) (by omega) (by omega) (by omega) with⟨e1,c1,l1,hseg⟩ | e1
  rotate_left
  ·rw[if_neg (show ¬(rollM M S).2.2=0 by rw[e1];decide)]
   exact .inr e1
  have jk:(rollM M S).2.1=aN S:=by rw[e1]
  have jl:(rollM M S).2.2=0:=by rw[e1]
  rw[if_pos jl,jk]
  rcases l1.end_ (R:=R) k0 hseg hr h6 (by rw[z3];omega) with⟨e2,l2⟩ | ⟨e2,_⟩
  ·refine .inl ⟨by rw[e2],⟨⟨_,_,_,by rw[e2];exact l2,?_,?_⟩,?_,?_⟩,?_⟩
   ·rw[e2]
    have hlen:ah (upd c1 (segN (aN S).last) (some (putL (firstB S.man.next)++putL (Rc.putM R)))) (aN S)=13+((Rc.putM R).length+8):=by
     unfold ah
     rw[af,Option.getD_some,List.length_append,gY,z3]
    rw[hlen,z3];omega
   ·omega
   ·rw[e2]
    show(S.man.segs++[S.man.next]).length≤_
    rw[List.length_append,List.length_singleton]
    omega
   ·rw[e2]
    show wrap64 (S.man.next+1)≤_
    unfold wrap64
    omega
   ·rw[e2]
    show 0≤S.man.next∧S.man.next≤99999999∧(0:Int)≤((putL (firstB S.man.next)).length:Int)∧((putL (firstB S.man.next)).length:Int)≤1073741824
    omega
  ·exact .inr e2
 ·rw[if_neg hw]
  have hw':wantsRoll M S (sizeI ((Rc.putM R).length:Int))=false:=Bool.eq_false_iff.mpr hw
  unfold wantsRoll at hw'
  rw[Bool.or_eq_false_iff] at hw'
  have h0:0≤S.last:=by have:=of_decide_eq_false hw'.1;omega
  obtain⟨b,hb⟩:=hl.lv.segs _ (hl.lv.aV h0)
  have hlb:ah c S=b.length:=by unfold ah;rw[hb];rfl
  have hbs:(b.length:Int)≤67108864:=by
   have h1:Dk.sizeM (aI M) (segN S.last)=_:=hl.lv.sees.sizeM
   rw[hb,Option.getD_some] at h1
   have:=(hl.lv.sees.quiet.fit.sizeM (segN S.last)).2
   omega
  rcases hl.end_ (R:=R) h0 hb hr h6 (by rw[z3];omega) with⟨e2,l2⟩ | ⟨e2,_⟩
  ·have hlen:ah (upd c (segN S.last) (some (b++putL (Rc.putM R)))) S=b.length+((Rc.putM R).length+8):=by
    unfold ah
    rw[af,Option.getD_some,List.length_append,z3]
   refine .inl ⟨by rw[e2],⟨⟨_,_,_,by rw[e2];exact l2,?_,by omega⟩,by rw[e2];dsimp only;omega,by rw[e2];dsimp only;omega⟩,?_⟩
   ·rw[e2,hlen,z3];omega
   ·rw[e2]
    show 0≤S.last∧S.last≤99999999∧(0:Int)≤(b.length:Int)∧(b.length:Int)≤1073741824
    omega
  ·exact .inr e2
end Pu
namespace Pu
open Go.Maps Fr Ext Pt Dk Lg Qd
open Rc (Re Lo withinB keyB zeroR)
open Gt (aq)
variable {lim m:Int} {q:St} {k T:Nat} {l bs chs:List (List Int)} {b all:List Int}
def fH (p:Wr) (l:List (List Int)):Prop:=p.pieces.length=l.length∧(∀y∈p.pieces,Rc.locFine y=true)∧(p.pieces.map (·.f2)).sum=(l.flatten.length:Int)
def eJ (p:Wr):Prop:=p.spoilt=true∧p.done=false
theorem eG (h:eF lim m q.1 q.2.1 k T) (hp:fH q.2.2 l) (hid:withinB q.2.2.id 0 1099511627776=true) (hd:q.2.2.done=false) (hl:l.length≤511) (h1:1≤b.length) (h2:b.length≤4096) (hB:IsBytes b) (hk:k < 1000) (hm:4200*(k+1)+10*(T+(17+b.length))≤m):
  ((pieceM q b).2=0∧eF lim m (pieceM q b).1.1 (pieceM q b).1.2.1 (k+1) (T+(17+b.length))∧fH (pieceM q b).1.2.2 (l++[b])∧∃lo,(pieceM q b).1.2.2={q.2.2 with spoilt:=false,pieces:=q.2.2.pieces++[lo]})∨((pieceM q b).2=81∧eJ (pieceM q b).1.2.2):=by
 have hpl:=hp.1
 have hr:=piece_right (p:=q.2.2) (b:=b) hid (by omega) h1 h2
 have hlen:=piece_len q.2.2 b hr
 have gQ:(Rc.putM (pieceR q.2.2 b)).length+8=17+b.length:=by omega
 have ha:=h.add hr hB hk (by omega)
 rw[gQ] at ha
 rcases ha with⟨e1,hq,r1,r2,r3,r4⟩ | e1
 ·have ew:pieceW q.2.2 b.length (laddM q.1 q.2.1 (pieceR q.2.2 b))={q.2.2 with spoilt:=false,pieces:=q.2.2.pieces++[⟨(laddM q.1 q.2.1 (pieceR q.2.2 b)).2.2.1,(laddM q.1 q.2.1 (pieceR q.2.2 b)).2.2.2.1,b.length⟩]}:=if_pos e1
  refine .inl ⟨e1,hq,?_,_,ew⟩
  show fH (pieceW q.2.2 b.length (laddM q.1 q.2.1 (pieceR q.2.2 b))) _
  rw[ew]
  refine⟨by simp [hpl],fun y hy=>?_,?_⟩
  ·rcases List.mem_append.1 hy with hy | hy
   ·exact hp.2.1 y hy
   ·rw[List.mem_singleton.1 hy]
    simp only[Rc.locFine,withinB,Bool.and_eq_true,decide_eq_true_eq]
    omega
  ·show((q.2.2.pieces++_).map _).sum=_
   rw[List.map_append,List.sum_append,hp.2.2,List.flatten_append,List.length_append]
   simp
 ·refine .inr ⟨e1,?_⟩
  have ew:pieceW q.2.2 b.length (laddM q.1 q.2.1 (pieceR q.2.2 b))={q.2.2 with spoilt:=true}:=if_neg (by rw[e1];decide)
  show eJ (pieceW q.2.2 b.length (laddM q.1 q.2.1 (pieceR q.2.2 b)))
  rw[ew]
  exact⟨rfl,hd⟩
theorem fg:∀(bs:List (List Int)) (q:St) (k T:Nat) (l:List (List Int)),eF lim m q.1 q.2.1 k T→fH q.2.2 l→withinB q.2.2.id 0 1099511627776=true→q.2.2.done=false→q.2.2.spoilt=false→(∀b∈bs,1≤b.length∧b.length≤4096∧IsBytes b)→l.length+bs.length≤512→k+bs.length≤1000→
  4200*(k+bs.length)+10*(T+(17*bs.length+bs.flatten.length))≤m→
  ((eachM bs q).2=0∧eF lim m (eachM bs q).1.1 (eachM bs q).1.2.1 (k+bs.length) (T+(17*bs.length+bs.flatten.length))∧fH (eachM bs q).1.2.2 (l++bs)∧∃ps,(eachM bs q).1.2.2={q.2.2 with pieces:=ps})∨((eachM bs q).2=81∧eJ (eachM bs q).1.2.2)
 | [],q,k,T,l,h,hp,_,_,_,_,_,_,_=>.inl ⟨rfl,h,by rw[List.append_nil];exact hp,_,rfl⟩
 | b::bs,q,k,T,l,h,hp,hid,hd,hs,hb,hl,hk,hm=>by
  obtain⟨g1,g2,g3⟩:=hb b (by simp)
  rw[List.length_cons] at hl hk
  rw[List.length_cons,List.flatten_cons,List.length_append] at hm
  show((if(pieceM q b).2=0 then eachM bs (pieceM q b).1 else pieceM q b).2=0∧eF lim m (if(pieceM q b).2=0 then eachM bs (pieceM q b).1 else pieceM q b).1.1 (if(pieceM q b).2=0 then eachM bs (pieceM q b).1 else pieceM q b).1.2.1 _ _∧fH (if(pieceM q b).2=0 then eachM bs (pieceM q b).1 else pieceM q b).1.2.2 _∧∃ps,(if(pieceM q b).2=0 then eachM bs (pieceM q b).1 else pieceM q b).1.2.2=_)∨((if(pieceM q b).2=0 then eachM bs (pieceM q b).1 else pieceM q b).2=81∧eJ (if(pieceM q b).2=0 then eachM bs (pieceM q b).1 else pieceM q b).1.2.2)
  rcases eG h hp hid hd (by omega) g1 g2 g3 (by omega) (by omega) with⟨e1,q1,p1,lo,w1⟩ | ⟨e1,b1⟩
  ·rw[if_pos e1]
   rcases fg bs (pieceM q b).1 (k+1) (T+(17+b.length)) (l++[b]) q1 p1 (by rw[w1];exact hid) (by rw[w1];exact hd) (by rw[w1]) (fun y hy=>hb y (by simp [hy])) (by simp;omega) (by omega) (by omega) with⟨e2,q2,p2,ps,w2⟩ | h2
   ·refine .inl ⟨e2,?_,by simpa using p2,ps,?_⟩
    ·rw[List.length_cons,List.flatten_cons,List.length_append,show k+(bs.length+1)=k+1+bs.length by omega,show T+(17*(bs.length+1)+(b.length+bs.flatten.length))=T+(17+b.length)+(17*bs.length+bs.flatten.length) by omega]
     exact q2
    ·rw[w2,w1]
     cases hw:q.2.2
     rw[hw] at hs
     simp only at hs ⊢
     rw[hs]
   ·exact .inr h2
  ·rw[if_neg (by rw[e1];decide)]
   exact .inr ⟨e1,b1⟩
structure XI (q:St) (all:List Int) (chs:List (List Int)):Prop where
 gy:eF lim m q.1 q.2.1 chs.length (17*chs.length+chs.flatten.length)
 cfg:rightC q.2.2.c=true
 key:keyB q.2.2.key=true
 id:withinB q.2.2.id 0 1099511627776=true
 done:q.2.2.done=false
 spoilt:q.2.2.spoilt=false
 size:q.2.2.size=(all.length:Int)
 fit:(all.length:Int)≤q.2.2.c.max
 bytes:IsBytes all
 whole:chs.flatten++(q.2.2.left++q.2.2.held)=all
 each:∀x∈chs,(x.length:Int)=q.2.2.c.piece
 dU:fH q.2.2 chs
 small:q.2.2.size≤q.2.2.c.small→chs=[]∧q.2.2.left=[]
 gH:q.2.2.c.small < q.2.2.size→q.2.2.held=[]∧(q.2.2.left.length:Int) < q.2.2.c.piece
theorem XI.many (h:XI (lim:=lim) (m:=m) q all chs):chs.length≤512∧chs.flatten.length≤all.length∧(q.2.2.left≠[]→chs.length≤511):=by
 have hc:=ar h.cfg
 have h1:=dK chs h.each hc.1
 have h2:=congrArg List.length h.whole
 simp only[List.length_append] at h2
 have h3:=h.fit
 have h4:(chs.length:Int)*q.2.2.c.piece≤512*q.2.2.c.piece:=by omega
 have h5:(chs.length:Int)≤512:=Int.le_of_mul_le_mul_right h4 (by omega)
 refine⟨by omega,by omega,fun hne=>?_⟩
 have h6:1≤q.2.2.left.length:=List.length_pos_iff.2 hne
 have h7:(chs.length:Int)*q.2.2.c.piece < 512*q.2.2.c.piece:=by omega
 have h8:(chs.length:Int) < 512:=Int.lt_of_mul_lt_mul_right h7 (by omega)
 omega
theorem XI.state (h:XI (lim:=lim) (m:=m) q all chs):¬stateM q.2.2≠0:=fun e=>e (by unfold stateM;rw[h.done,h.spoilt];rfl)
theorem XI.write (w:XI (lim:=lim) (m:=m) q all chs) (b:List Int) (hB:IsBytes b) (hb:b.length < 4611686018427387904) (hm:3500000≤m):
  (∃all' cY,(writeM q b).2=0∧XI (lim:=lim) (m:=m) (writeM q b).1 all' cY)∨(writeM q b=(q,2))∨((writeM q b).2=81∧eJ (writeM q b).1.2.2):=by
 have hc:=ar w.cfg
 have hs:=w.size
 have jz:=w.fit
 by_cases hf:(all.length:Int)+b.length≤q.2.2.c.max
 rotate_left
 ·refine .inr (.inl ?_)
  unfold writeM
  rw[if_neg w.state,if_pos]
  unfold wrap64
  omega
 have hsz:wrap64 (q.2.2.size+b.length)=((all++b).length:Int):=by
  rw[List.length_append];unfold wrap64;omega
 unfold writeM
 rw[if_neg w.state,if_neg (by unfold wrap64;omega)]
 by_cases hsm:(heldIn q.2.2 b).size≤q.2.2.c.small
 ·rw[if_pos hsm]
  have cJ:wrap64 (q.2.2.size+b.length)≤q.2.2.c.small:=hsm
  rw[hsz,List.length_append] at cJ
  obtain⟨e1,e2⟩:=w.small (by omega)
  subst e1
  refine .inl ⟨all++b,[],rfl,⟨w.gy,w.cfg,w.key,w.id,w.done,w.spoilt,hsz,by rw[List.length_append];show _≤q.2.2.c.max;omega,ay.2 ⟨w.bytes,hB⟩,?_,fun x hx=>(by cases hx),w.dU,fun _=>⟨rfl,e2⟩,fun hbig=>?_⟩⟩
  ·show [].flatten++(q.2.2.left++(q.2.2.held++b))=all++b
   rw[← w.whole]
   simp only[List.append_assoc]
  ·exact absurd hbig (by show ¬q.2.2.c.small < wrap64 (q.2.2.size+b.length);rw[hsz,List.length_append];omega)
 ·rw[if_neg hsm]
  have cJ:¬wrap64 (q.2.2.size+b.length)≤q.2.2.c.small:=hsm
  rw[hsz] at cJ
  obtain⟨s1,s2,s3⟩:=cutW_spec (k:=q.2.2.c.piece) hc.1 (q.2.2.left++(q.2.2.held++b))
  generalize hcw:cutW q.2.2.c.piece (q.2.2.left++(q.2.2.held++b))=cw at s1 s2 s3 ⊢
  have bF:(chs++cw.1).flatten++cw.2=all++b:=by
   rw[List.flatten_append,List.append_assoc,s1,← w.whole]
   simp only[List.append_assoc]
  have cZ:∀x∈chs++cw.1,(x.length:Int)=q.2.2.c.piece:=fun x hx=>(List.mem_append.1 hx).elim (w.each x) (s2 x)
  have hfl:=dK (chs++cw.1) cZ hc.1
  have hle:=congrArg List.length bF
  rw[List.length_append,List.length_append] at hle
  have h4:((chs++cw.1).length:Int)*q.2.2.c.piece≤512*q.2.2.c.piece:=by omega
  have h5:((chs++cw.1).length:Int)≤512:=Int.le_of_mul_le_mul_right h4 (by omega)
  rw[List.length_append] at h5
  have bW:IsBytes (all++b):=ay.2 ⟨w.bytes,hB⟩
  have hfb:∀x∈cw.1,IsBytes x:=fun x hx=>by
   rw[← bF] at bW
   have h6:=(ay.1 bW).1
   exact fun z hz=>h6 z (List.mem_flatten.2 ⟨x,List.mem_append_right _ hx,hz⟩)
  have fk:(chs++cw.1).flatten.length=chs.flatten.length+cw.1.flatten.length:=by rw[List.flatten_append,List.length_append]
  rcases fg (lim:=lim) (m:=m) cw.1 (q.1,q.2.1,cutIn (heldIn q.2.2 b) (q.2.2.held++b)) chs.length (17*chs.length+chs.flatten.length) chs w.gy w.dU w.id w.done w.spoilt (fun x hx=>⟨by have:=s2 x hx;omega,by have:=s2 x hx;omega,hfb x hx⟩) (by omega) (by omega) (by omega) with⟨e2,q2,p2,ps,w2⟩ | hbad
  ·generalize eachM cw.1 (q.1,q.2.1,cutIn (heldIn q.2.2 b) (q.2.2.held++b))=r at e2 q2 p2 w2 ⊢
   have dc:r.1.2.2.left=cw.2:=by rw[w2];show(cutW q.2.2.c.piece (q.2.2.left++(q.2.2.held++b))).2=_;rw[hcw]
   have ba:r.1.2.2.held=[]:=by rw[w2];rfl
   have hcc:r.1.2.2.c=q.2.2.c:=by rw[w2];rfl
   have fR:r.1.2.2.size=((all++b).length:Int):=by rw[w2];exact hsz
   refine .inl ⟨all++b,chs++cw.1,e2,⟨?_,by rw[hcc];exact w.cfg,by rw[w2];exact w.key,by rw[w2];exact w.id,by rw[w2];exact w.done,by rw[w2];exact w.spoilt,fR,by rw[hcc,List.length_append];omega,bW,?_,by rw[hcc];exact cZ,p2,fun hh=>?_,fun _=>⟨ba,by rw[dc,hcc];exact s3⟩⟩⟩
   ·rw[List.length_append,fk,show 17*(chs.length+cw.1.length)+(chs.flatten.length+cw.1.flatten.length)=17*chs.length+chs.flatten.length+(17*cw.1.length+cw.1.flatten.length) by omega]
    exact q2
   ·rw[dc,ba,List.append_nil];exact bF
   ·rw[fR,hcc] at hh
    exact absurd hh cJ
  ·exact .inr (.inr hbad)
theorem fI (p:Wr) (M:DiskM) (S:LogS) (k T:Nat) (R:Re) (h:eF lim m M S k T) (hr:Rc.rightM R=true) (h6:IsBytes R.f6) (hd:p.done=false) (hk:k < 1000) (hm:4200*(k+1)+10*(T+5308)≤m):
  ((commitEnd p R (laddM M S R)).2.2=0∧(commitEnd p R (laddM M S R)).1.2.2.done=true∧(commitEnd p R (laddM M S R)).1.2.2.spoilt=false)∨((commitEnd p R (laddM M S R)).2.2=81∧eJ (commitEnd p R (laddM M S R)).1.2.2):=by
 obtain⟨z1,z2,z3,z4⟩:=aq hr
 unfold commitEnd
 rcases h.add hr h6 hk (by omega) with⟨e1,_⟩ | e1
 ·rw[if_pos e1];exact .inl ⟨rfl,rfl,rfl⟩
 ·rw[if_neg (by rw[e1];decide)];exact .inr ⟨e1,rfl,hd⟩
theorem XI.commit (w:XI (lim:=lim) (m:=m) q all chs) (hm:3500000≤m):
  ((commitM q).2.2=0∧(commitM q).1.2.2.done=true∧(commitM q).1.2.2.spoilt=false)∨((commitM q).2.2=81∧eJ (commitM q).1.2.2):=by
 have hc:=ar w.cfg
 have hs:=w.size
 have hmany:=w.many
 have hfit:=w.fit
 unfold commitM
 rw[if_neg w.state]
 unfold recM
 by_cases hsm:q.2.2.size≤q.2.2.c.small
 ·rw[if_pos hsm]
  obtain⟨e1,e2⟩:=w.small hsm
  have ba:q.2.2.held=all:=by
   have:=w.whole
   rw[e1,e2] at this
   exact this
  have gR:q.2.2.held.length≤4096:=by rw[ba];omega
  unfold commitR
  dsimp only
  rw[if_pos rfl]
  exact fI q.2.2 q.1 q.2.1 _ _ (inlineR q.2.2) w.gy (bK w.key gR) (by show IsBytes q.2.2.held;rw[ba];exact w.bytes) w.done (by omega) (by omega)
 ·rw[if_neg hsm]
  obtain⟨b1,b2⟩:=w.gH (by omega)
  have dM:=w.whole
  rw[b1,List.append_nil] at dM
  have hlen:=congrArg List.length dM
  rw[List.length_append] at hlen
  by_cases hle:q.2.2.left=[]
  ·rw[if_pos hle]
   unfold commitR
   dsimp only
   rw[if_pos rfl]
   rw[hle,List.append_nil] at dM
   have hr:=cL w.dU.2.1 (by rw[w.dU.1];exact hmany.1) (by rw[w.dU.2.2,hs,dM]) w.key w.id (by omega) (by omega)
   exact fI q.2.2 q.1 q.2.1 _ _ (rootR q.2.2) w.gy hr (fun x hx=>by cases hx) w.done (by omega) (by omega)
  ·rw[if_neg hle]
   have fp:1≤q.2.2.left.length:=List.length_pos_iff.2 hle
   have hbl:IsBytes q.2.2.left:=by
    have:=w.bytes
    rw[← dM] at this
    exact(ay.1 this).2
   have gZ:=hmany.2.2 hle
   rcases eG (q:=(q.1,q.2.1,{q.2.2 with left:=[]})) (b:=q.2.2.left) w.gy w.dU w.id w.done gZ fp (by omega) hbl (by omega) (by omega) with⟨e1,q1,p1,lo,w1⟩ | ⟨e1,hb⟩
   ·rw[if_pos e1]
    generalize pieceM (q.1,q.2.1,{q.2.2 with left:=[]}) q.2.2.left=r1 at e1 q1 p1 w1 ⊢
    unfold commitR
    dsimp only
    rw[if_pos rfl]
    have hfl:(chs++[q.2.2.left]).flatten=all:=by rw[List.flatten_append,List.flatten_cons,List.flatten_nil,List.append_nil];exact dM
    have hr:=cL (p:=r1.1.2.2) p1.2.1 (by rw[p1.1];simp;omega) (by rw[p1.2.2,hfl,w1];exact hs.symm) (by rw[w1];exact w.key) (by rw[w1];exact w.id) (by rw[w1];show 1≤q.2.2.size;omega) (by rw[w1];show q.2.2.size≤65536;omega)
    exact fI r1.1.2.2 r1.1.1 r1.1.2.1 _ _ (rootR r1.1.2.2) q1 hr (fun x hx=>by cases hx) (by rw[w1];exact w.done) (by omega) (by omega)
   ·rw[if_neg (by rw[e1];decide)]
    unfold commitR
    dsimp only
    rw[if_neg (by rw[e1];decide)]
    exact .inr ⟨e1,hb⟩
theorem dW {q:St} (h:eJ q.2.2) (b:List Int):writeM q b=(q,181):=by
 unfold writeM stateM
 rw[h.2,h.1]
 rfl
theorem dy {q:St} (h:eJ q.2.2):commitM q=(q,noPl,181):=by
 unfold commitM stateM
 rw[h.2,h.1]
 rfl
theorem dA {q:St} (h:q.2.2.done=true) (b:List Int):writeM q b=(q,3):=by
 unfold writeM stateM
 rw[h]
 rfl
theorem di {q:St} (h:q.2.2.done=true):commitM q=(q,noPl,3):=by
 unfold commitM stateM
 rw[h]
 rfl
def aJ (M:DiskM) (n:Int):DiskM:=if 0≤n then {M with d:={M.d with fi:=true,fn:=n}} else M
theorem XI.new {key:ByteArray} {id:Int} {c:Cfg} (h1:rightC c=true) (h2:keyB key=true) (h3:withinB id 0 1099511627776=true) (n:Int) (h0:0≤n):XI (lim:=4096) (m:=16777216) (aJ (newM 16777216) n,⟨4096,⟨[],1⟩,-1⟩,wr0 key id c) [] []:=by
 have jb:=ar h1
 have hq:=jm n h0
 exact⟨hq,h1,h2,h3,rfl,rfl,rfl,by show((0:Nat):Int)≤c.max;omega,fun x hx=>(by cases hx),rfl,fun x hx=>(by cases hx),⟨rfl,fun y hy=>(by cases hy),rfl⟩,fun _=>⟨rfl,rfl⟩,fun h=>(by have h':c.small < 0:=h;omega)⟩
where
 jm (n:Int) (h0:0≤n):eF 4096 16777216 (aJ (newM 16777216) n) ⟨4096,⟨[],1⟩,-1⟩ 0 0:=by
  have hl:=LV.new (x:=16777216) 4096
  have gz:Th.Calm (newM 16777216):=⟨Fit.new _,fun s t i h=>(by rw[show Dk.look (newM 16777216).D s=none from rfl] at h;cases h),rfl,rfl⟩
  have hc2:Th.Calm (aJ (newM 16777216) n):=by
   unfold aJ
   rw[if_pos h0]
   exact(gz.fail (X:=fun _=>True) true n).1
  have hs:ag (Th.aI (aJ (newM 16777216) n)) (fun _=>none) 0 0 16777216:=by
   refine ag.swap hl.sees (hc2.fit.nums rfl) ?_ ?_ rfl hc2.ci hc2.down ?_
   ·unfold aJ;rw[if_pos h0];rfl
   ·unfold aJ;rw[if_pos h0];rfl
   ·unfold aJ;rw[if_pos h0];rfl
  exact⟨⟨_,_,_,⟨hc2,hs,hl.names,hl.rises,hl.last,hl.segs,hl.open_⟩,Nat.le_refl _,Nat.le_refl _⟩,Nat.le_refl _,Int.le_refl _⟩
end Pu
end
end Go.Proofs.YtcieieacfoaklaaGreat
section
namespace Go.Proofs.YtcieieacfoaklaaGreat.gA
open Go.ChangeShapes Go.WideShapes Go.RowKit Go.Deep YtcieieacfoaklaaGreatW.PrintWords Fr Go.Proofs.YtcieieacfoaklaaGreat.Pure Pt Hn HrA
section
variable {H:Type} {enc:TypeId×Value→H} {P:Program} {W:World} {base:Nat} {held:Bool}
def bL (P:Program) (t:TypeId) (d:DataW H):Prop:=(d.weights P t).all (·≤reachBytes)=true
def bu {α:Type} (enc:TypeId×Value→H) (P:Program) (W:World) (base:Nat) (held:Bool) (t:TypeId) (k:Kd α) (Q:α→Prop):Prop:=
 ∀(fuel:Nat) (cs:List Value) (x:DataW H×List MemPlace),DataW.trod enc P W base (fun _=>true) held fuel t cs=some x→bL P t x.1→∃a,k.K W a cs∧Q a
theorem cE {e:TypeId} {d:DataW H}:∀{l:List (DataW H)},d∈l→(DataW.weightsAll P e l).all (·≤reachBytes)=true→bL P e d
 | x::l,h,hw=>by
  simp only[DataW.weightsAll,List.all_append,Bool.and_eq_true] at hw
  rcases List.mem_cons.1 h with rfl | h
  ·exact hw.1
  ·exact cE h hw.2
theorem cj {t:TypeId} {k:IntKind} (ht:P.underlying t=some (.int k)):bu enc P W base held t (Kd.int k) (fun z=>(Lit.int k z).wf=true):=fun fuel cs x h _=>opens_int ht fuel cs x h
theorem cu {t:TypeId} (ht:P.underlying t=some .string):bu enc P W base held t Kd.string (fun z=>z.size≤reachBytes):=by
 intro fuel cs x h hw
 obtain⟨n,rfl,e,_⟩:=DataW.trod_string ht h
 subst e
 refine⟨n,rfl,?_⟩
 simp only[bL,DataW.weights,List.all_cons,List.all_nil,Bool.and_true,decide_eq_true_eq,Array.length_toList] at hw
 exact hw
theorem bG {α:Type} {t e:TypeId} {k:Kd α} {Q:α→Prop} (ht:P.underlying t=some (.slice e)) (ce:P.cellsOf e=k.sz) {B:Nat} (hB:P.bytesOf e=B) (he:bu enc P W base held e k Q)
  {fuel:Nat} {a:Option Addr} {len cap:Nat} {x:DataW H×List MemPlace} (h:DataW.trod enc P W base (fun _=>true) held fuel t [.slice a len cap]=some x) (hw:bL P t x.1):
  ∃l:List α,l.length=len∧len≤cap∧cap≤maxLen∧k.C W a len l∧len*B≤reachBytes∧∀y∈l,Q y:=by
 rcases open_slice ht h with⟨hcs,_⟩ | ⟨b,l,c,m,n,D,Pl,hcs,_,hl,hm,hmm,hx0,hx⟩
 ·simp at hcs
  obtain⟨rfl,rfl,rfl⟩:=hcs
  exact⟨[],rfl,Nat.le_refl _,Nat.zero_le _,⟨rfl,Nat.zero_le _,fun h=>absurd h (by omega)⟩,by omega,fun l hl=>by cases hl⟩
 ·simp at hcs
  obtain⟨rfl,rfl,rfl⟩:=hcs
  have fQ:len≤m:=by rw[hmm];split <;> omega
  rw[hx0] at hw
  simp only[bL,DataW.weights,ht,hB,List.all_cons,List.all_append,Bool.and_eq_true,decide_eq_true_eq,List.length_map,List.length_range] at hw
  obtain⟨w1,w2,w3⟩:=hw
  obtain⟨L,hL,hp⟩:=exists_list (p:=fun i y=>(∃cs',cs'.length=k.sz∧k.K W y cs'∧∀j u,cs'[j]? =some u→W.cell? (b.add (i*k.sz+j))=some u)∧Q y) len (fun i hi=>by
   obtain⟨cs',h1,h2⟩:=hx i (by omega)
   rw[ce] at h1
   obtain⟨_,hlen,hcell⟩:=World.cells?_some h1
   obtain⟨y,hK,hQ⟩:=he _ _ _ h2 (cE (List.mem_map.2 ⟨i,List.mem_range.2 hi,rfl⟩) w2)
   refine⟨y,⟨cs',k.K_len hK,hK,fun j u hj=>?_⟩,hQ⟩
   have hj2:=(List.getElem?_eq_some_iff.1 hj).1
   have:=hcell j (by omega)
   rw[Deep.add_add] at this
   rw[this,hj])
  refine⟨L,hL,hl,hm,⟨hL,?_,fun _=>⟨b,rfl,fun j p hj=>(hp j p hj).1⟩⟩,Nat.le_trans (Nat.mul_le_mul_right _ (Nat.le_add_right _ _)) w1,fun y hy=>?_⟩
  ·have:maxLen=9223372036854775807:=rfl
   omega
  ·obtain⟨i,hi,rfl⟩:=List.getElem_of_mem hy
   exact(hp i _ (List.getElem?_eq_getElem hi)).2
theorem aY {α:Type} {t e:TypeId} {k:Kd α} {Q:α→Prop} (ht:P.underlying t=some (.slice e)) (ce:P.cellsOf e=k.sz) {B:Nat} (hB:P.bytesOf e=B) (he:bu enc P W base held e k Q) (z:Nat):
  bu enc P W base held t (Kd.slice z k) (fun l=>l.length*B≤reachBytes∧∀y∈l,Q y):=by
 intro fuel cs x h hw
 have h':=h
 rcases open_slice ht h with⟨hcs,_⟩ | ⟨b,l,c,m,n,D,Pl,hcs,_⟩
 ·subst hcs
  obtain⟨l,h1,h2,h3,h4,h5,h6⟩:=bG ht ce hB he h' hw
  exact⟨l,⟨_,_,by rw[h1],by rw[h1];exact h2,by rw[h1];exact h4⟩,by rw[h1];exact h5,h6⟩
 ·subst hcs
  obtain⟨l,h1,h2,h3,h4,h5,h6⟩:=bG ht ce hB he h' hw
  exact⟨l,⟨_,_,by rw[h1],by rw[h1];exact h2,by rw[h1];exact h4⟩,by rw[h1];exact h5,h6⟩
theorem ct {ts:List TypeId} {ds:List (DataW H)} (h:(DataW.weightsEach P ts ds).all (·≤reachBytes)=true):∀(j:Nat) (t:TypeId) (d:DataW H),ts[j]? =some t→ds[j]? =some d→bL P t d:=by
 induction ts generalizing ds with
 | nil=>intro j t d ht;cases ht
 | cons t0 ts ih=>
  intro j t d ht hd
  cases ds with
  | nil=>cases hd
  | cons d0 ds=>
   simp only[DataW.weightsEach,List.all_append,Bool.and_eq_true] at h
   cases j with
   | zero=>
    obtain rfl:=Option.some.inj ht
    obtain rfl:=Option.some.inj hd
    exact h.1
   | succ j=>exact ih h.2 j t d ht hd
theorem aA {t:TypeId} {fs:Array Field} (ht:P.underlying t=some (.struct fs)) {ds:List (DataW H)} (h:bL P t (.agg ds)):∀(j:Nat) (f:Field) (d:DataW H),fs[j]? =some f→ds[j]? =some d→bL P f.type d:=by
 intro j f d hf hd
 simp only[bL,DataW.weights,ht] at h
 exact ct h j f.type d (by rw[List.getElem?_map,Array.getElem?_toList,hf];rfl) hd
end
def fh (r:S38):Prop:=r.f1.size≤reachBytes∧r.f5.length*24≤reachBytes∧r.f6.length*1≤reachBytes
section
variable {H:Type} {enc:TypeId×Value→H} {W:World} {base:Nat} {held:Bool}
theorem dB:bu enc Tryz.prog W base held 57 k57 OkLoc:=fun fuel cs x h _=>opens_loc fuel cs x h
theorem dC:bu enc Tryz.prog W base held 38 k38 (fun r=>OkRec r∧fh r):=by
 intro fuel cs x h hw
 obtain⟨xs,n,_,hx,hl,hxl,hf⟩:=DataW.trod_struct Tryz.underlying38 h
 have hl:cs.length=7:=by rw[hl];kernel_rfl
 obtain⟨y0,y1,y2,y3,y4,y5,y6,rfl⟩:=of7 hxl
 obtain⟨v0,v1,v2,v3,v4,v5,v6,rfl⟩:=of7 hl
 subst hx
 have ho:=hl
 have l1:=aA Tryz.underlying38 hw 1 _ _ rfl rfl
 have l5:=aA Tryz.underlying38 hw 5 _ _ rfl rfl
 have l6:=aA Tryz.underlying38 hw 6 _ _ rfl rfl
 have g0:=hf 0 _ rfl
 have g1:=hf 1 _ rfl
 have g2:=hf 2 _ rfl
 have g3:=hf 3 _ rfl
 have g4:=hf 4 _ rfl
 have g5:=hf 5 _ rfl
 have g6:=hf 6 _ rfl
 have ci:Tryz.prog.cellsOf 3=1:=by kernel_rfl
 have cs':Tryz.prog.cellsOf 9=1:=by kernel_rfl
 have jn:Tryz.prog.cellsOf 2=1:=by kernel_rfl
 have cl:Tryz.prog.cellsOf 36=1:=by kernel_rfl
 have cb:Tryz.prog.cellsOf 35=1:=by kernel_rfl
 simp [ci,cs',cl,cb,jn] at g0 g1 g2 g3 g4 g5 g6
 obtain⟨a0,k0,q0⟩:=opens_int Tryz.underlying3 _ _ _ g0
 obtain⟨a1,k1,q1⟩:=cu Tryz.underlying9 _ _ _ g1 l1
 obtain⟨a2,k2,q2⟩:=opens_int Tryz.underlying2 _ _ _ g2
 obtain⟨a3,k3,q3⟩:=opens_int Tryz.underlying3 _ _ _ g3
 obtain⟨a4,k4,q4⟩:=opens_int Tryz.underlying3 _ _ _ g4
 obtain⟨a5,⟨A5,c5,e5,l5,K5⟩,s5,q5⟩:=aY (B:=24) Tryz.underlying36 (by kernel_rfl) (by kernel_rfl) dB 57 _ _ _ g5 l5
 obtain⟨a6,⟨A6,c6,e6,l6,K6⟩,s6,q6⟩:=aY (B:=1) Tryz.underlying35 (by kernel_rfl) (by kernel_rfl) (cj Tryz.underlying5) 5 _ _ _ g6 l6
 cases k0;cases k1;cases k2;cases k3;cases k4;cases e5;cases e6
 exact⟨⟨a0,a1,a2,a3,a4,a5,a6⟩,k38_mk _ ⟨a0,a1,a2,a3,a4,a5,a6⟩ l5 K5 l6 K6,⟨q0,Nat.le_trans q1 (by decide),q2,q3,q4,q5,q6⟩,q1,s5,s6⟩
end
abbrev hZ:=S40
def gB (x:hZ):Prop:=(Lit.int .i64 x.f0).wf=true∧(x.f1.length*1≤reachBytes∧∀y∈x.f1,(Lit.int .u8 y).wf=true)∧(OkRec x.f2∧fh x.f2)∧(Lit.int .i64 x.f3).wf=true
theorem ia {α:Type} {l:List α} (h:l.length=10):∃a b r z,l=a::b::(r++[z])∧r.length=7:=by
 match l,h with
 | [a,b,c,d,e,f,g,h,i,j],_=>exact⟨a,b,[c,d,e,f,g,h,i],j,rfl,rfl⟩
section
variable {H:Type} {enc:TypeId×Value→H} {W:World} {base:Nat} {held:Bool}
theorem dX:bu enc Tryz.prog W base held 40 k40 gB:=by
 intro fuel cs x h hw
 obtain⟨xs,n,_,hx,hl,hxl,hf⟩:=DataW.trod_struct Tryz.underlying40 h
 have hl:cs.length=10:=by rw[hl];kernel_rfl
 obtain⟨y0,y1,y2,y3,rfl⟩:=of4 hxl
 obtain⟨v0,v1,r,v3,rfl,hr⟩:=ia hl
 subst hx
 have ho:=hl
 have l1:=aA Tryz.underlying40 hw 1 _ _ rfl rfl
 have l2:=aA Tryz.underlying40 hw 2 _ _ rfl rfl
 have g0:=hf 0 _ rfl
 have g1:=hf 1 _ rfl
 have g2:=hf 2 _ rfl
 have g3:=hf 3 _ rfl
 have ci:Tryz.prog.cellsOf 3=1:=by kernel_rfl
 have cb:Tryz.prog.cellsOf 35=1:=by kernel_rfl
 have cr:Tryz.prog.cellsOf 38=7:=by kernel_rfl
 have ht:(r++[v3]).take 7=r:=by rw[List.take_append_of_le_length (by omega),List.take_of_length_le (by omega)]
 have hd:(r++[v3]).drop 7=[v3]:=by rw[List.drop_append_of_le_length (by omega),List.drop_of_length_le (by omega),List.nil_append]
 simp [ci,cb,cr,ht,hd] at g0 g1 g2 g3
 obtain⟨a0,k0,q0⟩:=opens_int Tryz.underlying3 _ _ _ g0
 obtain⟨a1,⟨A1,c1,e1,n1,K1⟩,s1,q1⟩:=aY (B:=1) Tryz.underlying35 (by kernel_rfl) (by kernel_rfl) (cj Tryz.underlying5) 5 _ _ _ g1 l1
 obtain⟨a2,k2,q2⟩:=dC _ _ _ g2 l2
 obtain⟨a3,k3,q3⟩:=opens_int Tryz.underlying3 _ _ _ g3
 cases k0;cases e1;cases k3
 exact⟨⟨a0,a1,a2,a3⟩,⟨[.int .i64 a0],_,rfl,rfl,⟨_,r++[.int .i64 a3],rfl,⟨A1,c1,rfl,n1,K1⟩,⟨r,[.int .i64 a3],rfl,k2,rfl⟩⟩⟩,q0,⟨s1,q1⟩,q2,q3⟩
end
end Go.Proofs.YtcieieacfoaklaaGreat.gA
end
namespace Go.Proofs.YtcieieacfoaklaaGreat
open Go.RowKit YtcieieacfoaklaaGreatW.PrintWords YtcieieacfoaklaaGreatW.PrintLast YtcieieacfoaklaaGreatW.PrintMore Go.Proofs.YtcieieacfoaklaaGreat.Nm
section
namespace Pw
open Go.Shelf Go.Maps Fr Ext Pt Dk Mn Pu Ct Lg
open Rc (Re Lo withinB keyB zeroR recC Norm Norm.intro Norm.elim)
variable {W w w' w1:World} {B l g wb cb c N k n:Nat} {M M':DiskM} {F F' G:Nat→Prop} {S S':LogS} {p p':Wr} {hv pv hv' pv':Value} {A A':Option Addr} {q q':St} {b:List Int}
theorem dD (h:DiskAt w B g N M F) (n:Int) (h0:0≤n):Calls Tryz.prog 23 #[ptr g,.int .i64 n] w fun e w'=>e=.returned (.tuple #[])∧DiskAt w' B g N (aJ M n) F∧Keeps (·=g) w w':=by
 have hD:∀W,Keeps (·=g) w W→(∀nb kb pv bl vs,IsDisk w B g nb kb N pv bl vs M→W.heap[g]? =some (.cells (cellsD {M.d with fi:=true,fn:=n} (.map (some nb)) (.map (some kb)) pv) 75 (0,0)))→DiskAt W B g N (aJ M n) F:=fun W hk hb=>by
  obtain⟨⟨nb,kb,pv,bl,vs,hd,hf⟩,hl,hbs,hs⟩:=h
  refine⟨⟨nb,kb,pv,bl,vs,?_,hf⟩,fun k hk'=>Nat.lt_of_lt_of_le (hl k hk') hk.size,hbs,hs⟩
  unfold aJ
  rw[if_pos h0]
  exact hd.step (hb nb kb pv bl vs hd) (fun k hm hn=>hk.block k (hd.lt k hm) hn)
 obtain⟨⟨nb,kb,pv,bl,vs,hd,hf⟩,hl,hbs,hs⟩:=h
 have hb:=hd.blk
 have HD:=ak hD
 have HB:=ak hb
 have HI:=ak hd
 have d1:decide (n≥0)=true:=decide_eq_true h0
 have d2:decide (0≤n)=true:=d1
 have x6:=bq hb 6 (.bool M.d.fi)
 have x7:=bq hb 7 (.int .i64 M.d.fn)
 have z6:=blk_frozen hb 6
 have z7:=blk_frozen hb 7
 clear hD hb hd hf hl hbs hs h0
 go_enter Tryz.func23,Tryz.ntmps23
 go_wp2
 go_end0
 have hk:Keeps (·=g) w ((w.setCell ⟨g,6,none⟩ (.bool true)).setCell ⟨g,7,none⟩ (.int .i64 n)):=((Keeps.refl (·=g) w).set rfl).set rfl
 refine⟨rfl,HD.out _ hk (fun nb' kb' pv' bl' vs' hd'=>?_),hk⟩
 exact blk_put (cs:=(cellsD M.d (.map (some nb')) (.map (some kb')) pv').setIfInBounds 6 (.bool true)) (blk_put (cs:=cellsD M.d (.map (some nb')) (.map (some kb')) pv') hd'.blk 6 (.bool true) rfl) 7 (.int .i64 n) rfl
theorem AtW.fail (h:AtW W w l g wb cb q k n) (m:Int) (h0:0≤m):Calls Tryz.prog 23 #[ptr g,.int .i64 m] w fun e w'=>e=.returned (.tuple #[])∧AtW W w' l g wb cb (aJ q.1 m,q.2.1,q.2.2) k n:=by
 obtain⟨F,hv,pv,A,c,h1⟩:=h.ex
 refine(dD h1.disk m h0).mono ?_
 rintro e w' ⟨rfl,hd,hk⟩
 have iE:Keeps F w w':=hk.mono (fun k e=>e ▸ h1.disk.self)
 have hkX:Keeps (LX F l) w w':=iE.mono (fun k e=>.inl e)
 have hfit:Fit (aJ q.1 m):=by
  unfold aJ
  rw[if_pos h0]
  exact h.ok.fit.nums rfl
 refine⟨rfl,⟨F,hv,pv,A,c,hd,h1.log.keep iE (fun k e=>.inl e),h1.wr.keep hkX (fun k e=>.inl e)⟩,Rc.below_keeps h.bel hk (fun k e=>e ▸ h1.disk.base g h1.disk.self),hfit,h.ok.segs,h.ok.len,h.ok.bytes,h.ok.p1,h.ok.p2⟩
def Inv (q:St) (bd dn:Bool):Prop:=(bd=false∧dn=false∧∃all chs,XI (lim:=4096) (m:=16777216) q all chs)∨(bd=true∧dn=false∧eJ q.2.2)∨(bd=false∧dn=true∧q.2.2.done=true∧q.2.2.spoilt=false)
theorem Inv.write {bd dn:Bool} (h:Inv q bd dn) (b:List Int) (hB:IsBytes b) (hb:b.length < 4611686018427387904):
  ∃e dm dO,(writeM q b).2=e∧((bd || dn)=true→(writeM q b).1=q)∧Inv (writeM q b).1 dm dO∧(writeM q b).1.2.2.spoilt=dm∧
   ((bd=false∧dn=false∧e=0∧dm=false∧dO=false)∨(bd=false∧dn=false∧e=2∧dm=false∧dO=false)∨(bd=false∧dn=false∧e=81∧dm=true∧dO=false)∨(bd=true∧dn=false∧e=181∧dm=true∧dO=false)∨(bd=false∧dn=true∧e=3∧dm=false∧dO=true)):=by
 rcases h with⟨rfl,rfl,all,chs,hx⟩ | ⟨rfl,rfl,hb'⟩ | ⟨rfl,rfl,h1,h2⟩
 ·rcases hx.write b hB hb (by decide) with⟨all',cY,e1,hx'⟩ | e1 | ⟨e1,hb'⟩
  ·exact⟨0,false,false,e1,fun h=>(by cases h),.inl ⟨rfl,rfl,_,_,hx'⟩,hx'.spoilt,.inl ⟨rfl,rfl,rfl,rfl,rfl⟩⟩
  ·rw[e1];exact⟨2,false,false,rfl,fun h=>(by cases h),.inl ⟨rfl,rfl,_,_,hx⟩,hx.spoilt,.inr (.inl ⟨rfl,rfl,rfl,rfl,rfl⟩)⟩
  ·exact⟨81,true,false,e1,fun h=>(by cases h),.inr (.inl ⟨rfl,rfl,hb'⟩),hb'.1,.inr (.inr (.inl ⟨rfl,rfl,rfl,rfl,rfl⟩))⟩
 ·rw[dW hb'];exact⟨181,true,false,rfl,fun _=>rfl,.inr (.inl ⟨rfl,rfl,hb'⟩),hb'.1,.inr (.inr (.inr (.inl ⟨rfl,rfl,rfl,rfl,rfl⟩)))⟩
 ·rw[dA h1];exact⟨3,false,true,rfl,fun _=>rfl,.inr (.inr ⟨rfl,rfl,h1,h2⟩),h2,.inr (.inr (.inr (.inr ⟨rfl,rfl,rfl,rfl,rfl⟩)))⟩
theorem Inv.commit {bd dn:Bool} (h:Inv q bd dn):
  ∃e dm dO,(commitM q).2.2=e∧((bd || dn)=true→(commitM q).1=q)∧Inv (commitM q).1 dm dO∧(commitM q).1.2.2.spoilt=dm∧
   ((bd=false∧dn=false∧e=0∧dm=false∧dO=true)∨(bd=false∧dn=false∧e=81∧dm=true∧dO=false)∨(bd=true∧dn=false∧e=181∧dm=true∧dO=false)∨(bd=false∧dn=true∧e=3∧dm=false∧dO=true)):=by
 rcases h with⟨rfl,rfl,all,chs,hx⟩ | ⟨rfl,rfl,hb'⟩ | ⟨rfl,rfl,h1,h2⟩
 ·rcases hx.commit (by decide) with⟨e1,e2,e3⟩ | ⟨e1,hb'⟩
  ·exact⟨0,false,true,e1,fun h=>(by cases h),.inr (.inr ⟨rfl,rfl,e2,e3⟩),e3,.inl ⟨rfl,rfl,rfl,rfl,rfl⟩⟩
  ·exact⟨81,true,false,e1,fun h=>(by cases h),.inr (.inl ⟨rfl,rfl,hb'⟩),hb'.1,.inr (.inl ⟨rfl,rfl,rfl,rfl,rfl⟩)⟩
 ·rw[dy hb'];exact⟨181,true,false,rfl,fun _=>rfl,.inr (.inl ⟨rfl,rfl,hb'⟩),hb'.1,.inr (.inr (.inl ⟨rfl,rfl,rfl,rfl,rfl⟩))⟩
 ·rw[di h1];exact⟨3,false,true,rfl,fun _=>rfl,.inr (.inr ⟨rfl,rfl,h1,h2⟩),h2,.inr (.inr (.inr ⟨rfl,rfl,rfl,rfl,rfl⟩))⟩
theorem eH {key:ByteArray} {id:Int} {c:Cfg} (h:rightC c=false):newW key id c=none:=if_neg (fun e=>by rw[h] at e;cases e.1)
theorem dY (xs:List Op8) (h:(xs.map costO).sum≤20000) (k:Nat):((xs.take k).map costO).sum≤20000:=by
 have h1:((xs.take k).map costO).sum+((xs.drop k).map costO).sum=(xs.map costO).sum:=by
  rw[← List.sum_append,← List.map_append,List.take_append_drop]
 omega
theorem dZ (xs:List Op8) (k:Nat) (hk:k < xs.length):((xs.take (k+1)).map costO).sum=((xs.take k).map costO).sum+costO xs[k]:=by
 rw[List.take_succ_eq_append_getElem hk,List.map_append,List.sum_append]
 simp
theorem dE (c:Cfg) (a0:Option Addr) (c0:Nat) (xs:List Op8) (fl:Int) (hf:0≤fl∧fl≤255) (W:World) (hr:Kd.C k40 W a0 xs.length xs) (hn:xs.length < 100000000000000)
  (hs:∀o∈xs,o.f1.length < 1000000000000000∧o.f2.f6.length < 1000000000000000∧o.f2.f1.size < 1000000000000000∧o.f2.f5.length < 1000000000000000) (hB:∀o∈xs,IsBytes o.f1):
  Calls Tryz.prog 7 #[.agg (cfgV c),.slice a0 xs.length c0,.int .u8 fl] W fun e w'=>e=.returned (.bool true)∧RowKit.Below W.heap.size W w':=by
 have hz:=heap_alloc_new W (.cells (cfgV c) 23)
 have hb0:=below_alloc (RowKit.Below.refl W.heap.size W) (.cells (cfgV c) 23)
 have HHD:=ak dx
 have HBB:=ak hB
 have HNX:=ak hn
 have HSX:=ak hs
 have hbb:=Kd.C_below hr hb0
 have HF:=ak hf
 clear hB hr hn hs hf
 go_enter Tryz.func7,Tryz.ntmps7
 go_upto_region 1 with(fail)
 generalize hw0:W.alloc (.cells #[.int .i64 c.piece,.int .i64 c.small,.int .i64 c.max,.int .i64 c.limit,.int .i64 c.handles] 23)=w0 at hz hb0 hbb ⊢
 clear hw0
 obtain⟨kb,hkb⟩:∃kb,W.heap.size=kb:=⟨_,rfl⟩
 rw[hkb] at hz ⊢
 have HKB:=ak hkb
 have HZ:=ak hz
 have HB0:=ak hb0
 have HRB:=ak hbb
 clear hkb hz hb0 hbb
 have HX:=ak (fun w' (h:RowKit.Below w0.heap.size w0 w')=>(h.block _ (blk_lt HZ.out)).trans HZ.out)
 clear HZ
 go_upto_region 2 with(go_at_call 8;(with_reducible refine(HHD.out _).mono ?_);rintro e w1 ⟨rfl,hb1⟩;have HB1:=ak hb1;clear hb1)
 have fV:=ak (new? 16777216 w0.heap.size w1 HB1.out.size)
 clear HHD
 go_upto_region 3 with(go_at_call 9;(with_reducible refine fV.out.mono ?_);rintro e w2 ⟨g,F,rfl,hd2,hf2,hb2⟩;have HD2:=ak hd2;have HB2:=ak (HB1.out.trans (hb2.mono HB1.out.size));clear hd2 hf2 hb2)
 clear fV HB1
 have iF:=ak (great_calls a0 c0 xs HNX.out (Kd.C_below HRB.out HB2.out) HSX.out)
 go_upto_if 27 with(go_at_call 10;(with_reducible refine iF.out.mono ?_);rintro e w3 ⟨gr,rfl,hb3,hgr⟩;have HB3:=ak (HB2.out.trans (hb3.mono HB2.out.size));have HD3:=ak (HD2.out.below hb3);have iG:=ak hgr;clear hb3 hgr)
 cases gr with
 | true=>
  go_wp2
  go_ret
  exact⟨rfl,HB0.out.trans (HB3.out.mono HB0.out.size)⟩
 | false=>
 clear iF HB2 HD2
 have hop:=open_calls HD3.out (Fit.new _) 4096
 rw[show openM (newM 16777216) 4096=(some ⟨4096,⟨[],1⟩,-1⟩,0) from rfl] at hop
 have fW:=ak hop
 clear hop
 go_upto_region 8 with(go_at_call 11;(with_reducible refine fW.out.mono ?_);rintro e w4 ⟨hb4,l,rfl,ho4,hl4⟩;have HB4:=ak (HB3.out.trans (hb4.mono HB3.out.size));have HD4:=ak (HD3.out.below hb4);have HO4:=ak ho4;clear hb4 ho4 hl4)
 clear fW HB3 HD3
 have x0:w4.cell? ⟨kb,0,none⟩=some (.int .i64 c.piece):=(blk_cell (HX.out _ HB4.out) 0).trans rfl
 have x1:w4.cell? ⟨kb,1,none⟩=some (.int .i64 c.small):=(blk_cell (HX.out _ HB4.out) 1).trans rfl
 have x2:w4.cell? ⟨kb,2,none⟩=some (.int .i64 c.max):=(blk_cell (HX.out _ HB4.out) 2).trans rfl
 have x3:w4.cell? ⟨kb,3,none⟩=some (.int .i64 c.limit):=(blk_cell (HX.out _ HB4.out) 3).trans rfl
 have x4:w4.cell? ⟨kb,4,none⟩=some (.int .i64 c.handles):=(blk_cell (HX.out _ HB4.out) 4).trans rfl
 obtain⟨rc,hrc⟩:∃r,rightC c=r:=⟨_,rfl⟩
 cases rc with
 | false=>
  have HN:=ak (new_none l cN 1 c w4 (eH hrc))
  have HRC:=ak (fun w=>by have h:=right_calls c w;rw[hrc] at h;exact h)
  clear hrc
  go_upto_region 10 with(go_at_call 12;(with_reducible refine HN.out.mono ?_);rintro e w5 ⟨rfl,hb5⟩;have HB5:=ak (HB4.out.trans (hb5.mono HB4.out.size));clear hb5)
  clear x0 x1 x2 x3 x4
  have x0:w5.cell? ⟨kb,0,none⟩=some (.int .i64 c.piece):=(blk_cell (HX.out _ HB5.out) 0).trans rfl
  have x1:w5.cell? ⟨kb,1,none⟩=some (.int .i64 c.small):=(blk_cell (HX.out _ HB5.out) 1).trans rfl
  have x2:w5.cell? ⟨kb,2,none⟩=some (.int .i64 c.max):=(blk_cell (HX.out _ HB5.out) 2).trans rfl
  have x3:w5.cell? ⟨kb,3,none⟩=some (.int .i64 c.limit):=(blk_cell (HX.out _ HB5.out) 3).trans rfl
  have x4:w5.cell? ⟨kb,4,none⟩=some (.int .i64 c.handles):=(blk_cell (HX.out _ HB5.out) 4).trans rfl
  go_wp2_with (go_at_call 18;(with_reducible refine(HRC.out _).mono ?_);rintro e w6 ⟨rfl,hb6⟩;have HB6:=ak (HB5.out.trans (hb6.mono HB5.out.size));clear hb6)
  go_ret
  exact⟨rfl,HB0.out.trans (HB6.out.mono HB0.out.size)⟩
 | true=>
 have ic:=ak hrc
 clear hrc
 have HN:=ak (new_some l cN 1 c w4 ic.out dt (by decide))
 go_upto_region 11 with(go_at_call 12;(with_reducible refine HN.out.mono ?_);rintro e w5 ⟨wb,cb,rfl,hb5,hw5,iH,ho5,iI⟩;have fX:=ak (AtW.start HB4.out HD4.out (Fit.new _) HO4.out (Nat.zero_le _) ic.out hb5 hw5 iH ho5 iI);clear hb5 hw5 iH ho5 iI)
 clear HN HB4 HD4 HO4 x0 x1 x2 x3 x4
 have jo:wrap64 fl=fl:=by have:=HF.out;unfold wrap64;omega
 have HFA:=ak (fX.out.fail fl HF.out.1)
 have iJ:=ak (show Inv (aJ (newM 16777216) fl,⟨4096,⟨[],1⟩,-1⟩,wr0 cN 1 c) false false from .inl ⟨rfl,rfl,_,_,XI.new ic.out dt (by decide) fl HF.out.1⟩)
 go_upto_region 12 with(go_at_call 23;(with_reducible refine HFA.out.mono ?_);rintro e w6 ⟨rfl,h6⟩;have fJ:=ak h6;clear h6)
 clear HFA fX jo
 obtain⟨s0,hs0⟩:∃s:St,(aJ (newM 16777216) fl,⟨4096,⟨[],1⟩,-1⟩,wr0 cN 1 c)=s:=⟨_,rfl⟩
 have fJ:=ak (show AtW w0 w6 l g wb cb s0 0 0 by rw[← hs0];exact fJ.out)
 rw[hs0] at iJ
 clear hs0
 have gC:=ak (iG.out trivial).1
 have iK:=ak (dY xs (iG.out trivial).2)
 go_wp2
 go_loopg [12,13,14] xs.length (fun kq v12 v13 v14 wr=>∃(k:Nat) (bd dn:Bool) (q:St),v12=.bool bd∧v13=.bool dn∧v14=.int .i64 k∧Aside0 (k+kq=xs.length)∧Aside0 (Inv q bd dn)∧Aside0 (AtW w0 wr l g wb cb q k ((xs.take k).map costO).sum))
 case atStart=>exact⟨0,false,false,s0,rfl,rfl,rfl,⟨by omega⟩,iJ,fJ⟩
 case round=>
  obtain⟨k,bd,dn,q,rfl,rfl,rfl,HQ,HI,HA⟩:=hrel
  cases gk with
  | zero=>
   obtain rfl:k=xs.length:=by have:=HQ.out;omega
   have d1:decide ((xs.length:Int) < (xs.length:Int))=false:=decide_eq_false (by omega)
   have d2:decide (xs.length < xs.length)=false:=decide_eq_false (by omega)
   go_wp2
   go_ret
   exact⟨rfl,HB0.out.trans (HA.out.bel.mono HB0.out.size)⟩
  | succ gk=>
   have hk0:k < xs.length:=by have:=HQ.out;omega
   have d1:decide ((k:Int) < (xs.length:Int))=true:=decide_eq_true (by omega)
   have d2:decide (k < xs.length)=true:=decide_eq_true hk0
   obtain⟨ad,A1,c1,A7,c7,A8,c8,e0,x0,x1,-,-,-,-,-,-,-,-,l1,k1,-,-⟩:=at_op HRB.out k hk0
   subst e0
   have hcs:=dZ xs k hk0
   have hc2:=iK.out (k+1)
   have hc1:=iK.out k
   rw[hcs] at hc2
   have HBX:=ak (HBB.out xs[k] (List.getElem_mem hk0))
   generalize xs[k]=x at x0 x1 l1 k1 hcs hc2 HBX
   have gK:=ak hcs
   have HC2:=ak (show((xs.take k).map costO).sum+x.f1.length≤((xs.take k).map costO).sum+costO x∧((xs.take k).map costO).sum+costO x≤20000 from⟨by unfold costO;omega,hc2⟩)
   have HL1:=ak l1
   have HK1:=ak k1
   have X0:=ak x0
   have X1:=ak x1
   clear hcs hc2 hc1 l1 k1 x0 x1
   have HDN:=ak HA.out.done
   have b0:(0:Int)≤(k:Int):=by omega
   have b1:(k:Int) < (xs.length:Int):=by omega
   have HLO:=ak (HA.out.locs (by have:=HC2.out;omega))
   go_upto_region 19 with(first
    | (go_at_call 24;(with_reducible refine HDN.out.mono ?_);rintro e w7 ⟨rfl,hw⟩;obtain rfl:=hw.symm)
    | (go_at_call 19;(with_reducible refine HLO.out.mono ?_);rintro e w7 ⟨A9,c9,rfl,-,hb7⟩;have eD:=ak (HA.out.below hb7);clear hb7))
   clear HDN HLO HA
   have y0:=pw_cell_below eD.out.bel X0.out
   have y1:=pw_cell_below eD.out.bel X1.out
   by_cases h3:x.f0=3
   ·have e3:(x.f0==3)=true:=beq_iff_eq.mpr h3
    clear h3
    obtain⟨e,dm,dO,i1,i2,i3,i4,i5⟩:=HI.out.commit
    have hcm:=eD.out.commit (by have:=gC.out;omega) (by have:=HC2.out;omega)
    generalize commitM q=r at hcm i1 i2 i3 i4
    obtain⟨q',pl,er⟩:=r
    dsimp only at hcm i1 i2 i3 i4
    subst i1
    have iL:=ak (show Calls Tryz.prog 15 #[ptr wb] w7 (fun e w'=>e=.returned (.tuple #[.agg #[.int .i64 pl.seg,.int .i64 pl.kind,.string pl.key,.int .i64 pl.at_,.int .i64 pl.size],.int .i64 er])∧AtW w0 w' l g wb cb q' (k+1) ((xs.take k).map costO).sum) from hcm)
    have I2:=ak i2
    have I3:=ak i3
    have I4:=ak i4
    have I5:=ak i5
    clear hcm i2 i3 i4 i5
    go_upto_region 24 with(go_at_call 15;(with_reducible refine iL.out.mono ?_);rintro e w8 ⟨rfl,h8⟩;have H8:=ak h8;clear h8)
    have ie:=below_alloc (RowKit.Below.refl w8.heap.size w8) (.cells (placeV pl) 47)
    generalize jq:w8.alloc (.cells #[.int .i64 pl.seg,.int .i64 pl.kind,.string pl.key,.int .i64 pl.at_,.int .i64 pl.size] 47)=w9 at ie ⊢
    clear jq
    have H9:=ak (H8.out.below ie)
    clear ie H8 iL y0 y1 HI eD
    have Y0:=ak (pw_cell_below H9.out.bel X0.out)
    rcases I5.out with⟨rfl,rfl,rfl,rfl,rfl⟩ | ⟨rfl,rfl,rfl,rfl,rfl⟩ | ⟨rfl,rfl,rfl,rfl,rfl⟩ | ⟨rfl,rfl,rfl,rfl,rfl⟩
    all_goals
     have i2:=I2.out
     try (obtain rfl:=i2 rfl)
     have gD:=ak (fun w h=>(AtW.spoilt (w:=w) (W:=w0) (l:=l) (g:=g) (wb:=wb) (cb:=cb) (q:=q') (k:=k+1) (n:=((xs.take k).map costO).sum) h).mono (fun e w' he=>(show e=.returned (.bool _)∧w'=w from⟨he.1.trans (by rw[I4.out]),he.2⟩)))
     have y0:=Y0.out
     clear i2
     have HDN:=ak H9.out.done
     have HLO:=ak (H9.out.locs (by have:=HC2.out;omega))
     go_wp2_with (first
      | (go_at_call 24;(with_reducible refine HDN.out.mono ?_);rintro e fY ⟨rfl,hw⟩;obtain rfl:=hw.symm)
      | (go_at_call 19;(with_reducible refine HLO.out.mono ?_);rintro e w11 ⟨jr,c11,rfl,-,dF⟩;have eX:=ak (H9.out.below dF);have y0:=pw_cell_below dF y0;clear dF)
      | (go_at_call 22;(with_reducible refine(gD.out _ eX.out).mono ?_);rintro e gh ⟨rfl,hw⟩;obtain rfl:=hw.symm)
      | (go_at_call 22;(with_reducible refine(gD.out _ H9.out).mono ?_);rintro e gh ⟨rfl,hw⟩;obtain rfl:=hw.symm))
     go_roundg gk
     case measure=>omega
     case rel=>first | exact⟨k+1,_,_,q',rfl,rfl,by rw[wrap_k k (by have:=HNX.out;omega)],⟨by have:=HQ.out;omega⟩,I3,⟨by rw[gK.out];exact⟨eX.out.ex,eX.out.bel,eX.out.ok.mono (by have:=HC2.out;omega)⟩⟩⟩ | exact⟨k+1,_,_,q',rfl,rfl,by rw[wrap_k k (by have:=HNX.out;omega)],⟨by have:=HQ.out;omega⟩,I3,⟨by rw[gK.out];exact⟨H9.out.ex,H9.out.bel,H9.out.ok.mono (by have:=HC2.out;omega)⟩⟩⟩
   ·have e3:(x.f0==3)=false:=beq_eq_false_iff_ne.mpr h3
    clear h3
    obtain⟨e,dm,dO,i1,i2,i3,i4,i5⟩:=HI.out.write x.f1 HBX.out (by have:=HC2.out;omega)
    have hwr:=eD.out.fx (by have:=gC.out;omega) HBX.out (by have:=HC2.out;omega) A1 c1 HL1.out HK1.out
    generalize writeM q x.f1=r at hwr i1 i2 i3 i4
    obtain⟨q',er⟩:=r
    dsimp only at hwr i1 i2 i3 i4
    subst i1
    have HWR:=ak hwr
    have I2:=ak i2
    have I3:=ak i3
    have I4:=ak i4
    have I5:=ak i5
    clear hwr i2 i3 i4 i5
    go_upto_region 24 with(go_at_call 14;(with_reducible refine HWR.out.mono ?_);rintro e w9 ⟨rfl,h9⟩;have H9:=ak h9;clear h9)
    clear HWR y0 y1 HI eD
    have Y0:=ak (pw_cell_below H9.out.bel X0.out)
    rcases I5.out with⟨rfl,rfl,rfl,rfl,rfl⟩ | ⟨rfl,rfl,rfl,rfl,rfl⟩ | ⟨rfl,rfl,rfl,rfl,rfl⟩ | ⟨rfl,rfl,rfl,rfl,rfl⟩ | ⟨rfl,rfl,rfl,rfl,rfl⟩
    all_goals
     have i2:=I2.out
     try (obtain rfl:=i2 rfl)
     have gD:=ak (fun w h=>(AtW.spoilt (w:=w) (W:=w0) (l:=l) (g:=g) (wb:=wb) (cb:=cb) (q:=q') (k:=k+1) (n:=((xs.take k).map costO).sum+x.f1.length) h).mono (fun e w' he=>(show e=.returned (.bool _)∧w'=w from⟨he.1.trans (by rw[I4.out]),he.2⟩)))
     have y0:=Y0.out
     clear i2
     have HDN:=ak H9.out.done
     have HLO:=ak (H9.out.locs (by have:=HC2.out;omega))
     go_wp2_with (first
      | (go_at_call 24;(with_reducible refine HDN.out.mono ?_);rintro e fY ⟨rfl,hw⟩;obtain rfl:=hw.symm)
      | (go_at_call 19;(with_reducible refine HLO.out.mono ?_);rintro e w11 ⟨jr,c11,rfl,-,dF⟩;have eX:=ak (H9.out.below dF);have y0:=pw_cell_below dF y0;clear dF)
      | (go_at_call 22;(with_reducible refine(gD.out _ eX.out).mono ?_);rintro e gh ⟨rfl,hw⟩;obtain rfl:=hw.symm)
      | (go_at_call 22;(with_reducible refine(gD.out _ H9.out).mono ?_);rintro e gh ⟨rfl,hw⟩;obtain rfl:=hw.symm))
     go_roundg gk
     case measure=>omega
     case rel=>first | exact⟨k+1,_,_,q',rfl,rfl,by rw[wrap_k k (by have:=HNX.out;omega)],⟨by have:=HQ.out;omega⟩,I3,⟨by rw[gK.out];exact⟨eX.out.ex,eX.out.bel,eX.out.ok.mono (by have:=HC2.out;omega)⟩⟩⟩ | exact⟨k+1,_,_,q',rfl,rfl,by rw[wrap_k k (by have:=HNX.out;omega)],⟨by have:=HQ.out;omega⟩,I3,⟨by rw[gK.out];exact⟨H9.out.ex,H9.out.bel,H9.out.ok.mono (by have:=HC2.out;omega)⟩⟩⟩
theorem ed.walk (c:Cfg) (a0:Option Addr) (n0 c0:Nat) (z0:List Op8) (fl:Int) (W:World)
  (h1:z0.length=n0∧n0≤c0∧c0≤maxLen∧Kd.C k40 W a0 n0 z0∧n0*136≤reachBytes∧∀y∈z0,gA.gB y) (h2:(Lit.int .u8 fl).wf=true):
  Calls Tryz.prog 7 #[.agg (cfgV c),.slice a0 n0 c0,.int .u8 fl] W fun e w'=>e=.returned (.bool true)∧RowKit.Below W.heap.size W w':=by
 obtain⟨rfl,p0,m0,q0,r0,s0⟩:=h1
 have hR:reachBytes=140737488351232:=rfl
 refine dE c a0 c0 z0 fl (bounds_u8 h2) W q0 (by omega) (fun o ho=>?_) (fun o ho=>?_)
 ·obtain⟨h1,h2,⟨h3,h4⟩,h5⟩:=s0 o ho
  obtain⟨g1,g2,g3⟩:=h4
  have:=h2.1
  exact⟨by omega,by omega,by omega,by omega⟩
 ·obtain⟨h1,h2,⟨h3,h4⟩,h5⟩:=s0 o ho
  exact Pure.bytes_of_wf _ h2.2
end Pw
end
end Go.Proofs.YtcieieacfoaklaaGreat
section
namespace Go.Proofs.YtcieieacfoaklaaGreat.iM
open Go.ChangeShapes Go.WideShapes Go.RowKit YtcieieacfoaklaaGreatW.PrintWords Fr HrA
open Pu (Cfg)
open Pw (cfgV)
theorem iN {α:Type} {l:List α} (h:l.length=5):∃a b c d e,l=[a,b,c,d,e]:=by
 match l,h with
 | [a,b,c,d,e],_=>exact⟨_,_,_,_,_,rfl⟩
theorem eI {H:Type} {enc:TypeId×Value→H} {W:World} {base:Nat} {held:Bool} {r:Reach} {b0:Nat} {v:Value} {d:DataW H} {p:List MemPlace} (hval:Value.okWide Tryz.prog W r b0 23 v) (h:DataW.Trod enc Tryz.prog W base (fun _=>true) held 23 v d p):∃c:Cfg,v=.agg (cfgV c):=by
 obtain⟨cs,rfl,hsz⟩:=okWide_struct Tryz.underlying23 hval
 obtain⟨fuel,h⟩:=h
 obtain⟨xs,n,_,_,hl,hxl,hf⟩:=DataW.trod_struct Tryz.underlying23 h
 have hl:(Value.agg cs).cells.toList.length=5:=by rw[hl];kernel_rfl
 obtain⟨y0,y1,y2,y3,y4,rfl⟩:=iN hxl
 obtain⟨v0,v1,v2,v3,v4,hcs⟩:=iN hl
 rw[hcs] at hf
 have g0:=hf 0 _ rfl
 have g1:=hf 1 _ rfl
 have g2:=hf 2 _ rfl
 have g3:=hf 3 _ rfl
 have g4:=hf 4 _ rfl
 have ci:Tryz.prog.cellsOf 3=1:=by kernel_rfl
 simp [ci] at g0 g1 g2 g3 g4
 obtain⟨a0,k0,q0⟩:=opens_int (k:=.i64) Tryz.underlying3 _ _ _ g0
 obtain⟨a1,k1,q1⟩:=opens_int (k:=.i64) Tryz.underlying3 _ _ _ g1
 obtain⟨a2,k2,q2⟩:=opens_int (k:=.i64) Tryz.underlying3 _ _ _ g2
 obtain⟨a3,k3,q3⟩:=opens_int (k:=.i64) Tryz.underlying3 _ _ _ g3
 obtain⟨a4,k4,q4⟩:=opens_int (k:=.i64) Tryz.underlying3 _ _ _ g4
 cases k0;cases k1;cases k2;cases k3;cases k4
 refine⟨⟨a0,a1,a2,a3,a4⟩,?_⟩
 have e:cs=#[.int .i64 a0,.int .i64 a1,.int .i64 a2,.int .i64 a3,.int .i64 a4]:=Array.toList_inj.1 hcs
 rw[e]
end Go.Proofs.YtcieieacfoaklaaGreat.iM
namespace Go.Proofs.YtcieieacfoaklaaGreat.putSpoilt
open Go.ChangeShapes Go.WideShapes Go.ChangeAt Go.RowKit
open Go.ChangeMaps (open_string shut_string)
theorem own:ownKnob Tryz.prog.godebug=none:=by kernel_rfl
theorem laidOut:laidOutB Tryz.prog=true:=by kernel_rfl
theorem lifted (os:Os) (started:os.Started) (H:Type) (enc:TypeId×Value→H):
  ReturnsInHanded {} Tryz.checked os 7 .any (Rows.putSpoiltSpec.pre6 enc Tryz.prog Tryz.f7 Rows.putSpoiltRow.domain false) (Rows.putSpoiltSpec.post enc Tryz.prog Tryz.f7 false true false false):=by
 refine returnsInHanded_of_change_sized (C:=Tryz.checked) own started (by kernel_rfl) Tryz.func7
  (ChangeSpec.witness6 (enc:=enc) (C:=Tryz.checked) false ⟨#[],#[.agg #[.int .i64 0,.int .i64 0,.int .i64 0,.int .i64 0,.int .i64 0],.slice none 0 0,.int .u8 0],[]⟩ 8 (by kernel_rfl) (by kernel_rfl) (by kernel_rfl) (by kernel_rfl)) ?_
 intro W base args ds gs before fj hW hcnd gF _
 have hsz:(DataW.weightsEach Tryz.prog (Tryz.f7.params.toList++Rows.putSpoiltSpec.plain.varTypes Tryz.prog) (ds++gs)).all (·≤reachBytes)=true:=gF
 have hval:∀(j:Nat) t v,Tryz.f7.params[j]? =some t→args[j]? =some v→Value.okWide Tryz.prog W .any base t v:=fj
 have hW':=hW
 obtain⟨p,q,iO,hV,rfl,jA,hnd⟩:=hW
 have hA:DataW.TrodAll enc Tryz.prog W 0 (fun _=>true) true Tryz.f7.params.toList args.toList ds p:=iO
 rw[Tryz.params7] at hA hval hsz
 obtain⟨v0,jB,d0,jC,p0,q0,hargs,rfl,rfl,h0,r0⟩:=trodAll_cons hA
 obtain⟨v1,jD,d1,jE,p1,q1,rfl,rfl,rfl,h1,r1⟩:=trodAll_cons r0
 obtain⟨v2,jF,d2,jG,p2,q2,rfl,rfl,rfl,h2,r2⟩:=trodAll_cons r1
 obtain⟨rfl,rfl,rfl⟩:=trodAll_nil r2
 obtain rfl:args=#[v0,v1,v2]:=by cases args;simp_all
 obtain⟨rfl,rfl⟩:=trodVars_none hV
 have k0:=h0
 have jt:∀x∈p0,x.block < W.heap.size:=by obtain⟨m,hm⟩:=k0;exact DataW.trod_lt m _ _ _ hm
 obtain⟨a0,rfl⟩:=iM.eI (hval 0 23 v0 rfl rfl) h0
 obtain⟨a1,len1,ig,rfl⟩:=okWide_slice Tryz.underlying24 (hval 1 24 v1 rfl rfl)
 have k1:=h1
 have ju:∀x∈p1,x.block < W.heap.size:=by obtain⟨m,hm⟩:=k1;exact DataW.trod_lt m _ _ _ hm
 obtain⟨f1,hf1⟩:=h1
 obtain⟨z1,w1⟩:=gA.bG (B:=136) Tryz.underlying24 (by kernel_rfl) (by kernel_rfl) gA.dX hf1 (gA.ct hsz 1 _ _ rfl rfl)
 obtain⟨a2,rfl,rfl,rfl,w2⟩:=open_int Tryz.underlying5 (hval 2 5 v2 rfl rfl) h2
 clear iO fj gF hsz
 refine(Pw.ed.walk a0 a1 len1 ig z1 a2 W w1 w2).mono fun e W' ⟨he,bel⟩=>?_
 subst he
 exact⟨_,rfl,_,_,_,[],_,[],hW',trodAll_mk1 (shut_bool Tryz.underlying4 _),(trodAll_cons_mk (Below.trod laidOut (by kernel_rfl) (of_decide_eq_true (by kernel_rfl)) k0 bel jt) (trodAll_cons_mk (Below.trod laidOut (by kernel_rfl) (of_decide_eq_true (by kernel_rfl)) k1 bel ju) (trodAll_cons_mk (shut_int Tryz.underlying5 w2) trodAll_mk0))),rfl,bel.frame _,fun h=>by cases h⟩
theorem closed:joinedFacts Tryz.pinned.checked.prog 7 Tryz.f7 Rows.putSpoiltSpec Rows.putSpoiltRow=true:=of_decide_eq_true (by kernel_rfl)
theorem over:Rows.putSpoiltRow.holds Tryz.pinned (OpenSpec.ofChange Rows.putSpoiltSpec):=
 OpenClaim.holds_of_wide 7 Tryz.f7 rfl rfl rfl rfl rfl rfl rfl ⟨rfl,rfl,rfl,rfl,rfl⟩ rfl rfl rfl rfl rfl (by kernel_rfl) Tryz.func7 closed
  (of_decide_eq_true (by kernel_rfl)) (by unfold Func.isWrapper;first | (rw[if_pos (by decide+kernel)];kernel_rfl) | (rw[if_neg (by decide+kernel)];exact⟨rfl,rfl⟩))
  (fun os started H enc _=>lifted os started H enc)
theorem proved:Rows.PutSpoiltSaid:=over
end Go.Proofs.YtcieieacfoaklaaGreat.putSpoilt
namespace Go.Proofs.YtcieieacfoaklaaGreat
theorem putSpoilt_holds:Rows.PutSpoiltSaid:=putSpoilt.proved
end Go.Proofs.YtcieieacfoaklaaGreat
end
