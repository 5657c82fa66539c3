/- Texts of this claim, joined. -/
import Derived.Test.YtcieieacfoaklaaGreatV2
import Derived.Test.YtcieieacfoaklaaGreatV4
import Derived.Test.YtcieieacfoaklaaGreatV5
import Derived.Shelf.SlicesE.IndexFunc
import Derived.SizedLaws
import Derived.ChangeSlices
set_option linter.unusedVariables false
set_option linter.unusedSimpArgs false
set_option maxRecDepth 100000
set_option maxHeartbeats 8000000
namespace Go.Proofs.YtcieieacfoaklaaGreat
open Go.RowKit YtcieieacfoaklaaGreatW.PrintWords YtcieieacfoaklaaGreatW.PrintLast YtcieieacfoaklaaGreatW.PrintMore
section
namespace Qd
open Go.Shelf Go.Maps Go.Sort Go.WideShapes Fr Ext Go.Proofs.YtcieieacfoaklaaGreat.Nm Dk

abbrev View:=ByteArray→Option (List Int)
def upd (c:View) (s:ByteArray) (v:Option (List Int)):View:=fun t=>if t=s then v else c t
theorem upd_self (c:View) (s:ByteArray) (v:Option (List Int)):upd c s v s=v:=if_pos rfl
theorem upd_ne (c:View) {s t:ByteArray} (v:Option (List Int)) (h:t≠s):upd c s v t=c t:=if_neg h
def con (M:DiskM) (s:ByteArray):Option (List Int):=(Dk.look M.D s).map fun i=>(M.fs.getD i ⟨[],0,0⟩).b
def tot (M:DiskM):Nat:=(M.fs.map fun f=>f.b.length).sum
structure Quiet (M:DiskM):Prop where
 fit:Fit M
 inj:∀s t i,Dk.look M.D s=some i→Dk.look M.D t=some i→s=t
 fi:M.d.fi=false
 ci:M.d.ci=false
 down:M.d.down=false
structure Sees (M:DiskM) (c:View) (a n:Nat) (m:Int):Prop where
 quiet:Quiet M
 con:con M=c
 tot:tot M≤a
 files:M.fs.length≤n
 most:M.d.most=m
variable {M:DiskM} {c:View} {a n:Nat} {m:Int} {s t:ByteArray} {i:Nat} {b bs:List Int}
theorem Quiet.thing (h:Quiet M):thingE M.d=0:=by unfold Dk.thingE nowB;rw[h.ci,h.fi];rfl
theorem Quiet.thingN (h:Quiet M):(thingN M.d).fi=false∧(thingN M.d).ci=false∧(thingN M.d).down=false∧(thingN M.d).most=M.d.most:=by
 unfold Dk.thingN nowB
 rw[h.ci,h.fi]
 exact⟨rfl,rfl,h.down,rfl⟩
theorem isMap (h:Fit M):IsMap M.D:=by
 obtain⟨es,e,_⟩:=h.tidy
 exact⟨es,e⟩
theorem con_some (h:con M s=some b):∃i,Dk.look M.D s=some i∧(M.fs.getD i ⟨[],0,0⟩).b=b:=by
 unfold con at h
 obtain⟨i,h1,h2⟩:=Option.map_eq_some_iff.1 h
 exact⟨i,h1,h2⟩
theorem con_none:con M s=none↔Dk.look M.D s=none:=by
 unfold con
 exact Option.map_eq_none_iff
theorem con_isSome:(Dk.look M.D s).isSome=(con M s).isSome:=by
 unfold con
 cases Dk.look M.D s <;> rfl
theorem sum_le (f:Nat→Nat):∀(n:Nat) (js:List Nat),js.Nodup→(∀j∈js,j < n)→(js.map f).sum≤((List.range n).map f).sum
 | 0,js,_,h=>by
  cases js with
  | nil=>simp
  | cons j l=>exact absurd (h j (by simp)) (by omega)
 | n+1,js,hn,h=>by
  have h1:=sum_le f n (js.erase n) (hn.erase n) (fun j hj=>by
   have h2:=(hn.mem_erase_iff).1 hj
   have:=h j h2.2
   have:=h2.1
   omega)
  rw[List.range_succ,List.map_append,List.sum_append]
  simp only[List.map_cons,List.map_nil,List.sum_cons,List.sum_nil]
  by_cases hm:n∈js
  ·have h2:=((List.perm_cons_erase hm).map f).sum_nat
   rw[List.map_cons,List.sum_cons] at h2
   omega
  ·rw[List.erase_of_not_mem hm] at h1
   omega
theorem ones_sum (l:List Nat):(l.map fun _=>1).sum=l.length:=by
 induction l with
 | nil=>rfl
 | cons x l ih=>rw[List.map_cons,List.sum_cons,ih,List.length_cons];omega
theorem range_sum (xs:List Nat):(List.range xs.length).map (fun i=>xs.getD i 0)=xs:=by
 apply List.ext_getElem
 ·simp
 ·intro i h1 h2
  simp [List.getElem?_eq_getElem h2]
theorem Quiet.idx (h:Quiet M):∀l:List (List UInt8),l.Nodup→(∀x∈l,(Dk.look M.D ⟨x.toArray⟩).isSome=true)→∃js:List Nat,js.Nodup∧(∀j∈js,j < M.fs.length)∧js.length=l.length∧sumM M l=((js.map fun j=>((M.fs.map fun f=>f.b.length).getD j 0)).sum:Nat)∧∀j∈js,∃x∈l,Dk.look M.D ⟨x.toArray⟩=some j
 | [],_,_=>⟨[],by simp,by simp,rfl,by simp [sumM],by simp⟩
 | x::l,hn,hp=>by
  obtain⟨js,h1,h2,h3,h4,h5⟩:=Quiet.idx h l (List.nodup_cons.1 hn).2 (fun y hy=>hp y (by simp [hy]))
  obtain⟨i,hi⟩:=Option.isSome_iff_exists.1 (hp x (by simp))
  have hil:=h.fit.inD hi
  refine⟨i::js,List.nodup_cons.2 ⟨fun hm=>?_,h1⟩,fun j hj=>?_,by simp [h3],?_,fun j hj=>?_⟩
  ·obtain⟨y,hy,hyi⟩:=h5 i hm
   have h6:=h.inj _ _ _ hi hyi
   have h7:x=y:=by
    have:=congrArg (fun z:ByteArray=>z.data.toList) h6
    simpa using this
   exact(List.nodup_cons.1 hn).1 (h7 ▸ hy)
  ·rcases List.mem_cons.1 hj with rfl | hj
   ·exact hil
   ·exact h2 j hj
  ·have e1:lenM M x=(((M.fs.map fun f=>f.b.length).getD i 0:Nat):Int):=by
    unfold lenM sizeM fileM
    rw[hi,Option.bind_some,List.getElem?_eq_getElem hil]
    simp [List.getElem?_eq_getElem hil]
   simp only[sumM,List.map_cons,List.sum_cons]
   rw[e1,h4]
   omega
  ·rcases List.mem_cons.1 hj with rfl | hj
   ·exact⟨x,by simp,hi⟩
   ·obtain⟨y,hy,hyi⟩:=h5 j hj
    exact⟨y,by simp [hy],hyi⟩
theorem Quiet.used (h:Quiet M):usedM M≤tot M:=by
 obtain⟨js,h1,h2,h3,h4,h5⟩:=h.idx (strKeys M.D) h.fit.nodup (fun x hx=>h.fit.mem.1 hx)
 rw[h.fit.used.1,h4]
 have h6:=sum_le (fun j=>(M.fs.map fun f=>f.b.length).getD j 0) M.fs.length js h1 h2
 have h7:(List.range M.fs.length).map (fun j=>(M.fs.map fun f=>f.b.length).getD j 0)=M.fs.map fun f=>f.b.length:=by
  have:=range_sum (M.fs.map fun f=>f.b.length)
  rwa [List.length_map] at this
 rw[h7] at h6
 exact Int.ofNat_le.2 h6
theorem Quiet.size (h:Quiet M):Maps.size M.D≤M.fs.length:=by
 obtain⟨js,h1,h2,h3,h4,h5⟩:=h.idx (strKeys M.D) h.fit.nodup (fun x hx=>h.fit.mem.1 hx)
 rw[← strKeys_length,← h3]
 have h6:=sum_le (fun _=>1) M.fs.length js h1 h2
 rwa [ones_sum,ones_sum,List.length_range] at h6
theorem Sees.look (h:Sees M c a n m) (hc:c s=some b):∃i,Dk.look M.D s=some i∧(M.fs.getD i ⟨[],0,0⟩).b=b:=con_some (by rw[h.con];exact hc)
theorem Sees.absent (h:Sees M c a n m) (hc:c s=none):Dk.look M.D s=none:=con_none.1 (by rw[h.con];exact hc)
theorem Sees.isSome (h:Sees M c a n m):(Dk.look M.D s).isSome=(c s).isSome:=by rw[con_isSome,h.con]
theorem Sees.sizeM (h:Sees M c a n m):Dk.sizeM M s=(((c s).getD []).length:Int):=by
 unfold Dk.sizeM fileM
 cases hc:c s with
 | none=>rw[h.absent hc];rfl
 | some b=>
  obtain⟨i,h1,h2⟩:=h.look hc
  have hi:=h.quiet.fit.inD h1
  rw[h1,Option.bind_some,List.getElem?_eq_getElem hi]
  rw[List.getD_eq_getElem?_getD,List.getElem?_eq_getElem hi] at h2
  simp only[Option.getD_some] at h2 ⊢
  rw[h2]
theorem Sees.bytes (h:Sees M c a n m) (hc:c s=some b):IsBytes b:=by
 obtain⟨i,h1,h2⟩:=h.look hc
 have hi:=h.quiet.fit.inD h1
 rw[List.getD_eq_getElem?_getD,List.getElem?_eq_getElem hi,Option.getD_some] at h2
 rw[← h2]
 exact h.quiet.fit.bytes _ (List.getElem_mem hi)
theorem Sees.weak {a' n':Nat} (h:Sees M c a n m) (ha:a≤a') (hn:n≤n'):Sees M c a' n' m:=⟨h.quiet,h.con,Nat.le_trans h.tot ha,Nat.le_trans h.files hn,h.most⟩
theorem Sees.view {c':View} (h:Sees M c a n m) (e:∀t,c t=c' t):Sees M c' a n m:=⟨h.quiet,h.con.trans (funext e),h.tot,h.files,h.most⟩
theorem tot_set (fs:List FileM) (i:Nat) (f:FileM) (hi:i < fs.length):((fs.set i f).map fun f=>f.b.length).sum+(fs.getD i ⟨[],0,0⟩).b.length=(fs.map fun f=>f.b.length).sum+f.b.length:=by
 induction fs generalizing i with
 | nil=>exact absurd hi (Nat.not_lt_zero _)
 | cons g l ih=>
  cases i with
  | zero=>simp;omega
  | succ i=>
   have h1:=ih i (by simpa using hi)
   simp only[List.set_cons_succ,List.map_cons,List.sum_cons,List.getD_cons_succ]
   omega
theorem getD_set (fs:List FileM) (i j:Nat) (f:FileM) (hi:i < fs.length):(fs.set i f).getD j ⟨[],0,0⟩=if j=i then f else fs.getD j ⟨[],0,0⟩:=by
 rw[List.getD_eq_getElem?_getD,List.getElem?_set,List.getD_eq_getElem?_getD]
 by_cases h:i=j
 ·subst h
  rw[if_pos rfl,if_pos rfl,if_pos hi];rfl
 ·rw[if_neg h,if_neg (Ne.symm h)]
def keepB (f:FileM):FileM:={f with kept:=f.b.length}
def addB (f:FileM) (bs:List Int):FileM:={f with b:=f.b++bs}
theorem Sees.append (h:Sees M c a n m) (hb:IsBytes bs) (hc:c s=some b) (hr:(a+bs.length:Nat)≤m):(appendM M s bs).2=0∧Sees (appendM M s bs).1 (upd c s (some (b++bs))) (a+bs.length) n m:=by
 have hf:=h.quiet.fit.append s bs hb
 obtain⟨i,h1,h2⟩:=h.look hc
 have hi:=h.quiet.fit.inD h1
 have hu:=h.quiet.fit.used
 have hmo:=h.quiet.fit.most
 have hut:=h.quiet.used
 have ht:=h.tot
 have hm:=h.most
 have e1:wrap64 (M.d.most - usedM M)=M.d.most - usedM M:=by unfold wrap64;omega
 have e:appendM M s bs=({M with d:=Dk.thingN M.d,fs:=M.fs.set i (addB (M.fs.getD i ⟨[],0,0⟩) bs)},0):=by
  unfold appendM
  rw[h.quiet.down,if_neg (by decide),h1]
  dsimp only
  rw[e1,if_neg (by omega),if_pos h.quiet.thing]
  rfl
 rw[e] at hf ⊢
 obtain⟨q1,q2,q3,q4⟩:=h.quiet.thingN
 refine⟨rfl,⟨hf,h.quiet.inj,q1,q2,q3⟩,?_,?_,?_,q4.trans hm⟩
 ·funext t
  show(Dk.look M.D t).map (fun j=>((M.fs.set i (addB (M.fs.getD i ⟨[],0,0⟩) bs)).getD j ⟨[],0,0⟩).b)=upd c s (some (b++bs)) t
  by_cases hts:t=s
  ·subst hts
   rw[upd_self,h1,Option.map_some,getD_set _ _ _ _ hi,if_pos rfl]
   show some ((M.fs.getD i ⟨[],0,0⟩).b++bs)=_
   rw[h2]
  ·rw[upd_ne _ _ hts,← h.con]
   unfold Qd.con
   cases hl:Dk.look M.D t with
   | none=>rfl
   | some j=>
    have hji:j≠i:=fun e=>hts (h.quiet.inj _ _ _ hl (e ▸ h1))
    rw[Option.map_some,Option.map_some,getD_set _ _ _ _ hi,if_neg hji]
 ·have h3:=tot_set M.fs i (addB (M.fs.getD i ⟨[],0,0⟩) bs) hi
  rw[show(addB (M.fs.getD i ⟨[],0,0⟩) bs).b.length=(M.fs.getD i ⟨[],0,0⟩).b.length+bs.length from List.length_append] at h3
  have h4:(M.fs.map fun f=>f.b.length).sum≤a:=ht
  show((M.fs.set i (addB (M.fs.getD i ⟨[],0,0⟩) bs)).map fun f=>f.b.length).sum≤a+bs.length
  omega
 ·show(M.fs.set i _).length≤n
  rw[List.length_set]
  exact h.files
theorem Sees.sync (h:Sees M c a n m) (hc:c s=some b):(syncM M s).2=0∧Sees (syncM M s).1 c a n m:=by
 have hf:=h.quiet.fit.sync s
 obtain⟨i,h1,h2⟩:=h.look hc
 have hi:=h.quiet.fit.inD h1
 obtain⟨q1,q2,q3,q4⟩:=h.quiet.thingN
 unfold syncM at hf ⊢
 rw[h.quiet.down,if_neg (by decide),h1] at hf ⊢
 dsimp only at hf ⊢
 rw[if_pos h.quiet.thing] at hf ⊢
 refine⟨rfl,⟨hf,h.quiet.inj,q1,q2,q3⟩,?_,?_,?_,q4.trans h.most⟩
 ·rw[← h.con]
  funext t
  unfold Qd.con
  cases hl:Dk.look M.D t with
  | none=>rfl
  | some j=>
   rw[Option.map_some,Option.map_some,getD_set _ _ _ _ hi]
   split
   ·rename_i e;rw[e]
   ·rfl
 ·have h3:=tot_set M.fs i (keepB (M.fs.getD i ⟨[],0,0⟩)) hi
  have h4:(M.fs.map fun f=>f.b.length).sum≤a:=h.tot
  have h5:(keepB (M.fs.getD i ⟨[],0,0⟩)).b.length=(M.fs.getD i ⟨[],0,0⟩).b.length:=rfl
  show((M.fs.set i (keepB (M.fs.getD i ⟨[],0,0⟩))).map fun f=>f.b.length).sum≤a
  omega
 ·show(M.fs.set i _).length≤n
  rw[List.length_set]
  exact h.files
theorem Sees.syncDir (h:Sees M c a n m):(syncDirM M).2=0∧Sees (syncDirM M).1 c a n m:=by
 have hf:=h.quiet.fit.syncDir
 obtain⟨q1,q2,q3,q4⟩:=h.quiet.thingN
 unfold syncDirM at hf ⊢
 rw[h.quiet.down,if_neg (by decide),if_pos h.quiet.thing] at hf ⊢
 exact⟨rfl,⟨hf,h.quiet.inj,q1,q2,q3⟩,h.con,h.tot,h.files,q4.trans h.most⟩
theorem getD_snoc (fs:List FileM) (f:FileM) (j:Nat):(fs++[f]).getD j ⟨[],0,0⟩=if j=fs.length then f else fs.getD j ⟨[],0,0⟩:=by
 rw[List.getD_eq_getElem?_getD,List.getD_eq_getElem?_getD]
 rcases Nat.lt_trichotomy j fs.length with h | h | h
 ·rw[List.getElem?_append_left h,if_neg (by omega)]
 ·subst h
  rw[List.getElem?_concat_length,if_pos rfl];rfl
 ·rw[if_neg (by omega),List.getElem?_eq_none (by simp;omega),List.getElem?_eq_none (by omega)]
theorem Sees.create (h:Sees M c a n m) (ha:Ascii s) (hs:rightN s=true) (hc:c s=none) (hn:n < 4096):(createM M s).2=0∧Sees (createM M s).1 (upd c s (some [])) a (n+1) m:=by
 have hf:=h.quiet.fit.create s ha
 have hl:=h.absent hc
 have hz:=h.quiet.size
 have hfl:=h.files
 obtain⟨q1,q2,q3,q4⟩:=h.quiet.thingN
 unfold createM at hf ⊢
 rw[h.quiet.down,if_neg (by decide),hs,if_neg (by decide),hl,if_neg (by decide),if_neg (by omega),if_pos h.quiet.thing] at hf ⊢
 have hlk:∀t,Dk.look (M.D.put (keyN s) (.held M.fs.length)) t=if t=s then some M.fs.length else Dk.look M.D t:=fun t=>look_put (isMap h.quiet.fit) s t _
 refine⟨rfl,⟨hf,fun u v j hu hv=>?_,q1,q2,q3⟩,?_,?_,?_,q4.trans h.most⟩
 ·have hu':Dk.look (M.D.put (keyN s) (.held M.fs.length)) u=some j:=hu
  have hv':Dk.look (M.D.put (keyN s) (.held M.fs.length)) v=some j:=hv
  rw[hlk] at hu' hv'
  by_cases h1:u=s
  ·by_cases h2:v=s
   ·rw[h1,h2]
   ·rw[if_pos h1] at hu'
    rw[if_neg h2] at hv'
    have:=h.quiet.fit.inD hv'
    have:=Option.some.inj hu'
    omega
  ·by_cases h2:v=s
   ·rw[if_neg h1] at hu'
    rw[if_pos h2] at hv'
    have:=h.quiet.fit.inD hu'
    have:=Option.some.inj hv'
    omega
   ·rw[if_neg h1] at hu'
    rw[if_neg h2] at hv'
    exact h.quiet.inj _ _ _ hu' hv'
 ·funext t
  show(Dk.look (M.D.put (keyN s) (.held M.fs.length)) t).map (fun j=>((M.fs++[(⟨[],0,M.d.made⟩:FileM)]).getD j ⟨[],0,0⟩).b)=upd c s (some []) t
  rw[hlk]
  by_cases hts:t=s
  ·rw[if_pos hts,hts,upd_self,Option.map_some,getD_snoc,if_pos rfl]
  ·rw[if_neg hts,upd_ne _ _ hts,← h.con]
   unfold Qd.con
   cases hl:Dk.look M.D t with
   | none=>rfl
   | some j=>
    have:=h.quiet.fit.inD hl
    rw[Option.map_some,Option.map_some,getD_snoc,if_neg (by omega)]
 ·show((M.fs++[(⟨[],0,M.d.made⟩:FileM)]).map fun f=>f.b.length).sum≤a
  rw[List.map_append,List.sum_append]
  exact h.tot
 ·show(M.fs++[(⟨[],0,M.d.made⟩:FileM)]).length≤n+1
  rw[List.length_append]
  exact Nat.succ_le_succ h.files
theorem Sees.del (h:Sees M c a n m) (s:ByteArray):Sees {M with d:=Dk.thingN M.d,D:=M.D.del (keyN s)} (upd c s none) a n m:=by
 obtain⟨q1,q2,q3,q4⟩:=h.quiet.thingN
 refine⟨⟨Fit.nums (M:={M with D:=M.D.del (keyN s)}) (h.quiet.fit.del s) (thingN_most _),fun u v j hu hv=>?_,q1,q2,q3⟩,?_,h.tot,h.files,q4.trans h.most⟩
 ·have hu':Dk.look (M.D.del (keyN s)) u=some j:=hu
  have hv':Dk.look (M.D.del (keyN s)) v=some j:=hv
  rw[look_del] at hu' hv'
  split at hu'
  ·cases hu'
  split at hv'
  ·cases hv'
  exact h.quiet.inj _ _ _ hu' hv'
 ·funext t
  show(Dk.look (M.D.del (keyN s)) t).map (fun j=>(M.fs.getD j ⟨[],0,0⟩).b)=upd c s none t
  rw[look_del]
  by_cases hts:t=s
  ·rw[if_pos hts,hts,upd_self];rfl
  ·rw[if_neg hts,upd_ne _ _ hts,← h.con];rfl
theorem Sees.remove (h:Sees M c a n m) (hc:c s=some b):(removeM M s).2=0∧Sees (removeM M s).1 (upd c s none) a n m:=by
 obtain⟨i,h1,h2⟩:=h.look hc
 unfold removeM
 rw[h.quiet.down,if_neg (by decide),h1]
 dsimp only
 rw[if_pos h.quiet.thing]
 exact⟨rfl,h.del s⟩
theorem Sees.rename (h:Sees M c a n m) (ht:Ascii t) (hr:rightN t=true) (hc:c s=some b) (hne:t≠s):(renameM M s t).2=0∧Sees (renameM M s t).1 (upd (upd c s none) t (some b)) a n m:=by
 have hf:=h.quiet.fit.rename s t ht
 obtain⟨i,h1,h2⟩:=h.look hc
 have hi:=h.quiet.fit.inD h1
 obtain⟨q1,q2,q3,q4⟩:=h.quiet.thingN
 have hb:(t.toList==s.toList)=false:=by
  rw[beq_eq_false_iff_ne]
  intro e
  exact hne (bytes_inj (by rw[← ByteArray.toList_eq,← ByteArray.toList_eq,e]))
 unfold renameM moveD at hf ⊢
 rw[h.quiet.down,if_neg (by decide),h1,if_neg (show ¬(some i).isSome=false from fun e=>by cases e),hr,if_neg (by decide),hb,if_neg (by decide),if_pos h.quiet.thing] at hf ⊢
 dsimp only at hf ⊢
 have hlk:∀u,Dk.look ((M.D.del (keyN s)).put (keyN t) (.held i)) u=if u=t then some i else if u=s then none else Dk.look M.D u:=fun u=>by
  rw[look_put (isMap (h.quiet.fit.del s)) t u i,look_del]
 refine⟨rfl,⟨hf,fun u v j hu hv=>?_,q1,q2,q3⟩,?_,h.tot,h.files,q4.trans h.most⟩
 ·have hu':Dk.look ((M.D.del (keyN s)).put (keyN t) (.held i)) u=some j:=hu
  have hv':Dk.look ((M.D.del (keyN s)).put (keyN t) (.held i)) v=some j:=hv
  rw[hlk] at hu' hv'
  by_cases k1:u=t
  ·rw[if_pos k1] at hu'
   by_cases k2:v=t
   ·rw[k1,k2]
   ·rw[if_neg k2] at hv'
    split at hv'
    ·cases hv'
    rename_i k3
    exact absurd (h.quiet.inj _ _ _ hv' (hu' ▸ h1)) k3
  ·rw[if_neg k1] at hu'
   split at hu'
   ·cases hu'
   rename_i k3
   by_cases k2:v=t
   ·rw[if_pos k2] at hv'
    exact absurd (h.quiet.inj _ _ _ hu' (hv' ▸ h1)) k3
   ·rw[if_neg k2] at hv'
    split at hv'
    ·cases hv'
    exact h.quiet.inj _ _ _ hu' hv'
 ·funext u
  show(Dk.look ((M.D.del (keyN s)).put (keyN t) (.held i)) u).map (fun j=>(M.fs.getD j ⟨[],0,0⟩).b)=upd (upd c s none) t (some b) u
  rw[hlk]
  by_cases k1:u=t
  ·rw[if_pos k1,k1,upd_self,Option.map_some,h2]
  ·rw[if_neg k1,upd_ne _ _ k1]
   by_cases k2:u=s
   ·rw[if_pos k2,k2,upd_self];rfl
   ·rw[if_neg k2,upd_ne _ _ k2,← h.con];rfl
theorem Sees.read (h:Sees M c a n m) (hc:c s=some b) (x y:Int):readM M s x y=if partB b.length x y=true then(cutL b x y,0) else([],1):=by
 obtain⟨i,h1,h2⟩:=h.look hc
 unfold readM
 rw[h.quiet.down,if_neg (by decide),h1]
 dsimp only
 rw[h2]
theorem Sees.new (x:Int):Sees (newM x) (fun _=>none) 0 0 (newM x).d.most:=
 ⟨⟨Fit.new x,fun s t i h=>(by rw[show Dk.look (newM x).D s=none from rfl] at h;cases h),rfl,rfl,rfl⟩,funext fun s=>rfl,Nat.le_refl _,Nat.le_refl _,rfl⟩
end Qd
end
section
namespace Qd
open Go.Shelf Go.Maps Go.Sort Go.WideShapes Fr Ext Go.Proofs.YtcieieacfoaklaaGreat.Nm Dk Mn
open Sg (segN segN_le segN_ascii)
open Lg

theorem strOfNums_list (l:List Int):(strOfNums l).data.toList=l.map fun n=>UInt8.ofNat n.toNat:=by simp [strOfNums]
theorem numL_digs:∀k n acc,numL ((digs k n).map fun d=>UInt8.ofNat d) acc=some (acc*10 ^ k+n % 10 ^ k)
 | 0,n,acc=>by simp [digs,numL,Nat.mod_one]
 | k+1,n,acc=>by
  have hd:n / 10 ^ k % 10 < 10:=Nat.mod_lt _ (by decide)
  have e1:(UInt8.ofNat (48+n / 10 ^ k % 10)).toNat=48+n / 10 ^ k % 10:=by
   rw[UInt8.toNat_ofNat']
   omega
  have e2:n % 10 ^ (k+1)=n % 10 ^ k+10 ^ k*(n / 10 ^ k % 10):=by rw[Nat.pow_succ,Nat.mod_mul]
  have e3:(10* acc+n / 10 ^ k % 10)*10 ^ k+n % 10 ^ k=acc*10 ^ (k+1)+n % 10 ^ (k+1):=by
   rw[e2,Nat.pow_succ,Nat.add_mul,Nat.mul_comm (n / 10 ^ k % 10) (10 ^ k),Nat.mul_comm 10 acc,Nat.mul_assoc,Nat.mul_comm 10 (10 ^ k)]
   omega
  simp only[digs,List.map_cons]
  rw[numL_cons,e1,if_pos (by omega),show 48+n / 10 ^ k % 10 - 48=n / 10 ^ k % 10 from by omega,numL_digs k n,e3]
theorem parse_num (c:Nat) (n:Int) (h0:0≤n) (h1:n≤99999999):∃l,(strOfNums (nameL c n.toNat)).data.toList=UInt8.ofNat c::l∧numberM l=some n.toNat∧l.isEmpty=false:=by
 refine⟨(digs 8 n.toNat).map fun d=>UInt8.ofNat d,?_,?_,?_⟩
 ·rw[strOfNums_list]
  simp [nameL]
 ·unfold numberM
  rw[if_pos (by simp [digs_length]),numL_digs,Nat.zero_mul,Nat.zero_add,Nat.mod_eq_of_lt (by omega)]
 ·simp [digs]
theorem parseL_cons (c:UInt8) (l:List UInt8):parseL (c::l)=(if(c==109 && l.isEmpty)=true then(3,0,true) else if(c==116 && l.isEmpty)=true then(4,0,true) else if(numberM l).isSome=true then(if(c==115)=true then(1,((numberM l).getD 0:Nat),true) else if(c==104)=true then(2,((numberM l).getD 0:Nat),true) else(0,0,false)) else(0,0,false):Int×Int×Bool):=rfl
theorem segN_eq {n:Int} (h0:0≤n) (h1:n≤99999999):segN n=strOfNums (nameL 115 n.toNat):=by
 unfold segN nameOf
 rw[if_neg (by omega),if_neg (by omega),if_pos rfl]
theorem hintN_eq {n:Int} (h0:0≤n) (h1:n≤99999999):hintN n=strOfNums (nameL 104 n.toNat):=by
 unfold hintN nameOf
 rw[if_neg (by omega),if_neg (by omega),if_neg (by decide),if_pos rfl]
theorem parse_seg {n:Int} (h0:0≤n) (h1:n≤99999999):parseM (segN n)=(1,n,true):=by
 obtain⟨l,e1,e2,e3⟩:=parse_num 115 n h0 h1
 unfold parseM
 rw[segN_eq h0 h1,e1]
 rw[parseL_cons,e2,e3]
 simp only[Bool.and_false,Option.isSome_some,Option.getD_some]
 rw[show(UInt8.ofNat 115==115)=true from rfl]
 simp
 omega
theorem parse_hint {n:Int} (h0:0≤n) (h1:n≤99999999):parseM (hintN n)=(2,n,true):=by
 obtain⟨l,e1,e2,e3⟩:=parse_num 104 n h0 h1
 unfold parseM
 rw[hintN_eq h0 h1,e1]
 rw[parseL_cons,e2,e3]
 simp only[Bool.and_false,Option.isSome_some,Option.getD_some]
 rw[show(UInt8.ofNat 104==115)=false from rfl,show(UInt8.ofNat 104==104)=true from rfl]
 simp
 omega
theorem parse_man:parseM manN=(3,0,true):=rfl
theorem parse_temp:parseM tempN=(4,0,true):=rfl
theorem segN_inj {n k:Int} (h0:0≤n) (h1:n≤99999999) (k0:0≤k) (k1:k≤99999999):segN n=segN k↔n=k:=by
 constructor
 ·intro e
  have:=congrArg parseM e
  rw[parse_seg h0 h1,parse_seg k0 k1] at this
  exact(Prod.mk.inj (Prod.mk.inj this).2).1
 ·intro e;rw[e]
theorem hintN_inj {n k:Int} (h0:0≤n) (h1:n≤99999999) (k0:0≤k) (k1:k≤99999999):hintN n=hintN k↔n=k:=by
 constructor
 ·intro e
  have:=congrArg parseM e
  rw[parse_hint h0 h1,parse_hint k0 k1] at this
  exact(Prod.mk.inj (Prod.mk.inj this).2).1
 ·intro e;rw[e]
theorem kind_ne {s t:ByteArray} {a b:Int×Int×Bool} (hs:parseM s=a) (ht:parseM t=b) (h:a.1≠b.1):s≠t:=fun e=>h (by rw[← hs,← ht,e])
theorem seg_hint {n k:Int} (h0:0≤n) (h1:n≤99999999) (k0:0≤k) (k1:k≤99999999):segN n≠hintN k:=kind_ne (parse_seg h0 h1) (parse_hint k0 k1) (show(1:Int)≠2 by decide)
theorem seg_man {n:Int} (h0:0≤n) (h1:n≤99999999):segN n≠manN:=kind_ne (parse_seg h0 h1) parse_man (show(1:Int)≠3 by decide)
theorem seg_temp {n:Int} (h0:0≤n) (h1:n≤99999999):segN n≠tempN:=kind_ne (parse_seg h0 h1) parse_temp (show(1:Int)≠4 by decide)
theorem hint_man {n:Int} (h0:0≤n) (h1:n≤99999999):hintN n≠manN:=kind_ne (parse_hint h0 h1) parse_man (show(2:Int)≠3 by decide)
theorem hint_temp {n:Int} (h0:0≤n) (h1:n≤99999999):hintN n≠tempN:=kind_ne (parse_hint h0 h1) parse_temp (show(2:Int)≠4 by decide)
theorem man_temp:manN≠tempN:=kind_ne parse_man parse_temp (by decide)
theorem num_size (c n:Nat):(strOfNums (nameL c n)).size=9:=by
 show(strOfNums (nameL c n)).data.size=9
 rw[← Array.length_toList,strOfNums_list,List.length_map]
 simp [nameL,digs_length]
theorem seg_size {n:Int} (h0:0≤n) (h1:n≤99999999):(segN n).size=9:=by rw[segN_eq h0 h1];exact num_size _ _
theorem seg_right {n:Int} (h0:0≤n) (h1:n≤99999999):rightN (segN n)=true:=by unfold rightN;rw[seg_size h0 h1];rfl
theorem hint_right {n:Int} (h0:0≤n) (h1:n≤99999999):rightN (hintN n)=true:=by unfold rightN;rw[hintN_eq h0 h1,num_size];rfl
theorem man_right:rightN manN=true:=rfl
theorem temp_right:rightN tempN=true:=rfl
theorem man_ascii:Ascii manN:=Sg.nameOf_ascii _ _
theorem temp_ascii:Ascii tempN:=Sg.nameOf_ascii _ _
end Qd
end
section
namespace Qd
open Go.Shelf Go.Maps Go.Sort Go.WideShapes Fr Ext Go.Proofs.YtcieieacfoaklaaGreat.Nm Dk Mn
open Sg (segN segN_le segN_ascii makeM putF firstB firstB_bytes getSM bodyG)
open Lg
variable {M:DiskM} {c:View} {a n:Nat} {m:Int} {s t:ByteArray} {i:Nat} {b bs:List Int} {k:Int}
theorem upd_upd (c:View) (s:ByteArray) (u v:Option (List Int)):upd (upd c s u) s v=upd c s v:=by
 funext t
 unfold upd
 split
 ·rfl
 ·rfl
theorem first_len (k:Int):(putL (firstB k)).length=13:=by
 have h:=Fr.put_len (firstB k)
 rw[sizeI_of _ (by show(1:Int)≤5;decide) (by show(5:Int)≤8192;decide)] at h
 have e:((firstB k).length:Int)=5:=rfl
 omega
theorem Sees.make (h:Sees M c a n m) (h0:0≤k) (h1:k≤99999999) (hc:c (segN k)=none) (hn:n < 4096) (ha:((a+13:Nat):Int)≤m):(makeM M k).2=0∧Sees (makeM M k).1 (upd c (segN k) (some (putL (firstB k)))) (a+13) (n+1) m:=by
 obtain⟨e1,s1⟩:=h.create (segN_ascii k) (seg_right h0 h1) hc hn
 have hb:=put_bytes _ (firstB_bytes k)
 obtain⟨e2,s2⟩:=s1.append (s:=segN k) hb (upd_self _ _ _) (by rw[first_len];exact ha)
 rw[first_len,upd_upd,List.nil_append] at s2
 unfold makeM
 rw[if_neg (by rw[seg_size h0 h1];decide),if_pos e1]
 unfold putF
 rw[if_pos e2]
 exact⟨e2,s2⟩
theorem Sees.gone (h:Sees M c a n m) (s:ByteArray):(gone1 M s).2=0∧Sees (gone1 M s).1 (upd c s none) a n m:=by
 unfold gone1
 cases hc:c s with
 | none=>
  rw[h.isSome,hc,if_neg (by decide)]
  refine⟨rfl,h.view fun t=>?_⟩
  unfold upd
  split
  ·rename_i e;rw[e,hc]
  ·rfl
 | some b=>
  rw[h.isSome,hc,if_pos (by rfl)]
  exact h.remove hc
theorem turns_cons {f:DiskM→DiskM×Int} {l:List (DiskM→DiskM×Int)} (h:(f M).2=0):turnsM (f::l) M=turnsM l (f M).1:=by
 show(if(f M).2=0 then turnsM l (f M).1 else f M)=_
 rw[if_pos h]
theorem Sees.save (h:Sees M c a n m) {man:ManM} (hr:rightM man=true) (hn:n < 4096) (ha:((a+(Mn.putM man).length:Nat):Int)≤m):(saveM M man).2=0∧Sees (saveM M man).1 (upd (upd c tempN none) manN (some (Mn.putM man))) (a+(Mn.putM man).length) (n+1) m:=by
 obtain⟨e1,s1⟩:=h.gone tempN
 obtain⟨e2,s2⟩:=s1.create temp_ascii temp_right (upd_self _ _ _) hn
 obtain⟨e3,s3⟩:=s2.append (s:=tempN) (Mn.putM_bytes man) (upd_self _ _ _) ha
 obtain⟨e4,s4⟩:=s3.sync (s:=tempN) (upd_self _ _ _)
 obtain⟨e5,s5⟩:=s4.rename (s:=tempN) (t:=manN) man_ascii man_right (upd_self _ _ _) man_temp
 obtain⟨e6,s6⟩:=s5.syncDir
 unfold saveM
 rw[if_pos hr]
 rw[turns_cons e1,turns_cons e2,turns_cons e3,turns_cons e4,turns_cons e5,turns_cons e6]
 refine⟨rfl,s6.view fun t=>?_⟩
 unfold upd
 by_cases h1:t=manN
 ·rw[if_pos h1,if_pos h1,List.nil_append]
 ·rw[if_neg h1,if_neg h1]
  by_cases h2:t=tempN
  ·rw[if_pos h2,if_pos h2]
  ·simp only[if_neg h2]
theorem cut_mid (p x q:List Int) (n:Nat) (hn:n≤x.length):cutL (p++x++q) (p.length:Int) (n:Int)=x.take n:=by
 unfold cutL
 rw[show((p.length:Int)+(n:Int)).toNat=p.length+n from by omega,Int.toNat_natCast,List.append_assoc,List.take_append,List.drop_append]
 rw[show p.length+n - p.length=n from by omega,List.take_of_length_le (by omega),List.drop_of_length_le (Nat.le_refl _),Nat.sub_self,List.drop_zero,List.nil_append,List.take_append,show n - x.length=0 from by omega,List.take_zero,List.append_nil]
theorem Sees.read_mid (h:Sees M c a n m) (p x q:List Int) (hc:c s=some (p++x++q)) (j:Nat) (hj:j≤x.length):readM M s (p.length:Int) (j:Int)=(x.take j,0):=by
 rw[h.read hc,if_pos,cut_mid p x q j hj]
 unfold partB
 simp only[List.length_append,Bool.and_eq_true,decide_eq_true_eq]
 omega
theorem frame_rd (x:List Int) (h:1≤x.length):rd ((frameOf x).take 4) 0*256+rd ((frameOf x).take 4) 1=(x.length:Int):=by
 have e:=frame_shape x []
 rw[List.append_nil] at e
 have h2:=nOf_hdr (x.length:Int) []
 rw[List.append_nil] at h2
 rw[e,take_hdr]
 exact h2
theorem Sees.get (h:Sees M c a n m) (p x q:List Int) (hc:c (segN k)=some (p++putL x++q)) (h1:1≤x.length) (h2:x.length≤8192) {R:Rc.Re} (hg:Rc.getM x=(R,true)):getSM M k (p.length:Int)=(R,0):=by
 rw[put_yes x h1 h2] at hc
 have hl:=frame_len x
 have e1:=h.read_mid p (frameOf x) q hc 4 (by omega)
 have e2:=h.read_mid p (frameOf x) q hc (x.length+8) (by omega)
 rw[show((4:Nat):Int)=4 from rfl] at e1
 rw[List.take_of_length_le (by omega)] at e2
 have e3:=first_short x h1 h2 4 (by omega)
 have e4:=first_frame x [] h1 h2
 rw[List.append_nil] at e4
 unfold getSM
 rw[e1]
 dsimp only
 rw[if_pos rfl,e3,if_neg (by decide),frame_rd x h1,sizeI_of _ (by omega) (by omega),show((x.length:Int)+8)=((x.length+8:Nat):Int) from by omega,e2]
 unfold bodyG
 dsimp only
 rw[if_pos rfl,e4]
 dsimp only
 rw[if_pos rfl,hg]
 dsimp only
 rw[if_pos rfl]
end Qd
end
section
namespace Qd
open Go.Shelf Go.Maps Go.Sort Go.WideShapes Fr Ext Go.Proofs.YtcieieacfoaklaaGreat.Nm Dk Mn
open Sg (segN segN_le segN_ascii makeM putF firstB firstB_bytes getSM bodyG allSM)
open Lg
variable {M:DiskM} {S:LogS} {c:View} {a n:Nat} {m:Int} {s t:ByteArray} {b bs:List Int} {k:Int}
def Names (c:View) (next:Int):Prop:=∀s,c s≠none→s=manN∨∃k,0≤k∧k < next∧(s=segN k∨s=hintN k)
theorem compact_mem {zs:List Int} {x:Int} (h:x∈Lib.compact zs):x∈zs:=by
 unfold Lib.compact Lib.compactUpTo at h
 obtain⟨i,hi,rfl⟩:=List.mem_map.1 h
 have h1:=List.mem_range.1 (List.mem_filter.1 hi).1
 rw[getElem!_pos zs.toArray i (by simpa using h1)]
 simp
theorem segs_mem {L:List ByteArray} {x:Int} (h:x∈segsL L):∃s∈L,(parseM s).2.2=true∧(parseM s).1=1∧(parseM s).2.1=x:=by
 unfold segsL at h
 have h1:=(Sh.isort_perm _ _).mem_iff.1 (compact_mem h)
 unfold segL at h1
 obtain⟨s,hs,e⟩:=List.mem_map.1 h1
 obtain⟨h2,h3⟩:=List.mem_filter.1 hs
 unfold isSeg at h3
 rw[Bool.and_eq_true] at h3
 exact⟨s,h2,h3.1,eq_of_beq h3.2,e⟩
theorem Sees.next (h:Sees M c a n m) (hn:Names c S.man.next) (h9:S.man.next≤100000000):nextM M S=S.man.next:=by
 unfold nextM
 cases hl:(segsL (namesM M)).getLast? with
 | none=>rfl
 | some z=>
  obtain⟨s,hs,p1,p2,p3⟩:=segs_mem (List.mem_of_getLast? hl)
  have h1:=h.quiet.fit.mem.1 (names_mem hs)
  rw[show(⟨s.data.toList.toArray⟩:ByteArray)=s from rfl,h.isSome] at h1
  have h2:c s≠none:=fun e=>by rw[e] at h1;cases h1
  have h3:0≤z∧z < S.man.next:=by
   rcases hn s h2 with rfl | ⟨k,k0,k1,rfl | rfl⟩
   ·rw[parse_man] at p2;exact absurd p2 (by decide)
   ·rw[parse_seg k0 (by omega)] at p3
    have e:k=z:=p3
    omega
   ·rw[parse_hint k0 (by omega)] at p2;exact absurd (show(2:Int)=1 from p2) (by decide)
  have h4:wrap64 (z+1)=z+1:=by unfold wrap64;omega
  show max S.man.next (wrap64 (z+1))=S.man.next
  rw[h4]
  omega
def allV (b:List Int) (k:Int):List Sg.Fo:=if Sg.headOk (Sg.itemsM b) k=true then Sg.foundsL (Sg.itemsM b).tail else []
def hintV (b:List Int) (k:Int):List Int:=Hu.putAll (Hn.ofL (allV b k)) (b.length:Int)
theorem Sees.whole (h:Sees M c a n m) (hc:c s=some b):readM M s 0 (Dk.sizeM M s)=(b,0):=by
 have e:Dk.sizeM M s=(b.length:Int):=by rw[h.sizeM,hc];rfl
 have h1:=h.read_mid (s:=s) [] b [] (by rw[hc];simp) b.length (Nat.le_refl _)
 rw[List.take_of_length_le (Nat.le_refl _)] at h1
 rw[e]
 exact h1
theorem Sees.all (h:Sees M c a n m) (hc:c (segN k)=some b):(allSM M k).1=allV b k:=by
 unfold allSM allV
 rw[h.whole hc]
 dsimp only
 rw[if_pos rfl]
 split
 ·rfl
 ·rfl
theorem Sees.hintB (h:Sees M c a n m) (hc:c (segN k)=some b):Lg.hintB M k=hintV b k:=by
 unfold Lg.hintB hintV
 rw[h.all hc,show Dk.sizeM M (segN k)=(b.length:Int) by rw[h.sizeM,hc];rfl]
theorem hintV_len (b:List Int) (k:Int) (hB:IsBytes b):(hintV b k).length≤9*b.length+21:=by
 have h1:=putAll_len (Hn.ofL (allV b k)) (b.length:Int)
 have h2:=ofGo_len (allV b k) []
 have h3:9*(allV b k).length≤b.length:=by
  unfold allV
  split
  ·have h4:=scan_nine b hB (b.length+1) 0 0 [] (by simp) (Nat.zero_le _)
   have h5:=Sg.founds_le (Sg.itemsM b).tail
   rw[List.length_tail] at h5
   have h6:(Sg.itemsM b).length=(Pure.scanGo (b.length+1) b 0 0 []).1.length:=List.length_map _
   omega
  ·simp
 have h7:(Hn.ofL (allV b k)).length≤(allV b k).length:=h2
 unfold hintV
 omega
theorem Sees.hint (h:Sees M c a n m) (k0:0≤k) (k1:k≤99999999) (hc:c (segN k)=some b) (hh:c (hintN k)=none) (hn:n < 4096) (ha:((a+(hintV b k).length:Nat):Int)≤m):Sees (Lg.hintM M k) (upd c (hintN k) (some (hintV b k))) (a+(hintV b k).length) (n+1) m:=by
 have hB:=(hintB_fit h.quiet.fit k).1
 rw[h.hintB hc] at hB
 obtain⟨e1,s1⟩:=h.create (hintN_ascii k) (hint_right k0 k1) hh hn
 obtain⟨e2,s2⟩:=s1.append (s:=hintN k) hB (upd_self _ _ _) ha
 obtain⟨e3,s3⟩:=s2.sync (s:=hintN k) (upd_self _ _ _)
 unfold Lg.hintM
 rw[h.hintB hc]
 unfold hintSteps
 rw[turns_cons e1,turns_cons e2,turns_cons e3,]
 rw[upd_upd,List.nil_append] at s3
 exact s3
theorem risesB_append:∀(l:List Int) (x n:Int),risesB x (l++[n])=true→n+1≤99999999→risesB x (l++[n]++[n+1])=true
 | [],x,n,h,h1=>by
  simp only[List.nil_append,List.cons_append] at h ⊢
  unfold risesB at h ⊢
  split at h
  ·cases h
  rename_i h2
  split at h
  ·cases h
  rename_i h3
  rw[if_neg h2,if_neg h3]
  unfold risesB
  rw[if_neg (by omega),if_neg (by omega)]
  rfl
 | y::l,x,n,h,h1=>by
  simp only[List.cons_append] at h ⊢
  unfold risesB at h ⊢
  split at h
  ·cases h
  rename_i h2
  split at h
  ·cases h
  rename_i h3
  rw[if_neg h2,if_neg h3]
  have:=risesB_append l y n h h1
  simpa only[List.append_assoc] using this
theorem rises_lt:∀(l:List Int) (x n:Int),risesB x (l++[n])=true→∀k∈l,x < k∧k < n
 | [],_,_,_,k,hk=>by cases hk
 | y::l,x,n,h,k,hk=>by
  simp only[List.cons_append] at h
  unfold risesB at h
  split at h
  ·cases h
  rename_i h2
  split at h
  ·cases h
  have hy:y < n:=by
   cases l with
   | nil=>
    simp only[List.nil_append] at h
    unfold risesB at h
    split at h
    ·cases h
    omega
   | cons z l=>
    have h4:=rises_lt (z::l) y n h z (by simp)
    omega
  rcases List.mem_cons.1 hk with rfl | hk
  ·omega
  ·have h5:=rises_lt l y n h k hk
   omega
theorem putM_len (man:ManM):(Mn.putM man).length≤4*man.segs.length+15:=by
 unfold Mn.putM
 split
 ·have h:=Fr.put_len (bodyM man)
  have e:(bodyM man).length=4*man.segs.length+7:=by
   unfold bodyM
   simp only[List.length_cons,List.length_append,numsM_length,be4,List.length_nil]
   omega
  by_cases h8:(bodyM man).length≤8192
  ·rw[sizeI_of _ (by omega) (by omega)] at h
   omega
  ·rw[sizeI_no _ (by omega)] at h
   omega
 ·simp
structure LV (M:DiskM) (S:LogS) (c:View) (a n:Nat) (m:Int):Prop where
 sees:Sees M c a n m
 names:Names c S.man.next
 rises:risesB (-1) (S.man.segs++[S.man.next])=true
 last:(S.man.segs=[]∧S.last=-1)∨∃p,S.man.segs=p++[S.last]
 segs:∀k∈S.man.segs,∃b,c (segN k)=some b
 open_:0≤S.last→c (hintN S.last)=none
def rollC (c:View) (S:LogS):View:=
 if 0≤S.last then upd (upd (upd c (segN S.man.next) (some (putL (firstB S.man.next)))) manN (some (Mn.putM (rollMan S S.man.next)))) (hintN S.last) (some (hintV ((c (segN S.last)).getD []) S.last))
 else upd (upd c (segN S.man.next) (some (putL (firstB S.man.next)))) manN (some (Mn.putM (rollMan S S.man.next)))
def rollS (S:LogS):LogS:={S with man:=rollMan S S.man.next,last:=S.man.next}
theorem LV.next_le (h:LV M S c a n m):0≤S.man.next∧S.man.next≤99999999:=by
 have:∀(l:List Int) (x n:Int),risesB x (l++[n])=true→x < n∧n≤99999999:=by
  intro l
  induction l with
  | nil=>
   intro x n h
   simp only[List.nil_append] at h
   unfold risesB at h
   split at h
   ·cases h
   split at h
   ·cases h
   omega
  | cons y l ih=>
   intro x n h
   simp only[List.cons_append] at h
   unfold risesB at h
   split at h
   ·cases h
   split at h
   ·cases h
   have:=ih y n h
   omega
 have:=this _ _ _ h.rises
 omega
theorem LV.last_mem (h:LV M S c a n m) (h0:0≤S.last):S.last∈S.man.segs:=by
 rcases h.last with⟨_,e⟩ | ⟨p,e⟩
 ·omega
 ·rw[e];simp
theorem LV.last_lt (h:LV M S c a n m):-1≤S.last∧S.last < S.man.next:=by
 have h1:=h.next_le
 rcases h.last with⟨_,e⟩ | ⟨p,e⟩
 ·omega
 ·have:=rises_lt _ _ _ h.rises S.last (by rw[e];simp)
  omega
theorem LV.fresh (h:LV M S c a n m):c (segN S.man.next)=none:=by
 cases hc:c (segN S.man.next) with
 | none=>rfl
 | some b=>
  have h1:=h.next_le
  rcases h.names (segN S.man.next) (by rw[hc];exact fun e=>by cases e) with e | ⟨k,k0,k1,e | e⟩
  ·exact absurd e (seg_man h1.1 h1.2)
  ·rw[segN_inj h1.1 h1.2 k0 (by omega)] at e;omega
  ·exact absurd e (seg_hint h1.1 h1.2 k0 (by omega))
theorem LV.temp (h:LV M S c a n m):c tempN=none:=by
 cases hc:c tempN with
 | none=>rfl
 | some b=>
  have h1:=h.next_le
  rcases h.names tempN (by rw[hc];exact fun e=>by cases e) with e | ⟨k,k0,k1,e | e⟩
  ·exact absurd e.symm man_temp
  ·exact absurd e.symm (seg_temp k0 (by omega))
  ·exact absurd e.symm (hint_temp k0 (by omega))
theorem LV.hint_next (h:LV M S c a n m):c (hintN S.man.next)=none:=by
 cases hc:c (hintN S.man.next) with
 | none=>rfl
 | some b=>
  have h1:=h.next_le
  rcases h.names (hintN S.man.next) (by rw[hc];exact fun e=>by cases e) with e | ⟨k,k0,k1,e | e⟩
  ·exact absurd e (hint_man h1.1 h1.2)
  ·exact absurd e.symm (seg_hint k0 (by omega) h1.1 h1.2)
  ·rw[hintN_inj h1.1 h1.2 k0 (by omega)] at e;omega
theorem LV.roll (h:LV M S c a n m) {z:Nat} (hz:∀b,c (segN S.last)=some b→b.length≤z) (hs:S.man.segs.length < 1000) (h9:S.man.next < 99999999) (hn:n+3≤4096) (ha:((a+13+(4*S.man.segs.length+19)+(9*z+21):Nat):Int)≤m):
  ∃M',rollM M S=(M',rollS S,0)∧LV M' (rollS S) (rollC c S) (a+13+(4*S.man.segs.length+19)+(9*z+21)) (n+3) m:=by
 have hnx:=h.next_le
 have hll:=h.last_lt
 have hsy:∃M1,logSync M S=(M1,0)∧Sees M1 c a n m:=by
  unfold logSync
  by_cases h0:S.last < 0
  ·rw[if_pos h0];exact⟨M,rfl,h.sees⟩
  ·rw[if_neg h0]
   obtain⟨b,hb⟩:=h.segs _ (h.last_mem (by omega))
   obtain⟨e1,s1⟩:=h.sees.sync hb
   exact⟨(syncM M (segN S.last)).1,Prod.ext rfl e1,s1⟩
 obtain⟨M1,eM1,s1⟩:=hsy
 have enx:=s1.next h.names (by omega)
 have hr2:rightM (rollMan S S.man.next)=true:=by
  unfold rightM rollMan
  have e1:wrap64 (S.man.next+1)=S.man.next+1:=by unfold wrap64;omega
  rw[e1,risesB_append _ _ _ h.rises (by omega)]
  simp
  omega
 have e1:wrap64 (S.man.next+1)=S.man.next+1:=by unfold wrap64;omega
 have hml:=putM_len (rollMan S S.man.next)
 have hml2:(rollMan S S.man.next).segs.length=S.man.segs.length+1:=by simp [rollMan]
 obtain⟨g2,s2⟩:=s1.make hnx.1 hnx.2 h.fresh (by omega) (by omega)
 obtain⟨g3,s3⟩:=s2.save hr2 (by omega) (by omega)
 have hv:upd (upd c (segN S.man.next) (some (putL (firstB S.man.next)))) tempN none=upd c (segN S.man.next) (some (putL (firstB S.man.next))):=by
  funext t
  unfold upd
  by_cases h1:t=tempN
  ·rw[if_pos h1,if_neg (fun e=>seg_temp hnx.1 hnx.2 (e.symm.trans h1)),h1,h.temp]
  ·rw[if_neg h1]
 rw[hv] at s3
 have hgen:∀(c':View),(∀s,c' s≠none→c s≠none∨s=manN∨s=segN S.man.next∨(0≤S.last∧s=hintN S.last))→Names c' (rollS S).man.next:=by
  intro c' hc' s hs'
  show s=manN∨∃k,0≤k∧k < wrap64 (S.man.next+1)∧_
  rw[e1]
  rcases hc' s hs' with h1 | h1 | h1 | ⟨h1,h2⟩
  ·rcases h.names s h1 with h2 | ⟨k,k0,k1,h2⟩
   ·exact .inl h2
   ·exact .inr ⟨k,k0,by omega,h2⟩
  ·exact .inl h1
  ·exact .inr ⟨S.man.next,hnx.1,by omega,.inl h1⟩
  ·exact .inr ⟨S.last,h1,by omega,.inr h2⟩
 have hrises:risesB (-1) ((rollS S).man.segs++[(rollS S).man.next])=true:=by
  show risesB (-1) ((S.man.segs++[S.man.next])++[wrap64 (S.man.next+1)])=true
  rw[e1]
  exact risesB_append _ _ _ h.rises (by omega)
 have hturn:turnsM (rollSteps S.man.next (rollMan S S.man.next)) M1=((saveM (makeM M1 S.man.next).1 (rollMan S S.man.next)).1,0):=by
  unfold rollSteps
  rw[turns_cons g2,turns_cons g3]
  rfl
 have hroll:rollM M S=rollEnd M1 S S.man.next ((saveM (makeM M1 S.man.next).1 (rollMan S S.man.next)).1,0):=by
  unfold rollM
  rw[eM1]
  dsimp only
  rw[if_pos rfl,enx]
  unfold rollN
  rw[if_neg (by omega),if_neg (by omega),hturn]
 rw[hroll]
 unfold rollEnd
 dsimp only
 rw[if_pos rfl]
 have hlk:∀t,t≠segN S.man.next→t≠manN→upd (upd c (segN S.man.next) (some (putL (firstB S.man.next)))) manN (some (Mn.putM (rollMan S S.man.next))) t=c t:=fun t h1 h2=>by rw[upd_ne _ _ h2,upd_ne _ _ h1]
 have hsn:upd (upd c (segN S.man.next) (some (putL (firstB S.man.next)))) manN (some (Mn.putM (rollMan S S.man.next))) (segN S.man.next)=some (putL (firstB S.man.next)):=by
  rw[upd_ne _ _ (seg_man hnx.1 hnx.2),upd_self]
 have hsegs:∀k∈(rollS S).man.segs,∃b,upd (upd c (segN S.man.next) (some (putL (firstB S.man.next)))) manN (some (Mn.putM (rollMan S S.man.next))) (segN k)=some b:=by
  intro k hk
  rcases List.mem_append.1 (show k∈S.man.segs++[S.man.next] from hk) with hk | hk
  ·obtain⟨b,hb⟩:=h.segs k hk
   have hkl:=rises_lt _ _ _ h.rises k hk
   refine⟨b,?_⟩
   rw[hlk _ (fun e=>by rw[segN_inj (by omega) (by omega) hnx.1 hnx.2] at e;omega) (seg_man (by omega) (by omega))]
   exact hb
  ·rw[List.mem_singleton.1 hk]
   exact⟨_,hsn⟩
 by_cases h0:0≤S.last
 ·rw[if_pos h0]
  obtain⟨b,hb⟩:=h.segs _ (h.last_mem h0)
  have hb3:upd (upd c (segN S.man.next) (some (putL (firstB S.man.next)))) manN (some (Mn.putM (rollMan S S.man.next))) (segN S.last)=some b:=by
   rw[hlk _ (fun e=>by rw[segN_inj h0 (by omega) hnx.1 hnx.2] at e;omega) (seg_man h0 (by omega))]
   exact hb
  have hh3:upd (upd c (segN S.man.next) (some (putL (firstB S.man.next)))) manN (some (Mn.putM (rollMan S S.man.next))) (hintN S.last)=none:=by
   rw[hlk _ (fun e=>seg_hint hnx.1 hnx.2 h0 (by omega) e.symm) (hint_man h0 (by omega))]
   exact h.open_ h0
  have hbz:=hz b hb
  have hvl:=hintV_len b S.last (h.sees.bytes hb)
  have s4:=s3.hint h0 (by omega) hb3 hh3 (by omega) (by omega)
  have ec:rollC c S=upd (upd (upd c (segN S.man.next) (some (putL (firstB S.man.next)))) manN (some (Mn.putM (rollMan S S.man.next)))) (hintN S.last) (some (hintV b S.last)):=by
   unfold rollC
   rw[if_pos h0,hb]
   rfl
  refine⟨_,rfl,?_⟩
  rw[ec]
  refine⟨s4.weak (by omega) (by omega),hgen _ (fun s hs'=>?_),hrises,.inr ⟨S.man.segs,rfl⟩,fun k hk=>?_,fun _=>?_⟩
  ·by_cases h1:s=hintN S.last
   ·exact .inr (.inr (.inr ⟨h0,h1⟩))
   ·rw[upd_ne _ _ h1] at hs'
    by_cases h2:s=manN
    ·exact .inr (.inl h2)
    ·rw[upd_ne _ _ h2] at hs'
     by_cases h3:s=segN S.man.next
     ·exact .inr (.inr (.inl h3))
     ·rw[upd_ne _ _ h3] at hs'
      exact .inl hs'
  ·obtain⟨b',hb'⟩:=hsegs k hk
   refine⟨b',?_⟩
   have hkl:-1 < k∧k≤S.man.next:=by
    rcases List.mem_append.1 (show k∈S.man.segs++[S.man.next] from hk) with hk | hk
    ·have:=rises_lt _ _ _ h.rises k hk;omega
    ·rw[List.mem_singleton.1 hk];omega
   rw[upd_ne _ _ (seg_hint (by omega) (by omega) h0 (by omega))]
   exact hb'
  ·show upd _ _ _ (hintN S.man.next)=none
   rw[upd_ne _ _ (fun e=>by rw[hintN_inj hnx.1 hnx.2 h0 (by omega)] at e;omega),hlk _ (fun e=>seg_hint hnx.1 hnx.2 hnx.1 hnx.2 e.symm) (hint_man hnx.1 hnx.2)]
   exact h.hint_next
 ·rw[if_neg h0]
  have ec:rollC c S=upd (upd c (segN S.man.next) (some (putL (firstB S.man.next)))) manN (some (Mn.putM (rollMan S S.man.next))):=by
   unfold rollC
   rw[if_neg h0]
  refine⟨_,rfl,?_⟩
  rw[ec]
  refine⟨s3.weak (by omega) (by omega),hgen _ (fun s hs'=>?_),hrises,.inr ⟨S.man.segs,rfl⟩,hsegs,fun _=>?_⟩
  ·by_cases h2:s=manN
   ·exact .inr (.inl h2)
   ·rw[upd_ne _ _ h2] at hs'
    by_cases h3:s=segN S.man.next
    ·exact .inr (.inr (.inl h3))
    ·rw[upd_ne _ _ h3] at hs'
     exact .inl hs'
  ·show upd _ _ _ (hintN S.man.next)=none
   rw[hlk _ (fun e=>seg_hint hnx.1 hnx.2 hnx.1 hnx.2 e.symm) (hint_man hnx.1 hnx.2)]
   exact h.hint_next
theorem LV.end_ (h:LV M S c a n m) {R:Rc.Re} (h0:0≤S.last) (hc:c (segN S.last)=some b) (hr:Rc.rightM R=true) (h6:IsBytes R.f6) (ha:((a+(putL (Rc.putM R)).length:Nat):Int)≤m):
  ∃M',addEnd M S R=(M',S,S.last,(b.length:Int),((putL (Rc.putM R)).length:Int),0)∧LV M' S (upd c (segN S.last) (some (b++putL (Rc.putM R)))) (a+(putL (Rc.putM R)).length) n m:=by
 have hB:=put_bytes _ (La.putM_isBytes R h6)
 have hll:=h.last_lt
 have hnx:=h.next_le
 have hpl:=Rc.put_len R
 have hp0:(Rc.putM R).length≠0:=fun e=>by rw[Rc.put_nil.1 e] at hr;cases hr
 have hfl:=Fr.put_len (Rc.putM R)
 rw[sizeI_of _ (by omega) (by omega)] at hfl
 obtain⟨e1,s1⟩:=h.sees.append hB hc ha
 have hz:Dk.sizeM M (segN S.last)=(b.length:Int):=by rw[h.sees.sizeM,hc];rfl
 have e2:Sg.addM M S.last R=((appendM M (segN S.last) (putL (Rc.putM R))).1,(b.length:Int),((putL (Rc.putM R)).length:Int),0):=by
  unfold Sg.addM
  rw[if_neg (by omega),if_pos e1,hz]
 refine⟨_,?_,s1,?_,h.rises,h.last,?_,?_⟩
 ·unfold addEnd
  rw[e2]
  dsimp only
  rw[if_pos rfl]
 ·intro s hs
  by_cases h1:s=segN S.last
  ·exact .inr ⟨S.last,h0,by omega,.inl h1⟩
  ·rw[upd_ne _ _ h1] at hs
   exact h.names s hs
 ·intro k hk
  by_cases h1:segN k=segN S.last
  ·rw[h1,upd_self];exact⟨_,rfl⟩
  ·rw[upd_ne _ _ h1];exact h.segs k hk
 ·intro _
  rw[upd_ne _ _ (fun e=>seg_hint h0 (by omega) h0 (by omega) e.symm)]
  exact h.open_ h0
theorem LV.new {x:Int} (limit:Int):LV (newM x) ⟨limit,⟨[],1⟩,-1⟩ (fun _=>none) 0 0 (newM x).d.most:=
 ⟨Sees.new x,fun s hs=>absurd rfl hs,rfl,.inl ⟨rfl,rfl⟩,fun k hk=>(by cases hk),fun h=>(by have h':(0:Int)≤-1:=h;omega)⟩
end Qd
end
section
namespace Lg
open Go.Maps Go.Shelf Fr Ext Go.Proofs.YtcieieacfoaklaaGreat.Nm Dk Mn
open Sg (segN segN_le segN_ascii)
open Rc (Norm Norm.intro Norm.elim)
variable {w w' w1:World} {B l g N:Nat} {M M':DiskM} {F F' G:Nat→Prop} {S S':LogS}
def wrongB (S:LogS) (n:Int):Bool:=n==S.last || !(S.man.segs.contains n)
def dropMan (S:LogS) (segs:List Int):ManM:=⟨S.man.segs.filter fun n=>!segs.contains n,S.man.next⟩
def dropsM (segs:List Int):List Int→DiskM→DiskM
 | [],M=>M
 | n::r,M=>dropsM segs r (if segs.contains n=true then removesM [segN n,hintN n] M else M)
def dropM (M:DiskM) (S:LogS) (segs:List Int):DiskM×LogS×Int:=
 if segs.any (wrongB S)=true then(M,S,1)
 else if(saveM M (dropMan S segs)).2=0 then(dropsM segs S.man.segs (saveM M (dropMan S segs)).1,{S with man:=dropMan S segs},0)
 else((saveM M (dropMan S segs)).1,S,(saveM M (dropMan S segs)).2)
end Lg
end
section
namespace Th
open Go.Shelf Go.Maps Go.Sort Go.WideShapes Fr Ext Go.Proofs.YtcieieacfoaklaaGreat.Nm Dk Mn Qd
open Sg (segN segN_le segN_ascii makeM putF firstB firstB_bytes getSM)
open Lg
open Rc (Re)
variable {M M1 M2:DiskM} {S:LogS} {s t:ByteArray} {b bs:List Int} {k:Int} {X Y:ByteArray→Prop}
structure Calm (M:DiskM):Prop where
 fit:Fit M
 inj:∀s t i,Dk.look M.D s=some i→Dk.look M.D t=some i→s=t
 ci:M.d.ci=false
 down:M.d.down=false
def Only (X:ByteArray→Prop) (M M':DiskM):Prop:=Calm M'∧∀t,¬X t→con M' t=con M t
theorem Only.refl (h:Calm M):Only X M M:=⟨h,fun _ _=>rfl⟩
theorem Only.trans (h1:Only X M M1) (h2:Only X M1 M2):Only X M M2:=⟨h2.1,fun t ht=>(h2.2 t ht).trans (h1.2 t ht)⟩
theorem Only.weak (h:Only X M M1) (hx:∀t,X t→Y t):Only Y M M1:=⟨h.1,fun t ht=>h.2 t (fun hh=>ht (hx t hh))⟩
def hush (M:DiskM):DiskM:={M with d:={M.d with fi:=false}}
theorem Calm.quiet (h:Calm M):Quiet (hush M):=⟨h.fit.nums rfl,h.inj,rfl,h.ci,h.down⟩
theorem Calm.sees (h:Calm M):Sees (hush M) (con M) (tot M) M.fs.length M.d.most:=⟨h.quiet,rfl,Nat.le_refl _,Nat.le_refl _,rfl⟩
theorem Calm.thingN (h:Calm M):(thingN M.d).ci=false∧(thingN M.d).down=false∧(thingN M.d).most=M.d.most:=by
 unfold Dk.thingN nowB
 rw[h.ci,Bool.false_and,if_neg (by decide)]
 split
 ·exact⟨rfl,h.down,rfl⟩
 ·exact⟨rfl,h.down,rfl⟩
theorem Calm.nums (h:Calm M):Calm {M with d:=Dk.thingN M.d}:=⟨h.fit.thing,h.inj,h.thingN.1,h.thingN.2.1⟩
theorem Calm.thing (h:Calm M):Only X M {M with d:=Dk.thingN M.d}:=⟨h.nums,fun _ _=>rfl⟩
theorem con_look {i:Nat} (h:Dk.look M.D s=some i):con M s=some (M.fs.getD i ⟨[],0,0⟩).b:=by unfold con;rw[h];rfl
theorem con_set (h:Calm M) {i:Nat} (hi:Dk.look M.D s=some i) (f:FileM) (d:Nums) (t:ByteArray):con {M with d:=d,fs:=M.fs.set i f} t=if t=s then some f.b else con M t:=by
 have hil:=h.fit.inD hi
 show(Dk.look M.D t).map (fun j=>((M.fs.set i f).getD j ⟨[],0,0⟩).b)=_
 by_cases hts:t=s
 ·subst hts
  rw[if_pos rfl,hi,Option.map_some,getD_set _ _ _ _ hil,if_pos rfl]
 ·rw[if_neg hts]
  unfold con
  cases hl:Dk.look M.D t with
  | none=>rfl
  | some j=>
   have hji:j≠i:=fun e=>hts (h.inj _ _ _ hl (e ▸ hi))
   rw[Option.map_some,Option.map_some,getD_set _ _ _ _ hil,if_neg hji]
theorem Calm.sync (h:Calm M) (s:ByteArray):Only X M (syncM M s).1:=by
 have hf:=h.fit.sync s
 unfold syncM at hf ⊢
 rw[h.down,if_neg (by decide)] at hf ⊢
 cases hl:Dk.look M.D s with
 | none=>exact Only.refl h
 | some i=>
  rw[hl] at hf
  dsimp only at hf ⊢
  split
  ·rename_i ht
   rw[if_pos ht] at hf
   refine⟨⟨hf,h.inj,h.thingN.1,h.thingN.2.1⟩,fun t _=>?_⟩
   rw[con_set h hl]
   split
   ·rename_i e;rw[e,con_look hl]
   ·rfl
  ·exact h.thing
theorem Calm.append (h:Calm M) (s:ByteArray) (bs:List Int) (hb:IsBytes bs):Only (·=s) M (appendM M s bs).1∧((appendM M s bs).2=0→∃b,con M s=some b∧con (appendM M s bs).1 s=some (b++bs))∧((appendM M s bs).2≠0→con (appendM M s bs).1 s=con M s):=by
 have hf:=h.fit.append s bs hb
 unfold appendM at hf ⊢
 rw[h.down,if_neg (by decide)] at hf ⊢
 cases hl:Dk.look M.D s with
 | none=>exact⟨Only.refl h,fun e=>absurd e (show(3:Int)≠0 by decide),fun _=>rfl⟩
 | some i=>
  rw[hl] at hf
  dsimp only at hf ⊢
  split
  ·exact⟨Only.refl h,fun e=>absurd e (show(5:Int)≠0 by decide),fun _=>rfl⟩
  rename_i hroom
  rw[if_neg hroom] at hf
  split
  ·rename_i ht
   rw[if_pos ht] at hf
   refine⟨⟨⟨hf,h.inj,h.thingN.1,h.thingN.2.1⟩,fun t hts=>?_⟩,fun _=>⟨_,con_look hl,?_⟩,fun e=>absurd rfl e⟩
   ·rw[con_set h hl,if_neg hts]
   ·rw[con_set h hl,if_pos rfl]
  ·rename_i ht
   exact⟨h.thing,fun e=>absurd e ht,fun _=>rfl⟩
theorem look_old {M:DiskM} (h:Fit M) {f:FileM} {t:ByteArray}:(Dk.look M.D t).map (fun j=>((M.fs++[f]).getD j ⟨[],0,0⟩).b)=con M t:=by
 unfold con
 cases hl:Dk.look M.D t with
 | none=>rfl
 | some j=>
  have:=h.inD hl
  rw[Option.map_some,Option.map_some,getD_snoc,if_neg (by omega)]
theorem Calm.create (h:Calm M) (s:ByteArray) (ha:Ascii s):Only (·=s) M (createM M s).1∧((createM M s).2=0→con M s=none∧con (createM M s).1 s=some [])∧((createM M s).2≠0→con (createM M s).1 s=con M s):=by
 have hf:=h.fit.create s ha
 unfold createM at hf ⊢
 rw[h.down,if_neg (by decide)] at hf ⊢
 split
 ·exact⟨Only.refl h,fun e=>absurd e (show(1:Int)≠0 by decide),fun _=>rfl⟩
 rename_i hr
 rw[if_neg hr] at hf
 split
 ·exact⟨Only.refl h,fun e=>absurd e (show(4:Int)≠0 by decide),fun _=>rfl⟩
 rename_i hn
 rw[if_neg hn] at hf
 split
 ·exact⟨Only.refl h,fun e=>absurd e (show(2:Int)≠0 by decide),fun _=>rfl⟩
 rename_i hz
 rw[if_neg hz] at hf
 have hl:Dk.look M.D s=none:=by cases hl:Dk.look M.D s with
  | none=>rfl
  | some i=>rw[hl] at hn;exact absurd rfl hn
 have hlk:∀t,Dk.look (M.D.put (keyN s) (.held M.fs.length)) t=if t=s then some M.fs.length else Dk.look M.D t:=fun t=>look_put (isMap h.fit) s t _
 split
 ·rename_i ht
  rw[if_pos ht] at hf
  refine⟨⟨⟨hf,fun u v j hu hv=>?_,h.thingN.1,h.thingN.2.1⟩,fun t hts=>?_⟩,fun _=>⟨con_none.2 hl,?_⟩,fun e=>absurd rfl e⟩
  ·have hu':Dk.look (M.D.put (keyN s) (.held M.fs.length)) u=some j:=hu
   have hv':Dk.look (M.D.put (keyN s) (.held M.fs.length)) v=some j:=hv
   rw[hlk] at hu' hv'
   by_cases h1:u=s
   ·by_cases h2:v=s
    ·rw[h1,h2]
    ·rw[if_pos h1] at hu'
     rw[if_neg h2] at hv'
     have:=h.fit.inD hv'
     have:=Option.some.inj hu'
     omega
   ·by_cases h2:v=s
    ·rw[if_neg h1] at hu'
     rw[if_pos h2] at hv'
     have:=h.fit.inD hu'
     have:=Option.some.inj hv'
     omega
    ·rw[if_neg h1] at hu'
     rw[if_neg h2] at hv'
     exact h.inj _ _ _ hu' hv'
  ·show(Dk.look (M.D.put (keyN s) (.held M.fs.length)) t).map (fun j=>((M.fs++[(⟨[],0,M.d.made⟩:FileM)]).getD j ⟨[],0,0⟩).b)=_
   rw[hlk,if_neg hts]
   exact look_old h.fit
  ·show(Dk.look (M.D.put (keyN s) (.held M.fs.length)) s).map (fun j=>((M.fs++[(⟨[],0,M.d.made⟩:FileM)]).getD j ⟨[],0,0⟩).b)=_
   rw[hlk,if_pos rfl,Option.map_some,getD_snoc,if_pos rfl]
 ·rename_i ht
  rw[if_neg ht] at hf
  refine⟨⟨⟨hf,h.inj,h.thingN.1,h.thingN.2.1⟩,fun t _=>look_old h.fit⟩,fun e=>absurd e ht,fun _=>look_old h.fit⟩
theorem Calm.del (h:Calm M) (s:ByteArray):Only (·=s) M {M with d:=Dk.thingN M.d,D:=M.D.del (keyN s)}:=by
 have hlk:∀u,Dk.look (M.D.del (keyN s)) u=if u=s then none else Dk.look M.D u:=fun u=>look_del M.D s u
 refine⟨⟨Fit.nums (M:={M with D:=M.D.del (keyN s)}) (h.fit.del s) (thingN_most _),fun u v j hu hv=>?_,h.thingN.1,h.thingN.2.1⟩,fun t hts=>?_⟩
 ·have hu':Dk.look (M.D.del (keyN s)) u=some j:=hu
  have hv':Dk.look (M.D.del (keyN s)) v=some j:=hv
  rw[hlk] at hu' hv'
  split at hu'
  ·cases hu'
  split at hv'
  ·cases hv'
  exact h.inj _ _ _ hu' hv'
 ·show(Dk.look (M.D.del (keyN s)) t).map _=_
  rw[hlk,if_neg hts]
  rfl
theorem Calm.remove (h:Calm M) (s:ByteArray):Only (·=s) M (removeM M s).1:=by
 unfold removeM
 rw[h.down,if_neg (by decide)]
 split
 ·exact Only.refl h
 split
 ·exact h.del s
 ·exact h.thing
theorem Calm.rename (h:Calm M) (s t:ByteArray) (ht:Ascii t):Only (fun u=>u=s∨u=t) M (renameM M s t).1:=by
 have hf:=h.fit.rename s t ht
 unfold renameM at hf ⊢
 rw[h.down,if_neg (by decide)] at hf ⊢
 split
 ·exact Only.refl h
 rename_i h1
 rw[if_neg h1] at hf
 split
 ·exact Only.refl h
 rename_i h2
 rw[if_neg h2] at hf
 split
 ·exact Only.refl h
 rename_i h3
 rw[if_neg h3] at hf
 split
 ·rename_i h4
  rw[if_pos h4] at hf
  unfold moveD at hf ⊢
  cases hl:Dk.look M.D s with
  | none=>rw[hl] at h1;exact absurd rfl h1
  | some i=>
   rw[hl] at hf
   dsimp only at hf ⊢
   have hlk:∀u,Dk.look ((M.D.del (keyN s)).put (keyN t) (.held i)) u=if u=t then some i else if u=s then none else Dk.look M.D u:=fun u=>by
    rw[look_put (isMap (h.fit.del s)) t u i,look_del]
   refine⟨⟨hf,fun u v j hu hv=>?_,h.thingN.1,h.thingN.2.1⟩,fun u hu=>?_⟩
   ·have hu':Dk.look ((M.D.del (keyN s)).put (keyN t) (.held i)) u=some j:=hu
    have hv':Dk.look ((M.D.del (keyN s)).put (keyN t) (.held i)) v=some j:=hv
    rw[hlk] at hu' hv'
    by_cases k1:u=t
    ·rw[if_pos k1] at hu'
     by_cases k2:v=t
     ·rw[k1,k2]
     ·rw[if_neg k2] at hv'
      split at hv'
      ·cases hv'
      rename_i k3
      exact absurd (h.inj _ _ _ hv' (hu' ▸ hl)) k3
    ·rw[if_neg k1] at hu'
     split at hu'
     ·cases hu'
     rename_i k3
     by_cases k2:v=t
     ·rw[if_pos k2] at hv'
      exact absurd (h.inj _ _ _ hu' (hv' ▸ hl)) k3
     ·rw[if_neg k2] at hv'
      split at hv'
      ·cases hv'
      exact h.inj _ _ _ hu' hv'
   ·show(Dk.look ((M.D.del (keyN s)).put (keyN t) (.held i)) u).map _=_
    rw[hlk,if_neg (fun e=>hu (.inr e)),if_neg (fun e=>hu (.inl e))]
    rfl
 ·exact h.thing
theorem Calm.syncDir (h:Calm M):Only X M (syncDirM M).1:=by
 have hf:=h.fit.syncDir
 unfold syncDirM at hf ⊢
 rw[h.down,if_neg (by decide)] at hf ⊢
 split
 ·rename_i ht
  rw[if_pos ht] at hf
  exact⟨⟨hf,h.inj,h.thingN.1,h.thingN.2.1⟩,fun _ _=>rfl⟩
 ·exact h.thing
theorem turns_only (fs:List (DiskM→DiskM×Int)) (h:∀f∈fs,∀M,Calm M→Only X M (f M).1):∀M,Calm M→Only X M (turnsM fs M).1:=by
 induction fs with
 | nil=>exact fun M hM=>Only.refl hM
 | cons f l ih=>
  intro M hM
  unfold turnsM
  have h1:=h f (by simp) M hM
  split
  ·exact h1.trans (ih (fun f hf=>h f (by simp [hf])) _ h1.1)
  ·exact h1
theorem Calm.gone (h:Calm M) (s:ByteArray):Only (·=s) M (gone1 M s).1:=by
 unfold gone1
 split
 ·exact h.remove s
 ·exact Only.refl h
def manX (u:ByteArray):Prop:=u=tempN∨u=manN
theorem Calm.save (h:Calm M) (m:ManM):Only manX M (saveM M m).1:=by
 unfold saveM
 split
 ·refine turns_only _ (fun f hf M hM=>?_) M h
  simp only[List.mem_cons,List.not_mem_nil,or_false] at hf
  rcases hf with rfl | rfl | rfl | rfl | rfl | rfl
  ·exact(hM.gone tempN).weak fun _ e=>.inl e
  ·exact(hM.create tempN temp_ascii).1.weak fun _ e=>.inl e
  ·exact(hM.append tempN _ (Mn.putM_bytes m)).1.weak fun _ e=>.inl e
  ·exact hM.sync tempN
  ·exact hM.rename tempN manN man_ascii
  ·exact hM.syncDir
 ·exact Only.refl h
theorem Calm.hint (h:Calm M) (n:Int):Only (·=hintN n) M (hintM M n):=by
 unfold hintM hintSteps
 have hB:=(hintB_fit h.fit n).1
 refine turns_only _ (fun f hf M hM=>?_) M h
 simp only[List.mem_cons,List.not_mem_nil,or_false] at hf
 rcases hf with rfl | rfl | rfl
 ·exact(hM.create _ (hintN_ascii n)).1
 ·exact(hM.append _ _ hB).1
 ·exact hM.sync _
theorem Calm.make (h:Calm M) (n:Int):Only (·=segN n) M (makeM M n).1∧((makeM M n).2=0→con (makeM M n).1 (segN n)=some (putL (firstB n))):=by
 unfold makeM
 split
 ·exact⟨Only.refl h,fun e=>absurd e (show(1:Int)≠0 by decide)⟩
 obtain⟨h1,h2,h3⟩:=h.create (segN n) (segN_ascii n)
 split
 ·rename_i hc
  obtain⟨_,g2⟩:=h2 hc
  obtain⟨a1,a2,a3⟩:=h1.1.append (segN n) (putL (firstB n)) (put_bytes _ (firstB_bytes n))
  unfold putF
  split
  ·rename_i hp
   refine⟨h1.trans a1,fun _=>?_⟩
   obtain⟨b,e1,e2⟩:=a2 hp
   rw[g2] at e1
   obtain rfl:=Option.some.inj e1
   rw[e2,List.nil_append]
  ·rename_i hp
   exact⟨(h1.trans a1).trans (a1.1.remove _),fun e=>absurd e hp⟩
 ·rename_i hc
  exact⟨h1,fun e=>absurd e hc⟩
theorem Calm.logSync (h:Calm M) (S:LogS):Only X M (logSync M S).1:=by
 unfold Lg.logSync
 split
 ·exact Only.refl h
 ·exact h.sync _
theorem Calm.removes (l:List ByteArray):∀{M:DiskM},Calm M→Only (·∈l) M (removesM l M):=by
 induction l with
 | nil=>exact fun h=>Only.refl h
 | cons s l ih=>
  intro M h
  have h1:=h.gone s
  exact(h1.weak fun _ e=>by simp [e]).trans ((ih h1.1).weak fun _ e=>by simp [e])
theorem Calm.drops (segs:List Int) (L:List Int):∀{M:DiskM},Calm M→Only (fun u=>∃n∈L,segs.contains n=true∧(u=segN n∨u=hintN n)) M (dropsM segs L M):=by
 induction L with
 | nil=>exact fun h=>Only.refl h
 | cons n l ih=>
  intro M h
  unfold dropsM
  by_cases hn:segs.contains n=true
  ·rw[if_pos hn]
   have h1:=Calm.removes [segN n,hintN n] h
   refine(h1.weak fun u hu=>⟨n,by simp,hn,?_⟩).trans ((ih h1.1).weak fun u ⟨x,hx,hu⟩=>⟨x,by simp [hx],hu⟩)
   simpa using hu
  ·rw[if_neg hn]
   exact(ih h).weak fun u ⟨x,hx,hu⟩=>⟨x,by simp [hx],hu⟩
theorem compact_last (d:Array Int):∀m,(Lib.compactUpTo d (m+1)).getLast? =some d[m]!
 | 0=>by rw[Lib.compactUpTo_succ,Lib.keeps_lt_one d 0 (by decide)];simp [Lib.compactUpTo]
 | m+1=>by
  rw[Lib.compactUpTo_succ]
  by_cases hk:Lib.keeps d (m+1)=true
  ·rw[hk];simp
  ·have hk':Lib.keeps d (m+1)=false:=Bool.eq_false_iff.2 hk
   have e:d[m+1]! =d[m]! :=by
    unfold Lib.keeps at hk'
    have h2:=of_decide_eq_false hk'
    rw[not_or] at h2
    exact Classical.not_not.1 h2.2
   rw[hk',e,← compact_last d m]
   simp
theorem segs_last (L:List ByteArray) {x:Int} (hx:x∈segL L):∃z,(segsL L).getLast? =some z∧x≤z:=by
 have hp:=Sh.isort_perm (fun x y:Int=>decide (x≤y)) (segL L)
 have hs:=Sh.isort_pairwise (le:=fun x y:Int=>decide (x≤y)) (fun a b c h1 h2=>decide_eq_true (Int.le_trans (of_decide_eq_true h1) (of_decide_eq_true h2))) (fun a b=>by rcases Int.le_total a b with h | h <;> simp [h]) (segL L)
 have hm:=hp.mem_iff.2 hx
 unfold segsL Sh.sortL Lib.compact
 generalize Sh.isort (fun x y:Int=>decide (x≤y)) (segL L)=zs at hm hs
 obtain⟨n,hn⟩:∃n,zs.length=n+1:=⟨zs.length - 1,by have:=List.length_pos_of_mem hm;omega⟩
 refine⟨zs.toArray[n]!,by rw[hn];exact compact_last _ n,?_⟩
 obtain⟨i,hi,rfl⟩:=List.getElem_of_mem hm
 have e:zs.toArray[n]! =zs[n]:=by rw[getElem!_pos zs.toArray n (by simp;omega)];simp
 rw[e]
 rcases Nat.lt_or_ge i n with h | h
 ·exact of_decide_eq_true (List.pairwise_iff_getElem.1 hs i n hi (by omega) h)
 ·have:i=n:=by omega
  subst this
  exact Int.le_refl _
theorem parse_le (l:List UInt8):(parseL l).2.1≤99999999:=by
 cases l with
 | nil=>decide
 | cons c l=>
  have hn:(((numberM l).getD 0:Nat):Int)≤99999999:=by
   unfold numberM
   split
   ·rename_i h8
    cases hl:numL l 0 with
    | none=>simp
    | some m=>
     have:=numL_le l 0 m hl
     rw[h8] at this
     rw[Option.getD_some]
     omega
   ·simp
  rw[parseL_cons]
  repeat' split
  all_goals first | exact hn | decide
theorem next_gt (h:Fit M) (hk:con M (segN k)≠none) (k0:0≤k) (k1:k≤99999999):k < nextM M S:=by
 have hm:segN k∈namesM M:=by
  have h1:(segN k).data.toList∈strKeys M.D:=h.mem.2 (by
   rw[show(⟨(segN k).data.toList.toArray⟩:ByteArray)=segN k from rfl,con_isSome]
   cases hc:con M (segN k) with
   | none=>exact absurd hc hk
   | some b=>rfl)
  exact List.mem_map.2 ⟨_,(Sh.isort_perm _ _).mem_iff.2 h1,rfl⟩
 have hx:k∈segL (namesM M):=by
  unfold segL
  refine List.mem_map.2 ⟨segN k,List.mem_filter.2 ⟨hm,?_⟩,by rw[parse_seg k0 k1]⟩
  unfold isSeg
  rw[parse_seg k0 k1]
  rfl
 obtain⟨z,hz,hkz⟩:=segs_last _ hx
 obtain⟨s,hs,p1,p2,p3⟩:=segs_mem (List.mem_of_getLast? hz)
 have hz9:z≤99999999:=by
  rw[← p3]
  unfold parseM
  exact parse_le _
 unfold nextM
 rw[hz]
 dsimp only
 have:wrap64 (z+1)=z+1:=by unfold wrap64;omega
 omega
theorem next_ge:S.man.next≤nextM M S:=by
 unfold nextM
 split
 ·exact Int.le_refl _
 ·omega
end Th
end
section
namespace Gt
open Go.Shelf Go.Maps Go.Sort Go.WideShapes Fr Ext Go.Proofs.YtcieieacfoaklaaGreat.Nm Dk Mn Qd
open Sg (segN firstB)
open Lg
open Rc (Re)
def M0:DiskM:=newM 4194304
def S0:LogS:=⟨1048576,⟨[],1⟩,-1⟩
abbrev St:=DiskM×LogS×List Int
def GI (p:St) (k:Nat):Prop:=
 p=(M0,S0,[])∨(p.2.2.head? =some 13∧p.2.1.man.segs=[1]∧p.2.1.last=1∧p.2.1.limit=1048576∧∃c a n b,LV p.1 p.2.1 c a n 4194304∧a≤100+5308*k∧n≤3∧c (segN 1)=some b∧13≤b.length∧b.length≤13+5308*k∧
  ∀x∈p.2.2,∃u y v R,x=(u.length:Int)∧b=u++putL y++v∧1≤y.length∧y.length≤8192∧Rc.getM y=(R,true))
theorem put_size {R:Re} (hr:Rc.rightM R=true):1≤(Rc.putM R).length∧(Rc.putM R).length≤5300∧(putL (Rc.putM R)).length=(Rc.putM R).length+8∧sizeI (Rc.putM R).length=(Rc.putM R).length+8:=by
 have hpl:=Rc.put_len R
 have hp0:(Rc.putM R).length≠0:=fun e=>by rw[Rc.put_nil.1 e] at hr;cases hr
 have hfl:=Fr.put_len (Rc.putM R)
 have hs:=sizeI_of ((Rc.putM R).length:Int) (by omega) (by omega)
 omega
theorem ladd_wrong (M:DiskM) (S:LogS) {R:Re} (hr:Rc.rightM R=false):laddM M S R=(M,S,0,0,0,1):=by
 unfold laddM
 rw[Rc.put_nil.2 hr,if_pos (by rfl)]
theorem GI.gone {p:St} {k:Nat} (h:GI p k) {n:Int} (at_:Int) (hn:p.2.2=[]∨n≠1):(getLM p.1 p.2.1 n at_).2=3:=by
 unfold getLM
 rw[if_neg]
 rcases h with rfl | ⟨h1,h2,_⟩
 ·simp [S0]
 ·rcases hn with hn | hn
  ·rw[hn] at h1;cases h1
  ·rw[h2]
   simp [hn]
theorem GI.segs {p:St} {k:Nat} (h:GI p k):p.2.1.man.segs.length≤1000000:=by
 rcases h with rfl | ⟨h1,h2,_⟩
 ·decide
 ·rw[h2];decide
end Gt
end
section
namespace Th
open Go.Shelf Go.Maps Go.Sort Go.WideShapes Fr Ext Go.Proofs.YtcieieacfoaklaaGreat.Nm Dk Mn Qd
open Sg (segN segN_le segN_ascii makeM putF firstB firstB_bytes getSM bodyG)
open Lg
open Rc (Re)
open Gt (put_size ladd_wrong)
variable {M M' M1 M2:DiskM} {S:LogS} {s t:ByteArray} {b bs:List Int} {k lim:Int} {X Y:ByteArray→Prop}
abbrev Stand:=Int×Int×Re
def Stands (M:DiskM) (x:Stand):Prop:=∃p q,con M (segN x.1)=some (p++putL (Rc.putM x.2.2)++q)∧(p.length:Int)=x.2.1
structure TI (lim:Int) (M:DiskM) (S:LogS) (all:List Stand):Prop where
 calm:Calm M
 limit:S.limit=lim
 next:1≤S.man.next∧S.man.next≤100000000
 many:S.man.segs.length≤1000
 rng:∀n∈S.man.segs,0≤n∧n≤99999999
 last:S.last < 0∨S.last∈S.man.segs∧∃b,con M (segN S.last)=some b∧13≤b.length
 stand:∀x∈all,x.1∈S.man.segs∧x.1≤S.last∧Rc.rightM x.2.2=true∧Stands M x
 rises:all.Pairwise fun x y=>x.1≤y.1
variable {all:List Stand}
theorem TI.only (h:TI lim M S all) (ho:Only X M M') (hx:∀n∈S.man.segs,¬X (segN n)):TI lim M' S all:=
 ⟨ho.1,h.limit,h.next,h.many,h.rng,h.last.imp id fun⟨h1,b,h2,h3⟩=>⟨h1,b,by rw[ho.2 _ (hx _ h1)];exact h2,h3⟩,
  fun x hxa=>by
   obtain⟨h1,h2,h3,p,q,h4,h5⟩:=h.stand x hxa
   exact⟨h1,h2,h3,p,q,by rw[ho.2 _ (hx _ h1)];exact h4,h5⟩,h.rises⟩
theorem TI.next_ (h:TI lim M S all) (x:Int) (h1:1≤x∧x≤100000000):TI lim M {S with man:=⟨S.man.segs,x⟩} all:=⟨h.calm,h.limit,h1,h.many,h.rng,h.last,h.stand,h.rises⟩
theorem TI.sync (h:TI lim M S all):TI lim (logSync M S).1 S all:=h.only (X:=fun _=>False) (h.calm.logSync S) fun _ _ e=>e
theorem TI.manX (h:TI lim M S all):∀n∈S.man.segs,¬manX (segN n):=fun n hn e=>by
 obtain⟨k0,k1⟩:=h.rng n hn
 rcases e with e | e
 ·exact seg_temp k0 k1 e
 ·exact seg_man k0 k1 e
theorem TI.there (h:TI lim M S all) (x:Stand) (hx:x∈all):con M (segN x.1)≠none∧0≤x.1∧x.1≤99999999:=by
 obtain⟨h1,h2,h3,p,q,h4,h5⟩:=h.stand x hx
 exact⟨by rw[h4];exact fun e=>(by cases e),h.rng _ h1⟩
theorem TI.keep (h:TI lim M S all) (ho:Only X M M') (hl:0≤S.last→¬X (segN S.last)) (hx:∀x∈all,¬X (segN x.1)):TI lim M' S all:=
 ⟨ho.1,h.limit,h.next,h.many,h.rng,h.last.imp id fun⟨h1,b,h2,h3⟩=>⟨h1,b,by rw[ho.2 _ (hl (h.rng _ h1).1)];exact h2,h3⟩,
  fun x hxa=>by
   obtain⟨h1,h2,h3,p,q,h4,h5⟩:=h.stand x hxa
   exact⟨h1,h2,h3,p,q,by rw[ho.2 _ (hx _ hxa)];exact h4,h5⟩,h.rises⟩
theorem TI.roll (h:TI lim M S all):TI lim (rollM M S).1 (rollM M S).2.1 all∧((rollM M S).2.2=0→0≤(rollM M S).2.1.last∧con (rollM M S).1 (segN (rollM M S).2.1.last)=some (putL (firstB (rollM M S).2.1.last))):=by
 have hs:=h.sync
 unfold rollM
 split
 rotate_left
 ·rename_i he
  exact⟨hs,fun e=>absurd e he⟩
 generalize (logSync M S).1=Ma at hs ⊢
 obtain⟨n,hn⟩:∃n,nextM Ma S=n:=⟨_,rfl⟩
 have hge:=next_ge (M:=Ma) (S:=S)
 have hgt:∀k,con Ma (segN k)≠none→0≤k→k≤99999999→k < n:=fun k h1 h2 h3=>by rw[← hn];exact next_gt hs.calm.fit h1 h2 h3
 rw[hn] at hge ⊢
 clear hn
 have hnx:=hs.next
 unfold rollN
 split
 ·exact⟨hs,fun e=>absurd e (show ¬(5:Int)=0 by decide)⟩
 rename_i h9
 split
 ·exact⟨hs,fun e=>absurd e (show ¬(5:Int)=0 by decide)⟩
 rename_i h10
 have n0:0≤n:=by omega
 have n1:n≤99999999:=by omega
 have ew:wrap64 (n+1)=n+1:=by unfold wrap64;omega
 obtain⟨m1,m2⟩:=hs.calm.make n
 have hmt:∃Y,Y=(fun u=>u=segN n∨Th.manX u)∧Only Y Ma (turnsM (rollSteps n (rollMan S n)) Ma).1∧((turnsM (rollSteps n (rollMan S n)) Ma).2=0→con (turnsM (rollSteps n (rollMan S n)) Ma).1 (segN n)=some (putL (firstB n))):=by
  refine⟨_,rfl,?_⟩
  unfold rollSteps turnsM
  split
  ·rename_i hm
   unfold turnsM
   have hsv:=m1.1.save (rollMan S n)
   have hc:con (saveM (makeM Ma n).1 (rollMan S n)).1 (segN n)=some (putL (firstB n)):=by
    rw[hsv.2 _ (fun e=>by
     rcases e with e | e
     ·exact seg_temp n0 n1 e
     ·exact seg_man n0 n1 e)]
    exact m2 hm
   have ho:Only (fun u=>u=segN n∨Th.manX u) Ma (saveM (makeM Ma n).1 (rollMan S n)).1:=(m1.weak fun _ e=>.inl e).trans (hsv.weak fun _ e=>.inr e)
   split
   ·exact⟨ho,fun _=>hc⟩
   ·rename_i hsz
    exact⟨ho,fun e=>absurd e hsz⟩
  ·rename_i hm
   exact⟨m1.weak fun _ e=>.inl e,fun e=>absurd e hm⟩
 obtain⟨Y,hY,t1,t2⟩:=hmt
 generalize turnsM (rollSteps n (rollMan S n)) Ma=p at t1 t2 ⊢
 have hfree:∀k,con Ma (segN k)≠none→0≤k→k≤99999999→¬Y (segN k):=by
  intro k h1 h2 h3 hk
  rw[hY] at hk
  rcases hk with e | e | e
  ·rw[segN_inj h2 h3 n0 n1] at e
   have:=hgt k h1 h2 h3
   omega
  ·exact seg_temp h2 h3 e
  ·exact seg_man h2 h3 e
 have hlast:0≤S.last→con Ma (segN S.last)≠none∧S.last≤99999999:=by
  intro h0
  rcases hs.last with h1 | ⟨h1,b,h2,h3⟩
  ·omega
  ·exact⟨by rw[h2];exact fun e=>(by cases e),(hs.rng _ h1).2⟩
 have hk1:TI lim p.1 S all:=hs.keep t1 (fun h0=>hfree _ (hlast h0).1 h0 (hlast h0).2) (fun x hx=>by
  obtain⟨g1,g2,g3⟩:=hs.there x hx
  exact hfree _ g1 g2 g3)
 unfold rollEnd
 split
 rotate_left
 ·rename_i hp
  rw[ew]
  exact⟨hk1.next_ (n+1) (by omega),fun e=>absurd e hp⟩
 rename_i hp
 have hc:=t2 hp
 dsimp only
 obtain⟨Mb,hMb,hbO,hbC⟩:∃Mb,Mb=(if 0≤S.last then hintM p.1 S.last else p.1)∧Only (fun u=>0≤S.last∧u=hintN S.last) p.1 Mb∧con Mb (segN n)=some (putL (firstB n)):=by
  by_cases h0:0≤S.last
  ·have hh:=hk1.calm.hint S.last
   refine⟨_,rfl,?_⟩
   rw[if_pos h0]
   refine⟨hh.weak fun _ e=>⟨h0,e⟩,?_⟩
   rw[hh.2 _ (seg_hint n0 n1 h0 (hlast h0).2)]
   exact hc
  ·refine⟨_,rfl,?_⟩
   rw[if_neg h0]
   exact⟨Only.refl hk1.calm,hc⟩
 rw[← hMb]
 have hk2:TI lim Mb S all:=hk1.keep hbO (fun h0 e=>seg_hint h0 (hlast h0).2 h0 (hlast h0).2 e.2) (fun x hx e=>by
  obtain⟨g1,g2,g3⟩:=hs.there x hx
  exact seg_hint g2 g3 e.1 (hlast e.1).2 e.2)
 refine⟨⟨hk2.calm,hk2.limit,?_,?_,?_,.inr ⟨?_,_,hbC,by rw[first_len];exact Nat.le_refl _⟩,fun x hx=>?_,hk2.rises⟩,fun _=>⟨n0,hbC⟩⟩
 ·show 1≤wrap64 (n+1)∧wrap64 (n+1)≤100000000
  rw[ew];omega
 ·show(S.man.segs++[n]).length≤1000
  rw[List.length_append,List.length_singleton];omega
 ·intro x hx
  rcases List.mem_append.1 (show x∈S.man.segs++[n] from hx) with hx | hx
  ·exact hs.rng x hx
  ·rw[List.mem_singleton.1 hx];exact⟨n0,n1⟩
 ·exact List.mem_append.2 (.inr (List.mem_singleton.2 rfl))
 ·obtain⟨g1,g2,g3⟩:=hs.there x hx
  obtain⟨h1,h2,h3,h4⟩:=hk2.stand x hx
  exact⟨List.mem_append.2 (.inl h1),Int.le_of_lt (hgt _ g1 g2 g3),h3,h4⟩
theorem TI.add_end (h:TI lim M S all) (h0:0≤S.last) {R:Re} (h6:IsBytes R.f6) (hr:Rc.rightM R=true):
  TI lim (addEnd M S R).1 (addEnd M S R).2.1 (if(addEnd M S R).2.2.2.2.2=0 then all++[((addEnd M S R).2.2.1,(addEnd M S R).2.2.2.1,R)] else all)∧
   ((addEnd M S R).2.2.2.2.2=0→(addEnd M S R).2.2.2.1=sizeM M (segN S.last)∧(addEnd M S R).2.2.2.2.1=((Rc.putM R).length:Int)+8):=by
 obtain⟨z1,z2,z3,z4⟩:=put_size hr
 obtain⟨a1,a2,a3⟩:=h.calm.append (segN S.last) (putL (Rc.putM R)) (put_bytes _ (La.putM_isBytes _ h6))
 obtain⟨hlm,b,hb,hb13⟩:S.last∈S.man.segs∧∃b,con M (segN S.last)=some b∧13≤b.length:=h.last.resolve_left (by omega)
 have hsz:sizeM M (segN S.last)=(b.length:Int):=by
  have h1:sizeM (hush M) (segN S.last)=_:=h.calm.sees.sizeM
  rw[hb] at h1
  exact h1
 have hle:=(h.rng _ hlm).2
 unfold addEnd Sg.addM
 rw[if_neg (show ¬(putL (Rc.putM R)).length=0 by omega)]
 by_cases he:(appendM M (segN S.last) (putL (Rc.putM R))).2=0
 ·rw[if_pos he]
  dsimp only
  rw[if_pos rfl]
  dsimp only
  rw[if_pos rfl]
  obtain⟨b',e1,e2⟩:=a2 he
  rw[hb] at e1
  obtain rfl:=Option.some.inj e1
  generalize (appendM M (segN S.last) (putL (Rc.putM R))).1=Mn at a1 e2 ⊢
  have hst:∀x:Stand,x.1=S.last∨(0≤x.1∧x.1≤99999999)→Stands M x→Stands Mn x:=by
   rintro x hx ⟨p,q,g1,g2⟩
   by_cases hxl:x.1=S.last
   ·rw[hxl,hb] at g1
    refine⟨p,q++putL (Rc.putM R),?_,g2⟩
    rw[hxl,e2,Option.some.inj g1]
    simp only[List.append_assoc]
   ·have hx':=hx.resolve_left hxl
    exact⟨p,q,by rw[a1.2 _ (fun e=>hxl ((segN_inj hx'.1 hx'.2 h0 hle).1 e))];exact g1,g2⟩
  refine⟨⟨a1.1,h.limit,h.next,h.many,h.rng,.inr ⟨hlm,_,e2,by rw[List.length_append];omega⟩,fun x hx=>?_,?_⟩,fun _=>⟨rfl,by rw[z3];omega⟩⟩
  ·rcases List.mem_append.1 hx with hx | hx
   ·obtain⟨g1,g2,g3,g4⟩:=h.stand x hx
    exact⟨g1,g2,g3,hst x (.inr (h.rng _ g1)) g4⟩
   ·rw[List.mem_singleton.1 hx]
    exact⟨hlm,Int.le_refl _,hr,b,[],by rw[e2,List.append_nil],hsz.symm⟩
  ·refine List.pairwise_append.2 ⟨h.rises,List.pairwise_singleton _ _,fun x hx y hy=>?_⟩
   rw[List.mem_singleton.1 hy]
   exact(h.stand x hx).2.1
 ·rw[if_neg he]
  dsimp only
  rw[if_neg he]
  dsimp only
  rw[if_neg he]
  refine⟨h.keep (X:=fun _=>False) ⟨a1.1,fun t _=>?_⟩ (fun _ e=>e) (fun _ _ e=>e),fun e=>absurd e he⟩
  by_cases ht:t=segN S.last
  ·rw[ht];exact a3 he
  ·exact a1.2 t ht
def addAll (all:List Stand) (R:Re) (q:DiskM×LogS×Int×Int×Int×Int):List Stand:=if q.2.2.2.2.2=0 then all++[(q.2.2.1,q.2.2.2.1,R)] else all
theorem TI.add (h:TI lim M S all) {R:Re} (h6:IsBytes R.f6):
  TI lim (laddM M S R).1 (laddM M S R).2.1 (addAll all R (laddM M S R))∧
   ((laddM M S R).2.2.2.2.2=0→Rc.rightM R=true∧((laddM M S R).2.2.2.1=13∨(laddM M S R).2.2.2.1+(laddM M S R).2.2.2.2.1≤lim)∧0≤(laddM M S R).2.2.2.1∧(laddM M S R).2.2.2.1≤67108864∧0≤(laddM M S R).2.2.2.2.1∧(laddM M S R).2.2.2.2.1≤5308):=by
 unfold addAll
 cases hr:Rc.rightM R with
 | false=>
  rw[ladd_wrong M S hr]
  dsimp only
  rw[if_neg (by decide)]
  exact⟨h,fun e=>absurd e (show ¬(1:Int)=0 by decide)⟩
 | true=>
  obtain⟨z1,z2,z3,z4⟩:=put_size hr
  unfold laddM
  rw[if_neg (by omega)]
  split
  ·unfold addRoll
   obtain⟨r1,r2⟩:=h.roll
   generalize rollM M S=p at r1 r2 ⊢
   split
   ·rename_i hp
    obtain⟨q1,q2⟩:=r2 hp
    obtain⟨e1,e2⟩:=r1.add_end q1 h6 hr
    refine⟨e1,fun hz=>⟨rfl,?_⟩⟩
    obtain⟨g1,g2⟩:=e2 hz
    have h1:sizeM (hush p.1) (segN p.2.1.last)=_:=r1.calm.sees.sizeM
    rw[q2,Option.getD_some,first_len] at h1
    have h2:sizeM p.1 (segN p.2.1.last)=13:=h1
    rw[g1,g2,h2]
    omega
   ·rename_i hp
    exact⟨r1,fun e=>absurd e hp⟩
  ·rename_i hw
   have hw':wantsRoll M S (sizeI ((Rc.putM R).length:Int))=false:=Bool.eq_false_iff.mpr hw
   unfold wantsRoll at hw'
   rw[Bool.or_eq_false_iff,Bool.and_eq_false_iff] at hw'
   obtain⟨w1,w2⟩:=hw'
   have h0:0≤S.last:=by have:=of_decide_eq_false w1;omega
   obtain⟨e1,e2⟩:=h.add_end h0 h6 hr
   refine⟨e1,fun hz=>⟨rfl,?_⟩⟩
   obtain⟨g1,g2⟩:=e2 hz
   obtain⟨hlm,b,hb,hb13⟩:=h.last.resolve_left (by omega)
   have h1:sizeM (hush M) (segN S.last)=_:=h.calm.sees.sizeM
   rw[hb,Option.getD_some] at h1
   have h2:sizeM M (segN S.last)=(b.length:Int):=h1
   have h3:=(h.calm.fit.sizeM (segN S.last)).2
   rw[h2] at w2 h3
   rw[g1,g2,h2]
   rw[z4,h.limit,show wrap64 ((b.length:Int)+(((Rc.putM R).length:Int)+8))=(b.length:Int)+(((Rc.putM R).length:Int)+8) by unfold wrap64;omega] at w2
   rcases w2 with w2 | w2
   ·have:=of_decide_eq_false w2;omega
   ·have:=of_decide_eq_false w2;omega
def dropAll (all:List Stand) (segs:List Int):List Stand:=all.filter fun x=>!segs.contains x.1
theorem TI.drop (h:TI lim M S all) (segs:List Int):TI lim (dropM M S segs).1 (dropM M S segs).2.1 (if(dropM M S segs).2.2=0 then dropAll all segs else all):=by
 unfold dropM
 split
 ·dsimp only
  rw[if_neg (by decide)]
  exact h
 rename_i hw
 have hs:TI lim (saveM M (dropMan S segs)).1 S all:=h.only (h.calm.save _) h.manX
 split
 rotate_left
 ·exact hs
 dsimp only
 rw[if_pos rfl]
 generalize (saveM M (dropMan S segs)).1=Ma at hs ⊢
 have hd:=hs.calm.drops segs S.man.segs
 have hno:∀k,0≤k→k≤99999999→segs.contains k=false→¬∃n∈S.man.segs,segs.contains n=true∧(segN k=segN n∨segN k=hintN n):=by
  rintro k k0 k1 hk ⟨n,hn,hc,e | e⟩
  ·obtain⟨n0,n1⟩:=h.rng n hn
   rw[segN_inj k0 k1 n0 n1] at e
   rw[e,hc] at hk
   cases hk
  ·obtain⟨n0,n1⟩:=h.rng n hn
   exact seg_hint k0 k1 n0 n1 e
 have hlast:segs.contains S.last=false:=by
  rw[Bool.eq_false_iff]
  intro hc
  refine hw (List.any_eq_true.2 ⟨S.last,List.contains_iff_mem.1 hc,?_⟩)
  unfold wrongB
  simp
 refine⟨hd.1,hs.limit,hs.next,Nat.le_trans (List.length_filter_le _ _) hs.many,fun n hn=>hs.rng n (List.mem_filter.1 hn).1,?_,fun x hx=>?_,hs.rises.sublist List.filter_sublist⟩
 ·rcases hs.last with h1 | ⟨h1,b,h2,h3⟩
  ·exact .inl h1
  ·obtain⟨k0,k1⟩:=h.rng _ h1
   exact .inr ⟨List.mem_filter.2 ⟨h1,by rw[hlast];rfl⟩,b,by rw[hd.2 _ (hno _ k0 k1 hlast)];exact h2,h3⟩
 ·obtain⟨hx1,hx2⟩:=List.mem_filter.1 hx
  obtain⟨g1,g2,g3,p,q,g4,g5⟩:=hs.stand x hx1
  obtain⟨k0,k1⟩:=h.rng _ g1
  have hc:segs.contains x.1=false:=by simpa using hx2
  exact⟨List.mem_filter.2 ⟨g1,hx2⟩,g2,g3,p,q,by rw[hd.2 _ (hno _ k0 k1 hc)];exact g4,g5⟩
theorem TI.get (h:TI lim M S all) (x:Stand) (hx:x∈all):getLM M S x.1 x.2.1=(x.2.2,0):=by
 obtain⟨g1,g2,g3,p,q,g4,g5⟩:=h.stand x hx
 obtain⟨z1,z2,z3,z4⟩:=put_size g3
 have hg:getSM (hush M) x.1 (p.length:Int)=(x.2.2,0):=h.calm.sees.get p _ q g4 z1 (by omega) (Rc.get_put g3)
 unfold getLM
 rw[if_pos (List.contains_iff_mem.2 g1),← g5]
 exact hg
end Th
end
section
namespace Pu
open Go.Shelf Go.Maps Go.Sort Go.WideShapes Fr Ext Go.Proofs.YtcieieacfoaklaaGreat.Nm Dk Mn Qd
open Sg (segN firstB)
open Lg
open Rc (Re Lo)
open Gt (put_size ladd_wrong)
variable {M:DiskM} {S:LogS} {c:View} {a n k T:Nat} {m lim:Int}
def lenLast (c:View) (S:LogS):Nat:=((c (segN S.last)).getD []).length
structure PI (lim m:Int) (M:DiskM) (S:LogS) (c:View) (a n k T:Nat):Prop where
 lv:LV M S c a n m
 none_:S.last < 0→c=fun _=>none
 room:a+9*lenLast c S≤4200*k+10*T
 files:n≤3*k
 many:S.man.segs.length≤k
 next:S.man.next≤k+1
 limit:S.limit=lim
def OneS (S:LogS) (c:View) (T:Nat):Prop:=(S.last=-1∧S.man.next=1∧T=0)∨(S.last=1∧lenLast c S=13+T)
theorem PI.new (x:Int) (lim:Int):PI lim (newM x).d.most (newM x) ⟨lim,⟨[],1⟩,-1⟩ (fun _=>none) 0 0 0 0:=⟨LV.new lim,fun _=>rfl,Nat.le_refl _,Nat.le_refl _,Nat.le_refl _,Int.le_refl _,rfl⟩
theorem OneS.new (lim:Int):OneS ⟨lim,⟨[],1⟩,-1⟩ (fun _=>none) 0:=.inl ⟨rfl,rfl,rfl⟩
theorem PI.add (h:PI lim m M S c a n k T) {R:Re} (hr:Rc.rightM R=true) (h6:IsBytes R.f6) (hk:k < 1000) (hm:4200*(k+1)+10*(T+((Rc.putM R).length+8))≤m):
  (laddM M S R).2.2.2.2.2=0∧((laddM M S R).2.2.2.2.1=((Rc.putM R).length:Int)+8)∧∃c' a' n',PI lim m (laddM M S R).1 (laddM M S R).2.1 c' a' n' (k+1) (T+((Rc.putM R).length+8))∧
   (OneS S c T→13+T+((Rc.putM R).length+8)≤lim→(laddM M S R).2.2.1=1∧(laddM M S R).2.2.2.1=13+T∧OneS (laddM M S R).2.1 c' (T+((Rc.putM R).length+8))):=by
 have hrm:=h.room
 have hfl:=h.files
 have hmy:=h.many
 have hnx:=h.next
 obtain⟨z1,z2,z3,z4⟩:=put_size hr
 have hsz:¬sizeI ((Rc.putM R).length:Int)=0:=by rw[z4];omega
 have hll:=h.lv.last_lt
 have hnn:=h.lv.next_le
 have hlim:=h.limit
 unfold laddM
 rw[if_neg hsz]
 by_cases hw:wantsRoll M S (sizeI ((Rc.putM R).length:Int))=true
 ·rw[if_pos hw]
  obtain⟨M',e1,l1⟩:=h.lv.roll (z:=lenLast c S) (fun b hb=>by unfold lenLast;rw[hb];exact Nat.le_refl _) (by omega) (by omega) (by omega) (by omega)
  have k0:(0:Int)≤S.man.next:=hnn.1
  have k1:S.man.next≤99999999:=hnn.2
  have hseg:rollC c S (segN S.man.next)=some (putL (firstB S.man.next)):=by
   unfold rollC
   split
   ·rename_i h0
    rw[upd_ne _ _ (seg_hint k0 k1 h0 (by omega)),upd_ne _ _ (seg_man k0 k1),upd_self]
   ·rw[upd_ne _ _ (seg_man k0 k1),upd_self]
  have hl:=first_len S.man.next
  obtain⟨M2,e2,l2⟩:=l1.end_ (R:=R) k0 hseg hr h6 (by rw[z3];omega)
  rw[e1]
  unfold addRoll
  dsimp only
  rw[if_pos rfl]
  have e2':addEnd M' (rollS S) R=(M2,rollS S,S.man.next,((putL (firstB S.man.next)).length:Int),((putL (Rc.putM R)).length:Int),0):=e2
  rw[e2']
  have hlen:lenLast (upd (rollC c S) (segN (rollS S).last) (some (putL (firstB S.man.next)++putL (Rc.putM R)))) (rollS S)=13+((Rc.putM R).length+8):=by
   unfold lenLast
   rw[upd_self,Option.getD_some,List.length_append,hl,z3]
  refine⟨rfl,by rw[z3];dsimp only;omega,_,_,_,⟨l2,?_,?_,?_,?_,?_,hlim⟩,fun ho hb=>?_⟩
  ·intro e;have e':S.man.next < 0:=e;omega
  ·rw[hlen,z3];omega
  ·omega
  ·show(S.man.segs++[S.man.next]).length≤_
   rw[List.length_append,List.length_singleton]
   omega
  ·show wrap64 (S.man.next+1)≤_
   unfold wrap64
   omega
  ·rcases ho with⟨o1,o2,o3⟩ | ⟨o1,o2⟩
   ·refine⟨o2,by rw[hl,o3];rfl,.inr ⟨o2,?_⟩⟩
    rw[hlen];omega
   ·exfalso
    unfold wantsRoll at hw
    rw[o1,decide_eq_false (by omega),Bool.false_or,z4] at hw
    have hq:Dk.sizeM M (segN 1)=((13+T:Nat):Int):=by
     have:=h.lv.sees.sizeM (s:=segN S.last)
     rw[o1] at this
     rw[this,← o2]
     unfold lenLast
     rw[o1]
    rw[hq,hlim,Bool.and_eq_true] at hw
    have:=of_decide_eq_true hw.2
    unfold wrap64 at this
    omega
 ·rw[if_neg hw]
  have hw':wantsRoll M S (sizeI ((Rc.putM R).length:Int))=false:=Bool.eq_false_iff.mpr hw
  unfold wantsRoll at hw'
  rw[Bool.or_eq_false_iff] at hw'
  have h0:0≤S.last:=by have:=of_decide_eq_false hw'.1;omega
  obtain⟨b,hb⟩:=h.lv.segs _ (h.lv.last_mem h0)
  have hlb:lenLast c S=b.length:=by unfold lenLast;rw[hb];rfl
  obtain⟨M2,e2,l2⟩:=h.lv.end_ (R:=R) h0 hb hr h6 (by rw[z3];omega)
  rw[e2]
  have hlen:lenLast (upd c (segN S.last) (some (b++putL (Rc.putM R)))) S=b.length+((Rc.putM R).length+8):=by
   unfold lenLast
   rw[upd_self,Option.getD_some,List.length_append,z3]
  refine⟨rfl,by rw[z3];dsimp only;omega,_,_,_,⟨l2,?_,?_,by omega,by dsimp only;omega,by dsimp only;omega,hlim⟩,fun ho hb=>?_⟩
  ·intro e;have e':S.last < 0:=e;omega
  ·rw[hlen,z3];omega
  ·rcases ho with⟨o1,o2,o3⟩ | ⟨o1,o2⟩
   ·omega
   ·exact⟨o1,by dsimp only;rw[← hlb,o2];rfl,.inr ⟨o1,by rw[hlen,← hlb,o2];omega⟩⟩
end Pu
end
section
namespace Pu
open Go.Maps Fr Ext Pt Dk Lg
open Rc (Re Lo withinB keyB zeroR)
open Th (TI Stand addAll)
open Gt (put_size)
variable {lim m:Int} {q:St} {k T K T0:Nat} {st:List Stand} {l bs chs:List (List Int)} {b all:List Int}
theorem bytes_cat {x y:List Int}:IsBytes (x++y)↔IsBytes x∧IsBytes y:=⟨fun h=>⟨fun z hz=>h z (List.mem_append_left _ hz),fun z hz=>h z (List.mem_append_right _ hz)⟩,fun h z hz=>(List.mem_append.1 hz).elim (h.1 z) (h.2 z)⟩
structure QI (lim m:Int) (M:DiskM) (S:LogS) (k T:Nat) (st:List Stand):Prop where
 pi:∃c a n,PI lim m M S c a n k T
 ti:TI lim M S st
theorem QI.add {M:DiskM} {S:LogS} (h:QI lim m M S k T st) {R:Re} (hr:Rc.rightM R=true) (h6:IsBytes R.f6) (hk:k < 1000) (hm:4200*(k+1)+10*(T+((Rc.putM R).length+8))≤m):
  (laddM M S R).2.2.2.2.2=0∧(laddM M S R).2.2.2.2.1=((Rc.putM R).length:Int)+8∧QI lim m (laddM M S R).1 (laddM M S R).2.1 (k+1) (T+((Rc.putM R).length+8)) (st++[((laddM M S R).2.2.1,(laddM M S R).2.2.2.1,R)]):=by
 obtain⟨c,a,n,hp⟩:=h.pi
 obtain⟨e1,e2,c',a',n',p2,_⟩:=hp.add hr h6 hk hm
 have ht:=(h.ti.add h6).1
 unfold addAll at ht
 rw[if_pos e1] at ht
 exact⟨e1,e2,⟨c',a',n',p2⟩,ht⟩
theorem QI.add_any {M:DiskM} {S:LogS} (h:QI lim m M S k T st) (R:Re) (h6:IsBytes R.f6) (hk:k < 1000) (hm:4200*(k+1)+10*(T+((Rc.putM R).length+8))≤m):
  ∃k' T' st',k≤k'∧k'≤k+1∧T≤T'∧T'≤T+((Rc.putM R).length+8)∧QI lim m (laddM M S R).1 (laddM M S R).2.1 k' T' (st++st'):=by
 cases hr:Rc.rightM R with
 | true=>exact⟨_,_,_,by omega,Nat.le_refl _,by omega,Nat.le_refl _,(h.add hr h6 hk hm).2.2⟩
 | false=>
  rw[Gt.ladd_wrong M S hr]
  exact⟨k,T,[],by omega,by omega,by omega,by omega,by rw[List.append_nil];exact h⟩
def Pcs (p:Wr) (st:List Stand) (l:List (List Int)):Prop:=
 p.pieces.length=l.length∧∀(i:Nat) (x:List Int),l[i]? =some x→∃lo:Lo,p.pieces[i]? =some lo∧lo.f2=(x.length:Int)∧((lo.f0,lo.f1,(⟨1,⟨#[]⟩,p.id,(i:Int),0,[],x⟩:Re)):Stand)∈st
theorem Pcs.mono {p:Wr} (h:Pcs p st l) {st':List Stand} (hs:∀x∈st,x∈st'):Pcs p st' l:=⟨h.1,fun i x hx=>by
 obtain⟨lo,h1,h2,h3⟩:=h.2 i x hx
 exact⟨lo,h1,h2,hs _ h3⟩⟩
theorem Pcs.same {p p':Wr} (h:Pcs p st l) (e1:p'.pieces=p.pieces) (e2:p'.id=p.id):Pcs p' st l:=by
 unfold Pcs
 rw[e1,e2]
 exact h
theorem QI.piece (h:QI lim m q.1 q.2.1 k T st) (hp:Pcs q.2.2 st l) (hid:withinB q.2.2.id 0 1099511627776=true) (hl:l.length≤511) (h1:1≤b.length) (h2:b.length≤4096) (hB:IsBytes b) (hk:k < 1000) (hm:4200*(k+1)+10*(T+(17+b.length))≤m):
  ∃x lo,(pieceM q b).2=0∧QI lim m (pieceM q b).1.1 (pieceM q b).1.2.1 (k+1) (T+(17+b.length)) (st++[x])∧Pcs (pieceM q b).1.2.2 (st++[x]) (l++[b])∧(pieceM q b).1.2.2={q.2.2 with spoilt:=false,pieces:=q.2.2.pieces++[lo]}:=by
 have hpl:=hp.1
 have hr:=piece_right (p:=q.2.2) (b:=b) hid (by omega) h1 h2
 have hlen:=piece_len q.2.2 b hr
 have e17:(Rc.putM (pieceR q.2.2 b)).length+8=17+b.length:=by omega
 have ha:=h.add hr hB hk (by omega)
 rw[e17] at ha
 obtain⟨e1,e2,hq⟩:=ha
 have ew:pieceW q.2.2 b.length (laddM q.1 q.2.1 (pieceR q.2.2 b))={q.2.2 with spoilt:=false,pieces:=q.2.2.pieces++[⟨(laddM q.1 q.2.1 (pieceR q.2.2 b)).2.2.1,(laddM q.1 q.2.1 (pieceR q.2.2 b)).2.2.2.1,b.length⟩]}:=if_pos e1
 refine⟨_,_,e1,hq,?_,ew⟩
 show Pcs (pieceW q.2.2 b.length (laddM q.1 q.2.1 (pieceR q.2.2 b))) _ _
 rw[ew]
 refine⟨by simp [hpl],fun i x hx=>?_⟩
 dsimp only
 rcases Nat.lt_trichotomy i l.length with hi | hi | hi
 ·rw[List.getElem?_append_left hi] at hx
  obtain⟨lo,g1,g2,g3⟩:=hp.2 i x hx
  exact⟨lo,by rw[List.getElem?_append_left (by omega)];exact g1,g2,List.mem_append_left _ g3⟩
 ·subst hi
  rw[List.getElem?_concat_length] at hx
  obtain rfl:=Option.some.inj hx
  refine⟨_,by rw[← hpl,List.getElem?_concat_length],rfl,?_⟩
  rw[← hpl]
  exact List.mem_append_right _ (List.mem_singleton.2 rfl)
 ·rw[List.getElem?_eq_none (by simp;omega)] at hx
  cases hx
theorem QI.each:∀(bs:List (List Int)) (q:St) (k T:Nat) (st:List Stand) (l:List (List Int)),QI lim m q.1 q.2.1 k T st→Pcs q.2.2 st l→withinB q.2.2.id 0 1099511627776=true→q.2.2.spoilt=false→(∀b∈bs,1≤b.length∧b.length≤4096∧IsBytes b)→l.length+bs.length≤512→k+bs.length≤1000→
  4200*(k+bs.length)+10*(T+(17*bs.length+bs.flatten.length))≤m→
  ∃st' ps,(eachM bs q).2=0∧QI lim m (eachM bs q).1.1 (eachM bs q).1.2.1 (k+bs.length) (T+(17*bs.length+bs.flatten.length)) (st++st')∧Pcs (eachM bs q).1.2.2 (st++st') (l++bs)∧(eachM bs q).1.2.2={q.2.2 with pieces:=ps}
 | [],q,k,T,st,l,h,hp,_,_,_,_,_,_=>⟨[],q.2.2.pieces,rfl,by rw[List.append_nil];exact h,by rw[List.append_nil,List.append_nil];exact hp,rfl⟩
 | b::bs,q,k,T,st,l,h,hp,hid,hs,hb,hl,hk,hm=>by
  obtain⟨g1,g2,g3⟩:=hb b (by simp)
  rw[List.length_cons] at hl hk
  rw[List.length_cons,List.flatten_cons,List.length_append] at hm
  obtain⟨x,lo,e1,q1,p1,w1⟩:=h.piece hp hid (by omega) g1 g2 g3 (by omega) (by omega)
  obtain⟨st',ps,e2,q2,p2,w2⟩:=QI.each bs (pieceM q b).1 (k+1) (T+(17+b.length)) (st++[x]) (l++[b]) q1 p1 (by rw[w1];exact hid) (by rw[w1]) (fun y hy=>hb y (by simp [hy])) (by simp;omega) (by omega) (by omega)
  have e:eachM (b::bs) q=eachM bs (pieceM q b).1:=by
   show(if(pieceM q b).2=0 then eachM bs (pieceM q b).1 else pieceM q b)=_
   rw[if_pos e1]
  rw[e]
  refine⟨x::st',ps,e2,?_,?_,?_⟩
  ·rw[List.length_cons,List.flatten_cons,List.length_append,show k+(bs.length+1)=k+1+bs.length by omega,show T+(17*(bs.length+1)+(b.length+bs.flatten.length))=T+(17+b.length)+(17*bs.length+bs.flatten.length) by omega]
   simpa using q2
  ·simpa using p2
  ·rw[w2,w1]
   cases hw:q.2.2
   rw[hw] at hs
   simp only at hs ⊢
   rw[hs]
structure WI (p:Wr) (st:List Stand) (all:List Int) (chs:List (List Int)):Prop where
 cfg:rightC p.c=true
 key:keyB p.key=true
 id:withinB p.id 0 1099511627776=true
 done:p.done=false
 spoilt:p.spoilt=false
 size:p.size=(all.length:Int)
 fit:(all.length:Int)≤p.c.max
 bytes:IsBytes all
 whole:chs.flatten++(p.left++p.held)=all
 each:∀x∈chs,(x.length:Int)=p.c.piece
 pcs:Pcs p st chs
 small:p.size≤p.c.small→chs=[]∧p.left=[]
 big:p.c.small < p.size→p.held=[]∧(p.left.length:Int) < p.c.piece
theorem right_cfg {c:Cfg} (h:rightC c=true):1≤c.piece∧c.piece≤4096∧0≤c.small∧c.small≤4096∧0≤c.max∧c.max≤65536∧c.max≤512*c.piece:=by
 simp only[rightC,withinB,Bool.and_eq_true,decide_eq_true_eq] at h
 omega
theorem WI.new {key:ByteArray} {id:Int} {c:Cfg} (h1:rightC c=true) (h2:keyB key=true) (h3:withinB id 0 1099511627776=true):WI (wr0 key id c) [] [] []:=by
 have:=right_cfg h1
 exact⟨h1,h2,h3,rfl,rfl,rfl,by show((0:Nat):Int)≤c.max;omega,fun x hx=>(by cases hx),rfl,fun x hx=>(by cases hx),⟨rfl,fun i x hx=>by cases hx⟩,fun _=>⟨rfl,rfl⟩,fun h=>(by have h':c.small < 0:=h;omega)⟩
theorem WI.mono {p:Wr} (h:WI p st all chs) (st':List Stand):WI p (st++st') all chs:=⟨h.cfg,h.key,h.id,h.done,h.spoilt,h.size,h.fit,h.bytes,h.whole,h.each,h.pcs.mono fun x hx=>List.mem_append_left _ hx,h.small,h.big⟩
theorem flatZ {k:Int} (l:List (List Int)) (h:∀x∈l,(x.length:Int)=k) (hk:1≤k):(l.flatten.length:Int)=l.length*k:=by
 have h1:=flat_len (k:=k.toNat) l (fun x hx=>by have:=h x hx;omega)
 obtain⟨n,rfl⟩:=Int.eq_ofNat_of_zero_le (show 0≤k by omega)
 rw[Int.toNat_natCast] at h1
 rw[h1]
 push_cast
 rfl
theorem WI.state {p:Wr} (h:WI p st all chs):¬stateM p≠0:=fun e=>e (by unfold stateM;rw[h.done,h.spoilt];rfl)
theorem WI.many {p:Wr} (h:WI p st all chs):chs.length≤512∧chs.flatten.length≤all.length∧(p.left≠[]→chs.length≤511):=by
 have hc:=right_cfg h.cfg
 have h1:=flatZ chs h.each hc.1
 have h2:=congrArg List.length h.whole
 simp only[List.length_append] at h2
 have h3:=h.fit
 have h4:(chs.length:Int)*p.c.piece≤512*p.c.piece:=by omega
 have h5:(chs.length:Int)≤512:=Int.le_of_mul_le_mul_right h4 (by omega)
 refine⟨by omega,by omega,fun hne=>?_⟩
 have h6:1≤p.left.length:=List.length_pos_iff.2 hne
 have h7:(chs.length:Int)*p.c.piece < 512*p.c.piece:=by omega
 have h8:(chs.length:Int) < 512:=Int.lt_of_mul_lt_mul_right h7 (by omega)
 omega
theorem WI.write_no (w:WI q.2.2 st all chs) (b:List Int) (hb:b.length < 4611686018427387904) (h:q.2.2.c.max < all.length+b.length):writeM q b=(q,2):=by
 have hc:=right_cfg w.cfg
 have hft:=w.fit
 have hs:=w.size
 unfold writeM
 rw[if_neg w.state,if_pos]
 unfold wrap64
 omega
theorem WI.write (h:QI lim m q.1 q.2.1 (K+chs.length) (T0+(17*chs.length+chs.flatten.length)) st) (w:WI q.2.2 st all chs) (b:List Int) (hB:IsBytes b) (hf:(all.length:Int)+b.length≤q.2.2.c.max) (hK:K+512≤1000) (hm:4200*(K+512)+10*(T0+(17*512+(all.length+b.length)))≤m):
  ∃st' chs',(writeM q b).2=0∧QI lim m (writeM q b).1.1 (writeM q b).1.2.1 (K+chs'.length) (T0+(17*chs'.length+chs'.flatten.length)) (st++st')∧WI (writeM q b).1.2.2 (st++st') (all++b) chs'∧(writeM q b).1.2.2.key=q.2.2.key∧(writeM q b).1.2.2.id=q.2.2.id∧(writeM q b).1.2.2.c=q.2.2.c:=by
 have hc:=right_cfg w.cfg
 have hs:=w.size
 have hsz:wrap64 (q.2.2.size+b.length)=((all++b).length:Int):=by
  rw[List.length_append];unfold wrap64;omega
 unfold writeM
 rw[if_neg w.state,if_neg (by unfold wrap64;omega)]
 by_cases hsm:(heldIn q.2.2 b).size≤q.2.2.c.small
 ·rw[if_pos hsm]
  have hsm':wrap64 (q.2.2.size+b.length)≤q.2.2.c.small:=hsm
  rw[hsz,List.length_append] at hsm'
  obtain⟨e1,e2⟩:=w.small (by omega)
  subst e1
  refine⟨[],[],rfl,by rw[List.append_nil];exact h,⟨w.cfg,w.key,w.id,w.done,w.spoilt,hsz,by rw[List.length_append];show _≤q.2.2.c.max;omega,bytes_cat.2 ⟨w.bytes,hB⟩,?_,fun x hx=>(by cases hx),by rw[List.append_nil];exact w.pcs.same rfl rfl,fun _=>⟨rfl,e2⟩,fun hbig=>?_⟩,rfl,rfl,rfl⟩
  ·show [].flatten++(q.2.2.left++(q.2.2.held++b))=all++b
   rw[← w.whole]
   simp only[List.append_assoc]
  ·exact absurd hbig (by show ¬q.2.2.c.small < wrap64 (q.2.2.size+b.length);rw[hsz,List.length_append];omega)
 ·rw[if_neg hsm]
  have hsm':¬wrap64 (q.2.2.size+b.length)≤q.2.2.c.small:=hsm
  rw[hsz] at hsm'
  obtain⟨s1,s2,s3⟩:=cutW_spec (k:=q.2.2.c.piece) hc.1 (q.2.2.left++(q.2.2.held++b))
  generalize hcw:cutW q.2.2.c.piece (q.2.2.left++(q.2.2.held++b))=cw at s1 s2 s3 ⊢
  have hwhole:(chs++cw.1).flatten++cw.2=all++b:=by
   rw[List.flatten_append,List.append_assoc,s1,← w.whole]
   simp only[List.append_assoc]
  have heach:∀x∈chs++cw.1,(x.length:Int)=q.2.2.c.piece:=fun x hx=>(List.mem_append.1 hx).elim (w.each x) (s2 x)
  have hfl:=flatZ (chs++cw.1) heach hc.1
  have hle:=congrArg List.length hwhole
  rw[List.length_append,List.length_append] at hle
  have h4:((chs++cw.1).length:Int)*q.2.2.c.piece≤512*q.2.2.c.piece:=by omega
  have h5:((chs++cw.1).length:Int)≤512:=Int.le_of_mul_le_mul_right h4 (by omega)
  rw[List.length_append] at h5
  have hBall:IsBytes (all++b):=bytes_cat.2 ⟨w.bytes,hB⟩
  have hfb:∀x∈cw.1,IsBytes x:=fun x hx=>by
   rw[← hwhole] at hBall
   have h6:=(bytes_cat.1 hBall).1
   exact fun z hz=>h6 z (List.mem_flatten.2 ⟨x,List.mem_append_right _ hx,hz⟩)
  have hfl2:(chs++cw.1).flatten.length=chs.flatten.length+cw.1.flatten.length:=by rw[List.flatten_append,List.length_append]
  obtain⟨st',ps,e2,q2,p2,w2⟩:=QI.each (lim:=lim) (m:=m) cw.1 (q.1,q.2.1,cutIn (heldIn q.2.2 b) (q.2.2.held++b)) (K+chs.length) (T0+(17*chs.length+chs.flatten.length)) st chs h (w.pcs.same rfl rfl) w.id w.spoilt (fun x hx=>⟨by have:=s2 x hx;omega,by have:=s2 x hx;omega,hfb x hx⟩) (by omega) (by omega) (by omega)
  generalize eachM cw.1 (q.1,q.2.1,cutIn (heldIn q.2.2 b) (q.2.2.held++b))=r at e2 q2 p2 w2 ⊢
  refine⟨st',chs++cw.1,e2,?_,?_,by rw[w2];rfl,by rw[w2];rfl,by rw[w2];rfl⟩
  ·rw[List.length_append,hfl2,show K+(chs.length+cw.1.length)=K+chs.length+cw.1.length by omega,show T0+(17*(chs.length+cw.1.length)+(chs.flatten.length+cw.1.flatten.length))=T0+(17*chs.length+chs.flatten.length)+(17*cw.1.length+cw.1.flatten.length) by omega]
   exact q2
  ·have hleft:r.1.2.2.left=cw.2:=by rw[w2];show(cutW q.2.2.c.piece (q.2.2.left++(q.2.2.held++b))).2=_;rw[hcw]
   have hheld:r.1.2.2.held=[]:=by rw[w2];rfl
   have hcc:r.1.2.2.c=q.2.2.c:=by rw[w2];rfl
   have hss:r.1.2.2.size=((all++b).length:Int):=by rw[w2];exact hsz
   refine⟨by rw[hcc];exact w.cfg,by rw[w2];exact w.key,by rw[w2];exact w.id,by rw[w2];exact w.done,by rw[w2];exact w.spoilt,hss,by rw[hcc,List.length_append];omega,hBall,?_,by rw[hcc];exact heach,p2,fun hh=>?_,fun _=>⟨hheld,by rw[hleft,hcc];exact s3⟩⟩
   ·rw[hleft,hheld,List.append_nil];exact hwhole
   ·rw[hss,hcc] at hh
    exact absurd hh hsm'
theorem locs_sum:∀(l:List Lo) (a:Int),0≤a→a+4096*l.length≤4611686018427387904→(∀x∈l,Rc.locFine x=true)→Rc.locsM l a=some (a+(l.map (·.f2)).sum)
 | [],a,_,_,_=>by simp [Rc.locsM]
 | x::l,a,h0,h1,h2=>by
  have hf:=h2 x (by simp)
  have hx:=Rc.locFine_iff hf
  rw[Rc.locsM_cons,if_pos hf]
  rw[List.length_cons] at h1
  have e:wrap64 (a+x.f2)=a+x.f2:=by unfold wrap64;omega
  rw[e,locs_sum l (a+x.f2) (by omega) (by push_cast at h1;omega) (fun y hy=>h2 y (by simp [hy]))]
  simp only[List.map_cons,List.sum_cons]
  congr 1
  omega
theorem Pcs.sum {p:Wr} (h:Pcs p st l):(p.pieces.map (·.f2)).sum=(l.flatten.length:Int):=by
 have e:p.pieces.map (·.f2)=l.map fun x=>(x.length:Int):=by
  apply List.ext_getElem?
  intro i
  rw[List.getElem?_map,List.getElem?_map]
  cases hl:l[i]? with
  | none=>rw[List.getElem?_eq_none (by rw[h.1];exact List.getElem?_eq_none_iff.1 hl)];rfl
  | some x=>
   obtain⟨lo,g1,g2,_⟩:=h.2 i x hl
   rw[g1,Option.map_some,Option.map_some,g2]
 rw[e]
 clear e h
 induction l with
 | nil=>rfl
 | cons x l ih=>rw[List.map_cons,List.sum_cons,ih,List.flatten_cons,List.length_append];omega
theorem stand_at {M:DiskM} {S:LogS} (h:TI lim M S st) {x:Stand} (hx:x∈st):0≤x.1∧x.1≤99999999∧0≤x.2.1∧x.2.1≤67108864:=by
 obtain⟨g1,g2,g3,p,r,g4,g5⟩:=h.stand x hx
 have h1:=h.rng _ g1
 have h2:Dk.sizeM (Th.hush M) (Sg.segN x.1)=_:=h.calm.sees.sizeM
 rw[g4,Option.getD_some,List.length_append,List.length_append] at h2
 have h3:Dk.sizeM M (Sg.segN x.1)=_:=h2
 have h4:=(h.calm.fit.sizeM (Sg.segN x.1)).2
 omega
theorem ba_refl (s:ByteArray):(s==s)=true:=by
 show(s.data==s.data)=true
 exact beq_self_eq_true s.data
theorem root_ok {p:Wr} (hf:∀y∈p.pieces,Rc.locFine y=true) (hl:p.pieces.length≤512) (hsm:(p.pieces.map (·.f2)).sum=p.size) (hk:keyB p.key=true) (hid:withinB p.id 0 1099511627776=true) (h1:1≤p.size) (h2:p.size≤65536):Rc.rightM (rootR p)=true:=by
 have hsum:=locs_sum p.pieces 0 (Int.le_refl _) (by omega) hf
 rw[hsm,Int.zero_add] at hsum
 have hb:Rc.bareM (rootR p) (Rc.hasM 2 (rootR p))=true:=by
  show((p.key==p.key) && ((p.id==p.id) && (((0:Int)==0) && ((p.size==p.size) && ((p.pieces.length==p.pieces.length) && (([]:List Int).length==([]:List Int).length))))))=true
  rw[ba_refl]
  simp
 have hfine:Rc.fineM (rootR p)=true:=by
  show Rc.rootFineM (rootR p)=true
  unfold Rc.rootFineM
  show(match Rc.locsM p.pieces 0 with | none=>false | some s=>keyB p.key && (decide (p.pieces.length≤512) && ((s==p.size) && withinB s 1 65536)))=true
  rw[hsum]
  simp only[withinB,hk,beq_self_eq_true,decide_eq_true h1,decide_eq_true h2,decide_eq_true hl,Bool.and_true]
 show(Rc.isKind 2 && (withinB p.id 0 1099511627776 && (Rc.bareM (rootR p) (Rc.hasM 2 (rootR p)) && Rc.fineM (rootR p))))=true
 rw[hid,hb,hfine]
 rfl
theorem root_right {M:DiskM} {S:LogS} {p:Wr} (ht:TI lim M S st) (hp:Pcs p st l) (hk:keyB p.key=true) (hid:withinB p.id 0 1099511627776=true) (hl:l.length≤512) (hx:∀x∈l,1≤x.length∧x.length≤4096) (hs:p.size=(l.flatten.length:Int)) (h1:1≤p.size) (h2:p.size≤65536):Rc.rightM (rootR p)=true:=by
 have hf:∀y∈p.pieces,Rc.locFine y=true:=by
  intro y hy
  obtain⟨i,hi,rfl⟩:=List.getElem_of_mem hy
  have hil:i < l.length:=by rw[← hp.1];exact hi
  obtain⟨lo,g1,g2,g3⟩:=hp.2 i _ (List.getElem?_eq_getElem hil)
  rw[List.getElem?_eq_getElem hi] at g1
  obtain rfl:=Option.some.inj g1
  have h3:=stand_at ht g3
  have h4:=hx _ (List.getElem_mem hil)
  simp only[Rc.locFine,withinB,Bool.and_eq_true,decide_eq_true_eq]
  dsimp only at h3
  omega
 exact root_ok hf (by rw[hp.1];exact hl) (by rw[hp.sum,hs]) hk hid h1 h2
theorem inline_right {p:Wr} (hk:keyB p.key=true) (hl:p.held.length≤4096):Rc.rightM (inlineR p)=true:=by
 have hb:Rc.bareM (inlineR p) (Rc.hasM 3 (inlineR p))=true:=by
  show((p.key==p.key) && (((0:Int)==0) && (((0:Int)==0) && (((0:Int)==0) && ((([]:List Lo).length==([]:List Lo).length) && (p.held.length==p.held.length))))))=true
  rw[ba_refl]
  simp
 show(Rc.isKind 3 && (withinB 0 0 1099511627776 && (Rc.bareM (inlineR p) (Rc.hasM 3 (inlineR p)) && (keyB p.key && decide (p.held.length≤4096)))))=true
 rw[hb,hk,decide_eq_true hl]
 rfl
def Done (p:Wr) (pl:Pl) (st:List Stand) (all:List Int):Prop:=
 pl.key=p.key∧(((all.length:Int)≤p.c.small∧pl.kind=3∧((pl.seg,pl.at_,(⟨3,p.key,0,0,0,[],all⟩:Re)):Stand)∈st)∨
  (p.c.small < all.length∧pl.kind=2∧∃l,l.flatten=all∧l.length≤512∧Pcs p st l∧((pl.seg,pl.at_,(⟨2,p.key,p.id,0,(all.length:Int),p.pieces,[]⟩:Re)):Stand)∈st))
theorem WI.commit (h:QI lim m q.1 q.2.1 (K+chs.length) (T0+(17*chs.length+chs.flatten.length)) st) (w:WI q.2.2 st all chs) (hK:K+513≤1000) (hm:4200*(K+514)+10*(T0+(17*513+(all.length+5308)))≤m):
  ∃st' k' T',(commitM q).2.2=0∧QI lim m (commitM q).1.1 (commitM q).1.2.1 k' T' (st++st')∧Done (commitM q).1.2.2 (commitM q).2.1 (st++st') all∧(commitM q).1.2.2.key=q.2.2.key∧(commitM q).1.2.2.c=q.2.2.c∧(commitM q).1.2.2.size=q.2.2.size∧(commitM q).1.2.2.spoilt=false:=by
 have hc:=right_cfg w.cfg
 have hs:=w.size
 have hmany:=w.many
 have hfit:=w.fit
 have hend:∀(p:Wr) (M:DiskM) (S:LogS) (k T:Nat) (st1:List Stand) (R:Re),QI lim m M S k T (st++st1)→Rc.rightM R=true→IsBytes R.f6→k < 1000→4200*(k+1)+10*(T+5308)≤m→
   ∃st' k' T',(commitEnd p R (laddM M S R)).2.2=0∧QI lim m (commitEnd p R (laddM M S R)).1.1 (commitEnd p R (laddM M S R)).1.2.1 k' T' (st++st')∧(∀x∈st++st1,x∈st++st')∧(((commitEnd p R (laddM M S R)).2.1.seg,(commitEnd p R (laddM M S R)).2.1.at_,R):Stand)∈st++st'∧
    (commitEnd p R (laddM M S R)).2.1.key=p.key∧(commitEnd p R (laddM M S R)).2.1.kind=R.f0∧(commitEnd p R (laddM M S R)).1.2.2={p with spoilt:=false,done:=true}:=by
  intro p M S k T st1 R hq hr h6 hk hmm
  obtain⟨z1,z2,z3,z4⟩:=put_size hr
  obtain⟨e1,e2,hq2⟩:=hq.add hr h6 hk (by omega)
  unfold commitEnd
  rw[if_pos e1]
  exact⟨st1++[((laddM M S R).2.2.1,(laddM M S R).2.2.2.1,R)],_,_,rfl,by rw[← List.append_assoc];exact hq2,fun x hx=>by rw[← List.append_assoc];exact List.mem_append_left _ hx,by rw[← List.append_assoc];exact List.mem_append_right _ (List.mem_singleton.2 rfl),rfl,rfl,rfl⟩
 unfold commitM
 rw[if_neg w.state]
 unfold recM
 by_cases hsm:q.2.2.size≤q.2.2.c.small
 ·rw[if_pos hsm]
  obtain⟨e1,e2⟩:=w.small hsm
  have hheld:q.2.2.held=all:=by
   have:=w.whole
   rw[e1,e2] at this
   exact this
  have hhl:q.2.2.held.length≤4096:=by rw[hheld];omega
  unfold commitR
  dsimp only
  rw[if_pos rfl]
  obtain⟨st',k',T',g1,g2,g3,g4,g5,g6,g7⟩:=hend q.2.2 q.1 q.2.1 _ _ [] (inlineR q.2.2) (by rw[List.append_nil];exact h) (inline_right w.key hhl) (by show IsBytes q.2.2.held;rw[hheld];exact w.bytes) (by omega) (by omega)
  generalize commitEnd q.2.2 (inlineR q.2.2) (laddM q.1 q.2.1 (inlineR q.2.2))=r at *
  refine⟨st',k',T',g1,g2,⟨by rw[g5,g7],.inl ⟨by rw[g7];show _≤q.2.2.c.small;omega,g6,?_⟩⟩,by rw[g7],by rw[g7],by rw[g7],by rw[g7]⟩
  rw[g7,← hheld]
  exact g4
 ·rw[if_neg hsm]
  obtain⟨b1,b2⟩:=w.big (by omega)
  have hwh:=w.whole
  rw[b1,List.append_nil] at hwh
  have hlen:=congrArg List.length hwh
  rw[List.length_append] at hlen
  have hcl:∀x∈chs,1≤x.length∧x.length≤4096:=fun x hx=>by have:=w.each x hx;omega
  by_cases hle:q.2.2.left=[]
  ·rw[if_pos hle]
   unfold commitR
   dsimp only
   rw[if_pos rfl]
   rw[hle,List.append_nil] at hwh
   have hr:=root_right h.ti w.pcs w.key w.id hmany.1 hcl (by rw[hwh];exact hs) (by omega) (by omega)
   obtain⟨st',k',T',g1,g2,g3,g4,g5,g6,g7⟩:=hend q.2.2 q.1 q.2.1 _ _ [] (rootR q.2.2) (by rw[List.append_nil];exact h) hr (fun x hx=>by cases hx) (by omega) (by omega)
   rw[List.append_nil] at g3
   generalize commitEnd q.2.2 (rootR q.2.2) (laddM q.1 q.2.1 (rootR q.2.2))=r at *
   refine⟨st',k',T',g1,g2,⟨by rw[g5,g7],.inr ⟨by rw[g7];show q.2.2.c.small < _;omega,g6,chs,hwh,hmany.1,?_,?_⟩⟩,by rw[g7],by rw[g7],by rw[g7],by rw[g7]⟩
   ·rw[g7];exact(w.pcs.mono g3).same rfl rfl
   ·rw[g7,← hs]
    exact g4
  ·rw[if_neg hle]
   have hle1:1≤q.2.2.left.length:=List.length_pos_iff.2 hle
   have hbl:IsBytes q.2.2.left:=by
    have:=w.bytes
    rw[← hwh] at this
    exact(bytes_cat.1 this).2
   obtain⟨x,lo,e1,q1,p1,w1⟩:=QI.piece (q:=(q.1,q.2.1,{q.2.2 with left:=[]})) (b:=q.2.2.left) h (w.pcs.same rfl rfl) w.id (hmany.2.2 hle) hle1 (by omega) hbl (by omega) (by omega)
   generalize pieceM (q.1,q.2.1,{q.2.2 with left:=[]}) q.2.2.left=r1 at e1 q1 p1 w1 ⊢
   rw[if_pos e1]
   unfold commitR
   dsimp only
   rw[if_pos rfl]
   have hfl:(chs++[q.2.2.left]).flatten=all:=by rw[List.flatten_append,List.flatten_cons,List.flatten_nil,List.append_nil];exact hwh
   have hr:=root_right (p:=r1.1.2.2) q1.ti p1 (by rw[w1];exact w.key) (by rw[w1];exact w.id) (by have:=hmany.2.2 hle;simp;omega) (fun y hy=>by
    rcases List.mem_append.1 hy with hy | hy
    ·exact hcl y hy
    ·rw[List.mem_singleton.1 hy];omega) (by rw[w1,hfl];exact hs) (by rw[w1];show 1≤q.2.2.size;omega) (by rw[w1];show q.2.2.size≤65536;omega)
   obtain⟨st',k',T',g1,g2,g3,g4,g5,g6,g7⟩:=hend r1.1.2.2 r1.1.1 r1.1.2.1 _ _ [x] (rootR r1.1.2.2) q1 hr (fun x hx=>by cases hx) (by have:=hmany.2.2 hle;omega) (by omega)
   generalize commitEnd r1.1.2.2 (rootR r1.1.2.2) (laddM r1.1.1 r1.1.2.1 (rootR r1.1.2.2))=r at *
   have hcc:r.1.2.2.c=q.2.2.c:=by rw[g7,w1]
   have hkk:r.1.2.2.key=q.2.2.key:=by rw[g7,w1]
   refine⟨st',k',T',g1,g2,⟨by rw[g5,g7],.inr ⟨by rw[hcc];omega,g6,chs++[q.2.2.left],hfl,by have:=hmany.2.2 hle;simp;omega,?_,?_⟩⟩,hkk,hcc,by rw[g7,w1],by rw[g7]⟩
   ·rw[g7];exact(p1.mono g3).same rfl rfl
   ·have e5:r1.1.2.2.size=(all.length:Int):=by rw[w1];exact hs
    rw[g7,← e5]
    exact g4
end Pu
end
section
namespace Pu
open Go.Maps Fr Ext Pt Dk Lg
open Rc (Re Lo withinB keyB zeroR)
open Th (TI Stand addAll)
variable {lim m:Int} {q:St}
end Pu
end
section
namespace Pu
open Go.Maps Fr Ext Pt Dk Lg
open Rc (Re Lo withinB keyB zeroR)
open Th (TI Stand addAll)
open Gt (put_size)
variable {lim m:Int} {q:St} {k T K T0:Nat} {st:List Stand} {l bs chs:List (List Int)} {b all:List Int}
theorem putM_cost {R:Re} (h:Rc.rightM R=true):(Rc.putM R).length+8≤60+R.f1.size+10*R.f5.length+R.f6.length:=by
 unfold Rc.putM
 rw[if_pos h,List.length_cons]
 unfold Rc.toM
 obtain⟨hk,_⟩:=Rc.right_bounds h
 rcases Rc.isKind_cases hk with e | e | e | e
 ·rw[if_pos e]
  simp only[List.length_append,Rc.numB_length]
  omega
 ·rw[if_neg (by omega),if_pos e,List.length_append,Rc.rootB_length,Rc.locsB_length]
  omega
 ·rw[if_neg (by omega),if_neg (by omega),if_pos e]
  simp only[List.length_append,Rc.numB_length,bytesOf_length]
  omega
 ·rw[if_neg (by omega),if_neg (by omega),if_neg (by omega),bytesOf_length]
  omega
theorem QI.new (x:Int) (lim:Int) (hl:0≤(newM x).d.most):QI lim (newM x).d.most (newM x) ⟨lim,⟨[],1⟩,-1⟩ 0 0 []:=by
 refine⟨⟨_,_,_,PI.new x lim⟩,⟨Fit.new x,fun s t i h=>(by rw[show Dk.look (newM x).D s=none from rfl] at h;cases h),rfl,rfl⟩,rfl,show(1:Int)≤1∧(1:Int)≤100000000 by decide,Nat.zero_le _,fun n hn=>(by cases hn),.inl (show(-1:Int) < 0 by decide),fun x hx=>(by cases hx),List.Pairwise.nil⟩
theorem Done.reads {M:DiskM} {S:LogS} {p:Wr} {pl:Pl} (h:Done p pl st all) (ht:TI lim M S st):
  ((all.length:Int)≤p.c.small∧pl.kind=3∧getLM M S pl.seg pl.at_=((⟨3,p.key,0,0,0,[],all⟩:Re),0))∨
   (p.c.small < all.length∧pl.kind=2∧getLM M S pl.seg pl.at_=((⟨2,p.key,p.id,0,(all.length:Int),p.pieces,[]⟩:Re),0)∧∃l:List (List Int),l.flatten=all∧p.pieces.length=l.length∧l.length≤512∧∀(i:Nat) (x:List Int),l[i]? =some x→∃lo:Lo,p.pieces[i]? =some lo∧lo.f2=(x.length:Int)∧getLM M S lo.f0 lo.f1=((⟨1,⟨#[]⟩,p.id,(i:Int),0,[],x⟩:Re),0)):=by
 rcases h.2 with⟨h1,h2,h3⟩ | ⟨h1,h2,l,h3,h4,h5,h6⟩
 ·exact .inl ⟨h1,h2,ht.get _ h3⟩
 ·refine .inr ⟨h1,h2,ht.get _ h6,l,h3,h5.1,h4,fun i x hx=>?_⟩
  obtain⟨lo,g1,g2,g3⟩:=h5.2 i x hx
  exact⟨lo,g1,g2,ht.get _ g3⟩
abbrev OpA:=Int×List Int×Re
def costA (o:OpA):Nat:=o.2.1.length+(o.2.2.f6.length+(o.2.2.f1.size+10*o.2.2.f5.length))
abbrev StA:=St×List Int
def stepA (o:OpA) (s:StA):StA:=
 if o.1=4 then(((laddM s.1.1 s.1.2.1 o.2.2).1,(laddM s.1.1 s.1.2.1 o.2.2).2.1,s.1.2.2),s.2)
 else if o.1 < 3 then((writeM s.1 o.2.1).1,if(writeM s.1 o.2.1).2=0 then s.2++o.2.1 else s.2)
 else s
structure AI (key:ByteArray) (c:Cfg) (s:StA) (i C:Nat):Prop where
 ex:∃K T0 st chs,QI 4096 16777216 s.1.1 s.1.2.1 (K+chs.length) (T0+(17*chs.length+chs.flatten.length)) st∧WI s.1.2.2 st s.2 chs∧K≤i∧T0≤60*i+C
 len:s.2.length≤C
 key:s.1.2.2.key=key
 c:s.1.2.2.c=c
theorem AI.step {key:ByteArray} {c:Cfg} {s:StA} {i C:Nat} (h:AI key c s i C) (o:OpA) (hB:IsBytes o.2.1) (h6:IsBytes o.2.2.f6) (hi:i < 100) (hC:C+costA o≤20000):
  AI key c (stepA o s) (i+1) (C+costA o)∧(o.1≠4→o.1 < 3→(writeM s.1 o.2.1).2≠0→(writeM s.1 o.2.1).2=2∧c.max < s.2.length+o.2.1.length):=by
 obtain⟨K,T0,st,chs,hq,hw,hK,hT⟩:=h.ex
 have hl:=h.len
 have hm:=hw.many
 unfold costA at *
 have hc:=h.c
 have hk:=h.key
 unfold stepA
 by_cases h4:o.1=4
 ·rw[if_pos h4]
  refine⟨⟨?_,by dsimp only;omega,hk,hc⟩,fun e=>absurd h4 e⟩
  dsimp only
  cases hr:Rc.rightM o.2.2 with
  | true=>
   have hcost:=putM_cost hr
   obtain⟨k',T',st',g1,g2,g3,g4,g5⟩:=hq.add_any o.2.2 h6 (by omega) (by omega)
   refine⟨k' - chs.length,T' - (17*chs.length+chs.flatten.length),st++st',chs,?_,hw.mono st',by omega,by omega⟩
   rw[show k' - chs.length+chs.length=k' by omega,show T' - (17*chs.length+chs.flatten.length)+(17*chs.length+chs.flatten.length)=T' by omega]
   exact g5
  | false=>
   rw[Gt.ladd_wrong s.1.1 s.1.2.1 hr]
   exact⟨K,T0,st,chs,hq,hw,by omega,by omega⟩
 ·rw[if_neg h4]
  by_cases h3:o.1 < 3
  ·rw[if_pos h3]
   by_cases hf:(s.2.length:Int)+o.2.1.length≤c.max
   ·obtain⟨st',chs',g1,g2,g3,g4,g5,g6⟩:=WI.write hq hw o.2.1 hB (by rw[hc];exact hf) (by omega) (by omega)
    rw[if_pos g1]
    exact⟨⟨⟨K,T0,_,chs',g2,g3,by omega,by omega⟩,by dsimp only;rw[List.length_append];omega,by dsimp only;rw[g4];exact hk,by dsimp only;rw[g6];exact hc⟩,fun _ _ e=>absurd g1 e⟩
   ·have hno:=hw.write_no o.2.1 (by omega) (by rw[hc];omega)
    rw[hno,if_neg (show ¬(2:Int)=0 by decide)]
    exact⟨⟨⟨K,T0,st,chs,hq,hw,by omega,by omega⟩,by dsimp only;omega,hk,hc⟩,fun _ _ _=>⟨rfl,by omega⟩⟩
  ·rw[if_neg h3]
   exact⟨⟨⟨K,T0,st,chs,hq,hw,by omega,by omega⟩,by omega,hk,hc⟩,fun _ e=>absurd e h3⟩
def runA (s:StA):List OpA→StA:=List.foldl (fun s o=>stepA o s) s
theorem runA_snoc (s:StA) (l:List OpA) (o:OpA):runA s (l++[o])=stepA o (runA s l):=by unfold runA;rw[List.foldl_append];rfl
def costs (l:List OpA):Nat:=(l.map costA).sum
theorem AI.of {key:ByteArray} {c:Cfg} {s0:StA} (h0:AI key c s0 0 0) (l:List OpA) (hB:∀o∈l,IsBytes o.2.1∧IsBytes o.2.2.f6) (h1:l.length≤100) (h2:costs l≤20000):∀i,i≤l.length→AI key c (runA s0 (l.take i)) i (costs (l.take i))
 | 0,_=>h0
 | i+1,hi=>by
  have h:=AI.of h0 l hB h1 h2 i (by omega)
  have hg:=hB _ (List.getElem_mem (show i < l.length by omega))
  have e:costs (l.take (i+1))=costs (l.take i)+costA l[i]:=by
   unfold costs
   rw[List.take_succ_eq_append_getElem (by omega),List.map_append,List.sum_append]
   simp
  have e2:costs (l.take (i+1))≤costs l:=by
   unfold costs
   conv=>rhs;rw[← List.take_append_drop (i+1) l,List.map_append,List.sum_append]
   omega
  rw[e,List.take_succ_eq_append_getElem (by omega),runA_snoc]
  exact(h.step _ hg.1 hg.2 (by omega) (by omega)).1
theorem AI.new {key:ByteArray} {id:Int} {c:Cfg} (h1:rightC c=true) (h2:keyB key=true) (h3:withinB id 0 1099511627776=true):AI key c ((newM 16777216,⟨4096,⟨[],1⟩,-1⟩,wr0 key id c),[]) 0 0:=
 ⟨⟨0,0,[],[],QI.new 16777216 4096 (by decide),WI.new h1 h2 h3,Nat.le_refl _,Nat.le_refl _⟩,Nat.le_refl _,rfl,rfl⟩
theorem AI.commit {key:ByteArray} {c:Cfg} {s:StA} {i C:Nat} (h:AI key c s i C) (hi:i≤100) (hC:C≤20000):
  ∃st',(commitM s.1).2.2=0∧TI 4096 (commitM s.1).1.1 (commitM s.1).1.2.1 st'∧Done (commitM s.1).1.2.2 (commitM s.1).2.1 st' s.2∧(commitM s.1).1.2.2.key=key∧(commitM s.1).1.2.2.c=c∧(commitM s.1).1.2.2.size=(s.2.length:Int):=by
 obtain⟨K,T0,st,chs,hq,hw,hK,hT⟩:=h.ex
 have hl:=h.len
 obtain⟨st',k',T',g1,g2,g3,g4,g5,g6,g7⟩:=WI.commit hq hw (by omega) (by omega)
 exact⟨st++st',g1,g2.ti,g3,by rw[g4,h.key],by rw[g5,h.c],by rw[g6,hw.size]⟩
theorem two (x:Int) (lim:Int) {key:ByteArray} {id:Int} {c:Cfg} (h1:rightC c=true) (h2:keyB key=true) (h3:withinB id 0 1099511627776=true) (hm:(newM x).d.most=4194304) (b1 b2:List Int) (hB1:IsBytes b1) (hB2:IsBytes b2) (hl1:b1.length≤70000) (hl2:b2.length≤70000):
  ∃q1 e1 q2 e2,writeM (newM x,⟨lim,⟨[],1⟩,-1⟩,wr0 key id c) b1=(q1,e1)∧writeM q1 b2=(q2,e2)∧q1.2.2.spoilt=false∧q2.2.2.spoilt=false∧
   (((b1.length:Int)≤c.max∧e1=0∧q1.2.2.size=(b1.length:Int))∨(c.max < b1.length∧e1=2∧q1.2.2.size=0))∧q1.2.2.c=c∧0≤q1.2.2.size∧q1.2.2.size≤c.max∧
   (((b2.length:Int)≤c.max - q1.2.2.size∧e2=0)∨(c.max - q1.2.2.size < b2.length∧e2=2∧q2.2.2.size=q1.2.2.size)):=by
 have hcf:=right_cfg h1
 have hq0:=QI.new x lim (by rw[hm];decide)
 rw[hm] at hq0
 have hw0:=WI.new h1 h2 h3
 have key2:∀(q:St) (st:List Stand) (all:List Int) (chs:List (List Int)),QI lim 4194304 q.1 q.2.1 (0+chs.length) (0+(17*chs.length+chs.flatten.length)) st→WI q.2.2 st all chs→q.2.2.c=c→∀b:List Int,IsBytes b→b.length≤70000→
   ∃q' e st' all' chs',writeM q b=(q',e)∧QI lim 4194304 q'.1 q'.2.1 (0+chs'.length) (0+(17*chs'.length+chs'.flatten.length)) st'∧WI q'.2.2 st' all' chs'∧q'.2.2.c=c∧((((b.length:Int)≤c.max - all.length)∧e=0∧all'=all++b)∨(c.max - all.length < b.length∧e=2∧all'=all)):=by
  intro q st all chs hq hw hc b hB hl
  have hfit:=hw.fit
  rw[hc] at hfit
  by_cases hf:(b.length:Int)≤c.max - all.length
  ·obtain⟨st',chs',g1,g2,g3,g4,g5,g6⟩:=WI.write (K:=0) (T0:=0) hq hw b hB (by rw[hc];omega) (by omega) (by omega)
   generalize writeM q b=r at *
   exact⟨r.1,r.2,_,_,_,rfl,g2,g3,by rw[g6,hc],.inl ⟨hf,g1,rfl⟩⟩
  ·have hno:=hw.write_no b (by omega) (by rw[hc];omega)
   exact⟨q,2,st,all,chs,hno,hq,hw,hc,.inr ⟨by omega,rfl,rfl⟩⟩
 obtain⟨q1,e1,st1,all1,chs1,w1,hq1,hw1,hc1,r1⟩:=key2 (newM x,⟨lim,⟨[],1⟩,-1⟩,wr0 key id c) [] [] [] hq0 hw0 rfl b1 hB1 hl1
 obtain⟨q2,e2,st2,all2,chs2,w2,hq2,hw2,hc2,r2⟩:=key2 q1 st1 all1 chs1 hq1 hw1 hc1 b2 hB2 hl2
 have s1:=hw1.size
 have s2:=hw2.size
 have f1:=hw1.fit
 rw[hc1] at f1
 refine⟨q1,e1,q2,e2,w1,w2,hw1.spoilt,hw2.spoilt,?_,hc1,by omega,by omega,?_⟩
 ·rcases r1 with⟨a1,a2,a3⟩ | ⟨a1,a2,a3⟩
  ·subst a3
   simp only[List.length_nil,List.nil_append] at a1 s1
   exact .inl ⟨by omega,a2,s1⟩
  ·subst a3
   simp only[List.length_nil] at a1 s1
   exact .inr ⟨by omega,a2,s1⟩
 ·rcases r2 with⟨a1,a2,a3⟩ | ⟨a1,a2,a3⟩
  ·exact .inl ⟨by omega,a2⟩
  ·exact .inr ⟨by omega,a2,by rw[s2,a3,s1]⟩
end Pu
end
end Go.Proofs.YtcieieacfoaklaaGreat
section
namespace Go.Proofs.YtcieieacfoaklaaGreat.Pw
open Go.RowKit Go.Maps Fr Ext Go.Proofs.YtcieieacfoaklaaGreat.Nm Dk Mn Lg Pu YtcieieacfoaklaaGreatW.PrintWords YtcieieacfoaklaaGreatW.PrintLast
open Rc (Re Lo zeroR recC keyB withinB)
abbrev keyK:ByteArray:=⟨#[107]⟩
abbrev cfg1:Cfg:=⟨4,6,200,128,4⟩
def he0:St:=(newM 10000,⟨128,⟨[],1⟩,-1⟩,wr0 keyK 7 cfg1)
def heB1:List Int:=[97,98,99,100,101,102]
def heB2:List Int:=[103,104,105]
def heB3:List Int:=List.replicate 192 0
def he1:St:=(writeM he0 heB1).1
def he2:St:=(writeM he1 heB2).1
def he3:St:=(commitM he2).1
theorem he_right:rightC cfg1=true:=by decide
theorem he_key:keyB keyK=true:=by decide+kernel
theorem he_w1:(writeM he0 heB1).2=0∧(locsW he1.2.2).length=0:=by decide+kernel
theorem he_w2:(writeM he1 heB2).2=0∧(locsW he2.2.2).length=2:=by decide+kernel
theorem he_w3:stateM he2.2.2=0∧(heB3.length:Int) > wrap64 (he2.2.2.c.max - he2.2.2.size):=by decide+kernel
theorem he_c1:(commitM he2).2.2=0:=by decide+kernel
theorem he_c2:stateM he3.2.2=3∧he3.2.2.size=9∧he3.2.2.spoilt=false:=by decide+kernel
theorem he_get:(getLM he3.1 he3.2.1 (commitM he2).2.1.seg (commitM he2).2.1.at_).2=0∧(getLM he3.1 he3.2.1 (commitM he2).2.1.seg (commitM he2).2.1.at_).1.f0=2∧(getLM he3.1 he3.2.1 (commitM he2).2.1.seg (commitM he2).2.1.at_).1.f4=9∧(getLM he3.1 he3.2.1 (commitM he2).2.1.seg (commitM he2).2.1.at_).1.f5.length=3∧((getLM he3.1 he3.2.1 (commitM he2).2.1.seg (commitM he2).2.1.at_).1.f5[2]?.map (·.f2))=some 1:=by decide+kernel
theorem he_no1:newW ⟨#[]⟩ 7 cfg1=none:=if_neg (fun h=>absurd h.2.1 (by decide+kernel))
theorem he_no2:newW keyK 7 ⟨0,0,0,0,0⟩=none:=if_neg (fun h=>absurd h.1 (by decide))
end Go.Proofs.YtcieieacfoaklaaGreat.Pw
end
namespace Go.Proofs.YtcieieacfoaklaaGreat
open Go.RowKit YtcieieacfoaklaaGreatW.PrintWords YtcieieacfoaklaaGreatW.PrintLast YtcieieacfoaklaaGreatW.PrintMore
section
namespace Pw
open Go.Shelf Go.Maps Fr Ext Pt Go.Proofs.YtcieieacfoaklaaGreat.Nm Dk Mn Pu Ct Lg
open Rc (Re Lo withinB keyB zeroR recC Norm Norm.intro Norm.elim)
variable {W w w' w1:World} {B l g wb cb c N k n:Nat} {M M':DiskM} {F F' G:Nat→Prop} {S S':LogS} {p p':Wr} {hv pv hv' pv':Value} {A A':Option Addr} {q q':St} {b:List Int}
theorem C_fresh {w W':World} {wb:Nat} {xs:List Int} (fr:Nat×Nat) (hn:xs.length≤1000000) (hw:wb < w.heap.size) (h:Keeps (fun j=>j=wb) (w.alloc (.cells (nums .u8 xs).toArray 5 fr)) W'):Kd.C (Kd.int .u8) W' (some ⟨w.heap.size,0,none⟩) xs.length xs:=
 C_blk (const_reads w 5 .u8 fr xs (by omega)) (fun a e=>by
  cases e
  exact h.block _ (by rw[World.size_alloc];exact Nat.lt_succ_self _) (fun e=>by simp only at e;omega))
theorem AtW.start {W w w':World} {key:ByteArray} {id:Int} {c:Cfg} (hb:RowKit.Below W.heap.size W w) (hd:DiskAt w W.heap.size g 0 M F) (hM:Fit M) (hl:LogO w W.heap.size l g F S) (hs:S.man.segs.length≤1000000) (hc:rightC c=true) (hb2:RowKit.Below w.heap.size w w') (h1:w.heap.size≤wb) (h2:w.heap.size≤cb) (h3:w'.heap[wb]? =some (.cells (wrC cb l (wr0 key id c) (.slice none 0 0) (.slice none 0 0)) 88 (0,0))) (h4:w'.heap[cb]? =some (.cells #[.int .i64 c.piece,.int .i64 0,.slice none 0 0] 117 (0,0))):AtW W w' l g wb cb (M,S,wr0 key id c) 0 0:=by
 have hx:∀k,LX F l k→k < w.heap.size:=fun k hk=>hk.elim (hd.lt k) (fun e=>e ▸ hl.lt)
 have hp:=right_cfg hc
 exact⟨⟨F,_,_,none,0,(hd.below hb2).mono (Nat.zero_le _),hl.below hb2,WrO.new h3 h4 (fun hk=>by have:=hx _ hk;omega) (fun hk=>by have:=hx _ hk;omega) (Nat.le_trans hb.size h1) (Nat.le_trans hb.size h2)⟩,hb.trans (hb2.mono hb.size),hM,hs,Nat.le_refl _,(fun z hz=>by cases hz),hp.1,hp.2.1⟩
theorem one_calls (w:World):Calls Tryz.prog 25 #[] w fun e w'=>e=.returned (.agg (cfgV cfg1))∧RowKit.Below w.heap.size w w':=by
 have hz:=heap_alloc_new w (.cells (cfgV ⟨0,0,0,0,0⟩) 23)
 have hb:=below_alloc (RowKit.Below.refl w.heap.size w) (.cells (cfgV ⟨0,0,0,0,0⟩) 23)
 go_enter Tryz.func25,Tryz.ntmps25
 go_upto_region 1 with(fail)
 generalize hw1:w.alloc (.cells #[.int .i64 0,.int .i64 0,.int .i64 0,.int .i64 0,.int .i64 0] 23)=w1 at hz hb ⊢
 clear hw1
 have x0:=bq hz 0 (.int .i64 0)
 have x1:=bq hz 1 (.int .i64 0)
 have x2:=bq hz 2 (.int .i64 0)
 have x3:=bq hz 3 (.int .i64 0)
 have x4:=bq hz 4 (.int .i64 0)
 have z0:=blk_frozen hz 0
 have z1:=blk_frozen hz 1
 have z2:=blk_frozen hz 2
 have z3:=blk_frozen hz 3
 have z4:=blk_frozen hz 4
 have HZ:=ak hz
 have HB:=ak hb
 clear hz hb
 go_wp2
 refine bodyPost_ret (results_cell_row rfl _ _ w.heap.size 23 (cfgV cfg1) (0,0) _ rfl (blk_put (blk_put (blk_put (blk_put (blk_put HZ.out 0 _ rfl) 1 _ rfl) 2 _ rfl) 3 _ rfl) 4 _ rfl) Tryz.underlying23 rfl (by kernel_rfl)) rfl ?_
 exact⟨rfl,((((HB.out.setCell (p:=⟨_,0,none⟩) (Nat.le_refl _) _).setCell (p:=⟨_,1,none⟩) (Nat.le_refl _) _).setCell (p:=⟨_,2,none⟩) (Nat.le_refl _) _).setCell (p:=⟨_,3,none⟩) (Nat.le_refl _) _).setCell (p:=⟨_,4,none⟩) (Nat.le_refl _) _⟩
theorem zerosB (n:Nat):IsBytes (List.replicate n 0):=fun z hz=>by
 rw[List.eq_of_mem_replicate hz]
 decide
theorem made_zeros (n:Nat):madeCells #[.int .u8 0] n=(nums .u8 (List.replicate n 0)).toArray:=by
 apply Array.ext
 ·simp [madeCells,nums]
 ·intro i h1 h2
  simp [madeCells,nums,Nat.mod_one]
theorem he_b1:IsBytes heB1:=by intro z hz;simp [heB1] at hz;omega
theorem he_b2:IsBytes heB2:=by intro z hz;simp [heB2] at hz;omega
theorem make_calls (n:Nat) (h:n≤1000000):∀W:World,(Instr.makeSlice 35 (.int .i64 n) (.int .i64 n)).run Tryz.prog W=.ok (.slice (some ⟨W.heap.size,0,none⟩) n n) (W.alloc (.cells (nums .u8 (List.replicate n 0)).toArray 5)):=by
 intro W
 rw[← made_zeros]
 exact print_make (P:=Tryz.prog) 35 5 .u8 1 Tryz.underlying35 info5 (by decide) n (by omega) W
theorem AtW.writeI (h:AtW W w l g wb cb q k n) (hk:k≤50000) (hb:IsBytes b) (hn:n+b.length≤500000) (Ab:Option Addr) (c6:Nat) (hc6:b.length≤c6) (hC:Kd.C (Kd.int .u8) W Ab b.length b):
  Calls Tryz.prog 14 #[ptr wb,.slice Ab b.length c6] w fun e w'=>e=.returned (.int .i64 (writeM q b).2)∧AtW W w' l g wb cb (writeM q b).1 (k+1) (n+b.length):=by
 have hx:=h.ex
 obtain⟨F,hv,pv,A,c,h1⟩:=hx
 exact h.write hk hb hn Ab c6 hc6 (fun W' hK=>Kd.C_below hC (Rc.below_keeps h.bel hK (fun j e=>e ▸ h1.wr.above)))
theorem AtW.lt (h:AtW W w l g wb cb q k n):wb < w.heap.size:=by
 obtain⟨F,hv,pv,A,c,h1⟩:=h.ex
 exact h1.wr.lt
theorem AtW.writeF (fr:Nat×Nat) (h:AtW W w l g wb cb q k n) (hk:k≤50000) (hb:IsBytes b) (hn:n+b.length≤500000):
  Calls Tryz.prog 14 #[ptr wb,.slice (some ⟨w.heap.size,0,none⟩) b.length b.length] (w.alloc (.cells (nums .u8 b).toArray 5 fr)) fun e w'=>e=.returned (.int .i64 (writeM q b).2)∧AtW W w' l g wb cb (writeM q b).1 (k+1) (n+b.length):=
 (h.below (below_alloc (RowKit.Below.refl _ _) _)).write hk hb hn _ _ (Nat.le_refl _) (fun W' hK=>C_fresh fr (by omega) h.lt hK)
theorem AtW.commitN (h:AtW W w l g wb cb q k n) (hk:k≤50000) (hn:n≤500000) (o:Obj):Calls Tryz.prog 15 #[ptr wb] (w.alloc o) fun e w'=>e=.returned (.tuple #[.agg (placeV (commitM q).2.1),.int .i64 (commitM q).2.2])∧AtW W w' l g wb cb (commitM q).1 (k+1) n∧w'.heap[w.heap.size]? =some o:=by
 obtain⟨F,hv,pv,A,c,h1⟩:=h.ex
 have hl:=h.ok.len
 have hb:=below_alloc (RowKit.Below.refl w.heap.size w) o
 refine(commit_calls (h1.below hb) h.ok.fit h.ok.segs (by omega) (by omega) (isB_left h.ok.bytes)).mono ?_
 rintro e w' ⟨rfl,ht⟩
 refine⟨rfl,AtW.to (h1.below hb) (h.bel.trans (hb.mono h.bel.size)) ht (by omega) h.ok.commit,?_⟩
 obtain⟨F',hv',pv',A',c',-,-,-,-,h5⟩:=ht
 refine h5.obj (heap_alloc_new w o) (fun hk=>?_)
 rcases hk with hk | hk | hk | hk
 ·have:=h1.xlt _ hk;omega
 ·have:=h1.wr.lt;omega
 ·have:=blk_lt h1.wr.cut.st;omega
 ·have:=Kd.R_lt h1.wr.rows _ hk.symm;omega
theorem he_w3':writeM he2 heB3=(he2,2):=by
 unfold writeM
 rw[if_neg (by rw[he_w3.1];decide),if_pos he_w3.2]
theorem he_c2':commitM he3=(he3,noPl,3):=by
 unfold commitM
 rw[if_pos (by rw[he_c2.1];decide),he_c2.1]
theorem he_rec:∃R:Re,getLM he3.1 he3.2.1 (commitM he2).2.1.seg (commitM he2).2.1.at_=(R,0)∧R.f0=2∧R.f4=9∧∃x y z,R.f5=[x,y,z]∧z.f2=1:=by
 obtain⟨h1,h2,h3,h4,h5⟩:=he_get
 generalize getLM he3.1 he3.2.1 (commitM he2).2.1.seg (commitM he2).2.1.at_=r at *
 obtain⟨R,e⟩:=r
 dsimp only at *
 refine⟨R,by rw[h1],h2,h3,?_⟩
 match hl:R.f5,h4 with
 | [x,y,z],_=>
  rw[hl] at h5
  exact⟨x,y,z,rfl,Option.some.inj h5⟩
theorem head_calls (W:World):Calls Tryz.prog 8 #[] W fun e w'=>e=.returned (.bool true)∧RowKit.Below W.heap.size W w':=by
 have HNW:=ak (new? 10000 W.heap.size W (Nat.le_refl _))
 have HONE:=ak (fun w=>one_calls w)
 go_enter Tryz.func8,Tryz.ntmps8
 go_upto_region 2 with(go_at_call 9;(with_reducible refine HNW.out.mono ?_);rintro e w1 ⟨g,F,rfl,hd1,hf1,hb1⟩;have HD1:=ak hd1;have HB1:=ak hb1;clear hd1 hf1 hb1)
 have hop:=open_calls HD1.out (Fit.new _) 128
 rw[show openM (newM 10000) 128=(some ⟨128,⟨[],1⟩,-1⟩,0) from rfl] at hop
 have HOP:=ak hop
 clear hop HNW
 go_upto_region 5 with(go_at_call 11;(with_reducible refine HOP.out.mono ?_);rintro e w2 ⟨hb2,l,rfl,ho2,hl2⟩;have HB2:=ak (HB1.out.trans (hb2.mono HB1.out.size));have HD2:=ak (HD1.out.below hb2);have HO2:=ak ho2;clear hb2 ho2 hl2)
 clear HOP HD1 HB1
 go_upto_region 8 with(first
  | (go_at_call 25;(with_reducible refine(HONE.out _).mono ?_);rintro e w3 ⟨rfl,hb3⟩;have HD3:=ak (HD2.out.below hb3);have HO3:=ak (HO2.out.below hb3);have HB3:=ak (HB2.out.trans (hb3.mono HB2.out.size));have HN1:=ak (new_some l keyK 7 cfg1 w3 he_right he_key (by decide));clear hb3)
  | (go_at_call 12;(with_reducible refine HN1.out.mono ?_);rintro e w4 ⟨wb,cb,rfl,hb4,hw4,hc4,ho4,hu4⟩;have HA4:=ak (AtW.start HB3.out HD3.out (Fit.new _) HO3.out (Nat.zero_le _) he_right hb4 hw4 hc4 ho4 hu4);clear hb4 hw4 hc4 ho4 hu4))
 clear HN1 HD2 HO2 HB2 HD3 HO3 HB3
 have HNA:=ak (fun w=>new_none l ⟨#[]⟩ 7 cfg1 w he_no1)
 have HNB:=ak (fun w=>new_none l keyK 7 ⟨0,0,0,0,0⟩ w he_no2)
 go_upto_region 10 with(first
  | (go_at_call 25;(with_reducible refine(HONE.out _).mono ?_);rintro e w5 ⟨rfl,hb5⟩;have HA5:=ak (HA4.out.below hb5);clear hb5)
  | (go_at_call 12;(with_reducible refine(HNA.out _).mono ?_);rintro e w6 ⟨rfl,hb6⟩;have HA6:=ak (HA5.out.below hb6);clear hb6)
  | (go_at_call 12;(with_reducible refine(HNB.out _).mono ?_);rintro e w7 ⟨rfl,hb7⟩;have HA7:=ak (HA6.out.below hb7);clear hb7))
 clear HNA HNB HA4 HA5 HA6
 have HA7:=ak (show AtW W w7 l g wb cb he0 0 0 from HA7.out)
 have kc:=fun(w:World) (C:Array Value) (n c:Nat)=>Lib.run_convert_bytes_const (P:=Tryz.prog) w 35 5 C n c Tryz.underlying35 Tryz.underlying5
 have HW1:=ak (show Calls Tryz.prog 14 #[ptr wb,.slice (some ⟨w7.heap.size,0,none⟩) 6 6] (w7.alloc (.cells #[.int .u8 97,.int .u8 98,.int .u8 99,.int .u8 100,.int .u8 101,.int .u8 102] 5 (6,7))) (fun e w'=>e=.returned (.int .i64 0)∧AtW W w' l g wb cb he1 1 6) from(HA7.out.writeF (6,7) (q:=he0) (b:=heB1) (by decide) he_b1 (by decide)).mono (by rintro e w' ⟨rfl,h⟩;exact⟨by rw[he_w1.1],h⟩))
 go_upto_region 11 with(go_at_call 14;(with_reducible refine HW1.out.mono ?_);rintro e w8 ⟨rfl,h8⟩;have HA8:=ak h8;clear h8)
 have HL8:=ak (show Calls Tryz.prog 19 #[ptr wb] w8 (fun e w'=>∃A' c',e=.returned (.slice A' 0 c')∧RowKit.Below w8.heap.size w8 w') from(HA8.out.locs (by decide)).mono (by rintro e w' ⟨A',c',rfl,-,hb⟩;rw[he_w1.2];exact⟨A',c',rfl,hb⟩))
 go_upto_region 12 with(go_at_call 19;(with_reducible refine HL8.out.mono ?_);rintro e w9 ⟨A8,c8,rfl,hb⟩;have HA9:=ak (HA8.out.below hb);clear hb)
 have HW2:=ak (show Calls Tryz.prog 14 #[ptr wb,.slice (some ⟨w9.heap.size,0,none⟩) 3 3] (w9.alloc (.cells #[.int .u8 103,.int .u8 104,.int .u8 105] 5 (3,4))) (fun e w'=>e=.returned (.int .i64 0)∧AtW W w' l g wb cb he2 2 9) from(HA9.out.writeF (3,4) (q:=he1) (b:=heB2) (by decide) he_b2 (by decide)).mono (by rintro e w' ⟨rfl,h⟩;exact⟨by rw[he_w2.1],h⟩))
 go_upto_region 13 with(go_at_call 14;(with_reducible refine HW2.out.mono ?_);rintro e w10 ⟨rfl,h10⟩;have HA10:=ak h10;clear h10)
 have HL10:=ak (show Calls Tryz.prog 19 #[ptr wb] w10 (fun e w'=>∃A' c',e=.returned (.slice A' 2 c')∧RowKit.Below w10.heap.size w10 w') from(HA10.out.locs (by decide)).mono (by rintro e w' ⟨A',c',rfl,-,hb⟩;rw[he_w2.2];exact⟨A',c',rfl,hb⟩))
 go_upto_region 14 with(go_at_call 19;(with_reducible refine HL10.out.mono ?_);rintro e w11 ⟨A10,c10,rfl,hb⟩;have HA11:=ak (HA10.out.below hb);clear hb)
 clear HW1 HW2 HL8 HL10 HA7 HA8 HA9 HA10
 have HMK:∀W:World,(Instr.makeSlice 35 (.int .i64 192) (.int .i64 192)).run Tryz.prog W=.ok (.slice (some ⟨W.heap.size,0,none⟩) 192 192) (W.alloc (.cells (nums .u8 heB3).toArray 5)):=make_calls 192 (by decide)
 have HW3:=ak (show Calls Tryz.prog 14 #[ptr wb,.slice (some ⟨w11.heap.size,0,none⟩) 192 192] (w11.alloc (.cells (nums .u8 heB3).toArray 5)) (fun e w'=>e=.returned (.int .i64 2)∧AtW W w' l g wb cb he2 3 201) from(HA11.out.writeF (0,0) (q:=he2) (b:=heB3) (by decide) (zerosB 192) (by decide)).mono (by rintro e w' ⟨rfl,h⟩;exact(by rw[he_w3'] at h ⊢;exact⟨rfl,h⟩)))
 go_upto_region 15 with(go_at_call 14;(with_reducible refine HW3.out.mono ?_);rintro e w12 ⟨rfl,h12⟩;have HA12:=ak h12;clear h12)
 clear HMK HW3 HA11
 obtain⟨pl,hpl⟩:∃pl,(commitM he2).2.1=pl:=⟨_,rfl⟩
 have HPL:=ak hpl
 have HC1:=ak (show Calls Tryz.prog 15 #[ptr wb] w12 (fun e w'=>e=.returned (.tuple #[.agg #[.int .i64 pl.seg,.int .i64 pl.kind,.string pl.key,.int .i64 pl.at_,.int .i64 pl.size],.int .i64 0])∧AtW W w' l g wb cb he3 4 201) from(HA12.out.commit (by decide) (by decide)).mono (by rintro e w' ⟨rfl,h⟩;rw[he_c1,hpl];exact⟨rfl,h⟩))
 clear hpl
 go_upto_region 16 with(go_at_call 15;(with_reducible refine HC1.out.mono ?_);rintro e w13 ⟨rfl,h13⟩;have HA13:=ak h13;clear h13)
 have HC2:=ak (show Calls Tryz.prog 15 #[ptr wb] (w13.alloc (.cells #[.int .i64 pl.seg,.int .i64 pl.kind,.string pl.key,.int .i64 pl.at_,.int .i64 pl.size] 47)) (fun e w'=>e=.returned (.tuple #[.agg #[.int .i64 0,.int .i64 0,.string ⟨#[]⟩,.int .i64 0,.int .i64 0],.int .i64 3])∧AtW W w' l g wb cb he3 5 201∧w'.heap[w13.heap.size]? =some (.cells (placeV pl) 47 (0,0))) from(HA13.out.commitN (by decide) (by decide) _).mono (by rintro e w' ⟨rfl,h⟩;rw[he_c2'] at h ⊢;exact⟨rfl,h⟩))
 clear HA12 HC1
 go_upto_region 17 with(go_at_call 15;(with_reducible refine HC2.out.mono ?_);rintro e w14 ⟨rfl,h14,hp14⟩;have HA14:=ak h14;have HP14:=ak hp14;clear h14 hp14)
 have hb15:=below_alloc (RowKit.Below.refl w14.heap.size w14) (.cells #[.int .i64 0,.int .i64 0,.string ⟨#[]⟩,.int .i64 0,.int .i64 0] 47)
 generalize hw15:w14.alloc (.cells #[.int .i64 0,.int .i64 0,.string ⟨#[]⟩,.int .i64 0,.int .i64 0] 47)=w15 at hb15 ⊢
 clear hw15
 have HA15:=ak (HA14.out.below hb15)
 have hp15:=(hb15.block _ (blk_lt HP14.out)).trans HP14.out
 have y0:=bq hp15 0 (.int .i64 pl.seg)
 have y3:=bq hp15 3 (.int .i64 pl.at_)
 clear hb15 hp15 HC2 HP14 HA14 HA13
 obtain⟨R,hR,hR0,hR4,x,y,z,hR5,hz2⟩:=he_rec
 rw[HPL.out] at hR
 have hget:=HA15.out.get pl.seg pl.at_
 rw[hR] at hget
 unfold Sg.GotE at hget
 simp only[recC] at hget
 rw[hR0,hR4,hR5] at hget
 have HG:=ak hget
 have HZ2:=ak hz2
 clear hget hR hR0 hR4 hR5 hz2
 go_upto_region 18 with(go_at_call 26;(with_reducible refine HG.out.mono ?_);rintro e w16 ⟨A5,c5,A6,c6,rfl,h5,-,hb⟩;have HA16:=ak (HA15.out.below hb);have H5:=ak h5;clear h5 hb)
 clear y0 y3
 have hs17:=heap_alloc_new w16 (.cells #[.int .i64 2,.string R.f1,.int .i64 R.f2,.int .i64 R.f3,.int .i64 9,.slice A5 3 c5,.slice A6 R.f6.length c6] 38)
 have hb17:=below_alloc (RowKit.Below.refl w16.heap.size w16) (.cells #[.int .i64 2,.string R.f1,.int .i64 R.f2,.int .i64 R.f3,.int .i64 9,.slice A5 3 c5,.slice A6 R.f6.length c6] 38)
 obtain⟨gg,e5⟩:∃gg,A5=some ⟨gg,0,none⟩:=by
  obtain⟨-,inner,hown,-⟩:=H5.out
  rcases hown.2 with⟨h,-⟩ | ⟨gg,cap,cur,he,-⟩
  ·cases h
  ·cases he;exact⟨gg,rfl⟩
 subst e5
 obtain⟨ad,e5,-,-,hl2⟩:=at_lo (xs:=[x,y,z]) (Kd.C_below (Kd.R_reads' H5.out).2.2 hb17) 2 (show 2 < 3 by decide)
 cases e5
 generalize hw17:w16.alloc (.cells #[.int .i64 2,.string R.f1,.int .i64 R.f2,.int .i64 R.f3,.int .i64 9,.slice (some ⟨gg,0,none⟩) 3 c5,.slice A6 R.f6.length c6] 38)=w17 at hs17 hb17 hl2 ⊢
 clear hw17
 have HA17:=ak (HA16.out.below hb17)
 have x0:=bq hs17 0 (.int .i64 2)
 have x4:=bq hs17 4 (.int .i64 9)
 have x5:=bq hs17 5 (.slice (some ⟨gg,0,none⟩) 3 c5)
 have x7:w17.cell? ⟨gg,8,none⟩=some (.int .i64 1):=by rw[← HZ2.out];exact hl2
 have HSI:=ak (fun w h=>(AtW.size (w:=w) (W:=W) (l:=l) (g:=g) (wb:=wb) (cb:=cb) (q:=he3) (k:=5) (n:=201) h).mono (fun e w' he=>(show e=.returned (.int .i64 9)∧w'=w from⟨he.1.trans (by rw[he_c2.2.1]),he.2⟩)))
 have HSP:=ak (fun w h=>(AtW.spoilt (w:=w) (W:=W) (l:=l) (g:=g) (wb:=wb) (cb:=cb) (q:=he3) (k:=5) (n:=201) h).mono (fun e w' he=>(show e=.returned (.bool false)∧w'=w from⟨he.1.trans (by rw[he_c2.2.2]),he.2⟩)))
 have HRI:=ak (fun w=>(right_calls cfg1 w).mono (fun e w' he=>(show e=.returned (.bool true)∧RowKit.Below w.heap.size w w' from⟨he.1.trans (by rw[he_right]),he.2⟩)))
 clear hs17 hb17 hl2 HA15 HG HA16 H5
 go_wp2_with (first
  | (go_at_call 17;(with_reducible refine(HSI.out _ HA17.out).mono ?_);rintro e w18 ⟨rfl,hw⟩;obtain rfl:=hw.symm)
  | (go_at_call 22;(with_reducible refine(HSP.out _ HA17.out).mono ?_);rintro e w18 ⟨rfl,hw⟩;obtain rfl:=hw.symm)
  | (go_at_call 25;(with_reducible refine(HONE.out _).mono ?_);rintro e w19 ⟨rfl,hb19⟩;have HA19:=ak (HA17.out.below hb19);clear hb19)
  | (go_at_call 18;(with_reducible refine(HRI.out _).mono ?_);rintro e w20 ⟨rfl,hb20⟩;have HA20:=ak (HA19.out.below hb20);clear hb20))
 go_ret
 exact⟨rfl,HA20.out.bel⟩
end Pw
end
end Go.Proofs.YtcieieacfoaklaaGreat
section
namespace Go.Proofs.YtcieieacfoaklaaGreatW.PrintWords
open Go.ChangeShapes Go.WideShapes
end Go.Proofs.YtcieieacfoaklaaGreatW.PrintWords
end
section
namespace Go.Proofs.YtcieieacfoaklaaGreat.HrC
open Go.ChangeShapes Go.WideShapes Go.RowKit YtcieieacfoaklaaGreatW.PrintWords Fr HrA
open Pu (Cfg)
open Pw (cfgV)
theorem of5 {α:Type} {l:List α} (h:l.length=5):∃a b c d e,l=[a,b,c,d,e]:=by
 match l,h with
 | [a,b,c,d,e],_=>exact⟨_,_,_,_,_,rfl⟩
theorem open_cfg {H:Type} {enc:TypeId×Value→H} {W:World} {base:Nat} {held:Bool} {r:Reach} {b0:Nat} {v:Value} {d:DataW H} {p:List MemPlace} (hval:Value.okWide Tryz.prog W r b0 23 v) (h:DataW.Trod enc Tryz.prog W base (fun _=>true) held 23 v d p):∃c:Cfg,v=.agg (cfgV c):=by
 obtain⟨cs,rfl,hsz⟩:=okWide_struct Tryz.underlying23 hval
 obtain⟨fuel,h⟩:=h
 obtain⟨xs,n,_,_,hl,hxl,hf⟩:=DataW.trod_struct Tryz.underlying23 h
 have hl:(Value.agg cs).cells.toList.length=5:=by rw[hl];kernel_rfl
 obtain⟨y0,y1,y2,y3,y4,rfl⟩:=of5 hxl
 obtain⟨v0,v1,v2,v3,v4,hcs⟩:=of5 hl
 rw[hcs] at hf
 have g0:=hf 0 _ rfl
 have g1:=hf 1 _ rfl
 have g2:=hf 2 _ rfl
 have g3:=hf 3 _ rfl
 have g4:=hf 4 _ rfl
 have ci:Tryz.prog.cellsOf 3=1:=by kernel_rfl
 simp [ci] at g0 g1 g2 g3 g4
 obtain⟨a0,k0,q0⟩:=opens_int (k:=.i64) Tryz.underlying3 _ _ _ g0
 obtain⟨a1,k1,q1⟩:=opens_int (k:=.i64) Tryz.underlying3 _ _ _ g1
 obtain⟨a2,k2,q2⟩:=opens_int (k:=.i64) Tryz.underlying3 _ _ _ g2
 obtain⟨a3,k3,q3⟩:=opens_int (k:=.i64) Tryz.underlying3 _ _ _ g3
 obtain⟨a4,k4,q4⟩:=opens_int (k:=.i64) Tryz.underlying3 _ _ _ g4
 cases k0;cases k1;cases k2;cases k3;cases k4
 refine⟨⟨a0,a1,a2,a3,a4⟩,?_⟩
 have e:cs=#[.int .i64 a0,.int .i64 a1,.int .i64 a2,.int .i64 a3,.int .i64 a4]:=Array.toList_inj.1 hcs
 rw[e]
end Go.Proofs.YtcieieacfoaklaaGreat.HrC
end
section
namespace Go.Proofs.YtcieieacfoaklaaGreat.HrW
open Go.ChangeShapes Go.WideShapes Go.RowKit Go.Deep YtcieieacfoaklaaGreatW.PrintWords Fr Go.Proofs.YtcieieacfoaklaaGreat.Pure Pt Hn HrA
section
variable {H:Type} {enc:TypeId×Value→H} {P:Program} {W:World} {base:Nat} {held:Bool}
def Light (P:Program) (t:TypeId) (d:DataW H):Prop:=(d.weights P t).all (·≤reachBytes)=true
def OpensW {α:Type} (enc:TypeId×Value→H) (P:Program) (W:World) (base:Nat) (held:Bool) (t:TypeId) (k:Kd α) (Q:α→Prop):Prop:=
 ∀(fuel:Nat) (cs:List Value) (x:DataW H×List MemPlace),DataW.trod enc P W base (fun _=>true) held fuel t cs=some x→Light P t x.1→∃a,k.K W a cs∧Q a
theorem light_all {e:TypeId} {d:DataW H}:∀{l:List (DataW H)},d∈l→(DataW.weightsAll P e l).all (·≤reachBytes)=true→Light P e d
 | x::l,h,hw=>by
  simp only[DataW.weightsAll,List.all_append,Bool.and_eq_true] at hw
  rcases List.mem_cons.1 h with rfl | h
  ·exact hw.1
  ·exact light_all h hw.2
theorem opensW_int {t:TypeId} {k:IntKind} (ht:P.underlying t=some (.int k)):OpensW enc P W base held t (Kd.int k) (fun z=>(Lit.int k z).wf=true):=fun fuel cs x h _=>opens_int ht fuel cs x h
theorem opensW_string {t:TypeId} (ht:P.underlying t=some .string):OpensW enc P W base held t Kd.string (fun z=>z.size≤reachBytes):=by
 intro fuel cs x h hw
 obtain⟨n,rfl,e,_⟩:=DataW.trod_string ht h
 subst e
 refine⟨n,rfl,?_⟩
 simp only[Light,DataW.weights,List.all_cons,List.all_nil,Bool.and_true,decide_eq_true_eq,Array.length_toList] at hw
 exact hw
theorem opensW_row {α:Type} {t e:TypeId} {k:Kd α} {Q:α→Prop} (ht:P.underlying t=some (.slice e)) (ce:P.cellsOf e=k.sz) {B:Nat} (hB:P.bytesOf e=B) (he:OpensW enc P W base held e k Q)
  {fuel:Nat} {a:Option Addr} {len cap:Nat} {x:DataW H×List MemPlace} (h:DataW.trod enc P W base (fun _=>true) held fuel t [.slice a len cap]=some x) (hw:Light P t x.1):
  ∃l:List α,l.length=len∧len≤cap∧cap≤maxLen∧k.C W a len l∧len*B≤reachBytes∧∀y∈l,Q y:=by
 rcases open_slice ht h with⟨hcs,_⟩ | ⟨b,l,c,m,n,D,Pl,hcs,_,hl,hm,hmm,hx0,hx⟩
 ·simp at hcs
  obtain⟨rfl,rfl,rfl⟩:=hcs
  exact⟨[],rfl,Nat.le_refl _,Nat.zero_le _,⟨rfl,Nat.zero_le _,fun h=>absurd h (by omega)⟩,by omega,fun l hl=>by cases hl⟩
 ·simp at hcs
  obtain⟨rfl,rfl,rfl⟩:=hcs
  have hlm:len≤m:=by rw[hmm];split <;> omega
  rw[hx0] at hw
  simp only[Light,DataW.weights,ht,hB,List.all_cons,List.all_append,Bool.and_eq_true,decide_eq_true_eq,List.length_map,List.length_range] at hw
  obtain⟨w1,w2,w3⟩:=hw
  obtain⟨L,hL,hp⟩:=exists_list (p:=fun i y=>(∃cs',cs'.length=k.sz∧k.K W y cs'∧∀j u,cs'[j]? =some u→W.cell? (b.add (i*k.sz+j))=some u)∧Q y) len (fun i hi=>by
   obtain⟨cs',h1,h2⟩:=hx i (by omega)
   rw[ce] at h1
   obtain⟨_,hlen,hcell⟩:=World.cells?_some h1
   obtain⟨y,hK,hQ⟩:=he _ _ _ h2 (light_all (List.mem_map.2 ⟨i,List.mem_range.2 hi,rfl⟩) w2)
   refine⟨y,⟨cs',k.K_len hK,hK,fun j u hj=>?_⟩,hQ⟩
   have hj2:=(List.getElem?_eq_some_iff.1 hj).1
   have:=hcell j (by omega)
   rw[Deep.add_add] at this
   rw[this,hj])
  refine⟨L,hL,hl,hm,⟨hL,?_,fun _=>⟨b,rfl,fun j p hj=>(hp j p hj).1⟩⟩,Nat.le_trans (Nat.mul_le_mul_right _ (Nat.le_add_right _ _)) w1,fun y hy=>?_⟩
  ·have:maxLen=9223372036854775807:=rfl
   omega
  ·obtain⟨i,hi,rfl⟩:=List.getElem_of_mem hy
   exact(hp i _ (List.getElem?_eq_getElem hi)).2
theorem opensW_slice {α:Type} {t e:TypeId} {k:Kd α} {Q:α→Prop} (ht:P.underlying t=some (.slice e)) (ce:P.cellsOf e=k.sz) {B:Nat} (hB:P.bytesOf e=B) (he:OpensW enc P W base held e k Q) (z:Nat):
  OpensW enc P W base held t (Kd.slice z k) (fun l=>l.length*B≤reachBytes∧∀y∈l,Q y):=by
 intro fuel cs x h hw
 have h':=h
 rcases open_slice ht h with⟨hcs,_⟩ | ⟨b,l,c,m,n,D,Pl,hcs,_⟩
 ·subst hcs
  obtain⟨l,h1,h2,h3,h4,h5,h6⟩:=opensW_row ht ce hB he h' hw
  exact⟨l,⟨_,_,by rw[h1],by rw[h1];exact h2,by rw[h1];exact h4⟩,by rw[h1];exact h5,h6⟩
 ·subst hcs
  obtain⟨l,h1,h2,h3,h4,h5,h6⟩:=opensW_row ht ce hB he h' hw
  exact⟨l,⟨_,_,by rw[h1],by rw[h1];exact h2,by rw[h1];exact h4⟩,by rw[h1];exact h5,h6⟩
theorem light_each {ts:List TypeId} {ds:List (DataW H)} (h:(DataW.weightsEach P ts ds).all (·≤reachBytes)=true):∀(j:Nat) (t:TypeId) (d:DataW H),ts[j]? =some t→ds[j]? =some d→Light P t d:=by
 induction ts generalizing ds with
 | nil=>intro j t d ht;cases ht
 | cons t0 ts ih=>
  intro j t d ht hd
  cases ds with
  | nil=>cases hd
  | cons d0 ds=>
   simp only[DataW.weightsEach,List.all_append,Bool.and_eq_true] at h
   cases j with
   | zero=>
    obtain rfl:=Option.some.inj ht
    obtain rfl:=Option.some.inj hd
    exact h.1
   | succ j=>exact ih h.2 j t d ht hd
theorem light_struct {t:TypeId} {fs:Array Field} (ht:P.underlying t=some (.struct fs)) {ds:List (DataW H)} (h:Light P t (.agg ds)):∀(j:Nat) (f:Field) (d:DataW H),fs[j]? =some f→ds[j]? =some d→Light P f.type d:=by
 intro j f d hf hd
 simp only[Light,DataW.weights,ht] at h
 exact light_each h j f.type d (by rw[List.getElem?_map,Array.getElem?_toList,hf];rfl) hd
end
def SzRec (r:S38):Prop:=r.f1.size≤reachBytes∧r.f5.length*24≤reachBytes∧r.f6.length*1≤reachBytes
section
variable {H:Type} {enc:TypeId×Value→H} {W:World} {base:Nat} {held:Bool}
theorem opensW_loc:OpensW enc Tryz.prog W base held 57 k57 OkLoc:=fun fuel cs x h _=>opens_loc fuel cs x h
theorem opensW_rec:OpensW enc Tryz.prog W base held 38 k38 (fun r=>OkRec r∧SzRec r):=by
 intro fuel cs x h hw
 obtain⟨xs,n,_,hx,hl,hxl,hf⟩:=DataW.trod_struct Tryz.underlying38 h
 have hl:cs.length=7:=by rw[hl];kernel_rfl
 obtain⟨y0,y1,y2,y3,y4,y5,y6,rfl⟩:=of7 hxl
 obtain⟨v0,v1,v2,v3,v4,v5,v6,rfl⟩:=of7 hl
 subst hx
 have ho:=hl
 have l1:=light_struct Tryz.underlying38 hw 1 _ _ rfl rfl
 have l5:=light_struct Tryz.underlying38 hw 5 _ _ rfl rfl
 have l6:=light_struct Tryz.underlying38 hw 6 _ _ rfl rfl
 have g0:=hf 0 _ rfl
 have g1:=hf 1 _ rfl
 have g2:=hf 2 _ rfl
 have g3:=hf 3 _ rfl
 have g4:=hf 4 _ rfl
 have g5:=hf 5 _ rfl
 have g6:=hf 6 _ rfl
 have ci:Tryz.prog.cellsOf 3=1:=by kernel_rfl
 have cs':Tryz.prog.cellsOf 9=1:=by kernel_rfl
 have c64:Tryz.prog.cellsOf 2=1:=by kernel_rfl
 have cl:Tryz.prog.cellsOf 36=1:=by kernel_rfl
 have cb:Tryz.prog.cellsOf 35=1:=by kernel_rfl
 simp [ci,cs',cl,cb,c64] at g0 g1 g2 g3 g4 g5 g6
 obtain⟨a0,k0,q0⟩:=opens_int Tryz.underlying3 _ _ _ g0
 obtain⟨a1,k1,q1⟩:=opensW_string Tryz.underlying9 _ _ _ g1 l1
 obtain⟨a2,k2,q2⟩:=opens_int Tryz.underlying2 _ _ _ g2
 obtain⟨a3,k3,q3⟩:=opens_int Tryz.underlying3 _ _ _ g3
 obtain⟨a4,k4,q4⟩:=opens_int Tryz.underlying3 _ _ _ g4
 obtain⟨a5,⟨A5,c5,e5,l5,K5⟩,s5,q5⟩:=opensW_slice (B:=24) Tryz.underlying36 (by kernel_rfl) (by kernel_rfl) opensW_loc 57 _ _ _ g5 l5
 obtain⟨a6,⟨A6,c6,e6,l6,K6⟩,s6,q6⟩:=opensW_slice (B:=1) Tryz.underlying35 (by kernel_rfl) (by kernel_rfl) (opensW_int Tryz.underlying5) 5 _ _ _ g6 l6
 cases k0;cases k1;cases k2;cases k3;cases k4;cases e5;cases e6
 exact⟨⟨a0,a1,a2,a3,a4,a5,a6⟩,k38_mk _ ⟨a0,a1,a2,a3,a4,a5,a6⟩ l5 K5 l6 K6,⟨q0,Nat.le_trans q1 (by decide),q2,q3,q4,q5,q6⟩,q1,s5,s6⟩
end
end Go.Proofs.YtcieieacfoaklaaGreat.HrW
end
section
namespace Go.Proofs.YtcieieacfoaklaaGreat.HrW
open Go.ChangeShapes Go.WideShapes Go.RowKit Go.Deep YtcieieacfoaklaaGreatW.PrintWords Fr Go.Proofs.YtcieieacfoaklaaGreat.Pure Pt Hn HrA
abbrev Op18:=S40
def OkOp (x:Op18):Prop:=(Lit.int .i64 x.f0).wf=true∧(x.f1.length*1≤reachBytes∧∀y∈x.f1,(Lit.int .u8 y).wf=true)∧(OkRec x.f2∧SzRec x.f2)∧(Lit.int .i64 x.f3).wf=true
theorem of10 {α:Type} {l:List α} (h:l.length=10):∃a b r z,l=a::b::(r++[z])∧r.length=7:=by
 match l,h with
 | [a,b,c,d,e,f,g,h,i,j],_=>exact⟨a,b,[c,d,e,f,g,h,i],j,rfl,rfl⟩
section
variable {H:Type} {enc:TypeId×Value→H} {W:World} {base:Nat} {held:Bool}
theorem opensW_op:OpensW enc Tryz.prog W base held 40 k40 OkOp:=by
 intro fuel cs x h hw
 obtain⟨xs,n,_,hx,hl,hxl,hf⟩:=DataW.trod_struct Tryz.underlying40 h
 have hl:cs.length=10:=by rw[hl];kernel_rfl
 obtain⟨y0,y1,y2,y3,rfl⟩:=of4 hxl
 obtain⟨v0,v1,r,v3,rfl,hr⟩:=of10 hl
 subst hx
 have ho:=hl
 have l1:=light_struct Tryz.underlying40 hw 1 _ _ rfl rfl
 have l2:=light_struct Tryz.underlying40 hw 2 _ _ rfl rfl
 have g0:=hf 0 _ rfl
 have g1:=hf 1 _ rfl
 have g2:=hf 2 _ rfl
 have g3:=hf 3 _ rfl
 have ci:Tryz.prog.cellsOf 3=1:=by kernel_rfl
 have cb:Tryz.prog.cellsOf 35=1:=by kernel_rfl
 have cr:Tryz.prog.cellsOf 38=7:=by kernel_rfl
 have ht:(r++[v3]).take 7=r:=by rw[List.take_append_of_le_length (by omega),List.take_of_length_le (by omega)]
 have hd:(r++[v3]).drop 7=[v3]:=by rw[List.drop_append_of_le_length (by omega),List.drop_of_length_le (by omega),List.nil_append]
 simp [ci,cb,cr,ht,hd] at g0 g1 g2 g3
 obtain⟨a0,k0,q0⟩:=opens_int Tryz.underlying3 _ _ _ g0
 obtain⟨a1,⟨A1,c1,e1,n1,K1⟩,s1,q1⟩:=opensW_slice (B:=1) Tryz.underlying35 (by kernel_rfl) (by kernel_rfl) (opensW_int Tryz.underlying5) 5 _ _ _ g1 l1
 obtain⟨a2,k2,q2⟩:=opensW_rec _ _ _ g2 l2
 obtain⟨a3,k3,q3⟩:=opens_int Tryz.underlying3 _ _ _ g3
 cases k0;cases e1;cases k3
 exact⟨⟨a0,a1,a2,a3⟩,⟨[.int .i64 a0],_,rfl,rfl,⟨_,r++[.int .i64 a3],rfl,⟨A1,c1,rfl,n1,K1⟩,⟨r,[.int .i64 a3],rfl,k2,rfl⟩⟩⟩,q0,⟨s1,q1⟩,q2,q3⟩
end
end Go.Proofs.YtcieieacfoaklaaGreat.HrW
end

