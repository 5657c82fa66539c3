/- Texts of this claim, joined. -/
import Derived.Test.YtcieieacfoaklaaGreatV1
import Derived.Test.YtcieieacfoaklaaGreatV0
import Derived.Outline
import Derived.WalkSpells
import Derived.OwnWalk
import Derived.Laws.BytesArg
import Derived.Laws.MakeOwn
import Derived.Deep.RegionLaw
import Derived.Lib.BufferWrite
import Derived.Laws.RangeString
import Derived.Sort.OwnSortedInts
import Derived.Laws.StructEq
set_option linter.unusedVariables false
set_option linter.unusedSimpArgs false
set_option maxRecDepth 100000
set_option maxHeartbeats 8000000
namespace Go.Proofs.YtcieieacfoaklaaGreat
open Go.RowKit YtcieieacfoaklaaGreatW.PrintWords YtcieieacfoaklaaGreatW.PrintLast YtcieieacfoaklaaGreatW.PrintMore
section
namespace Rc
open Go.Maps Fr Ext Pt

def Norm (F:Act→World→Prop):Exit→Act→World→Prop
 | .normal,a,w=>F a w
 | _,_,_=>False
theorem Norm.intro {F:Act→World→Prop} {a:Act} {w:World} (h:F a w):Norm F .normal a w:=h
theorem Norm.elim {F:Act→World→Prop} {Q:Exit→Act→World→Prop} (h:∀a w,F a w→Q .normal a w):∀e a w,Norm F e a w→Q e a w:=by
 intro e a w hn
 cases e with
 | normal=>exact h a w hn
 | _=>exact False.elim hn
theorem store_step {P:Program} {ops:Array Oper} {o:Oper} {a:Act} {Q:Exit→Act→World→Prop} {Kc:Act→World→Prop} {W w1:World} {u:Prop} (hw:Region.wanted o (yielded ops a.tmps)=true) (hrun:(execOp a.eval o).run P W=.ok .skip w1) (h:Kc (a.put o.dst undef) w1):if Region.wanted o (yielded ops a.tmps)=true then Oper.wp P o a W Kc Q else u:=by
 rw[if_pos hw]
 unfold Oper.wp
 rw[hrun]
 simp only[Oper.upon]
 exact h
abbrev fv (k:Nat):Value:=.func (.func k) #[] #[]
def kindV (n:Int):Value:=
 if n=1 then .agg #[fv 82,fv 83,fv 84,fv 85]
 else if n=2 then .agg #[fv 86,fv 87,fv 88,fv 89]
 else if n=3 then .agg #[fv 90,fv 91,fv 92,fv 93]
 else if n=4 then .agg #[fv 94,fv 95,fv 96,fv 97]
 else .agg #[.nilFunc,.nilFunc,.nilFunc,.nilFunc]
open Classical in
noncomputable def RK (v:Value):Option (DataW Nat×List MemPlace):=
 if v=kindV 1 then some (.held 1,[]) else if v=kindV 2 then some (.held 2,[]) else if v=kindV 3 then some (.held 3,[]) else if v=kindV 4 then some (.held 4,[]) else some (.nil,[])
theorem kindV_ne12:kindV 2≠kindV 1:=by simp [kindV]
theorem kindV_ne13:kindV 3≠kindV 1:=by simp [kindV]
theorem kindV_ne14:kindV 4≠kindV 1:=by simp [kindV]
theorem kindV_ne23:kindV 3≠kindV 2:=by simp [kindV]
theorem kindV_ne24:kindV 4≠kindV 2:=by simp [kindV]
theorem kindV_ne34:kindV 4≠kindV 3:=by simp [kindV]
theorem RK1:RK (kindV 1)=some (.held 1,[]):=by unfold RK;rw[if_pos rfl]
theorem RK2:RK (kindV 2)=some (.held 2,[]):=by unfold RK;rw[if_neg kindV_ne12,if_pos rfl]
theorem RK3:RK (kindV 3)=some (.held 3,[]):=by unfold RK;rw[if_neg kindV_ne13,if_neg kindV_ne23,if_pos rfl]
theorem RK4:RK (kindV 4)=some (.held 4,[]):=by unfold RK;rw[if_neg kindV_ne14,if_neg kindV_ne24,if_neg kindV_ne34,if_pos rfl]
theorem RK0:RK (.agg #[.nilFunc,.nilFunc,.nilFunc,.nilFunc])=some (.nil,[]):=by
 unfold RK
 rw[if_neg (by simp [kindV]),if_neg (by simp [kindV]),if_neg (by simp [kindV]),if_neg (by simp [kindV])]
theorem RK_held {v:Value} {i:Nat} {ps:List MemPlace} (h:RK v=some (.held i,ps)):(i=1∧v=kindV 1)∨(i=2∧v=kindV 2)∨(i=3∧v=kindV 3)∨(i=4∧v=kindV 4):=by
 unfold RK at h
 split at h
 ·rename_i e
  simp only[Option.some.injEq,Prod.mk.injEq,DataW.held.injEq] at h
  exact .inl ⟨h.1.symm,e⟩
 split at h
 ·rename_i e
  simp only[Option.some.injEq,Prod.mk.injEq,DataW.held.injEq] at h
  exact .inr (.inl ⟨h.1.symm,e⟩)
 split at h
 ·rename_i e
  simp only[Option.some.injEq,Prod.mk.injEq,DataW.held.injEq] at h
  exact .inr (.inr (.inl ⟨h.1.symm,e⟩))
 split at h
 ·rename_i e
  simp only[Option.some.injEq,Prod.mk.injEq,DataW.held.injEq] at h
  exact .inr (.inr (.inr ⟨h.1.symm,e⟩))
 ·simp at h
def litI (n:Int):Lit:=.int .i64 n
def DK:DataW Nat:=((((DataW.map []).put (litI 1) (.held 1)).put (litI 2) (.held 2)).put (litI 3) (.held 3)).put (litI 4) (.held 4)
def KM (w:World) (mb:Nat):Prop:=w.ownsMap Tryz.prog 3 RK mb 4 DK
theorem keyI (n:Int) (h0:(Lit.int .i64 n).wf=true):keyOf Tryz.prog 3 (.int .i64 n)=some (litI n):=keyOf_int_mk Tryz.underlying3 h0
theorem litI_lit (n:Int):WideAt.IsKeyLit (litI n):=by
 unfold litI
 trivial
theorem litI_ne {m n:Int} (h:m≠n):litI m≠litI n:=fun e=>h (by unfold litI at e;injection e)
theorem isMap_put {D:DataW Nat} (h:IsMap D) (k:Lit) (d:DataW Nat):IsMap (D.put k d):=by
 obtain⟨es,rfl⟩:=h
 exact⟨_,rfl⟩
def isKind (n:Int):Bool:=decide (1≤n) && decide (n≤4)
theorem DK_at (n:Int):DK.atKey (litI n) .nil=if isKind n=true then .held n.toNat else .nil:=by
 have m0:IsMap (DataW.map (H:=Nat) []):=⟨_,rfl⟩
 have m1:=isMap_put m0 (litI 1) (.held 1)
 have m2:=isMap_put m1 (litI 2) (.held 2)
 have m3:=isMap_put m2 (litI 3) (.held 3)
 unfold DK
 by_cases h4:n=4
 ·subst h4
  rw[Maps.atKey_put_same m3 (litI_lit 4)];rfl
 rw[Maps.atKey_put_other (litI_ne h4)]
 by_cases h3:n=3
 ·subst h3
  rw[Maps.atKey_put_same m2 (litI_lit 3)];rfl
 rw[Maps.atKey_put_other (litI_ne h3)]
 by_cases h2:n=2
 ·subst h2
  rw[Maps.atKey_put_same m1 (litI_lit 2)];rfl
 rw[Maps.atKey_put_other (litI_ne h2)]
 by_cases h1:n=1
 ·subst h1
  rw[Maps.atKey_put_same m0 (litI_lit 1)];rfl
 rw[Maps.atKey_put_other (litI_ne h1),if_neg]
 ·rfl
 ·simp only[isKind,Bool.and_eq_true,decide_eq_true_eq]
  omega
theorem DK_has (n:Int):Maps.has DK (litI n)=isKind n:=by
 have h:=DK_at n
 cases hb:Maps.has DK (litI n) with
 | true=>
  cases hk:isKind n with
  | true=>rfl
  | false=>
   exfalso
   unfold DK at hb
   have e4:n≠4:=fun e=>by subst e;cases hk
   have e3:n≠3:=fun e=>by subst e;cases hk
   have e2:n≠2:=fun e=>by subst e;cases hk
   have e1:n≠1:=fun e=>by subst e;cases hk
   rw[Maps.has_put_other (litI_ne e4),Maps.has_put_other (litI_ne e3),Maps.has_put_other (litI_ne e2),Maps.has_put_other (litI_ne e1)] at hb
   cases hb
 | false=>
  cases hk:isKind n with
  | false=>rfl
  | true=>
   rw[hk,if_pos rfl,Maps.atKey_of_not_has hb] at h
   cases h
theorem KM.below {w w1:World} {mb:Nat} (h:KM w mb) (hb:RowKit.Below w.heap.size w w1):KM w1 mb:=by
 have hlt:=World.ownsMap.lt h
 obtain⟨es,clock,h1,r⟩:=h
 exact⟨es,clock,(hb.block mb hlt).trans h1,r⟩
theorem zeroK (w:World):(zeroValue 126).run Tryz.prog w=.ok (.agg #[.nilFunc,.nilFunc,.nilFunc,.nilFunc]) w:=by kernel_rfl
theorem held_kind {v:Value} {n:Int} {ps:List MemPlace} (hk:isKind n=true) (h:RK v=some (.held n.toNat,ps)):v=kindV n:=by
 simp only[isKind,Bool.and_eq_true,decide_eq_true_eq] at hk
 rcases RK_held h with⟨e,h⟩ | ⟨e,h⟩ | ⟨e,h⟩ | ⟨e,h⟩
 ·rw[h,show n=1 from by omega]
 ·rw[h,show n=2 from by omega]
 ·rw[h,show n=3 from by omega]
 ·rw[h,show n=4 from by omega]
theorem kindV_no {n:Int} (hk:isKind n=false):kindV n=.agg #[.nilFunc,.nilFunc,.nilFunc,.nilFunc]:=by
 unfold kindV
 rw[if_neg (fun e=>by subst e;cases hk),if_neg (fun e=>by subst e;cases hk),if_neg (fun e=>by subst e;cases hk),if_neg (fun e=>by subst e;cases hk)]
theorem KM.look {w:World} {mb:Nat} (h:KM w mb) (n:Int) (hn:(Lit.int .i64 n).wf=true):
  (Instr.lookup 127 (.map (some mb)) (.int .i64 n) true).run Tryz.prog w=.ok (.tuple #[kindV n,.bool (isKind n)]) w:=by
 obtain⟨es,clock,hb,F,_,hD⟩:=h
 have hat0:=DK_at n
 rcases Maps.fit_look (t:=127) true (int_keyed Tryz.underlying3) Tryz.underlying127 (zeroK w) hb F (keyI n hn) with⟨hrun,_,hat⟩ | ⟨e0,y,_,_,hrun,hRv,hat,_⟩
 ·have h1:=hat .nil
  have h2:=hat (.held 99)
  rw[← hD] at h1 h2
  cases hk:isKind n with
  | false=>rw[kindV_no hk];exact hrun
  | true=>
   rw[h1,hk,if_pos rfl] at hat0
   cases hat0
 ·have h1:=hat .nil
  rw[← hD,hat0] at h1
  cases hk:isKind n with
  | false=>
   have h2:=Maps.has_true_of_atKey hat
   rw[← hD,DK_has,hk] at h2
   cases h2
  | true=>
   rw[hk,if_pos rfl] at h1
   obtain⟨y1,y2⟩:=y
   have h1':DataW.held n.toNat=y1:=h1
   subst h1'
   have hv:=held_kind hk hRv
   rw[← hv]
   exact hrun
theorem KM.look1 {w:World} {mb:Nat} (h:KM w mb) (n:Int) (hn:(Lit.int .i64 n).wf=true) (hk:isKind n=true):
  (Instr.lookup 127 (.map (some mb)) (.int .i64 n) false).run Tryz.prog w=.ok (kindV n) w:=by
 obtain⟨v,ps,hrun,hR⟩:=World.ownsMap.lookup (t:=127) h (int_keyed Tryz.underlying3) Tryz.underlying127 (z:=.agg #[.nilFunc,.nilFunc,.nilFunc,.nilFunc]) (zeroK w) (zd:=.nil) (zp:=[]) RK0 (key:=.int .i64 n) (kl:=litI n) (keyI n hn)
 rw[DK_at,if_pos hk] at hR
 rw[← held_kind hk hR]
 exact hrun
theorem kinds_calls (w:World):Calls Tryz.prog 54 #[] w fun e w'=>∃mb,e=.returned (.map (some mb))∧KM w' mb∧RowKit.Below w.heap.size w w':=by
 have hmm:=@run_makeMap Tryz.prog
 have K:=int_keyed (P:=Tryz.prog) Tryz.underlying3
 have m0:=World.ownsMap_made w Tryz.prog 3 RK
 obtain⟨w1,r1,m1,g1⟩:=World.ownsMap.update (t:=127) m0 K Tryz.underlying127 (by decide) (key:=.int .i64 1) (val:=kindV 1) (keyI 1 (by decide)) RK1
 obtain⟨w2,r2,m2,g2⟩:=World.ownsMap.update (t:=127) m1 K Tryz.underlying127 (by decide) (key:=.int .i64 2) (val:=kindV 2) (keyI 2 (by decide)) RK2
 obtain⟨w3,r3,m3,g3⟩:=World.ownsMap.update (t:=127) m2 K Tryz.underlying127 (by decide) (key:=.int .i64 3) (val:=kindV 3) (keyI 3 (by decide)) RK3
 obtain⟨w4,r4,m4,g4⟩:=World.ownsMap.update (t:=127) m3 K Tryz.underlying127 (by decide) (key:=.int .i64 4) (val:=kindV 4) (keyI 4 (by decide)) RK4
 simp only[kindV,if_true,if_false,reduceIte,Int.reduceEq] at r1 r2 r3 r4
 have hb0:=below_alloc (RowKit.Below.refl w.heap.size w) (.map #[] 0)
 have hb1:=hb0.grown g1 hb0.size (fun k e=>by cases e;exact Nat.le_refl _)
 have hb2:=hb1.grown g2 hb1.size (fun k e=>by cases e;exact Nat.le_refl _)
 have hb3:=hb2.grown g3 hb2.size (fun k e=>by cases e;exact Nat.le_refl _)
 have hb4:=hb3.grown g4 hb3.size (fun k e=>by cases e;exact Nat.le_refl _)
 have HB:=ak hb4
 have HM:=ak m4
 clear m0 m1 m2 m3 m4 g1 g2 g3 g4 hb0 hb1 hb2 hb3 hb4 K
 go_enter Tryz.func54,Tryz.ntmps54
 go_wp2
 go_ret
 exact⟨_,rfl,HM.out,HB.out⟩
end Rc
end
section
namespace Ct
open Rc (Norm Norm.intro Norm.elim)
open Go.Shelf Sc Go.Proofs.YtcieieacfoaklaaGreat.Pure Lw Fr Ext Dk Pu
attribute [local go_sem] Oper.semAt_some
theorem chunk_more {k:Nat} (hk:0 < k):∀(f:Nat) (l:List Int),l.length≤f→chunk k (f+1) l=chunk k f l
 | 0,l,h=>by
  have:l=[]:=List.eq_nil_of_length_eq_zero (by omega)
  subst this
  unfold chunk
  rw[if_neg (by simp;omega)]
 | f+1,l,h=>by
  have e:∀g,chunk k (g+1) l=if k≤l.length then(l.take k::(chunk k g (l.drop k)).1,(chunk k g (l.drop k)).2) else([],l):=fun _=>rfl
  rw[e (f+1),e f]
  split
  ·rename_i hl
   rw[chunk_more hk f (l.drop k) (by rw[List.length_drop];omega)]
  ·rfl
theorem cutW_more {k:Int} (hk:1≤k) (l:List Int):chunk k.toNat (l.length+1) l=cutW k l:=chunk_more (by omega) _ _ (Nat.le_refl _)
theorem C_blk {w w':World} {A:Option Addr} {n:Nat} {l:List Int} (h:Kd.C (Kd.int .u8) w A n l) (hb:∀a,A=some a→w'.heap[a.block]? =w.heap[a.block]?):Kd.C (Kd.int .u8) w' A n l:=by
 have h1:=ints_of_C h
 refine C_of_ints ⟨h1.1,h1.2.1,fun h0=>?_⟩
 obtain⟨ad,e,hc⟩:=h1.2.2 h0
 refine⟨ad,e,fun j hj=>?_⟩
 have:=hc j hj
 have hbb:=hb ad e
 have e2:(ad.add j).block=ad.block:=by unfold Addr.add;split <;> rfl
 unfold World.cell? at this ⊢
 rw[e2] at this ⊢
 rw[hbb]
 exact this
theorem cut_runs (A:Option Addr) (c:Nat) (l:List Int) (k:Int) (h1:1≤k) (h2:k.toNat≤l.length) (hc:l.length≤c):
  (∀W:World,(Instr.slice 35 (.slice A l.length c) none (some (.int .i64 k)) none).run Tryz.prog W=.ok (.slice A (l.take k.toNat).length c) W)∧
  ∃A':Option Addr,(∀W:World,(Instr.slice 35 (.slice A l.length c) (some (.int .i64 k)) none none).run Tryz.prog W=.ok (.slice A' (l.drop k.toNat).length (c - k.toNat)) W)∧(∀a,A'=some a→∃b,A=some b∧a.block=b.block)∧
   ∀w,Kd.C (Kd.int .u8) w A l.length l→Kd.C (Kd.int .u8) w A (l.take k.toNat).length (l.take k.toNat)∧Kd.C (Kd.int .u8) w A' (l.drop k.toNat).length (l.drop k.toNat):=by
 obtain⟨inf,hinf,hisz⟩:∃i0,Tryz.prog.info? 5=some i0∧i0.size=1:=by
  obtain⟨i0,h,he⟩:=Option.map_eq_some_iff.1 Fr.info_u8
  simp only[Prod.mk.injEq] at he
  exact⟨i0,h,he.2.1⟩
 have e1:(l.take k.toNat).length=k.toNat:=by rw[List.length_take];omega
 have e2:(l.drop k.toNat).length=l.length - k.toNat:=List.length_drop
 refine⟨fun W=>by rw[e1];exact cut_to 35 5 .i64 Tryz.underlying35 hinf A l.length c k (by omega) (by omega) hc W,if c=k.toNat then A else A.map (·.add (k.toNat *1)),fun W=>by rw[e2];exact cut_from 35 5 .i64 Tryz.underlying35 hinf 1 hisz A l.length c k (by omega) (by omega) W,fun a ha=>?_,fun w h=>⟨?_,?_⟩⟩
 ·split at ha
  ·exact⟨a,ha,rfl⟩
  ·obtain⟨b,hb,rfl⟩:=Option.map_eq_some_iff.1 ha
   exact⟨b,hb,by unfold Addr.add;split <;> rfl⟩
 ·rw[e1]
  exact C_of_ints ((ints_of_C h).take_ k.toNat h2)
 ·rw[e2,Nat.mul_one]
  exact C_of_ints ((ints_of_C h).drop_ k.toNat h2 hc)
structure Hc (w0 W:World) (T cb b1:Nat) (k all:Int) (A:Option Addr) (c:Nat) (l:List Int):Prop where
 st:W.heap[cb]? =some (.cells #[.int .i64 k,.int .i64 all,.slice A l.length c] 117 (0,0))
 x1:W.heap[b1]? =some (.cells #[.pointer (some ⟨cb,0,none⟩)] 85 (0,0))
 rd:Kd.C (Kd.int .u8) W A l.length l
 cap:l.length≤c
 far:∀a,A=some a→w0.heap.size≤a.block∧a.block < T
 cbl:cb < w0.heap.size
 keep:Keeps (·=cb) w0 W
theorem Hc.below {w0 W W':World} {T cb b1:Nat} {k all:Int} {A:Option Addr} {c:Nat} {l:List Int} (h:Hc w0 W T cb b1 k all A c l) (hb:RowKit.Below W.heap.size W W'):Hc w0 W' T cb b1 k all A c l:=
 ⟨(hb.block _ (blk_lt h.st)).trans h.st,(hb.block _ (blk_lt h.x1)).trans h.x1,Kd.C_below h.rd hb,h.cap,h.far,h.cbl,h.keep.trans (Keeps.of_below hb)⟩
theorem Hc.cells {w0 W:World} {T cb b1:Nat} {k all:Int} {A:Option Addr} {c:Nat} {l:List Int} (h:Hc w0 W T cb b1 k all A c l):W.cell? ⟨b1,0,none⟩=some (.pointer (some ⟨cb,0,none⟩))∧W.cell? ⟨cb,0,none⟩=some (.int .i64 k)∧W.cell? ⟨cb,2,none⟩=some (.slice A l.length c):=
 ⟨(blk_cell h.x1 0).trans rfl,(blk_cell h.st 0).trans rfl,(blk_cell h.st 2).trans rfl⟩
theorem Hc.set {w0 W:World} {T cb b1:Nat} {k all:Int} {A A':Option Addr} {c c':Nat} {l l':List Int} (h:Hc w0 W T cb b1 k all A c l) (h1:b1≠cb) (hr:Kd.C (Kd.int .u8) W A' l'.length l') (hc:l'.length≤c') (hf:∀a,A'=some a→w0.heap.size≤a.block∧a.block < T):Hc w0 (W.setCell ⟨cb,2,none⟩ (.slice A' l'.length c')) T cb b1 k all A' c' l':=
 ⟨blk_put (cs:=#[.int .i64 k,.int .i64 all,.slice A l.length c]) h.st 2 _ rfl,blk_far h.x1 h1 _,C_blk hr (fun a ha=>Below.heap_setCell _ _ _ _ (by have h2:=hf a ha;have h3:=h.cbl;simp only;omega)),hc,hf,h.cbl,h.keep.set rfl⟩
theorem full_calls (cb:Nat) (w:World):Calls Tryz.prog 69 #[.pointer (some ⟨cb,0,none⟩)] w fun e w'=>e=.returned (.func (.func 125) #[] #[.pointer (some ⟨w.heap.size,0,none⟩)])∧w'=w.alloc (.cells #[.pointer (some ⟨cb,0,none⟩)] 85):=by
 go_enter Tryz.func69,Tryz.ntmps69
 go_wp2
 go_ret
 exact⟨by simp,rfl⟩
theorem full1_calls (w0:World) (T lb cb b1:Nat) (k all:Int) (hk:1≤k) (hk2:k≤4096) (hne:b1≠cb) (J:List (List Int)→Nat→World→Prop) (R:List (List Int)×List Int) (W:World) (fuel N0:Nat) (A0:Option Addr) (c0:Nat) (l0:List Int)
  (hm:l0.length≤140737488351232)
  (hJ1:∀pre N W W',J pre N W→N≤W.heap.size→RowKit.Below W.heap.size W W'→J pre N W')
  (hJ2:∀pre N W v,J pre N W→J pre N (W.setCell ⟨cb,2,none⟩ v))
  (hY:∀pre N ys A' c' A c l W1,J pre N W1→N≤W1.heap.size→Hc w0 W1 T cb b1 k all A c l→pre.length≤l0.length→Lw.Own W1 N (.slice A' ys.length c') ys→
   YieldAt Fence.wide 0 Tryz.prog lb #[.slice A' ys.length c'] W1 fun e W'=>e=.returned (.bool true)∧(∃N',N'≤W'.heap.size∧J (pre++[ys]) N' W')∧Hc w0 W' T cb b1 k all A c l)
  (h0:J [] N0 W) (hN0:N0≤W.heap.size) (hH:Hc w0 W T cb b1 k all A0 c0 l0) (hf:l0.length < fuel) (hR:chunk k.toNat fuel l0=R):
  Calls Tryz.prog 125 #[.func (.yield lb) #[] #[],.pointer (some ⟨b1,0,none⟩)] W fun e W'=>(∃v,e=.returned v)∧∃N A c,N≤W'.heap.size∧J R.1 N W'∧Hc w0 W' T cb b1 k all A c R.2:=by
 have HJ:=ak h0
 have HH:=ak hH
 have HR:=ak hR
 clear h0 hH hR
 go_enter Tryz.func125,Tryz.ntmps125
 go_wp2
 go_loopg [] fuel (fun kq wr=>∃pre l A c N,Aside0 (J pre N wr)∧Aside0 (N≤wr.heap.size)∧Aside0 (Hc w0 wr T cb b1 k all A c l)∧Aside0 (l.length < kq)∧Aside0 (pre++(chunk k.toNat kq l).1=R.1∧(chunk k.toNat kq l).2=R.2)∧Aside0 (pre.length+l.length≤l0.length))
 case atStart=>exact⟨[],l0,A0,c0,N0,HJ,⟨hN0⟩,HH,⟨hf⟩,⟨by rw[HR.out];exact⟨rfl,rfl⟩⟩,⟨by simp⟩⟩
 case round=>
  clear HJ HH HR hf
  obtain⟨pre,l,A,c,N,HJ,HN,HH,HK,HR,HP⟩:=hrel
  cases gk with
  | zero=>exact absurd HK.out (by omega)
  | succ gk=>
   obtain⟨x1,s0,s2⟩:=HH.out.cells
   by_cases hlt:k.toNat≤l.length
   ·have d1:decide ((l.length:Int)≥k)=true:=decide_eq_true (by omega)
    have d2:decide (k≤(l.length:Int))=true:=decide_eq_true (by omega)
    obtain⟨hto,A1,hfrom,hfar1,hrd1⟩:=cut_runs A c l k hk hlt HH.out.cap
    have ht:(chunk k.toNat (gk+1) l)=(l.take k.toNat::(chunk k.toNat gk (l.drop k.toNat)).1,(chunk k.toNat gk (l.drop k.toNat)).2):=by
     show(if k.toNat≤l.length then _ else _)=_
     rw[if_pos hlt]
    have hr:=HR.out
    rw[ht] at hr
    have hl1:(l.take k.toNat).length≤l.length:=by rw[List.length_take];omega
    have hl2:(l.drop k.toNat).length+1≤l.length:=by rw[List.length_drop];omega
    have hcd:(l.drop k.toNat).length≤c - k.toNat:=by have:=HH.out.cap;rw[List.length_drop];omega
    generalize l.take k.toNat=ys at hto hr hrd1 hl1
    generalize l.drop k.toNat=rs at hfrom hr hrd1 hl2 hcd
    have HR1:=ak hr
    have HL1:=ak hl1
    have HL2:=ak hl2
    have HCD:=ak hcd
    have HF1:=ak hfar1
    have HD1:=ak hrd1
    clear hr HR ht hlt hfar1 hrd1 hl1 hl2 hcd
    go_wp2
    go_quiet (fail)
    have HB0:=ak (pw_below_drewN (RowKit.Below.refl wr.heap.size wr) nq)
    have HH1:=ak (HH.out.below HB0.out)
    have HJ1:=ak (hJ1 _ _ _ _ HJ.out HN.out HB0.out)
    have HN1:=ak (Nat.le_trans HN.out HB0.out.size)
    clear HJ HN HH HB0 x1 s0 s2
    generalize wr.drewN nq=wa at HH1 HJ1 HN1 ⊢
    obtain⟨x1,s0,s2⟩:=HH1.out.cells
    have HCL:=ak (fun W' (hW':RowKit.Below wa.heap.size wa W')=>Fr.clone_calls A c ys W' (by have:=HP.out;have:=HL1.out;omega) (Kd.C_below (HD1.out wa HH1.out.rd).1 hW'))
    go_wp2
    go_region_held3 (fun w'=>w'.cell? ⟨b1,0,none⟩=some (.pointer (some ⟨cb,0,none⟩))∧w'.cell? ⟨cb,0,none⟩=some (.int .i64 k)∧w'.cell? ⟨cb,2,none⟩=some (.slice A l.length c))
     (first | go_keep | exact((HH1.out.below (below_drew1 (RowKit.Below.refl _ _))).below B2.out).cells | fail)
     ((go_at_call 78;(with_reducible refine(HCL.out _ (below_drew1 (RowKit.Below.refl _ _))).mono ?_);rintro e w1 ⟨v,rfl,ho,hb⟩;have HO2:=ak ho;have B2:=ak hb;clear ho hb))
    all_goals
     obtain⟨A2,c2,rfl⟩:=own_slice HO2.out
     have HH2:=ak ((HH1.out.below (below_drew1 (RowKit.Below.refl _ _))).below B2.out)
     have HJ3:=ak (hJ1 _ _ _ _ (hJ1 _ _ _ _ HJ1.out HN1.out (below_drew1 (RowKit.Below.refl _ _))) HN1.out B2.out)
     have HN3:=ak (Nat.le_trans HN1.out (Nat.le_trans (below_drew1 (RowKit.Below.refl wa.heap.size wa)).size B2.out.size))
     have HO3:=ak (own_weaken HO2.out HN1.out)
     clear HH1 HJ1 HN1 HO2 B2 x1 s0 s2 HCL hto
     obtain⟨x1,s0,s2⟩:=HH2.out.cells
     have z2:=blk_frozen HH2.out.st 2
     have hset:=HH2.out.set (A':=A1) (c':=c - k.toNat) (l':=rs) hne (HD1.out _ HH2.out.rd).2 HCD.out (fun a ha=>by obtain⟨b,hb,e⟩:=HF1.out a ha;rw[e];exact HH2.out.far b hb)
     have HH4:=ak hset
     have HJ4:=ak (hJ2 _ _ _ (.slice A1 rs.length (c - k.toNat)) HJ3.out)
     have HSB:=ak (show(Value.slice A2 ys.length c2).ownBlock≠some cb from fun e=>by
      obtain⟨cells,hc⟩:=own_typed HO3.out cb e
      rw[HH2.out.st] at hc
      injection hc with hc
      injection hc with _ ht
      exact absurd ht (by decide))
     clear hset
     go_wp2
     refine Code.wp_mono (Q:=Norm fun a' W=>a'={tmps:=#[.func (.yield lb) #[] #[],.pointer (some ⟨b1,0,none⟩),undef,.slice A2 ys.length c2,.pointer (some ⟨cb,0,none⟩),.pointer (some ⟨cb,0,none⟩),.pointer (some ⟨cb,2,none⟩),.slice A l.length c,.int .i64 l.length,.pointer (some ⟨cb,0,none⟩),.pointer (some ⟨cb,0,none⟩),.pointer (some ⟨cb,0,none⟩),.int .i64 k,.bool true,.pointer (some ⟨cb,0,none⟩),.pointer (some ⟨cb,0,none⟩),.pointer (some ⟨cb,2,none⟩),.slice A l.length c,.pointer (some ⟨cb,0,none⟩),.pointer (some ⟨cb,0,none⟩),.pointer (some ⟨cb,0,none⟩),.int .i64 k,.slice A ys.length c,.slice A2 ys.length c2,.pointer (some ⟨cb,0,none⟩),.pointer (some ⟨cb,0,none⟩),.pointer (some ⟨cb,0,none⟩),.pointer (some ⟨cb,2,none⟩),.slice A l.length c,.pointer (some ⟨cb,0,none⟩),.pointer (some ⟨cb,0,none⟩),.pointer (some ⟨cb,0,none⟩),.int .i64 k,.slice A1 rs.length (c - k.toNat),.pointer (some ⟨cb,0,none⟩),.pointer (some ⟨cb,2,none⟩),u36,u37,u38,u39],defers:=[]}∧W=(w1.setCell ⟨cb,2,none⟩ (.slice A1 rs.length (c - k.toNat))).drew) (Norm.elim ?mono) ?reg
     case reg=>
      go_region_with (fail)
      all_goals exact Norm.intro ⟨rfl,rfl⟩
     case mono=>
      rintro a' W ⟨rfl,rfl⟩
      have HH5:=ak (HH4.out.below (below_drew1 (RowKit.Below.refl _ _)))
      have HN4:N≤(w1.setCell ⟨cb,2,none⟩ (.slice A1 rs.length (c - k.toNat))).heap.size:=Nat.le_trans HN3.out (KeepsWalks.setCell _ _ _).size
      have HJ5:=ak (hJ1 _ _ _ _ HJ4.out HN4 (below_drew1 (RowKit.Below.refl _ _)))
      have HN5:=ak (show N≤(w1.setCell ⟨cb,2,none⟩ (.slice A1 rs.length (c - k.toNat))).drew.heap.size from HN4)
      have HO5:=ak (show Lw.Own (w1.setCell ⟨cb,2,none⟩ (.slice A1 rs.length (c - k.toNat))).drew N (.slice A2 ys.length c2) ys from own_setCell HO3.out (p:=⟨cb,2,none⟩) (fun e=>HSB.out e.symm) (.slice A1 rs.length (c - k.toNat)))
      clear HH2 HJ3 HN3 HO3 HH4 HJ4 HN4 x1 s0 s2 z2 HSB
      generalize (w1.setCell ⟨cb,2,none⟩ (.slice A1 rs.length (c - k.toNat))).drew=w2 at HH5 HJ5 HN5 HO5 ⊢
      obtain⟨fn,tmps,assign,body,hy,hR5⟩:=hY pre N ys A2 c2 A1 (c - k.toNat) rs w2 HJ5.out HN5.out HH5.out (by have:=HP.out;omega) HO5.out
      go_upto_region 3 with(fail)
      refine(wpIn_wide (n:=1)).1 ?_
      gi_wp2
      refine hR5.mono ?_
      rintro e W' ⟨rfl,⟨N',hN',hJ'⟩,hH'⟩
      gi_wp2
      go_wp2
      go_roundg gk
      case measure=>omega
      case rel=>exact⟨pre++[ys],rs,A1,c - k.toNat,N',⟨hJ'⟩,⟨hN'⟩,⟨hH'⟩,⟨by have:=HK.out;have:=HL2.out;omega⟩,⟨by simpa using HR1.out⟩,⟨by have:=HP.out;have:=HL2.out;rw[List.length_append,List.length_singleton];omega⟩⟩
   ·have d1:decide ((l.length:Int)≥k)=false:=decide_eq_false (by omega)
    have d2:decide (k≤(l.length:Int))=false:=decide_eq_false (by omega)
    have hr:=HR.out
    have ht:(chunk k.toNat (gk+1) l)=([],l):=by
     show(if k.toNat≤l.length then _ else _)=_
     rw[if_neg hlt]
    rw[ht,List.append_nil] at hr
    have HR1:=ak hr
    clear hr HR ht hlt hY
    go_wp2
    go_quiet (fail)
    have HB0:=ak (pw_below_drewN (RowKit.Below.refl wr.heap.size wr) nq)
    have HH1:=ak (HH.out.below HB0.out)
    have HJ1:=ak (hJ1 _ _ _ _ HJ.out HN.out HB0.out)
    go_wp2
    go_end0
    refine⟨⟨_,rfl⟩,N,A,c,Nat.le_trans HN.out HB0.out.size,?_,?_⟩
    ·rw[← HR1.out.1];exact HJ1.out
    ·rw[← HR1.out.2];exact HH1.out
end Ct
end
section
namespace Rc
open Go.Maps Fr Ext Pt

abbrev Re:=S38
abbrev Lo:=S57
def recC (R:Re) (A5:Option Addr) (c5:Nat) (A6:Option Addr) (c6:Nat):Array Value:=
 #[.int .i64 R.f0,.string R.f1,.int .i64 R.f2,.int .i64 R.f3,.int .i64 R.f4,.slice A5 R.f5.length c5,.slice A6 R.f6.length c6]
def withinB (n a b:Int):Bool:=decide (a≤n) && decide (n≤b)
theorem within_calls (n a b:Int) (w:World):Calls Tryz.prog 52 #[.int .i64 n,.int .i64 a,.int .i64 b] w fun e w'=>e=.returned (.bool (withinB n a b))∧w'=w:=by
 unfold withinB
 by_cases h1:a≤n
 ·have d1:decide (n≥a)=true:=decide_eq_true h1
  rw[decide_eq_true h1]
  by_cases h2:n≤b
  ·have d2:decide (n≤b)=true:=decide_eq_true h2
   rw[decide_eq_true h2]
   clear h1 h2
   go_enter Tryz.func52,Tryz.ntmps52
   go_wp2
   go_ret
   exact⟨rfl,rfl⟩
  ·have d2:decide (n≤b)=false:=decide_eq_false h2
   rw[decide_eq_false h2]
   clear h1 h2
   go_enter Tryz.func52,Tryz.ntmps52
   go_wp2
   go_ret
   exact⟨rfl,rfl⟩
 ·have d1:decide (n≥a)=false:=decide_eq_false h1
  rw[decide_eq_false h1]
  clear h1
  go_enter Tryz.func52,Tryz.ntmps52
  go_wp2
  go_ret
  exact⟨rfl,rfl⟩
def keyB (s:ByteArray):Bool:=withinB (s.size:Int) 1 64
theorem key_calls (s:ByteArray) (w:World):Calls Tryz.prog 28 #[.string s] w fun e w'=>e=.returned (.bool (keyB s))∧w'=w:=by
 go_enter Tryz.func28,Tryz.ntmps28
 go_wp2_with (go_at_call 52;(with_reducible refine(within_calls _ _ _ _).mono ?_);rintro e w1 ⟨rfl,rfl⟩)
 go_ret
 exact⟨rfl,rfl⟩
section
variable {w:World} {rb:Nat} {R:Re} {A5 A6:Option Addr} {c5 c6:Nat}
def pieceFineM (R:Re):Bool:=withinB R.f3 0 511 && withinB (R.f6.length:Int) 1 4096
theorem pieceFine_calls (hr:w.heap[rb]? =some (.cells (recC R A5 c5 A6 c6) 119 (0,0))):
  Calls Tryz.prog 82 #[.pointer (some ⟨rb,0,none⟩)] w fun e w'=>e=.returned (.bool (pieceFineM R))∧w'=w:=by
 have x3:=bq hr 3 (.int .i64 R.f3)
 have x6:=bq hr 6 (.slice A6 R.f6.length c6)
 clear hr
 unfold pieceFineM
 obtain⟨b1,hb1⟩:∃b,withinB R.f3 0 511=b:=⟨_,rfl⟩
 obtain⟨b2,hb2⟩:∃b,withinB (R.f6.length:Int) 1 4096=b:=⟨_,rfl⟩
 have W1:=ak (fun W=>by have h:=within_calls R.f3 0 511 W;rw[hb1] at h;exact h)
 have W2:=ak (fun W=>by have h:=within_calls (R.f6.length:Int) 1 4096 W;rw[hb2] at h;exact h)
 rw[hb1,hb2]
 clear hb1 hb2
 cases b1 with
 | false=>
  go_enter Tryz.func82,Tryz.ntmps82
  go_wp2_with (go_at_call 52;(with_reducible refine(W1.out _).mono ?_);rintro e w1 ⟨rfl,rfl⟩)
  go_ret
  exact⟨rfl,rfl⟩
 | true=>
  go_enter Tryz.func82,Tryz.ntmps82
  go_wp2_with (go_at_call 52;(with_reducible first | refine(W1.out _).mono ?_ | refine(W2.out _).mono ?_);rintro e w1 ⟨rfl,rfl⟩)
  go_ret
  exact⟨rfl,rfl⟩
def inlineFineM (R:Re):Bool:=keyB R.f1 && decide (R.f6.length≤4096)
theorem inlineFine_calls (hr:w.heap[rb]? =some (.cells (recC R A5 c5 A6 c6) 119 (0,0))):
  Calls Tryz.prog 90 #[.pointer (some ⟨rb,0,none⟩)] w fun e w'=>e=.returned (.bool (inlineFineM R))∧w'=w:=by
 have x1:=bq hr 1 (.string R.f1)
 have x6:=bq hr 6 (.slice A6 R.f6.length c6)
 clear hr
 unfold inlineFineM
 obtain⟨b1,hb1⟩:∃b,keyB R.f1=b:=⟨_,rfl⟩
 have W1:=ak (fun W=>by have h:=key_calls R.f1 W;rw[hb1] at h;exact h)
 rw[hb1]
 clear hb1
 cases b1 with
 | false=>
  go_enter Tryz.func90,Tryz.ntmps90
  go_wp2_with (go_at_call 28;(with_reducible refine(W1.out _).mono ?_);rintro e w1 ⟨rfl,rfl⟩)
  go_ret
  exact⟨rfl,rfl⟩
 | true=>
  by_cases h:R.f6.length≤4096
  ·have d1:decide ((R.f6.length:Int)≤4096)=true:=decide_eq_true (by omega)
   rw[decide_eq_true h]
   clear h
   go_enter Tryz.func90,Tryz.ntmps90
   go_wp2_with (go_at_call 28;(with_reducible refine(W1.out _).mono ?_);rintro e w1 ⟨rfl,rfl⟩)
   go_ret
   exact⟨rfl,rfl⟩
  ·have d1:decide ((R.f6.length:Int)≤4096)=false:=decide_eq_false (by omega)
   rw[decide_eq_false h]
   clear h
   go_enter Tryz.func90,Tryz.ntmps90
   go_wp2_with (go_at_call 28;(with_reducible refine(W1.out _).mono ?_);rintro e w1 ⟨rfl,rfl⟩)
   go_ret
   exact⟨rfl,rfl⟩
theorem tombFine_calls (hr:w.heap[rb]? =some (.cells (recC R A5 c5 A6 c6) 119 (0,0))):
  Calls Tryz.prog 94 #[.pointer (some ⟨rb,0,none⟩)] w fun e w'=>e=.returned (.bool (keyB R.f1))∧w'=w:=by
 have x1:=bq hr 1 (.string R.f1)
 clear hr
 go_enter Tryz.func94,Tryz.ntmps94
 go_wp2_with (go_at_call 28;(with_reducible refine(key_calls _ _).mono ?_);rintro e w1 ⟨rfl,rfl⟩)
 go_ret
 exact⟨rfl,rfl⟩
def hasM (n:Int) (R:Re):Re:=
 if n=1 then⟨0,⟨#[]⟩,R.f2,R.f3,0,[],R.f6⟩ else if n=2 then⟨0,R.f1,R.f2,0,R.f4,R.f5,[]⟩ else if n=3 then⟨0,R.f1,0,0,0,[],R.f6⟩ else⟨0,R.f1,0,0,0,[],[]⟩
def piece1T:Bool×List (List Nat×List Nat):=(true,[([],[]),([0],[0]),([1],[1]),([2],[2]),([],[]),([4],[4]),([5],[5]),([6],[6]),([],[]),([8],[8]),([9],[9]),([10],[10]),([3,7,11],[3,7,11]),([12,0,1,2,3,4,5,6,7,8,9,10,11,12],[12])])
def piece1B:List Nat:=[0,1,3,7,0,16,48,112,0,256,768,1792,4095,8191]
theorem piece1tab:rtab .any (opsOf Tryz.f83 1)=piece1T:=by kernel_rfl
theorem piece1bits:waitsOk piece1T.2 piece1B=true:=by kernel_rfl
theorem pieceHas_calls (hr:w.heap[rb]? =some (.cells (recC R A5 c5 A6 c6) 119 (0,0))):
  Calls Tryz.prog 83 #[.pointer (some ⟨rb,0,none⟩)] w fun e w'=>e=.returned (.agg (recC (hasM 1 R) none 0 A6 c6))∧RowKit.Below w.heap.size w w':=by
 have hl:=blk_lt hr
 have HR:=ak hr
 clear hr
 go_enter Tryz.func83,Tryz.ntmps83
 go_upto_region 1 with(fail)
 refine st_ 14 (S:=(fun w'=>w'.heap[rb]? =some (.cells (recC R A5 c5 A6 c6) 119 (0,0)))) (ds:=[]) (by kernel_rfl) rfl (by kernel_rfl) (blk_drew (blk_alloc HR.out _)) (fun hHeld=>?_);refine with_tabW piece1tab piece1bits (fun HT_ HW_=>?_)
 refine fl_ [0,3,1,1,4,3,2,5,7,4,7,23,5,8,55,6,9,119,8,11,375,9,12,887,10,13,1911] ?_
 iterate 9 refine pz_ HT_ ?_
 refine fe_ ?_
 refine tk_ 3 1919 (N:=some 6) (v:=?_) (a':=?_) HT_ HW_ rfl rfl (.inl ⟨by rfl,?_⟩) hHeld ?_ ?_
 rotate_left
 ·rintro w' hs
  have x:=bq hs 2 (.int .i64 R.f2)
  go_simp
  with_reducible rfl
 rotate_left
 ·simp only[Act.put,zq1,zq2,zq3,i64_w,i32_w]
  rfl
 refine tk_ 7 2047 (N:=some 10) (v:=?_) (a':=?_) HT_ HW_ rfl rfl (.inl ⟨by rfl,?_⟩) hHeld ?_ ?_
 rotate_left
 ·rintro w' hs
  have x:=bq hs 3 (.int .i64 R.f3)
  go_simp
  with_reducible rfl
 rotate_left
 ·simp only[Act.put,zq1,zq2,zq3,i64_w,i32_w]
  rfl
 refine tk_ 11 4095 (N:=some 14) (v:=?_) (a':=?_) HT_ HW_ rfl rfl (.inl ⟨by rfl,?_⟩) hHeld ?_ ?_
 rotate_left
 ·rintro w' hs
  have x:=bq hs 6 (.slice A6 R.f6.length c6)
  go_simp
  with_reducible rfl
 rotate_left
 ·simp only[Act.put,zq1,zq2,zq3,i64_w,i32_w]
  rfl
 refine fl_ [12,15,8191] ?_
 refine pz_ HT_ ?_
 refine fe_ ?_
 refine on_ 13 16383 none HT_ rfl rfl (by kernel_rfl) (by decide) (fun K hK=>?_)
 refine Rc.store_step rfl (by go_simp;rfl) ?_
 refine hK.out _ _ ((blk_drew (blk_alloc HR.out _))) (fun hHeld=>?_)
 clear hK K
 refine dz_ HT_ ?_
 go_wp2
 refine bodyPost_ret (results_cell_row rfl _ _ w.heap.size 119 (recC (hasM 1 R) none 0 A6 c6) (0,0) _ rfl (blk_drew (heap_alloc_new w _)) Tryz.underlying119 rfl (by kernel_rfl)) rfl ?_
 exact⟨rfl,(below_alloc (RowKit.Below.refl _ _) _).drew⟩
def root1T:Bool×List (List Nat×List Nat):=(true,[([],[]),([0],[0]),([1],[1]),([2],[2]),([],[]),([4],[4]),([5],[5]),([6],[6]),([],[]),([8],[8]),([9],[9]),([10],[10]),([],[]),([12],[12]),([13],[13]),([14],[14]),([3,7,11,15],[3,7,11,15]),([16,0,1,2,3,4,5,6,7,8,9,10,11,12,13,14,15,16],[16])])
def root1B:List Nat:=[0,1,3,7,0,16,48,112,0,256,768,1792,0,4096,12288,28672,65535,131071]
theorem root1tab:rtab .any (opsOf Tryz.f87 1)=root1T:=by kernel_rfl
theorem root1bits:waitsOk root1T.2 root1B=true:=by kernel_rfl
theorem rootHas_calls (hr:w.heap[rb]? =some (.cells (recC R A5 c5 A6 c6) 119 (0,0))):
  Calls Tryz.prog 87 #[.pointer (some ⟨rb,0,none⟩)] w fun e w'=>e=.returned (.agg (recC (hasM 2 R) A5 c5 none 0))∧RowKit.Below w.heap.size w w':=by
 have hl:=blk_lt hr
 have HR:=ak hr
 clear hr
 go_enter Tryz.func87,Tryz.ntmps87
 go_upto_region 1 with(fail)
 refine st_ 18 (S:=(fun w'=>w'.heap[rb]? =some (.cells (recC R A5 c5 A6 c6) 119 (0,0)))) (ds:=[]) (by kernel_rfl) rfl (by kernel_rfl) (blk_drew (blk_alloc HR.out _)) (fun hHeld=>?_);refine with_tabW root1tab root1bits (fun HT_ HW_=>?_)
 refine fl_ [0,3,1,1,4,3,2,5,7,4,7,23,5,8,55,6,9,119,8,11,375,9,12,887,10,13,1911,12,15,6007,13,16,14199,14,17,30583] ?_
 iterate 12 refine pz_ HT_ ?_
 refine fe_ ?_
 refine tk_ 3 30591 (N:=some 6) (v:=?_) (a':=?_) HT_ HW_ rfl rfl (.inl ⟨by rfl,?_⟩) hHeld ?_ ?_
 rotate_left
 ·rintro w' hs
  have x:=bq hs 1 (.string R.f1)
  go_simp
  with_reducible rfl
 rotate_left
 ·simp only[Act.put,zq1,zq2,zq3,i64_w,i32_w]
  rfl
 refine tk_ 7 30719 (N:=some 10) (v:=?_) (a':=?_) HT_ HW_ rfl rfl (.inl ⟨by rfl,?_⟩) hHeld ?_ ?_
 rotate_left
 ·rintro w' hs
  have x:=bq hs 2 (.int .i64 R.f2)
  go_simp
  with_reducible rfl
 rotate_left
 ·simp only[Act.put,zq1,zq2,zq3,i64_w,i32_w]
  rfl
 refine tk_ 11 32767 (N:=some 14) (v:=?_) (a':=?_) HT_ HW_ rfl rfl (.inl ⟨by rfl,?_⟩) hHeld ?_ ?_
 rotate_left
 ·rintro w' hs
  have x:=bq hs 4 (.int .i64 R.f4)
  go_simp
  with_reducible rfl
 rotate_left
 ·simp only[Act.put,zq1,zq2,zq3,i64_w,i32_w]
  rfl
 refine tk_ 15 65535 (N:=some 18) (v:=?_) (a':=?_) HT_ HW_ rfl rfl (.inl ⟨by rfl,?_⟩) hHeld ?_ ?_
 rotate_left
 ·rintro w' hs
  have x:=bq hs 5 (.slice A5 R.f5.length c5)
  go_simp
  with_reducible rfl
 rotate_left
 ·simp only[Act.put,zq1,zq2,zq3,i64_w,i32_w]
  rfl
 refine fl_ [16,19,131071] ?_
 refine pz_ HT_ ?_
 refine fe_ ?_
 refine on_ 17 262143 none HT_ rfl rfl (by kernel_rfl) (by decide) (fun K hK=>?_)
 refine Rc.store_step rfl (by go_simp;rfl) ?_
 refine hK.out _ _ ((blk_drew (blk_alloc HR.out _))) (fun hHeld=>?_)
 clear hK K
 refine dz_ HT_ ?_
 go_wp2
 refine bodyPost_ret (results_cell_row rfl _ _ w.heap.size 119 (recC (hasM 2 R) A5 c5 none 0) (0,0) _ rfl (blk_drew (heap_alloc_new w _)) Tryz.underlying119 rfl (by kernel_rfl)) rfl ?_
 exact⟨rfl,(below_alloc (RowKit.Below.refl _ _) _).drew⟩
def inline1T:Bool×List (List Nat×List Nat):=(true,[([],[]),([0],[0]),([1],[1]),([2],[2]),([],[]),([4],[4]),([5],[5]),([6],[6]),([3,7],[3,7]),([8,0,1,2,3,4,5,6,7,8],[8])])
def inline1B:List Nat:=[0,1,3,7,0,16,48,112,255,511]
theorem inline1tab:rtab .any (opsOf Tryz.f91 1)=inline1T:=by kernel_rfl
theorem inline1bits:waitsOk inline1T.2 inline1B=true:=by kernel_rfl
theorem inlineHas_calls (hr:w.heap[rb]? =some (.cells (recC R A5 c5 A6 c6) 119 (0,0))):
  Calls Tryz.prog 91 #[.pointer (some ⟨rb,0,none⟩)] w fun e w'=>e=.returned (.agg (recC (hasM 3 R) none 0 A6 c6))∧RowKit.Below w.heap.size w w':=by
 have hl:=blk_lt hr
 have HR:=ak hr
 clear hr
 go_enter Tryz.func91,Tryz.ntmps91
 go_upto_region 1 with(fail)
 refine st_ 10 (S:=(fun w'=>w'.heap[rb]? =some (.cells (recC R A5 c5 A6 c6) 119 (0,0)))) (ds:=[]) (by kernel_rfl) rfl (by kernel_rfl) (blk_drew (blk_alloc HR.out _)) (fun hHeld=>?_);refine with_tabW inline1tab inline1bits (fun HT_ HW_=>?_)
 refine fl_ [0,3,1,1,4,3,2,5,7,4,7,23,5,8,55,6,9,119] ?_
 iterate 6 refine pz_ HT_ ?_
 refine fe_ ?_
 refine tk_ 3 127 (N:=some 6) (v:=?_) (a':=?_) HT_ HW_ rfl rfl (.inl ⟨by rfl,?_⟩) hHeld ?_ ?_
 rotate_left
 ·rintro w' hs
  have x:=bq hs 1 (.string R.f1)
  go_simp
  with_reducible rfl
 rotate_left
 ·simp only[Act.put,zq1,zq2,zq3,i64_w,i32_w]
  rfl
 refine tk_ 7 255 (N:=some 10) (v:=?_) (a':=?_) HT_ HW_ rfl rfl (.inl ⟨by rfl,?_⟩) hHeld ?_ ?_
 rotate_left
 ·rintro w' hs
  have x:=bq hs 6 (.slice A6 R.f6.length c6)
  go_simp
  with_reducible rfl
 rotate_left
 ·simp only[Act.put,zq1,zq2,zq3,i64_w,i32_w]
  rfl
 refine fl_ [8,11,511] ?_
 refine pz_ HT_ ?_
 refine fe_ ?_
 refine on_ 9 1023 none HT_ rfl rfl (by kernel_rfl) (by decide) (fun K hK=>?_)
 refine Rc.store_step rfl (by go_simp;rfl) ?_
 refine hK.out _ _ ((blk_drew (blk_alloc HR.out _))) (fun hHeld=>?_)
 clear hK K
 refine dz_ HT_ ?_
 go_wp2
 refine bodyPost_ret (results_cell_row rfl _ _ w.heap.size 119 (recC (hasM 3 R) none 0 A6 c6) (0,0) _ rfl (blk_drew (heap_alloc_new w _)) Tryz.underlying119 rfl (by kernel_rfl)) rfl ?_
 exact⟨rfl,(below_alloc (RowKit.Below.refl _ _) _).drew⟩
theorem tombHas_calls (hr:w.heap[rb]? =some (.cells (recC R A5 c5 A6 c6) 119 (0,0))):
  Calls Tryz.prog 95 #[.pointer (some ⟨rb,0,none⟩)] w fun e w'=>e=.returned (.agg (recC (hasM 4 R) none 0 none 0))∧RowKit.Below w.heap.size w w':=by
 have x1:=bq hr 1 (.string R.f1)
 have hl:=blk_lt hr
 clear hr
 go_enter Tryz.func95,Tryz.ntmps95
 go_wp2
 refine bodyPost_ret (results_cell_row rfl _ _ w.heap.size 119 (recC (hasM 4 R) none 0 none 0) (0,0) _ rfl (heap_alloc_new w _) Tryz.underlying119 rfl (by kernel_rfl)) rfl ?_
 exact⟨rfl,below_alloc (RowKit.Below.refl _ _) _⟩
end
end Rc
end
section
namespace Rc
open Go.Maps Fr Ext Pt Dk

structure GetB (w0 w:World) (bb:Nat) (bs:List Int):Prop where
 bel:RowKit.Below w0.heap.size w0 w
 b0:w0.heap.size≤bb
 bk:∃A c,w.heap[bb]? =some (.cells #[.slice A bs.length c] 120 (0,0))∧bs.length≤c∧Kd.C (Kd.int .u8) w0 A bs.length bs
theorem GetB.keeps {w0 w w1:World} {bb:Nat} {F:Nat→Prop} {bs:List Int} (h:GetB w0 w bb bs) (hk:Keeps F w w1) (hF:∀k,F k→w0.heap.size≤k) (hb:¬F bb):GetB w0 w1 bb bs:=by
 obtain⟨A,c,h1,h2,h3⟩:=h.bk
 refine⟨⟨hk.os.trans h.bel.os,hk.tape.trans h.bel.tape,hk.output.trans h.bel.output,Nat.le_trans h.bel.size hk.size,fun k hlt=>?_⟩,h.b0,A,c,hk.obj h1 hb,h2,h3⟩
 exact(hk.block k (Nat.lt_of_lt_of_le hlt h.bel.size) (fun e=>Nat.not_lt.2 (hF k e) hlt)).trans (h.bel.block k hlt)
theorem take_calls {w0 w:World} {bb:Nat} {bs:List Int} (n:Int) (hn:0≤n) (hl:bs.length≤1000000000) (h:GetB w0 w bb bs):
  Calls Tryz.prog 156 #[.pointer (some ⟨bb,0,none⟩),.int .i64 n] w fun e w'=>
   (bs.length < n.toNat∧e=.returned (.tuple #[.slice none 0 0,.bool false])∧w'=w)∨
   (n.toNat≤bs.length∧∃A c,e=.returned (.tuple #[.slice A (bs.take n.toNat).length c,.bool true])∧(bs.take n.toNat).length≤c∧Kd.C (Kd.int .u8) w0 A (bs.take n.toNat).length (bs.take n.toNat)∧GetB w0 w' bb (bs.drop n.toNat)∧Keeps (·=bb) w w'):=by
 obtain⟨A,c,hbk,hc,hC⟩:=h.bk
 have x0:=bq hbk 0 (.slice A bs.length c)
 have f0:=blk_frozen hbk 0
 by_cases hs:(bs.length:Int) < n
 ·have d1:decide ((bs.length:Int) < n)=true:=decide_eq_true hs
  have HS:=ak (show bs.length < n.toNat by omega)
  clear hs hn hl h hbk hc hC
  go_enter Tryz.func156,Tryz.ntmps156
  go_wp2
  go_ret2
  exact .inl ⟨HS.out,rfl,rfl⟩
 ·have d1:decide ((bs.length:Int) < n)=false:=decide_eq_false hs
  have hm:n≤(bs.length:Int):=by omega
  obtain⟨inf,hinf,hisz⟩:∃i0,Tryz.prog.info? 5=some i0∧i0.size=1:=by
   obtain⟨i0,h,he⟩:=Option.map_eq_some_iff.1 info5
   simp only[Prod.mk.injEq] at he
   exact⟨i0,h,he.2.1⟩
  obtain⟨t1,t2,t3⟩:=print_take_int (P:=Tryz.prog) (k:=.u8) 120 5 Tryz.underlying120 hinf hisz A c bs n hn hm hc
  obtain⟨A',s1,s2,s3⟩:=print_drop_of (P:=Tryz.prog) (Value.int .u8) (0:Int) 120 5 .i64 Tryz.underlying120 hinf hisz A c bs n hn hm hc
  generalize bs.take n.toNat=z at t1 t2 t3 ⊢
  generalize bs.drop n.toNat=y at s1 s2 s3 ⊢
  have HT:=ak (C_of_ints (t2 w0 (ints_of_C hC)))
  have HD:=ak (C_of_ints (s2 w0 (ints_of_C hC)))
  have HT3:=ak t3
  have HD3:=ak s3
  have HH:=ak h
  have HBK:=ak hbk
  have HM:=ak (show n.toNat≤bs.length by omega)
  clear hs hn hl h hbk hc hC hm hinf hisz t2 s2 t3 s3
  go_enter Tryz.func156,Tryz.ntmps156
  go_wp2
  go_ret2
  refine .inr ⟨HM.out,A,c,rfl,HT3.out,HT.out,?_,(Keeps.refl _ _).set rfl⟩
  exact⟨HH.out.bel.setCell (p:=⟨bb,0,none⟩) HH.out.b0 _,HH.out.b0,A',_,blk_put HBK.out 0 _ rfl,HD3.out,HD.out⟩
theorem take_short {w0 w:World} {bb:Nat} {bs:List Int} (n:Nat) (hl:bs.length≤1000000000) (h:GetB w0 w bb bs) (hs:bs.length < n):
  Calls Tryz.prog 156 #[.pointer (some ⟨bb,0,none⟩),.int .i64 n] w fun e w'=>e=.returned (.tuple #[.slice none 0 0,.bool false])∧w'=w:=by
 refine(take_calls (n:Int) (by omega) hl h).mono ?_
 rintro e w' (⟨_,h1,h2⟩ | ⟨h1,_⟩)
 ·exact⟨h1,h2⟩
 ·rw[Int.toNat_natCast] at h1
  omega
theorem take_long {w0 w:World} {bb:Nat} {bs:List Int} (n:Nat) (hl:bs.length≤1000000000) (h:GetB w0 w bb bs) (hs:n≤bs.length):
  Calls Tryz.prog 156 #[.pointer (some ⟨bb,0,none⟩),.int .i64 n] w fun e w'=>∃A c,e=.returned (.tuple #[.slice A (bs.take n).length c,.bool true])∧(bs.take n).length≤c∧Kd.C (Kd.int .u8) w0 A (bs.take n).length (bs.take n)∧GetB w0 w' bb (bs.drop n)∧Keeps (·=bb) w w':=by
 refine(take_calls (n:Int) (by omega) hl h).mono ?_
 rintro e w' (⟨h1,_⟩ | ⟨_,h1⟩)
 ·rw[Int.toNat_natCast] at h1
  omega
 ·rw[Int.toNat_natCast] at h1
  exact h1
def beN (l:List Int):Int:=l.foldl (fun n c=>n*256+c) 0
def numP (bs:List Int) (size:Nat):Int×List Int:=if bs.length < size then(-1,bs) else(beN (bs.take size),bs.drop size)
theorem beN_snoc (l:List Int) (c:Int):beN (l++[c])=beN l*256+c:=by simp [beN]
theorem beN_from:∀(l:List Int) (a:Int),0≤a→IsBytes l→0≤l.foldl (fun n c=>n*256+c) a∧l.foldl (fun n c=>n*256+c) a < (a+1)*256 ^ l.length:=by
 intro l
 induction l with
 | nil=>intro a h _;simp only[List.foldl_nil,List.length_nil];omega
 | cons c r ih=>
  intro a h hb
  have hc:=hb c (by simp)
  have h1:=ih (a*256+c) (by omega) (fun x hx=>hb x (by simp [hx]))
  simp only[List.foldl_cons,List.length_cons]
  refine⟨h1.1,Int.lt_of_lt_of_le h1.2 ?_⟩
  rw[Int.pow_succ,Int.mul_comm (256 ^ r.length) 256,← Int.mul_assoc]
  exact Int.mul_le_mul_of_nonneg_right (by omega) (Int.pow_nonneg (by decide))
theorem beN_bound (l:List Int) (h:IsBytes l):0≤beN l∧beN l < 256 ^ l.length:=by
 have h1:=beN_from l 0 (by decide) h
 unfold beN
 omega
theorem or_join8 (a b:Int) (h0:0≤a) (h1:a < 281474976710656) (g0:0≤b) (g1:b < 256):bits .or .i64 (a*256) b=a*256+b:=
 Go.bits_join .i64 63 (by decide) (fun n h h'=>by rw[IntWalk.i64_in] <;> omega) 8 (a*256) b (by omega) (by omega) (by omega) g0 g1 (by omega)
theorem num_calls {w0 w:World} {bb:Nat} {bs:List Int} (z:Int) (size:Nat) (hz:z=(size:Int)) (hs:size≤6) (hl:bs.length≤1000000000) (hB:IsBytes bs) (h:GetB w0 w bb bs):
  Calls Tryz.prog 128 #[.pointer (some ⟨bb,0,none⟩),.int .i64 z] w fun e w'=>e=.returned (.int .i64 (numP bs size).1)∧GetB w0 w' bb (numP bs size).2∧Keeps (·=bb) w w':=by
 subst hz
 have HH:=ak h
 by_cases hlt:bs.length < size
 ·have hp:numP bs size=(-1,bs):=by unfold numP;rw[if_pos hlt]
  have HP:=ak hp
  have HLT:=ak hlt
  have HT:=ak (take_short size hl h hlt)
  clear hp hlt h hB hl
  go_enter Tryz.func128,Tryz.ntmps128
  go_wp2_with (go_at_call 156;(with_reducible refine HT.out.mono ?_);rintro e w1 ⟨rfl,rfl⟩)
  go_ret
  rw[HP.out]
  exact⟨rfl,HH.out,Keeps.refl _ _⟩
 ·have hp:numP bs size=(beN (bs.take size),bs.drop size):=by unfold numP;rw[if_neg hlt]
  have HP:=ak hp
  have HLT:=ak hlt
  have HTB:=ak (show IsBytes (bs.take size) from fun x hx=>hB x (List.mem_of_mem_take hx))
  have HTL:=ak (show(bs.take size).length=size by rw[List.length_take];omega)
  have HS:=ak hs
  have hT:=take_long size hl h (by omega)
  generalize bs.take size=z at hT HP HTB HTL
  generalize bs.drop size=y at hT HP
  have HT:=ak hT
  clear hp hlt h hB hl hs hT
  go_enter Tryz.func128,Tryz.ntmps128
  go_wp2_with (go_at_call 156;(with_reducible refine HT.out.mono ?_);rintro e w1 ⟨A,c,rfl,hc,hC,hG,hK⟩;have HG:=ak hG;have HK:=ak hK;have HC:=ak hC;clear hc hC hG hK)
  go_loopg [7,20] z.length (fun kq v7 v20 wr=>∃k:Nat,v7=.int .i64 (beN (z.take k))∧v20=.int .i64 k∧Aside0 (k+kq=z.length)∧wr=w1)
  case atStart=>exact⟨0,rfl,rfl,⟨by omega⟩,rfl⟩
  case round=>
   obtain⟨k,rfl,rfl,HQ,rfl⟩:=hrel
   cases gk with
   | zero=>
    obtain rfl:k=z.length:=by have:=HQ.out;omega
    have d1:decide ((z.length:Int) < (z.length:Int))=false:=decide_eq_false (by omega)
    have d2:decide (z.length < z.length)=false:=decide_eq_false (by omega)
    go_wp2
    go_ret
    rw[HP.out,List.take_length]
    exact⟨rfl,HG.out,HK.out⟩
   | succ gk=>
    have hk0:k < z.length:=by have:=HQ.out;omega
    have d1:decide ((k:Int) < (z.length:Int))=true:=decide_eq_true (by omega)
    have d2:decide (k < z.length)=true:=decide_eq_true hk0
    obtain⟨ad,e1,y0⟩:=Kd.at_int (Kd.C_below HC.out HG.out.bel) (k:Int) (by omega) (by omega)
    cases e1
    have hrd:rd z (k:Int)=z[k]:=by unfold rd;simp [List.getD_eq_getElem?_getD,List.getElem?_eq_getElem hk0]
    rw[hrd,Int.toNat_natCast] at y0
    have hsn:beN (z.take (k+1))=beN (z.take k)*256+z[k]:=by rw[List.take_succ_eq_append_getElem hk0,beN_snoc]
    have hbd:=beN_bound (z.take k) (fun x hx=>HTB.out x (List.mem_of_mem_take hx))
    have hlt5:(z.take k).length≤5:=by rw[List.length_take];have:=HTL.out;have:=HS.out;omega
    have hp5:(256:Int) ^ (z.take k).length≤256 ^ 5:=by
     have:∀m:Nat,m≤5→(256:Int) ^ m≤256 ^ 5:=by decide
     exact this _ hlt5
    have hzk:=HTB.out z[k] (List.getElem_mem hk0)
    generalize z[k]=ck at y0 hsn hzk
    generalize beN (z.take k)=acc at hsn hbd ⊢
    have hacc:0≤acc∧acc < 1099511627776:=⟨hbd.1,by have:=hbd.2;omega⟩
    have w1':IntKind.i64.wrap (acc*2 ^ 8)=acc*256:=by rw[i64_w];unfold wrap64;omega
    have w2':wrap64 (acc*256)=acc*256:=by unfold wrap64;omega
    have hor:bits .or .i64 (acc*256) ck=acc*256+ck:=or_join8 acc ck hacc.1 (by omega) hzk.1 hzk.2
    have HSN:=ak hsn
    clear hsn hbd hlt5 hp5 hrd
    go_wp2
    have hk5:k < 6:=by have:=HTL.out;have:=HS.out;omega
    go_roundg gk
    case measure=>omega
    case rel=>
     have e:wrap64 ((k:Int)+1)=((k+1:Nat):Int):=by unfold wrap64;omega
     exact⟨k+1,by rw[HSN.out],by rw[e],⟨by have:=HQ.out;omega⟩,rfl⟩
end Rc
end
section
namespace Rc
open Go.Maps Fr Ext Pt Dk Lw

theorem clone_calls (A:Option Addr) (c:Nat) (l:List Int) (w:World) (hl:l.length < 140737488355328) (hr:Kd.C (Kd.int .u8) w A l.length l):
  Calls Tryz.prog 129 #[.slice A l.length c] w fun e w'=>∃v,e=.returned v∧w'.ownsRow w.heap.size 5 1 v l.length (nums .u8 l)∧RowKit.Below w.heap.size w w':=by
 have HR:=ak hr
 clear hr
 cases A with
 | none=>
  obtain rfl:l=[]:=by
   rcases l with _ | ⟨x,l⟩
   ·rfl
   ·obtain⟨ad,h,_⟩:=Kd.at_int HR.out 0 (by omega) (by simp)
    cases h
  have heq:=fun w:World=>Lib.run_eql_slice_nil (P:=Tryz.prog) w 120 5 none 0 c 0 0 Tryz.underlying120
  go_enter Tryz.func129,Tryz.ntmps129
  go_wp2
  go_ret
  exact⟨_,rfl,own_nil _ _ _ _,RowKit.Below.refl _ _⟩
 | some ad=>
  have heq:=fun w:World=>Lib.run_eql_slice_nil (P:=Tryz.prog) w 120 5 (some ad) l.length c 0 0 Tryz.underlying120
  go_enter Tryz.func129,Tryz.ntmps129
  go_wp2_with (at_builtin;refine print_append_row (w0:=w) w.heap.size rfl _ _ 120 5 .u8 1 rfl Tryz.underlying120 info5 (by omega) (.slice (some ⟨w.heap.size,0,none⟩) 0 0) [] l _ _ _ rfl rfl (own_lit w w.heap.size 5 .u8 [] (Nat.le_refl _) (by simp)) (Kd.reads_of_C (Kd.C_alloc HR.out _)) (below_alloc (RowKit.Below.refl _ _) _) (by simp) (by simp;omega) ?_;intro v1 wz hv1 hbz hgz haz;have HV1:=ak hv1;clear hv1;clear hgz;clear haz;have HBZ:=ak hbz;clear hbz)
  go_ret
  exact⟨_,rfl,by simpa using HV1.out,HBZ.out⟩
def keyedP (bs:List Int):ByteArray×Bool×List Int:=
 if(numP bs 1).2.length < (max (numP bs 1).1 0).toNat then(⟨#[]⟩,false,(numP bs 1).2)
 else(strOfNums ((numP bs 1).2.take (max (numP bs 1).1 0).toNat),true,(numP bs 1).2.drop (max (numP bs 1).1 0).toNat)
theorem numP_bytes {bs:List Int} {n:Nat} (h:IsBytes bs):IsBytes (numP bs n).2:=by
 unfold numP
 split
 ·exact h
 ·exact fun x hx=>h x (List.mem_of_mem_drop hx)
theorem numP_length (bs:List Int) (n:Nat):(numP bs n).2.length≤bs.length:=by
 unfold numP
 split
 ·exact Nat.le_refl _
 ·simp
theorem keyed_calls {w0 w:World} {rb bb:Nat} {cs:Array Value} {bs:List Int} (hl:bs.length≤1000000000) (hB:IsBytes bs) (h:GetB w0 w bb bs) (hr:w.heap[rb]? =some (.cells cs 119 (0,0))) (h1:∃s,cs[1]? =some (.string s)) (hrb:w0.heap.size≤rb):
  Calls Tryz.prog 130 #[.pointer (some ⟨bb,0,none⟩),.pointer (some ⟨rb,0,none⟩)] w fun e w'=>e=.returned (.bool (keyedP bs).2.1)∧GetB w0 w' bb (keyedP bs).2.2∧w'.heap[rb]? =some (.cells (cs.setIfInBounds 1 (.string (keyedP bs).1)) 119 (0,0))∧Keeps (fun k=>k=bb∨k=rb) w w':=by
 obtain⟨s0,hs0⟩:=h1
 have hne:rb≠bb:=fun e=>by
  obtain⟨A,c,h2,_⟩:=h.bk
  rw[e,h2] at hr
  injection hr with hr
  injection hr with _ hr
  exact absurd hr (by decide)
 have HH:=ak h
 have HN:=ak (num_calls 1 1 rfl (by decide) hl hB h)
 have HR:=ak hr
 obtain⟨p,hp⟩:∃p,numP bs 1=p:=⟨_,rfl⟩
 have hk:keyedP bs=if p.2.length < (max p.1 0).toNat then(⟨#[]⟩,false,p.2) else(strOfNums (p.2.take (max p.1 0).toNat),true,p.2.drop (max p.1 0).toNat):=by unfold keyedP;rw[hp]
 have hlp:=numP_length bs 1
 rw[hp] at HN hlp
 have HLP:=ak (Nat.le_trans hlp hl)
 obtain⟨m,y⟩:=p
 obtain⟨n,hn⟩:∃n:Nat,(max m 0).toNat=n:=⟨_,rfl⟩
 have hmx:max m 0=(n:Int):=by omega
 have HNE:=ak hne
 have HS0:=ak hs0
 dsimp only at hk HN HLP
 rw[hn] at hk
 clear h hl hB hr hp hlp hne hs0
 by_cases hlt:y.length < n
 ·rw[if_pos hlt] at hk
  have HK:=ak hk
  have HLT:=ak hlt
  clear hk hlt hn
  go_enter Tryz.func130,Tryz.ntmps130
  go_upto_region 2 with(first
   | (go_at_call 156;(with_reducible refine(take_short n HLP.out HG.out HLT.out).mono ?_);rintro e w2 ⟨rfl,rfl⟩)
   | (go_at_call 128;(with_reducible refine HN.out.mono ?_);rintro e w1 ⟨rfl,hg,hk⟩;have HG:=ak hg;have HK1:=ak hk;clear hg hk))
  have hr2:=HK1.out.obj HR.out HNE.out
  have HR2:=ak hr2
  have x1:w2.cell? ⟨rb,1,none⟩=some (.string s0):=(blk_cell hr2 1).trans HS0.out
  have f1:=blk_frozen hr2 1
  have hcv:(convert 35 9 (.slice none 0 0)).run Tryz.prog w2=.ok (.string ⟨#[]⟩) w2:=Rd.str (l:=[]) (Kd.C_nil _ _) 0 0 rfl rfl
  clear hr2
  go_wp2
  go_ret
  rw[HK.out]
  have hk2:Keeps (fun k=>k=bb∨k=rb) w w2:=HK1.out.mono (fun _ e=>.inl e)
  exact⟨rfl,HG.out.keeps ((Keeps.refl (·=rb) w2).set rfl) (fun k e=>by rw[e];exact hrb) (fun e=>HNE.out e.symm),blk_set HR2.out 1 _,hk2.set (.inr rfl)⟩
 ·rw[if_neg hlt] at hk
  have hT:∀w1,GetB w0 w1 bb y→_:=fun w1 hg=>take_long (w:=w1) n HLP.out hg (by omega)
  obtain⟨sz,hsz⟩:∃s,strOfNums (y.take n)=s:=⟨_,rfl⟩
  rw[hsz] at hk
  generalize y.take n=z at hT hsz
  generalize y.drop n=y2 at hT hk
  have HK:=ak hk
  have HT:=ak hT
  have HSZ:=ak hsz
  clear hk hlt hn hT hsz
  go_enter Tryz.func130,Tryz.ntmps130
  go_upto_region 2 with(first
   | (go_at_call 156;(with_reducible refine(HT.out _ HG.out).mono ?_);rintro e w2 ⟨A,c,rfl,hc,hC,hg,hk⟩;have HG2:=ak hg;have HK2:=ak hk;have HC:=ak hC;clear hg hk hc hC)
   | (go_at_call 128;(with_reducible refine HN.out.mono ?_);rintro e w1 ⟨rfl,hg,hk⟩;have HG:=ak hg;have HK1:=ak hk;clear hg hk))
  have hk12:=HK1.out.trans HK2.out
  have hr2:=hk12.obj HR.out HNE.out
  have HK12:=ak hk12
  have HR2:=ak hr2
  have x1:w2.cell? ⟨rb,1,none⟩=some (.string s0):=(blk_cell hr2 1).trans HS0.out
  have f1:=blk_frozen hr2 1
  have hcv:(convert 35 9 (.slice A z.length c)).run Tryz.prog w2=.ok (.string sz) w2:=Rd.str (l:=z) (Kd.C_below HC.out HG2.out.bel) c _ rfl HSZ.out
  clear hr2 hk12
  go_wp2
  go_ret
  rw[HK.out]
  have hk2:Keeps (fun k=>k=bb∨k=rb) w w2:=HK12.out.mono (fun _ e=>.inl e)
  exact⟨rfl,HG2.out.keeps ((Keeps.refl (·=rb) w2).set rfl) (fun k e=>by rw[e];exact hrb) (fun e=>HNE.out e.symm),blk_set HR2.out 1 _,hk2.set (.inr rfl)⟩
end Rc
end
section
namespace Rc
open Go.Maps Fr Ext Pt Dk Lw

variable {w0 w:World} {rb bb:Nat} {bs:List Int} {R:Re} {A5 A6:Option Addr} {c5 c6:Nat}
theorem GetB.ne {cs:Array Value} (h:GetB w0 w bb bs) (hr:w.heap[rb]? =some (.cells cs 119 (0,0))):rb≠bb:=fun e=>by
 obtain⟨A,c,h2,_⟩:=h.bk
 rw[e,h2] at hr
 injection hr with hr
 injection hr with _ hr
 exact absurd hr (by decide)
def tombOfM (R:Re) (bs:List Int):Re:={R with f1:=strOfNums bs}
theorem tombOf_calls (h:GetB w0 w bb bs) (hr:w.heap[rb]? =some (.cells (recC R A5 c5 A6 c6) 119 (0,0))):
  Calls Tryz.prog 97 #[.pointer (some ⟨rb,0,none⟩),.pointer (some ⟨bb,0,none⟩)] w fun e w'=>e=.returned (.bool true)∧w'.heap[rb]? =some (.cells (recC (tombOfM R bs) A5 c5 A6 c6) 119 (0,0))∧Keeps (fun k=>k=bb∨k=rb) w w':=by
 obtain⟨A,c,hbk,hc,hC⟩:=h.bk
 have x0:=bq hbk 0 (.slice A bs.length c)
 have y1:=bq hr 1 (.string R.f1)
 have f1:=blk_frozen hr 1
 have hcv:(convert 120 9 (.slice A bs.length c)).run Tryz.prog w=.ok (.string (strOfNums bs)) w:=Kd.C_string Tryz.underlying120 Tryz.underlying5 Tryz.underlying9 (Kd.C_below hC h.bel)
 have HR:=ak hr
 have hm:tombOfM R bs={R with f1:=strOfNums bs}:=rfl
 have HM:=ak hm
 generalize strOfNums bs=sz at hcv HM
 clear h hr hbk hc hC hm
 go_enter Tryz.func97,Tryz.ntmps97
 go_wp2
 go_ret
 rw[HM.out]
 exact⟨rfl,blk_set HR.out 1 _,(Keeps.refl _ _).set (.inr rfl)⟩
def inlineOfM (R:Re) (bs:List Int):Bool×Re:=((keyedP bs).2.1,{R with f1:=(keyedP bs).1,f6:=(keyedP bs).2.2})
theorem keyedP_length (bs:List Int):(keyedP bs).2.2.length≤bs.length:=by
 have h:=numP_length bs 1
 unfold keyedP
 split
 ·exact h
 ·simp only[List.length_drop];omega
theorem keyedP_bytes {bs:List Int} (h:IsBytes bs):IsBytes (keyedP bs).2.2:=by
 have h1:=numP_bytes (n:=1) h
 unfold keyedP
 split
 ·exact h1
 ·exact fun x hx=>h1 x (List.mem_of_mem_drop hx)
theorem inlineOf_calls (hl:bs.length≤1000000000) (hB:IsBytes bs) (h:GetB w0 w bb bs) (hr:w.heap[rb]? =some (.cells (recC R A5 c5 A6 c6) 119 (0,0))) (hrb:w0.heap.size≤rb):
  Calls Tryz.prog 93 #[.pointer (some ⟨rb,0,none⟩),.pointer (some ⟨bb,0,none⟩)] w fun e w'=>e=.returned (.bool (inlineOfM R bs).1)∧∃A6' c6',w'.heap[rb]? =some (.cells (recC (inlineOfM R bs).2 A5 c5 A6' c6') 119 (0,0))∧Kd.R (Kd.int .u8) 5 w' w0.heap.size (fun _=>True) (.slice A6' (inlineOfM R bs).2.f6.length c6') (inlineOfM R bs).2.f6∧Keeps (fun k=>k=bb∨k=rb) w w':=by
 have HNE:=ak (h.ne hr)
 have HKY:=ak (keyed_calls hl hB h hr ⟨R.f1,rfl⟩ hrb)
 have HLQ:=ak (Nat.le_trans (keyedP_length bs) hl)
 have hm:inlineOfM R bs=((keyedP bs).2.1,{R with f1:=(keyedP bs).1,f6:=(keyedP bs).2.2}):=rfl
 have HM:=ak hm
 obtain⟨q,hq⟩:∃q,keyedP bs=q:=⟨_,rfl⟩
 rw[hq] at HKY HLQ HM
 obtain⟨k,is,y⟩:=q
 dsimp only at HKY HLQ HM
 clear hl hB h hr hm hq
 go_enter Tryz.func93,Tryz.ntmps93
 go_upto_region 2 with(go_at_call 130;(with_reducible refine HKY.out.mono ?_);rintro e w1 ⟨rfl,hg,hr1,hk⟩;have HG:=ak hg;have HR1:=ak hr1;have HK1:=ak hk;clear hg hr1 hk)
 obtain⟨A,c,hbk,hc,hC⟩:=HG.out.bk
 have x0:=bq hbk 0 (.slice A y.length c)
 have HC:=ak (Kd.C_below hC HG.out.bel)
 clear hbk hc hC
 go_upto_region 3 with(go_at_call 129;(with_reducible refine(clone_calls A c y w1 (Nat.lt_of_le_of_lt HLQ.out (by decide)) HC.out).mono ?_);rintro e w2 ⟨v,rfl,ho,hb⟩;obtain⟨A6',c6',hv⟩:=own_slice ho;subst hv;have hr2:=(hb.block rb (blk_lt HR1.out)).trans HR1.out;have HR2:=ak hr2;have y6:=bq hr2 6 (.slice A6 R.f6.length c6);have f6:=blk_frozen hr2 6;have HO:=ak ho;have HB2:=ak hb;clear ho hb hr2)
 go_wp2
 go_ret
 rw[HM.out]
 have hlt1:rb < w1.heap.size:=blk_lt HR1.out
 have h1:=ownsRow_setCell_below HO.out (a:=⟨rb,6,none⟩) hlt1 (.slice A6' y.length c6')
 exact⟨rfl,A6',c6',blk_set HR2.out 6 _,Kd.R_lower (R_ints h1) HG.out.bel.size,(HK1.out.trans (Keeps.of_below HB2.out)).set (.inr rfl)⟩
def pieceOfM (R:Re) (bs:List Int):Bool×Re:=(decide (0≤(numP (numP bs 6).2 2).1),{R with f2:=(numP bs 6).1,f3:=(numP (numP bs 6).2 2).1,f6:=(numP (numP bs 6).2 2).2})
theorem pieceOf_calls (hl:bs.length≤1000000000) (hB:IsBytes bs) (h:GetB w0 w bb bs) (hr:w.heap[rb]? =some (.cells (recC R A5 c5 A6 c6) 119 (0,0))) (hrb:w0.heap.size≤rb):
  Calls Tryz.prog 85 #[.pointer (some ⟨rb,0,none⟩),.pointer (some ⟨bb,0,none⟩)] w fun e w'=>e=.returned (.bool (pieceOfM R bs).1)∧∃A6' c6',w'.heap[rb]? =some (.cells (recC (pieceOfM R bs).2 A5 c5 A6' c6') 119 (0,0))∧Kd.R (Kd.int .u8) 5 w' w0.heap.size (fun _=>True) (.slice A6' (pieceOfM R bs).2.f6.length c6') (pieceOfM R bs).2.f6∧Keeps (fun k=>k=bb∨k=rb) w w':=by
 have HNE:=ak (h.ne hr)
 have HN1:=ak (num_calls 6 6 rfl (by decide) hl hB h)
 have HN2:=ak (fun w1 (hg:GetB w0 w1 bb (numP bs 6).2)=>num_calls (w:=w1) 2 2 rfl (by decide) (Nat.le_trans (numP_length bs 6) hl) (numP_bytes hB) hg)
 have HLQ:=ak (Nat.le_trans (Nat.le_trans (numP_length (numP bs 6).2 2) (numP_length bs 6)) hl)
 have hm:pieceOfM R bs=(decide (0≤(numP (numP bs 6).2 2).1),{R with f2:=(numP bs 6).1,f3:=(numP (numP bs 6).2 2).1,f6:=(numP (numP bs 6).2 2).2}):=rfl
 have HM:=ak hm
 have HR:=ak hr
 clear hl hB h hr hm
 generalize numP (numP bs 6).2 2=q at HN2 HLQ HM
 generalize numP bs 6=p at HN1 HN2 HM
 obtain⟨a,u⟩:=p
 obtain⟨b,y⟩:=q
 dsimp only at HN1 HN2 HLQ HM
 go_enter Tryz.func85,Tryz.ntmps85
 go_upto_region 2 with(first
  | (go_at_call 128;(with_reducible refine(HN2.out _ HG1.out).mono ?_);rintro e w2 ⟨rfl,hg,hk⟩;have HG:=ak hg;have HK2:=ak (HK1.out.trans hk);have hr2:=(HK1.out.trans hk).obj HR.out HNE.out;have HR2:=ak hr2;have y2:=bq hr2 2 (.int .i64 R.f2);have y3:=bq hr2 3 (.int .i64 R.f3);have f2:=blk_frozen hr2 2;have f3:=blk_frozen hr2 3;clear hg hk hr2)
  | (go_at_call 128;(with_reducible refine HN1.out.mono ?_);rintro e w1 ⟨rfl,hg,hk⟩;have HG1:=ak hg;have HK1:=ak hk;clear hg hk))
 have hr3:((w2.setCell ⟨rb,2,none⟩ (.int .i64 a)).setCell ⟨rb,3,none⟩ (.int .i64 b)).heap[rb]? =some (.cells (recC {R with f2:=a,f3:=b} A5 c5 A6 c6) 119 (0,0)):=blk_set (blk_set HR2.out 2 _) 3 _
 have hkp:Keeps (·=rb) w2 ((w2.setCell ⟨rb,2,none⟩ (.int .i64 a)).setCell ⟨rb,3,none⟩ (.int .i64 b)):=Keeps.set (F:=(·=rb)) (Keeps.set (F:=(·=rb)) (Keeps.refl (·=rb) w2) (g:=rb) rfl) (g:=rb) rfl
 have hg3:=HG.out.keeps hkp (fun k e=>by rw[e];exact hrb) (fun e=>HNE.out e.symm)
 have hk3:Keeps (fun k=>k=bb∨k=rb) w ((w2.setCell ⟨rb,2,none⟩ (.int .i64 a)).setCell ⟨rb,3,none⟩ (.int .i64 b)):=((HK2.out.mono (fun _ e=>.inl e)).set (.inr rfl)).set (.inr rfl)
 generalize (w2.setCell ⟨rb,2,none⟩ (.int .i64 a)).setCell ⟨rb,3,none⟩ (.int .i64 b)=w3 at hr3 hg3 hk3 ⊢
 have HR3:=ak hr3
 have HG3:=ak hg3
 have HK3:=ak hk3
 obtain⟨A,c,hbk,hc,hC⟩:=hg3.bk
 have x0:=bq hbk 0 (.slice A y.length c)
 have HC:=ak (Kd.C_below hC hg3.bel)
 clear hbk hc hC hr3 hg3 hk3 hkp y2 y3 f2 f3
 go_upto_region 3 with(go_at_call 129;(with_reducible refine(clone_calls A c y w3 (Nat.lt_of_le_of_lt HLQ.out (by decide)) HC.out).mono ?_);rintro e w4 ⟨v,rfl,ho,hb⟩;obtain⟨A6',c6',hv⟩:=own_slice ho;subst hv;have hr4:=(hb.block rb (blk_lt HR3.out)).trans HR3.out;have HR4:=ak hr4;have y6:=bq hr4 6 (.slice A6 R.f6.length c6);have f6:=blk_frozen hr4 6;have HO:=ak ho;have HB2:=ak hb;clear ho hb hr4)
 have hr5:(w4.setCell ⟨rb,6,none⟩ (.slice A6' y.length c6')).heap[rb]? =some (.cells (recC {R with f2:=a,f3:=b,f6:=y} A5 c5 A6' c6') 119 (0,0)):=blk_set HR4.out 6 _
 have hlt1:rb < w3.heap.size:=blk_lt HR3.out
 have h1:=ownsRow_setCell_below HO.out (a:=⟨rb,6,none⟩) hlt1 (.slice A6' y.length c6')
 have hk5:Keeps (fun k=>k=bb∨k=rb) w (w4.setCell ⟨rb,6,none⟩ (.slice A6' y.length c6')):=(HK3.out.trans (Keeps.of_below HB2.out)).set (.inr rfl)
 have hO5:=Kd.R_lower (R_ints h1) HG3.out.bel.size
 generalize w4.setCell ⟨rb,6,none⟩ (.slice A6' y.length c6')=w5 at hr5 hk5 hO5 ⊢
 have y3:=bq hr5 3 (.int .i64 b)
 have HR5:=ak hr5
 have HK5:=ak hk5
 have HO5:=ak hO5
 clear hr5 hk5 hO5 h1 y6 f6 x0
 go_wp2
 go_ret
 rw[HM.out]
 exact⟨rfl,A6',c6',HR5.out,HO5.out,HK5.out⟩
end Rc
end
section
namespace Rc
open Go.Maps Fr Ext Pt Dk Lw

def rootLoop:Nat→List Int→List Lo→Bool×List Lo×List Int
 | 0,bs,ls=>(true,ls,bs)
 | k+1,bs,ls=>
  if(numP (numP (numP bs 4).2 4).2 2).1 < 0 then(false,ls,(numP (numP (numP bs 4).2 4).2 2).2)
  else rootLoop k (numP (numP (numP bs 4).2 4).2 2).2 (ls++[⟨(numP bs 4).1,(numP (numP bs 4).2 4).1,(numP (numP (numP bs 4).2 4).2 2).1⟩])
theorem rootLoop_succ (k:Nat) (bs:List Int) (ls:List Lo):rootLoop (k+1) bs ls=if(numP (numP (numP bs 4).2 4).2 2).1 < 0 then(false,ls,(numP (numP (numP bs 4).2 4).2 2).2)
  else rootLoop k (numP (numP (numP bs 4).2 4).2 2).2 (ls++[⟨(numP bs 4).1,(numP (numP bs 4).2 4).1,(numP (numP (numP bs 4).2 4).2 2).1⟩]):=rfl
theorem Keeps.of_grown {w w1:World} {row:Option Nat} (hg:w.grownBy w1 row):Keeps (fun k=>some k=row) w w1:=⟨hg.os,hg.tape,hg.output,hg.size,fun k hk hn=>hg.block k hk hn⟩
theorem Keeps.trans_new {F G:Nat→Prop} {w w1 w2:World} (h:Keeps F w w1) (h1:Keeps G w1 w2) (hG:∀k,k < w.heap.size→G k→F k):Keeps F w w2:=
 ⟨h1.os.trans h.os,h1.tape.trans h.tape,h1.output.trans h.output,Nat.le_trans h.size h1.size,fun k hk hn=>(h1.block k (Nat.lt_of_lt_of_le hk h.size) (fun e=>hn (hG k hk e))).trans (h.block k hk hn)⟩
def rootTail (R:Re) (bs:List Int):Bool×Re:=
 let a:=numP bs 6
 let b:=numP a.2 3
 let m:=numP b.2 2
 let r:=rootLoop (max m.1 0).toNat m.2 []
 (r.1 && (decide (0≤m.1) && decide (r.2.2.length=0)),{R with f2:=a.1,f4:=b.1,f5:=r.2.1})
def rootOfM (R:Re) (bs:List Int):Bool×Re:=
 if(keyedP bs).2.1=true then rootTail {R with f1:=(keyedP bs).1} (keyedP bs).2.2 else(false,{R with f1:=(keyedP bs).1})
theorem numP_lt {bs:List Int} (h:IsBytes bs) (n:Nat):(numP bs n).1 < 256 ^ n:=by
 unfold numP
 split
 ·exact Int.lt_of_lt_of_le (by decide:(-1:Int) < 0) (Int.pow_nonneg (by decide))
 ·have h1:=(beN_bound (bs.take n) (fun x hx=>h x (List.mem_of_mem_take hx))).2
  rwa [List.length_take,Nat.min_eq_left (by omega)] at h1
variable {w0 w:World} {rb bb:Nat} {bs:List Int} {R:Re} {A6:Option Addr} {c6:Nat}
theorem rootOf_calls (hl:bs.length≤1000000000) (hB:IsBytes bs) (h:GetB w0 w bb bs) (hr:w.heap[rb]? =some (.cells (recC R none 0 A6 c6) 119 (0,0))) (h5:R.f5=[]) (hrb:w0.heap.size≤rb):
  Calls Tryz.prog 89 #[.pointer (some ⟨rb,0,none⟩),.pointer (some ⟨bb,0,none⟩)] w fun e w'=>e=.returned (.bool (rootOfM R bs).1)∧∃A5' c5',w'.heap[rb]? =some (.cells (recC (rootOfM R bs).2 A5' c5' A6 c6) 119 (0,0))∧Kd.R k57 57 w' w0.heap.size (fun _=>True) (.slice A5' (rootOfM R bs).2.f5.length c5') (rootOfM R bs).2.f5∧Keeps (fun k=>k=bb∨k=rb) w w':=by
 have HNE:=ak (h.ne hr)
 have HKY:=ak (keyed_calls hl hB h hr ⟨R.f1,rfl⟩ hrb)
 have HLQ:=ak (Nat.le_trans (keyedP_length bs) hl)
 have HBQ:=ak (keyedP_bytes hB)
 have HM:=ak (show rootOfM R bs=if(keyedP bs).2.1=true then rootTail {R with f1:=(keyedP bs).1} (keyedP bs).2.2 else(false,{R with f1:=(keyedP bs).1}) from rfl)
 obtain⟨q,hq⟩:∃q,keyedP bs=q:=⟨_,rfl⟩
 rw[hq] at HKY HLQ HBQ HM
 obtain⟨k,is,y⟩:=q
 dsimp only at HKY HLQ HBQ HM
 have H5:=ak h5
 have HB0:=ak h.bel.size
 clear hl hB h hr hq h5
 go_enter Tryz.func89,Tryz.ntmps89
 cases is with
 | false=>
  go_wp2_with (go_at_call 130;(with_reducible refine HKY.out.mono ?_);rintro e w1 ⟨rfl,hg,hr1,hk⟩;have HR1:=ak hr1;have HK1:=ak hk;clear hg hr1 hk)
  go_ret
  rw[HM.out,if_neg (by decide)]
  refine⟨rfl,none,0,HR1.out,?_,HK1.out⟩
  show Kd.R _ _ _ _ _ (.slice none R.f5.length 0) R.f5
  rw[H5.out]
  exact Kd.R_nil _ _ _ _ _
 | true=>
  have hm:=HM.out
  rw[if_pos rfl] at hm
  have HM2:=ak hm
  clear hm HM
  go_upto_region 3 with(go_at_call 130;(with_reducible refine HKY.out.mono ?_);rintro e w1 ⟨rfl,hg,hr1,hk⟩;have HG1:=ak hg;have HR1:=ak (show w1.heap[rb]? =some (.cells (recC {R with f1:=k} none 0 A6 c6) 119 (0,0)) from hr1);have HK1:=ak hk;clear hg hr1 hk)
  have HN1:=ak (num_calls 6 6 rfl (by decide) HLQ.out HBQ.out HG1.out)
  have HN2:=ak (fun w1 (hg:GetB w0 w1 bb (numP y 6).2)=>num_calls (w:=w1) 3 3 rfl (by decide) (Nat.le_trans (numP_length y 6) HLQ.out) (numP_bytes HBQ.out) hg)
  have HN3:=ak (fun w1 (hg:GetB w0 w1 bb (numP (numP y 6).2 3).2)=>num_calls (w:=w1) 2 2 rfl (by decide) (Nat.le_trans (Nat.le_trans (numP_length _ 3) (numP_length y 6)) HLQ.out) (numP_bytes (numP_bytes HBQ.out)) hg)
  have HL3:=ak (Nat.le_trans (Nat.le_trans (numP_length (numP (numP y 6).2 3).2 2) (Nat.le_trans (numP_length _ 3) (numP_length y 6))) HLQ.out)
  have HB3:=ak (numP_bytes (n:=2) (numP_bytes (n:=3) (numP_bytes (n:=6) HBQ.out)))
  have HMX:=ak (show(numP (numP (numP y 6).2 3).2 2).1 < 65536 from numP_lt (numP_bytes (n:=3) (numP_bytes (n:=6) HBQ.out)) 2)
  have hT:rootOfM R bs=((rootLoop (max (numP (numP (numP y 6).2 3).2 2).1 0).toNat (numP (numP (numP y 6).2 3).2 2).2 []).1 && (decide (0≤(numP (numP (numP y 6).2 3).2 2).1) && decide ((rootLoop (max (numP (numP (numP y 6).2 3).2 2).1 0).toNat (numP (numP (numP y 6).2 3).2 2).2 []).2.2.length=0)),{R with f1:=k,f2:=(numP y 6).1,f4:=(numP (numP y 6).2 3).1,f5:=(rootLoop (max (numP (numP (numP y 6).2 3).2 2).1 0).toNat (numP (numP (numP y 6).2 3).2 2).2 []).2.1}):=HM2.out.trans rfl
  have HT:=ak hT
  clear hT HM2
  generalize numP (numP (numP y 6).2 3).2 2=p3 at HN3 HL3 HB3 HMX HT
  generalize numP (numP y 6).2 3=p2 at HN2 HN3 HT
  generalize numP y 6=p1 at HN1 HN2 HT
  obtain⟨n2,y1⟩:=p1
  obtain⟨n4,y2⟩:=p2
  obtain⟨m,y3⟩:=p3
  dsimp only at HN1 HN2 HN3 HL3 HB3 HMX HT
  go_upto_region 4 with(first
   | (go_at_call 128;(with_reducible refine(HN2.out _ HG2.out).mono ?_);rintro e w3 ⟨rfl,hg,hk⟩;have HG3:=ak hg;have hk13:=HK2.out.trans hk;have HK3:=ak hk13;have hr3:=hk13.obj HR1.out HNE.out;have HR3:=ak hr3;have z2:=bq hr3 2 (.int .i64 R.f2);have z4:=bq hr3 4 (.int .i64 R.f4);have f2:=blk_frozen hr3 2;have f4:=blk_frozen hr3 4;clear hg hk hr3 hk13)
   | (go_at_call 128;(with_reducible refine HN1.out.mono ?_);rintro e w2 ⟨rfl,hg,hk⟩;have HG2:=ak hg;have HK2:=ak hk;clear hg hk))
  have hr4:((w3.setCell ⟨rb,2,none⟩ (.int .i64 n2)).setCell ⟨rb,4,none⟩ (.int .i64 n4)).heap[rb]? =some (.cells (recC {R with f1:=k,f2:=n2,f4:=n4} none 0 A6 c6) 119 (0,0)):=blk_set (blk_set HR3.out 2 _) 4 _
  have hkp:Keeps (·=rb) w3 ((w3.setCell ⟨rb,2,none⟩ (.int .i64 n2)).setCell ⟨rb,4,none⟩ (.int .i64 n4)):=Keeps.set (F:=(·=rb)) (Keeps.set (F:=(·=rb)) (Keeps.refl (·=rb) w3) (g:=rb) rfl) (g:=rb) rfl
  have hg4:=HG3.out.keeps hkp (fun k e=>by rw[e];exact hrb) (fun e=>HNE.out e.symm)
  have hk4:Keeps (fun k=>k=bb∨k=rb) w ((w3.setCell ⟨rb,2,none⟩ (.int .i64 n2)).setCell ⟨rb,4,none⟩ (.int .i64 n4)):=((HK1.out.trans (HK3.out.mono (fun _ e=>.inl e))).set (.inr rfl)).set (.inr rfl)
  generalize (w3.setCell ⟨rb,2,none⟩ (.int .i64 n2)).setCell ⟨rb,4,none⟩ (.int .i64 n4)=w4 at hr4 hg4 hk4 ⊢
  have HR4:=ak hr4
  have HK4:=ak hk4
  have HN5:=ak (HN3.out w4 hg4)
  clear hr4 hg4 hk4 hkp z2 z4 f2 f4
  obtain⟨N,hN⟩:∃N:Nat,(max m 0).toNat=N:=⟨_,rfl⟩
  have hmx:max m 0=(N:Int):=by omega
  rw[hN] at HT
  go_wp2_with (go_at_call 128;(with_reducible refine HN5.out.mono ?_);rintro e w5 ⟨rfl,hg,hk⟩;have HG5:=ak hg;have HK5:=ak (HK4.out.trans (hk.mono (fun _ e=>.inl e)));have HR5:=ak (hk.obj HR4.out HNE.out);clear hg hk)
  clear HKY HN1 HN2 HN3 HG1 HR1 HK1 HG2 HK2 HG3 HK3 HR3 HR4 HK4 HN5
  have HR6:=ak (show w5.heap[rb]? =some (.cells (recC {R with f1:=k,f2:=n2,f4:=n4,f5:=[]} none 0 A6 c6) 119 (0,0)) by have h:=HR5.out;rw[H5.out] at h;exact h)
  have HNB:=ak (show N < 65536 by have:=HMX.out;omega)
  clear HR5 HBQ HLQ hN
  go_loopg [25] N (fun kq v25 wr=>∃(j:Nat) (ls:List Lo) (ys:List Int) (A5:Option Addr) (c5:Nat),v25=.int .i64 j∧Aside0 (j+kq=N)∧Aside0 (ls.length=j)∧Aside0 (rootLoop kq ys ls=rootLoop N y3 [])∧Aside0 (IsBytes ys∧ys.length≤1000000000)∧Aside0 (GetB w0 wr bb ys)∧Aside0 (wr.heap[rb]? =some (.cells (recC {R with f1:=k,f2:=n2,f4:=n4,f5:=ls} A5 c5 A6 c6) 119 (0,0)))∧Aside0 (Kd.R k57 57 wr w.heap.size (fun _=>True) (.slice A5 ls.length c5) ls)∧Aside0 (Keeps (fun k=>k=bb∨k=rb) w wr))
  case atStart=>exact⟨0,[],y3,none,0,rfl,⟨by omega⟩,⟨rfl⟩,⟨rfl⟩,⟨HB3.out,HL3.out⟩,HG5,HR6,⟨Kd.R_nil _ _ _ _ _⟩,HK5⟩
  case round=>
   obtain⟨j,ls,ys,A5,c5,rfl,HQ,HJ,HRL,HYS,HG,HR,HO,HK⟩:=hrel
   clear HG5 HR6 HK5
   cases gk with
   | zero=>
    obtain rfl:j=N:=by have:=HQ.out;omega
    have d1:decide ((j:Int) < (j:Int))=false:=decide_eq_false (by omega)
    have d2:decide (j < j)=false:=decide_eq_false (by omega)
    have hT:=HT.out
    rw[← HRL.out] at hT
    have HT2:=ak (show rootOfM R bs=(decide (0≤m) && decide (ys.length=0),{R with f1:=k,f2:=n2,f4:=n4,f5:=ls}) from hT)
    clear hT HT
    obtain⟨A,c,hbk,hc,hC⟩:=HG.out.bk
    have x0:=bq hbk 0 (.slice A ys.length c)
    clear hbk hc hC
    have fin:∀b,(decide (0≤m) && decide (ys.length=0))=b→Ending.returned (Value.bool b)=Ending.returned (.bool (rootOfM R bs).1)∧∃A5' c5',wr.heap[rb]? =some (.cells (recC (rootOfM R bs).2 A5' c5' A6 c6) 119 (0,0))∧Kd.R k57 57 wr w0.heap.size (fun _=>True) (.slice A5' (rootOfM R bs).2.f5.length c5') (rootOfM R bs).2.f5∧Keeps (fun k=>k=bb∨k=rb) w wr:=fun b hb=>by
     rw[HT2.out,hb]
     exact⟨rfl,A5,c5,HR.out,Kd.R_lower HO.out HB0.out,HK.out⟩
    have FIN:=ak fin
    clear fin
    by_cases hm0:0≤m
    ·have d3:decide (m≥0)=true:=decide_eq_true hm0
     have HM0:=ak (decide_eq_true hm0)
     clear hm0 hmx
     by_cases hy0:ys.length=0
     ·have d4:((ys.length:Int)==0)=true:=beq_iff_eq.2 (by omega)
      have d5:decide (ys.length=0)=true:=decide_eq_true hy0
      have HF:=ak (FIN.out true (by rw[HM0.out,d5];rfl))
      go_wp2
      go_ret
      exact HF.out
     ·have d4:((ys.length:Int)==0)=false:=beq_eq_false_iff_ne.2 (by omega)
      have d5:decide (ys.length=0)=false:=decide_eq_false hy0
      have HF:=ak (FIN.out false (by rw[HM0.out,d5];rfl))
      go_wp2
      go_ret
      exact HF.out
    ·have d3:decide (m≥0)=false:=decide_eq_false hm0
     have HF:=ak (FIN.out false (by rw[decide_eq_false hm0];rfl))
     clear hm0 hmx
     go_wp2
     go_ret
     exact HF.out
   | succ gk=>
    have hj0:j < N:=by have:=HQ.out;omega
    have d1:decide ((j:Int) < (N:Int))=true:=decide_eq_true (by omega)
    have d2:decide (j < N)=true:=decide_eq_true hj0
    have hR:=HRL.out
    rw[rootLoop_succ] at hR
    have HN1:=ak (num_calls 4 4 rfl (by decide) HYS.out.2 HYS.out.1 HG.out)
    have HN2:=ak (fun w1 (hg:GetB w0 w1 bb (numP ys 4).2)=>num_calls (w:=w1) 4 4 rfl (by decide) (Nat.le_trans (numP_length ys 4) HYS.out.2) (numP_bytes HYS.out.1) hg)
    have HN3:=ak (fun w1 (hg:GetB w0 w1 bb (numP (numP ys 4).2 4).2)=>num_calls (w:=w1) 2 2 rfl (by decide) (Nat.le_trans (Nat.le_trans (numP_length _ 4) (numP_length ys 4)) HYS.out.2) (numP_bytes (numP_bytes HYS.out.1)) hg)
    have HYS2:=ak (show IsBytes (numP (numP (numP ys 4).2 4).2 2).2∧(numP (numP (numP ys 4).2 4).2 2).2.length≤1000000000 from⟨numP_bytes (numP_bytes (numP_bytes HYS.out.1)),Nat.le_trans (Nat.le_trans (numP_length _ 2) (Nat.le_trans (numP_length _ 4) (numP_length ys 4))) HYS.out.2⟩)
    have HR2:=ak hR
    clear hR HRL
    generalize numP (numP (numP ys 4).2 4).2 2=p3 at HN3 HYS2 HR2
    generalize numP (numP ys 4).2 4=p2 at HN2 HN3 HR2
    generalize numP ys 4=p1 at HN1 HN2 HR2
    obtain⟨a,ya⟩:=p1
    obtain⟨b,yb⟩:=p2
    obtain⟨c,yc⟩:=p3
    dsimp only at HN1 HN2 HN3 HYS2 HR2
    go_upto_region 8 with(first
     | (go_at_call 128;(with_reducible refine(HN3.out _ HGb.out).mono ?_);rintro e wc ⟨rfl,hg,hk⟩;have HGc:=ak hg;have HKc:=ak (HKb.out.trans hk);clear hg hk)
     | (go_at_call 128;(with_reducible refine(HN2.out _ HGa.out).mono ?_);rintro e wb ⟨rfl,hg,hk⟩;have HGb:=ak hg;have HKb:=ak (HKa.out.trans hk);clear hg hk)
     | (go_at_call 128;(with_reducible refine HN1.out.mono ?_);rintro e wa ⟨rfl,hg,hk⟩;have HGa:=ak hg;have HKa:=ak hk;clear hg hk))
    obtain⟨A,cb,hbk,hcb,hCb⟩:=HG.out.bk
    have HNO:=ak (Kd.R_ne HO.out hbk (by decide))
    have hOc:=Kd.R_mono (ok':=fun _=>True) (Kd.R_step (Kd.R_types HO.out hbk (by decide)) (fun k hk hlt=>HKc.out.block k hlt hk.2)) (fun _ _=>trivial)
    have hBn:=below_alloc (RowKit.Below.refl wc.heap.size wc) (.cells #[.int .i64 a,.int .i64 b,.int .i64 c] 57)
    have hLd:=heap_alloc_new wc (.cells #[.int .i64 a,.int .i64 b,.int .i64 c] 57)
    have HRc:=HKc.out.obj HR.out HNE.out
    have hKd:Keeps (fun k=>k=bb∨k=rb) w (wc.alloc (.cells #[.int .i64 a,.int .i64 b,.int .i64 c] 57)):=(HK.out.trans (HKc.out.mono (fun _ e=>.inl e))).trans (Keeps.of_below hBn)
    have hGd:=HGc.out.keeps (Keeps.of_below (F:=fun _=>False) hBn) (fun _ e=>e.elim) (fun e=>e)
    have hRd:=(hBn.block rb (blk_lt HRc)).trans HRc
    have hOd:=Kd.R_below hOc hBn
    generalize wc.alloc (.cells #[.int .i64 a,.int .i64 b,.int .i64 c] 57)=wd at hLd hKd hGd hRd hOd ⊢
    generalize wc.heap.size=lb at hLd ⊢
    have HLd:=ak hLd
    have HKd:=ak hKd
    have HGd:=ak hGd
    have HRd:=ak hRd
    have HOd:=ak hOd
    have x2:=bq hLd 2 (.int .i64 c)
    clear hbk hcb hCb hOc hBn HRc hKd hGd hRd hOd hLd HN1 HN2 HN3 HGa HKa HGb HKb HGc HKc HO HG HR HK
    by_cases hc0:c < 0
    ·have d3:decide (c < 0)=true:=decide_eq_true hc0
     have hR:=HR2.out
     rw[if_pos hc0] at hR
     have hT:=HT.out
     rw[← hR] at hT
     have HT2:=ak (show rootOfM R bs=(false,{R with f1:=k,f2:=n2,f4:=n4,f5:=ls}) from hT.trans (by simp only[Bool.false_and]))
     clear hT hR HT HR2
     go_wp2
     go_ret
     rw[HT2.out]
     exact⟨rfl,A5,c5,HRd.out,Kd.R_lower HOd.out HB0.out,HKd.out⟩
    ·have d3:decide (c < 0)=false:=decide_eq_false hc0
     have hR:=HR2.out
     rw[if_neg hc0] at hR
     have HR3:=ak hR
     clear hR HR2 hc0
     go_upto_region 10 with(fail)
     have x0:=bq HLd.out 0 (.int .i64 a)
     have x1:=bq HLd.out 1 (.int .i64 b)
     have y5:=bq HRd.out 5 (.slice A5 ls.length c5)
     have hlb:lb < wd.heap.size:=blk_lt HLd.out
     have hlr:rb < wd.heap.size:=blk_lt HRd.out
     have HOe:=ak (Kd.R_below HOd.out (RowKit.Below.refl wd.heap.size wd).drew)
     have HLN:=ak (show(ls.length+1)*24≤140737488355328 by have:=HJ.out;have:=HNB.out;omega)
     have HBZ:=ak (show w.heap.size≤wd.drew.heap.size from HKd.out.size)
     go_region_law (refine Kd.R_append_step k57 (w0:=wd.drew) (W:=wd.drew) w.heap.size rfl (.tmp 41) (.tmp 43) 36 57 (.agg #[.int .i64 0,.int .i64 0,.int .i64 0]) 24 rfl Tryz.underlying36 info57 rfl (by decide) (by decide) (.slice A5 ls.length c5) ls (⟨a,b,c⟩:Lo) [.int .i64 a,.int .i64 b,.int .i64 c] (fun _=>True) (fun _=>False) rfl rfl (k57_mkM _ _ _ (⟨a,b,c⟩:Lo)) (fun _ h=>h.elim) (fun _ _=>trivial) HOe.out (RowKit.Below.refl _ _) HBZ.out HLN.out ?_;intro v4 w4 ho4 hb4 hg4 hat4;obtain⟨A4,c4,hv4⟩:=Kd.R_slice ho4;generalize hn4:(ls++[(⟨a,b,c⟩:Lo)]).length=n4' at hv4;subst hv4;have hr5:=blk_grown (show wd.drew.heap[rb]? =_ from HRd.out) hg4 (Kd.R_ne HOd.out HRd.out (by decide));have x5:=bq hr5 5 (.slice A5 ls.length c5);have f5:=blk_frozen hr5 5;have HR5:=ak hr5;have HO4:=ak ho4;have HG4:=ak hg4;have HN4:=ak hn4;clear ho4 hb4 hg4 hat4 hr5 hn4)
     all_goals
      have hn4:=HN4.out
      subst hn4
      have HFr:=ak (show(w4.setCell ⟨rb,5,none⟩ (.slice A4 (ls++[(⟨a,b,c⟩:Lo)]).length c4)).heap[rb]? =some (.cells (recC {R with f1:=k,f2:=n2,f4:=n4,f5:=ls++[(⟨a,b,c⟩:Lo)]} A4 c4 A6 c6) 119 (0,0)) from blk_set HR5.out 5 _)
      have HFo:=ak (Kd.R_mono (ok':=fun _=>True) (Kd.R_far (p:=⟨rb,5,none⟩) (Kd.R_types HO4.out HR5.out (by decide)) (fun k hk=>hk.2) (.slice A4 (ls++[(⟨a,b,c⟩:Lo)]).length c4)) (fun _ _=>trivial))
      have hkw:Keeps (fun q=>q=rb∨some q=(Value.slice A5 ls.length c5).ownBlock) wd (w4.setCell ⟨rb,5,none⟩ (.slice A4 (ls++[(⟨a,b,c⟩:Lo)]).length c4)):=((Keeps.of_grown (w:=wd) ⟨HG4.out.os,HG4.out.tape,HG4.out.output,HG4.out.size,HG4.out.block⟩).mono (fun _ e=>.inr e)).set (.inl rfl)
      have HFg:=ak (HGd.out.keeps hkw (fun q e=>by
       rcases e with e | e
       ·rw[e];exact hrb
       ·exact Nat.le_trans HB0.out (Kd.R_base HOd.out q e.symm)) (fun e=>by
       rcases e with e | e
       ·exact HNE.out e.symm
       ·obtain⟨A',cb',hbk',_⟩:=HGd.out.bk
        exact Kd.R_ne HOd.out hbk' (by decide) e))
      have HFk:=ak (Keeps.trans_new HKd.out hkw (fun q hq e=>by
       rcases e with e | e
       ·exact .inr e
       ·exact absurd (Kd.R_base HOd.out q e.symm) (by omega)))
      clear hkw
      have hln:(ls++[(⟨a,b,c⟩:Lo)]).length=ls.length+1:=by simp
      generalize w4.setCell ⟨rb,5,none⟩ (.slice A4 (ls++[(⟨a,b,c⟩:Lo)]).length c4)=w6 at HFr HFo HFg HFk ⊢
      try go_wp2
      have hjj:j < 65536:=by have:=HNB.out;omega
      go_roundg gk
      case measure=>omega
      case rel=>
       have e:wrap64 ((j:Int)+1)=((j+1:Nat):Int):=by unfold wrap64;omega
       exact⟨j+1,ls++[(⟨a,b,c⟩:Lo)],yc,A4,c4,by rw[e],⟨by have:=HQ.out;omega⟩,⟨by rw[hln,HJ.out]⟩,HR3,HYS2,HFg,HFr,HFo,HFk⟩
end Rc
end
section
namespace Ct
open Go.Shelf Sc Go.Proofs.YtcieieacfoaklaaGreat.Pure Lw Fr Ext Dk Pu
attribute [local go_sem] Oper.semAt_some
abbrev kB:Kd (List Int):=Kd.slice 5 (Kd.int .u8)
structure JB (base ob D L:Nat) (rec:LoopState→Option Code→Loop) (pre:List (List Int)) (N:Nat) (W:World):Prop where
 dd:W.heap[D]? =some (.deferred (some []))
 ll:W.heap[L]? =some (.loop (rec .ready none))
 nn:L < N
 oo:∃v,W.heap[ob]? =some (.cells #[v] 96 (0,0))∧Kd.S kB 35 W base (fun k=>L < k∧k < N) v pre
theorem infoB:(Tryz.prog.info? 35).map (fun i=>(i.zero,i.size,i.bytes))=some (some (.slice none 0 0),1,24):=by kernel_rfl
structure CutO (w:World) (cb:Nat) (k all:Int) (A:Option Addr) (c:Nat) (l:List Int):Prop where
 st:w.heap[cb]? =some (.cells #[.int .i64 k,.int .i64 all,.slice A l.length c] 117 (0,0))
 rd:Kd.C (Kd.int .u8) w A l.length l
 cap:l.length≤c
theorem write_calls (w:World) (cb:Nat) (k all:Int) (hk:1≤k) (hk2:k≤4096) (A:Option Addr) (c:Nat) (l:List Int) (ho:CutO w cb k all A c l) (hfar:∀a,A=some a→a.block≠cb) (Ab:Option Addr) (cb_:Nat) (b:List Int) (hb:Kd.C (Kd.int .u8) w Ab b.length b) (hbc:b.length≤cb_) (hbf:∀a,Ab=some a→a.block≠cb) (hl:l.length+b.length≤1000000000):
  Calls Tryz.prog 38 #[.pointer (some ⟨cb,0,none⟩),.slice Ab b.length cb_] w fun e w'=>∃v A' c',e=.returned v∧Kd.S kB 35 w' w.heap.size (fun _=>True) v (cutW k (l++b)).1∧CutO w' cb k (wrap64 (all+b.length)) A' c' (cutW k (l++b)).2∧(∀a,A'=some a→w.heap.size≤a.block∧a.block < w'.heap.size)∧Keeps (·=cb) w w':=by
 refine callsIn_wide.1 (callsIn_of_wp_marks (n:=3) Tryz.func38 rfl trivial ?_)
 refine wpIn_wide.2 ?_
 simp only[Tryz.ntmps38,List.size_toArray,List.length_cons,List.length_nil,Nat.reduceAdd,Nat.reduceSub,Array.replicate_succ,Array.replicate_zero,List.push_toArray,List.append_toArray,List.nil_append,List.cons_append]
 have x1:=bq ho.st 1 (.int .i64 all)
 have z1:=blk_frozen ho.st 1
 have HO:=ak ho
 have HB:=ak hb
 have HBF:=ak hbf
 have HFA:=ak hfar
 clear ho hb hbf hfar
 go_upto_region 2 with(fail)
 have hst1:(w.setCell ⟨cb,1,none⟩ (.int .i64 (wrap64 (all+b.length)))).heap[cb]? =some (.cells #[.int .i64 k,.int .i64 (wrap64 (all+b.length)),.slice A l.length c] 117 (0,0)):=blk_put (cs:=#[.int .i64 k,.int .i64 all,.slice A l.length c]) HO.out.st 1 (.int .i64 (wrap64 (all+b.length))) rfl
 have hrd1:Kd.C (Kd.int .u8) (w.setCell ⟨cb,1,none⟩ (.int .i64 (wrap64 (all+b.length)))) A l.length l:=C_blk HO.out.rd (fun a ha=>Below.heap_setCell _ _ _ _ (HFA.out a ha))
 have hb1:Kd.C (Kd.int .u8) (w.setCell ⟨cb,1,none⟩ (.int .i64 (wrap64 (all+b.length)))) Ab b.length b:=C_blk HB.out (fun a ha=>Below.heap_setCell _ _ _ _ (HBF.out a ha))
 have hkp1:Keeps (·=cb) w (w.setCell ⟨cb,1,none⟩ (.int .i64 (wrap64 (all+b.length)))):=(Keeps.refl _ _).set rfl
 have hcl:cb < w.heap.size:=blk_lt HO.out.st
 have HST1:=ak hst1
 have HRD1:=ak hrd1
 have HB1:=ak hb1
 have HKP1:=ak hkp1
 have HCL:=ak hcl
 have HCAP:=ak HO.out.cap
 clear hst1 hrd1 hb1 hkp1 hcl HO HB HBF HFA x1 z1
 obtain⟨all1,hall1⟩:∃x,wrap64 (all+b.length)=x:=⟨_,rfl⟩
 rw[hall1] at HST1 HRD1 HB1 HKP1 ⊢
 have HA1:=ak hall1
 clear hall1
 generalize w.setCell ⟨cb,1,none⟩ (.int .i64 all1)=w1 at HST1 HRD1 HB1 HKP1 ⊢
 have x2:=bq HST1.out 2 (.slice A l.length c)
 go_upto_region 3 with(go_at_call 37;refine(concat_calls (some ⟨w1.heap.size,0,none⟩) 2 [l,b] _ (by rw[flatN,flat_two,List.length_append];omega) (C_two w1 A Ab l.length c cb_ _ 35 l b HCAP.out hbc rfl rfl HRD1.out HB1.out)).mono ?_;rintro e w2 ⟨v2,rfl,hv2,hb2⟩;have HBE2:=ak ((below_alloc (RowKit.Below.refl w1.heap.size w1) _).trans (hb2.mono (by simp)));rw[flat_two] at hv2;obtain⟨A2,c2,rfl⟩:=own_slice hv2;have HV2:=ak (own_weaken hv2 (show w.heap.size≤_ by have:=HKP1.out.size;simp only[World.size_alloc];omega));clear hb2 hv2;have HS2:=ak ((HBE2.out.block _ (blk_lt HST1.out)).trans HST1.out);have z2:=blk_frozen HS2.out 2;have y2:=(blk_cell HS2.out 2).trans rfl)
 have hlen:l.length+b.length=(l++b).length:=List.length_append.symm
 have hl':(l++b).length≤1000000000:=by omega
 rw[hlen]
 clear hlen hl hbc x2 HB1 HRD1 HCAP HST1
 obtain⟨xs,hxs⟩:∃x,l++b=x:=⟨_,rfl⟩
 rw[hxs] at HV2 hl' ⊢
 have HXS:=ak hxs
 clear hxs
 have hnb:(Value.slice A2 xs.length c2).ownBlock≠some cb:=fun e=>by have h1:=own_base HV2.out cb e;have h2:=HCL.out;omega
 have HST3:=ak (show(w2.setCell ⟨cb,2,none⟩ (.slice A2 xs.length c2)).heap[cb]? =some (.cells #[.int .i64 k,.int .i64 all1,.slice A2 xs.length c2] 117 (0,0)) from blk_put (cs:=#[.int .i64 k,.int .i64 all1,.slice A l.length c]) HS2.out 2 _ rfl)
 have HOW3:=ak (own_setCell HV2.out (p:=⟨cb,2,none⟩) (fun e=>hnb e.symm) (.slice A2 xs.length c2))
 have HKP3:=ak (show Keeps (·=cb) w (w2.setCell ⟨cb,2,none⟩ (.slice A2 xs.length c2)) from(HKP1.out.trans (Keeps.of_below HBE2.out)).set rfl)
 have HFA3:=ak (show ∀a,A2=some a→w.heap.size≤a.block∧a.block < w2.heap.size from fun a ha=>⟨own_base HV2.out a.block (by rw[ha];rfl),own_lt HV2.out a.block (by rw[ha];rfl)⟩)
 have HSZ3:=ak (show w2.heap.size≤(w2.setCell ⟨cb,2,none⟩ (.slice A2 xs.length c2)).heap.size from(KeepsWalks.setCell _ _ _).size)
 clear hnb HV2 HS2 HBE2 HKP1 z2 y2
 generalize w2.setCell ⟨cb,2,none⟩ (.slice A2 xs.length c2)=w3 at HST3 HOW3 HKP3 HSZ3 ⊢
 obtain⟨hcap3,hrd3⟩:=(Kd.R_reads' (R_ints HOW3.out)).2
 have hwb:w.heap.size≤w3.heap.size:=HKP3.out.size
 have hcb3:cb < w.heap.size:=HCL.out
 go_wp2_with (go_at_call 69;(with_reducible refine(full_calls cb _).mono ?_);rintro e w4 ⟨rfl,rfl⟩)
 have q0:((w3.alloc (.cells #[.slice none 0 0] 96)).alloc (.cells #[.pointer (some ⟨cb,0,none⟩)] 85)).heap[w3.heap.size]? =some (.cells #[.slice none 0 0] 96 (0,0)):=blk_alloc (heap_alloc_new w3 _) _
 have q1:((w3.alloc (.cells #[.slice none 0 0] 96)).alloc (.cells #[.pointer (some ⟨cb,0,none⟩)] 85)).heap[w3.heap.size+1]? =some (.cells #[.pointer (some ⟨cb,0,none⟩)] 85 (0,0)):=by
  have:=heap_alloc_new (w3.alloc (.cells #[.slice none 0 0] 96)) (.cells #[.pointer (some ⟨cb,0,none⟩)] 85)
  rwa [World.size_alloc] at this
 have q4:((w3.alloc (.cells #[.slice none 0 0] 96)).alloc (.cells #[.pointer (some ⟨cb,0,none⟩)] 85)).heap.size=w3.heap.size+2:=by simp
 have q5:RowKit.Below w3.heap.size w3 ((w3.alloc (.cells #[.slice none 0 0] 96)).alloc (.cells #[.pointer (some ⟨cb,0,none⟩)] 85)):=below_alloc (below_alloc (RowKit.Below.refl _ _) _) _
 generalize (w3.alloc (.cells #[.slice none 0 0] 96)).alloc (.cells #[.pointer (some ⟨cb,0,none⟩)] 85)=W0 at q0 q1 q4 q5 ⊢
 refine range_wide rfl (enters_of Tryz.func125 (by kernel_rfl) rfl) ?_
 intro fn rec hrec
 rw[q4]
 have hH0:Hc w W0 w3.heap.size cb (w3.heap.size+1) k all1 A2 c2 xs:=⟨(q5.block _ (blk_lt HST3.out)).trans HST3.out,q1,Kd.C_below hrd3 q5,hcap3,fun a ha=>⟨(HFA3.out a ha).1,Nat.lt_of_lt_of_le (HFA3.out a ha).2 HSZ3.out⟩,HCL.out,HKP3.out.trans (Keeps.of_below q5)⟩
 have HH1:Hc w ((W0.alloc (.deferred (some []))).alloc (.loop (rec .ready none))) w3.heap.size cb (w3.heap.size+1) k all1 A2 c2 xs:=
  Hc.below (Hc.below hH0 (below_alloc (RowKit.Below.refl _ _) _)) (below_alloc (RowKit.Below.refl _ _) _)
 have HJ1:JB w.heap.size w3.heap.size (w3.heap.size+2) (w3.heap.size+3) rec [] (w3.heap.size+4) ((W0.alloc (.deferred (some []))).alloc (.loop (rec .ready none))):=by
  have d1:=World.alloc_heap_new W0 (.deferred (some []))
  have d2:=World.alloc_heap_new (W0.alloc (.deferred (some []))) (.loop (rec .ready none))
  rw[World.size_alloc] at d2
  rw[q4] at d1 d2
  exact⟨(RowKit.Below.heap_alloc _ _ _ (by simp <;> omega)).trans d1,d2,by omega,_,(RowKit.Below.heap_alloc _ _ _ (by simp <;> omega)).trans ((RowKit.Below.heap_alloc _ _ _ (by omega)).trans q0),Kd.S_nil _ _ _ _ _⟩
 have hsz1:((W0.alloc (.deferred (some []))).alloc (.loop (rec .ready none))).heap.size=w3.heap.size+4:=by simp;omega
 generalize (W0.alloc (.deferred (some []))).alloc (.loop (rec .ready none))=W1 at HH1 HJ1 hsz1 ⊢
 clear q0 q1 q4 q5 hH0
 obtain⟨S,hS0⟩:∃S,w3.heap.size=S:=⟨_,rfl⟩
 rw[hS0] at HH1 HJ1 hsz1 hwb hrec ⊢
 refine(full1_calls w S (S+3) cb (S+1) k all1 hk hk2 (by omega) (JB w.heap.size S (S+2) (S+3) rec) (cutW k xs) W1 (xs.length+1) (S+4) A2 c2 xs (by omega) ?j1 ?j2 ?yy HJ1 (Nat.le_of_eq hsz1.symm) HH1 (by omega) (cutW_more hk xs)).mono ?fin
 case j1=>
  rintro pre N W W' ⟨h1,h2,hn,v,h3,h4⟩ hN hb
  exact⟨(hb.block _ (blk_lt' h1)).trans h1,(hb.block _ (blk_lt' h2)).trans h2,hn,v,(hb.block _ (blk_lt h3)).trans h3,Kd.S_below h4 hb⟩
 case j2=>
  rintro pre N W u ⟨h1,h2,hn,v,h3,h4⟩
  exact⟨(RowKit.Below.heap_setCell _ _ _ _ (by simp only;omega)).trans h1,(RowKit.Below.heap_setCell _ _ _ _ (by simp only;omega)).trans h2,hn,v,blk_far h3 (by simp only;omega) _,Kd.S_far h4 (fun k hk=>by simp only;omega) _⟩
 case yy=>
  rintro pre N ys A' c' A3 c3 l3 W2 ⟨hd,hl,hn,v1,hv1,hS⟩ hN hH hpre hO
  have hl0:=hl
  rw[hrec] at hl
  refine yield_wide hl rfl ?_
  gi_wp2
  have hbr:(Instr.beginRound (S+3)).run Tryz.prog W2=.ok () (W2.putObj (S+3) (.loop (rec .busy none))):=by
   have hl3:=hl0
   rw[hrec] at hl3
   rw[hrec]
   exact run_beginRound hl3 rfl
  refine⟨_,hbr,?_⟩
  have hsz:S+3 < W2.heap.size:=blk_lt' hl0
  have e1:∀i,i≠S+3→(W2.putObj (S+3) (.loop (rec .busy none))).heap[i]? =W2.heap[i]? :=fun i hi=>World.putObj_heap_other hi
  have HL:=ak (show(W2.putObj (S+3) (.loop (rec .busy none))).heap[S+3]? =some (.loop (rec .busy none)) from World.putObj_heap_same (blk_lt' hl0))
  have HD:=ak ((e1 (S+2) (by omega)).trans hd)
  have HO:=ak ((e1 S (by omega)).trans hv1)
  have HS:=ak (show Kd.S kB 35 (W2.putObj (S+3) (.loop (rec .busy none))) w.heap.size (fun k=>S+3 < k∧k < N) v1 pre from Kd.S_step hS (fun k hk hlt=>e1 k (by omega)))
  have HYs:=ak (own_move (w1:=W2.putObj (S+3) (.loop (rec .busy none))) hO (fun k hk=>e1 k (by have:=own_base hO k hk;omega)))
  have HSZ:=ak (show(W2.putObj (S+3) (.loop (rec .busy none))).heap.size=W2.heap.size by simp)
  have hkl:Keeps (·=cb) w (W2.putObj (S+3) (.loop (rec .busy none))):=Rc.Keeps.trans_new hH.keep (Rc.Keeps.of_grown (grownBy_putObj' W2 (S+3) (.loop (rec .busy none)))) (fun k hk e=>by cases e;omega)
  have HHd:=ak (show Hc w (W2.putObj (S+3) (.loop (rec .busy none))) S cb (S+1) k all1 A3 c3 l3 from⟨(e1 _ (by omega)).trans hH.st,(e1 _ (by omega)).trans hH.x1,C_blk hH.rd (fun a ha=>e1 _ (by have:=(hH.far a ha).2;omega)),hH.cap,hH.far,hH.cbl,hkl⟩)
  have HN:=ak hN
  have HNN:=ak hn
  clear hl hd hv1 hS hO hH hbr e1 hl0 hkl hN hn
  generalize W2.putObj (S+3) (.loop (rec .busy none))=W4 at HL HD HO HS HYs HSZ HHd ⊢
  have o0:=(blk_cell HO.out 0).trans rfl
  have z0:=blk_frozen HO.out 0
  have hv1:=HS.out
  obtain⟨Sv,hSv⟩:∃f,Aside0 (∀k,v1.ownBlock=some k→S+3 < k∧k < N):=⟨(),⟨(Kd.S_R HS.out).1⟩⟩
  have hbyte:(pre.length+1)*24≤140737488355328:=by omega
  clear hv1
  gi_wp2_with (gi_at_builtin;refine append_in kB (w0:=W4) w.heap.size rfl (.tmp 29) (.tmp 31) 96 35 (.slice none 0 0) 24 rfl Tryz.underlying96 infoB rfl (by decide) (by omega) v1 pre ys [.slice A' ys.length c'] (fun k=>S+3 < k) (fun k=>some k=(Value.slice A' ys.length c').ownBlock) rfl rfl ?aP ?aK ?aF ?aO ?aB ?aS ?aL ?_;(case aP=>exact⟨_,rfl,Kd.R_of_own (own_weaken HYs.out (by have:=HNN.out;omega)) (fun k hk=>hk.symm)⟩);(case aK=>exact(fun k hk=>⟨by have:=own_base HYs.out k hk.symm;have:=HNN.out;omega,fun e=>by have:=own_base HYs.out k hk.symm;have:=hSv.out k e.symm;omega⟩));(case aF=>exact(fun k hk=>by have:=HSZ.out;omega));(case aO=>exact Kd.S_mono HS.out (fun k hk=>⟨hk.1,fun e=>by have:=own_base HYs.out k e.symm;omega⟩));(case aB=>exact RowKit.Below.refl _ _);(case aS=>have:=HSZ.out;omega);(case aL=>exact hbyte);intro v5 w5 hS5 hB5 hg5;obtain⟨A5,c5,rfl⟩:=Kd.S_slice hS5;have HS5:=ak hS5;have HG5:=ak hg5;clear hS5 hB5 hg5;have HO5:=ak (blk_grown HO.out HG5.out (fun e=>by have:=hSv.out _ e.symm;omega));have o5:=(blk_cell HO5.out 0).trans rfl;have z5:=blk_frozen HO5.out 0)
  have hS5:=HS5.out
  have hlen5:(pre++[ys]).length=pre.length+1:=by simp
  rw[hlen5] at hS5
  have hw4:=HSZ.out
  have f5:∀i,i≤S+3→w5.heap[i]? =W4.heap[i]? :=fun i hi=>HG5.out.block i (by omega) (fun e=>by have:=hSv.out i e.symm;omega)
  have hk5:Keeps (·=cb) w w5:=Rc.Keeps.trans_new HHd.out.keep (Rc.Keeps.of_grown HG5.out) (fun k hk e=>by have:=hSv.out k e.symm;omega)
  have f6:∀i,i≤S+3→i≠S→(w5.setCell ⟨S,0,none⟩ (.slice A5 (pre.length+1) c5)).heap[i]? =W4.heap[i]? :=fun i hi hne=>(RowKit.Below.heap_setCell w5 _ _ i hne).trans (f5 i hi)
  have hz5:W4.heap.size≤w5.heap.size:=HG5.out.size
  have hO6:=blk_put (cs:=#[v1]) HO5.out 0 (.slice A5 (pre.length+1) c5) rfl
  have hS6:=Kd.S_far (p:=⟨S,0,none⟩) (Kd.S_bound hS5) (fun k hk=>by have:=hk.1;simp only;omega) (.slice A5 (pre.length+1) c5)
  have hk6:Keeps (·=cb) w (w5.setCell ⟨S,0,none⟩ (.slice A5 (pre.length+1) c5)):=Rc.Keeps.trans_new hk5 ((Keeps.refl (·=S) w5).set rfl) (fun k hk e=>by omega)
  have hz6:w5.heap.size≤(w5.setCell ⟨S,0,none⟩ (.slice A5 (pre.length+1) c5)).heap.size:=(KeepsWalks.setCell _ _ _).size
  generalize w5.setCell ⟨S,0,none⟩ (.slice A5 (pre.length+1) c5)=w6 at f6 hO6 hS6 hk6 hz6 ⊢
  have hl6:w6.heap[S+3]? =some (.loop (rec .busy none)):=(f6 _ (by omega) (by omega)).trans HL.out
  have hend:(Instr.endRound (S+3) none).run Tryz.prog w6=.ok (.bool true) (w6.putObj (S+3) (.loop (rec .ready none))):=by
   rw[hrec] at hl6
   rw[hrec]
   exact run_endRound none hl6
  have e7:∀i,i≠S+3→(w6.putObj (S+3) (.loop (rec .ready none))).heap[i]? =w6.heap[i]? :=fun i hi=>World.putObj_heap_other hi
  have hz7:(w6.putObj (S+3) (.loop (rec .ready none))).heap.size=w6.heap.size:=by simp
  have hk7:Keeps (·=cb) w (w6.putObj (S+3) (.loop (rec .ready none))):=Rc.Keeps.trans_new hk6 (Rc.Keeps.of_grown (grownBy_putObj' w6 (S+3) (.loop (rec .ready none)))) (fun k hk e=>by cases e;omega)
  refine⟨_,_,hend,rfl,⟨_,Nat.le_refl _,?_⟩,?_⟩
  ·refine⟨(e7 _ (by omega)).trans ((f6 _ (by omega) (by omega)).trans HD.out),World.putObj_heap_same (blk_lt' hl6),by omega,_,(e7 _ (by omega)).trans hO6,?_⟩
   exact Kd.S_mono (Kd.S_step hS6 (fun k hk _=>e7 k (by have:=hk.1;omega))) (fun k hk=>⟨hk.1,by have:=hk.2.2.1;omega⟩)
  ·have hh:=HHd.out
   exact⟨(e7 _ (by omega)).trans ((f6 _ (by omega) (by omega)).trans hh.st),(e7 _ (by omega)).trans ((f6 _ (by omega) (by omega)).trans hh.x1),C_blk hh.rd (fun a ha=>by have:=(hh.far a ha).2;exact(e7 _ (by omega)).trans (f6 _ (by omega) (by omega))),hh.cap,hh.far,hh.cbl,hk7⟩
 case fin=>
  rintro e W' ⟨⟨v,rfl⟩,N,A3,c3,hN,hJ,hH⟩
  refine⟨⟨v,rfl⟩,.ready,none,by simp,hJ.ll,?_⟩
  obtain⟨hd,hl,hn,v1,hv1,hS⟩:=hJ
  have e0:∀i,i≠S+3→(W'.putObj (S+3) (.loop (rec .exhausted none))).heap[i]? =W'.heap[i]? :=fun i hi=>World.putObj_heap_other hi
  have HS:=ak (show Kd.S kB 35 (W'.putObj (S+3) (.loop (rec .exhausted none))) w.heap.size (fun k=>S+3 < k∧k < N) v1 (cutW k xs).1 from Kd.S_step hS (fun k hk _=>e0 k (by omega)))
  have HD:=ak ((e0 (S+2) (by omega)).trans hd)
  have HO:=ak ((e0 S (by omega)).trans hv1)
  have HST:=ak ((e0 cb (by omega)).trans hH.st)
  have HRD:=ak (C_blk (w':=W'.putObj (S+3) (.loop (rec .exhausted none))) hH.rd (fun a ha=>e0 _ (by have:=(hH.far a ha).2;omega)))
  have HK:=ak (show Keeps (·=cb) w (W'.putObj (S+3) (.loop (rec .exhausted none))) from Rc.Keeps.trans_new hH.keep (Rc.Keeps.of_grown (grownBy_putObj' W' (S+3) (.loop (rec .exhausted none)))) (fun k hk e=>by cases e;omega))
  have HCP:=ak hH.cap
  have HFR:=ak hH.far
  clear hd hl hv1 hS hH e0
  generalize W'.putObj (S+3) (.loop (rec .exhausted none))=W3 at HS HD HO HST HRD HK ⊢
  have o0:=(blk_cell HO.out 0).trans rfl
  go_wp2
  refine⟨by simp,.inl ⟨_,_,rfl,run_takeDeferred HD.out,?_⟩⟩
  have e9:∀i,i≠S+2→(W3.putObj (S+2) (.deferred none)).heap[i]? =W3.heap[i]? :=fun i hi=>World.putObj_heap_other hi
  refine⟨v1,by simp [results,Tryz.f38,go_sem],v1,A3,c3,rfl,?_,?_,fun a ha=>⟨(HFR.out a ha).1,by have h1:=(HFR.out a ha).2;have h2:=blk_lt' HD.out;have h3:=(grownBy_putObj' W3 (S+2) (.deferred none)).size;omega⟩,?_⟩
  ·rw[HXS.out]
   exact Kd.S_mono (Kd.S_step HS.out (fun k hk _=>e9 k (by have:=hk.1;omega))) (fun _ _=>trivial)
  ·rw[HXS.out,HA1.out]
   exact⟨(e9 cb (by omega)).trans HST.out,C_blk HRD.out (fun a ha=>e9 _ (by have:=(HFR.out a ha).2;omega)),HCP.out⟩
  ·exact Rc.Keeps.trans_new HK.out (Rc.Keeps.of_grown (grownBy_putObj' W3 (S+2) (.deferred none))) (fun k hk e=>by cases e;omega)
end Ct
end
section
namespace Dk
open Go.Shelf Go.Maps Go.Sort Fr Ext Pt

variable {w w' w1:World} {B g nb kb N:Nat} {pv:Value} {bl:List Nat} {vs:List Value} {M M':DiskM} {F:Nat→Prop}
theorem IsDisk.base (h:IsDisk w B g nb kb N pv bl vs M):∀k,Foot g nb kb pv bl vs k→B≤k:=by
 rintro k (hk | ⟨i,hi⟩)
 ·exact h.above k hk
 ·have hl:=vs_lt hi
  have hf:=h.file i _ (List.getElem?_eq_getElem (by rw[← h.len2];exact hl))
  obtain⟨inner,ho⟩:=Kd.R_own hf.2
  exact own_base ho k hi
structure DiskAt (w:World) (B g N:Nat) (M:DiskM) (F:Nat→Prop):Prop where
 is:∃nb kb pv bl vs,IsDisk w B g nb kb N pv bl vs M∧∀k,Foot g nb kb pv bl vs k→F k
 lt:∀k,F k→k < w.heap.size
 base:∀k,F k→B≤k
 self:F g
theorem IsDisk.at (h:IsDisk w B g nb kb N pv bl vs M):DiskAt w B g N M (Foot g nb kb pv bl vs):=⟨⟨nb,kb,pv,bl,vs,h,fun _ hk=>hk⟩,h.lt,h.base,Foot.g⟩
theorem DiskAt.keep {G:Nat→Prop} (h:DiskAt w B g N M F) (hk:Keeps G w w1) (hG:∀k,F k→¬G k):DiskAt w1 B g N M F:=by
 obtain⟨⟨nb,kb,pv,bl,vs,hd,hf⟩,hl,hb,hs⟩:=h
 exact⟨⟨nb,kb,pv,bl,vs,hd.same (fun k hm=>hk.block k (hl k (hf k hm)) (hG k (hf k hm))),hf⟩,fun k hm=>Nat.lt_of_lt_of_le (hl k hm) hk.size,hb,hs⟩
theorem DiskAt.below (h:DiskAt w B g N M F) (hb:RowKit.Below w.heap.size w w1):DiskAt w1 B g N M F:=h.keep (Keeps.of_below (F:=fun _=>False) hb) (fun _ _ h=>h)
theorem DiskAt.mono {N':Nat} (h:DiskAt w B g N M F) (hN:N≤N'):DiskAt w B g N' M F:=by
 obtain⟨⟨nb,kb,pv,bl,vs,hd,hf⟩,hl,hb,hs⟩:=h
 exact⟨⟨nb,kb,pv,bl,vs,hd.mono hN,hf⟩,hl,hb,hs⟩
def Turned (w w':World) (B g N:Nat) (F:Nat→Prop) (M':DiskM):Prop:=
 ∃F',DiskAt w' B g N M' F'∧(∀k,F k→F' k)∧(∀k,F' k→F k∨w.heap.size≤k)∧Keeps F w w'
theorem Turned.of_is {nb' kb' N':Nat} {pv':Value} {bl':List Nat} {vs':List Value} (h:DiskAt w B g N M F) (hd:IsDisk w' B g nb' kb' N' pv' bl' vs' M') (hf:∀k,Foot g nb' kb' pv' bl' vs' k→F k∨w.heap.size≤k) (hk:Keeps F w w'):Turned w w' B g N' F M':=
 ⟨fun k=>F k∨Foot g nb' kb' pv' bl' vs' k,⟨⟨nb',kb',pv',bl',vs',hd,fun k hk=>.inr hk⟩,fun k hm=>hm.elim (fun hm=>Nat.lt_of_lt_of_le (h.lt k hm) hk.size) (hd.lt k),fun k hm=>hm.elim (h.base k) (hd.base k),.inl h.self⟩,fun k hk=>.inl hk,fun k hm=>hm.elim .inl (hf k),hk⟩
theorem Turned.refl (h:DiskAt w B g N M F):Turned w w B g N F M:=⟨F,h,fun _ hk=>hk,fun _ hk=>.inl hk,Keeps.refl _ _⟩
theorem Turned.of_below (h:DiskAt w B g N M F) (hb:RowKit.Below w.heap.size w w'):Turned w w' B g N F M:=⟨F,h.below hb,fun _ hk=>hk,fun _ hk=>.inl hk,Keeps.of_below hb⟩
theorem Turned.mono {N':Nat} (h:Turned w w' B g N F M) (hN:N≤N'):Turned w w' B g N' F M:=by
 obtain⟨F',h1,h2⟩:=h
 exact⟨F',h1.mono hN,h2⟩
theorem Turned.keeps (h:Turned w w' B g N F M):Keeps F w w':=by
 obtain⟨F',_,_,_,h⟩:=h
 exact h
theorem Turned.after (hk:Keeps F w w1) (h:Turned w1 w' B g N F M):Turned w w' B g N F M:=by
 obtain⟨F',h1,h2,h3,h4⟩:=h
 exact⟨F',h1,h2,fun k hm=>(h3 k hm).imp id (fun h=>Nat.le_trans hk.size h),hk.trans h4⟩
theorem Turned.then {w2:World} {N2:Nat} {M2:DiskM} (h:Turned w w1 B g N F M) (hn:∀F1,DiskAt w1 B g N M F1→(∀k,F k→F1 k)→(∀k,F1 k→F k∨w.heap.size≤k)→Turned w1 w2 B g N2 F1 M2):Turned w w2 B g N2 F M2:=by
 obtain⟨F1,h1,h2,h3,h4⟩:=h
 obtain⟨F2,k1,k2,k3,k4⟩:=hn F1 h1 h2 h3
 refine⟨F2,k1,fun k hk=>k2 k (h2 k hk),fun k hk=>?_,⟨k4.os.trans h4.os,k4.tape.trans h4.tape,k4.output.trans h4.output,Nat.le_trans h4.size k4.size,fun k hk hf=>?_⟩⟩
 ·rcases k3 k hk with hk | hk
  ·exact h3 k hk
  ·exact .inr (Nat.le_trans h4.size hk)
 ·have hF1:¬F1 k:=fun h=>by
   rcases h3 k h with h | h
   ·exact hf h
   ·omega
  exact(k4.block k (Nat.lt_of_lt_of_le hk h4.size) hF1).trans (h4.block k hk hf)
end Dk
end
section
namespace Dk
open Go.Shelf Go.Maps Go.Sort Fr Ext Pt

variable {w w' w1:World} {B g nb kb N:Nat} {pv:Value} {bl:List Nat} {vs:List Value} {M M':DiskM} {F:Nat→Prop}
def syncDirM (M:DiskM):DiskM×Int:=
 if M.d.down then(M,82)
 else if thingE M.d=0 then({M with d:=thingN M.d,K:=M.D},0)
 else({M with d:=thingN M.d},thingE M.d)
theorem IsDisk.kept {kb':Nat} (h:IsDisk w B g nb kb N pv bl vs M) (hb:w'.heap[g]? =some (.cells (cellsD M.d (.map (some nb)) (.map (some kb')) (.slice none 0 0)) 75 (0,0)))
  (hm:w'.ownsMap Tryz.prog 9 (RP bl) kb' N M.D) (hnew:w.heap.size≤kb') (hB:B≤kb') (hk:∀k,Foot g nb kb pv bl vs k→k≠g→w'.heap[k]? =w.heap[k]?):IsDisk w' B g nb kb' N (.slice none 0 0) bl vs {M with K:=M.D}:=by
 obtain⟨a1,a2⟩:=fixed_nodup.1 h.apart
 have hlt:∀k,k∈fixed g nb kb pv bl→k < w.heap.size:=fun k hm=>h.lt k (.inl hm)
 have hin:∀k,k∈g::nb::kb::bl→k∈fixed g nb kb pv bl:=fun k hm=>mem_fixed.2 (.inl hm)
 have hne:∀k,k∈nb::kb::bl→k≠g:=fun k hm e=>by
  rw[List.nodup_cons] at a1
  exact a1.1 (by rw[← e];exact hm)
 have hgo:∀k,k∈nb::kb::bl→w'.heap[k]? =w.heap[k]? :=fun k hm=>hk k (.inl (hin k (List.mem_cons_of_mem _ hm))) (hne k hm)
 have hmem:∀k,k∈fixed g nb kb' (.slice none 0 0) bl→k=kb'∨k∈fixed g nb kb pv bl:=fun k hm=>by
  rcases mem_fixed.1 hm with hm | hm
  ·simp only[List.mem_cons] at hm
   rcases hm with h | h | h | h
   ·exact .inr (hin k (by simp [h]))
   ·exact .inr (hin k (by simp [h]))
   ·exact .inl h
   ·exact .inr (hin k (by simp [h]))
  ·simp [Value.ownBlock] at hm
 refine {blk:=hb,names:=owns_heap h.names (hgo nb (by simp)),keeps:=hm,heldD:=h.heldD,heldK:=h.heldD,inD:=h.inD,inK:=h.inD,len1:=h.len1,len2:=h.len2,file:=fun i f hf=>?_,pend:=⟨0,[],Nat.zero_le _,own_nil _ _ _ _⟩,apart:=?_,rows:=fun i k hi=>⟨fun hm=>?_,(h.rows i k hi).2⟩,above:=fun k hm=>?_}
 ·obtain⟨h1,h2⟩:=h.file i f hf
  have hi:=(List.getElem?_eq_some_iff.1 hf).1
  refine⟨(hgo _ (List.mem_cons_of_mem _ (List.mem_cons_of_mem _ (mem_bl (by rw[h.len1];exact hi))))).trans h1,row_heap h2 (fun k hvk=>hk k (.inr ⟨i,hvk⟩) (fun e=>(h.rows i k hvk).1 (by rw[e];exact hin g (by simp))))⟩
 ·refine fixed_nodup.2 ⟨?_,fun k e=>by simp [Value.ownBlock] at e⟩
  simp only[List.nodup_cons,List.mem_cons,not_or] at a1 ⊢
  have hkl:kb' ∉ bl:=fun hm=>by have:=hlt kb' (hin kb' (by simp [hm]));omega
  have hkg:g≠kb':=fun e=>by have:=hlt g (hin g (by simp));omega
  have hkn:nb≠kb':=fun e=>by have:=hlt nb (hin nb (by simp));omega
  exact⟨⟨a1.1.1,hkg,a1.1.2.2⟩,⟨hkn,a1.2.1.2⟩,hkl,a1.2.2.2⟩
 ·rcases hmem k hm with hm | hm
  ·have:=h.lt k (.inr ⟨i,hi⟩)
   omega
  ·exact(h.rows i k hi).1 hm
 ·rcases hmem k hm with hm | hm
  ·rw[hm];exact hB
  ·exact h.above k hm
theorem syncDir_calls (w:World) (hd:IsDisk w B g nb kb N pv bl vs M):
  Calls Tryz.prog 114 #[.pointer (some ⟨g,0,none⟩)] w fun e w'=>e=.returned (.int .i64 (syncDirM M).2)∧(∃kb' pv',IsDisk w' B g nb kb' N pv' bl vs (syncDirM M).1∧∀k,Foot g nb kb' pv' bl vs k→Foot g nb kb pv bl vs k∨w.heap.size≤k)∧Keeps (Foot g nb kb pv bl vs) w w':=by
 have HD:=ak hd
 have x8:=bq hd.blk 10 (.bool M.d.down)
 clear hd
 go_enter Tryz.func114,Tryz.ntmps114
 obtain⟨dn,hdn⟩:∃b,M.d.down=b:=⟨_,rfl⟩
 rw[hdn] at x8
 cases dn with
 | true=>
  have e3:syncDirM M=(M,82):=by unfold syncDirM;rw[hdn];rfl
  have E3:=ak e3
  clear e3 hdn
  go_wp2
  go_ret
  rw[E3.out]
  exact⟨rfl,⟨kb,pv,HD.out,fun k hk=>.inl hk⟩,Keeps.refl _ _⟩
 | false=>
 by_cases ht:thingE M.d=0
 ·have e3:syncDirM M=({M with d:=thingN M.d,K:=M.D},0):=by unfold syncDirM;rw[hdn];simp only[ht];rfl
  have E3:=ak e3
  have HT:=ak ht
  clear e3 ht hdn
  go_upto_region 6 with(go_at_call 124;(with_reducible refine(thing_calls g M.d (.map (some nb)) (.map (some kb)) pv _ HD.out.blk).mono ?_);rintro e w3 ⟨rfl,hb,hk⟩;have HD3:=ak (HD.out.thing hb hk);have HK3:=ak hk;clear hb hk;rw[HT.out])
  have x3:=bq HD3.out.blk 3 (.map (some nb))
  have cM:=ak (show Calls Tryz.prog 142 #[.map (some nb)] w3 (fun e w'=>e=.returned (.map (some w3.heap.size))∧w'.ownsMap Tryz.prog 9 (RP bl) w3.heap.size N M.D∧w'.ownsMap Tryz.prog 9 (RP bl) nb N M.D∧RowKit.Below w3.heap.size w3 w') from AnyW.maps_Clone_owns Sh.cloneM 9 (RP bl) nb N M.D _ HD3.out.names)
  clear x8
  go_upto_region 7 with(go_at_call 142;(with_reducible refine cM.out.mono ?_);rintro e w4 ⟨rfl,hm,hm0,hb⟩;have HM:=ak hm;have HB:=ak hb;have hblk4:=(hb.block g (blk_lt HD3.out.blk)).trans HD3.out.blk;have x4:=bq hblk4 4 (.map (some kb));have f4:=blk_frozen hblk4 4;have x5:w4.cell? ⟨g,5,none⟩=some pv:=(blk_cell hblk4 5).trans rfl;have f5:=blk_frozen hblk4 5;have HB4:=ak hblk4;clear hm hm0 hb hblk4)
  go_wp2
  go_ret
  rw[E3.out]
  have hk3:=keeps_g (nb:=nb) (kb:=kb) (pv:=pv) (bl:=bl) (vs:=vs) HK3.out
  have hg3:g < w3.heap.size:=blk_lt HD3.out.blk
  have hset:∀k,k≠g→((w4.setCell ⟨g,4,none⟩ (.map (some w3.heap.size))).setCell ⟨g,5,none⟩ (.slice none 0 0)).heap[k]? =w4.heap[k]? :=fun k hk=>(Below.heap_setCell _ ⟨g,5,none⟩ _ k hk).trans (Below.heap_setCell _ ⟨g,4,none⟩ _ k hk)
  have hB3:B≤w3.heap.size:=Nat.le_of_lt (Nat.lt_of_le_of_lt (HD3.out.above g (by simp [fixed])) hg3)
  refine⟨rfl,⟨w3.heap.size,.slice none 0 0,HD3.out.kept (blk_put (blk_put HB4.out 4 (.map (some w3.heap.size)) rfl) 5 (.slice none 0 0) rfl) (owns_heap HM.out (hset _ (by omega))) (Nat.le_refl _) hB3 (fun k hk hn=>(hset k hn).trans (HB.out.block k (HD3.out.lt k hk))),fun k hk=>?_⟩,?_⟩
  ·rcases hk with hk | ⟨i,hi⟩
   ·rcases mem_fixed.1 hk with hm | hm
    ·simp only[List.mem_cons] at hm
     rcases hm with h | h | h | h
     ·exact .inl (.inl (mem_fixed.2 (.inl (by simp [h]))))
     ·exact .inl (.inl (mem_fixed.2 (.inl (by simp [h]))))
     ·exact .inr (by rw[h];exact hk3.size)
     ·exact .inl (.inl (mem_fixed.2 (.inl (by simp [h]))))
    ·simp [Value.ownBlock] at hm
   ·exact .inl (.inr ⟨i,hi⟩)
  ·exact(hk3.trans (((Keeps.of_below HB.out).set Foot.g).set Foot.g))
 ·have e3:syncDirM M=({M with d:=thingN M.d},thingE M.d):=by unfold syncDirM;rw[hdn];simp only[ht];rfl
  have E3:=ak e3
  have e4:(thingE M.d !=0)=true:=bne_iff_ne.mpr ht
  clear e3 ht hdn
  go_wp2_with (go_at_call 124;(with_reducible refine(thing_calls g M.d (.map (some nb)) (.map (some kb)) pv _ HD.out.blk).mono ?_);rintro e w3 ⟨rfl,hb,hk⟩;have HD3:=ak (HD.out.thing hb hk);have HK3:=ak hk;clear hb hk)
  go_ret
  rw[E3.out]
  exact⟨rfl,⟨kb,pv,HD3.out,fun k hk=>.inl hk⟩,keeps_g HK3.out⟩
end Dk
end
section
namespace Dk
open Go.Shelf Go.Maps Go.Sort Fr Ext Pt

variable {w w' w1:World} {B g N:Nat} {M M':DiskM} {F:Nat→Prop}
abbrev ptr (g:Nat):Value:=.pointer (some ⟨g,0,none⟩)
theorem DiskAt.down? (h:DiskAt w B g N M F):Calls Tryz.prog 49 #[ptr g] w fun e w'=>e=.returned (.bool M.d.down)∧w'=w:=by
 obtain⟨⟨nb,kb,pv,bl,vs,hd,hf⟩,hl,hb,hs⟩:=h
 exact down_calls w hd
theorem DiskAt.done? (h:DiskAt w B g N M F):Calls Tryz.prog 24 #[ptr g] w fun e w'=>e=.returned (.int .i64 M.d.done)∧w'=w:=by
 obtain⟨⟨nb,kb,pv,bl,vs,hd,hf⟩,hl,hb,hs⟩:=h
 exact done_calls w hd
theorem DiskAt.size? (h:DiskAt w B g N M F) (s:ByteArray) (hs:s.size≤maxLen):Calls Tryz.prog 48 #[ptr g,.string s] w fun e w'=>e=.returned (.tuple #[.int .i64 (sizeM M s),.bool (look M.D s).isSome])∧w'=w:=by
 obtain⟨⟨nb,kb,pv,bl,vs,hd,hf⟩,hl,hb,hx⟩:=h
 exact size_calls s w hd hs
theorem DiskAt.used? (h:DiskAt w B g N M F):Calls Tryz.prog 21 #[ptr g] w fun e w'=>e=.returned (.int .i64 (usedM M))∧RowKit.Below w.heap.size w w':=by
 obtain⟨⟨nb,kb,pv,bl,vs,hd,hf⟩,hl,hb,hs⟩:=h
 exact used_calls w hd
theorem DiskAt.list? (h:DiskAt w B g N M F) (hmax:Maps.size M.D≤1000000000):Calls Tryz.prog 101 #[ptr g] w fun e w'=>∃v,e=.returned v∧w'.ownsRow w.heap.size 9 1 v (listM M).length ((listM M).map encStr)∧RowKit.Below w.heap.size w w':=by
 obtain⟨⟨nb,kb,pv,bl,vs,hd,hf⟩,hl,hb,hs⟩:=h
 exact list_calls w hd hmax
theorem DiskAt.read? (h:DiskAt w B g N M F) (s:ByteArray) (at_ n:Int) (hs:s.size≤maxLen) (hlen:∀f∈M.fs,f.b.length≤67108864):
  Calls Tryz.prog 50 #[ptr g,.string s,.int .i64 at_,.int .i64 n] w fun e w'=>∃v,e=.returned (.tuple #[v,.int .i64 (readM M s at_ n).2])∧Kd.R (Kd.int .u8) 5 w' w.heap.size (fun _=>True) v (readM M s at_ n).1∧RowKit.Below w.heap.size w w':=by
 obtain⟨⟨nb,kb,pv,bl,vs,hd,hf⟩,hl,hb,hx⟩:=h
 exact read_calls s at_ n w hd hs hlen
theorem DiskAt.sync? (h:DiskAt w B g N M F) (s:ByteArray) (hs:s.size≤maxLen):Calls Tryz.prog 98 #[ptr g,.string s] w fun e w'=>e=.returned (.int .i64 (syncM M s).2)∧Turned w w' B g N F (syncM M s).1:=by
 obtain⟨nb,kb,pv,bl,vs,hd,hf⟩:=h.is
 refine(sync_calls s w hd hs).mono ?_
 rintro e w1 ⟨rfl,h1,h2⟩
 exact⟨rfl,Turned.of_is h h1 (fun k hk=>.inl (hf k hk)) (h2.mono hf)⟩
theorem DiskAt.remove? (h:DiskAt w B g N M F) (s:ByteArray) (hs:s.size≤maxLen) (hN:N < 1000000000000):Calls Tryz.prog 105 #[ptr g,.string s] w fun e w'=>e=.returned (.int .i64 (removeM M s).2)∧Turned w w' B g (N+1) F (removeM M s).1:=by
 obtain⟨nb,kb,pv,bl,vs,hd,hf⟩:=h.is
 refine(remove_calls s w hd hs hN).mono ?_
 rintro e w1 ⟨rfl,⟨pv',h1,h3⟩,h2⟩
 refine⟨rfl,Turned.of_is h h1 (fun k hk=>?_) (h2.mono hf)⟩
 rcases hk with hk | ⟨i,hi⟩
 ·rcases mem_fixed.1 hk with hm | hm
  ·exact .inl (hf k (.inl (mem_fixed.2 (.inl hm))))
  ·rcases h3 k hm with hm | hm
   ·exact .inl (hf k (.inl (mem_fixed.2 (.inr hm))))
   ·exact .inr hm
 ·exact .inl (hf k (.inr ⟨i,hi⟩))
theorem DiskAt.rename? (h:DiskAt w B g N M F) (s t:ByteArray) (hs:s.size≤maxLen) (ht:t.size≤maxLen) (hN:N < 1000000000000):Calls Tryz.prog 113 #[ptr g,.string s,.string t] w fun e w'=>e=.returned (.int .i64 (renameM M s t).2)∧Turned w w' B g (N+1) F (renameM M s t).1:=by
 obtain⟨nb,kb,pv,bl,vs,hd,hf⟩:=h.is
 refine(ren_calls s t w hd hs ht hN).mono ?_
 rintro e w1 ⟨rfl,⟨pv',h1,h3⟩,h2⟩
 refine⟨rfl,Turned.of_is h h1 (fun k hk=>?_) (h2.mono hf)⟩
 rcases hk with hk | ⟨i,hi⟩
 ·rcases mem_fixed.1 hk with hm | hm
  ·exact .inl (hf k (.inl (mem_fixed.2 (.inl hm))))
  ·rcases h3 k hm with hm | hm
   ·exact .inl (hf k (.inl (mem_fixed.2 (.inr hm))))
   ·exact .inr hm
 ·exact .inl (hf k (.inr ⟨i,hi⟩))
theorem DiskAt.create? (h:DiskAt w B g N M F) (s:ByteArray) (hs:s.size≤maxLen) (hN:N < 1000000000000):Calls Tryz.prog 103 #[ptr g,.string s] w fun e w'=>e=.returned (.int .i64 (createM M s).2)∧Turned w w' B g (N+1) F (createM M s).1:=by
 obtain⟨nb,kb,pv,bl,vs,hd,hf⟩:=h.is
 refine(create_calls s w hd hs hN).mono ?_
 rintro e w1 ⟨rfl,⟨pv',bl',vs',h1,h3⟩,h2⟩
 exact⟨rfl,Turned.of_is h h1 (fun k hk=>(h3 k hk).imp (hf k) id) (h2.mono hf)⟩
theorem DiskAt.append? (h:DiskAt w B g N M F) (s:ByteArray) (A:Option Addr) (c:Nat) (bs:List Int) (hs:s.size≤maxLen) (hlen:∀f∈M.fs,f.b.length≤67108864) (hbl:bs.length≤1000000000) (hbs:∀W,Keeps F w W→Kd.C (Kd.int .u8) W A bs.length bs):
  Calls Tryz.prog 67 #[ptr g,.string s,.slice A bs.length c] w fun e w'=>e=.returned (.int .i64 (appendM M s bs).2)∧Turned w w' B g N F (appendM M s bs).1:=by
 obtain⟨nb,kb,pv,bl,vs,hd,hf⟩:=h.is
 refine(append_calls s A c bs w hd hs hlen hbl (fun W hW=>hbs W (hW.mono hf))).mono ?_
 rintro e w1 ⟨rfl,⟨vs',h1,h3⟩,h2⟩
 exact⟨rfl,Turned.of_is h h1 (fun k hk=>(h3 k hk).imp (hf k) id) (h2.mono hf)⟩
theorem DiskAt.syncDir? (h:DiskAt w B g N M F):Calls Tryz.prog 114 #[ptr g] w fun e w'=>e=.returned (.int .i64 (syncDirM M).2)∧Turned w w' B g N F (syncDirM M).1:=by
 obtain⟨nb,kb,pv,bl,vs,hd,hf⟩:=h.is
 refine(syncDir_calls w hd).mono ?_
 rintro e w1 ⟨rfl,⟨kb',pv',h1,h3⟩,h2⟩
 exact⟨rfl,Turned.of_is h h1 (fun k hk=>(h3 k hk).imp (hf k) id) (h2.mono hf)⟩
theorem new? (a:Int) (B:Nat) (w:World) (hB:B≤w.heap.size):Calls Tryz.prog 9 #[.int .i64 a] w fun e w'=>∃g F,e=.returned (ptr g)∧DiskAt w' B g 0 (newM a) F∧(∀k,F k→w.heap.size≤k)∧RowKit.Below w.heap.size w w':=by
 refine(new_calls a B w hB).mono ?_
 rintro e w1 ⟨rfl,h1,h2⟩
 exact⟨_,_,rfl,h1.at,new_foot,h2⟩
end Dk
end
section
namespace Nm
open Fr Ext Pt

def digs:Nat→Nat→List Nat
 | 0,_=>[]
 | k+1,n=>(48+n / 10 ^ k % 10)::digs k n
theorem digs_length:∀k n,(digs k n).length=k
 | 0,_=>rfl
 | k+1,n=>by simp [digs,digs_length k]
def nameL (c n:Nat):List Int:=(c:Int)::(digs 8 n).map Int.ofNat
def partL (c n k:Nat):List Int:=(c:Int)::(List.replicate (8 - k) 0++(digs k n).map Int.ofNat)
theorem partL_length (c n k:Nat) (hk:k≤8):(partL c n k).length=9:=by
 simp only[partL,digs_length,List.length_cons,List.length_append,List.length_replicate,List.length_map]
 omega
theorem partL_step (c n k:Nat) (hk:k < 8):(partL c n k).set (8 - k) (Int.ofNat (48+n / 10 ^ k % 10))=partL c n (k+1):=by
 unfold partL
 rw[show 8 - k=(7 - k)+1 from by omega,List.set_cons_succ,show 8 - (k+1)=7 - k from by omega]
 congr 1
 rw[List.set_append_left _ _ (by simp only[List.length_replicate];omega),List.replicate_succ',List.set_append_right _ _ (by simp)]
 simp [digs]
theorem nums_set (xs:List Int) (j:Nat) (d:Int):(nums .u8 xs).toArray.setIfInBounds j (.int .u8 d)=(nums .u8 (xs.set j d)).toArray:=by
 simp [nums,List.map_set]
theorem nums_get (xs:List Int) (j:Nat) (d:Int) (h:xs[j]? =some d):(nums .u8 xs).toArray[j]? =some (.int .u8 d):=by
 simp [nums,h]
theorem partL_get (c n k:Nat) (hk:k < 8):(partL c n k)[8 - k]? =some 0:=by
 unfold partL
 rw[show 8 - k=(7 - k)+1 from by omega,List.getElem?_cons_succ,List.getElem?_append_left (by simp only[List.length_replicate];omega),List.getElem?_replicate,if_pos (by omega)]
theorem reads_of_block {w:World} {b:Nat} {e:TypeId} {k:IntKind} {xs:List Int} (h:w.heap[b]? =some (.cells (nums k xs).toArray e (0,0))) (hm:xs.length≤9223372036854775807):ReadsInt w k (some ⟨b,0,none⟩) xs.length xs:=by
 refine⟨rfl,hm,fun _=>⟨_,rfl,fun j hj=>?_⟩⟩
 have e1:(nums k xs)[j]? =some (.int k (xs.getD j 0)):=by simp [nums,List.getD_eq_getElem?_getD,List.getElem?_eq_getElem hj]
 rw[show(⟨b,0,none⟩:Addr).add j=⟨b,j,none⟩ from by rw[Addr.add_lit,Nat.zero_add],blk_cell h]
 simp [e1]
theorem numbered_calls (c:UInt8) (n:Nat) (w:World) (h1:n≤99999999):
  Calls Tryz.prog 76 #[.string ⟨#[c]⟩,.int .i64 n] w fun e w'=>e=.returned (.string (strOfNums (nameL c.toNat n)))∧RowKit.Below w.heap.size w w':=by
 have hmake:∀W:World,(Instr.makeSlice 35 (.int .i64 9) (.int .i64 9)).run Tryz.prog W=.ok (.slice (some ⟨W.heap.size,0,none⟩) 9 9) (W.alloc (.cells (madeCells #[.int .u8 0] 9) 5)):=fun W=>print_make (P:=Tryz.prog) 35 5 .u8 1 Tryz.underlying35 info5 (by decide) 9 (by decide) W
 go_enter Tryz.func76,Tryz.ntmps76
 go_upto_region 2 with(fail)
 have hb:=heap_alloc_new w (.cells (madeCells #[.int .u8 0] 9) 5)
 have HB0:=ak (below_alloc (RowKit.Below.refl w.heap.size w) (.cells (madeCells #[.int .u8 0] 9) 5))
 generalize w.alloc (.cells (madeCells #[.int .u8 0] 9) 5)=w1 at hb HB0 ⊢
 have hmz:madeCells #[.int .u8 0] 9=(List.replicate 9 (Value.int .u8 0)).toArray:=by kernel_rfl
 have hcopy:=Lib.run_copy_row_string (P:=Tryz.prog) w1 35 9 3 5 w.heap.size 0 9 9 ⟨#[c]⟩ _ _ Tryz.underlying35 (by kernel_rfl) hb (by show 1≤9;decide) (by rw[hmz];show 0+1≤9;decide)
 have hrow:=setRow_heap w1 w.heap.size _ ((madeCells #[.int .u8 0] 9).toList.take 0++Lib.byteCells (⟨#[c]⟩:ByteArray).data.toList++(madeCells #[.int .u8 0] 9).toList.drop (0+(⟨#[c]⟩:ByteArray).size)).toArray _ _ hb
 have HB1:=ak (below_setRow HB0.out (Nat.le_refl _) ((madeCells #[.int .u8 0] 9).toList.take 0++Lib.byteCells (⟨#[c]⟩:ByteArray).data.toList++(madeCells #[.int .u8 0] 9).toList.drop (0+(⟨#[c]⟩:ByteArray).size)).toArray)
 generalize w1.setRow w.heap.size ((madeCells #[.int .u8 0] 9).toList.take 0++Lib.byteCells (⟨#[c]⟩:ByteArray).data.toList++(madeCells #[.int .u8 0] 9).toList.drop (0+(⟨#[c]⟩:ByteArray).size)).toArray=w2 at hcopy hrow HB1
 have HR:=ak (show w2.heap[w.heap.size]? =some (.cells (nums .u8 (partL c.toNat n 0)).toArray 5 (0,0)) from by rw[hrow,hmz];simp [Lib.byteCells,partL,digs,nums];rfl)
 clear hrow HB0 hb hmake
 obtain⟨b,hbz⟩:∃b,w.heap.size=b:=⟨_,rfl⟩
 have HBZ:=ak hbz
 rw[hbz] at HB1 HR hcopy ⊢
 clear hbz
 go_wp2
 clear hcopy
 go_loopg [1,11] 8 (fun kq v1 v11 wr=>∃k:Nat,v1=.int .i64 (n / 10 ^ k:Nat)∧v11=.int .i64 k∧Aside0 (k+kq=8)∧Aside0 (RowKit.Below b w wr)∧Aside0 (wr.heap[b]? =some (.cells (nums .u8 (partL c.toNat n k)).toArray 5 (0,0))))
 case atStart=>exact⟨0,by simp,rfl,⟨rfl⟩,HB1,HR⟩
 case round=>
  clear HB1 HR
  obtain⟨k,rfl,rfl,HK,HB,HR⟩:=hrel
  cases gk with
  | zero=>
   obtain rfl:k=8:=by have:=HK.out;omega
   have hread:ReadsInt wr .u8 (some ⟨b,0,none⟩) 9 (partL c.toNat n 8):=by have h:=reads_of_block HR.out (by rw[partL_length _ _ _ (Nat.le_refl 8)];decide);rwa [partL_length _ _ _ (Nat.le_refl 8)] at h
   have hstr:=string_of_reads (P:=Tryz.prog) (dst:=9) (c:=9) Tryz.underlying35 Tryz.underlying5 Tryz.underlying9 hread
   go_wp2
   go_ret
   rw[HBZ.out]
   exact⟨rfl,HB.out⟩
  | succ gk=>
   have hk0:k < 8:=by have:=HK.out;omega
   have d1:decide ((k:Int) < 8)=true:=decide_eq_true (by omega)
   have d2:decide (k < 8)=true:=decide_eq_true hk0
   have w1:wrap64 (8 - (k:Int))=((8 - k:Nat):Int):=by unfold wrap64;omega
   obtain⟨m,hm⟩:∃m,n / 10 ^ k=m:=⟨_,rfl⟩
   have hmn:m≤n:=by rw[← hm];exact Nat.div_le_self _ _
   have y:=(blk_cell HR.out (8 - k)).trans (nums_get _ _ _ (partL_get c.toNat n k hk0))
   have z:=blk_frozen HR.out (8 - k)
   have HM:=ak hm
   rw[hm]
   clear hm
   go_wp2
   go_roundg gk
   case measure=>omega
   case rel=>
    refine⟨k+1,?_,by go_num,⟨by have:=HK.out;omega⟩,⟨HB.out.setCell (p:=⟨b,8 - k,none⟩) (Nat.le_refl _) _⟩,⟨?_⟩⟩
    ·rw[Nat.pow_succ,← Nat.div_div_eq_div_mul,HM.out]
     rfl
    ·rw[← partL_step c.toNat n k hk0,← nums_set,HM.out]
     exact blk_put HR.out (8 - k) _ rfl
end Nm
end
section
namespace Nm
open Fr Ext Pt

def nameOf (kind n:Int):ByteArray:=
 if n < 0 then⟨#[]⟩ else if n > 99999999 then⟨#[]⟩
 else if kind=1 then strOfNums (nameL 115 n.toNat)
 else if kind=2 then strOfNums (nameL 104 n.toNat)
 else if n≠0 then⟨#[]⟩
 else if kind=3 then⟨#[109]⟩
 else if kind=4 then⟨#[116]⟩
 else⟨#[]⟩
theorem numberedI (c:UInt8) (n:Int) (w:World) (h0:¬n < 0) (h1:¬n > 99999999):
  Calls Tryz.prog 76 #[.string ⟨#[c]⟩,.int .i64 n] w fun e w'=>e=.returned (.string (strOfNums (nameL c.toNat n.toNat)))∧RowKit.Below w.heap.size w w':=by
 have h:=numbered_calls c n.toNat w (by omega)
 rwa [Int.toNat_of_nonneg (by omega)] at h
theorem of_calls (kind n:Int) (w:World):
  Calls Tryz.prog 47 #[.int .i64 kind,.int .i64 n] w fun e w'=>e=.returned (.string (nameOf kind n))∧RowKit.Below w.heap.size w w':=by
 unfold nameOf
 by_cases h1:n < 0
 ·have d1:decide (n < 0)=true:=decide_eq_true h1
  rw[if_pos h1]
  go_enter Tryz.func47,Tryz.ntmps47
  go_wp2
  go_ret
  exact⟨rfl,RowKit.Below.refl _ _⟩
 have d1:decide (n < 0)=false:=decide_eq_false h1
 by_cases h2:n > 99999999
 ·have d2:decide (n > 99999999)=true:=decide_eq_true h2
  rw[if_neg h1,if_pos h2]
  have H1:=ak h1
  clear h1 h2
  go_enter Tryz.func47,Tryz.ntmps47
  go_wp2
  go_ret
  exact⟨rfl,RowKit.Below.refl _ _⟩
 have d2:decide (n > 99999999)=false:=decide_eq_false h2
 rw[if_neg h1,if_neg h2]
 have H1:=ak h1
 have H2:=ak h2
 clear h1 h2
 by_cases h3:kind=1
 ·subst h3
  rw[if_pos rfl]
  go_enter Tryz.func47,Tryz.ntmps47
  go_wp2_with (go_at_call 76;(with_reducible refine(numberedI 115 n _ H1.out H2.out).mono ?_);rintro e w1 ⟨rfl,hb⟩)
  go_ret
  exact⟨rfl,hb⟩
 by_cases h4:kind=2
 ·subst h4
  rw[if_neg (by decide),if_pos rfl]
  clear h3
  go_enter Tryz.func47,Tryz.ntmps47
  go_wp2_with (go_at_call 76;(with_reducible refine(numberedI 104 n _ H1.out H2.out).mono ?_);rintro e w1 ⟨rfl,hb⟩)
  go_ret
  exact⟨rfl,hb⟩
 rw[if_neg h3,if_neg h4]
 have d3:(kind==1)=false:=beq_eq_false_iff_ne.mpr h3
 have d4:(kind==2)=false:=beq_eq_false_iff_ne.mpr h4
 have H3:=ak h3
 have H4:=ak h4
 clear h3 h4
 by_cases h5:n≠0
 ·have d5:(n !=0)=true:=bne_iff_ne.mpr h5
  rw[if_pos h5]
  clear h5
  go_enter Tryz.func47,Tryz.ntmps47
  go_wp2
  go_ret
  exact⟨rfl,RowKit.Below.refl _ _⟩
 obtain rfl:n=0:=Decidable.of_not_not h5
 rw[if_neg (by decide)]
 clear h5
 by_cases h6:kind=3
 ·subst h6
  rw[if_pos rfl]
  go_enter Tryz.func47,Tryz.ntmps47
  go_wp2
  go_ret
  exact⟨rfl,RowKit.Below.refl _ _⟩
 by_cases h7:kind=4
 ·subst h7
  rw[if_neg (by decide),if_pos rfl]
  clear h6
  go_enter Tryz.func47,Tryz.ntmps47
  go_wp2
  go_ret
  exact⟨rfl,RowKit.Below.refl _ _⟩
 rw[if_neg h6,if_neg h7]
 have d6:(kind==3)=false:=beq_eq_false_iff_ne.mpr h6
 have d7:(kind==4)=false:=beq_eq_false_iff_ne.mpr h7
 clear h6 h7
 go_enter Tryz.func47,Tryz.ntmps47
 go_wp2
 go_ret
 exact⟨rfl,RowKit.Below.refl _ _⟩
theorem size_nameOf (kind n:Int):(nameOf kind n).size≤9:=by
 have h:∀c k,(strOfNums (nameL c k)).size=9:=fun c k=>by simp [strOfNums,nameL,digs_length,ByteArray.size]
 unfold nameOf
 repeat' split
 all_goals first | (rw[h];decide) | (show 0≤9;decide) | (show 1≤9;decide)
theorem nameOf_le (kind n:Int):(nameOf kind n).size≤maxLen:=Nat.le_trans (size_nameOf kind n) (by decide)
end Nm
end
section
namespace Nm
open Fr Ext Pt

def numL:List UInt8→Nat→Option Nat
 | [],n=>some n
 | c::l,n=>if 48≤c.toNat∧c.toNat≤57 then numL l (10*n+(c.toNat - 48)) else none
theorem numL_cons (c:UInt8) (l:List UInt8) (n:Nat):numL (c::l) n=if 48≤c.toNat∧c.toNat≤57 then numL l (10*n+(c.toNat - 48)) else none:=rfl
def numberM (l:List UInt8):Option Nat:=if l.length=8 then numL l 0 else none
theorem numL_le:∀(l:List UInt8) (n m:Nat),numL l n=some m→m < (n+1)*10 ^ l.length
 | [],n,m,h=>by
  simp [numL] at h
  simp [h]
 | c::l,n,m,h=>by
  unfold numL at h
  split at h
  ·rename_i hc
   have:=numL_le l _ m h
   have h2:10*n+(c.toNat - 48)+1≤(n+1)*10:=by omega
   rw[List.length_cons,Nat.pow_succ,Nat.mul_comm (10 ^ l.length) 10,← Nat.mul_assoc]
   exact Nat.lt_of_lt_of_le this (Nat.mul_le_mul_right _ h2)
  ·cases h
theorem number_calls (l:List UInt8) (w:World) (ha:∀c∈l,c.toNat < 128) (hl:l.length≤1000000):
  Calls Tryz.prog 157 #[.string ⟨l.toArray⟩] w fun e w'=>e=.returned (.tuple #[.int .i64 ((numberM l).getD 0:Nat),.bool (numberM l).isSome])∧RowKit.Below w.heap.size w w':=by
 have hsz:(⟨l.toArray⟩:ByteArray).size=l.length:=by simp [ByteArray.size]
 by_cases h8:l.length=8
 case neg=>
  have d1:((l.length:Int) !=8)=true:=bne_iff_ne.mpr (by omega)
  have d0:((⟨l.toArray⟩:ByteArray).size:Int)=(l.length:Int):=by rw[hsz]
  go_enter Tryz.func157,Tryz.ntmps157
  go_wp2
  go_ret2
  unfold numberM
  rw[if_neg h8]
  exact⟨rfl,RowKit.Below.refl _ _⟩
 have d1:((l.length:Int) !=8)=false:=by rw[h8];decide
 go_enter Tryz.func157,Tryz.ntmps157
 go_wp2
 have hnum:numberM l=numL l 0:=by unfold numberM;rw[if_pos h8]
 have HNUM:=ak hnum
 have HA:=ak ha
 clear hnum d1 ha
 go_loopg [4] 8 (fun kq v4 wr=>∃(pos acc:Nat),v4=.int .i64 acc∧wr=w.iter ⟨l.toArray⟩ pos∧Aside0 (pos+kq=8)∧Aside0 (numL (l.drop pos) acc=numL l 0)∧Aside0 (acc < 10 ^ pos))
 case atStart=>exact⟨0,0,rfl,rfl,⟨rfl⟩,⟨rfl⟩,⟨by decide⟩⟩
 case round=>
  obtain⟨pos,acc,rfl,rfl,HK,HN,HC⟩:=hrel
  have HB:∀p,RowKit.Below w.heap.size w (w.iter ⟨l.toArray⟩ p):=fun p=>below_alloc (RowKit.Below.refl _ _) _
  cases gk with
  | zero=>
   obtain rfl:pos=8:=by have:=HK.out;omega
   have hnx:=fun ty=>run_next_end (P:=Tryz.prog) w ⟨l.toArray⟩ 8 ty (by rw[hsz];omega)
   have HE:=ak (show numL l 0=some acc by rw[← HN.out,← h8,List.drop_length];rfl)
   go_wp2
   go_ret2
   rw[HNUM.out,HE.out]
   exact⟨rfl,HB 8⟩
  | succ gk=>
   have hp:pos < l.length:=by have:=HK.out;omega
   have hpz:pos < (⟨l.toArray⟩:ByteArray).size:=by rw[hsz];exact hp
   obtain⟨c,hc⟩:∃c,l[pos]=c:=⟨_,rfl⟩
   have hcz:(⟨l.toArray⟩:ByteArray)[pos]'hpz=c:=by rw[← hc];rfl
   have hc128:c.toNat < 128:=HA.out c (by rw[← hc];exact List.getElem_mem hp)
   have hnx:=fun ty=>run_next_ascii (P:=Tryz.prog) w ⟨l.toArray⟩ pos ty hpz (by rw[hcz];exact hc128)
   rw[hcz] at hnx
   have hdrop:l.drop pos=c::l.drop (pos+1):=by rw[← hc];exact(List.drop_eq_getElem_cons hp)
   have HN2:=HN.out
   rw[hdrop,numL_cons] at HN2
   clear hdrop hcz hc HN
   by_cases c1:c.toNat < 48
   ·have e1:decide ((c.toNat:Int) < 48)=true:=decide_eq_true (by omega)
    rw[if_neg (by omega)] at HN2
    have HE:=ak HN2
    clear HN2 c1
    go_wp2
    go_ret2
    rw[HNUM.out,← HE.out]
    exact⟨rfl,HB _⟩
   have e1:decide ((c.toNat:Int) < 48)=false:=decide_eq_false (by omega)
   by_cases c2:c.toNat > 57
   ·have e2:decide ((c.toNat:Int) > 57)=true:=decide_eq_true (by omega)
    rw[if_neg (by omega)] at HN2
    have HE:=ak HN2
    clear HN2 c1 c2
    go_wp2
    go_ret2
    rw[HNUM.out,← HE.out]
    exact⟨rfl,HB _⟩
   have e2:decide ((c.toNat:Int) > 57)=false:=decide_eq_false (by omega)
   rw[if_pos (by omega)] at HN2
   have hacc:acc < 100000000:=Nat.lt_of_lt_of_le HC.out (by
    have:10 ^ pos≤10 ^ 8:=Nat.pow_le_pow_right (by decide) (by omega)
    exact this)
   have w1:wrap64 (10*(acc:Int))=10*(acc:Int):=by unfold wrap64;omega
   have w2:IntKind.i32.wrap ((c.toNat:Int) - 48)=(c.toNat:Int) - 48:=by rw[i32_w];unfold wrap32;omega
   have HE:=ak HN2
   clear HN2
   go_wp2
   go_roundg gk
   case measure=>omega
   case rel=>
    refine⟨pos+1,10* acc+(c.toNat - 48),by congr 1;omega,rfl,⟨by have:=HK.out;omega⟩,HE,⟨?_⟩⟩
    have:=HC.out
    rw[Nat.pow_succ]
    omega
def parseL:List UInt8→Int×Int×Bool
 | []=>(0,0,false)
 | c::l=>
  if(c==109 && l.isEmpty)=true then(3,0,true)
  else if(c==116 && l.isEmpty)=true then(4,0,true)
  else if(numberM l).isSome=true then
   (if(c==115)=true then(1,((numberM l).getD 0:Nat),true) else if(c==104)=true then(2,((numberM l).getD 0:Nat),true) else(0,0,false))
  else(0,0,false)
def parseM (s:ByteArray):Int×Int×Bool:=parseL s.data.toList
theorem extract_tail (c:UInt8) (l:List UInt8):(⟨(c::l).toArray⟩:ByteArray).extract 1 (l.length+1)=⟨l.toArray⟩:=by
 apply ByteArray.ext
 rw[ByteArray.data_extract]
 simp
theorem extract_head (c:UInt8) (l:List UInt8):(⟨(c::l).toArray⟩:ByteArray).extract 0 1=⟨#[c]⟩:=by
 apply ByteArray.ext
 rw[ByteArray.data_extract]
 simp
theorem parse_calls (l:List UInt8) (w:World) (ha:∀c∈l,c.toNat < 128) (hl:l.length≤1000000):
  Calls Tryz.prog 131 #[.string ⟨l.toArray⟩] w fun e w'=>e=.returned (.tuple #[.int .i64 (parseL l).1,.int .i64 (parseL l).2.1,.bool (parseL l).2.2])∧RowKit.Below w.heap.size w w':=by
 cases l with
 | nil=>
  go_enter Tryz.func131,Tryz.ntmps131
  go_wp2
  go_ret3
  exact⟨rfl,RowKit.Below.refl _ _⟩
 | cons c l=>
  obtain⟨b1,hb1⟩:∃b,(c==109 && l.isEmpty)=b:=⟨_,rfl⟩
  cases b1 with
  | true=>
   have e3:parseL (c::l)=(3,0,true):=by rw[parseL,if_pos hb1]
   rw[e3]
   clear e3
   go_enter Tryz.func131,Tryz.ntmps131
   go_wp2
   go_ret3
   exact⟨rfl,RowKit.Below.refl _ _⟩
  | false=>
  obtain⟨b2,hb2⟩:∃b,(c==116 && l.isEmpty)=b:=⟨_,rfl⟩
  cases b2 with
  | true=>
   have e3:parseL (c::l)=(4,0,true):=by rw[parseL,if_neg (by rw[hb1];decide),if_pos hb2]
   rw[e3]
   clear e3
   go_enter Tryz.func131,Tryz.ntmps131
   go_wp2
   go_ret3
   exact⟨rfl,RowKit.Below.refl _ _⟩
  | false=>
  have hx1:=extract_tail c l
  have hx0:=extract_head c l
  have HN:=ak (fun W=>number_calls l W (fun c' hc=>ha c' (List.mem_cons_of_mem _ hc)) (by simp only[List.length_cons] at hl;omega))
  have e3:parseL (c::l)=if(numberM l).isSome=true then(if(c==115)=true then(1,(((numberM l).getD 0:Nat):Int),true) else if(c==104)=true then(2,(((numberM l).getD 0:Nat):Int),true) else(0,0,false)) else(0,0,false):=by
   rw[parseL,if_neg (by rw[hb1];decide),if_neg (by rw[hb2];decide)]
  clear ha hl
  obtain⟨b3,hb3⟩:∃b,(numberM l).isSome=b:=⟨_,rfl⟩
  obtain⟨nn,hnn⟩:∃n,(numberM l).getD 0=n:=⟨_,rfl⟩
  rw[hb3,hnn] at e3 HN
  cases b3 with
  | false=>
   rw[if_neg (by decide)] at e3
   rw[e3]
   clear e3 hb3 hnn
   go_enter Tryz.func131,Tryz.ntmps131
   go_wp2_with (go_at_call 157;(with_reducible refine(HN.out _).mono ?_);rintro e w1 ⟨rfl,hb⟩)
   go_ret3
   exact⟨rfl,hb⟩
  | true=>
  rw[if_pos rfl] at e3
  clear hb3 hnn
  obtain⟨b4,hb4⟩:∃b,(c==115)=b:=⟨_,rfl⟩
  rw[hb4] at e3
  cases b4 with
  | true=>
   rw[if_pos rfl] at e3
   rw[e3]
   clear e3
   go_enter Tryz.func131,Tryz.ntmps131
   go_wp2_with (go_at_call 157;(with_reducible refine(HN.out _).mono ?_);rintro e w1 ⟨rfl,hb⟩)
   go_ret3
   exact⟨rfl,hb⟩
  | false=>
  rw[if_neg (by decide)] at e3
  obtain⟨b5,hb5⟩:∃b,(c==104)=b:=⟨_,rfl⟩
  rw[hb5] at e3
  cases b5 with
  | true=>
   rw[if_pos rfl] at e3
   rw[e3]
   clear e3
   go_enter Tryz.func131,Tryz.ntmps131
   go_wp2_with (go_at_call 157;(with_reducible refine(HN.out _).mono ?_);rintro e w1 ⟨rfl,hb⟩)
   go_ret3
   exact⟨rfl,hb⟩
  | false=>
   rw[if_neg (by decide)] at e3
   rw[e3]
   clear e3
   go_enter Tryz.func131,Tryz.ntmps131
   go_wp2_with (go_at_call 157;(with_reducible refine(HN.out _).mono ?_);rintro e w1 ⟨rfl,hb⟩)
   go_ret3
   exact⟨rfl,hb⟩
end Nm
end
section
namespace Sh
open Go.Sort Go.Shelf Pt

variable {w:World} {base:Nat} {v:Value} {xs:List Int}
def sortM (xs:List Int):List Int:=xs.mergeSort fun x y=>decide (x≤y)
theorem sortM_length (xs:List Int):(sortM xs).length=xs.length:=List.length_mergeSort xs
def sortL (xs:List Int):List Int:=isort (fun x y=>decide (x≤y)) xs
theorem sortL_eq (xs:List Int):sortL xs=sortM xs:=by
 unfold sortL sortM
 refine isort_eq (le:=fun x y:Int=>decide (x≤y)) (fun a b c h1 h2=>?_) (fun a b=>?_) (fun a b h1 h2=>?_) xs
 ·exact decide_eq_true (Int.le_trans (of_decide_eq_true h1) (of_decide_eq_true h2))
 ·rcases Int.le_total a b with h | h <;> simp [h]
 ·exact Int.le_antisymm (of_decide_eq_true h1) (of_decide_eq_true h2)
theorem sortL_length (xs:List Int):(sortL xs).length=xs.length:=(isort_perm _ xs).length_eq
theorem sort_own0 (ho:w.ownsRow base 3 1 v xs.length (nums .i64 xs)) (hl:xs.length < 4611686018427387904):
  Calls Tryz.prog 132 #[v] w fun e w'=>e=.returned (.tuple #[])∧w'.ownsRow base 3 1 v (sortM xs).length (nums .i64 (sortM xs))∧w.grownBy w' v.ownBlock:=by
 rcases ho.2 with⟨rfl,hz⟩ | ⟨g,cap,cur,rfl,hbase,hg,r1,r2,r3,r4⟩
 ·obtain rfl:xs=[]:=List.eq_nil_of_length_eq_zero hz
  refine(show Calls Tryz.prog 132 #[.slice none 0 0] w _ from Any.slices_Sort_int_none sortI none 0 w).mono ?_
  rintro e w' ⟨rfl,rfl⟩
  exact⟨rfl,by simpa [sortM] using ho,World.grownBy.refl _ _⟩
 ·have hH:=holds_of_blockI (ss:=xs) hg (by simpa [nums] using r4)
  refine(show Calls Tryz.prog 132 #[.slice (some ⟨g,0,none⟩) xs.length cap] w _ from Any.slices_Sort_int sortI g 0 cap xs w hH (Array.getElem?_eq_some_iff.1 hg).1 hl).mono ?_
  rintro e w' ⟨rfl,n,os,rfl⟩
  have h1:=ownsRow_sortedI (n:=n) (os:=os) (ts:=sortM xs) (sortM_length xs) hbase hg r1 r2 r3
  have h2:=grownBy_sortedI (w:=w) (g:=g) (n:=n) (os:=os) (sortM xs).toArray
  refine⟨rfl,?_,h2⟩
  rw[sortM_length]
  exact h1
theorem sort_own (ho:w.ownsRow base 3 1 v xs.length (nums .i64 xs)) (hl:xs.length < 4611686018427387904):
  Calls Tryz.prog 132 #[v] w fun e w'=>e=.returned (.tuple #[])∧w'.ownsRow base 3 1 v (sortL xs).length (nums .i64 (sortL xs))∧w.grownBy w' v.ownBlock:=by
 rw[sortL_eq]
 exact sort_own0 ho hl
theorem compact_length {α:Type} [DecidableEq α] [Inhabited α] (zs:List α):(Lib.compact zs).length≤zs.length:=by
 unfold Lib.compact Lib.compactUpTo
 rw[List.length_map]
 exact Nat.le_trans (List.length_filter_le _ _) (by simp)
theorem compact_own (ho:w.ownsRow base 3 1 v xs.length (nums .i64 xs)) (hl:xs.length < 4611686018427387904):
  Calls Tryz.prog 133 #[v] w fun e w'=>∃v',e=.returned v'∧w'.ownsRow base 3 1 v' (Lib.compact xs).length (nums .i64 (Lib.compact xs))∧v'.ownBlock=v.ownBlock∧w.grownBy w' v.ownBlock:=by
 rcases ho.2 with⟨rfl,hz⟩ | ⟨g,cap,cur,rfl,hbase,hg,r1,r2,r3,r4⟩
 ·obtain rfl:xs=[]:=List.eq_nil_of_length_eq_zero hz
  refine(show Calls Tryz.prog 133 #[.slice none 0 0] w _ from Any.slices_Compact_int_empty compactI none 0 w).mono ?_
  rintro e w' ⟨rfl,rfl⟩
  exact⟨_,rfl,ho,rfl,World.grownBy.refl _ _⟩
 ·have hH:=holds_of_blockI (ss:=xs) hg (by simpa [nums] using r4)
  refine(show Calls Tryz.prog 133 #[.slice (some ⟨g,0,none⟩) xs.length cap] w _ from Any.slices_Compact_int compactI g 0 cap xs w hH (by omega) r1).mono ?_
  rintro e w' ⟨rfl,n,rfl⟩
  have hcl:=compact_length xs
  have h1:=ownsRow_sortedI (n:=n) (os:=#[]) (ts:=Lib.compact xs++List.replicate (xs.length - (Lib.compact xs).length) 0) (ss:=xs) (by simp;omega) hbase hg r1 r2 r3
  have h2:=grownBy_sortedI (w:=w) (g:=g) (n:=n) (os:=#[]) (Lib.compact xs++List.replicate (xs.length - (Lib.compact xs).length) 0).toArray
  rw[grow_empty] at h1 h2
  refine⟨_,rfl,?_,rfl,h2⟩
  have h3:=own_take h1 hcl
  rw[Nat.mul_one,List.map_append,List.take_append_of_le_length (by simp),List.take_of_length_le (by simp)] at h3
  exact h3
theorem contains_own (x:Int) (ho:w.ownsRow base 3 1 v xs.length (nums .i64 xs)):
  Calls Tryz.prog 45 #[v,.int .i64 x] w fun e w'=>e=.returned (.bool (xs.contains x))∧w'=w:=by
 rcases ho.2 with⟨rfl,hz⟩ | ⟨g,cap,cur,rfl,hbase,hg,r1,r2,r3,r4⟩
 ·obtain rfl:xs=[]:=List.eq_nil_of_length_eq_zero hz
  exact Any.slices_Contains_int_empty containsI none 0 x w
 ·have h:=Any.slices_Contains_int containsI g 0 xs.length cap xs x w (Nat.le_refl _) (by have:maxLen=9223372036854775807:=rfl;omega) (fun j hj=>by
   have:=(holds_of_blockI (ss:=xs) hg (by simpa [nums] using r4) j (by simpa using hj)).1
   rw[this]
   simp [hj])
  rw[List.take_length] at h
  exact h
theorem clone_own (ho:w.ownsRow base 3 1 v xs.length (nums .i64 xs)) (hl:xs.length*8≤140737488355328):
  Calls Tryz.prog 102 #[v] w fun e w'=>∃v',e=.returned v'∧w'.ownsRow w.heap.size 3 1 v' xs.length (nums .i64 xs)∧RowKit.Below w.heap.size w w':=by
 rcases ho.2 with⟨rfl,hz⟩ | ⟨g,cap,cur,rfl,hbase,hg,r1,r2,r3,r4⟩
 ·obtain rfl:xs=[]:=List.eq_nil_of_length_eq_zero hz
  refine(show Calls Tryz.prog 102 #[.slice none 0 0] w _ from Any.slices_Clone_int_nil cloneI 0 0 w).mono ?_
  rintro e w' ⟨rfl,rfl⟩
  exact⟨_,rfl,own_nil _ _ _ _,RowKit.Below.refl _ _⟩
 ·refine(show Calls Tryz.prog 102 #[.slice (some ⟨g,0,none⟩) xs.length cap] w _ from Any.slices_Clone_int cloneI g 0 xs.length cap xs w (Nat.le_refl _) hl (fun j hj=>by
   have:=(holds_of_blockI (ss:=xs) hg (by simpa [nums] using r4) j (by simpa using hj)).1
   rw[this]
   simp [hj])).mono ?_
  rintro e w' ⟨v',rfl,h1,_,h2⟩
  rw[List.take_length] at h1
  exact⟨v',rfl,h1,h2⟩
end Sh
end
section
namespace Nm
open Go.Sort Go.Shelf Fr Ext Pt

def Ascii (s:ByteArray):Prop:=∀c∈s.data.toList,c.toNat < 128
theorem parseB_calls (s:ByteArray) (w:World) (ha:Ascii s) (hl:s.size≤1000000):
  Calls Tryz.prog 131 #[.string s] w fun e w'=>e=.returned (.tuple #[.int .i64 (parseM s).1,.int .i64 (parseM s).2.1,.bool (parseM s).2.2])∧RowKit.Below w.heap.size w w':=by
 have h:=parse_calls s.data.toList w ha (by rw[Array.length_toList];exact hl)
 exact h
def isSeg (s:ByteArray):Bool:=(parseM s).2.2 && (parseM s).1==1
def segL (L:List ByteArray):List Int:=(L.filter isSeg).map fun s=>(parseM s).2.1
def segsL (L:List ByteArray):List Int:=Lib.compact (Sh.sortL (segL L))
theorem segL_take (L:List ByteArray) (k:Nat) (h:k < L.length):segL (L.take (k+1))=segL (L.take k)++(if isSeg (rdOf ByteArray.empty L k)=true then [(parseM (rdOf ByteArray.empty L k)).2.1] else []):=by
 have e:rdOf ByteArray.empty L k=L[k]:=by simp [rdOf,List.getD_eq_getElem?_getD,List.getElem?_eq_getElem h]
 rw[List.take_succ_eq_append_getElem h,e]
 unfold segL
 rw[List.filter_append,List.map_append]
 by_cases hs:isSeg L[k]=true
 ·simp [hs]
 ·simp [hs]
theorem segL_length (L:List ByteArray):(segL L).length≤L.length:=by
 unfold segL
 rw[List.length_map]
 exact List.length_filter_le _ _
theorem infoI:(Tryz.prog.info? 3).map (fun i=>(i.zero,i.size,i.bytes))=some (some (.int .i64 0),1,8):=by kernel_rfl
theorem segments_calls (A:Option Addr) (c:Nat) (L:List ByteArray) (w:World) (hr:Kd.C Kd.string w A L.length L) (hc:L.length≤c) (hL:L.length≤1000000) (ha:∀s∈L,Ascii s∧s.size≤1000000):
  Calls Tryz.prog 100 #[.slice A L.length c] w fun e w'=>∃v,e=.returned v∧w'.ownsRow w.heap.size 3 1 v (segsL L).length (nums .i64 (segsL L))∧RowKit.Below w.heap.size w w':=by
 have HR:=ak hr
 have HA:=ak ha
 clear hr ha
 go_enter Tryz.func100,Tryz.ntmps100
 go_wp2
 go_loopg [3,11] L.length (fun kq v3 v11 wr=>∃k:Nat,v11=.int .i64 k∧Aside0 (k+kq=L.length)∧Aside0 (wr.ownsRow w.heap.size 3 1 v3 (segL (L.take k)).length (nums .i64 (segL (L.take k))))∧Aside0 (RowKit.Below w.heap.size w wr))
 case atStart=>exact⟨0,rfl,⟨by omega⟩,⟨own_nil _ _ _ _⟩,⟨RowKit.Below.refl _ _⟩⟩
 case round=>
  obtain⟨k,rfl,HK,HO,HB⟩:=hrel
  cases gk with
  | zero=>
   obtain rfl:k=L.length:=by have:=HK.out;omega
   have d1:decide ((L.length:Int) < (L.length:Int))=false:=decide_eq_false (by omega)
   have d2:decide (L.length < L.length)=false:=decide_eq_false (by omega)
   have ho:=HO.out
   rw[List.take_length] at ho
   have HO2:=ak ho
   have hsl:=segL_length L
   have HSZ:=ak (show(segL L).length < 4611686018427387904 by omega)
   have HSZ2:=ak (show(Sh.sortL (segL L)).length < 4611686018427387904 by rw[Sh.sortL_length];omega)
   have hbase:w.heap.size≤wr.heap.size:=HB.out.size
   clear HO ho hsl
   go_wp2_with (first
    | (go_at_call 133;(with_reducible refine(Sh.compact_own HO3.out HSZ2.out).mono ?_);rintro e w4 ⟨v4,rfl,h4,h5,h6⟩;have HO4:=ak h4;have HG4:=ak h6;clear h4 h5 h6)
    | (go_at_call 132;(with_reducible refine(Sh.sort_own HO2.out HSZ.out).mono ?_);rintro e w3 ⟨rfl,h3,h4⟩;have HO3:=ak h3;have HG3:=ak h4;clear h3 h4))
   go_ret
   have hown:∀k,u3.ownBlock=some k→w.heap.size≤k:=own_base HO2.out
   have hB3:=HB.out.grown HG3.out hbase hown
   exact⟨_,rfl,HO4.out,hB3.grown HG4.out hB3.size hown⟩
  | succ gk=>
   have hk0:k < L.length:=by have:=HK.out;omega
   have d1:decide ((k:Int) < (L.length:Int))=true:=decide_eq_true (by omega)
   have d2:decide (k < L.length)=true:=decide_eq_true hk0
   obtain⟨ad,e1,hcell⟩:=Kd.at_string (Kd.C_below HR.out HB.out) (k:Int) (by omega) (by omega)
   cases e1
   rw[Int.toNat_natCast] at hcell
   have hstep:=segL_take L k hk0
   have hmem:rdOf ByteArray.empty L k∈L:=by simp only[rdOf,Int.toNat_natCast,List.getD_eq_getElem?_getD,List.getElem?_eq_getElem hk0,Option.getD_some];exact List.getElem_mem hk0
   have hsl:=segL_length (L.take k)
   have hP:=HA.out _ hmem
   generalize rdOf ByteArray.empty L k=s at hcell hstep hP hmem
   have HP:=ak hP
   have HSL:=ak (show((segL (L.take k)).length+1)*8≤140737488355328 by rw[List.length_take] at hsl;omega)
   have HST:=ak hstep
   clear hstep hP hmem hsl
   go_upto_region 6 with(go_at_call 131;(with_reducible refine(parseB_calls s _ HP.out.1 HP.out.2).mono ?_);rintro e w1 ⟨rfl,hb⟩;have HB1:=ak (HB.out.trans (hb.mono HB.out.size));have HO1:=ak (own_move HO.out (w1:=w1) (fun j hj=>hb.block j (own_lt HO.out j hj)));clear hb)
   obtain⟨b,hb⟩:∃b,isSeg s=b:=⟨_,rfl⟩
   obtain⟨p1,hp1⟩:∃b,(parseM s).2.2=b:=⟨_,rfl⟩
   obtain⟨p2,hp2⟩:∃n,(parseM s).1=n:=⟨_,rfl⟩
   obtain⟨p3,hp3⟩:∃n,(parseM s).2.1=n:=⟨_,rfl⟩
   have hb':(p1 && p2==1)=b:=by rw[← hb,isSeg,hp1,hp2]
   have HST2:=HST.out
   rw[hb,hp3] at HST2
   have HST3:=ak HST2
   rw[hp1,hp2,hp3]
   clear hb hp1 hp2 hp3 HST HST2 HO HB hcell
   cases b with
   | false=>
    have hst:=HST3.out
    rw[if_neg (by decide),List.append_nil] at hst
    have HST4:=ak hst
    clear hst HST3
    cases p1 with
    | false=>
     go_wp2
     go_roundg gk
     case measure=>omega
     case rel=>exact⟨k+1,rfl,⟨by have:=HK.out;omega⟩,⟨by rw[HST4.out];exact HO1.out⟩,HB1⟩
    | true=>
     go_wp2
     go_roundg gk
     case measure=>omega
     case rel=>exact⟨k+1,rfl,⟨by have:=HK.out;omega⟩,⟨by rw[HST4.out];exact HO1.out⟩,HB1⟩
   | true=>
    have hst:=HST3.out
    rw[if_pos rfl] at hst
    have HST4:=ak hst
    have hbase:w.heap.size≤w1.heap.size:=HB1.out.size
    have HBS:=ak hbase
    clear hst HST3 hbase
    obtain⟨rfl,hp⟩:=Bool.and_eq_true_iff.1 hb'
    clear hb'
    go_wp2_with (at_builtin;refine print_append_num (w0:=w) w.heap.size rfl (.tmp 26) (.tmp 28) 76 3 .i64 8 rfl Tryz.underlying76 infoI (by decide) u3 (segL (L.take k)) p3 rfl rfl HO1.out HB1.out HBS.out HSL.out ?_;intro v4 w4 ho4 hb4 hg4 hat4;have HO4:=ak ho4;have HB4:=ak hb4;clear ho4 hb4 hg4 hat4)
    go_roundg gk
    case measure=>omega
    case rel=>exact⟨k+1,rfl,⟨by have:=HK.out;omega⟩,⟨by rw[HST4.out];exact HO4.out⟩,HB4⟩
end Nm
end
section
namespace Dk
open Go.Shelf Go.Maps Go.Sort Go.WideShapes Fr Ext Go.Proofs.YtcieieacfoaklaaGreat.Nm

structure Fit (M:DiskM):Prop where
 most:0≤M.d.most∧M.d.most≤67108864
 fit:∀f∈M.fs,(f.b.length:Int)≤M.d.most
 bytes:∀f∈M.fs,IsBytes f.b
 tidy:Tidy M.D
 ents:∀es,M.D=.map es→∀p∈es,∃(s:ByteArray) (i:Nat),p=(keyN s,.held i)∧i < M.fs.length∧Ascii s∧s.size≤16
 size:Maps.size M.D≤4096
theorem Turned.glue {w w1 w2:World} {B g N2:Nat} {M2:DiskM} {F F1:Nat→Prop} (h2:∀k,F k→F1 k) (h3:∀k,F1 k→F k∨w.heap.size≤k) (h4:Keeps F w w1) (ht:Turned w1 w2 B g N2 F1 M2):Turned w w2 B g N2 F M2:=by
 obtain⟨F2,k1,k2,k3,k4⟩:=ht
 refine⟨F2,k1,fun k hk=>k2 k (h2 k hk),fun k hk=>?_,⟨k4.os.trans h4.os,k4.tape.trans h4.tape,k4.output.trans h4.output,Nat.le_trans h4.size k4.size,fun k hk hf=>?_⟩⟩
 ·rcases k3 k hk with hk | hk
  ·exact h3 k hk
  ·exact .inr (Nat.le_trans h4.size hk)
 ·have hF1:¬F1 k:=fun h=>by
   rcases h3 k h with h | h
   ·exact hf h
   ·omega
  exact(k4.block k (Nat.lt_of_lt_of_le hk h4.size) hF1).trans (h4.block k hk hf)
variable {M:DiskM} {s t:ByteArray} {i:Nat}
theorem Fit.len (h:Fit M):∀f∈M.fs,f.b.length≤67108864:=fun f hf=>by have:=h.fit f hf;have:=h.most;omega
theorem same_key (s t:ByteArray):(keyN s).sameKey (keyN t)=decide (s=t):=by
 by_cases h:s=t
 ·subst h
  rw[WideAt.sameKey_self (keyN_lit s),decide_eq_true rfl]
 ·rw[sameKey_ne (fun e=>h (keyN_inj.1 e)),decide_eq_false h]
theorem look_map (es:List (Lit×DataW Nat)) (s:ByteArray):look (.map es) s=(es.find? (fun p=>p.1.sameKey (keyN s))).bind fun p=>match p.2 with | .held f=>some f | _=>none:=by
 unfold look
 simp only[DataW.atKey]
 cases es.find? (fun p=>p.1.sameKey (keyN s)) <;> rfl
theorem look_ents {es:List (Lit×DataW Nat)} (hp:es.Pairwise (fun p q=>p.1≠q.1)) (hs:∀p∈es,∃(s:ByteArray) (i:Nat),p=(keyN s,.held i)):look (.map es) s=some i↔(keyN s,DataW.held i)∈es:=by
 rw[look_map]
 constructor
 ·intro h
  cases hf:es.find? (fun p=>p.1.sameKey (keyN s)) with
  | none=>rw[hf] at h;cases h
  | some p=>
   rw[hf] at h
   have hm:=List.mem_of_find?_eq_some hf
   have hk:=List.find?_some hf
   obtain⟨t,j,rfl⟩:=hs p hm
   have ht:t=s:=by
    have:decide (t=s)=true:=by rw[← same_key];exact hk
    exact of_decide_eq_true this
   subst ht
   obtain rfl:=Option.some.inj h
   exact hm
 ·intro h
  have hfind:es.find? (fun p=>p.1.sameKey (keyN s))=some (keyN s,DataW.held i):=by
   induction es with
   | nil=>cases h
   | cons p l ih=>
    rw[List.find?_cons]
    rcases List.mem_cons.1 h with h | h
    ·subst h
     rw[show(keyN s).sameKey (keyN s)=true from WideAt.sameKey_self (keyN_lit s)]
    ·have hne:p.1≠keyN s:=(List.pairwise_cons.1 hp).1 _ h
     rw[show p.1.sameKey (keyN s)=false from sameKey_ne hne]
     exact ih (List.pairwise_cons.1 hp).2 (fun q hq=>hs q (List.mem_cons_of_mem _ hq)) h
  rw[hfind]
  rfl
theorem Fit.look (h:Fit M):look M.D s=some i↔∃es,M.D=.map es∧(keyN s,DataW.held i)∈es:=by
 obtain⟨es,e,hp⟩:=h.tidy
 have hs:=h.ents es e
 rw[e,look_ents hp (fun p hm=>by obtain⟨s,i,rfl,_⟩:=hs p hm;exact⟨s,i,rfl⟩)]
 constructor
 ·intro hm;exact⟨es,rfl,hm⟩
 ·rintro ⟨es',e',hm⟩
  injection e' with e'
  rw[e']
  exact hm
theorem Fit.inD (h:Fit M) (hl:Dk.look M.D s=some i):i < M.fs.length:=by
 obtain⟨es,e,hm⟩:=h.look.1 hl
 obtain⟨t,j,hp,hj,_⟩:=h.ents es e _ hm
 injection hp with _ hp
 injection hp with hp
 omega
theorem Fit.name (h:Fit M) (hl:(Dk.look M.D s).isSome=true):Ascii s∧s.size≤16:=by
 obtain⟨i,hi⟩:=Option.isSome_iff_exists.1 hl
 obtain⟨es,e,hm⟩:=h.look.1 hi
 obtain⟨t,j,hp,_,ht⟩:=h.ents es e _ hm
 injection hp with hp _
 rw[keyN_inj.1 hp]
 exact ht
theorem strOf_keyN (s:ByteArray):strOf (keyN s)=s.data.toList:=rfl
theorem Fit.mem (h:Fit M) {x:List UInt8}:x∈strKeys M.D↔(Dk.look M.D ⟨x.toArray⟩).isSome=true:=by
 obtain⟨es,e,hp⟩:=h.tidy
 have hs:=h.ents es e
 rw[Option.isSome_iff_exists]
 constructor
 ·intro hx
  rw[e] at hx
  obtain⟨p,hm,rfl⟩:=List.mem_map.1 hx
  obtain⟨t,j,rfl,_⟩:=hs p hm
  exact⟨j,h.look.2 ⟨es,e,hm⟩⟩
 ·rintro ⟨j,hj⟩
  obtain⟨es',e',hm⟩:=h.look.1 hj
  rw[e']
  exact List.mem_map.2 ⟨_,hm,by rw[strOf_keyN]⟩
theorem Fit.nodup (h:Fit M):(strKeys M.D).Nodup:=by
 obtain⟨es,e,hp⟩:=h.tidy
 have hs:=h.ents es e
 rw[e]
 refine List.pairwise_map.2 (hp.imp_of_mem fun {p q} hp' hq' hne e=>hne ?_)
 obtain⟨a,i,rfl,_⟩:=hs p hp'
 obtain⟨b,j,rfl,_⟩:=hs q hq'
 exact congrArg Lit.string e
theorem strKeys_length (D:DataW Nat):(strKeys D).length=Maps.size D:=by
 cases D <;> simp [strKeys,Maps.size]
theorem Fit.sizeM (h:Fit M) (s:ByteArray):0≤Dk.sizeM M s∧Dk.sizeM M s≤67108864:=by
 unfold Dk.sizeM fileM
 cases hl:Dk.look M.D s with
 | none=>simp
 | some i=>
  have hi:=h.inD hl
  rw[Option.bind_some,List.getElem?_eq_getElem hi]
  have:=h.len _ (List.getElem_mem hi)
  simp only
  omega
theorem sumM_bound (hb:∀x,0≤lenM M x∧lenM M x≤67108864):∀l,0≤sumM M l∧sumM M l≤67108864*(l.length:Int)
 | []=>by simp [sumM]
 | x::l=>by
  have h1:=sumM_bound hb l
  have h2:=hb x
  simp only[sumM,List.length_cons]
  omega
theorem sumM_mem (hb:∀x,0≤lenM M x∧lenM M x≤67108864) {x:List UInt8}:∀l,x∈l→lenM M x≤sumM M l
 | y::l,h=>by
  have h1:=sumM_bound hb l
  have h2:=hb y
  simp only[sumM]
  rcases List.mem_cons.1 h with h | h
  ·subst h;omega
  ·have:=sumM_mem hb l h;omega
theorem Fit.used (h:Fit M):usedM M=sumM M (strKeys M.D)∧0≤usedM M∧usedM M≤274877906944:=by
 have h1:=sumM_bound (M:=M) (fun x=>h.sizeM _) (strKeys M.D)
 have h2:=h.size
 rw[strKeys_length] at h1
 have e:usedM M=sumM M (strKeys M.D):=by unfold usedM wrap64;omega
 rw[e]
 exact⟨rfl,h1.1,by omega⟩
theorem Fit.part (h:Fit M) (hl:Dk.look M.D s=some i):((M.fs.getD i ⟨[],0,0⟩).b.length:Int)≤usedM M:=by
 rw[h.used.1]
 have hm:s.data.toList∈strKeys M.D:=h.mem.2 (by rw[show(⟨s.data.toList.toArray⟩:ByteArray)=s from rfl,hl];rfl)
 have h1:=sumM_mem (M:=M) (fun x=>h.sizeM _) _ hm
 have hi:=h.inD hl
 have h2:lenM M s.data.toList=((M.fs.getD i ⟨[],0,0⟩).b.length:Int):=by
  unfold lenM Dk.sizeM fileM
  rw[show(⟨s.data.toList.toArray⟩:ByteArray)=s from rfl,hl,Option.bind_some,List.getElem?_eq_getElem hi,List.getD_eq_getElem?_getD,List.getElem?_eq_getElem hi,Option.getD_some]
 omega
theorem thingN_most (d:Nums):(thingN d).most=d.most:=by
 unfold thingN
 repeat' split
 all_goals rfl
theorem Fit.nums {d:Nums} (h:Fit M) (hm:d.most=M.d.most):Fit {M with d:=d}:=
 ⟨by rw[hm];exact h.most,fun f hf=>by show _≤d.most;rw[hm];exact h.fit f hf,h.bytes,h.tidy,h.ents,h.size⟩
theorem Fit.thing (h:Fit M):Fit {M with d:=thingN M.d}:=h.nums (thingN_most _)
theorem Fit.files {fs:List FileM} (h:Fit M) (hl:M.fs.length≤fs.length) (hf:∀f∈fs,(f.b.length:Int)≤M.d.most∧IsBytes f.b):Fit {M with fs:=fs}:=
 ⟨h.most,fun f hm=>(hf f hm).1,fun f hm=>(hf f hm).2,h.tidy,fun es e p hp=>by obtain⟨s,i,h1,h2,h3⟩:=h.ents es e p hp;exact⟨s,i,h1,Nat.lt_of_lt_of_le h2 hl,h3⟩,h.size⟩
theorem Fit.del (h:Fit M) (s:ByteArray):Fit {M with D:=M.D.del (keyN s)}:=by
 obtain⟨es,e,hp⟩:=h.tidy
 refine⟨h.most,h.fit,h.bytes,h.tidy.del _,fun es' e' p hm=>?_,?_⟩
 ·have e1:M.D.del (keyN s)=.map es':=e'
  rw[e] at e1
  injection e1 with e1
  rw[← e1] at hm
  exact h.ents es e p (List.mem_filter.1 hm).1
 ·have:=size_del (k:=keyN s) h.tidy
  have:=h.size
  show Maps.size (M.D.del (keyN s))≤4096
  omega
theorem Fit.put (h:Fit M) (hi:i < M.fs.length) (ha:Ascii s) (hs:s.size≤16) (hm:Maps.size M.D < 4096∨(Dk.look M.D s).isSome=true):Fit {M with D:=M.D.put (keyN s) (.held i)}:=by
 obtain⟨es,e,hp⟩:=h.tidy
 refine⟨h.most,h.fit,h.bytes,h.tidy.put (keyN_lit s) _,fun es' e' p hpm=>?_,?_⟩
 ·have e1:M.D.put (keyN s) (.held i)=.map es':=e'
  rw[e] at e1
  injection e1 with e1
  rw[← e1] at hpm
  rcases List.mem_cons.1 ((insert_perm _ _).mem_iff.1 hpm) with hpm | hpm
  ·exact⟨s,i,hpm,hi,ha,hs⟩
  ·exact h.ents es e p (List.mem_filter.1 hpm).1
 ·have:=size_put (k:=keyN s) h.tidy (.held i)
  have h4:=h.size
  show Maps.size (M.D.put (keyN s) (.held i))≤4096
  rw[this]
  split
  ·exact h4
  ·rename_i hh
   rcases hm with hm | hm
   ·omega
   ·exfalso
    apply hh
    obtain⟨j,hj⟩:=Option.isSome_iff_exists.1 hm
    obtain⟨es',e',hm'⟩:=h.look.1 hj
    rw[e',has_eq]
    exact List.any_eq_true.2 ⟨_,hm',WideAt.sameKey_self (keyN_lit s)⟩
theorem Fit.sync (h:Fit M) (s:ByteArray):Fit (syncM M s).1:=by
 unfold syncM
 split
 ·exact h
 split
 ·exact h
 rename_i i hl
 split
 ·refine(Fit.files (M:={M with d:=thingN M.d}) h.thing (Nat.le_of_eq (List.length_set ..).symm) (fun f hf=>?_))
  have hi:=h.inD hl
  rcases List.mem_or_eq_of_mem_set hf with hf | hf
  ·exact⟨by show _≤(thingN M.d).most;rw[thingN_most];exact h.fit f hf,h.bytes f hf⟩
  ·subst hf
   have hm:M.fs.getD i ⟨[],0,0⟩∈M.fs:=by rw[List.getD_eq_getElem?_getD,List.getElem?_eq_getElem hi,Option.getD_some];exact List.getElem_mem hi
   exact⟨by show((M.fs.getD i ⟨[],0,0⟩).b.length:Int)≤(thingN M.d).most;rw[thingN_most];exact h.fit _ hm,fun x hx=>h.bytes _ hm x hx⟩
 ·exact h.thing
theorem Fit.append (h:Fit M) (s:ByteArray) (bs:List Int) (hb:IsBytes bs):Fit (appendM M s bs).1:=by
 unfold appendM
 split
 ·exact h
 split
 ·exact h
 rename_i i hl
 split
 ·exact h
 rename_i hroom
 split
 ·refine(Fit.files (M:={M with d:=thingN M.d}) h.thing (Nat.le_of_eq (List.length_set ..).symm) (fun f hf=>?_))
  have hi:=h.inD hl
  rcases List.mem_or_eq_of_mem_set hf with hf | hf
  ·exact⟨by show _≤(thingN M.d).most;rw[thingN_most];exact h.fit f hf,h.bytes f hf⟩
  ·subst hf
   have hm:M.fs.getD i ⟨[],0,0⟩∈M.fs:=by rw[List.getD_eq_getElem?_getD,List.getElem?_eq_getElem hi,Option.getD_some];exact List.getElem_mem hi
   have h1:=h.part hl
   have h2:=h.used
   have h3:=h.most
   have h4:=h.fit _ hm
   have h5:wrap64 (M.d.most - usedM M)=M.d.most - usedM M:=by unfold wrap64;omega
   rw[h5] at hroom
   refine⟨?_,fun x hx=>?_⟩
   ·show(((M.fs.getD i ⟨[],0,0⟩).b++bs).length:Int)≤(thingN M.d).most
    rw[thingN_most,List.length_append]
    omega
   ·rcases List.mem_append.1 hx with hx | hx
    ·exact h.bytes _ hm x hx
    ·exact hb x hx
 ·exact h.thing
theorem Fit.remove (h:Fit M) (s:ByteArray):Fit (removeM M s).1:=by
 unfold removeM
 split
 ·exact h
 split
 ·exact h
 split
 ·exact Fit.nums (M:={M with D:=M.D.del (keyN s)}) (h.del s) (thingN_most _)
 ·exact h.thing
theorem rightN_le {s:ByteArray} (h:¬rightN s=false):s.size≤16:=by
 unfold rightN at h
 simp only[Bool.and_eq_false_iff,not_or,Bool.not_eq_false,decide_eq_true_eq] at h
 exact h.2
theorem Fit.rename (h:Fit M) (s t:ByteArray) (ht:Ascii t):Fit (renameM M s t).1:=by
 unfold renameM
 split
 ·exact h
 split
 ·exact h
 rename_i hl
 split
 ·exact h
 rename_i hr
 split
 ·exact h
 split
 ·unfold moveD
  cases hli:Dk.look M.D s with
  | none=>rw[hli] at hl;exact absurd rfl hl
  | some i=>
   have h1:=h.del s
   have hz:=size_del (k:=keyN s) h.tidy
   have hhas:Maps.has M.D (keyN s)=true:=by
    obtain⟨es',e',hm'⟩:=h.look.1 hli
    rw[e',has_eq]
    exact List.any_eq_true.2 ⟨_,hm',WideAt.sameKey_self (keyN_lit s)⟩
   rw[hhas,if_pos rfl] at hz
   have h4:=h.size
   have h2:=Fit.put (M:={M with D:=M.D.del (keyN s)}) (s:=t) (i:=i) h1 (h.inD hli) ht (rightN_le hr) (.inl (by show Maps.size (M.D.del (keyN s)) < 4096;omega))
   exact Fit.nums (M:={M with D:=(M.D.del (keyN s)).put (keyN t) (.held i)}) h2 (thingN_most _)
 ·exact h.thing
theorem Fit.create (h:Fit M) (s:ByteArray) (ha:Ascii s):Fit (createM M s).1:=by
 have hf:∀d:Nums,d.most=M.d.most→Fit {M with d:=d,fs:=M.fs++[⟨[],0,M.d.made⟩]}:=fun d hd=>by
  refine Fit.files (M:={M with d:=d}) (h.nums hd) (by simp) (fun f hm=>?_)
  rcases List.mem_append.1 hm with hm | hm
  ·exact⟨by show _≤d.most;rw[hd];exact h.fit f hm,h.bytes f hm⟩
  ·rw[List.mem_singleton.1 hm]
   exact⟨by show _≤d.most;rw[hd];simpa using h.most.1,fun x hx=>by cases hx⟩
 unfold createM
 split
 ·exact h
 split
 ·exact h
 rename_i hr
 split
 ·exact h
 split
 ·exact h
 rename_i hz
 split
 ·have h1:=hf {thingN M.d with made:=wrap64 ((thingN M.d).made+1)} (thingN_most _)
  exact Fit.put (M:={M with d:={thingN M.d with made:=wrap64 ((thingN M.d).made+1)},fs:=M.fs++[⟨[],0,M.d.made⟩]}) h1 (by simp) ha (rightN_le hr) (.inl (by show Maps.size M.D < 4096;omega))
 ·exact hf _ (thingN_most _)
theorem Fit.syncDir (h:Fit M):Fit (syncDirM M).1:=by
 unfold syncDirM
 split
 ·exact h
 split
 ·exact⟨h.thing.most,h.thing.fit,h.bytes,h.tidy,h.ents,h.size⟩
 ·exact h.thing
theorem newM_most (a:Int):0≤(newM a).d.most∧(newM a).d.most≤67108864:=by
 show 0≤mn (mx a 0) 67108864∧mn (mx a 0) 67108864≤67108864
 unfold mn mx
 constructor <;> (repeat' split) <;> omega
theorem Fit.new (a:Int):Fit (newM a):=by
 refine⟨newM_most a,fun f hf=>(by cases hf),fun f hf=>(by cases hf),tidy_empty,fun es e p hp=>?_,Nat.zero_le _⟩
 have e1:(DataW.map []:DataW Nat)=.map es:=e
 injection e1 with e1
 rw[← e1] at hp
 cases hp
end Dk
end
end Go.Proofs.YtcieieacfoaklaaGreat
section
namespace Go.Proofs.YtcieieacfoaklaaGreat.Mn
open Go.RowKit Go.Maps Fr Ext Go.Proofs.YtcieieacfoaklaaGreat.Nm Dk Pt YtcieieacfoaklaaGreatW.PrintWords YtcieieacfoaklaaGreatW.PrintLast

structure ManM where
 segs:List Int
 next:Int
def risesB (last:Int):List Int→Bool
 | []=>true
 | n::l=>if n≤last then false else if n > 99999999 then false else risesB n l
def rightM (m:ManM):Bool:=risesB (-1) (m.segs++[m.next]) && decide (m.segs.length≤1000)
def be4 (n:Int):List Int:=[n / 16777216 % 256,n / 65536 % 256,n / 256 % 256,n % 256]
def numsM (l:List Int):List Int:=(l.map be4).flatten
theorem numsM_length (l:List Int):(numsM l).length=4*l.length:=by
 unfold numsM
 induction l with
 | nil=>rfl
 | cons x l ih=>rw[List.map_cons,List.flatten_cons,List.length_append,ih,List.length_cons];simp only[be4,List.length_cons,List.length_nil];omega
theorem numsM_take (l:List Int) (k:Nat) (h:k < l.length):numsM (l.take (k+1))=numsM (l.take k)++be4 l[k]:=by
 unfold numsM
 rw[List.take_succ_eq_append_getElem h,List.map_append,List.flatten_append]
 simp
theorem be4_bytes (n:Int):IsBytes (be4 n):=by
 intro x hx
 simp only[be4,List.mem_cons,List.not_mem_nil,or_false] at hx
 rcases hx with rfl | rfl | rfl | rfl <;> omega
theorem numsM_bytes (l:List Int):IsBytes (numsM l):=by
 intro x hx
 unfold numsM at hx
 obtain⟨y,hy,hxy⟩:=List.mem_flatten.1 hx
 obtain⟨n,_,rfl⟩:=List.mem_map.1 hy
 exact be4_bytes n x hxy
def bodyM (m:ManM):List Int:=8::(be4 m.next++[(m.segs.length:Int) / 256 % 256,(m.segs.length:Int) % 256]++numsM m.segs)
def putM (m:ManM):List Int:=if rightM m=true then putL (bodyM m) else []
def be4At (x:List Int) (i:Int):Int:=rd x i*16777216+rd x (i+1)*65536+rd x (i+2)*256+rd x (i+3)
def noM:ManM:=⟨[],0⟩
def segsAt (x:List Int) (many:Nat):List Int:=(List.range many).map fun(i:Nat)=>be4At x (7+4*(i:Int))
def ofM (x:List Int):ManM:=⟨segsAt x (rd x 5*256+rd x 6).toNat,be4At x 1⟩
def getM (b:List Int):ManM×Bool:=
 if(firstL b).2.2≠0∨(firstL b).2.1≠(b.length:Int)∨(firstL b).1.length < 7∨rd (firstL b).1 0≠8 then(noM,false)
 else if((firstL b).1.length:Int)≠7+4*(rd (firstL b).1 5*256+rd (firstL b).1 6) then(noM,false)
 else if rightM (ofM (firstL b).1)=true then(ofM (firstL b).1,true) else(noM,false)
theorem or_join4 (a b c d:Int) (ha:0≤a) (ha':a < 256) (hb:0≤b) (hb':b < 256) (hc:0≤c) (hc':c < 256) (hd:0≤d) (hd':d < 256):
  bits .or .i64 (a*16777216) (b*65536)=a*16777216+b*65536∧bits .or .i64 (a*16777216+b*65536) (c*256)=a*16777216+b*65536+c*256∧bits .or .i64 (a*16777216+b*65536+c*256) d=a*16777216+b*65536+c*256+d:=by
 have hw:∀n:Int,0≤n→n < 2 ^ 63→IntKind.i64.wrap n=n:=fun n h h'=>by rw[IntWalk.i64_in] <;> omega
 exact⟨Go.bits_join .i64 63 (by decide) hw 24 _ _ (by omega) (by omega) (by omega) (by omega) (by omega) (by omega),
  Go.bits_join .i64 63 (by decide) hw 16 _ _ (by omega) (by omega) (by omega) (by omega) (by omega) (by omega),
  Go.bits_join .i64 63 (by decide) hw 8 _ _ (by omega) (by omega) (by omega) (by omega) (by omega) (by omega)⟩
def turnsM:List (DiskM→DiskM×Int)→DiskM→DiskM×Int
 | [],M=>(M,0)
 | f::l,M=>if(f M).2=0 then turnsM l (f M).1 else f M
def tempN:ByteArray:=nameOf 4 0
def manN:ByteArray:=nameOf 3 0
def gone1 (M:DiskM) (s:ByteArray):DiskM×Int:=if(Dk.look M.D s).isSome=true then removeM M s else(M,0)
def saveM (M:DiskM) (m:ManM):DiskM×Int:=
 if rightM m=true then turnsM [fun M=>gone1 M tempN,fun M=>createM M tempN,fun M=>appendM M tempN (putM m),fun M=>syncM M tempN,fun M=>renameM M tempN manN,syncDirM] M
 else(M,1)
def loadM (M:DiskM):ManM×Bool×Int:=
 if M.d.down=true then(noM,false,82)
 else if(Dk.look M.D manN).isSome=false then(noM,false,0)
 else if(getM (readM M manN 0 (sizeM M manN)).1).2=true then((getM (readM M manN 0 (sizeM M manN)).1).1,true,0) else(noM,false,22)
end Go.Proofs.YtcieieacfoaklaaGreat.Mn
end
section
namespace Go.Proofs.YtcieieacfoaklaaGreat.Mn
open Go.RowKit Go.Maps Fr Ext Go.Proofs.YtcieieacfoaklaaGreat.Nm Dk Pt YtcieieacfoaklaaGreatW.PrintWords YtcieieacfoaklaaGreatW.PrintLast

theorem turns_man (n b:Nat) (hn:n≤1000000) (cs:Array Value) (w:World) (hb:w.heap[b]? =some (.cells cs 92 (0,0))) (I:Nat→World→Prop) (E:Int→World→Prop)
    (h0:I 0 w) (hkeep:∀j W,I j W→W.heap[b]? =w.heap[b]?)
    (hstep:∀j,j < n→∃fid pre caps,cs[j]? =some (.func (.func fid) pre caps)∧(∀args W,(callFunc fid args).run Tryz.prog W=.ok (.enter fid args) W)∧
      ∀W,I j W→Calls Tryz.prog fid (pre++caps) W fun e W'=>∃x,e=.returned (.int .i64 x)∧(x=0→I (j+1) W')∧(x≠0→E x W')):
    Calls Tryz.prog 106 #[.slice (some ⟨b,0,none⟩) n n] w fun e W'=>∃x,e=.returned (.int .i64 x)∧(x=0→I n W')∧(x≠0→E x W'):=by
  have H0:=ak h0
  have HS:=ak hstep
  have HK:=ak hkeep
  have HB:=ak hb
  have HN:=ak hn
  clear h0 hstep hkeep hb hn
  go_enter Tryz.func106,Tryz.ntmps106
  go_wp2
  go_loopg [8] n (fun kq v8 wr=>∃k:Nat,v8=.int .i64 k∧Aside0 (k+kq=n)∧Aside0 (I k wr))
  case atStart=>exact⟨0,rfl,⟨by omega⟩,H0⟩
  case round=>
    obtain⟨k,rfl,HQ,HI⟩:=hrel
    cases gk with
    | zero=>
      obtain rfl:k=n:=by have:=HQ.out;omega
      have d1:decide ((k:Int) < (k:Int))=false:=decide_eq_false (by omega)
      have d2:decide (k < k)=false:=decide_eq_false (by omega)
      go_wp2
      go_ret
      exact⟨_,rfl,fun _=>HI.out,fun h=>absurd rfl h⟩
    | succ gk=>
      have hk0:k < n:=by have:=HQ.out;omega
      have d1:decide ((k:Int) < (n:Int))=true:=decide_eq_true (by omega)
      have d2:decide (k < n)=true:=decide_eq_true hk0
      obtain⟨fid,pre,caps,hc,hrun,hcall⟩:=HS.out k hk0
      have y0:wr.cell? ⟨b,k,none⟩=some (.func (.func fid) pre caps):=(blk_cell ((HK.out k wr HI.out).trans HB.out) k).trans hc
      have hr:=hrun (pre++caps) wr
      have HC:=ak (hcall wr HI.out)
      clear hc hrun hcall
      go_upto_region 5 with((with_reducible refine HC.out.mono ?_);rintro e w1 ⟨x,rfl,h1,h2⟩;have H1:=ak h1;have H2:=ak h2;clear h1 h2)
      by_cases hx:x=0
      · subst hx
        clear hr y0
        go_wp2
        go_roundg gk
        case measure=>omega
        case rel => exact ⟨k + 1, by have e:wrap64 ((k:Int)+1)=((k+1:Nat):Int):=by {unfold wrap64;have:=HN.out;have:=HQ.out;omega}
                                     rw[e],⟨by have:=HQ.out;omega⟩,⟨H1.out trivial⟩⟩
      · have e1:(x !=0)=true:=bne_iff_ne.mpr hx
        have HX:=ak hx
        clear hx hr y0
        go_wp2
        go_ret
        exact⟨_,rfl,fun h=>absurd h HX.out,fun h=>H2.out h⟩
theorem turns_log (n b:Nat) (hn:n≤1000000) (cs:Array Value) (w:World) (hb:w.heap[b]? =some (.cells cs 92 (0,0))) (I:Nat→World→Prop) (E:Int→World→Prop)
    (h0:I 0 w) (hkeep:∀j W,I j W→W.heap[b]? =w.heap[b]?)
    (hstep:∀j,j < n→∃fid pre caps,cs[j]? =some (.func (.func fid) pre caps)∧(∀args W,(callFunc fid args).run Tryz.prog W=.ok (.enter fid args) W)∧
      ∀W,I j W→Calls Tryz.prog fid (pre++caps) W fun e W'=>∃x,e=.returned (.int .i64 x)∧(x=0→I (j+1) W')∧(x≠0→E x W')):
    Calls Tryz.prog 60 #[.slice (some ⟨b,0,none⟩) n n] w fun e W'=>∃x,e=.returned (.int .i64 x)∧(x=0→I n W')∧(x≠0→E x W'):=by
  have H0:=ak h0
  have HS:=ak hstep
  have HK:=ak hkeep
  have HB:=ak hb
  have HN:=ak hn
  clear h0 hstep hkeep hb hn
  go_enter Tryz.func60,Tryz.ntmps60
  go_wp2
  go_loopg [8] n (fun kq v8 wr=>∃k:Nat,v8=.int .i64 k∧Aside0 (k+kq=n)∧Aside0 (I k wr))
  case atStart=>exact⟨0,rfl,⟨by omega⟩,H0⟩
  case round=>
    obtain⟨k,rfl,HQ,HI⟩:=hrel
    cases gk with
    | zero=>
      obtain rfl:k=n:=by have:=HQ.out;omega
      have d1:decide ((k:Int) < (k:Int))=false:=decide_eq_false (by omega)
      have d2:decide (k < k)=false:=decide_eq_false (by omega)
      go_wp2
      go_ret
      exact⟨_,rfl,fun _=>HI.out,fun h=>absurd rfl h⟩
    | succ gk=>
      have hk0:k < n:=by have:=HQ.out;omega
      have d1:decide ((k:Int) < (n:Int))=true:=decide_eq_true (by omega)
      have d2:decide (k < n)=true:=decide_eq_true hk0
      obtain⟨fid,pre,caps,hc,hrun,hcall⟩:=HS.out k hk0
      have y0:wr.cell? ⟨b,k,none⟩=some (.func (.func fid) pre caps):=(blk_cell ((HK.out k wr HI.out).trans HB.out) k).trans hc
      have hr:=hrun (pre++caps) wr
      have HC:=ak (hcall wr HI.out)
      clear hc hrun hcall
      go_upto_region 5 with((with_reducible refine HC.out.mono ?_);rintro e w1 ⟨x,rfl,h1,h2⟩;have H1:=ak h1;have H2:=ak h2;clear h1 h2)
      by_cases hx:x=0
      · subst hx
        clear hr y0
        go_wp2
        go_roundg gk
        case measure=>omega
        case rel => exact ⟨k + 1, by have e:wrap64 ((k:Int)+1)=((k+1:Nat):Int):=by {unfold wrap64;have:=HN.out;have:=HQ.out;omega}
                                     rw[e],⟨by have:=HQ.out;omega⟩,⟨H1.out trivial⟩⟩
      · have e1:(x !=0)=true:=bne_iff_ne.mpr hx
        have HX:=ak hx
        clear hx hr y0
        go_wp2
        go_ret
        exact⟨_,rfl,fun h=>absurd h HX.out,fun h=>H2.out h⟩
end Go.Proofs.YtcieieacfoaklaaGreat.Mn
end
namespace Go.Proofs.YtcieieacfoaklaaGreat
open Go.RowKit YtcieieacfoaklaaGreatW.PrintWords YtcieieacfoaklaaGreatW.PrintLast YtcieieacfoaklaaGreatW.PrintMore
section
namespace Mn
open Go.Maps Fr Ext Go.Proofs.YtcieieacfoaklaaGreat.Nm Dk
open Rc (Norm Norm.intro Norm.elim)
def mr2T:Bool×List (List Nat×List Nat):=(true,[([],[]),([],[]),([1],[1]),([0,2],[0,2]),([],[]),([4],[4]),([5],[5]),([3,6,3],[3,6]),([7],[7]),([],[])])
def mr2B:List Nat:=[0,0,2,7,0,16,48,127,255,0]
theorem mr2tab:rtab .any (opsOf Tryz.f80 2)=mr2T:=by kernel_rfl
theorem mr2bits:waitsOk mr2T.2 mr2B=true:=by kernel_rfl
theorem alloc_step {P:Program} {ops:Array Oper} {o:Oper} {a:Act} {Q:Exit→Act→World→Prop} {Kc:Act→World→Prop} {W w1:World} {u:Prop} {v:Value} (hw:Region.wanted o (yielded ops a.tmps)=true) (hrun:(execOp a.eval o).run P W=.ok (.value v) w1) (h:Kc (a.put o.dst v) w1):if Region.wanted o (yielded ops a.tmps)=true then Oper.wp P o a W Kc Q else u:=by
 rw[if_pos hw]
 unfold Oper.wp
 rw[hrun]
 simp only[Oper.upon]
 exact h
theorem rd_nat (L:List Int) (i:Nat) (h:i < L.length):rd L (i:Int)=L[i]:=by
 unfold rd
 rw[Int.toNat_natCast,List.getD_eq_getElem?_getD,List.getElem?_eq_getElem h,Option.getD_some]
theorem wrap_succ (i:Nat) (h:i≤1000000000000):wrap64 ((i:Int)+1)=((i+1:Nat):Int):=by unfold wrap64;omega
abbrev manC (m:ManM) (A:Option Addr) (c:Nat):Array Value:=#[.slice A m.segs.length c,.int .i64 m.next]
theorem int_one {w:World} {sb:Nat} {n:Int} (h:w.heap[sb]? =some (.cells #[.int .i64 n] 3 (0,0))):Kd.C (Kd.int .i64) w (some ⟨sb,0,none⟩) 1 [n]:=
 Kd.C_of_reads (d:=(0:Int)) (h1:=fun _=>rfl) (reads_of_block (k:=.i64) (xs:=[n]) h (by simp))
theorem int_none {w:World} {base sb:Nat} (h:w.heap[sb]? =some (.cells #[] 3 (0,0))) (hb:base≤sb):Kd.R (Kd.int .i64) 3 w base (fun _=>True) (.slice (some ⟨sb,0,none⟩) 0 0) []:=
 Kd.R_of_own (enc:=Value.int .i64) ⟨rfl,.inr ⟨sb,0,_,rfl,hb,h,Nat.le_refl _,by decide,rfl,rfl⟩⟩ (fun _ _=>trivial)
theorem right_calls (m:ManM) (A:Option Addr) (c:Nat) (w:World) (hl:m.segs.length≤1000000000) (hc:m.segs.length≤c) (hr:Kd.C (Kd.int .i64) w A m.segs.length m.segs):
  Calls Tryz.prog 80 #[.agg (manC m A c)] w fun e w'=>e=.returned (.bool (rightM m))∧RowKit.Below w.heap.size w w':=by
 have hz:=heap_alloc_new w (.cells #[.slice A m.segs.length c,.int .i64 m.next] 78)
 have hb:=below_alloc (RowKit.Below.refl w.heap.size w) (.cells #[.slice A m.segs.length c,.int .i64 m.next] 78)
 have HR:=ak hr
 have HL:=ak hl
 clear hr hl
 go_enter Tryz.func80,Tryz.ntmps80
 go_upto_region 2 with(fail)
 generalize w.alloc (.cells #[.slice A m.segs.length c,.int .i64 m.next] 78)=w1 at hz hb ⊢
 obtain⟨rb,hrb⟩:∃rb,w.heap.size=rb:=⟨_,rfl⟩
 have HB:=ak hb
 rw[hrb] at hz ⊢
 clear hrb hb
 have HZ:=ak hz
 have x0:=bq hz 0 (.slice A m.segs.length c)
 have x1:=bq hz 1 (.int .i64 m.next)
 obtain⟨L1,hL1⟩:∃L1,([]++m.segs:List Int).length=L1:=⟨_,rfl⟩
 obtain⟨L2,hL2⟩:∃L2,([]++m.segs++[m.next]:List Int).length=L2:=⟨_,rfl⟩
 have HL1:=ak hL1
 have HL2:=ak hL2
 have HA1:=ak (show((([]:List Int)).length+m.segs.length)*8≤140737488355328 by have:=HL.out;simp;omega)
 have HA2:=ak (show(([]++m.segs:List Int).length+1)*8≤140737488355328 by have:=HL.out;simp;omega)
 clear hz hL1 hL2
 refine Code.wp_mono (Q:=Norm fun a' W=>∃(sb:Nat) (A1:Option Addr) (c1:Nat) (sb2:Nat) (A2:Option Addr) (c2:Nat),a'={tmps:=#[.agg #[.slice A m.segs.length c,.int .i64 m.next],.pointer (some ⟨rb,0,none⟩),.bool false,.int .i64 (-1),undef,undef,.slice (some ⟨sb,0,none⟩) 0 0,.pointer (some ⟨rb,0,none⟩),.slice A m.segs.length c,.slice A1 L1 c1,.pointer (some ⟨rb,1,none⟩),.int .i64 m.next,.slice (some ⟨sb2,0,none⟩) 1 1,.slice A2 L2 c2,.int .i64 L2,.int .i64 0,undef,undef,undef,undef,undef,undef,undef,undef,undef,undef,undef,undef,undef,undef,undef,undef],defers:=[]}∧Kd.R (Kd.int .i64) 3 W w1.heap.size (fun _=>True) (.slice A2 L2 c2) ([]++m.segs++[m.next])∧RowKit.Below w1.heap.size w1 W) (Norm.elim ?mono) ?reg
 case reg=>
  refine st_ 10 (S:=(fun w'=>RowKit.Below w1.heap.size w1 w')) (ds:=[]) (by kernel_rfl) rfl (by kernel_rfl) (RowKit.Below.refl _ _).drew (fun hHeld=>?_);refine with_tabW mr2tab mr2bits (fun HT_ HW_=>?_)
  generalize w1.drew=b0 at hHeld ⊢
  refine fl_ [1,7,2,4,10,18,9,15,530] ?_
  iterate 3 refine pz_ HT_ ?_
  refine fe_ ?_
  refine tk_ 2 534 (N:=some 8) (v:=?_) (a':=?_) HT_ HW_ rfl rfl (.inl ⟨by rfl,?_⟩) hHeld ?_ ?_
  rotate_left
  ·rintro w' hs
   have xx:=pw_cell_below hs x0
   go_simp
   with_reducible rfl
  rotate_left
  ·simp only[Act.put,zq1,zq2,zq3,i64_w,i32_w]
   rfl
  refine tk_ 5 566 (N:=some 11) (v:=?_) (a':=?_) HT_ HW_ rfl rfl (.inl ⟨by rfl,?_⟩) hHeld ?_ ?_
  rotate_left
  ·rintro w' hs
   have xx:=pw_cell_below hs x1
   go_simp
   with_reducible rfl
  rotate_left
  ·simp only[Act.put,zq1,zq2,zq3,i64_w,i32_w]
   rfl
  refine tw_ 0 6 567 630 (some 6) (some 12) HT_ rfl rfl rfl rfl (by kernel_rfl) (by decide) (by decide) (fun K hK=>?_) (fun K hK=>?_)
  ·refine Mn.alloc_step rfl (by go_simp;exact⟨rfl,rfl⟩) ?_
   have hb:=below_alloc (RowKit.Below.refl b0.heap.size b0) (.cells #[] 3)
   have hz0:=heap_alloc_new b0 (.cells #[] 3)
   have hle:=hHeld.size
   have hHeld:=below_alloc hHeld (.cells #[] 3)
   refine kz_ hK hHeld fun hHeld=>?_;clear hK K
   clear hb
   generalize b0.alloc (.cells #[] 3)=b1 at hHeld hz0 ⊢
   refine tw_ 3 6 575 631 (some 9) (some 12) HT_ rfl rfl rfl rfl (by kernel_rfl) (by decide) (by decide) (fun K hK=>?_) (fun K hK=>?_)
   ·have hv0:=int_none hz0 hle
    refine Kd.R_append_rows_step (Kd.int .i64) (w0:=b1) (W:=b1) w1.heap.size rfl (.tmp 6) (.tmp 8) 76 3 (.int .i64 0) 8 rfl Tryz.underlying76 Nm.infoI rfl (by decide) (by decide) (.slice (some ⟨b0.heap.size,0,none⟩) 0 0) [] m.segs (A) m.segs.length c (fun _=>True) (fun _=>False) rfl rfl hv0 (Kd.C_below HR.out (HB.out.trans (hHeld.mono HB.out.size))) (fun x cs hk=>hk) (fun _ h=>h.elim) (fun _ _=>trivial) (RowKit.Below.refl _ _) hHeld.size HA1.out ?_
    intro v3 b2 hv3 hb4 hg4 hat4
    have hHg:=hHeld.grown hg4 hHeld.size (Kd.R_base hv0)
    have hHeld:=hHg
    refine kz_ hK hHeld fun hHeld=>?_;clear hK K
    obtain⟨A1,c1,hA1⟩:=Kd.R_slice hv3
    rw[HL1.out] at hA1
    subst hA1
    refine on_ 6 639 (some 12) HT_ rfl rfl (by kernel_rfl) (by decide) (fun K hK=>?_)
    refine Mn.alloc_step rfl (by go_simp;exact⟨rfl,rfl⟩) ?_
    have hb:=below_alloc (RowKit.Below.refl b2.heap.size b2) (.cells #[.int .i64 m.next] 3)
    have hv3:=Kd.R_below hv3 hb
    have hz6:=heap_alloc_new b2 (.cells #[.int .i64 m.next] 3)
    have hHeld:=below_alloc hHeld (.cells #[.int .i64 m.next] 3)
    refine kz_ hK hHeld fun hHeld=>?_;clear hK K
    clear hb
    generalize b2.alloc (.cells #[.int .i64 m.next] 3)=b3 at hHeld hz6 hv3 ⊢
    refine on_ 7 767 (some 13) HT_ rfl rfl (by kernel_rfl) (by decide) (fun K hK=>?_)
    refine Kd.R_append_rows_step (Kd.int .i64) (w0:=b3) (W:=b3) w1.heap.size rfl (.tmp 9) (.tmp 12) 76 3 (.int .i64 0) 8 rfl Tryz.underlying76 Nm.infoI rfl (by decide) (by decide) (.slice A1 L1 c1) ([]++m.segs) [m.next] (some ⟨b2.heap.size,0,none⟩) 1 1 (fun _=>True) (fun _=>False) rfl rfl hv3 (int_one hz6) (fun x cs hk=>hk) (fun _ h=>h.elim) (fun _ _=>trivial) (RowKit.Below.refl _ _) hHeld.size HA2.out ?_
    intro v7 b4 hv7 hb4 hg4 hat4
    have hHg:=hHeld.grown hg4 hHeld.size (Kd.R_base hv3)
    have hHeld:=hHg
    refine kz_ hK hHeld fun hHeld=>?_;clear hK K
    obtain⟨A2,c2,hA2⟩:=Kd.R_slice hv7
    rw[HL2.out] at hA2
    subst hA2
    refine fl_ [8,14,1023] ?_
    refine pz_ HT_ ?_
    refine fe_ ?_
    refine dz_ HT_ ?_
    exact Norm.intro ⟨b0.heap.size,A1,c1,b2.heap.size,A2,c2,rfl,hv7,hHeld⟩
   ·refine Mn.alloc_step rfl (by go_simp;exact⟨rfl,rfl⟩) ?_
    have hb:=below_alloc (RowKit.Below.refl b1.heap.size b1) (.cells #[.int .i64 m.next] 3)
    have hz0:=(hb.block _ (blk_lt hz0)).trans hz0
    have hz6:=heap_alloc_new b1 (.cells #[.int .i64 m.next] 3)
    have hHeld:=below_alloc hHeld (.cells #[.int .i64 m.next] 3)
    refine kz_ hK hHeld fun hHeld=>?_;clear hK K
    clear hb
    generalize b1.alloc (.cells #[.int .i64 m.next] 3)=b5 at hHeld hz6 hz0 ⊢
    refine on_ 3 639 (some 9) HT_ rfl rfl (by kernel_rfl) (by decide) (fun K hK=>?_)
    have hne:b1.heap.size≠b0.heap.size:=fun e=>by have h1:=blk_lt hz0;have h2:=blk_lt hz6;rw[e,hz0] at hz6;injection hz6 with hz6;injection hz6 with hz6;injection hz6 with hz6;cases hz6
    have hv0:=int_none hz0 hle
    refine Kd.R_append_rows_step (Kd.int .i64) (w0:=b5) (W:=b5) w1.heap.size rfl (.tmp 6) (.tmp 8) 76 3 (.int .i64 0) 8 rfl Tryz.underlying76 Nm.infoI rfl (by decide) (by decide) (.slice (some ⟨b0.heap.size,0,none⟩) 0 0) [] m.segs (A) m.segs.length c (fun _=>True) (fun _=>False) rfl rfl hv0 (Kd.C_below HR.out (HB.out.trans (hHeld.mono HB.out.size))) (fun x cs hk=>hk) (fun _ h=>h.elim) (fun _ _=>trivial) (RowKit.Below.refl _ _) hHeld.size HA1.out ?_
    intro v3 b6 hv3 hb4 hg4 hat4
    have hHg:=hHeld.grown hg4 hHeld.size (Kd.R_base hv0)
    have hz6:=blk_grown hz6 hg4 (fun e=>hne (Option.some.inj e))
    have hHeld:=hHg
    refine kz_ hK hHeld fun hHeld=>?_;clear hK K
    obtain⟨A1,c1,hA1⟩:=Kd.R_slice hv3
    rw[HL1.out] at hA1
    subst hA1
    refine on_ 7 767 (some 13) HT_ rfl rfl (by kernel_rfl) (by decide) (fun K hK=>?_)
    refine Kd.R_append_rows_step (Kd.int .i64) (w0:=b6) (W:=b6) w1.heap.size rfl (.tmp 9) (.tmp 12) 76 3 (.int .i64 0) 8 rfl Tryz.underlying76 Nm.infoI rfl (by decide) (by decide) (.slice A1 L1 c1) ([]++m.segs) [m.next] (some ⟨b1.heap.size,0,none⟩) 1 1 (fun _=>True) (fun _=>False) rfl rfl hv3 (int_one hz6) (fun x cs hk=>hk) (fun _ h=>h.elim) (fun _ _=>trivial) (RowKit.Below.refl _ _) hHeld.size HA2.out ?_
    intro v7 b7 hv7 hb4 hg4 hat4
    have hHg:=hHeld.grown hg4 hHeld.size (Kd.R_base hv3)
    have hHeld:=hHg
    refine kz_ hK hHeld fun hHeld=>?_;clear hK K
    obtain⟨A2,c2,hA2⟩:=Kd.R_slice hv7
    rw[HL2.out] at hA2
    subst hA2
    refine fl_ [8,14,1023] ?_
    refine pz_ HT_ ?_
    refine fe_ ?_
    refine dz_ HT_ ?_
    exact Norm.intro ⟨b0.heap.size,A1,c1,b1.heap.size,A2,c2,rfl,hv7,hHeld⟩
  ·refine Mn.alloc_step rfl (by go_simp;exact⟨rfl,rfl⟩) ?_
   have hb:=below_alloc (RowKit.Below.refl b0.heap.size b0) (.cells #[.int .i64 m.next] 3)
   have hz6:=heap_alloc_new b0 (.cells #[.int .i64 m.next] 3)
   have hHeld:=below_alloc hHeld (.cells #[.int .i64 m.next] 3)
   refine kz_ hK hHeld fun hHeld=>?_;clear hK K
   clear hb
   generalize b0.alloc (.cells #[.int .i64 m.next] 3)=b8 at hHeld hz6 ⊢
   refine on_ 0 631 (some 6) HT_ rfl rfl (by kernel_rfl) (by decide) (fun K hK=>?_)
   refine Mn.alloc_step rfl (by go_simp;exact⟨rfl,rfl⟩) ?_
   have hb:=below_alloc (RowKit.Below.refl b8.heap.size b8) (.cells #[] 3)
   have hz6:=(hb.block _ (blk_lt hz6)).trans hz6
   have hz0:=heap_alloc_new b8 (.cells #[] 3)
   have hle:=hHeld.size
   have hHeld:=below_alloc hHeld (.cells #[] 3)
   refine kz_ hK hHeld fun hHeld=>?_;clear hK K
   clear hb
   generalize b8.alloc (.cells #[] 3)=b9 at hHeld hz0 hz6 ⊢
   refine on_ 3 639 (some 9) HT_ rfl rfl (by kernel_rfl) (by decide) (fun K hK=>?_)
   have hne:b0.heap.size≠b8.heap.size:=fun e=>by have h1:=blk_lt hz0;have h2:=blk_lt hz6;rw[e,hz0] at hz6;injection hz6 with hz6;injection hz6 with hz6;injection hz6 with hz6;cases hz6
   have hv0:=int_none hz0 hle
   refine Kd.R_append_rows_step (Kd.int .i64) (w0:=b9) (W:=b9) w1.heap.size rfl (.tmp 6) (.tmp 8) 76 3 (.int .i64 0) 8 rfl Tryz.underlying76 Nm.infoI rfl (by decide) (by decide) (.slice (some ⟨b8.heap.size,0,none⟩) 0 0) [] m.segs (A) m.segs.length c (fun _=>True) (fun _=>False) rfl rfl hv0 (Kd.C_below HR.out (HB.out.trans (hHeld.mono HB.out.size))) (fun x cs hk=>hk) (fun _ h=>h.elim) (fun _ _=>trivial) (RowKit.Below.refl _ _) hHeld.size HA1.out ?_
   intro v3 b10 hv3 hb4 hg4 hat4
   have hHg:=hHeld.grown hg4 hHeld.size (Kd.R_base hv0)
   have hz6:=blk_grown hz6 hg4 (fun e=>hne (Option.some.inj e))
   have hHeld:=hHg
   refine kz_ hK hHeld fun hHeld=>?_;clear hK K
   obtain⟨A1,c1,hA1⟩:=Kd.R_slice hv3
   rw[HL1.out] at hA1
   subst hA1
   refine on_ 7 767 (some 13) HT_ rfl rfl (by kernel_rfl) (by decide) (fun K hK=>?_)
   refine Kd.R_append_rows_step (Kd.int .i64) (w0:=b10) (W:=b10) w1.heap.size rfl (.tmp 9) (.tmp 12) 76 3 (.int .i64 0) 8 rfl Tryz.underlying76 Nm.infoI rfl (by decide) (by decide) (.slice A1 L1 c1) ([]++m.segs) [m.next] (some ⟨b0.heap.size,0,none⟩) 1 1 (fun _=>True) (fun _=>False) rfl rfl hv3 (int_one hz6) (fun x cs hk=>hk) (fun _ h=>h.elim) (fun _ _=>trivial) (RowKit.Below.refl _ _) hHeld.size HA2.out ?_
   intro v7 b11 hv7 hb4 hg4 hat4
   have hHg:=hHeld.grown hg4 hHeld.size (Kd.R_base hv3)
   have hHeld:=hHg
   refine kz_ hK hHeld fun hHeld=>?_;clear hK K
   obtain⟨A2,c2,hA2⟩:=Kd.R_slice hv7
   rw[HL2.out] at hA2
   subst hA2
   refine fl_ [8,14,1023] ?_
   refine pz_ HT_ ?_
   refine fe_ ?_
   refine dz_ HT_ ?_
   exact Norm.intro ⟨b8.heap.size,A1,c1,b0.heap.size,A2,c2,rfl,hv7,hHeld⟩
 case mono=>
  rintro a' W ⟨sb,A1,c1,sb2,A2,c2,rfl,hv,hbW⟩
  have HV:=ak (Kd.R_reads' hv).2.2
  have HBW:=ak (HB.out.trans (hbW.mono HB.out.size))
  have y0:W.cell? ⟨rb,0,none⟩=some (.slice A m.segs.length c):=pw_cell_below hbW x0
  have hE:rightM m=(risesB (-1) ([]++m.segs++[m.next]) && decide (m.segs.length≤1000)):=rfl
  have hM:L2≤1000000001:=by have h1:=HL2.out;have h2:=HL.out;simp at h1;omega
  rw[HL2.out] at HV
  generalize ([]++m.segs++[m.next]:List Int)=X at hE HL2 HV
  have HE:=ak hE
  have HM:=ak hM
  clear hE hM hv hbW x0 x1
  go_wp2
  go_loopg [3,15] L2 (fun kq v3 v15 wr=>∃(k:Nat) (la:Int),v3=.int .i64 la∧v15=.int .i64 k∧Aside0 (k+kq=L2)∧Aside0 (risesB la (X.drop k)=risesB (-1) X)∧wr=W)
  case atStart=>exact⟨0,-1,rfl,rfl,⟨by omega⟩,⟨rfl⟩,rfl⟩
  case round=>
   obtain⟨k,la,rfl,rfl,HK,HD,rfl⟩:=hrel
   cases gk with
   | zero=>
    obtain rfl:k=L2:=by have:=HK.out;omega
    have d1:decide ((k:Int) < (k:Int))=false:=decide_eq_false (by omega)
    have d2:decide (k < k)=false:=decide_eq_false (by omega)
    obtain⟨b,hb⟩:∃b,decide ((m.segs.length:Int)≤1000)=b:=⟨_,rfl⟩
    have hres:rightM m=b:=by
     have h1:=HD.out
     rw[List.drop_eq_nil_of_le (by have:=HL2.out;omega)] at h1
     rw[HE.out,← h1,← hb]
     exact Bool.eq_iff_iff.mpr (by simp [risesB];omega)
    have HRES:=ak hres
    clear hres
    go_wp2
    go_ret
    rw[HRES.out]
    exact⟨rfl,HBW.out⟩
   | succ gk=>
    have hk0:k < L2:=by have:=HK.out;omega
    have d1:decide ((k:Int) < (L2:Int))=true:=decide_eq_true (by omega)
    have d2:decide (k < L2)=true:=decide_eq_true hk0
    have hkX:k < X.length:=by have:=HL2.out;omega
    obtain⟨ad,e1,z0⟩:=Kd.at_int HV.out (k:Int) (by omega) (by omega)
    cases e1
    rw[rd_nat X k hkX,Int.toNat_natCast] at z0
    have hd:risesB la (X.drop k)=if X[k]≤la then false else if X[k] > 99999999 then false else risesB X[k] (X.drop (k+1)):=by rw[List.drop_eq_getElem_cons hkX];rfl
    generalize X[k]=x at z0 hd
    rw[hd] at HD
    by_cases h1:x≤la
    ·have e1:decide (x≤la)=true:=decide_eq_true h1
     have HF:=ak (show rightM m=false by have h2:=HD.out;rw[if_pos h1] at h2;rw[HE.out,← h2];rfl)
     clear h1 hd
     go_wp2
     go_ret
     rw[HF.out]
     exact⟨rfl,HBW.out⟩
    have e1:decide (x≤la)=false:=decide_eq_false h1
    by_cases h2:x > 99999999
    ·have e2:decide (x > 99999999)=true:=decide_eq_true h2
     have HF:=ak (show rightM m=false by have h3:=HD.out;rw[if_neg h1,if_pos h2] at h3;rw[HE.out,← h3];rfl)
     clear h1 h2 hd
     go_wp2
     go_ret
     rw[HF.out]
     exact⟨rfl,HBW.out⟩
    have e2:decide (x > 99999999)=false:=decide_eq_false h2
    have HD2:=ak (show risesB x (X.drop (k+1))=risesB (-1) X by have h3:=HD.out;rwa [if_neg h1,if_neg h2] at h3)
    clear h1 h2 hd
    go_wp2
    go_roundg gk
    case measure=>omega
    case rel=>exact⟨k+1,x,rfl,by rw[wrap_succ k (by have:=HM.out;omega)],⟨by have:=HK.out;omega⟩,HD2,rfl⟩
end Mn
end
section
namespace Mn
open Go.Maps Fr Ext Go.Proofs.YtcieieacfoaklaaGreat.Nm Dk
theorem own_u8 {w:World} {base:Nat} {v:Value} {xs:List Int} (h:w.ownsRow base 5 1 v xs.length (nums .u8 xs)):Kd.R (Kd.int .u8) 5 w base (fun _=>True) v xs:=Kd.R_of_own (enc:=Value.int .u8) h (fun _ _=>trivial)
theorem keeps_step {w wr wz:World} {v v0:Value} {o:Obj} (hk:Keeps (fun k=>v.ownBlock=some k) w wr) (h0:v0.ownBlock=v.ownBlock∨∃b,v0.ownBlock=some b∧w.heap.size≤b) (hg:(wr.alloc o).grownBy wz v0.ownBlock):Keeps (fun k=>v.ownBlock=some k) w wz:=by
 have hs:wr.heap.size≤(wr.alloc o).heap.size:=(below_alloc (RowKit.Below.refl wr.heap.size wr) o).size
 refine⟨hg.os.trans hk.os,hg.tape.trans hk.tape,hg.output.trans hk.output,Nat.le_trans hk.size (Nat.le_trans hs hg.size),fun k hlt hn=>(hg.block k (Nat.lt_of_lt_of_le hlt (Nat.le_trans hk.size hs)) (fun e=>?_)).trans ((Below.heap_alloc wr o k (Nat.lt_of_lt_of_le hlt hk.size)).trans (hk.block k hlt hn))⟩
 rcases h0 with h0 | ⟨b,h0,hb⟩
 ·exact hn (h0.symm.trans e.symm)
 ·rw[h0] at e
  have:=Option.some.inj e
  omega
theorem numbers_calls {w0 w:World} (v:Value) (xs:List Int) (A:Option Addr) (c:Nat) (L:List Int) (hB:RowKit.Below w0.heap.size w0 w) (ho:w.ownsRow w0.heap.size 5 1 v xs.length (nums .u8 xs)) (hL:∀W,Keeps (fun k=>v.ownBlock=some k) w W→Kd.C (Kd.int .i64) W A L.length L) (hl:L.length≤1000000000) (hx:xs.length≤10000000000):
  Calls Tryz.prog 140 #[v,.slice A L.length c] w fun e w'=>∃v',e=.returned v'∧w'.ownsRow w0.heap.size 5 1 v' (xs++numsM L).length (nums .u8 (xs++numsM L))∧RowKit.Below w0.heap.size w0 w'∧Keeps (fun k=>v.ownBlock=some k) w w':=by
 have HB:=ak hB
 have HO:=ak ho
 have HL:=ak hL
 have HM:=ak hl
 have HX:=ak hx
 clear hB ho hL hl hx
 go_enter Tryz.func140,Tryz.ntmps140
 go_wp2
 go_loopg [0,9] L.length (fun kq v0 v9 wr=>∃(k:Nat),v9=.int .i64 k∧Aside0 (k+kq=L.length)∧Aside0 (wr.ownsRow w0.heap.size 5 1 v0 (xs++numsM (L.take k)).length (nums .u8 (xs++numsM (L.take k))))∧Aside0 (RowKit.Below w0.heap.size w0 wr)∧Aside0 (Keeps (fun k=>v.ownBlock=some k) w wr)∧Aside0 (v0.ownBlock=v.ownBlock∨∃b,v0.ownBlock=some b∧w.heap.size≤b))
 case atStart=>exact⟨0,rfl,⟨by omega⟩,⟨by rw[List.take_zero,show numsM []=[] from rfl,List.append_nil];exact HO.out⟩,HB,⟨Keeps.refl _ _⟩,⟨.inl rfl⟩⟩
 case round=>
  obtain⟨k,rfl,HK,HO1,HB1,HK1,HE1⟩:=hrel
  cases gk with
  | zero=>
   obtain rfl:k=L.length:=by have:=HK.out;omega
   have d1:decide ((L.length:Int) < (L.length:Int))=false:=decide_eq_false (by omega)
   have d2:decide (L.length < L.length)=false:=decide_eq_false (by omega)
   go_wp2
   go_ret
   rw[List.take_length] at HO1
   exact⟨_,rfl,HO1.out,HB1.out,HK1.out⟩
  | succ gk=>
   have hk0:k < L.length:=by have:=HK.out;omega
   have d1:decide ((k:Int) < (L.length:Int))=true:=decide_eq_true (by omega)
   have d2:decide (k < L.length)=true:=decide_eq_true hk0
   obtain⟨ad,e1,z0⟩:=Kd.at_int (HL.out _ HK1.out) (k:Int) (by omega) (by omega)
   cases e1
   rw[rd_nat L k hk0,Int.toNat_natCast] at z0
   have HT:=ak (numsM_take L k hk0)
   generalize L[k]=x at z0 HT
   have HLN:=ak (show((xs++numsM (L.take k)).length+4)*1≤140737488355328 by have h1:=HX.out;have h2:=HM.out;rw[List.length_append,numsM_length,List.length_take];omega)
   generalize numsM (L.take k)=y at HO1 HT HLN
   have HBA:=ak (below_alloc (RowKit.Below.refl wr.heap.size wr) (.cells #[.int .u8 (x / 16777216 % 256),.int .u8 (x / 65536 % 256),.int .u8 (x / 256 % 256),.int .u8 (x % 256)] 5))
   go_wp2_with (at_builtin;refine print_append_row (w0:=w0) w0.heap.size rfl _ _ 35 5 .u8 1 rfl Tryz.underlying35 info_u8 (by omega) _ (xs++y) (be4 x) _ _ _ rfl rfl (pw_own_below HO1.out HBA.out) (lit_reads wr 5 .u8 (be4 x) (by simp [be4])) (HB1.out.trans (HBA.out.mono HB1.out.size)) (Nat.le_trans HB1.out.size HBA.out.size) HLN.out ?_;intro v1 wz hv1 hbz hgz haz;have HV1:=ak hv1;have HBZ:=ak hbz;have HKZ:=ak (keeps_step HK1.out HE1.out hgz);have HEZ:=ak (haz.imp (fun h=>h) (fun h=>h));clear hv1 hbz hgz haz)
   go_roundg gk
   case measure=>omega
   case rel=>
    refine⟨k+1,by rw[wrap_succ k (by have:=HM.out;omega)],⟨by have:=HK.out;omega⟩,⟨by rw[HT.out,← List.append_assoc];exact HV1.out⟩,HBZ,HKZ,⟨?_⟩⟩
    rcases HEZ.out with h | ⟨b,h,hb⟩
    ·rcases HE1.out with h2 | ⟨b2,h2,hb2⟩
     ·exact .inl (h.trans h2)
     ·exact .inr ⟨b2,h.trans h2,hb2⟩
    ·exact .inr ⟨b,h,Nat.le_trans HK1.out.size (Nat.le_trans HBA.out.size hb)⟩
theorem put_calls (m:ManM) (A:Option Addr) (c:Nat) (w:World) (hl:m.segs.length≤1000000000) (hc:m.segs.length≤c) (hr:Kd.C (Kd.int .i64) w A m.segs.length m.segs):
  Calls Tryz.prog 110 #[.agg (manC m A c)] w fun e w'=>∃v,e=.returned v∧Kd.R (Kd.int .u8) 5 w' w.heap.size (fun _=>True) v (putM m)∧RowKit.Below w.heap.size w w':=by
 have hz:=heap_alloc_new w (.cells #[.slice A m.segs.length c,.int .i64 m.next] 78)
 have hb:=below_alloc (RowKit.Below.refl w.heap.size w) (.cells #[.slice A m.segs.length c,.int .i64 m.next] 78)
 have HR:=ak hr
 have HL:=ak hl
 have HRI:=ak (fun W (hW:RowKit.Below w.heap.size w W)=>right_calls m A c W hl hc (Kd.C_below hr hW))
 have hdef:putM m=if rightM m=true then putL (bodyM m) else []:=rfl
 generalize rightM m=b at hdef HRI
 have HDEF:=ak hdef
 clear hr hl hdef
 go_enter Tryz.func110,Tryz.ntmps110
 go_upto_region 1 with(fail)
 generalize w.alloc (.cells #[.slice A m.segs.length c,.int .i64 m.next] 78)=w1 at hz hb ⊢
 obtain⟨rb,hrb⟩:∃rb,w.heap.size=rb:=⟨_,rfl⟩
 rw[hrb] at hz ⊢
 have HRB:=ak hrb
 have HB:=ak hb
 have HZ:=ak hz
 have x0:=bq hz 0 (.slice A m.segs.length c)
 have x1:=bq hz 1 (.int .i64 m.next)
 clear hrb hz hb
 cases b with
 | false=>
  go_wp2_with (go_at_call 80;(with_reducible refine(HRI.out _ HB.out).mono ?_);rintro e w2 ⟨rfl,hb2⟩;have HB2:=ak (HB.out.trans (hb2.mono HB.out.size));clear hb2)
  go_ret
  rw[HDEF.out,if_neg (by decide)]
  exact⟨_,rfl,Kd.R_nil _ _ _ _ _,HB2.out⟩
 | true=>
  go_upto_region 3 with(go_at_call 80;(with_reducible refine(HRI.out _ HB.out).mono ?_);rintro e w2 ⟨rfl,hb2⟩;have HB2:=ak (HB.out.trans (hb2.mono HB.out.size));have HZ2:=ak ((hb2.block _ (blk_lt HZ.out)).trans HZ.out);clear hb2)
  have hz2:=HZ2.out
  clear x0 x1
  have x0:=bq hz2 0 (.slice A m.segs.length c)
  have x1:=bq hz2 1 (.int .i64 m.next)
  have hb3:=below_alloc (RowKit.Below.refl w2.heap.size w2) (.cells #[.int .u8 8] 5)
  have hz3:=heap_alloc_new w2 (.cells #[.int .u8 8] 5)
  have x13:(w2.alloc (.cells #[.int .u8 8] 5)).cell? ⟨rb,1,none⟩=some (.int .i64 m.next):=(blk_cell ((hb3.block _ (blk_lt hz2)).trans hz2) 1).trans rfl
  have hb4:=below_alloc (RowKit.Below.refl (w2.alloc (.cells #[.int .u8 8] 5)).heap.size (w2.alloc (.cells #[.int .u8 8] 5))) (.cells #[.int .i64 m.next] 3)
  have hz4:=heap_alloc_new (w2.alloc (.cells #[.int .u8 8] 5)) (.cells #[.int .i64 m.next] 3)
  have ho3:=own_lit w2 w.heap.size 5 .u8 [8] HB2.out.size (by decide)
  have hs3:(w2.alloc (.cells #[.int .u8 8] 5)).heap.size=w2.heap.size+1:=Array.size_push _
  have hlt3:=blk_lt hz3
  have HB4:=ak (hb3.trans (hb4.mono hb3.size))
  have HN1:=ak (numbers_calls (w0:=w) (.slice (some ⟨w2.heap.size,0,none⟩) 1 1) [8] (some ⟨(w2.alloc (.cells #[.int .u8 8] 5)).heap.size,0,none⟩) 1 [m.next] (HB2.out.trans (HB4.out.mono HB2.out.size)) (pw_own_below ho3 hb4)
   (fun W hW=>int_one (hW.obj hz4 (fun e=>by have h1:=Option.some.inj (show some w2.heap.size=some (w2.alloc (.cells #[.int .u8 8] 5)).heap.size from e);omega))) (Nat.le_of_ble_eq_true rfl) (by decide))
  rw[show([m.next]:List Int).length=1 from rfl,hs3] at HN1
  have HZ4:=ak ((HB4.out.block _ (blk_lt hz2)).trans hz2)
  have hrl:rb≠w2.heap.size:=Nat.ne_of_lt (blk_lt hz2)
  have HRL:=ak hrl
  clear hb3 hz3 hb4 hz4 ho3 hlt3 hz2 hrl
  go_upto_region 5 with(first
   | (go_at_call 140;(with_reducible refine HN1.out.mono ?_);rintro e w5 ⟨v5,rfl,ho5,hb5,hk5⟩;have HO5:=ak ho5;have HB5:=ak hb5;have HZ5:=ak ((hk5.block _ (blk_lt HZ4.out) (fun e=>HRL.out (Option.some.inj (show some w2.heap.size=some rb from e)).symm)).trans HZ4.out);have HBA:=ak (below_alloc (RowKit.Below.refl w5.heap.size w5) (.cells #[.int .u8 ((m.segs.length:Int) / 256 % 256),.int .u8 ((m.segs.length:Int) % 256)] 5));clear ho5 hb5 hk5)
   | (at_builtin;refine print_append_row (w0:=w) w.heap.size rfl _ _ 35 5 .u8 1 rfl Tryz.underlying35 info_u8 (by omega) v5 ([8]++numsM [m.next]) [(m.segs.length:Int) / 256 % 256,(m.segs.length:Int) % 256] _ _ _ rfl rfl (pw_own_below HO5.out HBA.out) (lit_reads w5 5 .u8 [(m.segs.length:Int) / 256 % 256,(m.segs.length:Int) % 256] (by simp)) (HB5.out.trans (HBA.out.mono HB5.out.size)) (Nat.le_trans HB5.out.size HBA.out.size) (by rw[List.length_append,numsM_length];simp) ?_;intro v6 w6 ho6 hb6 hg6 ha6;have HO6:=ak ho6;have HB6:=ak hb6;have HG6:=ak hg6;clear ho6 hb6 hg6 ha6))
  have HZ6:=ak (blk_grown ((HBA.out.block _ (blk_lt HZ5.out)).trans HZ5.out) HG6.out (Kd.R_ne (own_u8 HO5.out) HZ5.out (by decide)))
  have x06:=bq HZ6.out 0 (.slice A m.segs.length c)
  have HN2:=ak (numbers_calls (w0:=w) v6 _ A c m.segs HB6.out HO6.out (fun W hW=>Kd.C_below HR.out ⟨hW.os.trans HB6.out.os,hW.tape.trans HB6.out.tape,hW.output.trans HB6.out.output,Nat.le_trans HB6.out.size hW.size,fun k hk=>(hW.block k (Nat.lt_of_lt_of_le hk HB6.out.size) (fun e=>Nat.not_lt.2 (own_base HO6.out k e) hk)).trans (HB6.out.block k hk)⟩) HL.out (by rw[List.length_append,List.length_append,numsM_length];simp))
  have hbm:[8]++numsM [m.next]++[(m.segs.length:Int) / 256 % 256,(m.segs.length:Int) % 256]++numsM m.segs=bodyM m:=by simp [bodyM,numsM]
  rw[hbm] at HN2
  have hdef:=HDEF.out
  rw[if_pos (by trivial)] at hdef
  have HDEF2:=ak hdef
  clear x0 x1 x13 hs3 HN1 hbm hdef HDEF
  generalize bodyM m=pm at HN2 HDEF2
  go_wp2_with (first
   | (go_at_call 140;(with_reducible refine HN2.out.mono ?_);rintro e w7 ⟨v7,rfl,ho7,hb7,hk7⟩;obtain⟨A7,c7,hv7⟩:=own_slice ho7;subst hv7;have HR7:=ak (Kd.R_reads' (own_u8 ho7)).2;have HB7:=ak hb7;clear ho7 hb7 hk7)
   | (go_at_call 66;(with_reducible refine(frame_Put.calls A7 c7 pm (putL pm) _ HR7.out.2 HR7.out.1 rfl).mono ?_);rintro e w8 ⟨v8,rfl,hr8,hb8⟩;have HR8:=ak (Kd.R_lower hr8 HB7.out.size);have HB8:=ak (HB7.out.trans (hb8.mono HB7.out.size));clear hr8 hb8))
  go_ret
  rw[HDEF2.out]
  exact⟨_,rfl,HR8.out,HB8.out⟩
end Mn
end
end Go.Proofs.YtcieieacfoaklaaGreat
section

end
namespace Go.Proofs.YtcieieacfoaklaaGreat
open Go.RowKit YtcieieacfoaklaaGreatW.PrintWords YtcieieacfoaklaaGreatW.PrintLast YtcieieacfoaklaaGreatW.PrintMore
section
namespace Mn
open Go.Maps Fr Ext Go.Proofs.YtcieieacfoaklaaGreat.Nm Dk

def TurnsSpec (f:Nat):Prop:=∀(n b:Nat) (hn:n≤1000000) (cs:Array Value) (w:World) (hb:w.heap[b]? =some (.cells cs 92 (0,0))) (I:Nat→World→Prop) (E:Int→World→Prop)
  (h0:I 0 w) (hkeep:∀j W,I j W→W.heap[b]? =w.heap[b]?)
  (hstep:∀j,j < n→∃fid pre caps,cs[j]? =some (.func (.func fid) pre caps)∧(∀args W,(callFunc fid args).run Tryz.prog W=.ok (.enter fid args) W)∧
   ∀W,I j W→Calls Tryz.prog fid (pre++caps) W fun e W'=>∃x,e=.returned (.int .i64 x)∧(x=0→I (j+1) W')∧(x≠0→E x W')),
  Calls Tryz.prog f #[.slice (some ⟨b,0,none⟩) n n] w fun e W'=>∃x,e=.returned (.int .i64 x)∧(x=0→I n W')∧(x≠0→E x W')
theorem man_turns:TurnsSpec 106:=turns_man
theorem log_turns:TurnsSpec 60:=turns_log
theorem turnsM_take:∀(fs:List (DiskM→DiskM×Int)) (M:DiskM) (j:Nat) (h:j < fs.length),turnsM (fs.take (j+1)) M=if(turnsM (fs.take j) M).2=0 then fs[j] (turnsM (fs.take j) M).1 else turnsM (fs.take j) M
 | [],M,j,h=>absurd h (Nat.not_lt_zero _)
 | f::l,M,0,h=>by
  show(if(f M).2=0 then((f M).1,(0:Int)) else f M)=if(0:Int)=0 then f M else(M,0)
  rw[if_pos rfl]
  by_cases hz:(f M).2=0
  ·rw[if_pos hz,← hz]
  ·rw[if_neg hz]
 | f::l,M,j+1,h=>by
  have ih:=turnsM_take l (f M).1 j (by simpa using h)
  show(if(f M).2=0 then turnsM (l.take (j+1)) (f M).1 else f M)=if(if(f M).2=0 then turnsM (l.take j) (f M).1 else f M).2=0 then(l[j]'(by simpa using h)) (if(f M).2=0 then turnsM (l.take j) (f M).1 else f M).1 else(if(f M).2=0 then turnsM (l.take j) (f M).1 else f M)
  by_cases hz:(f M).2=0
  ·rw[if_pos hz,if_pos hz,ih]
  ·rw[if_neg hz,if_neg hz,if_neg hz]
theorem turnsM_stop:∀(fs:List (DiskM→DiskM×Int)) (M:DiskM) (j:Nat),(turnsM (fs.take j) M).2≠0→turnsM fs M=turnsM (fs.take j) M
 | [],M,j,h=>by cases j <;> rfl
 | f::l,M,0,h=>absurd rfl h
 | f::l,M,j+1,h=>by
  have hh:(if(f M).2=0 then turnsM (l.take j) (f M).1 else f M).2≠0:=h
  show(if(f M).2=0 then turnsM l (f M).1 else f M)=(if(f M).2=0 then turnsM (l.take j) (f M).1 else f M)
  by_cases hz:(f M).2=0
  ·rw[if_pos hz] at hh
   rw[if_pos hz,if_pos hz,turnsM_stop l (f M).1 j hh]
  ·rw[if_neg hz,if_neg hz]
theorem turnsM_fit (fs:List (DiskM→DiskM×Int)) (h:∀f∈fs,∀M,Fit M→Fit (f M).1):∀M,Fit M→Fit (turnsM fs M).1:=by
 induction fs with
 | nil=>intro M hM;exact hM
 | cons f l ih=>
  intro M hM
  unfold turnsM
  have h1:=h f (by simp) M hM
  split
  ·exact ih (fun f hf=>h f (by simp [hf])) _ h1
  ·exact h1
variable {w:World} {B g N:Nat} {M:DiskM} {F:Nat→Prop}
theorem turns_disk {f:Nat} (hf:TurnsSpec f) (fs:List (DiskM→DiskM×Int)) (hn:fs.length≤1000) (b:Nat) (cs:Array Value) (hb:w.heap[b]? =some (.cells cs 92 (0,0))) (hbF:¬F b) (hd:DiskAt w B g N M F) (hM:Fit M)
  (hfit:∀f∈fs,∀M,Fit M→Fit (f M).1)
  (hstep:∀j (hj:j < fs.length),∃fid pre caps,cs[j]? =some (.func (.func fid) pre caps)∧(∀args W,(callFunc fid args).run Tryz.prog W=.ok (.enter fid args) W)∧
   ∀W M' F',DiskAt W B g (N+j) M' F'→Fit M'→Keeps F w W→(∀k,F' k→F k∨w.heap.size≤k)→
    Calls Tryz.prog fid (pre++caps) W fun e W'=>e=.returned (.int .i64 (fs[j] M').2)∧Turned W W' B g (N+j+1) F' (fs[j] M').1):
  Calls Tryz.prog f #[.slice (some ⟨b,0,none⟩) fs.length fs.length] w fun e W'=>e=.returned (.int .i64 (turnsM fs M).2)∧Turned w W' B g (N+fs.length) F (turnsM fs M).1:=by
 refine(hf fs.length b (by omega) cs w hb (fun j W=>(turnsM (fs.take j) M).2=0∧Fit (turnsM (fs.take j) M).1∧Turned w W B g (N+j) F (turnsM (fs.take j) M).1)
  (fun x W=>x=(turnsM fs M).2∧Turned w W B g (N+fs.length) F (turnsM fs M).1) ⟨rfl,hM,Turned.refl hd⟩ ?_ ?_).mono ?_
 ·rintro j W ⟨_,_,h⟩
  exact h.keeps.block b (blk_lt hb) hbF
 ·intro j hj
  obtain⟨fid,pre,caps,hc,hr,hcall⟩:=hstep j hj
  refine⟨fid,pre,caps,hc,hr,?_⟩
  rintro W ⟨hz,hFM,F',h1,h2,h3,h4⟩
  refine(hcall W _ F' h1 hFM h4 h3).mono ?_
  rintro e W' ⟨rfl,ht⟩
  have htk:=turnsM_take fs M j hj
  rw[if_pos hz] at htk
  have htw:Turned w W' B g (N+j+1) F (fs[j] (turnsM (fs.take j) M).1).1:=Turned.glue h2 h3 h4 ht
  refine⟨_,rfl,fun hx=>?_,fun hx=>?_⟩
  ·rw[htk]
   exact⟨hx,hfit _ (List.getElem_mem hj) _ hFM,htw⟩
  ·have hs:=turnsM_stop fs M (j+1) (by rw[htk];exact hx)
   rw[hs,htk]
   exact⟨rfl,htw.mono (by omega)⟩
 ·rintro e W' ⟨x,rfl,h1,h2⟩
  by_cases hx:x=0
  ·obtain⟨a1,_,a3⟩:=h1 hx
   rw[List.take_length] at a1 a3
   exact⟨by rw[hx,a1],a3⟩
  ·obtain⟨a1,a2⟩:=h2 hx
   exact⟨by rw[a1],a2⟩
end Mn
end
section
namespace Mn
open Go.Maps Fr Ext Go.Proofs.YtcieieacfoaklaaGreat.Nm Dk

variable {w:World} {B g N:Nat} {M:DiskM} {F:Nat→Prop}
theorem row_keep {k:IntKind} {e base:Nat} {ok F:Nat→Prop} {w W:World} {v:Value} {xs:List Int} (hr:Kd.R (Kd.int k) e w base ok v xs) (hW:Keeps F w W) (hn:∀j,v.ownBlock=some j→¬F j):Kd.R (Kd.int k) e W base ok v xs:=
 Kd.R_mono (ok:=fun j=>ok j∧some j=v.ownBlock) (Kd.R_move (Kd.R_mono (Kd.R_tight rfl hr) (fun j hj=>⟨hr.1 j hj.symm,hj⟩)) (fun j hj=>hW.block j (Kd.R_lt hr j hj.2.symm) (hn j hj.2.symm))) (fun j hj=>hj.1)
theorem row_held {k:IntKind} {e base c:Nat} {ok F:Nat→Prop} {w:World} {A:Option Addr} {xs:List Int} (hr:Kd.R (Kd.int k) e w base ok (.slice A xs.length c) xs) (hF:∀j,F j→j < base):∀W,Keeps F w W→Kd.C (Kd.int k) W A xs.length xs:=fun W hW=>
 (Kd.R_reads' (row_keep hr hW (fun j hj hf=>by have:=hF j hf;have:=Kd.R_base hr j hj;omega))).2.2
theorem save1_calls (s:ByteArray) (hs:s.size≤maxLen) (db tb:Nat) (hd:DiskAt w B g N M F) (hN:N < 1000000000000) (x0:w.cell? ⟨db,0,none⟩=some (ptr g)) (x1:w.cell? ⟨tb,0,none⟩=some (.string s)):
  Calls Tryz.prog 107 #[.pointer (some ⟨db,0,none⟩),.pointer (some ⟨tb,0,none⟩)] w fun e w'=>e=.returned (.int .i64 (gone1 M s).2)∧Turned w w' B g (N+1) F (gone1 M s).1:=by
 have HD:=ak hd
 have h1:=hd.size? s hs
 have HR:=ak (hd.remove? s hs hN)
 unfold gone1
 obtain⟨b,hb⟩:∃b,(Dk.look M.D s).isSome=b:=⟨_,rfl⟩
 rw[hb] at h1 ⊢
 have HS:=ak h1
 clear hd h1
 cases b with
 | false=>
  go_enter Tryz.func107,Tryz.ntmps107
  go_wp2_with (go_at_call 48;(with_reducible refine HS.out.mono ?_);rintro e w1 ⟨rfl,rfl⟩)
  go_ret
  exact⟨rfl,(Turned.refl HD.out).mono (by omega)⟩
 | true=>
  go_enter Tryz.func107,Tryz.ntmps107
  go_upto_region 4 with(go_at_call 48;(with_reducible refine HS.out.mono ?_);rintro e w1 ⟨rfl,rfl⟩)
  go_wp2_with (go_at_call 105;(with_reducible refine HR.out.mono ?_);rintro e w1 ⟨rfl,h2⟩;have H2:=ak h2;clear h2)
  go_ret
  exact⟨rfl,H2.out⟩
theorem save2_calls (s:ByteArray) (hs:s.size≤maxLen) (db tb:Nat) (hd:DiskAt w B g N M F) (hN:N < 1000000000000) (x0:w.cell? ⟨db,0,none⟩=some (ptr g)) (x1:w.cell? ⟨tb,0,none⟩=some (.string s)):
  Calls Tryz.prog 108 #[.pointer (some ⟨db,0,none⟩),.pointer (some ⟨tb,0,none⟩)] w fun e w'=>e=.returned (.int .i64 (createM M s).2)∧Turned w w' B g (N+1) F (createM M s).1:=by
 have HR:=ak (hd.create? s hs hN)
 clear hd
 go_enter Tryz.func108,Tryz.ntmps108
 go_wp2_with (go_at_call 103;(with_reducible refine HR.out.mono ?_);rintro e w1 ⟨rfl,h2⟩;have H2:=ak h2;clear h2)
 go_ret
 exact⟨rfl,H2.out⟩
theorem save4_calls (s:ByteArray) (hs:s.size≤maxLen) (db tb:Nat) (hd:DiskAt w B g N M F) (x0:w.cell? ⟨db,0,none⟩=some (ptr g)) (x1:w.cell? ⟨tb,0,none⟩=some (.string s)):
  Calls Tryz.prog 111 #[.pointer (some ⟨db,0,none⟩),.pointer (some ⟨tb,0,none⟩)] w fun e w'=>e=.returned (.int .i64 (syncM M s).2)∧Turned w w' B g (N+1) F (syncM M s).1:=by
 have HR:=ak (hd.sync? s hs)
 clear hd
 go_enter Tryz.func111,Tryz.ntmps111
 go_wp2_with (go_at_call 98;(with_reducible refine HR.out.mono ?_);rintro e w1 ⟨rfl,h2⟩;have H2:=ak h2;clear h2)
 go_ret
 exact⟨rfl,H2.out.mono (by omega)⟩
theorem save5_calls (s t:ByteArray) (hs:s.size≤maxLen) (ht:t.size≤maxLen) (db sb tb:Nat) (hd:DiskAt w B g N M F) (hN:N < 1000000000000) (x0:w.cell? ⟨db,0,none⟩=some (ptr g)) (x1:w.cell? ⟨sb,0,none⟩=some (.string s)) (x2:w.cell? ⟨tb,0,none⟩=some (.string t)):
  Calls Tryz.prog 112 #[.pointer (some ⟨db,0,none⟩),.pointer (some ⟨sb,0,none⟩),.pointer (some ⟨tb,0,none⟩)] w fun e w'=>e=.returned (.int .i64 (renameM M s t).2)∧Turned w w' B g (N+1) F (renameM M s t).1:=by
 have HR:=ak (hd.rename? s t hs ht hN)
 clear hd
 go_enter Tryz.func112,Tryz.ntmps112
 go_wp2_with (go_at_call 113;(with_reducible refine HR.out.mono ?_);rintro e w1 ⟨rfl,h2⟩;have H2:=ak h2;clear h2)
 go_ret
 exact⟨rfl,H2.out⟩
theorem putM_len (m:ManM):(putM m).length≤1000000000:=by
 unfold putM
 split
 ·have h:=put_len (bodyM m)
  have h1:sizeI (bodyM m).length≤8200:=by unfold sizeI;split <;> (try split) <;> omega
  omega
 ·simp
theorem bodyM_bytes (m:ManM):IsBytes (bodyM m):=by
 intro x hx
 simp only[bodyM,List.mem_cons,List.mem_append,List.not_mem_nil,or_false] at hx
 rcases hx with rfl | (hx | rfl | rfl) | hx
 ·omega
 ·exact be4_bytes _ x hx
 ·omega
 ·omega
 ·exact numsM_bytes _ x hx
theorem putM_bytes (m:ManM):IsBytes (putM m):=by
 unfold putM
 split
 ·exact put_bytes _ (bodyM_bytes m)
 ·intro x hx;cases hx
theorem save3_calls (s:ByteArray) (hs:s.size≤maxLen) (db tb mb:Nat) (m:ManM) (A:Option Addr) (c:Nat) (hd:DiskAt w B g N M F) (hM:Fit M) (x0:w.cell? ⟨db,0,none⟩=some (ptr g)) (x1:w.cell? ⟨tb,0,none⟩=some (.string s)) (hm:w.heap[mb]? =some (.cells (manC m A c) 78 (0,0)))
  (hl:m.segs.length≤1000) (hc:m.segs.length≤c) (hr:Kd.C (Kd.int .i64) w A m.segs.length m.segs):
  Calls Tryz.prog 109 #[.pointer (some ⟨db,0,none⟩),.pointer (some ⟨tb,0,none⟩),.pointer (some ⟨mb,0,none⟩)] w fun e w'=>e=.returned (.int .i64 (appendM M s (putM m)).2)∧Turned w w' B g (N+1) F (appendM M s (putM m)).1:=by
 have x2:=bq hm 0 (.slice A m.segs.length c)
 have x3:=bq hm 1 (.int .i64 m.next)
 have HPUT:=ak (fun W (hW:RowKit.Below w.heap.size w W)=>put_calls m A c W (by omega) hc (Kd.C_below hr hW))
 have hpl:=putM_len m
 have HAP:=ak (fun W (hW:RowKit.Below w.heap.size w W) (A':Option Addr) (c':Nat) (hv:Kd.R (Kd.int .u8) 5 W w.heap.size (fun _=>True) (.slice A' (putM m).length c') (putM m))=>(hd.below hW).append? s A' c' (putM m) hs hM.len hpl (row_held hv hd.lt))
 have HD:=ak hd
 clear hd hM hm hr hpl
 go_enter Tryz.func109,Tryz.ntmps109
 go_upto_region 1 with(fail)
 go_region_with (first
  | (go_at_call 67;(with_reducible refine(HAP.out _ HB2.out _ _ HV2.out).mono ?_);rintro e w3 ⟨rfl,h3⟩;have H3:=ak h3;clear h3)
  | (go_at_call 110;(with_reducible refine(HPUT.out _ ((RowKit.Below.refl w.heap.size w).drew)).mono ?_);rintro e w2 ⟨v,rfl,hv,hb⟩;obtain⟨A',c',hA⟩:=Kd.R_slice hv;subst hA;have HB2:=ak (((RowKit.Below.refl w.heap.size w).drew).trans hb);have HV2:=ak (show Kd.R (Kd.int .u8) 5 w2 w.heap.size (fun _=>True) (.slice A' (putM m).length c') (putM m) from hv);have y0:=pw_cell_below HB2.out x0;have y1:=pw_cell_below HB2.out x1;clear hv hb))
 all_goals
  try go_wp2
  go_ret
  exact⟨rfl,(Turned.after (Keeps.of_below HB2.out) H3.out).mono (by omega)⟩
end Mn
end
section
namespace Mn
open Go.Maps Fr Ext Go.Proofs.YtcieieacfoaklaaGreat.Nm Dk

variable {w:World} {B g N:Nat} {M:DiskM} {F:Nat→Prop}
theorem two_blocks (w:World) (o1 o2:Obj):((w.alloc o1).alloc o2).heap[w.heap.size]? =some o1∧((w.alloc o1).alloc o2).heap[w.heap.size+1]? =some o2∧RowKit.Below w.heap.size w ((w.alloc o1).alloc o2):=by
 have s1:(w.alloc o1).heap.size=w.heap.size+1:=by simp
 refine⟨?_,?_,?_⟩
 ·exact(heap_alloc_old _ _ (by rw[s1];omega)).trans (heap_alloc_new w o1)
 ·have h:=heap_alloc_new (w.alloc o1) o2
  rw[s1] at h
  exact h
 ·exact below_alloc (below_alloc (RowKit.Below.refl _ _) _) _
def stepsM (m:ManM):List (DiskM→DiskM×Int):=[fun M=>gone1 M tempN,fun M=>createM M tempN,fun M=>appendM M tempN (putM m),fun M=>syncM M tempN,fun M=>renameM M tempN manN,syncDirM]
theorem tempN_ascii:Ascii tempN:=by unfold tempN Ascii;decide
theorem manN_ascii:Ascii manN:=by unfold manN Ascii;decide
theorem gone1_fit (h:Fit M) (s:ByteArray):Fit (gone1 M s).1:=by
 unfold gone1
 split
 ·exact h.remove s
 ·exact h
theorem steps_fit (m:ManM):∀f∈stepsM m,∀M,Fit M→Fit (f M).1:=by
 intro f hf M hM
 simp only[stepsM,List.mem_cons,List.not_mem_nil,or_false] at hf
 rcases hf with rfl | rfl | rfl | rfl | rfl | rfl
 ·exact gone1_fit hM _
 ·exact hM.create _ tempN_ascii
 ·exact hM.append _ _ (putM_bytes m)
 ·exact hM.sync _
 ·exact hM.rename _ _ manN_ascii
 ·exact hM.syncDir
theorem saveM_fit (h:Fit M) (m:ManM):Fit (saveM M m).1:=by
 unfold saveM
 split
 ·exact turnsM_fit (stepsM m) (steps_fit m) M h
 ·exact h
theorem run_save1 (args:Array Value) (W:World):(callFunc 107 args).run Tryz.prog W=.ok (.enter 107 args) W:=enters_ Tryz.func107 (by kernel_rfl) rfl args W
theorem run_save2 (args:Array Value) (W:World):(callFunc 108 args).run Tryz.prog W=.ok (.enter 108 args) W:=enters_ Tryz.func108 (by kernel_rfl) rfl args W
theorem run_save3 (args:Array Value) (W:World):(callFunc 109 args).run Tryz.prog W=.ok (.enter 109 args) W:=enters_ Tryz.func109 (by kernel_rfl) rfl args W
theorem run_save4 (args:Array Value) (W:World):(callFunc 111 args).run Tryz.prog W=.ok (.enter 111 args) W:=enters_ Tryz.func111 (by kernel_rfl) rfl args W
theorem run_save5 (args:Array Value) (W:World):(callFunc 112 args).run Tryz.prog W=.ok (.enter 112 args) W:=enters_ Tryz.func112 (by kernel_rfl) rfl args W
theorem run_syncDir (args:Array Value) (W:World):(callFunc 114 args).run Tryz.prog W=.ok (.enter 114 args) W:=enters_ Tryz.func114 (by kernel_rfl) rfl args W
theorem save_calls (m:ManM) (A:Option Addr) (c:Nat) (hd:DiskAt w B g N M F) (hM:Fit M) (hN:N+6≤1000000000000) (hl:m.segs.length≤1000000000) (hc:m.segs.length≤c) (hr:∀W,Keeps F w W→Kd.C (Kd.int .i64) W A m.segs.length m.segs):
  Calls Tryz.prog 64 #[ptr g,.agg (manC m A c)] w fun e w'=>e=.returned (.int .i64 (saveM M m).2)∧Turned w w' B g (N+6) F (saveM M m).1:=by
 have HD:=ak hd
 have HM:=ak hM
 have HR0:=ak hr
 have HN:=ak hN
 have HC:=ak hc
 have HL:=ak hl
 have hdef:saveM M m=if rightM m=true then turnsM (stepsM m) M else(M,1):=rfl
 have HDEF:=ak hdef
 have HFIT:=ak (steps_fit m)
 obtain⟨hb1,hb2,hB⟩:=two_blocks w (.cells #[ptr g] 26) (.cells #[.slice A m.segs.length c,.int .i64 m.next] 78)
 clear hd hM hr hN hc hl hdef
 go_enter Tryz.func64,Tryz.ntmps64
 go_upto_region 1 with(fail)
 generalize (w.alloc (.cells #[ptr g] 26)).alloc (.cells #[.slice A m.segs.length c,.int .i64 m.next] 78)=w1 at hb1 hb2 hB ⊢
 have x0:=bq hb1 0 (ptr g)
 have y0:=bq hb2 0 (.slice A m.segs.length c)
 have y1:=bq hb2 1 (.int .i64 m.next)
 have HB1:=ak hb1
 have HB2:=ak hb2
 have HB:=ak hB
 have hR:=right_calls m A c w1 HL.out HC.out (HR0.out w1 (Keeps.of_below hB))
 obtain⟨b,hb⟩:∃b,rightM m=b:=⟨_,rfl⟩
 rw[hb] at hR
 have HR:=ak hR
 have HBB:=ak hb
 clear hb1 hb2 hB hR hb
 cases b with
 | false=>
  go_wp2_with (go_at_call 80;(with_reducible refine HR.out.mono ?_);rintro e w2 ⟨rfl,hb2⟩;have HBW:=ak hb2;clear hb2)
  go_ret
  rw[HDEF.out,HBB.out,if_neg (by decide)]
  exact⟨rfl,(Turned.of_below HD.out (HB.out.trans (HBW.out.mono HB.out.size))).mono (by omega)⟩
 | true=>
  go_upto_region 3 with(go_at_call 80;(with_reducible refine HR.out.mono ?_);rintro e w2 ⟨rfl,hb2⟩;have HBW:=ak (HB.out.trans (hb2.mono HB.out.size));have hx1:=(hb2.block _ (blk_lt HB1.out)).trans HB1.out;have hx2:=(hb2.block _ (blk_lt HB2.out)).trans HB2.out;clear hb2)
  go_upto_region 4 with(go_at_call 47;(with_reducible refine(Nm.of_calls _ _ _).mono ?_);rintro e w3 ⟨rfl,hb3⟩;have HBW:=ak (HBW.out.trans (hb3.mono HBW.out.size));have hx1:=(hb3.block _ (blk_lt hx1)).trans hx1;have hx2:=(hb3.block _ (blk_lt hx2)).trans hx2;clear hb3)
  obtain⟨hs1,hs2,hB4⟩:=two_blocks w3 (.cells #[.string (nameOf 4 0)] 9) (.cells #[.string (nameOf 3 0)] 9)
  have hx1:=(hB4.block _ (blk_lt hx1)).trans hx1
  have hx2:=(hB4.block _ (blk_lt hx2)).trans hx2
  generalize (w3.alloc (.cells #[.string (nameOf 4 0)] 9)).alloc (.cells #[.string (nameOf 3 0)] 9)=w4 at hs1 hs2 hB4 hx1 hx2 ⊢
  have x4:=bq hx1 0 (ptr g)
  have hw3:w.heap.size≤w3.heap.size:=HBW.out.size
  have hB0:=HBW.out.trans (hB4.mono hw3)
  have HT:Calls Tryz.prog 106 #[.slice (some ⟨w4.heap.size,0,none⟩) 6 6] (w4.alloc (.cells #[.func (.func 107) #[] #[.pointer (some ⟨w.heap.size,0,none⟩),.pointer (some ⟨w3.heap.size,0,none⟩)],.func (.func 108) #[] #[.pointer (some ⟨w.heap.size,0,none⟩),.pointer (some ⟨w3.heap.size,0,none⟩)],.func (.func 109) #[] #[.pointer (some ⟨w.heap.size,0,none⟩),.pointer (some ⟨w3.heap.size,0,none⟩),.pointer (some ⟨w.heap.size+1,0,none⟩)],.func (.func 111) #[] #[.pointer (some ⟨w.heap.size,0,none⟩),.pointer (some ⟨w3.heap.size,0,none⟩)],.func (.func 112) #[] #[.pointer (some ⟨w.heap.size,0,none⟩),.pointer (some ⟨w3.heap.size,0,none⟩),.pointer (some ⟨w3.heap.size+1,0,none⟩)],.func (.func 114) #[ptr g] #[]] 92)) fun e w'=>e=.returned (.int .i64 (turnsM (stepsM m) M).2)∧Turned w w' B g (N+6) F (turnsM (stepsM m) M).1:=by
   have hcs:=heap_alloc_new w4 (.cells #[.func (.func 107) #[] #[.pointer (some ⟨w.heap.size,0,none⟩),.pointer (some ⟨w3.heap.size,0,none⟩)],.func (.func 108) #[] #[.pointer (some ⟨w.heap.size,0,none⟩),.pointer (some ⟨w3.heap.size,0,none⟩)],.func (.func 109) #[] #[.pointer (some ⟨w.heap.size,0,none⟩),.pointer (some ⟨w3.heap.size,0,none⟩),.pointer (some ⟨w.heap.size+1,0,none⟩)],.func (.func 111) #[] #[.pointer (some ⟨w.heap.size,0,none⟩),.pointer (some ⟨w3.heap.size,0,none⟩)],.func (.func 112) #[] #[.pointer (some ⟨w.heap.size,0,none⟩),.pointer (some ⟨w3.heap.size,0,none⟩),.pointer (some ⟨w3.heap.size+1,0,none⟩)],.func (.func 114) #[ptr g] #[]] 92)
   have hB5:=below_alloc (RowKit.Below.refl w4.heap.size w4) (.cells #[.func (.func 107) #[] #[.pointer (some ⟨w.heap.size,0,none⟩),.pointer (some ⟨w3.heap.size,0,none⟩)],.func (.func 108) #[] #[.pointer (some ⟨w.heap.size,0,none⟩),.pointer (some ⟨w3.heap.size,0,none⟩)],.func (.func 109) #[] #[.pointer (some ⟨w.heap.size,0,none⟩),.pointer (some ⟨w3.heap.size,0,none⟩),.pointer (some ⟨w.heap.size+1,0,none⟩)],.func (.func 111) #[] #[.pointer (some ⟨w.heap.size,0,none⟩),.pointer (some ⟨w3.heap.size,0,none⟩)],.func (.func 112) #[] #[.pointer (some ⟨w.heap.size,0,none⟩),.pointer (some ⟨w3.heap.size,0,none⟩),.pointer (some ⟨w3.heap.size+1,0,none⟩)],.func (.func 114) #[ptr g] #[]] 92)
   have hx1:=(hB5.block _ (blk_lt hx1)).trans hx1
   have hx2:=(hB5.block _ (blk_lt hx2)).trans hx2
   have hs1:=(hB5.block _ (blk_lt hs1)).trans hs1
   have hs2:=(hB5.block _ (blk_lt hs2)).trans hs2
   generalize w4.alloc (.cells #[.func (.func 107) #[] #[.pointer (some ⟨w.heap.size,0,none⟩),.pointer (some ⟨w3.heap.size,0,none⟩)],.func (.func 108) #[] #[.pointer (some ⟨w.heap.size,0,none⟩),.pointer (some ⟨w3.heap.size,0,none⟩)],.func (.func 109) #[] #[.pointer (some ⟨w.heap.size,0,none⟩),.pointer (some ⟨w3.heap.size,0,none⟩),.pointer (some ⟨w.heap.size+1,0,none⟩)],.func (.func 111) #[] #[.pointer (some ⟨w.heap.size,0,none⟩),.pointer (some ⟨w3.heap.size,0,none⟩)],.func (.func 112) #[] #[.pointer (some ⟨w.heap.size,0,none⟩),.pointer (some ⟨w3.heap.size,0,none⟩),.pointer (some ⟨w3.heap.size+1,0,none⟩)],.func (.func 114) #[ptr g] #[]] 92)=w5 at hcs hB5 hx1 hx2 hs1 hs2 ⊢
   have hB:=hB0.trans (hB5.mono hB0.size)
   have hlt:=HD.out.lt
   have hn4:=hB0.size
   have hNN:=HN.out
   have hle:m.segs.length≤1000:=by
    have h:=HBB.out
    unfold rightM at h
    rw[Bool.and_eq_true] at h
    exact of_decide_eq_true h.2
   have nF:∀k,w.heap.size≤k→¬F k:=fun k hk hf=>by have:=hlt k hf;omega
   have key:=turns_disk man_turns (stepsM m) (by simp [stepsM]) w4.heap.size #[.func (.func 107) #[] #[.pointer (some ⟨w.heap.size,0,none⟩),.pointer (some ⟨w3.heap.size,0,none⟩)],.func (.func 108) #[] #[.pointer (some ⟨w.heap.size,0,none⟩),.pointer (some ⟨w3.heap.size,0,none⟩)],.func (.func 109) #[] #[.pointer (some ⟨w.heap.size,0,none⟩),.pointer (some ⟨w3.heap.size,0,none⟩),.pointer (some ⟨w.heap.size+1,0,none⟩)],.func (.func 111) #[] #[.pointer (some ⟨w.heap.size,0,none⟩),.pointer (some ⟨w3.heap.size,0,none⟩)],.func (.func 112) #[] #[.pointer (some ⟨w.heap.size,0,none⟩),.pointer (some ⟨w3.heap.size,0,none⟩),.pointer (some ⟨w3.heap.size+1,0,none⟩)],.func (.func 114) #[ptr g] #[]] hcs (nF _ hn4) (HD.out.below hB) HM.out HFIT.out ?_
   ·refine key.mono ?_
    rintro e w' ⟨rfl,ht⟩
    exact⟨rfl,Turned.after (Keeps.of_below hB) ht⟩
   ·intro j hj
    have hj6:j < 6:=hj
    have hc1:∀W,Keeps F w5 W→W.cell? ⟨w.heap.size,0,none⟩=some (ptr g):=fun W hk=>hk.cell ((blk_cell hx1 0).trans rfl) (nF _ (Nat.le_refl _))
    have hc2:∀W,Keeps F w5 W→W.heap[w.heap.size+1]? =some (.cells #[.slice A m.segs.length c,.int .i64 m.next] 78 (0,0)):=fun W hk=>hk.obj hx2 (nF _ (by omega))
    have hc3:∀W,Keeps F w5 W→W.cell? ⟨w3.heap.size,0,none⟩=some (.string tempN):=fun W hk=>hk.cell ((blk_cell hs1 0).trans rfl) (nF _ hw3)
    have hc4:∀W,Keeps F w5 W→W.cell? ⟨w3.heap.size+1,0,none⟩=some (.string manN):=fun W hk=>hk.cell ((blk_cell hs2 0).trans rfl) (nF _ (Nat.le_succ_of_le hw3))
    match j,hj6 with
    | 0,_=>exact⟨_,_,_,rfl,run_save1,fun W M' F' hd' hM' hk hs=>by rw[Array.empty_append];exact save1_calls tempN (nameOf_le _ _) w.heap.size w3.heap.size hd' (by omega) (hc1 W hk) (hc3 W hk)⟩
    | 1,_=>exact⟨_,_,_,rfl,run_save2,fun W M' F' hd' hM' hk hs=>by rw[Array.empty_append];exact save2_calls tempN (nameOf_le _ _) w.heap.size w3.heap.size hd' (by omega) (hc1 W hk) (hc3 W hk)⟩
    | 2,_=>exact⟨_,_,_,rfl,run_save3,fun W M' F' hd' hM' hk hs=>by rw[Array.empty_append];exact save3_calls tempN (nameOf_le _ _) w.heap.size w3.heap.size (w.heap.size+1) m A c hd' hM' (hc1 W hk) (hc3 W hk) (hc2 W hk) hle HC.out (HR0.out W ((Keeps.of_below hB).trans hk))⟩
    | 3,_=>exact⟨_,_,_,rfl,run_save4,fun W M' F' hd' hM' hk hs=>by rw[Array.empty_append];exact save4_calls tempN (nameOf_le _ _) w.heap.size w3.heap.size hd' (hc1 W hk) (hc3 W hk)⟩
    | 4,_=>exact⟨_,_,_,rfl,run_save5,fun W M' F' hd' hM' hk hs=>by rw[Array.empty_append];exact save5_calls tempN manN (nameOf_le _ _) (nameOf_le _ _) w.heap.size w3.heap.size (w3.heap.size+1) hd' (by omega) (hc1 W hk) (hc3 W hk) (hc4 W hk)⟩
    | 5,_=>exact⟨_,_,_,rfl,run_syncDir,fun W M' F' hd' hM' hk hs=>by
      refine Calls.mono (P:=Tryz.prog) (by rw[Array.append_empty];exact hd'.syncDir?) ?_
      rintro e w' ⟨rfl,h⟩
      exact⟨rfl,h.mono (by omega)⟩⟩
  have HT:=ak HT
  clear hs1 hs2 hB4 hx1 hx2
  go_wp2_with (go_at_call 106;(with_reducible refine HT.out.mono ?_);rintro e w6 ⟨rfl,h6⟩;have H6:=ak h6;clear h6)
  go_ret
  rw[HDEF.out,HBB.out,if_pos rfl]
  exact⟨rfl,H6.out⟩
end Mn
end
section
namespace Mn
open Go.Maps Fr Ext Go.Proofs.YtcieieacfoaklaaGreat.Nm Dk

def nb1T:Bool×List (List Nat×List Nat):=(true,[([],[]),([],[]),([0,1],[0,1]),([2],[2]),([3],[3]),([4],[4]),([],[]),([],[]),([7],[7]),([6,8],[6,8]),([9],[9]),([10],[10]),([11],[11]),([5,12],[5,12]),([],[]),([],[]),([15],[15]),([14,16],[14,16]),([17],[17]),([18],[18]),([19],[19]),([13,20],[13,20]),([],[]),([],[]),([23],[23]),([22,24],[22,24]),([25],[25]),([26],[26]),([21,27],[21,27]),([28,0,1,2,3,4,5,6,7,8,9,10,11,12,13,14,15,16,17,18,19,20,21,22,23,24,25,26,27,28],[28])])
def nb1B:List Nat:=[0,0,3,7,15,31,0,0,128,448,960,1984,4032,8191,0,0,32768,114688,245760,507904,1032192,2097151,0,0,8388608,29360128,62914560,130023424,268435455,536870911]
theorem nb1tab:rtab .any (opsOf Tryz.f79 1)=nb1T:=by kernel_rfl
theorem nb1bits:waitsOk nb1T.2 nb1B=true:=by kernel_rfl
theorem byte_facts (b:Int) (h:0≤b∧b < 256):IntKind.i64.wrap b=b∧wrap64 b=b∧IntKind.i64.wrap (b*2 ^ 24)=b*16777216∧wrap64 (b*16777216)=b*16777216∧IntKind.i64.wrap (b*2 ^ 16)=b*65536∧wrap64 (b*65536)=b*65536∧IntKind.i64.wrap (b*2 ^ 8)=b*256∧wrap64 (b*256)=b*256:=by
 simp only[i64_w]
 unfold wrap64
 refine⟨?_,?_,?_,?_,?_,?_,?_,?_⟩ <;> omega
theorem number_calls (z:Int) (i:Nat) (hz:z=(i:Int)) (xb:Nat) (A:Option Addr) (c:Nat) (x:List Int) (w:World) (hl:x.length≤1000000000) (hi:i+3 < x.length) (hB:IsBytes x) (x0:w.cell? ⟨xb,0,none⟩=some (.slice A x.length c)) (hr:Kd.C (Kd.int .u8) w A x.length x):
  Calls Tryz.prog 79 #[.int .i64 z,.pointer (some ⟨xb,0,none⟩)] w fun e w'=>e=.returned (.int .i64 (be4At x z))∧RowKit.Below w.heap.size w w':=by
 subst hz
 obtain⟨j1,hj1⟩:∃j,i+1=j:=⟨_,rfl⟩
 obtain⟨j2,hj2⟩:∃j,i+2=j:=⟨_,rfl⟩
 obtain⟨j3,hj3⟩:∃j,i+3=j:=⟨_,rfl⟩
 have e1:wrap64 ((i:Int)+1)=(j1:Int):=by unfold wrap64;omega
 have e2:wrap64 ((i:Int)+2)=(j2:Int):=by unfold wrap64;omega
 have e3:wrap64 ((i:Int)+3)=(j3:Int):=by unfold wrap64;omega
 have l0:i < x.length:=by omega
 have l1:j1 < x.length:=by omega
 have l2:j2 < x.length:=by omega
 have l3:j3 < x.length:=by omega
 obtain⟨ad,e0,y0⟩:=Kd.at_int hr (i:Int) (by omega) (by omega)
 cases e0
 obtain⟨ad',e0,y1⟩:=Kd.at_int hr (j1:Int) (by omega) (by omega)
 cases e0
 obtain⟨ad',e0,y2⟩:=Kd.at_int hr (j2:Int) (by omega) (by omega)
 cases e0
 obtain⟨ad',e0,y3⟩:=Kd.at_int hr (j3:Int) (by omega) (by omega)
 cases e0
 have hbe:be4At x (i:Int)=rd x (i:Int)*16777216+rd x (j1:Int)*65536+rd x (j2:Int)*256+rd x (j3:Int):=by
  have c1:(i:Int)+1=(j1:Int):=by omega
  have c2:(i:Int)+2=(j2:Int):=by omega
  have c3:(i:Int)+3=(j3:Int):=by omega
  unfold be4At
  rw[c1,c2,c3]
 have h0:=hB _ (rd_mem x (i:Int) (by omega) (by omega))
 have h1:=hB _ (rd_mem x (j1:Int) (by omega) (by omega))
 have h2:=hB _ (rd_mem x (j2:Int) (by omega) (by omega))
 have h3:=hB _ (rd_mem x (j3:Int) (by omega) (by omega))
 generalize rd x (i:Int)=b0 at y0 hbe h0
 generalize rd x (j1:Int)=b1 at y1 hbe h1
 generalize rd x (j2:Int)=b2 at y2 hbe h2
 generalize rd x (j3:Int)=b3 at y3 hbe h3
 rw[Int.toNat_natCast] at y0 y1 y2 y3
 obtain⟨o1,o2,o3⟩:=or_join4 b0 b1 b2 b3 h0.1 h0.2 h1.1 h1.2 h2.1 h2.2 h3.1 h3.2
 obtain⟨p0,q0,p1,q1,-,-,-,-⟩:=byte_facts b0 h0
 obtain⟨p2,q2,-,-,p3,q3,-,-⟩:=byte_facts b1 h1
 obtain⟨p4,q4,-,-,-,-,p5,q5⟩:=byte_facts b2 h2
 obtain⟨p6,q6,-,-,-,-,-,-⟩:=byte_facts b3 h3
 have HBE:=ak hbe
 clear hbe hB hr hl hi h0 h1 h2 h3 hj1 hj2 hj3
 go_enter Tryz.func79,Tryz.ntmps79
 go_upto_region 1 with(fail)
 refine st_ 30 (S:=(fun w'=>RowKit.Below w.heap.size w w')) (ds:=[]) (by kernel_rfl) rfl (by kernel_rfl) (RowKit.Below.refl _ _).drew (fun hHeld=>?_);refine with_tabW nb1tab nb1bits (fun HT_ HW_=>?_)
 generalize w.drew=w1 at hHeld ⊢
 refine tk_ 0 1 (N:=some 4) (v:=?_) (a':=?_) HT_ HW_ rfl rfl (.inl ⟨by rfl,?_⟩) hHeld ?_ ?_
 rotate_left
 ·rintro w' hs
  have xx:=pw_cell_below hs x0
  go_simp
  with_reducible rfl
 rotate_left
 ·simp only[Act.put,zq1,zq2,zq3,i64_w,i32_w]
  rfl
 refine fl_ [1,5,3,2,6,7,7,11,135,8,12,391,15,19,33159,16,20,98695,23,27,8487303,24,28,25264519] ?_
 iterate 8 refine pz_ HT_ ?_
 refine fe_ ?_
 refine tk_ 3 25264527 (N:=some 7) (v:=?_) (a':=?_) HT_ HW_ rfl rfl (.inl ⟨by rfl,?_⟩) hHeld ?_ ?_
 rotate_left
 ·rintro w' hs
  have yy:=pw_cell_below hs y0
  go_simp
  with_reducible rfl
 rotate_left
 ·simp only[Act.put,zq1,zq2,zq3,i64_w,i32_w]
  rfl
 refine fl_ [4,8,25264543,5,9,25264575] ?_
 iterate 2 refine pz_ HT_ ?_
 refine fe_ ?_
 refine tk_ 6 25264639 (N:=some 10) (v:=?_) (a':=?_) HT_ HW_ rfl rfl (.inl ⟨by rfl,?_⟩) hHeld ?_ ?_
 rotate_left
 ·rintro w' hs
  have xx:=pw_cell_below hs x0
  go_simp
  with_reducible rfl
 rotate_left
 ·simp only[Act.put,zq1,zq2,zq3,i64_w,i32_w]
  rfl
 refine fl_ [9,13,25265151] ?_
 refine pz_ HT_ ?_
 refine fe_ ?_
 refine tk_ 10 25266175 (N:=some 14) (v:=?_) (a':=?_) HT_ HW_ rfl rfl (.inl ⟨by rfl,?_⟩) hHeld ?_ ?_
 rotate_left
 ·rintro w' hs
  have yy:=pw_cell_below hs y1
  go_simp
  with_reducible rfl
 rotate_left
 ·simp only[Act.put,zq1,zq2,zq3,i64_w,i32_w]
  rfl
 refine fl_ [11,15,25268223,12,16,25272319,13,17,25280511] ?_
 iterate 3 refine pz_ HT_ ?_
 refine fe_ ?_
 refine tk_ 14 25296895 (N:=some 18) (v:=?_) (a':=?_) HT_ HW_ rfl rfl (.inl ⟨by rfl,?_⟩) hHeld ?_ ?_
 rotate_left
 ·rintro w' hs
  have xx:=pw_cell_below hs x0
  go_simp
  with_reducible rfl
 rotate_left
 ·simp only[Act.put,zq1,zq2,zq3,i64_w,i32_w]
  rfl
 refine fl_ [17,21,25427967] ?_
 refine pz_ HT_ ?_
 refine fe_ ?_
 refine tk_ 18 25690111 (N:=some 22) (v:=?_) (a':=?_) HT_ HW_ rfl rfl (.inl ⟨by rfl,?_⟩) hHeld ?_ ?_
 rotate_left
 ·rintro w' hs
  have yy:=pw_cell_below hs y2
  go_simp
  with_reducible rfl
 rotate_left
 ·simp only[Act.put,zq1,zq2,zq3,i64_w,i32_w]
  rfl
 refine fl_ [19,23,26214399,20,24,27262975,21,25,29360127] ?_
 iterate 3 refine pz_ HT_ ?_
 refine fe_ ?_
 refine tk_ 22 33554431 (N:=some 26) (v:=?_) (a':=?_) HT_ HW_ rfl rfl (.inl ⟨by rfl,?_⟩) hHeld ?_ ?_
 rotate_left
 ·rintro w' hs
  have xx:=pw_cell_below hs x0
  go_simp
  with_reducible rfl
 rotate_left
 ·simp only[Act.put,zq1,zq2,zq3,i64_w,i32_w]
  rfl
 refine fl_ [25,29,67108863] ?_
 refine pz_ HT_ ?_
 refine fe_ ?_
 refine tk_ 26 134217727 (N:=some 30) (v:=?_) (a':=?_) HT_ HW_ rfl rfl (.inl ⟨by rfl,?_⟩) hHeld ?_ ?_
 rotate_left
 ·rintro w' hs
  have yy:=pw_cell_below hs y3
  go_simp
  with_reducible rfl
 rotate_left
 ·simp only[Act.put,zq1,zq2,zq3,i64_w,i32_w]
  rfl
 refine fl_ [27,31,268435455,28,32,536870911,29,3,1073741823] ?_
 iterate 3 refine pz_ HT_ ?_
 refine fe_ ?_
 have HB:=ak hHeld
 clear hHeld
 refine dz_ HT_ ?_
 go_wp2
 go_ret
 rw[HBE.out]
 exact⟨rfl,HB.out⟩
end Mn
end
section
namespace Rc
open Go.Maps Fr Ext Pt

def locFine (l:Lo):Bool:=withinB l.f0 0 99999999 && withinB l.f1 0 1073741824 && withinB l.f2 1 4096
def locsM:List Lo→Int→Option Int
 | [],a=>some a
 | l::r,a=>if locFine l=true then locsM r (wrap64 (a+l.f2)) else none
theorem locsM_cons (l:Lo) (r:List Lo) (a:Int):locsM (l::r) a=if locFine l=true then locsM r (wrap64 (a+l.f2)) else none:=rfl
def rootFineM (R:Re):Bool:=
 match locsM R.f5 0 with
 | none=>false
 | some s=>keyB R.f1 && (decide (R.f5.length≤512) && ((s==R.f4) && withinB s 1 65536))
section
variable {w:World} {rb:Nat} {R:Re} {A5 A6:Option Addr} {c5 c6:Nat}
theorem rootFine_calls (hr:w.heap[rb]? =some (.cells (recC R A5 c5 A6 c6) 119 (0,0))) (hl:Kd.C k57 w A5 R.f5.length R.f5) (hn:R.f5.length≤1000000000):
  Calls Tryz.prog 86 #[.pointer (some ⟨rb,0,none⟩)] w fun e w'=>e=.returned (.bool (rootFineM R))∧RowKit.Below w.heap.size w w':=by
 have HR:=ak hr
 have HL:=ak hl
 have x5:=bq hr 5 (.slice A5 R.f5.length c5)
 clear hr hl
 go_enter Tryz.func86,Tryz.ntmps86
 go_wp2
 go_loopg [3,11] R.f5.length (fun kq v3 v11 wr=>∃(k:Nat) (acc:Int),v3=.int .i64 acc∧v11=.int .i64 k∧Aside0 (k+kq=R.f5.length)∧Aside0 (locsM (R.f5.drop k) acc=locsM R.f5 0)∧Aside0 (RowKit.Below w.heap.size w wr))
 case atStart=>exact⟨0,0,rfl,rfl,⟨by omega⟩,⟨rfl⟩,⟨RowKit.Below.refl _ _⟩⟩
 case round=>
  obtain⟨k,acc,rfl,rfl,HK,HA,HB⟩:=hrel
  cases gk with
  | zero=>
   obtain rfl:k=R.f5.length:=by have:=HK.out;omega
   have d1:decide ((R.f5.length:Int) < (R.f5.length:Int))=false:=decide_eq_false (by omega)
   have d2:decide (R.f5.length < R.f5.length)=false:=decide_eq_false (by omega)
   have hr:=(HB.out.block rb (blk_lt HR.out)).trans HR.out
   have x1:=bq hr 1 (.string R.f1)
   have x4:=bq hr 4 (.int .i64 R.f4)
   have x5:=bq hr 5 (.slice A5 R.f5.length c5)
   have hE:locsM R.f5 0=some acc:=by rw[← HA.out,List.drop_length];rfl
   have hM:rootFineM R=(keyB R.f1 && (decide (R.f5.length≤512) && ((acc==R.f4) && withinB acc 1 65536))):=by unfold rootFineM;rw[hE]
   clear hr hE HA
   obtain⟨b1,hb1⟩:∃b,keyB R.f1=b:=⟨_,rfl⟩
   obtain⟨b2,hb2⟩:∃b,decide (R.f5.length≤512)=b:=⟨_,rfl⟩
   obtain⟨b3,hb3⟩:∃b,(acc==R.f4)=b:=⟨_,rfl⟩
   obtain⟨b4,hb4⟩:∃b,withinB acc 1 65536=b:=⟨_,rfl⟩
   have W1:=ak (fun W=>by have h:=key_calls R.f1 W;rw[hb1] at h;exact h)
   have W4:=ak (fun W=>by have h:=within_calls acc 1 65536 W;rw[hb4] at h;exact h)
   have d3:decide ((R.f5.length:Int)≤512)=b2:=by rw[← hb2];exact decide_eq_decide.mpr (by omega)
   rw[hb1,hb2,hb3,hb4] at hM
   have HM:=ak hM
   clear hM hb1 hb2 hb4
   cases b1 with
   | false=>
    go_wp2_with (go_at_call 28;(with_reducible refine(W1.out _).mono ?_);rintro e w1 ⟨rfl,rfl⟩)
    go_ret
    rw[HM.out]
    exact⟨rfl,HB.out⟩
   | true=>
   cases b2 with
   | false=>
    go_wp2_with (go_at_call 28;(with_reducible refine(W1.out _).mono ?_);rintro e w1 ⟨rfl,rfl⟩)
    go_ret
    rw[HM.out]
    exact⟨rfl,HB.out⟩
   | true=>
   cases b3 with
   | false=>
    go_wp2_with (go_at_call 28;(with_reducible refine(W1.out _).mono ?_);rintro e w1 ⟨rfl,rfl⟩)
    go_ret
    rw[HM.out]
    exact⟨rfl,HB.out⟩
   | true=>
    go_wp2_with (first
     | (go_at_call 52;(with_reducible refine(W4.out _).mono ?_);rintro e w2 ⟨rfl,rfl⟩)
     | (go_at_call 28;(with_reducible refine(W1.out _).mono ?_);rintro e w1 ⟨rfl,rfl⟩))
    go_ret
    rw[HM.out]
    exact⟨rfl,HB.out⟩
  | succ gk=>
   have hk0:k < R.f5.length:=by have:=HK.out;omega
   have d1:decide ((k:Int) < (R.f5.length:Int))=true:=decide_eq_true (by omega)
   have d2:decide (k < R.f5.length)=true:=decide_eq_true hk0
   obtain⟨ad,e1,y0,y1,y2⟩:=at_T57 (Kd.C_below HL.out HB.out) (k:Int) (by omega) (by omega)
   cases e1
   have hrd:rd_T57 R.f5 (k:Int)=R.f5[k]:=by simp [rd_T57,List.getD_eq_getElem?_getD,List.getElem?_eq_getElem hk0]
   rw[hrd] at y0 y1 y2
   have hA:=HA.out
   rw[List.drop_eq_getElem_cons hk0,locsM_cons] at hA
   rw[Int.toNat_natCast] at y0 y1 y2
   generalize R.f5[k]=l at y0 y1 y2 hA
   clear hrd HA
   obtain⟨b1,hb1⟩:∃b,withinB l.f0 0 99999999=b:=⟨_,rfl⟩
   obtain⟨b2,hb2⟩:∃b,withinB l.f1 0 1073741824=b:=⟨_,rfl⟩
   obtain⟨b3,hb3⟩:∃b,withinB l.f2 1 4096=b:=⟨_,rfl⟩
   have W1:=ak (fun W=>by have h:=within_calls l.f0 0 99999999 W;rw[hb1] at h;exact h)
   have W2:=ak (fun W=>by have h:=within_calls l.f1 0 1073741824 W;rw[hb2] at h;exact h)
   have W3:=ak (fun W=>by have h:=within_calls l.f2 1 4096 W;rw[hb3] at h;exact h)
   have hf:locFine l=(b1 && b2 && b3):=by unfold locFine;rw[hb1,hb2,hb3]
   rw[hf] at hA
   clear hb1 hb2 hb3 hf
   have HB2:=ak (below_alloc HB.out (.cells #[.int .i64 l.f0,.int .i64 l.f1,.int .i64 l.f2] 57))
   have bad:(b1 && b2 && b3)=false→rootFineM R=false:=fun h=>by
    rw[h,if_neg (by decide)] at hA
    unfold rootFineM
    rw[← hA]
   have BAD:=ak bad
   have HA2:=ak hA
   clear bad hA
   cases b1 with
   | false=>
    go_wp2_with (go_at_call 52;(with_reducible first | refine(W1.out _).mono ?_ | refine(W2.out _).mono ?_ | refine(W3.out _).mono ?_);rintro e w2 ⟨rfl,rfl⟩)
    go_ret
    rw[BAD.out rfl]
    exact⟨rfl,HB2.out⟩
   | true=>
   cases b2 with
   | false=>
    go_wp2_with (go_at_call 52;(with_reducible first | refine(W1.out _).mono ?_ | refine(W2.out _).mono ?_ | refine(W3.out _).mono ?_);rintro e w2 ⟨rfl,rfl⟩)
    go_ret
    rw[BAD.out rfl]
    exact⟨rfl,HB2.out⟩
   | true=>
   cases b3 with
   | false=>
    go_wp2_with (go_at_call 52;(with_reducible first | refine(W1.out _).mono ?_ | refine(W2.out _).mono ?_ | refine(W3.out _).mono ?_);rintro e w2 ⟨rfl,rfl⟩)
    go_ret
    rw[BAD.out rfl]
    exact⟨rfl,HB2.out⟩
   | true=>
    have hA:=HA2.out
    rw[if_pos (show(true && true && true)=true from rfl)] at hA
    have HA3:=ak hA
    clear hA HA2
    go_wp2_with (go_at_call 52;(with_reducible first | refine(W1.out _).mono ?_ | refine(W2.out _).mono ?_ | refine(W3.out _).mono ?_);rintro e w2 ⟨rfl,rfl⟩)
    go_roundg gk
    case measure=>omega
    case rel=>exact⟨k+1,_,rfl,by go_num,⟨by have:=HK.out;omega⟩,HA3,HB2⟩
end
end Rc
end
section
namespace Rc
open Go.Maps Fr Ext Pt

def bareM (R T:Re):Bool:=(R.f1==T.f1) && ((R.f2==T.f2) && ((R.f3==T.f3) && ((R.f4==T.f4) && ((R.f5.length==T.f5.length) && (R.f6.length==T.f6.length)))))
theorem bare_calls (R T:Re) (A5 A6 B5 B6:Option Addr) (c5 c6 e5 e6:Nat) (w:World):
  Calls Tryz.prog 81 #[.agg (recC R A5 c5 A6 c6),.agg (recC T B5 e5 B6 e6)] w fun e w'=>e=.returned (.bool (bareM R T))∧RowKit.Below w.heap.size w w':=by
 have HB:=ak (below_alloc (below_alloc (RowKit.Below.refl w.heap.size w) (.cells (recC R A5 c5 A6 c6) 119)) (.cells (recC T B5 e5 B6 e6) 119))
 obtain⟨b1,hb1⟩:∃b,(R.f1==T.f1)=b:=⟨_,rfl⟩
 obtain⟨b2,hb2⟩:∃b,(R.f2==T.f2)=b:=⟨_,rfl⟩
 obtain⟨b3,hb3⟩:∃b,(R.f3==T.f3)=b:=⟨_,rfl⟩
 obtain⟨b4,hb4⟩:∃b,(R.f4==T.f4)=b:=⟨_,rfl⟩
 obtain⟨b5,hb5⟩:∃b,(R.f5.length==T.f5.length)=b:=⟨_,rfl⟩
 obtain⟨b6,hb6⟩:∃b,(R.f6.length==T.f6.length)=b:=⟨_,rfl⟩
 have hM:bareM R T=(b1 && (b2 && (b3 && (b4 && (b5 && b6))))):=by unfold bareM;rw[hb1,hb2,hb3,hb4,hb5,hb6]
 have h5:((R.f5.length:Int)==(T.f5.length:Int))=b5:=by rw[← hb5];exact Bool.eq_iff_iff.mpr (by simp only[beq_iff_eq];omega)
 have h6:((R.f6.length:Int)==(T.f6.length:Int))=b6:=by rw[← hb6];exact Bool.eq_iff_iff.mpr (by simp only[beq_iff_eq];omega)
 have h1:(R.f1.toList==T.f1.toList)=b1:=by rw[← beq_toListBytes];exact hb1
 rw[hM]
 simp only[recC]
 clear hM hb1 hb5 hb6
 cases b1 with
 | false=>
  go_enter Tryz.func81,Tryz.ntmps81
  go_wp2
  go_ret
  exact⟨rfl,HB.out⟩
 | true=>
 cases b2 with
 | false=>
  go_enter Tryz.func81,Tryz.ntmps81
  go_wp2
  go_ret
  exact⟨rfl,HB.out⟩
 | true=>
 cases b3 with
 | false=>
  go_enter Tryz.func81,Tryz.ntmps81
  go_wp2
  go_ret
  exact⟨rfl,HB.out⟩
 | true=>
 cases b4 with
 | false=>
  go_enter Tryz.func81,Tryz.ntmps81
  go_wp2
  go_ret
  exact⟨rfl,HB.out⟩
 | true=>
 cases b5 with
 | false=>
  go_enter Tryz.func81,Tryz.ntmps81
  go_wp2
  go_ret
  exact⟨rfl,HB.out⟩
 | true=>
 cases b6 with
 | false=>
  go_enter Tryz.func81,Tryz.ntmps81
  go_wp2
  go_ret
  exact⟨rfl,HB.out⟩
 | true=>
 go_enter Tryz.func81,Tryz.ntmps81
 go_wp2
 go_ret
 exact⟨rfl,HB.out⟩
end Rc
end
end Go.Proofs.YtcieieacfoaklaaGreat

