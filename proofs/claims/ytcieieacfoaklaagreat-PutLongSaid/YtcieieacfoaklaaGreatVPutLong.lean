/- The statement PutLong holds: for every input the law answers true. The texts are joined. -/
import Derived.Test.YtcieieacfoaklaaGreatV6
import Derived.OpenShut
import Derived.Test.YtcieieacfoaklaaGreatRows
import Derived.WalkKit
import Derived.ProofKit
import Derived.ShutString
import Derived.ChangeOld
import Derived.Below
import Derived.SizedLaws
set_option linter.unusedVariables false
set_option linter.unusedSimpArgs false
set_option maxRecDepth 100000
set_option maxHeartbeats 8000000
section
namespace Go.Proofs.YtcieieacfoaklaaGreat.Pw
open Go.RowKit Go.Shelf Go.Maps Fr Ext Pt Go.Proofs.YtcieieacfoaklaaGreat.Nm Dk Mn Pu Ct Lg YtcieieacfoaklaaGreatW.PrintWords YtcieieacfoaklaaGreatW.PrintLast YtcieieacfoaklaaGreatW.PrintMore
open Rc (Re Lo withinB keyB zeroR recC Norm Norm.intro Norm.elim)
variable {W w w' w1:World} {B l g wb cb c N k n:Nat} {M M':DiskM} {F F' G:Nat→Prop} {S S':LogS} {p p':Wr} {hv pv hv' pv':Value} {A A':Option Addr} {q q':St} {b:List Int}
def zl (n:Nat):List Int:=List.replicate n 0
theorem zl_len (n:Nat):(zl n).length=n:=List.length_replicate
theorem make_zl (n:Nat) (h:n≤1000000):∀W:World,(Instr.makeSlice 35 (.int .i64 n) (.int .i64 n)).run Tryz.prog W=.ok (.slice (some ⟨W.heap.size,0,none⟩) n n) (W.alloc (.cells (nums .u8 (zl n)).toArray 5)):=make_calls n h
theorem AtW.writeZ (h:AtW W w l g wb cb q k n) (hk:k≤50000) (m:Nat) (hn:n+m≤500000) {q':St} {e':Int} (hq:writeM q (zl m)=(q',e')):
  Calls Tryz.prog 14 #[ptr wb,.slice (some ⟨w.heap.size,0,none⟩) m m] (w.alloc (.cells (nums .u8 (zl m)).toArray 5)) fun e w'=>e=.returned (.int .i64 e')∧AtW W w' l g wb cb q' (k+1) (n+m):=by
 have h1:=h.writeF (0,0) (b:=zl m) hk (zerosB m) (by rw[zl_len];exact hn)
 rw[zl_len,hq] at h1
 exact h1
theorem long_calls (c:Cfg) (a b:Int) (ha:0≤a) (hb:0≤b) (W:World):
  Calls Tryz.prog 6 #[.agg (cfgV c),.int .u32 a,.int .u32 b] W fun e w'=>e=.returned (.bool true)∧RowKit.Below W.heap.size W w':=by
 have hz:=heap_alloc_new W (.cells (cfgV c) 23)
 have hb0:=below_alloc (RowKit.Below.refl W.heap.size W) (.cells (cfgV c) 23)
 have HHD:=ak head_calls
 have HAB:=ak (And.intro ha hb)
 clear ha hb
 go_enter Tryz.func6,Tryz.ntmps6
 go_upto_region 1 with(fail)
 generalize hw0:W.alloc (.cells #[.int .i64 c.piece,.int .i64 c.small,.int .i64 c.max,.int .i64 c.limit,.int .i64 c.handles] 23)=w0 at hz hb0 ⊢
 clear hw0
 obtain⟨kb,hkb⟩:∃kb,W.heap.size=kb:=⟨_,rfl⟩
 rw[hkb] at hz ⊢
 have HKB:=ak hkb
 have HZ:=ak hz
 have HB0:=ak hb0
 clear hkb hz hb0
 have HX:=ak (fun w' (h:RowKit.Below w0.heap.size w0 w')=>(h.block _ (blk_lt HZ.out)).trans HZ.out)
 clear HZ
 go_upto_region 2 with(go_at_call 8;(with_reducible refine(HHD.out _).mono ?_);rintro e w1 ⟨rfl,hb1⟩;have HB1:=ak hb1;clear hb1)
 have HNW:=ak (new? 4194304 w0.heap.size w1 HB1.out.size)
 clear HHD
 go_upto_region 3 with(go_at_call 9;(with_reducible refine HNW.out.mono ?_);rintro e w2 ⟨g,F,rfl,hd2,hf2,hb2⟩;have HD2:=ak hd2;have HB2:=ak (HB1.out.trans (hb2.mono HB1.out.size));clear hd2 hf2 hb2)
 clear HNW HB1
 have x0:w2.cell? ⟨kb,0,none⟩=some (.int .i64 c.piece):=(blk_cell (HX.out _ HB2.out) 0).trans rfl
 have x1:w2.cell? ⟨kb,1,none⟩=some (.int .i64 c.small):=(blk_cell (HX.out _ HB2.out) 1).trans rfl
 have x2:w2.cell? ⟨kb,2,none⟩=some (.int .i64 c.max):=(blk_cell (HX.out _ HB2.out) 2).trans rfl
 have x3:w2.cell? ⟨kb,3,none⟩=some (.int .i64 c.limit):=(blk_cell (HX.out _ HB2.out) 3).trans rfl
 have x4:w2.cell? ⟨kb,4,none⟩=some (.int .i64 c.handles):=(blk_cell (HX.out _ HB2.out) 4).trans rfl
 have HRC:=ak (right_calls c w2)
 obtain⟨rc,hrc⟩:∃r,rightC c=r:=⟨_,rfl⟩
 rw[hrc] at HRC
 cases rc with
 | false=>
  clear hrc
  go_wp2_with (go_at_call 18;(with_reducible refine HRC.out.mono ?_);rintro e w3 ⟨rfl,hb3⟩;have HB3:=ak (HB2.out.trans (hb3.mono HB2.out.size));clear hb3)
  go_ret
  exact⟨rfl,HB0.out.trans (HB3.out.mono HB0.out.size)⟩
 | true=>
 have HRG:=ak hrc
 clear hrc
 go_upto_region 5 with(go_at_call 18;(with_reducible refine HRC.out.mono ?_);rintro e w3 ⟨rfl,hb3⟩;have HB3:=ak (HB2.out.trans (hb3.mono HB2.out.size));have HD3:=ak (HD2.out.below hb3);clear hb3)
 clear HRC HB2 HD2 x0 x1 x2 x3 x4
 have hop:=open_calls HD3.out (Fit.new _) 1048576
 rw[show openM (newM 4194304) 1048576=(some ⟨1048576,⟨[],1⟩,-1⟩,0) from rfl] at hop
 have HOP:=ak hop
 clear hop
 go_upto_region 8 with(go_at_call 11;(with_reducible refine HOP.out.mono ?_);rintro e w4 ⟨hb4,l,rfl,ho4,hl4⟩;have HB4:=ak (HB3.out.trans (hb4.mono HB3.out.size));have HD4:=ak (HD3.out.below hb4);have HO4:=ak ho4;clear hb4 ho4 hl4)
 clear HOP HB3 HD3
 have x0:w4.cell? ⟨kb,0,none⟩=some (.int .i64 c.piece):=(blk_cell (HX.out _ HB4.out) 0).trans rfl
 have x1:w4.cell? ⟨kb,1,none⟩=some (.int .i64 c.small):=(blk_cell (HX.out _ HB4.out) 1).trans rfl
 have x2:w4.cell? ⟨kb,2,none⟩=some (.int .i64 c.max):=(blk_cell (HX.out _ HB4.out) 2).trans rfl
 have x3:w4.cell? ⟨kb,3,none⟩=some (.int .i64 c.limit):=(blk_cell (HX.out _ HB4.out) 3).trans rfl
 have x4:w4.cell? ⟨kb,4,none⟩=some (.int .i64 c.handles):=(blk_cell (HX.out _ HB4.out) 4).trans rfl
 have HN:=ak (new_some l keyK 1 c w4 HRG.out he_key (by decide))
 go_upto_region 11 with(go_at_call 12;(with_reducible refine HN.out.mono ?_);rintro e w5 ⟨wb,cb,rfl,hb5,hw5,hc5,ho5,hu5⟩;have HA5:=ak (AtW.start HB4.out HD4.out (Fit.new _) HO4.out (Nat.zero_le _) HRG.out hb5 hw5 hc5 ho5 hu5);clear hb5 hw5 hc5 ho5 hu5)
 clear HN HB4 HD4 HO4 x0 x1 x2 x3 x4
 obtain⟨na,hna⟩:∃m:Nat,a % 70000=(m:Int):=⟨(a % 70000).toNat,by have:=HAB.out;omega⟩
 obtain⟨nb,hnb⟩:∃m:Nat,b % 70000=(m:Int):=⟨(b % 70000).toNat,by have:=HAB.out;omega⟩
 have HNA:=ak (show na < 70000 by omega)
 have HNB:=ak (show nb < 70000 by omega)
 obtain⟨q1,e1,q2,e2,t1,t2,t3,t4,t5,t6,t7,t8,t9⟩:=two (key:=keyK) (id:=1) (c:=c) 4194304 1048576 HRG.out he_key (by decide) rfl (zl na) (zl nb) (zerosB _) (zerosB _) (by rw[zl_len];omega) (by rw[zl_len];omega)
 rw[zl_len] at t5 t9
 have HQ:=ak (And.intro t1 (And.intro t2 (And.intro t3 (And.intro t4 (And.intro t5 (And.intro t6 (And.intro t7 (And.intro t8 t9))))))))
 clear t1 t2 t3 t4 t5 t6 t7 t8 t9
 have HRA:=ak (show wrap64 (a.tmod 70000)=(na:Int) by
  rw[Int.tmod_eq_emod_of_nonneg HAB.out.1,hna]
  unfold wrap64;have:=HNA.out;omega)
 have HRB:=ak (show wrap64 (b.tmod 70000)=(nb:Int) by
  rw[Int.tmod_eq_emod_of_nonneg HAB.out.2,hnb]
  unfold wrap64;have:=HNB.out;omega)
 clear hna hnb
 go_upto_region 13 with(fail)
 rw[HRA.out,HRB.out]
 have HM1:=make_zl na (by have:=HNA.out;omega)
 have HW1:=ak (HA5.out.writeZ (by decide) na (by have:=HNA.out;omega) HQ.out.1)
 go_upto_region 14 with(go_at_call 14;(with_reducible refine HW1.out.mono ?_);rintro e w6 ⟨rfl,h6⟩;have HA6:=ak h6;clear h6)
 clear HM1 HW1 HA5
 have HS1:=ak HA6.out.size
 have HM2:=make_zl nb (by have:=HNB.out;omega)
 have HW2:=ak (HA6.out.writeZ (by decide) nb (by have:=HNA.out;have:=HNB.out;omega) HQ.out.2.1)
 go_upto_region 16 with(first
  | (go_at_call 17;(with_reducible refine HS1.out.mono ?_);rintro e w7 ⟨rfl,hw⟩;obtain rfl:=hw.symm)
  | (go_at_call 14;(with_reducible refine HW2.out.mono ?_);rintro e w7 ⟨rfl,h7⟩;have HA7:=ak h7;clear h7))
 clear HM2 HW2 HA6 HS1
 have hx7:=HX.out _ HA7.out.bel
 have x2:=bq hx7 2 (.int .i64 c.max)
 clear hx7
 have HSI:=ak HA7.out.size
 have HSP:=ak HA7.out.spoilt
 obtain⟨-,-,t3,t4,t5,t6,t7,t8,t9⟩:=HQ.out
 rw[t4] at HSP
 have HT7:=ak (And.intro t7 t8)
 have hcf:=right_cfg HRG.out
 have HLE:=ak (show wrap64 (c.max - q1.2.2.size)=c.max - q1.2.2.size by unfold wrap64;omega)
 clear HQ t3 t4 t6 t7 t8 hcf HRA HRB
 obtain⟨s1,hs1⟩:∃s,q1.2.2.size=s:=⟨_,rfl⟩
 obtain⟨s2,hs2⟩:∃s,q2.2.2.size=s:=⟨_,rfl⟩
 rw[hs1] at t5 t9 HT7 HLE ⊢
 rw[hs2] at t9 HSI
 clear hs1 hs2
 have HE:=ak (HB0.out.trans (HA7.out.bel.mono HB0.out.size))
 rcases t5 with⟨a1,rfl,a3⟩ | ⟨a1,rfl,a3⟩
 ·have d1:decide ((na:Int)≤c.max)=true:=decide_eq_true a1
  rcases t9 with⟨b1,rfl⟩ | ⟨b1,rfl,b3⟩
  ·have d2:decide ((nb:Int)≤wrap64 (c.max - s1))=true:=decide_eq_true (by rw[HLE.out];exact b1)
   subst a3
   clear a1 b1
   go_wp2_with (first
    | (go_at_call 17;(with_reducible refine HSI.out.mono ?_);rintro e w8 ⟨rfl,hw⟩;obtain rfl:=hw.symm)
    | (go_at_call 22;(with_reducible refine HSP.out.mono ?_);rintro e w8 ⟨rfl,hw⟩;obtain rfl:=hw.symm))
   go_ret
   exact⟨rfl,HE.out⟩
  ·have d2:decide ((nb:Int)≤wrap64 (c.max - s1))=false:=decide_eq_false (by rw[HLE.out];omega)
   subst b3
   subst a3
   clear a1 b1
   go_wp2_with (first
    | (go_at_call 17;(with_reducible refine HSI.out.mono ?_);rintro e w8 ⟨rfl,hw⟩;obtain rfl:=hw.symm)
    | (go_at_call 22;(with_reducible refine HSP.out.mono ?_);rintro e w8 ⟨rfl,hw⟩;obtain rfl:=hw.symm))
   go_ret
   exact⟨rfl,HE.out⟩
 ·have d1:decide ((na:Int)≤c.max)=false:=decide_eq_false (by omega)
  rcases t9 with⟨b1,rfl⟩ | ⟨b1,rfl,b3⟩
  ·have d2:decide ((nb:Int)≤wrap64 (c.max - s1))=true:=decide_eq_true (by rw[HLE.out];exact b1)
   subst a3
   rw[Int.sub_zero] at d2
   clear a1 b1
   go_wp2_with (first
    | (go_at_call 17;(with_reducible refine HSI.out.mono ?_);rintro e w8 ⟨rfl,hw⟩;obtain rfl:=hw.symm)
    | (go_at_call 22;(with_reducible refine HSP.out.mono ?_);rintro e w8 ⟨rfl,hw⟩;obtain rfl:=hw.symm))
   go_ret
   exact⟨rfl,HE.out⟩
  ·have d2:decide ((nb:Int)≤wrap64 (c.max - s1))=false:=decide_eq_false (by rw[HLE.out];omega)
   subst b3
   subst a3
   rw[Int.sub_zero] at d2
   clear a1 b1
   go_wp2_with (first
    | (go_at_call 17;(with_reducible refine HSI.out.mono ?_);rintro e w8 ⟨rfl,hw⟩;obtain rfl:=hw.symm)
    | (go_at_call 22;(with_reducible refine HSP.out.mono ?_);rintro e w8 ⟨rfl,hw⟩;obtain rfl:=hw.symm))
   go_ret
   exact⟨rfl,HE.out⟩
theorem PutLong.walk (c:Cfg) (a b:Int) (W:World) (h1:(Lit.int .u32 a).wf=true) (h2:(Lit.int .u32 b).wf=true):
  Calls Tryz.prog 6 #[.agg (cfgV c),.int .u32 a,.int .u32 b] W fun e w'=>e=.returned (.bool true)∧RowKit.Below W.heap.size W w':=
 long_calls c a b (bounds_u32 h1).1 (bounds_u32 h2).1 W
end Go.Proofs.YtcieieacfoaklaaGreat.Pw
end
section
/- The statement PutLong, out of the walk of the law. -/
namespace Go.Proofs.YtcieieacfoaklaaGreat.putLong
open Go.ChangeShapes Go.WideShapes Go.ChangeAt Go.RowKit
open Go.ChangeMaps (open_string shut_string)
theorem own:ownKnob Tryz.prog.godebug=none:=by kernel_rfl
theorem laidOut:laidOutB Tryz.prog=true:=by kernel_rfl
theorem lifted (os:Os) (started:os.Started) (H:Type) (enc:TypeId×Value→H):
  ReturnsInHanded {} Tryz.checked os 6 .any (Rows.putLongSpec.pre6 enc Tryz.prog Tryz.f6 Rows.putLongRow.domain false) (Rows.putLongSpec.post enc Tryz.prog Tryz.f6 false true false false):=by
 refine returnsInHanded_of_change_sized (C:=Tryz.checked) own started (by kernel_rfl) Tryz.func6
  (ChangeSpec.witness6 (enc:=enc) (C:=Tryz.checked) false ⟨#[],#[.agg #[.int .i64 0,.int .i64 0,.int .i64 0,.int .i64 0,.int .i64 0],.int .u32 0,.int .u32 0],[]⟩ 8 (by kernel_rfl) (by kernel_rfl) (by kernel_rfl) (by kernel_rfl)) ?_
 intro W base args ds gs before hval0 hW hcnd hsz0 _
 have hsz:(DataW.weightsEach Tryz.prog (Tryz.f6.params.toList++Rows.putLongSpec.plain.varTypes Tryz.prog) (ds++gs)).all (·≤reachBytes)=true:=hsz0
 have hval:∀(j:Nat) t v,Tryz.f6.params[j]? =some t→args[j]? =some v→Value.okWide Tryz.prog W .any base t v:=hval0
 have hW':=hW
 obtain⟨p,q,hA0,hV,rfl,hfz,hnd⟩:=hW
 have hA:DataW.TrodAll enc Tryz.prog W 0 (fun _=>true) true Tryz.f6.params.toList args.toList ds p:=hA0
 rw[Tryz.params6] at hA hval hsz
 obtain⟨v0,vs0,d0,ds0,p0,q0,hargs,rfl,rfl,h0,r0⟩:=trodAll_cons hA
 obtain⟨v1,vs1,d1,ds1,p1,q1,rfl,rfl,rfl,h1,r1⟩:=trodAll_cons r0
 obtain⟨v2,vs2,d2,ds2,p2,q2,rfl,rfl,rfl,h2,r2⟩:=trodAll_cons r1
 obtain⟨rfl,rfl,rfl⟩:=trodAll_nil r2
 obtain rfl:args=#[v0,v1,v2]:=by cases args;simp_all
 obtain⟨rfl,rfl⟩:=trodVars_none hV
 have k0:=h0
 have lt0:∀x∈p0,x.block < W.heap.size:=by obtain⟨m,hm⟩:=k0;exact DataW.trod_lt m _ _ _ hm
 obtain⟨a0,rfl⟩:=HrC.open_cfg (hval 0 23 v0 rfl rfl) h0
 obtain⟨a1,rfl,rfl,rfl,w1⟩:=open_int Tryz.underlying62 (hval 1 62 v1 rfl rfl) h1
 obtain⟨a2,rfl,rfl,rfl,w2⟩:=open_int Tryz.underlying62 (hval 2 62 v2 rfl rfl) h2
 clear hA0 hval0 hsz0 hsz
 refine(Pw.PutLong.walk a0 a1 a2 W w1 w2).mono fun e W' ⟨he,bel⟩=>?_
 subst he
 exact⟨_,rfl,_,_,_,[],_,[],hW',trodAll_mk1 (shut_bool Tryz.underlying4 _),(trodAll_cons_mk (Below.trod laidOut (by kernel_rfl) (of_decide_eq_true (by kernel_rfl)) k0 bel lt0) (trodAll_cons_mk (shut_int Tryz.underlying62 w1) (trodAll_cons_mk (shut_int Tryz.underlying62 w2) trodAll_mk0))),rfl,bel.frame _,fun h=>by cases h⟩
theorem closed:joinedFacts Tryz.pinned.checked.prog 6 Tryz.f6 Rows.putLongSpec Rows.putLongRow=true:=of_decide_eq_true (by kernel_rfl)
theorem over:Rows.putLongRow.holds Tryz.pinned (OpenSpec.ofChange Rows.putLongSpec):=
 OpenClaim.holds_of_wide 6 Tryz.f6 rfl rfl rfl rfl rfl rfl rfl ⟨rfl,rfl,rfl,rfl,rfl⟩ rfl rfl rfl rfl rfl (by kernel_rfl) Tryz.func6 closed
  (of_decide_eq_true (by kernel_rfl)) (by unfold Func.isWrapper;first | (rw[if_pos (by decide+kernel)];kernel_rfl) | (rw[if_neg (by decide+kernel)];exact⟨rfl,rfl⟩))
  (fun os started H enc _=>lifted os started H enc)
theorem proved:Rows.PutLongSaid:=over
#print axioms proved
end Go.Proofs.YtcieieacfoaklaaGreat.putLong
namespace Go.Proofs.YtcieieacfoaklaaGreat
theorem putLong_holds:Rows.PutLongSaid:=putLong.proved
end Go.Proofs.YtcieieacfoaklaaGreat
end
