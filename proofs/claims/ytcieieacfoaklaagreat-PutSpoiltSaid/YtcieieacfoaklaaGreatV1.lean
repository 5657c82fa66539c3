/- Texts of this claim, joined. -/
import Derived.Test.YtcieieacfoaklaaGreatProg
import Derived.Below
import Derived.Deep.Draws
import Derived.Deep.AppendLies
import Derived.Maps.AppendAt
import Derived.OwnWalk
import Derived.Laws.BytesArg
import Derived.Laws.MakeOwn
import Derived.Laws.OwnMore
import Derived.Deep.OwnRows
import Derived.Tactics
import Derived.Lib.ConvBytes
import Derived.Laws.Slices
import Derived.WalkKit
import Derived.KernelRfl
import Derived.RowKit3
import Derived.Deep.LoopGhost
import Derived.Deep.QuietTactic
import Derived.BigQuiet
import Derived.WideLaws
import Derived.Deep.DeepCutAuto
import Derived.Deep.CutBlock
import Derived.Deep.RegionHeld3
import Derived.Laws.Rows
import Derived.Lib.AppendStr
import Derived.ArgAppend
import Derived.Laws.IdiomCopy
import Derived.OrdersHeld
import Derived.Laws.BitsLemmas
import Derived.RowKit
import Derived.Test.YtcieieacfoaklaaGreatV0
import Derived.Laws.Tables
import Derived.Outline
import Derived.WalkSpells
import Derived.Laws.Cover3
import Derived.Stop.BytesEq
import Derived.Lib.SlBytesConst
import Derived.RangeFuncNested
import Derived.RangeFuncBound
import Derived.RangeFuncCalls
import Derived.RangeFuncLeaves
import Derived.Shelf.Abstract
import Derived.Shelf.RegionOpen
import Derived.OwnWalkIn
import Derived.TacticsInMore
import Derived.LoopNIn
import Derived.LoopIn
import Derived.Maps.Own
import Derived.Maps.OwnSet
import Derived.Maps.OwnIn
import Derived.Maps.Views
import Derived.Sort.KeysCollected
import Derived.Maps.RangeWalk
import Derived.RangeFuncFrom
import Derived.Shelf.SlMaps.Clone
import Derived.Shelf.SlicesE.DeleteFunc
import Derived.Shelf.SlicesQ.IndexFunc
import Derived.Shelf.Slices.Clone
import Derived.Shelf.Slices.Turned
import Derived.Shelf.Slices.CompactI
import Derived.Shelf.Sort.Plain
import Derived.Shelf.Slices.In.SortNone
import Derived.Shelf.SlIter.Nil
set_option linter.unusedVariables false
set_option linter.unusedSimpArgs false
set_option maxRecDepth 100000
set_option maxHeartbeats 8000000
namespace Go.Proofs.YtcieieacfoaklaaGreat
open Go.RowKit YtcieieacfoaklaaGreatW.PrintWords YtcieieacfoaklaaGreatW.PrintLast YtcieieacfoaklaaGreatW.PrintMore
section
namespace Pt
attribute [local go_sem] max2_int min2_int max_two min_two max_three min_three max_four min_four   -- for this text's walks alone



def errW:Option Int→Value
 | none=>.nilIface
 | some c=>.iface 0 (.int .i64 c)
theorem errW_none:errW none=.nilIface:=rfl
theorem errW_some (c:Int):errW (some c)=.iface 0 (.int .i64 c):=rfl

theorem info5:(Tryz.prog.info? 5).map (fun i=>(i.zero,i.size,i.bytes))=some (some (.int .u8 0),1,1):=by kernel_rfl
theorem info45:(Tryz.prog.info? 45).map (fun i=>(i.zero,i.size,i.bytes))=some (some (.agg #[(.int .i64 0),(.string ⟨#[]⟩),(.int .i64 0),(.int .i64 0)]),4,40):=by kernel_rfl
theorem info57:(Tryz.prog.info? 57).map (fun i=>(i.zero,i.size,i.bytes))=some (some (.agg #[(.int .i64 0),(.int .i64 0),(.int .i64 0)]),3,24):=by kernel_rfl
theorem info200:(Tryz.prog.info? 200).map (fun i=>(i.zero,i.size,i.bytes))=some (some (.agg #[(.int .i64 0),(.int .i64 0),(.slice none 0 0)]),3,40):=by kernel_rfl
theorem info206:(Tryz.prog.info? 206).map (fun i=>(i.zero,i.size,i.bytes))=some (some (.agg #[(.int .i64 0),(.int .i64 0),(.int .i64 0),(.string ⟨#[]⟩),(.int .i64 0),(.int .i64 0),(.int .i64 0),(.slice none 0 0),(.slice none 0 0)]),9,112):=by kernel_rfl
structure S45 where
 f0:Int
 f1:ByteArray
 f2:Int
 f3:Int
def z45:S45:=⟨(0:Int),(⟨#[]⟩:ByteArray),(0:Int),(0:Int)⟩
def k45:Kd S45:=Kd.iso (Kd.pair (Kd.int .i64) (Kd.pair Kd.string (Kd.pair (Kd.int .i64) (Kd.int .i64)))) (fun x:S45=>(x.f0,x.f1,x.f2,x.f3))
theorem k45_open {w:World} {x:S45} {cs:List Value} (h:k45.K w x cs):cs=[.int .i64 x.f0,.string x.f1,.int .i64 x.f2,.int .i64 x.f3]:=by
 obtain⟨_,_,rfl,rfl,⟨_,_,rfl,rfl,⟨_,_,rfl,rfl,rfl⟩⟩⟩:=h
 exact rfl
theorem k45_openM {w:World} {base:Nat} {ok:Nat→Prop} {x:S45} {cs:List Value} (h:k45.M w base ok x cs):cs=[.int .i64 x.f0,.string x.f1,.int .i64 x.f2,.int .i64 x.f3]:=by
 obtain⟨_,_,rfl,rfl,⟨_,_,rfl,rfl,⟨_,_,rfl,rfl,rfl⟩⟩⟩:=h
 exact rfl
theorem k45_mkM (w:World) (base:Nat) (ok:Nat→Prop) (x:S45) :k45.M w base ok x [.int .i64 x.f0,.string x.f1,.int .i64 x.f2,.int .i64 x.f3]:=⟨[.int .i64 x.f0],[.string x.f1,.int .i64 x.f2,.int .i64 x.f3],rfl,rfl,⟨[.string x.f1],[.int .i64 x.f2,.int .i64 x.f3],rfl,rfl,⟨[.int .i64 x.f2],[.int .i64 x.f3],rfl,rfl,rfl⟩⟩⟩
def rd_T45 (xs:List S45) (i:Int):S45:=xs.getD i.toNat z45
theorem at_T45 {w:World} {A:Option Addr} {n:Nat} {xs:List S45} (h:Kd.C k45 w A n xs) (i:Int) (h0:0≤i) (h1:i < n):∃ad,A=some ad∧w.cell? (ad.add (i.toNat *4))=some (.int .i64 (rd_T45 xs i).f0)∧w.cell? ⟨(ad.add (i.toNat *4)).block,(ad.add (i.toNat *4)).off+1,none⟩=some (.string (rd_T45 xs i).f1)∧w.cell? ⟨(ad.add (i.toNat *4)).block,(ad.add (i.toNat *4)).off+2,none⟩=some (.int .i64 (rd_T45 xs i).f2)∧w.cell? ⟨(ad.add (i.toNat *4)).block,(ad.add (i.toNat *4)).off+3,none⟩=some (.int .i64 (rd_T45 xs i).f3):=by
 obtain⟨ad,c,e,_,hK,hc0⟩:=Kd.C_get h z45 i h0 h1
 have hc:∀j u,c[j]? =some u→w.cell? (ad.add (i.toNat *4+j))=some u:=hc0
 obtain rfl:=k45_open hK
 exact⟨ad,e,hc 0 _ rfl,by rw[← add_field _ _ 1 (by omega)];exact hc 1 _ rfl,by rw[← add_field _ _ 2 (by omega)];exact hc 2 _ rfl,by rw[← add_field _ _ 3 (by omega)];exact hc 3 _ rfl⟩

structure S57 where
 f0:Int
 f1:Int
 f2:Int
def z57:S57:=⟨(0:Int),(0:Int),(0:Int)⟩
def k57:Kd S57:=Kd.iso (Kd.pair (Kd.int .i64) (Kd.pair (Kd.int .i64) (Kd.int .i64))) (fun x:S57=>(x.f0,x.f1,x.f2))
theorem k57_open {w:World} {x:S57} {cs:List Value} (h:k57.K w x cs):cs=[.int .i64 x.f0,.int .i64 x.f1,.int .i64 x.f2]:=by
 obtain⟨_,_,rfl,rfl,⟨_,_,rfl,rfl,rfl⟩⟩:=h
 exact rfl
theorem k57_mk (w:World) (x:S57) :k57.K w x [.int .i64 x.f0,.int .i64 x.f1,.int .i64 x.f2]:=⟨[.int .i64 x.f0],[.int .i64 x.f1,.int .i64 x.f2],rfl,rfl,⟨[.int .i64 x.f1],[.int .i64 x.f2],rfl,rfl,rfl⟩⟩
theorem k57_mkM (w:World) (base:Nat) (ok:Nat→Prop) (x:S57) :k57.M w base ok x [.int .i64 x.f0,.int .i64 x.f1,.int .i64 x.f2]:=⟨[.int .i64 x.f0],[.int .i64 x.f1,.int .i64 x.f2],rfl,rfl,⟨[.int .i64 x.f1],[.int .i64 x.f2],rfl,rfl,rfl⟩⟩
def rd_T57 (xs:List S57) (i:Int):S57:=xs.getD i.toNat z57
theorem at_T57 {w:World} {A:Option Addr} {n:Nat} {xs:List S57} (h:Kd.C k57 w A n xs) (i:Int) (h0:0≤i) (h1:i < n):∃ad,A=some ad∧w.cell? (ad.add (i.toNat *3))=some (.int .i64 (rd_T57 xs i).f0)∧w.cell? ⟨(ad.add (i.toNat *3)).block,(ad.add (i.toNat *3)).off+1,none⟩=some (.int .i64 (rd_T57 xs i).f1)∧w.cell? ⟨(ad.add (i.toNat *3)).block,(ad.add (i.toNat *3)).off+2,none⟩=some (.int .i64 (rd_T57 xs i).f2):=by
 obtain⟨ad,c,e,_,hK,hc0⟩:=Kd.C_get h z57 i h0 h1
 have hc:∀j u,c[j]? =some u→w.cell? (ad.add (i.toNat *3+j))=some u:=hc0
 obtain rfl:=k57_open hK
 exact⟨ad,e,hc 0 _ rfl,by rw[← add_field _ _ 1 (by omega)];exact hc 1 _ rfl,by rw[← add_field _ _ 2 (by omega)];exact hc 2 _ rfl⟩

structure S38 where
 f0:Int
 f1:ByteArray
 f2:Int
 f3:Int
 f4:Int
 f5:(List S57)
 f6:(List Int)
def z38:S38:=⟨(0:Int),(⟨#[]⟩:ByteArray),(0:Int),(0:Int),(0:Int),([]:List S57),([]:List Int)⟩
def k38:Kd S38:=Kd.iso (Kd.pair (Kd.int .i64) (Kd.pair Kd.string (Kd.pair (Kd.int .i64) (Kd.pair (Kd.int .i64) (Kd.pair (Kd.int .i64) (Kd.pair (Kd.slice 57 k57) (Kd.slice 5 (Kd.int .u8)))))))) (fun x:S38=>(x.f0,x.f1,x.f2,x.f3,x.f4,x.f5,x.f6))
theorem k38_open {w:World} {x:S38} {cs:List Value} (h:k38.K w x cs):∃A5 c5 A6 c6,cs=[.int .i64 x.f0,.string x.f1,.int .i64 x.f2,.int .i64 x.f3,.int .i64 x.f4,.slice A5 x.f5.length c5,.slice A6 x.f6.length c6]∧x.f5.length≤c5∧k57.C w A5 x.f5.length x.f5∧x.f6.length≤c6∧(Kd.int .u8).C w A6 x.f6.length x.f6:=by
 obtain⟨_,_,rfl,rfl,⟨_,_,rfl,rfl,⟨_,_,rfl,rfl,⟨_,_,rfl,rfl,⟨_,_,rfl,rfl,⟨_,_,rfl,⟨A5,c5,rfl,l5,g5⟩,⟨A6,c6,rfl,l6,g6⟩⟩⟩⟩⟩⟩⟩:=h
 exact⟨A5,c5,A6,c6,rfl,l5,g5,l6,g6⟩
theorem k38_mk (w:World) (x:S38) {A5:Option Addr} {c5:Nat} (l5:x.f5.length≤c5) (g5:k57.C w A5 x.f5.length x.f5) {A6:Option Addr} {c6:Nat} (l6:x.f6.length≤c6) (g6:(Kd.int .u8).C w A6 x.f6.length x.f6):k38.K w x [.int .i64 x.f0,.string x.f1,.int .i64 x.f2,.int .i64 x.f3,.int .i64 x.f4,.slice A5 x.f5.length c5,.slice A6 x.f6.length c6]:=⟨[.int .i64 x.f0],[.string x.f1,.int .i64 x.f2,.int .i64 x.f3,.int .i64 x.f4,.slice A5 x.f5.length c5,.slice A6 x.f6.length c6],rfl,rfl,⟨[.string x.f1],[.int .i64 x.f2,.int .i64 x.f3,.int .i64 x.f4,.slice A5 x.f5.length c5,.slice A6 x.f6.length c6],rfl,rfl,⟨[.int .i64 x.f2],[.int .i64 x.f3,.int .i64 x.f4,.slice A5 x.f5.length c5,.slice A6 x.f6.length c6],rfl,rfl,⟨[.int .i64 x.f3],[.int .i64 x.f4,.slice A5 x.f5.length c5,.slice A6 x.f6.length c6],rfl,rfl,⟨[.int .i64 x.f4],[.slice A5 x.f5.length c5,.slice A6 x.f6.length c6],rfl,rfl,⟨[.slice A5 x.f5.length c5],[.slice A6 x.f6.length c6],rfl,⟨A5,c5,rfl,l5,g5⟩,⟨A6,c6,rfl,l6,g6⟩⟩⟩⟩⟩⟩⟩
theorem k38_mkM (w:World) (base:Nat) (ok:Nat→Prop) (x:S38) {v5:Value} (g5:k57.R 57 w base ok v5 x.f5) {v6:Value} (g6:(Kd.int .u8).R 5 w base ok v6 x.f6):k38.M w base ok x [.int .i64 x.f0,.string x.f1,.int .i64 x.f2,.int .i64 x.f3,.int .i64 x.f4,v5,v6]:=⟨[.int .i64 x.f0],[.string x.f1,.int .i64 x.f2,.int .i64 x.f3,.int .i64 x.f4,v5,v6],rfl,rfl,⟨[.string x.f1],[.int .i64 x.f2,.int .i64 x.f3,.int .i64 x.f4,v5,v6],rfl,rfl,⟨[.int .i64 x.f2],[.int .i64 x.f3,.int .i64 x.f4,v5,v6],rfl,rfl,⟨[.int .i64 x.f3],[.int .i64 x.f4,v5,v6],rfl,rfl,⟨[.int .i64 x.f4],[v5,v6],rfl,rfl,⟨[v5],[v6],rfl,⟨v5,rfl,g5⟩,⟨v6,rfl,g6⟩⟩⟩⟩⟩⟩⟩
structure S40 where
 f0:Int
 f1:(List Int)
 f2:S38
 f3:Int
def z40:S40:=⟨(0:Int),([]:List Int),z38,(0:Int)⟩
def k40:Kd S40:=Kd.iso (Kd.pair (Kd.int .i64) (Kd.pair (Kd.slice 5 (Kd.int .u8)) (Kd.pair k38 (Kd.int .i64)))) (fun x:S40=>(x.f0,x.f1,x.f2,x.f3))
theorem k40_open {w:World} {x:S40} {cs:List Value} (h:k40.K w x cs):∃A1 c1 A7 c7 A8 c8,cs=[.int .i64 x.f0,.slice A1 x.f1.length c1,.int .i64 x.f2.f0,.string x.f2.f1,.int .i64 x.f2.f2,.int .i64 x.f2.f3,.int .i64 x.f2.f4,.slice A7 x.f2.f5.length c7,.slice A8 x.f2.f6.length c8,.int .i64 x.f3]∧x.f1.length≤c1∧(Kd.int .u8).C w A1 x.f1.length x.f1∧x.f2.f5.length≤c7∧k57.C w A7 x.f2.f5.length x.f2.f5∧x.f2.f6.length≤c8∧(Kd.int .u8).C w A8 x.f2.f6.length x.f2.f6:=by
 obtain⟨_,_,rfl,rfl,⟨_,_,rfl,⟨A1,c1,rfl,l1,g1⟩,⟨_,_,rfl,s2,rfl⟩⟩⟩:=h
 obtain⟨A7,c7,A8,c8,rfl,l7,g7,l8,g8⟩:=k38_open s2
 exact⟨A1,c1,A7,c7,A8,c8,rfl,l1,g1,l7,g7,l8,g8⟩
def rd_T40 (xs:List S40) (i:Int):S40:=xs.getD i.toNat z40
theorem at_T40 {w:World} {A:Option Addr} {n:Nat} {xs:List S40} (h:Kd.C k40 w A n xs) (i:Int) (h0:0≤i) (h1:i < n):∃ad A1 c1 A7 c7 A8 c8,A=some ad∧w.cell? (ad.add (i.toNat *10))=some (.int .i64 (rd_T40 xs i).f0)∧w.cell? ⟨(ad.add (i.toNat *10)).block,(ad.add (i.toNat *10)).off+1,none⟩=some (.slice A1 (rd_T40 xs i).f1.length c1)∧w.cell? ⟨(ad.add (i.toNat *10)).block,(ad.add (i.toNat *10)).off+2,none⟩=some (.int .i64 (rd_T40 xs i).f2.f0)∧w.cell? ⟨(ad.add (i.toNat *10)).block,(ad.add (i.toNat *10)).off+3,none⟩=some (.string (rd_T40 xs i).f2.f1)∧w.cell? ⟨(ad.add (i.toNat *10)).block,(ad.add (i.toNat *10)).off+4,none⟩=some (.int .i64 (rd_T40 xs i).f2.f2)∧w.cell? ⟨(ad.add (i.toNat *10)).block,(ad.add (i.toNat *10)).off+5,none⟩=some (.int .i64 (rd_T40 xs i).f2.f3)∧w.cell? ⟨(ad.add (i.toNat *10)).block,(ad.add (i.toNat *10)).off+6,none⟩=some (.int .i64 (rd_T40 xs i).f2.f4)∧w.cell? ⟨(ad.add (i.toNat *10)).block,(ad.add (i.toNat *10)).off+7,none⟩=some (.slice A7 (rd_T40 xs i).f2.f5.length c7)∧w.cell? ⟨(ad.add (i.toNat *10)).block,(ad.add (i.toNat *10)).off+8,none⟩=some (.slice A8 (rd_T40 xs i).f2.f6.length c8)∧w.cell? ⟨(ad.add (i.toNat *10)).block,(ad.add (i.toNat *10)).off+9,none⟩=some (.int .i64 (rd_T40 xs i).f3)∧(rd_T40 xs i).f1.length≤c1∧(Kd.int .u8).C w A1 (rd_T40 xs i).f1.length (rd_T40 xs i).f1∧(rd_T40 xs i).f2.f5.length≤c7∧k57.C w A7 (rd_T40 xs i).f2.f5.length (rd_T40 xs i).f2.f5∧(rd_T40 xs i).f2.f6.length≤c8∧(Kd.int .u8).C w A8 (rd_T40 xs i).f2.f6.length (rd_T40 xs i).f2.f6:=by
 obtain⟨ad,c,e,_,hK,hc0⟩:=Kd.C_get h z40 i h0 h1
 have hc:∀j u,c[j]? =some u→w.cell? (ad.add (i.toNat *10+j))=some u:=hc0
 obtain⟨A1,c1,A7,c7,A8,c8,rfl,l1,g1,l7,g7,l8,g8⟩:=k40_open hK
 exact⟨ad,A1,c1,A7,c7,A8,c8,e,hc 0 _ rfl,by rw[← add_field _ _ 1 (by omega)];exact hc 1 _ rfl,by rw[← add_field _ _ 2 (by omega)];exact hc 2 _ rfl,by rw[← add_field _ _ 3 (by omega)];exact hc 3 _ rfl,by rw[← add_field _ _ 4 (by omega)];exact hc 4 _ rfl,by rw[← add_field _ _ 5 (by omega)];exact hc 5 _ rfl,by rw[← add_field _ _ 6 (by omega)];exact hc 6 _ rfl,by rw[← add_field _ _ 7 (by omega)];exact hc 7 _ rfl,by rw[← add_field _ _ 8 (by omega)];exact hc 8 _ rfl,by rw[← add_field _ _ 9 (by omega)];exact hc 9 _ rfl,l1,g1,l7,g7,l8,g8⟩

structure S200 where
 f0:Int
 f1:Int
 f2:(List Int)
def z200:S200:=⟨(0:Int),(0:Int),([]:List Int)⟩
def k200:Kd S200:=Kd.iso (Kd.pair (Kd.int .i64) (Kd.pair (Kd.int .i64) (Kd.slice 5 (Kd.int .u8)))) (fun x:S200=>(x.f0,x.f1,x.f2))
theorem k200_open {w:World} {x:S200} {cs:List Value} (h:k200.K w x cs):∃A2 c2,cs=[.int .i64 x.f0,.int .i64 x.f1,.slice A2 x.f2.length c2]∧x.f2.length≤c2∧(Kd.int .u8).C w A2 x.f2.length x.f2:=by
 obtain⟨_,_,rfl,rfl,⟨_,_,rfl,rfl,⟨A2,c2,rfl,l2,g2⟩⟩⟩:=h
 exact⟨A2,c2,rfl,l2,g2⟩
theorem k200_mkM (w:World) (base:Nat) (ok:Nat→Prop) (x:S200) {v2:Value} (g2:(Kd.int .u8).R 5 w base ok v2 x.f2):k200.M w base ok x [.int .i64 x.f0,.int .i64 x.f1,v2]:=⟨[.int .i64 x.f0],[.int .i64 x.f1,v2],rfl,rfl,⟨[.int .i64 x.f1],[v2],rfl,rfl,⟨v2,rfl,g2⟩⟩⟩
def rd_T200 (xs:List S200) (i:Int):S200:=xs.getD i.toNat z200
theorem at_T200 {w:World} {A:Option Addr} {n:Nat} {xs:List S200} (h:Kd.C k200 w A n xs) (i:Int) (h0:0≤i) (h1:i < n):∃ad A2 c2,A=some ad∧w.cell? (ad.add (i.toNat *3))=some (.int .i64 (rd_T200 xs i).f0)∧w.cell? ⟨(ad.add (i.toNat *3)).block,(ad.add (i.toNat *3)).off+1,none⟩=some (.int .i64 (rd_T200 xs i).f1)∧w.cell? ⟨(ad.add (i.toNat *3)).block,(ad.add (i.toNat *3)).off+2,none⟩=some (.slice A2 (rd_T200 xs i).f2.length c2)∧(rd_T200 xs i).f2.length≤c2∧(Kd.int .u8).C w A2 (rd_T200 xs i).f2.length (rd_T200 xs i).f2:=by
 obtain⟨ad,c,e,_,hK,hc0⟩:=Kd.C_get h z200 i h0 h1
 have hc:∀j u,c[j]? =some u→w.cell? (ad.add (i.toNat *3+j))=some u:=hc0
 obtain⟨A2,c2,rfl,l2,g2⟩:=k200_open hK
 exact⟨ad,A2,c2,e,hc 0 _ rfl,by rw[← add_field _ _ 1 (by omega)];exact hc 1 _ rfl,by rw[← add_field _ _ 2 (by omega)];exact hc 2 _ rfl,l2,g2⟩

structure S206 where
 f0:Int
 f1:Int
 f2:S38
def z206:S206:=⟨(0:Int),(0:Int),z38⟩
def k206:Kd S206:=Kd.iso (Kd.pair (Kd.int .i64) (Kd.pair (Kd.int .i64) k38)) (fun x:S206=>(x.f0,x.f1,x.f2))
theorem k206_open {w:World} {x:S206} {cs:List Value} (h:k206.K w x cs):∃A7 c7 A8 c8,cs=[.int .i64 x.f0,.int .i64 x.f1,.int .i64 x.f2.f0,.string x.f2.f1,.int .i64 x.f2.f2,.int .i64 x.f2.f3,.int .i64 x.f2.f4,.slice A7 x.f2.f5.length c7,.slice A8 x.f2.f6.length c8]∧x.f2.f5.length≤c7∧k57.C w A7 x.f2.f5.length x.f2.f5∧x.f2.f6.length≤c8∧(Kd.int .u8).C w A8 x.f2.f6.length x.f2.f6:=by
 obtain⟨_,_,rfl,rfl,⟨_,_,rfl,rfl,s2⟩⟩:=h
 obtain⟨A7,c7,A8,c8,rfl,l7,g7,l8,g8⟩:=k38_open s2
 exact⟨A7,c7,A8,c8,rfl,l7,g7,l8,g8⟩
theorem k206_mkM (w:World) (base:Nat) (ok:Nat→Prop) (x:S206) {v7:Value} (g7:k57.R 57 w base ok v7 x.f2.f5) {v8:Value} (g8:(Kd.int .u8).R 5 w base ok v8 x.f2.f6):k206.M w base ok x [.int .i64 x.f0,.int .i64 x.f1,.int .i64 x.f2.f0,.string x.f2.f1,.int .i64 x.f2.f2,.int .i64 x.f2.f3,.int .i64 x.f2.f4,v7,v8]:=⟨[.int .i64 x.f0],[.int .i64 x.f1,.int .i64 x.f2.f0,.string x.f2.f1,.int .i64 x.f2.f2,.int .i64 x.f2.f3,.int .i64 x.f2.f4,v7,v8],rfl,rfl,⟨[.int .i64 x.f1],[.int .i64 x.f2.f0,.string x.f2.f1,.int .i64 x.f2.f2,.int .i64 x.f2.f3,.int .i64 x.f2.f4,v7,v8],rfl,rfl,(k38_mkM w base ok x.f2 g7 g8)⟩⟩
def rd_T206 (xs:List S206) (i:Int):S206:=xs.getD i.toNat z206
theorem at_T206 {w:World} {A:Option Addr} {n:Nat} {xs:List S206} (h:Kd.C k206 w A n xs) (i:Int) (h0:0≤i) (h1:i < n):∃ad A7 c7 A8 c8,A=some ad∧w.cell? (ad.add (i.toNat *9))=some (.int .i64 (rd_T206 xs i).f0)∧w.cell? ⟨(ad.add (i.toNat *9)).block,(ad.add (i.toNat *9)).off+1,none⟩=some (.int .i64 (rd_T206 xs i).f1)∧w.cell? ⟨(ad.add (i.toNat *9)).block,(ad.add (i.toNat *9)).off+2,none⟩=some (.int .i64 (rd_T206 xs i).f2.f0)∧w.cell? ⟨(ad.add (i.toNat *9)).block,(ad.add (i.toNat *9)).off+3,none⟩=some (.string (rd_T206 xs i).f2.f1)∧w.cell? ⟨(ad.add (i.toNat *9)).block,(ad.add (i.toNat *9)).off+4,none⟩=some (.int .i64 (rd_T206 xs i).f2.f2)∧w.cell? ⟨(ad.add (i.toNat *9)).block,(ad.add (i.toNat *9)).off+5,none⟩=some (.int .i64 (rd_T206 xs i).f2.f3)∧w.cell? ⟨(ad.add (i.toNat *9)).block,(ad.add (i.toNat *9)).off+6,none⟩=some (.int .i64 (rd_T206 xs i).f2.f4)∧w.cell? ⟨(ad.add (i.toNat *9)).block,(ad.add (i.toNat *9)).off+7,none⟩=some (.slice A7 (rd_T206 xs i).f2.f5.length c7)∧w.cell? ⟨(ad.add (i.toNat *9)).block,(ad.add (i.toNat *9)).off+8,none⟩=some (.slice A8 (rd_T206 xs i).f2.f6.length c8)∧(rd_T206 xs i).f2.f5.length≤c7∧k57.C w A7 (rd_T206 xs i).f2.f5.length (rd_T206 xs i).f2.f5∧(rd_T206 xs i).f2.f6.length≤c8∧(Kd.int .u8).C w A8 (rd_T206 xs i).f2.f6.length (rd_T206 xs i).f2.f6:=by
 obtain⟨ad,c,e,_,hK,hc0⟩:=Kd.C_get h z206 i h0 h1
 have hc:∀j u,c[j]? =some u→w.cell? (ad.add (i.toNat *9+j))=some u:=hc0
 obtain⟨A7,c7,A8,c8,rfl,l7,g7,l8,g8⟩:=k206_open hK
 exact⟨ad,A7,c7,A8,c8,e,hc 0 _ rfl,by rw[← add_field _ _ 1 (by omega)];exact hc 1 _ rfl,by rw[← add_field _ _ 2 (by omega)];exact hc 2 _ rfl,by rw[← add_field _ _ 3 (by omega)];exact hc 3 _ rfl,by rw[← add_field _ _ 4 (by omega)];exact hc 4 _ rfl,by rw[← add_field _ _ 5 (by omega)];exact hc 5 _ rfl,by rw[← add_field _ _ 6 (by omega)];exact hc 6 _ rfl,by rw[← add_field _ _ 7 (by omega)];exact hc 7 _ rfl,by rw[← add_field _ _ 8 (by omega)];exact hc 8 _ rfl,l7,g7,l8,g8⟩

end Pt
end
section
namespace Dk
open Pt

structure Keeps (F:Nat→Prop) (w w1:World):Prop where
 os:w1.os=w.os
 tape:w1.tape=w.tape
 output:w1.output=w.output
 size:w.heap.size≤w1.heap.size
 block:∀k,k < w.heap.size→¬F k→w1.heap[k]? =w.heap[k]?
theorem Keeps.refl (F:Nat→Prop) (w:World):Keeps F w w:=⟨rfl,rfl,rfl,Nat.le_refl _,fun _ _ _=>rfl⟩
theorem Keeps.trans {F:Nat→Prop} {w w1 w2:World} (h:Keeps F w w1) (h1:Keeps F w1 w2):Keeps F w w2:=
 ⟨h1.os.trans h.os,h1.tape.trans h.tape,h1.output.trans h.output,Nat.le_trans h.size h1.size,fun k hk hf=>(h1.block k (Nat.lt_of_lt_of_le hk h.size) hf).trans (h.block k hk hf)⟩
theorem Keeps.mono {F G:Nat→Prop} {w w1:World} (h:Keeps F w w1) (hs:∀k,F k→G k):Keeps G w w1:=⟨h.os,h.tape,h.output,h.size,fun k hk hf=>h.block k hk (fun e=>hf (hs k e))⟩
theorem Keeps.of_below {F:Nat→Prop} {w w1:World} (h:RowKit.Below w.heap.size w w1):Keeps F w w1:=⟨h.os,h.tape,h.output,h.size,fun k hk _=>h.block k hk⟩
theorem Keeps.drewN {F:Nat→Prop} {w w1:World} (h:Keeps F w w1) (n:Nat):Keeps F w (w1.drewN n):=⟨h.os,h.tape,h.output,h.size,h.block⟩
theorem Keeps.drew {F:Nat→Prop} {w w1:World} (h:Keeps F w w1):Keeps F w w1.drew:=⟨h.os,h.tape,h.output,h.size,h.block⟩
theorem Keeps.set {F:Nat→Prop} {w w1:World} (h:Keeps F w w1) {g j:Nat} {u:Value} (hg:F g):Keeps F w (w1.setCell ⟨g,j,none⟩ u):=
 ⟨h.os,h.tape,h.output,by simpa [World.setCell] using h.size,fun k hk hf=>(Below.heap_setCell w1 ⟨g,j,none⟩ u k (fun e=>hf (by rw[e];exact hg))).trans (h.block k hk hf)⟩
theorem Keeps.obj {F:Nat→Prop} {w w1:World} (h:Keeps F w w1) {k:Nat} {o:Obj} (ho:w.heap[k]? =some o) (hf:¬F k):w1.heap[k]? =some o:=(h.block k (blk_lt ho) hf).trans ho

theorem Keeps.cell {F:Nat→Prop} {w w1:World} (h:Keeps F w w1) {a:Addr} {v:Value} (hc:w.cell? a=some v) (hf:¬F a.block):w1.cell? a=some v:=by
 have hb:=h.block a.block (World.block_lt_of_cell? w _ hc) hf
 rw[← hc]
 simp only[World.cell?,hb]

def nowB (b:Bool) (n:Int):Bool:=b && n==0
def nowN (b:Bool) (n:Int):Int:=if b && n !=0 then wrap64 (n - 1) else n
theorem now_calls (g o:Nat) (cs:Array Value) (t:TypeId) (b:Bool) (n:Int) (w:World) (hb:w.heap[g]? =some (.cells cs t (0,0))) (h0:cs[o]? =some (.bool b)) (h1:cs[o+1]? =some (.int .i64 n)):
  Calls Tryz.prog 155 #[.pointer (some ⟨g,o,none⟩)] w fun e w'=>e=.returned (.bool (nowB b n))∧w'.heap[g]? =some (.cells (cs.setIfInBounds (o+1) (.int .i64 (nowN b n))) t (0,0))∧Keeps (·=g) w w':=by
 have x0:=(blk_cell hb o).trans h0
 have x1:=(blk_cell hb (o+1)).trans h1
 have z1:=blk_frozen hb (o+1)
 have hsame:cs.setIfInBounds (o+1) (.int .i64 n)=cs:=by
  apply Array.ext_getElem?
  intro i
  rw[Array.getElem?_setIfInBounds]
  split
  ·rename_i h;subst h;split
   ·exact h1.symm
   ·rename_i h2;rw[Array.getElem?_eq_none (by omega)]
  ·rfl
 have HB:=ak hb
 have HS:=ak hsame
 clear hb h0 h1 hsame
 go_enter Tryz.func155,Tryz.ntmps155
 cases b with
 | false=>
  go_wp2
  repeat (go_quiet (fail);try go_wp2)
  go_ret
  exact⟨rfl,by rw[show nowN false n=n from rfl,HS.out];exact HB.out,Keeps.refl _ _⟩
 | true=>
  by_cases hn:n=0
  ·subst hn
   go_wp2
   repeat (go_quiet (fail);try go_wp2)
   go_ret
   exact⟨rfl,by rw[show nowN true 0=0 from rfl,HS.out];exact HB.out,Keeps.refl _ _⟩
  ·have e0:(n==0)=false:=beq_eq_false_iff_ne.mpr hn
   have HN:=ak hn
   clear hn
   go_wp2
   repeat (go_quiet (fail);try go_wp2)
   go_ret
   have e2:nowN true n=wrap64 (n - 1):=by
    unfold nowN
    rw[if_pos (by simp [HN.out])]
   exact⟨by unfold nowB;rw[e0];rfl,by rw[e2];exact blk_set HB.out (o+1) _,(Keeps.refl _ _).set rfl⟩

structure Nums where
 most:Int
 made:Int
 done:Int
 fi:Bool
 fn:Int
 ci:Bool
 cn:Int
 down:Bool
def cellsD (d:Nums) (names kept pend:Value):Array Value:=#[.int .i64 d.most,.int .i64 d.made,.int .i64 d.done,names,kept,pend,.bool d.fi,.int .i64 d.fn,.bool d.ci,.int .i64 d.cn,.bool d.down]
def thingN (d:Nums):Nums:=
 if nowB d.ci d.cn then {d with fn:=nowN d.fi d.fn,down:=true,ci:=false,cn:=0}
 else if nowB d.fi d.fn then {d with cn:=nowN d.ci d.cn,fi:=false,fn:=0}
 else {d with cn:=nowN d.ci d.cn,fn:=nowN d.fi d.fn,done:=wrap64 (d.done+1)}
def thingE (d:Nums):Int:=if nowB d.ci d.cn then 82 else if nowB d.fi d.fn then 81 else 0
def th1T:Bool×List (List Nat×List Nat):=(true,[([],[]),([0],[0]),([1],[1]),([2],[2]),([],[]),([4],[4]),([5],[5]),([6,3],[6]),([3,7,0,1,2,3],[3]),([7,8,0,1,2,3,4,5,6,7,8],[7])])
def th1B:List Nat:=[0,1,3,7,0,16,48,127,255,511]
theorem th1tab:rtab .any (opsOf Tryz.f124 1)=th1T:=by kernel_rfl
theorem th1bits:waitsOk th1T.2 th1B=true:=by kernel_rfl
theorem thing_calls (g:Nat) (d:Nums) (v3 v4 v5:Value) (w:World) (hb:w.heap[g]? =some (.cells (cellsD d v3 v4 v5) 75 (0,0))):
  Calls Tryz.prog 124 #[.pointer (some ⟨g,0,none⟩)] w fun e w'=>e=.returned (.int .i64 (thingE d))∧w'.heap[g]? =some (.cells (cellsD (thingN d) v3 v4 v5) 75 (0,0))∧Keeps (·=g) w w':=by
 have HB:=ak hb
 clear hb
 go_enter Tryz.func124,Tryz.ntmps124
 go_upto_region 1 with(fail)
 have HB1:=ak (blk_drew HB.out)
 clear HB
 refine st_ 10 (S:=(fun w'=>Keeps (·=g) w w')) (ds:=[]) (by kernel_rfl) rfl (by kernel_rfl) (Keeps.refl _ _).drew (fun hHeld=>?_);refine with_tabW th1tab th1bits (fun HT_ HW_=>?_)
 generalize w.drew=w1 at hHeld HB1 ⊢
 refine fl_ [0,5,1,1,6,3,2,7,7,4,9,23,5,10,55,6,11,119] ?_
 iterate 6 refine pz_ HT_ ?_
 refine fe_ ?_
 refine on_ 3 127 (some 8) HT_ rfl rfl (by kernel_rfl) (by decide) (fun K hK=>?_)
 refine goes_ Tryz.func155 (by kernel_rfl) rfl #[.pointer (some ⟨g,8,none⟩)] (by rfl) rfl rfl (by(try simp only[List.map_toArray,List.map_cons,List.map_nil]);first | done | rfl) ?_
 refine(now_calls g 8 (cellsD d v3 v4 v5) _ d.ci d.cn _ HB1.out rfl rfl).mono ?_
 rintro e w2 ⟨rfl,hb,hk⟩
 have HB2:=ak hb
 clear hb HB1
 refine⟨_,rfl,?_⟩
 have hHeld:=Keeps.trans hHeld hk
 refine kz_ hK hHeld fun hHeld=>?_;clear hK K
 clear hk
 refine on_ 7 255 (some 12) HT_ rfl rfl (by kernel_rfl) (by decide) (fun K hK=>?_)
 refine goes_ Tryz.func155 (by kernel_rfl) rfl #[.pointer (some ⟨g,6,none⟩)] (by rfl) rfl rfl (by(try simp only[List.map_toArray,List.map_cons,List.map_nil]);first | done | rfl) ?_
 refine(now_calls g 6 _ _ d.fi d.fn _ HB2.out rfl rfl).mono ?_
 rintro e w3 ⟨rfl,hb,hk⟩
 have HB3:=ak hb
 clear hb HB2
 refine⟨_,rfl,?_⟩
 have hHeld:=Keeps.trans hHeld hk
 refine kz_ hK hHeld fun hHeld=>?_;clear hK K
 clear hk
 refine fl_ [8,3,511,9,4,1023] ?_
 iterate 2 refine pz_ HT_ ?_
 refine fe_ ?_
 have HK:=ak hHeld
 clear hHeld
 refine dz_ HT_ ?_
 have hb4:w3.heap[g]? =some (.cells (cellsD {d with cn:=nowN d.ci d.cn,fn:=nowN d.fi d.fn} v3 v4 v5) 75 (0,0)):=HB3.out
 have HB4:=ak hb4
 have x2:=bq hb4 2 (.int .i64 d.done)
 have x6:=bq hb4 6 (.bool d.fi)
 have x7:=bq hb4 7 (.int .i64 (nowN d.fi d.fn))
 have x8:=bq hb4 8 (.bool d.ci)
 have x9:=bq hb4 9 (.int .i64 (nowN d.ci d.cn))
 have x10:=bq hb4 10 (.bool d.down)
 have f2:=blk_frozen hb4 2
 have f6:=blk_frozen hb4 6
 have f7:=blk_frozen hb4 7
 have f8:=blk_frozen hb4 8
 have f9:=blk_frozen hb4 9
 have f10:=blk_frozen hb4 10
 clear hb4 HB3
 obtain⟨bc,hbc⟩:∃b,nowB d.ci d.cn=b:=⟨_,rfl⟩
 obtain⟨bf,hbf⟩:∃b,nowB d.fi d.fn=b:=⟨_,rfl⟩
 have HC:=ak hbc
 have HF:=ak hbf
 rw[hbc,hbf]
 clear hbc hbf
 cases bc with
 | true=>
  go_wp2
  repeat (go_quiet (fail);try go_wp2)
  go_ret
  refine⟨by unfold thingE;rw[HC.out];rfl,?_,(((HK.out.set ?_).set ?_).set ?_)⟩
  ·unfold thingN
   rw[HC.out,if_pos rfl]
   exact blk_put (blk_put (blk_put HB4.out 10 _ rfl) 8 _ rfl) 9 _ rfl
  all_goals exact rfl
 | false=>
  cases bf with
  | true=>
   go_wp2
   repeat (go_quiet (fail);try go_wp2)
   go_ret
   refine⟨by unfold thingE;rw[HC.out,HF.out];rfl,?_,((HK.out.set ?_).set ?_)⟩
   ·unfold thingN
    rw[HC.out,HF.out,if_neg (by decide),if_pos rfl]
    exact blk_put (blk_put HB4.out 6 _ rfl) 7 _ rfl
   all_goals exact rfl
  | false=>
   go_wp2
   repeat (go_quiet (fail);try go_wp2)
   go_ret
   refine⟨by unfold thingE;rw[HC.out,HF.out];rfl,?_,HK.out.set rfl⟩
   unfold thingN
   rw[HC.out,HF.out,if_neg (by decide),if_neg (by decide)]
   exact blk_put HB4.out 2 _ rfl
end Dk
end
section
section
namespace Fr

theorem not_u8 (x:Int) (h0:0≤x) (h1:x < 256):bits .xor .u8 IntKind.u8.max x=255 - x:=by
 obtain⟨m,rfl⟩:=Int.eq_ofNat_of_zero_le h0
 have h1:m < 256:=by omega
 have key:∀m:Fin 256,bits .xor .u8 IntKind.u8.max ((m.val:Nat):Int)=255 - ((m.val:Nat):Int):=by decide+kernel
 exact key ⟨m,h1⟩

theorem length_calls (n:Int) (h0:0≤n) (h1:n < 65536) (w:World):
  Calls Tryz.prog 122 #[.int .i64 n] w fun e w'=>e=.returned (.agg #[.int .u8 (n / 256),.int .u8 (n % 256),.int .u8 (255 - n / 256),.int .u8 (255 - n % 256)])∧Below w.heap.size w w':=by
 have hx:=not_u8 (n / 256) (by omega) (by omega)
 have hy:=not_u8 (n % 256) (by omega) (by omega)
 go_enter Tryz.func122,Tryz.ntmps122
 go_wp2
 refine bodyPost_ret (results_cell_row rfl _ _ w.heap.size 178 _ (0,0) _ rfl (heap_alloc_new _ _) Tryz.underlying178 rfl (by kernel_rfl)) rfl ?_
 exact⟨rfl,below_alloc (Below.refl _ _) _⟩

def stepI (s:Int):Int:=bits .xor .u32 (s / 2) (bits .and .u32 s 1*2197175160 % 4294967296)
def stepsI:Nat→Int→Int
 | 0,s=>s
 | n+1,s=>stepI (stepsI n s)
theorem xor_u32_range (a b:Int):0≤bits .xor .u32 a b∧bits .xor .u32 a b < 4294967296:=by
 simp only[bits,IntKind.wrap_u32]
 omega
theorem stepsI_range (n:Nat) (s:Int) (h0:0≤s) (h1:s < 4294967296):0≤stepsI n s∧stepsI n s < 4294967296:=by
 cases n with
 | zero=>exact⟨h0,h1⟩
 | succ n=>exact xor_u32_range _ _
def tabCell (k i:Nat):Value:=.int .u32 (if i < k then stepsI 8 (i:Int) else 0)
def tabCells (k:Nat):Array Value:=((List.range 256).map (tabCell k)).toArray
theorem tabCells_size (k:Nat):(tabCells k).size=256:=by simp [tabCells]
theorem tabCells_get (k i:Nat) (h:i < 256):(tabCells k)[i]? =some (tabCell k i):=by
 simp [tabCells,h]
theorem tabCells_next (k:Nat) (h:k < 256):(tabCells k).setIfInBounds k (.int .u32 (stepsI 8 (k:Int)))=tabCells (k+1):=by
 apply Array.ext_getElem?
 intro i
 rw[Array.getElem?_setIfInBounds]
 by_cases hi:i < 256
 ·rw[tabCells_get _ _ hi,tabCells_get _ _ hi,tabCells_size]
  by_cases e:k=i
  ·subst e
   rw[if_pos rfl,if_pos h]
   simp [tabCell]
  ·rw[if_neg e]
   simp only[tabCell]
   congr 2
   by_cases hk:i < k
   ·rw[if_pos hk,if_pos (by omega)]
   ·rw[if_neg hk,if_neg (by omega)]
 ·rw[Array.getElem?_eq_none (by rw[tabCells_size];omega),Array.getElem?_eq_none (by rw[tabCells_size];omega)]
  split <;> simp_all

theorem below_setRow {B:Nat} {a w:World} (h:Below B a w) {g:Nat} (hg:B≤g) (cs:Array Value):Below B a (w.setRow g cs):=
 h.trans ⟨rfl,rfl,rfl,by simp,fun k hk=>by simp only[World.setRow,Array.getElem?_modify];rw[if_neg (by omega)]⟩
theorem table_calls (w:World):
  Calls Tryz.prog 154 #[] w fun e w'=>e=.returned (.agg (tabCells 256))∧Below w.heap.size w w':=by
 obtain⟨Z,HZ⟩:∃Z,Aside0 (Z=tabCells 0):=⟨_,⟨rfl⟩⟩
 have hz:∀w,(zeroValue 218).run Tryz.prog w=.ok (.agg Z) w:=fun w=>by rw[HZ.out];kernel_rfl
 have hzs:Z.size=256:=by rw[HZ.out];exact tabCells_size 0
 have hzn:¬Z=#[]:=by intro h;rw[h] at hzs;simp at hzs
 go_enter Tryz.func154,Tryz.ntmps154
 go_wp2
 go_loopg [4] 256 (fun kq v4 wr=>∃k:Nat,v4=.int .i64 k∧Aside0 (k+kq=256)∧Aside0 (Below w.heap.size w wr)∧Aside0 (wr.heap[w.heap.size]? =some (.cells (tabCells 0) 218 (0,0)))∧Aside0 (wr.heap[w.heap.size+1]? =some (.cells (tabCells k) 218 (0,0))))
 case atStart=>
  refine⟨0,rfl,⟨rfl⟩,⟨below_alloc (below_alloc (Below.refl _ _) _) _⟩,⟨?_⟩,⟨?_⟩⟩
  ·exact(heap_alloc2_old _ _ _).trans (by first | rw[HZ.out] | kernel_rfl)
  ·exact(heap_alloc2_new _ _ _).trans (by first | rw[HZ.out] | kernel_rfl)
 case round=>
  obtain⟨k,rfl,HK,HB,HZ,HT⟩:=hrel
  cases gk with
  | zero=>
   have hk:256≤k:=by have:=HK.out;omega
   have hT:=HT.out
   obtain rfl:k=256:=by have:=HK.out;omega
   go_wp2_with (first
    | (refine wpList_load_row rfl _ _ rfl _ rfl 218 _ (0,0) _ hT Tryz.underlying218 rfl ?_ ?_;(rw[tabCells_size];kernel_rfl))
    | (refine wpList_store_row rfl _ _ _ rfl w.heap.size (tabCells 256) rfl rfl 218 (tabCells 0) HZ.out ?_ ?_ ?_ ?_;(rw[tabCells_size];kernel_rfl);(rw[tabCells_size,tabCells_size]);kernel_rfl))
   refine bodyPost_ret (results_cell_row rfl _ _ w.heap.size 218 (tabCells 256) (0,0) _ rfl (setRow_heap _ _ _ _ _ _ HZ.out) Tryz.underlying218 rfl (by rw[tabCells_size];kernel_rfl)) rfl ?_
   exact⟨rfl,below_setRow HB.out (Nat.le_refl _) _⟩
  | succ gk1=>
   have hk:k < 256:=by have:=HK.out;omega
   have hk1:0≤(k:Int):=by omega
   have hd:decide ((k:Int) < 256)=true:=decide_eq_true (by omega)
   go_wp2
   obtain⟨wo,rfl⟩:∃wo:World,wo=wr:=⟨_,rfl⟩
   have hc:wo.cell? ⟨w.heap.size+1,k,none⟩=some (.int .u32 0):=by
    rw[blk_cell HT.out,tabCells_get _ _ hk,tabCell,if_neg (Nat.lt_irrefl _)]
   have hf:=blk_frozen HT.out k
   go_loopg [3,9] 8 (fun kq v3 v9 w'=>∃j:Nat,v3=.int .u32 (stepsI j (k:Int))∧v9=.int .i64 j∧Aside0 (j+kq=8)∧Aside0 (w'=wo))
   case atStart=>exact⟨0,rfl,rfl,⟨rfl⟩,⟨rfl⟩⟩
   case round=>
    obtain⟨j,rfl,rfl,HJ,HW⟩:=hrel
    obtain rfl:=HW.out
    cases gk with
    | zero=>
     have hj:8≤j:=by have:=HJ.out;omega
     go_wp2
     have HT':=blk_set HT.out k (.int .u32 (stepsI j (k:Int)))
     obtain rfl:j=8:=by have:=HJ.out;omega
     rw[tabCells_next k hk] at HT'
     go_roundg gk1
     case measure=>have:=HK.out;omega
     case rel=>exact⟨k+1,by go_num,⟨by have:=HK.out;omega⟩,⟨HB.out.setCell (by simp) _⟩,⟨blk_far HZ.out (by simp) _⟩,⟨HT'⟩⟩
    | succ gk=>
     have hj:j < 8:=by have:=HJ.out;omega
     have hr:=stepsI_range j (k:Int) hk1 (by omega)
     obtain⟨hr1,hr2⟩:=hr
     go_wp2
     go_roundg gk
     case measure=>omega
     case rel=>exact⟨j+1,rfl,by go_num,⟨by have:=HJ.out;omega⟩,⟨rfl⟩⟩
def crcByte (s c:Int):Int:=bits .xor .u32 (s / 256) (stepsI 8 (bits .xor .u8 (s % 256) c))
def crcFrom (s:Int) (l:List Int):Int:=l.foldl crcByte s
theorem crcByte_range (s c:Int):0≤crcByte s c∧crcByte s c < 4294967296:=xor_u32_range _ _
theorem crcFrom_range (s:Int) (l:List Int) (h0:0≤s) (h1:s < 4294967296):0≤crcFrom s l∧crcFrom s l < 4294967296:=by
 induction l generalizing s with
 | nil=>exact⟨h0,h1⟩
 | cons c l ih=>exact ih (crcByte s c) (crcByte_range s c).1 (crcByte_range s c).2
theorem crcFrom_snoc (s:Int) (l:List Int) (c:Int):crcFrom s (l++[c])=crcByte (crcFrom s l) c:=by simp [crcFrom]
theorem xor_u8_range (a b:Int):0≤bits .xor .u8 a b∧bits .xor .u8 a b < 256:=by
 simp only[bits,IntKind.wrap_u8]
 omega
theorem take_succ_rd (l:List Int) (k:Nat) (h:k < l.length):l.take (k+1)=l.take k++[rd l k]:=by
 rw[List.take_succ_eq_append_getElem h]
 simp [rd,List.getD_eq_getElem?_getD,List.getElem?_eq_getElem h]

theorem on_calls (s:Int) (A:Option Addr) (c:Nat) (l:List Int) (w:World) (hs0:0≤s) (hs1:s < 4294967296) (hr:Kd.C (Kd.int .u8) w A l.length l):
  Calls Tryz.prog 173 #[.agg (tabCells 256),.int .u32 s,.slice A l.length c] w fun e w'=>e=.returned (.int .u32 (bits .xor .u32 IntKind.u32.max (crcFrom (bits .xor .u32 IntKind.u32.max s) l)))∧Below w.heap.size w w':=by
 have HR:=ak hr
 clear hr
 have hx:=xor_u32_range IntKind.u32.max s
 go_enter Tryz.func173,Tryz.ntmps173
 go_wp2
 obtain⟨wo,HWO⟩:∃wo:World,Aside0 (wo=w.alloc (.cells (tabCells 256) 218)):=⟨_,⟨rfl⟩⟩
 have HC:=ak (show wo.heap[w.heap.size]? =some (.cells (tabCells 256) 218 (0,0)) by rw[HWO.out];exact heap_alloc_new _ _)
 have HRo:=ak (show Kd.C (Kd.int .u8) wo A l.length l by rw[HWO.out];exact Kd.C_alloc HR.out _)
 have HBo:=ak (show Below w.heap.size w wo by rw[HWO.out];exact below_alloc (Below.refl _ _) _)
 have HM:=ak (Kd.C_max HR.out)
 obtain⟨s0,HS0⟩:∃s0:Int,Aside0 (s0=bits .xor .u32 IntKind.u32.max s):=⟨_,⟨rfl⟩⟩
 have hs0r:0≤s0∧s0 < 4294967296:=by rw[HS0.out];exact hx
 rw[← HS0.out,← HWO.out]
 clear hx
 go_loopg [1,13] l.length (fun kq v1 v13 w'=>∃k:Nat,v1=.int .u32 (crcFrom s0 (l.take k))∧v13=.int .i64 k∧Aside0 (k+kq=l.length)∧Aside0 (w'=wo))
 case atStart=>exact⟨0,rfl,rfl,⟨by omega⟩,⟨rfl⟩⟩
 case round=>
  obtain⟨k,rfl,rfl,HK,HW⟩:=hrel
  obtain rfl:=HW.out
  have hm:=HM.out
  have hr:=crcFrom_range s0 (l.take k) hs0r.1 hs0r.2
  obtain⟨hr1,hr2⟩:=hr
  cases gk with
  | zero=>
   have hk:decide ((k:Int) < (l.length:Int))=false:=decide_eq_false (by have:=HK.out;omega)
   have hk':decide (k < l.length)=false:=decide_eq_false (by have:=HK.out;omega)
   have HE:=ak (show l.take k=l from List.take_of_length_le (by have:=HK.out;omega))
   go_wp2
   go_ret
   exact⟨by rw[HE.out,← HS0.out];rfl,HBo.out⟩
  | succ gk=>
   have hk0:k < l.length:=by have:=HK.out;omega
   have hk:decide ((k:Int) < (l.length:Int))=true:=decide_eq_true (by omega)
   have hk':decide (k < l.length)=true:=decide_eq_true hk0
   have h0:0≤(k:Int):=by omega
   obtain⟨ad,e1,hcell⟩:=Kd.at_int HRo.out (k:Int) h0 (by omega)
   cases e1
   rw[Int.toNat_natCast] at hcell
   have hu:=xor_u8_range (crcFrom s0 (l.take k) % 256) (rd l k)
   obtain⟨hu1,hu2⟩:=hu
   have htab:wr.cell? ⟨w.heap.size,(bits .xor .u8 (crcFrom s0 (l.take k) % 256) (rd l k)).toNat,none⟩=some (.int .u32 (stepsI 8 (bits .xor .u8 (crcFrom s0 (l.take k) % 256) (rd l k)))):=by
    rw[blk_cell HC.out,tabCells_get _ _ (by omega),tabCell,if_pos (by omega),Int.toNat_of_nonneg hu1]
   go_wp2
   go_roundg gk
   case measure=>omega
   case rel=>exact⟨k+1,by rw[take_succ_rd l k hk0,crcFrom_snoc];rfl,by go_num,⟨by have:=HK.out;omega⟩,⟨rfl⟩⟩
def IsBytes (l:List Int):Prop:=∀x∈l,0≤x∧x < 256
end Fr
end

section
namespace Fr

def sumOf (l:List Int):Int:=bits .xor .u32 IntKind.u32.max (crcFrom (bits .xor .u32 IntKind.u32.max 0) l)
theorem sumOf_range (l:List Int):0≤sumOf l∧sumOf l < 4294967296:=xor_u32_range _ _

theorem of_calls (A:Option Addr) (c:Nat) (l:List Int) (w:World) (hr:Kd.C (Kd.int .u8) w A l.length l):
  Calls Tryz.prog 153 #[.agg (tabCells 256),.slice A l.length c] w fun e w'=>e=.returned (.int .u32 (sumOf l))∧Below w.heap.size w w':=by
 have HR:=ak hr
 clear hr
 have HT:=ak (heap_alloc_new w (.cells (tabCells 256) 218))
 go_enter Tryz.func153,Tryz.ntmps153
 go_wp2_with (first
  | (refine wpList_load_row rfl _ _ rfl _ rfl 218 _ (0,0) _ HT.out Tryz.underlying218 rfl ?_ ?_;(rw[tabCells_size];kernel_rfl))
  | (go_at_call 173;refine(on_calls 0 A c l _ (by omega) (by omega) (Kd.C_alloc HR.out _)).mono ?_;rintro e w1 ⟨rfl,hb⟩))
 go_ret
 exact⟨rfl,(below_alloc (Below.refl _ _) _).trans (hb.mono (by simp))⟩

theorem table_named (w:World):Calls Tryz.prog 154 #[] w fun e w'=>∃T,e=.returned (.agg T)∧Aside0 (T=tabCells 256)∧Below w.heap.size w w':=
 (table_calls w).mono fun e w' h=>⟨_,h.1,⟨rfl⟩,h.2⟩
theorem of_named (T:Array Value) (hT:Aside0 (T=tabCells 256)) (A:Option Addr) (c:Nat) (l:List Int) (w:World) (hr:Kd.C (Kd.int .u8) w A l.length l):
  Calls Tryz.prog 153 #[.agg T,.slice A l.length c] w fun e w'=>∃s,e=.returned (.int .u32 s)∧Aside0 (s=sumOf l)∧0≤s∧s < 4294967296∧Below w.heap.size w w':=by
 obtain rfl:=hT.out
 exact(of_calls A c l w hr).mono fun e w' h=>⟨_,h.1,⟨rfl⟩,(sumOf_range l).1,(sumOf_range l).2,h.2⟩

def tailOf (s:Int):List Int:=[s % 256,s / 256 % 256,s / 65536 % 256,s / 16777216]

theorem info_u8:(Tryz.prog.info? 5).map (fun i=>(i.zero,i.size,i.bytes))=some (some (.int .u8 0),1,1):=by kernel_rfl

theorem lit_reads (W:World) (e:TypeId) (k:IntKind) (xs:List Int) (hm:xs.length≤9223372036854775807):ReadsInt (W.alloc (.cells (nums k xs).toArray e)) k (some ⟨W.heap.size,0,none⟩) xs.length xs:=by
 obtain⟨A,c,hv,hr⟩:=own_reads (own_lit W W.heap.size e k xs (Nat.le_refl _) hm)
 injection hv with h1 h2 h3
 subst h1
 exact hr

theorem sealed_calls (base:Nat) (v:Value) (l:List Int) (w:World) (hl:l.length < 140737488355000) (hbase:base≤w.heap.size) (ho:w.ownsRow base 5 1 v l.length (nums .u8 l)):
  Calls Tryz.prog 123 #[v] w fun e w'=>∃v',e=.returned v'∧w'.ownsRow base 5 1 v' (l++tailOf (sumOf l)).length (nums .u8 (l++tailOf (sumOf l)))∧w.grownBy w' v.ownBlock∧(v'.ownBlock=v.ownBlock∨∃b,v'.ownBlock=some b∧w.heap.size≤b):=by
 obtain⟨A,c,rfl,hri⟩:=own_reads ho
 have HO:=ak ho
 clear ho
 have HR:Aside0 (Kd.C (Kd.int .u8) w A l.length l):=⟨Kd.C_of_reads hri⟩
 clear hri
 go_enter Tryz.func123,Tryz.ntmps123
 go_wp2_with (first
  | (go_at_call 154;refine(table_named _).mono ?_;rintro e w1 ⟨T,rfl,HT,hb1⟩;have HB1:=ak hb1;clear hb1)
  | (go_at_call 153;refine(of_named T HT A c l _ (Kd.C_below HR.out HB1.out)).mono ?_;rintro e w2 ⟨s,rfl,HS,hs0,hs1,hb2⟩;have HB2:=ak (below_then HB1.out HB1.out.size hb2);clear hb2)
  | (at_builtin;refine print_append_row (w0:=w) base rfl _ _ 35 5 .u8 1 rfl Tryz.underlying35 info_u8 (by omega) (.slice A l.length c) l (tailOf s) _ _ _ rfl rfl (pw_own_below HO.out (below_alloc HB2.out _)) (lit_reads w2 5 .u8 (tailOf s) (by simp [tailOf])) ((below_alloc HB2.out _).mono hbase) (Nat.le_trans hbase (below_alloc HB2.out _).size) (by simp [tailOf];omega) ?_;intro v1 wz hv1 hbz hgz haz;have HV1:=ak hv1;clear hv1;have HGZ:=ak hgz;clear hgz;have HAZ:=ak haz;clear haz;clear hbz))
 go_ret
 refine⟨_,rfl,?_,?_,?_⟩
 ·rw[← HS.out];exact HV1.out
 ·exact(grown_of_below (below_alloc HB2.out _) _).trans HGZ.out
 ·rcases HAZ.out with h | ⟨b,h,hb⟩
  ·exact .inl h
  ·exact .inr ⟨b,h,Nat.le_trans (below_alloc HB2.out _).size hb⟩

theorem clone_calls (A:Option Addr) (c:Nat) (l:List Int) (w:World) (hl:l.length < 140737488355328) (hr:Kd.C (Kd.int .u8) w A l.length l):
  Calls Tryz.prog 78 #[.slice A l.length c] w fun e w'=>∃v,e=.returned v∧w'.ownsRow w.heap.size 5 1 v l.length (nums .u8 l)∧Below w.heap.size w w':=by
 have HR:=ak hr
 clear hr
 cases A with
 | none=>
  obtain rfl:l=[]:=by
   rcases l with _ | ⟨x,l⟩
   ·rfl
   ·obtain⟨ad,h,_⟩:=Kd.at_int HR.out 0 (by omega) (by simp)
    cases h
  have heq:=fun w:World=>Lib.run_eql_slice_nil (P:=Tryz.prog) w 35 5 none 0 c 0 0 Tryz.underlying35
  go_enter Tryz.func78,Tryz.ntmps78
  go_wp2
  go_ret
  exact⟨_,rfl,own_nil _ _ _ _,Below.refl _ _⟩
 | some ad=>
  have heq:=fun w:World=>Lib.run_eql_slice_nil (P:=Tryz.prog) w 35 5 (some ad) l.length c 0 0 Tryz.underlying35
  go_enter Tryz.func78,Tryz.ntmps78
  go_wp2_with (at_builtin;refine print_append_row (w0:=w) w.heap.size rfl _ _ 35 5 .u8 1 rfl Tryz.underlying35 info_u8 (by omega) (.slice (some ⟨w.heap.size,0,none⟩) 0 0) [] l _ _ _ rfl rfl (own_lit w w.heap.size 5 .u8 [] (Nat.le_refl _) (by simp)) (Kd.reads_of_C (Kd.C_alloc HR.out _)) (below_alloc (Below.refl _ _) _) (by simp) (by simp;omega) ?_;intro v1 wz hv1 hbz hgz haz;have HV1:=ak hv1;clear hv1;clear hgz;clear haz;have HBZ:=ak hbz;clear hbz)
  go_ret
  exact⟨_,rfl,by simpa using HV1.out,HBZ.out⟩

theorem own_room (w:World) (base:Nat) (e:TypeId) {v:Value} {n:Nat} {xs:List Value} (h:w.ownsRow base e 1 v n xs):∃A c,v=.slice A n c∧w.ownsRow base e 1 (.slice A 0 c) 0 []:=by
 obtain⟨A,c,rfl⟩:=own_slice h
 have h2:=own_take h (Nat.zero_le n)
 exact⟨A,c,rfl,by simpa using h2⟩

theorem grow_calls (n:Int) (w:World) (h0:0≤n) (hn:n < 140737488355328):
  Calls Tryz.prog 68 #[.slice none 0 0,.int .i64 n] w fun e w'=>∃v,e=.returned v∧w'.ownsRow w.heap.size 5 1 v 0 []∧Below w.heap.size w w':=by
 by_cases hz:n=0
 ·subst hz
  go_enter Tryz.func68,Tryz.ntmps68
  go_wp2
  go_ret
  exact⟨_,rfl,own_nil _ _ _ _,Below.refl _ _⟩
 ·have hd:decide (0 < n)=true:=decide_eq_true (by omega)
  have hd2:decide (n < 0)=false:=decide_eq_false (by omega)
  go_enter Tryz.func68,Tryz.ntmps68
  go_wp2_with (at_builtin;refine Kd.R_append_zeros (Kd.int .u8) (w0:=w) w.heap.size rfl _ _ 35 3 5 _ 1 rfl Tryz.underlying35 Tryz.underlying3 info_u8 rfl Nat.one_pos Nat.one_pos (.slice none 0 0) [] 0 n (fun _=>True) rfl rfl rfl (fun _ _=>trivial) (Kd.R_nil _ _ _ _ _) h0 (Below.refl _ _) (Nat.le_refl _) (by simp;omega) ?_;intro v1 w1 hv1 hb1 hg1 ha1;obtain⟨inner,hown⟩:=Kd.R_own hv1;obtain⟨A1,c1,rfl,hroom⟩:=own_room w1 w.heap.size 5 hown;have HROOM:=ak hroom;have HB1:=ak hb1;clear hroom hb1 hown hv1 hg1 ha1;rw[List.length_append,List.length_nil,List.length_replicate])
  go_ret
  exact⟨_,rfl,HROOM.out,HB1.out⟩

def rdL (xs:List (List Int)) (i:Int):List Int:=xs.getD i.toNat []
theorem at_L {w:World} {A:Option Addr} {n:Nat} {xs:List (List Int)} (h:Kd.C (Kd.slice 5 (Kd.int .u8)) w A n xs) (i:Int) (h0:0≤i) (h1:i < n):∃ad A0 c0,A=some ad∧w.cell? (ad.add i.toNat)=some (.slice A0 (rdL xs i).length c0)∧(rdL xs i).length≤c0∧(Kd.int .u8).C w A0 (rdL xs i).length (rdL xs i):=by
 obtain⟨ad,c,e,_,hK,hc0⟩:=Kd.C_get h ([]:List Int) i h0 h1
 have hc:∀j u,c[j]? =some u→w.cell? (ad.add (i.toNat *1+j))=some u:=hc0
 obtain⟨A0,c0,rfl,l0,g0⟩:=hK
 exact⟨ad,A0,c0,e,by have hq:=hc 0 _ rfl;rwa [Nat.mul_one,Nat.add_zero] at hq,l0,g0⟩
theorem take_succ_rdL (l:List (List Int)) (k:Nat) (h:k < l.length):l.take (k+1)=l.take k++[rdL l k]:=by
 rw[List.take_succ_eq_append_getElem h]
 simp [rdL,List.getD_eq_getElem?_getD,List.getElem?_eq_getElem h]
def flat (l:List (List Int)) (k:Nat):List Int:=(l.take k).flatten
def flatN (l:List (List Int)) (k:Nat):Nat:=(flat l k).length
theorem flat_len (l:List (List Int)) (k:Nat):(flat l k).length=flatN l k:=rfl
theorem flat_succ (l:List (List Int)) (k:Nat) (h:k < l.length):flat l (k+1)=flat l k++rdL l k:=by
 unfold flat
 rw[take_succ_rdL l k h,List.flatten_append]
 simp
theorem flatN_succ (l:List (List Int)) (k:Nat) (h:k < l.length):flatN l (k+1)=flatN l k+(rdL l k).length:=by
 unfold flatN
 rw[flat_succ l k h,List.length_append]
theorem flatN_le (l:List (List Int)) (k:Nat):flatN l k≤flatN l l.length:=by
 unfold flatN flat
 rw[List.take_length]
 conv=>rhs;rw[← List.take_append_drop k l]
 rw[List.flatten_append,List.length_append]
 omega

theorem concat_calls (A:Option Addr) (c:Nat) (ls:List (List Int)) (w:World) (hl:flatN ls ls.length < 140737488355328) (hr:Kd.C (Kd.slice 5 (Kd.int .u8)) w A ls.length ls):
  Calls Tryz.prog 37 #[.slice A ls.length c] w fun e w'=>∃v,e=.returned v∧w'.ownsRow w.heap.size 5 1 v (flat ls ls.length).length (nums .u8 (flat ls ls.length))∧Below w.heap.size w w':=by
 have HR:=ak hr
 clear hr
 have hm:=Kd.C_max HR.out
 go_enter Tryz.func37,Tryz.ntmps37
 go_wp2
 go_loopg [3,11] ls.length (fun kq v3 v11 w'=>∃k:Nat,v3=.int .i64 (flatN ls k:Int)∧v11=.int .i64 k∧Aside0 (k+kq=ls.length)∧Aside0 (w=w'))
 case atStart=>exact⟨0,rfl,rfl,⟨by omega⟩,⟨rfl⟩⟩
 case round=>
  obtain⟨k,rfl,rfl,HK,HW⟩:=hrel
  obtain rfl:=HW.out
  have hle:=flatN_le ls k
  cases gk with
  | zero=>
   have hk:decide ((k:Int) < (ls.length:Int))=false:=decide_eq_false (by have:=HK.out;omega)
   have hk':decide (k < ls.length)=false:=decide_eq_false (by have:=HK.out;omega)
   go_wp2_with (go_at_call 68;refine(grow_calls _ _ (by omega) (by omega)).mono ?_;rintro e w1 ⟨v,rfl,hv,hb⟩;have HV:=ak hv;have HB:=ak hb;clear hv hb)
   clear hk hk'
   go_loopg [6,27] ls.length (fun kq v6 v27 w'=>∃k:Nat,v27=.int .i64 k∧Aside0 (k+kq=ls.length)∧Aside0 (w'.ownsRow w.heap.size 5 1 v6 (flat ls k).length (nums .u8 (flat ls k)))∧Aside0 (Below w.heap.size w w'))
   case atStart=>exact⟨0,rfl,⟨by omega⟩,⟨by simpa [flat,nums] using HV.out⟩,HB⟩
   case round=>
    clear HV HB HK
    clear hle
    obtain⟨k2,rfl,HK,HV,HB⟩:=hrel
    cases gk with
    | zero=>
     have hk:decide ((k2:Int) < (ls.length:Int))=false:=decide_eq_false (by have:=HK.out;omega)
     have hk':decide (k2 < ls.length)=false:=decide_eq_false (by have:=HK.out;omega)
     go_wp2
     go_ret
     obtain rfl:k2=ls.length:=by have:=HK.out;omega
     exact⟨_,rfl,HV.out,HB.out⟩
    | succ gk=>
     have hk0:k2 < ls.length:=by have:=HK.out;omega
     have hk:decide ((k2:Int) < (ls.length:Int))=true:=decide_eq_true (by omega)
     have hk':decide (k2 < ls.length)=true:=decide_eq_true hk0
     have h0:0≤(k2:Int):=by omega
     have hle:=flatN_le ls (k2+1)
     have HF:=ak (flat_succ ls k2 hk0)
     rw[flatN_succ ls k2 hk0] at hle
     have HRo:=ak (Kd.C_below HR.out HB.out)
     obtain⟨ad,A0,c0,e1,hcell,hlc,hC⟩:=at_L HRo.out (k2:Int) h0 (by omega)
     cases e1
     rw[Int.toNat_natCast] at hcell
     have HC:=ak hC
     clear hC
     go_wp2_with (at_builtin;refine print_append_row (w0:=w) w.heap.size rfl _ _ 35 5 .u8 1 rfl Tryz.underlying35 info_u8 (by omega) _ (flat ls k2) (rdL ls k2) _ _ _ rfl rfl HV.out (Kd.reads_of_C HC.out) HB.out HB.out.size (by rw[flat_len];omega) ?_;intro v1 wz hv1 hbz hgz haz;have HV1:=ak hv1;clear hv1;clear hgz;clear haz;have HBZ:=ak hbz;clear hbz)
     go_roundg gk
     case measure=>omega
     case rel=>exact⟨k2+1,by go_num,⟨by have:=HK.out;omega⟩,⟨by rw[HF.out];exact HV1.out⟩,HBZ⟩
  | succ gk=>
   have hk0:k < ls.length:=by have:=HK.out;omega
   have hk:decide ((k:Int) < (ls.length:Int))=true:=decide_eq_true (by omega)
   have hk':decide (k < ls.length)=true:=decide_eq_true hk0
   have h0:0≤(k:Int):=by omega
   have hle2:=flatN_le ls (k+1)
   have HF:=ak (flatN_succ ls k hk0)
   rw[HF.out] at hle2
   obtain⟨ad,A0,c0,e1,hcell,hlc,hC⟩:=at_L HR.out (k:Int) h0 (by omega)
   cases e1
   rw[Int.toNat_natCast] at hcell
   have hnn:decide ((flatN ls k:Int)+((rdL ls k).length:Int) < 0)=false:=decide_eq_false (by omega)
   go_wp2
   go_roundg gk
   case measure=>omega
   case rel=>exact⟨k+1,by rw[HF.out];go_num,by go_num,⟨by have:=HK.out;omega⟩,⟨rfl⟩⟩
end Fr
end

section
namespace Fr

def sizeI (n:Int):Int:=if n < 1 then 0 else if 8192 < n then 0 else n+8
theorem size_calls (n:Int) (w:World):
  Calls Tryz.prog 31 #[.int .i64 n] w fun e w'=>e=.returned (.int .i64 (sizeI n))∧w=w':=by
 unfold sizeI
 by_cases h1:n < 1
 ·have d1:decide (n < 1)=true:=decide_eq_true h1
  rw[if_pos h1]
  go_enter Tryz.func31,Tryz.ntmps31
  go_wp2
  go_ret
  exact⟨rfl,rfl⟩
 ·have d1:decide (n < 1)=false:=decide_eq_false h1
  rw[if_neg h1]
  by_cases h2:8192 < n
  ·have d2:decide (8192 < n)=true:=decide_eq_true h2
   rw[if_pos h2]
   go_enter Tryz.func31,Tryz.ntmps31
   go_wp2
   go_ret
   exact⟨rfl,rfl⟩
  ·have d2:decide (8192 < n)=false:=decide_eq_false h2
   rw[if_neg h2,show n+8=4+n+4 by omega]
   go_enter Tryz.func31,Tryz.ntmps31
   go_wp2
   go_ret
   exact⟨rfl,rfl⟩

def hdr (n:Int):List Int:=[n / 256,n % 256,255 - n / 256,255 - n % 256]
def bodyOf (l:List Int):List Int:=hdr l.length++l
def frameOf (l:List Int):List Int:=bodyOf l++tailOf (sumOf (bodyOf l))
def putL (l:List Int):List Int:=if sizeI l.length=0 then [] else frameOf l

theorem C_two (W:World) (A0 A1:Option Addr) (n0 c0 c1 g t:Nat) (xs ys:List Int) (h0:xs.length≤c0) (h1:ys.length≤c1) (hn:xs.length=n0) (hg:g=W.heap.size) (hx:Kd.C (Kd.int .u8) W A0 xs.length xs) (hy:Kd.C (Kd.int .u8) W A1 ys.length ys):
  Kd.C (Kd.slice 5 (Kd.int .u8)) (W.alloc (.cells #[.slice A0 n0 c0,.slice A1 ys.length c1] t)) (some ⟨g,0,none⟩) [xs,ys].length [xs,ys]:=by
 subst hn hg
 refine⟨rfl,by simp,fun _=>⟨_,rfl,fun j p hj=>?_⟩⟩
 have hb:=heap_alloc_new W (.cells #[.slice A0 xs.length c0,.slice A1 ys.length c1] t)
 rcases j with _ | _ | j
 ·obtain rfl:xs=p:=by simpa using hj
  refine⟨[.slice A0 xs.length c0],rfl,⟨A0,c0,rfl,h0,Kd.C_alloc hx _⟩,fun i u hu=>?_⟩
  rcases i with _ | i
  ·obtain rfl:Value.slice A0 xs.length c0=u:=by simpa using hu
   rw[add_plain,blk_cell hb]
   rfl
  ·simp at hu
 ·obtain rfl:ys=p:=by simpa using hj
  refine⟨[.slice A1 ys.length c1],rfl,⟨A1,c1,rfl,h1,Kd.C_alloc hy _⟩,fun i u hu=>?_⟩
  rcases i with _ | i
  ·obtain rfl:Value.slice A1 ys.length c1=u:=by simpa using hu
   rw[add_plain,blk_cell hb]
   rfl
  ·simp at hu
 ·simp at hj
theorem hdr_reads (W:World) (n:Int) (t:Nat):Kd.C (Kd.int .u8) (W.alloc (.cells #[.int .u8 (n / 256),.int .u8 (n % 256),.int .u8 (255 - n / 256),.int .u8 (255 - n % 256)] t)) (some ⟨W.heap.size,0,none⟩) (hdr n).length (hdr n):=
 Kd.C_of_reads (enc:=Value.int .u8) (d:=0) (h1:=fun _=>rfl) (lit_reads W t .u8 (hdr n) (by simp [hdr]))
theorem flat_two (xs ys:List Int):flat [xs,ys] [xs,ys].length=xs++ys:=by simp [flat]

theorem put_calls (A:Option Addr) (c:Nat) (l:List Int) (w:World) (hc:l.length≤c) (hr:Kd.C (Kd.int .u8) w A l.length l):
  Calls Tryz.prog 66 #[.slice A l.length c] w fun e w'=>∃v,e=.returned v∧w'.ownsRow w.heap.size 5 1 v (putL l).length (nums .u8 (putL l))∧Below w.heap.size w w':=by
 have HR:=ak hr
 clear hr
 unfold putL
 by_cases h0:sizeI l.length=0
 ·rw[if_pos h0]
  have b0:(sizeI (l.length:Int)==0)=true:=beq_iff_eq.mpr h0
  clear h0
  go_enter Tryz.func66,Tryz.ntmps66
  go_wp2_with (go_at_call 31;refine(size_calls _ _).mono ?_;rintro e w1 ⟨rfl,rfl⟩)
  go_ret
  exact⟨_,rfl,own_nil _ _ _ _,Below.refl _ _⟩
 ·rw[if_neg h0]
  have b0:(sizeI (l.length:Int)==0)=false:=beq_eq_false_iff_ne.mpr h0
  have hn:1≤l.length∧l.length≤8192:=by unfold sizeI at h0;split at h0 <;> (try split at h0) <;> omega
  obtain⟨hn1,hn2⟩:=hn
  clear h0
  go_enter Tryz.func66,Tryz.ntmps66
  go_wp2_with (first
   | (go_at_call 31;refine(size_calls _ _).mono ?_;rintro e w1 ⟨rfl,rfl⟩)
   | (go_at_call 122;refine(length_calls _ (by omega) (by omega) _).mono ?_;rintro e w1 ⟨rfl,hb1⟩;have HB1:=ak hb1;clear hb1)
   | (go_at_call 37;refine(concat_calls (some ⟨w1.heap.size+1,0,none⟩) 2 [hdr l.length,l] _ (by rw[flatN,flat_two];simp [hdr];omega) (C_two _ _ _ 4 4 c _ 35 (hdr l.length) l (by simp [hdr]) hc rfl (by simp) (hdr_reads w1 l.length 178) (Kd.C_alloc (Kd.C_below HR.out HB1.out) _))).mono ?_;rintro e w2 ⟨v2,rfl,hv2,hb2⟩;have HB2:=ak hb2;have HV2:=ak hv2;clear hb2 hv2)
   | (go_at_call 123;refine(sealed_calls _ _ _ _ (by rw[flat_two];simp [hdr];omega) HB2.out.size HV2.out).mono ?_;rintro e w3 ⟨v3,rfl,hv3,hg3,ha3⟩;have HV3:=ak hv3;have HG3:=ak hg3;clear hv3 hg3 ha3))
  go_ret
  rw[flat_two] at HV2 HV3
  have hb2:Below w.heap.size w w2:=below_then (below_alloc (below_alloc HB1.out _) _) (below_alloc (below_alloc HB1.out _) _).size HB2.out
  have hbase:=(below_alloc (below_alloc HB1.out (.cells #[.int .u8 ((l.length:Int) / 256),.int .u8 ((l.length:Int) % 256),.int .u8 (255 - (l.length:Int) / 256),.int .u8 (255 - (l.length:Int) % 256)] 178)) (.cells #[.slice (some ⟨w1.heap.size,0,none⟩) 4 4,.slice A l.length c] 35)).size
  refine⟨_,rfl,own_weaken HV3.out hbase,pw_below_grown hb2 _ hb2.size HG3.out fun k hk=>?_⟩
  exact Nat.le_trans hbase (own_base HV2.out k hk)

theorem rd_mem (l:List Int) (i:Int) (h0:0≤i) (h1:i < l.length):rd l i∈l:=by
 unfold rd
 rw[List.getD_eq_getElem?_getD,List.getElem?_eq_getElem (by omega)]
 exact List.getElem_mem _
theorem or_bytes (a b:Int) (h0:0≤a) (h1:a < 256) (g0:0≤b) (g1:b < 256):bits .or .i64 (a*256) b=a*256+b:=
 Go.bits_join .i64 63 (by decide) (fun n h h'=>by rw[IntWalk.i64_in] <;> omega) 8 (a*256) b (by omega) (by omega) (by omega) g0 (by omega) (by omega)

def nOf (l:List Int):Int:=rd l 0*256+rd l 1
def firstL (l:List Int):List Int×Int×Int:=
 if l.length < 4 then([],0,21)
 else if sizeI (nOf l)=0∨l.take 4≠hdr (nOf l) then([],0,22)
 else if(l.length:Int) < sizeI (nOf l) then([],0,21)
 else if l.take (nOf l+4).toNat++tailOf (sumOf (l.take (nOf l+4).toNat))≠l.take (nOf l+8).toNat then([],nOf l+8,22)
 else((l.take (nOf l+4).toNat).drop 4,nOf l+8,0)

theorem all_range_eqI:∀(xs ys:List Int),xs.length=ys.length→(List.range xs.length).all (fun i=>xs.getD i 0==ys.getD i 0)=(xs==ys)
 | [],[],_=>rfl
 | x::xs,y::ys,h=>by
  have ih:=all_range_eqI xs ys (by simpa using h)
  rw[List.length_cons,List.range_succ_eq_map,List.all_cons,List.all_map]
  simp only[List.getD_cons_zero,Function.comp_def,List.getD_cons_succ,ih]
  simp [List.cons_beq_cons]
 | [],_::_,h=>by simp at h
 | _::_,[],h=>by simp at h
theorem run_equalIn_ints {P:Program} (w:World) (d:Nat) (t e:TypeId) (k:IntKind) (n:Nat) (ht:P.underlying t=some (.array n e)) (he:P.underlying e=some (.int k)) (hsz:∀w,(sizeOf e).run P w=.ok 1 w)
  (xs ys:List Int) (hx:xs.length=n) (hy:ys.length=n):
  (Op.equalIn (d+2) t (.agg (nums k xs).toArray) (.agg (nums k ys).toArray)).run P w=.ok (xs==ys) w:=by
 rw[← all_range_eqI xs ys (hx.trans hy.symm),hx,List.range_eq_range',Op.equalIn]
 simp only[Sem.run_bind,run_underlying ht,Result.andThen_ok,hsz,Std.Legacy.Range.forIn_eq_forIn_range',Std.Legacy.Range.size,Nat.sub_zero,Nat.add_sub_cancel,Nat.div_one]
 have hl:∀i∈List.range' 0 n 1,i < n:=fun i hi=>by simpa using (List.mem_range'_1.1 hi).2
 generalize List.range' 0 n 1=l at hl ⊢
 induction l with
 | nil=>simp
 | cons i l ih=>
  have hi:i < n:=hl i (by simp)
  have px:(part e (nums k xs).toArray (i*1)).run P w=.ok (.int k (xs.getD i 0)) w:=by
   simp [part,isAgg,nums,run_underlying he,List.getD,List.getElem?_eq_getElem (show i < xs.length by omega)]
  have py:(part e (nums k ys).toArray (i*1)).run P w=.ok (.int k (ys.getD i 0)) w:=by
   simp [part,isAgg,nums,run_underlying he,List.getD,List.getElem?_eq_getElem (show i < ys.length by omega)]
  have pe:(Op.equalIn (d+1) e (.int k (xs.getD i 0)) (.int k (ys.getD i 0))).run P w=.ok (xs.getD i 0==ys.getD i 0) w:=by
   rw[Op.equalIn]
   simp [run_underlying he]
  simp only[List.forIn_cons,Sem.run_bind,px,py,pe,Result.andThen_ok,List.all_cons]
  cases hb:(xs.getD i 0==ys.getD i 0)
  ·simp
  ·simp only[Bool.not_true,Bool.false_eq_true,if_false,Sem.run_pure,Result.andThen_ok,Bool.true_and]
   exact ih fun j hj=>hl j (by simp [hj])
theorem size_u8:∀w,(sizeOf 5).run Tryz.prog w=.ok 1 w:=by
 obtain⟨i0,hi,hz0,hz1,hz2⟩:=info_parts info_u8
 intro w
 simp [sizeOf,typeInfo,hi,hz1]
theorem take4 (l:List Int) (h:4≤l.length):l.take 4=[rd l 0,rd l 1,rd l 2,rd l 3]:=by
 match l,h with
 | a::b::c::d::l,_=>rfl

def eqTo (l0 l1:List Int) (k:Nat):Bool:=l0.take k==l1.take k
theorem eqTo_zero (l0 l1:List Int):eqTo l0 l1 0=true:=by simp [eqTo]
theorem eqTo_all (l0 l1:List Int) (h:l0.length=l1.length):eqTo l0 l1 l0.length=(l0==l1):=by
 unfold eqTo
 rw[List.take_length,h,List.take_length]
theorem eqTo_step (l0 l1:List Int) (k:Nat) (h:l0.length=l1.length) (hk:k < l0.length) (he:eqTo l0 l1 k=true) (hr:rd l0 k=rd l1 k):eqTo l0 l1 (k+1)=true:=by
 unfold eqTo at he ⊢
 have he:=beq_iff_eq.mp he
 rw[take_succ_rd l0 k hk,take_succ_rd l1 k (by omega),he,hr]
 exact beq_self_eq_true _
theorem eqTo_stop (l0 l1:List Int) (k:Nat) (hr:rd l0 k≠rd l1 k):(l0==l1)=false:=by
 apply beq_eq_false_iff_ne.mpr
 rintro rfl
 exact hr rfl
theorem beq_len (l0 l1:List Int) (h:l0.length≠l1.length):(l0==l1)=false:=by
 apply beq_eq_false_iff_ne.mpr
 rintro rfl
 exact h rfl

theorem equal_calls (A0 A1:Option Addr) (c0 c1:Nat) (l0 l1:List Int) (w:World) (hr0:Kd.C (Kd.int .u8) w A0 l0.length l0) (hr1:Kd.C (Kd.int .u8) w A1 l1.length l1):
  Calls Tryz.prog 126 #[.slice A0 l0.length c0,.slice A1 l1.length c1] w fun e w'=>e=.returned (.bool (l0==l1))∧Drawn0 w w':=by
 have HR0:=ak hr0
 have HR1:=ak hr1
 have hm:=Kd.C_max hr0
 clear hr0 hr1
 by_cases hl:l0.length=l1.length
 ·have b0:((l0.length:Int)==(l1.length:Int))=true:=beq_iff_eq.mpr (by omega)
  have b1:((l0.length:Int) !=(l1.length:Int))=false:=bne_eq_false_iff_eq.mpr (by omega)
  have b2:(l0.length==l1.length)=true:=beq_iff_eq.mpr hl
  have b3:(l0.length !=l1.length)=false:=bne_eq_false_iff_eq.mpr hl
  have HL:=ak hl
  have hl1:l0.length≤l1.length:=by omega
  clear hl
  go_enter Tryz.func126,Tryz.ntmps126
  go_wp2
  repeat (go_quiet (fail);try go_wp2)
  go_loopg [13] l0.length (fun kq v13 w'=>∃k:Nat,v13=.int .i64 k∧Aside0 (k+kq=l0.length)∧Aside0 (eqTo l0 l1 k=true)∧Drawn0 w w')
  case atStart=>exact⟨0,rfl,⟨by omega⟩,⟨eqTo_zero _ _⟩,Drawn0.refl _⟩
  case round=>
   obtain⟨k,rfl,HK,HE,⟨m,rfl⟩⟩:=hrel
   cases gk with
   | zero=>
    have hk:decide ((k:Int) < (l0.length:Int))=false:=decide_eq_false (by have:=HK.out;omega)
    have hk':decide (k < l0.length)=false:=decide_eq_false (by have:=HK.out;omega)
    go_wp2
    go_ret
    refine⟨?_,by repeat (first | exact Drawn0.refl _ | apply Drawn0.step)⟩
    have e1:=HE.out
    rw[show k=l0.length by have:=HK.out;omega,eqTo_all _ _ HL.out] at e1
    rw[e1]
    rfl
   | succ gk=>
    have hk0:k < l0.length:=by have:=HK.out;omega
    have hk1:(k < l0.length)=True:=eq_true hk0
    have hk1':(k < l1.length)=True:=eq_true (by omega)
    have hk:decide ((k:Int) < (l0.length:Int))=true:=decide_eq_true (by omega)
    have hk':decide (k < l0.length)=true:=decide_eq_true hk0
    have h0:0≤(k:Int):=by omega
    obtain⟨a0,e0,x0⟩:=Kd.at_int HR0.out (k:Int) h0 (by omega)
    cases e0
    obtain⟨a1,e1,x1⟩:=Kd.at_int HR1.out (k:Int) h0 (by omega)
    cases e1
    rw[Int.toNat_natCast] at x0 x1
    by_cases hq:rd l0 k=rd l1 k
    ·have q0:(rd l0 k==rd l1 k)=true:=beq_iff_eq.mpr hq
     have q1:(rd l0 k !=rd l1 k)=false:=bne_eq_false_iff_eq.mpr hq
     have HS:=ak (eqTo_step l0 l1 k HL.out hk0 HE.out hq)
     clear hq
     go_wp2
     repeat (go_quiet (fail);try go_wp2)
     go_roundg gk
     case measure=>omega
     case rel=>exact⟨k+1,by go_num,⟨by have:=HK.out;omega⟩,HS,by repeat (first | exact Drawn0.refl _ | apply Drawn0.step)⟩
    ·have q0:(rd l0 k==rd l1 k)=false:=beq_eq_false_iff_ne.mpr hq
     have q1:(rd l0 k !=rd l1 k)=true:=bne_iff_ne.mpr hq
     have HS:=ak (eqTo_stop l0 l1 k hq)
     clear hq
     go_wp2
     repeat (go_quiet (fail);try go_wp2)
     go_ret
     exact⟨by rw[HS.out];rfl,by repeat (first | exact Drawn0.refl _ | apply Drawn0.step)⟩
 ·have b0:((l0.length:Int)==(l1.length:Int))=false:=beq_eq_false_iff_ne.mpr (by omega)
  have b1:((l0.length:Int) !=(l1.length:Int))=true:=bne_iff_ne.mpr (by omega)
  have b2:(l0.length==l1.length)=false:=beq_eq_false_iff_ne.mpr hl
  have b3:(l0.length !=l1.length)=true:=bne_iff_ne.mpr hl
  have HL:=ak (beq_len l0 l1 hl)
  clear hl
  go_enter Tryz.func126,Tryz.ntmps126
  go_wp2
  repeat (go_quiet (fail);try go_wp2)
  go_ret
  exact⟨by rw[HL.out];rfl,by repeat (first | exact Drawn0.refl _ | apply Drawn0.step)⟩

theorem firstL_short (l:List Int) (h:l.length < 4):firstL l=([],0,21):=by unfold firstL;rw[if_pos h]
theorem equal_named (A0 A1:Option Addr) (c0 c1:Nat) (l0 l1:List Int) (w:World) (hr0:Kd.C (Kd.int .u8) w A0 l0.length l0) (hr1:Kd.C (Kd.int .u8) w A1 l1.length l1):
  Calls Tryz.prog 126 #[.slice A0 l0.length c0,.slice A1 l1.length c1] w fun e w'=>∃b,e=.returned (.bool b)∧Aside0 ((l0==l1)=b)∧Drawn0 w w':=
 (equal_calls A0 A1 c0 c1 l0 l1 w hr0 hr1).mono fun e w' h=>⟨_,h.1,⟨rfl⟩,h.2⟩
theorem C_of_ints {w:World} {k:IntKind} {A:Option Addr} {n:Nat} {xs:List Int} (h:ReadsInt w k A n xs):Kd.C (Kd.int k) w A n xs:=Kd.C_of_reads h
theorem ints_of_C {w:World} {k:IntKind} {A:Option Addr} {n:Nat} {xs:List Int} (h:Kd.C (Kd.int k) w A n xs):ReadsInt w k A n xs:=Kd.reads_of_C h
theorem sealed_named (base:Nat) (v:Value) (l:List Int) (w:World) (hl:l.length < 140737488355000) (hbase:base≤w.heap.size) (ho:w.ownsRow base 5 1 v l.length (nums .u8 l)):
  Calls Tryz.prog 123 #[v] w fun e w'=>∃A c z,e=.returned (.slice A z.length c)∧Aside0 (l++tailOf (sumOf l)=z)∧w'.ownsRow base 5 1 (.slice A z.length c) z.length (nums .u8 z)∧w.grownBy w' v.ownBlock:=by
 refine(sealed_calls base v l w hl hbase ho).mono ?_
 rintro e w' ⟨v',rfl,ho',hg,_⟩
 obtain⟨A,c,rfl,_⟩:=own_reads ho'
 exact⟨A,c,_,rfl,⟨rfl⟩,ho',hg⟩
theorem sizeI_ne (n:Int) (hz:sizeI n≠0):sizeI n=n+8∧1≤n∧n≤8192:=by
 unfold sizeI at hz ⊢
 split at hz
 ·exact absurd rfl hz
 ·split at hz
  ·exact absurd rfl hz
  ·rw[if_neg (by assumption),if_neg (by assumption)]
   omega
theorem firstL_cut (l:List Int) (h:¬l.length < 4) (hz:sizeI (nOf l)≠0) (he:l.take 4=hdr (nOf l)) (hs:(l.length:Int) < sizeI (nOf l)):firstL l=([],0,21):=by
 unfold firstL;rw[if_neg h,if_neg (by rintro (h | h);exact hz h;exact h he),if_pos hs]
theorem firstL_sum (l:List Int) (h:¬l.length < 4) (hz:sizeI (nOf l)≠0) (he:l.take 4=hdr (nOf l)) (hs:¬(l.length:Int) < sizeI (nOf l)) (hq:l.take (nOf l+4).toNat++tailOf (sumOf (l.take (nOf l+4).toNat))≠l.take (nOf l+8).toNat):firstL l=([],nOf l+8,22):=by
 unfold firstL;rw[if_neg h,if_neg (by rintro (h | h);exact hz h;exact h he),if_neg hs,if_pos hq]
theorem firstL_ok (l:List Int) (h:¬l.length < 4) (hz:sizeI (nOf l)≠0) (he:l.take 4=hdr (nOf l)) (hs:¬(l.length:Int) < sizeI (nOf l)) (hq:l.take (nOf l+4).toNat++tailOf (sumOf (l.take (nOf l+4).toNat))=l.take (nOf l+8).toNat):firstL l=((l.take (nOf l+4).toNat).drop 4,nOf l+8,0):=by
 unfold firstL;rw[if_neg h,if_neg (by rintro (h | h);exact hz h;exact h he),if_neg hs,if_neg (fun h=>h hq)]
theorem firstL_bad2 (l:List Int) (h:¬l.length < 4) (hz:l.take 4≠hdr (nOf l)):firstL l=([],0,22):=by unfold firstL;rw[if_neg h,if_pos (Or.inr hz)]
theorem firstL_bad (l:List Int) (h:¬l.length < 4) (hz:sizeI (nOf l)=0):firstL l=([],0,22):=by unfold firstL;rw[if_neg h,if_pos (Or.inl hz)]

theorem first_calls (A:Option Addr) (c:Nat) (l:List Int) (w:World) (hB:IsBytes l) (hc:l.length≤c) (hr:Kd.C (Kd.int .u8) w A l.length l):
  Calls Tryz.prog 74 #[.slice A l.length c] w fun e w'=>∃v xs k f,e=.returned (.tuple #[v,.int .i64 k,.int .i64 f])∧Aside0 (firstL l=(xs,k,f))∧w'.ownsRow w.heap.size 5 1 v xs.length (nums .u8 xs)∧Below w.heap.size w w':=by
 have HR:=ak hr
 clear hr
 by_cases h4:l.length < 4
 ·have HL:=ak (firstL_short l h4)
  have d4:decide ((l.length:Int) < 4)=true:=decide_eq_true (by omega)
  have d4':decide (l.length < 4)=true:=decide_eq_true (by omega)
  clear h4
  go_enter Tryz.func74,Tryz.ntmps74
  go_wp2
  go_ret3
  exact⟨_,[],0,21,rfl,HL,own_nil _ _ _ _,Below.refl _ _⟩
 ·have d4:decide ((l.length:Int) < 4)=false:=decide_eq_false (by omega)
  have d4':decide (l.length < 4)=false:=decide_eq_false (by omega)
  obtain⟨ad,e1,c0⟩:=Kd.at_int HR.out 0 (by omega) (by omega)
  subst e1
  obtain⟨ad',e1,c1⟩:=Kd.at_int HR.out 1 (by omega) (by omega)
  obtain rfl:ad=ad':=by injection e1
  obtain⟨ad',e2,c2⟩:=Kd.at_int HR.out 2 (by omega) (by omega)
  obtain rfl:ad=ad':=by injection e2
  obtain⟨ad',e3,c3⟩:=Kd.at_int HR.out 3 (by omega) (by omega)
  obtain rfl:ad=ad':=by injection e3
  clear e1 e2 e3
  have l0:(0 < l.length)=True:=eq_true (by omega)
  have l1:(1 < l.length)=True:=eq_true (by omega)
  have l1':((1:Int) < (l.length:Int))=True:=eq_true (by omega)
  have l4:(4≤c)=True:=eq_true (by omega)
  have l4':((4:Int)≤(c:Int))=True:=eq_true (by omega)
  have hat:∀w,(Instr.arrayAt 178 (.slice (some ad) 4 c)).run Tryz.prog w=.ok (.pointer (some ad)) w:=fun w=>run_arrayAt w 178 _ 4 _ 4 c Tryz.underlying178 (by omega)
  obtain⟨r0,r0'⟩:=hB _ (rd_mem l 0 (by omega) (by omega))
  obtain⟨r1,r1'⟩:=hB _ (rd_mem l 1 (by omega) (by omega))
  have ho:=or_bytes (rd l 0) (rd l 1) r0 r0' r1 r1'
  have w0:IntKind.i64.wrap (rd l 0)=rd l 0:=IntWalk.i64_in _ (by omega)
  have w1:IntKind.i64.wrap (rd l 1)=rd l 1:=IntWalk.i64_in _ (by omega)
  have w2:IntKind.i64.wrap (rd l 0*256)=rd l 0*256:=IntWalk.i64_in _ (by omega)
  simp only[show(0:Int).toNat=0 from rfl,show(1:Int).toNat=1 from rfl,show(2:Int).toNat=2 from rfl,show(3:Int).toNat=3 from rfl,Addr.add_zero'] at c0 c1 c2 c3
  simp only[Nat.reduceEqDiff,Go.Addr.add,↓reduceIte] at c1 c2 c3
  go_enter Tryz.func74,Tryz.ntmps74
  go_wp2
  go_quiet (fail)
  have hbw:Below w.heap.size w (w.drewN nq):=pw_below_drewN (Below.refl _ _) _
  have HRw:=ak (Kd.C_drewN HR.out nq)
  rw[← World.cell?_drewN (n:=nq)] at c0 c1 c2 c3
  generalize w.drewN nq=wa at c0 c1 c2 c3 HRw hbw ⊢
  have HBA:=ak hbw
  clear hbw
  have hnof:rd l 0*256+rd l 1=nOf l:=rfl
  rw[hnof]
  have HN:=ak hnof
  have n0:0≤nOf l∧nOf l < 65536:=by unfold nOf;omega
  obtain⟨n0,n1⟩:=n0
  clear ho w0 w1 w2 r0 r0' r1 r1' hnof
  by_cases hz:sizeI (nOf l)=0
  ·have HL:=ak (firstL_bad l h4 hz)
   have b0:(sizeI (nOf l)==0)=true:=beq_iff_eq.mpr hz
   clear hz
   go_wp2_with (go_at_call 31;refine(size_calls _ _).mono ?_;rintro e w1 ⟨rfl,rfl⟩)
   go_ret3
   exact⟨_,[],0,22,rfl,HL,own_nil _ _ _ _,HBA.out⟩
  ·have b0:(sizeI (nOf l)==0)=false:=beq_eq_false_iff_ne.mpr hz
   go_wp2_with (go_at_call 31;refine(size_calls _ _).mono ?_;rintro e w1 ⟨rfl,rfl⟩)
   obtain⟨same,HS⟩:∃b:Bool,Aside0 (b=(l.take 4==hdr (nOf l))):=⟨_,⟨rfl⟩⟩
   have heq:∀w,(Op.equalIn 10000 178 (.agg #[.int .u8 (rd l 0),.int .u8 (rd l 1),.int .u8 (rd l 2),.int .u8 (rd l 3)]) (.agg #[.int .u8 (nOf l / 256),.int .u8 (nOf l % 256),.int .u8 (255 - nOf l / 256),.int .u8 (255 - nOf l % 256)])).run Tryz.prog w=.ok same w:=by
    intro w
    rw[HS.out,take4 l (by omega)]
    exact run_equalIn_ints w 9998 178 5 .u8 4 Tryz.underlying178 Tryz.underlying5 size_u8 [rd l 0,rd l 1,rd l 2,rd l 3] (hdr (nOf l)) rfl rfl
   have hlt:ad.block < wa.heap.size:=World.block_lt_of_cell? wa ad c0
   obtain⟨hsz,hn1,hn2⟩:=sizeI_ne _ hz
   obtain⟨n,HNN⟩:∃n,Aside0 (nOf l=n):=⟨_,⟨rfl⟩⟩
   have hnn:=HNN.out
   rw[hnn] at heq hsz hn1 hn2 n0 n1 b0 ⊢
   rw[hsz] at b0 ⊢
   clear hnn
   cases same with
   | false=>
    have HL:=ak (firstL_bad2 l h4 (beq_eq_false_iff_ne.mp HS.out.symm))
    go_region_held3 (fun w'=>w'.cell? ad=some (.int .u8 (rd l 0))∧w'.cell? ⟨ad.block,ad.off+1,none⟩=some (.int .u8 (rd l 1))∧w'.cell? ⟨ad.block,ad.off+2,none⟩=some (.int .u8 (rd l 2))∧w'.cell? ⟨ad.block,ad.off+3,none⟩=some (.int .u8 (rd l 3)))
     (first | go_keep | exact⟨(hb1.cell (p:=ad) hlt).trans c0,(hb1.cell (p:=⟨ad.block,ad.off+1,none⟩) hlt).trans c1,(hb1.cell (p:=⟨ad.block,ad.off+2,none⟩) hlt).trans c2,(hb1.cell (p:=⟨ad.block,ad.off+3,none⟩) hlt).trans c3⟩)
     ((go_at_call 122;refine(length_calls _ n0 n1 _).mono ?_;rintro e w1 ⟨rfl,hb1⟩))
    all_goals
     go_wp2
     go_ret3
     exact⟨_,[],0,22,rfl,HL,own_nil _ _ _ _,below_then HBA.out HBA.out.size (below_then (below_drew1 (Below.refl _ _)) (Nat.le_refl _) hb1)⟩
   | true=>
    have HE:=ak (beq_iff_eq.mp HS.out.symm)
    go_region_held3 (fun w'=>w'.cell? ad=some (.int .u8 (rd l 0))∧w'.cell? ⟨ad.block,ad.off+1,none⟩=some (.int .u8 (rd l 1))∧w'.cell? ⟨ad.block,ad.off+2,none⟩=some (.int .u8 (rd l 2))∧w'.cell? ⟨ad.block,ad.off+3,none⟩=some (.int .u8 (rd l 3)))
     (first | go_keep | exact⟨(hb1.cell (p:=ad) hlt).trans c0,(hb1.cell (p:=⟨ad.block,ad.off+1,none⟩) hlt).trans c1,(hb1.cell (p:=⟨ad.block,ad.off+2,none⟩) hlt).trans c2,(hb1.cell (p:=⟨ad.block,ad.off+3,none⟩) hlt).trans c3⟩)
     ((go_at_call 122;refine(length_calls _ n0 n1 _).mono ?_;rintro e w1 ⟨rfl,hb1⟩))
    all_goals
     have HB1:=ak (below_then HBA.out HBA.out.size (below_then (below_drew1 (Below.refl _ _)) (Nat.le_refl _) hb1))
     have HR1:=ak (Kd.C_below HR.out HB1.out)
     clear hb1 heq hat hlt c0 c1 c2 c3
     by_cases hs:(l.length:Int) < n+8
     ·have HL:=ak (firstL_cut l h4 hz HE.out (by rw[HNN.out,hsz];exact hs))
      have ds:decide ((l.length:Int) < n+8)=true:=decide_eq_true hs
      clear hs hsz
      go_wp2
      go_ret3
      exact⟨_,[],0,21,rfl,HL,own_nil _ _ _ _,HB1.out⟩
     ·have ds:decide ((l.length:Int) < n+8)=false:=decide_eq_false hs
      have hwr:IntKind.i64.wrap (n+8 - 4)=n+4:=by rw[IntWalk.i64_in _ (by omega)];omega
      obtain⟨i0,hi,hz0,hz1,hz2⟩:=info_parts info_u8
      have ht1:=print_take_int (P:=Tryz.prog) (k:=.u8) 35 5 Tryz.underlying35 hi hz1 (some ad) c l (n+4) (by omega) (by omega) hc
      have ht2:=print_take_int (P:=Tryz.prog) (k:=.u8) 35 5 Tryz.underlying35 hi hz1 (some ad) c l (n+8) (by omega) (by omega) hc
      obtain⟨x,HX⟩:∃x,Aside0 (l.take (n+4).toNat=x):=⟨_,⟨rfl⟩⟩
      obtain⟨y,HY⟩:∃y,Aside0 (l.take (n+8).toNat=y):=⟨_,⟨rfl⟩⟩
      rw[HX.out] at ht1
      rw[HY.out] at ht2
      obtain⟨hx1,hx2,hx3⟩:=ht1
      obtain⟨hy1,hy2,hy3⟩:=ht2
      have HX2:Aside0 (∀w,Kd.C (Kd.int .u8) w (some ad) l.length l→Kd.C (Kd.int .u8) w (some ad) x.length x):=⟨fun w h=>C_of_ints (hx2 w (ints_of_C h))⟩
      have HY2:Aside0 (∀w,Kd.C (Kd.int .u8) w (some ad) l.length l→Kd.C (Kd.int .u8) w (some ad) y.length y):=⟨fun w h=>C_of_ints (hy2 w (ints_of_C h))⟩
      obtain⟨A5,hm1,hm2,hm3⟩:=print_mid_int (P:=Tryz.prog) (k:=.u8) 35 5 Tryz.underlying35 hi hz1 (some ad) c l 4 (n+4) (by omega) (by omega) (by omega) hc
      obtain⟨u,HU⟩:∃u,Aside0 ((l.take (n+4).toNat).drop (4:Int).toNat=u):=⟨_,⟨rfl⟩⟩
      rw[HU.out] at hm1 hm2 hm3
      have HM2:Aside0 (∀w,Kd.C (Kd.int .u8) w (some ad) l.length l→Kd.C (Kd.int .u8) w A5 u.length u):=⟨fun w h=>C_of_ints (hm2 w (ints_of_C h))⟩
      rw[show c - (4:Int).toNat=c - 4 from rfl] at hm1
      have hul:u.length≤8200:=by rw[← HU.out,List.length_drop,List.length_take];omega
      have hxl:x.length≤l.length:=by rw[← HX.out];exact List.length_take_le' _ _
      have hm:=Kd.C_max HR.out
      have hxm:x.length≤8200:=by rw[← HX.out,List.length_take];omega
      clear hx2 hy2 hm2 hi hz0 hz1 hz2
      go_wp2
      go_region_held3 (fun _=>True) (first | trivial | fail)
       (first
        | (go_at_call 78;refine(clone_calls _ _ x _ (by omega) (HX2.out _ (Kd.C_below HR1.out (below_drew1 (Below.refl _ _))))).mono ?_;rintro e w2 ⟨v2,rfl,hv2,hb2⟩;have HB2:=ak (below_then (below_drew1 HB1.out) (below_drew1 HB1.out).size hb2))
        | (go_at_call 123;(with_reducible refine(sealed_named _ _ x _ (by omega) hb2.size hv2).mono ?_);rintro e w3 ⟨A3,q3,z,rfl,HZ,hv3,hg3⟩;obtain⟨_,_,hveq,hr3⟩:=own_reads hv3;injection hveq with h1 h2 h3;subst h1;have HR3:=ak (C_of_ints hr3);have HB3:=ak (pw_below_grown HB2.out _ HB2.out.size hg3 (fun k hk=>Nat.le_trans (below_drew1 HB1.out).size (own_base hv2 k hk)));clear hg3 hr3 hv3 h2 h3)
        | (go_at_call 126;(with_reducible refine(equal_named A3 (some ad) q3 c z y _ HR3.out (HY2.out _ (Kd.C_below HR.out HB3.out))).mono ?_);rintro e w4 ⟨bq,rfl,HBQ,⟨nz,rfl⟩⟩))
      all_goals
       have HB4:=ak (pw_below_drewN HB3.out nz)
       clear HB2 HB3 HR3 hb2 hv2
       cases bq with
       | true=>
        have hq:=beq_iff_eq.mp HBQ.out
        have HL:=ak (firstL_ok l h4 hz HE.out (by rw[HNN.out,hsz];omega) (by rw[HNN.out,HX.out,HY.out,HZ.out];exact hq))
        rw[HNN.out] at HL
        rw[show(l.take (n+4).toNat).drop 4=u from HU.out] at HL
        clear hq
        go_wp2_with (go_at_call 78;(with_reducible refine(clone_calls _ _ u _ (by omega) (HM2.out _ (Kd.C_below HR.out HB4.out))).mono ?_);rintro e w5 ⟨v5,rfl,hv5,hb5⟩)
        go_ret3
        exact⟨_,u,n+8,0,rfl,HL,own_weaken hv5 HB4.out.size,below_then HB4.out HB4.out.size hb5⟩
       | false=>
        have hq:=beq_eq_false_iff_ne.mp HBQ.out
        have HL:=ak (firstL_sum l h4 hz HE.out (by rw[HNN.out,hsz];omega) (by rw[HNN.out,HX.out,HY.out,HZ.out];exact hq))
        rw[HNN.out] at HL
        clear hq
        go_wp2
        go_ret3
        exact⟨_,[],n+8,22,rfl,HL,own_nil _ _ _ _,HB4.out⟩
end Fr
end

section
namespace Fr

def poly:BitVec 32:=2197175160#32
def stp (s:BitVec 32):BitVec 32:=(s >>> 1) ^^^ (if s.getLsbD 0 then poly else 0#32)
def stps:Nat→BitVec 32→BitVec 32
 | 0,s=>s
 | n+1,s=>stp (stps n s)
def toB (c:Int):BitVec 32:=BitVec.ofNat 32 c.toNat
def run (s:BitVec 32) (l:List Int):BitVec 32:=l.foldl (fun s c=>stps 8 (s ^^^ toB c)) s
end Fr
end

section
namespace Fr

theorem IsBytes.append {a b:List Int} (ha:IsBytes a) (hb:IsBytes b):IsBytes (a++b):=fun x hx=>(List.mem_append.mp hx).elim (ha x) (hb x)
theorem IsBytes.take {a:List Int} (ha:IsBytes a) (n:Nat):IsBytes (a.take n):=fun x hx=>ha x (List.mem_of_mem_take hx)
theorem IsBytes.drop {a:List Int} (ha:IsBytes a) (n:Nat):IsBytes (a.drop n):=fun x hx=>ha x (List.mem_of_mem_drop hx)
theorem hdr_bytes (n:Int) (h0:0≤n) (h1:n < 65536):IsBytes (hdr n):=by
 intro x hx
 simp only[hdr,List.mem_cons,List.not_mem_nil,or_false] at hx
 rcases hx with rfl | rfl | rfl | rfl <;> omega
theorem tail_bytes (s:Int) (h0:0≤s) (h1:s < 4294967296):IsBytes (tailOf s):=by
 intro x hx
 simp only[tailOf,List.mem_cons,List.not_mem_nil,or_false] at hx
 rcases hx with rfl | rfl | rfl | rfl <;> omega
theorem hdr_len (n:Int):(hdr n).length=4:=rfl
theorem tail_len (s:Int):(tailOf s).length=4:=rfl
theorem frame_len (l:List Int):(frameOf l).length=l.length+8:=by
 unfold frameOf bodyOf
 rw[List.length_append,List.length_append,hdr_len,tail_len]
 omega
theorem frame_bytes (l:List Int) (h:IsBytes l) (h1:l.length≤8192):IsBytes (frameOf l):=by
 unfold frameOf bodyOf
 exact((hdr_bytes _ (by omega) (by omega)).append h).append (tail_bytes _ (sumOf_range _).1 (sumOf_range _).2)
theorem sizeI_of (n:Int) (h1:1≤n) (h2:n≤8192):sizeI n=n+8:=by
 unfold sizeI
 rw[if_neg (by omega),if_neg (by omega)]
theorem sizeI_no (n:Int) (h:n < 1∨8192 < n):sizeI n=0:=by
 unfold sizeI
 by_cases h1:n < 1
 ·rw[if_pos h1]
 ·rw[if_neg h1,if_pos (by omega)]
theorem put_no (l:List Int) (h:l.length < 1∨8192 < l.length):putL l=[]:=by
 unfold putL
 rw[if_pos (sizeI_no _ (by omega))]
theorem put_yes (l:List Int) (h1:1≤l.length) (h2:l.length≤8192):putL l=frameOf l:=by
 unfold putL
 rw[sizeI_of _ (by omega) (by omega),if_neg (by omega)]
theorem put_bytes (l:List Int) (h:IsBytes l):IsBytes (putL l):=by
 by_cases h1:l.length < 1∨8192 < l.length
 ·rw[put_no l h1]
  intro x hx
  simp at hx
 ·rw[put_yes l (by omega) (by omega)]
  exact frame_bytes l h (by omega)
theorem put_len (l:List Int):((putL l).length:Int)=sizeI l.length:=by
 by_cases h1:l.length < 1∨8192 < l.length
 ·rw[put_no l h1,sizeI_no _ (by omega)]
  rfl
 ·rw[put_yes l (by omega) (by omega),frame_len,sizeI_of _ (by omega) (by omega)]
  omega
theorem nOf_hdr (n:Int) (l:List Int):nOf (hdr n++l)=n:=by
 show n / 256*256+n % 256=n
 omega
theorem frame_shape (l more:List Int):frameOf l++more=hdr l.length++(l++(tailOf (sumOf (bodyOf l))++more)):=by
 unfold frameOf
 conv=>lhs;unfold bodyOf
 simp only[List.append_assoc]
 rfl
theorem take_hdr (n:Int) (l:List Int):(hdr n++l).take 4=hdr n:=by
 show(hdr n++l).take (hdr n).length=_
 exact List.take_left
theorem frame_take (l more:List Int):(frameOf l++more).take (l.length+4)=bodyOf l:=by
 have e:l.length+4=(bodyOf l).length:=by unfold bodyOf;rw[List.length_append,hdr_len];omega
 unfold frameOf
 rw[List.append_assoc,e]
 exact List.take_left
theorem frame_whole (l more:List Int):(frameOf l++more).take (l.length+8)=frameOf l:=by
 rw[← frame_len]
 exact List.take_left
theorem body_drop (l:List Int):(bodyOf l).drop 4=l:=by
 unfold bodyOf
 show(hdr l.length++l).drop (hdr l.length).length=_
 exact List.drop_left
theorem first_frame (l more:List Int) (h1:1≤l.length) (h2:l.length≤8192):firstL (frameOf l++more)=(l,(l.length:Int)+8,0):=by
 have hn:nOf (frameOf l++more)=l.length:=by rw[frame_shape,nOf_hdr]
 have hlen:(frameOf l++more).length=l.length+8+more.length:=by rw[List.length_append,frame_len]
 have h:=firstL_ok (frameOf l++more) (by omega) (by rw[hn,sizeI_of _ (by omega) (by omega)];omega) (by rw[hn,frame_shape,take_hdr]) (by rw[hn,sizeI_of _ (by omega) (by omega)];omega)
  (by rw[hn,show((l.length:Int)+4).toNat=l.length+4 by omega,show((l.length:Int)+8).toNat=l.length+8 by omega,frame_take,frame_whole];rfl)
 rw[h,hn,show((l.length:Int)+4).toNat=l.length+4 by omega,frame_take,body_drop]
theorem eq_of_mid (l h:List Int) (hh:l.take 4=h) (n:Nat):l.take (n+4)=h++(l.take (n+4)).drop 4:=by
 conv=>lhs;rw[← List.take_append_drop 4 (l.take (n+4))]
 rw[List.take_take,show min 4 (n+4)=4 by omega,hh]
theorem first_cases (l:List Int) (hB:IsBytes l):firstL l=([],0,21)∨firstL l=([],0,22)∨
  (1≤nOf l∧nOf l≤8192∧nOf l+8≤l.length∧l.take 4=hdr (nOf l)∧
   (firstL l=([],nOf l+8,22)∨∃y,firstL l=(y,nOf l+8,0)∧(y.length:Int)=nOf l∧l.take (nOf l+8).toNat=frameOf y∧IsBytes y)):=by
 by_cases h4:l.length < 4
 ·exact .inl (firstL_short l h4)
 by_cases hz:sizeI (nOf l)=0
 ·exact .inr (.inl (firstL_bad l h4 hz))
 by_cases he:l.take 4=hdr (nOf l)
 case neg=>exact .inr (.inl (firstL_bad2 l h4 he))
 obtain⟨hs,hn1,hn2⟩:=sizeI_ne _ hz
 by_cases hl:(l.length:Int) < sizeI (nOf l)
 ·exact .inl (firstL_cut l h4 hz he hl)
 refine .inr (.inr ⟨hn1,hn2,by omega,he,?_⟩)
 by_cases hq:l.take (nOf l+4).toNat++tailOf (sumOf (l.take (nOf l+4).toNat))=l.take (nOf l+8).toNat
 case neg=>exact .inl (firstL_sum l h4 hz he hl hq)
 refine .inr ⟨_,firstL_ok l h4 hz he hl hq,?_,?_,(hB.take _).drop _⟩
 ·rw[List.length_drop,List.length_take]
  omega
 ·rw[← hq]
  obtain⟨n,hn⟩:=Int.eq_ofNat_of_zero_le (show 0≤nOf l by omega)
  rw[hn,show((n:Int)+4).toNat=n+4 by omega]
  have hlen:(((l.take (n+4)).drop 4).length:Int)=n:=by rw[List.length_drop,List.length_take];omega
  have hb:bodyOf ((l.take (n+4)).drop 4)=l.take (n+4):=by
   unfold bodyOf
   rw[hlen,← hn,← eq_of_mid l _ he]
  unfold frameOf
  rw[hb]
theorem first_short (l:List Int) (h1:1≤l.length) (h2:l.length≤8192) (j:Nat) (hj:j < l.length+8):firstL ((frameOf l).take j)=([],0,21):=by
 have hlen:((frameOf l).take j).length=j:=by rw[List.length_take,frame_len];omega
 by_cases h4:j < 4
 ·exact firstL_short _ (by omega)
 have e4:((frameOf l).take j).take 4=hdr l.length:=by
  rw[List.take_take,show min 4 j=4 by omega]
  have:=frame_shape l []
  rw[List.append_nil] at this
  rw[this,take_hdr]
 have hn:nOf ((frameOf l).take j)=l.length:=by
  have e:(frameOf l).take j=hdr l.length++((frameOf l).take j).drop 4:=by
   conv=>lhs;rw[← List.take_append_drop 4 ((frameOf l).take j),e4]
  rw[e,nOf_hdr]
 exact firstL_cut _ (by omega) (by rw[hn,sizeI_of _ (by omega) (by omega)];omega) (by rw[hn,e4]) (by rw[hn,sizeI_of _ (by omega) (by omega)];omega)
end Fr
end

section
namespace Ext
open Fr

def bytesB (l:List Int):Bool:=l.all fun x=>decide (0≤x) && decide (x < 256)
theorem bytesB_iff (l:List Int):bytesB l=true↔IsBytes l:=by
 simp [bytesB,IsBytes,List.all_eq_true]
def frame_Put.f (l0:List Int):Option (List Int):=some (putL l0)
def frame_First.f (l0:List Int):Option (List Int×Int×Int):=if bytesB l0=true then some (firstL l0) else none
def frame_Size.f (a0:Int):Option Int:=some (sizeI a0)

theorem R_ints {w:World} {base:Nat} {v:Value} {xs:List Int} {e:TypeId} {k:IntKind} (h:w.ownsRow base e 1 v xs.length (nums k xs)):Kd.R (Kd.int k) e w base (fun _=>True) v xs:=
 Kd.R_of_own h (fun _ _=>trivial)

theorem frame_Put.calls (A0:Option Addr) (c0:Nat) (l0:List Int) (r:List Int) (w:World) (hr0:Kd.C (Kd.int .u8) w A0 l0.length l0) (hc0:l0.length≤c0) (h:frame_Put.f l0=some r):
  Calls Tryz.prog 66 #[.slice A0 l0.length c0] w fun e w'=>∃v0_:Value,e=.returned (v0_)∧Kd.R (Kd.int .u8) 5 w' w.heap.size (fun _=>True) v0_ r∧Below w.heap.size w w':=by
 obtain rfl:=Option.some.inj h
 refine(put_calls A0 c0 l0 w hc0 hr0).mono ?_
 rintro e w' ⟨v,rfl,ho,hb⟩
 exact⟨v,rfl,R_ints ho,hb⟩
theorem frame_First.calls (A0:Option Addr) (c0:Nat) (l0:List Int) (r1:List Int) (r2:Int) (r3:Int) (w:World) (hr0:Kd.C (Kd.int .u8) w A0 l0.length l0) (hc0:l0.length≤c0) (h:frame_First.f l0=some (r1,r2,r3)):
  Calls Tryz.prog 74 #[.slice A0 l0.length c0] w fun e w'=>∃v0_:Value,e=.returned (.tuple #[v0_,.int .i64 r2,.int .i64 r3])∧Kd.R (Kd.int .u8) 5 w' w.heap.size (fun _=>True) v0_ r1∧Below w.heap.size w w':=by
 unfold frame_First.f at h
 split at h
 ·rename_i hb
  have h:=Option.some.inj h
  refine(first_calls A0 c0 l0 w ((bytesB_iff l0).mp hb) hc0 hr0).mono ?_
  rintro e w' ⟨v,xs,k,f,rfl,HL,ho,hbw⟩
  have hl:=HL.out
  rw[h] at hl
  simp only[Prod.mk.injEq] at hl
  obtain⟨rfl,rfl,rfl⟩:=hl
  exact⟨v,rfl,R_ints ho,hbw⟩
 ·cases h
end Ext
end

section
namespace Ext
open Fr

theorem const_reads (W:World) (e:TypeId) (k:IntKind) (fr:Nat×Nat) (xs:List Int) (hm:xs.length≤9223372036854775807):Kd.C (Kd.int k) (W.alloc (.cells (nums k xs).toArray e fr)) (some ⟨W.heap.size,0,none⟩) xs.length xs:=by
 refine⟨rfl,hm,fun _=>⟨_,rfl,fun j p hj=>⟨[.int k p],rfl,rfl,fun i u hu=>?_⟩⟩⟩
 rcases i with _ | i
 ·obtain rfl:Value.int k p=u:=by simpa using hu
  rw[add_plain,cell_of_row _ _ _ _ _ _ (heap_alloc_new W _)]
  show(nums k xs).toArray[j*1+0]? =_
  simp [nums,hj]
 ·simp at hu
end Ext
end

section
namespace Pure
open Fr Ext

theorem bytes_of_wf (l:List Int) (h:∀x∈l,(Lit.int .u8 x).wf=true):IsBytes l:=by
 intro x hx
 have:=h x hx
 simp [Lit.wf,IntKind.min,IntKind.max,IntKind.signed,IntKind.bits] at this
 omega
theorem w64 (a:Int) (h0:-9223372036854775808≤a) (h1:a < 9223372036854775808):wrap64 a=a:=by
 unfold wrap64
 omega
theorem first_some (l:List Int) (h:IsBytes l):frame_First.f l=some (firstL l):=by
 unfold frame_First.f
 rw[if_pos ((bytesB_iff l).mpr h)]
end Pure
end

section
namespace Ext

end Ext
end

section
namespace Pure
open Fr Ext

abbrev Itm:=Nat×Nat×List Int
def scanGo:Nat→List Int→Nat→Nat→List Itm→List Itm×Nat×Nat×Int
 | 0,_,at_,bad,pre=>(pre,bad,at_,0)
 | k+1,l,at_,bad,pre=>
  if at_ < l.length then
   if(firstL (l.drop at_)).2.1=0 then(pre,bad,at_,(firstL (l.drop at_)).2.2)
   else if(firstL (l.drop at_)).2.2=0 then scanGo k l (at_+(firstL (l.drop at_)).2.1.toNat) bad (pre++[(at_,(firstL (l.drop at_)).2.1.toNat,(firstL (l.drop at_)).1)])
   else scanGo k l (at_+(firstL (l.drop at_)).2.1.toNat) (bad+1) pre
  else(pre,bad,at_,0)
theorem first_kinds (l:List Int) (hB:IsBytes l):∃xs k e,firstL l=(xs,k,e)∧((k=0∧xs=[]∧(e=21∨e=22))∨∃n:Nat,k=n∧9≤n∧n≤l.length∧((e=22∧xs=[])∨(e=0∧xs.length+8=n∧1≤xs.length∧xs.length≤8192∧frameOf xs=l.take n∧IsBytes xs))):=by
 rcases first_cases l hB with h | h | ⟨g1,g2,g3,g4,h | ⟨z,h,hz,hzf,hzB⟩⟩
 ·exact⟨_,_,_,h,.inl ⟨rfl,rfl,.inl rfl⟩⟩
 ·exact⟨_,_,_,h,.inl ⟨rfl,rfl,.inr rfl⟩⟩
 ·exact⟨_,_,_,h,.inr ⟨(nOf l+8).toNat,by omega,by omega,by omega,.inl ⟨rfl,rfl⟩⟩⟩
 ·exact⟨_,_,_,h,.inr ⟨(nOf l+8).toNat,by omega,by omega,by omega,.inr ⟨rfl,by omega,by omega,by omega,hzf.symm,hzB⟩⟩⟩
end Pure
end

section
namespace Pure
open Fr Ext

end Pure
end

section
namespace Pure
open Fr

end Pure
end
end
section
section
namespace Lw
open Fr Ext Go.Proofs.YtcieieacfoaklaaGreat.Pure

def Own (w:World) (base:Nat) (v:Value) (l:List Int):Prop:=w.ownsRow base 5 1 v l.length (nums .u8 l)
def Rd (w:World) (A:Option Addr) (l:List Int):Prop:=Kd.C (Kd.int .u8) w A l.length l
theorem first_n (A:Option Addr) (c n:Nat) (l xs:List Int) (k f:Int) (hr':firstL l=(xs,k,f)) (hn:l.length=n) (hB:IsBytes l) (w:World) (hc:n≤c) (hr:Rd w A l):
    Calls Tryz.prog 74 #[.slice A n c] w fun e w'=>∃A' c',e=.returned (.tuple #[.slice A' xs.length c',.int .i64 k,.int .i64 f])∧xs.length≤c'∧Aside0 (Own w' w.heap.size (.slice A' xs.length c') xs)∧Aside0 (Rd w' A' xs)∧Aside0 (Below w.heap.size w w'):=by
  subst hn
  refine(first_calls A c l w hB hc hr).mono ?_
  rintro e w' ⟨v,xs',k',f',rfl,HL,ho,hb⟩
  have h:=HL.out
  rw[hr'] at h
  simp only[Prod.mk.injEq] at h
  obtain⟨rfl,rfl,rfl⟩:=h
  obtain⟨A',c',rfl,hle,hC⟩:=Kd.R_reads (R_ints ho)
  exact⟨A',c',rfl,hle,⟨ho⟩,⟨hC⟩,⟨hb⟩⟩
theorem Rd.below {w w':World} {A:Option Addr} {l:List Int} (h:Rd w A l) (hb:Below w.heap.size w w'):Rd w' A l:=Kd.C_below h hb
theorem Rd.str {w:World} {A:Option Addr} {l:List Int} (h:Rd w A l) (c n:Nat) (hn:l.length=n) {s:ByteArray} (hs:strOfNums l=s):(convert 35 9 (.slice A n c)).run Tryz.prog w=.ok (.string s) w:=by
  subst hn hs
  exact Kd.C_string Tryz.underlying35 Tryz.underlying5 Tryz.underlying9 h
end Lw
end

section
namespace Sc
open Go.Shelf Fr Ext Go.Proofs.YtcieieacfoaklaaGreat.Pure Lw
attribute [local go_sem] Oper.semAt_some

theorem items_calls (A:Option Addr) (n c g:Nat) (w:World):
    Calls Tryz.prog 164 #[.slice A n c,.pointer (some ⟨g,0,none⟩)] w fun e w'=>e=.returned (.func (.func 187) #[] #[.pointer (some ⟨w.heap.size+1,0,none⟩),.pointer (some ⟨w.heap.size,0,none⟩)])∧
      w'=(w.alloc (.cells #[.slice A n c] 35)).alloc (.cells #[.pointer (some ⟨g,0,none⟩)] 232):=by
  go_enter Tryz.func164,Tryz.ntmps164
  go_wp2
  go_ret
  exact⟨by simp,rfl⟩
structure Hd (w0 W:World) (sb b1 b2:Nat) (A:Option Addr) (c:Nat) (l:List Int) (at_ bad:Nat) (e:Int):Prop where
  st:W.heap[sb]? =some (.cells #[.int .i64 (at_:Int),.int .i64 (bad:Int),.int .i64 e] 228 (0,0))
  x1:W.heap[b1]? =some (.cells #[.slice A l.length c] 35 (0,0))
  x2:W.heap[b2]? =some (.cells #[.pointer (some ⟨sb,0,none⟩)] 232 (0,0))
  bel:Below w0.heap.size w0 W
theorem Hd.below {w0 W W':World} {sb b1 b2:Nat} {A:Option Addr} {c:Nat} {l:List Int} {at_ bad:Nat} {e:Int} (h:Hd w0 W sb b1 b2 A c l at_ bad e) (hb:Below W.heap.size W W'):Hd w0 W' sb b1 b2 A c l at_ bad e:=
  ⟨(hb.block _ (blk_lt h.st)).trans h.st,(hb.block _ (blk_lt h.x1)).trans h.x1,(hb.block _ (blk_lt h.x2)).trans h.x2,below_then h.bel h.bel.size hb⟩
theorem Hd.cells {w0 W:World} {sb b1 b2:Nat} {A:Option Addr} {c:Nat} {l:List Int} {at_ bad:Nat} {e:Int} (h:Hd w0 W sb b1 b2 A c l at_ bad e):W.cell? ⟨b1,0,none⟩=some (.slice A l.length c)∧W.cell? ⟨b2,0,none⟩=some (.pointer (some ⟨sb,0,none⟩))∧W.cell? ⟨sb,0,none⟩=some (.int .i64 (at_:Int)):=
  ⟨(blk_cell h.x1 0).trans rfl,(blk_cell h.x2 0).trans rfl,(blk_cell h.st 0).trans rfl⟩
theorem Hd.setE {w0 W:World} {sb b1 b2:Nat} {A:Option Addr} {c:Nat} {l:List Int} {at_ bad:Nat} {e:Int} (h:Hd w0 W sb b1 b2 A c l at_ bad e) (h1:b1≠sb) (h2:b2≠sb) (hs:w0.heap.size≤sb) (e':Int):Hd w0 (W.setCell ⟨sb,2,none⟩ (.int .i64 e')) sb b1 b2 A c l at_ bad e':=
  ⟨blk_put (cs:=#[.int .i64 (at_:Int),.int .i64 (bad:Int),.int .i64 e]) h.st 2 _ rfl,blk_far h.x1 h1 _,blk_far h.x2 h2 _,h.bel.setCell hs _⟩
theorem Hd.setBad {w0 W:World} {sb b1 b2:Nat} {A:Option Addr} {c:Nat} {l:List Int} {at_ bad:Nat} {e:Int} (h:Hd w0 W sb b1 b2 A c l at_ bad e) (h1:b1≠sb) (h2:b2≠sb) (hs:w0.heap.size≤sb) (bad':Nat) (v:Int) (hv:v=(bad':Int)):Hd w0 (W.setCell ⟨sb,1,none⟩ (.int .i64 v)) sb b1 b2 A c l at_ bad' e:=by
  subst hv
  exact⟨blk_put (cs:=#[.int .i64 (at_:Int),.int .i64 (bad:Int),.int .i64 e]) h.st 1 _ rfl,blk_far h.x1 h1 _,blk_far h.x2 h2 _,h.bel.setCell hs _⟩
theorem Hd.setAt {w0 W:World} {sb b1 b2:Nat} {A:Option Addr} {c:Nat} {l:List Int} {at_ bad:Nat} {e:Int} (h:Hd w0 W sb b1 b2 A c l at_ bad e) (h1:b1≠sb) (h2:b2≠sb) (hs:w0.heap.size≤sb) (at':Nat) (v:Int) (hv:v=(at':Int)):Hd w0 (W.setCell ⟨sb,0,none⟩ (.int .i64 v)) sb b1 b2 A c l at' bad e:=by
  subst hv
  exact⟨blk_put (cs:=#[.int .i64 (at_:Int),.int .i64 (bad:Int),.int .i64 e]) h.st 0 _ rfl,blk_far h.x1 h1 _,blk_far h.x2 h2 _,h.bel.setCell hs _⟩
theorem drop_run (A:Option Addr) (c:Nat) (l:List Int) (k:Nat) (hk:k≤l.length) (hc:l.length≤c):∃A':Option Addr,(∀W:World,(Instr.slice 35 (.slice A l.length c) (some (.int .i64 (k:Int))) none none).run Tryz.prog W=.ok (.slice A' (l.length - k) (c - k)) W)∧∀w,Rd w A l→Rd w A' (l.drop k):=by
  obtain⟨i0,hi,hz0,hz1,hz2⟩:=info_parts info_u8
  obtain⟨A',h1,h2⟩:=print_cut (P:=Tryz.prog) 35 5 .i64 Tryz.underlying35 hi hz1 A l.length c k hk
  refine⟨A',h1,fun w h=>?_⟩
  have:=h2 w .u8 l hc (ints_of_C h)
  have e:(l.drop k).length=l.length - k:=List.length_drop
  unfold Rd
  rw[e]
  exact C_of_ints this

theorem items1_calls (w0:World) (lb:Nat) (A:Option Addr) (c:Nat) (xs:List Int) (sb b1 b2:Nat) (hne1:b1≠sb) (hne2:b2≠sb) (hsb:w0.heap.size≤sb) (J:List Itm→Nat→World→Prop) (Jx:World→Prop) (R:List Itm×Nat×Nat×Int) (W:World) (k N0:Nat)
    (hr0:Rd w0 A xs) (hB:IsBytes xs) (hc:xs.length≤c) (hm:xs.length≤140737488351232)
    (hJ0:∀pre N N' W,J pre N W→N≤N'→J pre N' W)
    (hJ1:∀pre N W W',J pre N W→N≤W.heap.size→Below W.heap.size W W'→J pre N W')
    (hJ2:∀pre N W p v,p.block=sb→J pre N W→J pre N (W.setCell p v))
    (hY:∀pre N at_ bad n ys A' c' k W1,J pre N W1→N≤W1.heap.size→Hd w0 W1 sb b1 b2 A c xs (at_+n) bad 0→at_+n≤xs.length→pre.length≤at_→Lw.Own W1 N (.slice A' ys.length c') ys→scanGo k xs (at_+n) bad (pre++[(at_,n,ys)])=R→
      YieldAt Fence.wide 0 Tryz.prog lb #[.agg #[.int .i64 (at_:Int),.int .i64 (n:Int),.slice A' ys.length c']] W1 fun e W'=>(e=.returned (.bool true)∧(∃N',N'≤W'.heap.size∧J (pre++[(at_,n,ys)]) N' W')∧Hd w0 W' sb b1 b2 A c xs (at_+n) bad 0)∨(e=.returned (.bool false)∧Jx W'))
    (at0 bad0:Nat) (hat:at0≤xs.length) (hbad:bad0≤at0) (h0:J [] N0 W) (hN0:N0≤W.heap.size) (hH:Hd w0 W sb b1 b2 A c xs at0 bad0 0) (hk:xs.length < at0+k) (hR:scanGo k xs at0 bad0 []=R):
    Calls Tryz.prog 187 #[.func (.yield lb) #[] #[],.pointer (some ⟨b2,0,none⟩),.pointer (some ⟨b1,0,none⟩)] W fun e W'=>(∃v,e=.returned v)∧
      ((∃N,N≤W'.heap.size∧J R.1 N W'∧Hd w0 W' sb b1 b2 A c xs R.2.2.1 R.2.1 R.2.2.2)∨Jx W'):=by
  have HJ:=ak h0
  have HH:=ak hH
  have HR:=ak hR
  clear h0 hH hR
  go_enter Tryz.func187,Tryz.ntmps187
  go_wp2
  go_loopg [] k (fun kq wr=>∃at_ bad pre N,Aside0 (J pre N wr)∧Aside0 (N≤wr.heap.size)∧Aside0 (Hd w0 wr sb b1 b2 A c xs at_ bad 0)∧Aside0 (xs.length < at_+kq)∧Aside0 (scanGo kq xs at_ bad pre=R)∧Aside0 (at_≤xs.length)∧Aside0 (bad≤at_)∧Aside0 (pre.length≤at_))
  case atStart=>exact⟨at0,bad0,[],N0,HJ,⟨hN0⟩,HH,⟨hk⟩,HR,⟨hat⟩,⟨hbad⟩,⟨Nat.zero_le _⟩⟩
  case round=>
    clear HJ HH HR hk
    obtain⟨at_,bad,pre,N,HJ,HN,HH,HK,HR,HA,HD,HP⟩:=hrel
    cases gk with
    | zero=>exact absurd HK.out (by have:=HA.out;omega)
    | succ gk=>
      have s0:=(blk_cell HH.out.st 0).trans rfl
      have s1:=(blk_cell HH.out.st 1).trans rfl
      have s2:=(blk_cell HH.out.st 2).trans rfl
      have x1:=(blk_cell HH.out.x1 0).trans rfl
      have x2:=(blk_cell HH.out.x2 0).trans rfl
      by_cases hlt:at_ < xs.length
      · have d1:decide ((at_:Int) < (xs.length:Int))=true:=decide_eq_true (by omega)
        have d2:decide (at_ < xs.length)=true:=decide_eq_true hlt
        obtain⟨A1,hdr1,hdr2⟩:=drop_run A c xs at_ (by omega) hc
        go_wp2
        go_quiet (fail)
        have HB0:=ak (pw_below_drewN (Below.refl wr.heap.size wr) nq)
        have HH1:=ak (HH.out.below HB0.out)
        have HJ1:=ak (hJ0 _ _ _ _ (hJ1 _ _ _ _ HJ.out HN.out HB0.out) HN.out)
        obtain⟨Nn,HNn⟩:∃n,Aside0 (wr.heap.size=n):=⟨_,⟨rfl⟩⟩
        have hNsb:=ak (show sb < Nn by rw[← HNn.out];exact blk_lt HH.out.st)
        have HNw:=ak (show Nn≤(wr.drewN nq).heap.size by rw[← HNn.out];exact HB0.out.size)
        rw[HNn.out] at HJ1
        clear HJ HN HH HB0 s0 s1 s2 x1 x2 HNn
        generalize wr.drewN nq=wa at HH1 HJ1 HNw ⊢
        have s0:=(blk_cell HH1.out.st 0).trans rfl
        have s1:=(blk_cell HH1.out.st 1).trans rfl
        have s2:=(blk_cell HH1.out.st 2).trans rfl
        have x1:=(blk_cell HH1.out.x1 0).trans rfl
        have x2:=(blk_cell HH1.out.x2 0).trans rfl
        obtain⟨ys,kk,ee,hf,hkinds⟩:=first_kinds (xs.drop at_) (hB.drop at_)
        have HF:=ak hf
        clear hf
        go_wp2
        go_region_held3 (fun w'=>w'.cell? ⟨b1,0,none⟩=some (.slice A xs.length c)∧w'.cell? ⟨b2,0,none⟩=some (.pointer (some ⟨sb,0,none⟩))∧w'.cell? ⟨sb,0,none⟩=some (.int .i64 (at_:Int)))
          (first | go_keep | exact((HH1.out.below (below_drew1 (Below.refl _ _))).below B2.out).cells | fail)
          ((go_at_call 74;(with_reducible refine(first_n A1 (c - at_) (xs.length - at_) (xs.drop at_) ys kk ee HF.out List.length_drop (hB.drop at_) _ (by omega) (hdr2 _ (hr0.below (HH1.out.below (below_drew1 (Below.refl _ _))).bel))).mono ?_);rintro e w1 ⟨A2,c2,rfl,hc2,O2,R2,B2⟩))
        all_goals
          have HH2:=ak ((HH1.out.below (below_drew1 (Below.refl _ _))).below B2.out)
          have HJ2:=ak (hJ1 _ _ _ _ (hJ1 _ _ _ _ HJ1.out HNw.out (below_drew1 (Below.refl _ _))) HNw.out B2.out)
          have HN2:=ak (Nat.le_trans HNw.out (Nat.le_trans (below_drew1 (Below.refl wa.heap.size wa)).size B2.out.size))
          have HO2:=ak (own_weaken O2.out HNw.out)
          clear HH1 HJ1 HNw O2 R2 B2 s0 s1 s2 x1 x2 hdr1 hdr2
          have s0:=(blk_cell HH2.out.st 0).trans rfl
          have s1:=(blk_cell HH2.out.st 1).trans rfl
          have s2:=(blk_cell HH2.out.st 2).trans rfl
          have z0:=blk_frozen HH2.out.st 0
          have z1:=blk_frozen HH2.out.st 1
          have z2:=blk_frozen HH2.out.st 2
          have x1:=(blk_cell HH2.out.x1 0).trans rfl
          have x2:=(blk_cell HH2.out.x2 0).trans rfl
          rcases hkinds with⟨rfl,rfl,he⟩ | ⟨n,rfl,hn9,hnl,⟨rfl,rfl⟩ | ⟨rfl,hyl,hy1,hy2,hyf,hyB⟩⟩
          · clear hY
            have hR':R=(pre,bad,at_,ee):=by
              rw[← HR.out,scanGo,if_pos hlt,HF.out]
              rfl
            go_wp2
            refine bodyPost_ret (results_none rfl _ _ _) rfl ?_
            refine⟨⟨_,rfl⟩,.inl ⟨Nn,?_,?_,?_⟩⟩
            · exact Nat.le_trans HN2.out (KeepsWalks.setCell _ _ _).size
            · rw[hR']
              exact hJ2 _ _ _ _ _ rfl HJ2.out
            · rw[hR']
              exact HH2.out.setE hne1 hne2 hsb ee
          · have hn2:at_+n≤xs.length:=by rw[List.length_drop] at hnl;omega
            have hb2:bad≤at_:=HD.out
            have hR':scanGo gk xs (at_+n) (bad+1) pre=R:=by
              rw[← HR.out,scanGo,if_pos hlt,HF.out]
              simp only[Int.toNat_natCast]
              rw[if_neg (by omega),if_neg (by decide)]
            have HR':=ak hR'
            have k0:((n:Int)==0)=false:=beq_eq_false_iff_ne.mpr (by omega)
            have k1:(n==0)=false:=beq_eq_false_iff_ne.mpr (by omega)
            have k2:decide (n=0)=false:=decide_eq_false (by omega)
            clear hR' HR hY
            go_wp2
            go_roundg gk
            case measure=>omega
            case rel=>
              refine⟨at_+n,bad+1,pre,Nn,⟨hJ2 _ _ _ _ _ rfl (hJ2 _ _ _ _ _ rfl HJ2.out)⟩,⟨Nat.le_trans HN2.out (Nat.le_trans (KeepsWalks.setCell _ _ _).size (KeepsWalks.setCell _ _ _).size)⟩,⟨?_⟩,⟨by have:=HK.out;omega⟩,HR',⟨?_⟩,⟨?_⟩,⟨by have:=HP.out;omega⟩⟩
              · refine(HH2.out.setBad hne1 hne2 hsb (bad+1) _ ?_).setAt hne1 hne2 hsb (at_+n) _ ?_
                · omega
                · omega
              · exact hn2
              · omega
          · have hn2:at_+n≤xs.length:=by rw[List.length_drop] at hnl;omega
            have hR':scanGo gk xs (at_+n) bad (pre++[(at_,n,ys)])=R:=by
              rw[← HR.out,scanGo,if_pos hlt,HF.out]
              simp only[Int.toNat_natCast]
              rw[if_neg (by omega),if_pos trivial]
            have HR':=ak hR'
            have k0:((n:Int)==0)=false:=beq_eq_false_iff_ne.mpr (by omega)
            have k1:(n==0)=false:=beq_eq_false_iff_ne.mpr (by omega)
            have k2:decide (n=0)=false:=decide_eq_false (by omega)
            clear hR' HR
            go_upto_region 8 with(fail)
            have HB3:=ak (below_alloc (Below.refl w1.heap.size w1) (.cells #[.int .i64 (at_:Int),.int .i64 (n:Int),.slice A2 ys.length c2] 200))
            have HH3:=ak (HH2.out.below HB3.out)
            have HJ3:=ak (hJ1 _ _ _ _ HJ2.out HN2.out HB3.out)
            have HO3:=ak (own_move HO2.out (fun k hk=>HB3.out.block k (own_lt HO2.out k hk)))
            have HN3:=ak (Nat.le_trans HN2.out HB3.out.size)
            have BK3:=ak (heap_alloc_new w1 (.cells #[.int .i64 (at_:Int),.int .i64 (n:Int),.slice A2 ys.length c2] 200))
            have HS3:=ak (show w1.heap.size≠sb from fun e=>by have:=blk_lt HH2.out.st;omega)
            have HSO:=ak (show(Value.slice A2 ys.length c2).ownBlock≠some sb from fun e=>by have:=own_base HO2.out sb e;have:=hNsb.out;omega)
            clear HH2 HJ2 HO2 HN2 HB3 s0 s1 s2 z0 z1 z2 x1 x2
            generalize w1.heap.size=g3 at BK3 HS3 ⊢
            generalize w1.alloc (.cells #[.int .i64 (at_:Int),.int .i64 (n:Int),.slice A2 ys.length c2] 200)=w3 at HH3 HJ3 HO3 HN3 BK3 ⊢
            have s0:=(blk_cell HH3.out.st 0).trans rfl
            have z0:=blk_frozen HH3.out.st 0
            have x2:=(blk_cell HH3.out.x2 0).trans rfl
            go_upto_region 9 with(fail)
            have HJ4:=ak (hJ2 _ _ _ ⟨sb,0,none⟩ (.int .i64 ((at_:Int)+(n:Int))) rfl HJ3.out)
            have HH4:=ak (HH3.out.setAt hne1 hne2 hsb (at_+n) ((at_:Int)+(n:Int)) (by omega))
            have HO4:=ak (own_setCell HO3.out (p:=⟨sb,0,none⟩) (fun e=>HSO.out e.symm) (.int .i64 ((at_:Int)+(n:Int))))
            have HN4:=ak (Nat.le_trans HN3.out (KeepsWalks.setCell w3 ⟨sb,0,none⟩ (.int .i64 ((at_:Int)+(n:Int)))).size)
            have BK4:=ak (blk_far BK3.out (p:=⟨sb,0,none⟩) HS3.out (.int .i64 ((at_:Int)+(n:Int))))
            clear HJ3 HH3 HO3 HN3 BK3 s0 z0 x2
            generalize w3.setCell ⟨sb,0,none⟩ (.int .i64 ((at_:Int)+(n:Int)))=w4 at HJ4 HH4 HO4 HN4 BK4 ⊢
            have y0:=(blk_cell BK4.out 0).trans rfl
            have y1:=(blk_cell BK4.out 1).trans rfl
            have y2:=(blk_cell BK4.out 2).trans rfl
            obtain⟨fn,tmps,assign,body,hy,hR5⟩:=hY pre Nn at_ bad n ys A2 c2 gk w4 HJ4.out HN4.out HH4.out hn2 HP.out HO4.out HR'.out
            refine(wpIn_wide (n:=1)).1 ?_
            gi_wp2
            refine hR5.mono ?_
            clear HJ4 HH4 HO4 HN4 BK4 y0 y1 y2 hy hR5 hY
            rintro e W' (⟨rfl,⟨N',hN',hJ'⟩,hH'⟩ | ⟨rfl,hX⟩)
            · gi_wp2
              go_wp2
              go_roundg gk
              case measure=>omega
              case rel=>exact⟨at_+n,bad,pre++[(at_,n,ys)],N',⟨hJ'⟩,⟨hN'⟩,⟨hH'⟩,⟨by have:=HK.out;omega⟩,HR',⟨hn2⟩,⟨by have:=HD.out;omega⟩,⟨by have:=HP.out;rw[List.length_append,List.length_singleton];omega⟩⟩
            · gi_wp2
              go_wp2
              refine bodyPost_ret (results_none rfl _ _ _) rfl ?_
              exact⟨⟨_,rfl⟩,.inr hX⟩
      · have d1:decide ((at_:Int) < (xs.length:Int))=false:=decide_eq_false (by omega)
        have d2:decide (at_ < xs.length)=false:=decide_eq_false hlt
        have hR':R=(pre,bad,at_,0):=by
          rw[← HR.out,scanGo,if_neg hlt]
        go_wp2
        go_quiet (fail)
        have HB0:=ak (pw_below_drewN (Below.refl wr.heap.size wr) nq)
        have HH1:=ak (HH.out.below HB0.out)
        have HJ1:=ak (hJ1 _ _ _ _ HJ.out HN.out HB0.out)
        go_wp2
        go_end0
        refine⟨⟨_,rfl⟩,.inl ⟨N,Nat.le_trans HN.out HB0.out.size,?_,?_⟩⟩
        · rw[hR']
          exact HJ1.out
        · rw[hR']
          exact HH1.out
end Sc
end

section
namespace Sc
open Go.Shelf Fr Ext Go.Proofs.YtcieieacfoaklaaGreat.Pure Lw

theorem range_wide {P:Program} {g:Operand} {ps:Array Tmp} {assign body:Code} {Q:Exit→Act→World→Prop} {a:Act} {W:World} {gf:Nat} {lb:Array Value}
    (hg:a.eval g=.func (.func gf) #[] lb) (eg:∀args w,(callFunc gf args).run P w=.ok (.enter gf args) w)
    (h:∀(fn:FuncId) (rec:LoopState→Option Code→Loop),(∀st pe,rec st pe={state:=st,pending:=pe,fn,tmps:=a.tmps,params:=ps,assign,body,defers:=W.heap.size})→
      Calls P gf (#[.func (.yield (W.heap.size+1)) #[] #[]]++lb) ((W.alloc (.deferred (some []))).alloc (.loop (rec .ready none))) fun e W2=>(∃v,e=.returned v)∧
        ∃st pe,st≠LoopState.busy∧W2.heap[W.heap.size+1]? =some (.loop (rec st pe))∧
          (match pe with
           | none=>Q .normal {a with defers:={target:=.collected W.heap.size,args:=#[]}::a.defers} (W2.putObj (W.heap.size+1) (.loop (rec .exhausted pe)))
           | some c=>c.wp P Q {a with defers:={target:=.collected W.heap.size,args:=#[]}::a.defers} (W2.putObj (W.heap.size+1) (.loop (rec .exhausted pe))))):
    (Code.rangeFunc g ps assign body).wp P Q a W:=by
  refine(wpIn_wide (n:=3)).1 ?_
  refine wpIn_rangeFunc ?_
  intro fn _
  obtain⟨rec,hrec⟩:∃rec:LoopState→Option Code→Loop,∀st pe,rec st pe={state:=st,pending:=pe,fn,tmps:=a.tmps,params:=ps,assign,body,defers:=W.heap.size}:=⟨_,fun _ _=>rfl⟩
  obtain⟨W1,hW1⟩:∃W1,(W.alloc (.deferred (some []))).alloc (.loop (rec .ready none))=W1:=⟨_,rfl⟩
  have hcall:=h fn rec hrec
  rw[hW1] at hcall
  refine⟨W.heap.size+1,[{target:=.collected W.heap.size,args:=#[]}],W1,{target:=.fn (.func gf) lb,args:=#[.func (.yield (W.heap.size+1)) #[] #[]]},W1,gf,
    #[.func (.yield (W.heap.size+1)) #[] #[]]++lb,W1,?_,?_,?_,?_,?_,?_⟩
  · rw[← hW1,hrec]
    exact run_enterLoop_outer _ _ _ _ _
  · simp only[resolve,hg]
    simp [go_sem]
  · intro _ _
    trivial
  · simp [invoke,go_sem,eg]
  · intro _
    omega
  · refine callsIn_wide.2 (hcall.mono ?_)
    rintro e W2 ⟨⟨v,rfl⟩,st,pe,hb,hl,hq⟩
    have hend:(Instr.endLoop (W.heap.size+1)).run P W2=.ok pe (W2.putObj (W.heap.size+1) (.loop (rec .exhausted pe))):=by
      rw[hrec] at hl
      rw[hrec]
      exact run_endLoop (P:=P) hl hb
    refine⟨pe,_,hend,?_⟩
    cases pe with
    | none=>exact hq
    | some c=>exact wpIn_wide.2 hq

theorem yield_wide {P:Program} {l:Nat} {fn:FuncId} {tmps:Array Value} {ps:Array Tmp} {assign body:Code} {D:Nat} {args:Array Value} {W:World} {R:Ending→World→Prop}
    (hl:W.heap[l]? =some (.loop {state:=.ready,pending:=none,fn,tmps,params:=ps,assign,body,defers:=D})) (hs:args.size=ps.size)
    (h:assign.wpIn (Fence.wide.inRound l) 0 P (Exit.then (fun a₁ w₁=>∃w₂,(Instr.beginRound l).run P w₁=.ok () w₂∧body.wpIn (Fence.wide.inRound l) 0 P (roundPost P l R) a₁ w₂) (fun _ _ _=>False))
      {tmps:=(ps.zip args).foldl (fun t (p,v)=>t.setIfInBounds p v) tmps,defers:=[]} W):
    YieldAt Fence.wide 0 P l args W R:=
  ⟨fn,_,assign,body,run_yield hl hs,roundIn_of_wpIn trivial h⟩

theorem append_in {F:Fence} {n:Nat} {P:Program} {α:Type} {ops:Array Oper} {rest:List Oper} {o:Oper} {a:Act} {Q:Exit→Act→World→Prop} (d:Kd α) {w0 W:World} (base:Nat) (hgd:o.guard=none) (s x:Operand) (t e:TypeId) (z:Value) (bytes:Nat)
    (ho:o.op=.call {callee:=.builtin .append,args:=#[s,x],argTypes:=#[t,t]})
    (ht:P.underlying t=some (.slice e)) (hinfo:(P.info? e).map (fun i=>(i.zero,i.size,i.bytes))=some (some z,d.sz,bytes)) (hz:z.cells.size=d.sz) (hs0:0 < d.sz) (hb0:0 < bytes)
    (v:Value) (xs:List α) (p:α) (cs:List Value) (ok okp:Nat→Prop) (hs:a.eval s=v) (hx:a.eval x=.slice (some ⟨W.heap.size,0,none⟩) 1 1) (hp:d.M W base okp p cs) (hokp:∀k,okp k→ok k∧some k≠v.ownBlock) (hfresh:∀k,W.heap.size≤k→ok k)
    (HO:Kd.S d e W base (fun k=>ok k∧¬okp k) v xs) (HB:Below base w0 W) (hbase:base≤W.heap.size) (hl:(xs.length+1)*bytes≤140737488355328)
    (h:∀v1 w1,Kd.S d e w1 base ok v1 (xs++[p])→Below base w0 w1→W.grownBy w1 v.ownBlock→wpListIn F n P ops Q rest (a.put o.dst v1) w1):
    wpListIn F n P ops Q (o::rest) a (W.alloc (.cells cs.toArray e)):=by
  obtain⟨f,hf,hR⟩:=Kd.S_tag HO xs.length okp (fun _ hk h2=>h2.2 hk)
  have hR':=Kd.R_mono (ok':=ok) hR (fun _ hk=>hk.1)
  have hp':(Kd.tag f d).M W base okp (p,xs.length) cs:=d.M_mono (fun k hk=>⟨hk,hf k hk⟩) hp
  obtain⟨h0,inner,hown,hr⟩:=hR'
  obtain⟨i0,hi,hzz⟩:=Option.map_eq_some_iff.1 hinfo
  simp only[Prod.mk.injEq] at hzz
  obtain⟨hz0,hz1,hz2⟩:=hzz
  have hlen0:xs.zipIdx.length=xs.length:=List.length_zipIdx
  have hlen:xs.length+1≤140737488355328:=Nat.le_trans (Nat.le_mul_of_pos_right _ hb0) hl
  have hys:cs.length=d.sz:=d.K_len (d.K_of_M hp)
  rw[hlen0] at hown
  obtain⟨v',w',hrun,r1,r2,_,r4⟩:=run_append_own_at (P:=P) (w:=W.alloc (.cells cs.toArray e)) base t o.type e i0 z d.sz bytes ht hi hz0 hz1 hz2 hz hs0 v xs.length inner (hown.alloc _) ⟨W.heap.size,0,none⟩ 1 1 cs (by rw[hys];simp)
    (by simpa using World.news_of_block (cs:=cs.toArray) (t:=e) (fr:=(0,0)) (heap_alloc_new W (.cells cs.toArray e))) (d.K_one (d.K_of_M hp)) (by simp only[maxLen];omega) hl (by simp;omega)
  have hg1:W.grownBy w' v.ownBlock:=World.grownBy.trans (World.grownBy_alloc W _ _) r2
  have hat:v'.ownBlock=v.ownBlock∨∃b,v'.ownBlock=some b∧W.heap.size≤b:=by
    rcases r4 with r4 | r4
    · exact .inl r4
    · exact .inr ⟨_,r4,by simp⟩
  have hB1:Below base w0 w':=(HB.alloc hbase _).grown r2 (by simp;omega) (own_base hown)
  have hS:Kd.S d e w' base ok v' (xs++[p]):=by
    refine⟨f,?_⟩
    rw[Kd.zip_snoc]
    exact Kd.R_appended h0 hr hp' hokp hfresh (by rw[hlen0];exact r1) hg1 hat
  refine wpListIn_plain hgd fun K hK'=>?_
  unfold Oper.wpIn
  refine⟨?_,?_⟩
  · simp [Oper.about,ho,resolve,Target.leads,Sem.run_pure]
  · rw[Oper.semAt_plain F _ _ (by rw[ho];intro c hc';cases hc')]
    simp [execOp,ho,resolve,invoke,builtin,hs,hx,hrun,Result.andThen]
    exact hK' _ _ (h v' w' hS hB1 hg1)
end Sc
end

section
namespace Sc
open Go.Shelf Fr Ext Go.Proofs.YtcieieacfoaklaaGreat.Pure Lw Pt
attribute [local go_sem] Oper.semAt_some

def toS (x:Itm):S200:=⟨(x.1:Int),(x.2.1:Int),x.2.2⟩
structure JA (base ob D L:Nat) (rec:LoopState→Option Code→Loop) (pre:List Itm) (N:Nat) (W:World):Prop where
  dd:W.heap[D]? =some (.deferred (some []))
  ll:W.heap[L]? =some (.loop (rec .ready none))
  nn:L < N
  oo:∃v,W.heap[ob]? =some (.cells #[v] 196 (0,0))∧Kd.S k200 200 W base (fun k=>L < k∧k < N) v (pre.map toS)

theorem blk_lt' {W:World} {k:Nat} {o:Obj} (h:W.heap[k]? =some o):k < W.heap.size:=(Array.getElem?_eq_some_iff.1 h).1
theorem four_new (w:World) (o1 o2 o3 o4:Obj):((((w.alloc o1).alloc o2).alloc o3).alloc o4).heap[w.heap.size]? =some o1∧((((w.alloc o1).alloc o2).alloc o3).alloc o4).heap[w.heap.size+1]? =some o2∧((((w.alloc o1).alloc o2).alloc o3).alloc o4).heap[w.heap.size+2]? =some o3∧((((w.alloc o1).alloc o2).alloc o3).alloc o4).heap[w.heap.size+3]? =some o4∧((((w.alloc o1).alloc o2).alloc o3).alloc o4).heap.size=w.heap.size+4∧Below w.heap.size w ((((w.alloc o1).alloc o2).alloc o3).alloc o4):=by
  refine⟨?_,?_,?_,?_,by simp,below_alloc (below_alloc (below_alloc (below_alloc (Below.refl _ _) _) _) _) _⟩
  · rw[Below.heap_alloc _ _ _ (by simp <;> omega),Below.heap_alloc _ _ _ (by simp <;> omega),Below.heap_alloc _ _ _ (by simp)]
    exact World.alloc_heap_new _ _
  · rw[Below.heap_alloc _ _ _ (by simp <;> omega),Below.heap_alloc _ _ _ (by simp)]
    have:=World.alloc_heap_new (w.alloc o1) o2
    rwa [World.size_alloc] at this
  · rw[Below.heap_alloc _ _ _ (by simp)]
    have:=World.alloc_heap_new ((w.alloc o1).alloc o2) o3
    simpa using this
  · have:=World.alloc_heap_new (((w.alloc o1).alloc o2).alloc o3) o4
    simpa using this

theorem all_calls (A:Option Addr) (c:Nat) (xs:List Int) (w:World) (k:Nat) (R:List Itm×Nat×Nat×Int) (hB:IsBytes xs) (hc:xs.length≤c) (hm:xs.length≤1000000000) (hr:Rd w A xs) (hk:xs.length < k) (hR:scanGo k xs 0 0 []=R):
    Calls Tryz.prog 143 #[.slice A xs.length c] w fun e w'=>∃v,e=.returned (.tuple #[v,.int .i64 (R.2.1:Int),.int .i64 (R.2.2.1:Int),.int .i64 R.2.2.2])∧Kd.S k200 200 w' w.heap.size (fun _=>True) v (R.1.map toS)∧Below w.heap.size w w':=by
  refine callsIn_wide.1 (callsIn_of_wp_marks (n:=3) Tryz.func143 rfl trivial ?_)
  refine wpIn_wide.2 ?_
  simp only[Tryz.ntmps143,List.size_toArray,List.length_cons,List.length_nil,Nat.reduceAdd,Nat.reduceSub,Array.replicate_succ,Array.replicate_zero,List.push_toArray,List.append_toArray,List.nil_append,List.cons_append]
  go_wp2_with (go_at_call 164;(with_reducible refine(items_calls A xs.length c _ _).mono ?_);rintro e w1 ⟨rfl,rfl⟩)
  obtain⟨q0,q1,q2,q3,q4,q5⟩:=four_new w (.cells #[.slice none 0 0] 196) (.cells #[.int .i64 0,.int .i64 0,.int .i64 0] 228) (.cells #[.slice A xs.length c] 35) (.cells #[.pointer (some ⟨w.heap.size+1,0,none⟩)] 232)
  rw[show w.heap.size+1+1+1=w.heap.size+3 from rfl,show w.heap.size+1+1=w.heap.size+2 from rfl]
  generalize ((((w.alloc (.cells #[.slice none 0 0] 196)).alloc (.cells #[.int .i64 0,.int .i64 0,.int .i64 0] 228)).alloc (.cells #[.slice A xs.length c] 35)).alloc (.cells #[.pointer (some ⟨w.heap.size+1,0,none⟩)] 232))=W0 at q0 q1 q2 q3 q4 q5 ⊢
  refine range_wide rfl (enters_of Tryz.func187 (by kernel_rfl) rfl) ?_
  intro fn rec hrec
  rw[q4]
  have HH1:Hd w ((W0.alloc (.deferred (some []))).alloc (.loop (rec .ready none))) (w.heap.size+1) (w.heap.size+2) (w.heap.size+3) A c xs 0 0 0:=
    Hd.below (Hd.below ⟨q1,q2,q3,q5⟩ (below_alloc (Below.refl _ _) _)) (below_alloc (Below.refl _ _) _)
  have HJ1:JA w.heap.size w.heap.size (w.heap.size+4) (w.heap.size+5) rec [] (w.heap.size+6) ((W0.alloc (.deferred (some []))).alloc (.loop (rec .ready none))):=by
    have d1:=World.alloc_heap_new W0 (.deferred (some []))
    have d2:=World.alloc_heap_new (W0.alloc (.deferred (some []))) (.loop (rec .ready none))
    rw[World.size_alloc] at d2
    rw[q4] at d1 d2
    exact⟨(Below.heap_alloc _ _ _ (by simp <;> omega)).trans d1,d2,by omega,_,(Below.heap_alloc _ _ _ (by simp <;> omega)).trans ((Below.heap_alloc _ _ _ (by omega)).trans q0),Kd.S_nil _ _ _ _ _⟩
  have hsz1:((W0.alloc (.deferred (some []))).alloc (.loop (rec .ready none))).heap.size=w.heap.size+6:=by simp;omega
  generalize (W0.alloc (.deferred (some []))).alloc (.loop (rec .ready none))=W1 at HH1 HJ1 hsz1 ⊢
  clear q0 q1 q2 q3 q4 q5
  refine(items1_calls w (w.heap.size+5) A c xs (w.heap.size+1) (w.heap.size+2) (w.heap.size+3) (by omega) (by omega) (by omega)
    (JA w.heap.size w.heap.size (w.heap.size+4) (w.heap.size+5) rec) (fun _=>False) R W1 k (w.heap.size+6) hr hB hc (by omega) ?j0 ?j1 ?j2 ?yy 0 0 (Nat.zero_le _) (Nat.le_refl _) HJ1 (Nat.le_of_eq hsz1.symm) HH1 (by omega) hR).mono ?fin
  case j0=>
    rintro pre N N' W ⟨h1,h2,hn,v,h3,h4⟩ hN
    exact⟨h1,h2,by omega,v,h3,Kd.S_mono h4 (fun k hk=>⟨hk.1,by omega⟩)⟩
  case j1=>
    rintro pre N W W' ⟨h1,h2,hn,v,h3,h4⟩ hN hb
    exact⟨(hb.block _ (blk_lt' h1)).trans h1,(hb.block _ (blk_lt' h2)).trans h2,hn,v,(hb.block _ (blk_lt h3)).trans h3,Kd.S_below h4 hb⟩
  case j2=>
    rintro pre N W p u hp ⟨h1,h2,hn,v,h3,h4⟩
    exact⟨(Below.heap_setCell _ _ _ _ (by omega)).trans h1,(Below.heap_setCell _ _ _ _ (by omega)).trans h2,hn,v,blk_far h3 (by omega) _,Kd.S_far h4 (fun k hk=>by omega) _⟩
  case yy=>
    rintro pre N at_ bad n ys A' c' k' W2 ⟨hd,hl,hn,v1,hv1,hS⟩ hN hH hle hpre hO hgo
    have hl':=hl
    rw[hrec] at hl
    refine yield_wide hl rfl ?_
    gi_wp2
    have hg3:=World.alloc_heap_new W2 (.cells #[.int .i64 (at_:Int),.int .i64 (n:Int),.slice A' ys.length c'] 200)
    have hB3:=below_alloc (Below.refl W2.heap.size W2) (.cells #[.int .i64 (at_:Int),.int .i64 (n:Int),.slice A' ys.length c'] 200)
    have hsz:w.heap.size+5 < W2.heap.size:=blk_lt' hl'
    generalize hg0:W2.heap.size=g at hg3 hsz hN hB3 ⊢
    have hs3:(W2.alloc (.cells #[.int .i64 (at_:Int),.int .i64 (n:Int),.slice A' ys.length c'] 200)).heap.size=g+1:=by simp [hg0]
    generalize W2.alloc (.cells #[.int .i64 (at_:Int),.int .i64 (n:Int),.slice A' ys.length c'] 200)=W3 at hg3 hB3 hs3 ⊢
    rw[← hg0] at hB3
    have hl3:W3.heap[w.heap.size+5]? =some (.loop (rec .ready none)):=(hB3.block _ (blk_lt' hl')).trans hl'
    have hbr:(Instr.beginRound (w.heap.size+5)).run Tryz.prog W3=.ok () (W3.putObj (w.heap.size+5) (.loop (rec .busy none))):=by
      rw[hrec] at hl3
      rw[hrec]
      exact run_beginRound hl3 rfl
    refine⟨_,hbr,?_⟩
    have e0:∀i,i≠w.heap.size+5→(W3.putObj (w.heap.size+5) (.loop (rec .busy none))).heap[i]? =W3.heap[i]? :=fun i hi=>World.putObj_heap_other hi
    have e1:∀i,i < W2.heap.size→i≠w.heap.size+5→(W3.putObj (w.heap.size+5) (.loop (rec .busy none))).heap[i]? =W2.heap[i]? :=fun i hi hne=>(e0 i hne).trans (hB3.block i hi)
    have HL:=ak (show(W3.putObj (w.heap.size+5) (.loop (rec .busy none))).heap[w.heap.size+5]? =some (.loop (rec .busy none)) from World.putObj_heap_same (blk_lt' hl3))
    have HD:=ak ((e1 (w.heap.size+4) (by omega) (by omega)).trans hd)
    have HO:=ak ((e1 w.heap.size (by omega) (by omega)).trans hv1)
    have HX:=ak ((e0 g (by omega)).trans hg3)
    have HS:=ak (show Kd.S k200 200 (W3.putObj (w.heap.size+5) (.loop (rec .busy none))) w.heap.size (fun k=>w.heap.size+5 < k∧k < N) v1 (pre.map toS) from Kd.S_step hS (fun k hk hlt=>e1 k hlt (by omega)))
    have HYs:=ak (own_move (w1:=W3.putObj (w.heap.size+5) (.loop (rec .busy none))) hO (fun k hk=>e1 k (own_lt hO k hk) (by have:=own_base hO k hk;omega)))
    have HSZ:=ak (show(W3.putObj (w.heap.size+5) (.loop (rec .busy none))).heap.size=g+1 by simp [hs3])
    have HHd:Aside0 (Hd w (W3.putObj (w.heap.size+5) (.loop (rec .busy none))) (w.heap.size+1) (w.heap.size+2) (w.heap.size+3) A c xs (at_+n) bad 0):=
      ⟨⟨(e1 _ (by omega) (by omega)).trans hH.st,(e1 _ (by omega) (by omega)).trans hH.x1,(e1 _ (by omega) (by omega)).trans hH.x2,(below_then hH.bel hH.bel.size hB3).grown (grownBy_putObj' W3 (w.heap.size+5) (.loop (rec .busy none))) (by omega) (fun k e=>by cases e;omega)⟩⟩
    clear hl hd hv1 hS hO hH hg3 hB3 hl3 hbr e0 e1 hs3 hl' hg0
    generalize W3.putObj (w.heap.size+5) (.loop (rec .busy none))=W4 at HL HD HO HX HS HYs HSZ HHd ⊢
    have o0:=(blk_cell HO.out 0).trans rfl
    have z0:=blk_frozen HO.out 0
    have x0:=(blk_cell HX.out 0).trans rfl
    have x1:=(blk_cell HX.out 1).trans rfl
    have x2:=(blk_cell HX.out 2).trans rfl
    obtain⟨Sv,hSv⟩:∃f,Aside0 (∀k,v1.ownBlock=some k→w.heap.size+5 < k∧k < N):=⟨(),⟨(Kd.S_R HS.out).1⟩⟩
    have hbyte:(pre.length+1)*40≤140737488355328:=by omega
    have hlenm:(pre.map toS).length=pre.length:=List.length_map _
    gi_wp2_with (gi_at_builtin;refine append_in k200 (w0:=w) w.heap.size rfl (.tmp 12) (.tmp 14) 196 200 (.agg #[.int .i64 0,.int .i64 0,.slice none 0 0]) 40 rfl Tryz.underlying196 info200 rfl (by decide) (by omega) v1 (pre.map toS) (toS (at_,n,ys)) [.int .i64 (at_:Int),.int .i64 (n:Int),.slice A' ys.length c'] (fun k=>w.heap.size+5 < k) (fun k=>some k=(Value.slice A' ys.length c').ownBlock) rfl rfl ?aP ?aK ?aF ?aO ?aB ?aS ?aL ?_;(case aP=>exact k200_mkM _ _ _ (toS (at_,n,ys)) (Kd.R_of_own (own_weaken HYs.out (by omega)) (fun k hk=>hk.symm)));(case aK=>exact(fun k hk=>⟨by have:=own_base HYs.out k hk.symm;omega,fun e=>by have:=own_base HYs.out k hk.symm;have:=hSv.out k e.symm;omega⟩));(case aF=>exact(fun k hk=>by have:=HSZ.out;omega));(case aO=>exact Kd.S_mono HS.out (fun k hk=>⟨hk.1,fun e=>by have:=own_base HYs.out k e.symm;omega⟩));(case aB=>exact HHd.out.bel);(case aS=>exact HHd.out.bel.size);(case aL=>rw[hlenm];exact hbyte);intro v5 w5 hS5 hB5 hg5;obtain⟨A5,c5,rfl⟩:=Kd.S_slice hS5;have HS5:=ak hS5;have HB5:=ak hB5;have HG5:=ak hg5;clear hS5 hB5 hg5;have HO5:=ak (blk_grown HO.out HG5.out (fun e=>by have:=hSv.out _ e.symm;omega));have o5:=(blk_cell HO5.out 0).trans rfl;have z5:=blk_frozen HO5.out 0)
    have hS5:=HS5.out
    have hlen5:(pre.map toS++[toS (at_,n,ys)]).length=pre.length+1:=by simp
    rw[hlen5] at hS5
    have hw4:=HSZ.out
    have f5:∀i,i≤w.heap.size+5→w5.heap[i]? =W4.heap[i]? :=fun i hi=>HG5.out.block i (by omega) (fun e=>by have:=hSv.out i e.symm;omega)
    have f6:∀i,i≤w.heap.size+5→i≠w.heap.size→(w5.setCell ⟨w.heap.size,0,none⟩ (.slice A5 (pre.length+1) c5)).heap[i]? =W4.heap[i]? :=fun i hi hne=>(Below.heap_setCell w5 _ _ i hne).trans (f5 i hi)
    have hz5:W4.heap.size≤w5.heap.size:=HG5.out.size
    have hO6:=blk_put (cs:=#[v1]) HO5.out 0 (.slice A5 (pre.length+1) c5) rfl
    have hS6:=Kd.S_far (p:=⟨w.heap.size,0,none⟩) (Kd.S_bound hS5) (fun k hk=>by have:=hk.1;simp only;omega) (.slice A5 (pre.length+1) c5)
    have hB6:=HB5.out.setCell (p:=⟨w.heap.size,0,none⟩) (Nat.le_refl _) (.slice A5 (pre.length+1) c5)
    have hz6:w5.heap.size≤(w5.setCell ⟨w.heap.size,0,none⟩ (.slice A5 (pre.length+1) c5)).heap.size:=(KeepsWalks.setCell _ _ _).size
    generalize w5.setCell ⟨w.heap.size,0,none⟩ (.slice A5 (pre.length+1) c5)=w6 at f6 hO6 hS6 hB6 hz6 ⊢
    have hl6:w6.heap[w.heap.size+5]? =some (.loop (rec .busy none)):=(f6 _ (by omega) (by omega)).trans HL.out
    have hend:(Instr.endRound (w.heap.size+5) none).run Tryz.prog w6=.ok (.bool true) (w6.putObj (w.heap.size+5) (.loop (rec .ready none))):=by
      rw[hrec] at hl6
      rw[hrec]
      exact run_endRound none hl6
    have e7:∀i,i≠w.heap.size+5→(w6.putObj (w.heap.size+5) (.loop (rec .ready none))).heap[i]? =w6.heap[i]? :=fun i hi=>World.putObj_heap_other hi
    have hz7:(w6.putObj (w.heap.size+5) (.loop (rec .ready none))).heap.size=w6.heap.size:=by simp
    refine⟨_,_,hend,rfl,⟨_,Nat.le_refl _,?_⟩,?_⟩
    · refine⟨(e7 _ (by omega)).trans ((f6 _ (by omega) (by omega)).trans HD.out),World.putObj_heap_same (blk_lt' hl6),by omega,_,(e7 _ (by omega)).trans hO6,?_⟩
      rw[List.map_append]
      exact Kd.S_mono (Kd.S_step hS6 (fun k hk _=>e7 k (by have:=hk.1;omega))) (fun k hk=>⟨hk.1,by have:=hk.2.2.1;omega⟩)
    · have hh:=HHd.out
      exact⟨(e7 _ (by omega)).trans ((f6 _ (by omega) (by omega)).trans hh.st),(e7 _ (by omega)).trans ((f6 _ (by omega) (by omega)).trans hh.x1),(e7 _ (by omega)).trans ((f6 _ (by omega) (by omega)).trans hh.x2),hB6.grown (grownBy_putObj' w6 (w.heap.size+5) (.loop (rec .ready none))) hB6.size (fun k e=>by cases e;omega)⟩
  case fin=>
    rintro e W' ⟨⟨v,rfl⟩,⟨N,hN,hJ,hH⟩ | hf⟩
    case inr=>exact hf.elim
    refine⟨⟨v,rfl⟩,.ready,none,by simp,hJ.ll,?_⟩
    obtain⟨hd,hl,hn,v1,hv1,hS⟩:=hJ
    have e0:∀i,i≠w.heap.size+5→(W'.putObj (w.heap.size+5) (.loop (rec .exhausted none))).heap[i]? =W'.heap[i]? :=fun i hi=>World.putObj_heap_other hi
    have HS:=ak (show Kd.S k200 200 (W'.putObj (w.heap.size+5) (.loop (rec .exhausted none))) w.heap.size (fun k=>w.heap.size+5 < k∧k < N) v1 (R.1.map toS) from Kd.S_step hS (fun k hk _=>e0 k (by omega)))
    have HD:=ak ((e0 (w.heap.size+4) (by omega)).trans hd)
    have HO:=ak ((e0 w.heap.size (by omega)).trans hv1)
    have HST:=ak ((e0 (w.heap.size+1) (by omega)).trans hH.st)
    have HB:=ak (hH.bel.grown (grownBy_putObj' W' (w.heap.size+5) (.loop (rec .exhausted none))) hH.bel.size (fun k e=>by cases e;omega))
    clear hd hl hv1 hS hH e0
    generalize W'.putObj (w.heap.size+5) (.loop (rec .exhausted none))=W3 at HS HD HO HST HB ⊢
    have s0:=(blk_cell HST.out 0).trans rfl
    have s1:=(blk_cell HST.out 1).trans rfl
    have s2:=(blk_cell HST.out 2).trans rfl
    have o0:=(blk_cell HO.out 0).trans rfl
    go_wp2
    go_quiet (fail)
    go_wp2
    have HD2:=ak (blk_drewN HD.out nq)
    have HS2:=ak (Kd.S_drewN HS.out nq)
    have HB2:=ak (HB.out.trans (pw_below_drewN (Below.refl _ _) nq))
    clear HS HD HO HST HB s0 s1 s2 o0
    generalize W3.drewN nq=W4 at HD2 HS2 HB2 ⊢
    refine⟨by simp,.inl ⟨_,_,rfl,run_takeDeferred HD2.out,?_⟩⟩
    refine⟨_,results_list (rs:=[.tmp 2,.tmp 3,.tmp 4,.tmp 5]) rfl (by simp) (.tmp (.tmp (.tmp (.tmp .nil)))),?_⟩
    refine⟨v1,rfl,?_,?_⟩
    · exact Kd.S_mono (Kd.S_step HS2.out (fun k hk _=>World.putObj_heap_other (by omega))) (fun _ _=>trivial)
    · exact HB2.out.grown (grownBy_putObj' W4 (w.heap.size+4) (.deferred none)) HB2.out.size (fun k e=>by cases e;omega)
end Sc
end

section
namespace Ext
open Fr Go.Proofs.YtcieieacfoaklaaGreat.Pure Lw Pt Sc

def scan_All.f (l:List Int):Option (List S200×Int×Int×Int):=
  if bytesB l=true∧l.length≤1000000000 then some ((scanGo (l.length+1) l 0 0 []).1.map toS,((scanGo (l.length+1) l 0 0 []).2.1:Int),((scanGo (l.length+1) l 0 0 []).2.2.1:Int),(scanGo (l.length+1) l 0 0 []).2.2.2) else none
end Ext
end
end
end Go.Proofs.YtcieieacfoaklaaGreat
section
namespace Go.Proofs.YtcieieacfoaklaaGreat.Pu
def chunk (k:Nat):Nat→List Int→List (List Int)×List Int
 | 0,l=>([],l)
 | f+1,l=>if k≤l.length then(l.take k::(chunk k f (l.drop k)).1,(chunk k f (l.drop k)).2) else([],l)
def cutW (k:Int) (l:List Int):List (List Int)×List Int:=chunk k.toNat l.length l
theorem chunk_spec {k:Nat} (hk:0 < k):∀(f:Nat) (l:List Int),l.length≤f→(chunk k f l).1.flatten++(chunk k f l).2=l∧(∀x∈(chunk k f l).1,x.length=k)∧(chunk k f l).2.length < k
 | 0,l,h=>by
  have:l=[]:=List.eq_nil_of_length_eq_zero (by omega)
  subst this
  exact⟨rfl,fun x hx=>(by cases hx),hk⟩
 | f+1,l,h=>by
  unfold chunk
  split
  ·rename_i hl
   obtain⟨h1,h2,h3⟩:=chunk_spec hk f (l.drop k) (by rw[List.length_drop];omega)
   refine⟨?_,fun x hx=>?_,h3⟩
   ·rw[List.flatten_cons,List.append_assoc,h1,List.take_append_drop]
   ·rcases List.mem_cons.1 hx with rfl | hx
    ·rw[List.length_take];omega
    ·exact h2 x hx
  ·rename_i hl
   exact⟨rfl,fun x hx=>(by cases hx),by dsimp only;omega⟩
theorem cutW_spec {k:Int} (hk:1≤k) (l:List Int):(cutW k l).1.flatten++(cutW k l).2=l∧(∀x∈(cutW k l).1,(x.length:Int)=k)∧((cutW k l).2.length:Int) < k:=by
 obtain⟨h1,h2,h3⟩:=chunk_spec (k:=k.toNat) (by omega) l.length l (Nat.le_refl _)
 exact⟨h1,fun x hx=>by have:=h2 x hx;omega,by unfold cutW;omega⟩
theorem flat_len {k:Nat}:∀(l:List (List Int)),(∀x∈l,x.length=k)→l.flatten.length=l.length*k
 | [],_=>by simp
 | x::l,h=>by
  have h1:=flat_len l (fun y hy=>h y (by simp [hy]))
  have h2:=h x (by simp)
  rw[List.flatten_cons,List.length_append,h1,List.length_cons,Nat.add_mul]
  omega
end Go.Proofs.YtcieieacfoaklaaGreat.Pu
end
namespace Go.Proofs.YtcieieacfoaklaaGreat
open Go.RowKit YtcieieacfoaklaaGreatW.PrintWords YtcieieacfoaklaaGreatW.PrintLast YtcieieacfoaklaaGreatW.PrintMore
section
namespace Dk
open Go.Maps Pt

def idx (g:Nat):List Nat→Option Nat
 | []=>none
 | a::l=>if a=g then some 0 else(idx g l).map (·+1)
theorem idx_get {g:Nat}:∀{l:List Nat} {i:Nat},idx g l=some i→l[i]? =some g
 | [],i,h=>by cases h
 | a::l,i,h=>by
  unfold idx at h
  by_cases e:a=g
  ·rw[if_pos e] at h
   obtain rfl:=Option.some.inj h
   simp [e]
  ·rw[if_neg e,Option.map_eq_some_iff] at h
   obtain⟨k,hk,rfl⟩:=h
   rw[List.getElem?_cons_succ]
   exact idx_get hk
theorem idx_append {g x:Nat}:∀{l:List Nat} {i:Nat},idx g l=some i→idx g (l++[x])=some i
 | [],i,h=>by cases h
 | a::l,i,h=>by
  rw[List.cons_append]
  unfold idx at h ⊢
  by_cases e:a=g
  ·rw[if_pos e] at h ⊢;exact h
  ·rw[if_neg e,Option.map_eq_some_iff] at h
   obtain⟨k,hk,rfl⟩:=h
   rw[if_neg e,idx_append hk]
   rfl
theorem idx_new {g:Nat}:∀{l:List Nat},g ∉ l→idx g (l++[g])=some l.length
 | [],_=>by simp [idx]
 | a::l,h=>by
  rw[List.cons_append]
  unfold idx
  rw[if_neg (fun e=>h (by simp [e])),idx_new (fun e=>h (by simp [e]))]
  rfl
def RP (bl:List Nat) (v:Value):Option (DataW Nat×List MemPlace):=
 match v with
 | .pointer (some ⟨g,0,none⟩)=>(idx g bl).map fun i=>(.held i,[])
 | .pointer none=>some (.nil,[])
 | _=>none
theorem RP_held {bl:List Nat} {v:Value} {i:Nat} {ps:List MemPlace} (h:RP bl v=some (.held i,ps)):∃g,bl[i]? =some g∧v=.pointer (some ⟨g,0,none⟩):=by
 unfold RP at h
 split at h
 ·rename_i g
  rw[Option.map_eq_some_iff] at h
  obtain⟨k,hk,he⟩:=h
  simp only[Prod.mk.injEq,DataW.held.injEq] at he
  exact⟨g,by rw[← he.1];exact idx_get hk,rfl⟩
 ·simp at h
 ·cases h
def keyN (s:ByteArray):Lit:=.string s.data.toList
def look (D:DataW Nat) (s:ByteArray):Option Nat:=match D.atKey (keyN s) .nil with | .held f=>some f | _=>none
def AllHeld (D:DataW Nat):Prop:=∀s:ByteArray,Maps.has D (keyN s)=true→∃f,D.atKey (keyN s) .nil=.held f
def fileP (bl:List Nat) (d:Nums) (D:DataW Nat) (s:ByteArray):Value:=if d.down then .pointer none else match look D s with | some i=>.pointer (some ⟨bl.getD i 0,0,none⟩) | none=>.pointer none
def fileE (d:Nums) (D:DataW Nat) (s:ByteArray):Int:=if d.down then 82 else match look D s with | some _=>0 | none=>3
theorem look_some {D:DataW Nat} {s:ByteArray} (hA:AllHeld D) (h:Maps.has D (keyN s)=true):∃f,look D s=some f∧D.atKey (keyN s) .nil=.held f:=by
 obtain⟨f,hf⟩:=hA s h
 exact⟨f,by unfold look;rw[hf],hf⟩
theorem names_look {bl:List Nat} {w:World} {b n:Nat} {D:DataW Nat} (h:w.ownsMap Tryz.prog 9 (RP bl) b n D) (hA:AllHeld D) (s:ByteArray) (hs:s.size≤maxLen):
  ∃v,(Instr.lookup 70 (.map (some b)) (.string s) true).run Tryz.prog w=.ok (.tuple #[v,.bool (look D s).isSome]) w∧∀i,look D s=some i→v=.pointer (some ⟨bl.getD i 0,0,none⟩)∧RP bl v=some (.held i,[]):=by
 obtain⟨v,ps,hrun,hR⟩:=h.look_ok (string_keyed Tryz.underlying9) Tryz.underlying70 (z:=.pointer none) (by kernel_rfl) (zd:=.nil) (zp:=[]) rfl (key:=.string s) (kl:=keyN s) (Go.WideMaps.keyOf_string_mk Tryz.underlying9 hs)
 have hh:Maps.has D (keyN s)=(look D s).isSome:=by
  cases hb:Maps.has D (keyN s) with
  | true=>
   obtain⟨f,h1,_⟩:=look_some hA hb
   rw[h1];rfl
  | false=>
   unfold look
   rw[Maps.atKey_of_not_has hb];rfl
 rw[hh] at hrun
 refine⟨v,hrun,fun f hf=>?_⟩
 unfold look at hf
 cases hk:D.atKey (keyN s) .nil with
 | held g=>
  rw[hk] at hf hR
  simp only[Option.some.injEq] at hf
  subst hf
  have hps:ps=[]:=by
   unfold RP at hR
   split at hR
   ·rw[Option.map_eq_some_iff] at hR
    obtain⟨_,_,he⟩:=hR
    exact(Prod.mk.inj he).2.symm
   ·simp at hR
   ·cases hR
  subst hps
  refine⟨?_,hR⟩
  obtain⟨a,ha,e⟩:=RP_held hR
  rw[e,List.getD_eq_getElem?_getD,ha];rfl
 | _=>rw[hk] at hf;cases hf
theorem file_calls (bl:List Nat) (g:Nat) (d:Nums) (nb:Nat) (v4 v5:Value) (n:Nat) (D:DataW Nat) (s:ByteArray) (w:World) (hb:w.heap[g]? =some (.cells (cellsD d (.map (some nb)) v4 v5) 75 (0,0))) (hn:w.ownsMap Tryz.prog 9 (RP bl) nb n D) (hA:AllHeld D) (hs:s.size≤maxLen):
  Calls Tryz.prog 77 #[.pointer (some ⟨g,0,none⟩),.string s] w fun e w'=>e=.returned (.tuple #[fileP bl d D s,.int .i64 (fileE d D s)])∧w'=w:=by
 obtain⟨v,hrun,hv⟩:=names_look hn hA s hs
 have x3:=bq hb 3 (.map (some nb))
 have x10:=bq hb 10 (.bool d.down)
 have HV:=ak hv
 clear hb hn hA hv
 obtain⟨l,hl⟩:∃l,look D s=l:=⟨_,rfl⟩
 rw[hl] at hrun
 have HL:=ak hl
 obtain⟨dn,hdn⟩:∃b,d.down=b:=⟨_,rfl⟩
 rw[hdn] at x10
 have HN:=ak hdn
 clear hl hdn
 go_enter Tryz.func77,Tryz.ntmps77
 cases l with
 | none=>
  cases dn with
  | true=>
   go_wp2
   go_ret2
   exact⟨by unfold fileP fileE;rw[HN.out];rfl,rfl⟩
  | false=>
   go_wp2
   go_ret2
   exact⟨by unfold fileP fileE;rw[HN.out,HL.out];rfl,rfl⟩
 | some f=>
  have hvf:=(HV.out f HL.out).1
  subst hvf
  cases dn with
  | true=>
   go_wp2
   go_ret2
   exact⟨by unfold fileP fileE;rw[HN.out];rfl,rfl⟩
  | false=>
   go_wp2
   go_ret2
   exact⟨by unfold fileP fileE;rw[HN.out,HL.out];rfl,rfl⟩
end Dk
end
section
namespace Dk
open Go.Maps Pt

structure FileM where
 b:List Int
 kept:Int
 made:Int
structure DiskM where
 d:Nums
 D:DataW Nat
 K:DataW Nat
 fs:List FileM
def fixed (g nb kb:Nat) (pv:Value) (bl:List Nat):List Nat:=g::nb::kb::(pv.ownBlock.toList++bl)
def Foot (g nb kb:Nat) (pv:Value) (bl:List Nat) (vs:List Value) (k:Nat):Prop:=k∈fixed g nb kb pv bl∨∃i:Nat,(vs.getD i undef).ownBlock=some k
structure IsDisk (w:World) (B g nb kb N:Nat) (pv:Value) (bl:List Nat) (vs:List Value) (M:DiskM):Prop where
 blk:w.heap[g]? =some (.cells (cellsD M.d (.map (some nb)) (.map (some kb)) pv) 75 (0,0))
 names:w.ownsMap Tryz.prog 9 (RP bl) nb N M.D
 keeps:w.ownsMap Tryz.prog 9 (RP bl) kb N M.K
 heldD:AllHeld M.D
 heldK:AllHeld M.K
 inD:∀s i,look M.D s=some i→i < M.fs.length
 inK:∀s i,look M.K s=some i→i < M.fs.length
 len1:bl.length=M.fs.length
 len2:vs.length=M.fs.length
 file:∀i f,M.fs[i]? =some f→w.heap[bl.getD i 0]? =some (.cells #[vs.getD i undef,.int .i64 f.kept,.int .i64 f.made] 106 (0,0))∧Kd.R (Kd.int .u8) 5 w B (fun _=>True) (vs.getD i undef) f.b
 pend:∃n inner,n≤N∧w.ownsRow B 225 1 pv n inner
 apart:(fixed g nb kb pv bl).Nodup
 rows:∀i k,(vs.getD i undef).ownBlock=some k→k ∉ fixed g nb kb pv bl∧∀j,(vs.getD j undef).ownBlock=some k→j=i
 above:∀k∈fixed g nb kb pv bl,B≤k
def fileM (M:DiskM) (s:ByteArray):Option FileM:=(look M.D s).bind fun i=>M.fs[i]?
theorem fileM_some {w:World} {B g nb kb N:Nat} {pv:Value} {bl:List Nat} {vs:List Value} {M:DiskM} (h:IsDisk w B g nb kb N pv bl vs M) {s:ByteArray} {i:Nat} (hi:look M.D s=some i):∃f,M.fs[i]? =some f∧fileM M s=some f:=by
 have hl:=h.inD s i hi
 exact⟨M.fs[i],List.getElem?_eq_getElem hl,by unfold fileM;rw[hi,Option.bind_some,List.getElem?_eq_getElem hl]⟩
def sizeM (M:DiskM) (s:ByteArray):Int:=match fileM M s with | some f=>(f.b.length:Int) | none=>0
theorem size_calls {B g nb kb N:Nat} {pv:Value} {bl:List Nat} {vs:List Value} {M:DiskM} (s:ByteArray) (w:World) (hd:IsDisk w B g nb kb N pv bl vs M) (hs:s.size≤maxLen):
  Calls Tryz.prog 48 #[.pointer (some ⟨g,0,none⟩),.string s] w fun e w'=>e=.returned (.tuple #[.int .i64 (sizeM M s),.bool (look M.D s).isSome])∧w'=w:=by
 obtain⟨v,hrun,hv⟩:=names_look hd.names hd.heldD s hs
 have x3:=bq hd.blk 3 (.map (some nb))
 have HV:=ak hv
 have HD:=ak hd
 clear hv hd
 obtain⟨l,hl⟩:∃l,look M.D s=l:=⟨_,rfl⟩
 rw[hl] at hrun
 have HL:=ak hl
 rw[hl]
 clear hl
 go_enter Tryz.func48,Tryz.ntmps48
 cases l with
 | none=>
  go_wp2
  go_ret2
  exact⟨by unfold sizeM fileM;rw[HL.out];rfl,rfl⟩
 | some i=>
  have hvf:=(HV.out i HL.out).1
  subst hvf
  obtain⟨f,hf,hfm⟩:=fileM_some HD.out HL.out
  obtain⟨hb,hr⟩:=HD.out.file i f hf
  obtain⟨A,c,e⟩:=Kd.R_slice hr
  rw[e] at hb
  have y0:=bq hb 0 (.slice A f.b.length c)
  have HF:=ak hfm
  clear hb hr e hf hfm
  generalize bl.getD i 0=fb at hrun y0
  go_wp2
  go_ret2
  exact⟨by unfold sizeM;rw[HF.out];rfl,rfl⟩
theorem down_calls {B g nb kb N:Nat} {pv:Value} {bl:List Nat} {vs:List Value} {M:DiskM} (w:World) (hd:IsDisk w B g nb kb N pv bl vs M):
  Calls Tryz.prog 49 #[.pointer (some ⟨g,0,none⟩)] w fun e w'=>e=.returned (.bool M.d.down)∧w'=w:=by
 have x:=bq hd.blk 10 (.bool M.d.down)
 clear hd
 go_enter Tryz.func49,Tryz.ntmps49
 go_wp2
 go_ret
 exact⟨rfl,rfl⟩
theorem done_calls {B g nb kb N:Nat} {pv:Value} {bl:List Nat} {vs:List Value} {M:DiskM} (w:World) (hd:IsDisk w B g nb kb N pv bl vs M):
  Calls Tryz.prog 24 #[.pointer (some ⟨g,0,none⟩)] w fun e w'=>e=.returned (.int .i64 M.d.done)∧w'=w:=by
 have x:=bq hd.blk 2 (.int .i64 M.d.done)
 clear hd
 go_enter Tryz.func24,Tryz.ntmps24
 go_wp2
 go_ret
 exact⟨rfl,rfl⟩
end Dk
end
section
namespace Dk
open Go.Maps Pt

theorem owns_heap {R:Value→Option (DataW Nat×List MemPlace)} {w w':World} {b n:Nat} {D:DataW Nat} (h:w.ownsMap Tryz.prog 9 R b n D) (he:w'.heap[b]? =w.heap[b]?):w'.ownsMap Tryz.prog 9 R b n D:=by
 obtain⟨es,clock,h1,r⟩:=h
 exact⟨es,clock,he.trans h1,r⟩
theorem row_heap {w w':World} {B:Nat} {v:Value} {xs:List Int} (h:Kd.R (Kd.int .u8) 5 w B (fun _=>True) v xs) (he:∀k,v.ownBlock=some k→w'.heap[k]? =w.heap[k]?):Kd.R (Kd.int .u8) 5 w' B (fun _=>True) v xs:=
 Kd.R_mono (Kd.R_move (Kd.R_tight rfl h) (fun k hk=>he k hk.symm)) (fun _ _=>trivial)
variable {w w':World} {B g nb kb N:Nat} {pv:Value} {bl:List Nat} {vs:List Value} {M:DiskM}
theorem mem_bl {i:Nat} (h:i < bl.length):bl.getD i 0∈bl:=by
 rw[List.getD_eq_getElem?_getD,List.getElem?_eq_getElem h]
 exact List.getElem_mem h
theorem bl_fixed {i:Nat} (h:i < bl.length):bl.getD i 0∈fixed g nb kb pv bl:=by
 simp only[fixed,List.mem_cons,List.mem_append]
 exact .inr (.inr (.inr (.inr (mem_bl h))))
theorem vs_lt {i k:Nat} (hk:(vs.getD i undef).ownBlock=some k):i < vs.length:=by
 rcases Nat.lt_or_ge i vs.length with h | h
 ·exact h
 ·rw[List.getD_eq_getElem?_getD,List.getElem?_eq_none h] at hk
  cases hk
theorem IsDisk.step {d':Nums} (h:IsDisk w B g nb kb N pv bl vs M) (hb:w'.heap[g]? =some (.cells (cellsD d' (.map (some nb)) (.map (some kb)) pv) 75 (0,0)))
  (hk:∀k,Foot g nb kb pv bl vs k→k≠g→w'.heap[k]? =w.heap[k]?):IsDisk w' B g nb kb N pv bl vs {M with d:=d'}:=by
 have ha:=h.apart
 rw[fixed,List.nodup_cons] at ha
 have hg:∀k∈nb::kb::(pv.ownBlock.toList++bl),w'.heap[k]? =w.heap[k]? :=fun k hm=>hk k (.inl (List.mem_cons_of_mem _ hm)) (fun e=>ha.1 (e ▸ hm))
 have hv:∀i k,(vs.getD i undef).ownBlock=some k→w'.heap[k]? =w.heap[k]? :=fun i k hi=>hk k (.inr ⟨i,hi⟩) (fun e=>(h.rows i k hi).1 (by rw[e];exact List.mem_cons_self))
 refine {blk:=hb,names:=owns_heap h.names (hg nb (by simp)),keeps:=owns_heap h.keeps (hg kb (by simp)),heldD:=h.heldD,heldK:=h.heldK,inD:=h.inD,inK:=h.inK,len1:=h.len1,len2:=h.len2,file:=fun i f hf=>?_,pend:=?_,apart:=h.apart,rows:=h.rows,above:=h.above}
 ·obtain⟨h1,h2⟩:=h.file i f hf
  have hi:=(List.getElem?_eq_some_iff.1 hf).1
  have hbl:bl.getD i 0∈bl:=mem_bl (by rw[h.len1];exact hi)
  exact⟨(hg _ (by simp only[List.mem_cons,List.mem_append];exact .inr (.inr (.inr hbl)))).trans h1,row_heap h2 (fun k hvk=>hv i k hvk)⟩
 ·obtain⟨n,inner,hn,ho⟩:=h.pend
  exact⟨n,inner,hn,own_move ho (fun k hvk=>hg k (by simp only[List.mem_cons,List.mem_append];exact .inr (.inr (.inl (by rw[hvk];simp)))))⟩
theorem IsDisk.lt (h:IsDisk w B g nb kb N pv bl vs M):∀k,Foot g nb kb pv bl vs k→k < w.heap.size:=by
 rintro k (hk | ⟨i,hi⟩)
 ·simp only[fixed,List.mem_cons,List.mem_append] at hk
  rcases hk with rfl | rfl | rfl | hk | hk
  ·exact blk_lt h.blk
  ·exact h.names.lt
  ·exact h.keeps.lt
  ·obtain⟨n,inner,hn,ho⟩:=h.pend
   exact own_lt ho k (by cases hp:pv.ownBlock with | none=>rw[hp] at hk;cases hk | some x=>rw[hp] at hk;simp at hk;rw[hk])
  ·obtain⟨i,hi,rfl⟩:=List.getElem_of_mem hk
   have hf:=h.file i _ (List.getElem?_eq_getElem (by rw[← h.len1];exact hi))
   have e:bl.getD i 0=bl[i]:=by rw[List.getD_eq_getElem?_getD,List.getElem?_eq_getElem hi];rfl
   rw[e] at hf
   exact blk_lt hf.1
 ·have hl:=vs_lt hi
  have hf:=h.file i _ (List.getElem?_eq_getElem (by rw[← h.len2];exact hl))
  exact Kd.R_lt hf.2 k hi
theorem IsDisk.thing (h:IsDisk w B g nb kb N pv bl vs M) (hb:w'.heap[g]? =some (.cells (cellsD (thingN M.d) (.map (some nb)) (.map (some kb)) pv) 75 (0,0))) (hk:Keeps (·=g) w w'):IsDisk w' B g nb kb N pv bl vs {M with d:=thingN M.d}:=
 h.step hb (fun k hm hn=>hk.block k (h.lt k hm) hn)
theorem IsDisk.set {i:Nat} {f':FileM} {v':Value} (h:IsDisk w B g nb kb N pv bl vs M) (hi:i < M.fs.length) (hb:w'.heap[bl.getD i 0]? =some (.cells #[v',.int .i64 f'.kept,.int .i64 f'.made] 106 (0,0)))
  (hr:Kd.R (Kd.int .u8) 5 w' B (fun _=>True) v' f'.b) (hv:∀k,v'.ownBlock=some k→(vs.getD i undef).ownBlock=some k∨w.heap.size≤k)
  (hk:∀k,Foot g nb kb pv bl vs k→k≠bl.getD i 0→(vs.getD i undef).ownBlock≠some k→w'.heap[k]? =w.heap[k]?):IsDisk w' B g nb kb N pv bl (vs.set i v') {M with fs:=M.fs.set i f'}:=by
 have hlb:i < bl.length:=by rw[h.len1];exact hi
 have hlv:i < vs.length:=by rw[h.len2];exact hi
 have hget:∀j,j≠i→(vs.set i v').getD j undef=vs.getD j undef:=fun j hj=>by rw[List.getD_eq_getElem?_getD,List.getD_eq_getElem?_getD,List.getElem?_set_ne (fun e=>hj e.symm)]
 have hself:(vs.set i v').getD i undef=v':=by rw[List.getD_eq_getElem?_getD,List.getElem?_set_self hlv];rfl
 have hno:∀k,k∈fixed g nb kb pv bl→(vs.getD i undef).ownBlock≠some k:=fun k hm e=>(h.rows i k e).1 hm
 have hfx:∀k,k∈fixed g nb kb pv bl→k≠bl.getD i 0→w'.heap[k]? =w.heap[k]? :=fun k hm hn=>hk k (.inl hm) hn (hno k hm)
 have hnd:=h.apart
 have hpos:∀k,k∈g::nb::kb::pv.ownBlock.toList→k≠bl.getD i 0:=fun k hm e=>by
  have h1:fixed g nb kb pv bl=(g::nb::kb::pv.ownBlock.toList)++bl:=by simp [fixed]
  rw[h1,List.nodup_append] at hnd
  exact hnd.2.2 k hm (bl.getD i 0) (mem_bl hlb) e
 have hbl:∀j,j < bl.length→j≠i→bl.getD j 0≠bl.getD i 0:=fun j hj hne e=>by
  have h1:fixed g nb kb pv bl=(g::nb::kb::pv.ownBlock.toList)++bl:=by simp [fixed]
  rw[h1,List.nodup_append] at hnd
  rw[List.getD_eq_getElem?_getD,List.getD_eq_getElem?_getD,List.getElem?_eq_getElem hj,List.getElem?_eq_getElem hlb] at e
  have e2:bl[j]=bl[i]:=e
  have hp:=List.pairwise_iff_getElem.1 hnd.2.1
  rcases Nat.lt_or_gt_of_ne hne with hl | hl
  ·exact hp j i hj hlb hl e2
  ·exact hp i j hlb hj hl e2.symm
 have hsub:∀k,k∈g::nb::kb::pv.ownBlock.toList→k∈fixed g nb kb pv bl:=fun k hm=>by
  simp only[fixed,List.mem_cons,List.mem_append] at hm ⊢
  rcases hm with h | h | h | h
  ·exact .inl h
  ·exact .inr (.inl h)
  ·exact .inr (.inr (.inl h))
  ·exact .inr (.inr (.inr (.inl h)))
 have hgo:∀k,k∈g::nb::kb::pv.ownBlock.toList→w'.heap[k]? =w.heap[k]? :=fun k hm=>hfx k (hsub k hm) (hpos k hm)
 refine {blk:=(hgo g (by simp)).trans h.blk,names:=owns_heap h.names (hgo nb (by simp)),keeps:=owns_heap h.keeps (hgo kb (by simp)),heldD:=h.heldD,heldK:=h.heldK,inD:=fun s j hj=>?_,inK:=fun s j hj=>?_,len1:=?_,len2:=?_,file:=fun j f hf=>?_,pend:=?_,apart:=h.apart,rows:=fun j k hjk=>?_,above:=h.above}
 ·exact Nat.lt_of_lt_of_eq (h.inD s j hj) (List.length_set ..).symm
 ·exact Nat.lt_of_lt_of_eq (h.inK s j hj) (List.length_set ..).symm
 ·exact h.len1.trans (List.length_set ..).symm
 ·exact(List.length_set ..).trans (h.len2.trans (List.length_set ..).symm)
 ·by_cases hj:j=i
  ·subst hj
   have hf2:(M.fs.set j f')[j]? =some f:=hf
   rw[List.getElem?_set_self hi] at hf2
   obtain rfl:=Option.some.inj hf2
   rw[hself]
   exact⟨hb,hr⟩
  ·have hf2:(M.fs.set i f')[j]? =some f:=hf
   rw[List.getElem?_set_ne (fun e=>hj e.symm)] at hf2
   obtain⟨h1,h2⟩:=h.file j f hf2
   have hjl:=(List.getElem?_eq_some_iff.1 hf2).1
   rw[hget j hj]
   refine⟨(hfx _ (bl_fixed (by rw[h.len1];exact hjl)) (hbl j (by rw[h.len1];exact hjl) hj)).trans h1,row_heap h2 (fun k hvk=>hk k (.inr ⟨j,hvk⟩) (fun e=>(h.rows j k hvk).1 (by rw[e];exact bl_fixed hlb)) (fun e=>hj ((h.rows i k e).2 j hvk)))⟩
 ·obtain⟨n,inner,hn,ho⟩:=h.pend
  exact⟨n,inner,hn,own_move ho (fun k hvk=>hgo k (by simp only[List.mem_cons];exact .inr (.inr (.inr (by rw[hvk];simp)))))⟩
 ·by_cases hj:j=i
  ·subst hj
   rw[hself] at hjk
   rcases hv k hjk with hold | hnew
   ·refine⟨(h.rows j k hold).1,fun j2 hj2=>?_⟩
    by_cases e:j2=j
    ·exact e
    ·rw[hget j2 e] at hj2
     exact(h.rows j k hold).2 j2 hj2
   ·refine⟨fun hm=>absurd (h.lt k (.inl hm)) (by omega),fun j2 hj2=>?_⟩
    by_cases e:j2=j
    ·exact e
    ·rw[hget j2 e] at hj2
     exact absurd (h.lt k (.inr ⟨j2,hj2⟩)) (by omega)
  ·rw[hget j hj] at hjk
   refine⟨(h.rows j k hjk).1,fun j2 hj2=>?_⟩
   by_cases e:j2=i
   ·subst e
    rw[hself] at hj2
    rcases hv k hj2 with hold | hnew
    ·exact(h.rows j k hjk).2 j2 hold
    ·exact absurd (h.lt k (.inr ⟨j,hjk⟩)) (by omega)
   ·rw[hget j2 e] at hj2
    exact(h.rows j k hjk).2 j2 hj2
end Dk
end
section
namespace Dk
open Go.Maps Pt

theorem set_same {vs:List Value} (i:Nat):vs.set i (vs.getD i undef)=vs:=by
 apply List.ext_getElem?
 intro j
 by_cases h:i < vs.length
 ·by_cases e:i=j
  ·subst e
   rw[List.getElem?_set_self h,List.getD_eq_getElem?_getD,List.getElem?_eq_getElem h];rfl
  ·rw[List.getElem?_set_ne e]
 ·rw[List.set_eq_of_length_le (by omega)]
theorem Foot.g {g nb kb:Nat} {pv:Value} {bl:List Nat} {vs:List Value}:Foot g nb kb pv bl vs g:=.inl List.mem_cons_self
theorem Foot.b {g nb kb:Nat} {pv:Value} {bl:List Nat} {vs:List Value} {i:Nat} (h:i < bl.length):Foot g nb kb pv bl vs (bl.getD i 0):=.inl (bl_fixed h)
theorem keeps_g {g nb kb:Nat} {pv:Value} {bl:List Nat} {vs:List Value} {w w':World} (h:Keeps (·=g) w w'):Keeps (Foot g nb kb pv bl vs) w w':=h.mono (fun k e=>by rw[e];exact Foot.g)
def syncM (M:DiskM) (s:ByteArray):DiskM×Int:=
 if M.d.down then(M,82)
 else match look M.D s with
  | none=>(M,3)
  | some i=>
   if thingE M.d=0 then({M with d:=thingN M.d,fs:=M.fs.set i {M.fs.getD i ⟨[],0,0⟩ with kept:=((M.fs.getD i ⟨[],0,0⟩).b.length:Int)}},0)
   else({M with d:=thingN M.d},thingE M.d)
theorem sync_calls {B g nb kb N:Nat} {pv:Value} {bl:List Nat} {vs:List Value} {M:DiskM} (s:ByteArray) (w:World) (hd:IsDisk w B g nb kb N pv bl vs M) (hs:s.size≤maxLen):
  Calls Tryz.prog 98 #[.pointer (some ⟨g,0,none⟩),.string s] w fun e w'=>e=.returned (.int .i64 (syncM M s).2)∧IsDisk w' B g nb kb N pv bl vs (syncM M s).1∧Keeps (Foot g nb kb pv bl vs) w w':=by
 have HD:=ak hd
 clear hd
 go_enter Tryz.func98,Tryz.ntmps98
 go_upto_region 2 with(go_at_call 77;(with_reducible refine(file_calls bl g M.d nb (.map (some kb)) pv N M.D s _ HD.out.blk HD.out.names HD.out.heldD hs).mono ?_);rintro e w1 ⟨rfl,rfl⟩)
 obtain⟨dn,hdn⟩:∃b,M.d.down=b:=⟨_,rfl⟩
 cases dn with
 | true=>
  have e1:fileP bl M.d M.D s=.pointer none:=by unfold fileP;rw[hdn];rfl
  have e2:fileE M.d M.D s=82:=by unfold fileE;rw[hdn];rfl
  have e3:syncM M s=(M,82):=by unfold syncM;rw[hdn];rfl
  rw[e1,e2]
  have E3:=ak e3
  clear e1 e2 e3 hdn
  go_wp2
  go_ret
  rw[E3.out]
  exact⟨rfl,HD.out,Keeps.refl _ _⟩
 | false=>
 obtain⟨l,hl⟩:∃l,look M.D s=l:=⟨_,rfl⟩
 cases l with
 | none=>
  have e1:fileP bl M.d M.D s=.pointer none:=by unfold fileP;rw[hdn,hl];rfl
  have e2:fileE M.d M.D s=3:=by unfold fileE;rw[hdn,hl];rfl
  have e3:syncM M s=(M,3):=by unfold syncM;rw[hdn,hl];rfl
  rw[e1,e2]
  have E3:=ak e3
  clear e1 e2 e3 hdn hl
  go_wp2
  go_ret
  rw[E3.out]
  exact⟨rfl,HD.out,Keeps.refl _ _⟩
 | some i=>
 have e1:fileP bl M.d M.D s=.pointer (some ⟨bl.getD i 0,0,none⟩):=by unfold fileP;rw[hdn,hl];rfl
 have e2:fileE M.d M.D s=0:=by unfold fileE;rw[hdn,hl];rfl
 have hi:=HD.out.inD s i hl
 have HI:=ak hi
 obtain⟨f,hf⟩:∃f,M.fs[i]? =some f:=⟨_,List.getElem?_eq_getElem hi⟩
 have hgd:M.fs.getD i ⟨[],0,0⟩=f:=by rw[List.getD_eq_getElem?_getD,hf];rfl
 by_cases ht:thingE M.d=0
 ·have e3:syncM M s=({M with d:=thingN M.d,fs:=M.fs.set i {f with kept:=(f.b.length:Int)}},0):=by unfold syncM;rw[hdn,hl];simp only[hgd,ht];rfl
  rw[e1,e2]
  have E3:=ak e3
  have HT:=ak ht
  have HF:=ak hf
  clear e1 e2 e3 hdn hl hgd hi ht hf
  obtain⟨fb,hfb⟩:∃b,bl.getD i 0=b:=⟨_,rfl⟩
  rw[hfb]
  have HFB:=ak hfb
  clear hfb
  go_upto_region 5 with(go_at_call 124;(with_reducible refine(thing_calls g M.d (.map (some nb)) (.map (some kb)) pv _ HD.out.blk).mono ?_);rintro e w2 ⟨rfl,hb,hk⟩;have HD2:=ak (HD.out.thing hb hk);have HK:=ak hk;clear hb hk)
  rw[HT.out]
  obtain⟨hb,hr⟩:=HD2.out.file i f HF.out
  rw[HFB.out] at hb
  obtain⟨A,c,e⟩:=Kd.R_slice hr
  have HE:=ak e
  rw[e] at hb
  have y0:=bq hb 0 (.slice A f.b.length c)
  have y1:=bq hb 1 (.int .i64 f.kept)
  have z1:=blk_frozen hb 1
  have HBB:=ak hb
  have HRR:=ak hr
  clear hb hr e
  go_wp2
  go_ret
  rw[E3.out]
  have h1:=HD2.out.set (i:=i) (f':={f with kept:=(f.b.length:Int)}) (v':=vs.getD i undef) HI.out
   (w':=w2.setCell ⟨fb,1,none⟩ (.int .i64 (f.b.length:Int))) (by rw[HFB.out,HE.out];exact blk_put HBB.out 1 _ rfl)
   (row_heap HRR.out (fun k hvk=>Below.heap_setCell _ _ _ k (fun e=>by
    have:=(HD.out.rows i k hvk).1
    rw[e,← HFB.out] at this
    exact this (bl_fixed (by rw[HD.out.len1];exact HI.out)))))
   (fun k hvk=>.inl hvk)
   (fun k hm hn _=>Below.heap_setCell _ _ _ k (fun e=>hn (by rw[HFB.out];exact e)))
  rw[set_same] at h1
  refine⟨rfl,h1,Keeps.set (keeps_g HK.out) ?_⟩
  rw[← HFB.out]
  exact Foot.b (by rw[HD.out.len1];exact HI.out)
 ·have e3:syncM M s=({M with d:=thingN M.d},thingE M.d):=by unfold syncM;rw[hdn,hl];simp only[ht];rfl
  rw[e1,e2]
  have E3:=ak e3
  have e4:(thingE M.d !=0)=true:=bne_iff_ne.mpr ht
  clear e1 e2 e3 hdn hl hgd hi ht hf
  go_upto_region 5 with(go_at_call 124;(with_reducible refine(thing_calls g M.d (.map (some nb)) (.map (some kb)) pv _ HD.out.blk).mono ?_);rintro e w2 ⟨rfl,hb,hk⟩;have HD2:=ak (HD.out.thing hb hk);have HK:=ak hk;clear hb hk)
  go_wp2
  go_ret
  rw[E3.out]
  exact⟨rfl,HD2.out,keeps_g HK.out⟩
end Dk
end
section
namespace Dk
open Go.Maps Pt

theorem keeps_grown {b:Nat} {w w':World} (h:w.grownBy w' (some b)):Keeps (·=b) w w':=⟨h.os,h.tape,h.output,h.size,fun k hk hn=>h.block k hk (fun e=>hn (Option.some.inj e))⟩
theorem RP_enc {bl:List Nat} {f i:Nat} (h:idx f bl=some i):RP bl (.pointer (some ⟨f,0,none⟩))=some (.held i,[]):=by
 show(idx f bl).map _=_
 rw[h];rfl
theorem create1_calls (bl:List Nat) (nb n:Nat) (D:DataW Nat) (fb sb f i:Nat) (s:ByteArray) (w:World) (hm:w.ownsMap Tryz.prog 9 (RP bl) nb n D) (hn:n < 1000000000000)
  (x0:w.cell? ⟨fb,0,none⟩=some (.pointer (some ⟨f,0,none⟩))) (x1:w.cell? ⟨sb,0,none⟩=some (.string s)) (hi:idx f bl=some i) (hs:s.size≤maxLen):
  Calls Tryz.prog 138 #[.map (some nb),.pointer (some ⟨fb,0,none⟩),.pointer (some ⟨sb,0,none⟩)] w fun e w'=>e=.returned (.tuple #[])∧w'.ownsMap Tryz.prog 9 (RP bl) nb (n+1) (D.put (keyN s) (.held i))∧Keeps (·=nb) w w':=by
 have HM:=ak hm
 clear hm
 go_enter Tryz.func138,Tryz.ntmps138
 go_wp2_with (at_mapUpdate;go_loud (refine wpList_mapUpdate_own _ rfl _ _ _ 70 rfl 9 104 (string_keyed Tryz.underlying9) Tryz.underlying70 (RP bl) nb n _ rfl HM.out (by unfold maxLen;omega) _ _ _ rfl rfl (Go.WideMaps.keyOf_string_mk Tryz.underlying9 hs) _ [] (RP_enc hi) ?_;intro w3 hown3 hgrow3))
 go_end0
 exact⟨rfl,hown3,keeps_grown hgrow3⟩
theorem keeps_turned {b:Nat} {w w':World} (h:w.mapTurned w' b):Keeps (·=b) w w':=keeps_grown h.grown
theorem remove1_calls (bl:List Nat) (nb n:Nat) (D:DataW Nat) (sb:Nat) (s:ByteArray) (w:World) (hm:w.ownsMap Tryz.prog 9 (RP bl) nb n D) (x1:w.cell? ⟨sb,0,none⟩=some (.string s)) (hs:s.size≤maxLen):
  Calls Tryz.prog 139 #[.map (some nb),.pointer (some ⟨sb,0,none⟩)] w fun e w'=>e=.returned (.tuple #[])∧w'.ownsMap Tryz.prog 9 (RP bl) nb n (D.del (keyN s))∧Keeps (·=nb) w w':=by
 have HM:=ak hm
 clear hm
 go_enter Tryz.func139,Tryz.ntmps139
 go_wp2_with (at_delete;go_loud (refine wpList_delete_own _ rfl _ _ 70 9 rfl 104 (string_keyed Tryz.underlying9) Tryz.underlying70 (RP bl) nb n _ rfl HM.out _ _ rfl (Go.WideMaps.keyOf_string_mk Tryz.underlying9 hs) ?_;intro w3 hown3 hturn3))
 go_end0
 exact⟨rfl,hown3,keeps_turned hturn3⟩
def moveD (D:DataW Nat) (s t:ByteArray):DataW Nat:=match look D s with | some i=>(D.del (keyN s)).put (keyN t) (.held i) | none=>D
theorem rename1_calls (bl:List Nat) (nb n:Nat) (D:DataW Nat) (sb tb:Nat) (s t:ByteArray) (w:World) (hm:w.ownsMap Tryz.prog 9 (RP bl) nb n D) (hA:AllHeld D) (hn:n < 1000000000000) (hnb:sb≠nb) (htb:tb≠nb)
  (x1:w.cell? ⟨sb,0,none⟩=some (.string s)) (x2:w.cell? ⟨tb,0,none⟩=some (.string t)) (hs:s.size≤maxLen) (ht:t.size≤maxLen):
  Calls Tryz.prog 141 #[.map (some nb),.pointer (some ⟨sb,0,none⟩),.pointer (some ⟨tb,0,none⟩)] w fun e w'=>e=.returned (.tuple #[])∧w'.ownsMap Tryz.prog 9 (RP bl) nb (n+1) (moveD D s t)∧Keeps (·=nb) w w':=by
 obtain⟨v,hrun,hv⟩:=names_look hm hA s hs
 have HM:=ak hm
 have HV:=ak hv
 clear hm hv
 obtain⟨l,hl⟩:∃l,look D s=l:=⟨_,rfl⟩
 rw[hl] at hrun
 have HL:=ak hl
 clear hl
 go_enter Tryz.func141,Tryz.ntmps141
 cases l with
 | none=>
  go_wp2
  go_end0
  exact⟨rfl,by unfold moveD;rw[HL.out];exact HM.out.mono (Nat.le_succ n),Keeps.refl _ _⟩
 | some i=>
  have hvf:=HV.out i HL.out
  have HE:=ak hvf
  clear hvf
  go_wp2_with (first
   | (at_mapUpdate;refine wpList_mapUpdate_own _ rfl _ _ _ 70 rfl 9 104 (string_keyed Tryz.underlying9) Tryz.underlying70 (RP bl) nb n _ rfl HM3.out (by unfold maxLen;omega) _ _ _ rfl rfl (Go.WideMaps.keyOf_string_mk Tryz.underlying9 ht) _ [] HE.out.2 ?_;intro w4 hown4 hgrow4)
   | (at_delete;refine wpList_delete_own _ rfl _ _ 70 9 rfl 104 (string_keyed Tryz.underlying9) Tryz.underlying70 (RP bl) nb n _ rfl HM.out _ _ rfl (Go.WideMaps.keyOf_string_mk Tryz.underlying9 hs) ?_;intro w3 hown3 hturn3;have HM3:=ak hown3;have HK3:=ak (keeps_turned hturn3);have x2':=HK3.out.cell x2 htb;clear hown3 hturn3))
  go_end0
  exact⟨rfl,by unfold moveD;rw[HL.out];exact hown4,HK3.out.trans (keeps_grown hgrow4)⟩
end Dk
end
section
namespace Dk
open Go.Maps Pt

theorem infoC:(Tryz.prog.info? 225).map (fun i=>(i.zero,i.size,i.bytes))=some (some .nilFunc,1,8):=by kernel_rfl
theorem mem_fixed {g nb kb:Nat} {pv:Value} {bl:List Nat} {k:Nat}:k∈fixed g nb kb pv bl↔k∈g::nb::kb::bl∨pv.ownBlock=some k:=by
 cases hp:pv.ownBlock with
 | none=>simp [fixed,hp]
 | some x=>
  simp only[fixed,hp,Option.toList_some,List.mem_cons,List.mem_append,List.mem_singleton,List.not_mem_nil,or_false,Option.some.injEq]
  constructor
  ·rintro (h | h | h | h | h)
   ·exact .inl (.inl h)
   ·exact .inl (.inr (.inl h))
   ·exact .inl (.inr (.inr (.inl h)))
   ·exact .inr h.symm
   ·exact .inl (.inr (.inr (.inr h)))
  ·rintro ((h | h | h | h) | h)
   ·exact .inl h
   ·exact .inr (.inl h)
   ·exact .inr (.inr (.inl h))
   ·exact .inr (.inr (.inr (.inr h)))
   ·exact .inr (.inr (.inr (.inl h.symm)))
theorem fixed_nodup {g nb kb:Nat} {pv:Value} {bl:List Nat}:(fixed g nb kb pv bl).Nodup↔(g::nb::kb::bl).Nodup∧∀k,pv.ownBlock=some k→k ∉ g::nb::kb::bl:=by
 cases hp:pv.ownBlock with
 | none=>simp [fixed,hp]
 | some x=>
  have hperm:(fixed g nb kb pv bl).Perm (x::(g::nb::kb::bl)):=by
   simp only[fixed,hp,Option.toList_some,List.singleton_append]
   exact((((List.Perm.swap x kb bl).cons nb).trans (List.Perm.swap x nb _)).cons g).trans (List.Perm.swap x g _)
  rw[hperm.nodup_iff,List.nodup_cons]
  constructor
  ·rintro ⟨h1,h2⟩
   exact⟨h2,fun k e=>by obtain rfl:=Option.some.inj e;exact h1⟩
  ·rintro ⟨h1,h2⟩
   exact⟨h2 x rfl,h1⟩
variable {w w':World} {B g nb kb N:Nat} {pv:Value} {bl:List Nat} {vs:List Value} {M:DiskM}
theorem IsDisk.turn {D':DataW Nat} {pv':Value} {N':Nat} (h:IsDisk w B g nb kb N pv bl vs M) (hb:w'.heap[g]? =some (.cells (cellsD M.d (.map (some nb)) (.map (some kb)) pv') 75 (0,0)))
  (hn:w'.ownsMap Tryz.prog 9 (RP bl) nb N' D') (hD:AllHeld D') (hin:∀s i,look D' s=some i→i < M.fs.length) (hN:N≤N')
  (hp:∃n inner,n≤N'∧w'.ownsRow B 225 1 pv' n inner) (hpv:∀k,pv'.ownBlock=some k→pv.ownBlock=some k∨(w.heap.size≤k∧B≤k))
  (hk:∀k,Foot g nb kb pv bl vs k→k≠g→k≠nb→pv.ownBlock≠some k→w'.heap[k]? =w.heap[k]?):IsDisk w' B g nb kb N' pv' bl vs {M with D:=D'}:=by
 obtain⟨a1,a2⟩:=fixed_nodup.1 h.apart
 have hold:∀k,k∈g::nb::kb::bl→k∈fixed g nb kb pv bl:=fun k hm=>mem_fixed.2 (.inl hm)
 have hpo:∀k,k∈g::nb::kb::bl→pv.ownBlock≠some k:=fun k hm e=>a2 k e hm
 have hgo:∀k,k∈kb::bl→w'.heap[k]? =w.heap[k]? :=fun k hm=>by
  have hm2:k∈g::nb::kb::bl:=List.mem_cons_of_mem _ (List.mem_cons_of_mem _ hm)
  refine hk k (.inl (hold k hm2)) (fun e=>?_) (fun e=>?_) (hpo k hm2)
  ·rw[List.nodup_cons] at a1
   exact a1.1 (by rw[← e];exact List.mem_cons_of_mem _ hm)
  ·rw[List.nodup_cons,List.nodup_cons] at a1
   exact a1.2.1 (by rw[← e];exact hm)
 have hrow:∀i k,(vs.getD i undef).ownBlock=some k→w'.heap[k]? =w.heap[k]? :=fun i k hi=>by
  have hr:=(h.rows i k hi).1
  exact hk k (.inr ⟨i,hi⟩) (fun e=>hr (by rw[e];exact hold g (by simp))) (fun e=>hr (by rw[e];exact hold nb (by simp))) (fun e=>hr (mem_fixed.2 (.inr e)))
 have hmem:∀k,k∈fixed g nb kb pv' bl→k∈fixed g nb kb pv bl∨(w.heap.size≤k∧B≤k):=fun k hm=>by
  rcases mem_fixed.1 hm with hm | hm
  ·exact .inl (hold k hm)
  ·rcases hpv k hm with hm | hm
   ·exact .inl (mem_fixed.2 (.inr hm))
   ·exact .inr hm
 refine {blk:=hb,names:=hn,keeps:=owns_heap (h.keeps.mono hN) (hgo kb (by simp)),heldD:=hD,heldK:=h.heldK,inD:=hin,inK:=h.inK,len1:=h.len1,len2:=h.len2,file:=fun i f hf=>?_,pend:=hp,apart:=?_,rows:=fun i k hi=>⟨fun hm=>?_,(h.rows i k hi).2⟩,above:=fun k hm=>?_}
 ·obtain⟨h1,h2⟩:=h.file i f hf
  have hi:=(List.getElem?_eq_some_iff.1 hf).1
  exact⟨(hgo _ (List.mem_cons_of_mem _ (mem_bl (by rw[h.len1];exact hi)))).trans h1,row_heap h2 (fun k hvk=>hrow i k hvk)⟩
 ·refine fixed_nodup.2 ⟨a1,fun k e hm=>?_⟩
  rcases hpv k e with e | e
  ·exact a2 k e hm
  ·exact absurd (h.lt k (.inl (hold k hm))) (by omega)
 ·rcases hmem k hm with hm | hm
  ·exact(h.rows i k hi).1 hm
  ·exact absurd (h.lt k (.inr ⟨i,hi⟩)) (by omega)
 ·rcases hmem k hm with hm | hm
  ·exact h.above k hm
  ·exact hm.2
def FootN (g nb:Nat) (pv:Value) (k:Nat):Prop:=k=g∨k=nb∨pv.ownBlock=some k
theorem thing_err {d:Nums} (h:thingE d≠0):(thingE d !=0)=true:=bne_iff_ne.mpr h
theorem rename_calls (fid:Nat) (caps:Array Value) (D':DataW Nat) (h:IsDisk w B g nb kb N pv bl vs M) (hN:N < 1000000000000) (hD:AllHeld D') (hin:∀s i,look D' s=some i→i < M.fs.length) (hrunf:∀args W,(callFunc fid args).run Tryz.prog W=.ok (.enter fid args) W)
  (HC:∀W,Keeps (·=g) w W→W.ownsMap Tryz.prog 9 (RP bl) nb N M.D→Calls Tryz.prog fid (#[.map (some nb)]++caps) W fun e w'=>e=.returned (.tuple #[])∧w'.ownsMap Tryz.prog 9 (RP bl) nb (N+1) D'∧Keeps (·=nb) W w'):
  Calls Tryz.prog 137 #[.pointer (some ⟨g,0,none⟩),.func (.func fid) #[] caps] w fun e w'=>e=.returned (.int .i64 (thingE M.d))∧
   (thingE M.d=0→∃pv',IsDisk w' B g nb kb (N+1) pv' bl vs {M with d:=thingN M.d,D:=D'}∧∀k,pv'.ownBlock=some k→pv.ownBlock=some k∨w.heap.size≤k)∧(thingE M.d≠0→IsDisk w' B g nb kb N pv bl vs {M with d:=thingN M.d})∧Keeps (FootN g nb pv) w w':=by
 have HD:=ak h
 have HCC:=ak HC
 clear h HC
 go_enter Tryz.func137,Tryz.ntmps137
 go_upto_region 2 with(go_at_call 124;(with_reducible refine(thing_calls g M.d (.map (some nb)) (.map (some kb)) pv _ HD.out.blk).mono ?_);rintro e w2 ⟨rfl,hb,hk⟩;have HD2:=ak (HD.out.thing hb hk);have HK:=ak hk;clear hb hk)
 by_cases ht:thingE M.d=0
 ·rw[ht]
  have HT:=ak ht
  clear ht
  have hr:=hrunf (#[.map (some nb)]++caps) w2
  have x3:=bq HD2.out.blk 3 (.map (some nb))
  go_upto_region 5 with((with_reducible refine(HCC.out w2 HK.out HD2.out.names).mono ?_);rintro e w3 ⟨rfl,hm3,hk3⟩;have HM3:=ak hm3;have HK3:=ak hk3;clear hm3 hk3)
  obtain⟨a1,a2⟩:=fixed_nodup.1 HD.out.apart
  have hgn:g≠nb:=by rw[List.nodup_cons] at a1;exact fun e=>a1.1 (by rw[e];exact List.mem_cons_self)
  have hgp:∀k,pv.ownBlock=some k→k≠g∧k≠nb:=fun k e=>⟨fun h=>a2 k e (by rw[h];simp),fun h=>a2 k e (by rw[h];simp)⟩
  have hb3:=HK3.out.obj HD2.out.blk hgn
  obtain⟨n,inner,hnN,ho⟩:=HD2.out.pend
  have ho3:=own_move ho (w1:=w3) (fun k e=>HK3.out.block k (HD2.out.lt k (.inl (mem_fixed.2 (.inr e)))) (hgp k e).2)
  have hB3:B≤w3.heap.size:=Nat.le_of_lt (Nat.lt_of_le_of_lt (HD2.out.above g (by simp [fixed])) (blk_lt hb3))
  have x5:w3.cell? ⟨g,5,none⟩=some pv:=(blk_cell hb3 5).trans rfl
  have HO3:=ak ho3
  have HB3:=ak hb3
  have HGP:=ak hgp
  have HGN:=ak hgn
  have hl:(n+1)*8≤140737488355328:=by omega
  have HLL:=ak hl
  have HNN:=ak hnN
  have HBB:=ak hB3
  clear ho3 ho hb3 hgp hgn hl hnN hB3 a1 a2 x3 hr
  go_wp2_with (at_builtin;refine print_append_cells (w0:=w3) B rfl (.tmp 21) (.tmp 23) 71 225 .nilFunc 1 8 rfl Tryz.underlying71 infoC rfl (by decide) (by omega) pv n inner [.func (.func fid) #[] caps] rfl rfl rfl (fun u hu=>by simp only[List.mem_singleton] at hu;subst hu;rfl) HO3.out (RowKit.Below.refl B w3) HBB.out HLL.out ?_;intro v4 w4 ho4 hb4 hg4 hat4;obtain⟨A4,c4,hv4⟩:=own_slice ho4;subst hv4;have hb5:=blk_grown HB3.out hg4 (fun e=>(HGP.out g e.symm).1 rfl);have x5':w4.cell? ⟨g,5,none⟩=some pv:=(blk_cell hb5 5).trans rfl;have f5':=blk_frozen hb5 5;have HO4:=ak ho4;have HG4:=ak hg4;have HAT:=ak hat4;have HB5:=ak hb5;clear ho4 hb4 hg4 hat4 hb5)
  go_ret
  obtain⟨v4,hv4⟩:∃v,v=Value.slice A4 (n+1) c4:=⟨_,rfl⟩
  rw[← hv4]
  rw[← hv4] at HO4 HAT
  have hset:∀k,k≠g→(w4.setCell ⟨g,5,none⟩ v4).heap[k]? =w4.heap[k]? :=fun k hk=>Below.heap_setCell w4 ⟨g,5,none⟩ v4 k hk
  have hgr:∀k,k < w3.heap.size→pv.ownBlock≠some k→w4.heap[k]? =w3.heap[k]? :=fun k hk hn=>HG4.out.block k hk (fun e=>hn e.symm)
  refine⟨by rw[HT.out];rfl,fun _=>⟨v4,?_,?_⟩,fun e=>absurd HT.out e,?_⟩
  ·refine HD2.out.turn (blk_put HB5.out 5 v4 rfl) ?_ hD hin (Nat.le_succ N) ?_ ?_ ?_
   ·have hnp:pv.ownBlock≠some nb:=fun e=>(HGP.out nb e).2 rfl
    exact owns_heap HM3.out ((hset nb (fun e=>HGN.out e.symm)).trans (hgr nb HM3.out.lt hnp))
   ·refine⟨n+1,inner++[.func (.func fid) #[] caps],by have:=HNN.out;omega,own_move HO4.out (fun k e=>hset k (fun eg=>?_))⟩
    subst eg
    rcases HAT.out with h | ⟨b,h,hle⟩
    ·rw[h] at e
     exact(HGP.out k e).1 rfl
    ·rw[h] at e
     obtain rfl:=Option.some.inj e
     have:=blk_lt HB3.out
     omega
   ·intro k e
    rcases HAT.out with h | ⟨b,h,hle⟩
    ·exact .inl (by rw[← h];exact e)
    ·rw[h] at e
     obtain rfl:=Option.some.inj e
     exact .inr ⟨Nat.le_trans HK3.out.size hle,Nat.le_trans HBB.out hle⟩
   ·intro k hf hg hn hp
    have hlt:=HD2.out.lt k hf
    exact(hset k hg).trans ((hgr k (Nat.lt_of_lt_of_le hlt HK3.out.size) hp).trans (HK3.out.block k hlt hn))
  ·intro k e
   rcases HAT.out with h | ⟨b,h,hle⟩
   ·exact .inl (by rw[← h];exact e)
   ·rw[h] at e
    obtain rfl:=Option.some.inj e
    exact .inr (Nat.le_trans HK.out.size (Nat.le_trans HK3.out.size hle))
  ·refine(HK.out.mono (fun k e=>.inl e)).trans ((HK3.out.mono (fun k e=>.inr (.inl e))).trans ?_)
   refine Keeps.set ⟨HG4.out.os,HG4.out.tape,HG4.out.output,HG4.out.size,fun k hk hn=>hgr k hk (fun e=>hn (.inr (.inr e)))⟩ (.inl rfl)
 ·have e1:=thing_err ht
  have HT:=ak ht
  clear ht
  go_wp2
  go_ret
  exact⟨rfl,fun e=>absurd e HT.out,fun _=>HD2.out,HK.out.mono (fun k e=>.inl e)⟩
end Dk
end
section
namespace Dk
open Go.Maps Pt

theorem keyN_inj {s t:ByteArray}:keyN s=keyN t↔s=t:=by
 unfold keyN
 constructor
 ·intro h
  injection h with h
  exact congrArg ByteArray.mk (Array.toList_inj.mp h)
 ·intro h;rw[h]
theorem keyN_lit (s:ByteArray):WideAt.IsKeyLit (keyN s):=by
 unfold keyN
 trivial
theorem look_del (D:DataW Nat) (s t:ByteArray):look (D.del (keyN s)) t=if t=s then none else look D t:=by
 unfold look
 by_cases h:t=s
 ·subst h
  rw[if_pos rfl,Maps.atKey_del_same]
 ·rw[if_neg h,Maps.atKey_del_other (fun e=>h (keyN_inj.1 e))]
theorem look_put {D:DataW Nat} (hD:IsMap D) (s t:ByteArray) (i:Nat):look (D.put (keyN s) (.held i)) t=if t=s then some i else look D t:=by
 unfold look
 by_cases h:t=s
 ·subst h
  rw[if_pos rfl,Maps.atKey_put_same hD (keyN_lit t)]
 ·rw[if_neg h,Maps.atKey_put_other (fun e=>h (keyN_inj.1 e))]
theorem held_del {D:DataW Nat} (hA:AllHeld D) (s:ByteArray):AllHeld (D.del (keyN s)):=by
 intro t ht
 by_cases h:t=s
 ·subst h
  rw[Maps.has_del_same] at ht
  cases ht
 ·have hne:keyN t≠keyN s:=fun e=>h (keyN_inj.1 e)
  rw[Maps.has_del_other hne] at ht
  rw[Maps.atKey_del_other hne]
  exact hA t ht
theorem held_put {D:DataW Nat} (hD:IsMap D) (hA:AllHeld D) (s:ByteArray) (i:Nat):AllHeld (D.put (keyN s) (.held i)):=by
 intro t ht
 by_cases h:t=s
 ·subst h
  exact⟨i,Maps.atKey_put_same hD (keyN_lit t) _ _⟩
 ·have hne:keyN t≠keyN s:=fun e=>h (keyN_inj.1 e)
  rw[Maps.has_put_other hne] at ht
  rw[Maps.atKey_put_other hne]
  exact hA t ht
variable {w w':World} {B g nb kb N:Nat} {pv:Value} {bl:List Nat} {vs:List Value} {M:DiskM}
theorem IsDisk.same (h:IsDisk w B g nb kb N pv bl vs M) (hk:∀k,Foot g nb kb pv bl vs k→w'.heap[k]? =w.heap[k]?):IsDisk w' B g nb kb N pv bl vs M:=
 h.step (d':=M.d) ((hk g Foot.g).trans h.blk) (fun k hf _=>hk k hf)
theorem IsDisk.alloc (h:IsDisk w B g nb kb N pv bl vs M) (o:Obj):IsDisk (w.alloc o) B g nb kb N pv bl vs M:=h.same (fun k hf=>Below.heap_alloc w o k (h.lt k hf))
theorem IsDisk.mono {N':Nat} (h:IsDisk w B g nb kb N pv bl vs M) (hN:N≤N'):IsDisk w B g nb kb N' pv bl vs M:=
 {h with names:=h.names.mono hN,keeps:=h.keeps.mono hN,pend:=by obtain⟨n,inner,hn,ho⟩:=h.pend;exact⟨n,inner,Nat.le_trans hn hN,ho⟩}
theorem footN {k:Nat} (h:FootN g nb pv k):Foot g nb kb pv bl vs k:=by
 rcases h with rfl | rfl | h
 ·exact Foot.g
 ·exact .inl (mem_fixed.2 (.inl (by simp)))
 ·exact .inl (mem_fixed.2 (.inr h))
def removeM (M:DiskM) (s:ByteArray):DiskM×Int:=
 if M.d.down then(M,82)
 else match look M.D s with
  | none=>(M,3)
  | some _=>if thingE M.d=0 then({M with d:=thingN M.d,D:=M.D.del (keyN s)},0) else({M with d:=thingN M.d},thingE M.d)
theorem run_117 (args:Array Value) (W:World):(callFunc 139 args).run Tryz.prog W=.ok (.enter 139 args) W:=
 enters_ Tryz.func139 (by kernel_rfl) rfl args W
theorem remove_calls (s:ByteArray) (w:World) (hd:IsDisk w B g nb kb N pv bl vs M) (hs:s.size≤maxLen) (hN:N < 1000000000000):
  Calls Tryz.prog 105 #[.pointer (some ⟨g,0,none⟩),.string s] w fun e w'=>e=.returned (.int .i64 (removeM M s).2)∧(∃pv',IsDisk w' B g nb kb (N+1) pv' bl vs (removeM M s).1∧∀k,pv'.ownBlock=some k→pv.ownBlock=some k∨w.heap.size≤k)∧Keeps (Foot g nb kb pv bl vs) w w':=by
 have HD:=ak hd
 clear hd
 go_enter Tryz.func105,Tryz.ntmps105
 go_upto_region 1 with(fail)
 have hbx:(w.alloc (.cells #[.string s] 9)).heap[w.heap.size]? =some (.cells #[.string s] 9 (0,0)):=heap_alloc_new w _
 have HX:=ak hbx
 have HD1:=ak (HD.out.alloc (.cells #[.string s] 9))
 have HK1:=ak (Keeps.of_below (F:=Foot g nb kb pv bl vs) (below_alloc (RowKit.Below.refl w.heap.size w) (.cells #[.string s] 9)))
 have HLT:=ak (fun k (hk:Foot g nb kb pv bl vs k)=>HD.out.lt k hk)
 have x0:(w.alloc (.cells #[.string s] 9)).cell? ⟨w.heap.size,0,none⟩=some (.string s):=(blk_cell hbx 0).trans rfl
 clear hbx HD
 generalize w.alloc (.cells #[.string s] 9)=w1 at HX HD1 HK1 x0 ⊢
 obtain⟨sb,hsb⟩:∃k,w.heap.size=k:=⟨_,rfl⟩
 rw[hsb] at HX HLT x0
 rw[hsb]
 clear hsb
 go_upto_region 2 with(go_at_call 77;(with_reducible refine(file_calls bl g M.d nb (.map (some kb)) pv N M.D s _ HD1.out.blk HD1.out.names HD1.out.heldD hs).mono ?_);rintro e w2 ⟨rfl,rfl⟩)
 obtain⟨dn,hdn⟩:∃b,M.d.down=b:=⟨_,rfl⟩
 cases dn with
 | true=>
  have e1:fileP bl M.d M.D s=.pointer none:=by unfold fileP;rw[hdn];rfl
  have e2:fileE M.d M.D s=82:=by unfold fileE;rw[hdn];rfl
  have e3:removeM M s=(M,82):=by unfold removeM;rw[hdn];rfl
  rw[e1,e2]
  have E3:=ak e3
  clear e1 e2 e3 hdn
  go_wp2
  go_ret
  rw[E3.out]
  exact⟨rfl,⟨pv,HD1.out.mono (Nat.le_succ N),fun k e=>.inl e⟩,HK1.out⟩
 | false=>
 obtain⟨l,hl⟩:∃l,look M.D s=l:=⟨_,rfl⟩
 cases l with
 | none=>
  have e1:fileP bl M.d M.D s=.pointer none:=by unfold fileP;rw[hdn,hl];rfl
  have e2:fileE M.d M.D s=3:=by unfold fileE;rw[hdn,hl];rfl
  have e3:removeM M s=(M,3):=by unfold removeM;rw[hdn,hl];rfl
  rw[e1,e2]
  have E3:=ak e3
  clear e1 e2 e3 hdn hl
  go_wp2
  go_ret
  rw[E3.out]
  exact⟨rfl,⟨pv,HD1.out.mono (Nat.le_succ N),fun k e=>.inl e⟩,HK1.out⟩
 | some i=>
 have e1:fileP bl M.d M.D s=.pointer (some ⟨bl.getD i 0,0,none⟩):=by unfold fileP;rw[hdn,hl];rfl
 have e2:fileE M.d M.D s=0:=by unfold fileE;rw[hdn,hl];rfl
 rw[e1,e2]
 have HDN:=ak hdn
 have HL:=ak hl
 have HDD:=ak (held_del HD1.out.heldD s)
 have HIN:=ak (show ∀t j,look (M.D.del (keyN s)) t=some j→j < M.fs.length from fun t j hj=>by
  rw[look_del] at hj
  split at hj
  ·cases hj
  ·exact HD1.out.inD t j hj)
 clear e1 e2 hdn hl
 go_wp2_with (go_at_call 137;(with_reducible refine(rename_calls 139 #[.pointer (some ⟨sb,0,none⟩)] (M.D.del (keyN s)) HD1.out hN HDD.out HIN.out run_117 ?hc).mono ?_);(case hc=>intro W hk hm;exact(remove1_calls bl nb N M.D sb s W hm (hk.cell x0 (fun e=>Nat.lt_irrefl _ (by have:=HLT.out g Foot.g;rw[← show sb=g from e] at this;exact this))) hs).mono (fun e w' ⟨h1,h2,h3⟩=>⟨h1,h2.mono (Nat.le_succ N),h3⟩));rintro e w3 ⟨rfl,h1,h2,h3⟩;have H1:=ak h1;have H2:=ak h2;have H3:=ak h3;clear h1 h2 h3)
 go_ret
 have hk:=HK1.out.trans (H3.out.mono (fun k hk=>footN hk))
 by_cases ht:thingE M.d=0
 ·have e3:removeM M s=({M with d:=thingN M.d,D:=M.D.del (keyN s)},0):=by unfold removeM;rw[HDN.out,HL.out];simp only[ht];rfl
  rw[e3]
  obtain⟨pv',h1,h2⟩:=H1.out ht
  exact⟨by rw[ht];rfl,⟨pv',h1,fun k e=>(h2 k e).imp id (fun h=>Nat.le_trans HK1.out.size h)⟩,hk⟩
 ·have e3:removeM M s=({M with d:=thingN M.d},thingE M.d):=by unfold removeM;rw[HDN.out,HL.out];simp only[ht];rfl
  rw[e3]
  exact⟨rfl,⟨pv,(H2.out ht).mono (Nat.le_succ N),fun k e=>.inl e⟩,hk⟩
end Dk
end
section
namespace Dk
open Go.Maps Pt

theorem RP_more {bl:List Nat} {x:Nat} {v:Value} {z:DataW Nat×List MemPlace} (h:RP bl v=some z):RP (bl++[x]) v=some z:=by
 unfold RP at h ⊢
 split at h
 ·rw[Option.map_eq_some_iff] at h
  obtain⟨i,hi,rfl⟩:=h
  show(idx _ (bl++[x])).map _=_
  rw[idx_append hi];rfl
 ·exact h
 ·cases h
theorem owns_more {bl:List Nat} {x:Nat} {w:World} {b n:Nat} {D:DataW Nat} (h:w.ownsMap Tryz.prog 9 (RP bl) b n D):w.ownsMap Tryz.prog 9 (RP (bl++[x])) b n D:=by
 obtain⟨es,clock,h1,F,hs,hD⟩:=h
 obtain⟨F1,hmap,_⟩:=F.stay (fun y _ z hz=>(RP_more (x:=x) hz:RP (bl++[x]) y.val=some z))
 exact⟨es,clock,h1,F1,hs,by rw[hmap];exact hD⟩
variable {w w':World} {B g nb kb N:Nat} {pv:Value} {bl:List Nat} {vs:List Value} {M:DiskM}
theorem IsDisk.add {fb:Nat} {made:Int} (h:IsDisk w B g nb kb N pv bl vs M) (hf:w'.heap[fb]? =some (.cells #[.slice none 0 0,.int .i64 0,.int .i64 made] 106 (0,0))) (hfb:w.heap.size≤fb) (hB:B≤fb)
  (hk:∀k,Foot g nb kb pv bl vs k→w'.heap[k]? =w.heap[k]?):IsDisk w' B g nb kb N pv (bl++[fb]) (vs++[.slice none 0 0]) {M with fs:=M.fs++[⟨[],0,made⟩]}:=by
 have h':=h.same hk
 obtain⟨a1,a2⟩:=fixed_nodup.1 h.apart
 have hnew:∀k,Foot g nb kb pv bl vs k→k≠fb:=fun k hm e=>by have:=h.lt k hm;omega
 have hmem:∀k,k∈fixed g nb kb pv (bl++[fb])→k∈fixed g nb kb pv bl∨k=fb:=fun k hm=>by
  rcases mem_fixed.1 hm with hm | hm
  ·simp only[List.mem_cons,List.mem_append,List.mem_singleton,List.not_mem_nil,or_false] at hm
   rcases hm with hm | hm | hm | hm | hm
   ·exact .inl (mem_fixed.2 (.inl (by simp [hm])))
   ·exact .inl (mem_fixed.2 (.inl (by simp [hm])))
   ·exact .inl (mem_fixed.2 (.inl (by simp [hm])))
   ·exact .inl (mem_fixed.2 (.inl (by simp [hm])))
   ·exact .inr hm
  ·exact .inl (mem_fixed.2 (.inr hm))
 have hgv:∀i,(vs++[Value.slice none 0 0]).getD i undef=if i < vs.length then vs.getD i undef else(vs++[Value.slice none 0 0]).getD i undef:=fun i=>by
  split
  ·rename_i hi
   rw[List.getD_eq_getElem?_getD,List.getD_eq_getElem?_getD,List.getElem?_append_left hi]
  ·rfl
 have hown:∀i k,((vs++[Value.slice none 0 0]).getD i undef).ownBlock=some k→i < vs.length∧(vs.getD i undef).ownBlock=some k:=fun i k hi=>by
  rcases Nat.lt_trichotomy i vs.length with hl | hl | hl
  ·rw[hgv i,if_pos hl] at hi
   exact⟨hl,hi⟩
  ·subst hl
   rw[List.getD_eq_getElem?_getD,List.getElem?_concat_length] at hi
   cases hi
  ·rw[List.getD_eq_getElem?_getD,List.getElem?_eq_none (by rw[List.length_append,List.length_singleton];omega)] at hi
   cases hi
 refine {blk:=h'.blk,names:=owns_more h'.names,keeps:=owns_more h'.keeps,heldD:=h.heldD,heldK:=h.heldK,inD:=fun s i hi=>?_,inK:=fun s i hi=>?_,len1:=?_,len2:=?_,file:=fun i f hi=>?_,pend:=h'.pend,apart:=fixed_nodup.2 ⟨?_,fun k e hm=>?_⟩,rows:=fun i k hi=>⟨fun hm=>?_,fun j hj=>?_⟩,above:=fun k hm=>?_}
 ·have:=h.inD s i hi
  simp only[List.length_append,List.length_singleton];omega
 ·have:=h.inK s i hi
  simp only[List.length_append,List.length_singleton];omega
 ·simp only[List.length_append,List.length_singleton,h.len1]
 ·simp only[List.length_append,List.length_singleton,h.len2]
 ·have hi2:(M.fs++[⟨[],0,made⟩])[i]? =some f:=hi
  by_cases hl:i < M.fs.length
  ·rw[List.getElem?_append_left hl] at hi2
   obtain⟨h1,h2⟩:=h'.file i f hi2
   rw[hgv i,if_pos (by rw[h.len2];exact hl),List.getD_eq_getElem?_getD,List.getElem?_append_left (by rw[h.len1];exact hl),← List.getD_eq_getElem?_getD]
   exact⟨h1,h2⟩
  ·have hil:i=M.fs.length:=by
    have:=(List.getElem?_eq_some_iff.1 hi2).1
    simp only[List.length_append,List.length_singleton] at this
    omega
   rw[hil,List.getElem?_concat_length] at hi2
   obtain rfl:=Option.some.inj hi2
   rw[hil,← h.len1,List.getD_eq_getElem?_getD,List.getElem?_concat_length,h.len1,← h.len2,List.getD_eq_getElem?_getD,List.getElem?_concat_length]
   exact⟨hf,Kd.R_nil _ _ _ _ _⟩
 ·have:g::nb::kb::(bl++[fb])=(g::nb::kb::bl)++[fb]:=rfl
  rw[this,List.nodup_append]
  refine⟨a1,by simp,fun a ha b hb e=>?_⟩
  simp only[List.mem_singleton] at hb
  exact hnew a (.inl (mem_fixed.2 (.inl ha))) (e.trans hb)
 ·have hm2:k∈(g::nb::kb::bl)++[fb]:=hm
  rcases List.mem_append.1 hm2 with hm | hm
  ·exact a2 k e hm
  ·simp only[List.mem_singleton] at hm
   exact hnew k (.inl (mem_fixed.2 (.inr e))) hm
 ·obtain⟨hl,hv⟩:=hown i k hi
  rcases hmem k hm with hm | hm
  ·exact(h.rows i k hv).1 hm
  ·exact hnew k (.inr ⟨i,hv⟩) hm
 ·obtain⟨hl,hv⟩:=hown i k hi
  exact(h.rows i k hv).2 j (hown j k hj).2
 ·rcases hmem k hm with hm | hm
  ·exact h.above k hm
  ·rw[hm];exact hB
def rightN (s:ByteArray):Bool:=decide (1≤s.size) && decide (s.size≤16)
theorem right_calls (s:ByteArray) (w:World):Calls Tryz.prog 136 #[.string s] w fun e w'=>e=.returned (.bool (rightN s))∧∃n,w'=w.drewN n:=by
 unfold rightN
 go_enter Tryz.func136,Tryz.ntmps136
 by_cases h1:1≤s.size
 ·have e1:decide ((s.size:Int)≥1)=true:=decide_eq_true (by omega)
  rw[decide_eq_true h1]
  by_cases h2:s.size≤16
  ·have e2:decide ((s.size:Int)≤16)=true:=decide_eq_true (by omega)
   rw[decide_eq_true h2]
   go_wp2
   repeat (go_quiet (fail);try go_wp2)
   go_ret
   first | exact⟨rfl,0,rfl⟩ | exact⟨rfl,_,rfl⟩
  ·have e2:decide ((s.size:Int)≤16)=false:=decide_eq_false (by omega)
   rw[decide_eq_false h2]
   go_wp2
   repeat (go_quiet (fail);try go_wp2)
   go_ret
   first | exact⟨rfl,0,rfl⟩ | exact⟨rfl,_,rfl⟩
 ·have e1:decide ((s.size:Int)≥1)=false:=decide_eq_false (by omega)
  rw[decide_eq_false h1]
  go_wp2
  repeat (go_quiet (fail);try go_wp2)
  go_ret
  first | exact⟨rfl,0,rfl⟩ | exact⟨rfl,_,rfl⟩
end Dk
end
section
namespace Dk
open Go.Maps Pt

variable {w w':World} {B g nb kb N:Nat} {pv:Value} {bl:List Nat} {vs:List Value} {M:DiskM}
def createM (M:DiskM) (s:ByteArray):DiskM×Int:=
 if M.d.down then(M,82)
 else if rightN s=false then(M,1)
 else if(look M.D s).isSome then(M,4)
 else if Maps.size M.D≥4096 then(M,2)
 else if thingE M.d=0 then({M with d:={thingN M.d with made:=wrap64 ((thingN M.d).made+1)},D:=M.D.put (keyN s) (.held M.fs.length),fs:=M.fs++[⟨[],0,M.d.made⟩]},0)
 else({M with d:=thingN M.d,fs:=M.fs++[⟨[],0,M.d.made⟩]},thingE M.d)
theorem foot_add {fb n k:Nat} {pv':Value} (h:Foot g nb kb pv' (bl++[fb]) (vs++[.slice none 0 0]) k) (hfb:n≤fb) (hp:∀k,pv'.ownBlock=some k→pv.ownBlock=some k∨n≤k):Foot g nb kb pv bl vs k∨n≤k:=by
 rcases h with h | ⟨i,hi⟩
 ·rcases mem_fixed.1 h with hm | hm
  ·have hm2:k∈(g::nb::kb::bl)++[fb]:=hm
   rcases List.mem_append.1 hm2 with hm | hm
   ·exact .inl (.inl (mem_fixed.2 (.inl hm)))
   ·simp only[List.mem_singleton] at hm
    exact .inr (by rw[hm];exact hfb)
  ·rcases hp k hm with hm | hm
   ·exact .inl (.inl (mem_fixed.2 (.inr hm)))
   ·exact .inr hm
 ·refine .inl (.inr ⟨i,?_⟩)
  rcases Nat.lt_trichotomy i vs.length with hl | hl | hl
  ·rw[List.getD_eq_getElem?_getD,List.getElem?_append_left hl,← List.getD_eq_getElem?_getD] at hi
   exact hi
  ·subst hl
   rw[List.getD_eq_getElem?_getD,List.getElem?_concat_length] at hi
   cases hi
  ·rw[List.getD_eq_getElem?_getD,List.getElem?_eq_none (by rw[List.length_append,List.length_singleton];omega)] at hi
   cases hi
theorem run_119 (args:Array Value) (W:World):(callFunc 138 args).run Tryz.prog W=.ok (.enter 138 args) W:=
 enters_ Tryz.func138 (by kernel_rfl) rfl args W
def cr1T:Bool×List (List Nat×List Nat):=(true,[([],[]),([0],[0]),([1],[1]),([2],[2]),([],[]),([3,4],[3,4]),([5],[5]),([6],[6]),([6],[6]),([7,0,1,2,3,4,5,6,7],[7]),([8,9,0,1,2,3,4,5,6,7,8,9],[8])])
def cr1B:List Nat:=[0,1,3,7,0,31,63,127,127,255,1023]
theorem cr1tab:rtab .any (opsOf Tryz.f103 1)=cr1T:=by kernel_rfl
theorem cr1bits:waitsOk cr1T.2 cr1B=true:=by kernel_rfl
theorem create_calls (s:ByteArray) (w:World) (hd:IsDisk w B g nb kb N pv bl vs M) (hs:s.size≤maxLen) (hN:N < 1000000000000):
  Calls Tryz.prog 103 #[.pointer (some ⟨g,0,none⟩),.string s] w fun e w'=>e=.returned (.int .i64 (createM M s).2)∧
   (∃pv' bl' vs',IsDisk w' B g nb kb (N+1) pv' bl' vs' (createM M s).1∧∀k,Foot g nb kb pv' bl' vs' k→Foot g nb kb pv bl vs k∨w.heap.size≤k)∧Keeps (Foot g nb kb pv bl vs) w w':=by
 have HD:=ak hd
 clear hd
 go_enter Tryz.func103,Tryz.ntmps103
 go_upto_region 1 with(fail)
 have hbx:(w.alloc (.cells #[.string s] 9)).heap[w.heap.size]? =some (.cells #[.string s] 9 (0,0)):=heap_alloc_new w _
 have HX:=ak hbx
 have HD1:=ak (HD.out.alloc (.cells #[.string s] 9))
 have HK1:=ak (Keeps.of_below (F:=Foot g nb kb pv bl vs) (below_alloc (RowKit.Below.refl w.heap.size w) (.cells #[.string s] 9)))
 have HLT:=ak (fun k (hk:Foot g nb kb pv bl vs k)=>HD.out.lt k hk)
 have x0:(w.alloc (.cells #[.string s] 9)).cell? ⟨w.heap.size,0,none⟩=some (.string s):=(blk_cell hbx 0).trans rfl
 clear hbx HD
 generalize w.alloc (.cells #[.string s] 9)=w1 at HX HD1 HK1 x0 ⊢
 obtain⟨sb,hsb⟩:∃k,w.heap.size=k:=⟨_,rfl⟩
 have HSB:=ak hsb
 rw[hsb] at HX HLT x0
 rw[hsb]
 clear hsb
 have HD2:=ak (HD1.out.same (w':=w1.drew) (fun _ _=>rfl))
 have HK2:=ak HK1.out.drew
 have HX2:=ak (blk_drew HX.out)
 obtain⟨v,hrun,hv⟩:=names_look HD2.out.names HD2.out.heldD s hs
 clear hv
 have x0':w1.drew.cell? ⟨sb,0,none⟩=some (.string s):=x0
 have x3:=bq HD2.out.blk 3 (.map (some nb))
 clear x0 HD1 HK1 HX
 refine st_ 11 (S:=(fun w'=>w'=w1.drew)) (ds:=[]) (by kernel_rfl) rfl (by kernel_rfl) rfl (fun hHeld=>?_);refine with_tabW cr1tab cr1bits (fun HT_ HW_=>?_)
 refine fl_ [0,10,1,1,11,3,2,12,7] ?_
 iterate 3 refine pz_ HT_ ?_
 refine fe_ ?_
 refine tk_ 3 15 (N:=some 13) (v:=?_) (a':=?_) HT_ HW_ rfl rfl (.inl ⟨by rfl,?_⟩) hHeld ?_ ?_
 rotate_left
 ·rintro w' hs
  subst hs
  go_simp
  with_reducible rfl
 rotate_left
 ·simp only[Act.put,zq1,zq2,zq3,i64_w,i32_w]
  rfl
 refine tk_ 4 31 (N:=some 14) (v:=?_) (a':=?_) HT_ HW_ rfl rfl (.inl ⟨by rfl,?_⟩) hHeld ?_ ?_
 rotate_left
 ·rintro w' hs
  subst hs
  go_simp
  with_reducible rfl
 rotate_left
 ·simp only[Act.put,zq1,zq2,zq3,i64_w,i32_w]
  rfl
 refine tk_ 5 63 (N:=some 15) (v:=?_) (a':=?_) HT_ HW_ rfl rfl (.inl ⟨by rfl,?_⟩) hHeld ?_ ?_
 rotate_left
 ·rintro w' hs
  subst hs
  go_simp
  with_reducible rfl
 rotate_left
 ·simp only[Act.put,zq1,zq2,zq3,i64_w,i32_w]
  rfl
 refine fl_ [6,9,127,7,16,255,8,17,511,9,5,1023,10,6,2047] ?_
 iterate 5 refine pz_ HT_ ?_
 refine fe_ ?_
 refine dz_ HT_ ?_
 clear hHeld HT_ HW_ x3 hrun
 generalize w1.drew=w2 at HD2 HK2 HX2 x0' ⊢
 have x0:=x0'
 have x10:=bq HD2.out.blk 10 (.bool M.d.down)
 have stay:∀{w3:World} {m:Nat},w3=w2.drewN m→(∃pv' bl' vs',IsDisk w3 B g nb kb (N+1) pv' bl' vs' M∧∀k,Foot g nb kb pv' bl' vs' k→Foot g nb kb pv bl vs k∨sb≤k)∧Keeps (Foot g nb kb pv bl vs) w w3:=fun e=>by
  subst e
  exact⟨⟨pv,bl,vs,(HD2.out.mono (Nat.le_succ N)).same (fun _ _=>rfl),fun k h=>.inl h⟩,HK2.out.drewN _⟩
 have ST:=ak @stay
 clear stay
 obtain⟨dn,hdn⟩:∃b,M.d.down=b:=⟨_,rfl⟩
 rw[hdn] at x10
 cases dn with
 | true=>
  have e3:createM M s=(M,82):=by unfold createM;rw[hdn];rfl
  have E3:=ak e3
  clear e3 hdn
  go_wp2
  go_ret
  rw[E3.out,HSB.out]
  exact⟨rfl,ST.out (m:=0) rfl⟩
 | false=>
 obtain⟨br,hbr⟩:∃b,rightN s=b:=⟨_,rfl⟩
 have HRC:=ak (fun W=>by have h:=right_calls s W;rw[hbr] at h;exact h)
 cases br with
 | false=>
  have e3:createM M s=(M,1):=by unfold createM;rw[hdn,hbr];rfl
  have E3:=ak e3
  clear e3 hdn hbr
  go_wp2_with (go_at_call 136;(with_reducible refine(HRC.out _).mono ?_);rintro e w3 ⟨rfl,nd,rfl⟩)
  go_ret
  rw[E3.out,HSB.out]
  exact⟨rfl,ST.out rfl⟩
 | true=>
 obtain⟨bo,hbo⟩:∃b,(look M.D s).isSome=b:=⟨_,rfl⟩
 rw[hbo]
 cases bo with
 | true=>
  have e3:createM M s=(M,4):=by unfold createM;rw[hdn,hbr,hbo];rfl
  have E3:=ak e3
  clear e3 hdn hbr hbo
  go_wp2_with (go_at_call 136;(with_reducible refine(HRC.out _).mono ?_);rintro e w3 ⟨rfl,nd,rfl⟩)
  go_ret
  rw[E3.out,HSB.out]
  exact⟨rfl,ST.out rfl⟩
 | false=>
 have x3:=bq HD2.out.blk 3 (.map (some nb))
 by_cases hz:Maps.size M.D≥4096
 ·have e3:createM M s=(M,2):=by unfold createM;rw[hdn,hbr,hbo];simp only[if_pos hz];rfl
  have E3:=ak e3
  have hz1:decide ((Maps.size M.D:Int)≥4096)=true:=decide_eq_true (by omega)
  clear e3 hdn hbr hbo hz
  go_wp2_with (first
   | (at_len;refine wpList_len_own _ rfl _ 70 rfl 9 104 Tryz.underlying70 _ nb N M.D rfl (owns_heap HD2.out.names rfl) ?_)
   | (go_at_call 136;(with_reducible refine(HRC.out _).mono ?_);rintro e w3 ⟨rfl,nd,rfl⟩))
  go_ret
  rw[E3.out,HSB.out]
  exact⟨rfl,ST.out rfl⟩
 have hz1:decide ((Maps.size M.D:Int)≥4096)=false:=decide_eq_false (by omega)
 have HDN:=ak hdn
 have HBR:=ak hbr
 have HBO:=ak hbo
 have HZ:=ak hz
 clear hdn hbr hbo hz
 have x1:=bq HD2.out.blk 1 (.int .i64 M.d.made)
 go_upto_region 11 with(first
   | (at_len;refine wpList_len_own _ rfl _ 70 rfl 9 104 Tryz.underlying70 _ nb N M.D rfl (owns_heap HD2.out.names rfl) ?_)
   | (go_at_call 136;(with_reducible refine(HRC.out _).mono ?_);rintro e w3 ⟨rfl,nd,rfl⟩))
 have hlt:=fun k (hk:Foot g nb kb pv bl vs k)=>HD2.out.lt k hk
 have hB2:B≤w2.heap.size:=Nat.le_of_lt (Nat.lt_of_le_of_lt (HD2.out.above g (by simp [fixed])) (hlt g Foot.g))
 have hsb2:sb < w2.heap.size:=blk_lt HX2.out
 have hfile:=blk_alloc (heap_alloc_new (w2.drewN nd) (.cells #[.slice none 0 0,.int .i64 0,.int .i64 M.d.made] 106)) (.cells #[.pointer (some ⟨w2.heap.size,0,none⟩)] 104)
 have hbox:=heap_alloc_new ((w2.drewN nd).alloc (.cells #[.slice none 0 0,.int .i64 0,.int .i64 M.d.made] 106)) (.cells #[.pointer (some ⟨w2.heap.size,0,none⟩)] 104)
 have hal:=below_alloc (below_alloc (pw_below_drewN (RowKit.Below.refl w2.heap.size w2) nd) (.cells #[.slice none 0 0,.int .i64 0,.int .i64 M.d.made] 106)) (.cells #[.pointer (some ⟨w2.heap.size,0,none⟩)] 104)
 generalize ((w2.drewN nd).alloc (.cells #[.slice none 0 0,.int .i64 0,.int .i64 M.d.made] 106)).alloc (.cells #[.pointer (some ⟨w2.heap.size,0,none⟩)] 104)=w4 at hfile hbox hal ⊢
 have hfile2:w4.heap[w2.heap.size]? =some (.cells #[.slice none 0 0,.int .i64 0,.int .i64 M.d.made] 106 (0,0)):=hfile
 have hbox2:w4.heap[w2.heap.size+1]? =some (.cells #[.pointer (some ⟨w2.heap.size,0,none⟩)] 104 (0,0)):=by
  have e:((w2.drewN nd).alloc (.cells #[.slice none 0 0,.int .i64 0,.int .i64 M.d.made] 106)).heap.size=w2.heap.size+1:=by simp [World.alloc,World.drewN]
  rw[e] at hbox
  exact hbox
 have HD4:=ak (HD2.out.add hfile2 (Nat.le_refl _) hB2 (fun k hk=>hal.block k (hlt k hk)))
 have HK4:=ak (HK2.out.trans (Keeps.of_below (F:=Foot g nb kb pv bl vs) hal))
 have y0:=bq hbox2 0 (.pointer (some ⟨w2.heap.size,0,none⟩))
 have y1:w4.cell? ⟨sb,0,none⟩=some (.string s):=(hal.cell hsb2).trans x0
 have hfb:w.heap.size≤w2.heap.size:=HK2.out.size
 have hnew:w2.heap.size ∉ bl:=fun hm=>by
  have:=hlt w2.heap.size (.inl (mem_fixed.2 (.inl (by simp [hm]))))
  omega
 have hidx:=idx_new hnew
 rw[HD2.out.len1] at hidx
 have hgs:∀k,Foot g nb kb pv bl vs k→k≠w2.heap.size+1∧k≠sb:=fun k hk=>⟨fun e=>by have:=hlt k hk;omega,fun e=>by have:=HLT.out k hk;omega⟩
 have HGS:=ak hgs
 have hmap:=HD2.out.names.isMap
 have HHD:=ak (held_put hmap HD2.out.heldD s M.fs.length)
 have HIN:=ak (show ∀t j,look (M.D.put (keyN s) (.held M.fs.length)) t=some j→j < (M.fs++[(⟨[],0,M.d.made⟩:FileM)]).length from fun t j hj=>by
  rw[look_put hmap] at hj
  rw[List.length_append,List.length_singleton]
  split at hj
  ·obtain rfl:=Option.some.inj hj
   omega
  ·have:=HD2.out.inD t j hj
   omega)
 have HFB:=ak hfb
 have HIDX:=ak hidx
 generalize w2.heap.size=fb at HD4 y0 HFB HIDX HGS ⊢
 clear hlt hB2 hsb2 hfile hfile2 hbox hbox2 hal hnew hidx hgs hmap hfb x0 x0' x1 x3 x10 hz1 ST HRC HD2 HK2 HX2
 go_upto_region 12 with(go_at_call 137;(with_reducible refine(rename_calls 138 #[.pointer (some ⟨fb+1,0,none⟩),.pointer (some ⟨sb,0,none⟩)] (M.D.put (keyN s) (.held M.fs.length)) HD4.out hN HHD.out HIN.out run_119 ?hc).mono ?_);(case hc=>intro W hk hm;exact create1_calls (bl++[fb]) nb N M.D (fb+1) sb fb M.fs.length s W hm hN (hk.cell y0 (fun e=>(HGS.out g Foot.g).1 e.symm)) (hk.cell y1 (fun e=>(HGS.out g Foot.g).2 e.symm)) HIDX.out hs);rintro e w5 ⟨rfl,h1,h2,h3⟩;have H1:=ak h1;have H2:=ak h2;have H3:=ak h3;clear h1 h2 h3)
 have HK5:=ak (HK4.out.trans (H3.out.mono (fun k hk=>(show FootN g nb pv k from hk) |> footN (kb:=kb) (bl:=bl) (vs:=vs))))
 by_cases ht:thingE M.d=0
 ·have e3:createM M s=({M with d:={thingN M.d with made:=wrap64 ((thingN M.d).made+1)},D:=M.D.put (keyN s) (.held M.fs.length),fs:=M.fs++[⟨[],0,M.d.made⟩]},0):=by
   unfold createM
   rw[HDN.out,HBR.out,HBO.out,if_neg (by decide),if_neg (by decide),if_neg (by decide),if_neg HZ.out,if_pos ht]
  have E3:=ak e3
  obtain⟨pv',hd5,hp5⟩:=H1.out ht
  have e4:(thingE M.d==0)=true:=beq_iff_eq.mpr ht
  have x1:=bq hd5.blk 1 (.int .i64 (thingN M.d).made)
  have f1:=blk_frozen hd5.blk 1
  have HD5:=ak hd5
  have HP5:=ak hp5
  have HT:=ak ht
  clear e3 hd5 hp5 ht H1 H2 H3
  go_wp2
  go_ret
  rw[E3.out]
  refine⟨by rw[HT.out];rfl,⟨pv',bl++[fb],vs++[.slice none 0 0],HD5.out.step (d':={thingN M.d with made:=wrap64 ((thingN M.d).made+1)}) (blk_put HD5.out.blk 1 (.int .i64 (wrap64 ((thingN M.d).made+1))) rfl) (fun k _ hk=>Below.heap_setCell w5 ⟨g,1,none⟩ _ k hk),fun k hk=>foot_add hk HFB.out (fun j hj=>(HP5.out j hj).imp id (fun h=>Nat.le_trans HK4.out.size h))⟩,HK5.out.set Foot.g⟩
 ·have e3:createM M s=({M with d:=thingN M.d,fs:=M.fs++[⟨[],0,M.d.made⟩]},thingE M.d):=by
   unfold createM
   rw[HDN.out,HBR.out,HBO.out,if_neg (by decide),if_neg (by decide),if_neg (by decide),if_neg HZ.out,if_neg ht]
  have E3:=ak e3
  have e4:(thingE M.d==0)=false:=beq_eq_false_iff_ne.mpr ht
  have HD5:=ak (H2.out ht)
  clear e3 ht H1 H2 H3
  go_wp2
  go_ret
  rw[E3.out]
  exact⟨rfl,⟨pv,bl++[fb],vs++[.slice none 0 0],HD5.out.mono (Nat.le_succ N),fun k hk=>foot_add hk HFB.out (fun j hj=>.inl hj)⟩,HK5.out⟩
end Dk
end
section
namespace Dk
open Go.Maps Pt

theorem alloc_size (w:World) (o:Obj):(w.alloc o).heap.size=w.heap.size+1:=Array.size_push _
theorem map_del {D:DataW Nat} (hD:IsMap D) (k:Lit):IsMap (D.del k):=by
 obtain⟨es,rfl⟩:=hD
 exact⟨_,rfl⟩
theorem held_move {D:DataW Nat} (hD:IsMap D) (hA:AllHeld D) (s t:ByteArray):AllHeld (moveD D s t):=by
 unfold moveD
 split
 ·exact held_put (map_del hD _) (held_del hA s) t _
 ·exact hA
theorem in_move {D:DataW Nat} (hD:IsMap D) {n:Nat} (hin:∀u j,look D u=some j→j < n) (s t:ByteArray):∀u j,look (moveD D s t) u=some j→j < n:=by
 intro u j hj
 unfold moveD at hj
 split at hj
 ·rename_i i hi
  rw[look_put (map_del hD _),look_del] at hj
  split at hj
  ·obtain rfl:=Option.some.inj hj
   exact hin s _ hi
  ·split at hj
   ·cases hj
   ·exact hin u j hj
 ·exact hin u j hj
variable {w w':World} {B g nb kb N:Nat} {pv:Value} {bl:List Nat} {vs:List Value} {M:DiskM}
def renameM (M:DiskM) (s t:ByteArray):DiskM×Int:=
 if M.d.down then(M,82)
 else if(look M.D s).isSome=false then(M,3)
 else if rightN t=false then(M,1)
 else if(t.toList==s.toList)=true then(M,1)
 else if thingE M.d=0 then({M with d:=thingN M.d,D:=moveD M.D s t},0) else({M with d:=thingN M.d},thingE M.d)
theorem run_121 (args:Array Value) (W:World):(callFunc 141 args).run Tryz.prog W=.ok (.enter 141 args) W:=
 enters_ Tryz.func141 (by kernel_rfl) rfl args W
theorem ren_calls (s t:ByteArray) (w:World) (hd:IsDisk w B g nb kb N pv bl vs M) (hs:s.size≤maxLen) (ht:t.size≤maxLen) (hN:N < 1000000000000):
  Calls Tryz.prog 113 #[.pointer (some ⟨g,0,none⟩),.string s,.string t] w fun e w'=>e=.returned (.int .i64 (renameM M s t).2)∧(∃pv',IsDisk w' B g nb kb (N+1) pv' bl vs (renameM M s t).1∧∀k,pv'.ownBlock=some k→pv.ownBlock=some k∨w.heap.size≤k)∧Keeps (Foot g nb kb pv bl vs) w w':=by
 have HD:=ak hd
 clear hd
 go_enter Tryz.func113,Tryz.ntmps113
 go_upto_region 1 with(fail)
 have hb1:=blk_alloc (heap_alloc_new w (.cells #[.string s] 9)) (.cells #[.string t] 9)
 have hb2:((w.alloc (.cells #[.string s] 9)).alloc (.cells #[.string t] 9)).heap[w.heap.size+1]? =some (.cells #[.string t] 9 (0,0)):=by
  have h:=heap_alloc_new (w.alloc (.cells #[.string s] 9)) (.cells #[.string t] 9)
  have e:=alloc_size w (.cells #[.string s] 9)
  rw[e] at h
  exact h
 have HD1:=ak ((HD.out.alloc (.cells #[.string s] 9)).alloc (.cells #[.string t] 9))
 have HK1:=ak (Keeps.of_below (F:=Foot g nb kb pv bl vs) (below_alloc (below_alloc (RowKit.Below.refl w.heap.size w) (.cells #[.string s] 9)) (.cells #[.string t] 9)))
 have HLT:=ak (fun k (hk:Foot g nb kb pv bl vs k)=>HD.out.lt k hk)
 have x0:((w.alloc (.cells #[.string s] 9)).alloc (.cells #[.string t] 9)).cell? ⟨w.heap.size,0,none⟩=some (.string s):=(blk_cell hb1 0).trans rfl
 have y0:((w.alloc (.cells #[.string s] 9)).alloc (.cells #[.string t] 9)).cell? ⟨w.heap.size+1,0,none⟩=some (.string t):=(blk_cell hb2 0).trans rfl
 clear hb1 hb2 HD
 generalize (w.alloc (.cells #[.string s] 9)).alloc (.cells #[.string t] 9)=w1 at HD1 HK1 x0 y0 ⊢
 obtain⟨sb,hsb⟩:∃k,w.heap.size=k:=⟨_,rfl⟩
 have HSB:=ak hsb
 rw[hsb] at HLT x0 y0
 rw[hsb]
 clear hsb
 have stay:∀{w3:World} {m:Nat},w3=w1.drewN m→(∃pv',IsDisk w3 B g nb kb (N+1) pv' bl vs M∧∀k,pv'.ownBlock=some k→pv.ownBlock=some k∨sb≤k)∧Keeps (Foot g nb kb pv bl vs) w w3:=fun e=>by
  subst e
  exact⟨⟨pv,(HD1.out.mono (Nat.le_succ N)).same (fun _ _=>rfl),fun k h=>.inl h⟩,HK1.out.drewN _⟩
 have ST:=ak @stay
 clear stay
 go_upto_region 2 with(go_at_call 77;(with_reducible refine(file_calls bl g M.d nb (.map (some kb)) pv N M.D s _ HD1.out.blk HD1.out.names HD1.out.heldD hs).mono ?_);rintro e w2 ⟨rfl,rfl⟩)
 obtain⟨dn,hdn⟩:∃b,M.d.down=b:=⟨_,rfl⟩
 cases dn with
 | true=>
  have e1:fileP bl M.d M.D s=.pointer none:=by unfold fileP;rw[hdn];rfl
  have e2:fileE M.d M.D s=82:=by unfold fileE;rw[hdn];rfl
  have e3:renameM M s t=(M,82):=by unfold renameM;rw[hdn];rfl
  rw[e1,e2]
  have E3:=ak e3
  clear e1 e2 e3 hdn
  go_wp2
  go_ret
  rw[E3.out,HSB.out]
  exact⟨rfl,ST.out (m:=0) rfl⟩
 | false=>
 obtain⟨l,hl⟩:∃l,look M.D s=l:=⟨_,rfl⟩
 cases l with
 | none=>
  have e1:fileP bl M.d M.D s=.pointer none:=by unfold fileP;rw[hdn,hl];rfl
  have e2:fileE M.d M.D s=3:=by unfold fileE;rw[hdn,hl];rfl
  have e3:renameM M s t=(M,3):=by unfold renameM;rw[hdn,hl];rfl
  rw[e1,e2]
  have E3:=ak e3
  clear e1 e2 e3 hdn hl
  go_wp2
  go_ret
  rw[E3.out,HSB.out]
  exact⟨rfl,ST.out (m:=0) rfl⟩
 | some i=>
 have e1:fileP bl M.d M.D s=.pointer (some ⟨bl.getD i 0,0,none⟩):=by unfold fileP;rw[hdn,hl];rfl
 have e2:fileE M.d M.D s=0:=by unfold fileE;rw[hdn,hl];rfl
 rw[e1,e2]
 obtain⟨br,hbr⟩:∃b,rightN t=b:=⟨_,rfl⟩
 have HRC:=ak (fun W=>by have h:=right_calls t W;rw[hbr] at h;exact h)
 cases br with
 | false=>
  have e3:renameM M s t=(M,1):=by unfold renameM;rw[hdn,hl,hbr];rfl
  have E3:=ak e3
  clear e1 e2 e3 hdn hl hbr
  go_wp2_with (go_at_call 136;(with_reducible refine(HRC.out _).mono ?_);rintro e w3 ⟨rfl,nd,rfl⟩)
  go_ret
  rw[E3.out,HSB.out]
  exact⟨rfl,ST.out rfl⟩
 | true=>
 obtain⟨bs,hbs⟩:∃b,(t.toList==s.toList)=b:=⟨_,rfl⟩
 cases bs with
 | true=>
  have e3:renameM M s t=(M,1):=by unfold renameM;rw[hdn,hl,hbr,hbs];rfl
  have E3:=ak e3
  clear e1 e2 e3 hdn hl hbr
  go_wp2_with (go_at_call 136;(with_reducible refine(HRC.out _).mono ?_);rintro e w3 ⟨rfl,nd,rfl⟩)
  go_ret
  rw[E3.out,HSB.out]
  exact⟨rfl,ST.out rfl⟩
 | false=>
 have HDN:=ak hdn
 have HL:=ak hl
 have HBR:=ak hbr
 have HBS:=ak hbs
 have hmap:=HD1.out.names.isMap
 have HDD:=ak (held_move hmap HD1.out.heldD s t)
 have HIN:=ak (in_move hmap HD1.out.inD s t)
 have HN1:=ak (show sb≠nb∧sb+1≠nb from⟨fun e=>by have:=HLT.out nb (.inl (mem_fixed.2 (.inl (by simp))));omega,fun e=>by have:=HLT.out nb (.inl (mem_fixed.2 (.inl (by simp))));omega⟩)
 have HG1:=ak (show sb≠g∧sb+1≠g from⟨fun e=>by have:=HLT.out g Foot.g;omega,fun e=>by have:=HLT.out g Foot.g;omega⟩)
 clear e1 e2 hdn hl hbr hmap
 go_wp2_with (first
  | (go_at_call 137;(with_reducible refine(rename_calls 141 #[.pointer (some ⟨sb,0,none⟩),.pointer (some ⟨sb+1,0,none⟩)] (moveD M.D s t) (HD1.out.same (w':=w2.drewN nd) (fun _ _=>rfl)) hN HDD.out HIN.out run_121 ?hc).mono ?_);(case hc=>intro W hk hm;exact rename1_calls bl nb N M.D sb (sb+1) s t W hm HD1.out.heldD hN HN1.out.1 HN1.out.2 (hk.cell (show(w2.drewN nd).cell? _=_ from x0) HG1.out.1) (hk.cell (show(w2.drewN nd).cell? _=_ from y0) HG1.out.2) hs ht);rintro e w3 ⟨rfl,h1,h2,h3⟩;have H1:=ak h1;have H2:=ak h2;have H3:=ak h3;clear h1 h2 h3)
  | (go_at_call 136;(with_reducible refine(HRC.out _).mono ?_);rintro e w3 ⟨rfl,nd,rfl⟩))
 go_ret
 have hk:=(HK1.out.drewN nd).trans (H3.out.mono (fun k hk=>footN hk))
 by_cases hth:thingE M.d=0
 ·have e3:renameM M s t=({M with d:=thingN M.d,D:=moveD M.D s t},0):=by unfold renameM;rw[HDN.out,HL.out,HBR.out,HBS.out];simp only[hth];rfl
  rw[e3]
  obtain⟨pv',h1,h2⟩:=H1.out hth
  exact⟨by rw[hth];rfl,⟨pv',h1,fun k e=>(h2 k e).imp id (fun h=>Nat.le_trans HK1.out.size h)⟩,hk⟩
 ·have e3:renameM M s t=({M with d:=thingN M.d},thingE M.d):=by unfold renameM;rw[HDN.out,HL.out,HBR.out,HBS.out];simp only[hth];rfl
  rw[e3]
  exact⟨rfl,⟨pv,(H2.out hth).mono (Nat.le_succ N),fun k e=>.inl e⟩,hk⟩
end Dk
end
section
namespace Dk
open Go.Maps Pt
attribute [local go_sem] max2_int min2_int max_two min_two

def newM (a:Int):DiskM:={d:={most:=mn (mx a 0) 67108864,made:=0,done:=0,fi:=false,fn:=0,ci:=false,cn:=0,down:=false},D:=.map [],K:=.map [],fs:=[]}
theorem new_world (M:DiskM) (B:Nat) (w:World) (hB:B≤w.heap.size) (hD:M.D=.map []) (hK:M.K=.map []) (hf:M.fs=[]):
    IsDisk (((w.alloc (.map #[] 0)).alloc (.map #[] 0)).alloc (.cells (cellsD M.d (.map (some w.heap.size)) (.map (some (w.heap.size+1))) (.slice none 0 0)) 75)) B (w.heap.size+1+1) w.heap.size (w.heap.size+1) 0 (.slice none 0 0) [] [] M:=by
  have s1:=alloc_size w (.map #[] 0)
  have s2:=alloc_size (w.alloc (.map #[] 0)) (.map #[] 0)
  have hb:=heap_alloc_new ((w.alloc (.map #[] 0)).alloc (.map #[] 0)) (.cells (cellsD M.d (.map (some w.heap.size)) (.map (some (w.heap.size+1))) (.slice none 0 0)) 75)
  rw[s2,s1] at hb
  have m1:=((World.ownsMap_made w Tryz.prog 9 (RP [])).alloc (.map #[] 0)).alloc (.cells (cellsD M.d (.map (some w.heap.size)) (.map (some (w.heap.size+1))) (.slice none 0 0)) 75)
  have m2:=(World.ownsMap_made (w.alloc (.map #[] 0)) Tryz.prog 9 (RP [])).alloc (.cells (cellsD M.d (.map (some w.heap.size)) (.map (some (w.heap.size+1))) (.slice none 0 0)) 75)
  rw[s1] at m2
  have hh:AllHeld (.map []):=fun s hs=>by cases hs
  have hl:∀s i,look (.map []) s=some i→i < M.fs.length:=fun s i hi=>by cases hi
  refine {blk:=hb,names:=by rw[hD];exact m1,keeps:=by rw[hK];exact m2,heldD:=by rw[hD];exact hh,heldK:=by rw[hK];exact hh,inD:=by rw[hD];exact hl,inK:=by rw[hK];exact hl,len1:=by rw[hf];rfl,len2:=by rw[hf];rfl,file:=fun i f h=>by rw[hf] at h;simp at h,pend:=⟨0,[],Nat.le_refl _,own_nil _ _ _ _⟩,apart:=?_,rows:=fun i k h=>?_,above:=fun k hk=>?_}
  · simp [fixed,Value.ownBlock]
    omega
  · simp [Value.ownBlock,undef] at h
  · simp [fixed,Value.ownBlock] at hk
    omega
theorem new_below (M:DiskM) (w:World):RowKit.Below w.heap.size w (((w.alloc (.map #[] 0)).alloc (.map #[] 0)).alloc (.cells (cellsD M.d (.map (some w.heap.size)) (.map (some (w.heap.size+1))) (.slice none 0 0)) 75)):=
  below_alloc (below_alloc (below_alloc (RowKit.Below.refl _ _) _) _) _
theorem new_foot {n:Nat}:∀k,Foot (n+1+1) n (n+1) (.slice none 0 0) [] [] k→n≤k:=by
  rintro k (hk | ⟨i,hi⟩)
  · simp [fixed,Value.ownBlock] at hk
    omega
  · simp [Value.ownBlock,undef] at hi
theorem new_calls (a:Int) (B:Nat) (w:World) (hB:B≤w.heap.size):
    Calls Tryz.prog 9 #[.int .i64 a] w fun e w'=>e=.returned (.pointer (some ⟨w.heap.size+1+1,0,none⟩))∧IsDisk w' B (w.heap.size+1+1) w.heap.size (w.heap.size+1) 0 (.slice none 0 0) [] [] (newM a)∧RowKit.Below w.heap.size w w':=by
  have hmm:=@run_makeMap Tryz.prog
  go_enter Tryz.func9,Tryz.ntmps9
  go_wp2
  repeat (go_quiet (fail);try go_wp2)
  all_goals
    go_ret
    refine⟨rfl,?_⟩
    first
      | (have e:mn (mx a 0) 67108864=67108864:=by(unfold mn mx;(repeat' split) <;> omega)
         have h1:=new_world (newM a) B w hB rfl rfl rfl
         have h2:=new_below (newM a) w
         unfold newM at h1 h2 ⊢
         rw[e] at h1 h2 ⊢
         exact⟨h1,h2⟩)
      | (have e:mn (mx a 0) 67108864=a:=by(unfold mn mx;(repeat' split) <;> omega)
         have h1:=new_world (newM a) B w hB rfl rfl rfl
         have h2:=new_below (newM a) w
         unfold newM at h1 h2 ⊢
         rw[e] at h1 h2 ⊢
         exact⟨h1,h2⟩)
      | (have e:mn (mx a 0) 67108864=0:=by(unfold mn mx;(repeat' split) <;> omega)
         have h1:=new_world (newM a) B w hB rfl rfl rfl
         have h2:=new_below (newM a) w
         unfold newM at h1 h2 ⊢
         rw[e] at h1 h2 ⊢
         exact⟨h1,h2⟩)
end Dk
end
section
namespace Dk
open Go.Shelf Go.Maps Pt

theorem RP_ptr {bl:List Nat} {v:Value} {y:DataW Nat×List MemPlace} (h:RP bl v=some y):∃c,v=.pointer c:=by
 unfold RP at h
 split at h
 ·exact⟨_,rfl⟩
 ·exact⟨_,rfl⟩
 ·cases h
theorem values_calls (mb:Option Nat) (w:World):
  Calls Tryz.prog 44 #[.map mb] w fun e w'=>e=.returned (.func (.func 72) #[] #[.pointer (some ⟨w.heap.size,0,none⟩)])∧w'=w.alloc (.cells #[.map mb] 70):=by
 go_enter Tryz.func44,Tryz.ntmps44
 go_wp2
 go_ret
 exact⟨rfl,rfl⟩
def encF (bl:List Nat) (D:DataW Nat) (x:List UInt8):Value:=.pointer (some ⟨bl.getD ((look D ⟨x.toArray⟩).getD 0) 0,0,none⟩)
theorem values1_calls (l Bm b nn:Nat) (bl:List Nat) (D0:DataW Nat) (hA:AllHeld D0) (J Jx:List (List UInt8)→World→Prop)
  (hY:∀pre (x:List UInt8) W,J pre W→pre.length < Maps.size D0→(look D0 ⟨x.toArray⟩).isSome=true→YieldAt Fence.wide 0 Tryz.prog l #[encF bl D0 x] W fun e W'=>(e=.returned (.bool true)∧J (pre++[x]) W'∧KeepsWalks W W')∨(e=.returned (.bool false)∧Jx (pre++[x]) W'))
  (W:World) (hJ:AbidesFrom W.heap.size J) (hm:W.cell? ⟨Bm,0,none⟩=some (.map (some b))) (hown:W.ownsMap Tryz.prog 9 (RP bl) b nn D0) (h0:J [] W):
  Calls Tryz.prog 72 #[.func (.yield l) #[] #[],.pointer (some ⟨Bm,0,none⟩)] W fun e W'=>(∃v,e=.returned v)∧((∃ps,ps.Perm (strKeys D0)∧J ps W')∨(∃ps,Jx ps W')):=by
 go_enter Tryz.func72,Tryz.ntmps72
 go_wp2_with (first
  | (at_range;refine wpList_range_own _ rfl _ 70 rfl 9 104 (string_keyed Tryz.underlying9) Tryz.underlying70 (RP bl) b nn D0 rfl hown ?_;intro w0 hrg0 hg0 hs0)
  | go_in)
 go_frame
 go_loopw [4] (fun _ wr=>∃(left:Lit→Bool) (cnt:Nat) (ps:List (List UInt8)),wr.ranges Tryz.prog 9 (RP bl) b W.heap.size nn D0 left cnt∧ps.length+cnt≤Maps.size D0∧Collected D0 left ps∧J ps wr)
  (fun _ wr=>wr.rangeLeft b W.heap.size)
 case atStart=>
  exact⟨_,_,[],hrg0,by simp,Collected.start D0,hJ [] W w0 none h0 hg0 (fun r e=>by cases e)⟩
 case round=>
  obtain⟨left,cnt,ps,hrg,hcs,hC,hJs⟩:=hrel
  go_wp2_with (first
   | (at_next;refine wpList_next_ranges _ rfl _ rfl 9 (string_keyed Tryz.underlying9) (RP bl) encStr Value.pointer (fun key kl hk=>by obtain⟨x,hx,_⟩:=Maps.keyOf_str Tryz.underlying9 hk;exact⟨x,hx⟩) (fun v y hv=>RP_ptr hv) b W.heap.size nn _ _ _ rfl hrg ?_ ?_)
   | go_in)
  ·intro hc0 hl0
   go_wp2
   go_end0
   exact⟨⟨_,rfl⟩,.inl ⟨ps,hC.perm hown (string_keyed Tryz.underlying9) Tryz.underlying9 hl0,hJs⟩⟩
  ·intro x c kl y1 y2 w2 cnt2 hkey hlk hv hat hrg2 hlt hg2 hs2 hen
   obtain⟨x',ex,rfl,_⟩:=Maps.keyOf_str Tryz.underlying9 hkey
   obtain rfl:x=x':=encStr_inj ex
   have hJ2:J ps w2:=hJ ps wr w2 (some W.heap.size) hJs hg2 (fun r e=>by cases e;exact⟨Nat.le_refl _,hrg.iter_walk⟩)
   have hk0:keyN ⟨x.toArray⟩=.string x:=rfl
   obtain⟨i,hi,hf⟩:=look_some (s:=⟨x.toArray⟩) hA (has_true_of_atKey hat)
   rw[hk0,hat] at hf
   subst hf
   obtain⟨g,hg,hcg⟩:=RP_held hv
   have hgd:encF bl D0 x=.pointer (some ⟨g,0,none⟩):=by
    unfold encF
    rw[hi,List.getD_eq_getElem?_getD,Option.getD_some,hg];rfl
   obtain rfl:c=some ⟨g,0,none⟩:=by injection hcg
   obtain⟨fn,tmps,assign,body,hy,hR⟩:=hY ps x w2 hJ2 (by omega) (by rw[hi];rfl)
   rw[hgd] at hy
   clear hs2 hgd hg hcg hi
   go_upto_region 3 with(fail)
   refine(wpIn_wide (n:=1)).1 ?_
   gi_wp2
   refine hR.mono ?_
   have hC2:=hC.step hlk hat
   rintro e W3 (⟨rfl,hJ3,hk3⟩ | ⟨rfl,hJx3⟩)
   ·gi_wp2
    go_wp2
    have hrg3:=hrg2.of_walks hk3
    go_roundw
    case rel=>exact⟨_,cnt2,ps++[x],hrg3,by simp;omega,hC2,hJ3⟩
    case measure=>rw[hrg3.left_eq,hrg.left_eq];exact hlt
   ·gi_wp2
    go_wp2
    refine bodyPost_ret (results_none rfl _ _ _) rfl ?_
    exact⟨⟨_,rfl⟩,.inr ⟨_,hJx3⟩⟩
abbrev NameOf (D:DataW Nat):={x:List UInt8 // (look D ⟨x.toArray⟩).isSome=true}
theorem values_stops (Bm b nn:Nat) (bl:List Nat) (D0:DataW Nat) (hA:AllHeld D0) (w:World) (hm:w.cell? ⟨Bm,0,none⟩=some (.map (some b))) (hown:w.ownsMap Tryz.prog 9 (RP bl) b nn D0):
  SeqStopsK Fence.wide 1 Tryz.prog 72 #[.pointer (some ⟨Bm,0,none⟩)] (fun x:NameOf D0=>#[encF bl D0 x.1]) KeepsWalks (fun ps=>(ps.map (·.1)).Perm (strKeys D0)) (fun _=>True) (Maps.size D0) w:=by
 intro l J Jx W hb hJ hJx hY h0
 refine callsIn_wide.2 ((values1_calls l Bm b nn bl D0 hA (fun ps W=>∃qs:List (NameOf D0),qs.map (·.1)=ps∧J qs W) (fun ps W=>∃qs:List (NameOf D0),qs.map (·.1)=ps∧Jx qs W) ?_ W ?_ ((hb.cell (World.block_lt_of_cell? w _ hm)).trans hm) (owns_heap hown (hb.block b hown.lt)) ⟨[],rfl,h0⟩).mono ?_)
 ·rintro pre x W1 ⟨qs,rfl,hj⟩ hl hx
  obtain⟨fn,tmps,assign,body,hy,hR⟩:=hY qs ⟨x,hx⟩ W1 hj (by simpa using hl)
  refine⟨fn,tmps,assign,body,hy,hR.mono ?_⟩
  rintro e W' (⟨h1,h2,h3⟩ | ⟨h1,h2⟩)
  ·exact .inl ⟨h1,⟨_,by simp,h2⟩,h3⟩
  ·exact .inr ⟨h1,⟨_,by simp,h2⟩⟩
 ·rintro ps W1 W2 row ⟨qs,rfl,hj⟩ hg hr
  exact⟨qs,rfl,hJ qs W1 W2 row hj hg hr⟩
 ·rintro e W' ⟨h1,⟨ps,hp,qs,rfl,h2⟩ | ⟨ps,qs,rfl,h2⟩⟩
  ·exact⟨h1,.inl ⟨qs,hp,h2⟩⟩
  ·exact⟨h1,.inr ⟨qs,trivial,h2⟩⟩
end Dk
end
section
namespace Dk
open Go.Shelf Go.Maps Pt
attribute [local go_sem] Oper.semAt_some

variable {w w':World} {B g nb kb N:Nat} {pv:Value} {bl:List Nat} {vs:List Value} {M:DiskM}
def lenM (M:DiskM) (x:List UInt8):Int:=sizeM M ⟨x.toArray⟩
def sumM (M:DiskM):List (List UInt8)→Int
 | []=>0
 | x::l=>lenM M x+sumM M l
theorem sumM_append (M:DiskM) (l:List (List UInt8)) (x:List UInt8):sumM M (l++[x])=sumM M l+lenM M x:=by
 induction l with
 | nil=>simp [sumM]
 | cons a l ih=>simp only[List.cons_append,sumM,ih];omega
theorem sumM_perm (M:DiskM) {l l':List (List UInt8)} (h:l.Perm l'):sumM M l=sumM M l':=by
 induction h with
 | nil=>rfl
 | cons x h ih=>simp only[sumM,ih]
 | swap x y l=>simp only[sumM];omega
 | trans h1 h2 ih1 ih2=>exact ih1.trans ih2
def usedM (M:DiskM):Int:=wrap64 (sumM M (strKeys M.D))
theorem wrap64_add_wrap (a b:Int):wrap64 (wrap64 a+b)=wrap64 (a+b):=by
 unfold wrap64
 omega
theorem used_calls (w:World) (hd:IsDisk w B g nb kb N pv bl vs M):
  Calls Tryz.prog 21 #[.pointer (some ⟨g,0,none⟩)] w fun e w'=>e=.returned (.int .i64 (usedM M))∧RowKit.Below w.heap.size w w':=by
 refine callsIn_wide.1 (callsIn_of_wp_marks (n:=2) Tryz.func21 rfl trivial ?_)
 have x3:=bq hd.blk 3 (.map (some nb))
 have hgl:=blk_lt hd.blk
 have hlt:=fun k (hk:Foot g nb kb pv bl vs k)=>hd.lt k hk
 have HLT:=ak hlt
 have HD:=ak hd
 clear hd hlt
 refine wpIn_wide.2 ?_
 simp only[Tryz.ntmps21,List.size_toArray,List.length_cons,List.length_nil,Nat.reduceAdd,Nat.reduceSub,Array.replicate_succ,Array.replicate_zero,List.push_toArray,List.append_toArray,List.nil_append,List.cons_append]
 go_wp2_with (go_at_call 44;(with_reducible refine(values_calls _ _).mono ?_);rintro e w' ⟨rfl,rfl⟩)
 have hs1:(w.alloc (.cells #[.int .i64 0] 3)).heap.size=w.heap.size+1:=by simp
 obtain⟨W0,hW0⟩:∃W0,(w.alloc (.cells #[.int .i64 0] 3)).alloc (.cells #[.map (some nb)] 70)=W0:=⟨_,rfl⟩
 have hB0:W0.heap[w.heap.size]? =some (.cells #[.int .i64 0] 3 (0,0)):=by rw[← hW0];exact blk_alloc (heap_alloc_new w _) _
 have hB1:W0.heap[w.heap.size+1]? =some (.cells #[.map (some nb)] 70 (0,0)):=by
  rw[← hW0];have:=heap_alloc_new (w.alloc (.cells #[.int .i64 0] 3)) (.cells #[.map (some nb)] 70);rwa [hs1] at this
 have hBW:RowKit.Below w.heap.size w W0:=by rw[← hW0];exact below_alloc (below_alloc (RowKit.Below.refl _ _) _) _
 have hz0:W0.heap.size=w.heap.size+2:=by rw[← hW0];simp
 have HD0:=ak (HD.out.same (w':=W0) (fun k hk=>hBW.block k (HLT.out k hk)))
 rw[hW0]
 clear hW0 x3 hgl
 refine(wpIn_wide (n:=2)).1 ?_
 refine wpIn_rangeFunc_ownF rfl (by decide) (gf:=72) (lb:=#[.pointer (some ⟨w.heap.size+1,0,none⟩)]) rfl trivial (enters_of Tryz.func72 (by kernel_rfl) rfl)
  (values_stops (w.heap.size+1) nb N bl M.D HD0.out.heldD W0 ((blk_cell hB1 0).trans rfl) HD0.out.names) walksK_t walksK_b (RowKit.Below.refl _ _) (fun _=>rfl)
  (fun pre W=>(W.cell? ⟨w.heap.size,0,none⟩=some (.int .i64 (wrap64 (sumM M (pre.map (·.1)))))∧W.frozen? ⟨w.heap.size,0,none⟩=false)∧RowKit.Below w.heap.size w W)
  (fun c pre W=>False)
  (OwnFrom.and (Own.from (fun s A B row hs hg hr=>⟨cell_kept hs.1 hg hr,(frozen_kept hs.1 hg hr).trans hs.2⟩) _) (ownFrom_below (Nat.le_refl _) (by omega)))
  (fun c s A B row hs hg hr=>hs)
  ⟨⟨(blk_cell hB0 0).trans (by rw[List.map_nil,show wrap64 (sumM M [])=0 from by unfold sumM wrap64;decide];rfl),blk_frozen hB0 0⟩,hBW⟩
  (fun x:NameOf M.D=>{tmps:=#[.pointer (some ⟨g,0,none⟩),undef,.int .i64 0,.pointer (some ⟨w.heap.size,0,none⟩),encF bl M.D x.1,.pointer (some ⟨g,0,none⟩),.pointer (some ⟨g,0,none⟩),.pointer (some ⟨g,3,none⟩),.map (some nb),.func (.func 72) #[] #[.pointer (some ⟨w.heap.size+1,0,none⟩)],encF bl M.D x.1,undef,undef,undef,undef,undef,undef,undef,undef],defers:=[]}) ?assign ?body ?done ?stop
 case assign=>
  intro l x W K hK
  gi_wp2
  exact hK
 case body=>
  rintro l pre x W ⟨⟨hc,hf⟩,hB⟩ _
  obtain⟨i,hi⟩:=Option.isSome_iff_exists.1 x.2
  have hen:encF bl M.D x.1=.pointer (some ⟨bl.getD i 0,0,none⟩):=by unfold encF;rw[hi];rfl
  obtain⟨f,hf1,hf2⟩:=fileM_some HD.out hi
  obtain⟨hb,hr⟩:=HD.out.file i f hf1
  obtain⟨A,c,e⟩:=Kd.R_slice hr
  rw[e] at hb
  have hbW:=(hB.block _ (blk_lt hb)).trans hb
  have y0:=bq hbW 0 (.slice A f.b.length c)
  have hsum:wrap64 (sumM M ((pre++[x]).map (·.1)))=wrap64 (wrap64 (sumM M (pre.map (·.1)))+(f.b.length:Int)):=by
   rw[List.map_append,List.map_cons,List.map_nil,sumM_append,wrap64_add_wrap]
   unfold lenM sizeM
   rw[hf2]
  rw[hen]
  have HSM:=ak hsum
  have HBB:=ak hB
  clear hen hf1 hf2 hb hr e hbW hsum hB
  generalize sumM M (pre.map (·.1))=sm at hc HSM
  generalize bl.getD i 0=fb at y0 ⊢
  have hmix:Tryz.prog.follows .mixedOrders=true:=by kernel_rfl
  gi_wp2
  gi_region_with_o (fail)
  all_goals
   have hw:IntKind.i64.wrap (wrap64 sm+(f.b.length:Int))=wrap64 (sumM M ((pre++[x]).map (·.1))):=by rw[HSM.out,i64_w]
   rw[hw]
   have hK:=(KeepsOthers.setCell W ⟨w.heap.size,0,none⟩ (.int .i64 (wrap64 (sumM M ((pre++[x]).map (·.1)))))).trans (KeepsOthers.drew _)
   exact⟨hK,hK.walks,⟨World.cell?_setCell_same' _ _ _ (by rw[hc];rfl),(World.frozen?_setCell W ⟨w.heap.size,0,none⟩ ⟨w.heap.size,0,none⟩ _).trans hf⟩,(HBB.out.setCell (p:=⟨w.heap.size,0,none⟩) (Nat.le_refl _) _).drew⟩
 case done=>
  rintro D xs W hD hp ⟨⟨hc,hf⟩,hB⟩ hK
  have hs:wrap64 (sumM M (xs.map (·.1)))=usedM M:=by unfold usedM;rw[sumM_perm M hp]
  rw[hs] at hc
  go_wp2
  refine⟨by simp,.inl ⟨_,_,rfl,run_takeDeferred hK,?_⟩⟩
  refine⟨.int .i64 (usedM M),by simp [results,Tryz.f21,go_sem],rfl,hB.trans (belowK_b (w:=w) (Nat.le_refl _) W D _ _ (by omega) hK rfl rfl)⟩
 case stop=>
  rintro D c pre W hD _ h
  exact h.elim
end Dk
end
section
namespace Dk
open Go.Shelf Go.Maps Pt

variable {w w':World} {B g nb kb N:Nat} {pv:Value} {bl:List Nat} {vs:List Value} {M:DiskM}
def appendM (M:DiskM) (s:ByteArray) (bs:List Int):DiskM×Int:=
 if M.d.down then(M,82)
 else match look M.D s with
  | none=>(M,3)
  | some i=>
   if(bs.length:Int) > wrap64 (M.d.most - usedM M) then(M,5)
   else if thingE M.d=0 then({M with d:=thingN M.d,fs:=M.fs.set i {M.fs.getD i ⟨[],0,0⟩ with b:=(M.fs.getD i ⟨[],0,0⟩).b++bs}},0)
   else({M with d:=thingN M.d},thingE M.d)
def ap4T:Bool×List (List Nat×List Nat):=(true,[([],[]),([0],[0]),([],[]),([2],[2]),([3],[3]),([4],[4]),([],[]),([6],[6]),([5,7],[5,7]),([1,8],[1,8]),([9,7],[9])])
def ap4B:List Nat:=[0,1,0,4,12,28,0,64,252,511,1023]
theorem ap4tab:rtab .any (opsOf Tryz.f67 4)=ap4T:=by kernel_rfl
theorem ap4bits:waitsOk ap4T.2 ap4B=true:=by kernel_rfl
theorem append_calls (s:ByteArray) (A:Option Addr) (c:Nat) (bs:List Int) (w:World) (hd:IsDisk w B g nb kb N pv bl vs M) (hs:s.size≤maxLen) (hlen:∀f∈M.fs,f.b.length≤67108864) (hbl:bs.length≤1000000000)
  (hbs:∀W,Keeps (Foot g nb kb pv bl vs) w W→Kd.C (Kd.int .u8) W A bs.length bs):
  Calls Tryz.prog 67 #[.pointer (some ⟨g,0,none⟩),.string s,.slice A bs.length c] w fun e w'=>e=.returned (.int .i64 (appendM M s bs).2)∧(∃vs',IsDisk w' B g nb kb N pv bl vs' (appendM M s bs).1∧∀k,Foot g nb kb pv bl vs' k→Foot g nb kb pv bl vs k∨w.heap.size≤k)∧Keeps (Foot g nb kb pv bl vs) w w':=by
 have HD:=ak hd
 have HBS:=ak hbs
 have HLT:=ak (fun k (hk:Foot g nb kb pv bl vs k)=>hd.lt k hk)
 have HGL:=ak (blk_lt hd.blk)
 have x0:=bq hd.blk 0 (.int .i64 M.d.most)
 clear hd hbs
 go_enter Tryz.func67,Tryz.ntmps67
 go_upto_region 2 with(go_at_call 77;(with_reducible refine(file_calls bl g M.d nb (.map (some kb)) pv N M.D s _ HD.out.blk HD.out.names HD.out.heldD hs).mono ?_);rintro e w ⟨rfl,rfl⟩)
 obtain⟨dn,hdn⟩:∃b,M.d.down=b:=⟨_,rfl⟩
 cases dn with
 | true=>
  have e1:fileP bl M.d M.D s=.pointer none:=by unfold fileP;rw[hdn];rfl
  have e2:fileE M.d M.D s=82:=by unfold fileE;rw[hdn];rfl
  have e3:appendM M s bs=(M,82):=by unfold appendM;rw[hdn];rfl
  rw[e1,e2]
  have E3:=ak e3
  clear e1 e2 e3 hdn
  go_wp2
  go_ret
  rw[E3.out]
  exact⟨rfl,⟨vs,HD.out,fun k hk=>.inl hk⟩,Keeps.refl _ _⟩
 | false=>
 obtain⟨l,hl⟩:∃l,look M.D s=l:=⟨_,rfl⟩
 cases l with
 | none=>
  have e1:fileP bl M.d M.D s=.pointer none:=by unfold fileP;rw[hdn,hl];rfl
  have e2:fileE M.d M.D s=3:=by unfold fileE;rw[hdn,hl];rfl
  have e3:appendM M s bs=(M,3):=by unfold appendM;rw[hdn,hl];rfl
  rw[e1,e2]
  have E3:=ak e3
  clear e1 e2 e3 hdn hl
  go_wp2
  go_ret
  rw[E3.out]
  exact⟨rfl,⟨vs,HD.out,fun k hk=>.inl hk⟩,Keeps.refl _ _⟩
 | some i=>
 have e1:fileP bl M.d M.D s=.pointer (some ⟨bl.getD i 0,0,none⟩):=by unfold fileP;rw[hdn,hl];rfl
 have e2:fileE M.d M.D s=0:=by unfold fileE;rw[hdn,hl];rfl
 have hi:=HD.out.inD s i hl
 have HI:=ak hi
 obtain⟨f,hf⟩:∃f,M.fs[i]? =some f:=⟨_,List.getElem?_eq_getElem hi⟩
 have hgd:M.fs.getD i ⟨[],0,0⟩=f:=by rw[List.getD_eq_getElem?_getD,hf];rfl
 have HFL:=ak (hlen f (List.mem_of_getElem? hf))
 rw[e1,e2]
 have HDN:=ak hdn
 have HL:=ak hl
 have HF:=ak hf
 have HGD:=ak hgd
 clear e1 e2 hdn hl hgd hi hf hlen
 obtain⟨fb,hfb⟩:∃b,bl.getD i 0=b:=⟨_,rfl⟩
 rw[hfb]
 have HFB:=ak hfb
 clear hfb
 go_upto_region 4 with(fail)
 refine st_ 11 (S:=(fun w'=>RowKit.Below w.heap.size w w')) (ds:=[]) (by kernel_rfl) rfl (by kernel_rfl) (RowKit.Below.refl _ _).drew (fun hHeld=>?_);refine with_tabW ap4tab ap4bits (fun HT_ HW_=>?_)
 generalize w.drew=w1 at hHeld ⊢
 refine fl_ [0,21,1,1,22,3,2,23,7,3,24,15,4,25,31,6,27,95] ?_
 iterate 6 refine pz_ HT_ ?_
 refine fe_ ?_
 refine tk_ 5 127 (N:=some 26) (v:=?_) (a':=?_) HT_ HW_ rfl rfl (.inl ⟨by rfl,?_⟩) hHeld ?_ ?_
 rotate_left
 ·rintro w' hs
  have x:=(hs.cell HGL.out).trans x0
  go_simp
  with_reducible rfl
 rotate_left
 ·simp only[Act.put,zq1,zq2,zq3,i64_w,i32_w]
  rfl
 refine on_ 7 255 (some 28) HT_ rfl rfl (by kernel_rfl) (by decide) (fun K hK=>?_)
 refine goes_ Tryz.func21 (by kernel_rfl) rfl #[.pointer (some ⟨g,0,none⟩)] (by rfl) rfl rfl (by(try simp only[List.map_toArray,List.map_cons,List.map_nil]);first | done | rfl) ?_
 refine(used_calls _ (HD.out.same (fun k hk=>hHeld.block k (HLT.out k hk)))).mono ?_
 rintro e w2 ⟨rfl,hb⟩
 refine⟨_,rfl,?_⟩
 have hHeld:=hHeld.trans (hb.mono hHeld.size)
 refine kz_ hK hHeld fun hHeld=>?_;clear hK K
 clear hb
 refine fl_ [8,29,511,9,30,1023,10,20,2047] ?_
 iterate 3 refine pz_ HT_ ?_
 refine fe_ ?_
 have HB:=ak hHeld
 clear hHeld
 refine dz_ HT_ ?_
 have HD2:=ak (HD.out.same (w':=w2) (fun k hk=>HB.out.block k (HLT.out k hk)))
 have HK2:=ak (Keeps.of_below (F:=Foot g nb kb pv bl vs) HB.out)
 clear HD x0 HT_ HW_
 generalize hbz:decide (wrap64 (M.d.most - usedM M) < (bs.length:Int))=bz
 cases bz with
 | true=>
  have hc:(bs.length:Int) > wrap64 (M.d.most - usedM M):=of_decide_eq_true hbz
  have e3:appendM M s bs=(M,5):=by unfold appendM;rw[HDN.out,HL.out];simp only[if_pos hc];rfl
  have E3:=ak e3
  clear e3 hc hbz
  go_wp2
  go_ret
  rw[E3.out]
  exact⟨rfl,⟨vs,HD2.out,fun k hk=>.inl hk⟩,HK2.out⟩
 | false=>
 have HNC:=ak (of_decide_eq_false hbz)
 clear hbz
 by_cases ht:thingE M.d=0
 ·have e3:appendM M s bs=({M with d:=thingN M.d,fs:=M.fs.set i {f with b:=f.b++bs}},0):=by unfold appendM;rw[HDN.out,HL.out];simp only[if_neg HNC.out,HGD.out,ht];rfl
  have E3:=ak e3
  have HT:=ak ht
  clear e3 ht
  go_upto_region 9 with(go_at_call 124;(with_reducible refine(thing_calls g M.d (.map (some nb)) (.map (some kb)) pv _ HD2.out.blk).mono ?_);rintro e w3 ⟨rfl,hb,hk⟩;have HD3:=ak (HD2.out.thing hb hk);have HK3:=ak hk;clear hb hk;rw[HT.out])
  obtain⟨hb,hr⟩:=HD3.out.file i f HF.out
  rw[HFB.out] at hb
  obtain⟨Af,cf,e⟩:=Kd.R_slice hr
  have HE:=ak e
  rw[e] at hb hr
  have y0:=bq hb 0 (.slice Af f.b.length cf)
  have HBB:=ak hb
  have HRR:=ak hr
  have HK4:=ak (HK2.out.trans (keeps_g (nb:=nb) (kb:=kb) (pv:=pv) (bl:=bl) (vs:=vs) HK3.out))
  have HCC:=ak (HBS.out w3 HK4.out)
  have HNB:=ak (show some fb≠(Value.slice Af f.b.length cf).ownBlock from fun e=>(HD3.out.rows i fb (by rw[HE.out];exact e.symm)).1 (by rw[← HFB.out];exact bl_fixed (by rw[HD3.out.len1];exact HI.out)))
  have HB3:=ak (show B≤w3.heap.size from Nat.le_of_lt (Nat.lt_of_le_of_lt (HD3.out.above g (by simp [fixed])) (HD3.out.lt g Foot.g)))
  have HLL:=ak (show(f.b.length+bs.length)*1≤140737488355328 by have:=HFL.out;omega)
  clear hb hr e
  go_wp2_with (at_builtin;refine Kd.R_append_row (Value.int .u8) (0:Int) (h1:=fun _=>rfl) (w0:=w3) B rfl (.tmp 40) (.tmp 41) 35 5 (.int .u8 0) 1 rfl Tryz.underlying35 info5 rfl (by decide) (.slice Af f.b.length cf) f.b bs A bs.length c (fun _=>True) rfl rfl (fun _ _=>trivial) HRR.out HCC.out (RowKit.Below.refl B w3) HB3.out HLL.out ?_;intro v4 w4 ho4 hb4 hg4 hat4;obtain⟨A4,c4,hv4⟩:=Kd.R_slice ho4;subst hv4;have hb5:=blk_grown HBB.out hg4 HNB.out;have y0':=bq hb5 0 (.slice Af f.b.length cf);have f0':=blk_frozen hb5 0;have HO4:=ak ho4;have HG4:=ak hg4;have HAT:=ak hat4;have HB5:=ak hb5;clear ho4 hb4 hg4 hat4 hb5)
  go_ret
  rw[E3.out]
  obtain⟨v4,hv4⟩:∃v,v=Value.slice A4 (f.b.length+bs.length) c4:=⟨_,rfl⟩
  rw[List.length_append] at HO4 HAT
  rw[← hv4] at HO4 HAT ⊢
  have hset:∀k,k≠fb→(w4.setCell ⟨fb,0,none⟩ v4).heap[k]? =w4.heap[k]? :=fun k hk=>Below.heap_setCell w4 ⟨fb,0,none⟩ v4 k hk
  have hgr:∀k,k < w3.heap.size→(vs.getD i undef).ownBlock≠some k→w4.heap[k]? =w3.heap[k]? :=fun k hk hn=>HG4.out.block k hk (fun e=>hn (by rw[HE.out];exact e.symm))
  have hv:∀k,v4.ownBlock=some k→(vs.getD i undef).ownBlock=some k∨w3.heap.size≤k:=fun k e=>by
   rcases HAT.out with h | ⟨b,h,hle⟩
   ·exact .inl (by rw[HE.out,← h];exact e)
   ·rw[h] at e
    obtain rfl:=Option.some.inj e
    exact .inr hle
  have hfb3:fb < w3.heap.size:=blk_lt HBB.out
  have h1:=HD3.out.set (i:=i) (f':={f with b:=f.b++bs}) (v':=v4) HI.out (w':=w4.setCell ⟨fb,0,none⟩ v4)
   (by rw[HFB.out];exact blk_put HB5.out 0 v4 rfl)
   (row_heap HO4.out (fun k hk=>hset k (fun e=>by
    rcases hv k hk with h | h
    ·exact HNB.out (by rw[← e,← HE.out,h])
    ·omega)))
   hv
   (fun k hm hn ho=>(hset k (by rw[← HFB.out];exact hn)).trans (hgr k (HD3.out.lt k hm) ho))
  refine⟨rfl,⟨vs.set i v4,h1,fun k hk=>?_⟩,?_⟩
  ·rcases hk with hk | ⟨j,hj⟩
   ·exact .inl (.inl hk)
   ·by_cases e:j=i
    ·subst e
     have hlv:j < vs.length:=by rw[HD3.out.len2];exact HI.out
     rw[List.getD_eq_getElem?_getD,List.getElem?_set_self hlv] at hj
     rcases hv k hj with h | h
     ·exact .inl (.inr ⟨j,h⟩)
     ·exact .inr (Nat.le_trans HK4.out.size h)
    ·rw[List.getD_eq_getElem?_getD,List.getElem?_set_ne (fun h=>e h.symm),← List.getD_eq_getElem?_getD] at hj
     exact .inl (.inr ⟨j,hj⟩)
  ·refine HK4.out.trans (Keeps.set (w1:=w4) ⟨HG4.out.os,HG4.out.tape,HG4.out.output,HG4.out.size,fun k hk hf=>hgr k hk (fun e=>hf (.inr ⟨i,e⟩))⟩ ?_)
   rw[← HFB.out]
   exact Foot.b (by rw[HD3.out.len1];exact HI.out)
 ·have e3:appendM M s bs=({M with d:=thingN M.d},thingE M.d):=by unfold appendM;rw[HDN.out,HL.out];simp only[if_neg HNC.out,ht];rfl
  have E3:=ak e3
  have e4:(thingE M.d !=0)=true:=bne_iff_ne.mpr ht
  clear e3 ht
  go_wp2_with (go_at_call 124;(with_reducible refine(thing_calls g M.d (.map (some nb)) (.map (some kb)) pv _ HD2.out.blk).mono ?_);rintro e w3 ⟨rfl,hb,hk⟩;have HD3:=ak (HD2.out.thing hb hk);have HK3:=ak hk;clear hb hk)
  go_ret
  rw[E3.out]
  exact⟨rfl,⟨vs,HD3.out,fun k hk=>.inl hk⟩,HK2.out.trans (keeps_g HK3.out)⟩
end Dk
end
section
namespace Dk
open Go.Shelf Go.Maps Fr Ext Pt

variable {w w':World} {B g nb kb N:Nat} {pv:Value} {bl:List Nat} {vs:List Value} {M:DiskM}
def partB (len:Nat) (at_ n:Int):Bool:=decide (0≤at_) && decide (0≤n) && decide (at_≤(len:Int)) && decide (n≤(len:Int) - at_)
def cutL (b:List Int) (at_ n:Int):List Int:=(b.take (at_+n).toNat).drop at_.toNat
def readM (M:DiskM) (s:ByteArray) (at_ n:Int):List Int×Int:=
 if M.d.down then([],82)
 else match look M.D s with
  | none=>([],3)
  | some i=>if partB (M.fs.getD i ⟨[],0,0⟩).b.length at_ n=true then(cutL (M.fs.getD i ⟨[],0,0⟩).b at_ n,0) else([],1)
theorem read_calls (s:ByteArray) (at_ n:Int) (w:World) (hd:IsDisk w B g nb kb N pv bl vs M) (hs:s.size≤maxLen) (hlen:∀f∈M.fs,f.b.length≤67108864):
  Calls Tryz.prog 50 #[.pointer (some ⟨g,0,none⟩),.string s,.int .i64 at_,.int .i64 n] w fun e w'=>∃v,e=.returned (.tuple #[v,.int .i64 (readM M s at_ n).2])∧Kd.R (Kd.int .u8) 5 w' w.heap.size (fun _=>True) v (readM M s at_ n).1∧RowKit.Below w.heap.size w w':=by
 have HD:=ak hd
 clear hd
 go_enter Tryz.func50,Tryz.ntmps50
 go_upto_region 2 with(go_at_call 77;(with_reducible refine(file_calls bl g M.d nb (.map (some kb)) pv N M.D s _ HD.out.blk HD.out.names HD.out.heldD hs).mono ?_);rintro e w ⟨rfl,rfl⟩)
 obtain⟨dn,hdn⟩:∃b,M.d.down=b:=⟨_,rfl⟩
 cases dn with
 | true=>
  have e1:fileP bl M.d M.D s=.pointer none:=by unfold fileP;rw[hdn];rfl
  have e2:fileE M.d M.D s=82:=by unfold fileE;rw[hdn];rfl
  have e3:readM M s at_ n=([],82):=by unfold readM;rw[hdn];rfl
  rw[e1,e2]
  have E3:=ak e3
  clear e1 e2 e3 hdn
  go_wp2
  go_ret2
  rw[E3.out]
  exact⟨_,rfl,Kd.R_nil _ _ _ _ _,RowKit.Below.refl _ _⟩
 | false=>
 obtain⟨l,hl⟩:∃l,look M.D s=l:=⟨_,rfl⟩
 cases l with
 | none=>
  have e1:fileP bl M.d M.D s=.pointer none:=by unfold fileP;rw[hdn,hl];rfl
  have e2:fileE M.d M.D s=3:=by unfold fileE;rw[hdn,hl];rfl
  have e3:readM M s at_ n=([],3):=by unfold readM;rw[hdn,hl];rfl
  rw[e1,e2]
  have E3:=ak e3
  clear e1 e2 e3 hdn hl
  go_wp2
  go_ret2
  rw[E3.out]
  exact⟨_,rfl,Kd.R_nil _ _ _ _ _,RowKit.Below.refl _ _⟩
 | some i=>
 have e1:fileP bl M.d M.D s=.pointer (some ⟨bl.getD i 0,0,none⟩):=by unfold fileP;rw[hdn,hl];rfl
 have e2:fileE M.d M.D s=0:=by unfold fileE;rw[hdn,hl];rfl
 have hi:=HD.out.inD s i hl
 obtain⟨f,hf⟩:∃f,M.fs[i]? =some f:=⟨_,List.getElem?_eq_getElem hi⟩
 have hgd:M.fs.getD i ⟨[],0,0⟩=f:=by rw[List.getD_eq_getElem?_getD,hf];rfl
 have hfl:=hlen f (List.mem_of_getElem? hf)
 have e3:readM M s at_ n=if partB f.b.length at_ n=true then(cutL f.b at_ n,0) else([],1):=by unfold readM;rw[hdn,hl];simp only[hgd];rfl
 obtain⟨hb,hr⟩:=HD.out.file i f hf
 obtain⟨A,c,e,hc,hrd⟩:=Kd.R_reads hr
 rw[e] at hb
 rw[e1,e2]
 have y0:=bq hb 0 (.slice A f.b.length c)
 have HRD:=ak hrd
 clear e1 e2 hdn hl hgd hi hf hlen hb hr e hrd HD
 generalize bl.getD i 0=fb at y0 ⊢
 have bad:∀{w1:World},partB f.b.length at_ n=false→w1=w→∃v,Value.slice none 0 0=v∧(1:Int)=(readM M s at_ n).2∧Kd.R (Kd.int .u8) 5 w1 w.heap.size (fun _=>True) v (readM M s at_ n).1∧RowKit.Below w.heap.size w w1:=by
  rintro w1 h rfl
  rw[e3,h]
  exact⟨_,rfl,rfl,Kd.R_nil _ _ _ _ _,RowKit.Below.refl _ _⟩
 have BAD:=ak @bad
 have E3:=ak e3
 have HFL:=ak hfl
 clear bad e3 hfl
 by_cases h1:at_ < 0
 ·have d1:decide (at_ < 0)=true:=decide_eq_true h1
  have HP:=ak (show partB f.b.length at_ n=false by unfold partB;rw[decide_eq_false (show ¬0≤at_ by omega)];rfl)
  clear h1
  go_wp2
  go_ret2
  obtain⟨v,rfl,e,h⟩:=BAD.out HP.out rfl
  exact⟨_,by rw[← e];rfl,h⟩
 have d1:decide (at_ < 0)=false:=decide_eq_false h1
 by_cases h2:n < 0
 ·have d2:decide (n < 0)=true:=decide_eq_true h2
  have HP:=ak (show partB f.b.length at_ n=false by unfold partB;rw[decide_eq_false (show ¬0≤n by omega)];simp)
  clear h1 h2
  go_wp2
  go_ret2
  obtain⟨v,rfl,e,h⟩:=BAD.out HP.out rfl
  exact⟨_,by rw[← e];rfl,h⟩
 have d2:decide (n < 0)=false:=decide_eq_false h2
 by_cases h3:at_ > (f.b.length:Int)
 ·have d3:decide (at_ > (f.b.length:Int))=true:=decide_eq_true h3
  have HP:=ak (show partB f.b.length at_ n=false by unfold partB;rw[decide_eq_false (show ¬at_≤(f.b.length:Int) by omega)];simp)
  clear h1 h2 h3
  go_wp2
  go_ret2
  obtain⟨v,rfl,e,h⟩:=BAD.out HP.out rfl
  exact⟨_,by rw[← e];rfl,h⟩
 have d3:decide (at_ > (f.b.length:Int))=false:=decide_eq_false h3
 have w1:wrap64 ((f.b.length:Int) - at_)=(f.b.length:Int) - at_:=by have:=HFL.out;unfold wrap64;omega
 by_cases h4:n > (f.b.length:Int) - at_
 ·have d4:decide (n > (f.b.length:Int) - at_)=true:=decide_eq_true h4
  have HP:=ak (show partB f.b.length at_ n=false by unfold partB;rw[decide_eq_false (show ¬n≤(f.b.length:Int) - at_ by omega)];simp)
  clear h1 h2 h3 h4
  go_wp2
  go_ret2
  obtain⟨v,rfl,e,h⟩:=BAD.out HP.out rfl
  exact⟨_,by rw[← e];rfl,h⟩
 have d4:decide (n > (f.b.length:Int) - at_)=false:=decide_eq_false h4
 have HP:=ak (show partB f.b.length at_ n=true by
  unfold partB
  rw[decide_eq_true (show 0≤at_ by omega),decide_eq_true (show 0≤n by omega),decide_eq_true (show at_≤(f.b.length:Int) by omega),decide_eq_true (show n≤(f.b.length:Int) - at_ by omega)]
  rfl)
 have w2:wrap64 (at_+n)=at_+n:=by have:=HFL.out;unfold wrap64;omega
 obtain⟨inf,hinf,hisz⟩:∃i0,Tryz.prog.info? 5=some i0∧i0.size=1:=by
  obtain⟨i0,h,he⟩:=Option.map_eq_some_iff.1 info5
  simp only[Prod.mk.injEq] at he
  exact⟨i0,h,he.2.1⟩
 obtain⟨A',hcut,hcr,hcl⟩:=print_mid_int (P:=Tryz.prog) (k:=.u8) 35 5 Tryz.underlying35 hinf hisz A c f.b at_ (at_+n) (by omega) (by omega) (by omega) hc
 have HRC:=ak (C_of_ints (hcr w (ints_of_C HRD.out)))
 have HCL:=ak (show((f.b.take (at_+n).toNat).drop at_.toNat).length < 140737488355328 by have:=HFL.out;simp only[List.length_drop,List.length_take];omega)
 clear h1 h2 h3 h4 hinf hcr hcl
 have hcut2:∀W:World,(Instr.slice 35 (.slice A f.b.length c) (some (.int .i64 at_)) (some (.int .i64 (at_+n))) none).run Tryz.prog W=.ok (.slice A' ((f.b.take (at_+n).toNat).drop at_.toNat).length (c - at_.toNat)) W:=hcut
 clear hcut
 have hz:cutL f.b at_ n=(f.b.take (at_+n).toNat).drop at_.toNat:=rfl
 have HZ:=ak hz
 clear hz
 generalize (f.b.take (at_+n).toNat).drop at_.toNat=z at hcut2 HRC HCL HZ
 go_wp2_with (go_at_call 78;(with_reducible refine(Fr.clone_calls A' _ z _ HCL.out HRC.out).mono ?_);rintro e w3 ⟨v,rfl,ho,hb⟩;have HO:=ak ho;have HB:=ak hb;clear ho hb)
 go_ret2
 rw[E3.out,if_pos HP.out,HZ.out]
 exact⟨_,rfl,R_ints HO.out,HB.out⟩
end Dk
end
end Go.Proofs.YtcieieacfoaklaaGreat
section
namespace Go.Proofs.YtcieieacfoaklaaGreat.Sh
open Go.Shelf
def cloneM_ren:Go.Shelf.Ren:=⟨fun | 5=>142 | 7=>163 | n=>n,fun | 23=>70 | 25=>9 | 3=>104 | 4=>4 | 20=>20 | n=>n,fun | n=>n⟩
theorem cloneM:Go.Proofs.SlLaysW.n5 Tryz.prog cloneM_ren:={
 mixed:=by kernel_rfl
 f5:=⟨Tryz.f142.name,by decide,Tryz.func142.trans (congrArg some (by kernel_rfl))⟩
 f7:=Tryz.func163.trans (congrArg some (by kernel_rfl))
 t4:=Tryz.underlying4
 a4:=Tryz.isAgg4
 z4:=Tryz.sizeOf4
 v4:=Tryz.zeroValue4
 t20:=Tryz.underlying20
 a20:=Tryz.isAgg20
 z20:=Tryz.sizeOf20
 v20:=Tryz.zeroValue20
 t23:=Tryz.underlying70
 a23:=Tryz.isAgg70
 z23:=Tryz.sizeOf70
 v23:=Tryz.zeroValue70}
def cloneI_ren:Go.Shelf.Ren:=⟨fun | 15=>102 | n=>n,fun | 22=>76 | 3=>3 | 4=>4 | n=>n,fun | n=>n⟩
theorem cloneI:Go.Proofs.Lays2.n15 Tryz.prog cloneI_ren:={
 mixed:=by kernel_rfl
 f15:=Tryz.func102.trans (congrArg some (by kernel_rfl))
 t3:=Tryz.underlying3
 a3:=Tryz.isAgg3
 z3:=Tryz.sizeOf3
 v3:=Tryz.zeroValue3
 t4:=Tryz.underlying4
 a4:=Tryz.isAgg4
 z4:=Tryz.sizeOf4
 v4:=Tryz.zeroValue4
 t22:=Tryz.underlying76
 a22:=Tryz.isAgg76
 z22:=Tryz.sizeOf76
 v22:=Tryz.zeroValue76
 i3:=by kernel_rfl}
def compactI_ren:Go.Shelf.Ren:=⟨fun | 20=>133 | n=>n,fun | 22=>76 | 3=>3 | 4=>4 | 0=>0 | n=>n,fun | n=>n⟩
theorem compactI:Go.Proofs.Lays2.n20 Tryz.prog compactI_ren:={
 mixed:=by kernel_rfl
 f20:=Tryz.func133.trans (congrArg some (by kernel_rfl))
 t0:=Tryz.underlying0
 a0:=Tryz.isAgg0
 z0:=Tryz.sizeOf0
 v0:=Tryz.zeroValue0
 t3:=Tryz.underlying3
 a3:=Tryz.isAgg3
 z3:=Tryz.sizeOf3
 v3:=Tryz.zeroValue3
 t4:=Tryz.underlying4
 a4:=Tryz.isAgg4
 z4:=Tryz.sizeOf4
 v4:=Tryz.zeroValue4
 t22:=Tryz.underlying76
 a22:=Tryz.isAgg76
 z22:=Tryz.sizeOf76
 v22:=Tryz.zeroValue76
 i3:=by kernel_rfl}
def containsI_ren:Go.Shelf.Ren:=⟨fun | 107=>45 | 108=>73 | n=>n,fun | 28=>76 | 3=>3 | 4=>4 | 0=>0 | n=>n,fun | n=>n⟩
theorem containsI:Go.Proofs.Lays.n107 Tryz.prog containsI_ren:={
 mixed:=by kernel_rfl
 f107:=Tryz.func45.trans (congrArg some (by kernel_rfl))
 f108:=Tryz.func73.trans (congrArg some (by kernel_rfl))
 t0:=Tryz.underlying0
 a0:=Tryz.isAgg0
 z0:=Tryz.sizeOf0
 v0:=Tryz.zeroValue0
 t3:=Tryz.underlying3
 a3:=Tryz.isAgg3
 z3:=Tryz.sizeOf3
 v3:=Tryz.zeroValue3
 t4:=Tryz.underlying4
 a4:=Tryz.isAgg4
 z4:=Tryz.sizeOf4
 v4:=Tryz.zeroValue4
 t28:=Tryz.underlying76
 a28:=Tryz.isAgg76
 z28:=Tryz.sizeOf76
 v28:=Tryz.zeroValue76}
def sortI_ren:Go.Shelf.Ren:=⟨fun | 189=>132 | 125=>159 | 257=>158 | 128=>183 | 129=>184 | 294=>174 | 295=>175 | 296=>176 | 297=>177 | 298=>178 | 299=>179 | 216=>180 | 300=>181 | 301=>182 | 328=>192 | 329=>193 | 330=>194 | 331=>195 | 332=>196 | 215=>197 | 343=>216 | n=>n,fun | 28=>76 | 3=>3 | 46=>149 | 0=>0 | 51=>62 | 53=>251 | 4=>4 | 183=>243 | 182=>242 | 131=>110 | 5=>5 | 9=>9 | 218=>258 | 222=>204 | 228=>274 | 229=>275 | n=>n,fun | n=>n⟩
theorem sortI:Go.Proofs.Lays.n189 Tryz.prog sortI_ren:={
 mixed:=by kernel_rfl
 f125:=Tryz.func159.trans (congrArg some (by kernel_rfl))
 f128:=Tryz.func183.trans (congrArg some (by kernel_rfl))
 f129:=Tryz.func184.trans (congrArg some (by kernel_rfl))
 f189:=Tryz.func132.trans (congrArg some (by kernel_rfl))
 f215:=Tryz.func197.trans (congrArg some (by kernel_rfl))
 f216:=Tryz.func180.trans (congrArg some (by kernel_rfl))
 f257:=Tryz.func158.trans (congrArg some (by kernel_rfl))
 f294:=Tryz.func174.trans (congrArg some (by kernel_rfl))
 f295:=Tryz.func175.trans (congrArg some (by kernel_rfl))
 f296:=Tryz.func176.trans (congrArg some (by kernel_rfl))
 f297:=Tryz.func177.trans (congrArg some (by kernel_rfl))
 f298:=Tryz.func178.trans (congrArg some (by kernel_rfl))
 f299:=Tryz.func179.trans (congrArg some (by kernel_rfl))
 f300:=Tryz.func181.trans (congrArg some (by kernel_rfl))
 f301:=Tryz.func182.trans (congrArg some (by kernel_rfl))
 f328:=Tryz.func192.trans (congrArg some (by kernel_rfl))
 f329:=Tryz.func193.trans (congrArg some (by kernel_rfl))
 f330:=Tryz.func194.trans (congrArg some (by kernel_rfl))
 f331:=Tryz.func195.trans (congrArg some (by kernel_rfl))
 f332:=Tryz.func196.trans (congrArg some (by kernel_rfl))
 f343:=Tryz.func216.trans (congrArg some (by kernel_rfl))
 t0:=Tryz.underlying0
 a0:=Tryz.isAgg0
 z0:=Tryz.sizeOf0
 v0:=Tryz.zeroValue0
 t3:=Tryz.underlying3
 a3:=Tryz.isAgg3
 z3:=Tryz.sizeOf3
 v3:=Tryz.zeroValue3
 t4:=Tryz.underlying4
 a4:=Tryz.isAgg4
 z4:=Tryz.sizeOf4
 v4:=Tryz.zeroValue4
 t5:=Tryz.underlying5
 a5:=Tryz.isAgg5
 z5:=Tryz.sizeOf5
 v5:=Tryz.zeroValue5
 t9:=Tryz.underlying9
 a9:=Tryz.isAgg9
 z9:=Tryz.sizeOf9
 v9:=Tryz.zeroValue9
 t28:=Tryz.underlying76
 a28:=Tryz.isAgg76
 z28:=Tryz.sizeOf76
 v28:=Tryz.zeroValue76
 t46:=Tryz.underlying149
 a46:=Tryz.isAgg149
 z46:=Tryz.sizeOf149
 v46:=Tryz.zeroValue149
 t51:=Tryz.underlying62
 a51:=Tryz.isAgg62
 z51:=Tryz.sizeOf62
 v51:=Tryz.zeroValue62
 t53:=Tryz.underlying251
 a53:=Tryz.isAgg251
 z53:=Tryz.sizeOf251
 v53:=Tryz.zeroValue251
 t131:=Tryz.underlying110
 a131:=Tryz.isAgg110
 z131:=Tryz.sizeOf110
 v131:=Tryz.zeroValue110
 t182:=Tryz.underlying242
 a182:=Tryz.isAgg242
 z182:=Tryz.sizeOf242
 v182:=Tryz.zeroValue242
 t183:=Tryz.underlying243
 a183:=Tryz.isAgg243
 z183:=Tryz.sizeOf243
 v183:=Tryz.zeroValue243
 t218:=Tryz.underlying258
 a218:=Tryz.isAgg258
 z218:=Tryz.sizeOf258
 v218:=Tryz.zeroValue258
 t222:=Tryz.underlying204
 a222:=Tryz.isAgg204
 z222:=Tryz.sizeOf204
 v222:=Tryz.zeroValue204
 t228:=Tryz.underlying274
 a228:=Tryz.isAgg274
 z228:=Tryz.sizeOf274
 v228:=Tryz.zeroValue274
 t229:=Tryz.underlying275
 a229:=Tryz.isAgg275
 z229:=Tryz.sizeOf275
 v229:=Tryz.zeroValue275}
def sortS_ren:Go.Shelf.Ren:=⟨fun | 190=>161 | 125=>159 | 258=>186 | 128=>183 | 129=>184 | 302=>198 | 303=>199 | 304=>200 | 305=>201 | 306=>202 | 307=>203 | 308=>204 | 309=>205 | 310=>206 | 333=>217 | 329=>193 | 330=>194 | 334=>218 | 335=>219 | 336=>220 | 344=>224 | n=>n,fun | 31=>165 | 9=>9 | 3=>3 | 46=>149 | 0=>0 | 51=>62 | 53=>251 | 4=>4 | 183=>243 | 182=>242 | 131=>110 | 5=>5 | 218=>258 | 222=>204 | 228=>274 | 229=>275 | n=>n,fun | n=>n⟩
theorem sortS:Go.Proofs.Lays.n190 Tryz.prog sortS_ren:={
 mixed:=by kernel_rfl
 f125:=Tryz.func159.trans (congrArg some (by kernel_rfl))
 f128:=Tryz.func183.trans (congrArg some (by kernel_rfl))
 f129:=Tryz.func184.trans (congrArg some (by kernel_rfl))
 f190:=Tryz.func161.trans (congrArg some (by kernel_rfl))
 f258:=Tryz.func186.trans (congrArg some (by kernel_rfl))
 f302:=Tryz.func198.trans (congrArg some (by kernel_rfl))
 f303:=Tryz.func199.trans (congrArg some (by kernel_rfl))
 f304:=Tryz.func200.trans (congrArg some (by kernel_rfl))
 f305:=Tryz.func201.trans (congrArg some (by kernel_rfl))
 f306:=Tryz.func202.trans (congrArg some (by kernel_rfl))
 f307:=Tryz.func203.trans (congrArg some (by kernel_rfl))
 f308:=Tryz.func204.trans (congrArg some (by kernel_rfl))
 f309:=Tryz.func205.trans (congrArg some (by kernel_rfl))
 f310:=Tryz.func206.trans (congrArg some (by kernel_rfl))
 f329:=Tryz.func193.trans (congrArg some (by kernel_rfl))
 f330:=Tryz.func194.trans (congrArg some (by kernel_rfl))
 f333:=Tryz.func217.trans (congrArg some (by kernel_rfl))
 f334:=Tryz.func218.trans (congrArg some (by kernel_rfl))
 f335:=Tryz.func219.trans (congrArg some (by kernel_rfl))
 f336:=Tryz.func220.trans (congrArg some (by kernel_rfl))
 f344:=Tryz.func224.trans (congrArg some (by kernel_rfl))
 t0:=Tryz.underlying0
 a0:=Tryz.isAgg0
 z0:=Tryz.sizeOf0
 v0:=Tryz.zeroValue0
 t3:=Tryz.underlying3
 a3:=Tryz.isAgg3
 z3:=Tryz.sizeOf3
 v3:=Tryz.zeroValue3
 t4:=Tryz.underlying4
 a4:=Tryz.isAgg4
 z4:=Tryz.sizeOf4
 v4:=Tryz.zeroValue4
 t5:=Tryz.underlying5
 a5:=Tryz.isAgg5
 z5:=Tryz.sizeOf5
 v5:=Tryz.zeroValue5
 t9:=Tryz.underlying9
 a9:=Tryz.isAgg9
 z9:=Tryz.sizeOf9
 v9:=Tryz.zeroValue9
 t31:=Tryz.underlying165
 a31:=Tryz.isAgg165
 z31:=Tryz.sizeOf165
 v31:=Tryz.zeroValue165
 t46:=Tryz.underlying149
 a46:=Tryz.isAgg149
 z46:=Tryz.sizeOf149
 v46:=Tryz.zeroValue149
 t51:=Tryz.underlying62
 a51:=Tryz.isAgg62
 z51:=Tryz.sizeOf62
 v51:=Tryz.zeroValue62
 t53:=Tryz.underlying251
 a53:=Tryz.isAgg251
 z53:=Tryz.sizeOf251
 v53:=Tryz.zeroValue251
 t131:=Tryz.underlying110
 a131:=Tryz.isAgg110
 z131:=Tryz.sizeOf110
 v131:=Tryz.zeroValue110
 t182:=Tryz.underlying242
 a182:=Tryz.isAgg242
 z182:=Tryz.sizeOf242
 v182:=Tryz.zeroValue242
 t183:=Tryz.underlying243
 a183:=Tryz.isAgg243
 z183:=Tryz.sizeOf243
 v183:=Tryz.zeroValue243
 t218:=Tryz.underlying258
 a218:=Tryz.isAgg258
 z218:=Tryz.sizeOf258
 v218:=Tryz.zeroValue258
 t222:=Tryz.underlying204
 a222:=Tryz.isAgg204
 z222:=Tryz.sizeOf204
 v222:=Tryz.zeroValue204
 t228:=Tryz.underlying274
 a228:=Tryz.isAgg274
 z228:=Tryz.sizeOf274
 v228:=Tryz.zeroValue274
 t229:=Tryz.underlying275
 a229:=Tryz.isAgg275
 z229:=Tryz.sizeOf275
 v229:=Tryz.zeroValue275}
def keysN_ren:Go.Shelf.Ren:=⟨fun | 7=>135 | 10=>162 | n=>n,fun | 23=>70 | 26=>9 | 3=>104 | 28=>190 | 0=>0 | 27=>189 | 33=>83 | 4=>4 | n=>n,fun | n=>n⟩
theorem keysN:Go.Proofs.SlLaysZ.n7 Tryz.prog keysN_ren:={
 mixed:=by kernel_rfl
 f7:=⟨Tryz.f135.name,by decide,Tryz.func135.trans (congrArg some (by kernel_rfl))⟩
 f10:=⟨Tryz.f162.name,by decide,Tryz.func162.trans (congrArg some (by kernel_rfl))⟩
 t0:=Tryz.underlying0
 a0:=Tryz.isAgg0
 z0:=Tryz.sizeOf0
 v0:=Tryz.zeroValue0
 t4:=Tryz.underlying4
 a4:=Tryz.isAgg4
 z4:=Tryz.sizeOf4
 v4:=Tryz.zeroValue4
 t23:=Tryz.underlying70
 a23:=Tryz.isAgg70
 z23:=Tryz.sizeOf70
 v23:=Tryz.zeroValue70
 t26:=Tryz.underlying9
 a26:=Tryz.isAgg9
 z26:=Tryz.sizeOf9
 v26:=Tryz.zeroValue9
 t27:=Tryz.underlying189
 a27:=Tryz.isAgg189
 z27:=Tryz.sizeOf189
 v27:=Tryz.zeroValue189
 t28:=Tryz.underlying190
 a28:=Tryz.isAgg190
 z28:=Tryz.sizeOf190
 v28:=Tryz.zeroValue190
 t33:=Tryz.underlying83
 a33:=Tryz.isAgg83
 z33:=Tryz.sizeOf83
 v33:=Tryz.zeroValue83}
def sortedN_ren:Go.Shelf.Ren:=⟨fun | 6=>134 | 8=>160 | 9=>161 | 11=>185 | 13=>159 | 12=>186 | 23=>183 | 24=>184 | 14=>198 | 15=>199 | 16=>200 | 17=>201 | 18=>202 | 19=>203 | 20=>204 | 21=>205 | 22=>206 | 25=>217 | 26=>193 | 27=>194 | 28=>218 | 29=>219 | 30=>220 | 31=>224 | n=>n,fun | 26=>9 | 28=>190 | 24=>165 | 0=>0 | 3=>3 | 37=>149 | 48=>62 | 50=>251 | 4=>4 | 40=>243 | 39=>242 | 45=>110 | 5=>5 | 9=>9 | 51=>258 | 55=>204 | 57=>274 | 58=>275 | 33=>83 | n=>n,fun | n=>n⟩
theorem sortedN:Go.Proofs.SlLaysZ.n6 Tryz.prog sortedN_ren:={
 mixed:=by kernel_rfl
 f6:=⟨Tryz.f134.name,by decide,Tryz.func134.trans (congrArg some (by kernel_rfl))⟩
 f8:=⟨Tryz.f160.name,by decide,Tryz.func160.trans (congrArg some (by kernel_rfl))⟩
 f11:=⟨Tryz.f185.name,by decide,Tryz.func185.trans (congrArg some (by kernel_rfl))⟩
 t0:=Tryz.underlying0
 a0:=Tryz.isAgg0
 z0:=Tryz.sizeOf0
 v0:=Tryz.zeroValue0
 t24:=Tryz.underlying165
 a24:=Tryz.isAgg165
 z24:=Tryz.sizeOf165
 v24:=Tryz.zeroValue165
 t26:=Tryz.underlying9
 a26:=Tryz.isAgg9
 z26:=Tryz.sizeOf9
 v26:=Tryz.zeroValue9
 t28:=Tryz.underlying190
 a28:=Tryz.isAgg190
 z28:=Tryz.sizeOf190
 v28:=Tryz.zeroValue190
 i26:=by kernel_rfl}
end Go.Proofs.YtcieieacfoaklaaGreat.Sh
end
section
namespace Go.Proofs.YtcieieacfoaklaaGreat.Sh
variable {α:Type}
def ins (le:α→α→Bool) (x:α):List α→List α
 | []=>[x]
 | y::l=>if le x y then x::y::l else y::ins le x l
def isort (le:α→α→Bool):List α→List α
 | []=>[]
 | x::l=>ins le x (isort le l)
theorem ins_perm (le:α→α→Bool) (x:α):∀l,(ins le x l).Perm (x::l)
 | []=>.refl _
 | y::l=>by
  unfold ins
  split
  ·exact .refl _
  ·exact(List.Perm.cons y (ins_perm le x l)).trans (List.Perm.swap x y l)
theorem isort_perm (le:α→α→Bool):∀l,(isort le l).Perm l
 | []=>.refl _
 | x::l=>(ins_perm le x _).trans (List.Perm.cons x (isort_perm le l))
theorem ins_pairwise {le:α→α→Bool} (ht:∀a b c,le a b=true→le b c=true→le a c=true) (hto:∀a b,(le a b || le b a)=true) (x:α):∀l,l.Pairwise (fun a b=>le a b=true)→(ins le x l).Pairwise (fun a b=>le a b=true)
 | [],_=>List.pairwise_singleton _ _
 | y::l,h=>by
  unfold ins
  split
  ·rename_i hxy
   refine List.pairwise_cons.2 ⟨fun z hz=>?_,h⟩
   rcases List.mem_cons.1 hz with rfl | hz
   ·exact hxy
   ·exact ht _ _ _ hxy ((List.pairwise_cons.1 h).1 z hz)
  ·rename_i hxy
   refine List.pairwise_cons.2 ⟨fun z hz=>?_,ins_pairwise ht hto x l (List.pairwise_cons.1 h).2⟩
   rcases List.mem_cons.1 ((ins_perm le x l).mem_iff.1 hz) with rfl | hz
   ·have:=hto z y
    rw[Bool.eq_false_iff.2 hxy,Bool.false_or] at this
    exact this
   ·exact(List.pairwise_cons.1 h).1 z hz
theorem isort_pairwise {le:α→α→Bool} (ht:∀a b c,le a b=true→le b c=true→le a c=true) (hto:∀a b,(le a b || le b a)=true):∀l,(isort le l).Pairwise (fun a b=>le a b=true)
 | []=>List.Pairwise.nil
 | x::l=>ins_pairwise ht hto x _ (isort_pairwise ht hto l)
theorem isort_eq {le:α→α→Bool} (ht:∀a b c,le a b=true→le b c=true→le a c=true) (hto:∀a b,(le a b || le b a)=true) (ha:∀a b,le a b=true→le b a=true→a=b) (l:List α):isort le l=l.mergeSort le:=
 ((isort_perm le l).trans (List.mergeSort_perm l le).symm).eq_of_pairwise (fun a b _ _ h1 h2=>ha a b h1 h2) (isort_pairwise ht hto l) (List.pairwise_mergeSort ht hto l)
end Go.Proofs.YtcieieacfoaklaaGreat.Sh
end
namespace Go.Proofs.YtcieieacfoaklaaGreat
open Go.RowKit YtcieieacfoaklaaGreatW.PrintWords YtcieieacfoaklaaGreatW.PrintLast YtcieieacfoaklaaGreatW.PrintMore
section
namespace Dk
open Go.Shelf Go.Maps Go.Sort Fr Ext Pt

variable {w w':World} {B g nb kb N:Nat} {pv:Value} {bl:List Nat} {vs:List Value} {M:DiskM}
theorem sortsN (m:Nat):AnyZ.SortsIn Tryz.prog Sh.sortedN_ren Fence.wide m:=
  ⟨fun blk off cap ss W hH hblk hsz=>callsIn_wide.2 (Any.slices_Sort_string Sh.sortS blk off cap ss W hH hblk hsz),
   fun p cap W=>callsIn_wide.2 (Any.slices_Sort_string_none Sh.sortS p cap W)⟩
def listM (M:DiskM):List (List UInt8):=Sh.isort (fun x y=>decide (x≤y)) (strKeys M.D)
theorem leB_trans:∀(a b c:List UInt8),decide (a≤b)=true→decide (b≤c)=true→decide (a≤c)=true:=fun a b c h1 h2=>decide_eq_true (List.le_trans (of_decide_eq_true h1) (of_decide_eq_true h2))
theorem leB_total:∀(a b:List UInt8),(decide (a≤b) || decide (b≤a))=true:=fun a b=>by
  rcases List.le_total a b with h | h
  · simp [h]
  · simp [h]
theorem leB_anti:∀(a b:List UInt8),decide (a≤b)=true→decide (b≤a)=true→a=b:=fun a b h1 h2=>List.le_antisymm (of_decide_eq_true h1) (of_decide_eq_true h2)
theorem sorted_eq {l l':List (List UInt8)} (h:l.Perm l') (s1:l.Pairwise (fun x y=>decide (x≤y)=true)) (s2:l'.Pairwise (fun x y=>decide (x≤y)=true)):l=l':=
  h.eq_of_pairwise (fun a b _ _ h1 h2=>leB_anti a b h1 h2) s1 s2
theorem listM_of {ss:List (List UInt8)} (h:ss.Perm (strKeys M.D)):ss.mergeSort (fun x y=>decide (x≤y))=listM M:=by
  refine sorted_eq (((List.mergeSort_perm ss _).trans h).trans (Sh.isort_perm _ _).symm) ?_ ?_
  · exact List.pairwise_mergeSort leB_trans leB_total _
  · exact Sh.isort_pairwise leB_trans leB_total _
theorem list_calls (w:World) (hd:IsDisk w B g nb kb N pv bl vs M) (hmax:Maps.size M.D≤1000000000):
    Calls Tryz.prog 101 #[.pointer (some ⟨g,0,none⟩)] w fun e w'=>∃v,e=.returned v∧w'.ownsRow w.heap.size 9 1 v (listM M).length ((listM M).map encStr)∧RowKit.Below w.heap.size w w':=by
  have x3:=bq hd.blk 3 (.map (some nb))
  have hown:=hd.names
  have hbl:=hown.lt
  have HD:=ak hd
  clear hd
  refine(callsIn_wide (n:=6)).1 ?_
  have hseq:SeqGives Fence.wide 2 Tryz.prog 162 #[.pointer (some ⟨w.heap.size,0,none⟩)] encStr (fun ss=>ss.Perm (strKeys M.D)) (Maps.size M.D) (w.alloc (.cells #[.map (some nb)] 70)):=
    AnyZ.keys_gives (ρ:=Sh.keysN_ren) {Sh.keysN with} Fence.wide _ trivial rfl (by omega) w.heap.size nb N M.D _ (by simp) (by simp) (by
      obtain⟨es,clock,hb,Ft,hs,hD⟩:=hown
      exact⟨es,clock,(Below.heap_alloc _ _ nb hbl).trans hb,Ft,hs,hD⟩)
  have cK:∀mb W,CallsIn Fence.wide 5 Tryz.prog 135 #[.map mb] W fun e w'=>e=.returned (.func (.func 162) #[] #[.pointer (some ⟨W.heap.size,0,none⟩)])∧w'=W.alloc (.cells #[.map mb] 70):=fun mb W=>AnyZ.keys_in Sh.keysN Fence.wide 5 trivial rfl mb W
  have cS:=AnyZ.sorted_in Sh.sortedN Fence.wide 5 trivial trivial trivial trivial rfl (by omega) (sortsN _) (enters_of Tryz.func161 (by kernel_rfl) rfl) 162 #[.pointer (some ⟨w.heap.size,0,none⟩)] trivial (enters_of Tryz.func162 (by kernel_rfl) rfl) _ _ (by unfold maxLen;omega) (by omega) _ hseq
  change CallsIn _ _ Tryz.prog 134 _ _ _ at cS
  have hfK:Fence.wide.fn 135:=trivial
  have hfS:Fence.wide.fn 134:=trivial
  refine callsIn_of_wp Tryz.func101 rfl trivial ?_ rfl
  simp only[Tryz.ntmps101,List.size_toArray,List.length_cons,List.length_nil,Nat.reduceAdd,Nat.reduceSub,Array.replicate_succ,Array.replicate_zero,List.push_toArray,List.append_toArray,List.nil_append,List.cons_append]
  gi_wp2_with (first
    | (gi_at_call 135;refine(cK _ _).mono ?_;rintro e w' ⟨rfl,rfl⟩)
    | (gi_at_call 134;refine cS.mono ?_;rintro e w' ⟨v,ss,rfl,hS,hrow,hnil,hb⟩))
  go_ret
  rw[listM_of hS] at hrow
  have hl:ss.length=(listM M).length:=by rw[← listM_of hS,List.length_mergeSort]
  rw[hl] at hrow
  exact⟨v,rfl,ownsRow_base_a hrow (by simp),((Below.refl _ w).alloc (Nat.le_refl _) _).trans (hb.mono (by simp))⟩
end Dk
end
end Go.Proofs.YtcieieacfoaklaaGreat

