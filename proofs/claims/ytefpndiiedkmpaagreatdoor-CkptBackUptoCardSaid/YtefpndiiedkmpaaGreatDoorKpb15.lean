/- Merged (what the claim wants of): StoPut, KptSave, KptLawA, KptLawB, KptLawC, OpenS, OpenBulk, OpenSym, OpenLab, OpenSets, KptOpen, DskLaid, KptD, KptProofKF, KptProofK. -/
import Derived.Test.YtefpndiiedkmpaaGreatDoorKpb11
import Derived.Test.YtefpndiiedkmpaaGreatDoorKpb14
import Derived.Test.YtefpndiiedkmpaaGreatDoorRows
import Derived.ProofKit
import Derived.SizedLaws
import Derived.OpenShut
import Derived.ChangeMaps5
import Derived.Test.YtefpndiiedkmpaaGreatDoorKpb01
import Derived.Deep.Slices
import Derived.Test.YtefpndiiedkmpaaGreatDoorKpb03
import Derived.Test.YtefpndiiedkmpaaGreatDoorKpb04
import Derived.Stop.LaidTwo
import Derived.Test.YtefpndiiedkmpaaGreatDoorCards
import Derived.Test.YtefpndiiedkmpaaGreatDoorTie
import Derived.WalkKit
import Derived.Deep.DeepHandedRow
import Derived.Deep.DeepWitnessRowRef
import Derived.Lib.LaidTab
set_option linter.unusedVariables false
set_option linter.unusedSimpArgs false
set_option maxRecDepth 100000
set_option maxHeartbeats 8000000
namespace Go.Proofs.YtefpndiiedkmpaaGreatDoor
section
open Go.RowKit Go.Shelf Go.Sort
open Lib renaming hid → Jh
attribute [local go_sem ↓] Go.wp_at_zero Go.wp_at_succ
attribute [local go_sem] Later.cell
section
variable {B0 M p : Nat} {a : Nat → Addr} {R : Nat → Nat} {d : Ds}
theorem Qcg (bd bf:Nat) (F:ByteArray) (w:World) (hD:Dk B0 M w R p d) (hM:M≤536870912) (hB:B0≤w.heap.size) (hF:Fails B0 a w) (hS:F.size≤1073741824)
  (h1:Blk w bd 37 #[.pointer (some ⟨p,0,none⟩)]) (h2:Blk w bf 9 #[.string F]) :
  Calls Tryz.prog 56 #[.pointer (some ⟨bd,0,none⟩),.pointer (some ⟨bf,0,none⟩)] w (DkOut a B0 (M+1) R p (Kbm d F.data.toList) w):=by
 have m1:=h1.cell 0;have m2:=h2.cell 0;have HC:=Jh (hD.create hM hB hF F hS);clear hD hF h1 h2;go_enter Tryz.func56,Tryz.ntmps56
 go_wp2_with fail
 refine HC.out.mono ?_;rintro e w1 ⟨v,R1,rfl,hk⟩;go_wp2_with fail
 go_ret
 exact ⟨v,R1,rfl,hk⟩
theorem Qch (bd bf bt:Nat) (F T:ByteArray) (w:World) (hD:Dk B0 M w R p d) (hM:M≤536870912) (hB:B0≤w.heap.size) (hF:Fails B0 a w) (hS:F.size≤1073741824) (hT:T.size≤140737488351232)
  (h1:Blk w bd 37 #[.pointer (some ⟨p,0,none⟩)]) (h2:Blk w bf 9 #[.string F]) (h3:Blk w bt 9 #[.string T]) :
  Calls Tryz.prog 58 #[.pointer (some ⟨bd,0,none⟩),.pointer (some ⟨bf,0,none⟩),.pointer (some ⟨bt,0,none⟩)] w (DkOut a B0 (M+T.size+1) R p (Kbx d F.data.toList T.data.toList) w):=by
 have m1:=h1.cell 0;have m2:=h2.cell 0;have m3:=h3.cell 0;have hb:Below w.heap.size w (w.alloc (.cells #[.string T] 9)):=(Below.refl _ _).alloc (Nat.le_refl _) _;have HC:=Jh ((hD.below hb).append hM (by have:=hb.size;omega) (hF.below (hb.mono hB)) F hS _ _ (Kww (Blk.new w 9 #[.string T])) hT);have HB:=Jh hb;clear hD hF h1 h2 h3 hb;go_enter Tryz.func58,Tryz.ntmps58
 go_wp2_with fail
 refine HC.out.mono ?_;rintro e w1 ⟨v,R1,rfl,hk1,hk2,hk3⟩;go_wp2_with fail
 go_ret
 exact ⟨v,R1,rfl,hk1,hk2,(Out.of_below HB.out).trans hk3⟩
theorem Qci (bd bf:Nat) (F:ByteArray) (w:World) (hD:Dk B0 M w R p d) (hM:M≤536870912) (hB:B0≤w.heap.size) (hF:Fails B0 a w) (hS:F.size≤1073741824)
  (h1:Blk w bd 37 #[.pointer (some ⟨p,0,none⟩)]) (h2:Blk w bf 9 #[.string F]) :
  Calls Tryz.prog 60 #[.pointer (some ⟨bd,0,none⟩),.pointer (some ⟨bf,0,none⟩)] w (DkOut a B0 (M+1) R p (syncD d F.data.toList) w):=by
 have m1:=h1.cell 0;have m2:=h2.cell 0;have HC:=Jh (hD.sync hM hB hF F hS);clear hD hF h1 h2;go_enter Tryz.func60,Tryz.ntmps60
 go_wp2_with fail
 refine HC.out.mono ?_;rintro e w1 ⟨v,R1,rfl,hk⟩;go_wp2_with fail
 go_ret
 exact ⟨v,R1,rfl,hk⟩
theorem Qcj (bd bf bp:Nat) (F P:ByteArray) (w:World) (hD:Dk B0 M w R p d) (hM:M≤536870912) (hB:B0≤w.heap.size) (hF:Fails B0 a w) (hS:F.size≤1073741824) (hP:P.size≤1073741824)
  (h1:Blk w bd 37 #[.pointer (some ⟨p,0,none⟩)]) (h2:Blk w bf 9 #[.string F]) (h3:Blk w bp 9 #[.string P]) :
  Calls Tryz.prog 62 #[.pointer (some ⟨bd,0,none⟩),.pointer (some ⟨bf,0,none⟩),.pointer (some ⟨bp,0,none⟩)] w (DkOut a B0 (M+1) R p (Kal d F.data.toList P.data.toList) w):=by
 have m1:=h1.cell 0;have m2:=h2.cell 0;have m3:=h3.cell 0;have HC:=Jh (hD.rename hM hB hF F P hS hP);clear hD hF h1 h2 h3;go_enter Tryz.func62,Tryz.ntmps62
 go_wp2_with fail
 refine HC.out.mono ?_;rintro e w1 ⟨v,R1,rfl,hk⟩;go_wp2_with fail
 go_ret
 exact ⟨v,R1,rfl,hk⟩
structure Env5 (B0:Nat) (a:Nat→Addr) (w:World):Prop where
 f:Fails B0 a w
 s:Sents B0 a w
theorem Env5.below {w w':World} (h:Env5 B0 a w) (hb:Below B0 w w'):Env5 B0 a w':=⟨h.f.below hb,h.s.below hb⟩
theorem Env5.out {R R':Nat→Nat} {w w':World} {M':Nat} (h:Env5 B0 a w) (ho:Out R R' w w') (hB:B0≤w.heap.size) (hD:Dk B0 M' w R p d):Env5 B0 a w':=h.below (ho.below hB hD.low)
theorem Qbs {w:World} {k:Nat} {v:Value} (hv:ErrW a w R k v) (hk:k≤7) (hs:Sents B0 a w) (ha:Apart a) :
  Calls Tryz.prog 55 #[v,.iface 360 (.pointer (some (a 4)))] w fun e w'=>e = .returned (.bool (decide (k=4)))∧w=w':=by
 cases k with
 | zero=>
  obtain rfl:v = .nilIface:=hv;exact Kvj 4 w
 | succ k=>
  obtain ⟨q,op,path,rfl,h1,h2⟩:=hv;exact Qev q (k+1) 4 op path w h1 hs ha (by omega) hk (by omega) (by omega)
theorem Kgl {F:Txt} {f:Ds→Nat×Ds} {l:List (Ds→Nat×Ds)} {r:Nat×Ds} (h:r.1≠0):putL F (f :: l) r=(r.1,(Kaw r.2 F).2):=by rw[putL,if_neg h]
theorem Kiw {F:Txt} {f:Ds→Nat×Ds} {l:List (Ds→Nat×Ds)} {r:Nat×Ds} (h:r.1=0):putL F (f :: l) r=putL F l (f r.2):=by rw[putL,if_pos h]
structure PutB (b p:Nat) (P T F:ByteArray) (w:World) (R:Nat→Nat):Prop where
 bd:Blk w b 37 #[.pointer (some ⟨p,0,none⟩)]
 bp:Blk w (b+1) 9 #[.string P]
 bt:Blk w (b+2) 9 #[.string T]
 bf:Blk w (b+3) 9 #[.string F]
 rd:R b=0
 rp:R (b+1)=0
 rt:R (b+2)=0
 rf:R (b+3)=0
theorem PutB.out {b:Nat} {P T F:ByteArray} {w w':World} {R R':Nat→Nat} (h:PutB b p P T F w R) (ho:Out R R' w w'):PutB b p P T F w' R':=
 ⟨ho.blk h.bd h.rd,ho.blk h.bp h.rp,ho.blk h.bt h.rt,ho.blk h.bf h.rf,ho.old _ h.bd.lt h.rd,ho.old _ h.bp.lt h.rp,ho.old _ h.bt.lt h.rt,ho.old _ h.bf.lt h.rf⟩
def putF (b p i:Nat):Value:=
 #[.func (.func 56) #[] #[.pointer (some ⟨b,0,none⟩),.pointer (some ⟨b+3,0,none⟩)],.func (.func 58) #[] #[.pointer (some ⟨b,0,none⟩),.pointer (some ⟨b+3,0,none⟩),.pointer (some ⟨b+2,0,none⟩)],
  .func (.func 60) #[] #[.pointer (some ⟨b,0,none⟩),.pointer (some ⟨b+3,0,none⟩)],.func (.func 62) #[] #[.pointer (some ⟨b,0,none⟩),.pointer (some ⟨b+3,0,none⟩),.pointer (some ⟨b+1,0,none⟩)],
  .func (.func 64) #[.pointer (some ⟨p,0,none⟩)] #[]].getD i undef
def putRow (b p:Nat):Array Value:=#[putF b p 0,putF b p 1,putF b p 2,putF b p 3,putF b p 4]
def Keq (F P T:Txt):List (Ds→Nat×Ds):=[(Kbm · F),(Kbx · F T),(syncD · F),(Kal · F P),Kbh]
def putM (M t i:Nat):Nat:=M+1+i+(if i < 2 then 0 else t)
structure PutI (B0 M p:Nat) (a:Nat→Addr) (R:Nat→Nat) (w:World) (b g:Nat) (P T F:ByteArray) (res:Nat×Ds) (i:Nat) (v:Value) (R':Nat→Nat) (r:Nat×Ds) (wr:World):Prop where
 blks:PutB b p P T F wr R'
 row:Blk wr g 141 (putRow b p)
 rr:R' g=0
 err:ErrW a wr R' r.1 v
 dk:Dk B0 (putM M T.size i) wr R' p r.2
 out:Out R R' w wr
 env:Env5 B0 a wr
 left:putL F.data.toList ((Keq F.data.toList P.data.toList T.data.toList).drop i) r=res
theorem Kth (P T:ByteArray) (w:World) (hD:Dk B0 M w R p d) (hM:M+T.size+8≤536870912) (hB:B0≤w.heap.size) (hE:Env5 B0 a w) (hA:Apart a) (hP:P.size≤1000000000) :
  Calls Tryz.prog 20 #[.pointer (some ⟨p,0,none⟩),.string P,.string T] w (DkOut a B0 (M+T.size+7) R p (putD d P.data.toList T.data.toList) w):=by
 obtain ⟨b,hb⟩:∃b,w.heap.size=b:=⟨_,rfl⟩;have HB:=Jh hb;obtain ⟨F,hF⟩:∃F:ByteArray,P++(⟨#[46,110,101,119]⟩:ByteArray)=F:=⟨_,rfl⟩;have hFd:F.data.toList=P.data.toList++Kdj:=by rw[←hF];simp[Kdj]
 have hFs:F.size≤1073741824:=by rw[←hF,ByteArray.size_append];show P.size+4≤_;omega
 obtain ⟨W,hW⟩:∃W,(((w.alloc (.cells #[.pointer (some ⟨p,0,none⟩)] 37)).alloc (.cells #[.string P] 9)).alloc (.cells #[.string T] 9)).alloc (.cells #[.string F] 9)=W:=⟨_,rfl⟩;have hbl:Below w.heap.size w W:=by rw[←hW];exact ((((Below.refl _ _).alloc (Nat.le_refl _) _).alloc (by simp) _).alloc (by simp;omega) _).alloc (by simp;omega) _
 have HPB:Hid (PutB b p P T F W R):=Jh (by
  rw[←hW,←hb]
  exact ⟨(((Blk.new _ _ _).alloc _).alloc _).alloc _,((Blk.newAt (by simp)).alloc _).alloc _,(Blk.newAt (by simp)).alloc _,Blk.newAt (by simp),hD.new (by omega),hD.new (by omega),hD.new (by omega),hD.new (by omega)⟩)
 have HD:=Jh (hD.below hbl);have HE:=Jh (hE.below (hbl.mono hB));have HO:Hid (Out R R w W):=Jh (Out.of_below hbl);have HBW:Hid (B0≤W.heap.size):=Jh (Nat.le_trans hB hbl.size);have HA:=Jh hA;have HB0:=Jh hB;have HW:=Jh hW;have HFD:=Jh hFd;clear hD hE hA hbl hb hW hFd hB;go_enter Tryz.func20,Tryz.ntmps20
 go_upto_region 2 with fail
 have hW2:(((w.alloc (.cells #[.pointer (some ⟨p,0,none⟩)] 37)).alloc (.cells #[.string P] 9)).alloc (.cells #[.string T] 9)).alloc (.cells #[.string F] 9)=W:=HW.out;have hb2:w.heap.size=b:=HB.out;rw[hW2,hb2];clear hW2 hb2;have x0:W.cell? ⟨b,0,none⟩=some (.pointer (some ⟨p,0,none⟩)):=HPB.out.bd.cell 0;have x3:W.cell? ⟨b+3,0,none⟩=some (.string F):=HPB.out.bf.cell 0;go_wp2_with fail
 refine (HD.out.remove (by omega) HBW.out HE.out.f F hFs).mono ?_;rintro e w1 ⟨v1,R1,rfl,hv1,hd1,ho1⟩;have HB1:=Jh (HPB.out.out ho1);have HO1:=Jh (HO.out.trans ho1);have HE1:=Jh (HE.out.out ho1 HBW.out HD.out);have HW1:Hid (B0≤w1.heap.size):=Jh (Nat.le_trans HBW.out ho1.size);have HK:=Jh (Qcn d F.data.toList);have HG:Hid (goneD d F.data.toList=(if (Kaw d F.data.toList).1=4 then 0 else (Kaw d F.data.toList).1,(Kaw d F.data.toList).2)):=Jh rfl;obtain ⟨r1,hr1⟩:∃r,Kaw d F.data.toList=r:=⟨_,rfl⟩;rw[hr1] at hv1 hd1 HK HG;have HV1:=Jh hv1;have HD1:=Jh hd1;have m4:w1.cell? ⟨2,0,none⟩=some (.iface 360 (.pointer (some (a 4)))):=(HE1.out.f 4 (by decide)).2;clear hr1 hv1 hd1 ho1 x0 x3;go_upto_if 18 with (go_at_call 55;refine (Qbs HV1.out HK.out HE1.out.s HA.out).mono ?_;rintro e w2 ⟨rfl,rfl⟩)
 go_cut [8] (fun s8 wz=>∃v2:Value,v2=s8∧wz=w1∧ErrW a w1 R1 (if r1.1=4 then 0 else r1.1) v2)
 case first=>
  by_cases h4:r1.1=4
  ·have d4:decide (r1.1=4)=true:=decide_eq_true h4;go_wp2_with fail
   go_meet
   refine ⟨_,rfl,rfl,?_⟩;rw[if_pos h4];rfl
  ·have d4:decide (r1.1=4)=false:=decide_eq_false h4;go_wp2_with fail
   go_meet
   refine ⟨_,rfl,rfl,?_⟩;rw[if_neg h4];exact HV1.out
 case rest=>
  obtain ⟨v2,rfl,rfl,hv2⟩:=hcut;obtain ⟨r2,hr2⟩:∃r:Nat×Ds,((if r1.1=4 then 0 else r1.1,r1.2):Nat×Ds)=r:=⟨_,rfl⟩;have hv3:ErrW a wc R1 r2.1 v2:=by rw[←hr2];exact hv2
  have hd3:Dk B0 (M+1) wc R1 p r2.2:=by rw[←hr2];exact HD1.out
  obtain ⟨res,hres⟩:∃r,putD d P.data.toList T.data.toList=r:=⟨_,rfl⟩
  have hl3:putL F.data.toList (Keq F.data.toList P.data.toList T.data.toList) r2=res:=by
   rw[←hres,←hr2,←HG.out];unfold putD Keq;rw[←HFD.out]
  have HRES:=Jh hres;have HL3:=Jh hl3;have HV3:=Jh hv3;have HD3:=Jh hd3;clear hr2 hv2 hv3 hd3 hl3 hres m4;obtain ⟨w1,rfl⟩:∃x,x=wc:=⟨_,rfl⟩;have x0:w1.cell? ⟨b,0,none⟩=some (.pointer (some ⟨p,0,none⟩)):=HB1.out.bd.cell 0;go_upto_region 6 with fail
  obtain ⟨g,hg⟩:∃g,w1.heap.size=g:=⟨_,rfl⟩;obtain ⟨w2,hw2⟩:∃x,w1.alloc (.cells (putRow b p) 141)=x:=⟨_,rfl⟩;have hb2:Below w1.heap.size w1 w2:=by rw[←hw2];exact (Below.refl _ _).alloc (Nat.le_refl _) _
  have HI:Hid (PutI B0 M p a R w b g P T F res 0 v2 R1 r2 w2):=Jh (by
   have ho:=Out.of_below (R:=R1) hb2;refine ⟨HB1.out.out ho,?_,?_,HV3.out.out ho,?_,HO1.out.trans ho,HE1.out.below (hb2.mono HW1.out),HL3.out⟩
   ·rw[←hw2,←hg];exact Blk.new _ _ _
   ·rw[←hg];exact HD3.out.new (Nat.le_refl _)
   ·exact (HD3.out.below hb2))
  have HBG:Hid (B0≤w2.heap.size):=Jh (Nat.le_trans HW1.out hb2.size)
  have hrow:(Obj.cells #[.func (.func 56) #[] #[.pointer (some ⟨b,0,none⟩),.pointer (some ⟨b+1+1+1,0,none⟩)],.func (.func 58) #[] #[.pointer (some ⟨b,0,none⟩),.pointer (some ⟨b+1+1+1,0,none⟩),.pointer (some ⟨b+1+1,0,none⟩)],
   .func (.func 60) #[] #[.pointer (some ⟨b,0,none⟩),.pointer (some ⟨b+1+1+1,0,none⟩)],.func (.func 62) #[] #[.pointer (some ⟨b,0,none⟩),.pointer (some ⟨b+1+1+1,0,none⟩),.pointer (some ⟨b+1,0,none⟩)],
   .func (.func 64) #[.pointer (some ⟨p,0,none⟩)] #[]] 141 : Obj) = .cells (putRow b p) 141:=rfl
  rw[hrow,hw2,hg];clear hrow hw2 hg hb2 x0;go_loopg [8,27] 5 (fun gh s8 s27 wr=>∃(i:Nat) (R':Nat→Nat) (r:Nat×Ds) (v:Value),i+gh=5∧v=s8∧s27 = .int .i64 (i:Int)∧PutI B0 M p a R w b g P T F res i v R' r wr)
  case atStart=>exact ⟨0,R1,r2,_,rfl,rfl,rfl,HI.out⟩
  case round=>
   obtain ⟨i,R',r,v,hig,rfl,rfl,hi⟩:=hrel
   by_cases h5:i < 5
   ·have el:decide ((i:Int) < 5)=true:=by simp;omega
    rcases (by omega:i=0∨i=1∨i=2∨i=3∨i=4) with rfl | rfl | rfl | rfl | rfl
    ·
     have hBr:B0≤wr.heap.size:=Nat.le_trans HB0.out hi.out.size;have m0:wr.cell? ⟨g,0,none⟩=some (putF b p 0):=hi.row.cell 0;have HC:=Jh (Qcg b (b+3) F wr hi.dk (by show M+1+0+0≤_;omega) hBr hi.env.f hFs hi.blks.bd hi.blks.bf);have HX:=Jh (hi.dk.remove (a:=a) (by show M+1+0+0≤_;omega) hBr hi.env.f F hFs);have x0:wr.cell? ⟨b,0,none⟩=some (.pointer (some ⟨p,0,none⟩)):=hi.blks.bd.cell 0;have x3:wr.cell? ⟨b+3,0,none⟩=some (.string F):=hi.blks.bf.cell 0;have HI2:=Jh hi;have HBR:=Jh hBr;unfold putF at m0;simp at m0;clear hi hBr;rcases Nat.eq_zero_or_pos r.1 with hz | hz
     ·obtain rfl:=HI2.out.err.nil hz;have HZ:=Jh hz;clear hz;go_wp2_with fail
      refine HC.out.mono ?_;rintro e w3 ⟨v3,R3,rfl,hv3,hd3,ho3⟩
      have HI3:Hid (PutI B0 M p a R w b g P T F res 1 v3 R3 (Kbm r.2 F.data.toList) w3):=Jh
       ⟨HI2.out.blks.out ho3,ho3.blk HI2.out.row HI2.out.rr,ho3.old _ HI2.out.row.lt HI2.out.rr,hv3,hd3.more (by show _≤M+1+1+0;show M+1+0+0+1≤_;omega),HI2.out.out.trans ho3,HI2.out.env.out ho3 HBR.out HI2.out.dk,by
        rw[←HI2.out.left]
        exact (Kiw (f:=(Kbm · F.data.toList)) (l:=(Keq F.data.toList P.data.toList T.data.toList).drop 1) HZ.out).symm⟩
      clear hv3 hd3 ho3 m0 x0 x3;go_wp2_with fail
      go_roundg (gk - 1)
      case measure=>omega
      case rel=>exact ⟨1,R3,_,_,by omega,rfl,by go_num,HI3.out⟩
     ·obtain ⟨q,op,path,rfl,hq1,hq2⟩:=HI2.out.err.some_ (by omega);have HZ:=Jh hz;clear hz hq1 hq2;go_wp2_with fail
      refine HX.out.mono ?_;rintro e w3 ⟨v3,R3,rfl,hv3,hd3,ho3⟩;have HO3:=Jh ho3;have HD3:=Jh hd3;clear hv3 hd3 ho3 m0 x0 x3;go_wp2_with fail
      go_ret
      have hres:res=(r.1,(Kaw r.2 F.data.toList).2):=by
       rw[←HI2.out.left];exact Kgl (by have:=HZ.out;omega)
      rw[HRES.out,hres];exact ⟨_,R3,rfl,HI2.out.err.out HO3.out,HD3.out.more (by show M+1+0+0+1≤_;omega),HI2.out.out.trans HO3.out⟩
    ·
     have hBr:B0≤wr.heap.size:=Nat.le_trans HB0.out hi.out.size;have m0:wr.cell? ⟨g,1,none⟩=some (putF b p 1):=hi.row.cell 1;have HC:=Jh (Qch b (b+3) (b+2) F T wr hi.dk (by show M+1+1+0≤_;omega) hBr hi.env.f hFs (by omega) hi.blks.bd hi.blks.bf hi.blks.bt);have HX:=Jh (hi.dk.remove (a:=a) (by show M+1+1+0≤_;omega) hBr hi.env.f F hFs);have x0:wr.cell? ⟨b,0,none⟩=some (.pointer (some ⟨p,0,none⟩)):=hi.blks.bd.cell 0;have x3:wr.cell? ⟨b+3,0,none⟩=some (.string F):=hi.blks.bf.cell 0;have HI2:=Jh hi;have HBR:=Jh hBr;unfold putF at m0;simp at m0;clear hi hBr;rcases Nat.eq_zero_or_pos r.1 with hz | hz
     ·obtain rfl:=HI2.out.err.nil hz;have HZ:=Jh hz;clear hz;go_wp2_with fail
      refine HC.out.mono ?_;rintro e w3 ⟨v3,R3,rfl,hv3,hd3,ho3⟩
      have HI3:Hid (PutI B0 M p a R w b g P T F res 2 v3 R3 (Kbx r.2 F.data.toList T.data.toList) w3):=Jh
       ⟨HI2.out.blks.out ho3,ho3.blk HI2.out.row HI2.out.rr,ho3.old _ HI2.out.row.lt HI2.out.rr,hv3,hd3.more (by show _≤M+1+2+T.size;show M+1+1+0+T.size+1≤_;omega),HI2.out.out.trans ho3,HI2.out.env.out ho3 HBR.out HI2.out.dk,by
        rw[←HI2.out.left]
        exact (Kiw (f:=(Kbx · F.data.toList T.data.toList)) (l:=(Keq F.data.toList P.data.toList T.data.toList).drop 2) HZ.out).symm⟩
      clear hv3 hd3 ho3 m0 x0 x3;go_wp2_with fail
      go_roundg (gk - 1)
      case measure=>omega
      case rel=>exact ⟨2,R3,_,_,by omega,rfl,by go_num,HI3.out⟩
     ·obtain ⟨q,op,path,rfl,hq1,hq2⟩:=HI2.out.err.some_ (by omega);have HZ:=Jh hz;clear hz hq1 hq2;go_wp2_with fail
      refine HX.out.mono ?_;rintro e w3 ⟨v3,R3,rfl,hv3,hd3,ho3⟩;have HO3:=Jh ho3;have HD3:=Jh hd3;clear hv3 hd3 ho3 m0 x0 x3;go_wp2_with fail
      go_ret
      have hres:res=(r.1,(Kaw r.2 F.data.toList).2):=by
       rw[←HI2.out.left];exact Kgl (by have:=HZ.out;omega)
      rw[HRES.out,hres];exact ⟨_,R3,rfl,HI2.out.err.out HO3.out,HD3.out.more (by show M+1+1+0+1≤_;omega),HI2.out.out.trans HO3.out⟩
    ·
     have hBr:B0≤wr.heap.size:=Nat.le_trans HB0.out hi.out.size;have m0:wr.cell? ⟨g,2,none⟩=some (putF b p 2):=hi.row.cell 2;have HC:=Jh (Qci b (b+3) F wr hi.dk (by show M+1+2+T.size≤_;omega) hBr hi.env.f hFs hi.blks.bd hi.blks.bf);have HX:=Jh (hi.dk.remove (a:=a) (by show M+1+2+T.size≤_;omega) hBr hi.env.f F hFs);have x0:wr.cell? ⟨b,0,none⟩=some (.pointer (some ⟨p,0,none⟩)):=hi.blks.bd.cell 0;have x3:wr.cell? ⟨b+3,0,none⟩=some (.string F):=hi.blks.bf.cell 0;have HI2:=Jh hi;have HBR:=Jh hBr;unfold putF at m0;simp at m0;clear hi hBr;rcases Nat.eq_zero_or_pos r.1 with hz | hz
     ·obtain rfl:=HI2.out.err.nil hz;have HZ:=Jh hz;clear hz;go_wp2_with fail
      refine HC.out.mono ?_;rintro e w3 ⟨v3,R3,rfl,hv3,hd3,ho3⟩
      have HI3:Hid (PutI B0 M p a R w b g P T F res 3 v3 R3 (syncD r.2 F.data.toList) w3):=Jh
       ⟨HI2.out.blks.out ho3,ho3.blk HI2.out.row HI2.out.rr,ho3.old _ HI2.out.row.lt HI2.out.rr,hv3,hd3.more (by show _≤M+1+3+T.size;show M+1+2+T.size+1≤_;omega),HI2.out.out.trans ho3,HI2.out.env.out ho3 HBR.out HI2.out.dk,by
        rw[←HI2.out.left]
        exact (Kiw (f:=(syncD · F.data.toList)) (l:=(Keq F.data.toList P.data.toList T.data.toList).drop 3) HZ.out).symm⟩
      clear hv3 hd3 ho3 m0 x0 x3;go_wp2_with fail
      go_roundg (gk - 1)
      case measure=>omega
      case rel=>exact ⟨3,R3,_,_,by omega,rfl,by go_num,HI3.out⟩
     ·obtain ⟨q,op,path,rfl,hq1,hq2⟩:=HI2.out.err.some_ (by omega);have HZ:=Jh hz;clear hz hq1 hq2;go_wp2_with fail
      refine HX.out.mono ?_;rintro e w3 ⟨v3,R3,rfl,hv3,hd3,ho3⟩;have HO3:=Jh ho3;have HD3:=Jh hd3;clear hv3 hd3 ho3 m0 x0 x3;go_wp2_with fail
      go_ret
      have hres:res=(r.1,(Kaw r.2 F.data.toList).2):=by
       rw[←HI2.out.left];exact Kgl (by have:=HZ.out;omega)
      rw[HRES.out,hres];exact ⟨_,R3,rfl,HI2.out.err.out HO3.out,HD3.out.more (by show M+1+2+T.size+1≤_;omega),HI2.out.out.trans HO3.out⟩
    ·
     have hBr:B0≤wr.heap.size:=Nat.le_trans HB0.out hi.out.size;have m0:wr.cell? ⟨g,3,none⟩=some (putF b p 3):=hi.row.cell 3;have HC:=Jh (Qcj b (b+3) (b+1) F P wr hi.dk (by show M+1+3+T.size≤_;omega) hBr hi.env.f hFs (by omega) hi.blks.bd hi.blks.bf hi.blks.bp);have HX:=Jh (hi.dk.remove (a:=a) (by show M+1+3+T.size≤_;omega) hBr hi.env.f F hFs);have x0:wr.cell? ⟨b,0,none⟩=some (.pointer (some ⟨p,0,none⟩)):=hi.blks.bd.cell 0;have x3:wr.cell? ⟨b+3,0,none⟩=some (.string F):=hi.blks.bf.cell 0;have HI2:=Jh hi;have HBR:=Jh hBr;unfold putF at m0;simp at m0;clear hi hBr;rcases Nat.eq_zero_or_pos r.1 with hz | hz
     ·obtain rfl:=HI2.out.err.nil hz;have HZ:=Jh hz;clear hz;go_wp2_with fail
      refine HC.out.mono ?_;rintro e w3 ⟨v3,R3,rfl,hv3,hd3,ho3⟩
      have HI3:Hid (PutI B0 M p a R w b g P T F res 4 v3 R3 (Kal r.2 F.data.toList P.data.toList) w3):=Jh
       ⟨HI2.out.blks.out ho3,ho3.blk HI2.out.row HI2.out.rr,ho3.old _ HI2.out.row.lt HI2.out.rr,hv3,hd3.more (by show _≤M+1+4+T.size;show M+1+3+T.size+1≤_;omega),HI2.out.out.trans ho3,HI2.out.env.out ho3 HBR.out HI2.out.dk,by
        rw[←HI2.out.left]
        exact (Kiw (f:=(Kal · F.data.toList P.data.toList)) (l:=(Keq F.data.toList P.data.toList T.data.toList).drop 4) HZ.out).symm⟩
      clear hv3 hd3 ho3 m0 x0 x3;go_wp2_with fail
      go_roundg (gk - 1)
      case measure=>omega
      case rel=>exact ⟨4,R3,_,_,by omega,rfl,by go_num,HI3.out⟩
     ·obtain ⟨q,op,path,rfl,hq1,hq2⟩:=HI2.out.err.some_ (by omega);have HZ:=Jh hz;clear hz hq1 hq2;go_wp2_with fail
      refine HX.out.mono ?_;rintro e w3 ⟨v3,R3,rfl,hv3,hd3,ho3⟩;have HO3:=Jh ho3;have HD3:=Jh hd3;clear hv3 hd3 ho3 m0 x0 x3;go_wp2_with fail
      go_ret
      have hres:res=(r.1,(Kaw r.2 F.data.toList).2):=by
       rw[←HI2.out.left];exact Kgl (by have:=HZ.out;omega)
      rw[HRES.out,hres];exact ⟨_,R3,rfl,HI2.out.err.out HO3.out,HD3.out.more (by show M+1+3+T.size+1≤_;omega),HI2.out.out.trans HO3.out⟩
    ·
     have hBr:B0≤wr.heap.size:=Nat.le_trans HB0.out hi.out.size;have m0:wr.cell? ⟨g,4,none⟩=some (putF b p 4):=hi.row.cell 4;have HC:=Jh (hi.dk.syncNames (by show M+1+4+T.size≤_;omega) hBr hi.env.f);have HX:=Jh (hi.dk.remove (a:=a) (by show M+1+4+T.size≤_;omega) hBr hi.env.f F hFs);have x0:wr.cell? ⟨b,0,none⟩=some (.pointer (some ⟨p,0,none⟩)):=hi.blks.bd.cell 0;have x3:wr.cell? ⟨b+3,0,none⟩=some (.string F):=hi.blks.bf.cell 0;have HI2:=Jh hi;have HBR:=Jh hBr;unfold putF at m0;simp at m0;clear hi hBr;rcases Nat.eq_zero_or_pos r.1 with hz | hz
     ·obtain rfl:=HI2.out.err.nil hz;have HZ:=Jh hz;clear hz;go_wp2_with fail
      refine HC.out.mono ?_;rintro e w3 ⟨v3,R3,rfl,hv3,hd3,ho3⟩
      have HI3:Hid (PutI B0 M p a R w b g P T F res 5 v3 R3 (Kbh r.2) w3):=Jh
       ⟨HI2.out.blks.out ho3,ho3.blk HI2.out.row HI2.out.rr,ho3.old _ HI2.out.row.lt HI2.out.rr,hv3,hd3.more (by show _≤M+1+5+T.size;show M+1+4+T.size+1≤_;omega),HI2.out.out.trans ho3,HI2.out.env.out ho3 HBR.out HI2.out.dk,by
        rw[←HI2.out.left]
        exact (Kiw (f:=Kbh) (l:=(Keq F.data.toList P.data.toList T.data.toList).drop 5) HZ.out).symm⟩
      clear hv3 hd3 ho3 m0 x0 x3;go_wp2_with fail
      go_roundg (gk - 1)
      case measure=>omega
      case rel=>exact ⟨5,R3,_,_,by omega,rfl,by go_num,HI3.out⟩
     ·obtain ⟨q,op,path,rfl,hq1,hq2⟩:=HI2.out.err.some_ (by omega);have HZ:=Jh hz;clear hz hq1 hq2;go_wp2_with fail
      refine HX.out.mono ?_;rintro e w3 ⟨v3,R3,rfl,hv3,hd3,ho3⟩;have HO3:=Jh ho3;have HD3:=Jh hd3;clear hv3 hd3 ho3 m0 x0 x3;go_wp2_with fail
      go_ret
      have hres:res=(r.1,(Kaw r.2 F.data.toList).2):=by
       rw[←HI2.out.left];exact Kgl (by have:=HZ.out;omega)
      rw[HRES.out,hres];exact ⟨_,R3,rfl,HI2.out.err.out HO3.out,HD3.out.more (by show M+1+4+T.size+1≤_;omega),HI2.out.out.trans HO3.out⟩
   ·have el:decide ((i:Int) < 5)=false:=by simp;omega
    obtain rfl:i=5:=by omega
    have HI2:=Jh hi;clear hi;go_wp2_with fail
    go_ret
    have hres:res=r:=by
     rw[←HI2.out.left];rfl
    rw[HRES.out,hres];exact ⟨_,R',rfl,HI2.out.err,HI2.out.dk.more (by show M+1+5+T.size≤_;omega),HI2.out.out⟩
end
structure QEnv (B0:Nat) (a:Nat→Addr) (w:World):Prop where
 e:Env5 B0 a w
 nib:Kdn w
 db:DbTab w
 hb:B0≤w.heap.size
structure QCon (B0:Nat) (a:Nat→Addr):Prop where
 ap:Apart a
 nib:7 < B0
 db:9 < B0
section
variable {B0 M p : Nat} {a : Nat → Addr} {R R' : Nat → Nat} {d : Ds} {w w' : World}
theorem QEnv.below (h:QEnv B0 a w) (hc:QCon B0 a) (hb:Below B0 w w'):QEnv B0 a w':=
 ⟨h.e.below hb,h.nib.below hc.nib hb,fun j hj=>(hb.cell (p:=⟨_,j,none⟩) hc.db).trans (h.db j hj),Nat.le_trans h.hb hb.size⟩
theorem QEnv.low (h:QEnv B0 a w) (hc:QCon B0 a) (hb:Below w.heap.size w w'):QEnv B0 a w':=h.below hc (hb.mono h.hb)
theorem QEnv.out (h:QEnv B0 a w) (hc:QCon B0 a) (hD:Dk B0 M w R p d) (ho:Out R R' w w'):QEnv B0 a w':=h.below hc (ho.below h.hb hD.low)
theorem Knm (L:List KSer):(encK L).length=(bodyK L).length+4:=by
 unfold encK sealT;rw[List.length_append];rfl
theorem Kyo (L:List KSer) (A:Option Addr) (n c:Nat) (P:ByteArray) (w:World) (hS:KSers w A n L) (hz:∀s∈L,KSz s) (hn:n≤1048576) (hf:fitK L=true) (hsz:(encK L).length≤268435456) (hD:Dk B0 M w R p d) (hM:M+(encK L).length+8≤536870912) (hC:QCon B0 a) (hE:QEnv B0 a w) (hP:P.size≤1000000000) :
  Calls Tryz.prog 17 #[.pointer (some ⟨p,0,none⟩),.string P,.slice A n c] w (DkOut a B0 (M+(encK L).length+7) R p (putD d P.data.toList (encK L)) w):=by
 have hen:=Kgr L A n c w hS hz (by omega) hE.db hE.nib (fun _=>by have:=Knm L;omega);unfold kencF at hen;rw[if_pos hf] at hen;dsimp only at hen;obtain ⟨E1,hE1⟩:∃E:ByteArray,(⟨(encK L).toArray⟩:ByteArray)=E:=⟨_,rfl⟩;rw[hE1] at hen;have hEd:E1.data.toList=encK L:=by rw[←hE1]
 have hEs:E1.size=(encK L).length:=by rw[←hEd];rfl
 have HEN:=Jh hen;have HED:=Jh hEd
 have HP:Hid (∀w1,Below w.heap.size w w1→Calls Tryz.prog 20 #[.pointer (some ⟨p,0,none⟩),.string P,.string E1] w1 (DkOut a B0 (M+(encK L).length+7) R p (putD d P.data.toList (encK L)) w1)):=Jh (fun w1 hb=>by
  have:=Kth P E1 w1 (hD.below hb) (by rw[hEs];exact hM) (hE.low hC hb).hb (hE.low hC hb).e hC.ap hP;rw[hEd,hEs] at this
  exact this)
 clear hen hE1 hEd hEs hS hz hD hM hC hE hsz;go_enter Tryz.func17,Tryz.ntmps17
 go_wp2_with fail
 refine HEN.out.mono ?_;rintro _ w1 ⟨rfl,hb1⟩;have HB1:=Jh hb1;clear hb1;go_wp2_with fail
 refine (HP.out w1 HB1.out).mono ?_;rintro e w2 ⟨v,R2,rfl,hv,hd,ho⟩;have HV:=Jh hv;have HD:=Jh hd;have HO:=Jh ho;clear hv hd ho;go_wp2_with fail
 go_ret
 exact ⟨v,R2,rfl,HV.out,HD.out,(Out.of_below HB1.out).trans HO.out⟩
def Qlj (P:ByteArray) (R':Nat→Nat) (w':World) (r:Except Nat (List KSer)) (e:Ending):Prop:=match r with
 | .ok L=>∃A c,e = .returned (.tuple #[.slice A L.length c,.nilIface])∧KSers w' A L.length L∧(∀s∈L,KSz s)∧L.length≤268435456
 | .error f=>∃q,e = .returned (.tuple #[.slice none 0 0,.iface 45 (.pointer (some ⟨q,0,none⟩))])∧Blk w' q 48 #[.string P,.int .i64 ((f:Nat):Int)]
theorem Kyn (P:ByteArray) (S:Txt) (w:World) (hall:allD d P.data.toList=(S,0)) (hS:S.length≤268435456) (hD:Dk B0 M w R p d) (hM:M≤536870912) (hC:QCon B0 a) (hE:QEnv B0 a w) (hP:P.size≤1000000000) :
  Calls Tryz.prog 19 #[.pointer (some ⟨p,0,none⟩),.string P] w fun e w'=>∃R',Qlj P R' w' (decK S) e∧Dk B0 M w' R' p d∧Out R R' w w':=by
 have hal:=hD.all (a:=a) hM hE.hb hE.e.f P (by omega);rw[hall] at hal;obtain ⟨T,hT⟩:∃T:ByteArray,(⟨S.toArray⟩:ByteArray)=T:=⟨_,rfl⟩;unfold txtV at hal;rw[hT] at hal;have hTd:T.data.toList=S:=by rw[←hT]
 have hTs:T.size≤268435456:=by
  have h1:T.data.toList.length=T.size:=rfl;rw[hTd] at h1;omega
 have HAL:=Jh hal;have HTD:=Jh hTd;have HC:=Jh hC;have HE:=Jh hE;have HD0:=Jh hD
 have hce:∀c:Nat,decK S = .error c→((c:Int) != 0)=true:=fun c h=>by
  have:=Kom h;simp;omega
 have HCE:=Jh hce;clear hal hT hTd hC hE hall hce hD;go_enter Tryz.func19,Tryz.ntmps19
 go_wp2_with fail
 refine HAL.out.mono ?_;rintro e w1 ⟨u,v,R1,rfl,rfl,hv1,hd1,ho1⟩;obtain rfl:v = .nilIface:=hv1.nil rfl;have HE1:=Jh (HE.out.out HC.out HD0.out ho1);have HO1:=Jh ho1;have HD1:=Jh hd1;have hde:=Kgq T w1 hTs HE1.out.nib HE1.out.db;rw[HTD.out] at hde;obtain ⟨r,hr⟩:∃r,decK S=r:=⟨_,rfl⟩;rw[hr] at hde;have HDE:=Jh hde;have HR:=Jh hr;clear hv1 hd1 ho1 hde hr;go_wp2_with fail
 refine HDE.out.mono ?_;rintro e w2 ⟨h2,hb2⟩;have HB2:=Jh hb2;clear hb2
 cases r with
 | ok L=>
  obtain ⟨A,c,rfl,h3,h4,h5⟩:=h2;have H3:=Jh h3;have H4:=Jh h4;clear h3 h4;obtain ⟨ln,hln⟩:∃x,L.length=x:=⟨_,rfl⟩;have HLN:=Jh hln;have H5:=Jh h5;rw[hln];clear hln h5;go_wp2_with fail
  go_ret2
  exact ⟨R1,by rw[HR.out];exact ⟨A,c,by rw[HLN.out];rfl,H3.out,H4.out,H5.out⟩,HD1.out.below HB2.out,HO1.out.trans (Out.of_below HB2.out)⟩
 | error f=>
  obtain rfl:=h2;have hne:=HCE.out f HR.out;go_upto_region 6 with fail
  have hb3:Below w2.heap.size w2 (w2.alloc (.cells #[.string P,.int .i64 (f:Int)] 48)):=(Below.refl _ _).alloc (Nat.le_refl _) _;have hk3:Blk (w2.alloc (.cells #[.string P,.int .i64 (f:Int)] 48)) w2.heap.size 48 #[.string P,.int .i64 (f:Int)]:=Blk.new _ _ _;have HB3:=Jh (HB2.out.trans (hb3.mono HB2.out.size));have HK3:=Jh hk3;clear hb3 hk3;go_wp2_with fail
  go_ret2
  exact ⟨R1,by rw[HR.out];exact ⟨_,rfl,HK3.out⟩,HD1.out.below HB3.out,HO1.out.trans (Out.of_below HB3.out)⟩
end
theorem Kss (La Lb:List KSer) (A B:Option Addr) (n m ca cb:Nat) (w:World) (hA:KSers w A n La) (hB:KSers w B m Lb) (hn:n≤1073741824) (hm:m≤1073741824)
  (hza:∀s∈La,KSz s) (hzb:∀s∈Lb,KSz s) :
  Calls Tryz.prog 14 #[.slice A n ca,.slice B m cb] w fun e w'=>e = .returned (.bool (decide (La=Lb)))∧Below w.heap.size w w':=by
 have HA:=Jh (Kjm La A n ca w hA hza hn);have HB0:=Jh hB;have HB:=Jh (fun w1 (h:KSers w1 B m Lb)=>Kjm Lb B m cb w1 h hzb hm);have HL:=Jh (fun A' B' (c' d':Nat) w2 (h1:KSers w2 A' n La) (h2:KSers w2 B' m Lb)=>Ktk La Lb A' B' n m c' d' w2 h1 h2 (by omega) (by omega) hza hzb);clear hA hB hn hm hza hzb;go_enter Tryz.func14,Tryz.ntmps14
 go_wp2_with fail
 refine HA.out.mono ?_;rintro _ w1 ⟨⟨A',c',rfl,ha⟩,hb1⟩;have HA1:=Jh ha;have HB1:=Jh hb1;clear ha hb1;go_wp2_with fail
 refine (HB.out w1 (HB0.out.below HB1.out)).mono ?_;rintro _ w2 ⟨⟨B',d',rfl,hb⟩,hb2⟩;have HA2:=Jh (HA1.out.below hb2);have HB2:=Jh (HB1.out.trans (hb2.mono HB1.out.size));have HBB:=Jh hb;clear hb hb2;go_wp2_with fail
 refine (HL.out A' B' c' d' w2 HA2.out HBB.out).mono ?_;rintro _ w3 ⟨rfl,hb3⟩;have HB3:=Jh (HB2.out.trans (hb3.mono HB2.out.size));clear hb3;go_wp2_with fail
 go_ret
 exact ⟨rfl,HB3.out⟩
def wakeS:KSer:=⟨[⟨[97],[120]⟩],9,[],[],[],[⟨3,4⟩,⟨9,5⟩]⟩
theorem Kkd:fitK [wakeS]=true:=by decide
theorem Kia:(encK [wakeS]).length≤1000:=by
 have h1:=Knj Kkd;have h2:labsK [wakeS]=1:=rfl;have h3:massK [wakeS]=2:=rfl
 have h4:(encK [wakeS]).length=(bodyK [wakeS]).length+4:=by
  unfold encK sealT;rw[List.length_append];rfl
 simp only[List.length_singleton] at h1;omega
theorem Qlf:KSz wakeS:=⟨by decide,by decide,by decide,by decide,⟨fun x hx=>(nomatch hx),fun x hx=>(nomatch hx),fun x hx=>(nomatch hx)⟩,by decide,by decide⟩
theorem Kxj:∀s∈[wakeS],KSz s:=fun s hs=>by
 rw[List.mem_singleton] at hs;rw[hs];exact Qlf
theorem Qjn:decK (encK [wakeS]) = .ok [wakeS]:=Kzy Kkd (Kvm Kkd Kxj (by decide))
theorem Qlg {w:World} {q:Nat} (h0:Blk w q 106 #[.string ⟨#[97]⟩,.string ⟨#[120]⟩]) (h1:Blk w (q+1) 93 #[.int .i64 3,.int .u64 4,.int .i64 9,.int .u64 5]) :
  KAt w ⟨⟨some ⟨q,0,none⟩,1,1⟩,⟨none,0,0⟩,⟨none,0,0⟩,⟨none,0,0⟩,⟨some ⟨q+1,0,none⟩,2,2⟩⟩ wakeS:=by
 refine ⟨⟨rfl,fun _=>⟨q,0,rfl,h0.lt,fun i x hx j v hv=>?_⟩⟩,Nat.le_refl _,Elems.nil_,Elems.nil_,Elems.nil_,⟨rfl,fun _=>⟨q+1,0,rfl,h1.lt,fun i x hx j v hv=>?_⟩⟩,Nat.le_refl _⟩
 ·match i,hx with
  | 0,hx=>
   injection hx with hx;subst hx
   match j,hv with
   | 0,hv=>injection hv with hv;subst hv;exact h0.cell 0
   | 1,hv=>injection hv with hv;subst hv;exact h0.cell 1
 ·match i,hx with
  | 0,hx=>
   injection hx with hx;subst hx
   match j,hv with
   | 0,hv=>injection hv with hv;subst hv;exact h1.cell 0
   | 1,hv=>injection hv with hv;subst hv;exact h1.cell 1
  | 1,hx=>
   injection hx with hx;subst hx
   match j,hv with
   | 0,hv=>injection hv with hv;subst hv;exact h1.cell 2
   | 1,hv=>injection hv with hv;subst hv;exact h1.cell 3
theorem Qlw {w:World} {q:Nat} {h:KHd} {s:KSer} (hk:KAt w h s) (hq:Blk w q 85 (encKY ⟨h,s.max⟩).toArray):KSers w (some ⟨q,0,none⟩) 1 [s]:=by
 refine ⟨[⟨h,s.max⟩],⟨rfl,fun _=>⟨q,0,rfl,hq.lt,fun i x hx j v hv=>?_⟩⟩,rfl,fun i hi=>?_⟩
 ·match i,hx with
  | 0,hx=>
   injection hx with hx;subst hx
   match j,hv with
   | 0,hv=>injection hv with hv;subst hv;exact hq.cell 0
   | 1,hv=>injection hv with hv;subst hv;exact hq.cell 1
   | 2,hv=>injection hv with hv;subst hv;exact hq.cell 2
   | 3,hv=>injection hv with hv;subst hv;exact hq.cell 3
   | 4,hv=>injection hv with hv;subst hv;exact hq.cell 4
   | 5,hv=>injection hv with hv;subst hv;exact hq.cell 5
 ·obtain rfl:i=0:=by omega
  exact ⟨rfl,hk⟩
theorem Kto (w:World):Calls Tryz.prog 40 #[] w fun e w'=>(∃h:KHd,e = .returned (kserV h 9)∧KAt w' h wakeS)∧Below w.heap.size w w':=by
 go_enter Tryz.func40,Tryz.ntmps40
 go_upto_region 1 with fail
 go_wp2_with fail
 obtain ⟨q,hq⟩:∃q,w.heap.size=q:=⟨_,rfl⟩;have hb1:Below w.heap.size w (((w.alloc (.cells #[.slice (some ⟨w.heap.size+1,0,none⟩) 1 1,.int .i64 9,.slice none 0 0,.slice none 0 0,.slice none 0 0,.slice (some ⟨w.heap.size+1+1,0,none⟩) 2 2] 85)).alloc (.cells #[.string ⟨#[97]⟩,.string ⟨#[120]⟩] 106)).alloc (.cells #[.int .i64 3,.int .u64 4,.int .i64 9,.int .u64 5] 93)):=((((Below.refl _ _).alloc (Nat.le_refl _) _).alloc (by simp) _).alloc (by simp;omega) _);have k0:Blk (((w.alloc (.cells #[.slice (some ⟨w.heap.size+1,0,none⟩) 1 1,.int .i64 9,.slice none 0 0,.slice none 0 0,.slice none 0 0,.slice (some ⟨w.heap.size+1+1,0,none⟩) 2 2] 85)).alloc (.cells #[.string ⟨#[97]⟩,.string ⟨#[120]⟩] 106)).alloc (.cells #[.int .i64 3,.int .u64 4,.int .i64 9,.int .u64 5] 93)) w.heap.size 85 #[.slice (some ⟨w.heap.size+1,0,none⟩) 1 1,.int .i64 9,.slice none 0 0,.slice none 0 0,.slice none 0 0,.slice (some ⟨w.heap.size+1+1,0,none⟩) 2 2]:=((Blk.new _ _ _).alloc _).alloc _;have k1:Blk (((w.alloc (.cells #[.slice (some ⟨w.heap.size+1,0,none⟩) 1 1,.int .i64 9,.slice none 0 0,.slice none 0 0,.slice none 0 0,.slice (some ⟨w.heap.size+1+1,0,none⟩) 2 2] 85)).alloc (.cells #[.string ⟨#[97]⟩,.string ⟨#[120]⟩] 106)).alloc (.cells #[.int .i64 3,.int .u64 4,.int .i64 9,.int .u64 5] 93)) (w.heap.size+1) 106 #[.string ⟨#[97]⟩,.string ⟨#[120]⟩]:=(Blk.newAt (by simp)).alloc _;have k2:Blk (((w.alloc (.cells #[.slice (some ⟨w.heap.size+1,0,none⟩) 1 1,.int .i64 9,.slice none 0 0,.slice none 0 0,.slice none 0 0,.slice (some ⟨w.heap.size+1+1,0,none⟩) 2 2] 85)).alloc (.cells #[.string ⟨#[97]⟩,.string ⟨#[120]⟩] 106)).alloc (.cells #[.int .i64 3,.int .u64 4,.int .i64 9,.int .u64 5] 93)) (w.heap.size+1+1) 93 #[.int .i64 3,.int .u64 4,.int .i64 9,.int .u64 5]:=Blk.newAt (by simp);obtain ⟨w1,hw1⟩:∃x,(((w.alloc (.cells #[.slice (some ⟨w.heap.size+1,0,none⟩) 1 1,.int .i64 9,.slice none 0 0,.slice none 0 0,.slice none 0 0,.slice (some ⟨w.heap.size+1+1,0,none⟩) 2 2] 85)).alloc (.cells #[.string ⟨#[97]⟩,.string ⟨#[120]⟩] 106)).alloc (.cells #[.int .i64 3,.int .u64 4,.int .i64 9,.int .u64 5] 93))=x:=⟨_,rfl⟩;rw[hw1] at hb1 k0 k1 k2 ⊢;rw[hq] at k0 k1 k2 ⊢;refine bodyPost_ret (Keh rfl _ _ ⟨q,0,none⟩ (kserV ⟨⟨some ⟨q+1,0,none⟩,1,1⟩,⟨none,0,0⟩,⟨none,0,0⟩,⟨none,0,0⟩,⟨some ⟨q+1+1,0,none⟩,2,2⟩⟩ 9) rfl (run_loadVar_row _ q 85 85 _ (0,0) _ k0 Tryz.underlying85 rfl (by kernel_rfl))) rfl ?_;exact ⟨⟨_,rfl,Qlg k1 k2⟩,hq▸hb1⟩
def sC:Txt:=[99]
theorem Qaq:nameB sC=true:=by decide
theorem Qlz:nameB (sC++Kdj)=true:=by decide
theorem Qif:newD 100000=roomD 100000:=rfl
theorem Qgu {w:World} {A:Option Addr} (h:KSers w A 1 [wakeS]):∃b off sb so sc,A=some ⟨b,off,none⟩∧b < w.heap.size∧sb < w.heap.size∧w.cell? ⟨b,off+5,none⟩=some (.slice (some ⟨sb,so,none⟩) 2 sc)∧w.cell? ⟨sb,so+3,none⟩=some (.int .u64 5):=by
 obtain ⟨b,off,hd,e,hb,_,_,_,_,_,h5,hk⟩:=h.at_ (i:=0) (by decide);obtain ⟨sb,so,e2,hsb,hc⟩:=hk.s.get (i:=1) (by rw[←hk.s.1];decide);have hn:hd.s.n=2:=hk.s.1.symm;refine ⟨b,off,sb,so,hd.s.c,e,hb,hsb,?_,hc 1 (.int .u64 5) rfl⟩;rw[e2,hn] at h5;exact h5
section
variable {B0 : Nat} {a : Nat → Addr}
theorem Ktw (w:World) (hC:QCon B0 a) (hE:QEnv B0 a w):Calls Tryz.prog 10 #[] w fun e w'=>e = .returned (.bool true)∧Below w.heap.size w w':=by
 have HC:=Jh hC;have HE0:=Jh hE;have HN:=Jh (Dk.made 100000 (by decide) (by decide) w hE.hb);clear hC hE;go_enter Tryz.func10,Tryz.ntmps10
 go_wp2_with fail
 refine HN.out.mono ?_;rintro e w1 ⟨p,R,rfl,hd1,hb1,hz1⟩;rw[Qif] at hd1;have HZ:=Jh hz1;have HB1:=Jh hb1;have HE1:=Jh (HE0.out.low HC.out hb1);have HD1:=Jh hd1;clear hd1 hb1 hz1;go_wp2_with fail
 refine (Kto w1).mono ?_;rintro _ w2 ⟨⟨h,rfl,hk⟩,hb2⟩;have HK:=Jh hk;have HB2:=Jh hb2;clear hk hb2;unfold kserV;obtain ⟨S,hS⟩:∃S:ByteArray,(⟨#[99]⟩:ByteArray)=S:=⟨_,rfl⟩;have hSd:S.data.toList=sC:=by rw[←hS];rfl
 have hSz:S.size=1:=by rw[←hS];rfl
 have HS:=Jh hSd;have HSz:=Jh hSz;have hk3:KSers (w2.alloc (.cells (encKY ⟨h,wakeS.max⟩).toArray 85)) (some ⟨w2.heap.size,0,none⟩) 1 [wakeS]:=Qlw (HK.out.below ((Below.refl _ _).alloc (Nat.le_refl _) _)) (Blk.new _ _ _);have hb3:Below w2.heap.size w2 (w2.alloc (.cells (encKY ⟨h,wakeS.max⟩).toArray 85)):=(Below.refl _ _).alloc (Nat.le_refl _) _;obtain ⟨w3,hw3⟩:∃x,w2.alloc (.cells (encKY ⟨h,wakeS.max⟩).toArray 85)=x:=⟨_,rfl⟩;obtain ⟨q,hq⟩:∃x,w2.heap.size=x:=⟨_,rfl⟩;rw[hw3] at hk3 hb3;have HO3:Hid (Out R R w1 w3):=Jh (Out.of_below (HB2.out.trans (hb3.mono HB2.out.size)));have hd3:=HD1.out.below (HB2.out.trans (hb3.mono HB2.out.size));have he3:=HE1.out.low HC.out (HB2.out.trans (hb3.mono HB2.out.size));have hsv:=Kyo [wakeS] (some ⟨q,0,none⟩) 1 1 S w3 (by rw[←hq];exact hk3) Kxj (by decide) Kkd (by have:=Kia;omega) hd3 (by have:=Kia;omega) HC.out he3 (by rw[hSz];decide);rw[hSd,Qko 100000 sC (encK [wakeS]) Qaq Qlz (by have:=Kia;omega)] at hsv;have HSV:=Jh hsv;have HD3:=Jh hd3;have HE3:=Jh he3;have hwx:w2.alloc (.cells #[.slice h.l.A h.l.n h.l.c,.int .i64 9,.slice h.g0.A h.g0.n h.g0.c,.slice h.g1.A h.g1.n h.g1.c,.slice h.g2.A h.g2.n h.g2.c,.slice h.s.A h.s.n h.s.c] 85)=w3:=hw3;clear hk3 hb3 hd3 he3 hsv hw3 hSd hSz;go_upto_region 2 with fail
 go_wp2_with fail
 refine HSV.out.mono ?_;rintro e w4 ⟨v4,R4,rfl,hv4,hd4,ho4⟩;obtain rfl:v4 = .nilIface:=hv4;have HD4:=Jh hd4;have HE4:=Jh (HE3.out.out HC.out HD3.out ho4);have HO4:=Jh (HO3.out.trans ho4);have hld:=Kyn S (encK [wakeS]) w4 (by rw[HS.out];exact Qio 100000 sC _ Qaq) (by have:=Kia;omega) HD4.out (by have:=Kia;omega) HC.out HE4.out (by rw[HSz.out];decide);rw[Qjn] at hld;have HLD:=Jh hld;clear hd4 ho4 hld hwx;go_wp2_with fail
 refine HLD.out.mono ?_;rintro e w5 ⟨R5,⟨A,c,rfl,h5,_,_⟩,hd5,ho5⟩;have hn1:[wakeS].length=1:=rfl;rw[hn1] at h5 ⊢;have HE5:=Jh (HE4.out.out HC.out HD4.out ho5);have HO5:=Jh (HO4.out.trans ho5);have HB5:=Jh (HB1.out.trans (HO5.out.below HB1.out.size HZ.out));have H5:=Jh h5;have hde:=Kgq ⟨#[]⟩ w5 (by decide) HE5.out.nib HE5.out.db;have hdn:decK (⟨#[]⟩:ByteArray).data.toList = .error 20:=rfl;rw[hdn] at hde;have HDE:=Jh hde;clear hd5 ho5 h5 hde hdn hn1 hS;go_wp2_with fail
 refine HDE.out.mono ?_;rintro e w6 ⟨h6,hb6⟩;obtain rfl:=h6;have HB6:=Jh (HB5.out.trans (hb6.mono HB5.out.size));obtain ⟨b,off,sb,so,sc,rfl,hbz,hsz,x5,x3⟩:=Qgu (H5.out.below hb6);have x3':w6.cell? ⟨sb,so+2+1,none⟩=some (.int .u64 5):=x3;clear hb6;go_wp2_with fail
 go_ret
 exact ⟨rfl,HB6.out⟩
end
structure LSzK (L:List KSer):Prop where
 n:L.length≤1048576
 k:labsK L≤349525
 m:massK L≤1048576
 z:∀s∈L,KSz s
theorem LSzK.bits {L:List KSer} (h:LSzK L) (hf:fitK L=true):KBits L:=Kvm hf h.z (by have:=h.n;omega)
theorem LSzK.len {L:List KSer} (h:LSzK L) (hf:fitK L=true):(encK L).length≤200000000:=by
 have h1:=Knj hf;have h2:=Knm L;have:=h.n;have:=h.k;have:=h.m;omega
theorem Qlr {S:ByteArray} (h:S.data.toList = []):S=⟨#[]⟩:=by
 obtain ⟨⟨l⟩⟩:=S;have h1:l = []:=h;subst h1;rfl
section
variable {B0 : Nat} {a : Nat → Addr}
theorem Qkf (L:List KSer) (A:Option Addr) (n c:Nat) (w:World) (hS:KSers w A n L) (hL:LSzK L) (hE:QEnv B0 a w) :
  Calls Tryz.prog 9 #[.slice A n c] w fun e w'=>(∃S:ByteArray,e = .returned (.tuple #[.string S,.int .i64 (if fitK L=true then 0 else 150)])∧S.data.toList=(if fitK L=true then encK L else [])∧S.size≤200000000)∧Below w.heap.size w w':=by
 have hn:n≤1048576:=by rw[←hS.len];exact hL.n
 refine (Kgr L A n c w hS hL.z (by omega) hE.db hE.nib (fun hf=>by have:=hL.len hf;have:=Knm L;omega)).mono ?_;rintro e w' ⟨rfl,hb⟩
 by_cases hf:fitK L=true
 ·refine ⟨⟨⟨(encK L).toArray⟩,?_,?_,hL.len hf⟩,hb⟩
  ·unfold kencF;rw[if_pos hf,if_pos hf];rfl
  ·rw[if_pos hf]
 ·refine ⟨⟨⟨#[]⟩,?_,?_,Nat.zero_le _⟩,hb⟩
  ·unfold kencF;rw[if_neg hf,if_neg hf];rfl
  ·rw[if_neg hf]
theorem Kqd (L:List KSer) (A:Option Addr) (n c:Nat) (w:World) (hS:KSers w A n L) (hL:LSzK L) (hC:QCon B0 a) (hE:QEnv B0 a w) :
  Calls Tryz.prog 3 #[.slice A n c] w fun e w'=>e = .returned (.bool true)∧Below w.heap.size w w':=by
 have hn:n≤1048576:=by rw[←hS.len];exact hL.n
 have HENC:=Jh (Qkf L A n c w hS hL hE);have HS0:=Jh hS;have HE0:=Jh hE;have HC:=Jh hC;have HREF:=Jh (fun W h=>Kjm L A n c W h hL.z (by omega));have HFIT:=Jh (fun (A':Option Addr) (c':Nat) W h=>Kyz L A' n c' W h hL.z (by omega))
 have HDEC:=Jh (fun (S:ByteArray) W (h1:S.data.toList=encK L) (h2:fitK L=true) (h3:S.size≤200000000) (h4:QEnv B0 a W)=>by
  have h5:=Kgq S W (by omega) h4.nib h4.db;rw[h1,Kzy h2 (hL.bits h2)] at h5
  exact h5)
 have HAL:=Jh (fun (A':Option Addr) (c':Nat) W h1 h2=>Kss L L A' A n n c' c W h1 h2 (by omega) (by omega) hL.z hL.z);have HN:=Jh hS.len;clear hS hL hC hE hn;go_enter Tryz.func3,Tryz.ntmps3
 go_wp2_with fail
 refine HENC.out.mono ?_;rintro _ w1 ⟨⟨S,rfl,hd,hz⟩,hb1⟩;have HD:=Jh hd;have HZ:=Jh hz;have HB1:=Jh hb1;have HE1:=Jh (HE0.out.low HC.out hb1);clear hd hz hb1;obtain ⟨ev,hev⟩:∃x:Int,(if fitK L=true then (0:Int) else 150)=x:=⟨_,rfl⟩;have HEV:=Jh hev;rw[hev];clear hev;go_wp2_with fail
 refine (Ktw w1 HC.out HE1.out).mono ?_;rintro _ w2 ⟨rfl,hb2⟩;have HB2:=Jh (HB1.out.trans (hb2.mono HB1.out.size));clear hb2;go_wp2_with fail
 refine (HREF.out w2 (HS0.out.below HB2.out)).mono ?_;rintro _ w3 ⟨⟨A',c',rfl,h3⟩,hb3⟩;have HB3:=Jh (HB2.out.trans (hb3.mono HB2.out.size));have H3:=Jh h3;clear hb3 h3;go_wp2_with fail
 refine (HFIT.out A' c' w3 H3.out).mono ?_;rintro _ w4 ⟨rfl,hb4⟩;have HB4:=Jh (HB3.out.trans (hb4.mono HB3.out.size));clear hb4;obtain ⟨f,hf⟩:∃f,fitK L=f:=⟨_,rfl⟩;have HF:=Jh hf;rw[hf];clear hf
 cases f with
 | false=>
  have e1:ev=150:=by rw[←HEV.out,HF.out];rfl
  have e2:S=⟨#[]⟩:=Qlr (by rw[HD.out,HF.out];rfl);subst e1;subst e2;go_wp2_with fail
  go_ret
  exact ⟨rfl,HB4.out⟩
 | true=>
  have e1:ev=0:=by rw[←HEV.out,HF.out];rfl
  subst e1;go_wp2_with fail
  refine (HDEC.out S w4 (by rw[HD.out,HF.out];rfl) HF.out HZ.out (HE0.out.low HC.out HB4.out)).mono ?_;rintro _ w5 ⟨⟨A5,c5,rfl,h5,_,_⟩,hb5⟩;have HB5:=Jh (HB4.out.trans (hb5.mono HB4.out.size));rw[HN.out] at h5 ⊢;have H5:=Jh h5;clear hb5 h5;go_wp2_with fail
  refine (HAL.out A5 c5 w5 H5.out (HS0.out.below HB5.out)).mono ?_;rintro _ w6 ⟨rfl,hb6⟩;have HB6:=Jh (HB5.out.trans (hb6.mono HB5.out.size));clear hb6
  try rw[show decide True=true by rfl]
  go_wp2_with fail
  go_ret
  exact ⟨rfl,HB6.out⟩
end
end
section
open Go.ChangeShapes Go.WideShapes Go.ChangeAt Go.RowKit
theorem Tryz.own:ownKnob Tryz.prog.godebug=none:=by kernel_rfl
theorem Tryz.laidOut:laidOutB Tryz.prog=true:=by kernel_rfl
end
section
open Go.ChangeShapes Go.WideShapes Go.ChangeAt Go.RowKit Go.Deep
section
variable {H : Type} {enc : TypeId × Value → H} {P : Program} {w : World} {base : Nat} {spare : Nat → Bool} {held : Bool}
theorem Kih {α : Type} [Inhabited α] {t e:TypeId} {sz:Nat} {ea:α→List Value} {Q:DataW H→α→Prop} (ht:P.underlying t=some (.slice e)) (hc:P.cellsOf e=sz) (h0:0 < sz) (hz:∀y,(ea y).length=sz)
  (ho:∀(fuel:Nat) (l:List Value) (x:DataW H×List MemPlace),DataW.trod enc P w base spare held fuel e l=some x→∃y,l=ea y∧Q x.1 y)
  {fuel:Nat} {v:Value} {x:DataW H×List MemPlace} (h:DataW.trod enc P w base spare held fuel t [v]=some x) :
  ∃A n c ys,v = .slice A n c∧(A=none→c=0)∧n≤c∧Elems w w.heap.size sz ea A n ys∧∃ds sp,(x.1 = .slice ds sp∨(x.1 = .nil∧ds = []))∧ds.length=ys.length∧∀(i:Nat) d y,ds[i]? = some d→ys[i]? = some y→Q d y:=by
 rcases open_slice ht h with ⟨hcs,hx⟩ | ⟨a,len,cap,m,n,D,Pl,hcs,_,hl,_,hmm,hx,hi⟩
 ·simp at hcs;subst hcs;exact ⟨none,0,0,[],rfl,fun _=>rfl,Nat.le_refl _,Elems.nil_,[],[],.inr ⟨by rw[hx],rfl⟩,rfl,fun i d y hd=>by simp at hd⟩
 ·simp at hcs;subst hcs;rw[hc] at hi;have hlm:len≤m:=by rw[hmm];split <;> omega
  obtain ⟨f,hf⟩:=choose_lt (α:=α) (n:=len) (p:=fun i y=>(∀j u,(ea y)[j]? = some u→w.cell? (a.add (i*sz+j))=some u)∧Q (D i) y) (by
   intro i hlt;obtain ⟨cs',hc',ht'⟩:=hi i (by omega);obtain ⟨y,rfl,hq⟩:=ho _ _ _ ht';obtain ⟨_,hcl,hat⟩:=World.cells?_some hc';refine ⟨y,fun j u hu=>?_,hq⟩;have hj:j < sz:=by have:=(List.getElem?_eq_some_iff.1 hu).1;rw[hz] at this;exact this
   have:=hat j hj;rw[Go.Deep.add_add] at this
   rw[this,hu])
  refine ⟨some a,len,cap,(List.range len).map f,rfl,(fun h=>by cases h),hl,⟨by simp,fun h0'=>?_⟩,(List.range len).map D,_,.inl (by rw[hx]),by simp,fun i d y hd hy=>?_⟩
  ·obtain ⟨b,off,spot⟩:=a;have hp:0 < (ea (f 0)).length:=by rw[hz];exact h0
   have h00:=(hf 0 h0').1 0 _ (List.getElem?_eq_getElem hp);have hspot:spot=none:=by simpa[Addr.add] using World.cell?_spot h00
   subst hspot;refine ⟨b,off,rfl,by simpa[Addr.add] using Kah h00,fun i x hx j u hu=>?_⟩;have hil:i < len:=by have:=(List.getElem?_eq_some_iff.1 hx).1;simpa using this
   have hxe:f i=x:=by simpa[hil] using hx
   subst hxe;have:=(hf i hil).1 j u hu;rw[add_plain] at this;rw[←this,Nat.add_assoc]
  ·have hil:i < len:=by have:=(List.getElem?_eq_some_iff.1 hd).1;simpa using this
   have h1:D i=d:=by simpa[hil] using hd
   have h2:f i=y:=by simpa[hil] using hy
   rw[←h1,←h2];exact (hf i hil).2
end
theorem Knk {H:Type} (d:DataW H):1≤Rows.uptoBulk d:=by
 cases d with
 | lit l=>cases l <;> simp[Rows.uptoBulk]
 | nil=>simp[Rows.uptoBulk]
 | ptr d=>simp[Rows.uptoBulk]
 | slice elems spare=>simp[Rows.uptoBulk]
 | agg parts=>simp[Rows.uptoBulk]
 | iface t d=>simp[Rows.uptoBulk]
 | map entries=>simp[Rows.uptoBulk]
 | held h=>simp[Rows.uptoBulk]
theorem Qaz {H:Type} (l sp:List (DataW H)):Rows.uptoBulkAll l+1≤Rows.uptoBulk (.slice l sp):=by simp only[Rows.uptoBulk];omega
theorem Qhf {H:Type} {l:List (DataW H)} (hk:Rows.uptoSmall H l=true):Rows.uptoBulkAll l≤1048576:=of_decide_eq_true hk
theorem Kuh {H α : Type} (mu:α→Nat):∀(ds:List (DataW H)) (ys:List α),ds.length=ys.length→(∀(i:Nat) d y,ds[i]? = some d→ys[i]? = some y→mu y≤Rows.uptoBulk d)→(ys.map mu).sum≤Rows.uptoBulkAll ds
 | [],[],_,_=>by simp
 | d :: ds,y :: ys,hl,h=>by
  have h1:=h 0 d y rfl rfl;have h2:=Kuh mu ds ys (by simpa using hl) (fun i d' y' hd hy=>h (i+1) d' y' (by simpa using hd) (by simpa using hy));simp only[List.map_cons,List.sum_cons,Rows.uptoBulkAll];omega
 | [],_ :: _,hl,_=>by simp at hl
 | _ :: _,[],hl,_=>by simp at hl
theorem Kje {H α : Type} (mu:α→Nat) {d:DataW H} {ds sp:List (DataW H)} {ys:List α} (hd:d = .slice ds sp∨(d = .nil∧ds = [])) (hl:ds.length=ys.length) (h:∀(i:Nat) d y,ds[i]? = some d→ys[i]? = some y→mu y≤Rows.uptoBulk d):(ys.map mu).sum+1≤Rows.uptoBulk d:=by
 have:=Kuh mu ds ys hl h;rcases hd with rfl | ⟨rfl,rfl⟩
 ·have:=Qaz ds sp;omega
 ·obtain rfl:ys = []:=List.eq_nil_of_length_eq_zero (by simpa using hl.symm);simp[Rows.uptoBulk]
section
variable {H : Type} {enc : TypeId × Value → H} {w : World} {base : Nat} {spare : Nat → Bool} {held : Bool}
theorem Kuk:Tryz.prog.cellsOf 9 = 1:=by kernel_rfl
def litT (s:Txt):DataW H:=.lit (.string s)
theorem Kvy {fuel:Nat} {l:List Value} {x:DataW H×List MemPlace} (h:DataW.trod enc Tryz.prog w base spare held fuel 9 l=some x):∃s:Txt,l = [txtV s]∧x.1=litT s:=by
 obtain ⟨s,rfl,rfl,_⟩:=DataW.trod_string Tryz.underlying9 h;exact ⟨s.data.toList,rfl,rfl⟩
end
section
variable {H : Type} {enc : TypeId × Value → H} {w : World} {base : Nat} {spare : Nat → Bool} {held : Bool}
theorem Krf:Tryz.prog.cellsOf 106 = 2:=by kernel_rfl
theorem Qih {fuel:Nat} {l:List Value} {x:DataW H×List MemPlace} (h:DataW.trod enc Tryz.prog w base spare held fuel 106 l=some x):∃y:Lb,l=encLb y∧x.1 = .agg [litT y.n,litT y.v]:=by
 obtain ⟨xs,n,_,hx,hcl,hlen,hg⟩:=DataW.trod_struct Tryz.underlying106 h;rw[Krf] at hcl
 match l,hcl,xs,hlen with
 | [c0,c1],_,[x0,x1],_=>
  have g0:=hg 0 _ rfl;have g1:=hg 1 _ rfl;simp[Kuk] at g0 g1;obtain ⟨a,e0,f0⟩:=Kvy g0;obtain ⟨b,e1,f1⟩:=Kvy g1;simp at e0 e1;subst e0 e1;refine ⟨⟨a,b⟩,rfl,?_⟩;rw[hx];simp[f0,f1]
end
section
variable {H : Type} {enc : TypeId × Value → H} {w : World} {base : Nat} {spare : Nat → Bool} {held : Bool}
def Lb.mass (x:Lb):Nat:=x.n.length+x.v.length+3
def massL (l:List Lb):Nat:=(l.map Lb.mass).sum+1
theorem Krw:∀l:List Lb,2*l.length+1≤massL l
 | []=>by simp[massL]
 | x :: l=>by have:=Krw l;simp only[massL,List.map_cons,List.sum_cons,List.length_cons,Lb.mass] at *;omega
theorem Qfc {l:List Lb} {x:Lb} (h:x∈l):x.n.length≤massL l∧x.v.length≤massL l:=by
 induction l with
 | nil=>cases h
 | cons y l ih=>
  simp only[massL,List.map_cons,List.sum_cons,Lb.mass] at *;rcases List.mem_cons.1 h with rfl | h
  ·omega
  ·have:=ih h;omega
theorem Qbb:Tryz.prog.cellsOf 80 = 1:=by kernel_rfl
theorem Kvx {fuel:Nat} {v:Value} {x:DataW H×List MemPlace} (h:DataW.trod enc Tryz.prog w base spare held fuel 80 [v]=some x) :
  ∃A n c l,v = .slice A n c∧n≤c∧Elems w w.heap.size 2 encLb A n l∧massL l≤Rows.uptoBulk x.1:=by
 obtain ⟨A,n,c,l,rfl,_,h2,h3,ds,sp,hx,hl,hQ⟩:=Kih (ea:=encLb) (Q:=fun d s=>d = .agg [litT s.n,litT s.v]) Tryz.underlying80 Krf (by omega) (fun _=>rfl) (fun _ _ _ h=>Qih h) h;refine ⟨A,n,c,l,rfl,h2,h3,Kje Lb.mass hx hl fun i d y hd hy=>?_⟩;rw[hQ i d y hd hy];simp[Rows.uptoBulk,Rows.uptoBulkAll,litT,Lb.mass];omega
theorem Qas {α : Type} (f:α→Nat):∀{l:List α} {x:α},x∈l→f x≤(l.map f).sum
 | y :: l,x,h=>by
  simp only[List.map_cons,List.sum_cons];rcases List.mem_cons.1 h with rfl | h
  ·omega
  ·have:=Qas f h;omega
end
theorem Kjf:Tryz.prog.cellsOf 2 = 1:=by kernel_rfl
theorem Qbe:Tryz.prog.cellsOf 79 = 1:=by kernel_rfl
theorem Krg:Tryz.prog.cellsOf 93 = 2:=by kernel_rfl
theorem Koh:Tryz.prog.cellsOf 109 = 2:=by kernel_rfl
theorem Qbc:Tryz.prog.cellsOf 83 = 1:=by kernel_rfl
theorem Qbd:Tryz.prog.cellsOf 81 = 1:=by kernel_rfl
theorem Qba:Tryz.prog.cellsOf 82 = 3:=by kernel_rfl
theorem Kog:Tryz.prog.cellsOf 85 = 6:=by kernel_rfl
theorem Kqw {n:Int} (h:(Lit.int .i64 n).wf=true):-9223372036854775808≤n∧n≤9223372036854775807:=by
 have h1:IntKind.i64.min = -9223372036854775808:=rfl;have h2:IntKind.i64.max=9223372036854775807:=rfl;simp only[Lit.wf,Bool.and_eq_true,decide_eq_true_eq] at h;omega
theorem Qmb {z:Int} (h:(Lit.int .u64 z).wf=true):∃n:Nat,z=(n:Int)∧n < 2 ^ 64:=by
 have h1:IntKind.u64.min=0:=rfl;have h2:IntKind.u64.max=18446744073709551615:=rfl;simp only[Lit.wf,Bool.and_eq_true,decide_eq_true_eq] at h;exact ⟨z.toNat,by omega,by omega⟩
section
variable {H : Type} {enc : TypeId × Value → H} {w : World} {base : Nat} {spare : Nat → Bool} {held : Bool}
theorem Qii {fuel:Nat} {l:List Value} {x:DataW H×List MemPlace} (h:DataW.trod enc Tryz.prog w base spare held fuel 93 l=some x):∃y:Smp,l=Kbw y∧(y.v < 2 ^ 64∧1≤Rows.uptoBulk x.1):=by
 obtain ⟨xs,n,_,hx,hcl,hlen,hg⟩:=DataW.trod_struct Tryz.underlying93 h;rw[Krg] at hcl
 match l,hcl,xs,hlen with
 | [c0,c1],_,[x0,x1],_=>
  have g0:=hg 0 _ rfl;have g1:=hg 1 _ rfl;simp[Kjf,Qbe] at g0 g1;obtain ⟨a,e0,_,_⟩:=DataW.trod_int Tryz.underlying2 g0;obtain ⟨b,e1,_,wb⟩:=DataW.trod_int Tryz.underlying79 g1;simp at e0 e1;subst e0 e1;obtain ⟨v,rfl,hv⟩:=Qmb wb;exact ⟨⟨a,v⟩,rfl,hv,Knk _⟩
theorem Knx {α : Type}:∀l:List α,(l.map fun _=>1).sum=l.length
 | []=>rfl
 | x :: l=>by rw[List.map_cons,List.sum_cons,Knx l,List.length_cons];omega
theorem Qfm {fuel:Nat} {v:Value} {x:DataW H×List MemPlace} (h:DataW.trod enc Tryz.prog w base spare held fuel 83 [v]=some x) :
  ∃A n c l,v = .slice A n c∧n≤c∧Elems w w.heap.size 2 Kbw A n l∧(∀y∈l,y.v < 2 ^ 64)∧l.length+1≤Rows.uptoBulk x.1:=by
 obtain ⟨A,n,c,l,rfl,_,h2,h3,ds,sp,hx,hl,hQ⟩:=Kih (ea:=Kbw) (Q:=fun d (y:Smp)=>y.v < 2 ^ 64∧1≤Rows.uptoBulk d) Tryz.underlying83 Krg (by omega) (fun _=>rfl) (fun _ _ _ h=>Qii h) h;refine ⟨A,n,c,l,rfl,h2,h3,fun y hy=>?_,?_⟩
 ·obtain ⟨i,hi,rfl⟩:=List.mem_iff_getElem.1 hy;exact (hQ i (ds[i]'(by omega)) l[i] (List.getElem?_eq_getElem _) (List.getElem?_eq_getElem hi)).1
 ·have:=Kje (fun _:Smp=>1) hx hl fun i d y hd hy=>(hQ i d y hd hy).2
  rwa[Knx] at this
theorem Qfn {fuel:Nat} {l:List Value} {x:DataW H×List MemPlace} (h:DataW.trod enc Tryz.prog w base spare held fuel 109 l=some x):∃y:Spn,l=Kac y∧(SpnIn y∧1≤Rows.uptoBulk x.1):=by
 obtain ⟨xs,n,_,hx,hcl,hlen,hg⟩:=DataW.trod_struct Tryz.underlying109 h;rw[Koh] at hcl
 match l,hcl,xs,hlen with
 | [c0,c1],_,[x0,x1],_=>
  have g0:=hg 0 _ rfl;have g1:=hg 1 _ rfl;simp[Kjf] at g0 g1;obtain ⟨a,e0,_,wa⟩:=DataW.trod_int Tryz.underlying2 g0;obtain ⟨b,e1,_,wb⟩:=DataW.trod_int Tryz.underlying2 g1;simp at e0 e1;subst e0 e1;have ha:=Kqw wa;have hb:=Kqw wb;exact ⟨⟨a,b⟩,rfl,⟨ha.1,ha.2,hb.1,hb.2⟩,Knk _⟩
theorem Kjq {fuel:Nat} {v:Value} {x:DataW H×List MemPlace} (h:DataW.trod enc Tryz.prog w base spare held fuel 81 [v]=some x) :
  ∃A n c l,v = .slice A n c∧n≤c∧Elems w w.heap.size 2 Kac A n l∧(∀y∈l,SpnIn y)∧l.length+1≤Rows.uptoBulk x.1:=by
 obtain ⟨A,n,c,l,rfl,_,h2,h3,ds,sp,hx,hl,hQ⟩:=Kih (ea:=Kac) (Q:=fun d (y:Spn)=>SpnIn y∧1≤Rows.uptoBulk d) Tryz.underlying81 Koh (by omega) (fun _=>rfl) (fun _ _ _ h=>Qfn h) h;refine ⟨A,n,c,l,rfl,h2,h3,fun y hy=>?_,?_⟩
 ·obtain ⟨i,hi,rfl⟩:=List.mem_iff_getElem.1 hy;exact (hQ i (ds[i]'(by omega)) l[i] (List.getElem?_eq_getElem _) (List.getElem?_eq_getElem hi)).1
 ·have:=Kje (fun _:Spn=>1) hx hl fun i d y hd hy=>(hQ i d y hd hy).2
  rwa[Knx] at this
theorem Qfk {fuel:Nat} {c0 c1 c2:Value} {x:DataW H×List MemPlace} (h:DataW.trod enc Tryz.prog w base spare held fuel 82 [c0,c1,c2]=some x) :
  ∃(h0 h1 h2:Hd) (l0 l1 l2:List Spn),(c0 = .slice h0.A h0.n h0.c∧c1 = .slice h1.A h1.n h1.c∧c2 = .slice h2.A h2.n h2.c)∧(Elems w w.heap.size 2 Kac h0.A h0.n l0∧Elems w w.heap.size 2 Kac h1.A h1.n l1∧Elems w w.heap.size 2 Kac h2.A h2.n l2)∧
   ((∀y∈l0,SpnIn y)∧(∀y∈l1,SpnIn y)∧(∀y∈l2,SpnIn y))∧l0.length+l1.length+l2.length+3≤Rows.uptoBulk x.1:=by
 obtain ⟨xs,m,_,hx,_,hl,hg⟩:=DataW.trod_array Tryz.underlying82 h;rw[Qbd] at hg
 match xs,hl with
 | [x0,x1,x2],_=>
  have g0:=hg 0 (by omega);have g1:=hg 1 (by omega);have g2:=hg 2 (by omega);simp at g0 g1 g2;obtain ⟨A0,n0,k0,l0,rfl,a1,a2,a3,a4⟩:=Kjq g0;obtain ⟨A1,n1,k1,l1,rfl,b1,b2,b3,b4⟩:=Kjq g1;obtain ⟨A2,n2,k2,l2,rfl,d1,d2,d3,d4⟩:=Kjq g2;refine ⟨⟨A0,n0,k0⟩,⟨A1,n1,k1⟩,⟨A2,n2,k2⟩,l0,l1,l2,⟨rfl,rfl,rfl⟩,⟨a2,b2,d2⟩,⟨a3,b3,d3⟩,?_⟩;rw[hx];simp only[List.map_cons,List.map_nil,Rows.uptoBulk,Rows.uptoBulkAll];omega
def KSer.weight (s:KSer):Nat:=massL s.labels+s.g0.length+s.g1.length+s.g2.length+s.samples.length+4
structure KIn (w:World) (y:KY) (s:KSer):Prop where
 at_:KAt w y.h s
 m:y.m=s.max
 mx:-9223372036854775808≤s.max∧s.max≤9223372036854775807
 i:(∀x∈s.g0,SpnIn x)∧(∀x∈s.g1,SpnIn x)∧(∀x∈s.g2,SpnIn x)
 v:∀x∈s.samples,x.v < 2 ^ 64
theorem Qfl {fuel:Nat} {l:List Value} {x:DataW H×List MemPlace} (h:DataW.trod enc Tryz.prog w base spare held fuel 85 l=some x):∃y:KY,l=encKY y∧∃s,KIn w y s∧KSer.weight s≤Rows.uptoBulk x.1:=by
 obtain ⟨xs,n,_,hx,hcl,hlen,hg⟩:=DataW.trod_struct Tryz.underlying85 h;rw[Kog] at hcl
 match l,hcl,xs,hlen with
 | [c0,c1,c2,c3,c4,c5],_,[x0,x1,x2,x3],_=>
  have g0:=hg 0 _ rfl;have g1:=hg 1 _ rfl;have g2:=hg 2 _ rfl;have g3:=hg 3 _ rfl;simp[Qbb,Qbc,Qba,Kjf] at g0 g1 g2 g3;obtain ⟨A0,n0,k0,l0,rfl,a1,a2,a3⟩:=Kvx g0;obtain ⟨mx,e1,_,wm⟩:=DataW.trod_int Tryz.underlying2 g1;obtain ⟨h0,h1,h2,p0,p1,p2,⟨rfl,rfl,rfl⟩,⟨b0,b1,b2⟩,b3,b4⟩:=Qfk g2;obtain ⟨A3,n3,k3,l3,rfl,d1,d2,d3,d4⟩:=Qfm g3;simp at e1;subst e1;refine ⟨⟨⟨⟨A0,n0,k0⟩,h0,h1,h2,⟨A3,n3,k3⟩⟩,mx⟩,rfl,⟨l0,mx,p0,p1,p2,l3⟩,⟨⟨a2,a1,b0,b1,b2,d2,d1⟩,rfl,Kqw wm,b3,d3⟩,?_⟩;rw[hx];have hb1:=Knk x1.1;simp only[List.map_cons,List.map_nil,Rows.uptoBulk,Rows.uptoBulkAll,KSer.weight];omega
theorem Kot:∀l:List Lb,3*l.length+1≤massL l
 | []=>by simp[massL]
 | x :: l=>by have:=Kot l;simp only[massL,List.map_cons,List.sum_cons,List.length_cons,Lb.mass] at *;omega
theorem Kne:∀L:List KSer,massK L+L.length+3*labsK L≤(L.map KSer.weight).sum
 | []=>by simp[massK,labsK]
 | s :: L=>by
  have:=Kne L;have:=Kot s.labels;simp only[massK,labsK,List.map_cons,List.sum_cons,List.length_cons,KSer.weight,KSer.mass] at *;omega
theorem Qcd {fuel:Nat} {v:Value} {x:DataW H×List MemPlace} (h:DataW.trod enc Tryz.prog w base spare held fuel 22 [v]=some x) :
  ∃A n c L,v = .slice A n c∧n≤c∧KSers w A n L∧(Rows.uptoBulk x.1≤1048576→LSzK L):=by
 obtain ⟨A,n,c,hs,rfl,_,h2,h3,ds,sp,hx,hl,hQ⟩:=Kih (ea:=encKY) (Q:=fun d y=>∃s,KIn w y s∧KSer.weight s≤Rows.uptoBulk d) Tryz.underlying22 Kog (by omega) (fun _=>rfl) (fun _ _ _ h=>Qfl h) h;have hn:=h3.len
 obtain ⟨f,hf⟩:=choose_lt (α:=KSer) (n:=n) (p:=fun i s=>∀d y,ds[i]? = some d→hs[i]? = some y→KIn w y s∧KSer.weight s≤Rows.uptoBulk d) (by
  intro i hi;have h1:i < hs.length:=by omega
  have h4:i < ds.length:=by omega
  obtain ⟨l,hl'⟩:=hQ i ds[i] hs[i] (List.getElem?_eq_getElem h4) (List.getElem?_eq_getElem h1);refine ⟨l,fun d y hd hy=>?_⟩;rw[List.getElem?_eq_getElem h4] at hd;rw[List.getElem?_eq_getElem h1] at hy;injection hd with hd;injection hy with hy;subst hd hy
  exact hl')
 have hget:∀i,i < n→((List.range n).map f)[i]! = f i:=fun i hi=>by
  rw[getElem!_pos _ i (by simpa using hi)];simp
 have hS:KSers w A n ((List.range n).map f):=⟨hs,h3,by simp,fun i hi=>by
  have h1:i < hs.length:=by omega
  have h4:i < ds.length:=by omega
  obtain ⟨a1,a2⟩:=hf i hi ds[i] hs[i] (List.getElem?_eq_getElem h4) (List.getElem?_eq_getElem h1);rw[hget i hi,getElem!_pos hs i h1]
  exact ⟨a1.m,a1.at_⟩⟩
 refine ⟨A,n,c,(List.range n).map f,rfl,h2,hS,fun hb=>?_⟩
 have hsum:(((List.range n).map f).map KSer.weight).sum+1≤Rows.uptoBulk x.1:=by
  refine Kje KSer.weight hx (by simp;omega) fun i d l hd hl'=>?_
  have hi:i < n:=by have:=(List.getElem?_eq_some_iff.1 hl').1;simpa using this
  have e:f i=l:=by simpa[hi] using hl'
  have h1:i < hs.length:=by omega
  rw[←e];exact (hf i hi d hs[i] hd (List.getElem?_eq_getElem h1)).2
 have hm:=Kne ((List.range n).map f);refine ⟨by omega,by omega,by omega,fun s hs9=>?_⟩;have h5:=Qas KSer.weight hs9;obtain ⟨i,hi,rfl⟩:=List.mem_map.1 hs9;have hi:i < n:=List.mem_range.1 hi;have h1:i < hs.length:=by omega
 have h4:i < ds.length:=by omega
 obtain ⟨a1,a2⟩:=hf i hi ds[i] hs[i] (List.getElem?_eq_getElem h4) (List.getElem?_eq_getElem h1);have h7:massL (f i).labels+(f i).g0.length+(f i).g1.length+(f i).g2.length+(f i).samples.length+4≤(((List.range n).map f).map KSer.weight).sum:=h5;have h6:=Krw (f i).labels;refine ⟨by omega,fun y hy=>?_,a1.mx,⟨by omega,by omega,by omega⟩,a1.i,by omega,a1.v⟩;have:=Qfc hy;omega
instance:Inhabited Trn:=⟨⟨0,0,[]⟩⟩
end
end
section
open Go.RowKit
theorem Kdk {P:Program} {W:World} {x:String×DataW Unit} {r:List (String×DataW Unit)} (h:laidMet P (x :: r) W):laidMet P r W:=by
 obtain ⟨ps,⟨g,t,cs,f,p,q,hg,ht,hv,hd,hr,e⟩,hnd,hrows⟩:=h;subst e;refine ⟨q,hr,?_,fun b off hm=>hrows b off (by simp[hm])⟩
 first | exact (List.nodup_append.1 hnd).2.1 | exact (List.nodup_append.1 (List.nodup_append.1 hnd).2.1).2.1
theorem Kws:"*" ++ "errors.errorString" = "*errors.errorString":=by decide
theorem Qkq (u:TypeId) (h:Tryz.prog.typeName? 3 u=some "*errors.errorString"):u = 360:=
 typeName_ptr_named (nm:="errors.errorString") (by rw[Kws];kernel_rfl) (by kernel_rfl) (by decide) u (by rw[Kws];exact h)
theorem Khk {n:String} {text:List UInt8} {r:List (String×DataW Unit)} {W:World} {g:Nat}
  (h:laidMet Tryz.prog ((n,.iface "*errors.errorString" (.ptr (.agg [.lit (.string text)]))) :: r) W) (hg:Tryz.prog.globalNamed n=some g) (ht:(Tryz.prog.globals[g]?).map (·.type)=some 40) :
  ∃(a:Addr) (s:ByteArray),W.cell? ⟨g,0,none⟩=some (.iface 360 (.pointer (some a)))∧W.cell? a=some (.string s)∧s.data.toList=text∧∃c t,W.heap[a.block]? = some (.cells c t (0,0)):=by
 obtain ⟨ps,⟨g0',t0',cs0,f0,p0,q0,hg0',ht0',hv0,hd0,_,e0⟩,hnd,hrows⟩:=h;obtain rfl:=Option.some.inj (hg.symm.trans hg0');obtain rfl:=Option.some.inj (ht.symm.trans ht0');subst e0;obtain ⟨l0⟩:=cs0
 have ok0:∀u v,l0 = [.iface u v]→Value.okWide Tryz.prog W .any 0 u v:=fun u v e=>by
  subst e;exact (hrows g 0 (by simp[MemPlace.row])).2 u v (by simpa using World.var?_cell hg0' hv0 0)
 obtain ⟨a0,s0,rfl,hc0,hs0,hz0,rfl⟩:=errorString_of_trod Tryz.underlying40 Qkq Tryz.underlying360 Tryz.underlying382 rfl rfl Tryz.underlying9 (by kernel_rfl) (by kernel_rfl) hd0 ok0;refine ⟨a0,s0,by simpa using World.var?_cell hg0' hv0 0,hc0,hs0,(hrows a0.block a0.off (by simp[MemPlace.row])).1⟩
def sentT:Nat→List UInt8
 | 1=>[116,104,101,32,112,111,119,101,114,32,105,115,32,111,102,102]
 | 2=>[110,111,32,112,97,116,104]
 | 3=>[97,32,100,105,114,101,99,116,111,114,121]
 | 4=>[110,111,116,32,116,104,101,114,101]
 | 5=>[116,104,101,114,101,32,97,108,114,101,97,100,121]
 | 6=>[111,117,116,32,111,102,32,114,97,110,103,101]
 | _=>[110,111,32,115,112,97,99,101]
theorem Qgb:∀i∈[1,2,3,4,5,6,7],∀j∈[1,2,3,4,5,6,7],i≠j→sentT i≠sentT j:=by decide
def Qdj (W:World) (k:Nat) (a:Addr):Prop:=W.cell? ⟨failG k,0,none⟩=some (.iface 360 (.pointer (some a)))∧(∃s:ByteArray,W.cell? a=some (.string s)∧s.data.toList=sentT k)∧∃c t,W.heap[a.block]? = some (.cells c t (0,0))
end
section
open Go.ChangeShapes Go.WideShapes Go.ChangeAt Go.RowKit Go.ChangeMaps
theorem Qjd (a:Nat→Addr):∃x:Addr,x.block=(a 1).block∧∀k,1≤k→k≤7→x≠a k:=by
 refine ⟨⟨(a 1).block,(a 1).off+(a 2).off+(a 3).off+(a 4).off+(a 5).off+(a 6).off+(a 7).off+1,none⟩,rfl,fun k h1 h2 e=>?_⟩;have e2:(a k).off=(a 1).off+(a 2).off+(a 3).off+(a 4).off+(a 5).off+(a 6).off+(a 7).off+1:=by rw[←e]
 rcases (by omega:k=1∨k=2∨k=3∨k=4∨k=5∨k=6∨k=7) with rfl | rfl | rfl | rfl | rfl | rfl | rfl <;> omega
theorem Qez {W:World} (h:laidMet Tryz.prog Rows.ckptBackRow.laid W):∃a,QCon W.heap.size a∧QEnv W.heap.size a W:=by
 have h1:=Kdk h;have h2:=Kdk h1;have h3:=Kdk h2;have h4:=Kdk h3;have h5:=Kdk h4;have h6:=Kdk h5;have h7:=Kdk h6;obtain ⟨a1,s1,p1,q1,r1,b1⟩:=Khk h1 (g:=6) (by kernel_rfl) (by kernel_rfl);obtain ⟨a2,s2,p2,q2,r2,b2⟩:=Khk h2 (g:=5) (by kernel_rfl) (by kernel_rfl);obtain ⟨a3,s3,p3,q3,r3,b3⟩:=Khk h3 (g:=3) (by kernel_rfl) (by kernel_rfl);obtain ⟨a4,s4,p4,q4,r4,b4⟩:=Khk h4 (g:=2) (by kernel_rfl) (by kernel_rfl);obtain ⟨a5,s5,p5,q5,r5,b5⟩:=Khk h5 (g:=4) (by kernel_rfl) (by kernel_rfl);obtain ⟨a7,s7,p7,q7,r7,b7⟩:=Khk h6 (g:=0) (by kernel_rfl) (by kernel_rfl);have hdbT:Lib.TabIs Tryz.prog W "math/bits.deBruijn64tab" .u8 (Lib.deBruijn64tab.map fun n:Nat=>(n:Int)):=Lib.tabIs_of_head (g:=9) (t:=332) (e:=5) (n:=64) (by kernel_rfl) (by kernel_rfl) (by kernel_rfl) (by kernel_rfl) (by kernel_rfl) (by kernel_rfl) h
 have hdb:DbTab W:=fun i hi=>by
  rw[hdbT.cell (by kernel_rfl) i (by rw[List.length_map];exact hi)];congr 2;rw[List.getD_eq_getElem?_getD,List.getElem?_map,List.getD_eq_getElem?_getD,List.getElem?_eq_getElem hi];rfl
 have hnibT:Lib.TabIs Tryz.prog W "almanac/enc.nibbles" .u32 [0,274646895,549293790,820201905,1098587580,1361435347,1640403810,1905808397,2197175160,2460548119,2722870694,2987750089,3280807620,3553878443,3811616794,4084100981]:=Lib.tabIs_of_head (g:=7) (t:=245) (e:=184) (n:=16) (by kernel_rfl) (by kernel_rfl) (by kernel_rfl) (by kernel_rfl) (by kernel_rfl) (by kernel_rfl) h7
 have hnib:Kdn W:=fun i hi=>by
  rw[hnibT.cell (by kernel_rfl) i hi];rcases (by omega:i=0∨i=1∨i=2∨i=3∨i=4∨i=5∨i=6∨i=7∨i=8∨i=9∨i=10∨i=11∨i=12∨i=13∨i=14∨i=15) with rfl | rfl | rfl | rfl | rfl | rfl | rfl | rfl | rfl | rfl | rfl | rfl | rfl | rfl | rfl | rfl <;> rfl
 obtain ⟨x6,hx6,hx6n⟩:=Qjd (fun k=>match k with | 1=>a1 | 2=>a2 | 3=>a3 | 4=>a4 | 5=>a5 | 6=>a7 | _=>a7)
 have hall:∀k,k≠6→Qdj W k (match k with | 1=>a1 | 2=>a2 | 3=>a3 | 4=>a4 | 5=>a5 | 6=>x6 | _=>a7):=by
  intro k hk
  match k,hk with
  | 1,_=>exact ⟨p1,⟨s1,q1,r1⟩,b1⟩
  | 2,_=>exact ⟨p2,⟨s2,q2,r2⟩,b2⟩
  | 3,_=>exact ⟨p3,⟨s3,q3,r3⟩,b3⟩
  | 4,_=>exact ⟨p4,⟨s4,q4,r4⟩,b4⟩
  | 5,_=>exact ⟨p5,⟨s5,q5,r5⟩,b5⟩
  | 6,h=>exact absurd rfl h
  | 0,_=>exact ⟨p7,⟨s7,q7,r7⟩,b7⟩
  | _+7,_=>exact ⟨p7,⟨s7,q7,r7⟩,b7⟩
 have h6b:∃cs t,W.heap[x6.block]? = some (.cells cs t (0,0)):=by rw[hx6];exact b1
 have h6n:x6≠a1∧x6≠a2∧x6≠a3∧x6≠a4∧x6≠a5∧x6≠a7:=⟨hx6n 1 (by omega) (by omega),hx6n 2 (by omega) (by omega),hx6n 3 (by omega) (by omega),hx6n 4 (by omega) (by omega),hx6n 5 (by omega) (by omega),hx6n 7 (by omega) (by omega)⟩
 have hap:∀k,1≤k→k≤7→k≠6→x6≠(match k with | 1=>a1 | 2=>a2 | 3=>a3 | 4=>a4 | 5=>a5 | 6=>x6 | _=>a7):=by
  intro k h1 h2 h6;rcases (by omega:k=1∨k=2∨k=3∨k=4∨k=5∨k=7) with rfl | rfl | rfl | rfl | rfl | rfl
  ·exact h6n.1
  ·exact h6n.2.1
  ·exact h6n.2.2.1
  ·exact h6n.2.2.2.1
  ·exact h6n.2.2.2.2.1
  ·exact h6n.2.2.2.2.2
 have ha6:(match 6 with | 1=>a1 | 2=>a2 | 3=>a3 | 4=>a4 | 5=>a5 | 6=>x6 | _=>a7)=x6:=rfl;obtain ⟨a,ha,ha6,hap⟩:∃a:Nat→Addr,(∀k,k≠6→Qdj W k (a k))∧a 6=x6∧∀k,1≤k→k≤7→k≠6→x6≠a k:=⟨_,hall,ha6,hap⟩;refine ⟨a,⟨fun i j hi1 hi2 hj1 hj2 hne e=>?_,Kah (hnib 0 (by decide)),Kah (hdb 0 (by decide))⟩,⟨⟨fun k hk=>⟨Kah (ha k hk).1,(ha k hk).1⟩,fun k h1 h2=>?_⟩,hnib,hdb,Nat.le_refl _⟩⟩
 ·by_cases h6i:i=6
  ·subst h6i;rw[ha6] at e;exact hap j hj1 hj2 (fun h=>hne h.symm) e
  ·by_cases h6j:j=6
   ·subst h6j;rw[ha6] at e;exact hap i hi1 hi2 h6i e.symm
   ·obtain ⟨si,ci,ti⟩:=(ha i h6i).2.1;obtain ⟨sj,cj,tj⟩:=(ha j h6j).2.1;rw[e,cj] at ci;injection ci with ci;injection ci with ci;refine Qgb i ?_ j ?_ hne ?_
    ·simp;omega
    ·simp;omega
    ·rw[←ti,←tj,ci]
 ·by_cases h6:k=6
  ·subst h6;rw[ha6];obtain ⟨cs,t,e⟩:=h6b;exact ⟨(Array.getElem?_eq_some_iff.1 e).1,cs,t,e⟩
  ·obtain ⟨c,t,e⟩:=(ha k h6).2.2;exact ⟨(Array.getElem?_eq_some_iff.1 e).1,c,t,e⟩
def Qib:DataW Unit→Array Value
 | .agg l=>(l.map fun | .lit (.int k v)=>Value.int k v | _=>undef).toArray
 | _=>#[]
noncomputable def Knr (os:Os):World:=
 let N:=(World.settled Tryz.prog os).heap.size
 let w0:=World.holding Tryz.prog os ⟨#[
  .cells #[.string ⟨(sentT 1).toArray⟩] 382,.cells #[.string ⟨(sentT 2).toArray⟩] 382,.cells #[.string ⟨(sentT 3).toArray⟩] 382,
  .cells #[.string ⟨(sentT 4).toArray⟩] 382,.cells #[.string ⟨(sentT 5).toArray⟩] 382,.cells #[.string ⟨(sentT 7).toArray⟩] 382],#[],[]⟩
 let put (h:Array Obj) (g:Nat) (k:Nat):Array Obj:=h.modify g fun
  | .cells _ t frozen=>.cells #[.iface 360 (.pointer (some ⟨N+k,0,none⟩))] t frozen
  | o=>o
 let tab (h:Array Obj) (g:Nat) (d:DataW Unit):Array Obj:=h.modify g fun
  | .cells _ t frozen=>.cells (Qib d) t frozen
  | o=>o
 { w0 with heap:=tab (tab (put (put (put (put (put (put w0.heap 6 0) 5 1) 3 2) 2 3) 4 4) 0 5)
  9 Rows.laid_math_bits_deBruijn64tab) 7 Rows.laid_almanac_enc_nibbles }
set_option maxRecDepth 1000000 in
theorem Qkg (os:Os) (args:Array Value):laidMet Tryz.prog Rows.ckptBackRow.laid ((Knr os).forCall (fun _ _=>0) ⟨#[],args,[]⟩).memory:=
 laidMet_of_run' 8 (by kernel_rfl) (by kernel_rfl)
theorem Qhs:(Rows.ckptBackUptoRow.inPlace == Tryz.pinned.checked.prog.inPlace 3)=true:=by kernel_rfl
theorem Qht:(Rows.ckptBackUptoRow.unfollowed == Tryz.pinned.checked.prog.unfollowed 3)=true:=by kernel_rfl
theorem Qhu:(Rows.ckptBackUptoRow.recurses == Tryz.pinned.checked.prog.recurses 3)=true:=by kernel_rfl
theorem Qhv:(Rows.ckptBackUptoRow.named == Tryz.pinned.checked.prog.varsNamed 3)=true:=by kernel_rfl
theorem Kyj:joinedFacts Tryz.pinned.checked.prog 3 Tryz.f3 (Rows.OpenSpec.upto Rows.ckptBackSpec).bare Rows.ckptBackUptoRow=true:=by
 unfold joinedFacts;simp only[Bool.and_eq_true]
 repeat' apply And.intro
 all_goals first | with_reducible exact Qhs | with_reducible exact Qht | with_reducible exact Qhu | with_reducible exact Qhv | kernel_rfl
theorem Kyl (os:Os) {H:Type} (enc:TypeId×Value→H):∃places,DataW.whole enc Tryz.prog ((Knr os).forCall (fun _ _=>0) ⟨#[],#[.slice none 0 0],[]⟩).memory Tryz.f3.params.toList Rows.ckptBackSpec.vars false #[Value.slice none 0 0].toList 8=some ([.nil],[],places):=
 ⟨[],by kernel_rfl⟩
theorem Kql (H:Type) (enc:TypeId×Value→H) (W:World) (base:Nat) (args:Array Value) (ds gs:List (DataW H)) (before:List MemPlace)
  (hval0:∀(j:Nat) t v,Tryz.f3.params[j]? = some t→args[j]? = some v→Value.okWide Tryz.prog W .any base t v)
  (hW:DataW.Whole enc Tryz.prog Tryz.f3.params.toList Rows.ckptBackSpec.vars false W args.toList ds gs before) (hsz0:(DataW.weightsEach Tryz.prog (Tryz.f3.params.toList++Rows.ckptBackSpec.plain.varTypes Tryz.prog) (ds++gs)).all (·≤reachBytes)=true) (hk0:Rows.uptoSmall H (ds++gs)=true) (hL:laidMetH Tryz.prog Rows.ckptBackRow.laid W) :
  Calls Tryz.prog 3 args W fun e W'=>∃v,e = .returned v∧Rows.ckptBackSpec.post enc Tryz.prog Tryz.f3 false true false false W args v W':=by
 have hval:=hval0;have hW':=hW;have hsz:=hsz0;obtain ⟨p,q,hA0,hV,rfl,_,_⟩:=hW;have hA:DataW.TrodAll enc Tryz.prog W 0 (fun _=>true) true Tryz.f3.params.toList args.toList ds p:=hA0;rw[Tryz.params3] at hA hval hsz;obtain ⟨v0,d0,rfl,rfl,h0⟩:=trodAll_one hA;obtain ⟨rfl,rfl⟩:=trodVars_none hV;clear hA0 hval0 hsz0;simp only[List.append_nil] at hW';simp only[List.append_nil] at hk0;have hbulk:=Qhf hk0;simp only[Rows.uptoBulkAll,Nat.add_zero] at hbulk;have hlt:∀x∈p,x.block < W.heap.size:=fun x hx=>by simpa using hW'.lt x (by simpa using hx)
 have hargs:∀(W':World),Below W.heap.size W W'→DataW.TrodAll enc Tryz.prog W' 0 (fun b=>decide (b < W.heap.size)) true [22] [v0] [d0] (p):=
  fun W' hn=>trodAll_mk1 (Below.trod Tryz.laidOut (by kernel_rfl) (of_decide_eq_true (by kernel_rfl)) h0 hn (fun x hx=>hlt x (by simp[hx])))
 obtain ⟨fu0,hf0⟩:=id h0;obtain ⟨x0,y0,z0,rfl⟩:=okWide_slice Tryz.underlying22 (hval 0 22 v0 rfl rfl);obtain ⟨A0,n0,c0,L0,he0,hA0,hS0,hb0⟩:=Qcd hf0;injection he0 with x0e y0e z0e;subst x0e y0e z0e;obtain ⟨a,hC,hE⟩:=Qez hL;refine (Kqd L0 x0 y0 z0 W hS0 (hb0 (by dsimp only at *;omega)) hC hE).mono fun e W' ⟨he,hb⟩=>?_
 subst he;exact ⟨_,rfl,_,_,_,[],_,[],hW',trodAll_mk1 (shut_bool Tryz.underlying4 true),hargs _ hb,rfl,hb.frame _,fun h=>by cases h⟩
theorem Kvl (os:Os) (started:os.Started) (H:Type) (enc:TypeId×Value→H) (F:Stop.Interp) :
  ReturnsInHanded {} Tryz.checked os 3 .any ((Rows.OpenSpec.upto Rows.ckptBackSpec).preRow enc Tryz.prog Tryz.f3 Rows.ckptBackUptoRow.domain false Rows.ckptBackUptoRow.laid) (((Rows.OpenSpec.upto Rows.ckptBackSpec).at F).post enc Tryz.prog Tryz.f3 false true false false):=by
 obtain ⟨places,hx⟩:=Kyl os enc
 refine returnsInHanded_of_row (C:=Tryz.checked) (s:=Rows.OpenSpec.upto Rows.ckptBackSpec) Tryz.own started (by kernel_rfl) Tryz.func3
  (witness_row_atRef (enc:=enc) (C:=Tryz.checked) false (Knr os) #[.slice none 0 0] rfl (by kernel_rfl) (by kernel_rfl) (by kernel_rfl)
   (OpenSpec.preRow_of_cond 8 hx (by kernel_rfl) (fun k hk=>by cases hk;kernel_rfl) (by kernel_rfl) (Qkg os _))) ?_
 intro W base args ds gs before hval hW _ hcond hsz hL _ _;exact Kql H enc W base args ds gs before hval hW hsz (hcond _ rfl) hL
theorem Qbw:Rows.CkptBackUptoSaid:=
 OpenClaim.holds_of_cond 3 Tryz.f3 rfl rfl rfl rfl rfl rfl rfl ⟨rfl,rfl,rfl,rfl,rfl⟩ rfl rfl rfl rfl rfl (by kernel_rfl) Tryz.func3 Kyj
  (of_decide_eq_true (by kernel_rfl)) (by unfold Func.isWrapper;first | (rw[if_pos (by decide +kernel)];kernel_rfl) | (rw[if_neg (by decide +kernel)];exact ⟨rfl,rfl⟩))
  (fun os started H enc _ F=>by rw[OpenClaim.pre_eq_preRow];exact Kvl os started H enc F)
theorem Kyk (f:FuncId) (fn:Func) (hf:Tryz.pinned.checked.prog.funcNamed "almanac/almanaclaw17.CkptBack" = some f) (hfn:Tryz.pinned.checked.prog.funcs[f]? = some fn) :
  true = Tryz.pinned.checked.prog.looks []∧∀(j:Nat) t,fn.params[j]? = some t→Tryz.pinned.checked.prog.wantsStandIn t=false:=by
 obtain rfl:f = 3:=Option.some.inj ((show Tryz.prog.funcNamed "almanac/almanaclaw17.CkptBack" = some 3 by kernel_rfl).symm.trans hf) |>.symm;obtain rfl:fn = Tryz.f3:=(Option.some.inj (Tryz.func3.symm.trans hfn)).symm;refine ⟨by kernel_rfl,fun j t ht=>?_⟩;rw[Tryz.params3] at ht;have hm:t = 22:=by simpa using Array.mem_of_getElem? ht
 subst hm;exact (show Tryz.prog.wantsStandIn 22 = false by kernel_rfl)
theorem ckptBack_holds:Rows.CkptBackUptoCardSaid:=
 Claim7.holds_tied_plain_at .later [] _ _ _ _ Qbw (fun _ h=>by cases h) (by kernel_rfl) (fun _ h=>by cases h) ckptBackUpto_row_tie rfl ⟨rfl,rfl⟩ (by kernel_rfl) rfl Kyk (by kernel_rfl)
end
end Go.Proofs.YtefpndiiedkmpaaGreatDoor
