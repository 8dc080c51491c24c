/- Merged (what the claim wants of): ErrIs, StoPut, KptSave, KptLawA, KptLawB, OpenS, KptOpen, KptPut, KptFull, DskLaid, KptD, KptProofFF, KptProofF. -/
import Derived.Test.YtefpndiiedkmpaaGreatDoorKpf13
import Derived.LaidEql
import Derived.Stop.Asserts
import Derived.RowKitTokens
import Derived.Test.YtefpndiiedkmpaaGreatDoorKpf02
import Derived.Test.YtefpndiiedkmpaaGreatDoorKpf05
import Derived.Test.YtefpndiiedkmpaaGreatDoorKpf10
import Derived.Test.YtefpndiiedkmpaaGreatDoorRows
import Derived.ProofKit
import Derived.SizedLaws
import Derived.OpenShut
import Derived.ChangeMaps5
import Derived.Test.YtefpndiiedkmpaaGreatDoorKpf01
import Derived.Deep.Slices
import Derived.Test.YtefpndiiedkmpaaGreatDoorKpf03
import Derived.Stop.LaidTwo
import Derived.Test.YtefpndiiedkmpaaGreatDoorCards
import Derived.Test.YtefpndiiedkmpaaGreatDoorTie
import Derived.WalkKit
import Derived.Deep.DeepHandedRow
import Derived.Deep.DeepWitnessRowRef
import Derived.Lib.LaidTab
set_option linter.unusedVariables false
set_option linter.unusedSimpArgs false
set_option maxRecDepth 100000
set_option maxHeartbeats 8000000
namespace Go.Proofs.YtefpndiiedkmpaaGreatDoor
section
open Go.RowKit Go.Extern.Stop Go.Stop Go.Extern
attribute [local go_sem ↓] Go.wp_at_zero Go.wp_at_succ
theorem Qdp (v:Value) (w:World):(Extern.ReflectliteType.typeOf #[.iface 360 v]).run Tryz.prog w = .ok (.iface 259 (.agg #[.pointer (some ⟨Tryz.prog.globals.size,360,none⟩)])) w:=by kernel_rfl
def cmpM:Array Value→Sem Value:=Extern.ReflectliteType.method fun t=>do Extern.Rtype.noPackHeld "Comparable" t;pure (.bool (←typeInfo t).comparable)
theorem Kso (w:World):(cmpM #[.agg #[.pointer (some ⟨Tryz.prog.globals.size,360,none⟩)]]).run Tryz.prog w = .ok (.bool true) w:=by kernel_rfl
theorem Qgl (v:Value) (xT:TypeId) (w:World):(Instr.typeAssert (.iface 360 v) xT 261 true).run Tryz.prog w = .ok (.tuple #[.nilIface,.bool false]) w:=run_typeAssert_lacksB Tryz.underlying261 (by kernel_rfl) (by kernel_rfl) v xT w
theorem Kux (v:Value) (xT:TypeId) (w:World):(Instr.typeAssert (.iface 360 v) xT 264 true).run Tryz.prog w = .ok (.tuple #[.nilIface,.bool false]) w:=run_typeAssert_lacksB Tryz.underlying264 (by kernel_rfl) (by kernel_rfl) v xT w
theorem Ksq (v:Value) (xT:TypeId) (w:World):(Instr.typeAssert (.iface 360 v) xT 265 true).run Tryz.prog w = .ok (.tuple #[.nilIface,.bool false]) w:=run_typeAssert_lacksB Tryz.underlying265 (by kernel_rfl) (by kernel_rfl) v xT w
theorem Qgm (v:Value) (xT:TypeId) (w:World):(Instr.typeAssert (.iface 56 v) xT 261 true).run Tryz.prog w = .ok (.tuple #[.nilIface,.bool false]) w:=run_typeAssert_lacksB Tryz.underlying261 (by kernel_rfl) (by kernel_rfl) v xT w
theorem Ksp (v:Value) (xT:TypeId) (w:World):(Instr.typeAssert (.iface 56 v) xT 264 true).run Tryz.prog w = .ok (.tuple #[.iface 56 v,.bool true]) w:=run_typeAssert_hasB Tryz.underlying264 (by kernel_rfl) v xT w
section
variable {B0 : Nat} {a : Nat → Addr}
theorem Qaq (q i j:Nat) (op path:ByteArray) (w:World) (hq:Blk w q 59 #[.string op,.string path,failV a i]) (hs:Sents B0 a w) (ha:Apart a) (h1:1≤i) (h2:i≤7) (h3:1≤j) (h4:j≤7) :
  Calls Tryz.prog 113 #[.iface 56 (.pointer (some ⟨q,0,none⟩)),failV a j,.bool true] w fun e w'=>e = .returned (.bool (decide (i=j)))∧w=w':=by
 have m2:w.cell? ⟨q,2,none⟩=some (failV a i):=hq.cell 2;have nF:=Qgm;have uF:=Ksp;have nE:=Qgl;have uE:=Kux;have vE:=Ksq;have hty:=run_eql_iface_types (P:=Tryz.prog) 56 360 (.pointer (some ⟨q,0,none⟩)) (.pointer (some (a j))) Tryz.underlying40 (by decide) w
 by_cases hij:i=j
 ·subst hij;have heq:=Qdc (a:=a) i w;rw[decide_eq_true rfl];unfold failV at m2 heq ⊢;clear hq hs ha;go_enter Tryz.func113,Tryz.ntmps113
  go_wp2
  refine wp_loop_rounds 2 ?_;rw[rounds_succ];go_wp2
  rw[rounds_succ];go_wp2
  go_ret
  exact ⟨rfl,rfl⟩
 ·have hne:=Qkq (w:=w) hs ha h1 h2 h3 h4 hij;rw[decide_eq_false hij];unfold failV at m2 hne ⊢;clear hq hs ha;go_enter Tryz.func113,Tryz.ntmps113
  go_wp2
  refine wp_loop_rounds 2 ?_;rw[rounds_succ];go_wp2
  rw[rounds_succ];go_wp2
  go_ret
  exact ⟨rfl,rfl⟩
theorem Qdo (q i j:Nat) (op path:ByteArray) (w:World) (hq:Blk w q 59 #[.string op,.string path,failV a i]) (hs:Sents B0 a w) (ha:Apart a) (h1:1≤i) (h2:i≤7) (h3:1≤j) (h4:j≤7) :
  Calls Tryz.prog 55 #[.iface 56 (.pointer (some ⟨q,0,none⟩)),failV a j] w fun e w'=>e = .returned (.bool (decide (i=j)))∧w=w':=by
 have HI:=Lib.hid (Qaq q i j op path w hq hs ha h1 h2 h3 h4);have h8:=@run_callFunc_extern Tryz.prog 112 _ Extern.ReflectliteType.typeOf Tryz.func112 (by kernel_rfl) (by kernel_rfl) (by kernel_rfl) (by kernel_rfl);have h32:=@run_callFunc_extern Tryz.prog 299 _ cmpM Tryz.func299 (by kernel_rfl) (by kernel_rfl) (by kernel_rfl) (by kernel_rfl);have tT:=Qdp;have cT:=Kso;obtain ⟨gs,hgs⟩:∃g,Tryz.prog.globals.size=g:=⟨_,rfl⟩;rw[hgs] at cT;simp only[hgs] at tT;clear hgs;unfold failV at HI ⊢;clear hq hs ha;go_enter Tryz.func55,Tryz.ntmps55
 go_wp2_with fail
 refine HI.out.mono ?_;rintro e w' ⟨rfl,rfl⟩;go_wp2_with fail
 go_ret
 exact ⟨rfl,rfl⟩
theorem Kuw (j:Nat) (w:World) :
  Calls Tryz.prog 55 #[.nilIface,failV a j] w fun e w'=>e = .returned (.bool false)∧w=w':=by
 have hn:=run_eql_iface_nil_left (P:=Tryz.prog) w 360 (.pointer (some (a j))) Tryz.underlying40;unfold failV;go_enter Tryz.func55,Tryz.ntmps55
 go_wp2_with fail
 go_ret
 exact ⟨rfl,rfl⟩
end
end
section
open Go.RowKit Go.Shelf Go.Sort
open Lib renaming hid → Jh
attribute [local go_sem ↓] Go.wp_at_zero Go.wp_at_succ
attribute [local go_sem] Later.cell
section
variable {B0 M p : Nat} {a : Nat → Addr} {R : Nat → Nat} {d : Ds}
theorem Qbd (bd bf:Nat) (F:ByteArray) (w:World) (hD:Dk B0 M w R p d) (hM:M≤536870912) (hB:B0≤w.heap.size) (hF:Fails B0 a w) (hS:F.size≤1073741824)
  (h1:Blk w bd 37 #[.pointer (some ⟨p,0,none⟩)]) (h2:Blk w bf 9 #[.string F]) :
  Calls Tryz.prog 56 #[.pointer (some ⟨bd,0,none⟩),.pointer (some ⟨bf,0,none⟩)] w (DkOut a B0 (M+1) R p (Kbe d F.data.toList) w):=by
 have m1:=h1.cell 0;have m2:=h2.cell 0;have HC:=Jh (hD.create hM hB hF F hS);clear hD hF h1 h2;go_enter Tryz.func56,Tryz.ntmps56
 go_wp2_with fail
 refine HC.out.mono ?_;rintro e w1 ⟨v,R1,rfl,hk⟩;go_wp2_with fail
 go_ret
 exact ⟨v,R1,rfl,hk⟩
theorem Qbe (bd bf bt:Nat) (F T:ByteArray) (w:World) (hD:Dk B0 M w R p d) (hM:M≤536870912) (hB:B0≤w.heap.size) (hF:Fails B0 a w) (hS:F.size≤1073741824) (hT:T.size≤140737488351232)
  (h1:Blk w bd 37 #[.pointer (some ⟨p,0,none⟩)]) (h2:Blk w bf 9 #[.string F]) (h3:Blk w bt 9 #[.string T]) :
  Calls Tryz.prog 58 #[.pointer (some ⟨bd,0,none⟩),.pointer (some ⟨bf,0,none⟩),.pointer (some ⟨bt,0,none⟩)] w (DkOut a B0 (M+T.size+1) R p (Kbk d F.data.toList T.data.toList) w):=by
 have m1:=h1.cell 0;have m2:=h2.cell 0;have m3:=h3.cell 0;have hb:Below w.heap.size w (w.alloc (.cells #[.string T] 9)):=(Below.refl _ _).alloc (Nat.le_refl _) _;have HC:=Jh ((hD.below hb).append hM (by have:=hb.size;omega) (hF.below (hb.mono hB)) F hS _ _ (Kwf (Blk.new w 9 #[.string T])) hT);have HB:=Jh hb;clear hD hF h1 h2 h3 hb;go_enter Tryz.func58,Tryz.ntmps58
 go_wp2_with fail
 refine HC.out.mono ?_;rintro e w1 ⟨v,R1,rfl,hk1,hk2,hk3⟩;go_wp2_with fail
 go_ret
 exact ⟨v,R1,rfl,hk1,hk2,(Out.of_below HB.out).trans hk3⟩
theorem Qbf (bd bf:Nat) (F:ByteArray) (w:World) (hD:Dk B0 M w R p d) (hM:M≤536870912) (hB:B0≤w.heap.size) (hF:Fails B0 a w) (hS:F.size≤1073741824)
  (h1:Blk w bd 37 #[.pointer (some ⟨p,0,none⟩)]) (h2:Blk w bf 9 #[.string F]) :
  Calls Tryz.prog 60 #[.pointer (some ⟨bd,0,none⟩),.pointer (some ⟨bf,0,none⟩)] w (DkOut a B0 (M+1) R p (syncD d F.data.toList) w):=by
 have m1:=h1.cell 0;have m2:=h2.cell 0;have HC:=Jh (hD.sync hM hB hF F hS);clear hD hF h1 h2;go_enter Tryz.func60,Tryz.ntmps60
 go_wp2_with fail
 refine HC.out.mono ?_;rintro e w1 ⟨v,R1,rfl,hk⟩;go_wp2_with fail
 go_ret
 exact ⟨v,R1,rfl,hk⟩
theorem Qbg (bd bf bp:Nat) (F P:ByteArray) (w:World) (hD:Dk B0 M w R p d) (hM:M≤536870912) (hB:B0≤w.heap.size) (hF:Fails B0 a w) (hS:F.size≤1073741824) (hP:P.size≤1073741824)
  (h1:Blk w bd 37 #[.pointer (some ⟨p,0,none⟩)]) (h2:Blk w bf 9 #[.string F]) (h3:Blk w bp 9 #[.string P]) :
  Calls Tryz.prog 62 #[.pointer (some ⟨bd,0,none⟩),.pointer (some ⟨bf,0,none⟩),.pointer (some ⟨bp,0,none⟩)] w (DkOut a B0 (M+1) R p (Kak d F.data.toList P.data.toList) w):=by
 have m1:=h1.cell 0;have m2:=h2.cell 0;have m3:=h3.cell 0;have HC:=Jh (hD.rename hM hB hF F P hS hP);clear hD hF h1 h2 h3;go_enter Tryz.func62,Tryz.ntmps62
 go_wp2_with fail
 refine HC.out.mono ?_;rintro e w1 ⟨v,R1,rfl,hk⟩;go_wp2_with fail
 go_ret
 exact ⟨v,R1,rfl,hk⟩
structure Env5 (B0:Nat) (a:Nat→Addr) (w:World):Prop where
 f:Fails B0 a w
 s:Sents B0 a w
theorem Env5.below {w w':World} (h:Env5 B0 a w) (hb:Below B0 w w'):Env5 B0 a w':=⟨h.f.below hb,h.s.below hb⟩
theorem Env5.out {R R':Nat→Nat} {w w':World} {M':Nat} (h:Env5 B0 a w) (ho:Out R R' w w') (hB:B0≤w.heap.size) (hD:Dk B0 M' w R p d):Env5 B0 a w':=h.below (ho.below hB hD.low)
theorem Qap {w:World} {k:Nat} {v:Value} (hv:ErrW a w R k v) (hk:k≤7) (hs:Sents B0 a w) (ha:Apart a) :
  Calls Tryz.prog 55 #[v,.iface 360 (.pointer (some (a 4)))] w fun e w'=>e = .returned (.bool (decide (k=4)))∧w=w':=by
 cases k with
 | zero=>
  obtain rfl:v = .nilIface:=hv;exact Kuw 4 w
 | succ k=>
  obtain ⟨q,op,path,rfl,h1,h2⟩:=hv;exact Qdo q (k+1) 4 op path w h1 hs ha (by omega) hk (by omega) (by omega)
theorem Kgi {F:Txt} {f:Ds→Nat×Ds} {l:List (Ds→Nat×Ds)} {r:Nat×Ds} (h:r.1≠0):putL F (f :: l) r=(r.1,(Kaq r.2 F).2):=by rw[putL,if_neg h]
theorem Kip {F:Txt} {f:Ds→Nat×Ds} {l:List (Ds→Nat×Ds)} {r:Nat×Ds} (h:r.1=0):putL F (f :: l) r=putL F l (f r.2):=by rw[putL,if_pos h]
structure PutB (b p:Nat) (P T F:ByteArray) (w:World) (R:Nat→Nat):Prop where
 bd:Blk w b 37 #[.pointer (some ⟨p,0,none⟩)]
 bp:Blk w (b+1) 9 #[.string P]
 bt:Blk w (b+2) 9 #[.string T]
 bf:Blk w (b+3) 9 #[.string F]
 rd:R b=0
 rp:R (b+1)=0
 rt:R (b+2)=0
 rf:R (b+3)=0
theorem PutB.out {b:Nat} {P T F:ByteArray} {w w':World} {R R':Nat→Nat} (h:PutB b p P T F w R) (ho:Out R R' w w'):PutB b p P T F w' R':=
 ⟨ho.blk h.bd h.rd,ho.blk h.bp h.rp,ho.blk h.bt h.rt,ho.blk h.bf h.rf,ho.old _ h.bd.lt h.rd,ho.old _ h.bp.lt h.rp,ho.old _ h.bt.lt h.rt,ho.old _ h.bf.lt h.rf⟩
def putF (b p i:Nat):Value:=
 #[.func (.func 56) #[] #[.pointer (some ⟨b,0,none⟩),.pointer (some ⟨b+3,0,none⟩)],.func (.func 58) #[] #[.pointer (some ⟨b,0,none⟩),.pointer (some ⟨b+3,0,none⟩),.pointer (some ⟨b+2,0,none⟩)],
  .func (.func 60) #[] #[.pointer (some ⟨b,0,none⟩),.pointer (some ⟨b+3,0,none⟩)],.func (.func 62) #[] #[.pointer (some ⟨b,0,none⟩),.pointer (some ⟨b+3,0,none⟩),.pointer (some ⟨b+1,0,none⟩)],
  .func (.func 64) #[.pointer (some ⟨p,0,none⟩)] #[]].getD i undef
def putRow (b p:Nat):Array Value:=#[putF b p 0,putF b p 1,putF b p 2,putF b p 3,putF b p 4]
def Kem (F P T:Txt):List (Ds→Nat×Ds):=[(Kbe · F),(Kbk · F T),(syncD · F),(Kak · F P),Kax]
def putM (M t i:Nat):Nat:=M+1+i+(if i < 2 then 0 else t)
structure PutI (B0 M p:Nat) (a:Nat→Addr) (R:Nat→Nat) (w:World) (b g:Nat) (P T F:ByteArray) (res:Nat×Ds) (i:Nat) (v:Value) (R':Nat→Nat) (r:Nat×Ds) (wr:World):Prop where
 blks:PutB b p P T F wr R'
 row:Blk wr g 141 (putRow b p)
 rr:R' g=0
 err:ErrW a wr R' r.1 v
 dk:Dk B0 (putM M T.size i) wr R' p r.2
 out:Out R R' w wr
 env:Env5 B0 a wr
 left:putL F.data.toList ((Kem F.data.toList P.data.toList T.data.toList).drop i) r=res
theorem Kgn (P T:ByteArray) (w:World) (hD:Dk B0 M w R p d) (hM:M+T.size+8≤536870912) (hB:B0≤w.heap.size) (hE:Env5 B0 a w) (hA:Apart a) (hP:P.size≤1000000000) :
  Calls Tryz.prog 20 #[.pointer (some ⟨p,0,none⟩),.string P,.string T] w (DkOut a B0 (M+T.size+7) R p (putD d P.data.toList T.data.toList) w):=by
 obtain ⟨b,hb⟩:∃b,w.heap.size=b:=⟨_,rfl⟩;have HB:=Jh hb;obtain ⟨F,hF⟩:∃F:ByteArray,P++(⟨#[46,110,101,119]⟩:ByteArray)=F:=⟨_,rfl⟩;have hFd:F.data.toList=P.data.toList++Kcb:=by rw[←hF];simp[Kcb]
 have hFs:F.size≤1073741824:=by rw[←hF,ByteArray.size_append];show P.size+4≤_;omega
 obtain ⟨W,hW⟩:∃W,(((w.alloc (.cells #[.pointer (some ⟨p,0,none⟩)] 37)).alloc (.cells #[.string P] 9)).alloc (.cells #[.string T] 9)).alloc (.cells #[.string F] 9)=W:=⟨_,rfl⟩;have hbl:Below w.heap.size w W:=by rw[←hW];exact ((((Below.refl _ _).alloc (Nat.le_refl _) _).alloc (by simp) _).alloc (by simp;omega) _).alloc (by simp;omega) _
 have HPB:Hid (PutB b p P T F W R):=Jh (by
  rw[←hW,←hb]
  exact ⟨(((Blk.new _ _ _).alloc _).alloc _).alloc _,((Blk.newAt (by simp)).alloc _).alloc _,(Blk.newAt (by simp)).alloc _,Blk.newAt (by simp),hD.new (by omega),hD.new (by omega),hD.new (by omega),hD.new (by omega)⟩)
 have HD:=Jh (hD.below hbl);have HE:=Jh (hE.below (hbl.mono hB));have HO:Hid (Out R R w W):=Jh (Out.of_below hbl);have HBW:Hid (B0≤W.heap.size):=Jh (Nat.le_trans hB hbl.size);have HA:=Jh hA;have HB0:=Jh hB;have HW:=Jh hW;have HFD:=Jh hFd;clear hD hE hA hbl hb hW hFd hB;go_enter Tryz.func20,Tryz.ntmps20
 go_upto_region 2 with fail
 have hW2:(((w.alloc (.cells #[.pointer (some ⟨p,0,none⟩)] 37)).alloc (.cells #[.string P] 9)).alloc (.cells #[.string T] 9)).alloc (.cells #[.string F] 9)=W:=HW.out;have hb2:w.heap.size=b:=HB.out;rw[hW2,hb2];clear hW2 hb2;have x0:W.cell? ⟨b,0,none⟩=some (.pointer (some ⟨p,0,none⟩)):=HPB.out.bd.cell 0;have x3:W.cell? ⟨b+3,0,none⟩=some (.string F):=HPB.out.bf.cell 0;go_wp2_with fail
 refine (HD.out.remove (by omega) HBW.out HE.out.f F hFs).mono ?_;rintro e w1 ⟨v1,R1,rfl,hv1,hd1,ho1⟩;have HB1:=Jh (HPB.out.out ho1);have HO1:=Jh (HO.out.trans ho1);have HE1:=Jh (HE.out.out ho1 HBW.out HD.out);have HW1:Hid (B0≤w1.heap.size):=Jh (Nat.le_trans HBW.out ho1.size);have HK:=Jh (Qbk d F.data.toList);have HG:Hid (goneD d F.data.toList=(if (Kaq d F.data.toList).1=4 then 0 else (Kaq d F.data.toList).1,(Kaq d F.data.toList).2)):=Jh rfl;obtain ⟨r1,hr1⟩:∃r,Kaq d F.data.toList=r:=⟨_,rfl⟩;rw[hr1] at hv1 hd1 HK HG;have HV1:=Jh hv1;have HD1:=Jh hd1;have m4:w1.cell? ⟨2,0,none⟩=some (.iface 360 (.pointer (some (a 4)))):=(HE1.out.f 4 (by decide)).2;clear hr1 hv1 hd1 ho1 x0 x3;go_upto_if 18 with (go_at_call 55;refine (Qap HV1.out HK.out HE1.out.s HA.out).mono ?_;rintro e w2 ⟨rfl,rfl⟩)
 go_cut [8] (fun s8 wz=>∃v2:Value,v2=s8∧wz=w1∧ErrW a w1 R1 (if r1.1=4 then 0 else r1.1) v2)
 case first=>
  by_cases h4:r1.1=4
  ·have d4:decide (r1.1=4)=true:=decide_eq_true h4;go_wp2_with fail
   go_meet
   refine ⟨_,rfl,rfl,?_⟩;rw[if_pos h4];rfl
  ·have d4:decide (r1.1=4)=false:=decide_eq_false h4;go_wp2_with fail
   go_meet
   refine ⟨_,rfl,rfl,?_⟩;rw[if_neg h4];exact HV1.out
 case rest=>
  obtain ⟨v2,rfl,rfl,hv2⟩:=hcut;obtain ⟨r2,hr2⟩:∃r:Nat×Ds,((if r1.1=4 then 0 else r1.1,r1.2):Nat×Ds)=r:=⟨_,rfl⟩;have hv3:ErrW a wc R1 r2.1 v2:=by rw[←hr2];exact hv2
  have hd3:Dk B0 (M+1) wc R1 p r2.2:=by rw[←hr2];exact HD1.out
  obtain ⟨res,hres⟩:∃r,putD d P.data.toList T.data.toList=r:=⟨_,rfl⟩
  have hl3:putL F.data.toList (Kem F.data.toList P.data.toList T.data.toList) r2=res:=by
   rw[←hres,←hr2,←HG.out];unfold putD Kem;rw[←HFD.out]
  have HRES:=Jh hres;have HL3:=Jh hl3;have HV3:=Jh hv3;have HD3:=Jh hd3;clear hr2 hv2 hv3 hd3 hl3 hres m4;obtain ⟨w1,rfl⟩:∃x,x=wc:=⟨_,rfl⟩;have x0:w1.cell? ⟨b,0,none⟩=some (.pointer (some ⟨p,0,none⟩)):=HB1.out.bd.cell 0;go_upto_region 6 with fail
  obtain ⟨g,hg⟩:∃g,w1.heap.size=g:=⟨_,rfl⟩;obtain ⟨w2,hw2⟩:∃x,w1.alloc (.cells (putRow b p) 141)=x:=⟨_,rfl⟩;have hb2:Below w1.heap.size w1 w2:=by rw[←hw2];exact (Below.refl _ _).alloc (Nat.le_refl _) _
  have HI:Hid (PutI B0 M p a R w b g P T F res 0 v2 R1 r2 w2):=Jh (by
   have ho:=Out.of_below (R:=R1) hb2;refine ⟨HB1.out.out ho,?_,?_,HV3.out.out ho,?_,HO1.out.trans ho,HE1.out.below (hb2.mono HW1.out),HL3.out⟩
   ·rw[←hw2,←hg];exact Blk.new _ _ _
   ·rw[←hg];exact HD3.out.new (Nat.le_refl _)
   ·exact (HD3.out.below hb2))
  have HBG:Hid (B0≤w2.heap.size):=Jh (Nat.le_trans HW1.out hb2.size)
  have hrow:(Obj.cells #[.func (.func 56) #[] #[.pointer (some ⟨b,0,none⟩),.pointer (some ⟨b+1+1+1,0,none⟩)],.func (.func 58) #[] #[.pointer (some ⟨b,0,none⟩),.pointer (some ⟨b+1+1+1,0,none⟩),.pointer (some ⟨b+1+1,0,none⟩)],
   .func (.func 60) #[] #[.pointer (some ⟨b,0,none⟩),.pointer (some ⟨b+1+1+1,0,none⟩)],.func (.func 62) #[] #[.pointer (some ⟨b,0,none⟩),.pointer (some ⟨b+1+1+1,0,none⟩),.pointer (some ⟨b+1,0,none⟩)],
   .func (.func 64) #[.pointer (some ⟨p,0,none⟩)] #[]] 141 : Obj) = .cells (putRow b p) 141:=rfl
  rw[hrow,hw2,hg];clear hrow hw2 hg hb2 x0;go_loopg [8,27] 5 (fun gh s8 s27 wr=>∃(i:Nat) (R':Nat→Nat) (r:Nat×Ds) (v:Value),i+gh=5∧v=s8∧s27 = .int .i64 (i:Int)∧PutI B0 M p a R w b g P T F res i v R' r wr)
  case atStart=>exact ⟨0,R1,r2,_,rfl,rfl,rfl,HI.out⟩
  case round=>
   obtain ⟨i,R',r,v,hig,rfl,rfl,hi⟩:=hrel
   by_cases h5:i < 5
   ·have el:decide ((i:Int) < 5)=true:=by simp;omega
    rcases (by omega:i=0∨i=1∨i=2∨i=3∨i=4) with rfl | rfl | rfl | rfl | rfl
    ·
     have hBr:B0≤wr.heap.size:=Nat.le_trans HB0.out hi.out.size;have m0:wr.cell? ⟨g,0,none⟩=some (putF b p 0):=hi.row.cell 0;have HC:=Jh (Qbd b (b+3) F wr hi.dk (by show M+1+0+0≤_;omega) hBr hi.env.f hFs hi.blks.bd hi.blks.bf);have HX:=Jh (hi.dk.remove (a:=a) (by show M+1+0+0≤_;omega) hBr hi.env.f F hFs);have x0:wr.cell? ⟨b,0,none⟩=some (.pointer (some ⟨p,0,none⟩)):=hi.blks.bd.cell 0;have x3:wr.cell? ⟨b+3,0,none⟩=some (.string F):=hi.blks.bf.cell 0;have HI2:=Jh hi;have HBR:=Jh hBr;unfold putF at m0;simp at m0;clear hi hBr;rcases Nat.eq_zero_or_pos r.1 with hz | hz
     ·obtain rfl:=HI2.out.err.nil hz;have HZ:=Jh hz;clear hz;go_wp2_with fail
      refine HC.out.mono ?_;rintro e w3 ⟨v3,R3,rfl,hv3,hd3,ho3⟩
      have HI3:Hid (PutI B0 M p a R w b g P T F res 1 v3 R3 (Kbe r.2 F.data.toList) w3):=Jh
       ⟨HI2.out.blks.out ho3,ho3.blk HI2.out.row HI2.out.rr,ho3.old _ HI2.out.row.lt HI2.out.rr,hv3,hd3.more (by show _≤M+1+1+0;show M+1+0+0+1≤_;omega),HI2.out.out.trans ho3,HI2.out.env.out ho3 HBR.out HI2.out.dk,by
        rw[←HI2.out.left]
        exact (Kip (f:=(Kbe · F.data.toList)) (l:=(Kem F.data.toList P.data.toList T.data.toList).drop 1) HZ.out).symm⟩
      clear hv3 hd3 ho3 m0 x0 x3;go_wp2_with fail
      go_roundg (gk - 1)
      case measure=>omega
      case rel=>exact ⟨1,R3,_,_,by omega,rfl,by go_num,HI3.out⟩
     ·obtain ⟨q,op,path,rfl,hq1,hq2⟩:=HI2.out.err.some_ (by omega);have HZ:=Jh hz;clear hz hq1 hq2;go_wp2_with fail
      refine HX.out.mono ?_;rintro e w3 ⟨v3,R3,rfl,hv3,hd3,ho3⟩;have HO3:=Jh ho3;have HD3:=Jh hd3;clear hv3 hd3 ho3 m0 x0 x3;go_wp2_with fail
      go_ret
      have hres:res=(r.1,(Kaq r.2 F.data.toList).2):=by
       rw[←HI2.out.left];exact Kgi (by have:=HZ.out;omega)
      rw[HRES.out,hres];exact ⟨_,R3,rfl,HI2.out.err.out HO3.out,HD3.out.more (by show M+1+0+0+1≤_;omega),HI2.out.out.trans HO3.out⟩
    ·
     have hBr:B0≤wr.heap.size:=Nat.le_trans HB0.out hi.out.size;have m0:wr.cell? ⟨g,1,none⟩=some (putF b p 1):=hi.row.cell 1;have HC:=Jh (Qbe b (b+3) (b+2) F T wr hi.dk (by show M+1+1+0≤_;omega) hBr hi.env.f hFs (by omega) hi.blks.bd hi.blks.bf hi.blks.bt);have HX:=Jh (hi.dk.remove (a:=a) (by show M+1+1+0≤_;omega) hBr hi.env.f F hFs);have x0:wr.cell? ⟨b,0,none⟩=some (.pointer (some ⟨p,0,none⟩)):=hi.blks.bd.cell 0;have x3:wr.cell? ⟨b+3,0,none⟩=some (.string F):=hi.blks.bf.cell 0;have HI2:=Jh hi;have HBR:=Jh hBr;unfold putF at m0;simp at m0;clear hi hBr;rcases Nat.eq_zero_or_pos r.1 with hz | hz
     ·obtain rfl:=HI2.out.err.nil hz;have HZ:=Jh hz;clear hz;go_wp2_with fail
      refine HC.out.mono ?_;rintro e w3 ⟨v3,R3,rfl,hv3,hd3,ho3⟩
      have HI3:Hid (PutI B0 M p a R w b g P T F res 2 v3 R3 (Kbk r.2 F.data.toList T.data.toList) w3):=Jh
       ⟨HI2.out.blks.out ho3,ho3.blk HI2.out.row HI2.out.rr,ho3.old _ HI2.out.row.lt HI2.out.rr,hv3,hd3.more (by show _≤M+1+2+T.size;show M+1+1+0+T.size+1≤_;omega),HI2.out.out.trans ho3,HI2.out.env.out ho3 HBR.out HI2.out.dk,by
        rw[←HI2.out.left]
        exact (Kip (f:=(Kbk · F.data.toList T.data.toList)) (l:=(Kem F.data.toList P.data.toList T.data.toList).drop 2) HZ.out).symm⟩
      clear hv3 hd3 ho3 m0 x0 x3;go_wp2_with fail
      go_roundg (gk - 1)
      case measure=>omega
      case rel=>exact ⟨2,R3,_,_,by omega,rfl,by go_num,HI3.out⟩
     ·obtain ⟨q,op,path,rfl,hq1,hq2⟩:=HI2.out.err.some_ (by omega);have HZ:=Jh hz;clear hz hq1 hq2;go_wp2_with fail
      refine HX.out.mono ?_;rintro e w3 ⟨v3,R3,rfl,hv3,hd3,ho3⟩;have HO3:=Jh ho3;have HD3:=Jh hd3;clear hv3 hd3 ho3 m0 x0 x3;go_wp2_with fail
      go_ret
      have hres:res=(r.1,(Kaq r.2 F.data.toList).2):=by
       rw[←HI2.out.left];exact Kgi (by have:=HZ.out;omega)
      rw[HRES.out,hres];exact ⟨_,R3,rfl,HI2.out.err.out HO3.out,HD3.out.more (by show M+1+1+0+1≤_;omega),HI2.out.out.trans HO3.out⟩
    ·
     have hBr:B0≤wr.heap.size:=Nat.le_trans HB0.out hi.out.size;have m0:wr.cell? ⟨g,2,none⟩=some (putF b p 2):=hi.row.cell 2;have HC:=Jh (Qbf b (b+3) F wr hi.dk (by show M+1+2+T.size≤_;omega) hBr hi.env.f hFs hi.blks.bd hi.blks.bf);have HX:=Jh (hi.dk.remove (a:=a) (by show M+1+2+T.size≤_;omega) hBr hi.env.f F hFs);have x0:wr.cell? ⟨b,0,none⟩=some (.pointer (some ⟨p,0,none⟩)):=hi.blks.bd.cell 0;have x3:wr.cell? ⟨b+3,0,none⟩=some (.string F):=hi.blks.bf.cell 0;have HI2:=Jh hi;have HBR:=Jh hBr;unfold putF at m0;simp at m0;clear hi hBr;rcases Nat.eq_zero_or_pos r.1 with hz | hz
     ·obtain rfl:=HI2.out.err.nil hz;have HZ:=Jh hz;clear hz;go_wp2_with fail
      refine HC.out.mono ?_;rintro e w3 ⟨v3,R3,rfl,hv3,hd3,ho3⟩
      have HI3:Hid (PutI B0 M p a R w b g P T F res 3 v3 R3 (syncD r.2 F.data.toList) w3):=Jh
       ⟨HI2.out.blks.out ho3,ho3.blk HI2.out.row HI2.out.rr,ho3.old _ HI2.out.row.lt HI2.out.rr,hv3,hd3.more (by show _≤M+1+3+T.size;show M+1+2+T.size+1≤_;omega),HI2.out.out.trans ho3,HI2.out.env.out ho3 HBR.out HI2.out.dk,by
        rw[←HI2.out.left]
        exact (Kip (f:=(syncD · F.data.toList)) (l:=(Kem F.data.toList P.data.toList T.data.toList).drop 3) HZ.out).symm⟩
      clear hv3 hd3 ho3 m0 x0 x3;go_wp2_with fail
      go_roundg (gk - 1)
      case measure=>omega
      case rel=>exact ⟨3,R3,_,_,by omega,rfl,by go_num,HI3.out⟩
     ·obtain ⟨q,op,path,rfl,hq1,hq2⟩:=HI2.out.err.some_ (by omega);have HZ:=Jh hz;clear hz hq1 hq2;go_wp2_with fail
      refine HX.out.mono ?_;rintro e w3 ⟨v3,R3,rfl,hv3,hd3,ho3⟩;have HO3:=Jh ho3;have HD3:=Jh hd3;clear hv3 hd3 ho3 m0 x0 x3;go_wp2_with fail
      go_ret
      have hres:res=(r.1,(Kaq r.2 F.data.toList).2):=by
       rw[←HI2.out.left];exact Kgi (by have:=HZ.out;omega)
      rw[HRES.out,hres];exact ⟨_,R3,rfl,HI2.out.err.out HO3.out,HD3.out.more (by show M+1+2+T.size+1≤_;omega),HI2.out.out.trans HO3.out⟩
    ·
     have hBr:B0≤wr.heap.size:=Nat.le_trans HB0.out hi.out.size;have m0:wr.cell? ⟨g,3,none⟩=some (putF b p 3):=hi.row.cell 3;have HC:=Jh (Qbg b (b+3) (b+1) F P wr hi.dk (by show M+1+3+T.size≤_;omega) hBr hi.env.f hFs (by omega) hi.blks.bd hi.blks.bf hi.blks.bp);have HX:=Jh (hi.dk.remove (a:=a) (by show M+1+3+T.size≤_;omega) hBr hi.env.f F hFs);have x0:wr.cell? ⟨b,0,none⟩=some (.pointer (some ⟨p,0,none⟩)):=hi.blks.bd.cell 0;have x3:wr.cell? ⟨b+3,0,none⟩=some (.string F):=hi.blks.bf.cell 0;have HI2:=Jh hi;have HBR:=Jh hBr;unfold putF at m0;simp at m0;clear hi hBr;rcases Nat.eq_zero_or_pos r.1 with hz | hz
     ·obtain rfl:=HI2.out.err.nil hz;have HZ:=Jh hz;clear hz;go_wp2_with fail
      refine HC.out.mono ?_;rintro e w3 ⟨v3,R3,rfl,hv3,hd3,ho3⟩
      have HI3:Hid (PutI B0 M p a R w b g P T F res 4 v3 R3 (Kak r.2 F.data.toList P.data.toList) w3):=Jh
       ⟨HI2.out.blks.out ho3,ho3.blk HI2.out.row HI2.out.rr,ho3.old _ HI2.out.row.lt HI2.out.rr,hv3,hd3.more (by show _≤M+1+4+T.size;show M+1+3+T.size+1≤_;omega),HI2.out.out.trans ho3,HI2.out.env.out ho3 HBR.out HI2.out.dk,by
        rw[←HI2.out.left]
        exact (Kip (f:=(Kak · F.data.toList P.data.toList)) (l:=(Kem F.data.toList P.data.toList T.data.toList).drop 4) HZ.out).symm⟩
      clear hv3 hd3 ho3 m0 x0 x3;go_wp2_with fail
      go_roundg (gk - 1)
      case measure=>omega
      case rel=>exact ⟨4,R3,_,_,by omega,rfl,by go_num,HI3.out⟩
     ·obtain ⟨q,op,path,rfl,hq1,hq2⟩:=HI2.out.err.some_ (by omega);have HZ:=Jh hz;clear hz hq1 hq2;go_wp2_with fail
      refine HX.out.mono ?_;rintro e w3 ⟨v3,R3,rfl,hv3,hd3,ho3⟩;have HO3:=Jh ho3;have HD3:=Jh hd3;clear hv3 hd3 ho3 m0 x0 x3;go_wp2_with fail
      go_ret
      have hres:res=(r.1,(Kaq r.2 F.data.toList).2):=by
       rw[←HI2.out.left];exact Kgi (by have:=HZ.out;omega)
      rw[HRES.out,hres];exact ⟨_,R3,rfl,HI2.out.err.out HO3.out,HD3.out.more (by show M+1+3+T.size+1≤_;omega),HI2.out.out.trans HO3.out⟩
    ·
     have hBr:B0≤wr.heap.size:=Nat.le_trans HB0.out hi.out.size;have m0:wr.cell? ⟨g,4,none⟩=some (putF b p 4):=hi.row.cell 4;have HC:=Jh (hi.dk.syncNames (by show M+1+4+T.size≤_;omega) hBr hi.env.f);have HX:=Jh (hi.dk.remove (a:=a) (by show M+1+4+T.size≤_;omega) hBr hi.env.f F hFs);have x0:wr.cell? ⟨b,0,none⟩=some (.pointer (some ⟨p,0,none⟩)):=hi.blks.bd.cell 0;have x3:wr.cell? ⟨b+3,0,none⟩=some (.string F):=hi.blks.bf.cell 0;have HI2:=Jh hi;have HBR:=Jh hBr;unfold putF at m0;simp at m0;clear hi hBr;rcases Nat.eq_zero_or_pos r.1 with hz | hz
     ·obtain rfl:=HI2.out.err.nil hz;have HZ:=Jh hz;clear hz;go_wp2_with fail
      refine HC.out.mono ?_;rintro e w3 ⟨v3,R3,rfl,hv3,hd3,ho3⟩
      have HI3:Hid (PutI B0 M p a R w b g P T F res 5 v3 R3 (Kax r.2) w3):=Jh
       ⟨HI2.out.blks.out ho3,ho3.blk HI2.out.row HI2.out.rr,ho3.old _ HI2.out.row.lt HI2.out.rr,hv3,hd3.more (by show _≤M+1+5+T.size;show M+1+4+T.size+1≤_;omega),HI2.out.out.trans ho3,HI2.out.env.out ho3 HBR.out HI2.out.dk,by
        rw[←HI2.out.left]
        exact (Kip (f:=Kax) (l:=(Kem F.data.toList P.data.toList T.data.toList).drop 5) HZ.out).symm⟩
      clear hv3 hd3 ho3 m0 x0 x3;go_wp2_with fail
      go_roundg (gk - 1)
      case measure=>omega
      case rel=>exact ⟨5,R3,_,_,by omega,rfl,by go_num,HI3.out⟩
     ·obtain ⟨q,op,path,rfl,hq1,hq2⟩:=HI2.out.err.some_ (by omega);have HZ:=Jh hz;clear hz hq1 hq2;go_wp2_with fail
      refine HX.out.mono ?_;rintro e w3 ⟨v3,R3,rfl,hv3,hd3,ho3⟩;have HO3:=Jh ho3;have HD3:=Jh hd3;clear hv3 hd3 ho3 m0 x0 x3;go_wp2_with fail
      go_ret
      have hres:res=(r.1,(Kaq r.2 F.data.toList).2):=by
       rw[←HI2.out.left];exact Kgi (by have:=HZ.out;omega)
      rw[HRES.out,hres];exact ⟨_,R3,rfl,HI2.out.err.out HO3.out,HD3.out.more (by show M+1+4+T.size+1≤_;omega),HI2.out.out.trans HO3.out⟩
   ·have el:decide ((i:Int) < 5)=false:=by simp;omega
    obtain rfl:i=5:=by omega
    have HI2:=Jh hi;clear hi;go_wp2_with fail
    go_ret
    have hres:res=r:=by
     rw[←HI2.out.left];rfl
    rw[HRES.out,hres];exact ⟨_,R',rfl,HI2.out.err,HI2.out.dk.more (by show M+1+5+T.size≤_;omega),HI2.out.out⟩
end
structure QEnv (B0:Nat) (a:Nat→Addr) (w:World):Prop where
 e:Env5 B0 a w
 nib:Kdi w
 db:DbTab w
 hb:B0≤w.heap.size
structure QCon (B0:Nat) (a:Nat→Addr):Prop where
 ap:Apart a
 nib:7 < B0
 db:9 < B0
section
variable {B0 M p : Nat} {a : Nat → Addr} {R R' : Nat → Nat} {d : Ds} {w w' : World}
theorem QEnv.below (h:QEnv B0 a w) (hc:QCon B0 a) (hb:Below B0 w w'):QEnv B0 a w':=
 ⟨h.e.below hb,h.nib.below hc.nib hb,fun j hj=>(hb.cell (p:=⟨_,j,none⟩) hc.db).trans (h.db j hj),Nat.le_trans h.hb hb.size⟩
theorem QEnv.low (h:QEnv B0 a w) (hc:QCon B0 a) (hb:Below w.heap.size w w'):QEnv B0 a w':=h.below hc (hb.mono h.hb)
theorem QEnv.out (h:QEnv B0 a w) (hc:QCon B0 a) (hD:Dk B0 M w R p d) (ho:Out R R' w w'):QEnv B0 a w':=h.below hc (ho.below h.hb hD.low)
theorem Qgh (L:List KSer):(encK L).length=(bodyK L).length+4:=by
 unfold encK sealT;rw[List.length_append];rfl
theorem Kxv (L:List KSer) (A:Option Addr) (n c:Nat) (P:ByteArray) (w:World) (hS:KSers w A n L) (hz:∀s∈L,KSz s) (hn:n≤1048576) (hf:fitK L=true) (hsz:(encK L).length≤268435456) (hD:Dk B0 M w R p d) (hM:M+(encK L).length+8≤536870912) (hC:QCon B0 a) (hE:QEnv B0 a w) (hP:P.size≤1000000000) :
  Calls Tryz.prog 17 #[.pointer (some ⟨p,0,none⟩),.string P,.slice A n c] w (DkOut a B0 (M+(encK L).length+7) R p (putD d P.data.toList (encK L)) w):=by
 have hen:=Kka L A n c w hS hz (by omega) hE.db hE.nib (fun _=>by have:=Qgh L;omega);unfold kencF at hen;rw[if_pos hf] at hen;dsimp only at hen;obtain ⟨E1,hE1⟩:∃E:ByteArray,(⟨(encK L).toArray⟩:ByteArray)=E:=⟨_,rfl⟩;rw[hE1] at hen;have hEd:E1.data.toList=encK L:=by rw[←hE1]
 have hEs:E1.size=(encK L).length:=by rw[←hEd];rfl
 have HEN:=Jh hen;have HED:=Jh hEd
 have HP:Hid (∀w1,Below w.heap.size w w1→Calls Tryz.prog 20 #[.pointer (some ⟨p,0,none⟩),.string P,.string E1] w1 (DkOut a B0 (M+(encK L).length+7) R p (putD d P.data.toList (encK L)) w1)):=Jh (fun w1 hb=>by
  have:=Kgn P E1 w1 (hD.below hb) (by rw[hEs];exact hM) (hE.low hC hb).hb (hE.low hC hb).e hC.ap hP;rw[hEd,hEs] at this
  exact this)
 clear hen hE1 hEd hEs hS hz hD hM hC hE hsz;go_enter Tryz.func17,Tryz.ntmps17
 go_wp2_with fail
 refine HEN.out.mono ?_;rintro _ w1 ⟨rfl,hb1⟩;have HB1:=Jh hb1;clear hb1;go_wp2_with fail
 refine (HP.out w1 HB1.out).mono ?_;rintro e w2 ⟨v,R2,rfl,hv,hd,ho⟩;have HV:=Jh hv;have HD:=Jh hd;have HO:=Jh ho;clear hv hd ho;go_wp2_with fail
 go_ret
 exact ⟨v,R2,rfl,HV.out,HD.out,(Out.of_below HB1.out).trans HO.out⟩
def Qki (P:ByteArray) (R':Nat→Nat) (w':World) (r:Except Nat (List KSer)) (e:Ending):Prop:=match r with
 | .ok L=>∃A c,e = .returned (.tuple #[.slice A L.length c,.nilIface])∧KSers w' A L.length L∧(∀s∈L,KSz s)∧L.length≤268435456
 | .error f=>∃q,e = .returned (.tuple #[.slice none 0 0,.iface 45 (.pointer (some ⟨q,0,none⟩))])∧Blk w' q 48 #[.string P,.int .i64 ((f:Nat):Int)]
theorem Kxu (P:ByteArray) (S:Txt) (w:World) (hall:allD d P.data.toList=(S,0)) (hS:S.length≤268435456) (hD:Dk B0 M w R p d) (hM:M≤536870912) (hC:QCon B0 a) (hE:QEnv B0 a w) (hP:P.size≤1000000000) :
  Calls Tryz.prog 19 #[.pointer (some ⟨p,0,none⟩),.string P] w fun e w'=>∃R',Qki P R' w' (decK S) e∧Dk B0 M w' R' p d∧Out R R' w w':=by
 have hal:=hD.all (a:=a) hM hE.hb hE.e.f P (by omega);rw[hall] at hal;obtain ⟨T,hT⟩:∃T:ByteArray,(⟨S.toArray⟩:ByteArray)=T:=⟨_,rfl⟩;unfold txtV at hal;rw[hT] at hal;have hTd:T.data.toList=S:=by rw[←hT]
 have hTs:T.size≤268435456:=by
  have h1:T.data.toList.length=T.size:=rfl;rw[hTd] at h1;omega
 have HAL:=Jh hal;have HTD:=Jh hTd;have HC:=Jh hC;have HE:=Jh hE;have HD0:=Jh hD
 have hce:∀c:Nat,decK S = .error c→((c:Int) != 0)=true:=fun c h=>by
  have:=Knz h;simp;omega
 have HCE:=Jh hce;clear hal hT hTd hC hE hall hce hD;go_enter Tryz.func19,Tryz.ntmps19
 go_wp2_with fail
 refine HAL.out.mono ?_;rintro e w1 ⟨u,v,R1,rfl,rfl,hv1,hd1,ho1⟩;obtain rfl:v = .nilIface:=hv1.nil rfl;have HE1:=Jh (HE.out.out HC.out HD0.out ho1);have HO1:=Jh ho1;have HD1:=Jh hd1;have hde:=Kjz T w1 hTs HE1.out.nib HE1.out.db;rw[HTD.out] at hde;obtain ⟨r,hr⟩:∃r,decK S=r:=⟨_,rfl⟩;rw[hr] at hde;have HDE:=Jh hde;have HR:=Jh hr;clear hv1 hd1 ho1 hde hr;go_wp2_with fail
 refine HDE.out.mono ?_;rintro e w2 ⟨h2,hb2⟩;have HB2:=Jh hb2;clear hb2
 cases r with
 | ok L=>
  obtain ⟨A,c,rfl,h3,h4,h5⟩:=h2;have H3:=Jh h3;have H4:=Jh h4;clear h3 h4;obtain ⟨ln,hln⟩:∃x,L.length=x:=⟨_,rfl⟩;have HLN:=Jh hln;have H5:=Jh h5;rw[hln];clear hln h5;go_wp2_with fail
  go_ret2
  exact ⟨R1,by rw[HR.out];exact ⟨A,c,by rw[HLN.out];rfl,H3.out,H4.out,H5.out⟩,HD1.out.below HB2.out,HO1.out.trans (Out.of_below HB2.out)⟩
 | error f=>
  obtain rfl:=h2;have hne:=HCE.out f HR.out;go_upto_region 6 with fail
  have hb3:Below w2.heap.size w2 (w2.alloc (.cells #[.string P,.int .i64 (f:Int)] 48)):=(Below.refl _ _).alloc (Nat.le_refl _) _;have hk3:Blk (w2.alloc (.cells #[.string P,.int .i64 (f:Int)] 48)) w2.heap.size 48 #[.string P,.int .i64 (f:Int)]:=Blk.new _ _ _;have HB3:=Jh (HB2.out.trans (hb3.mono HB2.out.size));have HK3:=Jh hk3;clear hb3 hk3;go_wp2_with fail
  go_ret2
  exact ⟨R1,by rw[HR.out];exact ⟨_,rfl,HK3.out⟩,HD1.out.below HB3.out,HO1.out.trans (Out.of_below HB3.out)⟩
end
end
section
open Go.RowKit Go.Shelf Go.Sort
attribute [local go_sem ↓] Go.wp_at_zero Go.wp_at_succ
attribute [local go_sem] Later.cell
def wakeS:KSer:=⟨[⟨[97],[120]⟩],9,[],[],[],[⟨3,4⟩,⟨9,5⟩]⟩
theorem Kjt:fitK [wakeS]=true:=by decide
theorem Khu:(encK [wakeS]).length≤1000:=by
 have h1:=Ktt Kjt;have h2:labsK [wakeS]=1:=rfl;have h3:massK [wakeS]=2:=rfl
 have h4:(encK [wakeS]).length=(bodyK [wakeS]).length+4:=by
  unfold encK sealT;rw[List.length_append];rfl
 simp only[List.length_singleton] at h1;omega
theorem Qke:KSz wakeS:=⟨by decide,by decide,by decide,by decide,⟨fun x hx=>(nomatch hx),fun x hx=>(nomatch hx),fun x hx=>(nomatch hx)⟩,by decide,by decide⟩
theorem Kwq:∀s∈[wakeS],KSz s:=fun s hs=>by
 rw[List.mem_singleton] at hs;rw[hs];exact Qke
theorem Qil:decK (encK [wakeS]) = .ok [wakeS]:=Qjb Kjt (Qgq Kjt Kwq (by decide))
theorem Qkf {w:World} {q:Nat} (h0:Blk w q 106 #[.string ⟨#[97]⟩,.string ⟨#[120]⟩]) (h1:Blk w (q+1) 93 #[.int .i64 3,.int .u64 4,.int .i64 9,.int .u64 5]) :
  KAt w ⟨⟨some ⟨q,0,none⟩,1,1⟩,⟨none,0,0⟩,⟨none,0,0⟩,⟨none,0,0⟩,⟨some ⟨q+1,0,none⟩,2,2⟩⟩ wakeS:=by
 refine ⟨⟨rfl,fun _=>⟨q,0,rfl,h0.lt,fun i x hx j v hv=>?_⟩⟩,Nat.le_refl _,Elems.nil_,Elems.nil_,Elems.nil_,⟨rfl,fun _=>⟨q+1,0,rfl,h1.lt,fun i x hx j v hv=>?_⟩⟩,Nat.le_refl _⟩
 ·match i,hx with
  | 0,hx=>
   injection hx with hx;subst hx
   match j,hv with
   | 0,hv=>injection hv with hv;subst hv;exact h0.cell 0
   | 1,hv=>injection hv with hv;subst hv;exact h0.cell 1
 ·match i,hx with
  | 0,hx=>
   injection hx with hx;subst hx
   match j,hv with
   | 0,hv=>injection hv with hv;subst hv;exact h1.cell 0
   | 1,hv=>injection hv with hv;subst hv;exact h1.cell 1
  | 1,hx=>
   injection hx with hx;subst hx
   match j,hv with
   | 0,hv=>injection hv with hv;subst hv;exact h1.cell 2
   | 1,hv=>injection hv with hv;subst hv;exact h1.cell 3
theorem Qku {w:World} {q:Nat} {h:KHd} {s:KSer} (hk:KAt w h s) (hq:Blk w q 85 (encKY ⟨h,s.max⟩).toArray):KSers w (some ⟨q,0,none⟩) 1 [s]:=by
 refine ⟨[⟨h,s.max⟩],⟨rfl,fun _=>⟨q,0,rfl,hq.lt,fun i x hx j v hv=>?_⟩⟩,rfl,fun i hi=>?_⟩
 ·match i,hx with
  | 0,hx=>
   injection hx with hx;subst hx
   match j,hv with
   | 0,hv=>injection hv with hv;subst hv;exact hq.cell 0
   | 1,hv=>injection hv with hv;subst hv;exact hq.cell 1
   | 2,hv=>injection hv with hv;subst hv;exact hq.cell 2
   | 3,hv=>injection hv with hv;subst hv;exact hq.cell 3
   | 4,hv=>injection hv with hv;subst hv;exact hq.cell 4
   | 5,hv=>injection hv with hv;subst hv;exact hq.cell 5
 ·obtain rfl:i=0:=by omega
  exact ⟨rfl,hk⟩
theorem Ksx (w:World):Calls Tryz.prog 40 #[] w fun e w'=>(∃h:KHd,e = .returned (kserV h 9)∧KAt w' h wakeS)∧Below w.heap.size w w':=by
 go_enter Tryz.func40,Tryz.ntmps40
 go_upto_region 1 with fail
 go_wp2_with fail
 obtain ⟨q,hq⟩:∃q,w.heap.size=q:=⟨_,rfl⟩;have hb1:Below w.heap.size w (((w.alloc (.cells #[.slice (some ⟨w.heap.size+1,0,none⟩) 1 1,.int .i64 9,.slice none 0 0,.slice none 0 0,.slice none 0 0,.slice (some ⟨w.heap.size+1+1,0,none⟩) 2 2] 85)).alloc (.cells #[.string ⟨#[97]⟩,.string ⟨#[120]⟩] 106)).alloc (.cells #[.int .i64 3,.int .u64 4,.int .i64 9,.int .u64 5] 93)):=((((Below.refl _ _).alloc (Nat.le_refl _) _).alloc (by simp) _).alloc (by simp;omega) _);have k0:Blk (((w.alloc (.cells #[.slice (some ⟨w.heap.size+1,0,none⟩) 1 1,.int .i64 9,.slice none 0 0,.slice none 0 0,.slice none 0 0,.slice (some ⟨w.heap.size+1+1,0,none⟩) 2 2] 85)).alloc (.cells #[.string ⟨#[97]⟩,.string ⟨#[120]⟩] 106)).alloc (.cells #[.int .i64 3,.int .u64 4,.int .i64 9,.int .u64 5] 93)) w.heap.size 85 #[.slice (some ⟨w.heap.size+1,0,none⟩) 1 1,.int .i64 9,.slice none 0 0,.slice none 0 0,.slice none 0 0,.slice (some ⟨w.heap.size+1+1,0,none⟩) 2 2]:=((Blk.new _ _ _).alloc _).alloc _;have k1:Blk (((w.alloc (.cells #[.slice (some ⟨w.heap.size+1,0,none⟩) 1 1,.int .i64 9,.slice none 0 0,.slice none 0 0,.slice none 0 0,.slice (some ⟨w.heap.size+1+1,0,none⟩) 2 2] 85)).alloc (.cells #[.string ⟨#[97]⟩,.string ⟨#[120]⟩] 106)).alloc (.cells #[.int .i64 3,.int .u64 4,.int .i64 9,.int .u64 5] 93)) (w.heap.size+1) 106 #[.string ⟨#[97]⟩,.string ⟨#[120]⟩]:=(Blk.newAt (by simp)).alloc _;have k2:Blk (((w.alloc (.cells #[.slice (some ⟨w.heap.size+1,0,none⟩) 1 1,.int .i64 9,.slice none 0 0,.slice none 0 0,.slice none 0 0,.slice (some ⟨w.heap.size+1+1,0,none⟩) 2 2] 85)).alloc (.cells #[.string ⟨#[97]⟩,.string ⟨#[120]⟩] 106)).alloc (.cells #[.int .i64 3,.int .u64 4,.int .i64 9,.int .u64 5] 93)) (w.heap.size+1+1) 93 #[.int .i64 3,.int .u64 4,.int .i64 9,.int .u64 5]:=Blk.newAt (by simp);obtain ⟨w1,hw1⟩:∃x,(((w.alloc (.cells #[.slice (some ⟨w.heap.size+1,0,none⟩) 1 1,.int .i64 9,.slice none 0 0,.slice none 0 0,.slice none 0 0,.slice (some ⟨w.heap.size+1+1,0,none⟩) 2 2] 85)).alloc (.cells #[.string ⟨#[97]⟩,.string ⟨#[120]⟩] 106)).alloc (.cells #[.int .i64 3,.int .u64 4,.int .i64 9,.int .u64 5] 93))=x:=⟨_,rfl⟩;rw[hw1] at hb1 k0 k1 k2 ⊢;rw[hq] at k0 k1 k2 ⊢;refine bodyPost_ret (Kef rfl _ _ ⟨q,0,none⟩ (kserV ⟨⟨some ⟨q+1,0,none⟩,1,1⟩,⟨none,0,0⟩,⟨none,0,0⟩,⟨none,0,0⟩,⟨some ⟨q+1+1,0,none⟩,2,2⟩⟩ 9) rfl (run_loadVar_row _ q 85 85 _ (0,0) _ k0 Tryz.underlying85 rfl (by kernel_rfl))) rfl ?_;exact ⟨⟨_,rfl,Qkf k1 k2⟩,hq▸hb1⟩
end
section
open Go.RowKit Go.Shelf Go.Sort
open Lib renaming hid → Jh
attribute [local go_sem ↓] Go.wp_at_zero Go.wp_at_succ
attribute [local go_sem] Later.cell
def sC:Txt:=[99]
theorem Kev:nameB sC=true:=by decide
theorem Kov:nameB (sC++Kcb)=true:=by decide
theorem Qhe:newD 100000=roomD 100000:=rfl
theorem Qfr {w:World} {A:Option Addr} (h:KSers w A 1 [wakeS]):∃b off sb so sc,A=some ⟨b,off,none⟩∧b < w.heap.size∧sb < w.heap.size∧w.cell? ⟨b,off+5,none⟩=some (.slice (some ⟨sb,so,none⟩) 2 sc)∧w.cell? ⟨sb,so+3,none⟩=some (.int .u64 5):=by
 obtain ⟨b,off,hd,e,hb,_,_,_,_,_,h5,hk⟩:=h.at_ (i:=0) (by decide);obtain ⟨sb,so,e2,hsb,hc⟩:=hk.s.get (i:=1) (by rw[←hk.s.1];decide);have hn:hd.s.n=2:=hk.s.1.symm;refine ⟨b,off,sb,so,hd.s.c,e,hb,hsb,?_,hc 1 (.int .u64 5) rfl⟩;rw[e2,hn] at h5;exact h5
section
variable {B0 : Nat} {a : Nat → Addr}
theorem Kth (w:World) (hC:QCon B0 a) (hE:QEnv B0 a w):Calls Tryz.prog 10 #[] w fun e w'=>e = .returned (.bool true)∧Below w.heap.size w w':=by
 have HC:=Jh hC;have HE0:=Jh hE;have HN:=Jh (Dk.made 100000 (by decide) (by decide) w hE.hb);clear hC hE;go_enter Tryz.func10,Tryz.ntmps10
 go_wp2_with fail
 refine HN.out.mono ?_;rintro e w1 ⟨p,R,rfl,hd1,hb1,hz1⟩;rw[Qhe] at hd1;have HZ:=Jh hz1;have HB1:=Jh hb1;have HE1:=Jh (HE0.out.low HC.out hb1);have HD1:=Jh hd1;clear hd1 hb1 hz1;go_wp2_with fail
 refine (Ksx w1).mono ?_;rintro _ w2 ⟨⟨h,rfl,hk⟩,hb2⟩;have HK:=Jh hk;have HB2:=Jh hb2;clear hk hb2;unfold kserV;obtain ⟨S,hS⟩:∃S:ByteArray,(⟨#[99]⟩:ByteArray)=S:=⟨_,rfl⟩;have hSd:S.data.toList=sC:=by rw[←hS];rfl
 have hSz:S.size=1:=by rw[←hS];rfl
 have HS:=Jh hSd;have HSz:=Jh hSz;have hk3:KSers (w2.alloc (.cells (encKY ⟨h,wakeS.max⟩).toArray 85)) (some ⟨w2.heap.size,0,none⟩) 1 [wakeS]:=Qku (HK.out.below ((Below.refl _ _).alloc (Nat.le_refl _) _)) (Blk.new _ _ _);have hb3:Below w2.heap.size w2 (w2.alloc (.cells (encKY ⟨h,wakeS.max⟩).toArray 85)):=(Below.refl _ _).alloc (Nat.le_refl _) _;obtain ⟨w3,hw3⟩:∃x,w2.alloc (.cells (encKY ⟨h,wakeS.max⟩).toArray 85)=x:=⟨_,rfl⟩;obtain ⟨q,hq⟩:∃x,w2.heap.size=x:=⟨_,rfl⟩;rw[hw3] at hk3 hb3;have HO3:Hid (Out R R w1 w3):=Jh (Out.of_below (HB2.out.trans (hb3.mono HB2.out.size)));have hd3:=HD1.out.below (HB2.out.trans (hb3.mono HB2.out.size));have he3:=HE1.out.low HC.out (HB2.out.trans (hb3.mono HB2.out.size));have hsv:=Kxv [wakeS] (some ⟨q,0,none⟩) 1 1 S w3 (by rw[←hq];exact hk3) Kwq (by decide) Kjt (by have:=Khu;omega) hd3 (by have:=Khu;omega) HC.out he3 (by rw[hSz];decide);rw[hSd,Kzo 100000 sC (encK [wakeS]) Kev Kov (by have:=Khu;omega)] at hsv;have HSV:=Jh hsv;have HD3:=Jh hd3;have HE3:=Jh he3;have hwx:w2.alloc (.cells #[.slice h.l.A h.l.n h.l.c,.int .i64 9,.slice h.g0.A h.g0.n h.g0.c,.slice h.g1.A h.g1.n h.g1.c,.slice h.g2.A h.g2.n h.g2.c,.slice h.s.A h.s.n h.s.c] 85)=w3:=hw3;clear hk3 hb3 hd3 he3 hsv hw3 hSd hSz;go_upto_region 2 with fail
 go_wp2_with fail
 refine HSV.out.mono ?_;rintro e w4 ⟨v4,R4,rfl,hv4,hd4,ho4⟩;obtain rfl:v4 = .nilIface:=hv4;have HD4:=Jh hd4;have HE4:=Jh (HE3.out.out HC.out HD3.out ho4);have HO4:=Jh (HO3.out.trans ho4);have hld:=Kxu S (encK [wakeS]) w4 (by rw[HS.out];exact Qhn 100000 sC _ Kev) (by have:=Khu;omega) HD4.out (by have:=Khu;omega) HC.out HE4.out (by rw[HSz.out];decide);rw[Qil] at hld;have HLD:=Jh hld;clear hd4 ho4 hld hwx;go_wp2_with fail
 refine HLD.out.mono ?_;rintro e w5 ⟨R5,⟨A,c,rfl,h5,_,_⟩,hd5,ho5⟩;have hn1:[wakeS].length=1:=rfl;rw[hn1] at h5 ⊢;have HE5:=Jh (HE4.out.out HC.out HD4.out ho5);have HO5:=Jh (HO4.out.trans ho5);have HB5:=Jh (HB1.out.trans (HO5.out.below HB1.out.size HZ.out));have H5:=Jh h5;have hde:=Kjz ⟨#[]⟩ w5 (by decide) HE5.out.nib HE5.out.db;have hdn:decK (⟨#[]⟩:ByteArray).data.toList = .error 20:=rfl;rw[hdn] at hde;have HDE:=Jh hde;clear hd5 ho5 h5 hde hdn hn1 hS;go_wp2_with fail
 refine HDE.out.mono ?_;rintro e w6 ⟨h6,hb6⟩;obtain rfl:=h6;have HB6:=Jh (HB5.out.trans (hb6.mono HB5.out.size));obtain ⟨b,off,sb,so,sc,rfl,hbz,hsz,x5,x3⟩:=Qfr (H5.out.below hb6);have x3':w6.cell? ⟨sb,so+2+1,none⟩=some (.int .u64 5):=x3;clear hb6;go_wp2_with fail
 go_ret
 exact ⟨rfl,HB6.out⟩
end
end
section
open Go.ChangeShapes Go.WideShapes Go.ChangeAt Go.RowKit
theorem Tryz.own:ownKnob Tryz.prog.godebug=none:=by kernel_rfl
theorem Tryz.laidOut:laidOutB Tryz.prog=true:=by kernel_rfl
end
section
open Go.ChangeShapes Go.WideShapes Go.ChangeAt Go.RowKit Go.Deep
theorem Kzy {n:Int} (h:(Lit.int .i64 n).wf=true):-9223372036854775808≤n∧n≤9223372036854775807:=by
 have h1:IntKind.i64.min = -9223372036854775808:=rfl;have h2:IntKind.i64.max=9223372036854775807:=rfl;simp only[Lit.wf,Bool.and_eq_true,decide_eq_true_eq] at h;omega
section
variable {H : Type} {enc : TypeId × Value → H} {w : World} {base : Nat} {spare : Nat → Bool} {held : Bool}
instance:Inhabited Trn:=⟨⟨0,0,[]⟩⟩
end
end
section
open Go.RowKit
section
variable {P F : Txt}
def oneK (P:Txt) (i:Nat) (sf:List Th) (st:List St) (fs:List By) (cap aw:Nat):Ds:=⟨[⟨P,false,i⟩],sf,st,fs,cap,false,aw⟩
def twoK (P F:Txt) (i n:Nat) (sf:List Th) (st:List St) (fs:List By) (cap aw:Nat):Ds:=⟨[⟨P,false,i⟩,⟨F,false,n⟩],sf,st,fs,cap,false,aw⟩
theorem Kne (h:(P == F)=false) (i n:Nat):findT [⟨P,false,i⟩,⟨F,false,n⟩] F=some ⟨F,false,n⟩:=by
 simp[findT,List.find?,h]
theorem Kur {α : Type} (fs:List α) (x d:α):(fs ++ [x])[fs.length]?.getD d=x:=by simp
theorem Kno (hF:nameB F=true) (h:(P == F)=false) (i n:Nat) (sf:List Th) (st:List St) (fs:List By) (cap aw:Nat):fileD (twoK P F i n sf st fs cap aw) F = .ok n:=
 Klm (d:=twoK P F i n sf st fs cap aw) rfl (Kcn hF) (Kne h i n)
theorem Kuy (hF:nameB F=true) (h:(P == F)=false) (i:Nat) (sf:List Th) (st:List St) (fs:List By) (cap aw:Nat) :
  Kbe (oneK P i sf st fs cap aw) F=if aw=1 then (1,offD (oneK P i sf st fs cap aw)) else (0,twoK P F i fs.length sf (st ++ [.create F fs.length]) (fs ++ [⟨[],[],[]⟩]) cap (aw - 1)):=by
 rw[Kqu (d:=oneK P i sf st fs cap aw) rfl (Kcn hF) (Kga hF _) (by show isT [⟨P,false,i⟩] F=0;simp[isT,findT,h])];rfl
theorem Qgo (hF:nameB F=true) (h:(P == F)=false) (i:Nat) (sf:List Th) (st:List St) (fs:List By) (cap aw:Nat) (s c:Txt) (hc:fs[i]? = some (byOk c)) (hr:c.length+s.length≤cap) :
  Kbk (twoK P F i fs.length sf st (fs ++ [⟨[],[],[]⟩]) cap aw) F s=if aw=1 then (1,offD (twoK P F i fs.length sf st (fs ++ [⟨[],[],[]⟩]) cap aw)) else (0,twoK P F i fs.length sf st (fs ++ [byApp s]) cap (aw - 1)):=by
 have hi:i < fs.length:=(List.getElem?_eq_some_iff.1 hc).1
 have hu:usedD (twoK P F i fs.length sf st (fs ++ [⟨[],[],[]⟩]) cap aw)=c.length:=by
  show usedL (twoK P F i fs.length sf st (fs ++ [⟨[],[],[]⟩]) cap aw) [(⟨P,false,i⟩:Th),⟨F,false,fs.length⟩]=c.length
  unfold usedL;have h1:(fs ++ [(⟨[],[],[]⟩:By)])[i]? = some (byOk c):=by rw[List.getElem?_append_left hi];exact hc
  have h2:(fs ++ [(⟨[],[],[]⟩:By)])[fs.length]? = some ⟨[],[],[]⟩:=by simp
  simp[nowAt,twoK,h1,byOk]
 refine (Kqq (d:=twoK P F i fs.length sf st (fs ++ [⟨[],[],[]⟩]) cap aw) (s:=F) (i:=fs.length) (Kno hF h _ _ _ _ _ _ _) s (by rw[hu];exact hr)).trans ?_
 have h3:setF (tickD (twoK P F i fs.length sf st (fs ++ [⟨[],[],[]⟩]) cap aw)) fs.length { fAt (twoK P F i fs.length sf st (fs ++ [⟨[],[],[]⟩]) cap aw) fs.length with now:=(fAt (twoK P F i fs.length sf st (fs ++ [⟨[],[],[]⟩]) cap aw) fs.length).now++s,steps:=(fAt (twoK P F i fs.length sf st (fs ++ [⟨[],[],[]⟩]) cap aw) fs.length).steps ++ [⟨s,false,0⟩] } = twoK P F i fs.length sf st (fs ++ [byApp s]) cap (aw - 1):=by
  have h4:fAt (twoK P F i fs.length sf st (fs ++ [⟨[],[],[]⟩]) cap aw) fs.length=⟨[],[],[]⟩:=Kur fs _ _;rw[h4];unfold setF tickD twoK byApp;simp
 rw[h3];rfl
theorem Qkr (hF:nameB F=true) (h:(P == F)=false) (i:Nat) (sf:List Th) (st:List St) (fs:List By) (cap aw:Nat) (s c:Txt) (hc:fs[i]? = some (byOk c)) (hr:cap < c.length+s.length) :
  Kbk (twoK P F i fs.length sf st (fs ++ [⟨[],[],[]⟩]) cap aw) F s=(7,twoK P F i fs.length sf st (fs ++ [⟨[],[],[]⟩]) cap aw):=by
 have hi:i < fs.length:=(List.getElem?_eq_some_iff.1 hc).1
 have hu:usedD (twoK P F i fs.length sf st (fs ++ [⟨[],[],[]⟩]) cap aw)=c.length:=by
  show usedL (twoK P F i fs.length sf st (fs ++ [⟨[],[],[]⟩]) cap aw) [(⟨P,false,i⟩:Th),⟨F,false,fs.length⟩]=c.length
  unfold usedL;have h1:(fs ++ [(⟨[],[],[]⟩:By)])[i]? = some (byOk c):=by rw[List.getElem?_append_left hi];exact hc
  simp[nowAt,twoK,h1,byOk]
 unfold Kbk;rw[Kno hF h];simp only;rw[if_pos (by rw[hu];exact hr)]
theorem Qks (hF:nameB F=true) (h:(P == F)=false) (i:Nat) (sf:List Th) (st:List St) (fs:List By) (cap aw:Nat) (s:Txt) :
  syncD (twoK P F i fs.length sf st (fs ++ [byApp s]) cap aw) F=if aw=1 then (1,offD (twoK P F i fs.length sf st (fs ++ [byApp s]) cap aw)) else (0,twoK P F i fs.length sf st (fs ++ [byOk s]) cap (aw - 1)):=by
 rw[Kzv (d:=twoK P F i fs.length sf st (fs ++ [byApp s]) cap aw) (Kno hF h _ _ _ _ _ _ _)];have h4:fAt (twoK P F i fs.length sf st (fs ++ [byApp s]) cap aw) fs.length=byApp s:=Kur fs _ _;rw[h4]
 have h3:setF (tickD (twoK P F i fs.length sf st (fs ++ [byApp s]) cap aw)) fs.length ⟨(byApp s).now,(byApp s).now,[]⟩=twoK P F i fs.length sf st (fs ++ [byOk s]) cap (aw - 1):=by
  unfold setF tickD twoK byApp byOk;simp
 rw[h3];rfl
theorem Qgp (hP:nameB P=true) (hF:nameB F=true) (h:(P == F)=false) (h2:(F == P)=false) (i n:Nat) (sf:List Th) (st:List St) (fs:List By) (cap aw:Nat) :
  Kak (twoK P F i n sf st fs cap aw) F P=if aw=1 then (1,offD (twoK P F i n sf st fs cap aw)) else (0,oneK P n sf (st ++ [.rename F P]) fs cap (aw - 1)):=by
 have hne:F≠P:=by intro e;rw[e] at h2;simp at h2
 have i1:isT (twoK P F i n sf st fs cap aw).things F=1:=by
  show isT [⟨P,false,i⟩,⟨F,false,n⟩] F=1
  unfold isT;rw[Kne h];rfl
 have i2:isT (twoK P F i n sf st fs cap aw).things P=1:=by
  show isT [⟨P,false,i⟩,⟨F,false,n⟩] P=1
  simp[isT,findT]
 have hr:Kak (twoK P F i n sf st fs cap aw) F P=Kav (twoK P F i n sf st fs cap aw) (.rename F P):=by
  unfold Kak;rw[if_neg (by show ¬(false=true);simp),if_neg (by rw[Kcn hP,Kcn hF];simp),if_neg (by rw[hP];simp),if_neg (by rw[i1,Kga hP];simp),if_neg (by rw[i1,i2];simp[hne])]
 rw[hr,Kib]
 have ha:Kaj (twoK P F i n sf st fs cap aw).things (.rename F P) = [⟨P,false,n⟩]:=by
  show Kaj [⟨P,false,i⟩,⟨F,false,n⟩] (.rename F P) = [⟨P,false,n⟩]
  simp[Kaj,h2]
 rw[ha];rfl
theorem Qjg (i:Nat) (sf:List Th) (st:List St) (fs:List By) (cap aw:Nat) :
  Kax (oneK P i sf st fs cap aw)=if aw=1 then (1,offD (oneK P i sf st fs cap aw)) else (0,oneK P i [⟨P,false,i⟩] [] fs cap (aw - 1)):=by
 rw[Kli (d:=oneK P i sf st fs cap aw) rfl];rfl
theorem Qjh (hP:nameB P=true) (hF:nameB F=true) (h:(P == F)=false) (h2:(F == P)=false) (i:Nat) (sf:List Th) (st:List St) (fs:List By) (cap aw:Nat) (s c:Txt) (hc:fs[i]? = some (byOk c)) (hr:c.length+s.length≤cap) (ha:aw=0∨5 < aw) :
  putL F [(Kbe · F),(Kbk · F s),(syncD · F),(Kak · F P),Kax] (0,oneK P i sf st fs cap aw)=(0,oneK P fs.length [⟨P,false,fs.length⟩] [] (fs ++ [byOk s]) cap (aw - 5)):=by
 have e1:=Kuy hF h i sf st fs cap aw;rw[if_neg (by omega)] at e1;have e2:=Qgo hF h i sf (st ++ [.create F fs.length]) fs cap (aw - 1) s c hc hr;rw[if_neg (by omega)] at e2;have e3:=Qks hF h i sf (st ++ [.create F fs.length]) fs cap (aw - 1 - 1) s;rw[if_neg (by omega)] at e3;have e4:=Qgp hP hF h h2 i fs.length sf (st ++ [.create F fs.length]) (fs ++ [byOk s]) cap (aw - 1 - 1 - 1);rw[if_neg (by omega)] at e4;have e5:=Qjg (P:=P) fs.length sf (st ++ [.create F fs.length] ++ [.rename F P]) (fs ++ [byOk s]) cap (aw - 1 - 1 - 1 - 1);rw[if_neg (by omega)] at e5;rw[Kdq e1,Kdq e2,Kdq e3,Kdq e4,Kdq e5,putL];rfl
theorem k_all (hP:nameB P=true) (i:Nat) (sf:List Th) (st:List St) (fs:List By) (cap aw:Nat) (c:Txt) (hc:fs[i]? = some (byOk c)):allD (oneK P i sf st fs cap aw) P=(c,0):=by
 rw[Ktn (y:=oneK P i sf st fs cap aw) (Klm rfl (Kcn hP) (show findT [⟨P,false,i⟩] P=some ⟨P,false,i⟩ by simp[findT]))];unfold fAt oneK;rw[hc];rfl
theorem Qds (hP:nameB P=true) (i:Nat) (sf:List Th) (st:List St) (fs:List By) (cap aw:Nat):(listD (oneK P i sf st fs cap aw) []).1.length=1∧(listD (oneK P i sf st fs cap aw) []).2=0:=by
 have h1:Kag P=none:=Kfo hP;unfold listD entD oneK;simp[h1,sortE,insE]
theorem Qdr (hF:nameB F=true) (h:(P == F)=false) (i:Nat) (sf:List Th) (st:List St) (fs:List By) (cap aw:Nat):goneD (oneK P i sf st fs cap aw) F=(0,oneK P i sf st fs cap aw):=by
 unfold goneD;rw[Kmi (d:=oneK P i sf st fs cap aw) rfl hF (by show isT [⟨P,false,i⟩] F=0;simp[isT,findT,h])];rfl
end
theorem Qee (P:Txt):(P++Kcb == P)=false∧(P == P++Kcb)=false:=by
 constructor
 ·rw[beq_eq_false_iff_ne];intro e;have:=congrArg List.length e;simp[Kcb] at this
 ·rw[beq_eq_false_iff_ne];intro e;have:=congrArg List.length e;simp[Kcb] at this
theorem Qhp (cap:Nat) (P old s:Txt) (hP:nameB P=true) (hF:nameB (P++Kcb)=true) (hr:old.length+s.length≤cap) :
  putD (putX cap P old) P s=(0,oneK P 1 [⟨P,false,1⟩] [] [byOk old,byOk s] cap 0):=by
 obtain ⟨n1,n2⟩:=Qee P;obtain ⟨F,hFe⟩:∃F,P++Kcb=F:=⟨_,rfl⟩;rw[hFe] at hF n1 n2;unfold putD;rw[hFe];have e0:putX cap P old=oneK P 0 [⟨P,false,0⟩] [] [byOk old] cap 0:=rfl;rw[e0,Qdr hF n2,Qjh hP hF n2 n1 0 _ _ [byOk old] cap 0 s old rfl hr (.inl rfl)];rfl
theorem Qhm {F:Txt} {f g:Ds→Nat×Ds} {l:List (Ds→Nat×Ds)} {d d2:Ds} {k:Nat} (h:f d=(k+1,d2)):putL F (f :: g :: l) (0,d)=(k+1,(Kaq d2 F).2):=by
 rw[putL,if_pos rfl];simp only;rw[h,putL,if_neg (by simp)]
theorem Qho (cap:Nat) (P old s:Txt) (hP:nameB P=true) (hF:nameB (P++Kcb)=true) (hr:cap < old.length+s.length) :
  ∃st,putD (putX cap P old) P s=(7,oneK P 0 [⟨P,false,0⟩] st [byOk old,⟨[],[],[]⟩] cap 0):=by
 obtain ⟨n1,n2⟩:=Qee P;obtain ⟨F,hFe⟩:∃F,P++Kcb=F:=⟨_,rfl⟩;rw[hFe] at hF n1 n2;unfold putD;rw[hFe];have e0:putX cap P old=oneK P 0 [⟨P,false,0⟩] [] [byOk old] cap 0:=rfl;have e1:=Kuy hF n2 0 [⟨P,false,0⟩] [] [byOk old] cap 0;rw[if_neg (by omega)] at e1;have e2:=Qkr hF n2 0 [⟨P,false,0⟩] ([] ++ [.create F 1]) [byOk old] cap 0 s old rfl hr
 have hrm:(Kaq (twoK P F 0 1 [⟨P,false,0⟩] ([] ++ [.create F 1]) ([byOk old] ++ [⟨[],[],[]⟩]) cap 0) F).2=oneK P 0 [⟨P,false,0⟩] ([] ++ [.create F 1] ++ [.remove F]) ([byOk old] ++ [⟨[],[],[]⟩]) cap 0:=by
  have i1:isT (twoK P F 0 1 [⟨P,false,0⟩] ([] ++ [.create F 1]) ([byOk old] ++ [⟨[],[],[]⟩]) cap 0).things F=1:=by
   show isT [⟨P,false,0⟩,⟨F,false,1⟩] F=1
   unfold isT;rw[Kne n2];rfl
  unfold Kaq;rw[if_neg (by show ¬(false=true);simp),if_neg (by rw[Kcn hF];simp),if_neg (by rw[i1];simp),Kib,if_neg (by show ¬(0=1);simp)]
  have ha:Kaj (twoK P F 0 1 [⟨P,false,0⟩] ([] ++ [.create F 1]) ([byOk old] ++ [⟨[],[],[]⟩]) cap 0).things (.remove F) = [⟨P,false,0⟩]:=by
   show Kaj [⟨P,false,0⟩,⟨F,false,1⟩] (.remove F) = [⟨P,false,0⟩]
   have h3:Kbh P F=false:=by
    cases hb:Kbh P F with
    | false=>rfl
    | true=>
     unfold Kbh at hb;have h5:=(List.isPrefixOf_iff_prefix.1 hb).length_le;rw[←hFe] at h5;simp at h5;omega
   simp[Kaj,n2,h3]
  rw[ha];rfl
 refine ⟨[] ++ [.create F 1] ++ [.remove F],?_⟩;have hrm2:(Kaq (twoK P F 0 [byOk old].length [⟨P,false,0⟩] ([] ++ [.create F 1]) ([byOk old] ++ [⟨[],[],[]⟩]) cap 0) F).2=oneK P 0 [⟨P,false,0⟩] ([] ++ [.create F 1] ++ [.remove F]) ([byOk old] ++ [⟨[],[],[]⟩]) cap 0:=hrm;rw[e0,Qdr hF n2,Kdq e1,Qhm e2,hrm2];rfl
end
section
open Go.RowKit Go.Shelf Go.Sort
open Lib renaming hid → Jh
attribute [local go_sem ↓] Go.wp_at_zero Go.wp_at_succ
attribute [local go_sem] Later.cell
section
variable {B0 M p : Nat} {a : Nat → Addr} {R : Nat → Nat} {d : Ds} {w : World}
theorem Dk.listedK (h:Dk B0 M w R p d) (hM:M≤536870912) (hB:B0≤w.heap.size) (hF:Fails B0 a w) :
  Calls Tryz.prog 22 #[.pointer (some ⟨p,0,none⟩),.string ⟨#[]⟩] w fun e w'=>∃A c u,e = .returned (.tuple #[.slice A (listD d []).1.length c,u])∧Below w.heap.size w w':=by
 obtain ⟨A,hc,rfl⟩:=h.ex;refine (Qdw w hc (h.wf.fit hM) hB hF (fun i=>by have:=h.wf.nl hM i;omega)).mono ?_;rintro e w' ⟨v,u,rfl,_,h2,h3⟩;rcases h2.slice with ⟨h4,rfl⟩ | ⟨g,c,rfl⟩
 ·exact ⟨none,0,u,by rw[h4];rfl,h3⟩
 ·exact ⟨_,c,u,rfl,h3⟩
theorem Qec {c:Nat} (h:c≤67108864):newD (c:Int)=roomD c:=by
 unfold newD roomD;congr 1;omega
theorem Kps (O F:ByteArray) (room:Int) (hO:O.size≤9223372036854775807) (hF:F.size≤9223372036854775807) (hr1:-9223372036854775808≤room) (hr2:room≤9223372036854775807) (w:World) (hC:QCon B0 a) (hE:QEnv B0 a w) :
  Calls Tryz.prog 7 #[.string O,.string F,.int .i64 room] w fun e w'=>e = .returned (.bool true)∧Below w.heap.size w w':=by
 have HC:=Jh hC;have HE:=Jh hE;have HWK:=Jh (Kth w hC hE);clear hC hE;go_enter Tryz.func7,Tryz.ntmps7
 go_wp2_with fail
 refine HWK.out.mono ?_;rintro _ w1 ⟨rfl,hb1⟩;have HB1:=Jh hb1;clear hb1;go_upto_region 3 with fail
 go_cut [0,1] (fun s0 s1 wz=>Below w1.heap.size w1 wz∧∃X Y:ByteArray,X.size≤1000∧Y.size≤1000∧s0 = .string X∧s1 = .string Y)
 case first=>
  obtain ⟨k1,hk1⟩:∃k:Nat,min (O.size:Int) 1000=(k:Int):=⟨(min (O.size:Int) 1000).toNat,by omega⟩;obtain ⟨k2,hk2⟩:∃k:Nat,min (F.size:Int) 1000=(k:Int):=⟨(min (F.size:Int) 1000).toNat,by omega⟩;have a1:(0:Int)≤(k1:Int):=by omega
  have a2:(k1:Int)≤(O.size:Int):=by omega
  have b1:(0:Int)≤(k2:Int):=by omega
  have b2:(k2:Int)≤(F.size:Int):=by omega
  have a3:k1≤O.size:=by omega
  have b3:k2≤F.size:=by omega
  have HX:Hid ((O.extract 0 k1).size≤1000):=Jh (by rw[ByteArray.size_extract];omega);have HY:Hid ((F.extract 0 k2).size≤1000):=Jh (by rw[ByteArray.size_extract];omega);refine Kab (by kernel_rfl) (by kernel_rfl) ?_
  repeat (go_big_quiet_step (fail))
  refine wpQuiet_nil ?_;rintro w2 ⟨⟨_,hb2⟩,rfl⟩;go_wp2_with fail
  go_meet
  exact ⟨hb2,_,_,HX.out,HY.out,rfl,rfl⟩
 case rest=>
  obtain ⟨hb2,X,Y,hX,hY,rfl,rfl⟩:=hcut;obtain ⟨w2,rfl⟩:∃x,x=wc:=⟨_,rfl⟩;have HB2:=Jh (HB1.out.trans (hb2.mono HB1.out.size));have HXZ:=Jh hX;have HYZ:=Jh hY;clear hb2 hO hF;go_upto_region 4 with fail
  go_cut [7] (fun s7 wz=>∃c:Nat,X.size≤c∧c≤2500∧s7 = .int .i64 (c:Int)∧wz=w2)
  case first=>
   go_wp2_with fail
   go_meet
   refine ⟨X.size+(max 0 room % 1500).toNat,by omega,by omega,vi ?_,rfl⟩
   first | omega | (have:=Int.tmod_eq_emod_of_nonneg (b:=1500) (show (0:Int)≤max 0 room by omega);omega)
  case rest=>
   obtain ⟨c,hc1,hc2,rfl,rfl⟩:=hcut;obtain ⟨w2,rfl⟩:∃x,x=wc:=⟨_,rfl⟩;have HE2:=Jh (HE.out.low HC.out HB2.out);have HCP:=Jh (Qec (c:=c) (by omega));have HNEW:=Jh (Dk.made (c:Int) (by omega) (by omega) w2 HE2.out.hb);rw[HCP.out] at HNEW;have HC1:=Jh hc1;go_wp2_with fail
   refine HNEW.out.mono ?_;rintro e w3 ⟨p,R,rfl,hd3,hb3,hz3⟩;have HE3:=Jh (HE2.out.low HC.out hb3);have HD3:=Jh hd3;have HZ3:Hid (∀k,k < w.heap.size→R k=0):=Jh fun k hk=>hz3 k (by have:=HB2.out.size;omega)
   have HB3:=Jh (HB2.out.trans (hb3.mono HB2.out.size));obtain ⟨P,hP⟩:∃P:ByteArray,(⟨#[99]⟩:ByteArray)=P:=⟨_,rfl⟩;have hPd:P.data.toList=sC:=by rw[←hP];rfl
   have hPz:P.size≤1000000000:=by rw[←hP];decide
   have HPd:=Jh hPd;have HPz:=Jh hPz;have hXl:X.data.toList.length=X.size:=rfl;have hYl:Y.data.toList.length=Y.size:=rfl;have hp1:=Kgn P X w3 hd3 (by omega) HE3.out.hb HE3.out.e HC.out.ap hPz;rw[hPd,Kzo c sC X.data.toList Kev Kov (by omega)] at hp1;have HP1:=Jh hp1;clear hd3 hb3 hz3 hp1 hPd hPz;go_wp2_with fail
   refine HP1.out.mono ?_;rintro e w4 ⟨v4,R4,rfl,hv4,hd4,ho4⟩;obtain rfl:v4 = .nilIface:=hv4;have HD4:=Jh hd4;have HE4:=Jh (HE3.out.out HC.out HD3.out ho4);have HO4:=Jh ho4;have hp2:=Kgn P Y w4 hd4 (by omega) HE4.out.hb HE4.out.e HC.out.ap HPz.out;rw[HPd.out] at hp2;obtain ⟨r5,hr5⟩:∃r,putD (putX c sC X.data.toList) sC Y.data.toList=r:=⟨_,rfl⟩;rw[hr5] at hp2;have HP2:=Jh hp2;have HR5:=Jh hr5;clear hd4 ho4 hp2 hr5;go_wp2_with fail
   refine HP2.out.mono ?_;rintro e w5 ⟨v5,R5,rfl,hv5,hd5,ho5⟩;have HV5:=Jh hv5;have HD5:Hid (Dk B0 5000 w5 R5 p r5.2):=Jh (hd5.more (by omega));have HE5:=Jh (HE4.out.out HC.out HD4.out ho5);have HO5:=Jh (HO4.out.trans ho5);have hal:=HD5.out.all (a:=a) (by omega) HE5.out.hb HE5.out.e.f P (by have:=HPz.out;omega);rw[HPd.out] at hal;have HAL:=Jh hal;clear hv5 hd5 ho5 hal;go_wp2_with fail
   refine HAL.out.mono ?_;rintro e w6 ⟨u6,v6,R6,rfl,rfl,hv6,hd6,ho6⟩;have HV6:=Jh hv6;have HV5b:=Jh (HV5.out.out ho6);have HD6:=Jh hd6;have HE6:=Jh (HE5.out.out HC.out HD5.out ho6);have HO6:=Jh (HO5.out.trans ho6);clear hv6 hd6 ho6;go_wp2_with fail
   refine (HD6.out.listedK (a:=a) (by omega) HE6.out.hb HE6.out.e.f).mono ?_;rintro e w7 ⟨A7,c7,u7,rfl,hb7⟩;have HE7:=Jh (HE6.out.low HC.out hb7);have HV7:=Jh (HV5b.out.below hb7);have HO7:=Jh (HO6.out.trans (Out.of_below (R:=R6) hb7));clear hb7
   by_cases hle:X.size+Y.size≤c
   ·have d5:(X.size:Int)+(Y.size:Int)≤(c:Int):=by omega
    have d6:decide ((X.size:Int)+(Y.size:Int)≤(c:Int))=true:=decide_eq_true d5;have hov:=Qhp c sC X.data.toList Y.data.toList Kev Kov (by omega);rw[HR5.out] at hov;subst hov;obtain rfl:v5 = .nilIface:=HV7.out;have hka:=k_all (P:=sC) Kev 1 [⟨sC,false,1⟩] [] [byOk X.data.toList,byOk Y.data.toList] c 0 Y.data.toList rfl;have hkl:=(Qds (P:=sC) Kev 1 [⟨sC,false,1⟩] [] [byOk X.data.toList,byOk Y.data.toList] c 0).1;dsimp only at HV6 ⊢;rw[hka] at HV6;obtain rfl:v6 = .nilIface:=HV6.out.nil rfl;rw[hkl,hka];have hyv:txtV Y.data.toList = .string Y:=rfl;dsimp only;rw[hyv];have HFIN:Hid (Below w.heap.size w w7):=Jh (HB3.out.trans (HO7.out.below HB3.out.size HZ3.out));clear hka hkl;go_wp2_with fail
    go_ret
    exact ⟨rfl,HFIN.out⟩
   ·have d5:¬(X.size:Int)+(Y.size:Int)≤(c:Int):=by omega
    have d6:decide ((X.size:Int)+(Y.size:Int)≤(c:Int))=false:=decide_eq_false d5;obtain ⟨st,hov⟩:=Qho c sC X.data.toList Y.data.toList Kev Kov (by omega);rw[HR5.out] at hov;subst hov;have hka:=k_all (P:=sC) Kev 0 [⟨sC,false,0⟩] st [byOk X.data.toList,⟨[],[],[]⟩] c 0 X.data.toList rfl;have hkl:=(Qds (P:=sC) Kev 0 [⟨sC,false,0⟩] st [byOk X.data.toList,⟨[],[],[]⟩] c 0).1;dsimp only at HV6 ⊢;rw[hka] at HV6;obtain rfl:v6 = .nilIface:=HV6.out.nil rfl;rw[hkl,hka];have hyv:txtV X.data.toList = .string X:=rfl;dsimp only;rw[hyv];obtain ⟨q,op,path,rfl,hq1,hq2⟩:=HV7.out.some_ (show (7:Nat)≠0 by decide);have HF7:=Jh hq1;have hta:=Kvs (.pointer (some ⟨q,0,none⟩));clear hq1 hq2 hka hkl;go_upto_region 16 with fail
    have kq:w7.cell? ⟨q,2,none⟩=some (failV a 7):=HF7.out.cell 2;have kg:w7.cell? ⟨0,0,none⟩=some (failV a 7):=(HE7.out.e.f 7 (by decide)).2;have hql:=HF7.out.lt;have hgl:0 < w7.heap.size:=Kah kg;have heq:=fun w=>Qdc (a:=a) 7 w
    unfold failV at kq kg heq;refine Kab (by kernel_rfl) (by kernel_rfl) ?_
    repeat (go_big_quiet_step (fail))
    refine wpQuiet_nil ?_;rintro w8 ⟨⟨_,hb8⟩,rfl⟩;have HFIN:Hid (Below w.heap.size w w8):=Jh (HB3.out.trans ((HO7.out.trans (Out.of_below (R:=R6) hb8)).below HB3.out.size HZ3.out));clear hb8 kq kg hql hgl heq;go_wp2_with fail
    go_ret
    exact ⟨rfl,HFIN.out⟩
end
end
section
open Go.RowKit
theorem Kdg {P:Program} {W:World} {x:String×DataW Unit} {r:List (String×DataW Unit)} (h:laidMet P (x :: r) W):laidMet P r W:=by
 obtain ⟨ps,⟨g,t,cs,f,p,q,hg,ht,hv,hd,hr,e⟩,hnd,hrows⟩:=h;subst e;refine ⟨q,hr,?_,fun b off hm=>hrows b off (by simp[hm])⟩
 first | exact (List.nodup_append.1 hnd).2.1 | exact (List.nodup_append.1 (List.nodup_append.1 hnd).2.1).2.1
theorem Kwc:"*" ++ "errors.errorString" = "*errors.errorString":=by decide
theorem Qjs (u:TypeId) (h:Tryz.prog.typeName? 3 u=some "*errors.errorString"):u = 360:=
 typeName_ptr_named (nm:="errors.errorString") (by rw[Kwc];kernel_rfl) (by kernel_rfl) (by decide) u (by rw[Kwc];exact h)
theorem Khg {n:String} {text:List UInt8} {r:List (String×DataW Unit)} {W:World} {g:Nat}
  (h:laidMet Tryz.prog ((n,.iface "*errors.errorString" (.ptr (.agg [.lit (.string text)]))) :: r) W) (hg:Tryz.prog.globalNamed n=some g) (ht:(Tryz.prog.globals[g]?).map (·.type)=some 40) :
  ∃(a:Addr) (s:ByteArray),W.cell? ⟨g,0,none⟩=some (.iface 360 (.pointer (some a)))∧W.cell? a=some (.string s)∧s.data.toList=text∧∃c t,W.heap[a.block]? = some (.cells c t (0,0)):=by
 obtain ⟨ps,⟨g0',t0',cs0,f0,p0,q0,hg0',ht0',hv0,hd0,_,e0⟩,hnd,hrows⟩:=h;obtain rfl:=Option.some.inj (hg.symm.trans hg0');obtain rfl:=Option.some.inj (ht.symm.trans ht0');subst e0;obtain ⟨l0⟩:=cs0
 have ok0:∀u v,l0 = [.iface u v]→Value.okWide Tryz.prog W .any 0 u v:=fun u v e=>by
  subst e;exact (hrows g 0 (by simp[MemPlace.row])).2 u v (by simpa using World.var?_cell hg0' hv0 0)
 obtain ⟨a0,s0,rfl,hc0,hs0,hz0,rfl⟩:=errorString_of_trod Tryz.underlying40 Qjs Tryz.underlying360 Tryz.underlying382 rfl rfl Tryz.underlying9 (by kernel_rfl) (by kernel_rfl) hd0 ok0;refine ⟨a0,s0,by simpa using World.var?_cell hg0' hv0 0,hc0,hs0,(hrows a0.block a0.off (by simp[MemPlace.row])).1⟩
def sentT:Nat→List UInt8
 | 1=>[116,104,101,32,112,111,119,101,114,32,105,115,32,111,102,102]
 | 2=>[110,111,32,112,97,116,104]
 | 3=>[97,32,100,105,114,101,99,116,111,114,121]
 | 4=>[110,111,116,32,116,104,101,114,101]
 | 5=>[116,104,101,114,101,32,97,108,114,101,97,100,121]
 | 6=>[111,117,116,32,111,102,32,114,97,110,103,101]
 | _=>[110,111,32,115,112,97,99,101]
theorem Qex:∀i∈[1,2,3,4,5,6,7],∀j∈[1,2,3,4,5,6,7],i≠j→sentT i≠sentT j:=by decide
def Qcf (W:World) (k:Nat) (a:Addr):Prop:=W.cell? ⟨failG k,0,none⟩=some (.iface 360 (.pointer (some a)))∧(∃s:ByteArray,W.cell? a=some (.string s)∧s.data.toList=sentT k)∧∃c t,W.heap[a.block]? = some (.cells c t (0,0))
end
section
open Go.ChangeShapes Go.WideShapes Go.ChangeAt Go.RowKit Go.ChangeMaps
theorem Qib (a:Nat→Addr):∃x:Addr,x.block=(a 1).block∧∀k,1≤k→k≤7→x≠a k:=by
 refine ⟨⟨(a 1).block,(a 1).off+(a 2).off+(a 3).off+(a 4).off+(a 5).off+(a 6).off+(a 7).off+1,none⟩,rfl,fun k h1 h2 e=>?_⟩;have e2:(a k).off=(a 1).off+(a 2).off+(a 3).off+(a 4).off+(a 5).off+(a 6).off+(a 7).off+1:=by rw[←e]
 rcases (by omega:k=1∨k=2∨k=3∨k=4∨k=5∨k=6∨k=7) with rfl | rfl | rfl | rfl | rfl | rfl | rfl <;> omega
theorem Qdu {W:World} (h:laidMet Tryz.prog Rows.ckptBackRow.laid W):∃a,QCon W.heap.size a∧QEnv W.heap.size a W:=by
 have h1:=Kdg h;have h2:=Kdg h1;have h3:=Kdg h2;have h4:=Kdg h3;have h5:=Kdg h4;have h6:=Kdg h5;have h7:=Kdg h6;obtain ⟨a1,s1,p1,q1,r1,b1⟩:=Khg h1 (g:=6) (by kernel_rfl) (by kernel_rfl);obtain ⟨a2,s2,p2,q2,r2,b2⟩:=Khg h2 (g:=5) (by kernel_rfl) (by kernel_rfl);obtain ⟨a3,s3,p3,q3,r3,b3⟩:=Khg h3 (g:=3) (by kernel_rfl) (by kernel_rfl);obtain ⟨a4,s4,p4,q4,r4,b4⟩:=Khg h4 (g:=2) (by kernel_rfl) (by kernel_rfl);obtain ⟨a5,s5,p5,q5,r5,b5⟩:=Khg h5 (g:=4) (by kernel_rfl) (by kernel_rfl);obtain ⟨a7,s7,p7,q7,r7,b7⟩:=Khg h6 (g:=0) (by kernel_rfl) (by kernel_rfl);have hdbT:Lib.TabIs Tryz.prog W "math/bits.deBruijn64tab" .u8 (Lib.deBruijn64tab.map fun n:Nat=>(n:Int)):=Lib.tabIs_of_head (g:=9) (t:=332) (e:=5) (n:=64) (by kernel_rfl) (by kernel_rfl) (by kernel_rfl) (by kernel_rfl) (by kernel_rfl) (by kernel_rfl) h
 have hdb:DbTab W:=fun i hi=>by
  rw[hdbT.cell (by kernel_rfl) i (by rw[List.length_map];exact hi)];congr 2;rw[List.getD_eq_getElem?_getD,List.getElem?_map,List.getD_eq_getElem?_getD,List.getElem?_eq_getElem hi];rfl
 have hnibT:Lib.TabIs Tryz.prog W "almanac/enc.nibbles" .u32 [0,274646895,549293790,820201905,1098587580,1361435347,1640403810,1905808397,2197175160,2460548119,2722870694,2987750089,3280807620,3553878443,3811616794,4084100981]:=Lib.tabIs_of_head (g:=7) (t:=245) (e:=184) (n:=16) (by kernel_rfl) (by kernel_rfl) (by kernel_rfl) (by kernel_rfl) (by kernel_rfl) (by kernel_rfl) h7
 have hnib:Kdi W:=fun i hi=>by
  rw[hnibT.cell (by kernel_rfl) i hi];rcases (by omega:i=0∨i=1∨i=2∨i=3∨i=4∨i=5∨i=6∨i=7∨i=8∨i=9∨i=10∨i=11∨i=12∨i=13∨i=14∨i=15) with rfl | rfl | rfl | rfl | rfl | rfl | rfl | rfl | rfl | rfl | rfl | rfl | rfl | rfl | rfl | rfl <;> rfl
 obtain ⟨x6,hx6,hx6n⟩:=Qib (fun k=>match k with | 1=>a1 | 2=>a2 | 3=>a3 | 4=>a4 | 5=>a5 | 6=>a7 | _=>a7)
 have hall:∀k,k≠6→Qcf W k (match k with | 1=>a1 | 2=>a2 | 3=>a3 | 4=>a4 | 5=>a5 | 6=>x6 | _=>a7):=by
  intro k hk
  match k,hk with
  | 1,_=>exact ⟨p1,⟨s1,q1,r1⟩,b1⟩
  | 2,_=>exact ⟨p2,⟨s2,q2,r2⟩,b2⟩
  | 3,_=>exact ⟨p3,⟨s3,q3,r3⟩,b3⟩
  | 4,_=>exact ⟨p4,⟨s4,q4,r4⟩,b4⟩
  | 5,_=>exact ⟨p5,⟨s5,q5,r5⟩,b5⟩
  | 6,h=>exact absurd rfl h
  | 0,_=>exact ⟨p7,⟨s7,q7,r7⟩,b7⟩
  | _+7,_=>exact ⟨p7,⟨s7,q7,r7⟩,b7⟩
 have h6b:∃cs t,W.heap[x6.block]? = some (.cells cs t (0,0)):=by rw[hx6];exact b1
 have h6n:x6≠a1∧x6≠a2∧x6≠a3∧x6≠a4∧x6≠a5∧x6≠a7:=⟨hx6n 1 (by omega) (by omega),hx6n 2 (by omega) (by omega),hx6n 3 (by omega) (by omega),hx6n 4 (by omega) (by omega),hx6n 5 (by omega) (by omega),hx6n 7 (by omega) (by omega)⟩
 have hap:∀k,1≤k→k≤7→k≠6→x6≠(match k with | 1=>a1 | 2=>a2 | 3=>a3 | 4=>a4 | 5=>a5 | 6=>x6 | _=>a7):=by
  intro k h1 h2 h6;rcases (by omega:k=1∨k=2∨k=3∨k=4∨k=5∨k=7) with rfl | rfl | rfl | rfl | rfl | rfl
  ·exact h6n.1
  ·exact h6n.2.1
  ·exact h6n.2.2.1
  ·exact h6n.2.2.2.1
  ·exact h6n.2.2.2.2.1
  ·exact h6n.2.2.2.2.2
 have ha6:(match 6 with | 1=>a1 | 2=>a2 | 3=>a3 | 4=>a4 | 5=>a5 | 6=>x6 | _=>a7)=x6:=rfl;obtain ⟨a,ha,ha6,hap⟩:∃a:Nat→Addr,(∀k,k≠6→Qcf W k (a k))∧a 6=x6∧∀k,1≤k→k≤7→k≠6→x6≠a k:=⟨_,hall,ha6,hap⟩;refine ⟨a,⟨fun i j hi1 hi2 hj1 hj2 hne e=>?_,Kah (hnib 0 (by decide)),Kah (hdb 0 (by decide))⟩,⟨⟨fun k hk=>⟨Kah (ha k hk).1,(ha k hk).1⟩,fun k h1 h2=>?_⟩,hnib,hdb,Nat.le_refl _⟩⟩
 ·by_cases h6i:i=6
  ·subst h6i;rw[ha6] at e;exact hap j hj1 hj2 (fun h=>hne h.symm) e
  ·by_cases h6j:j=6
   ·subst h6j;rw[ha6] at e;exact hap i hi1 hi2 h6i e.symm
   ·obtain ⟨si,ci,ti⟩:=(ha i h6i).2.1;obtain ⟨sj,cj,tj⟩:=(ha j h6j).2.1;rw[e,cj] at ci;injection ci with ci;injection ci with ci;refine Qex i ?_ j ?_ hne ?_
    ·simp;omega
    ·simp;omega
    ·rw[←ti,←tj,ci]
 ·by_cases h6:k=6
  ·subst h6;rw[ha6];obtain ⟨cs,t,e⟩:=h6b;exact ⟨(Array.getElem?_eq_some_iff.1 e).1,cs,t,e⟩
  ·obtain ⟨c,t,e⟩:=(ha k h6).2.2;exact ⟨(Array.getElem?_eq_some_iff.1 e).1,c,t,e⟩
def Qha:DataW Unit→Array Value
 | .agg l=>(l.map fun | .lit (.int k v)=>Value.int k v | _=>undef).toArray
 | _=>#[]
noncomputable def Knj (os:Os):World:=
 let N:=(World.settled Tryz.prog os).heap.size
 let w0:=World.holding Tryz.prog os ⟨#[
  .cells #[.string ⟨(sentT 1).toArray⟩] 382,.cells #[.string ⟨(sentT 2).toArray⟩] 382,.cells #[.string ⟨(sentT 3).toArray⟩] 382,
  .cells #[.string ⟨(sentT 4).toArray⟩] 382,.cells #[.string ⟨(sentT 5).toArray⟩] 382,.cells #[.string ⟨(sentT 7).toArray⟩] 382],#[],[]⟩
 let put (h:Array Obj) (g:Nat) (k:Nat):Array Obj:=h.modify g fun
  | .cells _ t frozen=>.cells #[.iface 360 (.pointer (some ⟨N+k,0,none⟩))] t frozen
  | o=>o
 let tab (h:Array Obj) (g:Nat) (d:DataW Unit):Array Obj:=h.modify g fun
  | .cells _ t frozen=>.cells (Qha d) t frozen
  | o=>o
 { w0 with heap:=tab (tab (put (put (put (put (put (put w0.heap 6 0) 5 1) 3 2) 2 3) 4 4) 0 5)
  9 Rows.laid_math_bits_deBruijn64tab) 7 Rows.laid_almanac_enc_nibbles }
set_option maxRecDepth 1000000 in
theorem Qji (os:Os) (args:Array Value):laidMet Tryz.prog Rows.ckptBackRow.laid ((Knj os).forCall (fun _ _=>0) ⟨#[],args,[]⟩).memory:=
 laidMet_of_run' 8 (by kernel_rfl) (by kernel_rfl)
theorem Qgs:(Rows.ckptFullRow.inPlace == Tryz.pinned.checked.prog.inPlace 7)=true:=by kernel_rfl
theorem Qgt:(Rows.ckptFullRow.unfollowed == Tryz.pinned.checked.prog.unfollowed 7)=true:=by kernel_rfl
theorem Qgu:(Rows.ckptFullRow.recurses == Tryz.pinned.checked.prog.recurses 7)=true:=by kernel_rfl
theorem Qgv:(Rows.ckptFullRow.named == Tryz.pinned.checked.prog.varsNamed 7)=true:=by kernel_rfl
theorem Kxr:joinedFacts Tryz.pinned.checked.prog 7 Tryz.f7 (OpenSpec.ofChange Rows.ckptFullSpec).bare Rows.ckptFullRow=true:=by
 unfold joinedFacts;simp only[Bool.and_eq_true]
 repeat' apply And.intro
 all_goals first | with_reducible exact Qgs | with_reducible exact Qgt | with_reducible exact Qgu | with_reducible exact Qgv | kernel_rfl
theorem Kxt (os:Os) {H:Type} (enc:TypeId×Value→H):∃places,DataW.whole enc Tryz.prog ((Knj os).forCall (fun _ _=>0) ⟨#[],#[.string ⟨#[]⟩,.string ⟨#[]⟩,.int .i64 0],[]⟩).memory Tryz.f7.params.toList Rows.ckptFullSpec.vars false #[Value.string ⟨#[]⟩,.string ⟨#[]⟩,.int .i64 0].toList 8=some ([.lit (.string []),.lit (.string []),.lit (.int .i64 0)],[],places):=
 ⟨[],by kernel_rfl⟩
theorem Kqb (H:Type) (enc:TypeId×Value→H) (W:World) (base:Nat) (args:Array Value) (ds gs:List (DataW H)) (before:List MemPlace)
  (hval0:∀(j:Nat) t v,Tryz.f7.params[j]? = some t→args[j]? = some v→Value.okWide Tryz.prog W .any base t v)
  (hW:DataW.Whole enc Tryz.prog Tryz.f7.params.toList Rows.ckptFullSpec.vars false W args.toList ds gs before) (hsz0:(DataW.weightsEach Tryz.prog (Tryz.f7.params.toList++Rows.ckptFullSpec.plain.varTypes Tryz.prog) (ds++gs)).all (·≤reachBytes)=true) (hL:laidMetH Tryz.prog Rows.ckptFullRow.laid W) :
  Calls Tryz.prog 7 args W fun e W'=>∃v,e = .returned v∧Rows.ckptFullSpec.post enc Tryz.prog Tryz.f7 false true false false W args v W':=by
 have hval:=hval0;have hW':=hW;have hsz:=hsz0;obtain ⟨p,q,hA0,hV,rfl,_,_⟩:=hW;have hA:DataW.TrodAll enc Tryz.prog W 0 (fun _=>true) true Tryz.f7.params.toList args.toList ds p:=hA0;rw[Tryz.params7] at hA hval hsz;obtain ⟨v0,v1,v2,d0,d1,d2,p0,p1,p2,rfl,rfl,rfl,h0,h1,h2⟩:=trodAll_three hA;obtain ⟨rfl,rfl⟩:=trodVars_none hV;clear hA0 hval0 hsz0;simp only[List.append_nil] at hW';have hlt:∀x∈p0++(p1++p2),x.block < W.heap.size:=fun x hx=>by simpa using hW'.lt x (by simpa using hx)
 have hargs:∀(W':World),Below W.heap.size W W'→DataW.TrodAll enc Tryz.prog W' 0 (fun b=>decide (b < W.heap.size)) true [9,9,3] [v0,v1,v2] [d0,d1,d2] (p0++(p1++p2)):=
  fun W' hn=>trodAll_mk3 (Below.trod Tryz.laidOut (by kernel_rfl) (of_decide_eq_true (by kernel_rfl)) h0 hn (fun x hx=>hlt x (by simp[hx]))) (Below.trod Tryz.laidOut (by kernel_rfl) (of_decide_eq_true (by kernel_rfl)) h1 hn (fun x hx=>hlt x (by simp[hx]))) (Below.trod Tryz.laidOut (by kernel_rfl) (of_decide_eq_true (by kernel_rfl)) h2 hn (fun x hx=>hlt x (by simp[hx])))
 obtain ⟨s0,rfl,rfl,rfl,hs0⟩:=open_string Tryz.underlying9 (hval 0 9 v0 rfl rfl) h0;obtain ⟨s1,rfl,rfl,rfl,hs1⟩:=open_string Tryz.underlying9 (hval 1 9 v1 rfl rfl) h1;obtain ⟨z2,rfl,rfl,rfl,hz2⟩:=open_int Tryz.underlying3 (hval 2 3 v2 rfl rfl) h2;obtain ⟨a,hC,hE⟩:=Qdu hL;refine (Kps s0 s1 z2 (Nat.le_trans hs0 (by decide)) (Nat.le_trans hs1 (by decide)) (Kzy hz2).1 (Kzy hz2).2 W hC hE).mono fun e W' ⟨he,hb⟩=>?_
 subst he;exact ⟨_,rfl,_,_,_,[],_,[],hW',trodAll_mk1 (shut_bool Tryz.underlying4 true),hargs _ hb,rfl,hb.frame _,fun h=>by cases h⟩
theorem Kuz (os:Os) (started:os.Started) (H:Type) (enc:TypeId×Value→H) (F:Stop.Interp) :
  ReturnsInHanded {} Tryz.checked os 7 .any ((OpenSpec.ofChange Rows.ckptFullSpec).preRow enc Tryz.prog Tryz.f7 Rows.ckptFullRow.domain false Rows.ckptFullRow.laid) (((OpenSpec.ofChange Rows.ckptFullSpec).at F).post enc Tryz.prog Tryz.f7 false true false false):=by
 obtain ⟨places,hx⟩:=Kxt os enc
 refine returnsInHanded_of_row (C:=Tryz.checked) (s:=OpenSpec.ofChange Rows.ckptFullSpec) Tryz.own started (by kernel_rfl) Tryz.func7
  (witness_row_atRef (enc:=enc) (C:=Tryz.checked) false (Knj os) #[.string ⟨#[]⟩,.string ⟨#[]⟩,.int .i64 0] rfl (by kernel_rfl) (by kernel_rfl) (by kernel_rfl)
   (OpenSpec.preRow_of_cond 8 hx (by kernel_rfl) (fun k hk=>by cases hk) (by kernel_rfl) (Qji os _))) ?_
 intro W base args ds gs before hval hW _ _ hsz hL _ _;exact Kqb H enc W base args ds gs before hval hW hsz hL
theorem Qau:Rows.CkptFullSaid:=
 OpenClaim.holds_of_cond 7 Tryz.f7 rfl rfl rfl rfl rfl rfl rfl ⟨rfl,rfl,rfl,rfl,rfl⟩ rfl rfl rfl rfl rfl (by kernel_rfl) Tryz.func7 Kxr
  (of_decide_eq_true (by kernel_rfl)) (by unfold Func.isWrapper;first | (rw[if_pos (by decide +kernel)];kernel_rfl) | (rw[if_neg (by decide +kernel)];exact ⟨rfl,rfl⟩))
  (fun os started H enc _ F=>by rw[OpenClaim.pre_eq_preRow];exact Kuz os started H enc F)
theorem Kxs (f:FuncId) (fn:Func) (hf:Tryz.pinned.checked.prog.funcNamed "almanac/almanaclaw17.CkptFull" = some f) (hfn:Tryz.pinned.checked.prog.funcs[f]? = some fn) :
  true = Tryz.pinned.checked.prog.looks []∧∀(j:Nat) t,fn.params[j]? = some t→Tryz.pinned.checked.prog.wantsStandIn t=false:=by
 obtain rfl:f = 7:=Option.some.inj ((show Tryz.prog.funcNamed "almanac/almanaclaw17.CkptFull" = some 7 by kernel_rfl).symm.trans hf) |>.symm;obtain rfl:fn = Tryz.f7:=(Option.some.inj (Tryz.func7.symm.trans hfn)).symm;refine ⟨by kernel_rfl,fun j t ht=>?_⟩;rw[Tryz.params7] at ht;have hm:t = 9∨t = 9∨t = 3:=by simpa using Array.mem_of_getElem? ht
 rcases hm with rfl | rfl | rfl
 ·exact (show Tryz.prog.wantsStandIn 9 = false by kernel_rfl)
 ·exact (show Tryz.prog.wantsStandIn 9 = false by kernel_rfl)
 ·exact (show Tryz.prog.wantsStandIn 3 = false by kernel_rfl)
theorem ckptFull_holds:Rows.CkptFullCardSaid:=
 Claim7.holds_tied_plain_at .later [] _ _ _ _ Qau (fun _ h=>by cases h) (by kernel_rfl) (fun _ h=>by cases h) ckptFull_row_tie rfl ⟨rfl,rfl⟩ (by kernel_rfl) rfl Kxs (by kernel_rfl)
end
end Go.Proofs.YtefpndiiedkmpaaGreatDoor
