/- Merged (what the claim wants of): ChkWalksE, ChkRdA, RegTake, KptTake, UnpPlain, BackPlain, SpnPlain, CrcPlain, SpnPlain2, BlkPlain2, BlkPlain3, BlkPlain5, UnpWalksA, UnpWalksB. -/
import Derived.Test.YtefpndiiedkmpaaGreatDoorKpw03
import Derived.Test.YtefpndiiedkmpaaGreatDoorKpw01
import Derived.OrdersHeld
import Derived.Test.YtefpndiiedkmpaaGreatDoorKpw02
import Derived.Laws.Bits64
set_option linter.unusedVariables false
set_option linter.unusedSimpArgs false
set_option maxRecDepth 100000
set_option maxHeartbeats 8000000
namespace Go.Proofs.YtefpndiiedkmpaaGreatDoor
section
open Go.RowKit
open Lib renaming hid → Jh
attribute [local go_sem ↓] Go.wp_at_zero Go.wp_at_succ
attribute [local go_sem] Later.cell
def stW:Cst→List Smp→Cst
 | c,[]=>c
 | c,s :: l=>stW (Kbn c s).2 l
def encE:Cst→List Smp→Nat
 | _,[]=>0
 | c,s :: l=>if stepE c s≠0 then stepE c s else encE (Kbn c s).2 l
theorem Kky:∀(l:List Smp) (c:Cst) (s:Smp),stW c (l ++ [s])=(Kbn (stW c l) s).2
 | [],_,_=>rfl
 | x :: l,c,s=>Kky l (Kbn c x).2 s
theorem Khi:∀(l:List Smp) (c:Cst) (s:Smp),Kbt c (l ++ [s])=Kbt c l++(Kbn (stW c l) s).1
 | [],c,s=>by simp[Kbt,stW]
 | x :: l,c,s=>by rw[List.cons_append,Kbt,Kbt,Khi l,stW,List.append_assoc]
theorem stW_n:∀(l:List Smp) (c:Cst),(stW c l).n=c.n+l.length
 | [],c=>rfl
 | x :: l,c=>by rw[stW,stW_n l,(Khc c x).1,List.length_cons];omega
theorem Qdu (c:Cst) (h:c.Ok) (x:Nat):(Kbl c x).1.length≤80:=by
 have:=h.2;unfold Kbl
 repeat' split
 all_goals simp[Kaq]
 all_goals omega
theorem Qfd (c:Cst) (h:c.Ok) (s:Smp):(Kbn c s).1.length≤150:=by
 unfold Kbn
 split
 ·simp[Kaq]
 ·have h1:=Kpq (s.t - c.last.t - c.step);have h2:=Qdu { c with step:=s.t - c.last.t } h (s.v ^^^ c.last.v);simp only[List.length_append];omega
theorem Kzd {c:Cst} {s:Smp} (h:stepE c s=0):0≤s.t∧s.t≤1125899906842624∧(c.n=0∨c.last.t < s.t)∧c.n≠120:=by
 unfold stepE at h
 split at h
 ·omega
 ·split at h
  ·omega
  ·split at h
   ·omega
   ·exact ⟨by omega,by omega,by omega,by omega⟩
def prevB (prev:Option Smp) (x:Smp):Bool:=match prev with | none=>true | some y=>decide (y.t < x.t)
theorem Kti (prev:Option Smp) (n:Nat) (x:Smp) (l:List Smp):fitC prev n (x :: l)=(decide (0≤x.t) && decide (x.t≤1125899906842624) && prevB prev x && decide (n < 120) && fitC (some x) (n+1) l):=by cases prev <;> rfl
theorem Kxa:∀(l:List Smp) (c:Cst) (prev:Option Smp),c.n≤120→(∀p,prev=some p→c.n≠0∧c.last=p)→(prev=none→c.n=0)→(encE c l=0↔fitC prev c.n l=true)
 | [],c,prev,_,_,_=>by cases prev <;> simp[encE,fitC]
 | x :: l,c,prev,hn,h1,h2=>by
  have ih:=fun h=>Kxa l (Kbn c x).2 (some x) h (fun p hp=>by injection hp with hp;subst hp;exact ⟨by rw[(Khc c x).1];omega,(Khc c x).2⟩) (fun h=>by cases h)
  rw[(Khc c x).1] at ih;rw[encE]
  by_cases h0:stepE c x=0
  ·rw[if_neg (by simp[h0])];obtain ⟨a1,a2,a3,a4⟩:=Kzd h0;rw[ih (by omega)]
   have hp:prevB prev x=true:=by
    cases prev with
    | none=>rfl
    | some p=>obtain ⟨q1,q2⟩:=h1 p rfl;subst q2;exact decide_eq_true (by omega)
   rw[Kti,hp,decide_eq_true a1,decide_eq_true a2,decide_eq_true (show c.n < 120 by omega)];simp
  ·rw[if_pos h0];constructor
   ·intro h;exact absurd h h0
   ·intro h;exfalso;apply h0;rw[Kti] at h;simp only[Bool.and_eq_true,decide_eq_true_eq] at h;obtain ⟨⟨⟨⟨a1,a2⟩,a3⟩,a4⟩,_⟩:=h;unfold stepE;rw[if_neg (by omega),if_neg,if_neg (by omega)];rintro ⟨q1,q2⟩
    cases prev with
    | none=>have:=h2 rfl;omega
    | some p=>
     rw[(h1 p rfl).2] at q2;have a3':p.t < x.t:=of_decide_eq_true a3;omega
theorem Klw (l:List Smp):encE cst0 l=0↔fitC none 0 l=true:=Kxa l cst0 none (by decide) (fun p h=>by cases h) (fun _=>rfl)
def Keb (l:List Smp):List UInt8×Nat:=if encE cst0 l=0 then (Kbg l,0) else ([],encE cst0 l)
theorem Klh (l:List Smp) (A:Option Addr) (n cap:Nat) (w:World) (hE:Elems w w.heap.size 2 Kcb A n l) (hn:n≤140737488351232) (hv:∀x∈l,x.v < 2 ^ 64) (hT:DbTab w) :
  Calls Tryz.prog 36 #[.slice A n cap] w fun e w'=>e = .returned (.tuple #[.string ⟨(Keb l).1.toArray⟩,.int .i64 ((Keb l).2:Nat)])∧Below w.heap.size w w':=by
 have hlen:=hE.len;have HE:=Jh hE;have HV:=Jh hv;have hTB:DbAt w.heap.size w:=⟨hT,Kaf (hT 0 (by decide))⟩;have HTB:=Jh hTB;obtain ⟨E,hEE⟩:∃E,encE cst0 l=E:=⟨_,rfl⟩;have HEE:=Jh hEE;have HLEN:=Jh hlen
 have h0:ChAt w.heap.size w.heap.size cst0 [] (w.alloc (.cells #[.slice none 0 0,.int .i64 0,.int .i64 0,.int .i64 0,.int .u64 0,.int .i64 0,.int .i64 0,.int .i64 0,.bool false] 181)):=
  ⟨Nat.le_refl _,.slice none 0 0,Blk.new _ _ _,World.ownsRow_nil _ _ _ _,by simp[Value.ownBlock]⟩
 have hb0:Below w.heap.size w (w.alloc (.cells #[.slice none 0 0,.int .i64 0,.int .i64 0,.int .i64 0,.int .u64 0,.int .i64 0,.int .i64 0,.int .i64 0,.bool false] 181)):=(Below.refl _ _).alloc (Nat.le_refl _) _;clear hE hv hTB hT hEE hlen;go_enter Tryz.func36,Tryz.ntmps36
 go_upto_region 2 with fail
 obtain ⟨w1,hw1⟩:∃w1,w.alloc (.cells #[.slice none 0 0,.int .i64 0,.int .i64 0,.int .i64 0,.int .u64 0,.int .i64 0,.int .i64 0,.int .i64 0,.bool false] 181)=w1:=⟨_,rfl⟩;rw[hw1] at h0 hb0;rw[hw1];obtain ⟨B,hB⟩:∃B,w.heap.size=B:=⟨_,rfl⟩;rw[hB] at h0 hb0 HE HTB ⊢;have HB:=Jh hB;have H1:=Jh h0;have HB1:=Jh hb0;clear hw1 h0 hb0 hB;go_wp2_with fail
 go_loopg [10] n (fun g s10 wr=>∃i:Nat,i+g=n∧s10 = .int .i64 (i:Int)∧i≤120∧encE (stW cst0 (l.take i)) (l.drop i)=E∧(stW cst0 (l.take i)).Good∧(Kbt cst0 (l.take i)).length≤150*i∧ChAt B B (stW cst0 (l.take i)) (Kbt cst0 (l.take i)) wr∧Below B w wr)
 case atStart=>exact ⟨0,by omega,rfl,by omega,HEE.out,Cst.good0,by simp[Kbt],H1.out,HB1.out⟩
 case round=>
  obtain ⟨i,hi,rfl,h120,he,hg,hsl,hch,hb⟩:=hrel;have HI:=Jh hi;have HEI:=Jh he;have HG:=Jh hg;have HSL:=Jh hsl;have HCH:=Jh hch;have HBR:=Jh hb;have hBr:B≤wr.heap.size:=Nat.le_trans (by rw[HB.out];exact Nat.le_refl _) hb.size;clear he hg hsl hch hb
  by_cases hin:i < n
  ·have hil:i < l.length:=by have:=HLEN.out;omega
   obtain ⟨bk,off,rfl,hbk,hcell⟩:=HE.out.2 (by omega);have m0:wr.cell? ⟨bk,off+i*2,none⟩=some (.int .i64 l[i].t):=(HBR.out.cell (p:=⟨bk,off+i*2,none⟩) hbk).trans (by simpa using hcell i l[i] (List.getElem?_eq_getElem hil) 0 _ rfl);have m1:wr.cell? ⟨bk,off+i*2+1,none⟩=some (.int .u64 (l[i].v:Int)):=(HBR.out.cell (p:=⟨bk,off+i*2+1,none⟩) hbk).trans (by simpa using hcell i l[i] (List.getElem?_eq_getElem hil) 1 _ rfl);have hvi:=HV.out l[i] (List.getElem_mem hil);have hdr:l.drop i=l[i] :: l.drop (i+1):=List.drop_eq_getElem_cons hil;have htk:l.take (i+1)=l.take i ++ [l[i]]:=List.take_succ_eq_append_getElem hil;obtain ⟨x,hx⟩:∃x,l[i]=x:=⟨_,rfl⟩;rw[hx] at m0 m1 hvi hdr htk;have HDR:=Jh hdr;have HTK:=Jh htk
   have hnn:(stW cst0 (l.take i)).n=i:=by
    rw[stW_n,List.length_take];show 0+_=i
    omega
   obtain ⟨C,hC⟩:∃C,stW cst0 (l.take i)=C:=⟨_,rfl⟩;obtain ⟨L,hL⟩:∃L,Kbt cst0 (l.take i)=L:=⟨_,rfl⟩;rw[hC] at HEI HG HCH hnn;rw[hL] at HSL HCH;have HCC:=Jh hC;have HLL:=Jh hL;have HX:=Jh hx;have el:decide ((i:Int) < (n:Int))=true:=by simp;omega
   have el2:(i:Int) < (n:Int):=by omega
   clear hi hdr htk hC hL hx hcell;go_upto_region 5 with fail
   have ha:Below wr.heap.size wr (wr.alloc (.cells #[.int .i64 x.t,.int .u64 (x.v:Int)] 93)):=(Below.refl _ _).alloc (Nat.le_refl _) _;have hq:Blk (wr.alloc (.cells #[.int .i64 x.t,.int .u64 (x.v:Int)] 93)) wr.heap.size 93 #[.int .i64 x.t,.int .u64 (x.v:Int)]:=Blk.new _ _ _;obtain ⟨w2,hw2⟩:∃w2,wr.alloc (.cells #[.int .i64 x.t,.int .u64 (x.v:Int)] 93)=w2:=⟨_,rfl⟩;obtain ⟨q,hqq⟩:∃q,wr.heap.size=q:=⟨_,rfl⟩;rw[hw2] at ha hq;rw[hw2];rw[hqq] at hq;rw[hqq];have q0:w2.cell? ⟨q,0,none⟩=_:=hq.cell 0;have q1:w2.cell? ⟨q,1,none⟩=_:=hq.cell 1;have HCH2:=Jh (HCH.out.far ha);have HB2:=Jh (HBR.out.trans (ha.mono hBr));have hB2:B≤w2.heap.size:=Nat.le_trans hBr ha.size;have HAP:=Jh (Kwg B B C L x w2 HCH2.out HG.out (by omega) hvi (by have:=HSL.out;omega) hB2 (HTB.out.below HB2.out));obtain ⟨se,hse⟩:∃se,stepE C x=se:=⟨_,rfl⟩;rw[hse] at HAP;have HSE:=Jh hse;have hei:=HEI.out;rw[HDR.out,encE,hse] at hei;have hse92:se≤92:=by (rw[←hse];unfold stepE;repeat' split);all_goals omega
   clear ha hq hw2 hqq hse;go_wp2_with fail
   refine HAP.out.mono ?_;rintro _ w3 ⟨rfl,h5,h6,_⟩;have H5:=Jh h5;have HB3:=Jh (HB2.out.trans h6);have hB3:B≤w3.heap.size:=Nat.le_trans hB2 h6.size;clear h5 h6 q0 q1
   by_cases hs0:se=0
   ·subst hs0;rw[if_neg (by simp)] at hei;have HEN:=Jh hei;clear hei;have hok:=Kzd HSE.out;go_wp2_with fail
    go_roundg (gk - 1)
    case measure=>have:=HI.out;omega
    case rel=>
     refine ⟨i+1,by have:=HI.out;omega,by go_num,by have:=hok.2.2.2;omega,?_,?_,?_,?_,HB3.out⟩
     ·rw[HTK.out,Kky,HCC.out];exact HEN.out
     ·rw[HTK.out,Kky,HCC.out];exact Knv HG.out ⟨hok.1,hok.2.1,hvi⟩
     ·rw[HTK.out,Khi,HCC.out,HLL.out,List.length_append];have:=Qfd C HG.out.ok x;have:=HSL.out;omega
     ·rw[HTK.out,Kky,Khi,HCC.out,HLL.out];exact H5.out trivial
   ·rw[if_pos hs0] at hei;have e0:((se:Int) != 0)=true:=by simp;omega
    have HEN:=Jh hei;have HS0:=Jh hs0;clear hei;go_wp2_with fail
    go_ret2
    unfold Keb;rw[if_neg (by rw[HEE.out,←HEN.out];exact HS0.out),HEE.out,←HEN.out];exact ⟨rfl,by rw[HB.out];exact HB3.out⟩
  ·have el:decide ((i:Int) < (n:Int))=false:=by simp;omega
   have hi3:i=n:=by have:=HI.out;omega
   subst hi3;have htk:l.take i=l:=List.take_of_length_le (by have:=HLEN.out;omega);have hdr:l.drop i = []:=List.drop_eq_nil_of_le (by have:=HLEN.out;omega)
   have hE0:E=0:=by
    have:=HEI.out;rw[hdr] at this;exact this.symm
   rw[htk] at HCH HSL HG
   have hnn:(stW cst0 l).n=i:=by
    rw[stW_n,HLEN.out];show 0+_=i
    omega
   have HBY:=Jh (Kzy B B _ _ wr HCH.out (by omega) (by have:=HSL.out;omega) hBr)
   have ho:Keb l=(uintT i++packB (Kbt cst0 l),0):=by
    unfold Keb;rw[if_pos (by rw[HEE.out,hE0]),Kbg,HLEN.out]
   rw[hnn] at HBY;have HO:=Jh ho;obtain ⟨S,hS⟩:∃S:ByteArray,(⟨(uintT i++packB (Kbt cst0 l)).toArray⟩:ByteArray)=S:=⟨_,rfl⟩;rw[hS] at HBY;have HS:=Jh hS;clear hnn ho hS htk hdr hE0;go_wp2_with fail
   refine HBY.out.mono ?_;rintro _ w3 ⟨rfl,h6⟩;go_wp2_with fail
   go_ret2
   rw[HO.out,←HS.out];exact ⟨rfl,by rw[HB.out];exact HBR.out.trans (h6.mono hBr)⟩
end
section
open Go.RowKit
attribute [local go_sem ↓] Go.wp_at_zero Go.wp_at_succ
attribute [local go_sem] Later.cell
def Kaz (c:Nat):Ending:=.panicked [{ v:=.iface 23 (.int .i64 (c:Int)),recovered:=false }]
theorem Kah {P:Program} {fn:Func} {R:Ending→World→Prop} {ch:List PanicEntry} {a:Act} {w:World} (hd:a.defers = []) (h:R (.panicked ch) w):bodyPost P fn R (.panic ch) a w:=⟨hd,h⟩
theorem Kfm (r:Value) (c:Nat) (w:World) :
  Calls Tryz.prog 246 #[r,.bool true,.int .i64 (c:Int)] w fun e w'=>e = .returned (.tuple #[])∧w=w':=by
 go_enter Tryz.func246,Tryz.ntmps246
 go_wp2
 go_end0
 exact ⟨rfl,rfl⟩
theorem Kew (r:Value) (c:Nat) (w:World) :
  Calls Tryz.prog 246 #[r,.bool false,.int .i64 (c:Int)] w fun e w'=>e=Kaz c∧w=w':=by
 go_enter Tryz.func246,Tryz.ntmps246
 go_wp2
 exact Kah rfl ⟨rfl,rfl⟩
structure RdrAt (rd rb:Nat) (S:ByteArray) (i:Nat) (c:Cst) (w:World):Prop where
 r:Blk w rd 305 (.pointer (some ⟨rb,0,none⟩) :: .slice none 0 0 :: .int .i64 0 :: restC c).toArray
 b:Blk w rb 334 #[.string S,.int .i64 (i:Int)]
theorem RdrAt.ne {rd rb:Nat} {S:ByteArray} {i:Nat} {c:Cst} {w:World} (h:RdrAt rd rb S i c w):rd≠rb:=h.r.ne_ h.b (by decide)
theorem RdrAt.below {rd rb:Nat} {S:ByteArray} {i:Nat} {c:Cst} {w w':World} (h:RdrAt rd rb S i c w) (hb:Below w.heap.size w w'):RdrAt rd rb S i c w':=⟨h.r.below hb h.r.lt,h.b.below hb h.b.lt⟩
def RdO {α : Type} (rd rb:Nat) (S:ByteArray) (val:α→Value) (w:World) (r:Option (α×Cst×Nat)) (e:Ending) (w':World):Prop:=match r with
 | some (x,c,j)=>e = .returned (val x)∧RdrAt rd rb S j c w'∧j≤8*S.size∧Kept w.heap.size [rd,rb] w w'
 | none=>(∃f,f≠0∧e=Kaz f)∧Kept w.heap.size [rd,rb] w w'
def u64V (v:Nat):Value:=.int .u64 (v:Int)
def bitsR (S:List UInt8) (n:Nat) (c:Cst) (i:Nat):Option (Nat×Cst×Nat):=match readN S i n with
 | none=>none
 | some (v,j)=>some (v,c,j)
theorem Kept.one {w w':World} {a b:Nat} (h:Kept w.heap.size [b] w w'):Kept w.heap.size [a,b] w w':=h.mono (Nat.le_refl _) (fun k _ hk=>by simp at hk ⊢;exact .inr hk)
theorem Qlt {S:ByteArray} {i n v j:Nat} (h:readN S.data.toList i n=some (v,j)):j≤8*S.size∧j=i+n:=by
 unfold readN at h
 split at h
 ·rename_i h1
  injection h with h;injection h with _ h;have:S.data.toList.length=S.size:=rfl;omega
 ·cases h
theorem Kcd (rd rb i n:Nat) (S:ByteArray) (c:Cst) (w:World) (h:RdrAt rd rb S i c w) (hn:n≤64) (hS:S.size≤140737488351232) (hi:i≤8*S.size) :
  Calls Tryz.prog 244 #[.pointer (some ⟨rd,0,none⟩),.int .i64 (n:Int)] w (RdO rd rb S u64V w (bitsR S.data.toList n c i)):=by
 have H:=Lib.hid h;have c0:w.cell? ⟨rd,0,none⟩=some (.pointer (some ⟨rb,0,none⟩)):=h.r.cell 0;obtain ⟨r,hr⟩:∃r,readN S.data.toList i n=r:=⟨_,rfl⟩;have HT:=Lib.hid (Qfm rb i n S r hr w h.b hn hS hi);have HR:=Lib.hid hr;clear h hr;go_enter Tryz.func244,Tryz.ntmps244
 go_wp2_with fail
 refine HT.out.mono ?_;intro e w2 ho
 cases r with
 | none=>
  obtain ⟨rfl,hb⟩:=ho;go_wp2_with fail
  refine (Kew _ 20 w2).mono ?_;rintro _ _ ⟨rfl,rfl⟩;unfold Kaz;go_wp2_with fail
  refine Kah rfl ?_;unfold bitsR;rw[HR.out];exact ⟨⟨20,by decide,rfl⟩,Kept.of_below hb⟩
 | some vj=>
  obtain ⟨v,j⟩:=vj;obtain ⟨rfl,hb,hk⟩:=ho;have HB:=Lib.hid hb;have HK:=Lib.hid hk;clear hb hk;go_wp2_with fail
  refine (Kfm _ 20 w2).mono ?_;rintro _ _ ⟨rfl,rfl⟩;go_wp2_with fail
  go_ret
  unfold bitsR;rw[HR.out];exact ⟨rfl,⟨H.out.r.kept HK.out H.out.r.lt (by simpa using H.out.ne),HB.out⟩,(Qlt HR.out).1,HK.out.one⟩
end
section
open Go.RowKit
section
variable {P : Program} {ops : Array Oper} {Q : Exit → Act → World → Prop} {md : Region.Mode} {S : World → Prop} {k : Nat}
def Kcy (P:Program) (md:Region.Mode) (ops:Array Oper) (Q:Exit→Act→World→Prop) (S:World→Prop) (k:Nat):Nat→Array Bool→Act→World→Prop
 | 0,L,a,w=>Region.ready md ops L = []∧Q .normal a w
 | f+1,L,a,w=>(Region.ready md ops L = []→Q .normal a w)∧∀i∈Region.ready md ops L,wpOp P ops Q i (fun a' w'=>((L.setIfInBounds i true).getD k false=false→S w')∧Kcy P md ops Q S k f (L.setIfInBounds i true) a' w') a w
theorem Krr:∀(f:Nat) (L:Array Bool) (a:Act) (w:World),Kcy P md ops Q S k f L a w→wpAny P md ops Q f L a w
 | 0,_,_,_,h=>h
 | f+1,_,_,_,h=>⟨h.1,fun i hi=>wpOp_mono (fun a' w' h'=>Krr f _ a' w' h'.2) (h.2 i hi)⟩
theorem Kzu {i:Nat} {oi:Oper} {v:Value} (hi:ops[i]? = some oi) (hsel:∀(j:Nat) (o:Oper) cs b,ops[j]? = some o→o.op≠.select cs b)
  (hQ:∀c a w,Q (.panic c) (a.put oi.dst v) w→Q (.panic c) a w) (hki:k≠i) (hkw:∀ok,ops[k]? = some ok→∃e∈ok.after,Region.binds md e=true∧e.on=i) :
  ∀(f:Nat) (L:Array Bool) (a:Act) (w:World),
   (∀j oj,ops[j]? = some oj→j≠i→L.getD j true=false→(∀e∈oj.after,Region.binds md e=true→e.on≠i)→oi.apart ops oj=true)→
   i∈Region.ready md ops L→YieldsIf P ops S oi v a→L.getD k false=false→S w→
   Kcy P md ops Q S k f (L.setIfInBounds i true) (a.put oi.dst v) w→Kcy P md ops Q S k (f+1) L a w:=by
 intro f
 induction f with
 | zero=>
  intro L a w hfree hr hy hl hS H;refine ⟨fun h=>(by rw[h] at hr;cases hr),fun j hj=>?_⟩
  by_cases hji:j=i
  ·subst hji;exact hy.wpOp hi hS ⟨fun _=>hS,H⟩
  ·have:=ready_mono hj hji;rw[H.1] at this;cases this
 | succ f ih=>
  intro L a w hfree hr hy hl hS H;refine ⟨fun h=>(by rw[h] at hr;cases hr),fun j hj=>?_⟩
  by_cases hji:j=i
  ·subst hji;exact hy.wpOp hi hS ⟨fun _=>hS,H⟩
  ·have h1:=H.2 j (ready_mono hj hji);obtain ⟨hjun,oj,hoj,hall⟩:=mem_ready.1 hj
   have hnot:∀e∈oj.after,Region.binds md e=true→e.on≠i:=fun e he hb heq=>by
    have h1:=hall e he hb;have h0:=(mem_ready.1 hr).1;rw[heq] at h1;rcases Nat.lt_or_ge i L.size with h' | h'
    ·simp[h'] at h0 h1;rw[h0] at h1;cases h1
    ·simp[Array.getElem?_eq_none h'] at h1
   have hjk:j≠k:=by
    rintro rfl;obtain ⟨e,he,hb,heq⟩:=hkw oj hoj;exact hnot e he hb heq
   have h2:=wpOp_putIf hoj (hfree j oj hoj hji hjun hnot) (fun cs b=>hsel i oi cs b hi) (fun cs b=>hsel j oj cs b hoj) hQ hy h1
   have hfree':∀k ok,ops[k]? = some ok→k≠i→(L.setIfInBounds j true).getD k true=false→
     (∀e∈ok.after,Region.binds md e=true→e.on≠i)→oi.apart ops ok=true:=fun k ok hk hki hun hno=>by
    refine hfree k ok hk hki ?_ hno
    by_cases hjk:j=k
    ·subst hjk;exact hjun
    ·rw[getD_set_ne true hjk] at hun;exact hun
   have hl1:(L.setIfInBounds j true).getD k false=false:=by rw[getD_set_ne false hjk];exact hl
   have hl2:((L.setIfInBounds i true).setIfInBounds j true).getD k false=false:=by rw[getD_set_ne false hjk,getD_set_ne false (Ne.symm hki)];exact hl
   refine wpOp_mono (fun a' w' h3=>⟨fun _=>h3.2.1 hl2,ih (L.setIfInBounds j true) a' w' hfree' (ready_mono hr (Ne.symm hji)) h3.1 hl1 (h3.2.1 hl2) ?_⟩) h2;rw[Array.setIfInBounds_comm _ _ hji];exact h3.2.2
theorem Kwb {i:Nat} {oi:Oper} {v:Value} (hi:ops[i]? = some oi) (hsel:∀(j:Nat) (o:Oper) cs b,ops[j]? = some o→o.op≠.select cs b)
  (hQ:∀c a w,Q (.panic c) (a.put oi.dst v) w→Q (.panic c) a w) (hki:k≠i) :
  ∀(f:Nat) (L:Array Bool) (a:Act) (w:World),
   (∀j oj,ops[j]? = some oj→j≠i→L.getD j true=false→(∀e∈oj.after,Region.binds md e=true→e.on≠i)→oi.apart ops oj=true)→
   i∈Region.ready md ops L→YieldsIf P ops (fun _=>True) oi v a→(L.getD k false=false→S w)→
   Kcy P md ops Q S k f (L.setIfInBounds i true) (a.put oi.dst v) w→Kcy P md ops Q S k (f+1) L a w:=by
 have same:∀L:Array Bool,(L.setIfInBounds i true).getD k false=L.getD k false:=fun L=>getD_set_ne false (Ne.symm hki)
 intro f
 induction f with
 | zero=>
  intro L a w hfree hr hy hS H;refine ⟨fun h=>(by rw[h] at hr;cases hr),fun j hj=>?_⟩
  by_cases hji:j=i
  ·subst hji;exact hy.wpOp hi trivial ⟨fun h=>hS (by rw[same] at h;exact h),H⟩
  ·have:=ready_mono hj hji;rw[H.1] at this;cases this
 | succ f ih=>
  intro L a w hfree hr hy hS H;refine ⟨fun h=>(by rw[h] at hr;cases hr),fun j hj=>?_⟩
  by_cases hji:j=i
  ·subst hji;exact hy.wpOp hi trivial ⟨fun h=>hS (by rw[same] at h;exact h),H⟩
  ·have h1:=H.2 j (ready_mono hj hji);obtain ⟨hjun,oj,hoj,hall⟩:=mem_ready.1 hj
   have hnot:∀e∈oj.after,Region.binds md e=true→e.on≠i:=fun e he hb heq=>by
    have h1:=hall e he hb;have h0:=(mem_ready.1 hr).1;rw[heq] at h1;rcases Nat.lt_or_ge i L.size with h' | h'
    ·simp[h'] at h0 h1;rw[h0] at h1;cases h1
    ·simp[Array.getElem?_eq_none h'] at h1
   have h2:=wpOp_putIf hoj (hfree j oj hoj hji hjun hnot) (fun cs b=>hsel i oi cs b hi) (fun cs b=>hsel j oj cs b hoj) hQ hy h1
   have hfree':∀k ok,ops[k]? = some ok→k≠i→(L.setIfInBounds j true).getD k true=false→
     (∀e∈ok.after,Region.binds md e=true→e.on≠i)→oi.apart ops ok=true:=fun k ok hk hki hun hno=>by
    refine hfree k ok hk hki ?_ hno
    by_cases hjk:j=k
    ·subst hjk;exact hjun
    ·rw[getD_set_ne true hjk] at hun;exact hun
   have hl2:((L.setIfInBounds i true).setIfInBounds j true).getD k false=(L.setIfInBounds j true).getD k false:=by
    rw[Array.setIfInBounds_comm _ _ (Ne.symm hji),same]
   refine wpOp_mono (fun a' w' h3=>⟨fun h=>h3.2.1 (by rw[hl2];exact h),ih (L.setIfInBounds j true) a' w' hfree' (ready_mono hr (Ne.symm hji)) h3.1 (fun h=>h3.2.1 (by rw[hl2];exact h)) ?_⟩) h2;rw[Array.setIfInBounds_comm _ _ hji];exact h3.2.2
def Kzq (md:Region.Mode) (ops:Array Oper) (k i:Nat):Bool:=k != i && match ops[k]? with | some ok=>ok.after.any fun e=>Region.binds md e && e.on == i | none=>true
theorem Kap {i:Nat} {oi:Oper} {v:Value} {f:Nat} {L:Array Bool} {a:Act} {w:World} {d:Option Tmp} (hi:ops[i]? = some oi) (hd:oi.dst=d)
  (hs:Region.noSelect ops=true) (hf:Region.free md ops L i=true) (hr:(Region.ready md ops L).contains i=true) (hkw:Kzq md ops k i=true) (hl:L.getD k false=false)
  (hQ:∀c a w,Q (.panic c) (a.put oi.dst v) w→Q (.panic c) a w) (hy:YieldsIf P ops S oi v a) (hS:S w)
  (h:Kcy P md ops Q S k f (L.setIfInBounds i true) (a.put d v) w):Kcy P md ops Q S k (f+1) L a w:=by
 subst hd;simp only[Kzq,Bool.and_eq_true,bne_iff_ne,ne_eq] at hkw;refine Kzu hi (Region.noSelect_spec hs) hQ hkw.1 (fun ok hok=>?_) f L a w (Region.free_spec hi hf) (by simpa using hr) hy hl hS h;have h2:=hkw.2;rw[hok] at h2;obtain ⟨e,he,hb⟩:=Array.any_eq_true'.1 h2;simp only[Bool.and_eq_true,beq_iff_eq] at hb;exact ⟨e,he,hb.1,hb.2⟩
theorem Kaa {i:Nat} {oi:Oper} {v:Value} {f:Nat} {L:Array Bool} {a:Act} {w:World} {d:Option Tmp} (hi:ops[i]? = some oi) (hd:oi.dst=d)
  (hs:Region.noSelect ops=true) (hf:Region.free md ops L i=true) (hr:(Region.ready md ops L).contains i=true) (hki:(k != i)=true)
  (hQ:∀c a w,Q (.panic c) (a.put oi.dst v) w→Q (.panic c) a w) (hw:Region.wanted oi (yielded ops a.tmps)=true) (hy:∀w,(execOp a.eval oi).run P w = .ok (.value v) w) (hS:L.getD k false=false→S w)
  (h:Kcy P md ops Q S k f (L.setIfInBounds i true) (a.put d v) w):Kcy P md ops Q S k (f+1) L a w:=by
 subst hd;exact Kwb hi (Region.noSelect_spec hs) hQ (by simpa using hki) f L a w (Region.free_spec hi hf) (by simpa using hr) (.inl ⟨hw,fun w _=>hy w⟩) hS h
@[irreducible] def OpW (o:Oper) (P:Program) (a:Act) (w:World) (K:Act→World→Prop) (Q:Exit→Act→World→Prop):Prop:=o.wp P a w K Q
theorem OpW.of {o:Oper} {P:Program} {a:Act} {w:World} {K:Act→World→Prop} {Q:Exit→Act→World→Prop} (h:o.wp P a w K Q):OpW o P a w K Q:=by
 unfold OpW;exact h
theorem OpW.out {o:Oper} {P:Program} {a:Act} {w:World} {K:Act→World→Prop} {Q:Exit→Act→World→Prop} (h:OpW o P a w K Q):o.wp P a w K Q:=by
 unfold OpW at h;exact h
theorem Kak {i:Nat} {o:Oper} {f:Nat} {L:Array Bool} {a:Act} {w:World} (hr0:(Region.ready md ops L == [i])=true) (ho:ops[i]? = some o) (hg:o.guard=none)
  (h:OpW o P a w (fun a' w'=>((L.setIfInBounds i true).getD k false=false→S w')∧Kcy P md ops Q S k f (L.setIfInBounds i true) a' w') Q):Kcy P md ops Q S k (f+1) L a w:=by
 have hr:Region.ready md ops L = [i]:=eq_of_beq hr0;refine ⟨fun h0=>absurd (hr.symm.trans h0) (by simp),fun j hj=>?_⟩;rw[hr] at hj;obtain rfl:j=i:=by simpa using hj
 unfold wpOp;simp only[ho];rw[if_pos (by simp[Region.wanted,hg])];exact .inl h.out
theorem Kcp {i:Nat} {o:Oper} {f:Nat} {L:Array Bool} {a:Act} {w:World} (hr:(Region.ready md ops L == [i])=true) (ho:ops[i]? = some o) (hg:o.guard=none) (hL:(L.setIfInBounds i true).getD k false=true)
  (h:OpW o P a w (fun a' w'=>Kcy P md ops Q S k f (L.setIfInBounds i true) a' w') Q):Kcy P md ops Q S k (f+1) L a w:=
 Kak hr ho hg (.of (Oper.wp_mono (fun a' w' h'=>⟨fun e=>absurd (hL.symm.trans e) (by simp),h'⟩) h.out))
theorem Krp {i j:Nat} {o o':Oper} {f:Nat} {L:Array Bool} {a:Act} {w:World} (hr0:(Region.ready md ops L == [i,j])=true) (ho:ops[i]? = some o) (hg:o.guard=none) (ho':ops[j]? = some o') (hg':o'.guard=none)
  (h:OpW o P a w (fun a' w'=>((L.setIfInBounds i true).getD k false=false→S w')∧Kcy P md ops Q S k f (L.setIfInBounds i true) a' w') Q)
  (h':OpW o' P a w (fun a' w'=>((L.setIfInBounds j true).getD k false=false→S w')∧Kcy P md ops Q S k f (L.setIfInBounds j true) a' w') Q):Kcy P md ops Q S k (f+1) L a w:=by
 have hr:Region.ready md ops L = [i,j]:=eq_of_beq hr0;refine ⟨fun h0=>absurd (hr.symm.trans h0) (by simp),fun l hl=>?_⟩;rw[hr] at hl;rcases (by simpa using hl:l=i∨l=j) with rfl | rfl
 ·unfold wpOp;simp only[ho];rw[if_pos (by simp[Region.wanted,hg])];exact .inl h.out
 ·unfold wpOp;simp only[ho'];rw[if_pos (by simp[Region.wanted,hg'])];exact .inl h'.out
theorem Kaw {L:Array Bool} {a:Act} {w:World} (hr:(Region.ready md ops L == [])=true) (h:Q .normal a w):∀f,Kcy P md ops Q S k f L a w
 | 0=>⟨eq_of_beq hr,h⟩
 | _+1=>⟨fun _=>h,by rw[eq_of_beq hr];simp⟩
theorem Kce {id:Nat} {a:Act} {w:World} (S:World→Prop) (k n:Nat) (hm:P.follows .mixedOrders=true) (hn:ops.size=n)
  (h:Kcy P .any ops Q S k n (Array.replicate n false) a w.drew):(Code.region id ops true).wp P Q a w:=by
 subst hn;exact wp_region_any hm (Krr _ _ _ _ h)
theorem Oper.wp_ran {o:Oper} {a:Act} {w w':World} {v:Value} {d:Option Tmp} {K:Act→World→Prop} (hd:o.dst=d) (h:(execOp a.eval o).run P w = .ok (.value v) w') (hK:K (a.put d v) w'):OpW o P a w K Q:=.of <| by
 subst hd;unfold Oper.wp;rw[h];exact hK
theorem Oper.wp_skipped {o:Oper} {a:Act} {w w':World} {K:Act→World→Prop} (hd:o.dst=none) (h:(execOp a.eval o).run P w = .ok .skip w') (hK:K (a.put none undef) w'):OpW o P a w K Q:=.of <| by
 unfold Oper.wp;rw[h];show K (a.put o.dst undef) w'
 rw[hd];exact hK
theorem Oper.wp_called {o:Oper} {a:Act} {w w1:World} {g:FuncId} {args:Array Value} {d:Option Tmp} {K:Act→World→Prop} (hd:o.dst=d) (h:(execOp a.eval o).run P w = .ok (.enter g args) w1) {N:Value→World→Prop}
  (hc:Calls P g args w1 fun e w'=>∃u,e = .returned u∧N u w') (hK:∀u w',N u w'→K (a.put d u) w'):OpW o P a w K Q:=.of <| by
 subst hd;unfold Oper.wp;rw[h];refine Calls.mono hc ?_;rintro e w' ⟨u,rfl,hn⟩;exact hK u w' hn
end
end
section
open Go.RowKit
open Lib renaming hid → Jh
open List renaming setIfInBounds_toArray → Ja, set_cons_zero → Jb, set_cons_succ → Jc
attribute [local go_sem ↓] Go.wp_at_zero Go.wp_at_succ
attribute [local go_sem] Later.cell
def Rdr (pr:Nat) (S:ByteArray) (i:Nat) (w:World):Prop:=Blk w pr 115 #[.string S,.int .i64 (i:Int)]
def TkO (w:World) (OK:Value→Nat→World→Prop) (BAD:Prop) (e:Ending) (w':World):Prop:=
 Below w.heap.size w w'∧((∃v j,e = .returned (.tuple #[v,.int .i64 ((j:Nat):Int),.int .i64 0])∧OK v j w')∨(BAD∧∃v n f,f≠0∧e = .returned (.tuple #[v,n,.int .i64 ((f:Nat):Int)])))
def RdTk (pr:Nat) (w:World) (OK:Value→Nat→World→Prop) (BAD:Prop) (e:Ending) (w':World):Prop:=
 (∃v j w1,e = .returned v∧OK v j w1∧Below w.heap.size w w1∧w'=w1.setCell ⟨pr,1,none⟩ (.int .i64 ((j:Nat):Int)))∨(BAD∧∃f,f≠0∧e=Kaz f∧Below w.heap.size w w')
theorem Kog (pr i:Nat) (S:ByteArray) (w:World) (h:Rdr pr S i w) (OK:Value→Nat→World→Prop) (BAD:Prop) (hc:Calls Tryz.prog 48 #[.string S,.int .i64 (i:Int)] w.drew (TkO w OK BAD)) :
  Calls Tryz.prog 47 #[.pointer (some ⟨pr,0,none⟩),.func (.func 48) #[] #[]] w (RdTk pr w OK BAD):=by
 have H:=Jh h;have HC:=Jh hc;have c0:w.drew.cell? ⟨pr,0,none⟩=some (.string S):=(show Blk w _ _ _ from h).drew.cell 0;have c1:w.drew.cell? ⟨pr,1,none⟩=some (.int .i64 (i:Int)):=(show Blk w _ _ _ from h).drew.cell 1;clear h hc;go_enter Tryz.func47,Tryz.ntmps47
 go_upto_region 1 with fail
 have hS:w.drew.cell? ⟨pr,0,none⟩=some (.string S)∧w.drew.cell? ⟨pr,1,none⟩=some (.int .i64 (i:Int)):=⟨c0,c1⟩;refine Kce (fun w'=>w'.cell? ⟨pr,0,none⟩=some (.string S)∧w'.cell? ⟨pr,1,none⟩=some (.int .i64 (i:Int))) 9 17 (by kernel_rfl) rfl ?_;rw[show Array.replicate 17 false = #[false,false,false,false,false,false,false,false,false,false,false,false,false,false,false,false,false] from rfl];refine Kaa (i:=0) (d:=some 9) rfl rfl (by kernel_rfl) (by kernel_rfl) (by kernel_rfl) rfl (fun _ _ _ h=>h) (by rfl) (fun w=>by go_simp;try rfl) (fun _=>hS) ?_;simp only[Act.put,Ja,Jb,Jc];refine Kaa (i:=1) (d:=some 10) rfl rfl (by kernel_rfl) (by kernel_rfl) (by kernel_rfl) rfl (fun _ _ _ h=>h) (by rfl) (fun w=>by go_simp;try rfl) (fun _=>hS) ?_;simp only[Act.put,Ja,Jb,Jc];refine Kaa (i:=2) (d:=some 11) rfl rfl (by kernel_rfl) (by kernel_rfl) (by kernel_rfl) rfl (fun _ _ _ h=>h) (by rfl) (fun w=>by go_simp;try rfl) (fun _=>hS) ?_;simp only[Act.put,Ja,Jb,Jc];refine Kaa (i:=3) (d:=some 12) rfl rfl (by kernel_rfl) (by kernel_rfl) (by kernel_rfl) rfl (fun _ _ _ h=>h) (by rfl) (fun w=>by go_simp;try rfl) (fun _=>hS) ?_;simp only[Act.put,Ja,Jb,Jc];refine Kap (i:=4) (d:=some 13) rfl rfl (by kernel_rfl) (by kernel_rfl) (by kernel_rfl) (by kernel_rfl) rfl (fun _ _ _ h=>h) (.inl ⟨by rfl,fun w hw=>by (obtain ⟨ha,hb⟩:=hw;go_simp;try rfl)⟩) hS ?_;simp only[Act.put,Ja,Jb,Jc];refine Kaa (i:=5) (d:=some 14) rfl rfl (by kernel_rfl) (by kernel_rfl) (by kernel_rfl) rfl (fun _ _ _ h=>h) (by rfl) (fun w=>by go_simp;try rfl) (fun _=>hS) ?_;simp only[Act.put,Ja,Jb,Jc];refine Kaa (i:=6) (d:=some 15) rfl rfl (by kernel_rfl) (by kernel_rfl) (by kernel_rfl) rfl (fun _ _ _ h=>h) (by rfl) (fun w=>by go_simp;try rfl) (fun _=>hS) ?_;simp only[Act.put,Ja,Jb,Jc];refine Kaa (i:=7) (d:=some 16) rfl rfl (by kernel_rfl) (by kernel_rfl) (by kernel_rfl) rfl (fun _ _ _ h=>h) (by rfl) (fun w=>by go_simp;try rfl) (fun _=>hS) ?_;simp only[Act.put,Ja,Jb,Jc];refine Kap (i:=8) (d:=some 17) rfl rfl (by kernel_rfl) (by kernel_rfl) (by kernel_rfl) (by kernel_rfl) rfl (fun _ _ _ h=>h) (.inl ⟨by rfl,fun w hw=>by (obtain ⟨ha,hb⟩:=hw;go_simp;try rfl)⟩) hS ?_;simp only[Act.put,Ja,Jb,Jc];refine Kak (i:=9) (by kernel_rfl) rfl rfl ?_;refine Oper.wp_called (d:=some 18) (w1:=w.drew) (g:=48) (args:=#[.string S,.int .i64 (i:Int)]) rfl (by go_simp;try rfl) (N:=fun u w'=>Below w.heap.size w w'∧((∃v j,u = .tuple #[v,.int .i64 ((j:Nat):Int),.int .i64 0]∧OK v j w')∨(BAD∧∃v n f,f≠0∧u = .tuple #[v,n,.int .i64 ((f:Nat):Int)]))) (HC.out.mono ?_) ?_
 ·rintro _ w2 ⟨hb,⟨v,j,rfl,hok⟩ | ⟨hbad,v,n,f,hf,rfl⟩⟩
  ·exact ⟨_,rfl,hb,.inl ⟨v,j,rfl,hok⟩⟩
  ·exact ⟨_,rfl,hb,.inr ⟨hbad,v,n,f,hf,rfl⟩⟩
 ·rintro _ w2 ⟨hb,⟨v,j,rfl,hok⟩ | ⟨hbad,v,n,f,hf,rfl⟩⟩
  ·refine ⟨fun h=>absurd h (by decide),?_⟩;simp only[Act.put,Ja,Jb,Jc];refine Kaa (i:=10) (d:=some 8) rfl rfl (by kernel_rfl) (by kernel_rfl) (by kernel_rfl) rfl (fun _ _ _ h=>h) (by rfl) (fun w=>by go_simp;try rfl) (fun h=>absurd h (by decide)) ?_;simp only[Act.put,Ja,Jb,Jc];refine Kaa (i:=11) (d:=some 19) rfl rfl (by kernel_rfl) (by kernel_rfl) (by kernel_rfl) rfl (fun _ _ _ h=>h) (by rfl) (fun w=>by go_simp;try rfl) (fun h=>absurd h (by decide)) ?_;simp only[Act.put,Ja,Jb,Jc];refine Kaa (i:=12) (d:=some 20) rfl rfl (by kernel_rfl) (by kernel_rfl) (by kernel_rfl) rfl (fun _ _ _ h=>h) (by rfl) (fun w=>by go_simp;try rfl) (fun h=>absurd h (by decide)) ?_;simp only[Act.put,Ja,Jb,Jc];refine Kaa (i:=13) (d:=some 21) rfl rfl (by kernel_rfl) (by kernel_rfl) (by kernel_rfl) rfl (fun _ _ _ h=>h) (by rfl) (fun w=>by go_simp;try rfl) (fun h=>absurd h (by decide)) ?_;simp only[Act.put,Ja,Jb,Jc];refine Kaa (i:=14) (d:=some 5) rfl rfl (by kernel_rfl) (by kernel_rfl) (by kernel_rfl) rfl (fun _ _ _ h=>h) (by rfl) (fun w=>by go_simp;try rfl) (fun h=>absurd h (by decide)) ?_;simp only[Act.put,Ja,Jb,Jc];refine Kaa (i:=15) (d:=some 6) rfl rfl (by kernel_rfl) (by kernel_rfl) (by kernel_rfl) rfl (fun _ _ _ h=>h) (by rfl) (fun w=>by go_simp;try rfl) (fun h=>absurd h (by decide)) ?_;simp only[Act.put,Ja,Jb,Jc];refine Kaa (i:=16) (d:=some 7) rfl rfl (by kernel_rfl) (by kernel_rfl) (by kernel_rfl) rfl (fun _ _ _ h=>h) (by rfl) (fun w=>by go_simp;try rfl) (fun h=>absurd h (by decide)) ?_;simp only[Act.put,Ja,Jb,Jc];refine Kaw (by kernel_rfl) ?_ _;have HOK:=Jh hok;have HB:=Jh hb;have hq:=(show Blk w _ _ _ from H.out).below hb (show Blk w _ _ _ from H.out).lt;have d0:w2.cell? ⟨pr,0,none⟩=some (.string S):=hq.cell 0;have d1:w2.cell? ⟨pr,1,none⟩=some (.int .i64 (i:Int)):=hq.cell 1;have f1:w2.frozen? ⟨pr,1,none⟩=false:=hq.frozen 1;clear hok hb hq hS c0 c1;go_wp2_with fail
   go_ret
   exact .inl ⟨v,j,w2,rfl,HOK.out,HB.out,rfl⟩
  ·have e0:((f:Int) != 0)=true:=by simp;omega
   refine ⟨fun h=>absurd h (by decide),?_⟩;simp only[Act.put,Ja,Jb,Jc];refine Kaa (i:=10) (d:=some 8) rfl rfl (by kernel_rfl) (by kernel_rfl) (by kernel_rfl) rfl (fun _ _ _ h=>h) (by rfl) (fun w=>by go_simp;try rfl) (fun h=>absurd h (by decide)) ?_;simp only[Act.put,Ja,Jb,Jc];refine Kaa (i:=11) (d:=some 19) rfl rfl (by kernel_rfl) (by kernel_rfl) (by kernel_rfl) rfl (fun _ _ _ h=>h) (by rfl) (fun w=>by go_simp;try rfl) (fun h=>absurd h (by decide)) ?_;simp only[Act.put,Ja,Jb,Jc];refine Kaa (i:=12) (d:=some 20) rfl rfl (by kernel_rfl) (by kernel_rfl) (by kernel_rfl) rfl (fun _ _ _ h=>h) (by rfl) (fun w=>by go_simp;try rfl) (fun h=>absurd h (by decide)) ?_;simp only[Act.put,Ja,Jb,Jc];refine Kaa (i:=13) (d:=some 21) rfl rfl (by kernel_rfl) (by kernel_rfl) (by kernel_rfl) rfl (fun _ _ _ h=>h) (by rfl) (fun w=>by go_simp;try rfl) (fun h=>absurd h (by decide)) ?_;simp only[Act.put,Ja,Jb,Jc];refine Kaa (i:=14) (d:=some 5) rfl rfl (by kernel_rfl) (by kernel_rfl) (by kernel_rfl) rfl (fun _ _ _ h=>h) (by rfl) (fun w=>by go_simp;try rfl) (fun h=>absurd h (by decide)) ?_;simp only[Act.put,Ja,Jb,Jc];refine Kaa (i:=15) (d:=some 6) rfl rfl (by kernel_rfl) (by kernel_rfl) (by kernel_rfl) rfl (fun _ _ _ h=>h) (by rfl) (fun w=>by go_simp;try rfl) (fun h=>absurd h (by decide)) ?_;simp only[Act.put,Ja,Jb,Jc];refine Kaa (i:=16) (d:=some 7) rfl rfl (by kernel_rfl) (by kernel_rfl) (by kernel_rfl) rfl (fun _ _ _ h=>h) (by rfl) (fun w=>by go_simp;try rfl) (fun h=>absurd h (by decide)) ?_;simp only[Act.put,Ja,Jb,Jc];refine Kaw (by kernel_rfl) ?_ _;have HB:=Jh hb;clear hb hS c0 c1;go_wp2_with fail
   refine Kah rfl ?_;exact .inr ⟨hbad,f,hf,rfl,HB.out⟩
theorem Koc (pr i:Nat) (S:ByteArray) (w:World) (h:Rdr pr S i w) (OK:Value→Nat→World→Prop) (BAD:Prop) (hc:Calls Tryz.prog 102 #[.string S,.int .i64 (i:Int)] w.drew (TkO w OK BAD)) :
  Calls Tryz.prog 101 #[.pointer (some ⟨pr,0,none⟩),.func (.func 102) #[] #[]] w (RdTk pr w OK BAD):=by
 have H:=Jh h;have HC:=Jh hc;have c0:w.drew.cell? ⟨pr,0,none⟩=some (.string S):=(show Blk w _ _ _ from h).drew.cell 0;have c1:w.drew.cell? ⟨pr,1,none⟩=some (.int .i64 (i:Int)):=(show Blk w _ _ _ from h).drew.cell 1;clear h hc;go_enter Tryz.func101,Tryz.ntmps101
 go_upto_region 1 with fail
 have hS:w.drew.cell? ⟨pr,0,none⟩=some (.string S)∧w.drew.cell? ⟨pr,1,none⟩=some (.int .i64 (i:Int)):=⟨c0,c1⟩;refine Kce (fun w'=>w'.cell? ⟨pr,0,none⟩=some (.string S)∧w'.cell? ⟨pr,1,none⟩=some (.int .i64 (i:Int))) 9 17 (by kernel_rfl) rfl ?_;rw[show Array.replicate 17 false = #[false,false,false,false,false,false,false,false,false,false,false,false,false,false,false,false,false] from rfl];refine Kaa (i:=0) (d:=some 9) rfl rfl (by kernel_rfl) (by kernel_rfl) (by kernel_rfl) rfl (fun _ _ _ h=>h) (by rfl) (fun w=>by go_simp;try rfl) (fun _=>hS) ?_;simp only[Act.put,Ja,Jb,Jc];refine Kaa (i:=1) (d:=some 10) rfl rfl (by kernel_rfl) (by kernel_rfl) (by kernel_rfl) rfl (fun _ _ _ h=>h) (by rfl) (fun w=>by go_simp;try rfl) (fun _=>hS) ?_;simp only[Act.put,Ja,Jb,Jc];refine Kaa (i:=2) (d:=some 11) rfl rfl (by kernel_rfl) (by kernel_rfl) (by kernel_rfl) rfl (fun _ _ _ h=>h) (by rfl) (fun w=>by go_simp;try rfl) (fun _=>hS) ?_;simp only[Act.put,Ja,Jb,Jc];refine Kaa (i:=3) (d:=some 12) rfl rfl (by kernel_rfl) (by kernel_rfl) (by kernel_rfl) rfl (fun _ _ _ h=>h) (by rfl) (fun w=>by go_simp;try rfl) (fun _=>hS) ?_;simp only[Act.put,Ja,Jb,Jc];refine Kap (i:=4) (d:=some 13) rfl rfl (by kernel_rfl) (by kernel_rfl) (by kernel_rfl) (by kernel_rfl) rfl (fun _ _ _ h=>h) (.inl ⟨by rfl,fun w hw=>by (obtain ⟨ha,hb⟩:=hw;go_simp;try rfl)⟩) hS ?_;simp only[Act.put,Ja,Jb,Jc];refine Kaa (i:=5) (d:=some 14) rfl rfl (by kernel_rfl) (by kernel_rfl) (by kernel_rfl) rfl (fun _ _ _ h=>h) (by rfl) (fun w=>by go_simp;try rfl) (fun _=>hS) ?_;simp only[Act.put,Ja,Jb,Jc];refine Kaa (i:=6) (d:=some 15) rfl rfl (by kernel_rfl) (by kernel_rfl) (by kernel_rfl) rfl (fun _ _ _ h=>h) (by rfl) (fun w=>by go_simp;try rfl) (fun _=>hS) ?_;simp only[Act.put,Ja,Jb,Jc];refine Kaa (i:=7) (d:=some 16) rfl rfl (by kernel_rfl) (by kernel_rfl) (by kernel_rfl) rfl (fun _ _ _ h=>h) (by rfl) (fun w=>by go_simp;try rfl) (fun _=>hS) ?_;simp only[Act.put,Ja,Jb,Jc];refine Kap (i:=8) (d:=some 17) rfl rfl (by kernel_rfl) (by kernel_rfl) (by kernel_rfl) (by kernel_rfl) rfl (fun _ _ _ h=>h) (.inl ⟨by rfl,fun w hw=>by (obtain ⟨ha,hb⟩:=hw;go_simp;try rfl)⟩) hS ?_;simp only[Act.put,Ja,Jb,Jc];refine Kak (i:=9) (by kernel_rfl) rfl rfl ?_;refine Oper.wp_called (d:=some 18) (w1:=w.drew) (g:=102) (args:=#[.string S,.int .i64 (i:Int)]) rfl (by go_simp;try rfl) (N:=fun u w'=>Below w.heap.size w w'∧((∃v j,u = .tuple #[v,.int .i64 ((j:Nat):Int),.int .i64 0]∧OK v j w')∨(BAD∧∃v n f,f≠0∧u = .tuple #[v,n,.int .i64 ((f:Nat):Int)]))) (HC.out.mono ?_) ?_
 ·rintro _ w2 ⟨hb,⟨v,j,rfl,hok⟩ | ⟨hbad,v,n,f,hf,rfl⟩⟩
  ·exact ⟨_,rfl,hb,.inl ⟨v,j,rfl,hok⟩⟩
  ·exact ⟨_,rfl,hb,.inr ⟨hbad,v,n,f,hf,rfl⟩⟩
 ·rintro _ w2 ⟨hb,⟨v,j,rfl,hok⟩ | ⟨hbad,v,n,f,hf,rfl⟩⟩
  ·refine ⟨fun h=>absurd h (by decide),?_⟩;simp only[Act.put,Ja,Jb,Jc];refine Kaa (i:=10) (d:=some 8) rfl rfl (by kernel_rfl) (by kernel_rfl) (by kernel_rfl) rfl (fun _ _ _ h=>h) (by rfl) (fun w=>by go_simp;try rfl) (fun h=>absurd h (by decide)) ?_;simp only[Act.put,Ja,Jb,Jc];refine Kaa (i:=11) (d:=some 19) rfl rfl (by kernel_rfl) (by kernel_rfl) (by kernel_rfl) rfl (fun _ _ _ h=>h) (by rfl) (fun w=>by go_simp;try rfl) (fun h=>absurd h (by decide)) ?_;simp only[Act.put,Ja,Jb,Jc];refine Kaa (i:=12) (d:=some 20) rfl rfl (by kernel_rfl) (by kernel_rfl) (by kernel_rfl) rfl (fun _ _ _ h=>h) (by rfl) (fun w=>by go_simp;try rfl) (fun h=>absurd h (by decide)) ?_;simp only[Act.put,Ja,Jb,Jc];refine Kaa (i:=13) (d:=some 21) rfl rfl (by kernel_rfl) (by kernel_rfl) (by kernel_rfl) rfl (fun _ _ _ h=>h) (by rfl) (fun w=>by go_simp;try rfl) (fun h=>absurd h (by decide)) ?_;simp only[Act.put,Ja,Jb,Jc];refine Kaa (i:=14) (d:=some 5) rfl rfl (by kernel_rfl) (by kernel_rfl) (by kernel_rfl) rfl (fun _ _ _ h=>h) (by rfl) (fun w=>by go_simp;try rfl) (fun h=>absurd h (by decide)) ?_;simp only[Act.put,Ja,Jb,Jc];refine Kaa (i:=15) (d:=some 6) rfl rfl (by kernel_rfl) (by kernel_rfl) (by kernel_rfl) rfl (fun _ _ _ h=>h) (by rfl) (fun w=>by go_simp;try rfl) (fun h=>absurd h (by decide)) ?_;simp only[Act.put,Ja,Jb,Jc];refine Kaa (i:=16) (d:=some 7) rfl rfl (by kernel_rfl) (by kernel_rfl) (by kernel_rfl) rfl (fun _ _ _ h=>h) (by rfl) (fun w=>by go_simp;try rfl) (fun h=>absurd h (by decide)) ?_;simp only[Act.put,Ja,Jb,Jc];refine Kaw (by kernel_rfl) ?_ _;have HOK:=Jh hok;have HB:=Jh hb;have hq:=(show Blk w _ _ _ from H.out).below hb (show Blk w _ _ _ from H.out).lt;have d0:w2.cell? ⟨pr,0,none⟩=some (.string S):=hq.cell 0;have d1:w2.cell? ⟨pr,1,none⟩=some (.int .i64 (i:Int)):=hq.cell 1;have f1:w2.frozen? ⟨pr,1,none⟩=false:=hq.frozen 1;clear hok hb hq hS c0 c1;go_wp2_with fail
   go_ret
   exact .inl ⟨v,j,w2,rfl,HOK.out,HB.out,rfl⟩
  ·have e0:((f:Int) != 0)=true:=by simp;omega
   refine ⟨fun h=>absurd h (by decide),?_⟩;simp only[Act.put,Ja,Jb,Jc];refine Kaa (i:=10) (d:=some 8) rfl rfl (by kernel_rfl) (by kernel_rfl) (by kernel_rfl) rfl (fun _ _ _ h=>h) (by rfl) (fun w=>by go_simp;try rfl) (fun h=>absurd h (by decide)) ?_;simp only[Act.put,Ja,Jb,Jc];refine Kaa (i:=11) (d:=some 19) rfl rfl (by kernel_rfl) (by kernel_rfl) (by kernel_rfl) rfl (fun _ _ _ h=>h) (by rfl) (fun w=>by go_simp;try rfl) (fun h=>absurd h (by decide)) ?_;simp only[Act.put,Ja,Jb,Jc];refine Kaa (i:=12) (d:=some 20) rfl rfl (by kernel_rfl) (by kernel_rfl) (by kernel_rfl) rfl (fun _ _ _ h=>h) (by rfl) (fun w=>by go_simp;try rfl) (fun h=>absurd h (by decide)) ?_;simp only[Act.put,Ja,Jb,Jc];refine Kaa (i:=13) (d:=some 21) rfl rfl (by kernel_rfl) (by kernel_rfl) (by kernel_rfl) rfl (fun _ _ _ h=>h) (by rfl) (fun w=>by go_simp;try rfl) (fun h=>absurd h (by decide)) ?_;simp only[Act.put,Ja,Jb,Jc];refine Kaa (i:=14) (d:=some 5) rfl rfl (by kernel_rfl) (by kernel_rfl) (by kernel_rfl) rfl (fun _ _ _ h=>h) (by rfl) (fun w=>by go_simp;try rfl) (fun h=>absurd h (by decide)) ?_;simp only[Act.put,Ja,Jb,Jc];refine Kaa (i:=15) (d:=some 6) rfl rfl (by kernel_rfl) (by kernel_rfl) (by kernel_rfl) rfl (fun _ _ _ h=>h) (by rfl) (fun w=>by go_simp;try rfl) (fun h=>absurd h (by decide)) ?_;simp only[Act.put,Ja,Jb,Jc];refine Kaa (i:=16) (d:=some 7) rfl rfl (by kernel_rfl) (by kernel_rfl) (by kernel_rfl) rfl (fun _ _ _ h=>h) (by rfl) (fun w=>by go_simp;try rfl) (fun h=>absurd h (by decide)) ?_;simp only[Act.put,Ja,Jb,Jc];refine Kaw (by kernel_rfl) ?_ _;have HB:=Jh hb;clear hb hS c0 c1;go_wp2_with fail
   refine Kah rfl ?_;exact .inr ⟨hbad,f,hf,rfl,HB.out⟩
theorem Koe (pr i:Nat) (S:ByteArray) (w:World) (h:Rdr pr S i w) (OK:Value→Nat→World→Prop) (BAD:Prop) (hc:Calls Tryz.prog 98 #[.string S,.int .i64 (i:Int)] w.drew (TkO w OK BAD)) :
  Calls Tryz.prog 106 #[.pointer (some ⟨pr,0,none⟩),.func (.func 98) #[] #[]] w (RdTk pr w OK BAD):=by
 have H:=Jh h;have HC:=Jh hc;have c0:w.drew.cell? ⟨pr,0,none⟩=some (.string S):=(show Blk w _ _ _ from h).drew.cell 0;have c1:w.drew.cell? ⟨pr,1,none⟩=some (.int .i64 (i:Int)):=(show Blk w _ _ _ from h).drew.cell 1;clear h hc;go_enter Tryz.func106,Tryz.ntmps106
 go_upto_region 1 with fail
 have hS:w.drew.cell? ⟨pr,0,none⟩=some (.string S)∧w.drew.cell? ⟨pr,1,none⟩=some (.int .i64 (i:Int)):=⟨c0,c1⟩;refine Kce (fun w'=>w'.cell? ⟨pr,0,none⟩=some (.string S)∧w'.cell? ⟨pr,1,none⟩=some (.int .i64 (i:Int))) 9 17 (by kernel_rfl) rfl ?_;rw[show Array.replicate 17 false = #[false,false,false,false,false,false,false,false,false,false,false,false,false,false,false,false,false] from rfl];refine Kaa (i:=0) (d:=some 9) rfl rfl (by kernel_rfl) (by kernel_rfl) (by kernel_rfl) rfl (fun _ _ _ h=>h) (by rfl) (fun w=>by go_simp;try rfl) (fun _=>hS) ?_;simp only[Act.put,Ja,Jb,Jc];refine Kaa (i:=1) (d:=some 10) rfl rfl (by kernel_rfl) (by kernel_rfl) (by kernel_rfl) rfl (fun _ _ _ h=>h) (by rfl) (fun w=>by go_simp;try rfl) (fun _=>hS) ?_;simp only[Act.put,Ja,Jb,Jc];refine Kaa (i:=2) (d:=some 11) rfl rfl (by kernel_rfl) (by kernel_rfl) (by kernel_rfl) rfl (fun _ _ _ h=>h) (by rfl) (fun w=>by go_simp;try rfl) (fun _=>hS) ?_;simp only[Act.put,Ja,Jb,Jc];refine Kaa (i:=3) (d:=some 12) rfl rfl (by kernel_rfl) (by kernel_rfl) (by kernel_rfl) rfl (fun _ _ _ h=>h) (by rfl) (fun w=>by go_simp;try rfl) (fun _=>hS) ?_;simp only[Act.put,Ja,Jb,Jc];refine Kap (i:=4) (d:=some 13) rfl rfl (by kernel_rfl) (by kernel_rfl) (by kernel_rfl) (by kernel_rfl) rfl (fun _ _ _ h=>h) (.inl ⟨by rfl,fun w hw=>by (obtain ⟨ha,hb⟩:=hw;go_simp;try rfl)⟩) hS ?_;simp only[Act.put,Ja,Jb,Jc];refine Kaa (i:=5) (d:=some 14) rfl rfl (by kernel_rfl) (by kernel_rfl) (by kernel_rfl) rfl (fun _ _ _ h=>h) (by rfl) (fun w=>by go_simp;try rfl) (fun _=>hS) ?_;simp only[Act.put,Ja,Jb,Jc];refine Kaa (i:=6) (d:=some 15) rfl rfl (by kernel_rfl) (by kernel_rfl) (by kernel_rfl) rfl (fun _ _ _ h=>h) (by rfl) (fun w=>by go_simp;try rfl) (fun _=>hS) ?_;simp only[Act.put,Ja,Jb,Jc];refine Kaa (i:=7) (d:=some 16) rfl rfl (by kernel_rfl) (by kernel_rfl) (by kernel_rfl) rfl (fun _ _ _ h=>h) (by rfl) (fun w=>by go_simp;try rfl) (fun _=>hS) ?_;simp only[Act.put,Ja,Jb,Jc];refine Kap (i:=8) (d:=some 17) rfl rfl (by kernel_rfl) (by kernel_rfl) (by kernel_rfl) (by kernel_rfl) rfl (fun _ _ _ h=>h) (.inl ⟨by rfl,fun w hw=>by (obtain ⟨ha,hb⟩:=hw;go_simp;try rfl)⟩) hS ?_;simp only[Act.put,Ja,Jb,Jc];refine Kak (i:=9) (by kernel_rfl) rfl rfl ?_;refine Oper.wp_called (d:=some 18) (w1:=w.drew) (g:=98) (args:=#[.string S,.int .i64 (i:Int)]) rfl (by go_simp;try rfl) (N:=fun u w'=>Below w.heap.size w w'∧((∃v j,u = .tuple #[v,.int .i64 ((j:Nat):Int),.int .i64 0]∧OK v j w')∨(BAD∧∃v n f,f≠0∧u = .tuple #[v,n,.int .i64 ((f:Nat):Int)]))) (HC.out.mono ?_) ?_
 ·rintro _ w2 ⟨hb,⟨v,j,rfl,hok⟩ | ⟨hbad,v,n,f,hf,rfl⟩⟩
  ·exact ⟨_,rfl,hb,.inl ⟨v,j,rfl,hok⟩⟩
  ·exact ⟨_,rfl,hb,.inr ⟨hbad,v,n,f,hf,rfl⟩⟩
 ·rintro _ w2 ⟨hb,⟨v,j,rfl,hok⟩ | ⟨hbad,v,n,f,hf,rfl⟩⟩
  ·refine ⟨fun h=>absurd h (by decide),?_⟩;simp only[Act.put,Ja,Jb,Jc];refine Kaa (i:=10) (d:=some 8) rfl rfl (by kernel_rfl) (by kernel_rfl) (by kernel_rfl) rfl (fun _ _ _ h=>h) (by rfl) (fun w=>by go_simp;try rfl) (fun h=>absurd h (by decide)) ?_;simp only[Act.put,Ja,Jb,Jc];refine Kaa (i:=11) (d:=some 19) rfl rfl (by kernel_rfl) (by kernel_rfl) (by kernel_rfl) rfl (fun _ _ _ h=>h) (by rfl) (fun w=>by go_simp;try rfl) (fun h=>absurd h (by decide)) ?_;simp only[Act.put,Ja,Jb,Jc];refine Kaa (i:=12) (d:=some 20) rfl rfl (by kernel_rfl) (by kernel_rfl) (by kernel_rfl) rfl (fun _ _ _ h=>h) (by rfl) (fun w=>by go_simp;try rfl) (fun h=>absurd h (by decide)) ?_;simp only[Act.put,Ja,Jb,Jc];refine Kaa (i:=13) (d:=some 21) rfl rfl (by kernel_rfl) (by kernel_rfl) (by kernel_rfl) rfl (fun _ _ _ h=>h) (by rfl) (fun w=>by go_simp;try rfl) (fun h=>absurd h (by decide)) ?_;simp only[Act.put,Ja,Jb,Jc];refine Kaa (i:=14) (d:=some 5) rfl rfl (by kernel_rfl) (by kernel_rfl) (by kernel_rfl) rfl (fun _ _ _ h=>h) (by rfl) (fun w=>by go_simp;try rfl) (fun h=>absurd h (by decide)) ?_;simp only[Act.put,Ja,Jb,Jc];refine Kaa (i:=15) (d:=some 6) rfl rfl (by kernel_rfl) (by kernel_rfl) (by kernel_rfl) rfl (fun _ _ _ h=>h) (by rfl) (fun w=>by go_simp;try rfl) (fun h=>absurd h (by decide)) ?_;simp only[Act.put,Ja,Jb,Jc];refine Kaa (i:=16) (d:=some 7) rfl rfl (by kernel_rfl) (by kernel_rfl) (by kernel_rfl) rfl (fun _ _ _ h=>h) (by rfl) (fun w=>by go_simp;try rfl) (fun h=>absurd h (by decide)) ?_;simp only[Act.put,Ja,Jb,Jc];refine Kaw (by kernel_rfl) ?_ _;have HOK:=Jh hok;have HB:=Jh hb;have hq:=(show Blk w _ _ _ from H.out).below hb (show Blk w _ _ _ from H.out).lt;have d0:w2.cell? ⟨pr,0,none⟩=some (.string S):=hq.cell 0;have d1:w2.cell? ⟨pr,1,none⟩=some (.int .i64 (i:Int)):=hq.cell 1;have f1:w2.frozen? ⟨pr,1,none⟩=false:=hq.frozen 1;clear hok hb hq hS c0 c1;go_wp2_with fail
   go_ret
   exact .inl ⟨v,j,w2,rfl,HOK.out,HB.out,rfl⟩
  ·have e0:((f:Int) != 0)=true:=by simp;omega
   refine ⟨fun h=>absurd h (by decide),?_⟩;simp only[Act.put,Ja,Jb,Jc];refine Kaa (i:=10) (d:=some 8) rfl rfl (by kernel_rfl) (by kernel_rfl) (by kernel_rfl) rfl (fun _ _ _ h=>h) (by rfl) (fun w=>by go_simp;try rfl) (fun h=>absurd h (by decide)) ?_;simp only[Act.put,Ja,Jb,Jc];refine Kaa (i:=11) (d:=some 19) rfl rfl (by kernel_rfl) (by kernel_rfl) (by kernel_rfl) rfl (fun _ _ _ h=>h) (by rfl) (fun w=>by go_simp;try rfl) (fun h=>absurd h (by decide)) ?_;simp only[Act.put,Ja,Jb,Jc];refine Kaa (i:=12) (d:=some 20) rfl rfl (by kernel_rfl) (by kernel_rfl) (by kernel_rfl) rfl (fun _ _ _ h=>h) (by rfl) (fun w=>by go_simp;try rfl) (fun h=>absurd h (by decide)) ?_;simp only[Act.put,Ja,Jb,Jc];refine Kaa (i:=13) (d:=some 21) rfl rfl (by kernel_rfl) (by kernel_rfl) (by kernel_rfl) rfl (fun _ _ _ h=>h) (by rfl) (fun w=>by go_simp;try rfl) (fun h=>absurd h (by decide)) ?_;simp only[Act.put,Ja,Jb,Jc];refine Kaa (i:=14) (d:=some 5) rfl rfl (by kernel_rfl) (by kernel_rfl) (by kernel_rfl) rfl (fun _ _ _ h=>h) (by rfl) (fun w=>by go_simp;try rfl) (fun h=>absurd h (by decide)) ?_;simp only[Act.put,Ja,Jb,Jc];refine Kaa (i:=15) (d:=some 6) rfl rfl (by kernel_rfl) (by kernel_rfl) (by kernel_rfl) rfl (fun _ _ _ h=>h) (by rfl) (fun w=>by go_simp;try rfl) (fun h=>absurd h (by decide)) ?_;simp only[Act.put,Ja,Jb,Jc];refine Kaa (i:=16) (d:=some 7) rfl rfl (by kernel_rfl) (by kernel_rfl) (by kernel_rfl) rfl (fun _ _ _ h=>h) (by rfl) (fun w=>by go_simp;try rfl) (fun h=>absurd h (by decide)) ?_;simp only[Act.put,Ja,Jb,Jc];refine Kaw (by kernel_rfl) ?_ _;have HB:=Jh hb;clear hb hS c0 c1;go_wp2_with fail
   refine Kah rfl ?_;exact .inr ⟨hbad,f,hf,rfl,HB.out⟩
theorem Kof (pr i:Nat) (S:ByteArray) (w:World) (h:Rdr pr S i w) (OK:Value→Nat→World→Prop) (BAD:Prop) (hc:Calls Tryz.prog 46 #[.string S,.int .i64 (i:Int)] w.drew (TkO w OK BAD)) :
  Calls Tryz.prog 45 #[.pointer (some ⟨pr,0,none⟩),.func (.func 46) #[] #[]] w (RdTk pr w OK BAD):=by
 have H:=Jh h;have HC:=Jh hc;have c0:w.drew.cell? ⟨pr,0,none⟩=some (.string S):=(show Blk w _ _ _ from h).drew.cell 0;have c1:w.drew.cell? ⟨pr,1,none⟩=some (.int .i64 (i:Int)):=(show Blk w _ _ _ from h).drew.cell 1;clear h hc;go_enter Tryz.func45,Tryz.ntmps45
 go_upto_region 1 with fail
 have hS:w.drew.cell? ⟨pr,0,none⟩=some (.string S)∧w.drew.cell? ⟨pr,1,none⟩=some (.int .i64 (i:Int)):=⟨c0,c1⟩;refine Kce (fun w'=>w'.cell? ⟨pr,0,none⟩=some (.string S)∧w'.cell? ⟨pr,1,none⟩=some (.int .i64 (i:Int))) 9 17 (by kernel_rfl) rfl ?_;rw[show Array.replicate 17 false = #[false,false,false,false,false,false,false,false,false,false,false,false,false,false,false,false,false] from rfl];refine Kaa (i:=0) (d:=some 9) rfl rfl (by kernel_rfl) (by kernel_rfl) (by kernel_rfl) rfl (fun _ _ _ h=>h) (by rfl) (fun w=>by go_simp;try rfl) (fun _=>hS) ?_;simp only[Act.put,Ja,Jb,Jc];refine Kaa (i:=1) (d:=some 10) rfl rfl (by kernel_rfl) (by kernel_rfl) (by kernel_rfl) rfl (fun _ _ _ h=>h) (by rfl) (fun w=>by go_simp;try rfl) (fun _=>hS) ?_;simp only[Act.put,Ja,Jb,Jc];refine Kaa (i:=2) (d:=some 11) rfl rfl (by kernel_rfl) (by kernel_rfl) (by kernel_rfl) rfl (fun _ _ _ h=>h) (by rfl) (fun w=>by go_simp;try rfl) (fun _=>hS) ?_;simp only[Act.put,Ja,Jb,Jc];refine Kaa (i:=3) (d:=some 12) rfl rfl (by kernel_rfl) (by kernel_rfl) (by kernel_rfl) rfl (fun _ _ _ h=>h) (by rfl) (fun w=>by go_simp;try rfl) (fun _=>hS) ?_;simp only[Act.put,Ja,Jb,Jc];refine Kap (i:=4) (d:=some 13) rfl rfl (by kernel_rfl) (by kernel_rfl) (by kernel_rfl) (by kernel_rfl) rfl (fun _ _ _ h=>h) (.inl ⟨by rfl,fun w hw=>by (obtain ⟨ha,hb⟩:=hw;go_simp;try rfl)⟩) hS ?_;simp only[Act.put,Ja,Jb,Jc];refine Kaa (i:=5) (d:=some 14) rfl rfl (by kernel_rfl) (by kernel_rfl) (by kernel_rfl) rfl (fun _ _ _ h=>h) (by rfl) (fun w=>by go_simp;try rfl) (fun _=>hS) ?_;simp only[Act.put,Ja,Jb,Jc];refine Kaa (i:=6) (d:=some 15) rfl rfl (by kernel_rfl) (by kernel_rfl) (by kernel_rfl) rfl (fun _ _ _ h=>h) (by rfl) (fun w=>by go_simp;try rfl) (fun _=>hS) ?_;simp only[Act.put,Ja,Jb,Jc];refine Kaa (i:=7) (d:=some 16) rfl rfl (by kernel_rfl) (by kernel_rfl) (by kernel_rfl) rfl (fun _ _ _ h=>h) (by rfl) (fun w=>by go_simp;try rfl) (fun _=>hS) ?_;simp only[Act.put,Ja,Jb,Jc];refine Kap (i:=8) (d:=some 17) rfl rfl (by kernel_rfl) (by kernel_rfl) (by kernel_rfl) (by kernel_rfl) rfl (fun _ _ _ h=>h) (.inl ⟨by rfl,fun w hw=>by (obtain ⟨ha,hb⟩:=hw;go_simp;try rfl)⟩) hS ?_;simp only[Act.put,Ja,Jb,Jc];refine Kak (i:=9) (by kernel_rfl) rfl rfl ?_;refine Oper.wp_called (d:=some 18) (w1:=w.drew) (g:=46) (args:=#[.string S,.int .i64 (i:Int)]) rfl (by go_simp;try rfl) (N:=fun u w'=>Below w.heap.size w w'∧((∃v j,u = .tuple #[v,.int .i64 ((j:Nat):Int),.int .i64 0]∧OK v j w')∨(BAD∧∃v n f,f≠0∧u = .tuple #[v,n,.int .i64 ((f:Nat):Int)]))) (HC.out.mono ?_) ?_
 ·rintro _ w2 ⟨hb,⟨v,j,rfl,hok⟩ | ⟨hbad,v,n,f,hf,rfl⟩⟩
  ·exact ⟨_,rfl,hb,.inl ⟨v,j,rfl,hok⟩⟩
  ·exact ⟨_,rfl,hb,.inr ⟨hbad,v,n,f,hf,rfl⟩⟩
 ·rintro _ w2 ⟨hb,⟨v,j,rfl,hok⟩ | ⟨hbad,v,n,f,hf,rfl⟩⟩
  ·refine ⟨fun h=>absurd h (by decide),?_⟩;simp only[Act.put,Ja,Jb,Jc];refine Kaa (i:=10) (d:=some 8) rfl rfl (by kernel_rfl) (by kernel_rfl) (by kernel_rfl) rfl (fun _ _ _ h=>h) (by rfl) (fun w=>by go_simp;try rfl) (fun h=>absurd h (by decide)) ?_;simp only[Act.put,Ja,Jb,Jc];refine Kaa (i:=11) (d:=some 19) rfl rfl (by kernel_rfl) (by kernel_rfl) (by kernel_rfl) rfl (fun _ _ _ h=>h) (by rfl) (fun w=>by go_simp;try rfl) (fun h=>absurd h (by decide)) ?_;simp only[Act.put,Ja,Jb,Jc];refine Kaa (i:=12) (d:=some 20) rfl rfl (by kernel_rfl) (by kernel_rfl) (by kernel_rfl) rfl (fun _ _ _ h=>h) (by rfl) (fun w=>by go_simp;try rfl) (fun h=>absurd h (by decide)) ?_;simp only[Act.put,Ja,Jb,Jc];refine Kaa (i:=13) (d:=some 21) rfl rfl (by kernel_rfl) (by kernel_rfl) (by kernel_rfl) rfl (fun _ _ _ h=>h) (by rfl) (fun w=>by go_simp;try rfl) (fun h=>absurd h (by decide)) ?_;simp only[Act.put,Ja,Jb,Jc];refine Kaa (i:=14) (d:=some 5) rfl rfl (by kernel_rfl) (by kernel_rfl) (by kernel_rfl) rfl (fun _ _ _ h=>h) (by rfl) (fun w=>by go_simp;try rfl) (fun h=>absurd h (by decide)) ?_;simp only[Act.put,Ja,Jb,Jc];refine Kaa (i:=15) (d:=some 6) rfl rfl (by kernel_rfl) (by kernel_rfl) (by kernel_rfl) rfl (fun _ _ _ h=>h) (by rfl) (fun w=>by go_simp;try rfl) (fun h=>absurd h (by decide)) ?_;simp only[Act.put,Ja,Jb,Jc];refine Kaa (i:=16) (d:=some 7) rfl rfl (by kernel_rfl) (by kernel_rfl) (by kernel_rfl) rfl (fun _ _ _ h=>h) (by rfl) (fun w=>by go_simp;try rfl) (fun h=>absurd h (by decide)) ?_;simp only[Act.put,Ja,Jb,Jc];refine Kaw (by kernel_rfl) ?_ _;have HOK:=Jh hok;have HB:=Jh hb;have hq:=(show Blk w _ _ _ from H.out).below hb (show Blk w _ _ _ from H.out).lt;have d0:w2.cell? ⟨pr,0,none⟩=some (.string S):=hq.cell 0;have d1:w2.cell? ⟨pr,1,none⟩=some (.int .i64 (i:Int)):=hq.cell 1;have f1:w2.frozen? ⟨pr,1,none⟩=false:=hq.frozen 1;clear hok hb hq hS c0 c1;go_wp2_with fail
   go_ret
   exact .inl ⟨v,j,w2,rfl,HOK.out,HB.out,rfl⟩
  ·have e0:((f:Int) != 0)=true:=by simp;omega
   refine ⟨fun h=>absurd h (by decide),?_⟩;simp only[Act.put,Ja,Jb,Jc];refine Kaa (i:=10) (d:=some 8) rfl rfl (by kernel_rfl) (by kernel_rfl) (by kernel_rfl) rfl (fun _ _ _ h=>h) (by rfl) (fun w=>by go_simp;try rfl) (fun h=>absurd h (by decide)) ?_;simp only[Act.put,Ja,Jb,Jc];refine Kaa (i:=11) (d:=some 19) rfl rfl (by kernel_rfl) (by kernel_rfl) (by kernel_rfl) rfl (fun _ _ _ h=>h) (by rfl) (fun w=>by go_simp;try rfl) (fun h=>absurd h (by decide)) ?_;simp only[Act.put,Ja,Jb,Jc];refine Kaa (i:=12) (d:=some 20) rfl rfl (by kernel_rfl) (by kernel_rfl) (by kernel_rfl) rfl (fun _ _ _ h=>h) (by rfl) (fun w=>by go_simp;try rfl) (fun h=>absurd h (by decide)) ?_;simp only[Act.put,Ja,Jb,Jc];refine Kaa (i:=13) (d:=some 21) rfl rfl (by kernel_rfl) (by kernel_rfl) (by kernel_rfl) rfl (fun _ _ _ h=>h) (by rfl) (fun w=>by go_simp;try rfl) (fun h=>absurd h (by decide)) ?_;simp only[Act.put,Ja,Jb,Jc];refine Kaa (i:=14) (d:=some 5) rfl rfl (by kernel_rfl) (by kernel_rfl) (by kernel_rfl) rfl (fun _ _ _ h=>h) (by rfl) (fun w=>by go_simp;try rfl) (fun h=>absurd h (by decide)) ?_;simp only[Act.put,Ja,Jb,Jc];refine Kaa (i:=15) (d:=some 6) rfl rfl (by kernel_rfl) (by kernel_rfl) (by kernel_rfl) rfl (fun _ _ _ h=>h) (by rfl) (fun w=>by go_simp;try rfl) (fun h=>absurd h (by decide)) ?_;simp only[Act.put,Ja,Jb,Jc];refine Kaa (i:=16) (d:=some 7) rfl rfl (by kernel_rfl) (by kernel_rfl) (by kernel_rfl) rfl (fun _ _ _ h=>h) (by rfl) (fun w=>by go_simp;try rfl) (fun h=>absurd h (by decide)) ?_;simp only[Act.put,Ja,Jb,Jc];refine Kaw (by kernel_rfl) ?_ _;have HB:=Jh hb;clear hb hS c0 c1;go_wp2_with fail
   refine Kah rfl ?_;exact .inr ⟨hbad,f,hf,rfl,HB.out⟩
theorem Kob (pr i:Nat) (S:ByteArray) (w:World) (h:Rdr pr S i w) (OK:Value→Nat→World→Prop) (BAD:Prop) (hc:Calls Tryz.prog 104 #[.string S,.int .i64 (i:Int)] w.drew (TkO w OK BAD)) :
  Calls Tryz.prog 103 #[.pointer (some ⟨pr,0,none⟩),.func (.func 104) #[] #[]] w (RdTk pr w OK BAD):=by
 have H:=Jh h;have HC:=Jh hc;have c0:w.drew.cell? ⟨pr,0,none⟩=some (.string S):=(show Blk w _ _ _ from h).drew.cell 0;have c1:w.drew.cell? ⟨pr,1,none⟩=some (.int .i64 (i:Int)):=(show Blk w _ _ _ from h).drew.cell 1;clear h hc;go_enter Tryz.func103,Tryz.ntmps103
 go_upto_region 1 with fail
 have hS:w.drew.cell? ⟨pr,0,none⟩=some (.string S)∧w.drew.cell? ⟨pr,1,none⟩=some (.int .i64 (i:Int)):=⟨c0,c1⟩;refine Kce (fun w'=>w'.cell? ⟨pr,0,none⟩=some (.string S)∧w'.cell? ⟨pr,1,none⟩=some (.int .i64 (i:Int))) 9 17 (by kernel_rfl) rfl ?_;rw[show Array.replicate 17 false = #[false,false,false,false,false,false,false,false,false,false,false,false,false,false,false,false,false] from rfl];refine Kaa (i:=0) (d:=some 9) rfl rfl (by kernel_rfl) (by kernel_rfl) (by kernel_rfl) rfl (fun _ _ _ h=>h) (by rfl) (fun w=>by go_simp;try rfl) (fun _=>hS) ?_;simp only[Act.put,Ja,Jb,Jc];refine Kaa (i:=1) (d:=some 10) rfl rfl (by kernel_rfl) (by kernel_rfl) (by kernel_rfl) rfl (fun _ _ _ h=>h) (by rfl) (fun w=>by go_simp;try rfl) (fun _=>hS) ?_;simp only[Act.put,Ja,Jb,Jc];refine Kaa (i:=2) (d:=some 11) rfl rfl (by kernel_rfl) (by kernel_rfl) (by kernel_rfl) rfl (fun _ _ _ h=>h) (by rfl) (fun w=>by go_simp;try rfl) (fun _=>hS) ?_;simp only[Act.put,Ja,Jb,Jc];refine Kaa (i:=3) (d:=some 12) rfl rfl (by kernel_rfl) (by kernel_rfl) (by kernel_rfl) rfl (fun _ _ _ h=>h) (by rfl) (fun w=>by go_simp;try rfl) (fun _=>hS) ?_;simp only[Act.put,Ja,Jb,Jc];refine Kap (i:=4) (d:=some 13) rfl rfl (by kernel_rfl) (by kernel_rfl) (by kernel_rfl) (by kernel_rfl) rfl (fun _ _ _ h=>h) (.inl ⟨by rfl,fun w hw=>by (obtain ⟨ha,hb⟩:=hw;go_simp;try rfl)⟩) hS ?_;simp only[Act.put,Ja,Jb,Jc];refine Kaa (i:=5) (d:=some 14) rfl rfl (by kernel_rfl) (by kernel_rfl) (by kernel_rfl) rfl (fun _ _ _ h=>h) (by rfl) (fun w=>by go_simp;try rfl) (fun _=>hS) ?_;simp only[Act.put,Ja,Jb,Jc];refine Kaa (i:=6) (d:=some 15) rfl rfl (by kernel_rfl) (by kernel_rfl) (by kernel_rfl) rfl (fun _ _ _ h=>h) (by rfl) (fun w=>by go_simp;try rfl) (fun _=>hS) ?_;simp only[Act.put,Ja,Jb,Jc];refine Kaa (i:=7) (d:=some 16) rfl rfl (by kernel_rfl) (by kernel_rfl) (by kernel_rfl) rfl (fun _ _ _ h=>h) (by rfl) (fun w=>by go_simp;try rfl) (fun _=>hS) ?_;simp only[Act.put,Ja,Jb,Jc];refine Kap (i:=8) (d:=some 17) rfl rfl (by kernel_rfl) (by kernel_rfl) (by kernel_rfl) (by kernel_rfl) rfl (fun _ _ _ h=>h) (.inl ⟨by rfl,fun w hw=>by (obtain ⟨ha,hb⟩:=hw;go_simp;try rfl)⟩) hS ?_;simp only[Act.put,Ja,Jb,Jc];refine Kak (i:=9) (by kernel_rfl) rfl rfl ?_;refine Oper.wp_called (d:=some 18) (w1:=w.drew) (g:=104) (args:=#[.string S,.int .i64 (i:Int)]) rfl (by go_simp;try rfl) (N:=fun u w'=>Below w.heap.size w w'∧((∃v j,u = .tuple #[v,.int .i64 ((j:Nat):Int),.int .i64 0]∧OK v j w')∨(BAD∧∃v n f,f≠0∧u = .tuple #[v,n,.int .i64 ((f:Nat):Int)]))) (HC.out.mono ?_) ?_
 ·rintro _ w2 ⟨hb,⟨v,j,rfl,hok⟩ | ⟨hbad,v,n,f,hf,rfl⟩⟩
  ·exact ⟨_,rfl,hb,.inl ⟨v,j,rfl,hok⟩⟩
  ·exact ⟨_,rfl,hb,.inr ⟨hbad,v,n,f,hf,rfl⟩⟩
 ·rintro _ w2 ⟨hb,⟨v,j,rfl,hok⟩ | ⟨hbad,v,n,f,hf,rfl⟩⟩
  ·refine ⟨fun h=>absurd h (by decide),?_⟩;simp only[Act.put,Ja,Jb,Jc];refine Kaa (i:=10) (d:=some 8) rfl rfl (by kernel_rfl) (by kernel_rfl) (by kernel_rfl) rfl (fun _ _ _ h=>h) (by rfl) (fun w=>by go_simp;try rfl) (fun h=>absurd h (by decide)) ?_;simp only[Act.put,Ja,Jb,Jc];refine Kaa (i:=11) (d:=some 19) rfl rfl (by kernel_rfl) (by kernel_rfl) (by kernel_rfl) rfl (fun _ _ _ h=>h) (by rfl) (fun w=>by go_simp;try rfl) (fun h=>absurd h (by decide)) ?_;simp only[Act.put,Ja,Jb,Jc];refine Kaa (i:=12) (d:=some 20) rfl rfl (by kernel_rfl) (by kernel_rfl) (by kernel_rfl) rfl (fun _ _ _ h=>h) (by rfl) (fun w=>by go_simp;try rfl) (fun h=>absurd h (by decide)) ?_;simp only[Act.put,Ja,Jb,Jc];refine Kaa (i:=13) (d:=some 21) rfl rfl (by kernel_rfl) (by kernel_rfl) (by kernel_rfl) rfl (fun _ _ _ h=>h) (by rfl) (fun w=>by go_simp;try rfl) (fun h=>absurd h (by decide)) ?_;simp only[Act.put,Ja,Jb,Jc];refine Kaa (i:=14) (d:=some 5) rfl rfl (by kernel_rfl) (by kernel_rfl) (by kernel_rfl) rfl (fun _ _ _ h=>h) (by rfl) (fun w=>by go_simp;try rfl) (fun h=>absurd h (by decide)) ?_;simp only[Act.put,Ja,Jb,Jc];refine Kaa (i:=15) (d:=some 6) rfl rfl (by kernel_rfl) (by kernel_rfl) (by kernel_rfl) rfl (fun _ _ _ h=>h) (by rfl) (fun w=>by go_simp;try rfl) (fun h=>absurd h (by decide)) ?_;simp only[Act.put,Ja,Jb,Jc];refine Kaa (i:=16) (d:=some 7) rfl rfl (by kernel_rfl) (by kernel_rfl) (by kernel_rfl) rfl (fun _ _ _ h=>h) (by rfl) (fun w=>by go_simp;try rfl) (fun h=>absurd h (by decide)) ?_;simp only[Act.put,Ja,Jb,Jc];refine Kaw (by kernel_rfl) ?_ _;have HOK:=Jh hok;have HB:=Jh hb;have hq:=(show Blk w _ _ _ from H.out).below hb (show Blk w _ _ _ from H.out).lt;have d0:w2.cell? ⟨pr,0,none⟩=some (.string S):=hq.cell 0;have d1:w2.cell? ⟨pr,1,none⟩=some (.int .i64 (i:Int)):=hq.cell 1;have f1:w2.frozen? ⟨pr,1,none⟩=false:=hq.frozen 1;clear hok hb hq hS c0 c1;go_wp2_with fail
   go_ret
   exact .inl ⟨v,j,w2,rfl,HOK.out,HB.out,rfl⟩
  ·have e0:((f:Int) != 0)=true:=by simp;omega
   refine ⟨fun h=>absurd h (by decide),?_⟩;simp only[Act.put,Ja,Jb,Jc];refine Kaa (i:=10) (d:=some 8) rfl rfl (by kernel_rfl) (by kernel_rfl) (by kernel_rfl) rfl (fun _ _ _ h=>h) (by rfl) (fun w=>by go_simp;try rfl) (fun h=>absurd h (by decide)) ?_;simp only[Act.put,Ja,Jb,Jc];refine Kaa (i:=11) (d:=some 19) rfl rfl (by kernel_rfl) (by kernel_rfl) (by kernel_rfl) rfl (fun _ _ _ h=>h) (by rfl) (fun w=>by go_simp;try rfl) (fun h=>absurd h (by decide)) ?_;simp only[Act.put,Ja,Jb,Jc];refine Kaa (i:=12) (d:=some 20) rfl rfl (by kernel_rfl) (by kernel_rfl) (by kernel_rfl) rfl (fun _ _ _ h=>h) (by rfl) (fun w=>by go_simp;try rfl) (fun h=>absurd h (by decide)) ?_;simp only[Act.put,Ja,Jb,Jc];refine Kaa (i:=13) (d:=some 21) rfl rfl (by kernel_rfl) (by kernel_rfl) (by kernel_rfl) rfl (fun _ _ _ h=>h) (by rfl) (fun w=>by go_simp;try rfl) (fun h=>absurd h (by decide)) ?_;simp only[Act.put,Ja,Jb,Jc];refine Kaa (i:=14) (d:=some 5) rfl rfl (by kernel_rfl) (by kernel_rfl) (by kernel_rfl) rfl (fun _ _ _ h=>h) (by rfl) (fun w=>by go_simp;try rfl) (fun h=>absurd h (by decide)) ?_;simp only[Act.put,Ja,Jb,Jc];refine Kaa (i:=15) (d:=some 6) rfl rfl (by kernel_rfl) (by kernel_rfl) (by kernel_rfl) rfl (fun _ _ _ h=>h) (by rfl) (fun w=>by go_simp;try rfl) (fun h=>absurd h (by decide)) ?_;simp only[Act.put,Ja,Jb,Jc];refine Kaa (i:=16) (d:=some 7) rfl rfl (by kernel_rfl) (by kernel_rfl) (by kernel_rfl) rfl (fun _ _ _ h=>h) (by rfl) (fun w=>by go_simp;try rfl) (fun h=>absurd h (by decide)) ?_;simp only[Act.put,Ja,Jb,Jc];refine Kaw (by kernel_rfl) ?_ _;have HB:=Jh hb;clear hb hS c0 c1;go_wp2_with fail
   refine Kah rfl ?_;exact .inr ⟨hbad,f,hf,rfl,HB.out⟩
theorem Kod (pr i:Nat) (S:ByteArray) (tv:Value) (w:World) (h:Rdr pr S i w) (OK:Value→Nat→World→Prop) (BAD:Prop) (hc:Calls Tryz.prog 100 #[tv,.string S,.int .i64 (i:Int)] w.drew (TkO w OK BAD)) :
  Calls Tryz.prog 99 #[.pointer (some ⟨pr,0,none⟩),.func (.func 100) #[tv] #[]] w (RdTk pr w OK BAD):=by
 have H:=Jh h;have HC:=Jh hc;have c0:w.drew.cell? ⟨pr,0,none⟩=some (.string S):=(show Blk w _ _ _ from h).drew.cell 0;have c1:w.drew.cell? ⟨pr,1,none⟩=some (.int .i64 (i:Int)):=(show Blk w _ _ _ from h).drew.cell 1;clear h hc;go_enter Tryz.func99,Tryz.ntmps99
 go_upto_region 1 with fail
 have hS:w.drew.cell? ⟨pr,0,none⟩=some (.string S)∧w.drew.cell? ⟨pr,1,none⟩=some (.int .i64 (i:Int)):=⟨c0,c1⟩;refine Kce (fun w'=>w'.cell? ⟨pr,0,none⟩=some (.string S)∧w'.cell? ⟨pr,1,none⟩=some (.int .i64 (i:Int))) 9 17 (by kernel_rfl) rfl ?_;rw[show Array.replicate 17 false = #[false,false,false,false,false,false,false,false,false,false,false,false,false,false,false,false,false] from rfl];refine Kaa (i:=0) (d:=some 9) rfl rfl (by kernel_rfl) (by kernel_rfl) (by kernel_rfl) rfl (fun _ _ _ h=>h) (by rfl) (fun w=>by go_simp;try rfl) (fun _=>hS) ?_;simp only[Act.put,Ja,Jb,Jc];refine Kaa (i:=1) (d:=some 10) rfl rfl (by kernel_rfl) (by kernel_rfl) (by kernel_rfl) rfl (fun _ _ _ h=>h) (by rfl) (fun w=>by go_simp;try rfl) (fun _=>hS) ?_;simp only[Act.put,Ja,Jb,Jc];refine Kaa (i:=2) (d:=some 11) rfl rfl (by kernel_rfl) (by kernel_rfl) (by kernel_rfl) rfl (fun _ _ _ h=>h) (by rfl) (fun w=>by go_simp;try rfl) (fun _=>hS) ?_;simp only[Act.put,Ja,Jb,Jc];refine Kaa (i:=3) (d:=some 12) rfl rfl (by kernel_rfl) (by kernel_rfl) (by kernel_rfl) rfl (fun _ _ _ h=>h) (by rfl) (fun w=>by go_simp;try rfl) (fun _=>hS) ?_;simp only[Act.put,Ja,Jb,Jc];refine Kap (i:=4) (d:=some 13) rfl rfl (by kernel_rfl) (by kernel_rfl) (by kernel_rfl) (by kernel_rfl) rfl (fun _ _ _ h=>h) (.inl ⟨by rfl,fun w hw=>by (obtain ⟨ha,hb⟩:=hw;go_simp;try rfl)⟩) hS ?_;simp only[Act.put,Ja,Jb,Jc];refine Kaa (i:=5) (d:=some 14) rfl rfl (by kernel_rfl) (by kernel_rfl) (by kernel_rfl) rfl (fun _ _ _ h=>h) (by rfl) (fun w=>by go_simp;try rfl) (fun _=>hS) ?_;simp only[Act.put,Ja,Jb,Jc];refine Kaa (i:=6) (d:=some 15) rfl rfl (by kernel_rfl) (by kernel_rfl) (by kernel_rfl) rfl (fun _ _ _ h=>h) (by rfl) (fun w=>by go_simp;try rfl) (fun _=>hS) ?_;simp only[Act.put,Ja,Jb,Jc];refine Kaa (i:=7) (d:=some 16) rfl rfl (by kernel_rfl) (by kernel_rfl) (by kernel_rfl) rfl (fun _ _ _ h=>h) (by rfl) (fun w=>by go_simp;try rfl) (fun _=>hS) ?_;simp only[Act.put,Ja,Jb,Jc];refine Kap (i:=8) (d:=some 17) rfl rfl (by kernel_rfl) (by kernel_rfl) (by kernel_rfl) (by kernel_rfl) rfl (fun _ _ _ h=>h) (.inl ⟨by rfl,fun w hw=>by (obtain ⟨ha,hb⟩:=hw;go_simp;try rfl)⟩) hS ?_;simp only[Act.put,Ja,Jb,Jc];refine Kak (i:=9) (by kernel_rfl) rfl rfl ?_;refine Oper.wp_called (d:=some 18) (w1:=w.drew) (g:=100) (args:=#[tv,.string S,.int .i64 (i:Int)]) rfl (by go_simp;try rfl) (N:=fun u w'=>Below w.heap.size w w'∧((∃v j,u = .tuple #[v,.int .i64 ((j:Nat):Int),.int .i64 0]∧OK v j w')∨(BAD∧∃v n f,f≠0∧u = .tuple #[v,n,.int .i64 ((f:Nat):Int)]))) (HC.out.mono ?_) ?_
 ·rintro _ w2 ⟨hb,⟨v,j,rfl,hok⟩ | ⟨hbad,v,n,f,hf,rfl⟩⟩
  ·exact ⟨_,rfl,hb,.inl ⟨v,j,rfl,hok⟩⟩
  ·exact ⟨_,rfl,hb,.inr ⟨hbad,v,n,f,hf,rfl⟩⟩
 ·rintro _ w2 ⟨hb,⟨v,j,rfl,hok⟩ | ⟨hbad,v,n,f,hf,rfl⟩⟩
  ·refine ⟨fun h=>absurd h (by decide),?_⟩;simp only[Act.put,Ja,Jb,Jc];refine Kaa (i:=10) (d:=some 8) rfl rfl (by kernel_rfl) (by kernel_rfl) (by kernel_rfl) rfl (fun _ _ _ h=>h) (by rfl) (fun w=>by go_simp;try rfl) (fun h=>absurd h (by decide)) ?_;simp only[Act.put,Ja,Jb,Jc];refine Kaa (i:=11) (d:=some 19) rfl rfl (by kernel_rfl) (by kernel_rfl) (by kernel_rfl) rfl (fun _ _ _ h=>h) (by rfl) (fun w=>by go_simp;try rfl) (fun h=>absurd h (by decide)) ?_;simp only[Act.put,Ja,Jb,Jc];refine Kaa (i:=12) (d:=some 20) rfl rfl (by kernel_rfl) (by kernel_rfl) (by kernel_rfl) rfl (fun _ _ _ h=>h) (by rfl) (fun w=>by go_simp;try rfl) (fun h=>absurd h (by decide)) ?_;simp only[Act.put,Ja,Jb,Jc];refine Kaa (i:=13) (d:=some 21) rfl rfl (by kernel_rfl) (by kernel_rfl) (by kernel_rfl) rfl (fun _ _ _ h=>h) (by rfl) (fun w=>by go_simp;try rfl) (fun h=>absurd h (by decide)) ?_;simp only[Act.put,Ja,Jb,Jc];refine Kaa (i:=14) (d:=some 5) rfl rfl (by kernel_rfl) (by kernel_rfl) (by kernel_rfl) rfl (fun _ _ _ h=>h) (by rfl) (fun w=>by go_simp;try rfl) (fun h=>absurd h (by decide)) ?_;simp only[Act.put,Ja,Jb,Jc];refine Kaa (i:=15) (d:=some 6) rfl rfl (by kernel_rfl) (by kernel_rfl) (by kernel_rfl) rfl (fun _ _ _ h=>h) (by rfl) (fun w=>by go_simp;try rfl) (fun h=>absurd h (by decide)) ?_;simp only[Act.put,Ja,Jb,Jc];refine Kaa (i:=16) (d:=some 7) rfl rfl (by kernel_rfl) (by kernel_rfl) (by kernel_rfl) rfl (fun _ _ _ h=>h) (by rfl) (fun w=>by go_simp;try rfl) (fun h=>absurd h (by decide)) ?_;simp only[Act.put,Ja,Jb,Jc];refine Kaw (by kernel_rfl) ?_ _;have HOK:=Jh hok;have HB:=Jh hb;have hq:=(show Blk w _ _ _ from H.out).below hb (show Blk w _ _ _ from H.out).lt;have d0:w2.cell? ⟨pr,0,none⟩=some (.string S):=hq.cell 0;have d1:w2.cell? ⟨pr,1,none⟩=some (.int .i64 (i:Int)):=hq.cell 1;have f1:w2.frozen? ⟨pr,1,none⟩=false:=hq.frozen 1;clear hok hb hq hS c0 c1;go_wp2_with fail
   go_ret
   exact .inl ⟨v,j,w2,rfl,HOK.out,HB.out,rfl⟩
  ·have e0:((f:Int) != 0)=true:=by simp;omega
   refine ⟨fun h=>absurd h (by decide),?_⟩;simp only[Act.put,Ja,Jb,Jc];refine Kaa (i:=10) (d:=some 8) rfl rfl (by kernel_rfl) (by kernel_rfl) (by kernel_rfl) rfl (fun _ _ _ h=>h) (by rfl) (fun w=>by go_simp;try rfl) (fun h=>absurd h (by decide)) ?_;simp only[Act.put,Ja,Jb,Jc];refine Kaa (i:=11) (d:=some 19) rfl rfl (by kernel_rfl) (by kernel_rfl) (by kernel_rfl) rfl (fun _ _ _ h=>h) (by rfl) (fun w=>by go_simp;try rfl) (fun h=>absurd h (by decide)) ?_;simp only[Act.put,Ja,Jb,Jc];refine Kaa (i:=12) (d:=some 20) rfl rfl (by kernel_rfl) (by kernel_rfl) (by kernel_rfl) rfl (fun _ _ _ h=>h) (by rfl) (fun w=>by go_simp;try rfl) (fun h=>absurd h (by decide)) ?_;simp only[Act.put,Ja,Jb,Jc];refine Kaa (i:=13) (d:=some 21) rfl rfl (by kernel_rfl) (by kernel_rfl) (by kernel_rfl) rfl (fun _ _ _ h=>h) (by rfl) (fun w=>by go_simp;try rfl) (fun h=>absurd h (by decide)) ?_;simp only[Act.put,Ja,Jb,Jc];refine Kaa (i:=14) (d:=some 5) rfl rfl (by kernel_rfl) (by kernel_rfl) (by kernel_rfl) rfl (fun _ _ _ h=>h) (by rfl) (fun w=>by go_simp;try rfl) (fun h=>absurd h (by decide)) ?_;simp only[Act.put,Ja,Jb,Jc];refine Kaa (i:=15) (d:=some 6) rfl rfl (by kernel_rfl) (by kernel_rfl) (by kernel_rfl) rfl (fun _ _ _ h=>h) (by rfl) (fun w=>by go_simp;try rfl) (fun h=>absurd h (by decide)) ?_;simp only[Act.put,Ja,Jb,Jc];refine Kaa (i:=16) (d:=some 7) rfl rfl (by kernel_rfl) (by kernel_rfl) (by kernel_rfl) rfl (fun _ _ _ h=>h) (by rfl) (fun w=>by go_simp;try rfl) (fun h=>absurd h (by decide)) ?_;simp only[Act.put,Ja,Jb,Jc];refine Kaw (by kernel_rfl) ?_ _;have HB:=Jh hb;clear hb hS c0 c1;go_wp2_with fail
   refine Kah rfl ?_;exact .inr ⟨hbad,f,hf,rfl,HB.out⟩
end
section
def symR (t:List Txt) (s:List UInt8) (k:Int):Txt×Nat×Nat:=
 if (Kar s k).2.2≠0 then ([],0,(Kar s k).2.2) else if t.length≤(Kar s k).1 then ([],0,50) else (t[(Kar s k).1]!,(Kar s k).2.1,0)
def Kga (out:List Lb) (x:Txt):Bool:=decide (0 < out.length∧¬(out[out.length - 1]!).n < x)
def unpL (t:List Txt) (s:List UInt8):Nat→List Lb→Nat→List Lb×Nat×Nat
 | 0,out,p=>(out,p,0)
 | g+1,out,p=>
  if (symR t s p).2.2≠0 then ([],0,(symR t s p).2.2) else
  if (symR t s (symR t s p).2.1).2.2≠0 then ([],0,(symR t s (symR t s p).2.1).2.2) else
  if fitN (symR t s p).1=false then ([],0,40) else
  if fitV (symR t s (symR t s p).2.1).1=false then ([],0,41) else
  if Kga out (symR t s p).1=true then ([],0,42) else
  unpL t s g (out ++ [⟨(symR t s p).1,(symR t s (symR t s p).2.1).1⟩]) (symR t s (symR t s p).2.1).2.1
def unpR (t:List Txt) (s:List UInt8) (k:Int):List Lb×Nat×Nat:=
 if (Kar s k).2.2≠0 then ([],0,(Kar s k).2.2) else if (Kar s k).1=0 then ([],0,43) else if 8 < (Kar s k).1 then ([],0,44) else unpL t s (Kar s k).1 [] (Kar s k).2.1
theorem Kzg {t:List Txt} {s:List UInt8} {k:Int} {x:Txt} {n e:Nat} (h:symR t s k=(x,n,e)):x = []∨x∈t:=by
 unfold symR at h
 split at h
 ·injection h with h _;exact .inl h.symm
 ·split at h
  ·injection h with h _;exact .inl h.symm
  ·rename_i hlt
   injection h with h _;right;rw[←h,getElem!_pos t _ (by omega)];exact List.getElem_mem _
theorem Qay (x:Lb):Kbq [x]=if fitN x.n=false then 40 else if fitV x.v=false then 41 else 0:=by
 simp[Kbq,Kee]
end
section
open List renaming length_append → Jd
theorem Kwh {t:List Txt} (ha:Asc t) {x:Txt} (hx:x∈t):t[below t x]? = some x:=by
 obtain ⟨i,hi,e⟩:=List.getElem_of_mem hx;have h1:t[i]? = some x:=by rw[List.getElem?_eq_getElem hi,e]
 rw[Qkc ha h1];exact h1
theorem Qba {t:List Txt} (ha:Asc t) {x:Txt} (hx:x∈t):numR t x=(below t x,0):=by rw[numR,if_pos (Kwh ha hx)]
def pkS (t:List Txt) (xs:List Txt):List UInt8:=xs.flatMap fun x=>uintT (below t x)
def pk (t:List Txt) (l:List Lb):List UInt8:=uintT l.length++pkS t (texts l)
theorem Kkr (t:List Txt) (x:Txt) (r:List Txt):pkS t (x :: r)=uintT (below t x)++pkS t r:=rfl
theorem Kty {t:List Txt} (ha:Asc t):∀xs:List Txt,(∀x∈xs,x∈t)→packS t xs=some (pkS t xs)
 | [],_=>rfl
 | x :: r,h=>by
  rw[packS,Qba ha (h x (by simp)),Kty ha r (fun y hy=>h y (by simp[hy]))];simp[Kkr]
theorem Qis {t:List Txt} (ha:Asc t) {l:List Lb} (he:Kdg l=0) (h:∀x∈texts l,x∈t):packR t l=(pk t l,0):=by
 rw[packR,he,Kty ha _ h];simp[pk]
theorem Knr (pre post:List UInt8) {v:Nat} (hv:v < 2 ^ 64):Kar (pre++(uintT v++post)) (pre.length:Int)=(v,pre.length+(uintT v).length,0):=by
 rw[Kfw,List.drop_left,Kfd hv];rfl
theorem Kui {t:List Txt} (ha:Asc t) (ht:t.length < 2 ^ 64) (pre post:List UInt8) {x:Txt} (hx:x∈t):symR t (pre++(uintT (below t x)++post)) (pre.length:Int)=(x,pre.length+(uintT (below t x)).length,0):=by
 have hb:=Kwh ha hx;have hl:below t x < t.length:=(List.getElem?_eq_some_iff.1 hb).1;have hr:=Knr pre post (v:=below t x) (by omega);unfold symR;rw[hr];simp only[ne_eq,not_true_eq_false,if_false];rw[if_neg (by omega),getElem!_pos t _ hl];rw[List.getElem?_eq_getElem hl] at hb;injection hb with hb;rw[hb]
theorem Qbo {out l:List Lb} {x:Lb} (h:(names (out++x :: l)).Pairwise (· < ·)):Kga out x.n=false:=by
 unfold Kga;rw[decide_eq_false_iff_not];rintro ⟨h0,h1⟩;apply h1;rw[getElem!_pos out _ (by omega)];unfold names at h;rw[List.map_append,List.pairwise_append] at h;exact h.2.2 _ (List.mem_map_of_mem (List.getElem_mem _)) _ (by simp)
theorem Kum {t:List Txt} (ha:Asc t) (ht:t.length < 2 ^ 64):∀(l out:List Lb) (pre post:List UInt8),(∀x∈l,fitN x.n=true∧fitV x.v=true)→(names (out++l)).Pairwise (· < ·)→(∀x∈texts l,x∈t)→
  unpL t (pre++(pkS t (texts l)++post)) l.length out pre.length=(out++l,pre.length+(pkS t (texts l)).length,0)
 | [],out,pre,post,_,_,_=>by simp[unpL,texts,pkS]
 | x :: l,out,pre,post,hf,hn,hm=>by
  rw[Khv] at hm ⊢;rw[Kkr,Kkr,List.length_cons,unpL];have hx1:x.n∈t:=hm _ (by simp);have hx2:x.v∈t:=hm _ (by simp);have e1:pre++((uintT (below t x.n)++(uintT (below t x.v)++pkS t (texts l)))++post)=pre++(uintT (below t x.n)++(uintT (below t x.v)++(pkS t (texts l)++post))):=by simp
  have s1:=Kui ha ht pre (uintT (below t x.v)++(pkS t (texts l)++post)) hx1;have e2:pre++(uintT (below t x.n)++(uintT (below t x.v)++(pkS t (texts l)++post)))=(pre++uintT (below t x.n))++(uintT (below t x.v)++(pkS t (texts l)++post)):=by simp
  have s2:=Kui ha ht (pre++uintT (below t x.n)) (pkS t (texts l)++post) hx2;rw[←e2,Jd] at s2;have e3:pre++(uintT (below t x.n)++(uintT (below t x.v)++(pkS t (texts l)++post)))=(pre++uintT (below t x.n)++uintT (below t x.v))++(pkS t (texts l)++post):=by simp
  have ih:=Kum ha ht l (out ++ [x]) (pre++uintT (below t x.n)++uintT (below t x.v)) post (fun y hy=>hf y (by simp[hy])) (by simpa using hn) (fun y hy=>hm y (by simp[hy]));rw[←e3,Jd,Jd] at ih;obtain ⟨f1,f2⟩:=hf x (by simp);have htl:=Qbo hn;rw[e1,s1];simp only[];rw[s2];simp only[ne_eq,not_true_eq_false,if_false,f1,f2,htl,Bool.false_eq_true,Bool.true_eq_false];rw[ih];simp[Nat.add_assoc]
theorem Qjq {t:List Txt} (ha:Asc t) (ht:t.length < 2 ^ 64) {l:List Lb} (he:Kdg l=0) (hm:∀x∈texts l,x∈t) (pre post:List UInt8) :
  unpR t (pre++(pk t l++post)) (pre.length:Int)=(l,pre.length+(pk t l).length,0):=by
 have hmk:Kbq l=0:=by
  rcases Kih l with ⟨h1,h2⟩ | ⟨h1,_⟩ | ⟨h1,_⟩
  ·rw[h2] at he;exact he
  ·exact h1
  ·exact h1
 have hpw:(names l).Pairwise (· < ·):=by
  unfold Kdg at he;rw[if_neg (by simp[hmk])] at he
  split at he
  ·assumption
  ·omega
 obtain ⟨h0,h8,hf,_⟩:=Kfb hmk;have hr:=Knr pre (pkS t (texts l)++post) (v:=l.length) (by omega);unfold pk;rw[List.append_assoc,unpR,hr];simp only[ne_eq,not_true_eq_false,if_false];rw[if_neg h0,if_neg (by omega)];have:=Kum ha ht l [] (pre++uintT l.length) post hf (by simpa using hpw) hm;rw[Jd,List.append_assoc] at this;rw[this];simp[Nat.add_assoc]
theorem Qcq (t:List Txt):∀xs:List Txt,(pkS t xs).length≤11*xs.length
 | []=>by simp[pkS]
 | x :: r=>by
  have h1:=Qcq t r;have h2:=Kam (below t x);rw[Kkr,Jd,List.length_cons];omega
theorem Qox (t:List Txt) (l:List Lb):(pk t l).length≤11+22*l.length:=by
 have h1:=Qcq t (texts l);have h2:=Kam l.length
 have h3:(texts l).length=2*l.length:=by
  clear h1 h2
  induction l with
  | nil=>rfl
  | cons x l ih=>rw[Khv,List.length_cons,List.length_cons,ih,List.length_cons];omega
 unfold pk;rw[Jd];omega
end
section
structure Spn where
 frm:Int
 to_:Int
def stepS (out:List Spn) (s:Spn):List Spn:=match out.getLast? with
 | none=>[s]
 | some o=>if o.to_+1 < s.frm then out ++ [s] else out.dropLast ++ [⟨o.frm,max o.to_ s.to_⟩]
def ofS (l:List Spn):List Spn:=l.foldl stepS []
def Kbf (l:List Spn):Prop:=(∀s∈l,s.frm≤s.to_)∧l.Pairwise fun a b=>a.to_+1 < b.frm
theorem Qbn {out:List Spn} (h:Kbf out) {s:Spn} (hs:s.frm≤s.to_) (hl:∀o,out.getLast? = some o→o.frm≤s.frm):Kbf (stepS out s)∧∀o,(stepS out s).getLast? = some o→o.frm≤s.frm:=by
 unfold stepS;rcases List.eq_nil_or_concat out with rfl | ⟨ini,o,rfl⟩
 ·exact ⟨⟨fun x hx=>(by obtain rfl:=List.mem_singleton.1 hx;exact hs),List.pairwise_singleton _ _⟩,fun o ho=>(by
   have e:s=o:=by simpa using ho
   rw[e]
   exact Int.le_refl _)⟩
 ·simp only[List.concat_eq_append] at h hl ⊢;have ho:=hl o (by simp);obtain ⟨h1,h2⟩:=h;have ho2:=h1 o (by simp);simp only[List.getLast?_append,List.getLast?_singleton,Option.some_or,Option.or_some,Option.getD_some];obtain ⟨p1,p2,p3⟩:=List.pairwise_append.1 h2
  split
  ·rename_i hlt
   refine ⟨⟨fun x hx=>?_,?_⟩,fun q hq=>?_⟩
   ·rcases List.mem_append.1 hx with hx | hx
    ·exact h1 x hx
    ·obtain rfl:=List.mem_singleton.1 hx;exact hs
   ·refine List.pairwise_append.2 ⟨h2,List.pairwise_singleton _ _,fun x hx y hy=>?_⟩;obtain rfl:=List.mem_singleton.1 hy;rcases List.mem_append.1 hx with hx | hx
    ·have:=p3 x hx o (by simp);omega
    ·obtain rfl:=List.mem_singleton.1 hx;exact hlt
   ·have:s=q:=by simpa using hq
    rw[this];exact Int.le_refl _
  ·rw[List.dropLast_concat];refine ⟨⟨fun x hx=>?_,?_⟩,fun q hq=>?_⟩
   ·rcases List.mem_append.1 hx with hx | hx
    ·exact h1 x (List.mem_append_left _ hx)
    ·obtain rfl:=List.mem_singleton.1 hx;dsimp only;omega
   ·refine List.pairwise_append.2 ⟨p1,List.pairwise_singleton _ _,fun x hx y hy=>?_⟩;obtain rfl:=List.mem_singleton.1 hy;exact p3 x hx o (by simp)
   ·have:(⟨o.frm,max o.to_ s.to_⟩:Spn)=q:=by simpa using hq
    rw[←this];exact ho
theorem Kyf:∀(l out:List Spn),Kbf out→(∀s∈l,s.frm≤s.to_)→l.Pairwise (fun a b=>a.frm≤b.frm)→(∀o,out.getLast? = some o→∀s∈l,o.frm≤s.frm)→Kbf (l.foldl stepS out)
 | [],_,h,_,_,_=>h
 | s :: l,out,h,hs,hp,hl=>by
  obtain ⟨q1,q2⟩:=List.pairwise_cons.1 hp;obtain ⟨c1,c2⟩:=Qbn h (hs s (List.mem_cons_self ..)) (fun o ho=>hl o ho s (List.mem_cons_self ..));rw[List.foldl_cons];exact Kyf l _ c1 (fun x hx=>hs x (List.mem_cons_of_mem _ hx)) q2 fun o ho x hx=>Int.le_trans (c2 o ho) (q1 x hx)
theorem Qih {l:List Spn} (hs:∀s∈l,s.frm≤s.to_) (hp:l.Pairwise fun a b=>a.frm≤b.frm):Kbf (ofS l):=
 Kyf l [] ⟨fun s h=>(by cases h),List.Pairwise.nil⟩ hs hp fun o h=>by cases h
theorem Qcm:∀(l out:List Spn),Kbf (out++l)→l.foldl stepS out=out++l
 | [],out,_=>by simp
 | s :: l,out,h=>by
  have e:stepS out s=out ++ [s]:=by
   unfold stepS;rcases List.eq_nil_or_concat out with rfl | ⟨ini,o,rfl⟩
   ·rfl
   ·simp only[List.concat_eq_append] at h ⊢;have hlt:o.to_+1 < s.frm:=(List.pairwise_append.1 h.2).2.2 o (by simp) s (List.mem_cons_self ..);simp[hlt]
  rw[List.foldl_cons,e,Qcm l (out ++ [s]) (by simpa using h)];simp
theorem Qlh {l:List Spn} (h:Kbf l):ofS l=l:=by
 have:=Qcm l [] (by simpa using h);simpa[ofS] using this
def zig (v:Int):Nat:=if 0≤v then (2*v).toNat else (-2*v - 1).toNat
def unzig (n:Nat):Int:=if n % 2=0 then ((n / 2:Nat):Int) else -((n / 2:Nat):Int) - 1
theorem Qju (v:Int):unzig (zig v)=v:=by
 unfold unzig zig
 split <;> split <;> omega
theorem Kru {v:Int} (h1:-9223372036854775808≤v) (h2:v≤9223372036854775807):zig v < 2 ^ 64:=by
 unfold zig
 split <;> omega
theorem Qbq {n:Nat} (h:n < 2 ^ 64):-9223372036854775808≤unzig n∧unzig n≤9223372036854775807:=by
 unfold unzig
 split <;> omega
def intT (v:Int):List UInt8:=uintT (zig v)
def readI (l:List UInt8):Except Nat (Int×Nat):=match readU l with | .error e=>.error e | .ok (v,k)=>.ok (unzig v,k)
theorem Qiv {v:Int} (h1:-9223372036854775808≤v) (h2:v≤9223372036854775807) (l:List UInt8):readI (intT v++l) = .ok (v,(intT v).length):=by
 unfold readI intT;rw[Kfd (Kru h1 h2)];simp only[Qju]
def nibs:List Nat:=[0x00000000,0x105ec76f,0x20bd8ede,0x30e349b1,0x417b1dbc,0x5125dad3,0x61c69362,0x7198540d,0x82f63b78,0x92a8fc17,0xa24bb5a6,0xb21572c9,0xc38d26c4,0xd3d3e1ab,0xe330a81a,0xf36e6f75]
def nibN (c:Nat):Nat:=nibs.getD (c % 16) 0 ^^^ (c / 16)
def crcB (c:Nat) (b:UInt8):Nat:=nibN (nibN (c ^^^ b.toNat))
def crcF (c:Nat) (l:List UInt8):Nat:=l.foldl crcB c
def crcL (l:List UInt8):Nat:=crcF 4294967295 l ^^^ 4294967295
theorem Qcl:∀i,nibs.getD i 0 < 4294967296:=by
 intro i
 by_cases h:i < 16
 ·revert i
  decide
 ·have:nibs.length≤i:=by simp[nibs];omega
  rw[List.getD_eq_getElem?_getD,List.getElem?_eq_none this];decide
theorem Kis {a b:Nat} (ha:a < 4294967296) (hb:b < 4294967296):a ^^^ b < 4294967296:=Nat.xor_lt_two_pow (n:=32) ha hb
theorem Kmz {c:Nat} (h:c < 4294967296):nibN c < 4294967296:=Kis (Qcl _) (by omega)
theorem Qnd {c:Nat} (h:c < 4294967296) (b:UInt8):crcB c b < 4294967296:=Kmz (Kmz (Kis h (by have:=UInt8.toNat_lt b;omega)))
theorem Qbx:∀(l:List UInt8) {c:Nat},c < 4294967296→crcF c l < 4294967296
 | [],_,h=>h
 | b :: l,_,h=>Qbx l (Qnd h b)
theorem Qby (l:List UInt8):crcL l < 4294967296:=Kis (Qbx l (by decide)) (by decide)
theorem Qai (c:Nat) (l m:List UInt8):crcF c (l++m)=crcF (crcF c l) m:=by unfold crcF;rw[List.foldl_append]
theorem Qgl (c:Nat) (l:List UInt8) (b:UInt8):crcF c (l ++ [b])=crcB (crcF c l) b:=by rw[Qai];rfl
def fourT (v:Nat):List UInt8:=[UInt8.ofNat v,UInt8.ofNat (v / 256),UInt8.ofNat (v / 65536),UInt8.ofNat (v / 16777216)]
def numT (l:List UInt8):Nat:=match l with | a :: b :: c :: d :: _=>a.toNat+256*b.toNat+65536*c.toNat+16777216*d.toNat | _=>0
theorem Qig {v:Nat} (h:v < 4294967296) (r:List UInt8):numT (fourT v++r)=v:=by
 simp only[fourT,List.cons_append,numT,UInt8.toNat_ofNat'];omega
def sealT (b:List UInt8):List UInt8:=b++fourT (crcL b)
def Kco (s:List UInt8):Except Nat (List UInt8):=if s.length < 4 then .error 20 else if crcL (s.take (s.length - 4))=numT (s.drop (s.length - 4)) then .ok (s.take (s.length - 4)) else .error 22
theorem Kmm (b:List UInt8):(sealT b).length=b.length+4:=by simp[sealT,fourT]
theorem Qbp (b:List UInt8):Kco (sealT b) = .ok b:=by
 unfold Kco;have h1:(sealT b).length - 4=b.length:=by rw[Kmm];omega
 rw[h1,if_neg (by rw[Kmm];omega)];have h2:(sealT b).take b.length=b:=by simp[sealT]
 have h3:(sealT b).drop b.length=fourT (crcL b):=by simp[sealT]
 rw[h2,h3];have h4:=Qig (Qby b) [];rw[List.append_nil] at h4;rw[if_pos h4.symm]
def spnT (s:Spn):List UInt8:=intT s.frm++intT s.to_
def Kbo (l:List Spn):List UInt8:=uintT l.length++(l.map spnT).flatten
def riAt (s:List UInt8) (i:Nat):Option (Int×Nat):=match readI (s.drop i) with
 | .ok (v,k)=>some (v,i+k)
 | .error _=>none
theorem ri_of {s r:List UInt8} {i:Nat} {v:Int} (h1:-9223372036854775808≤v) (h2:v≤9223372036854775807) (h:s.drop i=intT v++r):riAt s i=some (v,i+(intT v).length)∧s.drop (i+(intT v).length)=r:=by
 refine ⟨?_,?_⟩
 ·unfold riAt;rw[h,Qiv h1 h2]
 ·rw[←List.drop_drop,h,List.drop_left]
def spnsR (s:List UInt8):Nat→Option Spn→Nat→Option (List Spn×Nat)
 | 0,_,i=>some ([],i)
 | n+1,prev,i=>match riAt s i with
  | none=>none
  | some (a,i1)=>match riAt s i1 with
   | none=>none
   | some (b,i2)=>if b < a∨(∃o,prev=some o∧a≤o.to_+1) then none else match spnsR s n (some ⟨a,b⟩) i2 with
    | none=>none
    | some (l,j)=>some (⟨a,b⟩ :: l,j)
def Kdj (s:List UInt8) (i:Nat):Option (List Spn×Nat):=match ruAt s i with
 | none=>none
 | some (n,i')=>spnsR s n none i'
def SpnIn (s:Spn):Prop:=-9223372036854775808≤s.frm∧s.frm≤9223372036854775807∧-9223372036854775808≤s.to_∧s.to_≤9223372036854775807
theorem Kug {s r:List UInt8}:∀(l:List Spn) {i:Nat} {prev:Option Spn},Kbf l→(∀x∈l,SpnIn x)→(∀o x,prev=some o→l.head? = some x→o.to_+1 < x.frm)→s.drop i=(l.map spnT).flatten++r→
  spnsR s l.length prev i=some (l,i+((l.map spnT).flatten).length)∧s.drop (i+((l.map spnT).flatten).length)=r
 | [],i,prev,_,_,_,h=>⟨rfl,h⟩
 | x :: l,i,prev,hc,hi,hp,h=>by
  obtain ⟨h1,h2⟩:=hc;obtain ⟨p1,p2⟩:=List.pairwise_cons.1 h2;have hx:=hi x (List.mem_cons_self ..);have hx1:=h1 x (List.mem_cons_self ..);rw[List.map_cons,List.flatten_cons] at h;unfold spnT at h;simp only[List.append_assoc] at h;obtain ⟨e1,k1⟩:=ri_of hx.1 hx.2.1 h;obtain ⟨e2,k2⟩:=ri_of hx.2.2.1 hx.2.2.2 k1
  obtain ⟨e3,k3⟩:=Kug l (prev:=some x) ⟨fun y hy=>h1 y (List.mem_cons_of_mem _ hy),p2⟩ (fun y hy=>hi y (List.mem_cons_of_mem _ hy)) (fun o y ho hy=>(by
   obtain rfl:=Option.some.inj ho
   exact p1 y (List.mem_of_mem_head? hy))) k2
  have hcn:¬(x.to_ < x.frm∨(∃o,prev=some o∧x.frm≤o.to_+1)):=by
   rintro (h | ⟨o,ho,h⟩)
   ·omega
   ·have:=hp o x ho rfl;omega
  rw[List.length_cons,spnsR,e1];dsimp only;rw[e2];dsimp only;rw[if_neg hcn,show (⟨x.frm,x.to_⟩:Spn)=x from rfl,e3];simp only[List.map_cons,List.flatten_cons,spnT,List.length_append,Nat.add_assoc] at k3 ⊢;exact ⟨trivial,k3⟩
theorem Kkx {s r:List UInt8} {i:Nat} {l:List Spn} (hc:Kbf l) (hi:∀x∈l,SpnIn x) (hn:l.length < 2 ^ 64) (h:s.drop i=Kbo l++r):Kdj s i=some (l,i+(Kbo l).length)∧s.drop (i+(Kbo l).length)=r:=by
 unfold Kbo at h ⊢;rw[List.append_assoc] at h;obtain ⟨e1,k1⟩:=ru_of hn h;obtain ⟨e2,k2⟩:=Kug l (prev:=none) hc hi (fun o x ho=>by cases ho) k1;unfold Kdj;rw[e1];dsimp only;rw[e2];simp only[List.length_append,Nat.add_assoc] at k2 ⊢;exact ⟨trivial,k2⟩
end
section
open Go.RowKit
def Kbi:Nat→List Smp→List (List Smp)
 | 0,_=>[]
 | _+1,[]=>[]
 | f+1,x :: l=>(x :: l).take 120 :: Kbi f ((x :: l).drop 120)
theorem Kmg:∀(f:Nat) (l:List Smp),l.length≤f→(Kbi f l).flatten=l
 | 0,l,h=>by
  have h0:l = []:=List.eq_nil_of_length_eq_zero (by omega);rw[h0];rfl
 | _+1,[],_=>rfl
 | f+1,x :: l,h=>by
  have h2:((x :: l).drop 120).length≤f:=by rw[List.length_drop];rw[List.length_cons] at h ⊢;omega
  rw[Kbi,List.flatten_cons,Kmg f _ h2,List.take_append_drop]
theorem Kjh:∀(f:Nat) (l p:List Smp),p∈Kbi f l→p≠[]∧p.length≤120∧p.Sublist l
 | 0,_,_,h=>by simp[Kbi] at h
 | _+1,[],_,h=>by simp[Kbi] at h
 | f+1,x :: l,p,h=>by
  rw[Kbi,List.mem_cons] at h;rcases h with rfl | h
  ·exact ⟨by simp,by rw[List.length_take];omega,List.take_sublist _ _⟩
  ·obtain ⟨h1,h2,h3⟩:=Kjh f _ p h;exact ⟨h1,h2,h3.trans (List.drop_sublist _ _)⟩
theorem Klk:∀(f:Nat) (l:List Smp),(Kbi f l).length≤f
 | 0,_=>Nat.le_refl _
 | _+1,[]=>Nat.zero_le _
 | f+1,x :: l=>by rw[Kbi,List.length_cons];have:=Klk f ((x :: l).drop 120);omega
def decC (s:List UInt8):Option (List Smp):=if (readC s).2=true∧fitC none 0 (readC s).1=true∧Kbg (readC s).1=s then some (readC s).1 else none
def lowT (out:List Txt) (x:Txt):Bool:=decide (0 < out.length∧¬out[out.length - 1]! < x)
def Ker (I:List UInt8):Nat→List Txt→Nat→Option (List Txt×Nat)
 | 0,out,i=>some (out,i)
 | g+1,out,i=>if (Kbk I i).2.2≠0 then none else if lowT out (Kbk I i).1=true then none else Ker I g (out ++ [(Kbk I i).1]) (Kbk I i).2.1
def tabR (I:List UInt8) (i:Nat):Option (List Txt×Nat):=if (Kar I i).2.2≠0 then none else Ker I (Kar I i).1 [] (Kar I i).2.1
theorem Kho:∀{l:List Smp},Rises l↔l.Pairwise fun a b=>a.t < b.t
 | []=>⟨fun _=>List.Pairwise.nil,fun _=>trivial⟩
 | [x]=>⟨fun _=>List.pairwise_singleton _ _,fun _=>trivial⟩
 | x :: y :: l=>by
  have ih:=Kho (l:=y :: l);rw[Rises,List.pairwise_cons,ih];constructor
  ·rintro ⟨h1,h2⟩;refine ⟨fun z hz=>?_,h2⟩;rcases List.mem_cons.1 hz with rfl | hz
   ·exact h1
   ·have:=(List.pairwise_cons.1 h2).1 z hz;omega
  ·rintro ⟨h1,h2⟩;exact ⟨h1 y (by simp),h2⟩
theorem Qlo {l:List Smp} (h:∀x∈l,SmpOk x) (hr:Rises l) {f:Nat} {p:List Smp} (hp:p∈Kbi f l):Kgc p:=by
 obtain ⟨h1,h2,h3⟩:=Kjh f l p hp;exact ⟨fun x hx=>h x (h3.subset hx),Kho.2 ((Kho.1 hr).sublist h3),h2⟩
theorem Qnf {p:List Smp} (h:Kgc p):decC (Kbg p)=some p:=by
 unfold decC;rw[Qdq h];have:fitC none 0 p=true:=(Kow p none 0).2 ⟨fun x hx=>⟨(h.1 x hx).1,(h.1 x hx).2.1⟩,h.2.1,fun y x hy=>(by cases hy),.inr (by have:=h.2.2;omega)⟩;rw[if_pos ⟨rfl,this,rfl⟩]
theorem Qjr {t:List Txt} (ha:Asc t) (ht:t.length < 2 ^ 64) {l:List Lb} (he:Kdg l=0) (hm:∀x∈texts l,x∈t) {I r:List UInt8} {i:Nat} (hi:i≤I.length) (h:I.drop i=pk t l++r) :
  unpR t I (i:Int)=(l,i+(pk t l).length,0)∧I.drop (i+(pk t l).length)=r:=by
 have e:I=I.take i++(pk t l++r):=by rw[←h,List.take_append_drop]
 have hl:(I.take i).length=i:=by rw[List.length_take];omega
 have:=Qjq ha ht he hm (I.take i) r;rw[←e,hl] at this;exact ⟨this,by rw[←List.drop_drop,h,List.drop_left]⟩
theorem Kmh {I r:List UInt8} {i:Nat} {s:Txt} (hs:s.length < 2 ^ 64) (h:I.drop i=textT s++r):Kbk I (i:Int)=(s,i+(textT s).length,0)∧I.drop (i+(textT s).length)=r:=by
 refine ⟨?_,by rw[←List.drop_drop,h,List.drop_left]⟩;unfold Kbk;rw[if_neg (by omega),Int.toNat_natCast,h,Qez hs]
theorem Qbd {I r:List UInt8} {i v:Nat} (hv:v < 2 ^ 64) (h:I.drop i=uintT v++r):Kar I (i:Int)=(v,i+(uintT v).length,0)∧I.drop (i+(uintT v).length)=r:=by
 refine ⟨?_,by rw[←List.drop_drop,h,List.drop_left]⟩;unfold Kar;rw[if_neg (by omega),Int.toNat_natCast,h,Kfd hv]
theorem Koh {I:List UInt8}:∀(l out:List Txt) {i:Nat} {r:List UInt8},(out++l).Pairwise (· < ·)→(∀x∈l,x.length < 2 ^ 64)→I.drop i=l.flatMap textT++r→Ker I l.length out i=some (out++l,i+(l.flatMap textT).length)∧I.drop (i+(l.flatMap textT).length)=r
 | [],out,i,r,_,_,h=>⟨by simp[Ker],by simpa using h⟩
 | x :: l,out,i,r,hp,hz,h=>by
  have h':I.drop i=textT x++(l.flatMap textT++r):=by rw[h];simp
  obtain ⟨e1,e2⟩:=Kmh (hz x (by simp)) h'
  have hlow:lowT out x=false:=by
   unfold lowT;rw[decide_eq_false_iff_not];rintro ⟨h1,h2⟩;apply h2;rw[getElem!_pos out _ (by omega)];exact (List.pairwise_append.1 hp).2.2 _ (List.getElem_mem _) x (by simp)
  obtain ⟨e3,e4⟩:=Koh l (out ++ [x]) (by simpa using hp) (fun y hy=>hz y (by simp[hy])) e2;rw[List.length_cons,Ker,e1];dsimp only;rw[if_neg (by simp),hlow,if_neg (by simp),e3];refine ⟨?_,?_⟩
  ·simp[Nat.add_assoc]
  ·rw[←e4];congr 1;simp[Nat.add_assoc]
theorem Qjj {t:List Txt} (ha:Asc t) (ht:t.length < 2 ^ 64) (hz:∀x∈t,x.length < 2 ^ 64) {I r:List UInt8} {i:Nat} (h:I.drop i=tabT t++r):tabR I i=some (t,i+(tabT t).length)∧I.drop (i+(tabT t).length)=r:=by
 have h':I.drop i=uintT t.length++(t.flatMap textT++r):=by rw[h];simp[tabT]
 obtain ⟨e1,e2⟩:=Qbd ht h';obtain ⟨e3,e4⟩:=Koh t [] ha hz e2;unfold tabR;rw[e1];dsimp only;rw[if_neg (by simp),e3];refine ⟨?_,?_⟩
 ·simp[tabT,Nat.add_assoc]
 ·rw[←e4];congr 1;simp[tabT,Nat.add_assoc]
instance lbEq:DecidableEq Lb:=fun a b=>by
 cases a with
 | mk n v=>
  cases b with
  | mk n' v'=>exact if h:n=n'∧v=v' then isTrue (by rw[h.1,h.2]) else isFalse fun e=>h (by injection e with e1 e2;exact ⟨e1,e2⟩)
instance ltBDec:DecidableRel ltB:=fun x y=>by unfold ltB;infer_instance
structure Fil where
 mt:List UInt8
 ck:List UInt8
 ix:List UInt8
instance filEq:DecidableEq Fil:=fun a b=>by
 cases a with
 | mk m c i=>
  cases b with
  | mk m' c' i'=>exact if h:m=m'∧c=c'∧i=i' then isTrue (by rw[h.1,h.2.1,h.2.2]) else isFalse fun e=>h (by injection e with e1 e2 e3;exact ⟨e1,e2,e3⟩)
def allS (S:List (List Lb)):List Txt:=S.flatMap texts
def tabOf (S:List (List Lb)):List Txt:=Lib.compact ((allS S).mergeSort fun x y=>decide (x≤y))
theorem Kiq (S:List (List Lb)):IsTab (allS S) (tabOf S):=Qml _
theorem Krn {l:List Lb} (h:Kdv l=true):Kdg l=0:=by
 unfold Kdv at h;rw[Bool.and_eq_true,decide_eq_true_eq,decide_eq_true_eq] at h;unfold Kdg;rw[if_neg (by simp[h.1]),if_pos h.2]
theorem Koi {l:List Lb} (h:Kdv l=true):l.Nodup∧l≠[]∧l.length≤8∧(∀x∈l,x.n.length≤32∧x.v.length≤64)∧Kdg l=0:=by
 have he:=Krn h;unfold Kdv at h;rw[Bool.and_eq_true,decide_eq_true_eq,decide_eq_true_eq] at h;obtain ⟨h1,h2⟩:=h;have hm:=h1;unfold Kbq at h1
 split at h1
 ·cases h1
 ·split at h1
  ·cases h1
  ·rename_i h3 h4
   refine ⟨?_,fun e=>h3 (by rw[e];rfl),by omega,fun x hx=>?_,he⟩
   ·unfold names at h2;rw[List.pairwise_map] at h2;exact h2.imp fun hab e=>by subst e;exact List.lt_irrefl _ hab
   ·obtain ⟨a,b⟩:=Kkw h1 x hx;unfold fitN at a;unfold fitV at b;simp only[Bool.and_eq_true,decide_eq_true_eq] at a b;omega
end
section
open Go.RowKit Go.Sort
attribute [local go_sem ↓] Go.wp_at_zero Go.wp_at_succ
attribute [local go_sem] Later.cell
theorem Kms (v:Value) (t:List Txt) (s:ByteArray) (k:Int) (w:World) (x:Txt) (n e:Nat) (hr:symR t s.data.toList k=(x,n,e)) (h:TabAt w v t) (hm:t.length*16≤140737488351232) (hs:s.size≤140737488351232) :
  Calls Tryz.prog 155 #[v,.string s,.int .i64 k] w fun en w'=>en = .returned (.tuple #[txtV x,.int .i64 n,.int .i64 e])∧w=w':=by
 obtain ⟨v1,n1,e1,h1⟩:∃v n e,Kar s.data.toList k=(v,n,e):=⟨_,_,_,rfl⟩;have H1:=Lib.hid h1;have hlen:=Ktu v t w h;obtain ⟨A,c,hs',hc,_,htab⟩:=Kit v t w h;obtain ⟨m,hm'⟩:∃m,t.length=m:=⟨_,rfl⟩;rw[symR,h1] at hr;dsimp only at hr;rw[hm'] at hr hlen hs' hc htab hm;have HLEN:=Lib.hid hlen;clear hlen h hm'
 by_cases he:e1=0
 ·subst he;rw[if_neg (by simp)] at hr
  by_cases hv:m≤v1
  ·rw[if_pos hv] at hr;obtain ⟨rfl,rfl,rfl⟩:[]=x∧0=n∧50=e:=by simpa using hr
   have ev:decide ((m:Int)≤(v1:Int))=true:=by simp;omega
   clear hr h1 htab;unfold txtV;go_enter Tryz.func155,Tryz.ntmps155
   go_wp2_with fail
   refine (Kao s k v1 n1 0 H1.out hs w).mono ?_;rintro _ w1 ⟨rfl,rfl⟩;go_wp2_with fail
   refine HLEN.out.mono ?_;rintro _ w1 ⟨rfl,rfl⟩;go_wp2_with fail
   go_ret3
   exact ⟨rfl,rfl⟩
  ·rw[if_neg hv] at hr;obtain ⟨hx,rfl,rfl⟩:t[v1]! = x∧n1=n∧0=e:=by simpa using hr
   obtain ⟨p,rfl,hp⟩:=htab (by omega);obtain ⟨b,off,rfl,hbl,hcell⟩:=hs'.at_ (i:=v1) (by omega);have hp0:_=some (Value.slice (some ⟨b,off,none⟩) m c):=hp.cell 0;rw[hx] at hcell;unfold txtV at hcell ⊢;obtain ⟨X,hX⟩:∃X:ByteArray,(⟨x.toArray⟩:ByteArray)=X:=⟨_,rfl⟩;rw[hX] at hcell ⊢;have ev:decide ((m:Int)≤(v1:Int))=false:=by simp;omega
   clear hr h1 hx hX htab hp;go_enter Tryz.func155,Tryz.ntmps155
   go_wp2_with fail
   refine (Kao s k v1 n1 0 H1.out hs w).mono ?_;rintro _ w1 ⟨rfl,rfl⟩;go_wp2_with fail
   refine HLEN.out.mono ?_;rintro _ w1 ⟨rfl,rfl⟩;go_wp2_with fail
   go_ret3
   exact ⟨rfl,rfl⟩
 ·rw[if_pos he] at hr;obtain ⟨rfl,rfl,rfl⟩:[]=x∧0=n∧e1=e:=by simpa using hr
  have ee:((e1:Int) != 0)=true:=by simp;omega
  clear hr h1 htab;unfold txtV;go_enter Tryz.func155,Tryz.ntmps155
  go_wp2_with fail
  refine (Kao s k v1 n1 e1 H1.out hs w).mono ?_;rintro _ w1 ⟨rfl,rfl⟩;go_wp2_with fail
  go_ret3
  exact ⟨rfl,rfl⟩
def Kev (w:World) (R:List Lb×Nat×Nat) (en:Ending) (w':World):Prop:=
 ∃A c,en = .returned (.tuple #[.slice A R.1.length c,.int .i64 (R.2.1:Nat),.int .i64 (R.2.2:Nat)])∧Elems w' w'.heap.size 2 encLb A R.1.length R.1∧R.1.length≤c∧Below w.heap.size w w'∧∀a,A=some a→w.heap.size≤a.block
theorem Kev.bad {w w':World} {e:Nat} {en:Ending} (h:en = .returned (.tuple #[.slice none 0 0,.int .i64 0,.int .i64 (e:Nat)])) (hB:Below w.heap.size w w'):Kev w ([],0,e) en w':=
 ⟨none,0,h,Elems.nil_,Nat.le_refl _,hB,fun a e=>by cases e⟩
theorem Qjp {t:List Txt} {s:List UInt8} {g:Nat} {out:List Lb} {p:Nat} {R:List Lb×Nat×Nat} (h:unpL t s (g+1) out p=R) {x y:Txt} {n1 e1 n2 e2:Nat} (h1:symR t s p=(x,n1,e1)) (h2:symR t s n1=(y,n2,e2)) :
  (if e1≠0 then ([],0,e1) else if e2≠0 then ([],0,e2) else if fitN x=false then ([],0,40) else if fitV y=false then ([],0,41) else if Kga out x=true then ([],0,42) else unpL t s g (out ++ [⟨x,y⟩]) n2)=R:=by
 rw[unpL,h1] at h;dsimp only at h;rw[h2] at h;exact h
end
end Go.Proofs.YtefpndiiedkmpaaGreatDoor
