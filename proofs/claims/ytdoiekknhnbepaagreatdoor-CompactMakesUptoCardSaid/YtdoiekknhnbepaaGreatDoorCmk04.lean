/- Merged (what the claim wants of): AggWalksB, PostWalksB, RowTwo, MrgRows, MrgApp, MrgSt, MrgSer, MrgCat, RegTake2, MrgApp2, MrgDel, MrgCompP, MrgSortP, MrgStabP. -/
import Derived.Test.YtdoiekknhnbepaaGreatDoorCmk03
import Derived.Shelf.Spec.SlicesGrow
import Derived.Lib.BufferOwn
set_option linter.unusedVariables false
set_option linter.unusedSimpArgs false
set_option maxRecDepth 1000000
set_option linter.ambiguousOpen false
set_option maxHeartbeats 8000000
namespace Go.Proofs.YtdoiekknhnbepaaGreatDoor
open Go renaming wpQuiet_nil->en
open List renaming getElem?_eq_some_iff->c6,getElem?_eq_getElem->c7,mem_flatMap->c8,getElem?_append_right->c9,getElem?_append_left->dg,getElem?_set_self->di,length_eq_one_iff->dq,filter_eq_self->ds,length->dU
open IntKind renaming wrap_i64->dV,i64->dW,wrap_u64->dX,u64->dY
open Calls renaming mono->dZ,grown_of->ZV
open Builtin renaming append_->ZZ,firstCells->ZY,lenOf->ZX,zeroCells->ZW,clear_->ZU
open Sem renaming run->eb
open Lib renaming hid->ec,BuilderAtF->ed,byteCells->eh
open World.ownsRow renaming stored->ei
open Ending renaming returned->ej
open Value renaming slice->ek
open Elems renaming nil_->el
open Instr renaming index->em
open Tryz
open List renaming length_nil->da,length_cons->db,append_assoc->dc,size_toArray->dd,eq_nil_of_length_eq_zero->df,take_append_drop->dl,append_nil->dn,length_append->dp,flatMap_cons->dt,take_zero->dv,length_take->dw,take_succ_cons->dx,drop_succ_cons->dy,take_of_length_le->dA,take_length->dB,flatMap_append->dC,drop_zero->dD,drop_eq_getElem_cons->dE,getElem_mem->dF,length_set->dH,singleton_append->dI,concat_eq_append->dJ,mem_cons_of_mem->dK,flatten_append->dM,toList_toArray->dN,mem_cons_self->dO,take_add_one->dP,cons_append->dQ,filter_cons->dR,length_drop->dS,take_left'->dT
open Nat renaming le_refl->de,le_trans->dh,lt_or_ge->dj,eq_zero_or_pos->dr,xor_lt_two_pow->dz,zero_le->dL
open Bool renaming noConfusion->dG
section
open Go.RowKit
open Lib renaming hid -> Jh
open List renaming length_append -> Jd
attribute [local go_sem ↓] Go.wp_at_zero Go.wp_at_succ
attribute [local go_sem] Later.cell
def aggE:Wnd->Bool->List Wnd->Nat
 | _,_,[]=>0
 | a,first,w :: l=>if Kdj w a first≠0 then Kdj w a first else aggE w false l
theorem Kkl:∀(l:List Wnd) (a:Wnd) (first:Bool),aggE a first l=0↔Kci a first l=true
 | [],_,_=>by simp[aggE,Kci]
 | w :: l,a,first=>by
  have ih:=Kkl l w false;have h:=Kkg w a first
  rw[aggE,Kci,Bool.and_eq_true,jH,<-h,<-ih]
  by_cases h0:Kdj w a first=0
  .rw[jM (by simp[h0])];simp[h0]
  .rw[jN h0];simp[h0]
def aggO (l:List Wnd):List UInt8×Nat:=if aggE wnd0 true l=0 then (aggT l,0) else ([],aggE wnd0 true l)
def fldsT (a x:Wnd) (k:Nat):List UInt8:=([uintT (x.sum ^^^ a.sum),uintT (x.min ^^^ a.min),uintT (x.max ^^^ a.max),uintT (x.last ^^^ a.last)].take k).flatten
theorem Koz (a x:Wnd):fldsT a x 1=fldsT a x 0++uintT (x.sum ^^^ a.sum):=by simp[fldsT]
theorem Kpa (a x:Wnd):fldsT a x 2=fldsT a x 1++uintT (x.min ^^^ a.min):=by simp[fldsT]
theorem Kpb (a x:Wnd):fldsT a x 3=fldsT a x 2++uintT (x.max ^^^ a.max):=by simp[fldsT]
theorem Kpc (a x:Wnd):fldsT a x 4=fldsT a x 3++uintT (x.last ^^^ a.last):=by simp[fldsT]
theorem Qfj (a x:Wnd):wndT a x=uintT (x.start - a.start).toNat++(uintT x.count.toNat++fldsT a x 4):=by simp[wndT,fldsT]
theorem Bld.set {B b p i:Nat}{l:List UInt8}{T:TypeId}{cs:Array Value}{w:World}(h:Bld B b l w) (hp:Blk w p T cs) (hT:T≠5) (hpb:b≠p) (u:Value):Bld B b l (w.setCell ⟨p,i,none⟩ u):=by
 have aa:∀x,ed 109 5 B b x (eh l) w->ed 109 5 B b x (eh l) (w.setCell ⟨p,i,none⟩ u):=by
  rintro x ⟨h1,v,h2,h3,h4⟩
  have ab:v.ownBlock≠some p:=by
   intro e;rcases h3.2 with ⟨rfl,_⟩ | ⟨g,cap,cur,fz,rfl,_,hg,_⟩
   .cases e
   .injection e with e;have e:g=p:=e;subst e;unfold Blk at hp;rw[hg]at hp;injection hp with hp;injection hp with _ hp;exact hT hp.symm
  exact⟨h1,v,Blk.far h2 (p:=⟨p,i,none⟩) hpb u,h3.kept (row:=some p) ⟨rfl,rfl,rfl,by simp[World.setCell],fun k _ hk=>Below.heap_setCell _ _ _ _ (fun e=>hk (by rw[e]))⟩ (.inr ab),h4⟩
 rcases h with h | h
 .exact .inl (aa _ h)
 .exact .inr (aa _ h)
theorem Qal:0<=wnd0.start/\wnd0.start<=1125899906842624/\Kcn wnd0:=⟨by decide,by decide,by decide,by decide,by decide,by decide⟩
def lastW:Wnd->List Wnd->Wnd
 | a,[]=>a
 | _,w :: l=>lastW w l
theorem Kph:∀(l:List Wnd) (a x:Wnd),lastW a (l ++ [x])=x
 | [],_,_=>rfl
 | _ :: l,_,x=>Kph l _ x
theorem Kqf:∀(l:List Wnd) (a x:Wnd),wndsT a (l ++ [x])=wndsT a l++wndT (lastW a l) x
 | [],a,x=>by simp[wndsT,lastW]
 | w :: l,a,x=>by rw[dQ,wndsT,wndsT,Kqf l,lastW,dc]
theorem Kkc (l:List Wnd) (A:Option Addr) (n cap:Nat) (w:World) (hE:Elems w w.heap.size 6 Kad A n l) (hn:n<=1099511627776) (hv:∀x∈l,Kcn x) :
  Calls prog 118 #[.slice A n cap] w fun e w'=>e = .returned (.tuple #[.string ⟨(aggO l).1.toArray⟩,.int .i64 ((aggO l).2:Nat)])/\Below w.heap.size w w':=by
 have aX:=hE.len;have HE:=Jh hE;have HV:=Jh hv;have aw:=Jh aX;obtain⟨E,b4⟩:=jF (aggE wnd0 true l);have bv:=Jh b4;have cP:=Jh (fun w=>Kav n (by omega) w);have h0:Bld w.heap.size w.heap.size [] (w.alloc (.cells #[.pointer none,.slice none 0 0] 109)):=Bld.new w (de _);have bs:Below w.heap.size w (w.alloc (.cells #[.pointer none,.slice none 0 0] 109)):=(Below.refl _ _).alloc (de _) _;have aR:(w.alloc (.cells #[.pointer none,.slice none 0 0] 109)).heap.size=w.heap.size+1:=by simp
 clear hE hv b4 aX;go_enter func118,ntmps118
 go_upto_region 2 with fail
 obtain⟨w1,br⟩:=jF (w.alloc (.cells #[.pointer none,.slice none 0 0] 109));rw[br]at h0 bs aR;rw[br];obtain⟨b,hb⟩:=jF w.heap.size;rw[hb]at h0 bs aR HE |-;have HB:=Jh hb;have cU:=Jh h0;have cF:=Jh bs;clear br h0 bs hb;go_wp2_with fail
 refine(cP.out w1).mono ?_;rintro _ w2 ⟨rfl,bp⟩;have aH:=Jh (cU.out.below bp);have cS:=Jh (cF.out.trans (bp.mono (by omega)));have cp:b<=w2.heap.size:=by have:=bp.size;omega
 go_wp2_with fail
 refine(Kaz b b [] ⟨(uintT n).toArray⟩ w2 aH.out (by show 0+(uintT n).toArray.size<=_;have:=(Kab n).2;simp only[dd];omega) cp).mono ?_;rintro _ w3 ⟨rfl,h5,h6,_⟩;have h5:Bld b b (uintT n) w3:=h5;have cT:b<=w3.heap.size:=dh cp h6.size;have cH:=h5.lt;have hc:Below w3.heap.size w3 (w3.alloc (.cells #[.int .i64 wnd0.start,.int .i64 wnd0.count,.int .u64 (wnd0.sum:Int),.int .u64 (wnd0.min:Int),.int .u64 (wnd0.max:Int),.int .u64 (wnd0.last:Int)] 135)):=(Below.refl _ _).alloc (de _) _;have ha:Blk (w3.alloc (.cells #[.int .i64 wnd0.start,.int .i64 wnd0.count,.int .u64 (wnd0.sum:Int),.int .u64 (wnd0.min:Int),.int .u64 (wnd0.max:Int),.int .u64 (wnd0.last:Int)] 135)) w3.heap.size 135 #[.int .i64 wnd0.start,.int .i64 wnd0.count,.int .u64 (wnd0.sum:Int),.int .u64 (wnd0.min:Int),.int .u64 (wnd0.max:Int),.int .u64 (wnd0.last:Int)]:=Blk.new _ _ _;obtain⟨w4,bW⟩:=jF (w3.alloc (.cells #[.int .i64 wnd0.start,.int .i64 wnd0.count,.int .u64 (wnd0.sum:Int),.int .u64 (wnd0.min:Int),.int .u64 (wnd0.max:Int),.int .u64 (wnd0.last:Int)] 135));have bg:w3.alloc (.cells #[.int .i64 0,.int .i64 0,.int .u64 0,.int .u64 0,.int .u64 0,.int .u64 0] 135)=w4:=bW;obtain⟨ba,bx⟩:=jF w3.heap.size;rw[bW]at hc ha;rw[bx]at ha;have hbb:b<ba:=by omega
 have ay:=Jh (h5.below hc);have cw:=Jh ((cS.out.trans h6).trans (hc.mono cT));have ar:=Jh ha;have HBA:=Jh bx;clear h5 h6 bp hc ha bW cH;go_upto_region 4 with fail
 try rw[bg]
 try rw[bx]
 clear bg bx;go_wp2_with fail
 go_loopg [19] n (fun g s19 wr=>∃i:Nat,i+g=n/\s19 = .int .i64 (i:Int)/\aggE (lastW wnd0 (l.take i)) (decide (i=0)) (l.drop i)=E/\Bld b b (uintT n++wndsT wnd0 (l.take i)) wr/\Below b w wr/\Blk wr ba 135 #[.int .i64 (lastW wnd0 (l.take i)).start,.int .i64 (lastW wnd0 (l.take i)).count,.int .u64 ((lastW wnd0 (l.take i)).sum:Int),.int .u64 ((lastW wnd0 (l.take i)).min:Int),.int .u64 ((lastW wnd0 (l.take i)).max:Int),.int .u64 ((lastW wnd0 (l.take i)).last:Int)]/\(0<=(lastW wnd0 (l.take i)).start/\(lastW wnd0 (l.take i)).start<=1125899906842624/\Kcn (lastW wnd0 (l.take i)))/\(uintT n++wndsT wnd0 (l.take i)).length<=11+66*i)
 case atStart=>exact⟨0,by omega,rfl,bv.out,by simpa[wndsT]using ay.out,cw.out,ar.out,Qal,by have:=(Kab n).2;simp[wndsT];omega⟩
 case round=>
  obtain⟨i,hi,rfl,he,cq,bL,b8,cn,ch⟩:=hrel;have HI:=Jh hi;have bw:=Jh he;have HL:=Jh cq;have HR:=Jh bL;have bm:=Jh b8;have bB:=Jh cn;have bn:=Jh ch;have bY:b<=wr.heap.size:=dh (by rw[HB.out];exact de _) bL.size;clear he cq bL b8 cn ch
  by_cases hin:i<n
  .have bt:i<l.length:=by have:=aw.out;omega
   obtain⟨bk,aB,rfl,cA,aC⟩:=HE.out.2 (by omega);have hx:∀j v,(Kad l[i])[j]? = some v->wr.cell? ⟨bk,aB+i*6+j,none⟩=some v:=fun j v hv=>(HR.out.cell (p:=⟨bk,aB+i*6+j,none⟩) cA).trans (aC i l[i] (c7 bt) j v hv)
   have bG:=HV.out l[i] (dF bt);have aQ:l.drop i=l[i] :: l.drop (i+1):=dE bt;have aS:l.take (i+1)=l.take i ++ [l[i]]:=List.take_succ_eq_append_getElem bt;obtain⟨x,ck⟩:=jF (l[i]);rw[ck]at hx bG aQ aS;have m0:wr.cell? ⟨bk,aB+i*6,none⟩=some (.int .i64 x.start):=hx 0 _ rfl;have m1:wr.cell? ⟨bk,aB+i*6+1,none⟩=some (.int .i64 x.count):=hx 1 _ rfl;have m2:wr.cell? ⟨bk,aB+i*6+2,none⟩=some (.int .u64 (x.sum:Int)):=hx 2 _ rfl;have m3:wr.cell? ⟨bk,aB+i*6+3,none⟩=some (.int .u64 (x.min:Int)):=hx 3 _ rfl;have m4:wr.cell? ⟨bk,aB+i*6+4,none⟩=some (.int .u64 (x.max:Int)):=hx 4 _ rfl;have m5:wr.cell? ⟨bk,aB+i*6+5,none⟩=some (.int .u64 (x.last:Int)):=hx 5 _ rfl;have cV:=Jh aQ;have cd:=Jh aS;have av:=Jh bG;obtain⟨a,bZ⟩:=jF (lastW wnd0 (l.take i));rw[bZ]at bw bm bB;have ca:=Jh bZ;obtain⟨L,hL⟩:=jF (uintT n++wndsT wnd0 (l.take i));rw[hL]at HL bn;have cD:=Jh hL;have ac:Hid (Kcn a):=Jh bB.out.2.2;have el2:(i:Int)<(n:Int):=by omega
   clear hi aQ aS ck bZ hL aC hx bG;have aU:Below wr.heap.size wr (wr.alloc (.cells #[.int .i64 x.start,.int .i64 x.count,.int .u64 (x.sum:Int),.int .u64 (x.min:Int),.int .u64 (x.max:Int),.int .u64 (x.last:Int)] 135)):=(Below.refl _ _).alloc (de _) _;have ap:Blk (wr.alloc (.cells #[.int .i64 x.start,.int .i64 x.count,.int .u64 (x.sum:Int),.int .u64 (x.min:Int),.int .u64 (x.max:Int),.int .u64 (x.last:Int)] 135)) wr.heap.size 135 #[.int .i64 x.start,.int .i64 x.count,.int .u64 (x.sum:Int),.int .u64 (x.min:Int),.int .u64 (x.max:Int),.int .u64 (x.last:Int)]:=Blk.new _ _ _;go_upto_region 7 with fail
   obtain⟨w5,b1⟩:=jF (wr.alloc (.cells #[.int .i64 x.start,.int .i64 x.count,.int .u64 (x.sum:Int),.int .u64 (x.min:Int),.int .u64 (x.max:Int),.int .u64 (x.last:Int)] 135));obtain⟨qw,bH⟩:=jF wr.heap.size;rw[b1]at aU ap
   try rw[b1]
   rw[bH]at ap
   try rw[bH]
   have hqb:ba<qw:=by have:=bm.out.lt;omega
   have ax:=Jh (HL.out.below aU);have aq:=Jh (HR.out.trans (aU.mono bY));have ah:=Jh (bm.out.below aU bm.out.lt);have ao:=Jh ap;have cb:b<=w5.heap.size:=dh bY aU.size;have x0:w5.cell? ⟨qw,0,none⟩=some (.int .i64 x.start):=ap.cell 0;have x1:w5.cell? ⟨qw,1,none⟩=some (.int .i64 x.count):=ap.cell 1;have x2:w5.cell? ⟨qw,2,none⟩=some (.int .u64 (x.sum:Int)):=ap.cell 2;have x3:w5.cell? ⟨qw,3,none⟩=some (.int .u64 (x.min:Int)):=ap.cell 3;have x4:w5.cell? ⟨qw,4,none⟩=some (.int .u64 (x.max:Int)):=ap.cell 4;have x5:w5.cell? ⟨qw,5,none⟩=some (.int .u64 (x.last:Int)):=ap.cell 5;have a0:w5.cell? ⟨ba,0,none⟩=some (.int .i64 a.start):=ah.out.cell 0;have a1:w5.cell? ⟨ba,1,none⟩=some (.int .i64 a.count):=ah.out.cell 1;have a2:w5.cell? ⟨ba,2,none⟩=some (.int .u64 (a.sum:Int)):=ah.out.cell 2;have a3:w5.cell? ⟨ba,3,none⟩=some (.int .u64 (a.min:Int)):=ah.out.cell 3;have a4:w5.cell? ⟨ba,4,none⟩=some (.int .u64 (a.max:Int)):=ah.out.cell 4;have a5:w5.cell? ⟨ba,5,none⟩=some (.int .u64 (a.last:Int)):=ah.out.cell 5;clear aU ap b1 bH m0 m1 m2 m3 m4 m5;obtain⟨fst,az⟩:=jF (decide (i=0));have hf2:((i:Int) == 0)=fst:=by rw[<-az];cases i <;> simp <;> omega
   rw[az]at bw;have b0:=Jh az;obtain⟨se,a9⟩:=jF (Kdj x a fst);have bD:=Jh (Ktk x a fst w5);unfold wndV at bD;rw[a9]at bD;have cM:=Jh a9;have aO:=bw.out;rw[cV.out,aggE,a9]at aO;have cz:se<=110:=by (rw[<-a9];unfold Kdj;repeat' split);all_goals omega
   clear a9 az;go_wp2_with fail
   refine bD.out.mono ?_;rintro _ w6 ⟨rfl,h6⟩;have ct:=Jh (ax.out.below h6);have cj:=Jh (aq.out.trans (h6.mono cb));have bK:=Jh (ah.out.below h6 ah.out.lt);have bX:=Jh (ao.out.below h6 ao.out.lt);have cm:b<=w6.heap.size:=dh cb h6.size;clear h6 x0 x1 x2 x3 x4 x5 a0 a1 a2 a3 a4 a5
   by_cases aR:se=0
   .subst aR;rw[jM (by simp)]at aO;have bo:=Jh aO;clear aO;have b9:=(Kna x a fst).1 ((Kkg x a fst).1 cM.out);obtain⟨k1,k2,k3,k4⟩:=b9.1;have cL:=bB.out.1
    have hge:a.start<=x.start:=by
     rcases b9.2 with hf | hf
     .have:i=0:=by
       have:=b0.out;rw[hf]at this;exact jP this
      have ha:=ca.out;rw[this]at ha;rw[<-ha];exact k1
     .omega
    obtain⟨y1,cc⟩:=jF ((x.start - a.start).toNat);obtain⟨y2,ce⟩:=jF x.count.toNat;have cv:x.start - a.start=(y1:Int):=by omega
    have a6:x.count=(y2:Int):=by omega
    have br:wrap64 (x.start - a.start)=(y1:Int):=by unfold wrap64;omega
    have hu1:dY.wrap (y1:Int)=(y1:Int):=by rw[dX];omega
    have hu2:dY.wrap (y2:Int)=(y2:Int):=by rw[dX];omega
    have cG:=Jh (fun w=>Kav y1 (by omega) w);have cE:=Jh (fun w=>Kav y2 (by omega) w);have cs:=Jh cc;have c0:=Jh ce;have x0:w6.cell? ⟨qw,0,none⟩=some (.int .i64 x.start):=bX.out.cell 0;have a0:w6.cell? ⟨ba,0,none⟩=some (.int .i64 a.start):=bK.out.cell 0;clear cc ce;go_wp2_with fail
    refine(cG.out w6).mono ?_;rintro _ w7 ⟨rfl,h7⟩;have cK:=Jh (ct.out.below h7);have cx:=Jh (cj.out.trans (h7.mono cm));have cB:=Jh (bK.out.below h7 bK.out.lt);have cN:=Jh (bX.out.below h7 bX.out.lt);have b6:b<=w7.heap.size:=dh cm h7.size;clear h7;clear x0 a0;go_wp2_with fail
    refine(Kaz b b (L) ⟨(uintT y1).toArray⟩ w7 cK.out (by show _+(uintT y1).toArray.size<=_;have:=(Kab y1).2;have:=bn.out;have:=HI.out;simp only[dd,Jd];omega) b6).mono ?_;rintro _ w8 ⟨rfl,h5,h6,h7⟩;have cJ:=Jh h5;have cX:=Jh (cx.out.trans h6);have cr:=Jh (h7.blk cB.out (by omega) (by decide));have bJ:=Jh (h7.blk cN.out (by omega) (by decide));have co:b<=w8.heap.size:=dh b6 h6.size;clear h5 h6 h7;have x1:w8.cell? ⟨qw,1,none⟩=some (.int .i64 (y2:Int)):=(bJ.out.cell 1).trans (by rw[<-a6];rfl);go_wp2_with fail
    refine(cE.out w8).mono ?_;rintro _ w9 ⟨rfl,h9⟩;have bU:=Jh (cJ.out.below h9);have bz:=Jh (cX.out.trans (h9.mono co));have al:=Jh (cr.out.below h9 cr.out.lt);have aD:=Jh (bJ.out.below h9 bJ.out.lt);have b5:b<=w9.heap.size:=dh co h9.size;clear h9;clear x1;go_wp2_with fail
    refine(Kaz b b (L++uintT y1) ⟨(uintT y2).toArray⟩ w9 bU.out (by show _+(uintT y2).toArray.size<=_;have:=(Kab y2).2;have:=bn.out;have:=HI.out;simp only[dd,Jd];have:=(Kab y1).2;omega) b5).mono ?_;rintro _ bC ⟨rfl,h5,h6,h7⟩;have bF:=Jh (show Bld b b (L++uintT y1++uintT y2) bC from h5);have bI:=Jh (bz.out.trans h6);have bl:=Jh (h7.blk al.out (by omega) (by decide));have aY:=Jh (h7.blk aD.out (by omega) (by decide));have bj:b<=bC.heap.size:=dh b5 h6.size;clear h5 h6 h7;go_wp2_with fail
    refine(Kkw ba bC).mono ?_;rintro _ aA ⟨rfl,aT⟩;have bP:=Jh (bF.out.below aT);have bE:=Jh (bI.out.trans (aT.mono bj));have aP:=Jh (bl.out.below aT bl.out.lt);have bf:=Jh (aY.out.below aT aY.out.lt);have bb:b<=aA.heap.size:=dh bj aT.size;clear aT;unfold fldsV;have ai:Below aA.heap.size aA (aA.alloc (.cells #[.pointer (some ⟨ba,2,none⟩),.pointer (some ⟨ba,3,none⟩),.pointer (some ⟨ba,4,none⟩),.pointer (some ⟨ba,5,none⟩)] 246)):=(Below.refl _ _).alloc (de _) _;have am:Blk (aA.alloc (.cells #[.pointer (some ⟨ba,2,none⟩),.pointer (some ⟨ba,3,none⟩),.pointer (some ⟨ba,4,none⟩),.pointer (some ⟨ba,5,none⟩)] 246)) aA.heap.size 246 #[.pointer (some ⟨ba,2,none⟩),.pointer (some ⟨ba,3,none⟩),.pointer (some ⟨ba,4,none⟩),.pointer (some ⟨ba,5,none⟩)]:=Blk.new _ _ _;go_upto_region 13 with fail
    obtain⟨w12,aL⟩:=jF (aA.alloc (.cells #[.pointer (some ⟨ba,2,none⟩),.pointer (some ⟨ba,3,none⟩),.pointer (some ⟨ba,4,none⟩),.pointer (some ⟨ba,5,none⟩)] 246));obtain⟨qo,bM⟩:=jF aA.heap.size;rw[aL]at ai am
    try rw[aL]
    rw[bM]at am
    try rw[bM]
    have cR:ba<qo:=by have:=aP.out.lt;omega
    clear aL bM;have bA:=Jh (bP.out.below ai);have bT:=Jh (bE.out.trans (ai.mono bb));have bd:=Jh (aP.out.below ai aP.out.lt);have aW:=Jh (bf.out.below ai bf.out.lt);have bh:b<=w12.heap.size:=dh bb ai.size;clear ai;go_wp2_with fail
    refine(Kkw qw w12).mono ?_;rintro _ cO ⟨rfl,aK⟩;have a7:=Jh (am.below aK am.lt);have a8:=Jh (bA.out.below aK);have bV:=Jh (bT.out.trans (aK.mono bh));have bO:=Jh (bd.out.below aK bd.out.lt);have bR:=Jh (aW.out.below aK aW.out.lt);have cY:b<=cO.heap.size:=dh bh aK.size;clear aK;unfold fldsV;obtain⟨L2,bq⟩:=jF (L++uintT y1++uintT y2);rw[bq]at a8
    have c1:L2.length<=11+66*i+22:=by rw[<-bq,Jd,Jd];have:=bn.out;have:=(Kab y1).2;have:=(Kab y2).2;omega
    have bS:=Jh bq;clear bq am;have cQ:∀w:World,(em 246 (.agg #[.pointer (some ⟨qw,2,none⟩),.pointer (some ⟨qw,3,none⟩),.pointer (some ⟨qw,4,none⟩),.pointer (some ⟨qw,5,none⟩)]) (.int .i64 0)).run prog w = .ok (.pointer (some ⟨qw,2,none⟩)) w:=fun w=>by kernel_rfl
    have cC:∀w:World,(em 246 (.agg #[.pointer (some ⟨qw,2,none⟩),.pointer (some ⟨qw,3,none⟩),.pointer (some ⟨qw,4,none⟩),.pointer (some ⟨qw,5,none⟩)]) (.int .i64 1)).run prog w = .ok (.pointer (some ⟨qw,3,none⟩)) w:=fun w=>by kernel_rfl
    have cZ:∀w:World,(em 246 (.agg #[.pointer (some ⟨qw,2,none⟩),.pointer (some ⟨qw,3,none⟩),.pointer (some ⟨qw,4,none⟩),.pointer (some ⟨qw,5,none⟩)]) (.int .i64 2)).run prog w = .ok (.pointer (some ⟨qw,4,none⟩)) w:=fun w=>by kernel_rfl
    have cI:∀w:World,(em 246 (.agg #[.pointer (some ⟨qw,2,none⟩),.pointer (some ⟨qw,3,none⟩),.pointer (some ⟨qw,4,none⟩),.pointer (some ⟨qw,5,none⟩)]) (.int .i64 3)).run prog w = .ok (.pointer (some ⟨qw,5,none⟩)) w:=fun w=>by kernel_rfl
    go_upto_block 2 with fail
    go_cut [] (fun wx=>Bld b b (L2++fldsT a x 4) wx/\Below b w wx/\Blk wx ba 135 #[.int .i64 a.start,.int .i64 a.count,.int .u64 (a.sum:Int),.int .u64 (a.min:Int),.int .u64 (a.max:Int),.int .u64 (a.last:Int)]/\Blk wx qw 135 #[.int .i64 x.start,.int .i64 x.count,.int .u64 (x.sum:Int),.int .u64 (x.min:Int),.int .u64 (x.max:Int),.int .u64 (x.last:Int)])
    case first=>
     go_wp2_with fail
     go_loopg [47] 4 (fun g s47 wr2=>∃k:Nat,k+g=4/\s47 = .int .i64 (k:Int)/\k<=4/\Bld b b (L2++fldsT a x k) wr2/\(L2++fldsT a x k).length<=11+66*i+22+11*k/\Below b w wr2/\Blk wr2 ba 135 #[.int .i64 a.start,.int .i64 a.count,.int .u64 (a.sum:Int),.int .u64 (a.min:Int),.int .u64 (a.max:Int),.int .u64 (a.last:Int)]/\Blk wr2 qw 135 #[.int .i64 x.start,.int .i64 x.count,.int .u64 (x.sum:Int),.int .u64 (x.min:Int),.int .u64 (x.max:Int),.int .u64 (x.last:Int)]/\Blk wr2 qo 246 #[.pointer (some ⟨ba,2,none⟩),.pointer (some ⟨ba,3,none⟩),.pointer (some ⟨ba,4,none⟩),.pointer (some ⟨ba,5,none⟩)])
     case atStart=>exact⟨0,rfl,rfl,by omega,by simpa[fldsT]using a8.out,by simp[fldsT];omega,bV.out,bO.out,bR.out,a7.out⟩
     case round=>
      obtain⟨k,hk,rfl,hk4,be,bi,bN,cl,cg,bc⟩:=hrel;have aH:=Jh be;have ae:=Jh bi;have aZ:=Jh bN;have ad:=Jh cl;have af:=Jh cg;have aa:=Jh bc;have hIn:=HI.out;have ag:b<=wr.heap.size:=dh (by rw[HB.out];exact de _) bN.size;clear be bi bN cl cg bc;rcases (by omega:k=0\/k=1\/k=2\/k=3\/k=4) with rfl | rfl | rfl | rfl | rfl
      .obtain rfl:gk=4:=by omega
       have o0:wr.cell? ⟨qo,0,none⟩=some (.pointer (some ⟨ba,2,none⟩)):=aa.out.cell 0;have a0:wr.cell? ⟨ba,2,none⟩=some (.int .u64 (a.sum:Int)):=ad.out.cell 2;have x0:wr.cell? ⟨qw,2,none⟩=some (.int .u64 (x.sum:Int)):=af.out.cell 2;have aM:bits .xor .u64 (x.sum:Int) (a.sum:Int)=((x.sum ^^^ a.sum:Nat):Int):=bits_xor_u64_nat _ _ (by have:=av.out.1;omega) (by have:=ac.out.1;omega);have an:x.sum ^^^ a.sum<2 ^ 64:=dz av.out.1 ac.out.1;obtain⟨y,hy⟩:=jF (x.sum ^^^ a.sum);rw[hy]at aM an;have HY:=Jh hy;have HU:=Jh (fun w=>Kav y an w);have aN:=ad.out.lt;have aE:=af.out.lt;have aG:=aa.out.lt;clear hy;go_upto_region 16 with fail
       refine Kal 10 (by kernel_rfl) (by kernel_rfl) ?_;simp only[dx,dv,dy,dD]
       repeat (go_big_quiet_step ((go_at_call 42;exact Kaj _ (HU.out _))))
       refine en ?_;rintro w4 ⟨⟨_,ab⟩,rfl⟩;have ay:=Jh (aH.out.below ab);have aF:=Jh (aZ.out.trans (ab.mono ag));have ar:=Jh (ad.out.below ab ad.out.lt);have aI:=Jh (af.out.below ab af.out.lt);have aj:=Jh (aa.out.below ab aa.out.lt);have aJ:b<=w4.heap.size:=dh ag ab.size;clear ab o0 a0 x0 aN aE aG;go_wp2_with fail
       refine(Kaz b b _ ⟨(uintT y).toArray⟩ w4 ay.out (by show _+(uintT y).toArray.size<=_;have:=(Kab y).2;have:=ae.out;simp only[dd];omega) aJ).mono ?_;rintro _ w5 ⟨rfl,h5,h6,h7⟩;have ax:=Jh h5;have aq:=Jh (aF.out.trans h6);have ah:=Jh (h7.blk ar.out (by omega) (by decide));have ao:=Jh (h7.blk aI.out (by omega) (by decide));have ak:=Jh (h7.blk aj.out (by omega) (by decide));clear h5 h6 h7;go_wp2_with fail
       go_roundg 3
       case measure=>omega
       case rel=>
        refine⟨1,rfl,rfl,by omega,?_,?_,aq.out,ah.out,ao.out,ak.out⟩
        .rw[Koz,HY.out,<-dc];exact ax.out
        .rw[Koz,HY.out,Jd,Jd];have:=ae.out;rw[Jd]at this;have:=(Kab y).2;omega
      .obtain rfl:gk=3:=by omega
       have o0:wr.cell? ⟨qo,1,none⟩=some (.pointer (some ⟨ba,3,none⟩)):=aa.out.cell 1;have a0:wr.cell? ⟨ba,3,none⟩=some (.int .u64 (a.min:Int)):=ad.out.cell 3;have x0:wr.cell? ⟨qw,3,none⟩=some (.int .u64 (x.min:Int)):=af.out.cell 3;have aM:bits .xor .u64 (x.min:Int) (a.min:Int)=((x.min ^^^ a.min:Nat):Int):=bits_xor_u64_nat _ _ (by have:=av.out.2.1;omega) (by have:=ac.out.2.1;omega);have an:x.min ^^^ a.min<2 ^ 64:=dz av.out.2.1 ac.out.2.1;obtain⟨y,hy⟩:=jF (x.min ^^^ a.min);rw[hy]at aM an;have HY:=Jh hy;have HU:=Jh (fun w=>Kav y an w);have aN:=ad.out.lt;have aE:=af.out.lt;have aG:=aa.out.lt;clear hy;go_upto_region 16 with fail
       refine Kal 10 (by kernel_rfl) (by kernel_rfl) ?_;simp only[dx,dv,dy,dD]
       repeat (go_big_quiet_step ((go_at_call 42;exact Kaj _ (HU.out _))))
       refine en ?_;rintro w4 ⟨⟨_,ab⟩,rfl⟩;have ay:=Jh (aH.out.below ab);have aF:=Jh (aZ.out.trans (ab.mono ag));have ar:=Jh (ad.out.below ab ad.out.lt);have aI:=Jh (af.out.below ab af.out.lt);have aj:=Jh (aa.out.below ab aa.out.lt);have aJ:b<=w4.heap.size:=dh ag ab.size;clear ab o0 a0 x0 aN aE aG;go_wp2_with fail
       refine(Kaz b b _ ⟨(uintT y).toArray⟩ w4 ay.out (by show _+(uintT y).toArray.size<=_;have:=(Kab y).2;have:=ae.out;simp only[dd];omega) aJ).mono ?_;rintro _ w5 ⟨rfl,h5,h6,h7⟩;have ax:=Jh h5;have aq:=Jh (aF.out.trans h6);have ah:=Jh (h7.blk ar.out (by omega) (by decide));have ao:=Jh (h7.blk aI.out (by omega) (by decide));have ak:=Jh (h7.blk aj.out (by omega) (by decide));clear h5 h6 h7;go_wp2_with fail
       go_roundg 2
       case measure=>omega
       case rel=>
        refine⟨2,rfl,rfl,by omega,?_,?_,aq.out,ah.out,ao.out,ak.out⟩
        .rw[Kpa,HY.out,<-dc];exact ax.out
        .rw[Kpa,HY.out,Jd,Jd];have:=ae.out;rw[Jd]at this;have:=(Kab y).2;omega
      .obtain rfl:gk=2:=by omega
       have o0:wr.cell? ⟨qo,2,none⟩=some (.pointer (some ⟨ba,4,none⟩)):=aa.out.cell 2;have a0:wr.cell? ⟨ba,4,none⟩=some (.int .u64 (a.max:Int)):=ad.out.cell 4;have x0:wr.cell? ⟨qw,4,none⟩=some (.int .u64 (x.max:Int)):=af.out.cell 4;have aM:bits .xor .u64 (x.max:Int) (a.max:Int)=((x.max ^^^ a.max:Nat):Int):=bits_xor_u64_nat _ _ (by have:=av.out.2.2.1;omega) (by have:=ac.out.2.2.1;omega);have an:x.max ^^^ a.max<2 ^ 64:=dz av.out.2.2.1 ac.out.2.2.1;obtain⟨y,hy⟩:=jF (x.max ^^^ a.max);rw[hy]at aM an;have HY:=Jh hy;have HU:=Jh (fun w=>Kav y an w);have aN:=ad.out.lt;have aE:=af.out.lt;have aG:=aa.out.lt;clear hy;go_upto_region 16 with fail
       refine Kal 10 (by kernel_rfl) (by kernel_rfl) ?_;simp only[dx,dv,dy,dD]
       repeat (go_big_quiet_step ((go_at_call 42;exact Kaj _ (HU.out _))))
       refine en ?_;rintro w4 ⟨⟨_,ab⟩,rfl⟩;have ay:=Jh (aH.out.below ab);have aF:=Jh (aZ.out.trans (ab.mono ag));have ar:=Jh (ad.out.below ab ad.out.lt);have aI:=Jh (af.out.below ab af.out.lt);have aj:=Jh (aa.out.below ab aa.out.lt);have aJ:b<=w4.heap.size:=dh ag ab.size;clear ab o0 a0 x0 aN aE aG;go_wp2_with fail
       refine(Kaz b b _ ⟨(uintT y).toArray⟩ w4 ay.out (by show _+(uintT y).toArray.size<=_;have:=(Kab y).2;have:=ae.out;simp only[dd];omega) aJ).mono ?_;rintro _ w5 ⟨rfl,h5,h6,h7⟩;have ax:=Jh h5;have aq:=Jh (aF.out.trans h6);have ah:=Jh (h7.blk ar.out (by omega) (by decide));have ao:=Jh (h7.blk aI.out (by omega) (by decide));have ak:=Jh (h7.blk aj.out (by omega) (by decide));clear h5 h6 h7;go_wp2_with fail
       go_roundg 1
       case measure=>omega
       case rel=>
        refine⟨3,rfl,rfl,by omega,?_,?_,aq.out,ah.out,ao.out,ak.out⟩
        .rw[Kpb,HY.out,<-dc];exact ax.out
        .rw[Kpb,HY.out,Jd,Jd];have:=ae.out;rw[Jd]at this;have:=(Kab y).2;omega
      .obtain rfl:gk=1:=by omega
       have o0:wr.cell? ⟨qo,3,none⟩=some (.pointer (some ⟨ba,5,none⟩)):=aa.out.cell 3;have a0:wr.cell? ⟨ba,5,none⟩=some (.int .u64 (a.last:Int)):=ad.out.cell 5;have x0:wr.cell? ⟨qw,5,none⟩=some (.int .u64 (x.last:Int)):=af.out.cell 5;have aM:bits .xor .u64 (x.last:Int) (a.last:Int)=((x.last ^^^ a.last:Nat):Int):=bits_xor_u64_nat _ _ (by have:=av.out.2.2.2;omega) (by have:=ac.out.2.2.2;omega);have an:x.last ^^^ a.last<2 ^ 64:=dz av.out.2.2.2 ac.out.2.2.2;obtain⟨y,hy⟩:=jF (x.last ^^^ a.last);rw[hy]at aM an;have HY:=Jh hy;have HU:=Jh (fun w=>Kav y an w);have aN:=ad.out.lt;have aE:=af.out.lt;have aG:=aa.out.lt;clear hy;go_upto_region 16 with fail
       refine Kal 10 (by kernel_rfl) (by kernel_rfl) ?_;simp only[dx,dv,dy,dD]
       repeat (go_big_quiet_step ((go_at_call 42;exact Kaj _ (HU.out _))))
       refine en ?_;rintro w4 ⟨⟨_,ab⟩,rfl⟩;have ay:=Jh (aH.out.below ab);have aF:=Jh (aZ.out.trans (ab.mono ag));have ar:=Jh (ad.out.below ab ad.out.lt);have aI:=Jh (af.out.below ab af.out.lt);have aj:=Jh (aa.out.below ab aa.out.lt);have aJ:b<=w4.heap.size:=dh ag ab.size;clear ab o0 a0 x0 aN aE aG;go_wp2_with fail
       refine(Kaz b b _ ⟨(uintT y).toArray⟩ w4 ay.out (by show _+(uintT y).toArray.size<=_;have:=(Kab y).2;have:=ae.out;simp only[dd];omega) aJ).mono ?_;rintro _ w5 ⟨rfl,h5,h6,h7⟩;have ax:=Jh h5;have aq:=Jh (aF.out.trans h6);have ah:=Jh (h7.blk ar.out (by omega) (by decide));have ao:=Jh (h7.blk aI.out (by omega) (by decide));have ak:=Jh (h7.blk aj.out (by omega) (by decide));clear h5 h6 h7;go_wp2_with fail
       go_roundg 0
       case measure=>omega
       case rel=>
        refine⟨4,rfl,rfl,by omega,?_,?_,aq.out,ah.out,ao.out,ak.out⟩
        .rw[Kpc,HY.out,<-dc];exact ax.out
        .rw[Kpc,HY.out,Jd,Jd];have:=ae.out;rw[Jd]at this;have:=(Kab y).2;omega
      .obtain rfl:gk=0:=by omega
       go_wp2_with fail
       go_meet
       exact⟨aH.out,aZ.out,ad.out,af.out⟩
    case rest=>
     obtain⟨b2,b7,ci,cf⟩:=hcut;have bU:=Jh b2;have bz:=Jh b7;have al:=Jh ci;have aD:=Jh cf;clear b2 b7 ci cf;have x0:wc.cell? ⟨qw,0,none⟩=some (.int .i64 x.start):=aD.out.cell 0;have x1:wc.cell? ⟨qw,1,none⟩=some (.int .i64 x.count):=aD.out.cell 1;have x2:wc.cell? ⟨qw,2,none⟩=some (.int .u64 (x.sum:Int)):=aD.out.cell 2;have x3:wc.cell? ⟨qw,3,none⟩=some (.int .u64 (x.min:Int)):=aD.out.cell 3;have x4:wc.cell? ⟨qw,4,none⟩=some (.int .u64 (x.max:Int)):=aD.out.cell 4;have x5:wc.cell? ⟨qw,5,none⟩=some (.int .u64 (x.last:Int)):=aD.out.cell 5;have a0:wc.cell? ⟨ba,0,none⟩=some (.int .i64 a.start):=al.out.cell 0;have a1:wc.cell? ⟨ba,1,none⟩=some (.int .i64 a.count):=al.out.cell 1;have a2:wc.cell? ⟨ba,2,none⟩=some (.int .u64 (a.sum:Int)):=al.out.cell 2;have a3:wc.cell? ⟨ba,3,none⟩=some (.int .u64 (a.min:Int)):=al.out.cell 3;have a4:wc.cell? ⟨ba,4,none⟩=some (.int .u64 (a.max:Int)):=al.out.cell 4;have a5:wc.cell? ⟨ba,5,none⟩=some (.int .u64 (a.last:Int)):=al.out.cell 5;have z0:=al.out.frozen 0;have z1:=al.out.frozen 1;have z2:=al.out.frozen 2;have z3:=al.out.frozen 3;have z4:=al.out.frozen 4;have z5:=al.out.frozen 5;go_wp2_with fail
     have t0:=al.out;have g0:=bU.out;have r0:=bz.out;have g1:=g0.set (i:=0) t0 (by decide) (by omega) (.int .i64 x.start);have r1:=r0.setCell (p:=⟨ba,0,none⟩) (by simp;omega) (.int .i64 x.start);have t1:=t0.set_ 0 (.int .i64 x.start);have g2:=g1.set (i:=1) t1 (by decide) (by omega) (.int .i64 (y2:Int));have r2:=r1.setCell (p:=⟨ba,1,none⟩) (by simp;omega) (.int .i64 (y2:Int));have t2:=t1.set_ 1 (.int .i64 (y2:Int));have g3:=g2.set (i:=2) t2 (by decide) (by omega) (.int .u64 (x.sum:Int));have r3:=r2.setCell (p:=⟨ba,2,none⟩) (by simp;omega) (.int .u64 (x.sum:Int));have t3:=t2.set_ 2 (.int .u64 (x.sum:Int));have g4:=g3.set (i:=3) t3 (by decide) (by omega) (.int .u64 (x.min:Int));have r4:=r3.setCell (p:=⟨ba,3,none⟩) (by simp;omega) (.int .u64 (x.min:Int));have t4:=t3.set_ 3 (.int .u64 (x.min:Int));have g5:=g4.set (i:=4) t4 (by decide) (by omega) (.int .u64 (x.max:Int));have r5:=r4.setCell (p:=⟨ba,4,none⟩) (by simp;omega) (.int .u64 (x.max:Int));have t5:=t4.set_ 4 (.int .u64 (x.max:Int));have g6:=g5.set (i:=5) t5 (by decide) (by omega) (.int .u64 (x.last:Int));have r6:=r5.setCell (p:=⟨ba,5,none⟩) (by simp;omega) (.int .u64 (x.last:Int));have t6:=t5.set_ 5 (.int .u64 (x.last:Int));have G:=Jh g6;have R:=Jh r6;have T:=Jh t6;clear g0 g1 g2 g3 g4 g5 g6 r0 r1 r2 r3 r4 r5 r6 t0 t1 t2 t3 t4 t5 t6;go_roundg (n - (i+1))
     case measure=>have:=HI.out;omega
     case rel=>
      have hT:L2++fldsT a x 4=uintT n++wndsT wnd0 (l.take (i+1)):=by rw[cd.out,Kqf,ca.out,Qfj,cs.out,c0.out,<-bS.out,<-cD.out];simp
      have bQ:lastW wnd0 (l.take (i+1))=x:=by rw[cd.out,Kph]
      refine⟨i+1,by have:=HI.out;omega,by go_num,?_,?_,R.out,?_,?_,?_⟩
      .rw[bQ,show decide (i+1=0)=false by simp];exact bo.out
      .rw[<-hT];exact G.out
      .rw[bQ,a6];exact T.out
      .rw[bQ];exact⟨k1,k2,av.out⟩
      .rw[<-hT,Jd];have h1:=c1
       have h2:(fldsT a x 4).length<=44:=by simp only[fldsT,List.take,List.flatten_cons,List.flatten_nil,Jd,da];have q1:=(Kab (x.sum ^^^ a.sum)).2;have q2:=(Kab (x.min ^^^ a.min)).2;have q3:=(Kab (x.max ^^^ a.max)).2;have q4:=(Kab (x.last ^^^ a.last)).2;omega
       omega
   .rw[jN aR]at aO;have e0:((se:Int) != 0)=true:=by simp;omega
    have bo:=Jh aO;have cW:=Jh aR;clear aO;go_wp2_with fail
    go_ret2
    unfold aggO;rw[jM (by rw[bv.out,<-bo.out];exact cW.out),bv.out,<-bo.out];exact⟨rfl,by rw[HB.out];exact cj.out⟩
  .have cy:i=n:=by have:=HI.out;omega
   subst cy;have aS:l.take i=l:=dA (by have:=aw.out;omega);have aQ:l.drop i = []:=List.drop_eq_nil_of_le (by have:=aw.out;omega)
   have b3:E=0:=by have:=bw.out;rw[aQ]at this;exact this.symm
   have ho:aggO l=(uintT i++wndsT wnd0 l,0):=by unfold aggO;rw[jN (by rw[bv.out,b3]),aggT,aw.out]
   rw[aS]at HL;have HO:=Jh ho;have aV:=Jh (Kdv b b _ wr HL.out bY);obtain⟨S,hS⟩:∃S:ByteArray,(⟨(uintT i++wndsT wnd0 l).toArray⟩:ByteArray)=S:=⟨_,rfl⟩;rw[hS]at aV;have HS:=Jh hS;clear ho hS aS aQ b3;go_wp2_with fail
   refine aV.out.mono ?_;rintro _ w3 ⟨rfl,h6⟩;go_wp2_with fail
   go_ret2
   rw[HO.out,<-HS.out];exact⟨rfl,by rw[HB.out];exact HR.out.trans h6⟩
end
section
open Go.RowKit
attribute [local go_sem ↓] Go.wp_at_zero Go.wp_at_succ
attribute [local go_sem] Later.cell
theorem Qgf:(prog.info? 3).map (fun i=>(i.zero,i.size,i.bytes))=some (some (.int .i64 0),1,8):=by kernel_rfl
theorem Kah {w:World}{B n sz:Nat}{T:TypeId}{v:Value}{xs:List Value}(h:w.ownsRow B T sz v n xs):∃A cap,v = .slice A n cap:=by
 rcases h.2 with ⟨rfl,rfl⟩ | ⟨g,cap,cur,rfl,_⟩
 .exact ⟨none,0,rfl⟩
 .exact ⟨_,cap,rfl⟩
end
section
open Go.RowKit
theorem Kas {w:World}{B n sz B' n' sz':Nat}{T T':TypeId}{v v':Value}{xs xs':List Value}(h:w.ownsRow B T sz v n xs) (h':w.ownsRow B' T' sz' v' n' xs') (hT:T≠T'):v.ownBlock=none\/v.ownBlock≠v'.ownBlock:=by
 cases hv:v.ownBlock with
 | none=>exact .inl rfl
 | some r=>
  refine .inr fun e=>?_
  obtain⟨cur,hc⟩:=Kax h hv;obtain⟨ab,aa⟩:=Kax h' e.symm;rw[hc]at aa;injection aa with aa;injection aa with _ aa;exact hT aa
theorem Kak {w:World}{g:Nat}{t T:TypeId}{cs:Array Value}{B n sz:Nat}{v:Value}{xs:List Value}(h:Blk w g t cs) (hv:w.ownsRow B T sz v n xs) (ht:t≠T):some g≠v.ownBlock:=fun e=>by obtain⟨aa,hc⟩:=Kax hv e.symm;exact h.ne_ (show Blk w g T aa from hc) ht rfl
theorem Kbj {w:World}{B n sz p i:Nat}{t T:TypeId}{cs:Array Value}{v u:Value}{xs:List Value}(hv:w.ownsRow B T sz v n xs) (h:Blk w p t cs) (ht:t≠T):(w.setCell ⟨p,i,none⟩ u).ownsRow B T sz v n xs:=
 hv.kept (row:=some p) ⟨rfl,rfl,rfl,by simp[World.setCell],fun k _ hk=>Below.heap_setCell _ _ _ _ (fun e=>hk (by rw[e]))⟩ (.inr fun e=>Kak h hv ht e.symm)
def spM (h:Hd3):Value:=.slice h.s.A h.s.n h.s.c
def wpM (h:Hd3):Value:=.slice h.w.A h.w.n h.w.c
def lbM (h:Hd3):Value:=.slice h.l.A h.l.n h.l.c
structure MRow (B:Nat) (w:World) (h:Hd3) (s:Ser):Prop where
 lb:(h.l.n=0/\s.labels = [])\/w.ownsRow B 99 2 (lbM h) s.labels.length (s.labels.flatMap encLb)
 ln:s.labels.length=h.l.n
 lc:h.l.n<=h.l.c
 sm:w.ownsRow B 102 2 (spM h) s.samples.length (s.samples.flatMap Kac)
 wd:w.ownsRow B 135 6 (wpM h) s.windows.length (s.windows.flatMap Kad)
structure MRows (B:Nat) (w:World) (hs:List Hd3) (gs:List Ser):Prop where
 len:hs.length=gs.length
 at_:∀(i:Nat) (h:Hd3),hs[i]? = some h->MRow B w h gs[i]!
 sep:∀(i j:Nat) (h h':Hd3),hs[i]? = some h->hs[j]? = some h'->i≠j->((spM h).ownBlock=none\/(spM h).ownBlock≠(spM h').ownBlock)/\((wpM h).ownBlock=none\/(wpM h).ownBlock≠(wpM h').ownBlock)
theorem Kcv {w w':World}{B n sz:Nat}{T:TypeId}{v:Value}{xs:List Value}(h:w.ownsRow B T sz v n xs) (hz:w.heap.size<=w'.heap.size) (hb:∀k,v.ownBlock=some k->w'.heap[k]? = w.heap[k]?):w'.ownsRow B T sz v n xs:=by
 rcases h.2 with h1 | ⟨g,cap,cur,h',hB,hg,h3⟩
 .exact ⟨h.1,.inl h1⟩
 .have hlt:=(h.lt g (by rw[h'];rfl)).2;exact⟨h.1,.inr ⟨g,cap,cur,h',hB,(hb g (by rw[h'];rfl)).trans hg,h3⟩⟩
theorem MRow.by {B:Nat}{w w':World}{h:Hd3}{s:Ser}(m:MRow B w h s) (hz:w.heap.size<=w'.heap.size) (hl:w.ownsRow B 99 2 (lbM h) s.labels.length (s.labels.flatMap encLb)->∀k,(lbM h).ownBlock=some k->w'.heap[k]? = w.heap[k]?) (hs:∀k,(spM h).ownBlock=some k->w'.heap[k]? = w.heap[k]?) (hw:∀k,(wpM h).ownBlock=some k->w'.heap[k]? = w.heap[k]?):MRow B w' h s:=
 ⟨m.lb.imp id fun x=>Kcv x hz (hl x),m.ln,m.lc,Kcv m.sm hz hs,Kcv m.wd hz hw⟩
theorem MRows.frame {B:Nat}{w w':World}{hs:List Hd3}{gs:List Ser}(m:MRows B w hs gs) {row:Option Nat}(hg:w.grownBy w' row) (hrow:∀r,row=some r->∃t cs,Blk w r t cs/\t≠99/\t≠102/\t≠135):MRows B w' hs gs:=by
 have aa:∀{T:TypeId} {n sz:Nat} {v:Value} {xs:List Value},w.ownsRow B T sz v n xs->(T = 99\/T = 102\/T = 135)->∀k,v.ownBlock=some k->w'.heap[k]? = w.heap[k]?:=fun {T n sz v xs} h hT k hk=>by
  refine hg.block k (h.lt k hk).2 fun e=>?_
  obtain⟨t,cs,hb,h1,h2,h3⟩:=hrow k e.symm;refine Kak hb h ?_ hk.symm;rcases hT with rfl | rfl | rfl
  .exact h1
  .exact h2
  .exact h3
 refine⟨m.len,fun i h hi=>?_,m.sep⟩;have a:=m.at_ i h hi;exact a.by hg.size (fun x k hk=>aa x (.inl rfl) k hk) (fun k hk=>aa a.sm (.inr (.inl rfl)) k hk) (fun k hk=>aa a.wd (.inr (.inr rfl)) k hk)
theorem MRows.below {B:Nat}{w w':World}{hs:List Hd3}{gs:List Ser}(m:MRows B w hs gs) (hb:Below w.heap.size w w'):MRows B w' hs gs:=
 m.frame (row:=none) ⟨hb.os,hb.tape,hb.output,hb.size,fun k hk _=>hb.block k hk⟩ (fun r e=>by cases e)
theorem MRows.snoc {B:Nat}{w:World}{hs:List Hd3}{gs:List Ser}(m:MRows B w hs gs) {h:Hd3}{s:Ser}(hm:MRow B w h s) (h1:(spM h).ownBlock=none) (h2:(wpM h).ownBlock=none):MRows B w (hs ++ [h]) (gs ++ [s]):=by
 have aa:∀(i:Nat) (x:Hd3),(hs ++ [h])[i]? = some x->(hs[i]? = some x/\i<hs.length)\/(x=h/\i=hs.length):=fun i x hi=>by
  rcases dj i hs.length with hl | hl
  .rw[dg hl]at hi;exact .inl ⟨hi,hl⟩
  .rw[c9 hl]at hi;rcases dr (i - hs.length) with h0 | h0
   .rw[h0]at hi;exact .inr ⟨by simpa using hi.symm,by omega⟩
   .rw[List.getElem?_eq_none (by simp;omega)]at hi;cases hi
 refine⟨by simp[m.len],fun i x hi=>?_,fun i j x y hi hj hij=>?_⟩
 .rcases aa i x hi with ⟨hi,hl⟩ | ⟨rfl,rfl⟩
  .rw[show(gs ++ [s])[i]! = gs[i]! by rw[jI _ i (by have:=m.len;simp;omega),jI gs i (by have:=m.len;omega),List.getElem_append_left]];exact m.at_ i x hi
  .rw[show(gs ++ [s])[hs.length]! = s by rw[m.len];simp];exact hm
 .rcases aa i x hi with ⟨hi,hl⟩ | ⟨rfl,rfl⟩
  .rcases aa j y hj with ⟨hj,hl2⟩ | ⟨rfl,rfl⟩
   .exact m.sep i j x y hi hj hij
   .rw[h1,h2];exact⟨by cases hq:(spM x).ownBlock <;> simp,by cases hq:(wpM x).ownBlock <;> simp⟩
  .exact ⟨.inl h1,.inl h2⟩
theorem MRows.upd {B:Nat}{w w':World}{hs:List Hd3}{gs:List Ser}(m:MRows B w hs gs) {k:Nat}{h h':Hd3}{s':Ser}(hk:hs[k]? = some h) (hz:w.heap.size<=w'.heap.size)
  (hg:∀j,j<w.heap.size->some j≠(spM h).ownBlock->some j≠(wpM h).ownBlock->w'.heap[j]? = w.heap[j]?) (hl:h'.l=h.l) (hlab:s'.labels=gs[k]!.labels)
  (hS:w'.ownsRow B 102 2 (spM h') s'.samples.length (s'.samples.flatMap Kac)) (hW:w'.ownsRow B 135 6 (wpM h') s'.windows.length (s'.windows.flatMap Kad))
  (hSb:(spM h').ownBlock=(spM h).ownBlock\/∃b,(spM h').ownBlock=some b/\w.heap.size<=b) (hWb:(wpM h').ownBlock=(wpM h).ownBlock\/∃b,(wpM h').ownBlock=some b/\w.heap.size<=b) :
  MRows B w' (hs.set k h') (gs.set k s'):=by
 have ah:k<hs.length:=(c6.1 hk).1;have a:=m.at_ k h hk
 have af:∀{T:TypeId} {n sz:Nat} {v:Value} {xs:List Value},w.ownsRow B T sz v n xs->T≠102->T≠135->∀j,v.ownBlock=some j->w'.heap[j]? = w.heap[j]?:=fun {T n sz v xs} x h1 h2 j hj=>
  hg j (x.lt j hj).2 (fun e=>(Kas x a.sm h1).elim (fun q=>by rw[q]at hj;cases hj) (fun q=>q (hj.trans e))) (fun e=>(Kas x a.wd h2).elim (fun q=>by rw[q]at hj;cases hj) (fun q=>q (hj.trans e)))
 have ad:∀(i:Nat) (x:Hd3),hs[i]? = some x->i≠k->MRow B w' x gs[i]!:=fun i x hi hik=>by
  have b:=m.at_ i x hi;have sp:=m.sep i k x h hi hk hik;refine b.by hz (fun y j hj=>af y (by decide) (by decide) j hj) (fun j hj=>?_) (fun j hj=>?_)
  .exact hg j (b.sm.lt j hj).2 (fun e=>sp.1.elim (fun q=>by rw[q]at hj;cases hj) (fun q=>q (hj.trans e))) (fun e=>(Kas b.sm a.wd (by decide)).elim (fun q=>by rw[q]at hj;cases hj) (fun q=>q (hj.trans e)))
  .exact hg j (b.wd.lt j hj).2 (fun e=>(Kas b.wd a.sm (by decide)).elim (fun q=>by rw[q]at hj;cases hj) (fun q=>q (hj.trans e))) (fun e=>sp.2.elim (fun q=>by rw[q]at hj;cases hj) (fun q=>q (hj.trans e)))
 have ac:MRow B w' h' s':=by refine⟨?_,by rw[hlab,hl];exact a.ln,by rw[hl];exact a.lc,hS,hW⟩;rw[hl,hlab,show lbM h'=lbM h by unfold lbM;rw[hl]];exact a.lb.imp id fun y=>Kcv y hz (fun j hj=>af y (by decide) (by decide) j hj)
 have aa:∀(i:Nat) (x:Hd3),(hs.set k h')[i]? = some x->(i=k/\x=h')\/(i≠k/\hs[i]? = some x):=fun i x hi=>by
  rcases Nat.decEq i k with hik | rfl
  .rw[List.getElem?_set_ne (Ne.symm hik)]at hi;exact .inr ⟨hik,hi⟩
  .rw[di ah]at hi;exact .inl ⟨rfl,by simpa using hi.symm⟩
 have ag:∀(i:Nat) (x:Hd3),hs[i]? = some x->(∀b,(spM x).ownBlock=some b->b<w.heap.size)/\(∀b,(wpM x).ownBlock=some b->b<w.heap.size):=fun i x hi=>⟨fun b hb=>((m.at_ i x hi).sm.lt b hb).2,fun b hb=>((m.at_ i x hi).wd.lt b hb).2⟩
 have ae:∀(i:Nat) (x:Hd3),hs[i]? = some x->i≠k->((spM x).ownBlock=none\/(spM x).ownBlock≠(spM h').ownBlock)/\((wpM x).ownBlock=none\/(wpM x).ownBlock≠(wpM h').ownBlock):=fun i x hi hik=>by
  have sp:=m.sep i k x h hi hk hik;refine⟨?_,?_⟩
  .rcases hSb with e | ⟨b,e,hb⟩
   .rw[e];exact sp.1
   .rw[e]
    cases hq:(spM x).ownBlock with
    | none=>exact .inl rfl
    | some c=>
          refine .inr fun he=>?_
          injection he with he;have:=(ag i x hi).1 c hq;omega
  .rcases hWb with e | ⟨b,e,hb⟩
   .rw[e];exact sp.2
   .rw[e]
    cases hq:(wpM x).ownBlock with
    | none=>exact .inl rfl
    | some c=>
          refine .inr fun he=>?_
          injection he with he;have:=(ag i x hi).2 c hq;omega
 refine⟨by simp[m.len],fun i x hi=>?_,fun i j x y hi hj hij=>?_⟩
 .rcases aa i x hi with ⟨e1,e2⟩ | ⟨hik,hi⟩
  .rw[e1,e2,show(gs.set k s')[k]! = s' by rw[jI _ k (by have:=m.len;simp;omega),List.getElem_set_self]];exact ac
  .rw[show(gs.set k s')[i]! = gs[i]! by
    have hil:=(c6.1 hi).1
    rw[jI _ i (by have:=m.len;simp;omega),jI gs i (by have:=m.len;omega),List.getElem_set_ne (Ne.symm hik)]]
   exact ad i x hi hik
 .have ab:∀{a b:Option Nat},(a=none\/a≠b)->(b=none\/b≠a):=fun {a b} q=>by
   cases b with
   | none=>exact .inl rfl
   | some c=>
         refine .inr fun e=>?_
         rcases q with q | q
         .rw[q]at e;cases e
         .exact q e.symm
  rcases aa i x hi with ⟨e1,e2⟩ | ⟨hik,hi⟩
  .rcases aa j y hj with ⟨e3,e4⟩ | ⟨hjk,hj⟩
   .exact jS (e1.trans e3.symm) hij
   .have f:=ae j y hj hjk;rw[e2];exact⟨ab f.1,ab f.2⟩
  .rcases aa j y hj with ⟨e3,e4⟩ | ⟨hjk,hj⟩
   .rw[e4];exact ae i x hi hik
   .exact m.sep i j x y hi hj hij
theorem MRows.sers {B:Nat}{w:World}{hs:List Hd3}{gs:List Ser}(m:MRows B w hs gs) (i:Nat) (h:Hd3) (hi:hs[i]? = some h):SerAt w h gs[i]!:=by
 have a:=m.at_ i h hi
 have hc:∀{T:TypeId} {A:Option Addr} {n c k sz:Nat} {xs:List Value},w.ownsRow B T sz (.slice A n c) k xs->n=k/\n<=c:=fun {T A n c k sz xs} x=>by
  rcases x.2 with ⟨e,hk⟩ | ⟨g,cap,cur,e,_,_,h3,_⟩
  .injection e with _ e1 e2;exact⟨by omega,by omega⟩
  .injection e with _ e1 e2;exact⟨by omega,by omega⟩
 have aa:=hc a.sm;have ab:=hc a.wd
 have he:∀{α : Type} {T:TypeId} {A:Option Addr} {n c sz:Nat} {enc:α->List Value} {l:List α},(∀x∈l,(enc x).length=sz)->w.ownsRow B T sz (.slice A n c) l.length (l.flatMap enc)->Elems w w.heap.size sz enc A n l:=fun {α T A n c sz enc l} h1 x=>by have h2:=hc x;obtain⟨A',c',e,h3,_⟩:=Elems.of_own (xs:=l) h1 rfl x rfl;injection e with e1 e2 e3;rw[e1,h2.1];exact h3
 refine⟨?_,a.lc,?_,aa.2,?_,ab.2⟩
 .rcases a.lb with ⟨h0,h1⟩ | x
  .rw[h0,h1];exact el
  .exact he (fun _ _=>rfl) x
 .exact he (fun _ _=>rfl) a.sm
 .exact he (fun _ _=>rfl) a.wd
theorem Khs {P:Program}{w:World}(base:Nat) (t ty e:TypeId) (i:TypeInfo) (size:Nat) (ht:P.underlying t=some (.slice e)) (hi:P.info? e=some i) (v:Value) (n c:Nat) (xs:List Value) (hown:w.ownsRow base e size v n xs) :
  (ZZ #[t,t] ty #[v,.slice none 0 c]).run P w = .ok v w:=by
 rcases hown.2 with ⟨rfl,rfl⟩ | ⟨g,cap,cur,rfl,_,_,hnc,_⟩
 .simp[ZZ,run_underlying ht,sizeOf,typeInfo,hi,ZX,ZY]
 .simp[ZZ,run_underlying ht,sizeOf,typeInfo,hi,ZX,ZY,hnc,storeCells]
theorem Kkk {P:Program}{w:World}{ops:Array Oper}{rest:List Oper}{o:Oper}{a:Act}{Q:Exit->Act->World->Prop}(hgd:o.guard=none) (s x:Operand) (t:TypeId)
  (ho:o.op = .call { callee:=.builtin .append,args:=#[s,x],argTypes:=#[t,t] })
  (base:Nat) (e:TypeId) (i:TypeInfo) (size:Nat) (ht:P.underlying t=some (.slice e)) (hi:P.info? e=some i)
  (v:Value) (n c:Nat) (xs:List Value) (hs:a.eval s=v) (hown:w.ownsRow base e size v n xs) (hx:a.eval x = .slice none 0 c)
  (h:wpList P ops Q rest (a.put o.dst v) w):wpList P ops Q (o :: rest) a w:=by
 refine wpList_plain hgd fun K hK=>?_
 have aa:=Khs (P:=P) (w:=w) base t o.type e i size ht hi v n c xs hown;unfold Oper.wp;simp[execOp,ho,resolve,invoke,builtin,hs,hx,aa,Result.andThen];exact hK _ _ h
theorem Krz {α : Type}{enc:α->List Value}{sz:Nat}{u:Value}:∀(xs:List α) {j:Nat},(∀x∈xs,(enc x).length=sz)->(xs.flatMap enc)[j]? = some u->∃i x r,xs[i]? = some x/\(enc x)[r]? = some u/\j=i*sz+r
 | [],j,_,h=>by simp at h
 | x :: xs,j,hl,h=>by
  have hx:=hl x (dO ..);rw[dt]at h;rcases dj j sz with hj | hj
  .rw[dg (by rw[hx];exact hj)]at h;exact⟨0,x,j,rfl,h,by simp⟩
  .rw[c9 (by rw[hx];exact hj),hx]at h;obtain⟨i,y,r,h1,h2,h3⟩:=Krz xs (fun y hy=>hl y (dK _ hy)) h;exact⟨i+1,y,r,by simpa using h1,h2,by rw[Nat.succ_mul];omega⟩
theorem Elems.cellsM {α : Type}{enc:α->List Value}{sz n B:Nat}{w:World}{ad:Addr}{xs:List α}(hl:∀x∈xs,(enc x).length=sz) (h:Elems w B sz enc (some ad) n xs) :
  ∀j u,(xs.flatMap enc)[j]? = some u->w.cell? (ad.add j)=some u:=by
 intro j u hu;obtain⟨i,x,r,h1,h2,rfl⟩:=Krz xs hl hu
 have hi:0<n:=by have:=(c6.1 h1).1;have:=h.1;omega
 obtain⟨b,aa,e,_,hc⟩:=h.2 hi;injection e with e;subst e;have:=hc i x h1 r u h2
 have ea:(⟨b,aa,none⟩:Addr).add (i*sz+r)=⟨b,aa+i*sz+r,none⟩:=by
  unfold Addr.add
  split
  .rename_i h0;simp at h0 |-;(try omega)
  .simp;(try omega)
 rw[ea];exact this
theorem Kem:∀(hs:List Hd3) (m r:Nat) (h h':Hd3) (V:Value),hs[m]? = some h->r<3->encH3 h'=(encH3 h).set r V->(hs.set m h').flatMap encH3=(hs.flatMap encH3).set (m*3+r) V
 | [],m,r,h,h',V,h1,_,_=>by simp at h1
 | x :: l,0,r,h,h',V,h1,h2,h3=>by
  have e:x=h:=by simpa using h1
  subst e;have hl:(encH3 x).length=3:=rfl;rw[List.set_cons_zero,dt,dt,Nat.zero_mul,Nat.zero_add,List.set_append_left _ _ (by omega),h3]
 | x :: l,m+1,r,h,h',V,h1,h2,h3=>by have hl:(encH3 x).length=3:=rfl;rw[List.set_cons_succ,dt,dt,List.set_append_right _ _ (by omega),hl,show(m+1)*3+r - 3=m*3+r by omega];rw[Kem l m r h h' V (by simpa using h1) h2 h3]
structure MSt (w0 w2:World) (w:World) (v:Value) (hs:List Hd3) (gs:List Ser):Prop where
 b0:Below w0.heap.size w0 w
 b2:Below w2.heap.size w2 w
 row:w.ownsRow w2.heap.size 58 3 v hs.length (hs.flatMap encH3)
 rows:MRows w2.heap.size w hs gs
section
variable {g n cV : Nat}{w0 w2 w : World}{v : Value}{hs : List Hd3}{gs : List Ser}
theorem MSt.below {w':World}(h:MSt w0 w2 w v hs gs) (hb:Below w.heap.size w w'):MSt w0 w2 w' v hs gs:=
 ⟨h.b0.trans (hb.mono h.b0.size),h.b2.trans (hb.mono h.b2.size),Kcv h.row hb.size fun k hk=>hb.block k (h.row.lt k hk).2,h.rows.below hb⟩
theorem MSt.low (h:MSt w0 w2 w v hs gs) (h02:w0.heap.size<=w2.heap.size) {w':World}{row:Option Nat}(hg:w.grownBy w' row) (hr:∀k,row=some k->w2.heap.size<=k):Below w0.heap.size w0 w'/\Below w2.heap.size w2 w':=
 ⟨h.b0.grown hg h.b0.size (fun k hk=>dh h02 (hr k hk)),h.b2.grown hg h.b2.size hr⟩
theorem MSt.more (h:MSt w0 w2 w v hs gs) (h02:w0.heap.size<=w2.heap.size) {w':World}{v':Value}{x:Hd3}{s:Ser}(hg:w.grownBy w' v.ownBlock) (hrow:w'.ownsRow w2.heap.size 58 3 v' (hs.length+1) (hs.flatMap encH3++encH3 x))
  (hm:MRow w2.heap.size w x s) (h1:(spM x).ownBlock=none) (h2:(wpM x).ownBlock=none):MSt w0 w2 w' v' (hs ++ [x]) (gs ++ [s]):=by
 have hr:∀k,v.ownBlock=some k->w2.heap.size<=k:=fun k hk=>(h.row.lt k hk).1
 obtain⟨b0,b2⟩:=h.low h02 hg hr;refine⟨b0,b2,?_,?_⟩
 .rw[dC,List.flatMap_singleton,dp];exact hrow
 .refine (h.rows.snoc hm h1 h2).frame hg fun r e=>?_
  obtain⟨aa,hc⟩:=Kax h.row e;exact⟨_,aa,hc,by decide,by decide,by decide⟩
theorem MSt.put (h:MSt w0 w2 w (.slice (some ⟨g,0,none⟩) n cV) hs gs) (h02:w0.heap.size<=w2.heap.size) {w4:World}{k:Nat}{x x':Hd3}{s':Ser}(hk:hs[k]? = some x)
  (hos:w4.os=w.os) (htp:w4.tape=w.tape) (hou:w4.output=w.output) (hz:w.heap.size<=w4.heap.size)
  (hg:∀j,j<w.heap.size->some j≠(spM x).ownBlock->some j≠(wpM x).ownBlock->w4.heap[j]? = w.heap[j]?) (hl:x'.l=x.l) (hlab:s'.labels=gs[k]!.labels)
  (hS:w4.ownsRow w2.heap.size 102 2 (spM x') s'.samples.length (s'.samples.flatMap Kac)) (hW:w4.ownsRow w2.heap.size 135 6 (wpM x') s'.windows.length (s'.windows.flatMap Kad))
  (hSb:(spM x').ownBlock=(spM x).ownBlock\/∃b,(spM x').ownBlock=some b/\w.heap.size<=b) (hWb:(wpM x').ownBlock=(wpM x).ownBlock\/∃b,(wpM x').ownBlock=some b/\w.heap.size<=b) :
  (x'.w=x.w->MSt w0 w2 (w4.setCell ⟨g,k*3+1,none⟩ (spM x')) (.slice (some ⟨g,0,none⟩) n cV) (hs.set k x') (gs.set k s'))/\
  (x'.s=x.s->MSt w0 w2 (w4.setCell ⟨g,k*3+2,none⟩ (wpM x')) (.slice (some ⟨g,0,none⟩) n cV) (hs.set k x') (gs.set k s'))/\
  MSt w0 w2 ((w4.setCell ⟨g,k*3+1,none⟩ (spM x')).setCell ⟨g,k*3+2,none⟩ (wpM x')) (.slice (some ⟨g,0,none⟩) n cV) (hs.set k x') (gs.set k s'):=by
 have a:=h.rows.at_ k x hk
 have hn:hs.length=n:=by
  rcases h.row.2 with ⟨e,_⟩ | ⟨g',cap,ag,e,_⟩
  .cases e
  .injection e with _ e2;exact e2.symm
 have an:w2.heap.size<=g/\g<w.heap.size:=h.row.lt g rfl;obtain⟨ag,am⟩:=Kax h.row (r:=g) rfl;have aj:Blk w g 58 ag:=am;have aq:some g≠(spM x).ownBlock:=Kak aj a.sm (by decide);have ar:some g≠(wpM x).ownBlock:=Kak aj a.wd (by decide);have ad:w4.heap[g]? = w.heap[g]?:=hg g an.2 aq ar;have ab:Blk w4 g 58 ag:=ad.trans aj
 have ac:w4.ownsRow w2.heap.size 58 3 (.slice (some ⟨g,0,none⟩) n cV) hs.length (hs.flatMap encH3):=Kcv h.row hz (fun j hj=>by
  have:j=g:=by (have e:(ek (some ⟨g,0,none⟩) n cV).ownBlock=some g:=rfl);rw[e]at hj;injection hj with hj;exact hj.symm
  rw[this];exact ad)
 have aa:w4.ownsRow w2.heap.size 58 3 (.slice (some ⟨g,0,none⟩) n cV) n (hs.flatMap encH3):=by rw[hn]at ac;exact ac
 have al:∀j,j<w2.heap.size->w4.heap[j]? = w.heap[j]?:=fun j hj=>hg j (by omega) (fun e=>by have:=(a.sm.lt j e.symm).1;omega) (fun e=>by have:=(a.wd.lt j e.symm).1;omega)
 have ao:Below w2.heap.size w w4:=⟨hos,htp,hou,hz,al⟩;have ae:Below w0.heap.size w0 w4:=h.b0.trans (ao.mono h02);have af:Below w2.heap.size w2 w4:=h.b2.trans ao;have ak:MRows w2.heap.size w4 (hs.set k x') (gs.set k s'):=h.rows.upd hk hz hg hl hlab hS hW hSb hWb
 have ah:∀{W:World} (o:Nat) (u:Value),Blk W g 58 ag\/(∃c,Blk W g 58 c)->MRows w2.heap.size W (hs.set k x') (gs.set k s')->MRows w2.heap.size (W.setCell ⟨g,o,none⟩ u) (hs.set k x') (gs.set k s'):=fun {W} o u hb m=>by
  refine m.frame (row:=some g) ⟨rfl,rfl,rfl,by simp[World.setCell],fun j _ hj=>Below.heap_setCell _ _ _ _ (fun e=>hj (by rw[e]))⟩ fun r e=>?_
  injection e with e;subst e;rcases hb with hb | ⟨c,hb⟩
  .exact ⟨_,_,hb,by decide,by decide,by decide⟩
  .exact ⟨_,_,hb,by decide,by decide,by decide⟩
 have ai:∀{W:World} (o:Nat) (u:Value),Below w0.heap.size w0 W->Below w2.heap.size w2 W->Below w0.heap.size w0 (W.setCell ⟨g,o,none⟩ u)/\Below w2.heap.size w2 (W.setCell ⟨g,o,none⟩ u):=fun {W} o u h1 h2=>
  ⟨h1.setCell (p:=⟨g,o,none⟩) (dh h02 an.1) u,h2.setCell (p:=⟨g,o,none⟩) an.1 u⟩
 have e1:∀{y:Hd3},y.l=x.l->y.w=x.w->(hs.set k y).flatMap encH3=(hs.flatMap encH3).set (k*3+1) (spM y):=fun {y} h1 h2=>Kem hs k 1 x y (spM y) hk (by decide) (by unfold encH3 spM;rw[h1,h2];rfl)
 have e2:∀{y:Hd3},y.l=x.l->y.s=x.s->(hs.set k y).flatMap encH3=(hs.flatMap encH3).set (k*3+2) (wpM y):=fun {y} h1 h2=>Kem hs k 2 x y (wpM y) hk (by decide) (by unfold encH3 wpM;rw[h1,h2];rfl)
 refine⟨fun hx=>?_,fun hx=>?_,?_⟩
 .obtain ⟨c1,c2⟩:=ai (k*3+1) (spM x') ae af;refine⟨c1,c2,?_,ah _ _ (.inl ab) ak⟩;rw[dH,e1 hl hx,hn];exact(ei aa _ _).1
 .obtain ⟨c1,c2⟩:=ai (k*3+2) (wpM x') ae af;refine⟨c1,c2,?_,ah _ _ (.inl ab) ak⟩;rw[dH,e2 hl hx,hn];exact(ei aa _ _).1
 .obtain ⟨c1,c2⟩:=ai (k*3+1) (spM x') ae af;obtain⟨d1,d2⟩:=ai (k*3+2) (wpM x') c1 c2;refine⟨d1,d2,?_,ah _ _ (.inr ⟨_,ab.set_ _ _⟩) (ah _ _ (.inl ab) ak)⟩;rw[dH]
  have ee:(hs.set k x').flatMap encH3=((hs.flatMap encH3).set (k*3+1) (spM x')).set (k*3+2) (wpM x'):=by have hy:=e1 (y:=⟨x.l,x'.s,x.w⟩) rfl rfl;have ap:k<hs.length:=(c6.1 hk).1;have:=Kem (hs.set k ⟨x.l,x'.s,x.w⟩) k 2 ⟨x.l,x'.s,x.w⟩ x' (wpM x') (by rw[di ap]) (by decide) (by unfold encH3 wpM;rw[hl];rfl);rw[List.set_set,hy]at this;exact this
  rw[ee,hn];exact(ei (ei aa _ _).1 _ _).1
end
end
section
open Go.Shelf Go.RowKit Go.Lib Go.Sort
attribute [local go_sem ↓] Go.wp_at_zero Go.wp_at_succ
attribute [local go_sem] Later.cell
section
structure MS (w0:World) where
 h:Hd3
 s:Ser
 a:SerAt w0 h s
 z:h.l.n<=1099511627776
instance msIn (w0:World):Inhabited (MS w0):=⟨⟨⟨⟨none,0,0⟩,⟨none,0,0⟩,⟨none,0,0⟩⟩,⟨[],[],[]⟩,⟨el,de _,el,de _,el,de _⟩,dL _⟩⟩
def encMS {w0:World}(x:MS w0):List Value:=encH3 x.h
theorem Kic {w0:World}(x:MS w0):(encMS x).length=3:=rfl
theorem Qdn {w0:World}:∀x:MS w0,∀v∈encMS x,v.oneCell'=true:=fun x=>Kqt x.h
def cfM {w0:World}(x y:MS w0):Int:=cmpL x.s.labels y.s.labels
theorem ltM {w0:World}(x y:MS w0):ltOf cfM x y=decide (cmpL x.s.labels y.s.labels<0):=rfl
theorem Qfz {a b c:List Lb}(h1:0<=cmpL a b) (h2:0<=cmpL b c):0<=cmpL a c:=by
 have a1:=Kdd a b;have a2:=Kdd b c;have a3:=Kdd a c;rcases (by omega:cmpL b a=0\/cmpL b a<0) with e1 | e1
 .have:=Kdf e1;subst this;exact h2
 .rcases (by omega:cmpL c b=0\/cmpL c b<0) with e2 | e2
  .have:=Kdf e2;subst this;exact h1
  .have:=Kde e2 e1;omega
theorem swoM {w0:World}:SWO (ltOf (cfM (w0:=w0))) where
 irrefl x:=by rw[ltM,Kcz];rfl
 trans x y z h1 h2:=by rw[ltM,jH]at h1 h2 |-;exact Kde h1 h2
 ntrans x y z h1 h2:=by rw[ltM,jK]at h1 h2 |-;have:=Qfz (a:=x.s.labels) (b:=y.s.labels) (c:=z.s.labels) (by omega) (by omega);omega
theorem Qbn {w0:World}(x y:MS w0) (W:World) (hW:Below w0.heap.size w0 W) :
  Calls prog 59 #[.agg (encMS x).toArray,.agg (encMS y).toArray] W fun e w'=>e = .returned (.int .i64 (cfM x y))/\Grown W w':=by
 have hc:∀W',Below w0.heap.size w0 W'->Calls prog 60 #[.slice x.h.l.A x.h.l.n x.h.l.c,.slice y.h.l.A y.h.l.n y.h.l.c] W' fun e w'=>e = .returned (.int .i64 (cfM x y))/\Grown W' w':=fun W' hb=>
  Kdy x.s.labels y.s.labels x.h.l.A y.h.l.A x.h.l.n y.h.l.n _ _ W' _ rfl ((x.a.l.below hb).more hb.size) ((y.a.l.below hb).more hb.size) (dh x.z (by decide)) (dh y.z (by decide))
 have HC:=ec hc;have HW:=ec hW;obtain⟨r,hr⟩:=jF (cfM x y);rw[hr]at HC |-;unfold encMS encH3;obtain⟨A1,ah⟩:=jG (ek x.h.s.A x.h.s.n x.h.s.c);obtain⟨A2,ag⟩:=jG (ek x.h.w.A x.h.w.n x.h.w.c);obtain⟨B1,ab⟩:=jG (ek y.h.s.A y.h.s.n y.h.s.c);obtain⟨B2,aj⟩:=jG (ek y.h.w.A y.h.w.n y.h.w.c);rw[<-ah,<-ag,<-ab,<-aj];obtain⟨xa,ai⟩:=jG x.h.l.A;obtain⟨xn,ac⟩:=jG x.h.l.n;obtain⟨xc,aa⟩:=jG x.h.l.c;obtain⟨ya,af⟩:=jG y.h.l.A;obtain⟨yn,ad⟩:=jG y.h.l.n;obtain⟨yc,ae⟩:=jG y.h.l.c;rw[<-ai,<-ac,<-aa,<-af,<-ad,<-ae]at HC |-;clear hr hc hW ah ag ab aj ai ac aa af ad ae;go_enter func59,ntmps59
 go_wp2_with fail
 refine(HC.out _ ?_).mono ?_
 .exact (HW.out.alloc HW.out.size _).alloc (dh HW.out.size (by simp)) _
 rintro _ w1 ⟨rfl,hg⟩;have HG:=ec hg;clear hg;go_wp2_with fail
 go_ret
 exact⟨rfl,(((Grown.refl _).alloc _).alloc _).trans HG.out⟩
theorem Kia (l:List Lb) (A:Option Addr) (n c:Nat) (w:World) (h:Elems w w.heap.size 2 encLb A n l) (hn:n<=1099511627776) :
  Calls prog 61 #[.slice A n c] w fun e w'=>(∃A' c',e = .returned (.slice A' n c')/\n<=c'/\(n=0\/w'.ownsRow w.heap.size 99 2 (.slice A' n c') n (l.flatMap encLb)))/\Below w.heap.size w w':=by
 rcases dr n with h0 | h0
 .subst h0
  cases A with
  | none=>
   refine(AnyE.slices_Clone_nil Tryz.laysCL 0 c w).mono ?_;rintro e w' ⟨rfl,rfl⟩;exact⟨⟨none,0,rfl,de _,.inl rfl⟩,Below.refl _ _⟩
  | some a=>
   have q81:∀(w:World) (a:Option Addr) (n c n' c':Nat),(binOp .eql 54 (.slice a n c) (.slice none n' c')).run prog w = .ok (.bool a.isNone) w:=fun w a n c n' c'=>Lib.run_eql_slice_nil w _ _ a n c n' c' underlying54
   clear h;go_enter func61,ntmps61
   go_wp2_with fail
   go_ret
   refine⟨?_,(Below.refl _ _).alloc (de _) _⟩
   first | exact⟨_,_,rfl,dL _,.inl rfl⟩ | exact⟨_,_,rfl⟩ | exact⟨_,_,rfl,trivial⟩ | exact⟨_,_,rfl,dL _,.inl trivial⟩
 .obtain ⟨b,ag,rfl,_,_⟩:=h.2 h0;obtain⟨i0,ae,ah,ac,ad⟩:=info_parts Knr;have hl:=h.len
  have ab:=AnyE.slices_Clone Tryz.laysCL i0 _ 2 32 ae ah ac ad rfl (by omega) sizeOf99 b ag n c (l.flatMap encLb) w (by rw[Kjn,hl]) (by unfold maxLen;omega) (by omega)
   (fun j u hu=>by
    have hj:=(c6.1 hu).1;rw[Kjn]at hj
    rw[Kgu h h0 j hj];exact hu)
   (fun u hu=>by
    obtain⟨x,_,hx⟩:=c8.1 hu
    exact Kib x u hx)
  refine ab.mono ?_;rintro e w' ⟨v',rfl,aa,af,hb⟩;rcases aa.2 with ⟨rfl,_⟩ | ⟨g,cap,cur,rfl,_,_,h3,h4⟩
  .exact jS rfl af
  .exact ⟨⟨_,cap,rfl,h3,.inr aa⟩,hb⟩
theorem Ktx {w0:World}(xs:List (MS w0)) (B n g cap:Nat) (w:World) (hb:Below w0.heap.size w0 w) (hB:w0.heap.size<=B) (h:w.ownsRow B 58 3 (.slice (some ⟨g,0,none⟩) n cap) n (xs.flatMap encMS)) (hl:xs.length=n) (hn:n<=1099511627776) :
  Calls prog 58 #[.slice (some ⟨g,0,none⟩) n cap,.func (.func 59) #[] #[]] w fun e w'=>e = .returned (.tuple #[])/\∃ys:List (MS w0),Stab (ltOf cfM) xs ys/\w'.ownsRow B 58 3 (.slice (some ⟨g,0,none⟩) n cap) n (ys.flatMap encMS)/\w.grownBy w' (some g):=by
 have ac:=h.lt g rfl;have R:RowK encMS 3 w g 0 xs.toArray:=⟨Kic,Qdn,Kfg Kic (by decide) h hl,ac.2⟩;have hN:xs.toArray.size=n:=by simpa using hl
 have eg:∀args w,(callFunc 59 args).run prog w = .ok (.enter 59 args) w:=enters_of func59 (by kernel_rfl) rfl
 have aa:CmpLays prog 59 #[] encMS 3 (cfM (w0:=w0)) g 0 xs.toArray.size w:=by intro m os dk hdk x y;have hS:SWK encMS 3 w g 0 dk (sortWorldK encMS 3 w g 0 m dk os):=⟨m,os,rfl⟩;have ad:Below w0.heap.size w0 (sortWorldK encMS 3 w g 0 m dk os):=hb.grown (SWK.by hS) hb.size (fun k hk=>by injection hk with hk;omega);refine(Qbn x y _ ad).mono ?_;rintro e w' ⟨he,⟨q,hq⟩⟩;exact⟨he,q.n,q.os,hq⟩
 refine dZ (Kms (cap:=cap) swoM eg aa R hN (by omega) xs w hl (SWK.start R.hH)) ?_;rintro e w' ⟨rfl,ys,ab,hS⟩;refine⟨rfl,ys,ab,?_,SWK.by hS⟩;obtain⟨m,os,rfl⟩:=hS;exact Kfj Kic (by decide) h hl ys.toArray (by simpa using ab.len.trans hl) m os
theorem Krd (cmp:Value) (w:World):Calls prog 58 #[.slice none 0 0,cmp] w fun e w'=>e = .returned (.tuple #[])/\w=w':=by
 have aa:∀W:World,Calls prog 177 #[.slice none 0 0,.int .i64 0,.int .i64 0,cmp] W fun e w'=>e = .returned (.tuple #[])/\W=w':=by
  intro W;go_enter func177,ntmps177
  go_wp2
  go_loopg [8] 0 (fun kx s8 wr=>s8 = .int .i64 1/\wr=W)
  case atStart=>exact⟨rfl,rfl⟩
  case round=>
   obtain⟨rfl,rfl⟩:=hrel;go_wp2_with fail
   go_end0
   exact⟨rfl,rfl⟩
 have ab:∀W:World,Calls prog 126 #[.slice none 0 0,.int .i64 0,cmp] W fun e w'=>e = .returned (.tuple #[])/\W=w':=by
  intro W;have HI:=ec aa;clear aa;go_enter func126,ntmps126
  go_wp2
  go_loopg [7,8] 0 (fun kx s7 s8 wr=>s7 = .int .i64 0/\s8 = .int .i64 20/\wr=W)
  case atStart=>exact⟨rfl,rfl,rfl⟩
  case round=>
   obtain⟨rfl,rfl,rfl⟩:=hrel;go_wp2_with fail
   refine(HI.out _).mono ?_;rintro _ w1 ⟨rfl,rfl⟩;go_wp2_with fail
   go_loopg [6] 0 (fun kx s6 wr2=>s6 = .int .i64 20/\wr2=wr)
   case atStart=>exact⟨rfl,rfl⟩
   case round=>
    obtain⟨rfl,rfl⟩:=hrel;go_wp2_with fail
    go_end0
    exact⟨rfl,rfl⟩
 have HS:=ec ab;clear aa ab;go_enter func58,ntmps58
 go_wp2_with fail
 refine(HS.out _).mono ?_;rintro _ w1 ⟨rfl,rfl⟩;go_wp2_with fail
 go_end0
 exact⟨rfl,rfl⟩
end
end
section
open Go.Shelf Go.RowKit Go.Lib Go.Sort
open Lib renaming hid -> Jh
attribute [local go_sem ↓] Go.wp_at_zero Go.wp_at_succ
attribute [local go_sem] Later.cell
section
def Khk:Go.Shelf.Ren:=⟨fun | 4=>125 | n=>n,fun | 0=>0 | 3=>3 | 4=>4 | 9=>9 | 20=>20 | 22=>26 | 25=>58 | n=>n,fun | n=>n⟩
theorem Kvv:Lays8.n4 prog Khk:={
 mixed:=by kernel_rfl
 f4:=⟨Tryz.f125.name,by decide,func125.trans (jR some (by kernel_rfl))⟩
 t0:=underlying0
 a0:=isAgg0
 z0:=sizeOf0
 v0:=zeroValue0
 t3:=underlying3
 a3:=isAgg3
 z3:=sizeOf3
 v3:=zeroValue3
 t4:=underlying4
 a4:=isAgg4
 z4:=sizeOf4
 v4:=zeroValue4
 t9:=underlying9
 a9:=isAgg9
 z9:=sizeOf9
 v9:=zeroValue9
 t20:=underlying20
 a20:=isAgg20
 z20:=sizeOf20
 v20:=zeroValue20
 t22:=underlying26
 a22:=isAgg26
 z22:=sizeOf26
 v22:=zeroValue26 }
theorem Kie:(prog.info? 58).map (fun i=>(i.zero,i.size,i.bytes))=some (some (.agg #[.slice none 0 0,.slice none 0 0,.slice none 0 0]),3,72):=by kernel_rfl
theorem Qay (n:Nat) (w:World) (hn:n<=1099511627776):Calls prog 125 #[.slice none 0 0,.int .i64 n] w fun e w'=>∃v,e = .returned v/\w'.ownsRow w.heap.size 58 3 v 0 []/\Below w.heap.size w w':=by
 rcases dr n with rfl | h0
 .refine (Any8.slices_Grow_room Kvv none 0 0 0 w (by omega) (by omega) (by omega) (by omega)).mono ?_;rintro e w' ⟨rfl,rfl⟩;exact⟨_,rfl,World.ownsRow_nil _ _ _ _,Below.refl _ _⟩
 .obtain ⟨ib,ae,af,hz1,ab⟩:=info_parts Kie;refine(Any8.slices_Grow_grow Kvv ib _ ae af (by omega) none 0 0 n [] w (by omega) (by omega) (by rw[ab];omega) (by omega) (by simp) (fun _=>rfl) (fun a h=>by cases h)).mono ?_;rintro e w' ⟨rfl,rfl⟩;have ac:=grownCap_ge w (0+n) 0 58;have ad:=grownCap_le_maxLen w (0+n) 0 58 (by unfold maxLen;omega);refine⟨_,rfl,⟨by simp,.inr ⟨w.heap.size,_,_,rfl,de _,heap_alloc_new w.drew _,dL _,ad,?_,by simp⟩⟩,(Below.refl _ _).drew.alloc (de _) _⟩;have aa:0+n<=grownCap w (0+n) 0 (Khk.t 25):=ac;simp only[Array.size_append,dd,da,ZW,Array.size_map,Array.size_range,Value.cells];show 0+(0+n - 0)*3+(grownCap w (0+n) 0 58 - (0+n))*3=_*3
  have:grownCap w (0+n) 0 (Khk.t 25)=grownCap w (0+n) 0 58:=rfl;rw[this]at aa |-;omega
def Kes (h:Hd):List Value:=[.slice h.A h.n h.c]
structure CatIn (w:World) (A:Option Addr) (n:Nat) (hs:List Hd) (Ks:List (List Hd3)):Prop where
 e:Elems w w.heap.size 1 Kes A n hs
 l:Ks.length=n
 k:∀(i:Nat) (h:Hd),hs[i]? = some h->Elems w w.heap.size 3 encH3 h.A h.n Ks[i]!
 c:∀h∈hs,h.n<=h.c
theorem CatIn.below {w w':World}{A:Option Addr}{n:Nat}{hs:List Hd}{Ks:List (List Hd3)}(h:CatIn w A n hs Ks) (hb:Below w.heap.size w w'):CatIn w' A n hs Ks:=
 ⟨(h.e.below hb).more hb.size,h.l,fun i x hi=>((h.k i x hi).below hb).more hb.size,h.c⟩
theorem CatIn.at_ {w:World}{A:Option Addr}{n:Nat}{hs:List Hd}{Ks:List (List Hd3)}(h:CatIn w A n hs Ks) {i:Nat}(hi:i<n):∃(b off:Nat) (x:Hd),A=some ⟨b,off,none⟩/\b<w.heap.size/\w.cell? ⟨b,off+i,none⟩=some (.slice x.A x.n x.c)/\Elems w w.heap.size 3 encH3 x.A x.n Ks[i]!/\x.n<=x.c:=by obtain⟨b,off,e,hb,hc⟩:=h.e.2 (by omega);have hl:=h.e.len;have hx:hs[i]? = some (hs[i]'(by omega)):=c7 _;have:=hc i _ hx 0 _ rfl;exact⟨b,off,_,e,hb,by simpa using this,h.k i _ hx,h.c _ (dF _)⟩
theorem Kyb (l:List Hd3):(l.flatMap encH3).length=l.length*3:=Kdg Kda l
theorem Kuy (A:Option Addr) (n c:Nat) (hs:List Hd) (Ks:List (List Hd3)) (F:List Hd3) (hF:Ks.flatten=F) (w:World) (h:CatIn w A n hs Ks) (hN:F.length<=274877906944) (hn:n<=140737488355328) :
  Calls prog 57 #[.slice A n c] w fun e w'=>∃v,e = .returned v/\w'.ownsRow w.heap.size 58 3 v F.length (F.flatMap encH3)/\Below w.heap.size w w':=by
 obtain⟨ib,aq,aG,aA,aB⟩:=info_parts Kie;have HK:=Jh h;rw[<-hF]at hN;have aE:=Jh hF;have HNN:=Jh hN;obtain⟨T,hT⟩:=jG Ks.flatten.length;have HT:=Jh hT;have hTN:T<=274877906944:=by omega
 have HG:=Jh (Qay T w (by omega))
 have av:∀i,i<n->(Ks.take (i+1)).flatten=(Ks.take i).flatten++Ks[i]!:=fun i hi=>by
  have hl:i<Ks.length:=by rw[h.l];exact hi
  rw[dP,c7 hl,jI Ks i hl,dM];simp
 have am:∀i,(Ks.take i).flatten.length<=T:=fun i=>by
  rw[hT]
  conv=>rhs;rw[<-dl i Ks]
  rw[dM,dp];omega
 have af:=Jh av;have aw:=Jh am;clear h hN hT av am hF;go_enter func57,ntmps57
 go_wp2
 go_loopg [3,11] n (fun kx s3 s11 wr=>∃(i m:Nat),s3 = .int .i64 (m:Int)/\s11 = .int .i64 (i:Int)/\i+kx=n/\m<=T/\Hid (m=(Ks.take i).flatten.length)/\w=wr)
 case atStart=>exact⟨0,0,rfl,rfl,by omega,by omega,(by simp:0=(Ks.take 0).flatten.length),rfl⟩
 case round=>
  obtain⟨i,m,rfl,rfl,hi,hm,HM,rfl⟩:=hrel;rcases dj i n with hlt | hge
  .have ai:(i:Int)<(n:Int):=by omega
   obtain⟨b,aH,x,e,hb,c0,hx,aj⟩:=HK.out.at_ hlt;have ab:=hx.len
   have ad:m+x.n<=T:=by have h1:=aw.out (i+1);rw[af.out i hlt,dp,<-HM.out,ab]at h1;exact h1
   have ax:Hid (m+x.n=(Ks.take (i+1)).flatten.length):=by
    show _=_
    rw[af.out i hlt,dp,<-HM.out,ab]
   subst e;obtain⟨A1,n1,c1⟩:=x;dsimp only at c0 ad ax;have aC:¬(m:Int)+(n1:Int)<0:=by omega
   clear hx ab aj HM;go_wp2_with fail
   go_roundg (n - (i+1))
   case measure=>omega
   case rel=>exact⟨i+1,m+n1,by first | rfl | go_num,by first | rfl | go_num,by omega,ad,ax,rfl⟩
  .have ai:¬(i:Int)<(n:Int):=by omega
   have az:m=T:=by rw[HM.out,HT.out,dA (by rw[HK.out.l];exact hge)]
   subst az;clear HM hm;go_wp2_with fail
   refine HG.out.mono ?_;rintro e1 w1 ⟨v1,rfl,h1,h2⟩
   have al:Hid (w1.ownsRow w.heap.size 58 3 v1 (Ks.take 0).flatten.length ((Ks.take 0).flatten.flatMap encH3)):=by
    show w1.ownsRow _ _ _ _ _ _
    rw[dv];exact h1
   have ao:=Jh h2;clear h1 h2;go_wp2_with fail
   go_loopg [6,27] n (fun kx s6 s27 wq=>∃(i:Nat),s27 = .int .i64 (i:Int)/\i+kx=n/\Hid (wq.ownsRow w.heap.size 58 3 s6 (Ks.take i).flatten.length ((Ks.take i).flatten.flatMap encH3))/\Hid (Below w.heap.size w wq))
   case atStart=>exact⟨0,rfl,by omega,al,ao⟩
   case round=>
    clear al ao;obtain⟨i,rfl,hi,HR,HB⟩:=hrel;rcases dj i n with hlt | hge
    .have ai:(i:Int)<(n:Int):=by omega
     obtain⟨A0,cV,hv⟩:=Kah HR.out;subst hv;obtain⟨b,aH,x,e,hb,c0,hx,aj⟩:=(HK.out.below HB.out).at_ hlt;have ab:=hx.len
     have ad:(Ks.take i).flatten.length+x.n<=m:=by have h1:=aw.out (i+1);rw[af.out i hlt,dp,ab]at h1;exact h1
     subst e;have ap:w.heap.size<=wr.heap.size:=HB.out.size;have ag:wr.ownsRow w.heap.size 58 3 (.slice A0 (Ks.take i).flatten.length cV) (Ks.take i).flatten.length ((Ks.take i).flatten.flatMap encH3):=HR.out;have ac:=af.out i hlt;obtain⟨K1,ar⟩:=jG (Ks[i]!);rw[<-ar]at ac hx ab;have an:=Jh ac;clear ac ar;obtain⟨p,hp⟩:=jF ((Ks.take i).flatten.length);rw[hp]at ag ad |-;have HP:=Jh hp;obtain⟨A1,n1,c1⟩:=x;dsimp only at c0 ad ab aj hx;have HX:Hid (Elems wr wr.heap.size 3 encH3 A1 n1 K1):=hx;have ae:Hid (K1.length=n1):=ab;have aa:=Jh ag;clear hx ab HR hp ag
     cases A1 with
     | none=>
      have ak:K1 = []:=by
       rcases dr n1 with h0 | h0
       .exact df (by rw[ae.out,h0])
       .obtain ⟨b',aD,e,_⟩:=HX.out.2 h0;cases e
      have aF:n1=0:=by rw[<-ae.out,ak];rfl
      subst aF
      have ah:Hid (wr.ownsRow w.heap.size 58 3 (.slice A0 p cV) (Ks.take (i+1)).flatten.length ((Ks.take (i+1)).flatten.flatMap encH3)):=by
       show wr.ownsRow _ _ _ _ _ _
       rw[an.out,ak,dn,HP.out];exact aa.out
      clear ak;go_wp2_with (at_builtin;refine Kkk rfl _ _ 26 rfl w.heap.size 58 ib 3 underlying26 aq (.slice A0 p cV) _ c1 _ rfl aa.out rfl ?_)
      go_wp2_with fail
      go_roundg (n - (i+1))
      case measure=>omega
      case rel=>exact⟨i+1,by first | rfl | go_num,by omega,ah,HB⟩
     | some a1=>
      go_wp2_with (at_builtin;refine wpList_append_own_at _ rfl _ _ 26 rfl w.heap.size 58 ib (.agg #[.slice none 0 0,.slice none 0 0,.slice none 0 0]) 3 72 underlying26 aq aG aA aB rfl (by decide) (.slice A0 p cV) p _ rfl aa.out a1 n1 c1 (K1.flatMap encH3) rfl ?c0 ?c1 ?c2 ?c3 ?c4 ?c5 ?_)
      case c3=>unfold maxLen;omega
      case c4=>omega
      case c0=>rw[Kyb,ae.out]
      case c1=>exact Elems.cellsM (fun x _=>Kda x) HX.out
      case c2=>
       intro u hu;obtain⟨x,_,hx⟩:=c8.1 hu;exact Kqt x u hx
      .exact ap
      intro v' w4 hown' hgrow _ _
      have ah:Hid (w4.ownsRow w.heap.size 58 3 v' (Ks.take (i+1)).flatten.length ((Ks.take (i+1)).flatten.flatMap encH3)):=by
       show w4.ownsRow _ _ _ _ _ _
       rw[an.out,dp,HP.out,ae.out,dC];exact hown'
      have ay:Hid (Below w.heap.size w w4):=HB.out.grown hgrow ap (fun k hk=>(aa.out.lt k hk).1);clear hown' hgrow;go_wp2_with fail
      go_roundg (n - (i+1))
      case measure=>omega
      case rel=>exact⟨i+1,by first | rfl | go_num,by omega,ah,ay⟩
    .have ai:¬(i:Int)<(n:Int):=by omega
     have HF:Hid (wr.ownsRow w.heap.size 58 3 u6 F.length (F.flatMap encH3)):=by have h:=HR.out;rw[dA (by rw[HK.out.l];exact hge),aE.out]at h;exact h
     clear HR;go_wp2_with fail
     go_ret
     exact⟨_,rfl,HF.out,HB.out⟩
end
end
section
open Go.RowKit
section
variable {P : Program}{ops : Array Oper}{Q : Exit -> Act -> World -> Prop}{md : Region.Mode}{S : World -> Prop}{k : Nat}
theorem Kel {i:Nat}{o:Oper}{f:Nat}{L:Array Bool}{a:Act}{w:World}(hr0:(Region.ready md ops L == [i])=true) (ho:ops[i]? = some o) (hw:Region.wanted o (yielded ops a.tmps)=true)
  (h:OpW o P a w (fun a' w'=>((L.setIfInBounds i true).getD k false=false->S w')/\Kce P md ops Q S k f (L.setIfInBounds i true) a' w') Q):Kce P md ops Q S k (f+1) L a w:=by
 have hr:Region.ready md ops L = [i]:=eq_of_beq hr0;refine⟨fun h0=>jS (hr.symm.trans h0) (by simp),fun j hj=>?_⟩;rw[hr]at hj;obtain rfl:j=i:=by simpa using hj
 unfold wpOp;simp only[ho];rw[jN hw];exact .inl h.out
end
theorem Kmy {P:Program}{o:Oper}{a:Act}{w w':World}{v' sv xv:Value}(s x:Operand) (t:TypeId) (ho:o.op = .call { callee:=.builtin .append,args:=#[s,x],argTypes:=#[t,t] }) (hs:a.eval s=sv) (hx:a.eval x=xv)
  (hr:(ZZ #[t,t] o.type #[sv,xv]).run P w = .ok v' w'):(execOp a.eval o).run P w = .ok (.value v') w':=by
 unfold execOp;simp only[ho,resolve,invoke,builtin,Sem.run_bind,Sem.run_pure,Result.andThen_ok,List.map_toArray,List.map_cons,List.map_nil,hs,hx,hr]
theorem Kjd {P:Program}{α : Type}{enc:α->List Value}{w:World}(base:Nat) (t ty e:TypeId) (i:TypeInfo) (z:Value) (size bytes:Nat) (ht:P.underlying t=some (.slice e)) (hi:P.info? e=some i) (hz:i.zero=some z)
  (hsize:i.size=size) (hby:i.bytes=bytes) (hzs:z.cells.size=size) (hsz:0<size) (hk:∀x,(enc x).length=size) (h1:∀x,∀u∈enc x,u.oneCell'=true)
  (v:Value) (xs:List α) (hown:w.ownsRow base e size v xs.length (xs.flatMap enc)) (A:Option Addr) (n c:Nat) (l:List α) (hE:Elems w w.heap.size size enc A n l)
  (h63:xs.length+n<=maxLen) (hbytes:(xs.length+n)*bytes<=140737488355328) (hbase:base<=w.heap.size) :
  ∃v' w',(ZZ #[t,t] ty #[v,.slice A n c]).run P w = .ok v' w'/\w'.ownsRow base e size v' (xs++l).length ((xs++l).flatMap enc)/\w.grownBy w' v.ownBlock/\(v'.ownBlock=v.ownBlock\/∃b,v'.ownBlock=some b/\w.heap.size<=b):=by
 have hl:=hE.len
 cases A with
 | none=>
  have hn:n=0:=by
   rcases dr n with h | h
   .exact h
   .obtain ⟨b,off,e,_⟩:=hE.2 h;cases e
  subst hn;have aa:l = []:=df hl;subst aa;exact⟨v,w,Khs base t ty e i size ht hi v xs.length c _ hown,by simpa using hown,⟨rfl,rfl,rfl,de _,fun _ _ _=>rfl⟩,.inl rfl⟩
 | some a=>
  obtain⟨v',w',h2,h3,h4,_,h6⟩:=run_append_own_at (P:=P) w base t ty e i z size bytes ht hi hz hsize hby hzs hsz v xs.length _ hown a n c (l.flatMap enc) (by rw[Kdg hk,hl]) (Elems.cellsM (fun x _=>hk x) hE) (fun u hu=>by
   obtain⟨x,_,hx⟩:=c8.1 hu
   exact h1 x u hx) h63 hbytes hbase
  refine⟨v',w',h2,?_,h4,h6.imp id fun e=>⟨_,e,de _⟩⟩;rw[dp,hl,dC];exact h3
end
section
open Go.Shelf Go.RowKit Go.Lib Go.Sort
open Lib renaming hid -> Jh
open List renaming length_append -> Jd
attribute [local go_sem ↓] Go.wp_at_zero Go.wp_at_succ
attribute [local go_sem] Later.cell
section
def goodH (h:Hd3):Bool:=decide (0<h.s.n+h.w.n)
def szH (h:Hd3):Prop:=h.s.n<=140737488351232/\h.w.n<=140737488351232
theorem Kpy (h:Hd3) (hz:szH h) (w:World):Calls prog 68 #[.agg (encH3 h).toArray] w fun e w'=>e = .returned (.bool (goodH h))/\Grown w w':=by
 obtain⟨⟨A1,n1,c1⟩,⟨A2,n2,c2⟩,⟨A3,n3,c3⟩⟩:=h;obtain⟨z1,z2⟩:=hz;obtain⟨r,hr⟩:=jF (goodH ⟨⟨A1,n1,c1⟩,⟨A2,n2,c2⟩,⟨A3,n3,c3⟩⟩);rw[hr];unfold encH3;dsimp only at z1 z2 |-;have aa:decide (0<n2+n3)=r:=hr;have ab:decide ((0:Int)<(n2:Int)+(n3:Int))=r:=by rw[<-aa,decide_eq_decide];omega
 go_enter func68,ntmps68
 go_wp2_with fail
 go_ret
 exact⟨by first | rfl | (congr 2;first | exact ab | exact aa),(Grown.refl _).alloc _⟩
theorem Kkh (h:Hd3) (hz:szH h) (w:World):Calls prog 67 #[.agg (encH3 h).toArray] w fun e w'=>e = .returned (.bool (!goodH h))/\Grown w w':=by
 have HS:=Jh (fun w=>Kpy h hz w);obtain⟨r,hr⟩:=jF (goodH h);rw[hr]at HS |-;obtain⟨⟨A1,n1,c1⟩,⟨A2,n2,c2⟩,⟨A3,n3,c3⟩⟩:=h;unfold encH3 at HS |-;dsimp only at HS |-;clear hr hz;go_enter func67,ntmps67
 go_wp2_with fail
 refine(HS.out _).mono ?_;rintro _ w1 ⟨rfl,hg⟩;have HG:=Jh hg;clear hg;go_wp2_with fail
 go_ret
 exact⟨by cases r <;> rfl,((Grown.refl _).alloc _).trans HG.out⟩
theorem Kjz {w0 W:World}{blk off:Nat}{dk d0:Array Hd3}(h:SWK encH3 3 w0 blk off dk W) (R:RowK encH3 3 w0 blk off d0) (hs:dk.size=d0.size) (i:Nat) (hi:i<dk.size) :
  (W.cell? ⟨blk,off+i*3,none⟩=some (.slice dk[i]!.l.A dk[i]!.l.n dk[i]!.l.c)/\W.cell? ⟨blk,off+i*3+1,none⟩=some (.slice dk[i]!.s.A dk[i]!.s.n dk[i]!.s.c)/\W.cell? ⟨blk,off+i*3+2,none⟩=some (.slice dk[i]!.w.A dk[i]!.w.n dk[i]!.w.c))/\
  (W.frozen? ⟨blk,off+i*3,none⟩=false/\W.frozen? ⟨blk,off+i*3+1,none⟩=false/\W.frozen? ⟨blk,off+i*3+2,none⟩=false)/\blk<W.heap.size:=by
 have hH:=h.holds R.hblk R.hH hs
 have g:∀j,j<3->W.cell? ⟨blk,off+(i*3+j),none⟩=some ((encH3 dk[i]!)[j]!)/\W.frozen? ⟨blk,off+(i*3+j),none⟩=false:=fun j hj=>by
  have aa:i*3+j<dk.size*3:=by omega
  have:=hH (i*3+j) (by rw[size_flatK];exact aa);rw[get_flatK _ _ _ _ aa,show(i*3+j) / 3=i by omega,show(i*3+j) % 3=j by omega]at this;exact this
 exact⟨⟨(g 0 (by decide)).1,(g 1 (by decide)).1,(g 2 (by decide)).1⟩,⟨(g 0 (by decide)).2,(g 1 (by decide)).2,(g 2 (by decide)).2⟩,h.lt R.hblk⟩
section
variable {d0 : Array Hd3}{w0 : World}{blk off cap N : Nat}
theorem Kqu (R:RowK encH3 3 w0 blk off d0) (hN:d0.size=N) (hsz:N<1152921504606846976) (xs:List Hd3) (hx:∀h∈xs,szH h) (w:World) (hl:xs.length=N) (S0:SWK encH3 3 w0 blk off xs.toArray w) :
  Calls prog 141 #[.slice (some ⟨blk,off,none⟩) N cap,.func (.func 67) #[] #[]] w fun e w'=>(∃k:Nat,k<=N/\e = .returned (.int .i64 (if k<N then (k:Int) else -1))/\(∀a∈xs.take k,goodH a=true)/\(k<N->goodH xs[k]! = false))/\SWK encH3 3 w0 blk off xs.toArray w':=by
 have S1:Aside (SWK encH3 3 w0 blk off xs.toArray w):=S0;have HQ:=Jh (And.intro hN hl);have HX:=Jh hx;have HC:=Jh (fun (h:Hd3) (hz:szH h) (W:World)=>Kkh h hz W);have ab:xs.toArray.size=N:=by simpa using hl
 clear S0 hN hl hx;go_enter func141,ntmps141
 go_wp2
 go_loopg [8] N (fun kx s8 wr=>∃k:Nat,s8 = .int .i64 k/\k+kx=N/\Hid (∀a∈xs.take k,goodH a=true)/\Aside (SWK encH3 3 w0 blk off xs.toArray wr))
 case atStart=>exact⟨0,rfl,by omega,(by rw[dv];exact fun _ h=>jS h List.not_mem_nil),S1⟩
 case round=>
  clear S1;obtain⟨k,rfl,hk,HA,S1⟩:=hrel;rcases dj k N with hlt | hge
  .have ah:(k:Int)<(N:Int):=by omega
   obtain⟨⟨c0,c1,c2⟩,_,ag⟩:=Kjz S1.out R (by rw[ab,HQ.out.1]) k (by rw[ab];exact hlt);have af:xs.toArray[k]! = xs[k]!:=by simp
   rw[af]at c0 c1 c2;have ac:xs[k]!∈xs:=by rw[jI xs k (by have:=HQ.out.2;omega)];exact dF _
   have aa:=HC.out xs[k]! (HX.out _ ac);obtain⟨x,hx⟩:∃x,xs[k]! = x:=⟨_,rfl⟩;rw[hx]at c0 c1 c2 aa;have ad:=Jh hx;obtain⟨r,hr⟩:=jF (goodH x);rw[hr]at aa;have ae:=Jh hr;clear hx af ac hr;obtain⟨⟨A1,n1,k1⟩,⟨A2,n2,k2⟩,⟨A3,n3,k3⟩⟩:=x;unfold encH3 at aa;dsimp only at c0 c1 c2 aa;have aj:=Jh aa;clear aa;go_wp2_with fail
   refine(aj.out _).mono ?_;rintro _ w1 ⟨rfl,hg⟩;have S2:Aside (SWK encH3 3 w0 blk off xs.toArray w1):=SWK.of_grown S1.out hg;clear hg S1 c0 c1 c2 ag
   cases r with
   | true=>
    have ai:Hid (∀a∈xs.take (k+1),goodH a=true):=by
     intro a ha;rw[dP,c7 (by have:=HQ.out.2;omega)]at ha;rcases List.mem_append.1 ha with ha | ha
     .exact HA.out a ha
     .have h1:=ae.out;rw[<-ad.out,jI xs k (by have:=HQ.out.2;omega)]at h1;have h2:a=xs[k]'(by have:=HQ.out.2;omega):=by simpa using ha
      rw[h2];exact h1
    clear HA ad ae;go_wp2_with fail
    go_roundg (N - (k+1))
    case measure=>omega
    case rel=>exact⟨k+1,by first | rfl | go_num,by omega,ai,S2⟩
   | false=>
    go_wp2_with fail
    go_ret
    exact⟨⟨k,by omega,by rw[jN hlt];rfl,HA.out,fun _=>by rw[ad.out];exact ae.out⟩,S2.out⟩
  .have ah:¬(k:Int)<(N:Int):=by omega
   have hkN:k=N:=by omega
   go_wp2_with fail
   go_ret
   exact⟨⟨k,by omega,by rw[jM (by omega)];rfl,HA.out,fun h=>jS h (by omega)⟩,S1.out⟩
theorem Kuz (R:RowK encH3 3 w0 blk off d0) (hN:d0.size=N) (hsz:N<1152921504606846976) (xs:List Hd3) (hx:∀h∈xs,szH h) (w:World) (hl:xs.length=N) (hcN:N<=cap)
  (S0:SWK encH3 3 w0 blk off xs.toArray w) :
  Calls prog 66 #[.slice (some ⟨blk,off,none⟩) N cap,.func (.func 67) #[] #[]] w fun e w'=>e = .returned (.slice (some ⟨blk,off,none⟩) (xs.filter goodH).length cap)/\∃zs:List Hd3,zs.length=N/\zs.take (xs.filter goodH).length=xs.filter goodH/\SWK encH3 3 w0 blk off zs.toArray w':=by
 have HI:=Jh (Kqu (cap:=cap) R hN hsz xs hx w hl S0);have HQ:=Jh (And.intro hN hl);have HX:=Jh hx;have HC:=Jh (fun (h:Hd3) (hz:szH h) (W:World)=>Kkh h hz W);have aB:=fun (W:World) (dk:Array Hd3) (i:Nat) (a:dk.size=N) (b:SWK encH3 3 w0 blk off dk W) (c:i<=N)=>Kmb (P:=prog) underlying26 (⟨⟨none,0,0⟩,⟨none,0,0⟩,⟨none,0,0⟩⟩:Hd3) (fun w=>zeroValue58 w) (by decide) R hN W dk i (cap - i) a b c
 have aI:Aside _:=aB;clear S0 hN hl hx aB;go_enter func66,ntmps66
 go_wp2_with fail
 refine HI.out.mono ?_;rintro _ w1 ⟨⟨k,hk,rfl,ac,af⟩,S0⟩;have S1:Aside (SWK encH3 3 w0 blk off xs.toArray w1):=S0;clear S0;rcases dj k N with hkn | hkn
 .rw[jN hkn];have ax:¬(k:Int) = -1:=by omega
  have hk2:((k:Int) == -1)=false:=jO.2 ax;have hk3:decide ((k:Int) = -1)=false:=jJ ax
  have aK:∃(y:Hd3) (R0:List Hd3),xs=xs.take k++y :: R0/\goodH y=false:=by
   have az:k<xs.length:=by have:=HQ.out.2;omega
   refine⟨xs[k],xs.drop (k+1),?_,?_⟩
   .conv=>lhs;rw[<-dl k xs,dE az]
   .have:=af hkn;rwa[jI xs k az]at this
  obtain⟨y,R0,ai,hy⟩:=aK
  have aj:xs.filter goodH=xs.take k++R0.filter goodH:=by
   conv=>lhs;rw[ai]
   rw[List.filter_append,ds.2 (fun a ha=>ac a ha),dR,jM (by rw[hy];exact dG)]
  have av:(xs.take k).length=k:=by rw[dw];have:=HQ.out.2;omega
  have HL:Hid ((xs.take k).length=k/\k+1=(xs.take k).length + [y].length/\(xs.take k).length + [y].length+R0.length=N/\xs.filter goodH=xs.take k++R0.filter goodH/\∀h∈R0,szH h):=by refine⟨av,by rw[av];rfl,?_,aj,fun h hh=>HX.out h (by rw[ai];simp[hh])⟩;have:=jR dU ai;have hq:=HQ.out.2;simp only[Jd,db,da]at this |-;omega
  have S2:Aside (SWK encH3 3 w0 blk off (xs.take k++([y]++R0)).toArray w1):=by
   show SWK _ _ _ _ _ _ _
   rw[show xs.take k++([y]++R0)=xs by rw[dI];exact ai.symm];exact S1.out
  generalize xs.take k=K0 at HL S2;clear ac af ai hy aj av S1;have hkc:k<cap:=by omega
  go_wp2_with fail
  go_loopg [5,6,7] N (fun gg s5 s6 _ wr=>∃(i j:Nat) (K1 M R1:List Hd3),s5 = .int .i64 (i:Int)/\s6 = .int .i64 (j:Int)/\i<j/\j<=N/\N<=j+gg/\Hid (K1.length=i/\j=K1.length+M.length/\K1.length+M.length+R1.length=N/\xs.filter goodH=K1++R1.filter goodH/\∀h∈R1,szH h)/\Aside (SWK encH3 3 w0 blk off (K1++(M++R1)).toArray wr))
  case atStart=>exact⟨k,k+1,K0,[y],R0,rfl,by first | rfl | go_num,by omega,by omega,by omega,HL,S2⟩
  case round=>
   clear HL S2;obtain⟨i,j,K1,M,R1,rfl,rfl,hij,hjN,hjg,HB,S1⟩:=hrel;rcases dj j N with hj | hj
   .have hj2:(j:Int)<(N:Int):=by omega
    obtain⟨b1,b2,b3,b4,b5⟩:=HB.out
    have aM:∃x R2,R1=x :: R2:=by
     cases R1 with
     | nil=>simp only[da]at b3;omega
     | cons x R2=>exact⟨x,R2,rfl⟩
    obtain⟨x,R2,rfl⟩:=aM;have aa:(K1++(M++x :: R2)).toArray.size=N:=by simp only[dd,Jd];omega
    obtain⟨⟨c0,c1,c2⟩,_,aH⟩:=Kjz S1.out R (by rw[aa,HQ.out.1]) j (by rw[aa];exact hj);have aD:(K1++(M++x :: R2)).toArray[j]! = x:=by rw[<-dc];exact Kct (by rw[Jd];exact b2)
    rw[aD]at c0 c1 c2;have aA:=b5 x (dO ..);have ak:=HC.out x aA;obtain⟨r,hr⟩:=jF (goodH x);rw[hr]at ak;simp only[db]at b3;have ad:Hid (K1.length=i/\j=K1.length+M.length/\K1.length+M.length+(R2.length+1)=N/\xs.filter goodH=K1++(if r=true then x :: R2.filter goodH else R2.filter goodH)/\∀h∈R2,szH h):=⟨b1,b2,b3,by rw[b4,dR,hr],fun h hh=>b5 h (dK _ hh)⟩;clear HB b1 b2 b3 b4 b5 aD hr aA;obtain⟨xx,aC⟩:=jG x;have HXX:=Jh aC;clear aC;obtain⟨⟨A1,n1,k1⟩,⟨A2,n2,k2⟩,⟨A3,n3,k3⟩⟩:=x;unfold encH3 at ak;dsimp only at c0 c1 c2 ak;have aN:=Jh ak;clear ak;obtain⟨wo,aE⟩:=jG wr;subst aE;go_upto_region 8 with fail
    obtain⟨w2,al⟩:=jF (wo.alloc (.cells #[.slice A1 n1 k1,.slice A2 n2 k2,.slice A3 n3 k3] 58));have ag:Blk w2 wo.heap.size 58 #[.slice A1 n1 k1,.slice A2 n2 k2,.slice A3 n3 k3]:=by rw[<-al];exact Blk.new _ _ _
    have S2:Aside (SWK encH3 3 w0 blk off (K1++(M++(⟨⟨A1,n1,k1⟩,⟨A2,n2,k2⟩,⟨A3,n3,k3⟩⟩:Hd3) :: R2)).toArray w2):=by rw[<-al];exact S1.out.alloc _
    have ap:blk<wo.heap.size:=S1.out.lt R.hblk;have ay:=S1.out.le;obtain⟨qb,aw⟩:=jF wo.heap.size;rw[aw]at ag ap ay;rw[al,aw];have aq:=Jh ag;have HNE:=Jh ap;have ao:=ag.cell 0;have an:=ag.cell 1;have am:=ag.cell 2;simp at ao an am;clear al ag aw c0 c1 c2 aH S1 ap ay;go_wp2_with fail
    refine(aN.out _).mono ?_;rintro _ w3 ⟨rfl,ar⟩;have ab:=aq.out.below ar.below aq.out.lt;have S3:Aside (SWK encH3 3 w0 blk off (K1++(M++(⟨⟨A1,n1,k1⟩,⟨A2,n2,k2⟩,⟨A3,n3,k3⟩⟩:Hd3) :: R2)).toArray w3):=SWK.of_grown S2.out ar;clear ao an am ar S2 aq
    cases r with
    | false=>
     have ah:Hid (K1.length=i/\j+1=K1.length+(M ++ [(⟨⟨A1,n1,k1⟩,⟨A2,n2,k2⟩,⟨A3,n3,k3⟩⟩:Hd3)]).length/\K1.length+(M ++ [(⟨⟨A1,n1,k1⟩,⟨A2,n2,k2⟩,⟨A3,n3,k3⟩⟩:Hd3)]).length+R2.length=N/\xs.filter goodH=K1++R2.filter goodH/\∀h∈R2,szH h):=by obtain⟨b1,b2,b3,b4,b5⟩:=ad.out;exact⟨b1,by simp only[Jd,db,da];omega,by simp only[Jd,db,da];omega,by rw[b4];rfl,b5⟩
     have S4:Aside (SWK encH3 3 w0 blk off (K1++((M ++ [(⟨⟨A1,n1,k1⟩,⟨A2,n2,k2⟩,⟨A3,n3,k3⟩⟩:Hd3)])++R2)).toArray w3):=by
      show SWK _ _ _ _ _ _ _
      rw[dc,dI];exact S3.out
     clear S3 ad ab;generalize M ++ [(⟨⟨A1,n1,k1⟩,⟨A2,n2,k2⟩,⟨A3,n3,k3⟩⟩:Hd3)]=M2 at ah S4;go_wp2_with fail
     go_roundg (N - (j+1))
     case measure=>omega
     case rel=>exact⟨i,j+1,K1,M2,R2,rfl,by first | rfl | go_num,by omega,by omega,by omega,ah,S4⟩
    | true=>
     have aJ:∃m M2,M=m :: M2:=by
      obtain⟨b1,b2,b3,b4,b5⟩:=ad.out
      cases M with
      | nil=>simp only[da]at b2;omega
      | cons m M2=>exact⟨m,M2,rfl⟩
     obtain⟨m,M2,rfl⟩:=aJ
     have aa:(K1++(m :: M2++(⟨⟨A1,n1,k1⟩,⟨A2,n2,k2⟩,⟨A3,n3,k3⟩⟩:Hd3) :: R2)).toArray.size=N:=by obtain⟨b1,b2,b3,b4,b5⟩:=ad.out;simp only[dd,Jd,db]at b2 b3 |-;omega
     obtain⟨⟨e0,e1,e2⟩,⟨f0,f1,f2⟩,aF⟩:=Kjz S3.out R (by rw[aa,HQ.out.1]) i (by rw[aa];omega)
     have ah:Hid ((K1 ++ [(⟨⟨A1,n1,k1⟩,⟨A2,n2,k2⟩,⟨A3,n3,k3⟩⟩:Hd3)]).length=i+1/\j+1=(K1 ++ [(⟨⟨A1,n1,k1⟩,⟨A2,n2,k2⟩,⟨A3,n3,k3⟩⟩:Hd3)]).length+(M2 ++ [(⟨⟨A1,n1,k1⟩,⟨A2,n2,k2⟩,⟨A3,n3,k3⟩⟩:Hd3)]).length/\(K1 ++ [(⟨⟨A1,n1,k1⟩,⟨A2,n2,k2⟩,⟨A3,n3,k3⟩⟩:Hd3)]).length+(M2 ++ [(⟨⟨A1,n1,k1⟩,⟨A2,n2,k2⟩,⟨A3,n3,k3⟩⟩:Hd3)]).length+R2.length=N/\xs.filter goodH=(K1 ++ [(⟨⟨A1,n1,k1⟩,⟨A2,n2,k2⟩,⟨A3,n3,k3⟩⟩:Hd3)])++R2.filter goodH/\∀h∈R2,szH h):=by
      obtain⟨b1,b2,b3,b4,b5⟩:=ad.out;simp only[db]at b2 b3;refine⟨?_,?_,?_,?_,b5⟩
      .simp only[Jd,db,da];omega
      .simp only[Jd,db,da];omega
      .simp only[Jd,db,da];omega
      .rw[b4];simp
     have ae:=SWK.put S3.out R i (by rw[aa];omega) (⟨⟨A1,n1,k1⟩,⟨A2,n2,k2⟩,⟨A3,n3,k3⟩⟩:Hd3)
     rw[show(K1++(m :: M2++(⟨⟨A1,n1,k1⟩,⟨A2,n2,k2⟩,⟨A3,n3,k3⟩⟩:Hd3) :: R2)).toArray.setIfInBounds i (⟨⟨A1,n1,k1⟩,⟨A2,n2,k2⟩,⟨A3,n3,k3⟩⟩:Hd3)=((K1 ++ [(⟨⟨A1,n1,k1⟩,⟨A2,n2,k2⟩,⟨A3,n3,k3⟩⟩:Hd3)])++((M2 ++ [(⟨⟨A1,n1,k1⟩,⟨A2,n2,k2⟩,⟨A3,n3,k3⟩⟩:Hd3)])++R2)).toArray by rw[dQ,Klv ad.out.1.symm];simp]at ae
     have S4:Aside (SWK encH3 3 w0 blk off ((K1 ++ [(⟨⟨A1,n1,k1⟩,⟨A2,n2,k2⟩,⟨A3,n3,k3⟩⟩:Hd3)])++((M2 ++ [(⟨⟨A1,n1,k1⟩,⟨A2,n2,k2⟩,⟨A3,n3,k3⟩⟩:Hd3)])++R2)).toArray (((w3.setCell ⟨blk,off+i*3,none⟩ (.slice A1 n1 k1)).setCell ⟨blk,off+i*3+1,none⟩ (.slice A2 n2 k2)).setCell ⟨blk,off+i*3+2,none⟩ (.slice A3 n3 k3))):=ae;have ao:=ab.cell 0;have an:=ab.cell 1;have am:=ab.cell 2;simp at ao an am;have hiN:(i:Int)<(N:Int):=by omega
     clear ae S3 ad ab aa;generalize M2 ++ [(⟨⟨A1,n1,k1⟩,⟨A2,n2,k2⟩,⟨A3,n3,k3⟩⟩:Hd3)]=M3 at ah S4;generalize K1 ++ [(⟨⟨A1,n1,k1⟩,⟨A2,n2,k2⟩,⟨A3,n3,k3⟩⟩:Hd3)]=K2 at ah S4;go_wp2_with fail
     go_roundg (N - (j+1))
     case measure=>omega
     case rel=>exact⟨i+1,j+1,K2,M3,R2,by first | rfl | go_num,by first | rfl | go_num,by omega,by omega,by omega,ah,S4⟩
   .have hjz:¬(j:Int)<(N:Int):=by omega
    obtain⟨b1,b2,b3,b4,b5⟩:=HB.out;have aG:R1 = []:=df (by omega);subst aG;obtain⟨W',hcr,aL,d1,d2,d3⟩:=aI.out wr _ i (by simp only[dd,Jd,da]at b3 |-;omega) S1.out (by omega)
    have HF:Hid (∃zs:List Hd3,i=(xs.filter goodH).length/\zs.length=N/\zs.take (xs.filter goodH).length=xs.filter goodH/\SWK encH3 3 w0 blk off zs.toArray W'):=by rw[List.filter_nil,dn]at b4;refine⟨aL.toList,by rw[b4];exact b1.symm,by simpa using d1,?_,by simpa using d3⟩;rw[b4,b1,d2];simp only[dN];rw[<-b1,dT rfl]
    have aP:i<=N:=by omega
    have hic:i<=cap:=by omega
    have i1z:(i:Int)<=(N:Int):=by omega
    have i2z:(i:Int)<=(cap:Int):=by omega
    have i3z:(0:Int)<=(i:Int):=by omega
    clear b1 b2 b3 b4 b5 d1 d2 d3 S1 HB;go_wp2_with fail
    go_ret
    obtain⟨zs,f1,f2,f3,f4⟩:=HF.out;refine⟨?_,zs,f2,f3,f4⟩;show ej (.slice (some ⟨blk,off,none⟩) i cap)=_
    rw[f1]
 .rw[jM (by omega)];have aO:k=N:=by omega
  have HE:Hid (xs.filter goodH=xs):=by
   show _=_
   rw[aO,<-HQ.out.2,dB]at ac;exact ds.2 fun a ha=>ac a ha
  clear ac af;go_wp2_with fail
  go_ret
  refine⟨?_,xs,HQ.out.2,?_,S1.out⟩
  .show ej (.slice (some ⟨blk,off,none⟩) N cap)=_
   rw[HE.out,HQ.out.2]
  .rw[HE.out,dB]
end
theorem Ktg (w:World):Calls prog 66 #[.slice none 0 0,.func (.func 67) #[] #[]] w fun e w'=>e = .returned (.slice none 0 0)/\w=w':=by
 have aa:∀W:World,Calls prog 141 #[.slice none 0 0,.func (.func 67) #[] #[]] W fun e w'=>e = .returned (.int .i64 (-1))/\W=w':=by
  intro W;go_enter func141,ntmps141
  go_wp2
  go_loopg [8] 0 (fun kx s8 wr=>s8 = .int .i64 0/\wr=W)
  case atStart=>exact⟨rfl,rfl⟩
  case round=>
   obtain⟨rfl,rfl⟩:=hrel;go_wp2_with fail
   go_ret
   exact⟨rfl,rfl⟩
 have HI:=Jh aa;clear aa;go_enter func66,ntmps66
 go_wp2_with fail
 refine(HI.out _).mono ?_;rintro _ w1 ⟨rfl,rfl⟩;go_wp2_with fail
 go_ret
 exact⟨rfl,rfl⟩
end
end
section
open List renaming length_append -> Jd
attribute [-go_sem] loadCells
open Go.Shelf Go.RowKit Go.Lib Go.Sort
section
variable {α : Type}[Inhabited α] {enc : α -> List Value}{ef : α -> α -> Bool}{d0 : Array α}{w0 : World}{blk off cap g N : Nat}{cb : Array Value}
theorem Kqm (eg:∀args w,(callFunc g args).run prog w = .ok (.enter g args) w) (heq:Koh prog g cb enc 2 ef blk off d0.size w0) (R:RowK enc 2 w0 blk off d0) (hN:d0.size=N) (hsz:N<1152921504606846976) (xs:List α) (w:World) (hl:xs.length=N)
  (hcl:∀(W:World) (dk:Array α) (i:Nat),dk.size=N->SWK enc 2 w0 blk off dk W->i<=N->∃W',(∀ty,(ZU #[55] ty #[.slice (some ⟨blk,off+i*2,none⟩) (N - i) (cap - i)]).run prog W = .ok (.tuple #[]) W')/\∃dk':Array α,dk'.size=N/\dk'.toList.take i=dk.toList.take i/\SWK enc 2 w0 blk off dk' W')
  (hcN:N<=cap) (S0:SWK enc 2 w0 blk off xs.toArray w) :
  Calls prog 135 #[.slice (some ⟨blk,off,none⟩) N cap,.func (.func g) #[] cb] w fun e w'=>e = .returned (.slice (some ⟨blk,off,none⟩) (dupE ef xs).length cap)/\∃zs:List α,zs.length=N/\zs.take (dupE ef xs).length=dupE ef xs/\SWK enc 2 w0 blk off zs.toArray w':=by
 have mixed:prog.follows .mixedOrders=true:=by kernel_rfl
 have HC:Aside _:=heq;have aI:Aside _:=hcl;have S1:Aside (SWK enc 2 w0 blk off xs.toArray w):=S0;have HQ:Hid (d0.size=N/\xs.length=N):=⟨hN,hl⟩;clear heq hcl S0 hN hl;go_enter func135,ntmps135
 rcases dj N 2 with h2 | h2
 .have hz:(N:Int)<2:=by omega
  have HE:Hid (dupE ef xs=xs):=by
   have q:=HQ.out.2
   match xs,q with
   | [],q=>rfl
   | [x],_=>rfl
   | _ :: _ :: _,q=>simp at q;omega
  go_wp2_with fail
  go_ret
  refine⟨?_,xs,HQ.out.2,?_,S1.out⟩
  .show ej (.slice (some ⟨blk,off,none⟩) N cap)=_
   rw[HE.out,HQ.out.2]
  .rw[HE.out,dB]
 have hz:¬(N:Int)<2:=by omega
 have aA:∃x l,xs=x :: l:=by
  have q:=HQ.out.2
  cases xs with
  | nil=>simp at q;omega
  | cons x l=>exact⟨x,l,rfl⟩
 obtain⟨x0,l0,ar⟩:=aA;have am:Hid (xs = []++x0 :: l0/\dupE ef xs = []++x0 :: ddE ef x0 l0):=⟨ar,by rw[ar];rfl⟩;clear ar;go_wp2_with fail
 go_loopg [5] N (fun kx s5 wr=>∃(k:Nat) (K0 R0:List α) (p:α),s5 = .int .i64 k/\0<k/\k<=N/\N<=k+kx/\Hid (K0.length+1=k/\xs=K0++p :: R0/\dupE ef xs=K0++p :: ddE ef p R0)/\Aside (SWK enc 2 w0 blk off xs.toArray wr))
 case atStart=>exact⟨1,[],l0,x0,rfl,by omega,by omega,by omega,⟨rfl,am.out.1,am.out.2⟩,S1⟩
 case round=>
  clear S1 am;obtain⟨k,K0,R0,p,rfl,hk0,hkN,ay,HB,S1⟩:=hrel;rcases dj k N with hlt | hge
  .have aj:(k:Int)<(N:Int):=by omega
   obtain⟨b1,b2,b3⟩:=HB.out;obtain⟨q1,q2⟩:=HQ.out
   have aq:∃y R1,R0=y :: R1:=by
    cases R0 with
    | nil=>rw[b2]at q2;simp at q2;omega
    | cons y R1=>exact⟨y,R1,rfl⟩
   obtain⟨y,R1,ac⟩:=aq;have al:xs.toArray[k]! = y:=by rw[b2,ac,show K0++p :: y :: R1=(K0 ++ [p])++y :: R1 by simp];exact Kct (by simp only[Jd,db,da];omega)
   have ak:xs.toArray[k - 1]! = p:=by rw[b2];exact Kct (by omega)
   have aa:xs.toArray.size=N:=by simpa using q2
   obtain⟨k1,af⟩:∃k1,k=k1+1:=⟨k - 1,by omega⟩;have an:k - 1=k1:=by omega
   rw[an]at ak;have hk3:(k:Int) - 1=(k1:Int):=by omega
   have la:∀n os,eb prog (loadCells ⟨blk,off+k*2,none⟩ 2) (grow (wr.drewN n) os) = .ok (enc y).toArray (grow (wr.drewN n) os):=by rw[<-al];exact S1.out.ld R (by omega) prog k (by omega)
   have lb:∀n os,eb prog (loadCells ⟨blk,off+k1*2,none⟩ 2) (grow (wr.drewN n) os) = .ok (enc p).toArray (grow (wr.drewN n) os):=by rw[<-ak];exact S1.out.ld R (by omega) prog k1 (by omega)
   have hc:=fun n os=>HC.out (grow (wr.drewN n) os) xs.toArray (by omega) (S1.out.grown n os) y p
   have e2:(k1:Int)<(N:Int):=by omega
   have iak:((k:Int)).toNat=k:=by omega
   have ibk:(0:Int)<=(k:Int):=by omega
   have ick:dW.wrap (k:Int)=(k:Int):=by rw[dV];omega
   have idk:((k1:Int)).toNat=k1:=by omega
   have iek:(0:Int)<=(k1:Int):=by omega
   have ifk:dW.wrap (k1:Int)=(k1:Int):=by rw[dV];omega
   have aG:k1<N:=by omega
   have ax:Hid (k=k1+1):=af;have aw:Hid (R0=y :: R1):=ac
   cases hL:ef y p with
   | true=>
    rw[hL]at hc;have ab:Hid (K0.length+1=k/\xs=K0++p :: y :: R1/\dupE ef xs=(K0 ++ [p])++ddE ef y R1):=⟨b1,by rw[b2,ac],by rw[b3,ac,ddE,jN hL];simp⟩;clear b1 b2 b3 q1 q2 ac al ak aa HB aw hL af an;go_wp2_with fail
    go_quiet_grown (first | (go_at_fn g;refine ZV (hc _ _)))
    have S2:Aside (SWK enc 2 w0 blk off xs.toArray (grow (wr.drewN nq) osq)):=S1.out.grown nq osq;clear la lb hc S1;generalize grow (wr.drewN nq) osq=w2 at S2 |-;clear nq osq;have S3:Aside (SWK enc 2 w0 blk off ((K0 ++ [p])++([]++y :: R1)).toArray w2):=by rw[show(K0 ++ [p])++([]++y :: R1)=K0++p :: y :: R1 by simp,<-ab.out.2.1];exact S2.out
    have af:=ax.out;have ag:K0.length=k1:=by have:=ab.out.1;omega
    have aM:R1.length+(k+1)=N:=by have q:=HQ.out.2;rw[ab.out.2.1]at q;simp only[Jd,db]at q;omega
    have HL:Hid ((K0 ++ [p]).length=k/\k+1=(K0 ++ [p]).length+([]:List α).length+1/\(K0 ++ [p]).length+([]:List α).length+1+R1.length=N/\dupE ef xs=(K0 ++ [p])++ddE ef y R1):=⟨by simp only[Jd,db,da];omega,by simp only[Jd,db,da];omega,by simp only[Jd,db,da];omega,ab.out.2.2⟩;clear ag aM ab S2 af ax;obtain⟨c0,aL⟩:=jG k;subst aL;have aJ:c0<=cap:=by omega
    clear aj ay;go_wp2_with fail
    go_loopg [5,7] N (fun kx s5 s7 wr=>∃(k j:Nat) (K1 M R2:List α) (z:α),s5 = .int .i64 k/\s7 = .int .i64 j/\0<j/\k<c0+j/\c0+j<=N/\N<=c0+j+kx/\Hid (K1.length=k/\c0+j=K1.length+M.length+1/\K1.length+M.length+1+R2.length=N/\dupE ef xs=K1++ddE ef z R2)/\Aside (SWK enc 2 w0 blk off (K1++(M++z :: R2)).toArray wr))
    case atStart=>exact⟨c0,1,K0 ++ [p],[],R1,y,by first | rfl | go_num,rfl,by omega,by omega,by omega,by omega,HL,S3⟩
    case round=>
     clear HL S3;obtain⟨k,j,K1,M,R2,z,rfl,rfl,hj0,hkj,hjN,hjg,HB,S1⟩:=hrel;rcases dj (c0+j) N with hlt | hge
     .have aj:(j:Int)<(N:Int) - (c0:Int):=by omega
      have aq:∃v R3,R2=v :: R3:=by
       obtain⟨b1,b2,b3,b4⟩:=HB.out
       cases R2 with
       | nil=>simp only[da]at b3;omega
       | cons v R3=>exact⟨v,R3,rfl⟩
      obtain⟨v,R3,ap⟩:=aq;obtain⟨b1,b2,b3,b4⟩:=HB.out;obtain⟨j1,rfl⟩:∃j1,j=j1+1:=⟨j - 1,by omega⟩;subst ap;simp only[db]at b3;have ad:(K1++(M++z :: v :: R3)).toArray[c0+(j1+1)]! = v:=by rw[show K1++(M++z :: v :: R3)=(K1++(M ++ [z]))++v :: R3 by simp];exact Kct (by simp only[Jd,db,da];omega)
      have ai:(K1++(M++z :: v :: R3)).toArray[c0+j1]! = z:=by rw[show K1++(M++z :: v :: R3)=(K1++M)++z :: v :: R3 by simp];exact Kct (by simp only[Jd];omega)
      have aa:(K1++(M++z :: v :: R3)).toArray.size=N:=by simp only[dd,Jd,db];omega
      obtain⟨dk,ah⟩:=jG ((K1++(M++z :: v :: R3)).toArray);rw[<-ah]at ad ai aa S1;have q1:=HQ.out.1
      have la:∀n os,eb prog (loadCells ⟨blk,off+c0*2+(j1+1)*2,none⟩ 2) (grow (wr.drewN n) os) = .ok (enc v).toArray (grow (wr.drewN n) os):=by rw[show off+c0*2+(j1+1)*2=off+(c0+(j1+1))*2 by omega,<-ad];exact S1.out.ld R (by omega) prog (c0+(j1+1)) (by omega)
      have lb:∀n os,eb prog (loadCells ⟨blk,off+c0*2+j1*2,none⟩ 2) (grow (wr.drewN n) os) = .ok (enc z).toArray (grow (wr.drewN n) os):=by rw[show off+c0*2+j1*2=off+(c0+j1)*2 by omega,<-ai];exact S1.out.ld R (by omega) prog (c0+j1) (by omega)
      have hc:=fun n os=>HC.out (grow (wr.drewN n) os) dk (by omega) (S1.out.grown n os) v z
      have e1:(j1:Int)+1<((N - c0:Nat):Int):=by omega
      have e2:(j1:Int)<((N - c0:Nat):Int):=by omega
      have aD:(((j1:Int)+1)).toNat=j1+1:=by omega
      have aC:(0:Int)<=(j1:Int)+1:=by omega
      have aE:dW.wrap ((j1:Int)+1)=(j1:Int)+1:=by rw[dV];omega
      have aF:((j1:Int)).toNat=j1:=by omega
      have az:(0:Int)<=(j1:Int):=by omega
      have aH:dW.wrap (j1:Int)=(j1:Int):=by rw[dV];omega
      have ae:Hid (dk=(K1++(M++z :: v :: R3)).toArray/\dk.size=N):=⟨ah,aa⟩
      cases hL:ef v z with
      | true=>
       rw[hL]at hc;have ab:Hid (K1.length=k/\c0+(j1+1+1)=K1.length+(M ++ [z]).length+1/\K1.length+(M ++ [z]).length+1+R3.length=N/\dupE ef xs=K1++ddE ef v R3):=⟨b1,by simp only[Jd,db,da];omega,by simp only[Jd,db,da];omega,by rw[b4,ddE,jN hL]⟩;clear b1 b2 b3 b4 ad ai aa ah HB hL q1;go_wp2_with fail
       go_quiet_grown (first | (go_at_fn g;refine ZV (hc _ _)))
       have S2:Aside (SWK enc 2 w0 blk off dk (grow (wr.drewN nq) osq)):=S1.out.grown nq osq;clear la lb hc S1;generalize grow (wr.drewN nq) osq=w2 at S2 |-;clear nq osq;have S3:Aside (SWK enc 2 w0 blk off (K1++((M ++ [z])++v :: R3)).toArray w2):=by rw[show K1++((M ++ [z])++v :: R3)=K1++(M++z :: v :: R3) by simp,<-ae.out.1];exact S2.out
       clear S2 ae;go_wp2_with fail
       go_roundg (N - (c0+(j1+2)))
       case measure=>omega
       case rel=>exact⟨k,j1+2,K1,M ++ [z],R3,v,rfl,by first | rfl | go_num,by omega,by omega,by omega,by omega,ab,S3⟩
      | false=>
       rw[hL]at hc
       have aK:∃m M2,M ++ [z]=m :: M2:=by
        cases M with
        | nil=>exact⟨z,[],rfl⟩
        | cons a M=>exact⟨a,M ++ [z],rfl⟩
       obtain⟨m,M2,ao⟩:=aK;have aB:M2.length=M.length:=by have:=jR dU ao;simp only[Jd,db,da]at this;omega
       have ab:Hid ((K1 ++ [v]).length=k+1/\c0+(j1+1+1)=(K1 ++ [v]).length+M2.length+1/\(K1 ++ [v]).length+M2.length+1+R3.length=N/\dupE ef xs=(K1 ++ [v])++ddE ef v R3):=⟨by simp[b1],by simp only[Jd,db,da];omega,by simp only[Jd,db,da];omega,by rw[b4,ddE,jM (by rw[hL];exact dG)];simp⟩
       have HN:Hid (dk.setIfInBounds k v=((K1 ++ [v])++(M2++v :: R3)).toArray):=by
        show _=_
        rw[ah,show K1++(M++z :: v :: R3)=K1++m :: (M2++v :: R3) by rw[show M++z :: v :: R3=(M ++ [z])++v :: R3 by simp,ao];rfl,Klv b1.symm];simp
       have av:k<N:=by omega
       have aO:k<cap:=by omega
       clear b1 b2 b3 b4 ad ai aa ah HB hL ao aB q1;go_wp2_with fail
       go_quiet_grown (first | (go_at_fn g;refine ZV (hc _ _)))
       have S2:Aside (SWK enc 2 w0 blk off dk (grow (wr.drewN nq) osq)):=S1.out.grown nq osq;clear la lb hc S1;generalize grow (wr.drewN nq) osq=w2 at S2 |-;clear nq osq;have aa:=ae.out.2;have q1:=HQ.out.1
       have ad:dk[c0+(j1+1)]! = v:=by rw[ae.out.1,show K1++(M++z :: v :: R3)=(K1++(M ++ [z]))++v :: R3 by simp];have t1:=ab.out.1;have t2:=ab.out.2.1;have t3:=ab.out.2.2.1;have t4:=jR Array.size ae.out.1;simp only[dd,Jd,db,da]at t1 t2 t3 t4;exact Kct (by simp only[Jd,db,da];omega)
       have l1:eb prog (loadCells ⟨blk,off+c0*2+(j1+1)*2,none⟩ 2) w2 = .ok (enc v).toArray w2:=by rw[show off+c0*2+(j1+1)*2=off+(c0+(j1+1))*2 by omega,<-ad];exact S2.out.load R (by omega) prog (c0+(j1+1)) (by omega)
       have s1:eb prog (storeCells ⟨blk,off+k*2,none⟩ (enc v) 0) w2 = .ok () (w2.setCells blk (off+k*2) (enc v)):=SWK.st S2.out R (by omega) prog k (by omega) v;have S3:Aside (SWK enc 2 w0 blk off ((K1 ++ [v])++(M2++v :: R3)).toArray (w2.setCells blk (off+k*2) (enc v))):=by rw[<-HN.out];exact SWK.put S2.out R k (by omega) v
       have n1:(enc v).length=2:=R.hk _;clear S2 ae aa q1 ad HN;generalize enc v=cV at l1 s1 S3 n1;have aN:(k:Int)<(N:Int):=by omega
       go_wp2_with fail
       clear l1 s1;generalize w2.setCells blk (off+k*2) cV=w3 at S3 |-;go_wp2_with fail
       go_roundg (N - (c0+(j1+2)))
       case measure=>omega
       case rel=>exact⟨k+1,j1+2,K1 ++ [v],M2,R3,v,by first | rfl | go_num,by first | rfl | go_num,by omega,by omega,by omega,by omega,ab,S3⟩
     .have aj:¬(j:Int)<(N:Int) - (c0:Int):=by omega
      obtain⟨b1,b2,b3,b4⟩:=HB.out;have ap:R2 = []:=df (by omega);subst ap;obtain⟨W',hcr,dk',d1,d2,d3⟩:=aI.out wr _ k (by simp only[dd,Jd,db,da]at b3 |-;omega) S1.out (by omega)
      have HF:Hid (∃zs:List α,k=(dupE ef xs).length/\zs.length=N/\zs.take (dupE ef xs).length=dupE ef xs/\SWK enc 2 w0 blk off zs.toArray W'):=by rw[ddE,dn]at b4;refine⟨dk'.toList,by rw[b4];exact b1.symm,by simpa using d1,?_,by simpa using d3⟩;rw[b4,b1,d2];simp only[dN];rw[<-b1,dT rfl]
      have av:k<=N:=by omega
      have aO:k<=cap:=by omega
      have aN:(k:Int)<=(N:Int):=by omega
      have k2z:(k:Int)<=(cap:Int):=by omega
      have k3z:(0:Int)<=(k:Int):=by omega
      clear b1 b2 b3 b4 d1 d2 d3 S1 HB;go_wp2_with fail
      go_ret
      obtain⟨zs,f1,f2,f3,f4⟩:=HF.out;refine⟨?_,zs,f2,f3,f4⟩;show ej (.slice (some ⟨blk,off,none⟩) k cap)=_
      rw[f1]
   | false=>
    rw[hL]at hc;have ab:Hid ((K0 ++ [p]).length+1=k+1/\xs=(K0 ++ [p])++y :: R1/\dupE ef xs=(K0 ++ [p])++y :: ddE ef y R1):=⟨by simp only[Jd,db,da];omega,by rw[b2,ac];simp,by rw[b3,ac,ddE,jM (by rw[hL];exact dG)];simp⟩;clear b1 b2 b3 q1 q2 ac al ak aa HB aw hL af an;go_wp2_with fail
    go_quiet_grown (first | (go_at_fn g;refine ZV (hc _ _)))
    have S2:Aside (SWK enc 2 w0 blk off xs.toArray (grow (wr.drewN nq) osq)):=S1.out.grown nq osq;clear la lb hc S1;generalize grow (wr.drewN nq) osq=w2 at S2 |-;clear nq osq;go_wp2_with fail
    go_roundg (N - (k+1))
    case measure=>omega
    case rel=>exact⟨k+1,K0 ++ [p],R1,y,by first | rfl | go_num,by omega,by omega,by omega,ab,S2⟩
  .have aj:¬(k:Int)<(N:Int):=by omega
   obtain⟨b1,b2,b3⟩:=HB.out;have q2:=HQ.out.2
   have ac:R0 = []:=by refine df ?_;rw[b2]at q2;simp only[Jd,db]at q2;omega
   have HE:Hid (dupE ef xs=xs):=by
    show _=_
    rw[b3,b2,ac];rfl
   clear b1 b2 b3 q2 ac HB;go_wp2_with fail
   go_ret
   refine⟨?_,xs,HQ.out.2,?_,S1.out⟩
   .show ej (.slice (some ⟨blk,off,none⟩) N cap)=_
    rw[HE.out,HQ.out.2]
   .rw[HE.out,dB]
end
attribute [-go_sem] loadCells
open Go.Shelf Go.RowKit Go.Lib Go.Sort
section
variable {α : Type}[Inhabited α] {enc : α -> List Value}{cf : α -> α -> Int}{d0 : Array α}{w0 : World}{blk off cap g N : Nat}{cb : Array Value}
theorem Kew (A X M Y S:List α) (a b n:Nat) (w:World) (R:RowK enc 2 w0 blk off d0) (hN:d0.size=N) (hl:A.length+X.length+M.length+Y.length+S.length=N) (hX:X.length=n) (hY:Y.length=n) (ha:a=A.length) (hb:b=A.length+n+M.length) (hsz:N<4611686018427387904)
  (S0:SWK enc 2 w0 blk off (A++(X++(M++(Y++S)))).toArray w) :
  Calls prog 263 #[.slice (some ⟨blk,off,none⟩) N cap,.int .i64 a,.int .i64 b,.int .i64 n,.func (.func g) #[] cb] w fun e w'=>e = .returned (.tuple #[])/\SWK enc 2 w0 blk off (A++(Y++(M++(X++S)))).toArray w':=by
 have S1:Aside (SWK enc 2 w0 blk off (A++(X++(M++(Y++S)))).toArray w):=S0;have HQ:Hid (d0.size=N/\A.length+X.length+M.length+Y.length+S.length=N/\X.length=n/\Y.length=n/\a=A.length/\b=A.length+n+M.length):=⟨hN,hl,hX,hY,ha,hb⟩;have ban:a+n<=b:=by omega
 have bbn:b+n<=N:=by omega
 clear hN hl hX hY ha hb;have mixed:prog.follows .mixedOrders=true:=by kernel_rfl
 clear S0;go_enter func263,ntmps263
 go_wp2
 go_loopg [10] n (fun kx s10 wr=>∃(i:Nat) (X1 X2 Y1 Y2:List α),s10 = .int .i64 i/\i+kx=n/\Hid (X1.length=i/\Y1.length=i/\X=X1++X2/\Y=Y1++Y2)/\Aside (SWK enc 2 w0 blk off (A++(Y1++(X2++(M++(X1++(Y2++S)))))).toArray wr))
 case atStart=>exact⟨0,[],X,[],Y,rfl,by omega,⟨rfl,rfl,rfl,rfl⟩,S1⟩
 case round=>
  clear S1;obtain⟨i,X1,X2,Y1,Y2,rfl,hk,ab,S1⟩:=hrel;obtain⟨hN,hl,hX,hY,ha,hb⟩:=HQ.out;obtain⟨h1,h2,h3,h4⟩:=ab.out;have e1:X1.length+X2.length=n:=by rw[<-hX,h3,Jd]
  have e2:Y1.length+Y2.length=n:=by rw[<-hY,h4,Jd]
  by_cases hlt:i<n
  .have hlz:(i:Int)<(n:Int):=by omega
   obtain⟨x,X2,rfl⟩:∃x l,X2=x :: l:=by
    cases X2 with
    | nil=>simp at e1;omega
    | cons x l=>exact⟨x,l,rfl⟩
   obtain⟨y,Y2,rfl⟩:∃y l,Y2=y :: l:=by
    cases Y2 with
    | nil=>simp at e2;omega
    | cons y l=>exact⟨y,l,rfl⟩
   simp only[db]at e1 e2
   have HN:Hid (swp (A++(Y1++(x :: X2++(M++(X1++(y :: Y2++S)))))).toArray (a+i) (b+i)=(A++((Y1 ++ [y])++(X2++(M++((X1 ++ [x])++(Y2++S)))))).toArray):=by
    show _=_
    rw[show A++(Y1++(x :: X2++(M++(X1++(y :: Y2++S)))))=(A++Y1)++x :: ((X2++(M++X1))++y :: (Y2++S)) by simp,Kej (by simp only[Jd];omega) (by simp only[Jd];omega)];simp
   have aa:(A++(Y1++(x :: X2++(M++(X1++(y :: Y2++S)))))).toArray.size=N:=by simp only[dd,Jd,db];omega
   obtain⟨dk,ah⟩:=jG ((A++(Y1++(x :: X2++(M++(X1++(y :: Y2++S)))))).toArray);rw[<-ah]at HN S1 aa;have ac:Hid ((X1 ++ [x]).length=i+1/\(Y1 ++ [y]).length=i+1/\X=(X1 ++ [x])++X2/\Y=(Y1 ++ [y])++Y2):=⟨by simp[h1],by simp[h2],by rw[h3];simp,by rw[h4];simp⟩;clear ah ab hl hX hY ha hb h1 h2 h3 h4 e1 e2;go_wp2_with fail
   have eat:((a:Int)+(i:Int)).toNat=a+i:=by omega
   have pat:(0:Int)<=(a:Int)+(i:Int):=by omega
   have bat:(a:Int)+(i:Int)<(N:Int):=by omega
   have rat:dW.wrap ((a:Int)+(i:Int))=(a:Int)+(i:Int):=by rw[dV];omega
   have ect:((b:Int)+(i:Int)).toNat=b+i:=by omega
   have pct:(0:Int)<=(b:Int)+(i:Int):=by omega
   have bct:(b:Int)+(i:Int)<(N:Int):=by omega
   have rct:dW.wrap ((b:Int)+(i:Int))=(b:Int)+(i:Int):=by rw[dV];omega
   have S2:Aside (SWK enc 2 w0 blk off (swp dk (a+i) (b+i)) ((wr.drew.setCells blk (off+(a+i)*2) (enc dk[b+i]!)).setCells blk (off+(b+i)*2) (enc dk[a+i]!))):=S1.out.swapped R (a+i) (b+i) (by omega) (by omega);have ae:eb prog (loadCells ⟨blk,off+(a+i)*2,none⟩ 2) wr.drew = .ok (enc dk[a+i]!).toArray wr.drew:=S1.out.ld1 R (by omega) prog (a+i) (by omega);have ag:eb prog (loadCells ⟨blk,off+(b+i)*2,none⟩ 2) wr.drew = .ok (enc dk[b+i]!).toArray wr.drew:=S1.out.ld1 R (by omega) prog (b+i) (by omega);have af:=S1.out.st1 R (by omega) prog (a+i) (by omega) dk[b+i]!;have ad:=S1.out.st2 R (by omega) prog (a+i) (b+i) (by omega) (by omega) dk[b+i]! dk[a+i]!;have aj:(enc dk[a+i]!).length=2:=R.hk _;have ak:(enc dk[b+i]!).length=2:=R.hk _;generalize enc dk[a+i]! = cIt at S2 ae ad aj;generalize enc dk[b+i]! = cJt at S2 ag af ad ak;clear S1 aa hN;go_wp2_with fail
   go_big_region_o
   clear ae ag af ad;generalize (wr.drew.setCells blk (off+(a+i)*2) cJt).setCells blk (off+(b+i)*2) cIt=w2 at S2 |-;rw[HN.out]at S2;go_wp2
   go_roundg (n - (i+1))
   case measure=>omega
   case rel=>exact⟨i+1,X1 ++ [x],X2,Y1 ++ [y],Y2,by first | rfl | go_num,by omega,ac,S2⟩
  .have ai:X2 = []:=df (by omega);have al:Y2 = []:=df (by omega);subst ai al
   have S2:Aside (SWK enc 2 w0 blk off (A++(Y++(M++(X++S)))).toArray wr):=by rw[dn]at h3 h4;rw[h3,h4];exact S1.out
   clear S1 ab hl hX hY ha hb h1 h2 h3 h4 e1 e2 hN;go_wp2
   go_end0
   exact⟨rfl,S2.out⟩
theorem Ktq (A X Y S:List α) (a m b:Nat) (w:World) (R:RowK enc 2 w0 blk off d0) (hN:d0.size=N) (hl:A.length+X.length+Y.length+S.length=N) (ha:a=A.length) (hm:m=A.length+X.length) (hb:b=A.length+X.length+Y.length) (hX:0<X.length) (hY:0<Y.length) (hsz:N<4611686018427387904)
  (S0:SWK enc 2 w0 blk off (A++(X++(Y++S))).toArray w) :
  Calls prog 255 #[.slice (some ⟨blk,off,none⟩) N cap,.int .i64 a,.int .i64 m,.int .i64 b,.func (.func g) #[] cb] w fun e w'=>e = .returned (.tuple #[])/\SWK enc 2 w0 blk off (A++(Y++(X++S))).toArray w':=by
 have S1:Aside (SWK enc 2 w0 blk off (A++(X++(Y++S))).toArray w):=S0;obtain⟨L,hL⟩:=jG (A++(Y++(X++S)));rw[<-hL];have HL:Hid (A++(Y++(X++S))=L):=hL.symm;obtain⟨i0,ah⟩:=jG X.length;obtain⟨j0,ai⟩:=jG Y.length;have w1:wrap64 ((m:Int) - (a:Int))=(i0:Int):=by unfold wrap64;omega
 have w2:wrap64 ((b:Int) - (m:Int))=(j0:Int):=by unfold wrap64;omega
 have hmN:m<=N:=by omega
 have HQ:Hid (d0.size=N/\A.length+X.length+Y.length+S.length=N/\a=A.length/\m=A.length+X.length/\b=A.length+X.length+Y.length/\i0=X.length/\j0=Y.length):=⟨hN,hl,ha,hm,hb,ah,ai⟩;have pi0:0<i0:=by omega
 have pj0:0<j0:=by omega
 clear S0 hL hN hl ha hm hb ah ai hX hY;go_enter func255,ntmps255
 go_wp2
 go_loopg [10,11] (i0+j0) (fun kx s10 s11 wr=>∃(i j:Nat) (A' X' Y' S':List α),s10 = .int .i64 i/\s11 = .int .i64 j/\0<i/\0<j/\i+j<=kx/\i<=m/\m+j<=N/\Hid (X'.length=i/\Y'.length=j/\A'.length+i=m/\A'.length+X'.length+Y'.length+S'.length=N)/\Hid (A'++(Y'++(X'++S'))=L)/\Aside (SWK enc 2 w0 blk off (A'++(X'++(Y'++S'))).toArray wr))
 case atStart=>exact⟨i0,j0,A,X,Y,S,by first | rfl | go_num | (congr 1;omega),by first | rfl | go_num | (congr 1;omega),by omega,by omega,de _,by have:=HQ.out;omega,by have:=HQ.out;omega,by have q:=HQ.out;refine⟨?_,?_,?_,?_⟩ <;> omega,HL,S1⟩
 case round=>
  clear S1 HL w1 w2;obtain⟨i,j,A',X',Y',S',rfl,rfl,hi,hj,hk,him,hjm,HR,HL,S1⟩:=hrel;have hN:=HQ.out.1;obtain⟨ab,aa,ag,ac⟩:=HR.out;rcases (by omega:i=j\/j<i\/i<j) with he | hgt | hlt
  .subst he;have HS:=Kew (cap:=cap) (g:=g) (cb:=cb) A' X' [] Y' S' (m - i) m i wr R hN (by simp only[da];omega) ab aa (by omega) (by simp only[da];omega) hsz S1.out;have HC:=HS;have d1:((i:Int) != (i:Int))=false:=by simp
   rw[show((m - i:Nat):Int)=(m:Int) - (i:Int) by omega]at HC;have ad:Aside _:=HC;clear HS S1 HC hN ab aa ag ac HR;go_wp2_with fail
   refine dZ ad.out ?_;rintro _ w3 ⟨rfl,h3⟩;have S2:Aside (SWK enc 2 w0 blk off L.toArray w3):=by rw[<-HL.out];exact h3
   clear h3;go_wp2_with fail
   go_end0
   exact⟨rfl,S2.out⟩
  .obtain ⟨X1,X2,rfl,h1⟩:∃X1 X2,X'=X1++X2/\X1.length=j:=⟨X'.take j,X'.drop j,(dl _ _).symm,by rw[dw];omega⟩;rw[Jd]at ab ac;have HS:=Kew (cap:=cap) (g:=g) (cb:=cb) A' X1 X2 Y' S' (m - i) m j wr R hN (by omega) h1 aa (by omega) (by omega) hsz (by have:=S1.out;rw[dc]at this;exact this);have HC:=HS;have d1:((i:Int) != (j:Int))=true:=by simp;omega
   have d2:decide ((j:Int)<(i:Int))=true:=by simp;omega
   rw[show((m - i:Nat):Int)=(m:Int) - (i:Int) by omega]at HC;have af:Hid (X2.length=i - j/\X1.length=j/\(A'++Y').length+(i - j)=m/\(A'++Y').length+X2.length+X1.length+S'.length=N):=by simp only[Jd];refine⟨?_,?_,?_,?_⟩ <;> omega
   have ad:Aside _:=HC;clear HS S1 HC hN ab aa ag ac HR h1;go_wp2_with fail
   refine dZ ad.out ?_;rintro _ w3 ⟨rfl,h3⟩;have S2:Aside (SWK enc 2 w0 blk off ((A'++Y')++(X2++(X1++S'))).toArray w3):=by rw[dc];exact h3
   have ae:Hid ((A'++Y')++(X1++(X2++S'))=L):=by show _=_;rw[<-HL.out];simp
   clear h3 HL;go_wp2_with fail
   go_roundg (i - j+j)
   case measure=>omega
   case rel=>exact⟨i - j,j,A'++Y',X2,X1,S',by first | rfl | go_num | (congr 1;omega),by first | rfl | go_num | (congr 1;omega),by omega,by omega,by omega,by omega,by omega,af,ae,S2⟩
  .obtain ⟨Y1,Y2,rfl,h1⟩:∃Y1 Y2,Y'=Y1++Y2/\Y2.length=i:=⟨Y'.take (j - i),Y'.drop (j - i),(dl _ _).symm,by rw[dS];omega⟩;rw[Jd]at aa ac;have HS:=Kew (cap:=cap) (g:=g) (cb:=cb) A' X' Y1 Y2 S' (m - i) (m+j - i) i wr R hN (by omega) ab h1 (by omega) (by omega) hsz (by have:=S1.out;rw[dc]at this;exact this);have HC:=HS;have d1:((i:Int) != (j:Int))=true:=by simp;omega
   have d2:decide ((j:Int)<(i:Int))=false:=by simp;omega
   rw[show((m - i:Nat):Int)=(m:Int) - (i:Int) by omega]at HC;rw[show((m+j - i:Nat):Int)=(m:Int)+(j:Int) - (i:Int) by omega]at HC;have af:Hid (Y2.length=i/\Y1.length=j - i/\A'.length+i=m/\A'.length+Y2.length+Y1.length+(X'++S').length=N):=by simp only[Jd];refine⟨?_,?_,?_,?_⟩ <;> omega
   have ad:Aside _:=HC;clear HS S1 HC hN ab aa ag ac HR h1;go_wp2_with fail
   refine dZ ad.out ?_;rintro _ w4 ⟨rfl,h3⟩;have S2:Aside (SWK enc 2 w0 blk off (A'++(Y2++(Y1++(X'++S')))).toArray w4):=h3;have ae:Hid (A'++(Y1++(Y2++(X'++S')))=L):=by show _=_;rw[<-HL.out];simp
   clear h3 HL;go_wp2_with fail
   go_roundg (i+(j - i))
   case measure=>omega
   case rel=>exact⟨i,j - i,A',Y2,Y1,X'++S',by first | rfl | go_num | (congr 1;omega),by first | rfl | go_num | (congr 1;omega),by omega,by omega,by omega,by omega,by omega,af,ae,S2⟩
theorem Kuc (SW:SWO (ltOf cf)) (eg:∀args w,(callFunc g args).run prog w = .ok (.enter g args) w) (hcmp:CmpLays prog g cb enc 2 cf blk off d0.size w0) (R:RowK enc 2 w0 blk off d0) (hN:d0.size=N) (hsz:N<4611686018427387904) (A:List α) (x:α) (Y S:List α) (a m b:Nat) (w:World) (hl:A.length+1+Y.length+S.length=N) (ha:a=A.length) (hm:m=a+1) (hb:b=m+Y.length) (hY0:0<Y.length) (hY:(Y.Pairwise fun a b=>ltOf cf b a=false))
  (S0:SWK enc 2 w0 blk off (A++([x]++(Y++S))).toArray w) :
  Calls prog 225 #[.slice (some ⟨blk,off,none⟩) N cap,.int .i64 a,.int .i64 m,.int .i64 b,.func (.func g) #[] cb] w fun e w'=>e = .returned (.tuple #[])/\SWK enc 2 w0 blk off (A++(mrg (ltOf cf) [x] Y++S)).toArray w':=by
 have mixed:prog.follows .mixedOrders=true:=by kernel_rfl
 have HC:Aside _:=hcmp;have hma:(m:Int) - (a:Int)=1:=by omega
 have hmb:m<b:=by omega
 have hbN:b<=N:=by omega
 have ham:a<m:=by omega
 obtain⟨dk,ab⟩:=jG ((A++([x]++(Y++S))).toArray);have aa:dk.size=N:=by rw[ab];simp only[dd,Jd,db,da];omega
 have DA:Hid (dk[a]! = x):=by
  show _=_
  rw[ab,Kdp (A:=A) (X:=[x]) (T:=Y++S) (i:=0) (by simp) (by omega)];rfl
 have DY:Hid (∀t,m<=t->t<b->dk[t]! = Y[t - m]!):=by intro t h1 h2;rw[ab,Kds (A:=A) (X:=[x]) (Y:=Y) (T:=S) (i:=t - m) (by omega) (by simp only[db,da];omega)]
 have HQ:Hid (dk=(A++([x]++(Y++S))).toArray/\d0.size=N/\A.length+1+Y.length+S.length=N/\a=A.length/\m=a+1/\b=m+Y.length/\(Y.Pairwise fun a b=>ltOf cf b a=false)):=⟨ab,hN,hl,ha,hm,hb,hY⟩;have aq:Hid (d0.size=N):=hN;rw[<-ab]at S0;have S1:Aside (SWK enc 2 w0 blk off dk w):=S0;clear S0 ab hl ha hm hb hY hcmp hN;have aD:Hid (dk.size=N):=aa;clear aa;go_enter func225,ntmps225
 go_wp2
 go_loopg [10,11] (b - m) (fun kx s10 s11 wr=>∃(i j:Nat),s10 = .int .i64 i/\s11 = .int .i64 j/\m<=i/\i<=j/\j<=b/\j - i<=kx/\Hid ((i=m\/ltOf cf Y[i - m - 1]! x=true)/\(j=b\/ltOf cf Y[j - m]! x=false))/\Aside (SWK enc 2 w0 blk off dk wr))
 case atStart=>exact⟨m,b,rfl,rfl,by omega,by omega,by omega,by omega,⟨.inl rfl,.inl rfl⟩,S1⟩
 case round=>
  clear S1;obtain⟨i,j,rfl,rfl,ay,aw,aA,hk,HB,S1⟩:=hrel;rcases dj i j with hlt | hge
  .have hlz:(i:Int)<(j:Int):=by omega
   obtain⟨h,hh⟩:=jG ((i+j) / 2);have hm2:(((i:Int)+(j:Int)) / 2)=(h:Int):=by omega
   have hih:i<=h:=by omega
   have hjh:h<j:=by omega
   clear hh;obtain⟨y,hy⟩:=jG (Y[h - m]!);have ak:dk[a]! = x:=DA.out;have aj:dk[h]! = y:=by rw[hy];exact DY.out h (by omega) (by omega)
   have aa:=aD.out;have hN:=aq.out;obtain⟨L,hL⟩:=jF (ltOf cf y x);have HL:=ec hL;have HY:=ec hy;clear hy;obtain⟨eac,pac,bac,rac⟩:=ixf (i:=h) (N:=N) (by omega) (by omega);obtain⟨ecc,pcc,bcc,rcc⟩:=ixf (i:=a) (N:=N) (by omega) (by omega);have ag:∀n os,eb prog (loadCells ⟨blk,off+(h)*2,none⟩ 2) (grow (wr.drewN n) os) = .ok (enc dk[h]!).toArray (grow (wr.drewN n) os):=S1.out.ld R (by omega) prog (h) (by omega);have ap:∀n os,eb prog (loadCells ⟨blk,off+(a)*2,none⟩ 2) (grow (wr.drewN n) os) = .ok (enc dk[a]!).toArray (grow (wr.drewN n) os):=S1.out.ld R (by omega) prog (a) (by omega);rw[aj]at ag;rw[ak]at ap;have al:=S1.out.cmp HC.out (by omega) y x;have hdc:decide (cf y x<0)=L:=hL;go_wp2_with fail
   go_quiet_grown (first | (go_at_fn g;refine ZV (al _ _)))
   have S2:Aside (SWK enc 2 w0 blk off dk (grow (wr.drewN nq) osq)):=S1.out.grown nq osq;clear aa hN ak aj hL ag ap al S1;generalize grow (wr.drewN nq) osq=w2 at S2 |-;clear nq osq
   cases L with
   | true=>
    have ac:Hid ((h+1=m\/ltOf cf Y[h+1 - m - 1]! x=true)/\(j=b\/ltOf cf Y[j - m]! x=false)):=⟨.inr (by rw[show h+1 - m - 1=h - m by omega,<-HY.out];exact HL.out),HB.out.2⟩;clear HB HY HL;go_wp2_with fail
    go_roundg (j - (h+1))
    case measure=>omega
    case rel=>exact⟨h+1,j,by first | rfl | go_num,rfl,by omega,by omega,aA,by omega,ac,S2⟩
   | false=>
    have ac:Hid ((i=m\/ltOf cf Y[i - m - 1]! x=true)/\(h=b\/ltOf cf Y[h - m]! x=false)):=⟨HB.out.1,.inr (by rw[<-HY.out];exact HL.out)⟩;clear HB HY HL;go_wp2_with fail
    go_roundg (h - i)
    case measure=>omega
    case rel=>exact⟨i,h,rfl,rfl,ay,by omega,by omega,by omega,ac,S2⟩
  .have he:j=i:=by omega
   subst he;have ar:¬(j:Int)<(j:Int):=by omega
   obtain⟨p,hp⟩:=jG (j - m)
   have HE:Hid (mrg (ltOf cf) [x] Y=Y.take p++x :: Y.drop p):=by obtain⟨q1,q2,q3,q4,q5,q6,q7⟩:=HQ.out;refine Khn SW q7 p (by omega) (HB.out.2.imp (fun h=>by omega) fun h=>by rw[hp];exact h) (HB.out.1.imp (fun h=>by omega) fun h=>by rw[hp];exact h)
   have HP:Hid (j=a+1+p/\p<=Y.length):=by obtain⟨q1,q2,q3,q4,q5,q6,q7⟩:=HQ.out;exact⟨by omega,by omega⟩
   have S2:Aside (SWK enc 2 w0 blk off (A++([]++x :: (Y.take p++(Y.drop p++S)))).toArray wr):=by have e:=S1.out;rw[HQ.out.1]at e;rw[<-dc (Y.take p),dl];exact e
   clear hp HB S1 aw;go_wp2_with fail
   go_loopg [13] p (fun kx s13 wr=>∃(k:Nat) (U V:List α),s13 = .int .i64 k/\a<=k/\k+1<=j/\Hid (V.length<=kx/\U.length+a=k/\k+V.length+1=j/\Y.take p=U++V)/\Aside (SWK enc 2 w0 blk off (A++(U++x :: (V++(Y.drop p++S)))).toArray wr))
   case atStart=>
    have hl:(Y.take p).length=p:=by rw[dw];have:=HP.out.2;omega
    have q:=HP.out.1;exact⟨a,[],Y.take p,rfl,de _,by omega,⟨by omega,by simp,by omega,rfl⟩,S2⟩
   case round=>
    clear S2;obtain⟨k,U,V,rfl,hak,hkj,HU,S1⟩:=hrel
    cases V with
    | nil=>
     have aC:¬(k:Int)<(j:Int) - 1:=by have:=HU.out.2.2.1;simp only[da]at this;omega
     have e2:SWK enc 2 w0 blk off (A++(mrg (ltOf cf) [x] Y++S)).toArray wr:=by have e:=S1.out;have q:=HU.out.2.2.2;rw[dn]at q;rw[HE.out,q];simpa using e
     have S2:Aside (SWK enc 2 w0 blk off (A++(mrg (ltOf cf) [x] Y++S)).toArray wr):=e2;clear e2;clear S1;go_wp2_with fail
     (try simp only[Exit.inBlock,Exit.then]);refine bodyPost_ret (results_none rfl _ _ _) rfl ?_
     exact⟨rfl,S2.out⟩
    | cons v V=>
     obtain⟨am,ax,ah,ad⟩:=HU.out;simp only[db]at am ah;have aC:(k:Int)<(j:Int) - 1:=by omega
     obtain⟨q1,q2,q3,q4,q5,q6,q7⟩:=HQ.out
     have HN:Hid (swp (A++(U++x :: (v :: V++(Y.drop p++S)))).toArray (k) (k+1)=(A++((U ++ [v])++x :: (V++(Y.drop p++S)))).toArray):=by
      show _=_
      rw[show A++(U++x :: (v :: V++(Y.drop p++S)))=(A++U)++x :: ([]++v :: (V++(Y.drop p++S))) by simp,Kej (by simp only[Jd];omega) (by simp only[Jd,da];omega)];simp
     have av:Hid (V.length<=gk - 1/\(U ++ [v]).length+a=k+1/\k+1+V.length+1=j/\Y.take p=(U ++ [v])++V):=⟨by omega,by simp only[Jd,db,da];omega,by omega,by rw[ad];simp⟩;have hgk:0<gk:=by omega
     have aa:(A++(U++x :: (v :: V++(Y.drop p++S)))).toArray.size=N:=by
      have hl:(Y.take p).length=U.length+(V.length+1):=by rw[ad];simp
      have hl2:(Y.take p).length+(Y.drop p).length=Y.length:=by rw[<-Jd,dl]
      simp only[dd,Jd,db];omega
     have hN:=aq.out;obtain⟨dm,ao⟩:=jG ((A++(U++x :: (v :: V++(Y.drop p++S)))).toArray);rw[<-ao]at HN S1 aa;clear ao HU am ax ah ad q1 q2 q3 q4 q5 q6 q7;go_wp2_with fail
     have eat:((k:Int)).toNat=k:=by omega
     have pat:(0:Int)<=(k:Int):=by omega
     have bat:(k:Int)<(N:Int):=by omega
     have rat:dW.wrap ((k:Int))=(k:Int):=by rw[dV];omega
     have ect:((k:Int)+1).toNat=k+1:=by omega
     have pct:(0:Int)<=(k:Int)+1:=by omega
     have bct:(k:Int)+1<(N:Int):=by omega
     have rct:dW.wrap ((k:Int)+1)=(k:Int)+1:=by rw[dV];omega
     have S2:Aside (SWK enc 2 w0 blk off (swp dm (k) (k+1)) ((wr.drew.setCells blk (off+(k)*2) (enc dm[k+1]!)).setCells blk (off+(k+1)*2) (enc dm[k]!))):=S1.out.swapped R (k) (k+1) (by omega) (by omega);have af:eb prog (loadCells ⟨blk,off+(k)*2,none⟩ 2) wr.drew = .ok (enc dm[k]!).toArray wr.drew:=S1.out.ld1 R (by omega) prog (k) (by omega);have an:eb prog (loadCells ⟨blk,off+(k+1)*2,none⟩ 2) wr.drew = .ok (enc dm[k+1]!).toArray wr.drew:=S1.out.ld1 R (by omega) prog (k+1) (by omega);have ai:=S1.out.st1 R (by omega) prog (k) (by omega) dm[k+1]!;have ae:=S1.out.st2 R (by omega) prog (k) (k+1) (by omega) (by omega) dm[k+1]! dm[k]!;have az:(enc dm[k]!).length=2:=R.hk _;have aB:(enc dm[k+1]!).length=2:=R.hk _;generalize enc dm[k]! = cIt at S2 af ae az;generalize enc dm[k+1]! = cJt at S2 an ai ae aB;clear S1 aa hN;go_wp2_with fail
     go_big_region_o
     clear af an ai ae;generalize (wr.drew.setCells blk (off+(k)*2) cJt).setCells blk (off+(k+1)*2) cIt=w2 at S2 |-;rw[HN.out]at S2;go_wp2
     go_roundg (gk - 1)
     case measure=>omega
     case rel=>exact⟨k+1,U ++ [v],V,by first | rfl | go_num,by omega,by omega,av,S2⟩
theorem Krf (SW:SWO (ltOf cf)) (eg:∀args w,(callFunc g args).run prog w = .ok (.enter g args) w) (hcmp:CmpLays prog g cb enc 2 cf blk off d0.size w0) (R:RowK enc 2 w0 blk off d0) (hN:d0.size=N) (hsz:N<4611686018427387904) (A:List α) (y:α) (X S:List α) (a m b:Nat) (w:World) (hl:A.length+X.length+1+S.length=N) (ha:a=A.length) (hm:m=a+X.length) (hb:b=m+1) (hX0:1<X.length) (hX:(X.Pairwise fun a b=>ltOf cf b a=false))
  (S0:SWK enc 2 w0 blk off (A++(X++([y]++S))).toArray w) :
  Calls prog 225 #[.slice (some ⟨blk,off,none⟩) N cap,.int .i64 a,.int .i64 m,.int .i64 b,.func (.func g) #[] cb] w fun e w'=>e = .returned (.tuple #[])/\SWK enc 2 w0 blk off (A++(mrg (ltOf cf) X [y]++S)).toArray w':=by
 have mixed:prog.follows .mixedOrders=true:=by kernel_rfl
 have HC:Aside _:=hcmp;have hmb:(b:Int) - (m:Int)=1:=by omega
 have dma:(((m:Int) - (a:Int)) == 1)=false:=by simp;omega
 have hbN:b<=N:=by omega
 have ham:a<m:=by omega
 have aw:m<b:=by omega
 obtain⟨dk,ab⟩:=jG ((A++(X++([y]++S))).toArray);have aa:dk.size=N:=by rw[ab];simp only[dd,Jd,db,da];omega
 have DA:Hid (dk[m]! = y):=by
  show _=_
  rw[ab,Kds (A:=A) (X:=X) (Y:=[y]) (T:=S) (i:=0) (by simp) (by omega)];rfl
 have DX:Hid (∀t,a<=t->t<m->dk[t]! = X[t - a]!):=by intro t h1 h2;rw[ab,Kdp (A:=A) (X:=X) (T:=[y]++S) (i:=t - a) (by omega) (by omega)]
 have HQ:Hid (dk=(A++(X++([y]++S))).toArray/\d0.size=N/\A.length+X.length+1+S.length=N/\a=A.length/\m=a+X.length/\b=m+1/\(X.Pairwise fun a b=>ltOf cf b a=false)):=⟨ab,hN,hl,ha,hm,hb,hX⟩;have aq:Hid (d0.size=N):=hN;rw[<-ab]at S0;have S1:Aside (SWK enc 2 w0 blk off dk w):=S0;have aE:Hid (dk.size=N):=aa;clear S0 ab hl ha hm hb hX hcmp hN aa;go_enter func225,ntmps225
 go_wp2
 go_loopg [14,15] (m - a) (fun kx s10 s11 wr=>∃(i j:Nat),s10 = .int .i64 i/\s11 = .int .i64 j/\a<=i/\i<=j/\j<=m/\j - i<=kx/\Hid ((i=a\/ltOf cf y X[i - a - 1]! = false)/\(j=m\/ltOf cf y X[j - a]! = true))/\Aside (SWK enc 2 w0 blk off dk wr))
 case atStart=>exact⟨a,m,rfl,rfl,by omega,by omega,by omega,by omega,⟨.inl rfl,.inl rfl⟩,S1⟩
 case round=>
  clear S1;obtain⟨i,j,rfl,rfl,ay,ax,aA,hk,HB,S1⟩:=hrel;rcases dj i j with hlt | hge
  .have hlz:(i:Int)<(j:Int):=by omega
   obtain⟨h,hh⟩:=jG ((i+j) / 2);have hm2:(((i:Int)+(j:Int)) / 2)=(h:Int):=by omega
   have hih:i<=h:=by omega
   have hjh:h<j:=by omega
   clear hh;obtain⟨x,hx⟩:=jG (X[h - a]!);have aj:dk[m]! = y:=DA.out;have ai:dk[h]! = x:=by rw[hx];exact DX.out h (by omega) (by omega)
   have aa:=aE.out;have hN:=aq.out;obtain⟨L,hL⟩:=jF (ltOf cf y x);have HL:=ec hL;have HX:=ec hx;clear hx;obtain⟨eac,pac,bac,rac⟩:=ixf (i:=m) (N:=N) (by omega) (by omega);obtain⟨ecc,pcc,bcc,rcc⟩:=ixf (i:=h) (N:=N) (by omega) (by omega);have ag:∀n os,eb prog (loadCells ⟨blk,off+(m)*2,none⟩ 2) (grow (wr.drewN n) os) = .ok (enc dk[m]!).toArray (grow (wr.drewN n) os):=S1.out.ld R (by omega) prog (m) (by omega);have ap:∀n os,eb prog (loadCells ⟨blk,off+(h)*2,none⟩ 2) (grow (wr.drewN n) os) = .ok (enc dk[h]!).toArray (grow (wr.drewN n) os):=S1.out.ld R (by omega) prog (h) (by omega);rw[aj]at ag;rw[ai]at ap;have ak:=S1.out.cmp HC.out (by omega) y x;have hdc:decide (cf y x<0)=L:=hL;go_wp2_with fail
   go_quiet_grown (first | (go_at_fn g;refine ZV (ak _ _)))
   have S2:Aside (SWK enc 2 w0 blk off dk (grow (wr.drewN nq) osq)):=S1.out.grown nq osq;clear aa hN ai aj hL ag ap ak S1;generalize grow (wr.drewN nq) osq=w2 at S2 |-;clear nq osq
   cases L with
   | false=>
    have ac:Hid ((h+1=a\/ltOf cf y X[h+1 - a - 1]! = false)/\(j=m\/ltOf cf y X[j - a]! = true)):=⟨.inr (by rw[show h+1 - a - 1=h - a by omega,<-HX.out];exact HL.out),HB.out.2⟩;clear HB HX HL;go_wp2_with fail
    go_roundg (j - (h+1))
    case measure=>omega
    case rel=>exact⟨h+1,j,by first | rfl | go_num,rfl,by omega,by omega,aA,by omega,ac,S2⟩
   | true=>
    have ac:Hid ((i=a\/ltOf cf y X[i - a - 1]! = false)/\(h=m\/ltOf cf y X[h - a]! = true)):=⟨HB.out.1,.inr (by rw[<-HX.out];exact HL.out)⟩;clear HB HX HL;go_wp2_with fail
    go_roundg (h - i)
    case measure=>omega
    case rel=>exact⟨i,h,rfl,rfl,ay,by omega,by omega,by omega,ac,S2⟩
  .have he:j=i:=by omega
   subst he;have ar:¬(j:Int)<(j:Int):=by omega
   obtain⟨p,hp⟩:=jG (j - a)
   have HE:Hid (mrg (ltOf cf) X [y]=X.take p++y :: X.drop p):=by obtain⟨q1,q2,q3,q4,q5,q6,q7⟩:=HQ.out;refine Kgm SW q7 p (by omega) (HB.out.1.imp (fun h=>by omega) fun h=>by rw[hp];exact h) (HB.out.2.imp (fun h=>by omega) fun h=>by rw[hp];exact h)
   have HP:Hid (j=a+p/\p<=X.length):=by obtain⟨q1,q2,q3,q4,q5,q6,q7⟩:=HQ.out;exact⟨by omega,by omega⟩
   have S2:Aside (SWK enc 2 w0 blk off (A++(X.take p++(X.drop p++y :: ([]++S)))).toArray wr):=by have e:=S1.out;rw[HQ.out.1]at e;rw[<-dc (X.take p),dl];exact e
   clear hp HB S1 ax;go_wp2_with fail
   go_loopg [17] (X.length - p) (fun kx s13 wr=>∃(k:Nat) (U V:List α),s13 = .int .i64 k/\j<=k/\k<=m/\Hid (U.length<=kx/\j+U.length=k/\X.drop p=U++V)/\Aside (SWK enc 2 w0 blk off (A++(X.take p++(U++y :: (V++S)))).toArray wr))
   case atStart=>
    have hl:(X.drop p).length=X.length - p:=by rw[dS]
    have q:=HP.out;have q2:=HQ.out.2.2.2.2.1;exact⟨m,X.drop p,[],rfl,by omega,de _,⟨by omega,by omega,by simp⟩,S2⟩
   case round=>
    clear S2;obtain⟨k,U,V,rfl,hak,hkj,HU,S1⟩:=hrel;rcases List.eq_nil_or_concat U with rfl | ⟨U',u,rfl⟩
    .have aD:¬(j:Int)<(k:Int):=by have:=HU.out.2.1;simp only[da]at this;omega
     have e2:SWK enc 2 w0 blk off (A++(mrg (ltOf cf) X [y]++S)).toArray wr:=by have e:=S1.out;have q:=HU.out.2.2;rw[List.nil_append]at q;rw[HE.out,q];simpa using e
     have S2:Aside (SWK enc 2 w0 blk off (A++(mrg (ltOf cf) X [y]++S)).toArray wr):=e2;clear S1 e2;go_wp2_with fail
     (try simp only[Exit.inBlock,Exit.then]);refine bodyPost_ret (results_none rfl _ _ _) rfl ?_
     exact⟨rfl,S2.out⟩
    .obtain ⟨al,am,ad⟩:=HU.out;simp only[dJ,Jd,db,da]at al am;obtain⟨kp,rfl⟩:∃kp,k=kp+1:=⟨k - 1,by omega⟩;have aD:(j:Int)<(kp:Int)+1:=by omega
     have hjk:j<=kp:=by omega
     obtain⟨q1,q2,q3,q4,q5,q6,q7⟩:=HQ.out;obtain⟨p1,p2⟩:=HP.out;have aC:(X.take p).length=p:=by rw[dw];omega
     have HN:Hid (swp (A++(X.take p++(U'.concat u++y :: (V++S)))).toArray (kp+1) (kp)=(A++(X.take p++(U'++y :: (u :: V++S)))).toArray):=by
      show _=_
      rw[show A++(X.take p++(U'.concat u++y :: (V++S)))=(A++(X.take p++U'))++u :: ([]++y :: (V++S)) by simp,Kgy (i:=kp) (by simp only[Jd];omega) (by simp only[Jd,da];omega)];simp
     have av:Hid (U'.length<=gk - 1/\j+U'.length=kp/\X.drop p=U'++(u :: V)):=⟨by omega,by omega,by rw[ad];simp⟩;have hgk:0<gk:=by omega
     have aa:(A++(X.take p++(U'.concat u++y :: (V++S)))).toArray.size=N:=by
      have hl:(X.drop p).length=U'.length+1+V.length:=by rw[ad];simp;omega
      have hl2:(X.take p).length+(X.drop p).length=X.length:=by rw[<-Jd,dl]
      simp only[dJ,dd,Jd,db,da];omega
     have hN:=aq.out;obtain⟨dm,ao⟩:=jG ((A++(X.take p++(U'.concat u++y :: (V++S)))).toArray);rw[<-ao]at HN S1 aa;clear ao HU al am ad q1 q2 q3 q4 q5 q6 q7 p1 p2 aC;go_wp2_with fail
     have eat:((kp:Int)+1).toNat=kp+1:=by omega
     have pat:(0:Int)<=(kp:Int)+1:=by omega
     have bat:(kp:Int)+1<(N:Int):=by omega
     have rat:dW.wrap ((kp:Int)+1)=(kp:Int)+1:=by rw[dV];omega
     have ect:((kp:Int)).toNat=kp:=by omega
     have pct:(0:Int)<=(kp:Int):=by omega
     have bct:(kp:Int)<(N:Int):=by omega
     have rct:dW.wrap ((kp:Int))=(kp:Int):=by rw[dV];omega
     have S2:Aside (SWK enc 2 w0 blk off (swp dm (kp+1) (kp)) ((wr.drew.setCells blk (off+(kp+1)*2) (enc dm[kp]!)).setCells blk (off+(kp)*2) (enc dm[kp+1]!))):=S1.out.swapped R (kp+1) (kp) (by omega) (by omega);have af:eb prog (loadCells ⟨blk,off+(kp+1)*2,none⟩ 2) wr.drew = .ok (enc dm[kp+1]!).toArray wr.drew:=S1.out.ld1 R (by omega) prog (kp+1) (by omega);have an:eb prog (loadCells ⟨blk,off+(kp)*2,none⟩ 2) wr.drew = .ok (enc dm[kp]!).toArray wr.drew:=S1.out.ld1 R (by omega) prog (kp) (by omega);have ah:=S1.out.st1 R (by omega) prog (kp+1) (by omega) dm[kp]!;have ae:=S1.out.st2 R (by omega) prog (kp+1) (kp) (by omega) (by omega) dm[kp]! dm[kp+1]!;have az:(enc dm[kp+1]!).length=2:=R.hk _;have aB:(enc dm[kp]!).length=2:=R.hk _;generalize enc dm[kp+1]! = cIt at S2 af ae az;generalize enc dm[kp]! = cJt at S2 an ah ae aB;clear S1 aa hN;go_wp2_with fail
     go_big_region_o
     clear af an ah ae;generalize (wr.drew.setCells blk (off+(kp+1)*2) cJt).setCells blk (off+(kp)*2) cIt=w2 at S2 |-;rw[HN.out]at S2;go_wp2
     go_roundg (gk - 1)
     case measure=>omega
     case rel=>exact⟨kp,U',u :: V,by first | rfl | go_num,by omega,by omega,av,S2⟩
theorem Kri (SW:SWO (ltOf cf)) (eg:∀args w,(callFunc g args).run prog w = .ok (.enter g args) w) (hcmp:CmpLays prog g cb enc 2 cf blk off d0.size w0) (R:RowK enc 2 w0 blk off d0) (hN:d0.size=N) (hsz:N<4611686018427387904) (nn:Nat) (IH:∀(A X Y S:List α) (a m b:Nat) (w:World),X.length+Y.length<=nn->A.length+X.length+Y.length+S.length=N->a=A.length->m=a+X.length->b=m+Y.length->0<X.length->0<Y.length->(X.Pairwise fun a b=>ltOf cf b a=false)->(Y.Pairwise fun a b=>ltOf cf b a=false)->SWK enc 2 w0 blk off (A++(X++(Y++S))).toArray w->Calls prog 225 #[.slice (some ⟨blk,off,none⟩) N cap,.int .i64 a,.int .i64 m,.int .i64 b,.func (.func g) #[] cb] w fun e w'=>e = .returned (.tuple #[])/\SWK enc 2 w0 blk off (A++(mrg (ltOf cf) X Y++S)).toArray w')
  (A X Y S:List α) (a m b:Nat) (w:World) (hnn:X.length+Y.length<=nn+1) (hl:A.length+X.length+Y.length+S.length=N) (ha:a=A.length) (hm:m=a+X.length) (hb:b=m+Y.length) (X2:1<X.length) (Y2:1<Y.length) (hX:(X.Pairwise fun a b=>ltOf cf b a=false)) (hY:(Y.Pairwise fun a b=>ltOf cf b a=false))
  (S0:SWK enc 2 w0 blk off (A++(X++(Y++S))).toArray w) :
  Calls prog 225 #[.slice (some ⟨blk,off,none⟩) N cap,.int .i64 a,.int .i64 m,.int .i64 b,.func (.func g) #[] cb] w fun e w'=>e = .returned (.tuple #[])/\SWK enc 2 w0 blk off (A++(mrg (ltOf cf) X Y++S)).toArray w':=by
 have mixed:prog.follows .mixedOrders=true:=by kernel_rfl
 have HC:Aside _:=hcmp;have ap:Aside _:=IH;have dma:(((m:Int) - (a:Int)) == 1)=false:=by simp;omega
 have dbm:(((b:Int) - (m:Int)) == 1)=false:=by simp;omega
 have hbN:b<=N:=by omega
 have ham:a+2<=m:=by omega
 have hmb:m+2<=b:=by omega
 obtain⟨mid,av⟩:=jG ((a+b) / 2);have aC:((a:Int)+(b:Int)) / 2=(mid:Int):=by omega
 have ak:2*mid<=a+b:=by omega
 have ah:a+b<=2*mid+1:=by omega
 obtain⟨dk,al⟩:=jG ((A++(X++(Y++S))).toArray);have ac:dk.size=N:=by rw[al];simp only[dd,Jd];omega
 have aw:Hid (d0.size=N):=hN;rw[<-al]at S0;have S1:Aside (SWK enc 2 w0 blk off dk w):=S0;have aD:Hid (dk.size=N):=ac
 have ag:∃lo hi:Nat,lo<=hi/\a<=lo/\hi<=m/\hi<=mid/\mid+m<=lo+b/\((mid<m/\lo+b=mid+m/\hi=mid)\/(m<=mid/\lo=a/\hi=m)):=by
  rcases dj mid m with h | h
  .exact ⟨mid+m - b,mid,by omega,by omega,by omega,by omega,by omega,.inl ⟨h,by omega,rfl⟩⟩
  .exact ⟨a,m,by omega,by omega,by omega,by omega,by omega,.inr ⟨h,rfl,rfl⟩⟩
 obtain⟨lo,hi,az,aB,aE,ae,ai,ab⟩:=ag;have ad:Hid ((mid<m/\lo+b=mid+m/\hi=mid)\/(m<=mid/\lo=a/\hi=m)):=ab;have af:Hid _:=fun (e j:Nat)=>@Kmc _ _ (ltOf cf) A X Y S dk a m b mid lo hi e j nn N SW al hl ha hm hb hX hY hnn X2 Y2 ak ah ab
 clear S0 al hl ha hm hb hX hY hnn hcmp hN ac av IH X2 Y2 ab;go_enter func225,ntmps225
 go_upto_if 140 with fail
 go_cut [20,21] from 138 to 146 (fun s20 s21 wz=>∃l h:Int,s20 = .int .i64 l/\s21 = .int .i64 h/\l=(lo:Int)/\h=(hi:Int)/\wz=w)
 case first=>
  rcases ad.out with ⟨hc1,hc2,hc3⟩ | ⟨hc1,hc2,hc3⟩
  .have aI:(mid:Int)<(m:Int):=by omega
   have aj:Hid (lo+b=mid+m/\hi=mid):=⟨hc2,hc3⟩;clear hc2 hc3;go_wp2_with fail
   go_meet
   exact⟨_,_,rfl,rfl,by have:=aj.out;omega,by have:=aj.out;omega,rfl⟩
  .have aI:¬(mid:Int)<(m:Int):=by omega
   have aj:Hid (lo=a/\hi=m):=⟨hc2,hc3⟩;clear hc2 hc3;go_wp2_with fail
   go_meet
   exact⟨_,_,rfl,rfl,by have:=aj.out;omega,by have:=aj.out;omega,rfl⟩
 case rest=>
  obtain⟨l0,h0,rfl,rfl,aF,aH,aa⟩:=hcut;have aa:=aa.symm;subst aa;subst aF;subst aH;go_wp2_with fail
  go_loopg [20,21] (hi - lo) (fun kx s10 s11 wr=>∃(i j:Nat),s10 = .int .i64 i/\s11 = .int .i64 j/\lo<=i/\i<=j/\j<=hi/\j - i<=kx/\Hid ((i=lo\/ltOf cf dk[mid+m - i]! dk[i - 1]! = false)/\(j=hi\/ltOf cf dk[mid+m - 1 - j]! dk[j]! = true))/\Aside (SWK enc 2 w0 blk off dk wr))
  case atStart=>exact⟨lo,hi,rfl,rfl,de _,az,de _,de _,⟨.inl rfl,.inl rfl⟩,S1⟩
  case round=>
   clear S1;obtain⟨i,j,rfl,rfl,aq,aJ,ar,hk,HB,S1⟩:=hrel;rcases dj i j with hlt | hge
   .have hlz:(i:Int)<(j:Int):=by omega
    obtain⟨h,hh⟩:=jG ((i+j) / 2);have hm2:(((i:Int)+(j:Int)) / 2)=(h:Int):=by omega
    have hih:i<=h:=by omega
    have hjh:h<j:=by omega
    clear hh;obtain⟨q,hq⟩:=jG (mid+m - 1 - h);have aL:(mid:Int)+(m:Int) - 1 - (h:Int)=(q:Int):=by omega
    have aN:q<N:=by omega
    have aM:h<N:=by omega
    obtain⟨y,hy⟩:=jG (dk[q]!);obtain⟨x,hx⟩:=jG (dk[h]!);have ao:dk[q]! = y:=hy.symm;have an:dk[h]! = x:=hx.symm;have ac:=aD.out;have hN:=aw.out;obtain⟨L,hL⟩:=jF (ltOf cf y x);have HL:Hid (ltOf cf y x=L/\q=mid+m - 1 - h/\dk[q]! = y/\dk[h]! = x):=⟨hL,hq,ao,an⟩;clear hy hx hq;obtain⟨eac,pac,bac,rac⟩:=ixf (i:=q) (N:=N) (by omega) (by omega);obtain⟨ecc,pcc,bcc,rcc⟩:=ixf (i:=h) (N:=N) (by omega) (by omega);have ax:∀n os,eb prog (loadCells ⟨blk,off+(q)*2,none⟩ 2) (grow (wr.drewN n) os) = .ok (enc dk[q]!).toArray (grow (wr.drewN n) os):=S1.out.ld R (by omega) prog (q) (by omega);have aA:∀n os,eb prog (loadCells ⟨blk,off+(h)*2,none⟩ 2) (grow (wr.drewN n) os) = .ok (enc dk[h]!).toArray (grow (wr.drewN n) os):=S1.out.ld R (by omega) prog (h) (by omega);rw[ao]at ax;rw[an]at aA;have ay:=S1.out.cmp HC.out (by omega) y x;have hdc:decide (cf y x<0)=L:=hL;go_wp2_with fail
    go_quiet_grown (first | (go_at_fn g;refine ZV (ay _ _)))
    have S2:Aside (SWK enc 2 w0 blk off dk (grow (wr.drewN nq) osq)):=S1.out.grown nq osq;clear ac hN an ao hL aN aM aL ax aA ay S1;generalize grow (wr.drewN nq) osq=w2 at S2 |-;clear nq osq
    cases L with
    | false=>
     have am:Hid ((h+1=lo\/ltOf cf dk[mid+m - (h+1)]! dk[h+1 - 1]! = false)/\(j=hi\/ltOf cf dk[mid+m - 1 - j]! dk[j]! = true)):=⟨.inr (by obtain⟨h1,h2,h3,h4⟩:=HL.out;rw[show mid+m - (h+1)=q by omega,Nat.add_sub_cancel,h3,h4];exact h1),HB.out.2⟩;clear HB HL;go_wp2_with fail
     go_roundg (j - (h+1))
     case measure=>omega
     case rel=>exact⟨h+1,j,by first | rfl | go_num,rfl,by omega,by omega,ar,by omega,am,S2⟩
    | true=>
     have am:Hid ((i=lo\/ltOf cf dk[mid+m - i]! dk[i - 1]! = false)/\(h=hi\/ltOf cf dk[mid+m - 1 - h]! dk[h]! = true)):=⟨HB.out.1,.inr (by obtain⟨h1,h2,h3,h4⟩:=HL.out;rw[<-h2,h3,h4];exact h1)⟩;clear HB HL;go_wp2_with fail
     go_roundg (h - i)
     case measure=>omega
     case rel=>exact⟨i,h,rfl,rfl,aq,by omega,by omega,by omega,am,S2⟩
   .have he:j=i:=by omega
    subst he;have aG:¬(j:Int)<(j:Int):=by omega
    obtain⟨e,he⟩:=jG (mid+m - j);have he2:(mid:Int)+(m:Int) - (j:Int)=(e:Int):=by omega
    have hN:=aw.out;obtain⟨X1,X2,Y1,Y2,m1,m2,m3,m4,m5,m6,m7,m8,m9,mA,mB,mC,mD,mE,mF⟩:=af.out e j he aq ar aB aE ae ai HB.out.1 HB.out.2;have aK:=Kml (ltOf cf) X1 Y1;have T0:Aside (SWK enc 2 w0 blk off (A++(X1++(X2++(Y1++(Y2++S))))).toArray wr):=by have:=S1.out;rw[m1]at this;exact this
    have C1:Aside (j<m->m<e->∀W,SWK enc 2 w0 blk off (A++(X1++(X2++(Y1++(Y2++S))))).toArray W->Calls prog 255 #[.slice (some ⟨blk,off,none⟩) N cap,.int .i64 j,.int .i64 m,.int .i64 e,.func (.func g) #[] cb] W fun e w'=>e = .returned (.tuple #[])/\SWK enc 2 w0 blk off (A++(X1++(Y1++(X2++(Y2++S))))).toArray w'):=fun g1 g2 W h=>by have:=Ktq (cap:=cap) (g:=g) (cb:=cb) (A++X1) X2 Y1 (Y2++S) j m e W R hN (by simp only[Jd];omega) (by simp only[Jd];omega) (by simp only[Jd];omega) (by simp only[Jd];omega) (by omega) (by omega) hsz (by rw[dc];exact h);rw[dc]at this;exact this
    have C2:Aside (a<j->j<mid->∀W,SWK enc 2 w0 blk off (A++(X1++(Y1++(X2++(Y2++S))))).toArray W->Calls prog 225 #[.slice (some ⟨blk,off,none⟩) N cap,.int .i64 a,.int .i64 j,.int .i64 mid,.func (.func g) #[] cb] W fun e w'=>e = .returned (.tuple #[])/\SWK enc 2 w0 blk off (A++(mrg (ltOf cf) X1 Y1++(X2++(Y2++S)))).toArray w'):=fun g1 g2 W h=>
     ap.out A X1 Y1 (X2++(Y2++S)) a j mid W (by omega) (by simp only[Jd];omega) (by omega) (by omega) (by omega) (by omega) (by omega) mC mE h
    have C3:Aside (mid<e->e<b->∀W,SWK enc 2 w0 blk off (A++(mrg (ltOf cf) X1 Y1++(X2++(Y2++S)))).toArray W->Calls prog 225 #[.slice (some ⟨blk,off,none⟩) N cap,.int .i64 mid,.int .i64 e,.int .i64 b,.func (.func g) #[] cb] W fun e w'=>e = .returned (.tuple #[])/\SWK enc 2 w0 blk off (A++(mrg (ltOf cf) X Y++S)).toArray w'):=fun g1 g2 W h=>by have:=ap.out (A++mrg (ltOf cf) X1 Y1) X2 Y2 S mid e b W (by omega) (by simp only[Jd];omega) (by simp only[Jd];omega) (by omega) (by omega) (by omega) (by omega) mD mF (by rw[dc];exact h);rw[m2];rw[dc]at this |-;exact this
    have N1:Aside (¬(j<m/\m<e)->A++(X1++(X2++(Y1++(Y2++S))))=A++(X1++(Y1++(X2++(Y2++S))))):=fun h=>Kre (by omega)
    have N2:Aside (¬(a<j/\j<mid)->A++(X1++(Y1++(X2++(Y2++S))))=A++(mrg (ltOf cf) X1 Y1++(X2++(Y2++S)))):=fun h=>Khb _ (by omega)
    have N3:Aside (¬(mid<e/\e<b)->A++(mrg (ltOf cf) X1 Y1++(X2++(Y2++S)))=A++(mrg (ltOf cf) X Y++S)):=fun h=>by rw[m2,dc,<-Khb (A:=mrg (ltOf cf) X1 Y1) _ (by omega)]
    have hjN:j<=N:=by omega
    have heN:e<=N:=by omega
    clear m1 m2 m3 m4 m5 m6 m7 m8 m9 mA mB mC mD mE mF aK hN he HB ad af S1 aJ hk hge ap HC aq ar az aB aE ae ai aD aw;obtain⟨q,hq⟩:∃q:Bool,q=decide (j<m/\m<e):=⟨_,rfl⟩;have HQ:Hid _:=hq;clear hq;go_upto_region 39 with fail
    go_cut [185] from 178 to 184 (fun s wz=>s = .bool q/\wz=wr)
    case first=>
     have hq:=HQ.out
     by_cases g1:j<m
     .have d1:(j:Int)<(m:Int):=by omega
      by_cases g2:m<e
      .have d2:(m:Int)<(e:Int):=by omega
       rw[jL ⟨g1,g2⟩]at hq;subst hq;go_wp2_with fail
       go_meet
       exact⟨rfl,rfl⟩
      .have d2:¬(m:Int)<(e:Int):=by omega
       rw[jJ (fun h=>g2 h.2)]at hq;subst hq;go_wp2_with fail
       go_meet
       exact⟨rfl,rfl⟩
     .have d1:¬(j:Int)<(m:Int):=by omega
      rw[jJ (fun h=>g1 h.1)]at hq;subst hq;go_wp2_with fail
      go_meet
      exact⟨rfl,rfl⟩
    case rest=>
     obtain⟨rfl,aa⟩:=hcut;have aa:=aa.symm;subst aa;go_upto_if 185 with fail
     go_cut [] from 186 to 191 (fun wz=>Aside (SWK enc 2 w0 blk off (A++(X1++(Y1++(X2++(Y2++S))))).toArray wz))
     case first=>
      cases q with
      | true=>
       obtain⟨g1,g2⟩:=jP HQ.out.symm;have D:Aside _:=C1.out g1 g2;clear g1 g2 HQ;go_wp2_with fail
       refine dZ (D.out _ T0.out) ?_;rintro _ w9 ⟨rfl,h1⟩;have T9:Aside _:=h1;clear h1;go_wp2_with fail
       go_meet
       exact T9
      | false=>
       have T9:Aside (SWK enc 2 w0 blk off (A++(X1++(Y1++(X2++(Y2++S))))).toArray wr):=by rw[<-N1.out (jQ HQ.out.symm)];exact T0.out
       clear HQ;go_wp2_with fail
       go_meet
       exact T9
     case rest=>
      have T1:Aside _:=hcut.out;clear hcut HQ T0;obtain⟨w3,rfl⟩:=jG wc;obtain⟨q,hq⟩:∃q:Bool,q=decide (a<j/\j<mid):=⟨_,rfl⟩;have HQ:Hid _:=hq;clear hq;go_upto_region 41 with fail
      go_cut [199] from 192 to 198 (fun s wz=>s = .bool q/\wz=w3)
      case first=>
       have hq:=HQ.out
       by_cases g1:a<j
       .have d1:(a:Int)<(j:Int):=by omega
        by_cases g2:j<mid
        .have d2:(j:Int)<(mid:Int):=by omega
         rw[jL ⟨g1,g2⟩]at hq;subst hq;go_wp2_with fail
         go_meet
         exact⟨rfl,rfl⟩
        .have d2:¬(j:Int)<(mid:Int):=by omega
         rw[jJ (fun h=>g2 h.2)]at hq;subst hq;go_wp2_with fail
         go_meet
         exact⟨rfl,rfl⟩
       .have d1:¬(a:Int)<(j:Int):=by omega
        rw[jJ (fun h=>g1 h.1)]at hq;subst hq;go_wp2_with fail
        go_meet
        exact⟨rfl,rfl⟩
      case rest=>
       obtain⟨rfl,aa⟩:=hcut;have aa:=aa.symm;subst aa;go_upto_if 199 with fail
       go_cut [] from 200 to 205 (fun wz=>Aside (SWK enc 2 w0 blk off (A++(mrg (ltOf cf) X1 Y1++(X2++(Y2++S)))).toArray wz))
       case first=>
        cases q with
        | true=>
         obtain⟨g1,g2⟩:=jP HQ.out.symm;have D:Aside _:=C2.out g1 g2;clear g1 g2 HQ;go_wp2_with fail
         refine dZ (D.out _ T1.out) ?_;rintro _ w9 ⟨rfl,h1⟩;have T9:Aside _:=h1;clear h1;go_wp2_with fail
         go_meet
         exact T9
        | false=>
         have T9:Aside (SWK enc 2 w0 blk off (A++(mrg (ltOf cf) X1 Y1++(X2++(Y2++S)))).toArray w3):=by rw[<-N2.out (jQ HQ.out.symm)];exact T1.out
         clear HQ;go_wp2_with fail
         go_meet
         exact T9
       case rest=>
        have T2:Aside _:=hcut.out;clear hcut HQ T1;obtain⟨w4,rfl⟩:=jG wc;obtain⟨q,hq⟩:∃q:Bool,q=decide (mid<e/\e<b):=⟨_,rfl⟩;have HQ:Hid _:=hq;clear hq;go_upto_region 43 with fail
        go_cut [213] from 206 to 212 (fun s wz=>s = .bool q/\wz=w4)
        case first=>
         have hq:=HQ.out
         by_cases g1:mid<e
         .have d1:(mid:Int)<(e:Int):=by omega
          by_cases g2:e<b
          .have d2:(e:Int)<(b:Int):=by omega
           rw[jL ⟨g1,g2⟩]at hq;subst hq;go_wp2_with fail
           go_meet
           exact⟨rfl,rfl⟩
          .have d2:¬(e:Int)<(b:Int):=by omega
           rw[jJ (fun h=>g2 h.2)]at hq;subst hq;go_wp2_with fail
           go_meet
           exact⟨rfl,rfl⟩
         .have d1:¬(mid:Int)<(e:Int):=by omega
          rw[jJ (fun h=>g1 h.1)]at hq;subst hq;go_wp2_with fail
          go_meet
          exact⟨rfl,rfl⟩
        case rest=>
         obtain⟨rfl,aa⟩:=hcut;have aa:=aa.symm;subst aa
         cases q with
         | true=>
          obtain⟨g1,g2⟩:=jP HQ.out.symm;have D:Aside _:=C3.out g1 g2;clear g1 g2 HQ;go_wp2_with fail
          refine dZ (D.out _ T2.out) ?_;rintro _ w9 ⟨rfl,h1⟩;have T9:Aside _:=h1;clear h1;go_wp2_with fail
          go_end0
          exact⟨rfl,T9.out⟩
         | false=>
          have T9:Aside (SWK enc 2 w0 blk off (A++(mrg (ltOf cf) X Y++S)).toArray w4):=by rw[<-N3.out (jQ HQ.out.symm)];exact T2.out
          clear HQ;go_wp2_with fail
          go_end0
          exact⟨rfl,T9.out⟩
theorem Kil (SW:SWO (ltOf cf)) (eg:∀args w,(callFunc g args).run prog w = .ok (.enter g args) w) (hcmp:CmpLays prog g cb enc 2 cf blk off d0.size w0) (R:RowK enc 2 w0 blk off d0) (hN:d0.size=N) (hsz:N<4611686018427387904):∀(nn:Nat) (A X Y S:List α) (a m b:Nat) (w:World),X.length+Y.length<=nn->A.length+X.length+Y.length+S.length=N->a=A.length->m=a+X.length->b=m+Y.length->0<X.length->0<Y.length->(X.Pairwise fun a b=>ltOf cf b a=false)->(Y.Pairwise fun a b=>ltOf cf b a=false)->SWK enc 2 w0 blk off (A++(X++(Y++S))).toArray w->Calls prog 225 #[.slice (some ⟨blk,off,none⟩) N cap,.int .i64 a,.int .i64 m,.int .i64 b,.func (.func g) #[] cb] w fun e w'=>e = .returned (.tuple #[])/\SWK enc 2 w0 blk off (A++(mrg (ltOf cf) X Y++S)).toArray w'
 | 0,A,X,Y,S,a,m,b,w,h,_,_,_,_,hx,_,_,_,_=>jS h (by omega)
 | nn+1,A,X,Y,S,a,m,b,w,h,hl,ha,hm,hb,hx,hy,hX,hY,S0=>by
  rcases dj 1 X.length with h1 | h1
  .rcases dj 1 Y.length with h2 | h2
   .exact Kri SW eg hcmp R hN hsz nn (Kil SW eg hcmp R hN hsz nn) A X Y S a m b w h hl ha hm hb h1 h2 hX hY S0
   .obtain ⟨y,rfl⟩:∃y,Y = [y]:=dq.1 (by omega);exact Krf SW eg hcmp R hN hsz A y X S a m b w (by simpa using hl) ha hm (by simpa using hb) h1 hX S0
  .obtain ⟨x,rfl⟩:∃x,X = [x]:=dq.1 (by omega);exact Kuc SW eg hcmp R hN hsz A x Y S a m b w (by simpa using hl) ha (by simpa using hm) hb hy hY S0
end
attribute [-go_sem] loadCells
open Go.Shelf Go.RowKit Go.Lib Go.Sort
section
variable {α : Type}[Inhabited α] {enc : α -> List Value}{cf : α -> α -> Int}{d0 : Array α}{w0 : World}{blk off cap g N : Nat}{cb : Array Value}
def Kvw:Go.Shelf.Ren:=⟨fun | 20=>224 | n=>n,fun | 0=>0 | 3=>3 | 4=>4 | 22=>55 | 24=>102 | 25=>225 | n=>n,fun | n=>n⟩
theorem Qgi:SlLaysF0.n20 prog Kvw:={
 mixed:=by kernel_rfl
 f20:=⟨Tryz.f224.name,by decide,func224.trans (jR some (by kernel_rfl))⟩
 t0:=underlying0
 a0:=isAgg0
 z0:=sizeOf0
 v0:=zeroValue0
 t3:=underlying3
 a3:=isAgg3
 z3:=sizeOf3
 v3:=zeroValue3
 t4:=underlying4
 a4:=isAgg4
 z4:=sizeOf4
 v4:=zeroValue4
 t22:=underlying55
 a22:=isAgg55
 z22:=sizeOf55
 v22:=zeroValue55
 t25:=underlying225
 a25:=isAgg225
 z25:=sizeOf225
 v25:=zeroValue225 }
theorem Ktl (SW:SWO (ltOf cf)) (eg:∀args w,(callFunc g args).run prog w = .ok (.enter g args) w) (hcmp:CmpLays prog g cb enc 2 cf blk off d0.size w0) (R:RowK enc 2 w0 blk off d0) (hN:d0.size=N) (hsz:N<1152921504606846976) (A Y S:List α) (a b:Nat) (w:World) (hl:A.length+Y.length+S.length=N) (ha:a=A.length) (hb:b=a+Y.length) (S0:SWK enc 2 w0 blk off (A++(Y++S)).toArray w) :
  Calls prog 224 #[.slice (some ⟨blk,off,none⟩) N cap,.int .i64 a,.int .i64 b,.func (.func g) #[] cb] w fun e w'=>e = .returned (.tuple #[])/\∃Z,Stab (ltOf cf) Y Z/\SWK enc 2 w0 blk off (A++(Z++S)).toArray w':=by
 have aa:(A++(Y++S)).toArray.size=N:=by simp only[dd,Jd];omega
 have h:=AnyQ.insertionSortCmpFunc Qgi 2 isAgg102 sizeOf102 enc R.hk R.h1 cf g cb blk off cap a b (A++(Y++S)).toArray w eg ?_ (S0.holds R.hblk R.hH (by rw[aa,hN])) (S0.lt R.hblk) (by omega) (by rw[aa];omega) (by rw[aa];omega)
 .rw[aa]at h;refine dZ h ?_;rintro _ w' ⟨rfl,n,os,rfl⟩;refine⟨rfl,?_⟩;rcases dr Y.length with h0 | h0
  .have:Y = []:=df h0;subst this;refine⟨[],Stab.nil,?_⟩;have e:=Kfq (lt:=ltOf cf) A S;rw[show b=A.length by simpa[ha]using hb,ha,show A++([]++S)=A++S from rfl,e];exact S0.on R.hblk _ _ _ rfl
  .obtain ⟨Z,hz,e⟩:=Kfh SW A Y S h0;refine⟨Z,hz,?_⟩;rw[hb,ha,e];exact S0.on R.hblk _ _ _ (by simp only[dd,Jd,hz.len])
 .intro m os dk hdk x y;obtain⟨m2,ab,hw⟩:=S0.on R.hblk m dk os (by rw[hdk]);rw[hw];exact hcmp m2 ab dk (by rw[hdk,aa,hN]) x y
theorem Kty (SW:SWO (ltOf cf)) (eg:∀args w,(callFunc g args).run prog w = .ok (.enter g args) w) (hcmp:CmpLays prog g cb enc 2 cf blk off d0.size w0) (R:RowK enc 2 w0 blk off d0) (hN:d0.size=N) (hsz:N<1152921504606846976) (xs:List α) (w:World) (hl:xs.length=N) (S0:SWK enc 2 w0 blk off xs.toArray w) :
  Calls prog 180 #[.slice (some ⟨blk,off,none⟩) N cap,.int .i64 N,.func (.func g) #[] cb] w fun e w'=>e = .returned (.tuple #[])/\∃ys,Stab (ltOf cf) xs ys/\SWK enc 2 w0 blk off ys.toArray w':=by
 have mixed:prog.follows .mixedOrders=true:=by kernel_rfl
 have S1:Aside (SWK enc 2 w0 blk off ([]++xs).toArray w):=S0;have HN:Hid (d0.size=N/\xs.length=N):=⟨hN,hl⟩;have hb:=R.hblk;have ag:=Ktl (cap:=cap) SW eg hcmp R hN hsz;have ah:=Kil (cap:=cap) SW eg hcmp R hN (by omega);have HI:Aside _:=ag;have HS:Aside _:=ah;clear S0 hl hN hb ag ah hcmp;go_enter func180,ntmps180
 go_wp2
 go_loopg [7,8] (N+1) (fun kx s7 s8 wr=>∃(a b:Nat) (xZ xR Z:List α),s7 = .int .i64 a/\s8 = .int .i64 b/\a<=N/\a<b/\b<=N+20/\N+1<=a+kx/\Hid (b=a+20/\xs=xZ++xR/\xZ.length=a/\Whole (ltOf cf) 20 xZ Z)/\Aside (SWK enc 2 w0 blk off (Z++xR).toArray wr))
 case atStart=>exact⟨0,20,[],xs,[],rfl,rfl,by omega,by omega,by omega,by omega,⟨rfl,rfl,rfl,.nil⟩,S1⟩
 case round=>
  clear S1;obtain⟨a,b,xZ,xR,Z,rfl,rfl,an,ao,ap,hk,HB,S1⟩:=hrel;have hZ:Z.length=a:=by rw[HB.out.2.2.2.len];exact HB.out.2.2.1
  have hR:a+xR.length=N:=by have q:=HB.out;have q2:=HN.out.2;rw[q.2.1,Jd]at q2;omega
  rcases dj N b with hlt | hge
  .have ai:¬(b:Int)<=(N:Int):=by omega
   have hc:=HI.out Z xR [] a N wr (by simp only[da];omega) (by omega) (by omega) (by rw[dn];exact S1.out);have HC:Aside _:=hc;clear hc S1 hZ hR;go_wp2_with fail
   refine dZ HC.out ?_;rintro _ w3 ⟨rfl,z1,ae,h3⟩
   have aj:Hid (Blks (ltOf cf) 20 xs (Z++z1)):=by
    have q:=HB.out;have q2:=HN.out;have q4:xZ.length+xR.length=N:=by rw[<-Jd,<-q.2.1];exact q2.2
    show Blks _ _ _ _
    rw[q.2.1];exact q.2.2.2.close (.last (by omega) ae)
   rw[dn]at h3;have S1:Aside (SWK enc 2 w0 blk off (Z++z1).toArray w3):=h3;clear h3 ae HB HC hk ao ap an hlt ai;generalize Z++z1=ys0 at S1 aj;clear Z z1 xZ xR;go_wp2_with fail
   go_loopg [6] (N+1) (fun kx s6 wr=>∃(c:Nat) (ys:List α),s6 = .int .i64 c/\0<c/\c<=2*N+20/\N+1<=c+kx/\Hid (Blks (ltOf cf) c xs ys)/\Aside (SWK enc 2 w0 blk off ys.toArray wr))
   case atStart=>exact⟨20,ys0,rfl,by omega,by omega,by omega,aj,S1⟩
   case round=>
    clear S1 aj;obtain⟨c,ys,rfl,al,hcN,hk,HB,S1⟩:=hrel;rcases dj c N with hlt | hge
    .have ai:(c:Int)<(N:Int):=by omega
     obtain⟨gk0,ad⟩:=jG gk;rw[<-ad]at hk;have am:Hid (gk0=gk):=ad;clear ad;go_wp2_with fail
     have S2:Aside (SWK enc 2 w0 blk off ([]++ys).toArray wr):=S1;clear S1;go_loopg [7,8] (N+1) (fun kx s7 s8 wr=>∃(a b:Nat) (xZ xR Z R:List α),s7 = .int .i64 a/\s8 = .int .i64 b/\a<=N/\a+c<b/\b<=N+2*c/\N+1<=a+kx/\Hid (b=a+2*c/\xs=xZ++xR/\xZ.length=a/\Whole (ltOf cf) (2*c) xZ Z/\Blks (ltOf cf) c xR R)/\Aside (SWK enc 2 w0 blk off (Z++R).toArray wr))
     case atStart=>exact⟨0,2*c,[],xs,[],ys,rfl,by first | rfl | go_num,by omega,by omega,by omega,by omega,⟨by omega,rfl,rfl,.nil,HB.out⟩,S2⟩
     case round=>
      clear S2 HB;obtain⟨a,b,xZ,xR,Z,R',rfl,rfl,an,ao,ap,hk2,HB,S1⟩:=hrel
      have aa:Hid (xZ.length+xR.length=N/\Z.length=a/\R'.length=xR.length/\b=a+2*c/\xZ.length=a):=by
       have q:=HB.out;have q2:=HN.out;have q4:xZ.length+xR.length=N:=by rw[<-Jd,<-q.2.1];exact q2.2
       exact⟨q4,by rw[q.2.2.2.1.len];exact q.2.2.1,q.2.2.2.2.len,q.1,q.2.2.1⟩
      rcases dj N b with hlt2 | hge2
      .have ak:¬(b:Int)<=(N:Int):=by omega
       rcases dj (a+c) N with hm | hm
       .have aq:(a:Int)+(c:Int)<(N:Int):=by omega
        have af:∃x1 x2 r1 r2,xR=x1++x2/\R'=r1++r2/\x1.length=c/\Stab (ltOf cf) x1 r1/\Stab (ltOf cf) x2 r2/\x2.length+(a+c)=N:=by
         have q:=HB.out;have ql:=aa.out;obtain⟨x1,x2,r1,r2,e1,e2,e3,e4,e5⟩:=q.2.2.2.2.first (by omega)
         have e6:x1.length+x2.length=xR.length:=by rw[e1,Jd]
         exact⟨x1,x2,r1,r2,e1,e2,e3,e4,e5.short (by omega) al,by omega⟩
        obtain⟨x1,x2,r1,r2,e1,e2,e3,e4,e5,e6⟩:=af;have ab:=HS.out (r1.length+r2.length) Z r1 r2 [] a (a+c) N wr (de _) (by have ql:=aa.out;have:=e4.len;have:=e5.len;simp only[da];omega) (by have ql:=aa.out;omega) (by have:=e4.len;omega) (by have:=e4.len;have:=e5.len;omega) (by have:=e4.len;omega) (by have:=e5.len;omega) e4.asc e5.asc (by rw[dn,<-e2];exact S1.out)
        have ac:Hid (Blks (ltOf cf) (2*c) xs (Z++(mrg (ltOf cf) r1 r2 ++ []))):=by
         have q:=HB.out;have ql:=aa.out;show Blks _ _ _ _
         rw[q.2.1,e1,dn];exact q.2.2.2.1.close (.last (by simp only[Jd];omega) (e4.mrg SW e5))
        push_cast at ab
        have HC:Aside _:=ab;clear ab S1 e1 e2 e3 e4 e5 e6 HB aa;go_wp2_with fail
        refine dZ HC.out ?_;rintro _ w3 ⟨rfl,h3⟩;have S1:Aside (SWK enc 2 w0 blk off (Z++(mrg (ltOf cf) r1 r2 ++ [])).toArray w3):=h3;clear h3 HC;generalize Z++(mrg (ltOf cf) r1 r2 ++ [])=ys2 at S1 ac;go_wp2_with fail
        go_roundg (gk0 - 1)
        case measure=>have:=am.out;omega
        case rel=>exact⟨c*2,ys2,by first | rfl | go_num,by omega,by omega,by omega,by rw[Nat.mul_comm];exact ac,S1⟩
       .have aq:¬(a:Int)+(c:Int)<(N:Int):=by omega
        have ac:Hid (Blks (ltOf cf) (2*c) xs (Z++R')):=by
         have q:=HB.out;have ql:=aa.out;show Blks _ _ _ _
         rw[q.2.1];exact q.2.2.2.1.close (.last (by omega) (q.2.2.2.2.short (by omega) al))
        clear HB aa;generalize Z++R'=ys2 at S1 ac;go_wp2_with fail
        go_roundg (gk0 - 1)
        case measure=>have:=am.out;omega
        case rel=>exact⟨c*2,ys2,by first | rfl | go_num,by omega,by omega,by omega,by rw[Nat.mul_comm];exact ac,S1⟩
      .have ak:(b:Int)<=(N:Int):=by omega
       have af:∃x1 x2 x3 r1 r2 r3,xR=(x1++x2)++x3/\R'=r1++(r2++r3)/\x1.length=c/\x2.length=c/\Stab (ltOf cf) x1 r1/\Stab (ltOf cf) x2 r2/\Blks (ltOf cf) c x3 r3:=by
        have q:=HB.out;have ql:=aa.out;obtain⟨x1,x2,r1,r2,e1,e2,e3,e4,e5⟩:=q.2.2.2.2.first (by omega)
        have e6:x1.length+x2.length=xR.length:=by rw[e1,Jd]
        obtain⟨y1,y2,s1,s2,f1,f2,f3,f4,f5⟩:=e5.first (by omega)
        exact⟨x1,y1,y2,r1,s1,s2,by rw[e1,f1,dc],by rw[e2,f2],e3,f3,e4,f4,f5⟩
       obtain⟨x1,x2,x3,r1,r2,r3,e1,e2,e3,e4,e5,e6,e7⟩:=af;have e8:R'.length=r1.length+(r2.length+r3.length):=by rw[e2];simp
       have ab:=HS.out (r1.length+r2.length) Z r1 r2 r3 a (a+c) b wr (de _) (by have ql:=aa.out;have:=e5.len;have:=e6.len;omega) (by have ql:=aa.out;omega) (by have:=e5.len;omega) (by have ql:=aa.out;have:=e6.len;omega) (by have:=e5.len;omega) (by have:=e6.len;omega) e5.asc e6.asc (by rw[<-e2];exact S1.out)
       have ac:Hid (xs=(xZ++(x1++x2))++x3/\(xZ++(x1++x2)).length=b/\Whole (ltOf cf) (2*c) (xZ++(x1++x2)) (Z++mrg (ltOf cf) r1 r2)/\Blks (ltOf cf) c x3 r3):=by have q:=HB.out;have ql:=aa.out;exact⟨by rw[q.2.1,e1];simp only[dc],by simp only[Jd];omega,q.2.2.2.1.snoc (by simp only[Jd];omega) (e5.mrg SW e6),e7⟩
       push_cast at ab
       have HC:Aside _:=ab;clear ab S1 e1 e2 e3 e4 e5 e6 e7 e8 HB aa;go_wp2_with fail
       refine dZ HC.out ?_;rintro _ w3 ⟨rfl,h3⟩;have S1:Aside (SWK enc 2 w0 blk off ((Z++mrg (ltOf cf) r1 r2)++r3).toArray w3):=by rw[dc];exact h3
       clear h3 HC;go_wp2_with fail
       go_roundg (N+1 - b)
       case measure=>omega
       case rel=>exact⟨b,b+2*c,_,_,_,_,by first | rfl | go_num,by first | rfl | go_num,by omega,by omega,by omega,by omega,⟨rfl,ac.out⟩,S1⟩
    .have ai:¬(c:Int)<(N:Int):=by omega
     go_wp2_with fail
     go_end0
     exact⟨rfl,ys,HB.out.short (by rw[HN.out.2];exact hge) al,S1.out⟩
  .have ai:(b:Int)<=(N:Int):=by omega
   have af:∃x1 x2,xR=x1++x2/\x1.length=20/\xZ.length+xR.length=N:=by
    have q:=HB.out;have q2:=HN.out;have q4:xZ.length+xR.length=N:=by rw[<-Jd,<-q.2.1];exact q2.2
    exact⟨xR.take 20,xR.drop 20,(dl _ _).symm,by rw[dw];omega,q4⟩
   obtain⟨x1,x2,e1,e2,e3⟩:=af;have e4:xR.length=x1.length+x2.length:=by rw[e1,Jd]
   have e5:=HB.out.1;have hc:=HI.out Z x1 x2 a b wr (by omega) (by omega) (by omega) (by rw[<-e1];exact S1.out);have HC:Aside _:=hc;have HX:Hid (xR=x1++x2/\x1.length=20):=⟨e1,e2⟩;clear hc S1 e1 e2 e3 e4 e5 hZ hR;go_wp2_with fail
   refine dZ HC.out ?_;rintro _ w3 ⟨rfl,z1,ae,h3⟩
   have ac:Hid (xs=(xZ++x1)++x2/\(xZ++x1).length=b/\Whole (ltOf cf) 20 (xZ++x1) (Z++z1)):=by have q:=HB.out;have q2:=HX.out;exact⟨by rw[q.2.1,q2.1,dc],by simp only[Jd];omega,q.2.2.2.snoc q2.2 ae⟩
   have S1:Aside (SWK enc 2 w0 blk off ((Z++z1)++x2).toArray w3):=by rw[dc];exact h3
   clear h3 ae HC HB HX;go_wp2_with fail
   go_roundg (N+1 - b)
   case measure=>omega
   case rel=>exact⟨b,b+20,_,_,_,by first | rfl | go_num,by first | rfl | go_num,by omega,by omega,by omega,by omega,⟨rfl,ac.out⟩,S1⟩
theorem Kmr (SW:SWO (ltOf cf)) (eg:∀args w,(callFunc g args).run prog w = .ok (.enter g args) w) (hcmp:CmpLays prog g cb enc 2 cf blk off d0.size w0) (R:RowK enc 2 w0 blk off d0) (hN:d0.size=N) (hsz:N<1152921504606846976) (xs:List α) (w:World) (hl:xs.length=N) (S0:SWK enc 2 w0 blk off xs.toArray w) :
  Calls prog 132 #[.slice (some ⟨blk,off,none⟩) N cap,.func (.func g) #[] cb] w fun e w'=>e = .returned (.tuple #[])/\∃ys,Stab (ltOf cf) xs ys/\SWK enc 2 w0 blk off ys.toArray w':=by
 have HC:Aside _:=Kty (cap:=cap) SW eg hcmp R hN hsz xs w hl S0;clear S0 hl hN hcmp;go_enter func132,ntmps132
 go_wp2_with fail
 refine dZ HC.out ?_;rintro _ w3 ⟨rfl,h3⟩;have H3:Aside _:=h3;clear h3;go_wp2_with fail
 go_end0
 exact⟨rfl,H3.out⟩
end
end
end Go.Proofs.YtdoiekknhnbepaaGreatDoor
