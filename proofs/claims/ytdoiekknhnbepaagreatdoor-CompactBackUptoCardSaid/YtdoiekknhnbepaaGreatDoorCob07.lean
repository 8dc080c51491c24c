/- Merged (what the claim wants of): AggWalksB, PostWalksB, RowTwo, MrgRows, MrgApp, MrgSt, MrgSer, MrgCat, MrgApp2, MrgDel. -/
import Derived.Test.YtdoiekknhnbepaaGreatDoorCob06
import Derived.Test.YtdoiekknhnbepaaGreatDoorCob01
import Derived.Laws.Bits64
import Derived.Test.YtdoiekknhnbepaaGreatDoorCob05
import Derived.Maps.AppendAt
import Derived.Deep.Onto
import Derived.Test.YtdoiekknhnbepaaGreatDoorCob02
import Derived.Test.YtdoiekknhnbepaaGreatDoorCob04
import Derived.Shelf.Spec.SlicesGrow
import Derived.Sort.WalkB2
import Derived.Sort.WalkB12
import Derived.Deep.LoopGhost
set_option linter.unusedVariables false
set_option linter.unusedSimpArgs false
set_option maxRecDepth 100000
set_option maxHeartbeats 8000000
namespace Go.Proofs.YtdoiekknhnbepaaGreatDoor
section
open Go.RowKit
open Lib renaming hid → Jh
open List renaming length_append → Jd
attribute [local go_sem ↓] Go.wp_at_zero Go.wp_at_succ
attribute [local go_sem] Later.cell
def aggE:Wnd→Bool→List Wnd→Nat
 | _,_,[]=>0
 | a,first,w :: l=>if Kde w a first≠0 then Kde w a first else aggE w false l
theorem Kjl:∀(l:List Wnd) (a:Wnd) (first:Bool),aggE a first l=0↔Kfi a first l=true
 | [],_,_=>by simp[aggE,Kfi]
 | w :: l,a,first=>by
  have ih:=Kjl l w false;have h:=Kje w a first
  rw[aggE,Kfi,Bool.and_eq_true,decide_eq_true_eq,←h,←ih]
  by_cases h0:Kde w a first=0
  ·rw[if_neg (by simp[h0])];simp[h0]
  ·rw[if_pos h0];simp[h0]
def aggO (l:List Wnd):List UInt8×Nat:=if aggE wnd0 true l=0 then (aggT l,0) else ([],aggE wnd0 true l)
def fldsT (a x:Wnd) (k:Nat):List UInt8:=([uintT (x.sum ^^^ a.sum),uintT (x.min ^^^ a.min),uintT (x.max ^^^ a.max),uintT (x.last ^^^ a.last)].take k).flatten
theorem Kna (a x:Wnd):fldsT a x 1=fldsT a x 0++uintT (x.sum ^^^ a.sum):=by simp[fldsT]
theorem Knb (a x:Wnd):fldsT a x 2=fldsT a x 1++uintT (x.min ^^^ a.min):=by simp[fldsT]
theorem Knc (a x:Wnd):fldsT a x 3=fldsT a x 2++uintT (x.max ^^^ a.max):=by simp[fldsT]
theorem Knd (a x:Wnd):fldsT a x 4=fldsT a x 3++uintT (x.last ^^^ a.last):=by simp[fldsT]
theorem Qbx (a x:Wnd):wndT a x=uintT (x.start - a.start).toNat++(uintT x.count.toNat++fldsT a x 4):=by simp[wndT,fldsT]
theorem Bld.set {B b p i:Nat} {l:List UInt8} {T:TypeId} {cs:Array Value} {w:World} (h:Bld B b l w) (hp:Blk w p T cs) (hT:T≠5) (hpb:b≠p) (u:Value):Bld B b l (w.setCell ⟨p,i,none⟩ u):=by
 have key:∀x,Lib.BuilderAtF 109 5 B b x (Lib.byteCells l) w→Lib.BuilderAtF 109 5 B b x (Lib.byteCells l) (w.setCell ⟨p,i,none⟩ u):=by
  rintro x ⟨h1,v,h2,h3,h4⟩
  have hne:v.ownBlock≠some p:=by
   intro e;rcases h3.2 with ⟨rfl,_⟩ | ⟨g,cap,cur,fz,rfl,_,hg,_⟩
   ·cases e
   ·injection e with e;have e:g=p:=e;subst e;unfold Blk at hp;rw[hg] at hp;injection hp with hp;injection hp with _ hp;exact hT hp.symm
  exact ⟨h1,v,Blk.far h2 (p:=⟨p,i,none⟩) hpb u,h3.kept (row:=some p) ⟨rfl,rfl,rfl,by simp[World.setCell],fun k _ hk=>Below.heap_setCell _ _ _ _ (fun e=>hk (by rw[e]))⟩ (.inr hne),h4⟩
 rcases h with h | h
 ·exact .inl (key _ h)
 ·exact .inr (key _ h)
theorem Qfm:0≤wnd0.start∧wnd0.start≤1125899906842624∧Kcs wnd0:=⟨by decide,by decide,by decide,by decide,by decide,by decide⟩
def lastW:Wnd→List Wnd→Wnd
 | a,[]=>a
 | _,w :: l=>lastW w l
theorem Kng:∀(l:List Wnd) (a x:Wnd),lastW a (l ++ [x])=x
 | [],_,_=>rfl
 | _ :: l,_,x=>Kng l _ x
theorem Kob:∀(l:List Wnd) (a x:Wnd),wndsT a (l ++ [x])=wndsT a l++wndT (lastW a l) x
 | [],a,x=>by simp[wndsT,lastW]
 | w :: l,a,x=>by rw[List.cons_append,wndsT,wndsT,Kob l,lastW,List.append_assoc]
theorem Kjb (l:List Wnd) (A:Option Addr) (n cap:Nat) (w:World) (hE:Elems w w.heap.size 6 Kai A n l) (hn:n≤1099511627776) (hv:∀x∈l,Kcs x) :
  Calls Tryz.prog 118 #[.slice A n cap] w fun e w'=>e = .returned (.tuple #[.string ⟨(aggO l).1.toArray⟩,.int .i64 ((aggO l).2:Nat)])∧Below w.heap.size w w':=by
 have hlen:=hE.len;have HE:=Jh hE;have HV:=Jh hv;have HLEN:=Jh hlen;obtain ⟨E,hEE⟩:∃E,aggE wnd0 true l=E:=⟨_,rfl⟩;have HEE:=Jh hEE;have HUN:=Jh (fun w=>Kau n (by omega) w);have h0:Bld w.heap.size w.heap.size [] (w.alloc (.cells #[.pointer none,.slice none 0 0] 109)):=Bld.new w (Nat.le_refl _);have hb0:Below w.heap.size w (w.alloc (.cells #[.pointer none,.slice none 0 0] 109)):=(Below.refl _ _).alloc (Nat.le_refl _) _;have hs0:(w.alloc (.cells #[.pointer none,.slice none 0 0] 109)).heap.size=w.heap.size+1:=by simp
 clear hE hv hEE hlen;go_enter Tryz.func118,Tryz.ntmps118
 go_upto_region 2 with fail
 obtain ⟨w1,hw1⟩:∃w1,w.alloc (.cells #[.pointer none,.slice none 0 0] 109)=w1:=⟨_,rfl⟩;rw[hw1] at h0 hb0 hs0;rw[hw1];obtain ⟨b,hb⟩:∃b,w.heap.size=b:=⟨_,rfl⟩;rw[hb] at h0 hb0 hs0 HE ⊢;have HB:=Jh hb;have HL1:=Jh h0;have HB1:=Jh hb0;clear hw1 h0 hb0 hb;go_wp2_with fail
 refine (HUN.out w1).mono ?_;rintro _ w2 ⟨rfl,hb2⟩;have HL2:=Jh (HL1.out.below hb2);have HB2:=Jh (HB1.out.trans (hb2.mono (by omega)));have hB2:b≤w2.heap.size:=by have:=hb2.size;omega
 go_wp2_with fail
 refine (Kaz b b [] ⟨(uintT n).toArray⟩ w2 HL2.out (by show 0+(uintT n).toArray.size≤_;have:=(Kab n).2;simp only[List.size_toArray];omega) hB2).mono ?_;rintro _ w3 ⟨rfl,h5,h6,_⟩;have h5:Bld b b (uintT n) w3:=h5;have hB3:b≤w3.heap.size:=Nat.le_trans hB2 h6.size;have hbl:=h5.lt;have hc:Below w3.heap.size w3 (w3.alloc (.cells #[.int .i64 wnd0.start,.int .i64 wnd0.count,.int .u64 (wnd0.sum:Int),.int .u64 (wnd0.min:Int),.int .u64 (wnd0.max:Int),.int .u64 (wnd0.last:Int)] 135)):=(Below.refl _ _).alloc (Nat.le_refl _) _;have ha:Blk (w3.alloc (.cells #[.int .i64 wnd0.start,.int .i64 wnd0.count,.int .u64 (wnd0.sum:Int),.int .u64 (wnd0.min:Int),.int .u64 (wnd0.max:Int),.int .u64 (wnd0.last:Int)] 135)) w3.heap.size 135 #[.int .i64 wnd0.start,.int .i64 wnd0.count,.int .u64 (wnd0.sum:Int),.int .u64 (wnd0.min:Int),.int .u64 (wnd0.max:Int),.int .u64 (wnd0.last:Int)]:=Blk.new _ _ _;obtain ⟨w4,hw4⟩:∃w4,w3.alloc (.cells #[.int .i64 wnd0.start,.int .i64 wnd0.count,.int .u64 (wnd0.sum:Int),.int .u64 (wnd0.min:Int),.int .u64 (wnd0.max:Int),.int .u64 (wnd0.last:Int)] 135)=w4:=⟨_,rfl⟩;have hw4':w3.alloc (.cells #[.int .i64 0,.int .i64 0,.int .u64 0,.int .u64 0,.int .u64 0,.int .u64 0] 135)=w4:=hw4;obtain ⟨ba,hba⟩:∃ba,w3.heap.size=ba:=⟨_,rfl⟩;rw[hw4] at hc ha;rw[hba] at ha;have hbb:b < ba:=by omega
 have HL4:=Jh (h5.below hc);have HB4:=Jh ((HB2.out.trans h6).trans (hc.mono hB3));have HA4:=Jh ha;have HBA:=Jh hba;clear h5 h6 hb2 hc ha hw4 hbl;go_upto_region 4 with fail
 try rw[hw4']
 try rw[hba]
 clear hw4' hba;go_wp2_with fail
 go_loopg [19] n (fun g s19 wr=>∃i:Nat,i+g=n∧s19 = .int .i64 (i:Int)∧aggE (lastW wnd0 (l.take i)) (decide (i=0)) (l.drop i)=E∧Bld b b (uintT n++wndsT wnd0 (l.take i)) wr∧Below b w wr∧Blk wr ba 135 #[.int .i64 (lastW wnd0 (l.take i)).start,.int .i64 (lastW wnd0 (l.take i)).count,.int .u64 ((lastW wnd0 (l.take i)).sum:Int),.int .u64 ((lastW wnd0 (l.take i)).min:Int),.int .u64 ((lastW wnd0 (l.take i)).max:Int),.int .u64 ((lastW wnd0 (l.take i)).last:Int)]∧(0≤(lastW wnd0 (l.take i)).start∧(lastW wnd0 (l.take i)).start≤1125899906842624∧Kcs (lastW wnd0 (l.take i)))∧(uintT n++wndsT wnd0 (l.take i)).length≤11+66*i)
 case atStart=>exact ⟨0,by omega,rfl,HEE.out,by simpa[wndsT] using HL4.out,HB4.out,HA4.out,Qfm,by have:=(Kab n).2;simp[wndsT];omega⟩
 case round=>
  obtain ⟨i,hi,rfl,he,hld,hbr,hab,hst,hle⟩:=hrel;have HI:=Jh hi;have HEI:=Jh he;have HL:=Jh hld;have HR:=Jh hbr;have HAB:=Jh hab;have HST:=Jh hst;have HLE:=Jh hle;have hBr:b≤wr.heap.size:=Nat.le_trans (by rw[HB.out];exact Nat.le_refl _) hbr.size;clear he hld hbr hab hst hle
  by_cases hin:i < n
  ·have hil:i < l.length:=by have:=HLEN.out;omega
   obtain ⟨bk,off,rfl,hbk,hcell⟩:=HE.out.2 (by omega);have hx:∀j v,(Kai l[i])[j]? = some v→wr.cell? ⟨bk,off+i*6+j,none⟩=some v:=fun j v hv=>(HR.out.cell (p:=⟨bk,off+i*6+j,none⟩) hbk).trans (hcell i l[i] (List.getElem?_eq_getElem hil) j v hv)
   have hvi:=HV.out l[i] (List.getElem_mem hil);have hdr:l.drop i=l[i] :: l.drop (i+1):=List.drop_eq_getElem_cons hil;have htk:l.take (i+1)=l.take i ++ [l[i]]:=List.take_succ_eq_append_getElem hil;obtain ⟨x,hxx⟩:∃x,l[i]=x:=⟨_,rfl⟩;rw[hxx] at hx hvi hdr htk;have m0:wr.cell? ⟨bk,off+i*6,none⟩=some (.int .i64 x.start):=hx 0 _ rfl;have m1:wr.cell? ⟨bk,off+i*6+1,none⟩=some (.int .i64 x.count):=hx 1 _ rfl;have m2:wr.cell? ⟨bk,off+i*6+2,none⟩=some (.int .u64 (x.sum:Int)):=hx 2 _ rfl;have m3:wr.cell? ⟨bk,off+i*6+3,none⟩=some (.int .u64 (x.min:Int)):=hx 3 _ rfl;have m4:wr.cell? ⟨bk,off+i*6+4,none⟩=some (.int .u64 (x.max:Int)):=hx 4 _ rfl;have m5:wr.cell? ⟨bk,off+i*6+5,none⟩=some (.int .u64 (x.last:Int)):=hx 5 _ rfl;have HDR:=Jh hdr;have HTK:=Jh htk;have HBX:=Jh hvi;obtain ⟨a,haa⟩:∃a,lastW wnd0 (l.take i)=a:=⟨_,rfl⟩;rw[haa] at HEI HAB HST;have HAA:=Jh haa;obtain ⟨L,hL⟩:∃L,uintT n++wndsT wnd0 (l.take i)=L:=⟨_,rfl⟩;rw[hL] at HL HLE;have HLL:=Jh hL;have HBA2:Hid (Kcs a):=Jh HST.out.2.2;have el2:(i:Int) < (n:Int):=by omega
   clear hi hdr htk hxx haa hL hcell hx hvi;have hc5:Below wr.heap.size wr (wr.alloc (.cells #[.int .i64 x.start,.int .i64 x.count,.int .u64 (x.sum:Int),.int .u64 (x.min:Int),.int .u64 (x.max:Int),.int .u64 (x.last:Int)] 135)):=(Below.refl _ _).alloc (Nat.le_refl _) _;have hq5:Blk (wr.alloc (.cells #[.int .i64 x.start,.int .i64 x.count,.int .u64 (x.sum:Int),.int .u64 (x.min:Int),.int .u64 (x.max:Int),.int .u64 (x.last:Int)] 135)) wr.heap.size 135 #[.int .i64 x.start,.int .i64 x.count,.int .u64 (x.sum:Int),.int .u64 (x.min:Int),.int .u64 (x.max:Int),.int .u64 (x.last:Int)]:=Blk.new _ _ _;go_upto_region 7 with fail
   obtain ⟨w5,hw5⟩:∃w5,wr.alloc (.cells #[.int .i64 x.start,.int .i64 x.count,.int .u64 (x.sum:Int),.int .u64 (x.min:Int),.int .u64 (x.max:Int),.int .u64 (x.last:Int)] 135)=w5:=⟨_,rfl⟩;obtain ⟨qw,hqw⟩:∃qw,wr.heap.size=qw:=⟨_,rfl⟩;rw[hw5] at hc5 hq5
   try rw[hw5]
   rw[hqw] at hq5
   try rw[hqw]
   have hqb:ba < qw:=by have:=HAB.out.lt;omega
   have HL5:=Jh (HL.out.below hc5);have HR5:=Jh (HR.out.trans (hc5.mono hBr));have HA5:=Jh (HAB.out.below hc5 HAB.out.lt);have HX5:=Jh hq5;have hB5:b≤w5.heap.size:=Nat.le_trans hBr hc5.size;have x0:w5.cell? ⟨qw,0,none⟩=some (.int .i64 x.start):=hq5.cell 0;have x1:w5.cell? ⟨qw,1,none⟩=some (.int .i64 x.count):=hq5.cell 1;have x2:w5.cell? ⟨qw,2,none⟩=some (.int .u64 (x.sum:Int)):=hq5.cell 2;have x3:w5.cell? ⟨qw,3,none⟩=some (.int .u64 (x.min:Int)):=hq5.cell 3;have x4:w5.cell? ⟨qw,4,none⟩=some (.int .u64 (x.max:Int)):=hq5.cell 4;have x5:w5.cell? ⟨qw,5,none⟩=some (.int .u64 (x.last:Int)):=hq5.cell 5;have a0:w5.cell? ⟨ba,0,none⟩=some (.int .i64 a.start):=HA5.out.cell 0;have a1:w5.cell? ⟨ba,1,none⟩=some (.int .i64 a.count):=HA5.out.cell 1;have a2:w5.cell? ⟨ba,2,none⟩=some (.int .u64 (a.sum:Int)):=HA5.out.cell 2;have a3:w5.cell? ⟨ba,3,none⟩=some (.int .u64 (a.min:Int)):=HA5.out.cell 3;have a4:w5.cell? ⟨ba,4,none⟩=some (.int .u64 (a.max:Int)):=HA5.out.cell 4;have a5:w5.cell? ⟨ba,5,none⟩=some (.int .u64 (a.last:Int)):=HA5.out.cell 5;clear hc5 hq5 hw5 hqw m0 m1 m2 m3 m4 m5;obtain ⟨fst,hfst⟩:∃fst,decide (i=0)=fst:=⟨_,rfl⟩;have hf2:((i:Int) == 0)=fst:=by rw[←hfst];cases i <;> simp <;> omega
   rw[hfst] at HEI;have HFST:=Jh hfst;obtain ⟨se,hse⟩:∃se,Kde x a fst=se:=⟨_,rfl⟩;have HFO:=Jh (Kqx x a fst w5);unfold wndV at HFO;rw[hse] at HFO;have HSE:=Jh hse;have hei:=HEI.out;rw[HDR.out,aggE,hse] at hei;have hse9:se≤110:=by (rw[←hse];unfold Kde;repeat' split);all_goals omega
   clear hse hfst;go_wp2_with fail
   refine HFO.out.mono ?_;rintro _ w6 ⟨rfl,h6⟩;have HL6:=Jh (HL5.out.below h6);have HR6:=Jh (HR5.out.trans (h6.mono hB5));have HA6:=Jh (HA5.out.below h6 HA5.out.lt);have HX6:=Jh (HX5.out.below h6 HX5.out.lt);have hB6:b≤w6.heap.size:=Nat.le_trans hB5 h6.size;clear h6 x0 x1 x2 x3 x4 x5 a0 a1 a2 a3 a4 a5
   by_cases hs0:se=0
   ·subst hs0;rw[if_neg (by simp)] at hei;have HEN:=Jh hei;clear hei;have hfo:=(Kva x a fst).1 ((Kje x a fst).1 HSE.out);obtain ⟨k1,k2,k3,k4⟩:=hfo.1;have hst0:=HST.out.1
    have hge:a.start≤x.start:=by
     rcases hfo.2 with hf | hf
     ·have:i=0:=by
       have:=HFST.out;rw[hf] at this;exact of_decide_eq_true this
      have ha:=HAA.out;rw[this] at ha;rw[←ha];exact k1
     ·omega
    obtain ⟨y1,hy1⟩:∃y1,(x.start - a.start).toNat=y1:=⟨_,rfl⟩;obtain ⟨y2,hy2⟩:∃y2,x.count.toNat=y2:=⟨_,rfl⟩;have hy1i:x.start - a.start=(y1:Int):=by omega
    have hy2i:x.count=(y2:Int):=by omega
    have hw1:wrap64 (x.start - a.start)=(y1:Int):=by unfold wrap64;omega
    have hu1:IntKind.u64.wrap (y1:Int)=(y1:Int):=by rw[IntKind.wrap_u64];omega
    have hu2:IntKind.u64.wrap (y2:Int)=(y2:Int):=by rw[IntKind.wrap_u64];omega
    have HU1:=Jh (fun w=>Kau y1 (by omega) w);have HU2:=Jh (fun w=>Kau y2 (by omega) w);have HY1:=Jh hy1;have HY2:=Jh hy2;have x0:w6.cell? ⟨qw,0,none⟩=some (.int .i64 x.start):=HX6.out.cell 0;have a0:w6.cell? ⟨ba,0,none⟩=some (.int .i64 a.start):=HA6.out.cell 0;clear hy1 hy2;go_wp2_with fail
    refine (HU1.out w6).mono ?_;rintro _ w7 ⟨rfl,h7⟩;have HL7:=Jh (HL6.out.below h7);have HR7:=Jh (HR6.out.trans (h7.mono hB6));have HA7:=Jh (HA6.out.below h7 HA6.out.lt);have HX7:=Jh (HX6.out.below h7 HX6.out.lt);have hB7:b≤w7.heap.size:=Nat.le_trans hB6 h7.size;clear h7;clear x0 a0;go_wp2_with fail
    refine (Kaz b b (L) ⟨(uintT y1).toArray⟩ w7 HL7.out (by show _+(uintT y1).toArray.size≤_;have:=(Kab y1).2;have:=HLE.out;have:=HI.out;simp only[List.size_toArray,Jd];omega) hB7).mono ?_;rintro _ w8 ⟨rfl,h5,h6,h7⟩;have HL8:=Jh h5;have HR8:=Jh (HR7.out.trans h6);have HA8:=Jh (h7.blk HA7.out (by omega) (by decide));have HX8:=Jh (h7.blk HX7.out (by omega) (by decide));have hB8:b≤w8.heap.size:=Nat.le_trans hB7 h6.size;clear h5 h6 h7;have x1:w8.cell? ⟨qw,1,none⟩=some (.int .i64 (y2:Int)):=(HX8.out.cell 1).trans (by rw[←hy2i];rfl);go_wp2_with fail
    refine (HU2.out w8).mono ?_;rintro _ w9 ⟨rfl,h9⟩;have HL9:=Jh (HL8.out.below h9);have HR9:=Jh (HR8.out.trans (h9.mono hB8));have HA9:=Jh (HA8.out.below h9 HA8.out.lt);have HX9:=Jh (HX8.out.below h9 HX8.out.lt);have hB9:b≤w9.heap.size:=Nat.le_trans hB8 h9.size;clear h9;clear x1;go_wp2_with fail
    refine (Kaz b b (L++uintT y1) ⟨(uintT y2).toArray⟩ w9 HL9.out (by show _+(uintT y2).toArray.size≤_;have:=(Kab y2).2;have:=HLE.out;have:=HI.out;simp only[List.size_toArray,Jd];have:=(Kab y1).2;omega) hB9).mono ?_;rintro _ w10 ⟨rfl,h5,h6,h7⟩;have HL10:=Jh (show Bld b b (L++uintT y1++uintT y2) w10 from h5);have HR10:=Jh (HR9.out.trans h6);have HA10:=Jh (h7.blk HA9.out (by omega) (by decide));have HX10:=Jh (h7.blk HX9.out (by omega) (by decide));have hB10:b≤w10.heap.size:=Nat.le_trans hB9 h6.size;clear h5 h6 h7;go_wp2_with fail
    refine (Kjw ba w10).mono ?_;rintro _ w11 ⟨rfl,h11⟩;have HL11:=Jh (HL10.out.below h11);have HR11:=Jh (HR10.out.trans (h11.mono hB10));have HA11:=Jh (HA10.out.below h11 HA10.out.lt);have HX11:=Jh (HX10.out.below h11 HX10.out.lt);have hB11:b≤w11.heap.size:=Nat.le_trans hB10 h11.size;clear h11;unfold fldsV;have hc12:Below w11.heap.size w11 (w11.alloc (.cells #[.pointer (some ⟨ba,2,none⟩),.pointer (some ⟨ba,3,none⟩),.pointer (some ⟨ba,4,none⟩),.pointer (some ⟨ba,5,none⟩)] 246)):=(Below.refl _ _).alloc (Nat.le_refl _) _;have hq12:Blk (w11.alloc (.cells #[.pointer (some ⟨ba,2,none⟩),.pointer (some ⟨ba,3,none⟩),.pointer (some ⟨ba,4,none⟩),.pointer (some ⟨ba,5,none⟩)] 246)) w11.heap.size 246 #[.pointer (some ⟨ba,2,none⟩),.pointer (some ⟨ba,3,none⟩),.pointer (some ⟨ba,4,none⟩),.pointer (some ⟨ba,5,none⟩)]:=Blk.new _ _ _;go_upto_region 13 with fail
    obtain ⟨w12,hw12⟩:∃w12,w11.alloc (.cells #[.pointer (some ⟨ba,2,none⟩),.pointer (some ⟨ba,3,none⟩),.pointer (some ⟨ba,4,none⟩),.pointer (some ⟨ba,5,none⟩)] 246)=w12:=⟨_,rfl⟩;obtain ⟨qo,hqo⟩:∃qo,w11.heap.size=qo:=⟨_,rfl⟩;rw[hw12] at hc12 hq12
    try rw[hw12]
    rw[hqo] at hq12
    try rw[hqo]
    have hqob:ba < qo:=by have:=HA11.out.lt;omega
    clear hw12 hqo;have HL12:=Jh (HL11.out.below hc12);have HR12:=Jh (HR11.out.trans (hc12.mono hB11));have HA12:=Jh (HA11.out.below hc12 HA11.out.lt);have HX12:=Jh (HX11.out.below hc12 HX11.out.lt);have hB12:b≤w12.heap.size:=Nat.le_trans hB11 hc12.size;clear hc12;go_wp2_with fail
    refine (Kjw qw w12).mono ?_;rintro _ w13 ⟨rfl,h13⟩;have HQO13:=Jh (hq12.below h13 hq12.lt);have HL13:=Jh (HL12.out.below h13);have HR13:=Jh (HR12.out.trans (h13.mono hB12));have HA13:=Jh (HA12.out.below h13 HA12.out.lt);have HX13:=Jh (HX12.out.below h13 HX12.out.lt);have hB13:b≤w13.heap.size:=Nat.le_trans hB12 h13.size;clear h13;unfold fldsV;obtain ⟨L2,hL2⟩:∃L2,L++uintT y1++uintT y2=L2:=⟨_,rfl⟩;rw[hL2] at HL13
    have hl2:L2.length≤11+66*i+22:=by
     rw[←hL2,Jd,Jd];have:=HLE.out;have:=(Kab y1).2;have:=(Kab y2).2;omega
    have HL2E:=Jh hL2;clear hL2 hq12;have ipt0:∀w:World,(Instr.index 246 (.agg #[.pointer (some ⟨qw,2,none⟩),.pointer (some ⟨qw,3,none⟩),.pointer (some ⟨qw,4,none⟩),.pointer (some ⟨qw,5,none⟩)]) (.int .i64 0)).run Tryz.prog w = .ok (.pointer (some ⟨qw,2,none⟩)) w:=fun w=>by kernel_rfl
    have ipt1:∀w:World,(Instr.index 246 (.agg #[.pointer (some ⟨qw,2,none⟩),.pointer (some ⟨qw,3,none⟩),.pointer (some ⟨qw,4,none⟩),.pointer (some ⟨qw,5,none⟩)]) (.int .i64 1)).run Tryz.prog w = .ok (.pointer (some ⟨qw,3,none⟩)) w:=fun w=>by kernel_rfl
    have ipt2:∀w:World,(Instr.index 246 (.agg #[.pointer (some ⟨qw,2,none⟩),.pointer (some ⟨qw,3,none⟩),.pointer (some ⟨qw,4,none⟩),.pointer (some ⟨qw,5,none⟩)]) (.int .i64 2)).run Tryz.prog w = .ok (.pointer (some ⟨qw,4,none⟩)) w:=fun w=>by kernel_rfl
    have ipt3:∀w:World,(Instr.index 246 (.agg #[.pointer (some ⟨qw,2,none⟩),.pointer (some ⟨qw,3,none⟩),.pointer (some ⟨qw,4,none⟩),.pointer (some ⟨qw,5,none⟩)]) (.int .i64 3)).run Tryz.prog w = .ok (.pointer (some ⟨qw,5,none⟩)) w:=fun w=>by kernel_rfl
    go_upto_block 2 with fail
    go_cut [] (fun wx=>Bld b b (L2++fldsT a x 4) wx∧Below b w wx∧Blk wx ba 135 #[.int .i64 a.start,.int .i64 a.count,.int .u64 (a.sum:Int),.int .u64 (a.min:Int),.int .u64 (a.max:Int),.int .u64 (a.last:Int)]∧Blk wx qw 135 #[.int .i64 x.start,.int .i64 x.count,.int .u64 (x.sum:Int),.int .u64 (x.min:Int),.int .u64 (x.max:Int),.int .u64 (x.last:Int)])
    case first=>
     go_wp2_with fail
     go_loopg [47] 4 (fun g s47 wr2=>∃k:Nat,k+g=4∧s47 = .int .i64 (k:Int)∧k≤4∧Bld b b (L2++fldsT a x k) wr2∧(L2++fldsT a x k).length≤11+66*i+22+11*k∧Below b w wr2∧Blk wr2 ba 135 #[.int .i64 a.start,.int .i64 a.count,.int .u64 (a.sum:Int),.int .u64 (a.min:Int),.int .u64 (a.max:Int),.int .u64 (a.last:Int)]∧Blk wr2 qw 135 #[.int .i64 x.start,.int .i64 x.count,.int .u64 (x.sum:Int),.int .u64 (x.min:Int),.int .u64 (x.max:Int),.int .u64 (x.last:Int)]∧Blk wr2 qo 246 #[.pointer (some ⟨ba,2,none⟩),.pointer (some ⟨ba,3,none⟩),.pointer (some ⟨ba,4,none⟩),.pointer (some ⟨ba,5,none⟩)])
     case atStart=>exact ⟨0,rfl,rfl,by omega,by simpa[fldsT] using HL13.out,by simp[fldsT];omega,HR13.out,HA13.out,HX13.out,HQO13.out⟩
     case round=>
      obtain ⟨k,hk,rfl,hk4,hl2r,hle2,hr2,ha2,hx2,hqo2⟩:=hrel;have HL2:=Jh hl2r;have HLE2:=Jh hle2;have HR2:=Jh hr2;have HA2:=Jh ha2;have HX2:=Jh hx2;have HQO2:=Jh hqo2;have hIn:=HI.out;have hBr2:b≤wr.heap.size:=Nat.le_trans (by rw[HB.out];exact Nat.le_refl _) hr2.size;clear hl2r hle2 hr2 ha2 hx2 hqo2;rcases (by omega:k=0∨k=1∨k=2∨k=3∨k=4) with rfl | rfl | rfl | rfl | rfl
      ·obtain rfl:gk=4:=by omega
       have o0:wr.cell? ⟨qo,0,none⟩=some (.pointer (some ⟨ba,2,none⟩)):=HQO2.out.cell 0;have a0:wr.cell? ⟨ba,2,none⟩=some (.int .u64 (a.sum:Int)):=HA2.out.cell 2;have x0:wr.cell? ⟨qw,2,none⟩=some (.int .u64 (x.sum:Int)):=HX2.out.cell 2;have hxo:bits .xor .u64 (x.sum:Int) (a.sum:Int)=((x.sum ^^^ a.sum:Nat):Int):=bits_xor_u64_nat _ _ (by have:=HBX.out.1;omega) (by have:=HBA2.out.1;omega);have hxl:x.sum ^^^ a.sum < 2 ^ 64:=Nat.xor_lt_two_pow HBX.out.1 HBA2.out.1;obtain ⟨y,hy⟩:∃y,x.sum ^^^ a.sum=y:=⟨_,rfl⟩;rw[hy] at hxo hxl;have HY:=Jh hy;have HU:=Jh (fun w=>Kau y hxl w);have lt1:=HA2.out.lt;have lt2:=HX2.out.lt;have lt3:=HQO2.out.lt;clear hy;go_upto_region 16 with fail
       refine Kaj 10 (by kernel_rfl) (by kernel_rfl) ?_;simp only[List.take_succ_cons,List.take_zero,List.drop_succ_cons,List.drop_zero]
       repeat (go_big_quiet_step ((go_at_call 42;exact Kal _ (HU.out _))))
       refine wpQuiet_nil ?_;rintro w4 ⟨⟨_,hb4⟩,rfl⟩;have HL4:=Jh (HL2.out.below hb4);have HR4:=Jh (HR2.out.trans (hb4.mono hBr2));have HA4:=Jh (HA2.out.below hb4 HA2.out.lt);have HX4:=Jh (HX2.out.below hb4 HX2.out.lt);have HQO4:=Jh (HQO2.out.below hb4 HQO2.out.lt);have hB4:b≤w4.heap.size:=Nat.le_trans hBr2 hb4.size;clear hb4 o0 a0 x0 lt1 lt2 lt3;go_wp2_with fail
       refine (Kaz b b _ ⟨(uintT y).toArray⟩ w4 HL4.out (by show _+(uintT y).toArray.size≤_;have:=(Kab y).2;have:=HLE2.out;simp only[List.size_toArray];omega) hB4).mono ?_;rintro _ w5 ⟨rfl,h5,h6,h7⟩;have HL5:=Jh h5;have HR5:=Jh (HR4.out.trans h6);have HA5:=Jh (h7.blk HA4.out (by omega) (by decide));have HX5:=Jh (h7.blk HX4.out (by omega) (by decide));have HQO5:=Jh (h7.blk HQO4.out (by omega) (by decide));clear h5 h6 h7;go_wp2_with fail
       go_roundg 3
       case measure=>omega
       case rel=>
        refine ⟨1,rfl,rfl,by omega,?_,?_,HR5.out,HA5.out,HX5.out,HQO5.out⟩
        ·rw[Kna,HY.out,←List.append_assoc];exact HL5.out
        ·rw[Kna,HY.out,Jd,Jd];have:=HLE2.out;rw[Jd] at this;have:=(Kab y).2;omega
      ·obtain rfl:gk=3:=by omega
       have o0:wr.cell? ⟨qo,1,none⟩=some (.pointer (some ⟨ba,3,none⟩)):=HQO2.out.cell 1;have a0:wr.cell? ⟨ba,3,none⟩=some (.int .u64 (a.min:Int)):=HA2.out.cell 3;have x0:wr.cell? ⟨qw,3,none⟩=some (.int .u64 (x.min:Int)):=HX2.out.cell 3;have hxo:bits .xor .u64 (x.min:Int) (a.min:Int)=((x.min ^^^ a.min:Nat):Int):=bits_xor_u64_nat _ _ (by have:=HBX.out.2.1;omega) (by have:=HBA2.out.2.1;omega);have hxl:x.min ^^^ a.min < 2 ^ 64:=Nat.xor_lt_two_pow HBX.out.2.1 HBA2.out.2.1;obtain ⟨y,hy⟩:∃y,x.min ^^^ a.min=y:=⟨_,rfl⟩;rw[hy] at hxo hxl;have HY:=Jh hy;have HU:=Jh (fun w=>Kau y hxl w);have lt1:=HA2.out.lt;have lt2:=HX2.out.lt;have lt3:=HQO2.out.lt;clear hy;go_upto_region 16 with fail
       refine Kaj 10 (by kernel_rfl) (by kernel_rfl) ?_;simp only[List.take_succ_cons,List.take_zero,List.drop_succ_cons,List.drop_zero]
       repeat (go_big_quiet_step ((go_at_call 42;exact Kal _ (HU.out _))))
       refine wpQuiet_nil ?_;rintro w4 ⟨⟨_,hb4⟩,rfl⟩;have HL4:=Jh (HL2.out.below hb4);have HR4:=Jh (HR2.out.trans (hb4.mono hBr2));have HA4:=Jh (HA2.out.below hb4 HA2.out.lt);have HX4:=Jh (HX2.out.below hb4 HX2.out.lt);have HQO4:=Jh (HQO2.out.below hb4 HQO2.out.lt);have hB4:b≤w4.heap.size:=Nat.le_trans hBr2 hb4.size;clear hb4 o0 a0 x0 lt1 lt2 lt3;go_wp2_with fail
       refine (Kaz b b _ ⟨(uintT y).toArray⟩ w4 HL4.out (by show _+(uintT y).toArray.size≤_;have:=(Kab y).2;have:=HLE2.out;simp only[List.size_toArray];omega) hB4).mono ?_;rintro _ w5 ⟨rfl,h5,h6,h7⟩;have HL5:=Jh h5;have HR5:=Jh (HR4.out.trans h6);have HA5:=Jh (h7.blk HA4.out (by omega) (by decide));have HX5:=Jh (h7.blk HX4.out (by omega) (by decide));have HQO5:=Jh (h7.blk HQO4.out (by omega) (by decide));clear h5 h6 h7;go_wp2_with fail
       go_roundg 2
       case measure=>omega
       case rel=>
        refine ⟨2,rfl,rfl,by omega,?_,?_,HR5.out,HA5.out,HX5.out,HQO5.out⟩
        ·rw[Knb,HY.out,←List.append_assoc];exact HL5.out
        ·rw[Knb,HY.out,Jd,Jd];have:=HLE2.out;rw[Jd] at this;have:=(Kab y).2;omega
      ·obtain rfl:gk=2:=by omega
       have o0:wr.cell? ⟨qo,2,none⟩=some (.pointer (some ⟨ba,4,none⟩)):=HQO2.out.cell 2;have a0:wr.cell? ⟨ba,4,none⟩=some (.int .u64 (a.max:Int)):=HA2.out.cell 4;have x0:wr.cell? ⟨qw,4,none⟩=some (.int .u64 (x.max:Int)):=HX2.out.cell 4;have hxo:bits .xor .u64 (x.max:Int) (a.max:Int)=((x.max ^^^ a.max:Nat):Int):=bits_xor_u64_nat _ _ (by have:=HBX.out.2.2.1;omega) (by have:=HBA2.out.2.2.1;omega);have hxl:x.max ^^^ a.max < 2 ^ 64:=Nat.xor_lt_two_pow HBX.out.2.2.1 HBA2.out.2.2.1;obtain ⟨y,hy⟩:∃y,x.max ^^^ a.max=y:=⟨_,rfl⟩;rw[hy] at hxo hxl;have HY:=Jh hy;have HU:=Jh (fun w=>Kau y hxl w);have lt1:=HA2.out.lt;have lt2:=HX2.out.lt;have lt3:=HQO2.out.lt;clear hy;go_upto_region 16 with fail
       refine Kaj 10 (by kernel_rfl) (by kernel_rfl) ?_;simp only[List.take_succ_cons,List.take_zero,List.drop_succ_cons,List.drop_zero]
       repeat (go_big_quiet_step ((go_at_call 42;exact Kal _ (HU.out _))))
       refine wpQuiet_nil ?_;rintro w4 ⟨⟨_,hb4⟩,rfl⟩;have HL4:=Jh (HL2.out.below hb4);have HR4:=Jh (HR2.out.trans (hb4.mono hBr2));have HA4:=Jh (HA2.out.below hb4 HA2.out.lt);have HX4:=Jh (HX2.out.below hb4 HX2.out.lt);have HQO4:=Jh (HQO2.out.below hb4 HQO2.out.lt);have hB4:b≤w4.heap.size:=Nat.le_trans hBr2 hb4.size;clear hb4 o0 a0 x0 lt1 lt2 lt3;go_wp2_with fail
       refine (Kaz b b _ ⟨(uintT y).toArray⟩ w4 HL4.out (by show _+(uintT y).toArray.size≤_;have:=(Kab y).2;have:=HLE2.out;simp only[List.size_toArray];omega) hB4).mono ?_;rintro _ w5 ⟨rfl,h5,h6,h7⟩;have HL5:=Jh h5;have HR5:=Jh (HR4.out.trans h6);have HA5:=Jh (h7.blk HA4.out (by omega) (by decide));have HX5:=Jh (h7.blk HX4.out (by omega) (by decide));have HQO5:=Jh (h7.blk HQO4.out (by omega) (by decide));clear h5 h6 h7;go_wp2_with fail
       go_roundg 1
       case measure=>omega
       case rel=>
        refine ⟨3,rfl,rfl,by omega,?_,?_,HR5.out,HA5.out,HX5.out,HQO5.out⟩
        ·rw[Knc,HY.out,←List.append_assoc];exact HL5.out
        ·rw[Knc,HY.out,Jd,Jd];have:=HLE2.out;rw[Jd] at this;have:=(Kab y).2;omega
      ·obtain rfl:gk=1:=by omega
       have o0:wr.cell? ⟨qo,3,none⟩=some (.pointer (some ⟨ba,5,none⟩)):=HQO2.out.cell 3;have a0:wr.cell? ⟨ba,5,none⟩=some (.int .u64 (a.last:Int)):=HA2.out.cell 5;have x0:wr.cell? ⟨qw,5,none⟩=some (.int .u64 (x.last:Int)):=HX2.out.cell 5;have hxo:bits .xor .u64 (x.last:Int) (a.last:Int)=((x.last ^^^ a.last:Nat):Int):=bits_xor_u64_nat _ _ (by have:=HBX.out.2.2.2;omega) (by have:=HBA2.out.2.2.2;omega);have hxl:x.last ^^^ a.last < 2 ^ 64:=Nat.xor_lt_two_pow HBX.out.2.2.2 HBA2.out.2.2.2;obtain ⟨y,hy⟩:∃y,x.last ^^^ a.last=y:=⟨_,rfl⟩;rw[hy] at hxo hxl;have HY:=Jh hy;have HU:=Jh (fun w=>Kau y hxl w);have lt1:=HA2.out.lt;have lt2:=HX2.out.lt;have lt3:=HQO2.out.lt;clear hy;go_upto_region 16 with fail
       refine Kaj 10 (by kernel_rfl) (by kernel_rfl) ?_;simp only[List.take_succ_cons,List.take_zero,List.drop_succ_cons,List.drop_zero]
       repeat (go_big_quiet_step ((go_at_call 42;exact Kal _ (HU.out _))))
       refine wpQuiet_nil ?_;rintro w4 ⟨⟨_,hb4⟩,rfl⟩;have HL4:=Jh (HL2.out.below hb4);have HR4:=Jh (HR2.out.trans (hb4.mono hBr2));have HA4:=Jh (HA2.out.below hb4 HA2.out.lt);have HX4:=Jh (HX2.out.below hb4 HX2.out.lt);have HQO4:=Jh (HQO2.out.below hb4 HQO2.out.lt);have hB4:b≤w4.heap.size:=Nat.le_trans hBr2 hb4.size;clear hb4 o0 a0 x0 lt1 lt2 lt3;go_wp2_with fail
       refine (Kaz b b _ ⟨(uintT y).toArray⟩ w4 HL4.out (by show _+(uintT y).toArray.size≤_;have:=(Kab y).2;have:=HLE2.out;simp only[List.size_toArray];omega) hB4).mono ?_;rintro _ w5 ⟨rfl,h5,h6,h7⟩;have HL5:=Jh h5;have HR5:=Jh (HR4.out.trans h6);have HA5:=Jh (h7.blk HA4.out (by omega) (by decide));have HX5:=Jh (h7.blk HX4.out (by omega) (by decide));have HQO5:=Jh (h7.blk HQO4.out (by omega) (by decide));clear h5 h6 h7;go_wp2_with fail
       go_roundg 0
       case measure=>omega
       case rel=>
        refine ⟨4,rfl,rfl,by omega,?_,?_,HR5.out,HA5.out,HX5.out,HQO5.out⟩
        ·rw[Knd,HY.out,←List.append_assoc];exact HL5.out
        ·rw[Knd,HY.out,Jd,Jd];have:=HLE2.out;rw[Jd] at this;have:=(Kab y).2;omega
      ·obtain rfl:gk=0:=by omega
       go_wp2_with fail
       go_meet
       exact ⟨HL2.out,HR2.out,HA2.out,HX2.out⟩
    case rest=>
     obtain ⟨hl4,hr4,ha4,hx4⟩:=hcut;have HL9:=Jh hl4;have HR9:=Jh hr4;have HA9:=Jh ha4;have HX9:=Jh hx4;clear hl4 hr4 ha4 hx4;have x0:wc.cell? ⟨qw,0,none⟩=some (.int .i64 x.start):=HX9.out.cell 0;have x1:wc.cell? ⟨qw,1,none⟩=some (.int .i64 x.count):=HX9.out.cell 1;have x2:wc.cell? ⟨qw,2,none⟩=some (.int .u64 (x.sum:Int)):=HX9.out.cell 2;have x3:wc.cell? ⟨qw,3,none⟩=some (.int .u64 (x.min:Int)):=HX9.out.cell 3;have x4:wc.cell? ⟨qw,4,none⟩=some (.int .u64 (x.max:Int)):=HX9.out.cell 4;have x5:wc.cell? ⟨qw,5,none⟩=some (.int .u64 (x.last:Int)):=HX9.out.cell 5;have a0:wc.cell? ⟨ba,0,none⟩=some (.int .i64 a.start):=HA9.out.cell 0;have a1:wc.cell? ⟨ba,1,none⟩=some (.int .i64 a.count):=HA9.out.cell 1;have a2:wc.cell? ⟨ba,2,none⟩=some (.int .u64 (a.sum:Int)):=HA9.out.cell 2;have a3:wc.cell? ⟨ba,3,none⟩=some (.int .u64 (a.min:Int)):=HA9.out.cell 3;have a4:wc.cell? ⟨ba,4,none⟩=some (.int .u64 (a.max:Int)):=HA9.out.cell 4;have a5:wc.cell? ⟨ba,5,none⟩=some (.int .u64 (a.last:Int)):=HA9.out.cell 5;have z0:=HA9.out.frozen 0;have z1:=HA9.out.frozen 1;have z2:=HA9.out.frozen 2;have z3:=HA9.out.frozen 3;have z4:=HA9.out.frozen 4;have z5:=HA9.out.frozen 5;go_wp2_with fail
     have t0:=HA9.out;have g0:=HL9.out;have r0:=HR9.out;have g1:=g0.set (i:=0) t0 (by decide) (by omega) (.int .i64 x.start);have r1:=r0.setCell (p:=⟨ba,0,none⟩) (by simp;omega) (.int .i64 x.start);have t1:=t0.set_ 0 (.int .i64 x.start);have g2:=g1.set (i:=1) t1 (by decide) (by omega) (.int .i64 (y2:Int));have r2:=r1.setCell (p:=⟨ba,1,none⟩) (by simp;omega) (.int .i64 (y2:Int));have t2:=t1.set_ 1 (.int .i64 (y2:Int));have g3:=g2.set (i:=2) t2 (by decide) (by omega) (.int .u64 (x.sum:Int));have r3:=r2.setCell (p:=⟨ba,2,none⟩) (by simp;omega) (.int .u64 (x.sum:Int));have t3:=t2.set_ 2 (.int .u64 (x.sum:Int));have g4:=g3.set (i:=3) t3 (by decide) (by omega) (.int .u64 (x.min:Int));have r4:=r3.setCell (p:=⟨ba,3,none⟩) (by simp;omega) (.int .u64 (x.min:Int));have t4:=t3.set_ 3 (.int .u64 (x.min:Int));have g5:=g4.set (i:=4) t4 (by decide) (by omega) (.int .u64 (x.max:Int));have r5:=r4.setCell (p:=⟨ba,4,none⟩) (by simp;omega) (.int .u64 (x.max:Int));have t5:=t4.set_ 4 (.int .u64 (x.max:Int));have g6:=g5.set (i:=5) t5 (by decide) (by omega) (.int .u64 (x.last:Int));have r6:=r5.setCell (p:=⟨ba,5,none⟩) (by simp;omega) (.int .u64 (x.last:Int));have t6:=t5.set_ 5 (.int .u64 (x.last:Int));have G:=Jh g6;have R:=Jh r6;have T:=Jh t6;clear g0 g1 g2 g3 g4 g5 g6 r0 r1 r2 r3 r4 r5 r6 t0 t1 t2 t3 t4 t5 t6;go_roundg (n - (i+1))
     case measure=>have:=HI.out;omega
     case rel=>
      have hT:L2++fldsT a x 4=uintT n++wndsT wnd0 (l.take (i+1)):=by
       rw[HTK.out,Kob,HAA.out,Qbx,HY1.out,HY2.out,←HL2E.out,←HLL.out];simp
      have hlw:lastW wnd0 (l.take (i+1))=x:=by rw[HTK.out,Kng]
      refine ⟨i+1,by have:=HI.out;omega,by go_num,?_,?_,R.out,?_,?_,?_⟩
      ·rw[hlw,show decide (i+1=0)=false by simp];exact HEN.out
      ·rw[←hT];exact G.out
      ·rw[hlw,hy2i];exact T.out
      ·rw[hlw];exact ⟨k1,k2,HBX.out⟩
      ·rw[←hT,Jd];have h1:=hl2
       have h2:(fldsT a x 4).length≤44:=by
        simp only[fldsT,List.take,List.flatten_cons,List.flatten_nil,Jd,List.length_nil];have q1:=(Kab (x.sum ^^^ a.sum)).2;have q2:=(Kab (x.min ^^^ a.min)).2;have q3:=(Kab (x.max ^^^ a.max)).2;have q4:=(Kab (x.last ^^^ a.last)).2;omega
       omega
   ·rw[if_pos hs0] at hei;have e0:((se:Int) != 0)=true:=by simp;omega
    have HEN:=Jh hei;have HS0:=Jh hs0;clear hei;go_wp2_with fail
    go_ret2
    unfold aggO;rw[if_neg (by rw[HEE.out,←HEN.out];exact HS0.out),HEE.out,←HEN.out];exact ⟨rfl,by rw[HB.out];exact HR6.out⟩
  ·have hi3:i=n:=by have:=HI.out;omega
   subst hi3;have htk:l.take i=l:=List.take_of_length_le (by have:=HLEN.out;omega);have hdr:l.drop i = []:=List.drop_eq_nil_of_le (by have:=HLEN.out;omega)
   have hE0:E=0:=by
    have:=HEI.out;rw[hdr] at this;exact this.symm
   have ho:aggO l=(uintT i++wndsT wnd0 l,0):=by
    unfold aggO;rw[if_pos (by rw[HEE.out,hE0]),aggT,HLEN.out]
   rw[htk] at HL;have HO:=Jh ho;have HST2:=Jh (Kdq b b _ wr HL.out hBr);obtain ⟨S,hS⟩:∃S:ByteArray,(⟨(uintT i++wndsT wnd0 l).toArray⟩:ByteArray)=S:=⟨_,rfl⟩;rw[hS] at HST2;have HS:=Jh hS;clear ho hS htk hdr hE0;go_wp2_with fail
   refine HST2.out.mono ?_;rintro _ w3 ⟨rfl,h6⟩;go_wp2_with fail
   go_ret2
   rw[HO.out,←HS.out];exact ⟨rfl,by rw[HB.out];exact HR.out.trans h6⟩
end
section
open Go.RowKit
attribute [local go_sem ↓] Go.wp_at_zero Go.wp_at_succ
attribute [local go_sem] Later.cell
theorem Qcz:(Tryz.prog.info? 3).map (fun i=>(i.zero,i.size,i.bytes))=some (some (.int .i64 0),1,8):=by kernel_rfl
theorem Kan {w:World} {B n sz:Nat} {T:TypeId} {v:Value} {xs:List Value} (h:w.ownsRow B T sz v n xs):∃A cap,v = .slice A n cap:=by
 rcases h.2 with ⟨rfl,rfl⟩ | ⟨g,cap,cur,rfl,_⟩
 ·exact ⟨none,0,rfl⟩
 ·exact ⟨_,cap,rfl⟩
end
section
open Go.RowKit
theorem Kbq {w:World} {B n sz B' n' sz':Nat} {T T':TypeId} {v v':Value} {xs xs':List Value} (h:w.ownsRow B T sz v n xs) (h':w.ownsRow B' T' sz' v' n' xs') (hT:T≠T'):v.ownBlock=none∨v.ownBlock≠v'.ownBlock:=by
 cases hv:v.ownBlock with
 | none=>exact .inl rfl
 | some r=>
  refine .inr fun e=>?_
  obtain ⟨cur,hc⟩:=Kax h hv;obtain ⟨cur',hc'⟩:=Kax h' e.symm;rw[hc] at hc';injection hc' with hc';injection hc' with _ hc';exact hT hc'
theorem Kag {w:World} {g:Nat} {t T:TypeId} {cs:Array Value} {B n sz:Nat} {v:Value} {xs:List Value} (h:Blk w g t cs) (hv:w.ownsRow B T sz v n xs) (ht:t≠T):some g≠v.ownBlock:=fun e=>by
 obtain ⟨cur,hc⟩:=Kax hv e.symm;exact h.ne_ (show Blk w g T cur from hc) ht rfl
theorem Kbp {w:World} {B n sz p i:Nat} {t T:TypeId} {cs:Array Value} {v u:Value} {xs:List Value} (hv:w.ownsRow B T sz v n xs) (h:Blk w p t cs) (ht:t≠T):(w.setCell ⟨p,i,none⟩ u).ownsRow B T sz v n xs:=
 hv.kept (row:=some p) ⟨rfl,rfl,rfl,by simp[World.setCell],fun k _ hk=>Below.heap_setCell _ _ _ _ (fun e=>hk (by rw[e]))⟩ (.inr fun e=>Kag h hv ht e.symm)
def spM (h:Hd3):Value:=.slice h.s.A h.s.n h.s.c
def wpM (h:Hd3):Value:=.slice h.w.A h.w.n h.w.c
def lbM (h:Hd3):Value:=.slice h.l.A h.l.n h.l.c
structure MRow (B:Nat) (w:World) (h:Hd3) (s:Ser):Prop where
 lb:(h.l.n=0∧s.labels = [])∨w.ownsRow B 99 2 (lbM h) s.labels.length (s.labels.flatMap encLb)
 ln:s.labels.length=h.l.n
 lc:h.l.n≤h.l.c
 sm:w.ownsRow B 102 2 (spM h) s.samples.length (s.samples.flatMap Kad)
 wd:w.ownsRow B 135 6 (wpM h) s.windows.length (s.windows.flatMap Kai)
structure MRows (B:Nat) (w:World) (hs:List Hd3) (gs:List Ser):Prop where
 len:hs.length=gs.length
 at_:∀(i:Nat) (h:Hd3),hs[i]? = some h→MRow B w h gs[i]!
 sep:∀(i j:Nat) (h h':Hd3),hs[i]? = some h→hs[j]? = some h'→i≠j→((spM h).ownBlock=none∨(spM h).ownBlock≠(spM h').ownBlock)∧((wpM h).ownBlock=none∨(wpM h).ownBlock≠(wpM h').ownBlock)
theorem Kck {w w':World} {B n sz:Nat} {T:TypeId} {v:Value} {xs:List Value} (h:w.ownsRow B T sz v n xs) (hz:w.heap.size≤w'.heap.size) (hb:∀k,v.ownBlock=some k→w'.heap[k]? = w.heap[k]?):w'.ownsRow B T sz v n xs:=by
 rcases h.2 with h1 | ⟨g,cap,cur,h',hB,hg,h3⟩
 ·exact ⟨h.1,.inl h1⟩
 ·have hlt:=(h.lt g (by rw[h'];rfl)).2;exact ⟨h.1,.inr ⟨g,cap,cur,h',hB,(hb g (by rw[h'];rfl)).trans hg,h3⟩⟩
theorem MRow.by {B:Nat} {w w':World} {h:Hd3} {s:Ser} (m:MRow B w h s) (hz:w.heap.size≤w'.heap.size) (hl:w.ownsRow B 99 2 (lbM h) s.labels.length (s.labels.flatMap encLb)→∀k,(lbM h).ownBlock=some k→w'.heap[k]? = w.heap[k]?) (hs:∀k,(spM h).ownBlock=some k→w'.heap[k]? = w.heap[k]?) (hw:∀k,(wpM h).ownBlock=some k→w'.heap[k]? = w.heap[k]?):MRow B w' h s:=
 ⟨m.lb.imp id fun x=>Kck x hz (hl x),m.ln,m.lc,Kck m.sm hz hs,Kck m.wd hz hw⟩
theorem MRows.frame {B:Nat} {w w':World} {hs:List Hd3} {gs:List Ser} (m:MRows B w hs gs) {row:Option Nat} (hg:w.grownBy w' row) (hrow:∀r,row=some r→∃t cs,Blk w r t cs∧t≠99∧t≠102∧t≠135):MRows B w' hs gs:=by
 have key:∀{T:TypeId} {n sz:Nat} {v:Value} {xs:List Value},w.ownsRow B T sz v n xs→(T = 99∨T = 102∨T = 135)→∀k,v.ownBlock=some k→w'.heap[k]? = w.heap[k]?:=fun {T n sz v xs} h hT k hk=>by
  refine hg.block k (h.lt k hk).2 fun e=>?_
  obtain ⟨t,cs,hb,h1,h2,h3⟩:=hrow k e.symm;refine Kag hb h ?_ hk.symm;rcases hT with rfl | rfl | rfl
  ·exact h1
  ·exact h2
  ·exact h3
 refine ⟨m.len,fun i h hi=>?_,m.sep⟩;have a:=m.at_ i h hi;exact a.by hg.size (fun x k hk=>key x (.inl rfl) k hk) (fun k hk=>key a.sm (.inr (.inl rfl)) k hk) (fun k hk=>key a.wd (.inr (.inr rfl)) k hk)
theorem MRows.below {B:Nat} {w w':World} {hs:List Hd3} {gs:List Ser} (m:MRows B w hs gs) (hb:Below w.heap.size w w'):MRows B w' hs gs:=
 m.frame (row:=none) ⟨hb.os,hb.tape,hb.output,hb.size,fun k hk _=>hb.block k hk⟩ (fun r e=>by cases e)
theorem MRows.snoc {B:Nat} {w:World} {hs:List Hd3} {gs:List Ser} (m:MRows B w hs gs) {h:Hd3} {s:Ser} (hm:MRow B w h s) (h1:(spM h).ownBlock=none) (h2:(wpM h).ownBlock=none):MRows B w (hs ++ [h]) (gs ++ [s]):=by
 have hcase:∀(i:Nat) (x:Hd3),(hs ++ [h])[i]? = some x→(hs[i]? = some x∧i < hs.length)∨(x=h∧i=hs.length):=fun i x hi=>by
  rcases Nat.lt_or_ge i hs.length with hl | hl
  ·rw[List.getElem?_append_left hl] at hi;exact .inl ⟨hi,hl⟩
  ·rw[List.getElem?_append_right hl] at hi;rcases Nat.eq_zero_or_pos (i - hs.length) with h0 | h0
   ·rw[h0] at hi;exact .inr ⟨by simpa using hi.symm,by omega⟩
   ·rw[List.getElem?_eq_none (by simp;omega)] at hi;cases hi
 refine ⟨by simp[m.len],fun i x hi=>?_,fun i j x y hi hj hij=>?_⟩
 ·rcases hcase i x hi with ⟨hi,hl⟩ | ⟨rfl,rfl⟩
  ·rw[show (gs ++ [s])[i]! = gs[i]! by rw[getElem!_pos _ i (by have:=m.len;simp;omega),getElem!_pos gs i (by have:=m.len;omega),List.getElem_append_left]];exact m.at_ i x hi
  ·rw[show (gs ++ [s])[hs.length]! = s by rw[m.len];simp];exact hm
 ·rcases hcase i x hi with ⟨hi,hl⟩ | ⟨rfl,rfl⟩
  ·rcases hcase j y hj with ⟨hj,hl2⟩ | ⟨rfl,rfl⟩
   ·exact m.sep i j x y hi hj hij
   ·rw[h1,h2];exact ⟨by cases hq:(spM x).ownBlock <;> simp,by cases hq:(wpM x).ownBlock <;> simp⟩
  ·exact ⟨.inl h1,.inl h2⟩
theorem MRows.upd {B:Nat} {w w':World} {hs:List Hd3} {gs:List Ser} (m:MRows B w hs gs) {k:Nat} {h h':Hd3} {s':Ser} (hk:hs[k]? = some h) (hz:w.heap.size≤w'.heap.size)
  (hg:∀j,j < w.heap.size→some j≠(spM h).ownBlock→some j≠(wpM h).ownBlock→w'.heap[j]? = w.heap[j]?) (hl:h'.l=h.l) (hlab:s'.labels=gs[k]!.labels)
  (hS:w'.ownsRow B 102 2 (spM h') s'.samples.length (s'.samples.flatMap Kad)) (hW:w'.ownsRow B 135 6 (wpM h') s'.windows.length (s'.windows.flatMap Kai))
  (hSb:(spM h').ownBlock=(spM h).ownBlock∨∃b,(spM h').ownBlock=some b∧w.heap.size≤b) (hWb:(wpM h').ownBlock=(wpM h).ownBlock∨∃b,(wpM h').ownBlock=some b∧w.heap.size≤b) :
  MRows B w' (hs.set k h') (gs.set k s'):=by
 have hkl:k < hs.length:=(List.getElem?_eq_some_iff.1 hk).1;have a:=m.at_ k h hk
 have hne:∀{T:TypeId} {n sz:Nat} {v:Value} {xs:List Value},w.ownsRow B T sz v n xs→T≠102→T≠135→∀j,v.ownBlock=some j→w'.heap[j]? = w.heap[j]?:=fun {T n sz v xs} x h1 h2 j hj=>
  hg j (x.lt j hj).2 (fun e=>(Kbq x a.sm h1).elim (fun q=>by rw[q] at hj;cases hj) (fun q=>q (hj.trans e))) (fun e=>(Kbq x a.wd h2).elim (fun q=>by rw[q] at hj;cases hj) (fun q=>q (hj.trans e)))
 have hoth:∀(i:Nat) (x:Hd3),hs[i]? = some x→i≠k→MRow B w' x gs[i]!:=fun i x hi hik=>by
  have b:=m.at_ i x hi;have sp:=m.sep i k x h hi hk hik;refine b.by hz (fun y j hj=>hne y (by decide) (by decide) j hj) (fun j hj=>?_) (fun j hj=>?_)
  ·exact hg j (b.sm.lt j hj).2 (fun e=>sp.1.elim (fun q=>by rw[q] at hj;cases hj) (fun q=>q (hj.trans e))) (fun e=>(Kbq b.sm a.wd (by decide)).elim (fun q=>by rw[q] at hj;cases hj) (fun q=>q (hj.trans e)))
  ·exact hg j (b.wd.lt j hj).2 (fun e=>(Kbq b.wd a.sm (by decide)).elim (fun q=>by rw[q] at hj;cases hj) (fun q=>q (hj.trans e))) (fun e=>sp.2.elim (fun q=>by rw[q] at hj;cases hj) (fun q=>q (hj.trans e)))
 have hself:MRow B w' h' s':=by
  refine ⟨?_,by rw[hlab,hl];exact a.ln,by rw[hl];exact a.lc,hS,hW⟩;rw[hl,hlab,show lbM h'=lbM h by unfold lbM;rw[hl]];exact a.lb.imp id fun y=>Kck y hz (fun j hj=>hne y (by decide) (by decide) j hj)
 have hcase:∀(i:Nat) (x:Hd3),(hs.set k h')[i]? = some x→(i=k∧x=h')∨(i≠k∧hs[i]? = some x):=fun i x hi=>by
  rcases Nat.decEq i k with hik | rfl
  ·rw[List.getElem?_set_ne (Ne.symm hik)] at hi;exact .inr ⟨hik,hi⟩
  ·rw[List.getElem?_set_self hkl] at hi;exact .inl ⟨rfl,by simpa using hi.symm⟩
 have low:∀(i:Nat) (x:Hd3),hs[i]? = some x→(∀b,(spM x).ownBlock=some b→b < w.heap.size)∧(∀b,(wpM x).ownBlock=some b→b < w.heap.size):=fun i x hi=>⟨fun b hb=>((m.at_ i x hi).sm.lt b hb).2,fun b hb=>((m.at_ i x hi).wd.lt b hb).2⟩
 have far:∀(i:Nat) (x:Hd3),hs[i]? = some x→i≠k→((spM x).ownBlock=none∨(spM x).ownBlock≠(spM h').ownBlock)∧((wpM x).ownBlock=none∨(wpM x).ownBlock≠(wpM h').ownBlock):=fun i x hi hik=>by
  have sp:=m.sep i k x h hi hk hik;refine ⟨?_,?_⟩
  ·rcases hSb with e | ⟨b,e,hb⟩
   ·rw[e];exact sp.1
   ·rw[e]
    cases hq:(spM x).ownBlock with
    | none=>exact .inl rfl
    | some c=>
          refine .inr fun he=>?_
          injection he with he;have:=(low i x hi).1 c hq;omega
  ·rcases hWb with e | ⟨b,e,hb⟩
   ·rw[e];exact sp.2
   ·rw[e]
    cases hq:(wpM x).ownBlock with
    | none=>exact .inl rfl
    | some c=>
          refine .inr fun he=>?_
          injection he with he;have:=(low i x hi).2 c hq;omega
 refine ⟨by simp[m.len],fun i x hi=>?_,fun i j x y hi hj hij=>?_⟩
 ·rcases hcase i x hi with ⟨e1,e2⟩ | ⟨hik,hi⟩
  ·rw[e1,e2,show (gs.set k s')[k]! = s' by rw[getElem!_pos _ k (by have:=m.len;simp;omega),List.getElem_set_self]];exact hself
  ·rw[show (gs.set k s')[i]! = gs[i]! by
    have hil:=(List.getElem?_eq_some_iff.1 hi).1
    rw[getElem!_pos _ i (by have:=m.len;simp;omega),getElem!_pos gs i (by have:=m.len;omega),List.getElem_set_ne (Ne.symm hik)]]
   exact hoth i x hi hik
 ·have flip:∀{a b:Option Nat},(a=none∨a≠b)→(b=none∨b≠a):=fun {a b} q=>by
   cases b with
   | none=>exact .inl rfl
   | some c=>
         refine .inr fun e=>?_
         rcases q with q | q
         ·rw[q] at e;cases e
         ·exact q e.symm
  rcases hcase i x hi with ⟨e1,e2⟩ | ⟨hik,hi⟩
  ·rcases hcase j y hj with ⟨e3,e4⟩ | ⟨hjk,hj⟩
   ·exact absurd (e1.trans e3.symm) hij
   ·have f:=far j y hj hjk;rw[e2];exact ⟨flip f.1,flip f.2⟩
  ·rcases hcase j y hj with ⟨e3,e4⟩ | ⟨hjk,hj⟩
   ·rw[e4];exact far i x hi hik
   ·exact m.sep i j x y hi hj hij
theorem MRows.sers {B:Nat} {w:World} {hs:List Hd3} {gs:List Ser} (m:MRows B w hs gs) (i:Nat) (h:Hd3) (hi:hs[i]? = some h):SerAt w h gs[i]!:=by
 have a:=m.at_ i h hi
 have hc:∀{T:TypeId} {A:Option Addr} {n c k sz:Nat} {xs:List Value},w.ownsRow B T sz (.slice A n c) k xs→n=k∧n≤c:=fun {T A n c k sz xs} x=>by
  rcases x.2 with ⟨e,hk⟩ | ⟨g,cap,cur,e,_,_,h3,_⟩
  ·injection e with _ e1 e2;exact ⟨by omega,by omega⟩
  ·injection e with _ e1 e2;exact ⟨by omega,by omega⟩
 have hs1:=hc a.sm;have hw1:=hc a.wd
 have he:∀{α : Type} {T:TypeId} {A:Option Addr} {n c sz:Nat} {enc:α→List Value} {l:List α},(∀x∈l,(enc x).length=sz)→w.ownsRow B T sz (.slice A n c) l.length (l.flatMap enc)→Elems w w.heap.size sz enc A n l:=fun {α T A n c sz enc l} h1 x=>by
  have h2:=hc x;obtain ⟨A',c',e,h3,_⟩:=Elems.of_own (xs:=l) h1 rfl x rfl;injection e with e1 e2 e3;rw[e1,h2.1];exact h3
 refine ⟨?_,a.lc,?_,hs1.2,?_,hw1.2⟩
 ·rcases a.lb with ⟨h0,h1⟩ | x
  ·rw[h0,h1];exact Elems.nil_
  ·exact he (fun _ _=>rfl) x
 ·exact he (fun _ _=>rfl) a.sm
 ·exact he (fun _ _=>rfl) a.wd
theorem Kha {P:Program} {w:World} (base:Nat) (t ty e:TypeId) (i:TypeInfo) (size:Nat) (ht:P.underlying t=some (.slice e)) (hi:P.info? e=some i) (v:Value) (n c:Nat) (xs:List Value) (hown:w.ownsRow base e size v n xs) :
  (Builtin.append_ #[t,t] ty #[v,.slice none 0 c]).run P w = .ok v w:=by
 rcases hown.2 with ⟨rfl,rfl⟩ | ⟨g,cap,cur,rfl,_,_,hnc,_⟩
 ·simp[Builtin.append_,run_underlying ht,sizeOf,typeInfo,hi,Builtin.lenOf,Builtin.firstCells]
 ·simp[Builtin.append_,run_underlying ht,sizeOf,typeInfo,hi,Builtin.lenOf,Builtin.firstCells,hnc,storeCells]
theorem Kjj {P:Program} {w:World} {ops:Array Oper} {rest:List Oper} {o:Oper} {a:Act} {Q:Exit→Act→World→Prop} (hgd:o.guard=none) (s x:Operand) (t:TypeId)
  (ho:o.op = .call { callee:=.builtin .append,args:=#[s,x],argTypes:=#[t,t] })
  (base:Nat) (e:TypeId) (i:TypeInfo) (size:Nat) (ht:P.underlying t=some (.slice e)) (hi:P.info? e=some i)
  (v:Value) (n c:Nat) (xs:List Value) (hs:a.eval s=v) (hown:w.ownsRow base e size v n xs) (hx:a.eval x = .slice none 0 c)
  (h:wpList P ops Q rest (a.put o.dst v) w):wpList P ops Q (o :: rest) a w:=by
 refine wpList_plain hgd fun K hK=>?_
 have hrun:=Kha (P:=P) (w:=w) base t o.type e i size ht hi v n c xs hown;unfold Oper.wp;simp[execOp,ho,resolve,invoke,builtin,hs,hx,hrun,Result.andThen];exact hK _ _ h
theorem Kpq {α : Type} {enc:α→List Value} {sz:Nat} {u:Value}:∀(xs:List α) {j:Nat},(∀x∈xs,(enc x).length=sz)→(xs.flatMap enc)[j]? = some u→∃i x r,xs[i]? = some x∧(enc x)[r]? = some u∧j=i*sz+r
 | [],j,_,h=>by simp at h
 | x :: xs,j,hl,h=>by
  have hx:=hl x (List.mem_cons_self ..);rw[List.flatMap_cons] at h;rcases Nat.lt_or_ge j sz with hj | hj
  ·rw[List.getElem?_append_left (by rw[hx];exact hj)] at h;exact ⟨0,x,j,rfl,h,by simp⟩
  ·rw[List.getElem?_append_right (by rw[hx];exact hj),hx] at h;obtain ⟨i,y,r,h1,h2,h3⟩:=Kpq xs (fun y hy=>hl y (List.mem_cons_of_mem _ hy)) h;exact ⟨i+1,y,r,by simpa using h1,h2,by rw[Nat.succ_mul];omega⟩
theorem Elems.cellsM {α : Type} {enc:α→List Value} {sz n B:Nat} {w:World} {ad:Addr} {xs:List α} (hl:∀x∈xs,(enc x).length=sz) (h:Elems w B sz enc (some ad) n xs) :
  ∀j u,(xs.flatMap enc)[j]? = some u→w.cell? (ad.add j)=some u:=by
 intro j u hu;obtain ⟨i,x,r,h1,h2,rfl⟩:=Kpq xs hl hu
 have hi:0 < n:=by
  have:=(List.getElem?_eq_some_iff.1 h1).1;have:=h.1;omega
 obtain ⟨b,off,e,_,hc⟩:=h.2 hi;injection e with e;subst e;have:=hc i x h1 r u h2
 have ea:(⟨b,off,none⟩:Addr).add (i*sz+r)=⟨b,off+i*sz+r,none⟩:=by
  unfold Addr.add
  split
  ·rename_i h0;simp at h0 ⊢;(try omega)
  ·simp;(try omega)
 rw[ea];exact this
theorem Kgi:∀(hs:List Hd3) (m r:Nat) (h h':Hd3) (V:Value),hs[m]? = some h→r < 3→encH3 h'=(encH3 h).set r V→(hs.set m h').flatMap encH3=(hs.flatMap encH3).set (m*3+r) V
 | [],m,r,h,h',V,h1,_,_=>by simp at h1
 | x :: l,0,r,h,h',V,h1,h2,h3=>by
  have e:x=h:=by simpa using h1
  subst e;have hl:(encH3 x).length=3:=rfl;rw[List.set_cons_zero,List.flatMap_cons,List.flatMap_cons,Nat.zero_mul,Nat.zero_add,List.set_append_left _ _ (by omega),h3]
 | x :: l,m+1,r,h,h',V,h1,h2,h3=>by
  have hl:(encH3 x).length=3:=rfl;rw[List.set_cons_succ,List.flatMap_cons,List.flatMap_cons,List.set_append_right _ _ (by omega),hl,show (m+1)*3+r - 3=m*3+r by omega];rw[Kgi l m r h h' V (by simpa using h1) h2 h3]
structure MSt (w0 w2:World) (w:World) (v:Value) (hs:List Hd3) (gs:List Ser):Prop where
 b0:Below w0.heap.size w0 w
 b2:Below w2.heap.size w2 w
 row:w.ownsRow w2.heap.size 58 3 v hs.length (hs.flatMap encH3)
 rows:MRows w2.heap.size w hs gs
section
variable {g n cV : Nat} {w0 w2 w : World} {v : Value} {hs : List Hd3} {gs : List Ser}
theorem MSt.below {w':World} (h:MSt w0 w2 w v hs gs) (hb:Below w.heap.size w w'):MSt w0 w2 w' v hs gs:=
 ⟨h.b0.trans (hb.mono h.b0.size),h.b2.trans (hb.mono h.b2.size),Kck h.row hb.size fun k hk=>hb.block k (h.row.lt k hk).2,h.rows.below hb⟩
theorem MSt.low (h:MSt w0 w2 w v hs gs) (h02:w0.heap.size≤w2.heap.size) {w':World} {row:Option Nat} (hg:w.grownBy w' row) (hr:∀k,row=some k→w2.heap.size≤k):Below w0.heap.size w0 w'∧Below w2.heap.size w2 w':=
 ⟨h.b0.grown hg h.b0.size (fun k hk=>Nat.le_trans h02 (hr k hk)),h.b2.grown hg h.b2.size hr⟩
theorem MSt.more (h:MSt w0 w2 w v hs gs) (h02:w0.heap.size≤w2.heap.size) {w':World} {v':Value} {x:Hd3} {s:Ser} (hg:w.grownBy w' v.ownBlock) (hrow:w'.ownsRow w2.heap.size 58 3 v' (hs.length+1) (hs.flatMap encH3++encH3 x))
  (hm:MRow w2.heap.size w x s) (h1:(spM x).ownBlock=none) (h2:(wpM x).ownBlock=none):MSt w0 w2 w' v' (hs ++ [x]) (gs ++ [s]):=by
 have hr:∀k,v.ownBlock=some k→w2.heap.size≤k:=fun k hk=>(h.row.lt k hk).1
 obtain ⟨b0,b2⟩:=h.low h02 hg hr;refine ⟨b0,b2,?_,?_⟩
 ·rw[List.flatMap_append,List.flatMap_singleton,List.length_append];exact hrow
 ·refine (h.rows.snoc hm h1 h2).frame hg fun r e=>?_
  obtain ⟨cur,hc⟩:=Kax h.row e;exact ⟨_,cur,hc,by decide,by decide,by decide⟩
theorem MSt.put (h:MSt w0 w2 w (.slice (some ⟨g,0,none⟩) n cV) hs gs) (h02:w0.heap.size≤w2.heap.size) {w4:World} {k:Nat} {x x':Hd3} {s':Ser} (hk:hs[k]? = some x)
  (hos:w4.os=w.os) (htp:w4.tape=w.tape) (hou:w4.output=w.output) (hz:w.heap.size≤w4.heap.size)
  (hg:∀j,j < w.heap.size→some j≠(spM x).ownBlock→some j≠(wpM x).ownBlock→w4.heap[j]? = w.heap[j]?) (hl:x'.l=x.l) (hlab:s'.labels=gs[k]!.labels)
  (hS:w4.ownsRow w2.heap.size 102 2 (spM x') s'.samples.length (s'.samples.flatMap Kad)) (hW:w4.ownsRow w2.heap.size 135 6 (wpM x') s'.windows.length (s'.windows.flatMap Kai))
  (hSb:(spM x').ownBlock=(spM x).ownBlock∨∃b,(spM x').ownBlock=some b∧w.heap.size≤b) (hWb:(wpM x').ownBlock=(wpM x).ownBlock∨∃b,(wpM x').ownBlock=some b∧w.heap.size≤b) :
  (x'.w=x.w→MSt w0 w2 (w4.setCell ⟨g,k*3+1,none⟩ (spM x')) (.slice (some ⟨g,0,none⟩) n cV) (hs.set k x') (gs.set k s'))∧
  (x'.s=x.s→MSt w0 w2 (w4.setCell ⟨g,k*3+2,none⟩ (wpM x')) (.slice (some ⟨g,0,none⟩) n cV) (hs.set k x') (gs.set k s'))∧
  MSt w0 w2 ((w4.setCell ⟨g,k*3+1,none⟩ (spM x')).setCell ⟨g,k*3+2,none⟩ (wpM x')) (.slice (some ⟨g,0,none⟩) n cV) (hs.set k x') (gs.set k s'):=by
 have a:=h.rows.at_ k x hk
 have hn:hs.length=n:=by
  rcases h.row.2 with ⟨e,_⟩ | ⟨g',cap,cur,e,_⟩
  ·cases e
  ·injection e with _ e2;exact e2.symm
 have hgB:w2.heap.size≤g∧g < w.heap.size:=h.row.lt g rfl;obtain ⟨cur,hcur⟩:=Kax h.row (r:=g) rfl;have hgb:Blk w g 58 cur:=hcur;have hgs:some g≠(spM x).ownBlock:=Kag hgb a.sm (by decide);have hgw:some g≠(wpM x).ownBlock:=Kag hgb a.wd (by decide);have hsame:w4.heap[g]? = w.heap[g]?:=hg g hgB.2 hgs hgw;have hgb4:Blk w4 g 58 cur:=hsame.trans hgb
 have hrow4:w4.ownsRow w2.heap.size 58 3 (.slice (some ⟨g,0,none⟩) n cV) hs.length (hs.flatMap encH3):=Kck h.row hz (fun j hj=>by
  have:j=g:=by (have e:(Value.slice (some ⟨g,0,none⟩) n cV).ownBlock=some g:=rfl);rw[e] at hj;injection hj with hj;exact hj.symm
  rw[this];exact hsame)
 have hrow5:w4.ownsRow w2.heap.size 58 3 (.slice (some ⟨g,0,none⟩) n cV) n (hs.flatMap encH3):=by rw[hn] at hrow4;exact hrow4
 have hlow:∀j,j < w2.heap.size→w4.heap[j]? = w.heap[j]?:=fun j hj=>hg j (by omega) (fun e=>by have:=(a.sm.lt j e.symm).1;omega) (fun e=>by have:=(a.wd.lt j e.symm).1;omega)
 have hb4:Below w2.heap.size w w4:=⟨hos,htp,hou,hz,hlow⟩;have hb04:Below w0.heap.size w0 w4:=h.b0.trans (hb4.mono h02);have hb24:Below w2.heap.size w2 w4:=h.b2.trans hb4;have hr4:MRows w2.heap.size w4 (hs.set k x') (gs.set k s'):=h.rows.upd hk hz hg hl hlab hS hW hSb hWb
 have hfr:∀{W:World} (o:Nat) (u:Value),Blk W g 58 cur∨(∃c,Blk W g 58 c)→MRows w2.heap.size W (hs.set k x') (gs.set k s')→MRows w2.heap.size (W.setCell ⟨g,o,none⟩ u) (hs.set k x') (gs.set k s'):=fun {W} o u hb m=>by
  refine m.frame (row:=some g) ⟨rfl,rfl,rfl,by simp[World.setCell],fun j _ hj=>Below.heap_setCell _ _ _ _ (fun e=>hj (by rw[e]))⟩ fun r e=>?_
  injection e with e;subst e;rcases hb with hb | ⟨c,hb⟩
  ·exact ⟨_,_,hb,by decide,by decide,by decide⟩
  ·exact ⟨_,_,hb,by decide,by decide,by decide⟩
 have hbl:∀{W:World} (o:Nat) (u:Value),Below w0.heap.size w0 W→Below w2.heap.size w2 W→Below w0.heap.size w0 (W.setCell ⟨g,o,none⟩ u)∧Below w2.heap.size w2 (W.setCell ⟨g,o,none⟩ u):=fun {W} o u h1 h2=>
  ⟨h1.setCell (p:=⟨g,o,none⟩) (Nat.le_trans h02 hgB.1) u,h2.setCell (p:=⟨g,o,none⟩) hgB.1 u⟩
 have e1:∀{y:Hd3},y.l=x.l→y.w=x.w→(hs.set k y).flatMap encH3=(hs.flatMap encH3).set (k*3+1) (spM y):=fun {y} h1 h2=>Kgi hs k 1 x y (spM y) hk (by decide) (by unfold encH3 spM;rw[h1,h2];rfl)
 have e2:∀{y:Hd3},y.l=x.l→y.s=x.s→(hs.set k y).flatMap encH3=(hs.flatMap encH3).set (k*3+2) (wpM y):=fun {y} h1 h2=>Kgi hs k 2 x y (wpM y) hk (by decide) (by unfold encH3 wpM;rw[h1,h2];rfl)
 refine ⟨fun hx=>?_,fun hx=>?_,?_⟩
 ·obtain ⟨c1,c2⟩:=hbl (k*3+1) (spM x') hb04 hb24;refine ⟨c1,c2,?_,hfr _ _ (.inl hgb4) hr4⟩;rw[List.length_set,e1 hl hx,hn];exact (World.ownsRow.stored hrow5 _ _).1
 ·obtain ⟨c1,c2⟩:=hbl (k*3+2) (wpM x') hb04 hb24;refine ⟨c1,c2,?_,hfr _ _ (.inl hgb4) hr4⟩;rw[List.length_set,e2 hl hx,hn];exact (World.ownsRow.stored hrow5 _ _).1
 ·obtain ⟨c1,c2⟩:=hbl (k*3+1) (spM x') hb04 hb24;obtain ⟨d1,d2⟩:=hbl (k*3+2) (wpM x') c1 c2;refine ⟨d1,d2,?_,hfr _ _ (.inr ⟨_,hgb4.set_ _ _⟩) (hfr _ _ (.inl hgb4) hr4)⟩;rw[List.length_set]
  have ee:(hs.set k x').flatMap encH3=((hs.flatMap encH3).set (k*3+1) (spM x')).set (k*3+2) (wpM x'):=by
   have hy:=e1 (y:=⟨x.l,x'.s,x.w⟩) rfl rfl;have hkl:k < hs.length:=(List.getElem?_eq_some_iff.1 hk).1;have:=Kgi (hs.set k ⟨x.l,x'.s,x.w⟩) k 2 ⟨x.l,x'.s,x.w⟩ x' (wpM x') (by rw[List.getElem?_set_self hkl]) (by decide) (by unfold encH3 wpM;rw[hl];rfl);rw[List.set_set,hy] at this;exact this
  rw[ee,hn];exact (World.ownsRow.stored (World.ownsRow.stored hrow5 _ _).1 _ _).1
end
end
section
open Go.Shelf Go.RowKit Go.Lib Go.Sort
attribute [local go_sem ↓] Go.wp_at_zero Go.wp_at_succ
attribute [local go_sem] Later.cell
section
set_option maxHeartbeats 1000000
set_option maxRecDepth 100000
structure MS (w0:World) where
 h:Hd3
 s:Ser
 a:SerAt w0 h s
 z:h.l.n≤1099511627776
instance msIn (w0:World):Inhabited (MS w0):=⟨⟨⟨⟨none,0,0⟩,⟨none,0,0⟩,⟨none,0,0⟩⟩,⟨[],[],[]⟩,⟨Elems.nil_,Nat.le_refl _,Elems.nil_,Nat.le_refl _,Elems.nil_,Nat.le_refl _⟩,Nat.zero_le _⟩⟩
def encMS {w0:World} (x:MS w0):List Value:=encH3 x.h
theorem Khe {w0:World} (x:MS w0):(encMS x).length=3:=rfl
theorem Kzx {w0:World}:∀x:MS w0,∀v∈encMS x,v.oneCell'=true:=fun x=>Kop x.h
def cfM {w0:World} (x y:MS w0):Int:=cmpL x.s.labels y.s.labels
theorem ltM {w0:World} (x y:MS w0):ltOf cfM x y=decide (cmpL x.s.labels y.s.labels < 0):=rfl
theorem Qcs {a b c:List Lb} (h1:0≤cmpL a b) (h2:0≤cmpL b c):0≤cmpL a c:=by
 have a1:=Kdy a b;have a2:=Kdy b c;have a3:=Kdy a c;rcases (by omega:cmpL b a=0∨cmpL b a < 0) with e1 | e1
 ·have:=Kdz e1;subst this;exact h2
 ·rcases (by omega:cmpL c b=0∨cmpL c b < 0) with e2 | e2
  ·have:=Kdz e2;subst this;exact h1
  ·have:=Kdm e2 e1;omega
theorem swoM {w0:World}:SWO (ltOf (cfM (w0:=w0))) where
 irrefl x:=by rw[ltM,Kdk];rfl
 trans x y z h1 h2:=by
  rw[ltM,decide_eq_true_eq] at h1 h2 ⊢;exact Kdm h1 h2
 ntrans x y z h1 h2:=by
  rw[ltM,decide_eq_false_iff_not] at h1 h2 ⊢;have:=Qcs (a:=x.s.labels) (b:=y.s.labels) (c:=z.s.labels) (by omega) (by omega);omega
theorem Kyi {w0:World} (x y:MS w0) (W:World) (hW:Below w0.heap.size w0 W) :
  Calls Tryz.prog 59 #[.agg (encMS x).toArray,.agg (encMS y).toArray] W fun e w'=>e = .returned (.int .i64 (cfM x y))∧Grown W w':=by
 have hc:∀W',Below w0.heap.size w0 W'→Calls Tryz.prog 60 #[.slice x.h.l.A x.h.l.n x.h.l.c,.slice y.h.l.A y.h.l.n y.h.l.c] W' fun e w'=>e = .returned (.int .i64 (cfM x y))∧Grown W' w':=fun W' hb=>
  Kdv x.s.labels y.s.labels x.h.l.A y.h.l.A x.h.l.n y.h.l.n _ _ W' _ rfl ((x.a.l.below hb).more hb.size) ((y.a.l.below hb).more hb.size) (Nat.le_trans x.z (by decide)) (Nat.le_trans y.z (by decide))
 have HC:=Lib.hid hc;have HW:=Lib.hid hW;obtain ⟨r,hr⟩:∃r,cfM x y=r:=⟨_,rfl⟩;rw[hr] at HC ⊢;unfold encMS encH3;obtain ⟨A1,hA1⟩:∃v,v=Value.slice x.h.s.A x.h.s.n x.h.s.c:=⟨_,rfl⟩;obtain ⟨A2,hA2⟩:∃v,v=Value.slice x.h.w.A x.h.w.n x.h.w.c:=⟨_,rfl⟩;obtain ⟨B1,hB1⟩:∃v,v=Value.slice y.h.s.A y.h.s.n y.h.s.c:=⟨_,rfl⟩;obtain ⟨B2,hB2⟩:∃v,v=Value.slice y.h.w.A y.h.w.n y.h.w.c:=⟨_,rfl⟩;rw[←hA1,←hA2,←hB1,←hB2];obtain ⟨xa,hxa⟩:∃v,v=x.h.l.A:=⟨_,rfl⟩;obtain ⟨xn,hxn⟩:∃v,v=x.h.l.n:=⟨_,rfl⟩;obtain ⟨xc,hxc⟩:∃v,v=x.h.l.c:=⟨_,rfl⟩;obtain ⟨ya,hya⟩:∃v,v=y.h.l.A:=⟨_,rfl⟩;obtain ⟨yn,hyn⟩:∃v,v=y.h.l.n:=⟨_,rfl⟩;obtain ⟨yc,hyc⟩:∃v,v=y.h.l.c:=⟨_,rfl⟩;rw[←hxa,←hxn,←hxc,←hya,←hyn,←hyc] at HC ⊢;clear hr hc hW hA1 hA2 hB1 hB2 hxa hxn hxc hya hyn hyc;go_enter Tryz.func59,Tryz.ntmps59
 go_wp2_with fail
 refine (HC.out _ ?_).mono ?_
 ·exact (HW.out.alloc HW.out.size _).alloc (Nat.le_trans HW.out.size (by simp)) _
 rintro _ w1 ⟨rfl,hg⟩;have HG:=Lib.hid hg;clear hg;go_wp2_with fail
 go_ret
 exact ⟨rfl,(((Grown.refl _).alloc _).alloc _).trans HG.out⟩
theorem Khc (l:List Lb) (A:Option Addr) (n c:Nat) (w:World) (h:Elems w w.heap.size 2 encLb A n l) (hn:n≤1099511627776) :
  Calls Tryz.prog 61 #[.slice A n c] w fun e w'=>(∃A' c',e = .returned (.slice A' n c')∧n≤c'∧(n=0∨w'.ownsRow w.heap.size 99 2 (.slice A' n c') n (l.flatMap encLb)))∧Below w.heap.size w w':=by
 rcases Nat.eq_zero_or_pos n with h0 | h0
 ·subst h0
  cases A with
  | none=>
   refine (AnyE.slices_Clone_nil Tryz.laysCL 0 c w).mono ?_;rintro e w' ⟨rfl,rfl⟩;exact ⟨⟨none,0,rfl,Nat.le_refl _,.inl rfl⟩,Below.refl _ _⟩
  | some a=>
   have q81:∀(w:World) (a:Option Addr) (n c n' c':Nat),(binOp .eql 54 (.slice a n c) (.slice none n' c')).run Tryz.prog w = .ok (.bool a.isNone) w:=fun w a n c n' c'=>Lib.run_eql_slice_nil w _ _ a n c n' c' Tryz.underlying54
   clear h;go_enter Tryz.func61,Tryz.ntmps61
   go_wp2_with fail
   go_ret
   refine ⟨?_,(Below.refl _ _).alloc (Nat.le_refl _) _⟩
   first | exact ⟨_,_,rfl,Nat.zero_le _,.inl rfl⟩ | exact ⟨_,_,rfl⟩ | exact ⟨_,_,rfl,trivial⟩ | exact ⟨_,_,rfl,Nat.zero_le _,.inl trivial⟩
 ·obtain ⟨b,off,rfl,_,_⟩:=h.2 h0;obtain ⟨i0,hi0,hz0,hz1,hz2⟩:=info_parts Kmc;have hl:=h.len
  have hcon:=AnyE.slices_Clone Tryz.laysCL i0 _ 2 32 hi0 hz0 hz1 hz2 rfl (by omega) Tryz.sizeOf99 b off n c (l.flatMap encLb) w (by rw[Kik,hl]) (by unfold maxLen;omega) (by omega)
   (fun j u hu=>by
    have hj:=(List.getElem?_eq_some_iff.1 hu).1;rw[Kik] at hj
    rw[Kgk h h0 j hj];exact hu)
   (fun u hu=>by
    obtain ⟨x,_,hx⟩:=List.mem_flatMap.1 hu
    exact Khd x u hx)
  refine hcon.mono ?_;rintro e w' ⟨v',rfl,hown,hne,hb⟩;rcases hown.2 with ⟨rfl,_⟩ | ⟨g,cap,cur,rfl,_,_,h3,h4⟩
  ·exact absurd rfl hne
  ·exact ⟨⟨_,cap,rfl,h3,.inr hown⟩,hb⟩
theorem Kre {w0:World} (xs:List (MS w0)) (B n g cap:Nat) (w:World) (hb:Below w0.heap.size w0 w) (hB:w0.heap.size≤B) (h:w.ownsRow B 58 3 (.slice (some ⟨g,0,none⟩) n cap) n (xs.flatMap encMS)) (hl:xs.length=n) (hn:n≤1099511627776) :
  Calls Tryz.prog 58 #[.slice (some ⟨g,0,none⟩) n cap,.func (.func 59) #[] #[]] w fun e w'=>e = .returned (.tuple #[])∧∃ys:List (MS w0),Stab (ltOf cfM) xs ys∧w'.ownsRow B 58 3 (.slice (some ⟨g,0,none⟩) n cap) n (ys.flatMap encMS)∧w.grownBy w' (some g):=by
 have hlt:=h.lt g rfl;have R:RowK encMS 3 w g 0 xs.toArray:=⟨Khe,Kzx,Key Khe (by decide) h hl,hlt.2⟩;have hN:xs.toArray.size=n:=by simpa using hl
 have eg:∀args w,(callFunc 59 args).run Tryz.prog w = .ok (.enter 59 args) w:=enters_of Tryz.func59 (by kernel_rfl) rfl
 have hcmp:CmpLays Tryz.prog 59 #[] encMS 3 (cfM (w0:=w0)) g 0 xs.toArray.size w:=by
  intro m os dk hdk x y;have hS:SWK encMS 3 w g 0 dk (sortWorldK encMS 3 w g 0 m dk os):=⟨m,os,rfl⟩;have hbW:Below w0.heap.size w0 (sortWorldK encMS 3 w g 0 m dk os):=hb.grown (SWK.by hS) hb.size (fun k hk=>by injection hk with hk;omega);refine (Kyi x y _ hbW).mono ?_;rintro e w' ⟨he,⟨q,hq⟩⟩;exact ⟨he,q.n,q.os,hq⟩
 refine Calls.mono (Kld (cap:=cap) swoM eg hcmp R hN (by omega) xs w hl (SWK.start R.hH)) ?_;rintro e w' ⟨rfl,ys,hst,hS⟩;refine ⟨rfl,ys,hst,?_,SWK.by hS⟩;obtain ⟨m,os,rfl⟩:=hS;exact Kfd Khe (by decide) h hl ys.toArray (by simpa using hst.len.trans hl) m os
theorem Koy (cmp:Value) (w:World):Calls Tryz.prog 58 #[.slice none 0 0,cmp] w fun e w'=>e = .returned (.tuple #[])∧w=w':=by
 have hins:∀W:World,Calls Tryz.prog 177 #[.slice none 0 0,.int .i64 0,.int .i64 0,cmp] W fun e w'=>e = .returned (.tuple #[])∧W=w':=by
  intro W;go_enter Tryz.func177,Tryz.ntmps177
  go_wp2
  go_loopg [8] 0 (fun kx s8 wr=>s8 = .int .i64 1∧wr=W)
  case atStart=>exact ⟨rfl,rfl⟩
  case round=>
   obtain ⟨rfl,rfl⟩:=hrel;go_wp2_with fail
   go_end0
   exact ⟨rfl,rfl⟩
 have hst:∀W:World,Calls Tryz.prog 126 #[.slice none 0 0,.int .i64 0,cmp] W fun e w'=>e = .returned (.tuple #[])∧W=w':=by
  intro W;have HI:=Lib.hid hins;clear hins;go_enter Tryz.func126,Tryz.ntmps126
  go_wp2
  go_loopg [7,8] 0 (fun kx s7 s8 wr=>s7 = .int .i64 0∧s8 = .int .i64 20∧wr=W)
  case atStart=>exact ⟨rfl,rfl,rfl⟩
  case round=>
   obtain ⟨rfl,rfl,rfl⟩:=hrel;go_wp2_with fail
   refine (HI.out _).mono ?_;rintro _ w1 ⟨rfl,rfl⟩;go_wp2_with fail
   go_loopg [6] 0 (fun kx s6 wr2=>s6 = .int .i64 20∧wr2=wr)
   case atStart=>exact ⟨rfl,rfl⟩
   case round=>
    obtain ⟨rfl,rfl⟩:=hrel;go_wp2_with fail
    go_end0
    exact ⟨rfl,rfl⟩
 have HS:=Lib.hid hst;clear hins hst;go_enter Tryz.func58,Tryz.ntmps58
 go_wp2_with fail
 refine (HS.out _).mono ?_;rintro _ w1 ⟨rfl,rfl⟩;go_wp2_with fail
 go_end0
 exact ⟨rfl,rfl⟩
end
end
section
open Go.Shelf Go.RowKit Go.Lib Go.Sort
open Lib renaming hid → Jh
attribute [local go_sem ↓] Go.wp_at_zero Go.wp_at_succ
attribute [local go_sem] Later.cell
section
set_option maxHeartbeats 1000000
set_option maxRecDepth 100000
def Kgw:Go.Shelf.Ren:=⟨fun | 4=>125 | n=>n,fun | 0=>0 | 3=>3 | 4=>4 | 9=>9 | 20=>20 | 22=>26 | 25=>58 | n=>n,fun | n=>n⟩
theorem Ktb:Lays8.n4 Tryz.prog Kgw:={
 mixed:=by kernel_rfl
 f4:=⟨Tryz.f125.name,by decide,Tryz.func125.trans (congrArg some (by kernel_rfl))⟩
 t0:=Tryz.underlying0
 a0:=Tryz.isAgg0
 z0:=Tryz.sizeOf0
 v0:=Tryz.zeroValue0
 t3:=Tryz.underlying3
 a3:=Tryz.isAgg3
 z3:=Tryz.sizeOf3
 v3:=Tryz.zeroValue3
 t4:=Tryz.underlying4
 a4:=Tryz.isAgg4
 z4:=Tryz.sizeOf4
 v4:=Tryz.zeroValue4
 t9:=Tryz.underlying9
 a9:=Tryz.isAgg9
 z9:=Tryz.sizeOf9
 v9:=Tryz.zeroValue9
 t20:=Tryz.underlying20
 a20:=Tryz.isAgg20
 z20:=Tryz.sizeOf20
 v20:=Tryz.zeroValue20
 t22:=Tryz.underlying26
 a22:=Tryz.isAgg26
 z22:=Tryz.sizeOf26
 v22:=Tryz.zeroValue26 }
theorem Kfz:(Tryz.prog.info? 58).map (fun i=>(i.zero,i.size,i.bytes))=some (some (.agg #[.slice none 0 0,.slice none 0 0,.slice none 0 0]),3,72):=by kernel_rfl
theorem Kxu (n:Nat) (w:World) (hn:n≤1099511627776):Calls Tryz.prog 125 #[.slice none 0 0,.int .i64 n] w fun e w'=>∃v,e = .returned v∧w'.ownsRow w.heap.size 58 3 v 0 []∧Below w.heap.size w w':=by
 rcases Nat.eq_zero_or_pos n with rfl | h0
 ·refine (Any8.slices_Grow_room Ktb none 0 0 0 w (by omega) (by omega) (by omega) (by omega)).mono ?_;rintro e w' ⟨rfl,rfl⟩;exact ⟨_,rfl,World.ownsRow_nil _ _ _ _,Below.refl _ _⟩
 ·obtain ⟨ib,hib,hz0,hz1,hz2⟩:=info_parts Kfz;refine (Any8.slices_Grow_grow Ktb ib _ hib hz0 (by omega) none 0 0 n [] w (by omega) (by omega) (by rw[hz2];omega) (by omega) (by simp) (fun _=>rfl) (fun a h=>by cases h)).mono ?_;rintro e w' ⟨rfl,rfl⟩;have hge:=grownCap_ge w (0+n) 0 58;have hle:=grownCap_le_maxLen w (0+n) 0 58 (by unfold maxLen;omega);refine ⟨_,rfl,⟨by simp,.inr ⟨w.heap.size,_,_,rfl,Nat.le_refl _,heap_alloc_new w.drew _,Nat.zero_le _,hle,?_,by simp⟩⟩,(Below.refl _ _).drew.alloc (Nat.le_refl _) _⟩;have hge':0+n≤grownCap w (0+n) 0 (Kgw.t 25):=hge;simp only[Array.size_append,List.size_toArray,List.length_nil,Builtin.zeroCells,Array.size_map,Array.size_range,Value.cells];show 0+(0+n - 0)*3+(grownCap w (0+n) 0 58 - (0+n))*3=_*3
  have:grownCap w (0+n) 0 (Kgw.t 25)=grownCap w (0+n) 0 58:=rfl;rw[this] at hge' ⊢;omega
def Kbt (h:Hd):List Value:=[.slice h.A h.n h.c]
structure CatIn (w:World) (A:Option Addr) (n:Nat) (hs:List Hd) (Ks:List (List Hd3)):Prop where
 e:Elems w w.heap.size 1 Kbt A n hs
 l:Ks.length=n
 k:∀(i:Nat) (h:Hd),hs[i]? = some h→Elems w w.heap.size 3 encH3 h.A h.n Ks[i]!
 c:∀h∈hs,h.n≤h.c
theorem CatIn.below {w w':World} {A:Option Addr} {n:Nat} {hs:List Hd} {Ks:List (List Hd3)} (h:CatIn w A n hs Ks) (hb:Below w.heap.size w w'):CatIn w' A n hs Ks:=
 ⟨(h.e.below hb).more hb.size,h.l,fun i x hi=>((h.k i x hi).below hb).more hb.size,h.c⟩
theorem CatIn.at_ {w:World} {A:Option Addr} {n:Nat} {hs:List Hd} {Ks:List (List Hd3)} (h:CatIn w A n hs Ks) {i:Nat} (hi:i < n):∃(b off:Nat) (x:Hd),A=some ⟨b,off,none⟩∧b < w.heap.size∧w.cell? ⟨b,off+i,none⟩=some (.slice x.A x.n x.c)∧Elems w w.heap.size 3 encH3 x.A x.n Ks[i]!∧x.n≤x.c:=by
 obtain ⟨b,off,e,hb,hc⟩:=h.e.2 (by omega);have hl:=h.e.len;have hx:hs[i]? = some (hs[i]'(by omega)):=List.getElem?_eq_getElem _;have:=hc i _ hx 0 _ rfl;exact ⟨b,off,_,e,hb,by simpa using this,h.k i _ hx,h.c _ (List.getElem_mem _)⟩
theorem Kvd (l:List Hd3):(l.flatMap encH3).length=l.length*3:=Kdd Kcc l
theorem Kse (A:Option Addr) (n c:Nat) (hs:List Hd) (Ks:List (List Hd3)) (F:List Hd3) (hF:Ks.flatten=F) (w:World) (h:CatIn w A n hs Ks) (hN:F.length≤274877906944) (hn:n≤140737488355328) :
  Calls Tryz.prog 57 #[.slice A n c] w fun e w'=>∃v,e = .returned v∧w'.ownsRow w.heap.size 58 3 v F.length (F.flatMap encH3)∧Below w.heap.size w w':=by
 obtain ⟨ib,hib,hz0,hz1,hz2⟩:=info_parts Kfz;have HK:=Jh h;rw[←hF] at hN;have HFF:=Jh hF;have HNN:=Jh hN;obtain ⟨T,hT⟩:∃T,T=Ks.flatten.length:=⟨_,rfl⟩;have HT:=Jh hT;have hTN:T≤274877906944:=by omega
 have HG:=Jh (Kxu T w (by omega))
 have htk:∀i,i < n→(Ks.take (i+1)).flatten=(Ks.take i).flatten++Ks[i]!:=fun i hi=>by
  have hl:i < Ks.length:=by rw[h.l];exact hi
  rw[List.take_add_one,List.getElem?_eq_getElem hl,getElem!_pos Ks i hl,List.flatten_append];simp
 have hle:∀i,(Ks.take i).flatten.length≤T:=fun i=>by
  rw[hT]
  conv=>rhs;rw[←List.take_append_drop i Ks]
  rw[List.flatten_append,List.length_append];omega
 have HTK:=Jh htk;have HLE:=Jh hle;clear h hN hT htk hle hF;go_enter Tryz.func57,Tryz.ntmps57
 go_wp2
 go_loopg [3,11] n (fun kx s3 s11 wr=>∃(i m:Nat),s3 = .int .i64 (m:Int)∧s11 = .int .i64 (i:Int)∧i+kx=n∧m≤T∧Hid (m=(Ks.take i).flatten.length)∧w=wr)
 case atStart=>exact ⟨0,0,rfl,rfl,by omega,by omega,(by simp:0=(Ks.take 0).flatten.length),rfl⟩
 case round=>
  obtain ⟨i,m,rfl,rfl,hi,hm,HM,rfl⟩:=hrel;rcases Nat.lt_or_ge i n with hlt | hge
  ·have hlz:(i:Int) < (n:Int):=by omega
   obtain ⟨b,off,x,e,hb,c0,hx,hxc⟩:=HK.out.at_ hlt;have hxl:=hx.len
   have hm2:m+x.n≤T:=by
    have h1:=HLE.out (i+1);rw[HTK.out i hlt,List.length_append,←HM.out,hxl] at h1;exact h1
   have HM2:Hid (m+x.n=(Ks.take (i+1)).flatten.length):=by
    show _=_
    rw[HTK.out i hlt,List.length_append,←HM.out,hxl]
   subst e;obtain ⟨A1,n1,c1⟩:=x;dsimp only at c0 hm2 HM2;have hneg:¬(m:Int)+(n1:Int) < 0:=by omega
   clear hx hxl hxc HM;go_wp2_with fail
   go_roundg (n - (i+1))
   case measure=>omega
   case rel=>exact ⟨i+1,m+n1,by first | rfl | go_num,by first | rfl | go_num,by omega,hm2,HM2,rfl⟩
  ·have hlz:¬(i:Int) < (n:Int):=by omega
   have hmT:m=T:=by
    rw[HM.out,HT.out,List.take_of_length_le (by rw[HK.out.l];exact hge)]
   subst hmT;clear HM hm;go_wp2_with fail
   refine HG.out.mono ?_;rintro e1 w1 ⟨v1,rfl,h1,h2⟩
   have HR0:Hid (w1.ownsRow w.heap.size 58 3 v1 (Ks.take 0).flatten.length ((Ks.take 0).flatten.flatMap encH3)):=by
    show w1.ownsRow _ _ _ _ _ _
    rw[List.take_zero];exact h1
   have HB0:=Jh h2;clear h1 h2;go_wp2_with fail
   go_loopg [6,27] n (fun kx s6 s27 wq=>∃(i:Nat),s27 = .int .i64 (i:Int)∧i+kx=n∧Hid (wq.ownsRow w.heap.size 58 3 s6 (Ks.take i).flatten.length ((Ks.take i).flatten.flatMap encH3))∧Hid (Below w.heap.size w wq))
   case atStart=>exact ⟨0,rfl,by omega,HR0,HB0⟩
   case round=>
    clear HR0 HB0;obtain ⟨i,rfl,hi,HR,HB⟩:=hrel;rcases Nat.lt_or_ge i n with hlt | hge
    ·have hlz:(i:Int) < (n:Int):=by omega
     obtain ⟨A0,cV,hv⟩:=Kan HR.out;subst hv;obtain ⟨b,off,x,e,hb,c0,hx,hxc⟩:=(HK.out.below HB.out).at_ hlt;have hxl:=hx.len
     have hm2:(Ks.take i).flatten.length+x.n≤m:=by
      have h1:=HLE.out (i+1);rw[HTK.out i hlt,List.length_append,hxl] at h1;exact h1
     subst e;have hwz:w.heap.size≤wr.heap.size:=HB.out.size;have HR1:wr.ownsRow w.heap.size 58 3 (.slice A0 (Ks.take i).flatten.length cV) (Ks.take i).flatten.length ((Ks.take i).flatten.flatMap encH3):=HR.out;have HTE0:=HTK.out i hlt;obtain ⟨K1,hK1⟩:∃K1,K1=Ks[i]!:=⟨_,rfl⟩;rw[←hK1] at HTE0 hx hxl;have HTE:=Jh HTE0;clear HTE0 hK1;obtain ⟨p,hp⟩:∃p,(Ks.take i).flatten.length=p:=⟨_,rfl⟩;rw[hp] at HR1 hm2 ⊢;have HP:=Jh hp;obtain ⟨A1,n1,c1⟩:=x;dsimp only at c0 hm2 hxl hxc hx;have HX:Hid (Elems wr wr.heap.size 3 encH3 A1 n1 K1):=hx;have HXL:Hid (K1.length=n1):=hxl;have HR1H:=Jh HR1;clear hx hxl HR hp HR1
     cases A1 with
     | none=>
      have hn1:K1 = []:=by
       rcases Nat.eq_zero_or_pos n1 with h0 | h0
       ·exact List.eq_nil_of_length_eq_zero (by rw[HXL.out,h0])
       ·obtain ⟨b',off',e,_⟩:=HX.out.2 h0;cases e
      have hn0:n1=0:=by rw[←HXL.out,hn1];rfl
      subst hn0
      have HR2:Hid (wr.ownsRow w.heap.size 58 3 (.slice A0 p cV) (Ks.take (i+1)).flatten.length ((Ks.take (i+1)).flatten.flatMap encH3)):=by
       show wr.ownsRow _ _ _ _ _ _
       rw[HTE.out,hn1,List.append_nil,HP.out];exact HR1H.out
      clear hn1;go_wp2_with (at_builtin;refine Kjj rfl _ _ 26 rfl w.heap.size 58 ib 3 Tryz.underlying26 hib (.slice A0 p cV) _ c1 _ rfl HR1H.out rfl ?_)
      go_wp2_with fail
      go_roundg (n - (i+1))
      case measure=>omega
      case rel=>exact ⟨i+1,by first | rfl | go_num,by omega,HR2,HB⟩
     | some a1=>
      go_wp2_with (at_builtin;refine wpList_append_own_at _ rfl _ _ 26 rfl w.heap.size 58 ib (.agg #[.slice none 0 0,.slice none 0 0,.slice none 0 0]) 3 72 Tryz.underlying26 hib hz0 hz1 hz2 rfl (by decide) (.slice A0 p cV) p _ rfl HR1H.out a1 n1 c1 (K1.flatMap encH3) rfl ?c0 ?c1 ?c2 ?c3 ?c4 ?c5 ?_)
      case c3=>unfold maxLen;omega
      case c4=>omega
      case c0=>rw[Kvd,HXL.out]
      case c1=>exact Elems.cellsM (fun x _=>Kcc x) HX.out
      case c2=>
       intro u hu;obtain ⟨x,_,hx⟩:=List.mem_flatMap.1 hu;exact Kop x u hx
      ·exact hwz
      intro v' w4 hown' hgrow _ _
      have HR2:Hid (w4.ownsRow w.heap.size 58 3 v' (Ks.take (i+1)).flatten.length ((Ks.take (i+1)).flatten.flatMap encH3)):=by
       show w4.ownsRow _ _ _ _ _ _
       rw[HTE.out,List.length_append,HP.out,HXL.out,List.flatMap_append];exact hown'
      have HB2:Hid (Below w.heap.size w w4):=HB.out.grown hgrow hwz (fun k hk=>(HR1H.out.lt k hk).1);clear hown' hgrow;go_wp2_with fail
      go_roundg (n - (i+1))
      case measure=>omega
      case rel=>exact ⟨i+1,by first | rfl | go_num,by omega,HR2,HB2⟩
    ·have hlz:¬(i:Int) < (n:Int):=by omega
     have HF:Hid (wr.ownsRow w.heap.size 58 3 u6 F.length (F.flatMap encH3)):=by
      have h:=HR.out;rw[List.take_of_length_le (by rw[HK.out.l];exact hge),HFF.out] at h;exact h
     clear HR;go_wp2_with fail
     go_ret
     exact ⟨_,rfl,HF.out,HB.out⟩
end
end
section
open Go.RowKit
theorem Kdr {P:Program} {o:Oper} {a:Act} {w w':World} {v' sv xv:Value} (s x:Operand) (t:TypeId) (ho:o.op = .call { callee:=.builtin .append,args:=#[s,x],argTypes:=#[t,t] }) (hs:a.eval s=sv) (hx:a.eval x=xv)
  (hr:(Builtin.append_ #[t,t] o.type #[sv,xv]).run P w = .ok v' w'):(execOp a.eval o).run P w = .ok (.value v') w':=by
 unfold execOp;simp only[ho,resolve,invoke,builtin,Sem.run_bind,Sem.run_pure,Result.andThen_ok,List.map_toArray,List.map_cons,List.map_nil,hs,hx,hr]
theorem Kcy {P:Program} {α : Type} {enc:α→List Value} {w:World} (base:Nat) (t ty e:TypeId) (i:TypeInfo) (z:Value) (size bytes:Nat) (ht:P.underlying t=some (.slice e)) (hi:P.info? e=some i) (hz:i.zero=some z)
  (hsize:i.size=size) (hby:i.bytes=bytes) (hzs:z.cells.size=size) (hsz:0 < size) (hk:∀x,(enc x).length=size) (h1:∀x,∀u∈enc x,u.oneCell'=true)
  (v:Value) (xs:List α) (hown:w.ownsRow base e size v xs.length (xs.flatMap enc)) (A:Option Addr) (n c:Nat) (l:List α) (hE:Elems w w.heap.size size enc A n l)
  (h63:xs.length+n≤maxLen) (hbytes:(xs.length+n)*bytes≤140737488355328) (hbase:base≤w.heap.size) :
  ∃v' w',(Builtin.append_ #[t,t] ty #[v,.slice A n c]).run P w = .ok v' w'∧w'.ownsRow base e size v' (xs++l).length ((xs++l).flatMap enc)∧w.grownBy w' v.ownBlock∧(v'.ownBlock=v.ownBlock∨∃b,v'.ownBlock=some b∧w.heap.size≤b):=by
 have hl:=hE.len
 cases A with
 | none=>
  have hn:n=0:=by
   rcases Nat.eq_zero_or_pos n with h | h
   ·exact h
   ·obtain ⟨b,off,e,_⟩:=hE.2 h;cases e
  subst hn;have hl0:l = []:=List.eq_nil_of_length_eq_zero hl;subst hl0;exact ⟨v,w,Kha base t ty e i size ht hi v xs.length c _ hown,by simpa using hown,⟨rfl,rfl,rfl,Nat.le_refl _,fun _ _ _=>rfl⟩,.inl rfl⟩
 | some a=>
  obtain ⟨v',w',h2,h3,h4,_,h6⟩:=run_append_own_at (P:=P) w base t ty e i z size bytes ht hi hz hsize hby hzs hsz v xs.length _ hown a n c (l.flatMap enc) (by rw[Kdd hk,hl]) (Elems.cellsM (fun x _=>hk x) hE) (fun u hu=>by
   obtain ⟨x,_,hx⟩:=List.mem_flatMap.1 hu
   exact h1 x u hx) h63 hbytes hbase
  refine ⟨v',w',h2,?_,h4,h6.imp id fun e=>⟨_,e,Nat.le_refl _⟩⟩;rw[List.length_append,hl,List.flatMap_append];exact h3
end
section
open Go.Shelf Go.RowKit Go.Lib Go.Sort
open Lib renaming hid → Jh
open List renaming length_append → Jd
attribute [local go_sem ↓] Go.wp_at_zero Go.wp_at_succ
attribute [local go_sem] Later.cell
section
set_option maxHeartbeats 1000000
set_option maxRecDepth 100000
def goodH (h:Hd3):Bool:=decide (0 < h.s.n+h.w.n)
def szH (h:Hd3):Prop:=h.s.n≤140737488351232∧h.w.n≤140737488351232
theorem Knt (h:Hd3) (hz:szH h) (w:World):Calls Tryz.prog 68 #[.agg (encH3 h).toArray] w fun e w'=>e = .returned (.bool (goodH h))∧Grown w w':=by
 obtain ⟨⟨A1,n1,c1⟩,⟨A2,n2,c2⟩,⟨A3,n3,c3⟩⟩:=h;obtain ⟨z1,z2⟩:=hz;obtain ⟨r,hr⟩:∃r,goodH ⟨⟨A1,n1,c1⟩,⟨A2,n2,c2⟩,⟨A3,n3,c3⟩⟩=r:=⟨_,rfl⟩;rw[hr];unfold encH3;dsimp only at z1 z2 ⊢;have hr2:decide (0 < n2+n3)=r:=hr;have hr3:decide ((0:Int) < (n2:Int)+(n3:Int))=r:=by rw[←hr2,decide_eq_decide];omega
 go_enter Tryz.func68,Tryz.ntmps68
 go_wp2_with fail
 go_ret
 exact ⟨by first | rfl | (congr 2;first | exact hr3 | exact hr2),(Grown.refl _).alloc _⟩
theorem Kjf (h:Hd3) (hz:szH h) (w:World):Calls Tryz.prog 67 #[.agg (encH3 h).toArray] w fun e w'=>e = .returned (.bool (!goodH h))∧Grown w w':=by
 have HS:=Jh (fun w=>Knt h hz w);obtain ⟨r,hr⟩:∃r,goodH h=r:=⟨_,rfl⟩;rw[hr] at HS ⊢;obtain ⟨⟨A1,n1,c1⟩,⟨A2,n2,c2⟩,⟨A3,n3,c3⟩⟩:=h;unfold encH3 at HS ⊢;dsimp only at HS ⊢;clear hr hz;go_enter Tryz.func67,Tryz.ntmps67
 go_wp2_with fail
 refine (HS.out _).mono ?_;rintro _ w1 ⟨rfl,hg⟩;have HG:=Jh hg;clear hg;go_wp2_with fail
 go_ret
 exact ⟨by cases r <;> rfl,((Grown.refl _).alloc _).trans HG.out⟩
theorem Kiw {w0 W:World} {blk off:Nat} {dk d0:Array Hd3} (h:SWK encH3 3 w0 blk off dk W) (R:RowK encH3 3 w0 blk off d0) (hs:dk.size=d0.size) (i:Nat) (hi:i < dk.size) :
  (W.cell? ⟨blk,off+i*3,none⟩=some (.slice dk[i]!.l.A dk[i]!.l.n dk[i]!.l.c)∧W.cell? ⟨blk,off+i*3+1,none⟩=some (.slice dk[i]!.s.A dk[i]!.s.n dk[i]!.s.c)∧W.cell? ⟨blk,off+i*3+2,none⟩=some (.slice dk[i]!.w.A dk[i]!.w.n dk[i]!.w.c))∧
  (W.frozen? ⟨blk,off+i*3,none⟩=false∧W.frozen? ⟨blk,off+i*3+1,none⟩=false∧W.frozen? ⟨blk,off+i*3+2,none⟩=false)∧blk < W.heap.size:=by
 have hH:=h.holds R.hblk R.hH hs
 have g:∀j,j < 3→W.cell? ⟨blk,off+(i*3+j),none⟩=some ((encH3 dk[i]!)[j]!)∧W.frozen? ⟨blk,off+(i*3+j),none⟩=false:=fun j hj=>by
  have hlt:i*3+j < dk.size*3:=by omega
  have:=hH (i*3+j) (by rw[size_flatK];exact hlt);rw[get_flatK _ _ _ _ hlt,show (i*3+j) / 3=i by omega,show (i*3+j) % 3=j by omega] at this;exact this
 exact ⟨⟨(g 0 (by decide)).1,(g 1 (by decide)).1,(g 2 (by decide)).1⟩,⟨(g 0 (by decide)).2,(g 1 (by decide)).2,(g 2 (by decide)).2⟩,h.lt R.hblk⟩
section
variable {d0 : Array Hd3} {w0 : World} {blk off cap N : Nat}
theorem Koq (R:RowK encH3 3 w0 blk off d0) (hN:d0.size=N) (hsz:N < 1152921504606846976) (xs:List Hd3) (hx:∀h∈xs,szH h) (w:World) (hl:xs.length=N) (S0:SWK encH3 3 w0 blk off xs.toArray w) :
  Calls Tryz.prog 141 #[.slice (some ⟨blk,off,none⟩) N cap,.func (.func 67) #[] #[]] w fun e w'=>(∃k:Nat,k≤N∧e = .returned (.int .i64 (if k < N then (k:Int) else -1))∧(∀a∈xs.take k,goodH a=true)∧(k < N→goodH xs[k]! = false))∧SWK encH3 3 w0 blk off xs.toArray w':=by
 have S1:Aside (SWK encH3 3 w0 blk off xs.toArray w):=S0;have HQ:=Jh (And.intro hN hl);have HX:=Jh hx;have HC:=Jh (fun (h:Hd3) (hz:szH h) (W:World)=>Kjf h hz W);have hszd:xs.toArray.size=N:=by simpa using hl
 clear S0 hN hl hx;go_enter Tryz.func141,Tryz.ntmps141
 go_wp2
 go_loopg [8] N (fun kx s8 wr=>∃k:Nat,s8 = .int .i64 k∧k+kx=N∧Hid (∀a∈xs.take k,goodH a=true)∧Aside (SWK encH3 3 w0 blk off xs.toArray wr))
 case atStart=>exact ⟨0,rfl,by omega,(by rw[List.take_zero];exact fun _ h=>absurd h List.not_mem_nil),S1⟩
 case round=>
  clear S1;obtain ⟨k,rfl,hk,HA,S1⟩:=hrel;rcases Nat.lt_or_ge k N with hlt | hge
  ·have hlz:(k:Int) < (N:Int):=by omega
   obtain ⟨⟨c0,c1,c2⟩,_,hbl⟩:=Kiw S1.out R (by rw[hszd,HQ.out.1]) k (by rw[hszd];exact hlt);have hxk:xs.toArray[k]! = xs[k]!:=by simp
   rw[hxk] at c0 c1 c2;have hmem:xs[k]!∈xs:=by rw[getElem!_pos xs k (by have:=HQ.out.2;omega)];exact List.getElem_mem _
   have hcx:=HC.out xs[k]! (HX.out _ hmem);obtain ⟨x,hx⟩:∃x,xs[k]! = x:=⟨_,rfl⟩;rw[hx] at c0 c1 c2 hcx;have HXK:=Jh hx;obtain ⟨r,hr⟩:∃r,goodH x=r:=⟨_,rfl⟩;rw[hr] at hcx;have HRR:=Jh hr;clear hx hxk hmem hr;obtain ⟨⟨A1,n1,k1⟩,⟨A2,n2,k2⟩,⟨A3,n3,k3⟩⟩:=x;unfold encH3 at hcx;dsimp only at c0 c1 c2 hcx;have HCX:=Jh hcx;clear hcx;go_wp2_with fail
   refine (HCX.out _).mono ?_;rintro _ w1 ⟨rfl,hg⟩;have S2:Aside (SWK encH3 3 w0 blk off xs.toArray w1):=SWK.of_grown S1.out hg;clear hg S1 c0 c1 c2 hbl
   cases r with
   | true=>
    have HA2:Hid (∀a∈xs.take (k+1),goodH a=true):=by
     intro a ha;rw[List.take_add_one,List.getElem?_eq_getElem (by have:=HQ.out.2;omega)] at ha;rcases List.mem_append.1 ha with ha | ha
     ·exact HA.out a ha
     ·have h1:=HRR.out;rw[←HXK.out,getElem!_pos xs k (by have:=HQ.out.2;omega)] at h1;have h2:a=xs[k]'(by have:=HQ.out.2;omega):=by simpa using ha
      rw[h2];exact h1
    clear HA HXK HRR;go_wp2_with fail
    go_roundg (N - (k+1))
    case measure=>omega
    case rel=>exact ⟨k+1,by first | rfl | go_num,by omega,HA2,S2⟩
   | false=>
    go_wp2_with fail
    go_ret
    exact ⟨⟨k,by omega,by rw[if_pos hlt];rfl,HA.out,fun _=>by rw[HXK.out];exact HRR.out⟩,S2.out⟩
  ·have hlz:¬(k:Int) < (N:Int):=by omega
   have hkN:k=N:=by omega
   go_wp2_with fail
   go_ret
   exact ⟨⟨k,by omega,by rw[if_neg (by omega)];rfl,HA.out,fun h=>absurd h (by omega)⟩,S1.out⟩
theorem Ksf (R:RowK encH3 3 w0 blk off d0) (hN:d0.size=N) (hsz:N < 1152921504606846976) (xs:List Hd3) (hx:∀h∈xs,szH h) (w:World) (hl:xs.length=N) (hcN:N≤cap)
  (S0:SWK encH3 3 w0 blk off xs.toArray w) :
  Calls Tryz.prog 66 #[.slice (some ⟨blk,off,none⟩) N cap,.func (.func 67) #[] #[]] w fun e w'=>e = .returned (.slice (some ⟨blk,off,none⟩) (xs.filter goodH).length cap)∧∃zs:List Hd3,zs.length=N∧zs.take (xs.filter goodH).length=xs.filter goodH∧SWK encH3 3 w0 blk off zs.toArray w':=by
 have HI:=Jh (Koq (cap:=cap) R hN hsz xs hx w hl S0);have HQ:=Jh (And.intro hN hl);have HX:=Jh hx;have HC:=Jh (fun (h:Hd3) (hz:szH h) (W:World)=>Kjf h hz W);have hcl:=fun (W:World) (dk:Array Hd3) (i:Nat) (a:dk.size=N) (b:SWK encH3 3 w0 blk off dk W) (c:i≤N)=>Kkp (P:=Tryz.prog) Tryz.underlying26 (⟨⟨none,0,0⟩,⟨none,0,0⟩,⟨none,0,0⟩⟩:Hd3) (fun w=>Tryz.zeroValue58 w) (by decide) R hN W dk i (cap - i) a b c
 have HCL:Aside _:=hcl;clear S0 hN hl hx hcl;go_enter Tryz.func66,Tryz.ntmps66
 go_wp2_with fail
 refine HI.out.mono ?_;rintro _ w1 ⟨⟨k,hk,rfl,hall,hbad⟩,S0⟩;have S1:Aside (SWK encH3 3 w0 blk off xs.toArray w1):=S0;clear S0;rcases Nat.lt_or_ge k N with hkn | hkn
 ·rw[if_pos hkn];have hk1:¬(k:Int) = -1:=by omega
  have hk2:((k:Int) == -1)=false:=beq_eq_false_iff_ne.2 hk1;have hk3:decide ((k:Int) = -1)=false:=decide_eq_false hk1
  have hex:∃(y:Hd3) (R0:List Hd3),xs=xs.take k++y :: R0∧goodH y=false:=by
   have hlt:k < xs.length:=by have:=HQ.out.2;omega
   refine ⟨xs[k],xs.drop (k+1),?_,?_⟩
   ·conv=>lhs;rw[←List.take_append_drop k xs,List.drop_eq_getElem_cons hlt]
   ·have:=hbad hkn;rwa[getElem!_pos xs k hlt] at this
  obtain ⟨y,R0,hxs,hy⟩:=hex
  have hfil:xs.filter goodH=xs.take k++R0.filter goodH:=by
   conv=>lhs;rw[hxs]
   rw[List.filter_append,List.filter_eq_self.2 (fun a ha=>hall a ha),List.filter_cons,if_neg (by rw[hy];exact Bool.noConfusion)]
  have hkl:(xs.take k).length=k:=by rw[List.length_take];have:=HQ.out.2;omega
  have HL:Hid ((xs.take k).length=k∧k+1=(xs.take k).length + [y].length∧(xs.take k).length + [y].length+R0.length=N∧xs.filter goodH=xs.take k++R0.filter goodH∧∀h∈R0,szH h):=by
   refine ⟨hkl,by rw[hkl];rfl,?_,hfil,fun h hh=>HX.out h (by rw[hxs];simp[hh])⟩;have:=congrArg List.length hxs;have hq:=HQ.out.2;simp only[Jd,List.length_cons,List.length_nil] at this ⊢;omega
  have S2:Aside (SWK encH3 3 w0 blk off (xs.take k++([y]++R0)).toArray w1):=by
   show SWK _ _ _ _ _ _ _
   rw[show xs.take k++([y]++R0)=xs by rw[List.singleton_append];exact hxs.symm];exact S1.out
  generalize xs.take k=K0 at HL S2;clear hall hbad hxs hy hfil hkl S1;have hkc:k < cap:=by omega
  go_wp2_with fail
  go_loopg [5,6,7] N (fun gg s5 s6 _ wr=>∃(i j:Nat) (K1 M R1:List Hd3),s5 = .int .i64 (i:Int)∧s6 = .int .i64 (j:Int)∧i < j∧j≤N∧N≤j+gg∧Hid (K1.length=i∧j=K1.length+M.length∧K1.length+M.length+R1.length=N∧xs.filter goodH=K1++R1.filter goodH∧∀h∈R1,szH h)∧Aside (SWK encH3 3 w0 blk off (K1++(M++R1)).toArray wr))
  case atStart=>exact ⟨k,k+1,K0,[y],R0,rfl,by first | rfl | go_num,by omega,by omega,by omega,HL,S2⟩
  case round=>
   clear HL S2;obtain ⟨i,j,K1,M,R1,rfl,rfl,hij,hjN,hjg,HB,S1⟩:=hrel;rcases Nat.lt_or_ge j N with hj | hj
   ·have hj2:(j:Int) < (N:Int):=by omega
    obtain ⟨b1,b2,b3,b4,b5⟩:=HB.out
    have hRx:∃x R2,R1=x :: R2:=by
     cases R1 with
     | nil=>simp only[List.length_nil] at b3;omega
     | cons x R2=>exact ⟨x,R2,rfl⟩
    obtain ⟨x,R2,rfl⟩:=hRx;have hszd:(K1++(M++x :: R2)).toArray.size=N:=by simp only[List.size_toArray,Jd];omega
    obtain ⟨⟨c0,c1,c2⟩,_,hbl⟩:=Kiw S1.out R (by rw[hszd,HQ.out.1]) j (by rw[hszd];exact hj);have hxj:(K1++(M++x :: R2)).toArray[j]! = x:=by rw[←List.append_assoc];exact Kco (by rw[Jd];exact b2)
    rw[hxj] at c0 c1 c2;have hxz:=b5 x (List.mem_cons_self ..);have hcx:=HC.out x hxz;obtain ⟨r,hr⟩:∃r,goodH x=r:=⟨_,rfl⟩;rw[hr] at hcx;simp only[List.length_cons] at b3;have HB2:Hid (K1.length=i∧j=K1.length+M.length∧K1.length+M.length+(R2.length+1)=N∧xs.filter goodH=K1++(if r=true then x :: R2.filter goodH else R2.filter goodH)∧∀h∈R2,szH h):=⟨b1,b2,b3,by rw[b4,List.filter_cons,hr],fun h hh=>b5 h (List.mem_cons_of_mem _ hh)⟩;clear HB b1 b2 b3 b4 b5 hxj hr hxz;obtain ⟨xx,hxx⟩:∃y,y=x:=⟨_,rfl⟩;have HXX:=Jh hxx;clear hxx;obtain ⟨⟨A1,n1,k1⟩,⟨A2,n2,k2⟩,⟨A3,n3,k3⟩⟩:=x;unfold encH3 at hcx;dsimp only at c0 c1 c2 hcx;have HCX:=Jh hcx;clear hcx;obtain ⟨wo,hwo⟩:∃x,x=wr:=⟨_,rfl⟩;subst hwo;go_upto_region 8 with fail
    obtain ⟨w2,hw2⟩:∃y,wo.alloc (.cells #[.slice A1 n1 k1,.slice A2 n2 k2,.slice A3 n3 k3] 58)=y:=⟨_,rfl⟩;have hkq:Blk w2 wo.heap.size 58 #[.slice A1 n1 k1,.slice A2 n2 k2,.slice A3 n3 k3]:=by rw[←hw2];exact Blk.new _ _ _
    have S2:Aside (SWK encH3 3 w0 blk off (K1++(M++(⟨⟨A1,n1,k1⟩,⟨A2,n2,k2⟩,⟨A3,n3,k3⟩⟩:Hd3) :: R2)).toArray w2):=by rw[←hw2];exact S1.out.alloc _
    have hne:blk < wo.heap.size:=S1.out.lt R.hblk;have hnw:=S1.out.le;obtain ⟨qb,hqb⟩:∃y,wo.heap.size=y:=⟨_,rfl⟩;rw[hqb] at hkq hne hnw;rw[hw2,hqb];have HKQ:=Jh hkq;have HNE:=Jh hne;have d0':=hkq.cell 0;have d1':=hkq.cell 1;have d2':=hkq.cell 2;simp at d0' d1' d2';clear hw2 hkq hqb c0 c1 c2 hbl S1 hne hnw;go_wp2_with fail
    refine (HCX.out _).mono ?_;rintro _ w3 ⟨rfl,hg3⟩;have hk3':=HKQ.out.below hg3.below HKQ.out.lt;have S3:Aside (SWK encH3 3 w0 blk off (K1++(M++(⟨⟨A1,n1,k1⟩,⟨A2,n2,k2⟩,⟨A3,n3,k3⟩⟩:Hd3) :: R2)).toArray w3):=SWK.of_grown S2.out hg3;clear d0' d1' d2' hg3 S2 HKQ
    cases r with
    | false=>
     have HB3:Hid (K1.length=i∧j+1=K1.length+(M ++ [(⟨⟨A1,n1,k1⟩,⟨A2,n2,k2⟩,⟨A3,n3,k3⟩⟩:Hd3)]).length∧K1.length+(M ++ [(⟨⟨A1,n1,k1⟩,⟨A2,n2,k2⟩,⟨A3,n3,k3⟩⟩:Hd3)]).length+R2.length=N∧xs.filter goodH=K1++R2.filter goodH∧∀h∈R2,szH h):=by
      obtain ⟨b1,b2,b3,b4,b5⟩:=HB2.out;exact ⟨b1,by simp only[Jd,List.length_cons,List.length_nil];omega,by simp only[Jd,List.length_cons,List.length_nil];omega,by rw[b4];rfl,b5⟩
     have S4:Aside (SWK encH3 3 w0 blk off (K1++((M ++ [(⟨⟨A1,n1,k1⟩,⟨A2,n2,k2⟩,⟨A3,n3,k3⟩⟩:Hd3)])++R2)).toArray w3):=by
      show SWK _ _ _ _ _ _ _
      rw[List.append_assoc,List.singleton_append];exact S3.out
     clear S3 HB2 hk3';generalize M ++ [(⟨⟨A1,n1,k1⟩,⟨A2,n2,k2⟩,⟨A3,n3,k3⟩⟩:Hd3)]=M2 at HB3 S4;go_wp2_with fail
     go_roundg (N - (j+1))
     case measure=>omega
     case rel=>exact ⟨i,j+1,K1,M2,R2,rfl,by first | rfl | go_num,by omega,by omega,by omega,HB3,S4⟩
    | true=>
     have hMx:∃m M2,M=m :: M2:=by
      obtain ⟨b1,b2,b3,b4,b5⟩:=HB2.out
      cases M with
      | nil=>simp only[List.length_nil] at b2;omega
      | cons m M2=>exact ⟨m,M2,rfl⟩
     obtain ⟨m,M2,rfl⟩:=hMx
     have hszd:(K1++(m :: M2++(⟨⟨A1,n1,k1⟩,⟨A2,n2,k2⟩,⟨A3,n3,k3⟩⟩:Hd3) :: R2)).toArray.size=N:=by
      obtain ⟨b1,b2,b3,b4,b5⟩:=HB2.out;simp only[List.size_toArray,Jd,List.length_cons] at b2 b3 ⊢;omega
     obtain ⟨⟨e0,e1,e2⟩,⟨f0,f1,f2⟩,hgl3⟩:=Kiw S3.out R (by rw[hszd,HQ.out.1]) i (by rw[hszd];omega)
     have HB3:Hid ((K1 ++ [(⟨⟨A1,n1,k1⟩,⟨A2,n2,k2⟩,⟨A3,n3,k3⟩⟩:Hd3)]).length=i+1∧j+1=(K1 ++ [(⟨⟨A1,n1,k1⟩,⟨A2,n2,k2⟩,⟨A3,n3,k3⟩⟩:Hd3)]).length+(M2 ++ [(⟨⟨A1,n1,k1⟩,⟨A2,n2,k2⟩,⟨A3,n3,k3⟩⟩:Hd3)]).length∧(K1 ++ [(⟨⟨A1,n1,k1⟩,⟨A2,n2,k2⟩,⟨A3,n3,k3⟩⟩:Hd3)]).length+(M2 ++ [(⟨⟨A1,n1,k1⟩,⟨A2,n2,k2⟩,⟨A3,n3,k3⟩⟩:Hd3)]).length+R2.length=N∧xs.filter goodH=(K1 ++ [(⟨⟨A1,n1,k1⟩,⟨A2,n2,k2⟩,⟨A3,n3,k3⟩⟩:Hd3)])++R2.filter goodH∧∀h∈R2,szH h):=by
      obtain ⟨b1,b2,b3,b4,b5⟩:=HB2.out;simp only[List.length_cons] at b2 b3;refine ⟨?_,?_,?_,?_,b5⟩
      ·simp only[Jd,List.length_cons,List.length_nil];omega
      ·simp only[Jd,List.length_cons,List.length_nil];omega
      ·simp only[Jd,List.length_cons,List.length_nil];omega
      ·rw[b4];simp
     have hput:=SWK.put S3.out R i (by rw[hszd];omega) (⟨⟨A1,n1,k1⟩,⟨A2,n2,k2⟩,⟨A3,n3,k3⟩⟩:Hd3)
     rw[show (K1++(m :: M2++(⟨⟨A1,n1,k1⟩,⟨A2,n2,k2⟩,⟨A3,n3,k3⟩⟩:Hd3) :: R2)).toArray.setIfInBounds i (⟨⟨A1,n1,k1⟩,⟨A2,n2,k2⟩,⟨A3,n3,k3⟩⟩:Hd3)=((K1 ++ [(⟨⟨A1,n1,k1⟩,⟨A2,n2,k2⟩,⟨A3,n3,k3⟩⟩:Hd3)])++((M2 ++ [(⟨⟨A1,n1,k1⟩,⟨A2,n2,k2⟩,⟨A3,n3,k3⟩⟩:Hd3)])++R2)).toArray by
      rw[List.cons_append,Kkj HB2.out.1.symm];simp] at hput
     have S4:Aside (SWK encH3 3 w0 blk off ((K1 ++ [(⟨⟨A1,n1,k1⟩,⟨A2,n2,k2⟩,⟨A3,n3,k3⟩⟩:Hd3)])++((M2 ++ [(⟨⟨A1,n1,k1⟩,⟨A2,n2,k2⟩,⟨A3,n3,k3⟩⟩:Hd3)])++R2)).toArray (((w3.setCell ⟨blk,off+i*3,none⟩ (.slice A1 n1 k1)).setCell ⟨blk,off+i*3+1,none⟩ (.slice A2 n2 k2)).setCell ⟨blk,off+i*3+2,none⟩ (.slice A3 n3 k3))):=hput;have d0':=hk3'.cell 0;have d1':=hk3'.cell 1;have d2':=hk3'.cell 2;simp at d0' d1' d2';have hiN:(i:Int) < (N:Int):=by omega
     clear hput S3 HB2 hk3' hszd;generalize M2 ++ [(⟨⟨A1,n1,k1⟩,⟨A2,n2,k2⟩,⟨A3,n3,k3⟩⟩:Hd3)]=M3 at HB3 S4;generalize K1 ++ [(⟨⟨A1,n1,k1⟩,⟨A2,n2,k2⟩,⟨A3,n3,k3⟩⟩:Hd3)]=K2 at HB3 S4;go_wp2_with fail
     go_roundg (N - (j+1))
     case measure=>omega
     case rel=>exact ⟨i+1,j+1,K2,M3,R2,by first | rfl | go_num,by first | rfl | go_num,by omega,by omega,by omega,HB3,S4⟩
   ·have hjz:¬(j:Int) < (N:Int):=by omega
    obtain ⟨b1,b2,b3,b4,b5⟩:=HB.out;have hR1:R1 = []:=List.eq_nil_of_length_eq_zero (by omega);subst hR1;obtain ⟨W',hcr,dk',d1,d2,d3⟩:=HCL.out wr _ i (by simp only[List.size_toArray,Jd,List.length_nil] at b3 ⊢;omega) S1.out (by omega)
    have HF:Hid (∃zs:List Hd3,i=(xs.filter goodH).length∧zs.length=N∧zs.take (xs.filter goodH).length=xs.filter goodH∧SWK encH3 3 w0 blk off zs.toArray W'):=by
     rw[List.filter_nil,List.append_nil] at b4;refine ⟨dk'.toList,by rw[b4];exact b1.symm,by simpa using d1,?_,by simpa using d3⟩;rw[b4,b1,d2];simp only[List.toList_toArray];rw[←b1,List.take_left' rfl]
    have hiN2:i≤N:=by omega
    have hic:i≤cap:=by omega
    have i1z:(i:Int)≤(N:Int):=by omega
    have i2z:(i:Int)≤(cap:Int):=by omega
    have i3z:(0:Int)≤(i:Int):=by omega
    clear b1 b2 b3 b4 b5 d1 d2 d3 S1 HB;go_wp2_with fail
    go_ret
    obtain ⟨zs,f1,f2,f3,f4⟩:=HF.out;refine ⟨?_,zs,f2,f3,f4⟩;show Ending.returned (.slice (some ⟨blk,off,none⟩) i cap)=_
    rw[f1]
 ·rw[if_neg (by omega)];have hkN:k=N:=by omega
  have HE:Hid (xs.filter goodH=xs):=by
   show _=_
   rw[hkN,←HQ.out.2,List.take_length] at hall;exact List.filter_eq_self.2 fun a ha=>hall a ha
  clear hall hbad;go_wp2_with fail
  go_ret
  refine ⟨?_,xs,HQ.out.2,?_,S1.out⟩
  ·show Ending.returned (.slice (some ⟨blk,off,none⟩) N cap)=_
   rw[HE.out,HQ.out.2]
  ·rw[HE.out,List.take_length]
end
theorem Kqu (w:World):Calls Tryz.prog 66 #[.slice none 0 0,.func (.func 67) #[] #[]] w fun e w'=>e = .returned (.slice none 0 0)∧w=w':=by
 have hix:∀W:World,Calls Tryz.prog 141 #[.slice none 0 0,.func (.func 67) #[] #[]] W fun e w'=>e = .returned (.int .i64 (-1))∧W=w':=by
  intro W;go_enter Tryz.func141,Tryz.ntmps141
  go_wp2
  go_loopg [8] 0 (fun kx s8 wr=>s8 = .int .i64 0∧wr=W)
  case atStart=>exact ⟨rfl,rfl⟩
  case round=>
   obtain ⟨rfl,rfl⟩:=hrel;go_wp2_with fail
   go_ret
   exact ⟨rfl,rfl⟩
 have HI:=Jh hix;clear hix;go_enter Tryz.func66,Tryz.ntmps66
 go_wp2_with fail
 refine (HI.out _).mono ?_;rintro _ w1 ⟨rfl,rfl⟩;go_wp2_with fail
 go_ret
 exact ⟨rfl,rfl⟩
end
end
end Go.Proofs.YtdoiekknhnbepaaGreatDoor
