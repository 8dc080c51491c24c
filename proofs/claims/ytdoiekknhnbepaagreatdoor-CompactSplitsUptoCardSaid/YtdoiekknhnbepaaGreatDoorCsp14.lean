/- Merged (what the claim wants of): RefB6, BlkParseD, RefB3, RefB4, RefB7, BlkSize3, BlkLawA, OpenS, OpenBulk, OpenSym, OpenLab, OpenSets, BlkOpenC, BlkLawB, Compact, CompactS, CompactP. -/
import Derived.Test.YtdoiekknhnbepaaGreatDoorCsp13
import Derived.Test.YtdoiekknhnbepaaGreatDoorRows
set_option linter.unusedVariables false
set_option linter.unusedSimpArgs false
set_option maxRecDepth 1000000
set_option linter.ambiguousOpen false
set_option maxHeartbeats 8000000
namespace Go.Proofs.YtdoiekknhnbepaaGreatDoor
open Go renaming wpQuiet_nil->dN
open List renaming getElem?_eq_getElem->cV,getElem?_eq_some_iff->cW,mem_iff_getElem->cX,mem_singleton->cY,getElem?_map->c6,mem_flatMap->c8,mem_filter->c9,mem_cons->dg,map_nil->di,mem_map->dk,range->dm
open DataW renaming trod_int->dq,trod->dD,trod_struct->dE
open IntKind renaming i64->dF,u64->dG,wrap_u64->dH
open Elems renaming of_own->dI
open IntWalk renaming i64_in->dJ
open Blk renaming new->dK
open Value renaming int->dL
open Wnd renaming start->dM
open Go.Proofs.Tryz
open List renaming map_cons->cU,sum_cons->cZ,length_cons->da,eq_nil_of_length_eq_zero->dd,take_succ_eq_append_getElem->dl,getElem_mem->dn,exists_mem_of_length_pos->dp,length_map->dr,flatMap_cons->dt,take_of_length_le->dw,mem_filter->dx,length_filter_le->dy,map_map->dz,append_assoc->dA,filter_cons->dB,map_take->dC
open Nat renaming add_sub_cancel->db,le_refl->df,le_trans->dh,xor_lt_two_pow->dj
open Bool renaming and_eq_true->dc,eq_false_iff->de,true_and->dv
section
open Go.RowKit
open Lib renaming hid -> Jh
attribute [local go_sem ↓] Go.wp_at_zero Go.wp_at_succ
attribute [local go_sem] Later.cell
theorem RSer.at_ {B:Nat} {w:World} {h:Hd3} {s:Ser} (hs:RSer B w h s):SerAt w h ⟨s.labels,s.samples,s.windows⟩/\h.l.n=s.labels.length/\h.s.n=s.samples.length/\h.w.n=s.windows.length:=by obtain ⟨A0,c0,e0,k0,_,m0⟩:=dI (enc:=encLb) (fun x _=>Kbx x) rfl hs.l rfl;obtain ⟨A1,c1,e1,k1,_,m1⟩:=dI (enc:=Kac) (fun _ _=>rfl) rfl hs.s rfl;obtain ⟨A2,c2,e2,k2,_,m2⟩:=dI (enc:=Kad) (fun _ _=>rfl) rfl hs.w rfl;injection e0 with e0 f0 g0;injection e1 with e1 f1 g1;injection e2 with e2 f2 g2;obtain ⟨⟨a0,b0,d0⟩,⟨a1,b1,d1⟩,⟨a2,b2,d2⟩⟩:=h;dsimp only at e0 f0 g0 e1 f1 g1 e2 f2 g2;subst e0 f0 g0 e1 f1 g1 e2 f2 g2;exact ⟨⟨k0,m0,k1,m1,k2,m2⟩,rfl,rfl,rfl⟩
theorem Ksh {w:World} {B n:Nat} {A:Option Addr} {c:Nat} {hs:List Hd3} {L:List Ser} (hl:hs.length=n) (hL:L.length=n) (h:w.ownsRow B 132 3 (.slice A n c) n (hs.flatMap encH3)) (hr:∀(i:Nat) (h:Hd3),hs[i]? = some h->RSer B w h L[i]!):Sers w A n L/\n<=c:=by obtain ⟨A',c',e,k,_,m⟩:=dI (enc:=encH3) (fun _ _=>rfl) rfl h hl;injection e with e _ g;subst e g;exact ⟨⟨hs,k,hL,fun i x hx=>((hr i x hx).at_).1⟩,m⟩
theorem RSer.far {w:World} {B:Nat} {h:Hd3} {x:Ser} (hs:RSer B w h x) {p:Addr} (hp:p.block < B) (u:Value):RSer B (w.setCell p u) h x:=⟨Kej hs.l (Khl hs.l hp) u,Kej hs.s (Khl hs.s hp) u,Kej hs.w (Khl hs.w hp) u⟩
structure Kcg (w:World) (A:Option Addr) (n:Nat) (L:List Ser):Prop where
 s:Sers w A n L
 n:L.length<=1073741824
 z:∀s∈L,SerSz s
theorem Kcg.below {w w':World} {A:Option Addr} {n:Nat} {L:List Ser} (h:Kcg w A n L) (hb:Below w.heap.size w w'):Kcg w' A n L:=⟨h.s.below hb,h.n,h.z⟩
theorem Kcg.sz {w:World} {A:Option Addr} {n:Nat} {L:List Ser} (h:Kcg w A n L):∀s∈L,s.samples.length<=1099511627776/\s.windows.length<=1099511627776/\s.labels.length<=1099511627776:=fun s hs=>⟨(h.z s hs).n,(h.z s hs).m,(h.z s hs).l⟩
theorem Kwc (a b:Cont) (ha hb:Hd) (w:World) (hA:Kcg w ha.A ha.n a.series) (hB:Kcg w hb.A hb.n b.series) :
  Calls prog 17 #[contV a.res a.frm a.to_ ha,contV b.res b.frm b.to_ hb] w fun e w'=>e = .returned (.bool (decide (a=b)))/\Below w.heap.size w w':=by
 obtain ⟨R,hR⟩:=iZ (decide (a=b));rw[hR];obtain ⟨r,f,t,L⟩:=a;obtain ⟨r',f',t',L'⟩:=b;obtain ⟨A,n,cc⟩:=ha;obtain ⟨B,m,cb⟩:=hb;unfold contV;dsimp only at hA hB |-;have HA:=Jh hA;have HB:=Jh hB;have HR:=Jh hR;clear hA hB hR;go_enter func17,ntmps17
 go_upto_region 1 with fail
 have ad:Below w.heap.size w ((w.alloc (.cells #[.int .i64 r,.int .i64 f,.int .i64 t,.slice A n cc] 34)).alloc (.cells #[.int .i64 r',.int .i64 f',.int .i64 t',.slice B m cb] 34)):=((Below.refl _ _).alloc (df _) _).alloc (by simp) _;have aa:Blk ((w.alloc (.cells #[.int .i64 r,.int .i64 f,.int .i64 t,.slice A n cc] 34)).alloc (.cells #[.int .i64 r',.int .i64 f',.int .i64 t',.slice B m cb] 34)) w.heap.size 34 #[.int .i64 r,.int .i64 f,.int .i64 t,.slice A n cc]:=(dK _ _ _).alloc _;have ab:Blk ((w.alloc (.cells #[.int .i64 r,.int .i64 f,.int .i64 t,.slice A n cc] 34)).alloc (.cells #[.int .i64 r',.int .i64 f',.int .i64 t',.slice B m cb] 34)) (w.heap.size+1) 34 #[.int .i64 r',.int .i64 f',.int .i64 t',.slice B m cb]:=Blk.newAt (by simp);obtain ⟨w1,al⟩:=iZ ((w.alloc (.cells #[.int .i64 r,.int .i64 f,.int .i64 t,.slice A n cc] 34)).alloc (.cells #[.int .i64 r',.int .i64 f',.int .i64 t',.slice B m cb] 34));rw[al] at ad aa ab |-;have ai:=Jh (HA.out.below ad);have af:=Jh (HB.out.below ad);have ap:=Jh ad;obtain ⟨q,hq⟩:=iZ w.heap.size;rw[hq] at aa ab |-;have ak:=Jh aa;have am:=Jh ab;have k3:w1.cell? ⟨q,3,none⟩=some (.slice A n cc):=aa.cell 3;have l3:w1.cell? ⟨q+1,3,none⟩=some (.slice B m cb):=ab.cell 3;have HC:=Jh (Ktm L L' A B n m cc cb w1 ai.out.s af.out.s (by have:=ai.out.n;have:=ai.out.s.len;omega) (by have:=af.out.n;have:=af.out.s.len;omega) ai.out.sz af.out.sz);clear al ad aa ab hq;go_wp2_with fail
 refine HC.out.mono ?_;rintro _ w2 ⟨rfl,ag⟩;have aa:=ak.out.below ag ak.out.lt;have ab:=am.out.below ag am.out.lt;have k0:w2.cell? ⟨q,0,none⟩=some (.int .i64 r):=aa.cell 0;have k1:w2.cell? ⟨q,1,none⟩=some (.int .i64 f):=aa.cell 1;have k2:w2.cell? ⟨q,2,none⟩=some (.int .i64 t):=aa.cell 2;have l0:w2.cell? ⟨q+1,0,none⟩=some (.int .i64 r'):=ab.cell 0;have l1:w2.cell? ⟨q+1,1,none⟩=some (.int .i64 f'):=ab.cell 1;have l2:w2.cell? ⟨q+1,2,none⟩=some (.int .i64 t'):=ab.cell 2;have ae:=Jh (then_ ap.out ag);clear ag aa ab k3 l3
 have aj:¬(L=L'/\r=r'/\f=f'/\t=t')->R=false:=fun h=>by rw[<-HR.out,jb];intro e;injection e with e1 e2 e3 e4;exact h ⟨e4,e1,e2,e3⟩
 have ah:=Jh aj;clear aj
 by_cases h1:L=L'
 .have e1:decide (L=L')=true:=jd h1;rw[e1]
  by_cases h2:r=r'
  .have e2:(r == r')=true:=by simpa using h2
   have an:decide (r=r')=true:=jd h2
   by_cases h3:f=f'
   .have e3:(f == f')=true:=by simpa using h3
    have ao:decide (f=f')=true:=jd h3
    by_cases h4:t=t'
    .have e4:(t == t')=true:=by simpa using h4
     have aq:decide (t=t')=true:=jd h4;have ac:R=true:=by rw[<-HR.out,i8,h1,h2,h3,h4]
     subst ac;clear h1 h2 h3 h4 e1;go_wp2_with fail
     go_ret
     exact ⟨rfl,ae.out⟩
    .have e4:(t == t')=false:=by simpa using h4
     have aq:decide (t=t')=false:=ja h4;have ac:R=false:=ah.out (fun h=>h4 h.2.2.2);subst ac;clear h1 h2 h3 h4 e1;go_wp2_with fail
     go_ret
     exact ⟨rfl,ae.out⟩
   .have e3:(f == f')=false:=by simpa using h3
    have ao:decide (f=f')=false:=ja h3;have ac:R=false:=ah.out (fun h=>h3 h.2.2.1);subst ac;clear h1 h2 h3 e1;go_wp2_with fail
    go_ret
    exact ⟨rfl,ae.out⟩
  .have e2:(r == r')=false:=by simpa using h2
   have an:decide (r=r')=false:=ja h2;have ac:R=false:=ah.out (fun h=>h2 h.2.1);subst ac;clear h1 h2 e1;go_wp2_with fail
   go_ret
   exact ⟨rfl,ae.out⟩
 .have e1:decide (L=L')=false:=ja h1;rw[e1];have ac:R=false:=ah.out (fun h=>h1 h.1);subst ac;clear h1 e1;go_wp2_with fail
  go_ret
  exact ⟨rfl,ae.out⟩
end
section
open Go.RowKit
attribute [local go_sem ↓] Go.wp_at_zero Go.wp_at_succ
attribute [local go_sem] Later.cell
section
variable {P : Program} {Q : Exit -> Act -> World -> Prop}
end
def filOf (F0 F1 F2:ByteArray):Fil:=⟨F0.data.toList,F1.data.toList,F2.data.toList⟩
end
section
open Go.RowKit
open Lib renaming hid -> Jh
attribute [local go_sem ↓] Go.wp_at_zero Go.wp_at_succ
attribute [local go_sem] Later.cell
theorem Qdo:(prog.info? 2).map (fun i=>(i.zero,i.size,i.bytes))=some (some (.int .i64 0),1,8):=by kernel_rfl
def Kff (w a:Wnd) (first:Bool):Nat:=
 if w.start < 0\/1125899906842624 < w.start then 91 else if first=false/\w.start<=a.start then 90 else if w.count < 1\/4611686018427387904 < w.count then 110 else 0
theorem Kxs (w a:Wnd) (first:Bool):Kff w a first=0↔Keg w a first=0:=by
 unfold Kff Keg
 repeat' split
 all_goals simp
def prevW (W:List Wnd) (i:Nat):Wnd:=if i=0 then wnd0 else W[i - 1]!
theorem Ktb (W:List Wnd) (A:Option Addr) (n c i:Nat) (w:World) (hE:Elems w w.heap.size 6 Kad A n W) (hn:n<=1099511627776) (hi:i < n) :
  Calls prog 144 #[.slice A n c,.int .i64 (i:Int)] w fun e w'=>e = .returned (.int .i64 ((Kff W[i]! (prevW W i) (decide (i=0)):Nat):Int))/\Below w.heap.size w w':=by
 obtain ⟨b,ae,rfl,hbl,hg⟩:=hE.get hi;obtain ⟨R,hR⟩:=iZ (Kff W[i]! (prevW W i) (decide (i=0)));rw[hR];obtain ⟨x,hx⟩:∃x,W[i]! = x:=⟨_,rfl⟩;rw[hx] at hg hR;have e0:w.cell? ⟨b,ae+i*6,none⟩=some _:=hg 0 _ rfl;have e1:w.cell? ⟨b,ae+i*6+1,none⟩=some _:=hg 1 _ rfl;have e2:w.cell? ⟨b,ae+i*6+2,none⟩=some _:=hg 2 _ rfl;have e3:w.cell? ⟨b,ae+i*6+3,none⟩=some _:=hg 3 _ rfl;have e4:w.cell? ⟨b,ae+i*6+4,none⟩=some _:=hg 4 _ rfl;have e5:w.cell? ⟨b,ae+i*6+5,none⟩=some _:=hg 5 _ rfl;have HR:=Jh hR;clear hg hx hR;go_enter func144,ntmps144
 go_upto_region 2 with fail
 have al:Below w.heap.size w (w.alloc (.cells #[.int .i64 x.start,.int .i64 x.count,.int .u64 (x.sum:Int),.int .u64 (x.min:Int),.int .u64 (x.max:Int),.int .u64 (x.last:Int)] 136)):=(Below.refl _ _).alloc (df _) _;have hp:Blk (w.alloc (.cells #[.int .i64 x.start,.int .i64 x.count,.int .u64 (x.sum:Int),.int .u64 (x.min:Int),.int .u64 (x.max:Int),.int .u64 (x.last:Int)] 136)) w.heap.size 136 #[.int .i64 x.start,.int .i64 x.count,.int .u64 (x.sum:Int),.int .u64 (x.min:Int),.int .u64 (x.max:Int),.int .u64 (x.last:Int)]:=dK _ _ _;obtain ⟨w1,ap⟩:=iZ (w.alloc (.cells #[.int .i64 x.start,.int .i64 x.count,.int .u64 (x.sum:Int),.int .u64 (x.min:Int),.int .u64 (x.max:Int),.int .u64 (x.last:Int)] 136));obtain ⟨p,am⟩:=iZ w.heap.size;rw[ap] at al hp |-;have ah:=Jh al;rw[am] at hp |-;have HPE:=Jh am;have q0:w1.cell? ⟨p,0,none⟩=some _:=hp.cell 0;have q1:w1.cell? ⟨p,1,none⟩=some _:=hp.cell 1;have hpl:=hp.lt;have HP:=Jh hp;clear ap am e0 e1 e2 e3 e4 e5 al hp
 by_cases h1:x.start < 0\/1125899906842624 < x.start
 .have aa:91=R:=by rw[<-HR.out];unfold Kff;rw[jf h1]
  have ab:=Jh aa
  by_cases h2:x.start < 0
  .have el:decide (x.start < 0)=true:=jd h2;clear aa h1;go_wp2_with fail
   go_ret
   rw[<-ab.out];exact ⟨rfl,ah.out⟩
  .have el:decide (x.start < 0)=false:=ja h2;have ar:decide (1125899906842624 < x.start)=true:=jd (h1.resolve_left h2);clear aa h1;go_wp2_with fail
   go_ret
   rw[<-ab.out];exact ⟨rfl,ah.out⟩
 .have el:decide (x.start < 0)=false:=by rw[jb];omega
  have ar:decide (1125899906842624 < x.start)=false:=by rw[jb];omega
  cases i with
  | zero=>
   have ai:(if x.count < 1\/4611686018427387904 < x.count then 110 else 0)=R:=by rw[<-HR.out];unfold Kff;rw[je h1,je (show ¬(decide (0=0)=false/\x.start<=(prevW W 0).start) by simp)]
   have ac:=Jh ai;clear ai h1;go_upto_region 4 with fail
   refine Kaa (by kernel_rfl) (by kernel_rfl) ?_
   repeat (go_big_quiet_step (fail))
   refine dN ?_;rintro w2 ⟨⟨_,ag⟩,rfl⟩;have af:=HP.out.below ag HP.out.lt;have q1:w2.cell? ⟨p,1,none⟩=some _:=af.cell 1;have ao:=af.lt;have ad:=Jh (then_ ah.out ag);clear af ag
   by_cases h5:x.count < 1
   .have aj:decide (x.count < 1)=true:=jd h5;have aa:110=R:=by rw[<-ac.out];simp[h5]
    have ab:=Jh aa;clear aa;go_wp2_with fail
    go_ret
    rw[<-ab.out];exact ⟨rfl,ad.out⟩
   .have aj:decide (x.count < 1)=false:=ja h5
    by_cases h6:4611686018427387904 < x.count
    .have an:decide (4611686018427387904 < x.count)=true:=jd h6;have aa:110=R:=by rw[<-ac.out];simp[h6]
     have ab:=Jh aa;clear aa;go_wp2_with fail
     go_ret
     rw[<-ab.out];exact ⟨rfl,ad.out⟩
    .have an:decide (4611686018427387904 < x.count)=false:=ja h6;have aa:0=R:=by rw[<-ac.out];simp[h5,h6]
     have ab:=Jh aa;clear aa;go_wp2_with fail
     go_ret
     rw[<-ab.out];exact ⟨rfl,ad.out⟩
  | succ j=>
   obtain ⟨b',aw,e',_,ak⟩:=hE.get (i:=j) (by omega);injection e' with e';injection e' with e' e2;subst e' e2;obtain ⟨y,hy⟩:∃y,W[j]! = y:=⟨_,rfl⟩;rw[hy] at ak;have aq:prevW W (j+1)=y:=by unfold prevW;rw[je (by omega),db];exact hy
   have y0:w1.cell? ⟨b,ae+j*6,none⟩=some _:=later ah.out (ak 0 _ rfl);have av:b < w1.heap.size:=by have:=ah.out.size;omega
   obtain ⟨F,hF⟩:∃F:Bool,decide (x.start<=y.start)=F:=⟨_,rfl⟩
   have ai:(if F=true then 90 else if x.count < 1\/4611686018427387904 < x.count then 110 else 0)=R:=by rw[<-HR.out];unfold Kff;rw[je h1,<-hF,aq];simp
   have ac:=Jh ai;have z1:dF.wrap ((j:Int)+1 - 1)=(j:Int):=by rw[show (j:Int)+1 - 1=(j:Int) by omega];exact dJ _ (by omega)
   have z2:(0:Int)<=(j:Int)+1:=by omega
   have z3:((j:Int)+1).toNat=j+1:=by omega
   have z4:(j:Int)+1 < (n:Int):=by omega
   have z5:(j:Int) < (n:Int):=by omega
   have z6:decide (0 < (j:Int)+1)=true:=by rw[i8];omega
   clear ai h1 ak hy aq;go_upto_region 4 with fail
   refine Kaa (by kernel_rfl) (by kernel_rfl) ?_
   repeat (go_big_quiet_step (fail))
   refine dN ?_;rintro w2 ⟨⟨_,ag⟩,rfl⟩;have af:=HP.out.below ag HP.out.lt;have q1:w2.cell? ⟨p,1,none⟩=some _:=af.cell 1;have ao:=af.lt;have ad:=Jh (then_ ah.out ag);clear af ag z1 z2 z3 z4 z5 z6 y0 hF
   cases F with
   | true=>
    have aa:90=R:=by rw[<-ac.out];rfl
    have ab:=Jh aa;clear aa;go_wp2_with fail
    go_ret
    rw[<-ab.out];exact ⟨rfl,ad.out⟩
   | false=>
    by_cases h5:x.count < 1
    .have aj:decide (x.count < 1)=true:=jd h5;have aa:110=R:=by rw[<-ac.out];simp[h5]
     have ab:=Jh aa;clear aa;go_wp2_with fail
     go_ret
     rw[<-ab.out];exact ⟨rfl,ad.out⟩
    .have aj:decide (x.count < 1)=false:=ja h5
     by_cases h6:4611686018427387904 < x.count
     .have an:decide (4611686018427387904 < x.count)=true:=jd h6;have aa:110=R:=by rw[<-ac.out];simp[h6]
      have ab:=Jh aa;clear aa;go_wp2_with fail
      go_ret
      rw[<-ab.out];exact ⟨rfl,ad.out⟩
     .have an:decide (4611686018427387904 < x.count)=false:=ja h6;have aa:0=R:=by rw[<-ac.out];simp[h5,h6]
      have ab:=Jh aa;clear aa;go_wp2_with fail
      go_ret
      rw[<-ab.out];exact ⟨rfl,ad.out⟩
theorem Kza (S:List Smp) (W:List Wnd) (SA WA:Option Addr) (sn wn sc wc:Nat) (w:World) (hS:Elems w w.heap.size 2 Kac SA sn S) (hW:Elems w w.heap.size 6 Kad WA wn W) (hs:sn<=1099511627776) (hw:wn<=1099511627776) :
  Calls prog 72 #[.slice SA sn sc,.slice WA wn wc] w fun e w'=>∃A c,e = .returned (.slice A (sn+wn) c)/\w'.ownsRow w.heap.size 2 1 (.slice A (sn+wn) c) (sn+wn) ((S.map Smp.t++W.map dM).map fun z=>dL .i64 z)/\Below w.heap.size w w':=by
 obtain ⟨i6,ar,aw,av,ax⟩:=info_parts Qdo;obtain ⟨q,hq⟩:=iZ w.heap.size;have HQ:=Jh hq;rw[hq];clear hq;go_enter func72,ntmps72
 go_wp2_with fail
 go_loopg [5,6] sn (fun g s5 s6 wr=>∃(i:Nat) (v5:Value),v5=s5/\i+g=sn/\s6 = .int .i64 (i:Int)/\wr.ownsRow q 2 1 v5 (i) (((S.take i).map Smp.t).map fun z=>dL .i64 z)/\Below q w wr)
 case atStart=>exact ⟨0,_,rfl,by omega,rfl,World.ownsRow_nil _ _ _ _,Below.refl _ _⟩
 case round=>
  obtain ⟨i,v5,rfl,aj,rfl,ab,hB⟩:=hrel;have ai:=Jh aj;have af:=Jh ab;have HB:=Jh hB;clear aj hB
  by_cases hi:i < sn
  .have el:decide (i < sn)=true:=by rw[i8];exact hi
   obtain ⟨wk,rfl⟩:=i7 wr;have ag:Below w.heap.size w wk:=by rw[HQ.out];exact HB.out
   obtain ⟨b,ao,rfl,ay,hg⟩:=(hS.below ag).get hi;have al:i < S.length:=by have:=hS.len;omega
   obtain ⟨x,hx⟩:∃x,S[i]! = x:=⟨_,rfl⟩;rw[hx] at hg;have e0:wk.cell? ⟨b,ao+i*2,none⟩=some _:=hg 0 _ rfl;have ae:S.take (i+1)=S.take i ++ [x]:=by rw[dl al,<-hx,i9 _ i al]
   have aA:b < wk.heap.size:=by have:=ag.size;omega
   have az:q<=wk.heap.size:=by have:=HQ.out;have:=ag.size;omega
   have ap:=Jh ae;clear hx hg ae ag;go_wp2_with (at_builtin;refine wpList_append_own_at _ rfl _ _ 125 rfl q 2 i6 (.int .i64 0) 1 8 underlying125 ar aw av ax rfl (by decide) _ _ _ rfl (ab.alloc _) ⟨wk.heap.size,0,none⟩ 1 1 [.int .i64 x.t] rfl rfl (Kao (l:=[.int .i64 x.t]) (dK wk _ _)) ?p2 ?p3 ?p4 ?p5 ?_)
   case p2=>intro u hu;rw[cY.1 hu];rfl
   case p3=>unfold maxLen;omega
   case p4=>omega
   case p5=>simp;omega
   intro v' w5 hown' hgrow0 _ _;have aa:=(World.grownBy_alloc wk _ _).trans hgrow0;have ak:Below q w w5:=HB.out.trans ⟨aa.os,aa.tape,aa.output,aa.size,fun j hj=>aa.block j (by omega) (fun e=>by have:=(af.out.lt j e.symm).1;omega)⟩
   have ac:w5.ownsRow q 2 1 v' (i+1) (((S.take (i+1)).map Smp.t).map fun z=>dL .i64 z):=by rw[ap.out];simpa[dz,dC,dA] using hown'
   have ad:=Jh ac;have aq:=Jh ak;clear hown' hgrow0 aa ak ac ab;go_wp2_with fail
   go_roundg (gk - 1)
   case measure=>have:=ai.out;omega
   case rel=>exact ⟨i+1,_,rfl,by have:=ai.out;omega,by go_num,ad.out,aq.out⟩
  .have el:decide (i < sn)=false:=by rw[jb];exact hi
   have am:i=sn:=by have:=ai.out;omega
   have ae:S.take i=S:=dw (by have:=hS.len;omega);have ab:=af.out;rw[ae,am] at ab;have an:=Jh ab;have aB:=Jh HB.out;clear ab ae am;go_wp2_with fail
   go_loopg [5,7] wn (fun g s5 s7 wr=>∃(i:Nat) (v5:Value),v5=s5/\i+g=wn/\s7 = .int .i64 (i:Int)/\wr.ownsRow q 2 1 v5 (sn+i) ((S.map Smp.t++(W.take i).map dM).map fun z=>dL .i64 z)/\Below q w wr)
   case atStart=>exact ⟨0,_,rfl,by omega,rfl,by simpa using an.out,aB.out⟩
   case round=>
    obtain ⟨i,v5,rfl,aj,rfl,ab,hB⟩:=hrel;have ai:=Jh aj;have af:=Jh ab;have HB:=Jh hB;clear aj hB
    by_cases hi:i < wn
    .have el:decide (i < wn)=true:=by rw[i8];exact hi
     obtain ⟨wk,rfl⟩:=i7 wr;have ag:Below w.heap.size w wk:=by rw[HQ.out];exact HB.out
     obtain ⟨b,ao,rfl,ay,hg⟩:=(hW.below ag).get hi;have al:i < W.length:=by have:=hW.len;omega
     obtain ⟨x,hx⟩:∃x,W[i]! = x:=⟨_,rfl⟩;rw[hx] at hg;have e0:wk.cell? ⟨b,ao+i*6,none⟩=some _:=hg 0 _ rfl;have ae:W.take (i+1)=W.take i ++ [x]:=by rw[dl al,<-hx,i9 _ i al]
     have aA:b < wk.heap.size:=by have:=ag.size;omega
     have az:q<=wk.heap.size:=by have:=HQ.out;have:=ag.size;omega
     have ap:=Jh ae;clear hx hg ae ag;go_wp2_with (at_builtin;refine wpList_append_own_at _ rfl _ _ 125 rfl q 2 i6 (.int .i64 0) 1 8 underlying125 ar aw av ax rfl (by decide) _ _ _ rfl (ab.alloc _) ⟨wk.heap.size,0,none⟩ 1 1 [.int .i64 x.start] rfl rfl (Kao (l:=[.int .i64 x.start]) (dK wk _ _)) ?p2 ?p3 ?p4 ?p5 ?_)
     case p2=>intro u hu;rw[cY.1 hu];rfl
     case p3=>unfold maxLen;omega
     case p4=>omega
     case p5=>simp;omega
     intro v' w5 hown' hgrow0 _ _;have aa:=(World.grownBy_alloc wk _ _).trans hgrow0;have ak:Below q w w5:=HB.out.trans ⟨aa.os,aa.tape,aa.output,aa.size,fun j hj=>aa.block j (by omega) (fun e=>by have:=(af.out.lt j e.symm).1;omega)⟩
     have ac:w5.ownsRow q 2 1 v' (sn+i+1) ((S.map Smp.t++(W.take (i+1)).map dM).map fun z=>dL .i64 z):=by rw[ap.out];simpa[dz,dC,dA] using hown'
     have ad:=Jh ac;have aq:=Jh ak;clear hown' hgrow0 aa ak ac ab;go_wp2_with fail
     go_roundg (gk - 1)
     case measure=>have:=ai.out;omega
     case rel=>exact ⟨i+1,_,rfl,by have:=ai.out;omega,by go_num,ad.out,aq.out⟩
    .have el:decide (i < wn)=false:=by rw[jb];exact hi
     have am:i=wn:=by have:=ai.out;omega
     have ae:W.take i=W:=dw (by have:=hW.len;omega);have ab:=af.out;rw[ae,am] at ab;have ah:=Jh ab;have aC:=Jh HB.out;clear ab ae am;obtain ⟨AF,cF,rfl⟩:=Kag ah.out;go_wp2_with fail
     go_ret
     exact ⟨AF,cF,rfl,ah.out,aC.out⟩
theorem Klf {W:List Wnd} {i:Nat}:prevW W (i+1)=W[i]!:=by unfold prevW;rw[je (by omega),db]
theorem Qej (W:List Wnd):prevW W 0=wnd0:=rfl
theorem Kdw (v:Nat):(⟨(uintT v).toArray⟩:ByteArray).size<=11:=(Kab v).2
theorem Kqe (W:List Wnd) (A:Option Addr) (n c:Nat) (w:World) (hE:Elems w w.heap.size 6 Kad A n W) (hn:n<=1099511627776) (hv:∀x∈W,Kcm x) :
  Calls prog 71 #[.slice A n c] w fun e w'=>(∃(S:ByteArray) (k:Nat),e = .returned (.tuple #[.string S,.int .i64 (k:Int)])/\(k=0↔Kch wnd0 true W=true))/\Below w.heap.size w w':=by
 have HE:=Jh hE;have HV:=Jh hv;have aK:=Jh hE.len;obtain ⟨R,hR⟩:=iZ (Kch wnd0 true W);rw[hR];have HR:=Jh hR;have b6:=Jh (fun w=>Kdl n (by omega) w);clear hE hv hR;go_enter func71,ntmps71
 go_wp2_with fail
 refine (b6.out w).mono ?_;rintro _ w1 ⟨rfl,aR⟩;obtain ⟨Z,hZ⟩:∃Z:ByteArray,(⟨(uintT n).toArray⟩:ByteArray)=Z:=⟨_,rfl⟩;have hzs:Z.size<=11:=by rw[<-hZ];exact Kdw n
 rw[hZ];go_upto_region 3 with fail
 have ba:Below w.heap.size w (w1.alloc (.cells #[.int .i64 0,.int .i64 0,.int .u64 0,.int .u64 0,.int .u64 0,.int .u64 0] 136)):=aR.alloc aR.size _;have hp:Blk (w1.alloc (.cells #[.int .i64 0,.int .i64 0,.int .u64 0,.int .u64 0,.int .u64 0,.int .u64 0] 136)) w1.heap.size 136 #[.int .i64 wnd0.start,.int .i64 wnd0.count,.int .u64 (wnd0.sum:Int),.int .u64 (wnd0.min:Int),.int .u64 (wnd0.max:Int),.int .u64 (wnd0.last:Int)]:=dK _ _ _;obtain ⟨w2,aX⟩:=iZ (w1.alloc (.cells #[.int .i64 0,.int .i64 0,.int .u64 0,.int .u64 0,.int .u64 0,.int .u64 0] 136));obtain ⟨p,aP⟩:=iZ w1.heap.size;have ao:w.heap.size<=p:=by rw[<-aP];exact aR.size
 rw[aX] at ba hp
 try rw[aX]
 rw[aP] at hp
 try rw[aP]
 have bo:=Jh ba;have HP:=Jh hp;obtain ⟨q,hq⟩:=iZ w.heap.size;have HQ:=Jh hq;rw[hq] at bo ao;clear aX aP aR ba hp hZ hq;go_wp2_with fail
 go_loopg [4,6] n (fun g s4 s6 wr=>∃(i:Nat) (Z:ByteArray),i+g=n/\s6 = .int .i64 (i:Int)/\s4 = .string Z/\Z.size<=11+66*i/\Kch (prevW W i) (decide (i=0)) (W.drop i)=R/\(0<=(prevW W i).start/\(prevW W i).start<=1125899906842624/\Kcm (prevW W i))/\Blk wr p 136 #[.int .i64 (prevW W i).start,.int .i64 (prevW W i).count,.int .u64 ((prevW W i).sum:Int),.int .u64 ((prevW W i).min:Int),.int .u64 ((prevW W i).max:Int),.int .u64 ((prevW W i).last:Int)]/\Below q w wr)
 case atStart=>exact ⟨0,Z,by omega,rfl,rfl,by omega,HR.out,by rw[Qej];exact Qab,HP.out,bo.out⟩
 case round=>
  obtain ⟨i,Z,bn,rfl,rfl,be,ai,bp,bg,hB⟩:=hrel;have bm:=Jh bn;have bd:=Jh be;have bf:=Jh ai;have ad:=Jh bp;have aS:=Jh bg;have HB:=Jh hB;clear bn be ai bp bg hB
  by_cases hi:i < n
  .have el:decide (i < n)=true:=by rw[i8];exact hi
   obtain ⟨wk,rfl⟩:=i7 wr;have a4:Below w.heap.size w wk:=by rw[HQ.out];exact HB.out
   have a8:=(HE.out.below a4).more a4.size;have aQ:=Jh (Ktb W A n c i wk a8 hn hi);have aO:i < W.length:=by have:=aK.out;omega
   have bh:W.drop i=W[i]! :: W.drop (i+1):=by rw[i9 W i aO];exact List.drop_eq_getElem_cons aO
   have ai:=bf.out;rw[bh,Kch] at ai;have a3:=HV.out W[i]! (by rw[i9 W i aO];exact dn aO);obtain ⟨b,ay,hA,hbl,hg⟩:=a8.get hi;subst hA;obtain ⟨x,hx⟩:∃x,W[i]! = x:=⟨_,rfl⟩;obtain ⟨a,ha⟩:=iZ (prevW W i);rw[hx] at ai a3 hg aQ;rw[ha] at ai ad aS aQ;obtain ⟨f,hf⟩:=iZ (Kff x a (decide (i=0)));rw[hf] at aQ;have a7:=Kxs x a (decide (i=0));rw[hf] at a7
   have bv:f<=110:=by
    rw[<-hf];unfold Kff
    repeat' split
    all_goals omega
   have aN:=Jh ai;have bs:=Jh a7;have HX:=Jh hx;have ag:=Jh a3;have bQ:=Jh ha;have HG:=Jh hg;have bT:q<=wk.heap.size:=by have:=HB.out.size;have:=HQ.out;omega
   clear ai a7 hx a3 ha hg hf bh a8 a4;go_wp2_with fail
   refine aQ.out.mono ?_;rintro _ w3 ⟨rfl,ae⟩;have br:=Jh (HB.out.trans (ae.mono bT));have ax:=Jh (aS.out.below ae aS.out.lt);have bU:b < w3.heap.size:=by have:=ae.size;omega
   have b0:q<=w3.heap.size:=by have:=ae.size;omega
   have m0:w3.cell? ⟨b,ay+i*6,none⟩=some _:=later ae (HG.out 0 _ rfl);have m1:w3.cell? ⟨b,ay+i*6+1,none⟩=some _:=later ae (HG.out 1 _ rfl);have m2:w3.cell? ⟨b,ay+i*6+2,none⟩=some _:=later ae (HG.out 2 _ rfl);have m3:w3.cell? ⟨b,ay+i*6+3,none⟩=some _:=later ae (HG.out 3 _ rfl);have m4:w3.cell? ⟨b,ay+i*6+4,none⟩=some _:=later ae (HG.out 4 _ rfl);have m5:w3.cell? ⟨b,ay+i*6+5,none⟩=some _:=later ae (HG.out 5 _ rfl);clear ae
   by_cases hf0:f=0
   .subst hf0;have ar:=bs.out.1 rfl;have aC:Kch x false (W.drop (i+1))=R:=by rw[<-aN.out,ar];simp
    obtain ⟨⟨k1,k2,k3,k4⟩,k5⟩:=(Kmo x a _).1 ar
    have bI:a.start<=x.start:=by
     rcases k5 with h | h
     .have bC:i=0:=jh h;have:=bQ.out;rw[bC] at this;rw[<-this];exact k1
     .omega
    have bD:=Jh aC;have bj:=Jh (And.intro k1 k2);clear ar aC k5;go_upto_region 10 with fail
    have aH:Below w3.heap.size w3 (w3.alloc (.cells #[.int .i64 x.start,.int .i64 x.count,.int .u64 (x.sum:Int),.int .u64 (x.min:Int),.int .u64 (x.max:Int),.int .u64 (x.last:Int)] 136)):=(Below.refl _ _).alloc (df _) _;have hr:Blk (w3.alloc (.cells #[.int .i64 x.start,.int .i64 x.count,.int .u64 (x.sum:Int),.int .u64 (x.min:Int),.int .u64 (x.max:Int),.int .u64 (x.last:Int)] 136)) w3.heap.size 136 #[.int .i64 x.start,.int .i64 x.count,.int .u64 (x.sum:Int),.int .u64 (x.min:Int),.int .u64 (x.max:Int),.int .u64 (x.last:Int)]:=dK _ _ _;obtain ⟨w4,bk⟩:=iZ (w3.alloc (.cells #[.int .i64 x.start,.int .i64 x.count,.int .u64 (x.sum:Int),.int .u64 (x.min:Int),.int .u64 (x.max:Int),.int .u64 (x.last:Int)] 136));obtain ⟨r,ah⟩:=iZ w3.heap.size;have hqr:q<=r:=by omega
    rw[bk] at aH hr |-;have b2:=Jh (br.out.trans (aH.mono b0));have an:=Jh (ax.out.below aH ax.out.lt);rw[ah] at hr |-;have a5:=Jh hr;have hpr:p≠r:=by have:=ax.out.lt;omega
    have b4:q<=w4.heap.size:=by have:=aH.size;omega
    clear bk ah hr aH m0 m1 m2 m3 m4 m5;obtain ⟨y0,bX⟩:=iZ ((x.start - a.start).toNat);obtain ⟨y1,bO⟩:=iZ x.count.toNat;have hw0:wrap64 (x.start - a.start)=(y0:Int):=by unfold wrap64;have:=ad.out;omega
    have hu0:dG.wrap (y0:Int)=(y0:Int):=by rw[dH];have:=ad.out;omega
    have aA:x.count=(y1:Int):=by omega
    have hu1:dG.wrap (y1:Int)=(y1:Int):=by rw[dH];omega
    have bB:=Jh (fun w=>Kdl y0 (by have:=ad.out;omega) w);have bw:=Jh (fun w=>Kdl y1 (by omega) w);have bL:=Jh aA;clear bX bO aA k1 k2 k3 k4 bI;have c0:w4.cell? ⟨r,0,none⟩=some (.int .i64 x.start):=a5.out.cell 0;have d0:w4.cell? ⟨p,0,none⟩=some (.int .i64 a.start):=an.out.cell 0;go_wp2_with fail
    refine (bB.out w4).mono ?_;rintro _ w5 ⟨rfl,aF⟩;obtain ⟨Y0,aW⟩:∃Y:ByteArray,(⟨(uintT y0).toArray⟩:ByteArray)=Y:=⟨_,rfl⟩;have bK:Y0.size<=11:=by rw[<-aW];exact Kdw _
    rw[aW];have bW:=Jh (b2.out.trans (aF.mono b4));have az:=Jh (an.out.below aF an.out.lt);have a0:=Jh (a5.out.below aF a5.out.lt);have bE:q<=w5.heap.size:=by have:=aF.size;omega
    clear aF aW;have c1:w5.cell? ⟨r,1,none⟩=some (.int .i64 (y1:Int)):=(a0.out.cell 1).trans (by rw[<-bL.out];rfl);clear c0 d0;go_wp2_with fail
    refine (bw.out w5).mono ?_;rintro _ w6 ⟨rfl,aG⟩;obtain ⟨Y1,aY⟩:∃Y:ByteArray,(⟨(uintT y1).toArray⟩:ByteArray)=Y:=⟨_,rfl⟩;have b1:Y1.size<=11:=by rw[<-aY];exact Kdw _
    rw[aY];have bF:=Jh (bW.out.trans (aG.mono bE));have am:=Jh (az.out.below aG az.out.lt);have a6:=Jh (a0.out.below aG a0.out.lt);have b3:q<=w6.heap.size:=by have:=aG.size;omega
    clear aG aY;have aE:bits .xor .u64 (x.sum:Int) (a.sum:Int)=((x.sum ^^^ a.sum:Nat):Int):=bits_xor_u64_nat _ _ (by have:=ag.out.1;omega) (by have:=ad.out.2.2.1;omega);have ak:x.sum ^^^ a.sum < 2 ^ 64:=dj ag.out.1 ad.out.2.2.1;obtain ⟨y2,bq⟩:=iZ (x.sum ^^^ a.sum);rw[bq] at aE ak;have bz:=Jh (fun w=>Kdl y2 ak w);clear c1 bq;have c2:w6.cell? ⟨r,2,none⟩=some (.int .u64 (x.sum:Int)):=a6.out.cell 2;have d2:w6.cell? ⟨p,2,none⟩=some (.int .u64 (a.sum:Int)):=am.out.cell 2;go_wp2_with fail
    refine (bz.out w6).mono ?_;rintro _ w7 ⟨rfl,aM⟩;obtain ⟨Y2,aZ⟩:∃Y:ByteArray,(⟨(uintT y2).toArray⟩:ByteArray)=Y:=⟨_,rfl⟩;have bJ:Y2.size<=11:=by rw[<-aZ];exact Kdw _
    rw[aZ];have bA:=Jh (bF.out.trans (aM.mono b3));have aq:=Jh (am.out.below aM am.out.lt);have a1:=Jh (a6.out.below aM a6.out.lt);have bR:q<=w7.heap.size:=by have:=aM.size;omega
    clear aM aZ;have aJ:bits .xor .u64 (x.min:Int) (a.min:Int)=((x.min ^^^ a.min:Nat):Int):=bits_xor_u64_nat _ _ (by have:=ag.out.2.1;omega) (by have:=ad.out.2.2.2.1;omega);have aw:x.min ^^^ a.min < 2 ^ 64:=dj ag.out.2.1 ad.out.2.2.2.1;obtain ⟨y3,bt⟩:=iZ (x.min ^^^ a.min);rw[bt] at aJ aw;have bG:=Jh (fun w=>Kdl y3 aw w);clear c2 d2 aE ak bt;have c3:w7.cell? ⟨r,3,none⟩=some (.int .u64 (x.min:Int)):=a1.out.cell 3;have d3:w7.cell? ⟨p,3,none⟩=some (.int .u64 (a.min:Int)):=aq.out.cell 3;go_wp2_with fail
    refine (bG.out w7).mono ?_;rintro _ w8 ⟨rfl,aL⟩;obtain ⟨Y3,a9⟩:∃Y:ByteArray,(⟨(uintT y3).toArray⟩:ByteArray)=Y:=⟨_,rfl⟩;have bN:Y3.size<=11:=by rw[<-a9];exact Kdw _
    rw[a9];have bM:=Jh (bA.out.trans (aL.mono bR));have av:=Jh (aq.out.below aL aq.out.lt);have a2:=Jh (a1.out.below aL a1.out.lt);have bH:q<=w8.heap.size:=by have:=aL.size;omega
    clear aL a9;have aI:bits .xor .u64 (x.max:Int) (a.max:Int)=((x.max ^^^ a.max:Nat):Int):=bits_xor_u64_nat _ _ (by have:=ag.out.2.2.1;omega) (by have:=ad.out.2.2.2.2.1;omega);have ap:x.max ^^^ a.max < 2 ^ 64:=dj ag.out.2.2.1 ad.out.2.2.2.2.1;obtain ⟨y4,bi⟩:=iZ (x.max ^^^ a.max);rw[bi] at aI ap;have bV:=Jh (fun w=>Kdl y4 ap w);clear c3 d3 aJ aw bi;have c4:w8.cell? ⟨r,4,none⟩=some (.int .u64 (x.max:Int)):=a2.out.cell 4;have d4:w8.cell? ⟨p,4,none⟩=some (.int .u64 (a.max:Int)):=av.out.cell 4;go_wp2_with fail
    refine (bV.out w8).mono ?_;rintro _ w9 ⟨rfl,aB⟩;obtain ⟨Y4,aT⟩:∃Y:ByteArray,(⟨(uintT y4).toArray⟩:ByteArray)=Y:=⟨_,rfl⟩;have bZ:Y4.size<=11:=by rw[<-aT];exact Kdw _
    rw[aT];have bY:=Jh (bM.out.trans (aB.mono bH));have al:=Jh (av.out.below aB av.out.lt);have aU:=Jh (a2.out.below aB a2.out.lt);have bx:q<=w9.heap.size:=by have:=aB.size;omega
    clear aB aT;have aD:bits .xor .u64 (x.last:Int) (a.last:Int)=((x.last ^^^ a.last:Nat):Int):=bits_xor_u64_nat _ _ (by have:=ag.out.2.2.2;omega) (by have:=ad.out.2.2.2.2.2;omega);have aj:x.last ^^^ a.last < 2 ^ 64:=dj ag.out.2.2.2 ad.out.2.2.2.2.2;obtain ⟨y5,bl⟩:=iZ (x.last ^^^ a.last);rw[bl] at aD aj;have bS:=Jh (fun w=>Kdl y5 aj w);clear c4 d4 aI ap bl;have c5:w9.cell? ⟨r,5,none⟩=some (.int .u64 (x.last:Int)):=aU.out.cell 5;have d5:w9.cell? ⟨p,5,none⟩=some (.int .u64 (a.last:Int)):=al.out.cell 5;go_wp2_with fail
    refine (bS.out w9).mono ?_;rintro _ ac ⟨rfl,af⟩;obtain ⟨Y5,aV⟩:∃Y:ByteArray,(⟨(uintT y5).toArray⟩:ByteArray)=Y:=⟨_,rfl⟩;have b5:Y5.size<=11:=by rw[<-aV];exact Kdw _
    rw[aV];have bc:=Jh (bY.out.trans (af.mono bx));have aa:=Jh (al.out.below af al.out.lt);have ab:=Jh (aU.out.below af aU.out.lt);have bP:q<=ac.heap.size:=by have:=af.size;omega
    clear af aV;clear c5 d5 aD aj;have c0:ac.cell? ⟨r,0,none⟩=some _:=ab.out.cell 0;have f0:=aa.out.frozen 0;have g0:ac.cell? ⟨p,0,none⟩=some _:=aa.out.cell 0;have c1:ac.cell? ⟨r,1,none⟩=some _:=ab.out.cell 1;have f1:=aa.out.frozen 1;have g1:ac.cell? ⟨p,1,none⟩=some _:=aa.out.cell 1;have c2:ac.cell? ⟨r,2,none⟩=some _:=ab.out.cell 2;have f2:=aa.out.frozen 2;have g2:ac.cell? ⟨p,2,none⟩=some _:=aa.out.cell 2;have c3:ac.cell? ⟨r,3,none⟩=some _:=ab.out.cell 3;have f3:=aa.out.frozen 3;have g3:ac.cell? ⟨p,3,none⟩=some _:=aa.out.cell 3;have c4:ac.cell? ⟨r,4,none⟩=some _:=ab.out.cell 4;have f4:=aa.out.frozen 4;have g4:ac.cell? ⟨p,4,none⟩=some _:=aa.out.cell 4;have c5:ac.cell? ⟨r,5,none⟩=some _:=ab.out.cell 5;have f5:=aa.out.frozen 5;have g5:ac.cell? ⟨p,5,none⟩=some _:=aa.out.cell 5;have hpl:=aa.out.lt;have hrl:=ab.out.lt;have z0:Z.size<=11+66*1099511627776:=by have:=bd.out;omega
    go_wp2_with fail
    go_roundg (gk - 1)
    case measure=>have:=bm.out;omega
    case rel=>
     refine ⟨i+1,_,by have:=bm.out;omega,by go_num,rfl,?_,?_,?_,?_,?_⟩
     .simp only[ByteArray.size_append];have:=bd.out;omega
     .rw[Klf,HX.out,ja (by omega)];exact bD.out
     .rw[Klf,HX.out];exact ⟨bj.out.1,bj.out.2,ag.out⟩
     .rw[Klf,HX.out];exact (((((aa.out.set_ 0 (.int .i64 x.start)).set_ 1 (.int .i64 x.count)).set_ 2 (.int .u64 (x.sum:Int))).set_ 3 (.int .u64 (x.min:Int))).set_ 4 (.int .u64 (x.max:Int))).set_ 5 (.int .u64 (x.last:Int))
     .exact (((((bc.out.setCell (p:=⟨p,0,none⟩) ao (.int .i64 x.start)).setCell (p:=⟨p,1,none⟩) ao (.int .i64 x.count)).setCell (p:=⟨p,2,none⟩) ao (.int .u64 (x.sum:Int))).setCell (p:=⟨p,3,none⟩) ao (.int .u64 (x.min:Int))).setCell (p:=⟨p,4,none⟩) ao (.int .u64 (x.max:Int))).setCell (p:=⟨p,5,none⟩) ao (.int .u64 (x.last:Int))
   .have ah:R=false:=by
     have h1:=aN.out;have h2:Keg x a (decide (i=0))≠0:=fun h=>hf0 (bs.out.2 h)
     rw[<-h1,ja h2];rfl
    have ef:((f:Int) != 0)=true:=by simp;omega
    have bb:=Jh ah;clear ah;go_wp2_with fail
    go_ret2
    exact ⟨⟨_,_,rfl,by rw[bb.out];exact ⟨fun h=>jl h hf0,fun h=>by cases h⟩⟩,by rw[HQ.out];exact br.out⟩
  .have el:decide (i < n)=false:=by rw[jb];exact hi
   have ah:R=true:=by have h1:=bf.out;rw[List.drop_eq_nil_of_le (by have:=aK.out;omega)] at h1;exact h1.symm
   have bb:=Jh ah;clear ah;go_wp2_with fail
   go_ret2
   exact ⟨⟨_,_,rfl,by rw[bb.out];exact ⟨fun _=>rfl,fun _=>rfl⟩⟩,by rw[HQ.out];exact HB.out⟩
theorem Kwh:∀l:List Int,riseI l=true↔∀i,i+1 < l.length->l[i]! < l[i+1]!
 | []=>by simp[riseI]
 | [_]=>by simp[riseI]
 | a :: b :: l=>by
  rw[riseI,dc,i8,Kwh (b :: l)];constructor
  .rintro ⟨h1,h2⟩ i hi
   cases i with
   | zero=>simpa using h1
   | succ i=>simpa using h2 i (by simpa using hi)
  .intro h;refine ⟨by simpa using h 0 (by simp),fun i hi=>?_⟩;simpa using h (i+1) (by simpa using hi)
def Kjc (f t:Int) (l:List Int) (k:Nat):Prop:=f<=l[k]!/\l[k]! < t/\(0 < k->l[k - 1]! < l[k]!)
theorem Klv {f t:Int} {l:List Int}:Kco f t l=true↔l≠[]/\∀k,k < l.length->Kjc f t l k:=by
 unfold Kco;rw[dc,dc,i8,List.all_eq_true,Kwh];constructor
 .rintro ⟨⟨h1,h2⟩,h3⟩;refine ⟨h1,fun k hk=>?_⟩;have h4:=h2 l[k] (dn hk);simp only[dc,i8] at h4;rw[<-i9 l k hk] at h4;refine ⟨h4.1,h4.2,fun h0=>?_⟩;have:=h3 (k - 1) (by omega);rwa[show k - 1+1=k by omega] at this
 .rintro ⟨h1,h2⟩;refine ⟨⟨h1,fun x hx=>?_⟩,fun i hi=>?_⟩
  .obtain ⟨k,hk,rfl⟩:=cX.1 hx;have h4:=h2 k hk;unfold Kjc at h4;rw[i9 l k hk] at h4;simp only[dc,i8];exact ⟨h4.1,h4.2.1⟩
  .have h4:=(h2 (i+1) hi).2.2 (by omega);rwa[db] at h4
def Kgy (s:Ser):List Int:=s.samples.map Smp.t++s.windows.map dM
def mixB (r:Int) (s:Ser):Bool:=(decide (r=0) && decide (0 < s.windows.length)) || (decide (0 < r) && decide (0 < s.samples.length))
def cmpAt (c:Cont) (i:Nat):Bool:=decide (i=0) || decide (cmpL (c.series[i - 1]!).labels (c.series[i]!).labels < 0)
theorem Qic {c:Cont} (h:0<=c.res) (i:Nat):okAt c i=(Kcl (c.series[i]!).labels && (cmpAt c i && (Kch wnd0 true (c.series[i]!).windows && !mixB c.res (c.series[i]!) && Kco c.frm c.to_ (Kgy (c.series[i]!))))):=by unfold okAt cmpAt;rw[Qdg h];rfl
theorem Qdm {w:World} {B n:Nat} {A:Option Addr} {c:Nat} {l:List Int} (h:w.ownsRow B 2 1 (.slice A n c) n (l.map fun z=>dL .i64 z)) (hl:l.length=n) {k:Nat} (hk:k < n):∃g,A=some ⟨g,0,none⟩/\g < w.heap.size/\w.cell? ⟨g,k,none⟩=some (.int .i64 l[k]!):=by
 rcases h.2 with ⟨h1,h0⟩ | ⟨g,cap,cur,h1,_,hg,_⟩
 .omega
 .injection h1 with h1 _ h3;subst h1 h3;refine ⟨g,rfl,(Array.getElem?_eq_some_iff.1 hg).1,?_⟩;rw[h.cellAt k (by omega),c6,cV (by omega),i9 l k (by omega)];rfl
theorem Qbr (c:Cont) (hd:Hd) (w:World) (hS:Kcg w hd.A hd.n c.series) :
  Calls prog 27 #[contV c.res c.frm c.to_ hd] w fun e w'=>e = .returned (.bool (fitB c))/\Below w.heap.size w w':=by
 obtain ⟨R,hR⟩:=iZ (fitB c);rw[hR];obtain ⟨r,hr⟩:=iZ c.res;obtain ⟨f,hf⟩:=iZ c.frm;obtain ⟨t,ht⟩:=iZ c.to_;obtain ⟨A,n,cc⟩:=hd;have HR:=Jh hR;have bj:=Jh hr;have bQ:=Jh hf;have bq:=Jh ht;have bZ:=Jh hS;have bD:=Jh hS.s.len;have hnz:n<=1073741824:=by have h1:c.series.length=n:=hS.s.len;have:=hS.n;omega
 unfold contV;rw[hr,hf,ht];dsimp only;clear hr hf ht hR hS;go_enter func27,ntmps27
 go_upto_region 1 with fail
 have aT:Below w.heap.size w (w.alloc (.cells #[.int .i64 r,.int .i64 f,.int .i64 t,.slice A n cc] 34)):=(Below.refl _ _).alloc (df _) _;have ay:Blk (w.alloc (.cells #[.int .i64 r,.int .i64 f,.int .i64 t,.slice A n cc] 34)) w.heap.size 34 #[.int .i64 r,.int .i64 f,.int .i64 t,.slice A n cc]:=dK _ _ _;obtain ⟨w1,cn⟩:=iZ (w.alloc (.cells #[.int .i64 r,.int .i64 f,.int .i64 t,.slice A n cc] 34));rw[cn] at aT ay |-;have a4:=Jh (bZ.out.below aT);obtain ⟨q,hq⟩:=iZ w.heap.size;rw[hq] at aT ay |-;have aQ:=Jh aT;have aA:=Jh ay;have HQ:=Jh hq;have k0:w1.cell? ⟨q,0,none⟩=some (.int .i64 r):=ay.cell 0;have k1:w1.cell? ⟨q,1,none⟩=some (.int .i64 f):=ay.cell 1;have k2:w1.cell? ⟨q,2,none⟩=some (.int .i64 t):=ay.cell 2;have cN:=ay.lt
 have aW:¬(0<=r/\r < 3/\0<=f/\f < t/\t<=1125899906842625)->R=false:=fun h=>by rw[<-HR.out,de];intro h2;have:=(Kqf c).1 h2;rw[bj.out,bQ.out,bq.out] at this;exact h this.1
 have af:=Jh aW;clear cn aT ay hq aW
 by_cases g1:r < 0
 .have e1:decide (r < 0)=true:=jd g1;have aa:R=false:=af.out (by omega);subst aa;go_wp2_with fail
  go_ret
  exact ⟨rfl,by rw[HQ.out];exact aQ.out⟩
 have e1:decide (r < 0)=false:=ja g1
 by_cases g2:2 < r
 .have e2:decide (2 < r)=true:=jd g2;have aa:R=false:=af.out (by omega);subst aa;go_wp2_with fail
  go_ret
  exact ⟨rfl,by rw[HQ.out];exact aQ.out⟩
 have e2:decide (2 < r)=false:=ja g2
 by_cases g3:f < 0
 .have e3:decide (f < 0)=true:=jd g3;have aa:R=false:=af.out (by omega);subst aa;go_wp2_with fail
  go_ret
  exact ⟨rfl,by rw[HQ.out];exact aQ.out⟩
 have e3:decide (f < 0)=false:=ja g3
 by_cases g4:t<=f
 .have e4:decide (t<=f)=true:=jd g4;have aa:R=false:=af.out (by omega);subst aa;go_wp2_with fail
  go_ret
  exact ⟨rfl,by rw[HQ.out];exact aQ.out⟩
 have e4:decide (t<=f)=false:=ja g4
 by_cases g5:1125899906842625 < t
 .have e5:decide (1125899906842625 < t)=true:=jd g5;have aa:R=false:=af.out (by omega);subst aa;go_wp2_with fail
  go_ret
  exact ⟨rfl,by rw[HQ.out];exact aQ.out⟩
 have e5:decide (1125899906842625 < t)=false:=ja g5
 have aM:R=true↔∀i,i < n->okAt c i=true:=by rw[<-HR.out,Kqf,bj.out,bQ.out,bq.out,bD.out];exact ⟨fun h=>h.2,fun h=>⟨by omega,h⟩⟩
 have bH:=Jh aM
 have b4:∀i,i < n->okAt c i=false->R=false:=fun i hi h=>by rw[de];intro h2;have:=aM.1 h2 i hi;rw[h] at this;cases this
 have aN:=Jh b4;have cm:=Jh g1;clear aM b4;go_upto_block 0 with fail
 clear k0 k1 k2 e1 e2 e3 e4 e5 g2 g3 g4 g5 g1 cN;go_wp2_with fail
 go_loopg [3] n (fun g s3 wr=>∃i:Nat,i+g=n/\s3 = .int .i64 (i:Int)/\(∀j,j < i->okAt c j=true)/\Below q w wr/\Below w1.heap.size w1 wr)
 case atStart=>exact ⟨0,by omega,rfl,fun j hj=>by omega,aQ.out,Below.refl _ _⟩
 case round=>
  obtain ⟨i,b9,rfl,bb,b5,cp⟩:=hrel;have bF:=Jh b9;have ba:=Jh bb;have bv:=Jh b5;have bw:=Jh cp;clear b9 bb b5 cp;obtain ⟨wo,rfl⟩:=i7 wr;have bS:=aA.out.below bw.out aA.out.lt;have k3:wo.cell? ⟨q,3,none⟩=some (.slice A n cc):=bS.cell 3;have cD:=bS.lt;clear bS
  by_cases hi:i < n
  .have el:decide (i < n)=true:=by rw[i8];exact hi
   obtain ⟨b,cI,x,rfl,bR,c0,c1,c2,bW⟩:=(a4.out.s.below bw.out).at_ hi;obtain ⟨⟨LA,ln,lc⟩,⟨SA,sn,sc⟩,⟨WA,wn,am⟩⟩:=x;have b0:i < c.series.length:=by have:=bD.out;omega
   have cq:=bZ.out.z c.series[i]! (by rw[i9 _ i b0];exact dn b0);obtain ⟨sr,bk⟩:∃sr,c.series[i]! = sr:=⟨_,rfl⟩
   have ac:okAt c i=(Kcl sr.labels && (cmpAt c i && (Kch wnd0 true sr.windows && !mixB r sr && Kco f t (Kgy sr)))):=by rw[Qic (by rw[bj.out];have:=cm.out;omega),bk,bj.out,bQ.out,bq.out]
   rw[bk] at bW cq;have cM:=Jh bk;have aJ:=Jh cq;have ao:=Jh ac;clear ac bk;go_upto_region 7 with fail
   have a6:Below wo.heap.size wo (wo.alloc (.cells #[.slice LA ln lc,.slice SA sn sc,.slice WA wn am] 132)):=(Below.refl _ _).alloc (df _) _;have aO:Blk (wo.alloc (.cells #[.slice LA ln lc,.slice SA sn sc,.slice WA wn am] 132)) wo.heap.size 132 #[.slice LA ln lc,.slice SA sn sc,.slice WA wn am]:=dK _ _ _;obtain ⟨w4,b8⟩:=iZ (wo.alloc (.cells #[.slice LA ln lc,.slice SA sn sc,.slice WA wn am] 132));obtain ⟨p,hp⟩:=iZ wo.heap.size;rw[b8] at a6 aO |-;have aw:=bW.below a6;have cr:=Jh (bv.out.trans (a6.mono (by have:=bv.out.size;have:=HQ.out;omega)));have bX:=Jh (then_ bw.out a6);rw[hp] at aO |-;have cf:=Jh aO;have br:=Jh aw;have s0:w4.cell? ⟨p,0,none⟩=some (.slice LA ln lc):=aO.cell 0;have hpl:=aO.lt;obtain ⟨V,hV⟩:=iZ (Kcl sr.labels);rw[hV] at ao;have cz:ln<=140737488351232:=by have h1:sr.labels.length=ln:=aw.l.len;have:=aJ.out.l;omega
   have cK:=Jh (Kwm sr.labels LA ln lc w4 V hV aw.l cz (fun x hx=>by have:=aJ.out.z x hx;omega));clear b8 hp a6 aO aw bW c0 c1 c2 hV k3 cD;go_wp2_with fail
   refine cK.out.mono ?_;rintro _ w5 ⟨rfl,aY⟩;have bP:=Jh (cf.out.below aY cf.out.lt);have aH:=Jh (br.out.below aY);have ch:=Jh (cr.out.trans (aY.mono (by have:=cr.out.size;have:=HQ.out;omega)));have bK:=Jh (then_ bX.out aY);have s2:w5.cell? ⟨p,2,none⟩=some (.slice WA wn am):=bP.out.cell 2;have cs:wn<=1099511627776:=by have h1:sr.windows.length=wn:=aH.out.w.len;have:=aJ.out.m;omega
   have cE:=Jh (Kqe sr.windows WA wn am w5 aH.out.w cs aJ.out.b);clear aY s0;go_wp2_with fail
   refine cE.out.mono ?_;rintro _ w6 ⟨⟨ES,ek,rfl,co⟩,a0⟩;have bi:=Jh (bP.out.below a0 bP.out.lt);have ar:=Jh (aH.out.below a0);have aV:=Jh (ch.out.trans (a0.mono (by have:=ch.out.size;have:=HQ.out;omega)));have an:=Jh (then_ bK.out a0);have cg:=Jh co;clear a0 s2 co
   cases V with
   | false=>
    have aa:R=false:=aN.out i hi (by rw[ao.out];rfl);subst aa;go_wp2_with fail
    go_ret
    exact ⟨rfl,by rw[HQ.out];exact aV.out⟩
   | true=>
    by_cases hek0:ek=0
    rotate_left
    .have aa:R=false:=aN.out i hi (by
      rw[ao.out];have:Kch wnd0 true sr.windows=false:=by rw[de];exact fun h=>hek0 (cg.out.2 h)
      rw[this]
      simp)
     have ee:((ek:Int) != 0)=true:=by simp;omega
     subst aa;go_wp2_with fail
     go_ret
     exact ⟨rfl,by rw[HQ.out];exact aV.out⟩
    .subst hek0;have ce:=cg.out.1 rfl;have ac:=ao.out;rw[ce,dv,dv] at ac;have bd:=Jh ac;clear ac ce;go_upto_region 11 with fail
     have bU:=bi.out;have bG:=bU.lt;have bz:=aA.out.below an.out aA.out.lt;have k3:w6.cell? ⟨q,3,none⟩=some (.slice (some ⟨b,cI,none⟩) n cc):=bz.cell 3;have bO:=bz.lt;have s0:w6.cell? ⟨p,0,none⟩=some (.slice LA ln lc):=bU.cell 0;clear bU bz;go_cut [64] (fun s64 wz=>s64 = .bool (decide (0 < i))/\w6=wz)
     case first=>
      obtain ⟨d0,bt⟩:=iZ (decide (0 < i));have hd1:decide (0 < (i:Int))=d0:=by rw[<-bt];congr 1;exact propext (by omega)
      go_wp2_with fail
      go_meet
      exact ⟨by rw[bt],rfl⟩
     obtain ⟨rfl,rfl⟩:=hcut
     apply_assumption
     go_cut [] (fun wz=>cmpAt c i=true/\Blk wz p 132 #[.slice LA ln lc,.slice SA sn sc,.slice WA wn am]/\SerAt wz ⟨⟨LA,ln,lc⟩,⟨SA,sn,sc⟩,⟨WA,wn,am⟩⟩ sr/\Below q w wz/\Below w1.heap.size w1 wz)
     case first=>
      cases i with
      | zero=>
       go_wp2_with fail
       go_meet
       exact ⟨rfl,bi.out,ar.out,aV.out,an.out⟩
      | succ j=>
       have bt:decide (0 < j+1)=true:=by rw[i8];omega
       obtain ⟨b',cT,y,aZ,cQ,d0,d1,d2,bf⟩:=(a4.out.s.below an.out).at_ (i:=j) (by omega);injection aZ with aZ;injection aZ with aZ hA2;subst aZ hA2;obtain ⟨⟨cC,bL,ct⟩,⟨SA',sn',sc'⟩,⟨WA',wn',cP⟩⟩:=y;have cd:j < c.series.length:=by have:=bD.out;omega
       have bV:=bZ.out.z c.series[j]! (by rw[i9 _ j cd];exact dn cd);obtain ⟨sy,aI⟩:∃s,c.series[j]! = s:=⟨_,rfl⟩;rw[aI] at bf bV;obtain ⟨rr,bY⟩:=iZ (cmpL sy.labels sr.labels)
       have a9:cmpAt c (j+1)=decide (rr < 0):=by unfold cmpAt;rw[db,aI,cM.out,bY];simp
       have cB:bL<=140737488351232:=by have h1:sy.labels.length=bL:=bf.l.len;have:=bV.l;omega
       have cL:ln<=140737488351232:=by have h1:sr.labels.length=ln:=ar.out.l.len;have:=aJ.out.l;omega
       have cG:=Jh (fun u:Later w6=>Kdq sy.labels sr.labels cC LA bL ln ct lc u.w rr bY ((bf.l.below u.h).more u.h.size) ((ar.out.l.below u.h).more u.h.size) cB cL);have aR:=Jh a9;have z1:dF.wrap ((j:Int)+1 - 1)=(j:Int):=by rw[show (j:Int)+1 - 1=(j:Int) by omega];exact dJ _ (by omega)
       have cO:dF.wrap (((j+1:Nat):Int) - 1)=(j:Int):=by rw[show ((j+1:Nat):Int) - 1=(j:Int) by omega];exact dJ _ (by omega)
       have z5:(j:Int) < (n:Int):=by omega
       have z6:j < n:=by omega
       clear bY aI a9 bf bV d1 d2;go_upto_region 12 with fail
       refine Kaa (by kernel_rfl) (by kernel_rfl) ?_
       repeat (go_big_quiet_step ((go_at_call 69;exact Kaj _ (cG.out _))))
       refine dN ?_;rintro w7 ⟨⟨_,bl⟩,rfl⟩;have cJ:=Jh (bi.out.below bl bi.out.lt);have bA:=Jh (ar.out.below bl);have b1:=Jh (aV.out.trans (bl.mono (by have:=aV.out.size;have:=HQ.out;omega)));have bM:=Jh (then_ an.out bl)
       by_cases bI:rr < 0
       .have er:decide (0<=rr)=false:=by rw[jb];omega
        go_wp2_with fail
        go_meet
        exact ⟨by rw[aR.out];exact jd bI,cJ.out,bA.out,b1.out,bM.out⟩
       .have er:decide (0<=rr)=true:=by rw[i8];omega
        have aa:R=false:=aN.out (j+1) hi (by rw[bd.out,aR.out,ja bI];rfl);subst aa;go_wp2_with fail
        go_ret
        exact ⟨rfl,by rw[HQ.out];exact b1.out⟩
     obtain ⟨ca,cb,a5,b2,a8⟩:=hcut;obtain ⟨w8,rfl⟩:=i7 wc;have aE:=bd.out;rw[ca,dv] at aE;have aS:=Jh aE;have bT:=Jh cb;have aq:=Jh a5;have bB:=Jh b2;have aL:=Jh a8;clear aE ca cb a5 b2 a8 k3 s0 bO bG;have bx:=aA.out.below aL.out aA.out.lt;have k0:w8.cell? ⟨q,0,none⟩=some (.int .i64 r):=bx.cell 0;have cw:=bx.lt;have s1:w8.cell? ⟨p,1,none⟩=some (.slice SA sn sc):=bT.out.cell 1;have s2:w8.cell? ⟨p,2,none⟩=some (.slice WA wn am):=bT.out.cell 2;have cx:=bT.out.lt;have aK:sr.samples.length=sn:=aq.out.s.len;have aF:sr.windows.length=wn:=aq.out.w.len;have b3:mixB r sr=((decide (r=0) && decide (0 < wn)) || (decide (0 < r) && decide (0 < sn))):=by unfold mixB;rw[aK,aF]
     have cF:=Jh b3;have bp:=Jh aK;have bN:=Jh aF;have bs:sn<=1099511627776:=by have:=aJ.out.n;omega
     have bo:wn<=1099511627776:=by have:=aJ.out.m;omega
     have cA:=Jh (Kza sr.samples sr.windows SA WA sn wn sc am w8 aq.out.s aq.out.w bs bo);clear b3 aK aF bx;have bI:=cm.out;go_upto_region 15 with fail
     go_cut [96] (fun s96 wz=>s96 = .bool (mixB r sr)/\w8=wz)
     case first=>
      have hm:=cF.out;obtain ⟨M,hM⟩:=iZ (mixB r sr);rw[hM] at hm
      try rw[hM]
      by_cases q1:r=0
      .have e1:(r == 0)=true:=by simpa using q1
       have a7:decide (r=0)=true:=jd q1;have e4:decide (0 < r)=false:=by rw[jb];omega
       by_cases q2:0 < wn
       .have e2:decide (0 < wn)=true:=jd q2;have e3:decide (0 < (wn:Int))=true:=by rw[i8];omega
        have aG:M=true:=by rw[hm,a7,e2];rfl
        subst aG;clear hm q1;go_wp2_with fail
        go_meet
        exact ⟨by rw[hM],rfl⟩
       .have e2:decide (0 < wn)=false:=ja q2;have e3:decide (0 < (wn:Int))=false:=by rw[jb];omega
        have aG:M=false:=by rw[hm,a7,e2,e4];rfl
        subst aG;clear hm q1;go_wp2_with fail
        go_meet
        exact ⟨by rw[hM],rfl⟩
      .have e1:(r == 0)=false:=by simpa using q1
       have a7:decide (r=0)=false:=ja q1;have e4:decide (0 < r)=true:=by rw[i8];omega
       by_cases q2:0 < sn
       .have e2:decide (0 < sn)=true:=jd q2;have e3:decide (0 < (sn:Int))=true:=by rw[i8];omega
        have aG:M=true:=by rw[hm,a7,e4,e2];rfl
        subst aG;clear hm;go_wp2_with fail
        go_meet
        exact ⟨by rw[hM],rfl⟩
       .have e2:decide (0 < sn)=false:=ja q2;have e3:decide (0 < (sn:Int))=false:=by rw[jb];omega
        have aG:M=false:=by rw[hm,a7,e4,e2];rfl
        subst aG;clear hm;go_wp2_with fail
        go_meet
        exact ⟨by rw[hM],rfl⟩
     obtain ⟨bn,rfl⟩:=hcut
     by_cases hmix:mixB r sr=true
     .have aa:R=false:=aN.out i hi (by rw[aS.out,hmix];simp);rw[hmix] at bn;subst bn;subst aa;go_wp2_with fail
      go_ret
      exact ⟨rfl,by rw[HQ.out];exact bB.out⟩
     have ad:mixB r sr=false:=by simpa using hmix
     rw[ad] at bn;subst bn;have aD:=aS.out;rw[ad,Bool.not_false,dv] at aD;have ap:=Jh aD;clear aD hmix ad k0;go_upto_region 17 with fail
     go_wp2_with fail
     refine cA.out.mono ?_;rintro _ w9 ⟨TA,tc,rfl,b7,be⟩;have bJ:=aA.out.below aL.out aA.out.lt;have b6:=Jh (bJ.below be bJ.lt);have cl:=Jh (bB.out.trans (be.mono (by have:=bB.out.size;have:=HQ.out;omega)));have aX:=Jh (then_ aL.out be);have bm:(Kgy sr).length=sn+wn:=by unfold Kgy;rw[List.length_append,dr,dr,bp.out,bN.out]
     have av:w9.ownsRow w8.heap.size 2 1 (.slice TA (sn+wn) tc) (sn+wn) ((Kgy sr).map fun z=>dL .i64 z):=b7;obtain ⟨T,hT⟩:=iZ (Kgy sr);obtain ⟨tn,bE⟩:=iZ (sn+wn);have cS:tn<=2199023255552:=by omega
     have cH:=Jh bE;rw[hT] at av bm ap;rw[bE] at av bm;have bC:=Jh av;have aP:=Jh bm
     try rw[bE]
     clear be b7 av bm hT s1 s2 bJ;go_upto_region 18 with fail
     by_cases ht0:tn=0
     .have aa:R=false:=aN.out i hi (by
       rw[ap.out,de];intro h
       exact (Klv.1 h).1 (dd (by rw[aP.out,ht0])))
      have e0:((tn:Int) == 0)=true:=by simp[ht0]
      subst aa;go_wp2_with fail
      go_ret
      exact ⟨rfl,by rw[HQ.out];exact cl.out⟩
     have e0:((tn:Int) == 0)=false:=by simpa using ht0
     have az:(∃k,k < tn/\¬Kjc f t T k)->R=false:=fun ⟨k,hk,hno⟩=>aN.out i hi (by
      rw[ap.out,de];intro h
      exact hno ((Klv.1 h).2 k (by rw[aP.out];exact hk)))
     have ai:=Jh az;clear az;go_wp2_with fail
     go_loopg [10] tn (fun g s10 wr=>∃k:Nat,k+g=tn/\s10 = .int .i64 (k:Int)/\(∀j,j < k->Kjc f t T j)/\Below q w wr/\Below w9.heap.size w9 wr)
     case atStart=>exact ⟨0,by omega,rfl,fun j hj=>by omega,cl.out,Below.refl _ _⟩
     case round=>
      obtain ⟨k,ci,rfl,aB,bR,bc⟩:=hrel;have bg:=Jh ci;have ae:=Jh aB;have ak:=Jh bR;have ag:=Jh bc;clear ci aB bR bc;obtain ⟨wk,rfl⟩:=i7 wr
      by_cases hk:k < tn
      .have cv:decide (k < tn)=true:=by rw[i8];exact hk
       have aC:=Kbc bC.out ag.out;obtain ⟨g,cy,hgl,ck⟩:=Qdm aC aP.out hk;subst cy;have bh:=b6.out.below ag.out b6.out.lt;have k1:wk.cell? ⟨q,1,none⟩=some (.int .i64 f):=bh.cell 1;have k2:wk.cell? ⟨q,2,none⟩=some (.int .i64 t):=bh.cell 2;have hqk:=bh.lt;obtain ⟨x,hx⟩:∃x,T[k]! = x:=⟨_,rfl⟩;rw[hx] at ck;have HX:=Jh hx;have cR:=Jh aC;clear hx bh aC
       by_cases g1:x < f
       .have a1:decide (x < f)=true:=jd g1;have aa:R=false:=ai.out ⟨k,hk,fun h=>by have:=h.1;rw[HX.out] at this;omega⟩;go_upto_region 23 with fail
        refine Kaa (by kernel_rfl) (by kernel_rfl) ?_
        repeat (go_big_quiet_step (fail))
        refine dN ?_;rintro wz ⟨⟨_,ab⟩,rfl⟩;have ax:=Jh (ak.out.trans (ab.mono (by have:=ak.out.size;have:=HQ.out;omega)));subst aa;go_wp2_with fail
        go_ret
        exact ⟨rfl,by rw[HQ.out];exact ax.out⟩
       have a1:decide (x < f)=false:=ja g1
       by_cases g2:t<=x
       .have a2:decide (t<=x)=true:=jd g2;have aa:R=false:=ai.out ⟨k,hk,fun h=>by have:=h.2.1;rw[HX.out] at this;omega⟩;go_upto_region 23 with fail
        refine Kaa (by kernel_rfl) (by kernel_rfl) ?_
        repeat (go_big_quiet_step (fail))
        refine dN ?_;rintro wz ⟨⟨_,ab⟩,rfl⟩;have ax:=Jh (ak.out.trans (ab.mono (by have:=ak.out.size;have:=HQ.out;omega)));subst aa;go_wp2_with fail
        go_ret
        exact ⟨rfl,by rw[HQ.out];exact ax.out⟩
       have a2:decide (t<=x)=false:=ja g2
       cases k with
       | zero=>
        go_upto_region 23 with fail
        refine Kaa (by kernel_rfl) (by kernel_rfl) ?_
        repeat (go_big_quiet_step (fail))
        refine dN ?_;rintro wz ⟨⟨_,ab⟩,rfl⟩;have ax:=Jh (ak.out.trans (ab.mono (by have:=ak.out.size;have:=HQ.out;omega)));have ah:=Jh (then_ ag.out ab)
        have aj:=Jh (show ∀jj,jj < 0+1->Kjc f t T jj from fun j' hj'=>by
         by_cases hjk:j'=0
         .subst hjk;exact ⟨by rw[HX.out];omega,by rw[HX.out];omega,fun h=>by omega⟩
         .exact ae.out j' (by omega))
        clear ab;go_wp2_with fail
        go_roundg (gk - 1)
        case measure=>have:=bg.out;omega
        case rel=>exact ⟨0+1,by have:=bg.out;omega,by first | rfl | go_num,aj.out,ax.out,ah.out⟩
       | succ j=>
        obtain ⟨g',al,_,cj⟩:=Qdm cR.out aP.out (k:=j) (by omega);injection al with al;injection al with al;subst al;obtain ⟨y,hy⟩:∃y,T[j]! = y:=⟨_,rfl⟩;rw[hy] at cj;have HY:=Jh hy;clear hy;have z1:dF.wrap ((j:Int)+1 - 1)=(j:Int):=by rw[show (j:Int)+1 - 1=(j:Int) by omega];exact dJ _ (by omega)
        have cO:dF.wrap (((j+1:Nat):Int) - 1)=(j:Int):=by rw[show ((j+1:Nat):Int) - 1=(j:Int) by omega];exact dJ _ (by omega)
        have z6:decide (0 < j+1)=true:=by rw[i8];omega
        have z7:j < tn:=by omega
        have z8:(j:Int) < (tn:Int):=by omega
        by_cases g3:x<=y
        .have a3:decide (x<=y)=true:=jd g3;have aa:R=false:=ai.out ⟨j+1,hk,fun h=>by have h1:=h.2.2 (by omega);rw[HX.out,db,HY.out] at h1;omega⟩;go_upto_region 23 with fail
         refine Kaa (by kernel_rfl) (by kernel_rfl) ?_
         repeat (go_big_quiet_step (fail))
         refine dN ?_;rintro wz ⟨⟨_,ab⟩,rfl⟩;have ax:=Jh (ak.out.trans (ab.mono (by have:=ak.out.size;have:=HQ.out;omega)));subst aa;go_wp2_with fail
         go_ret
         exact ⟨rfl,by rw[HQ.out];exact ax.out⟩
        have a3:decide (x<=y)=false:=ja g3;go_upto_region 23 with fail
        refine Kaa (by kernel_rfl) (by kernel_rfl) ?_
        repeat (go_big_quiet_step (fail))
        refine dN ?_;rintro wz ⟨⟨_,ab⟩,rfl⟩;have ax:=Jh (ak.out.trans (ab.mono (by have:=ak.out.size;have:=HQ.out;omega)));have ah:=Jh (then_ ag.out ab)
        have aj:=Jh (show ∀jj,jj < j+1+1->Kjc f t T jj from fun j' hj'=>by
         by_cases hjk:j'=j+1
         .subst hjk;exact ⟨by rw[HX.out];omega,by rw[HX.out];omega,fun h=>by rw[HX.out,db,HY.out];omega⟩
         .exact ae.out j' (by omega))
        clear ab;go_wp2_with fail
        go_roundg (gk - 1)
        case measure=>have:=bg.out;omega
        case rel=>exact ⟨j+1+1,by have:=bg.out;omega,by first | rfl | go_num,aj.out,ax.out,ah.out⟩
      .have cv:decide (k < tn)=false:=by rw[jb];exact hk
       have aU:okAt c i=true:=by rw[ap.out,Klv];exact ⟨fun h=>ht0 (by rw[<-aP.out,h];rfl),fun j hj=>ae.out j (by rw[aP.out] at hj;omega)⟩
       have aj:=Jh (show ∀j,j < i+1->okAt c j=true from fun j hj=>by
        by_cases hji:j=i
        .subst hji;exact aU
        .exact ba.out j (by omega))
       have ah:=Jh ((aX.out.trans (ag.out.mono (by have:=aX.out.size;omega))));clear aU;go_wp2_with fail
       go_roundg (n - i - 1)
       case measure=>have:=bF.out;omega
       case rel=>exact ⟨i+1,by have:=bF.out;omega,by go_num,aj.out,ak.out,ah.out⟩
  .have el:decide (i < n)=false:=by rw[jb];exact hi
   have aa:R=true:=bH.out.2 (fun j hj=>ba.out j (by have:=bF.out;omega));subst aa;go_wp2_with fail
   go_ret
   exact ⟨rfl,by rw[HQ.out];exact bv.out⟩
end
section
open Go.RowKit
open List renaming length_append -> Jd
def labsS (S:List (List Lb)):Nat:=(S.map List.length).sum
def labsN (l:List Ser):Nat:=(l.map fun s=>s.labels.length).sum
theorem Qbe (c:Cont):labsS (Kaq c)=labsN c.series:=by unfold labsS labsN Kaq;rw[dz];rfl
theorem Krc:∀S:List (List Lb),(allS S).length=2*labsS S
 | []=>rfl
 | l :: S=>by have h2:=Krc S;have h3:=Kgg l;unfold allS labsS at *;rw[dt,Jd,cU,cZ];omega
theorem Kww {S:List (List Lb)} (h:Kfx S):(tabT (tabOf S)).length<=11+150*labsS S:=by
 have h1:(tabOf S).length<=2*labsS S:=by refine dh (Kkn _) ?_;rw[List.length_mergeSort,Krc];exact df _
 have h3:=Kfr 64 (tabOf S) (Kpr h).2;have h4:=(Kab (tabOf S).length).2;unfold tabT;rw[Jd];omega
theorem Kux (S:List (List Lb)):S.flatten.length=labsS S:=by unfold labsS;rw[List.length_flatten]
theorem Kxy (S:List (List Lb)):(keysOf S).length<=labsS S:=by
 have h1:∀l:List Lb,(l.foldr insK []).length<=l.length:=by
  intro l
  induction l with
  | nil=>exact df _
  | cons y l ih=>rw[List.foldr_cons,da];exact dh (Knk y _) (by omega)
 rw[<-Kux];exact h1 _
theorem Qbf (T:List (List Lb)) (l:List Lb):labsS (T ++ [l])=labsS T+l.length:=by unfold labsS;rw[List.map_append,List.sum_append,cU,di,cZ,List.sum_nil];omega
theorem Qce (K:List Lb) (hK:K.Nodup):∀(n:Nat) (S:List (List Lb)),S.length=n->(K.map fun x=>(Kap S x).length).sum<=labsS S:=by
 intro n
 induction n with
 | zero=>
  intro S h;have h0:S = []:=dd h;subst h0
  have:∀K:List Lb,(K.map fun x=>(Kap [] x).length).sum=0:=by
   intro K
   induction K with
   | nil=>rfl
   | cons y K ih=>rw[cU,cZ,ih];rfl
  rw[this];exact Nat.zero_le _
 | succ n ih=>
  intro S h;have aa:S≠[]:=by intro e;rw[e] at h;cases h
  obtain ⟨T,l,rfl⟩:∃T l,S=T ++ [l]:=⟨S.dropLast,S.getLast aa,(List.dropLast_concat_getLast aa).symm⟩;have h1:=ih T (by rw[Jd,List.length_singleton] at h;omega);have h3:=Kni l K hK
  have e:∀K:List Lb,(K.map fun x=>(Kap (T ++ [l]) x).length).sum=(K.map fun x=>(Kap T x).length).sum+(K.filter fun x=>decide (x∈l)).length:=by
   intro K
   induction K with
   | nil=>rfl
   | cons y K ih=>
    rw[cU,cZ,cU,cZ,ih,Khm,dB]
    by_cases hy:y∈l
    .rw[jf hy,jf (jd hy),Jd,da];simp;omega
    .rw[je hy,je (by simpa using hy)];omega
  rw[e,Qbf];omega
theorem Kyc {S:List (List Lb)} (h:Kfx S):(Kcx S).length<=11+140*labsS S:=by
 have h1:=(Kab (keysOf S).length).2;have h2:=Kxy S;have h3:=Qce (keysOf S) ((Kez S).1.imp fun hab e=>by subst e;exact Keo _ hab) S.length S rfl
 have h4:∀K:List Lb,(∀x∈K,x.n.length<=32/\x.v.length<=64)->(K.flatMap (keyT S)).length<=129*K.length+11*(K.map fun x=>(Kap S x).length).sum:=by
  intro K
  induction K with
  | nil=>intro _;simp
  | cons y K ih=>
   intro hk;have k1:=Kve S y (hk y (by simp));have k2:=ih (fun x hx=>hk x (by simp[hx]));rw[dt,Jd,da,cU,cZ];omega
 have h5:=h4 (keysOf S) (Kla h);unfold Kcx;rw[Jd];omega
theorem Qem (t:List Txt) (s:Ser):(serT t s).length<=33+22*s.labels.length+11*s.samples.length:=by unfold serT;rw[Jd,Jd];have h1:=Qei t s.labels;have h2:=(Kab (Kbf s).length).2;have h3:=Kvq (Kbf s);have h4:=Kmq s;omega
theorem Kpj (t:List Txt):∀l:List Ser,(l.flatMap (serT t)).length<=33*l.length+22*labsN l+11*smpsN l
 | []=>by simp[smpsN,labsN]
 | s :: l=>by have h1:=Qem t s;have h2:=Kpj t l;simp only[smpsN,labsN,cU,cZ,dt,Jd,da] at *;omega
theorem Qay {c:Cont} (h:fitB c=true):(Kcp c).length<=33+312*labsN c.series+33*c.series.length+11*smpsN c.series:=by have hs:=Ksj h;have h1:=Kww hs;have h2:=(Kab c.series.length).2;have h3:=Kpj (tabOf (Kaq c)) c.series;have h4:=Kyc hs;rw[Qbe] at h1 h4;unfold Kcp;simp only[Jd];omega
theorem Kxt {c:Cont} (h:fitB c=true) (hn:c.series.length<=1048576) (hm:smpsN c.series+wndsN c.series<=1048576) (hk:labsN c.series<=349525):(sealT (metaB c)).length<=200000000/\(sealT (Kdc c)).length<=200000000/\(sealT (Kcp c)).length<=200000000:=by
 have h1:=Qde h;have h2:=Qay h
 have h3:∀l:List UInt8,(sealT l).length=l.length+4:=fun l=>by unfold sealT;rw[Jd];rfl
 rw[h3,h3,h3];omega
end
section
open Go.RowKit
attribute [local go_sem ↓] Go.wp_at_zero Go.wp_at_succ
attribute [local go_sem] Later.cell
structure BEnv (w:World):Prop where
 n:Kec w
 d:DbTab w
theorem BEnv.below {w w':World} (h:BEnv w) (hb:Below w.heap.size w w'):BEnv w':=⟨h.n.below h.n.lt hb,h.d.below hb⟩
theorem Kwn {c:Cont} (h:fitB c=true) (hn:c.series.length<=1048576) (hm:smpsN c.series+wndsN c.series<=1048576) (hk:labsN c.series<=349525):(Kfg c).mt.length<=200000000/\(Kfg c).ck.length<=200000000/\(Kfg c).ix.length<=200000000:=Kxt h hn hm hk
theorem Qcr (c:Cont) (hd:Hd) (w:World) (hS:Kcg w hd.A hd.n c.series) (hE:BEnv w) (hsz:fitB c=true->(Kdc c).length<=35184372088832/\(Kcp c).length<=35184372088832) :
  Calls prog 19 #[contV c.res c.frm c.to_ hd] w fun e w'=>e = .returned (.tuple #[filV (Kdn c),.int .i64 (if fitB c=true then 0 else 190)])/\Below w.heap.size w w':=
 Kxh c hd w hS.s hS.z (by have h1:c.series.length=hd.n:=hS.s.len;have:=hS.n;omega) hE.d hE.n hsz
end
section
open Go.ChangeShapes Go.WideShapes Go.ChangeAt Go.RowKit
theorem Tryz.own:ownKnob prog.godebug=none:=by kernel_rfl
theorem Tryz.laidOut:laidOutB prog=true:=by kernel_rfl
end
section
open Go.ChangeShapes Go.WideShapes Go.ChangeAt Go.RowKit Go.Deep
section
variable {H : Type} {enc : TypeId × Value -> H} {P : Program} {w : World} {base : Nat} {spare : Nat -> Bool} {held : Bool}
theorem Kif {α : Type} [Inhabited α] {t e:TypeId} {sz:Nat} {ea:α->List Value} {Q:DataW H->α->Prop} (ht:P.underlying t=some (.slice e)) (hc:P.cellsOf e=sz) (h0:0 < sz) (hz:∀y,(ea y).length=sz)
  (ho:∀(fuel:Nat) (l:List Value) (x:DataW H×List MemPlace),dD enc P w base spare held fuel e l=some x->∃y,l=ea y/\Q x.1 y)
  {fuel:Nat} {v:Value} {x:DataW H×List MemPlace} (h:dD enc P w base spare held fuel t [v]=some x) :
  ∃A n c ys,v = .slice A n c/\(A=none->c=0)/\n<=c/\Elems w w.heap.size sz ea A n ys/\∃ds sp,(x.1 = .slice ds sp\/(x.1 = .nil/\ds = []))/\ds.length=ys.length/\∀(i:Nat) d y,ds[i]? = some d->ys[i]? = some y->Q d y:=by
 rcases open_slice ht h with ⟨hcs,hx⟩ | ⟨a,len,cap,m,n,D,Pl,hcs,_,hl,_,hmm,hx,hi⟩
 .simp at hcs;subst hcs;exact ⟨none,0,0,[],rfl,fun _=>rfl,df _,Elems.nil_,[],[],.inr ⟨by rw[hx],rfl⟩,rfl,fun i d y hd=>by simp at hd⟩
 .simp at hcs;subst hcs;rw[hc] at hi;have hlm:len<=m:=by rw[hmm];split <;> omega
  obtain ⟨f,hf⟩:=choose_lt (α:=α) (n:=len) (p:=fun i y=>(∀j u,(ea y)[j]? = some u->w.cell? (a.add (i*sz+j))=some u)/\Q (D i) y) (by
   intro i hlt;obtain ⟨cs',af,ae⟩:=hi i (by omega);obtain ⟨y,rfl,hq⟩:=ho _ _ _ ae;obtain ⟨_,hcl,ah⟩:=World.cells?_some af;refine ⟨y,fun j u hu=>?_,hq⟩;have hj:j < sz:=by have:=(cW.1 hu).1;rw[hz] at this;exact this
   have:=ah j hj;rw[Go.Deep.add_add] at this
   rw[this,hu])
  refine ⟨some a,len,cap,(dm len).map f,rfl,(fun h=>by cases h),hl,⟨by simp,fun h0'=>?_⟩,(dm len).map D,_,.inl (by rw[hx]),by simp,fun i d y hd hy=>?_⟩
  .obtain ⟨b,ag,ac⟩:=a;have hp:0 < (ea (f 0)).length:=by rw[hz];exact h0
   have ad:=(hf 0 h0').1 0 _ (cV hp);have ab:ac=none:=by simpa[Addr.add] using World.cell?_spot ad
   subst ab;refine ⟨b,ag,rfl,by simpa[Addr.add] using Kdv ad,fun i x hx j u hu=>?_⟩;have aa:i < len:=by have:=(cW.1 hx).1;simpa using this
   have ai:f i=x:=by simpa[aa] using hx
   subst ai;have:=(hf i aa).1 j u hu;rw[add_plain] at this;rw[<-this,Nat.add_assoc]
  .have aa:i < len:=by have:=(cW.1 hd).1;simpa using this
   have h1:D i=d:=by simpa[aa] using hd
   have h2:f i=y:=by simpa[aa] using hy
   rw[<-h1,<-h2];exact (hf i aa).2
end
theorem Kug {H:Type} (d:DataW H):1<=Rows.uptoBulk d:=by
 cases d with
 | lit l=>cases l <;> simp[Rows.uptoBulk]
 | nil=>simp[Rows.uptoBulk]
 | ptr d=>simp[Rows.uptoBulk]
 | slice elems spare=>simp[Rows.uptoBulk]
 | agg parts=>simp[Rows.uptoBulk]
 | iface t d=>simp[Rows.uptoBulk]
 | map entries=>simp[Rows.uptoBulk]
 | held h=>simp[Rows.uptoBulk]
theorem Qaf {H:Type} (l sp:List (DataW H)):Rows.uptoBulkAll l+1<=Rows.uptoBulk (.slice l sp):=by simp only[Rows.uptoBulk];omega
theorem Qfj {H:Type} {l:List (DataW H)} (hk:Rows.uptoSmall H l=true):Rows.uptoBulkAll l<=1048576:=jh hk
theorem Kuh {H α : Type} (mu:α->Nat):∀(ds:List (DataW H)) (ys:List α),ds.length=ys.length->(∀(i:Nat) d y,ds[i]? = some d->ys[i]? = some y->mu y<=Rows.uptoBulk d)->(ys.map mu).sum<=Rows.uptoBulkAll ds
 | [],[],_,_=>by simp
 | d :: ds,y :: ys,hl,h=>by have h1:=h 0 d y rfl rfl;have h2:=Kuh mu ds ys (by simpa using hl) (fun i d' y' hd hy=>h (i+1) d' y' (by simpa using hd) (by simpa using hy));simp only[cU,cZ,Rows.uptoBulkAll];omega
 | [],_ :: _,hl,_=>by simp at hl
 | _ :: _,[],hl,_=>by simp at hl
theorem Kjg {H α : Type} (mu:α->Nat) {d:DataW H} {ds sp:List (DataW H)} {ys:List α} (hd:d = .slice ds sp\/(d = .nil/\ds = [])) (hl:ds.length=ys.length) (h:∀(i:Nat) d y,ds[i]? = some d->ys[i]? = some y->mu y<=Rows.uptoBulk d):(ys.map mu).sum+1<=Rows.uptoBulk d:=by
 have:=Kuh mu ds ys hl h;rcases hd with rfl | ⟨rfl,rfl⟩
 .have:=Qaf ds sp;omega
 .obtain rfl:ys = []:=dd (by simpa using hl.symm);simp[Rows.uptoBulk]
section
variable {H : Type} {enc : TypeId × Value -> H} {w : World} {base : Nat} {spare : Nat -> Bool} {held : Bool}
theorem Kui:prog.cellsOf 9 = 1:=by kernel_rfl
def litT (s:Txt):DataW H:=.lit (.string s)
theorem Kvz {fuel:Nat} {l:List Value} {x:DataW H×List MemPlace} (h:dD enc prog w base spare held fuel 9 l=some x):∃s:Txt,l = [txtV s]/\x.1=litT s:=by obtain ⟨s,rfl,rfl,_⟩:=DataW.trod_string underlying9 h;exact ⟨s.data.toList,rfl,rfl⟩
end
section
variable {H : Type} {enc : TypeId × Value -> H} {w : World} {base : Nat} {spare : Nat -> Bool} {held : Bool}
theorem Krg:prog.cellsOf 99 = 2:=by kernel_rfl
theorem Qgd {fuel:Nat} {l:List Value} {x:DataW H×List MemPlace} (h:dD enc prog w base spare held fuel 99 l=some x):∃y:Lb,l=encLb y/\x.1 = .agg [litT y.n,litT y.v]:=by
 obtain ⟨xs,n,_,hx,ab,aa,hg⟩:=dE underlying99 h;rw[Krg] at ab
 match l,ab,xs,aa with
 | [c0,c1],_,[x0,x1],_=>
  have g0:=hg 0 _ rfl;have g1:=hg 1 _ rfl;simp[Kui] at g0 g1;obtain ⟨a,e0,f0⟩:=Kvz g0;obtain ⟨b,e1,f1⟩:=Kvz g1;simp at e0 e1;subst e0 e1;refine ⟨⟨a,b⟩,rfl,?_⟩;rw[hx];simp[f0,f1]
end
section
variable {H : Type} {enc : TypeId × Value -> H} {w : World} {base : Nat} {spare : Nat -> Bool} {held : Bool}
def Lb.mass (x:Lb):Nat:=x.n.length+x.v.length+3
def massL (l:List Lb):Nat:=(l.map Lb.mass).sum+1
theorem Kru:∀l:List Lb,2*l.length+1<=massL l
 | []=>by simp[massL]
 | x :: l=>by have:=Kru l;simp only[massL,cU,cZ,da,Lb.mass] at *;omega
theorem Qdu {l:List Lb} {x:Lb} (h:x∈l):x.n.length<=massL l/\x.v.length<=massL l:=by
 induction l with
 | nil=>cases h
 | cons y l ih=>
  simp only[massL,cU,cZ,Lb.mass] at *;rcases dg.1 h with rfl | h
  .omega
  .have:=ih h;omega
theorem Qah:prog.cellsOf 54 = 1:=by kernel_rfl
theorem Kvy {fuel:Nat} {v:Value} {x:DataW H×List MemPlace} (h:dD enc prog w base spare held fuel 54 [v]=some x) :
  ∃A n c l,v = .slice A n c/\n<=c/\Elems w w.heap.size 2 encLb A n l/\massL l<=Rows.uptoBulk x.1:=by
 obtain ⟨A,n,c,l,rfl,_,h2,h3,ds,sp,hx,hl,hQ⟩:=Kif (ea:=encLb) (Q:=fun d s=>d = .agg [litT s.n,litT s.v]) underlying54 Krg (by omega) (fun _=>rfl) (fun _ _ _ h=>Qgd h) h;refine ⟨A,n,c,l,rfl,h2,h3,Kjg Lb.mass hx hl fun i d y hd hy=>?_⟩;rw[hQ i d y hd hy];simp[Rows.uptoBulk,Rows.uptoBulkAll,litT,Lb.mass];omega
theorem Qaa {α : Type} (f:α->Nat):∀{l:List α} {x:α},x∈l->f x<=(l.map f).sum
 | y :: l,x,h=>by
  simp only[cU,cZ];rcases dg.1 h with rfl | h
  .omega
  .have:=Qaa f h;omega
end
theorem Kod:prog.cellsOf 2 = 1:=by kernel_rfl
theorem Koe:prog.cellsOf 100 = 1:=by kernel_rfl
theorem Qag:prog.cellsOf 3 = 1:=by kernel_rfl
theorem Kri:prog.cellsOf 102 = 2:=by kernel_rfl
theorem Krj:prog.cellsOf 135 = 6:=by kernel_rfl
theorem Qai:prog.cellsOf 55 = 1:=by kernel_rfl
theorem Qaj:prog.cellsOf 56 = 1:=by kernel_rfl
theorem Krh:prog.cellsOf 58 = 3:=by kernel_rfl
theorem Klu {z:Int} (h:(Lit.int .u64 z).wf=true):∃n:Nat,z=(n:Int)/\n < 2 ^ 64:=by have h1:dG.min=0:=rfl;have h2:dG.max=18446744073709551615:=rfl;simp only[Lit.wf,dc,i8] at h;exact ⟨z.toNat,by omega,by omega⟩
section
variable {H : Type} {enc : TypeId × Value -> H} {w : World} {base : Nat} {spare : Nat -> Bool} {held : Bool}
theorem Qgf {fuel:Nat} {l:List Value} {x:DataW H×List MemPlace} (h:dD enc prog w base spare held fuel 102 l=some x):∃y:Smp,l=Kac y/\(y.v < 2 ^ 64/\1<=Rows.uptoBulk x.1):=by
 obtain ⟨xs,n,_,hx,ab,aa,hg⟩:=dE underlying102 h;rw[Kri] at ab
 match l,ab,xs,aa with
 | [c0,c1],_,[x0,x1],_=>
  have g0:=hg 0 _ rfl;have g1:=hg 1 _ rfl;simp[Kod,Koe] at g0 g1;obtain ⟨a,e0,_,_⟩:=dq underlying2 g0;obtain ⟨b,e1,_,wb⟩:=dq underlying100 g1;simp at e0 e1;subst e0 e1;obtain ⟨v,rfl,hv⟩:=Klu wb;exact ⟨⟨a,v⟩,rfl,hv,Kug _⟩
theorem Qgg {fuel:Nat} {l:List Value} {x:DataW H×List MemPlace} (h:dD enc prog w base spare held fuel 135 l=some x):∃y:Wnd,l=Kad y/\(Kcm y/\1<=Rows.uptoBulk x.1):=by
 obtain ⟨xs,n,_,hx,ab,aa,hg⟩:=dE underlying135 h;rw[Krj] at ab
 match l,ab,xs,aa with
 | [c0,c1,c2,c3,c4,c5],_,[x0,x1,x2,x3,x4,x5],_=>
  have g0:=hg 0 _ rfl;have g1:=hg 1 _ rfl;have g2:=hg 2 _ rfl;have g3:=hg 3 _ rfl;have g4:=hg 4 _ rfl;have g5:=hg 5 _ rfl;simp[Kod,Koe,Qag] at g0 g1 g2 g3 g4 g5;obtain ⟨a,e0,_,_⟩:=dq underlying2 g0;obtain ⟨b,e1,_,_⟩:=dq underlying3 g1;obtain ⟨c,e2,_,wc⟩:=dq underlying100 g2;obtain ⟨d,e3,_,wd⟩:=dq underlying100 g3;obtain ⟨e,e4,_,we⟩:=dq underlying100 g4;obtain ⟨f,e5,_,wf⟩:=dq underlying100 g5;simp at e0 e1 e2 e3 e4 e5;subst e0 e1 e2 e3 e4 e5;obtain ⟨c,rfl,hc⟩:=Klu wc;obtain ⟨d,rfl,hd⟩:=Klu wd;obtain ⟨e,rfl,he⟩:=Klu we;obtain ⟨f,rfl,hf⟩:=Klu wf;exact ⟨⟨a,b,c,d,e,f⟩,rfl,⟨hc,hd,he,hf⟩,Kug _⟩
theorem Knu {α : Type}:∀l:List α,(l.map fun _=>1).sum=l.length
 | []=>rfl
 | x :: l=>by rw[cU,cZ,Knu l,da];omega
theorem Qec {fuel:Nat} {v:Value} {x:DataW H×List MemPlace} (h:dD enc prog w base spare held fuel 55 [v]=some x) :
  ∃A n c l,v = .slice A n c/\n<=c/\Elems w w.heap.size 2 Kac A n l/\(∀y∈l,y.v < 2 ^ 64)/\l.length+1<=Rows.uptoBulk x.1:=by
 obtain ⟨A,n,c,l,rfl,_,h2,h3,ds,sp,hx,hl,hQ⟩:=Kif (ea:=Kac) (Q:=fun d (y:Smp)=>y.v < 2 ^ 64/\1<=Rows.uptoBulk d) underlying55 Kri (by omega) (fun _=>rfl) (fun _ _ _ h=>Qgf h) h;refine ⟨A,n,c,l,rfl,h2,h3,fun y hy=>?_,?_⟩
 .obtain ⟨i,hi,rfl⟩:=cX.1 hy;exact (hQ i (ds[i]'(by omega)) l[i] (cV _) (cV hi)).1
 .have:=Kjg (fun _:Smp=>1) hx hl fun i d y hd hy=>(hQ i d y hd hy).2
  rwa[Knu] at this
theorem Qed {fuel:Nat} {v:Value} {x:DataW H×List MemPlace} (h:dD enc prog w base spare held fuel 56 [v]=some x) :
  ∃A n c l,v = .slice A n c/\n<=c/\Elems w w.heap.size 6 Kad A n l/\(∀y∈l,Kcm y)/\l.length+1<=Rows.uptoBulk x.1:=by
 obtain ⟨A,n,c,l,rfl,_,h2,h3,ds,sp,hx,hl,hQ⟩:=Kif (ea:=Kad) (Q:=fun d (y:Wnd)=>Kcm y/\1<=Rows.uptoBulk d) underlying56 Krj (by omega) (fun _=>rfl) (fun _ _ _ h=>Qgg h) h;refine ⟨A,n,c,l,rfl,h2,h3,fun y hy=>?_,?_⟩
 .obtain ⟨i,hi,rfl⟩:=cX.1 hy;exact (hQ i (ds[i]'(by omega)) l[i] (cV _) (cV hi)).1
 .have:=Kjg (fun _:Wnd=>1) hx hl fun i d y hd hy=>(hQ i d y hd hy).2
  rwa[Knu] at this
def Ser.mass (s:Ser):Nat:=massL s.labels+s.samples.length+s.windows.length+2
structure SerIn (w:World) (y:Hd3) (s:Ser):Prop where
 at_:SerAt w y s
 v:∀x∈s.samples,x.v < 2 ^ 64
 b:∀x∈s.windows,Kcm x
theorem Qge {fuel:Nat} {l:List Value} {x:DataW H×List MemPlace} (h:dD enc prog w base spare held fuel 58 l=some x):∃y:Hd3,l=encH3 y/\∃s,SerIn w y s/\Ser.mass s<=Rows.uptoBulk x.1:=by
 obtain ⟨xs,n,_,hx,ab,aa,hg⟩:=dE underlying58 h;rw[Krh] at ab
 match l,ab,xs,aa with
 | [c0,c1,c2],_,[x0,x1,x2],_=>
  have g0:=hg 0 _ rfl;have g1:=hg 1 _ rfl;have g2:=hg 2 _ rfl;simp[Qah,Qai,Qaj] at g0 g1 g2;obtain ⟨A0,n0,k0,l0,rfl,a1,a2,a3⟩:=Kvy g0;obtain ⟨A1,n1,k1,l1,rfl,b1,b2,b3,b4⟩:=Qec g1;obtain ⟨A2,n2,k2,l2,rfl,d1,d2,d3,d4⟩:=Qed g2;refine ⟨⟨⟨A0,n0,k0⟩,⟨A1,n1,k1⟩,⟨A2,n2,k2⟩⟩,rfl,⟨l0,l1,l2⟩,⟨⟨a2,a1,b2,b1,d2,d1⟩,b3,d3⟩,?_⟩;rw[hx];simp only[cU,di,Rows.uptoBulk,Rows.uptoBulkAll,Ser.mass];omega
theorem Kow:∀l:List Lb,3*l.length+1<=massL l
 | []=>by simp[massL]
 | x :: l=>by have:=Kow l;simp only[massL,cU,cZ,da,Lb.mass] at *;omega
theorem Krv:∀L:List Ser,smpsN L+wndsN L+L.length+3*labsN L<=(L.map Ser.mass).sum
 | []=>by simp[smpsN,wndsN,labsN]
 | s :: L=>by have:=Krv L;have:=Kow s.labels;simp only[smpsN,wndsN,labsN,cU,cZ,da,Ser.mass] at *;omega
end
end
section
open Go.RowKit
attribute [local go_sem ↓] Go.wp_at_zero Go.wp_at_succ
attribute [local go_sem] Later.cell
structure CSz (c:Cont):Prop where
 n:c.series.length<=1048576
 m:smpsN c.series+wndsN c.series<=1048576
 k:labsN c.series<=349525
 z:∀s∈c.series,SerSz s
structure Built (c:Cont) (S0 S1 S2:ByteArray):Prop where
 f:filOf S0 S1 S2=Kdn c
 z0:S0.size<=200000000
 z1:S1.size<=200000000
 z2:S2.size<=200000000
theorem Kuf (c:Cont) (A:Option Addr) (n k:Nat) (w:World) (hS:Kcg w A n c.series) (hc:CSz c) (hE:BEnv w) :
  Calls prog 19 #[.agg #[.int .i64 c.res,.int .i64 c.frm,.int .i64 c.to_,.slice A n k]] w fun e w'=>(∃S0 S1 S2,e = .returned (.tuple #[.agg #[.string S0,.string S1,.string S2],.int .i64 (if fitB c=true then 0 else 190)])/\Built c S0 S1 S2)/\Below w.heap.size w w':=by
 have aa:=fun hf=>Kwn (c:=c) hf hc.n hc.m hc.k
 refine (Qcr c ⟨A,n,k⟩ w hS hE (fun hf=>?_)).mono ?_
 .have h1:=aa hf;have h2:(Kfg c).ck=sealT (Kdc c):=rfl;have h3:(Kfg c).ix=sealT (Kcp c):=rfl;rw[h2,h3,Ksf,Ksf] at h1;omega
 .rintro e w' ⟨rfl,hb⟩
  have h1:(Kdn c).mt.length<=200000000/\(Kdn c).ck.length<=200000000/\(Kdn c).ix.length<=200000000:=by
   unfold Kdn
   by_cases hf:fitB c=true
   .rw[jf hf];exact aa hf
   .rw[je hf];exact ⟨by decide,by decide,by decide⟩
  refine ⟨⟨⟨(Kdn c).mt.toArray⟩,⟨(Kdn c).ck.toArray⟩,⟨(Kdn c).ix.toArray⟩,rfl,⟨rfl,?_,?_,?_⟩⟩,hb⟩
  .exact h1.1
  .exact h1.2.1
  .exact h1.2.2
end
section
open Go.Shelf Go.RowKit Go.Lib Go.Sort
attribute [local go_sem ↓] Go.wp_at_zero Go.wp_at_succ
attribute [local go_sem] Later.cell
section
instance contInC:Inhabited Cont:=⟨⟨0,0,0,[]⟩⟩
structure CH where
 r:Int
 f:Int
 t:Int
 h:Hd
def encCH (x:CH):List Value:=[.int .i64 x.r,.int .i64 x.f,.int .i64 x.t,.slice x.h.A x.h.n x.h.c]
structure Kbz (w:World) (A:Option Addr) (n:Nat) (xs:List CH) (cs:List Cont):Prop where
 e:Elems w w.heap.size 4 encCH A n xs
 l:cs.length=n
 k:∀(i:Nat) (x:CH),xs[i]? = some x->cs[i]!.res=x.r/\cs[i]!.frm=x.f/\cs[i]!.to_=x.t/\Kcg w x.h.A x.h.n cs[i]!.series/\x.h.n<=x.h.c
 z:∀c∈cs,CSz c
 n:n<=1048576
theorem Kbz.below {w w':World} {A:Option Addr} {n:Nat} {xs:List CH} {cs:List Cont} (h:Kbz w A n xs cs) (hb:Below w.heap.size w w'):Kbz w' A n xs cs:=
 ⟨(h.e.below hb).more hb.size,h.l,fun i x hi=>⟨(h.k i x hi).1,(h.k i x hi).2.1,(h.k i x hi).2.2.1,(h.k i x hi).2.2.2.1.below hb,(h.k i x hi).2.2.2.2⟩,h.z,h.n⟩
def outC:List Cont->Int×Int×Int
 | []=>(0,0,0)
 | c :: l=>(c.res,l.foldl (fun a x=>min a x.frm) c.frm,l.foldl (fun a x=>max a x.to_) c.to_)
theorem Qef (l:List Cont) (c:Cont) (h:l≠[]):outC (l ++ [c])=((outC l).1,min (outC l).2.1 c.frm,max (outC l).2.2 c.to_):=by
 cases l with
 | nil=>exact jl rfl h
 | cons x l=>simp[outC,List.foldl_append]
def okAll (cs:List Cont):Bool:=cs.all fun c=>fitB c && decide (c.res=(outC cs).1)
def okFor (r:Int) (cs:List Cont):Bool:=cs.all fun c=>fitB c && decide (c.res=r)
end
end
section
open Go.Shelf Go.RowKit Go.Lib Go.Sort
section
theorem Elems.setOff {α : Type} {w:World} {B sz:Nat} {enc:α->List Value} {A:Option Addr} {n g:Nat} {xs:List α} {t:TypeId} {cs:Array Value} (hE:Elems w B sz enc A n xs) (hb:Blk w g t cs)
  (hno:∀(x:α) (off:Nat),∃(j:Nat) (v:Value),(enc x)[j]? = some v/\cs[off+j]?≠some v) (i:Nat) (u:Value):Elems (w.setCell ⟨g,i,none⟩ u) B sz enc A n xs:=
 ⟨hE.1,fun hn=>by
  obtain ⟨b,off,e,aa,hc⟩:=hE.2 hn;obtain ⟨x,hx⟩:∃x,xs[0]? = some x:=⟨xs[0]'(by rw[hE.1];exact hn),cV _⟩;obtain ⟨j,v,hj,hv⟩:=hno x off
  have ab:b≠g:=by rintro rfl;have h0:=hc 0 x hx j v hj;rw[hb.cell] at h0;exact hv (by simpa using h0)
  exact ⟨b,off,e,aa,fun i' x hx j v hv=>(World.cell?_of_block (w:=w) (Below.heap_setCell w _ u b ab)).trans (hc i' x hx j v hv)⟩⟩
theorem Sers.setBox {w:World} {A:Option Addr} {n g:Nat} {L:List Ser} {t:TypeId} {a b c:Int} {Z:Option Addr} {k d:Nat} (h:Sers w A n L) (hb:Blk w g t #[.int .i64 a,.int .i64 b,.int .i64 c,.slice Z k d]) (i:Nat) (u:Value) :
  Sers (w.setCell ⟨g,i,none⟩ u) A n L:=by
 have aa:(w.setCell ⟨g,i,none⟩ u).heap.size=w.heap.size:=by simp[World.setCell]
 obtain ⟨hs,h1,h2,h3⟩:=h;refine ⟨hs,?_,h2,fun j x hx=>?_⟩
 .rw[aa];refine h1.setOff hb (fun x off=>?_) i u;rcases off with _ | _ | _ | _ | off
  .exact ⟨0,_,rfl,by simp⟩
  .exact ⟨0,_,rfl,by simp⟩
  .exact ⟨0,_,rfl,by simp⟩
  .exact ⟨1,_,rfl,by simp⟩
  .exact ⟨0,_,rfl,by simp⟩
 .have hS:=h3 j x hx;refine ⟨?_,hS.lc,?_,hS.sc,?_,hS.wc⟩
  .rw[aa];refine hS.l.setOff hb (fun x off=>⟨0,_,rfl,?_⟩) i u;rcases off with _ | _ | _ | _ | off <;> simp
  .rw[aa];refine hS.s.setOff hb (fun x off=>⟨1,_,rfl,?_⟩) i u;rcases off with _ | _ | _ | _ | off <;> simp
  .rw[aa];refine hS.w.setOff hb (fun x off=>?_) i u;rcases off with _ | _ | _ | _ | off
   .exact ⟨2,_,rfl,by simp⟩
   .exact ⟨2,_,rfl,by simp⟩
   .exact ⟨1,_,rfl,by simp⟩
   .exact ⟨0,_,rfl,by simp⟩
   .exact ⟨0,_,rfl,by simp⟩
theorem Lists.below {w w':World} {A:Option Addr} {n:Nat} {hs:List Hd} {Ls:List (List Ser)} (h:Lists w A n hs Ls) (hb:Below w.heap.size w w'):Lists w' A n hs Ls:=
 ⟨(h.e.below hb).more hb.size,h.l,fun i x hi=>⟨(h.k i x hi).1.below hb,(h.k i x hi).2⟩,h.z⟩
theorem Kbz.lists {w:World} {A:Option Addr} {n:Nat} {xs:List CH} {cs:List Cont} (h:Kbz w A n xs cs) {base c7:Nat} {A7:Option Addr} {t:TypeId} (hR:w.ownsRow base t 1 (.slice A7 n c7) n ((xs.map CH.h).flatMap Kfe)) :
  Lists w A7 n (xs.map CH.h) (cs.map Cont.series):=by
 refine ⟨?_,by rw[dr,h.l],fun i hd hi=>?_,fun L hL s hs=>?_⟩
 .obtain ⟨A1,c1,e1,hE,_⟩:=dI (xs:=xs.map CH.h) (enc:=Kfe) (fun _ _=>rfl) rfl hR (by rw[dr,h.e.len]);injection e1 with e1 _ _;rw[e1];exact hE
 .rw[c6,Option.map_eq_some_iff] at hi;obtain ⟨x,hx,rfl⟩:=hi;obtain ⟨_,_,_,k4,k5⟩:=h.k i x hx;have aa:i < cs.length:=by rw[h.l,<-h.e.len];exact (cW.1 hx).1
  rw[i9 (cs.map Cont.series) i (by simpa using aa),List.getElem_map];rw[i9 cs i aa] at k4;exact ⟨k4.s,k5⟩
 .obtain ⟨c,hc,rfl⟩:=dk.1 hL;exact ((h.z c hc).z s hs).l
end
end
section
theorem Kvv {α : Type} (k:α->Int) (xs:List α):Kbe k xs (onceL k xs):=by have:=Kft k xs [] [] (Kbe.nil k);simpa[onceL] using this
theorem Kbe.sub {α : Type} {k:α->Int} {xs l:List α} (h:Kbe k xs l) {x:α} (hx:x∈l):x∈xs:=List.mem_of_find?_eq_some ((h.mem x).1 hx)
theorem Qdv {l:List Ser} {L:List Lb} {x:Smp} (h:x∈gS l L):∃s∈l,s.labels=L/\x∈s.samples:=by unfold gS at h;obtain ⟨s,hs,hx⟩:=c8.1 h;rw[dx] at hs;exact ⟨s,hs.1,by simpa using hs.2,hx⟩
theorem Qdw {l:List Ser} {L:List Lb} {x:Wnd} (h:x∈gW l L):∃s∈l,s.labels=L/\x∈s.windows:=by unfold gW at h;obtain ⟨s,hs,hx⟩:=c8.1 h;rw[dx] at hs;exact ⟨s,hs.1,by simpa using hs.2,hx⟩
theorem Kfn (l:List Ser):IsMrg l (Kaf l):=by have:=Kfs l [] [] IsMrg.nil;rw[List.nil_append] at this;exact this
theorem Kcy (x:Ser) (l:List Ser):labsN (x :: l)=x.labels.length+labsN l:=by unfold labsN;simp
theorem Kmt (s:Ser):∀out:List Ser,labsN (Kbg out s)<=labsN out+s.labels.length
 | []=>by simp[Kbg,labsN]
 | y :: l=>by
  have i1:=Kmt s l;unfold Kbg
  split
  .rw[Kcy,Kcy];dsimp only;omega
  .split
   .rw[Kcy];dsimp only;omega
   .rw[Kcy,Kcy];omega
theorem Kkr:∀l out:List Ser,labsN (l.foldl Kcn out)<=labsN out+labsN l
 | [],out=>by simp[labsN]
 | s :: l,out=>by
  have i1:=Kkr l (Kcn out s)
  have i2:labsN (Kcn out s)<=labsN out+s.labels.length:=by
   unfold Kcn
   split
   .exact Kmt s out
   .omega
  rw[List.foldl_cons,Kcy];omega
theorem Kta (l:List Ser):labsN (Kaf l)<=labsN l:=by have:=Kkr l [];unfold Kaf;simpa[labsN] using this
structure SubS (l out:List Ser):Prop where
 lab:∀s∈out,∃x∈l,x.labels=s.labels
 smp:∀s∈out,∀y∈s.samples,∃x∈l,y∈x.samples
 wnd:∀s∈out,∀y∈s.windows,∃x∈l,y∈x.windows
 n:out.length<=l.length
 m:sumS out<=sumS l
 k:labsN out<=labsN l
theorem SubS.trans {a b c:List Ser} (h:SubS a b) (g:SubS b c):SubS a c:=
 ⟨fun s hs=>by obtain ⟨x,hx,e⟩:=g.lab s hs;obtain ⟨y,hy,e2⟩:=h.lab x hx;exact ⟨y,hy,e2.trans e⟩,
  fun s hs y hy=>by obtain ⟨x,hx,e⟩:=g.smp s hs y hy;exact h.smp x hx y e,
  fun s hs y hy=>by obtain ⟨x,hx,e⟩:=g.wnd s hs y hy;exact h.wnd x hx y e,
  dh g.n h.n,dh g.m h.m,dh g.k h.k⟩
theorem Qhz {l out:List Ser} (h:IsMrg l out) {s:Ser} (hs:s∈out):∃x∈l,x.labels=s.labels:=by
 obtain ⟨h1,h2,h3⟩:=(h.mem s).1 hs;rcases (Keh s).1 h1 with q | q
 .rw[h2,Kds] at q;obtain ⟨y,hy⟩:=dp q;obtain ⟨x,hx,e,_⟩:=Qdv hy;exact ⟨x,hx,e⟩
 .rw[h3,Kds] at q;obtain ⟨y,hy⟩:=dp q;obtain ⟨x,hx,e,_⟩:=Qdw hy;exact ⟨x,hx,e⟩
theorem Qia {l out:List Ser} (h:IsMrg l out) {s:Ser} (hs:s∈out) {y:Smp} (hy:y∈s.samples):∃x∈l,x.labels=s.labels/\y∈x.samples:=by obtain ⟨_,h2,_⟩:=(h.mem s).1 hs;rw[h2] at hy;exact Qdv ((Kvv Smp.t _).sub hy)
theorem Qib {l out:List Ser} (h:IsMrg l out) {s:Ser} (hs:s∈out) {y:Wnd} (hy:y∈s.windows):∃x∈l,x.labels=s.labels/\y∈x.windows:=by obtain ⟨_,_,h3⟩:=(h.mem s).1 hs;rw[h3] at hy;exact Qdw ((Kvv dM _).sub hy)
theorem Khe (l:List Ser):SubS l (Kaf l):=
 ⟨fun _ hs=>Qhz (Kfn l) hs,fun _ hs _ hy=>by obtain ⟨x,hx,_,e⟩:=Qia (Kfn l) hs hy;exact ⟨x,hx,e⟩,
  fun _ hs _ hy=>by obtain ⟨x,hx,_,e⟩:=Qib (Kfn l) hs hy;exact ⟨x,hx,e⟩,Khd l,Kfd l,Kta l⟩
theorem Kno {fS:Ser->Smp->Bool} {fW:Ser->Wnd->Bool} {l:List Ser} {s:Ser} (h:s∈keptF fS fW l):∃x∈l,s=keepS fS fW x/\Kam s=true:=by unfold keptF at h;rw[dx,dk] at h;obtain ⟨⟨x,hx,e⟩,hg⟩:=h;exact ⟨x,hx,e.symm,hg⟩
theorem Kzp (fS:Ser->Smp->Bool) (fW:Ser->Wnd->Bool):∀l:List Ser,(keptF fS fW l).length<=l.length/\sumS (keptF fS fW l)<=sumS l/\labsN (keptF fS fW l)<=labsN l
 | []=>by simp[keptF,sumS,labsN]
 | x :: l=>by
  obtain ⟨i1,i2,i3⟩:=Kzp fS fW l;have h1:(x.samples.filter (fS x)).length<=x.samples.length:=dy _ _;have h2:(x.windows.filter (fW x)).length<=x.windows.length:=dy _ _
  have e:keptF fS fW (x :: l)=if Kam (keepS fS fW x)=true then keepS fS fW x :: keptF fS fW l else keptF fS fW l:=by unfold keptF;rw[cU,dB]
  rw[e]
  split
  .rw[Kbo,Kbo,Kcy,Kcy];refine ⟨by simp only[da];omega,?_,?_⟩
   .unfold keepS;dsimp only;omega
   .unfold keepS;dsimp only;omega
  .rw[Kbo,Kcy];exact ⟨by simp only[da];omega,by omega,by omega⟩
theorem Kjl (fS:Ser->Smp->Bool) (fW:Ser->Wnd->Bool) (l:List Ser):SubS l (keptF fS fW l):=by
 obtain ⟨h1,h2,h3⟩:=Kzp fS fW l;refine ⟨fun s hs=>?_,fun s hs y hy=>?_,fun s hs y hy=>?_,h1,h2,h3⟩
 .obtain ⟨x,hx,rfl,_⟩:=Kno hs;exact ⟨x,hx,rfl⟩
 .obtain ⟨x,hx,rfl,_⟩:=Kno hs;exact ⟨x,hx,(c9.1 hy).1⟩
 .obtain ⟨x,hx,rfl,_⟩:=Kno hs;exact ⟨x,hx,(c9.1 hy).1⟩
theorem SubS.nil (l:List Ser):SubS l []:=⟨fun s h=>by simp at h,fun s h=>by simp at h,fun s h=>by simp at h,by simp,by simp[sumS],by simp[labsN]⟩
theorem Qeq (r:Int) (ghs:List (Hd4×GoneP)) (l:List Ser):SubS l (Kck r ghs l):=by
 unfold Kck
 split
 .exact Kjl _ _ l
 .exact SubS.nil l
theorem Kjw (l:List Ser):sumS l=smpsN l+wndsN l:=by
 induction l with
 | nil=>rfl
 | cons x l ih=>
  rw[Kbo,ih];unfold smpsN wndsN;simp only[cU,cZ];omega
theorem CSz.of_sub {l out:List Ser} {r f t:Int} (h:SubS l out) (hz:∀s∈l,SerSz s) (hn:l.length<=1048576) (hm:sumS l<=1048576) (hk:labsN l<=349525):CSz ⟨r,f,t,out⟩:=by
 refine ⟨dh h.n hn,?_,dh h.k hk,fun s hs=>?_⟩
 .have:=Kjw out;have:=h.m;dsimp only;omega
 .have h1:s.samples.length+s.windows.length<=sumS out:=Khi hs;have h2:=h.m;obtain ⟨x,hx,e⟩:=h.lab s hs;refine ⟨by omega,by omega,by rw[<-e];exact (hz x hx).l,fun y hy=>?_,fun y hy=>?_,by rw[<-e];exact (hz x hx).z⟩
  .obtain ⟨z,aa,e'⟩:=h.smp s hs y hy;exact (hz z aa).v y e'
  .obtain ⟨z,aa,e'⟩:=h.wnd s hs y hy;exact (hz z aa).b y e'
end
end Go.Proofs.YtdoiekknhnbepaaGreatDoor
