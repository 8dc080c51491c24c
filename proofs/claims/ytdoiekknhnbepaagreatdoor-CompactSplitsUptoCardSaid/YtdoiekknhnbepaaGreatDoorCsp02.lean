/- Merged (what the claim wants of): LabWalksC, Texts, SymWalksA, SymWalksB, SymWalksC, SymWalksE, RLabWalksA, RLabWalksB, Iter, ColWalks, AggPlain, BitPlain. -/
import Derived.Test.YtdoiekknhnbepaaGreatDoorCsp01
import Derived.Laws.AppendOwnNone
import Derived.Lib.RowBridge
import Derived.Shelf.SlIter.Nil
set_option linter.unusedVariables false
set_option linter.unusedSimpArgs false
set_option maxRecDepth 1000000
set_option maxHeartbeats 8000000
namespace Go.Proofs.YtdoiekknhnbepaaGreatDoor
open Go renaming wpQuiet_nil->cS
open List renaming getElem?_eq_getElem->b2,getD_eq_getElem?_getD->b3,getElem?_eq_none->b4,mem_flatMap->b5,getElem?_append_right->b6,pairwise_iff_getElem->b7,getElem?_append_left->b9,pairwise_cons->ca
open _root_.ByteArray renaming toList_eq->cb,data_append->cc,size_append->cf
open Value renaming string->ch
open UInt8 renaming ofNat->cj,toNat_lt->ck
open Op renaming bytesLess->cl
open Lib renaming bsGo->cm,compareBytes->cp
open Go.WideMaps renaming keyOf_string_mk->cq
open Classical renaming byContradiction->ct
open Instr renaming index->cx
open IntWalk renaming i64_in->cy
open Blk renaming new->cF
open Tryz
open List renaming take_succ_eq_append_getElem->bY,length_append->bZ,flatMap_append->cd,length_cons->ce,getElem_mem->cg,take_of_length_le->ci,length_singleton->co,drop_eq_getElem_cons->cr,flatMap_cons->cw,take_append_drop->cz,length_set->cC,drop_of_length_le->cD,length_map->cG,set_append_right->cH,length_mergeSort->cI,lt_asymm->cK,append_assoc->cL,getElem_map->cM,length_take->cN,any_eq_true->cO,nil_append->cP,append_nil->cQ
open Nat renaming le_refl->b8,testBit_lt_two_pow->cE
open Bool renaming not_eq_true->cA,and_eq_true->cB,or_false->cR
open _root_.Array renaming length_toList->cJ
section
open Go.RowKit Go.Sort
open Lib renaming hid -> Jh
open List renaming length_append -> Jd
attribute [local go_sem ↓] Go.wp_at_zero Go.wp_at_succ
attribute [local go_sem] Later.cell
theorem Kkm (x y:Lb) (W:World) :
  Calls prog 130 #[.agg #[.string ⟨x.n.toArray⟩,.string ⟨x.v.toArray⟩],.agg #[.string ⟨y.n.toArray⟩,.string ⟨y.v.toArray⟩]] W fun e w'=>e = .returned (.int .i64 (cp x.n y.n))/\Below W.heap.size W w':=by
 refine (Khc x y W).mono ?_;rintro e w' ⟨he,q,os,rfl⟩;exact ⟨he,below_grown W q os⟩
def Khn (l:List Lb):Prop:=∀i,i+1 < l.length->¬l[i+1]!.n < l[i]!.n
theorem Kbi {w wr:World} {b off n:Nat} {l:List Lb} (hE:Elems w w.heap.size 2 encLb (some ⟨b,off,none⟩) n l) (hn:0 < n) (hB:Below w.heap.size w wr) (i:Nat) (hi:i < l.length) :
  b < w.heap.size/\wr.cell? ⟨b,off+i*2,none⟩=some (.string ⟨l[i]!.n.toArray⟩)/\wr.cell? ⟨b,off+i*2+1,none⟩=some (.string ⟨l[i]!.v.toArray⟩):=by
 have aa:b < w.heap.size:=by obtain ⟨b',ab,e,hb,_⟩:=hE.2 hn;injection e with e;injection e with e _;rw[e];exact hb
 have hc:=Kgq hE hn;refine ⟨aa,?_,?_⟩
 .rw[hB.cell (p:=⟨b,off+i*2,none⟩) aa,hc (i*2) (by omega),Kdj l _ (by omega),show i*2 / 2=i by omega,show i*2 % 2=0 by omega];rfl
 .rw[hB.cell (p:=⟨b,off+i*2+1,none⟩) aa];have:=hc (i*2+1) (by omega);rw[<-Nat.add_assoc] at this;rw[this,Kdj l _ (by omega),show (i*2+1) / 2=i by omega,show (i*2+1) % 2=1 by omega];rfl
theorem Kqj (l:List Lb) (A:Option Addr) (n c:Nat) (w:World) (r:Bool) (hr:r=true↔Khn l) (hE:Elems w w.heap.size 2 encLb A n l) (hn8:n<=8) :
  Calls prog 161 #[.slice A n c,.func (.func 130) #[] #[]] w fun e w'=>e = .returned (.bool r)/\Below w.heap.size w w':=by
 have hl:=hE.len;have HL:=Jh hl;have HR:=Jh hr;clear hl hr;go_enter func161,ntmps161
 go_wp2_with fail
 go_loopg [5] n (fun g s5 wr=>∃m:Int,s5 = .int .i64 m/\m+1<=(g:Int)/\-1<=m/\m < (n:Int)/\Below w.heap.size w wr/\∀j:Nat,m<=(j:Int)->j+1 < l.length->¬l[j+1]!.n < l[j]!.n)
 case atStart=>exact ⟨(n:Int) - 1,rfl,by omega,by omega,by omega,Below.refl _ _,fun j hj hj2=>by have:=HL.out;omega⟩
 case round=>
  obtain ⟨m,rfl,hmg,hm1,hmn,hB,ac⟩:=hrel;have ab:=Jh ac;clear ac
  by_cases hm:0 < m
  .obtain ⟨j,rfl⟩:∃j:Nat,m=(j:Int)+1:=⟨(m - 1).toNat,by omega⟩;have am:j+1 < l.length:=by have:=HL.out;omega
   obtain ⟨b,off,rfl,_,_⟩:=hE.2 (by omega);obtain ⟨hbl,a0,a1⟩:=Kbi hE (by omega) hB (j+1) am;obtain ⟨_,b0,b1⟩:=Kbi hE (by omega) hB j (by omega);obtain ⟨x,hx⟩:∃x,l[j+1]! = x:=⟨_,rfl⟩;obtain ⟨y,hy⟩:∃x,l[j]! = x:=⟨_,rfl⟩;rw[hx] at a0 a1;rw[hy] at b0 b1;obtain ⟨q,hq⟩:=iZ (cp x.n y.n);have aa:∀X:Later wr,Calls prog 130 #[.agg #[.string ⟨x.n.toArray⟩,.string ⟨x.v.toArray⟩],.agg #[.string ⟨y.n.toArray⟩,.string ⟨y.v.toArray⟩]] X.w fun e w'=>e = .returned (.int .i64 q)/\Below X.w.heap.size X.w w':=fun X=>by rw[<-hq];exact Kkm x y X.w
   have aj:(q < 0)↔x.n < y.n:=by rw[<-hq];exact Qiu _ _
   have ai:=Jh aj;have HX:=Jh hx;have HY:=Jh hy;have HC:=Jh aa;have hbr:b < wr.heap.size:=by have:=hB.size;omega
   have em:decide ((0:Int) < (j:Int)+1)=true:=by rw[i8];omega
   clear hx hy hq aj aa hm;obtain ⟨X0,ag⟩:∃N:ByteArray,(⟨x.n.toArray⟩:ByteArray)=N:=⟨_,rfl⟩;obtain ⟨X1,ae⟩:∃N:ByteArray,(⟨x.v.toArray⟩:ByteArray)=N:=⟨_,rfl⟩;obtain ⟨Y0,ad⟩:∃N:ByteArray,(⟨y.n.toArray⟩:ByteArray)=N:=⟨_,rfl⟩;obtain ⟨Y1,af⟩:∃N:ByteArray,(⟨y.v.toArray⟩:ByteArray)=N:=⟨_,rfl⟩;rw[ag] at a0;rw[ae] at a1;rw[ad] at b0;rw[af] at b1;rw[ag,ae,ad,af] at HC;clear ag ae ad af;go_upto_region 4 with fail
   have z1:IntKind.i64.wrap ((j:Int)+1 - 1)=(j:Int):=by rw[show (j:Int)+1 - 1=(j:Int) by omega];exact cy _ (by omega)
   have z2:(0:Int)<=(j:Int)+1:=by omega
   have z3:((j:Int)+1).toNat=j+1:=by omega
   have z4:(j:Int)+1 < (n:Int):=by have:=HL.out;omega
   have z5:(j:Int) < (n:Int):=by omega
   refine Kaa (by kernel_rfl) (by kernel_rfl) ?_
   repeat (go_big_quiet_step (first | (go_at_call 130;exact Kaj _ (HC.out _))))
   refine cS ?_;rintro w3 ⟨⟨_,an⟩,rfl⟩;clear z1 z2 z3 z4 z5;have ah:Below w.heap.size w w3:=then_ hB an
   by_cases hq0:q < 0
   .have ak:r=false:=by
     rw[<-cA];intro h;have:=(HR.out.1 h) j (by omega);rw[HX.out,HY.out] at this;exact this (ai.out.1 hq0)
    subst ak;go_wp2_with fail
    go_ret
    exact ⟨rfl,ah⟩
   .have eq0:decide (q < 0)=false:=by simpa using hq0
    go_wp2_with fail
    go_roundg (gk - 1)
    case measure=>omega
    case rel=>
     refine ⟨(j:Int),by go_num,by omega,by omega,by omega,ah,fun j' h1 h2=>?_⟩
     by_cases e:j'=j
     .subst e;rw[HX.out,HY.out];intro h;exact jl (ai.out.2 h) (by omega)
     .exact ab.out j' (by omega) h2
  .have em:decide ((0:Int) < m)=false:=by simpa using hm
   have al:r=true:=HR.out.2 (fun i hi=>ab.out i (by omega) hi);subst al;go_wp2_with fail
   go_ret
   exact ⟨rfl,hB⟩
def Kcl (l:List Lb):Bool:=decide (Kaw l=0) && decide ((names l).Pairwise (· < ·))
theorem Klg {l:List Lb} (h:(names l).Nodup):Khn l↔(names l).Pairwise (· < ·):=by
 constructor
 .intro hr
  have ad:∀l:List Lb,Khn l->(names l).Nodup->(names l).Pairwise (· < ·):=by
   intro l
   induction l with
   | nil=>intro _ _;exact List.Pairwise.nil
   | cons x l ih=>
    intro hr hn;have ab:=List.nodup_cons.1 hn;have ae:Khn l:=fun i hi=>by have:=hr (i+1) (by simpa using hi);simpa using this
    have aa:=ih ae ab.2;refine ca.2 ⟨?_,aa⟩
    cases l with
    | nil=>intro z hz;simp at hz
    | cons y l=>
     have h0:=hr 0 (by simp)
     have ac:x.n < y.n:=by
      have h1:¬y.n < x.n:=by simpa using h0
      apply ct;intro h2;have:=Kqz h2 h1;exact ab.1 (by simp[this,names])
     intro z hz;rcases List.mem_cons.1 hz with rfl | hz
     .exact ac
     .exact List.lt_trans ac ((ca.1 aa).1 z hz)
  exact ad l hr h
 .intro hp i hi hlt;have h1:i+1 < (names l).length:=by simpa[names] using hi
  have:=b7.1 hp i (i+1) (by omega) h1 (by omega);simp only[names,cM] at this;rw[i9 l (i+1) hi,i9 l i (by omega)] at hlt;exact cK this hlt
theorem Kgv (l:List Lb):Kcl l=true↔Kaw l=0/\Khn l:=by
 unfold Kcl;rw[cB,i8,i8];constructor
 .rintro ⟨h1,h2⟩;exact ⟨h1,(Klg (Kep h1).2.2.2).2 h2⟩
 .rintro ⟨h1,h2⟩;exact ⟨h1,(Klg (Kep h1).2.2.2).1 h2⟩
theorem Kir (l:List Lb) (A:Option Addr) (n c:Nat) (w:World) (r:Bool) (hr:Kcl l=r) (hE:Elems w w.heap.size 2 encLb A n l) (hnc:n<=c) (hnm:n<=140737488351232) (hz:∀x∈l,x.n.length<=140737488351232/\x.v.length<=140737488351232) :
  Calls prog 105 #[.slice A n c] w fun e w'=>e = .returned (.bool r)/\Below w.heap.size w w':=by
 obtain ⟨m,hm⟩:=iZ (Kaw l);have ab:=Kov l A n c w hE hnc hnm hz;rw[hm] at ab;have ad:=Jh ab;have HR:=Jh hr;have HM:=Jh hm;clear ab hr hm hz
 by_cases h0:m=0
 .subst h0;have ae:=Kep HM.out;have aj:n<=8:=by have:=hE.len;omega
  have ac:r=true↔Khn l:=by rw[<-HR.out,Kgv];exact ⟨fun h=>h.2,fun h=>⟨HM.out,h⟩⟩
  have ag:=Jh ac;clear ac ae;go_enter func105,ntmps105
  go_wp2_with fail
  refine ad.out.mono ?_;rintro e w1 ⟨⟨v,rfl⟩,aa⟩;have ah:Elems w1 w1.heap.size 2 encLb A n l:=(hE.below aa).more aa.size;go_wp2_with fail
  refine (Kqj l A n c w1 r ag.out ah aj).mono ?_;rintro e w2 ⟨rfl,af⟩;go_wp2_with fail
  go_ret
  exact ⟨rfl,then_ aa af⟩
 .have ai:r=false:=by
   rw[<-HR.out,<-cA,Kgv];rintro ⟨h,_⟩;exact h0 (by rw[<-HM.out];exact h)
  subst ai;have em:((m:Int) == 0)=false:=by rw[jg];omega
  go_enter func105,ntmps105
  go_wp2_with fail
  refine ad.out.mono ?_;rintro e w1 ⟨⟨v,rfl⟩,aa⟩;go_wp2_with fail
  go_ret
  exact ⟨rfl,aa⟩
theorem Kvh {x:Lb} (h1:fitN x.n=true) (h2:fitV x.v=true):(labT x).length<=118:=by have h3:=Kab x.n.length;have h4:=Kab x.v.length;simp only[fitN,fitV,cB,i8] at h1 h2;simp only[labT,textT,Jd];omega
theorem Kvi {l:List Lb} (h:∀x∈l,fitN x.n=true/\fitV x.v=true):(l.flatMap labT).length<=118*l.length:=by
 induction l with
 | nil=>simp
 | cons x l ih=>
  have h1:=Kvh (h x (by simp)).1 (h x (by simp)).2;have h2:=ih (fun y hy=>h y (by simp[hy]));rw[cw,Jd,ce];omega
theorem Kkt (l:List Lb):(Kaw l≠0/\Kdo l=Kaw l)\/(Kaw l=0/\Kcl l=false/\Kdo l=42)\/(Kaw l=0/\Kcl l=true/\Kdo l=0):=by
 unfold Kdo Kcl
 by_cases h:Kaw l=0
 .by_cases h2:(names l).Pairwise (· < ·)
  .exact .inr (.inr ⟨h,by simp[h,h2],by simp[h,h2]⟩)
  .exact .inr (.inl ⟨h,by simp[h2],by simp[h,h2]⟩)
 .exact .inl ⟨h,by simp[h]⟩
theorem Kut (l:List Lb) (A:Option Addr) (n c:Nat) (w:World) (hE:Elems w w.heap.size 2 encLb A n l) (hnc:n<=c) (hnm:n<=140737488351232) (hz:∀x∈l,x.n.length<=140737488351232/\x.v.length<=140737488351232) :
  Calls prog 114 #[.slice A n c] w fun e w'=>e = .returned (.tuple #[.string ⟨(Kfz l).toArray⟩,.int .i64 (Kdo l)])/\Below w.heap.size w w':=by
 obtain ⟨m,hm⟩:=iZ (Kaw l);have aV:=Kov l A n c w hE hnc hnm hz;rw[hm] at aV;have aT:=Jh aV;have HM:=Jh hm;have HZ:=Jh hz;clear aV hz;rcases Kkt l with ⟨h1,h2⟩ | ⟨h1,h2,h3⟩ | ⟨h1,h2,h3⟩
 .rw[hm] at h1 h2;have ho:Kfz l = []:=by rw[Kfz,h2,je h1]
  rw[ho,h2];have em:((m:Int) != 0)=true:=by simp;omega
  clear hm h2 ho;go_enter func114,ntmps114
  go_wp2_with fail
  refine aT.out.mono ?_;rintro e w1 ⟨⟨v,rfl⟩,ac⟩;go_wp2_with fail
  go_ret2
  exact ⟨rfl,ac⟩
 .have aQ:m=0:=by rw[<-hm];exact h1
  have ho:Kfz l = []:=by rw[Kfz,h3,je (by omega)]
  rw[ho,h3];have HV:=Jh h2;clear hm h1 h2 h3 ho;subst aQ;go_enter func114,ntmps114
  go_wp2_with fail
  refine aT.out.mono ?_;rintro e w1 ⟨⟨v,rfl⟩,ac⟩;have aJ:Elems w1 w1.heap.size 2 encLb A n l:=(hE.below ac).more ac.size;go_wp2_with fail
  refine (Kir l A n c w1 false HV.out aJ hnc hnm HZ.out).mono ?_;rintro e w2 ⟨rfl,af⟩;go_wp2_with fail
  go_ret2
  exact ⟨rfl,then_ ac af⟩
 .have aQ:m=0:=by rw[<-hm];exact h1
  have ho:Kfz l=encL l:=by rw[Kfz,h3,jf rfl]
  obtain ⟨bf,bg,an,_⟩:=Kep h1;have hl:=hE.len;rw[ho,h3];have HV:=Jh h2;have HL:=Jh hl;have ai:=Jh an;have bm:n<=8:=by omega
  have aY:0 < n:=by omega
  clear hm h1 h2 h3 ho an;subst aQ
  have bb:(encL l).length<=1000:=by have h1:=Kab l.length;have h2:=Kvi ai.out;rw[encL,Jd];omega
  obtain ⟨b,bk,rfl,_,_⟩:=hE.2 aY;clear hl bf bg;go_enter func114,ntmps114
  go_wp2_with fail
  refine aT.out.mono ?_;rintro e w1 ⟨⟨v,rfl⟩,ac⟩;have aJ:Elems w1 w1.heap.size 2 encLb (some ⟨b,bk,none⟩) n l:=(hE.below ac).more ac.size;go_wp2_with fail
  refine (Kir l _ n c w1 true HV.out aJ hnc hnm HZ.out).mono ?_;rintro e w2 ⟨rfl,af⟩;have al:=then_ ac af;go_upto_region 7 with fail
  have aa:Bld w.heap.size w2.heap.size [] (w2.alloc (.cells #[.pointer none,.slice none 0 0] 109)):=Bld.new w2 al.size;have a0:Below w.heap.size w (w2.alloc (.cells #[.pointer none,.slice none 0 0] 109)):=al.alloc al.size _;obtain ⟨w3,aD⟩:=iZ (w2.alloc (.cells #[.pointer none,.slice none 0 0] 109));obtain ⟨p,hp⟩:=iZ w2.heap.size;rw[aD] at aa a0 |-;rw[hp] at aa |-;clear aD hp aJ ac af;have a4:=Kab n;have hu:=Kau n (by omega) w3;obtain ⟨U,hU⟩:∃U:ByteArray,(⟨(uintT n).toArray⟩:ByteArray)=U:=⟨_,rfl⟩;have aK:U.data.toList=uintT n:=by rw[<-hU]
  have hUz:U.size<=11:=by rw[<-Kai,aK];exact a4.2
  rw[hU] at hu;have HU:=Jh hu;have bj:=Jh aK;clear hu hU aK a4;go_wp2_with fail
  refine HU.out.mono ?_;rintro e w4 ⟨rfl,am⟩;have ad:=aa.below am;have a3:=then_ a0 am;clear aa HU;go_wp2_with fail
  refine (Kba _ p [] U w4 ad (by simp;omega) a3.size).mono ?_;rintro e w5 ⟨rfl,aw,aF,_⟩;rw[cP,bj.out] at aw;have bp:=a3.trans aF;clear ad aF am;go_upto_block 1 with fail
  go_cut [] (fun wz=>Bld w.heap.size p (encL l) wz/\Below w.heap.size w wz)
  case first=>
   go_wp2_with fail
   go_loopg [29] n (fun g s29 wr=>∃i:Nat,i+g=n/\s29 = .int .i64 (i:Int)/\Bld w.heap.size p (uintT n++(l.take i).flatMap labT) wr/\Below w.heap.size w wr)
   case atStart=>exact ⟨0,by omega,rfl,by simpa using aw,bp⟩
   case round=>
    obtain ⟨i,a6,rfl,aa,hB⟩:=hrel;have a5:=Jh a6;clear a6
    by_cases hi:i < n
    .have ag:i < l.length:=by have:=HL.out;omega
     have el:decide ((i:Int) < (n:Int))=true:=by simp;omega
     have bi:decide (i < n)=true:=by simp;omega
     obtain ⟨hbl,c0,c1⟩:=Kbi hE aY hB i ag;obtain ⟨x,hx⟩:∃x,l[i]! = x:=⟨_,rfl⟩;have a7:x∈l:=by rw[<-hx,i9 l i ag];exact cg ag
     have ay:=ai.out x a7;have hlx:=Kvh ay.1 ay.2;rw[hx] at c0 c1;obtain ⟨N,hN⟩:∃N:ByteArray,(⟨x.n.toArray⟩:ByteArray)=N:=⟨_,rfl⟩;obtain ⟨V,hV⟩:∃N:ByteArray,(⟨x.v.toArray⟩:ByteArray)=N:=⟨_,rfl⟩;rw[hN] at c0;rw[hV] at c1;have aN:N.data.toList=x.n:=by rw[<-hN]
     have aM:V.data.toList=x.v:=by rw[<-hV]
     have hNz:N.size<=1000:=by rw[<-Kai,aN];have:=ay.1;simp only[fitN,cB,i8] at this;omega
     have hVz:V.size<=1000:=by rw[<-Kai,aM];have:=ay.2;simp only[fitV,cB,i8] at this;omega
     have aj:(uintT n++(l.take i).flatMap labT).length+(labT x).length<=1000:=by
      have e1:l.take (i+1)=l.take i ++ [x]:=by rw[bY ag,<-hx,i9 l i ag]
      have h1:=Kab n;have h2:((l.take (i+1)).flatMap labT).length<=118*(l.take (i+1)).length:=Kvi (fun y hy=>ai.out y (List.mem_of_mem_take hy));have h3:(l.take (i+1)).length<=8:=by rw[cN];omega
      rw[e1,cd,Jd] at h2;simp only[cw,List.flatMap_nil,cQ,<-e1] at h2;rw[Jd];omega
     have ab:(uintT n++(l.take i).flatMap labT)++textT x.n++textT x.v=uintT n++(l.take (i+1)).flatMap labT:=by rw[bY ag,<-i9 l i ag,hx,cd];simp[labT]
     obtain ⟨P0,a9⟩:=iZ (uintT n++(l.take i).flatMap labT);rw[a9] at aa aj ab;have aC:(labT x).length=(textT x.n).length+(textT x.v).length:=by simp[labT]
     have aq:=Jh ab;have bl:=Jh aN;have bc:=Jh aM;clear hx hN hV aN aM ab a9 a7 ay;go_upto_region 11 with fail
     have hq:Blk (wr.alloc (.cells #[.string N,.string V] 99)) wr.heap.size 99 #[.string N,.string V]:=cF _ _ _;have aI:Below wr.heap.size wr (wr.alloc (.cells #[.string N,.string V] 99)):=(Below.refl _ _).alloc (b8 _) _;obtain ⟨v1,a1⟩:=iZ (wr.alloc (.cells #[.string N,.string V] 99));obtain ⟨q,aH⟩:=iZ wr.heap.size;rw[a1] at hq aI |-;have ba:=aa.lt;have ar:=aa.below aI;have bh:=then_ hB aI;have hqw:w.heap.size<=q:=by rw[<-aH];exact hB.size
     have hqp:p < q:=by rw[<-aH];exact ba
     rw[aH] at hq |-;clear a1 aH c0 c1 hB aa aI ba;have q0:_=some (ch N):=hq.cell 0;have aP:=hq.lt;have aE:=Kfl N (by omega) v1;have aG:=fun W=>Kfl V (by omega) W
     rw[bl.out] at aE;simp only[bc.out] at aG;obtain ⟨TN,aO⟩:∃T:ByteArray,(⟨(textT x.n).toArray⟩:ByteArray)=T:=⟨_,rfl⟩;obtain ⟨TV,aW⟩:∃T:ByteArray,(⟨(textT x.v).toArray⟩:ByteArray)=T:=⟨_,rfl⟩;rw[aO] at aE;simp only[aW] at aG;have ak:TN.data.toList=textT x.n:=by rw[<-aO]
     have ah:TV.data.toList=textT x.v:=by rw[<-aW]
     have ax:TN.size=(textT x.n).length:=by rw[<-Kai,ak]
     have av:TV.size=(textT x.v).length:=by rw[<-Kai,ah]
     have aZ:TN.size<=1000:=by omega
     have a8:TV.size<=1000:=by omega
     have bn:=Jh aE;have be:=Jh aG;have aX:=Jh ak;have aU:=Jh ah;have aR:=Jh ax;have aL:=Jh av;have ao:=Jh aC;clear aE aG aO aW ak ah ax av aC;go_wp2_with fail
     refine bn.out.mono ?_;rintro e v2 ⟨rfl,af⟩;have aA:=ar.below af;have al:=then_ bh af;have a2:=hq.below af aP;clear ar hq q0;go_wp2_with fail
     refine (Kba _ p P0 TN v2 aA (by have:=aR.out;have:=ao.out;omega) al.size).mono ?_;rintro e v3 ⟨rfl,ap,aD,bq⟩;rw[aX.out] at ap;have aS:=al.trans aD;have bo:Blk v3 q 99 #[.string N,.string V]:=bq.blk a2 (by omega) (by decide);clear aA a2;have q1:_=some (ch V):=bo.cell 1;go_wp2_with fail
     refine (be.out v3).mono ?_;rintro e v4 ⟨rfl,am⟩;have ad:=ap.below am;have az:=then_ aS am;go_wp2_with fail
     refine (Kba _ p (P0++textT x.n) TV v4 ad (by have:=aL.out;have:=ao.out;rw[Jd];omega) az.size).mono ?_;rintro e v5 ⟨rfl,ae,aF,_⟩;rw[aU.out,aq.out] at ae;go_wp2_with fail
     go_roundg (gk - 1)
     case measure=>have:=a5.out;omega
     case rel=>exact ⟨i+1,by have:=a5.out;omega,by go_num,ae,az.trans aF⟩
    .have el:decide ((i:Int) < (n:Int))=false:=by simp;omega
     have bi:decide (i < n)=false:=by simp;omega
     have aB:uintT n++(l.take i).flatMap labT=encL l:=by have:=HL.out;rw[ci (by omega),encL,this]
     rw[aB] at aa;clear aB;go_wp2_with fail
     go_meet
     exact ⟨aa,hB⟩
  case rest=>
   obtain ⟨aa,hB⟩:=hcut;obtain ⟨w6,rfl⟩:=i7 wc;go_wp2_with fail
   refine (Kdx _ p _ w6 aa hB.size).mono ?_;rintro e w7 ⟨rfl,bd⟩;go_wp2_with fail
   go_ret2
   exact ⟨rfl,hB.trans bd⟩
end
section
open Go.RowKit Go.Sort
attribute [local go_sem ↓] Go.wp_at_zero Go.wp_at_succ
attribute [local go_sem] Later.cell
def txtV (s:Txt):Value:=.string ⟨s.toArray⟩
def enc1 (s:Txt):List Value:=[txtV s]
def Strs (w:World) (A:Option Addr) (n:Nat) (l:List Txt):Prop:=Elems w w.heap.size 1 enc1 A n l
section
variable {w w' : World} {A : Option Addr} {n : Nat} {l : List Txt}
theorem Strs.below (h:Strs w A n l) (hb:Below w.heap.size w w'):Strs w' A n l:=(Elems.below h hb).more hb.size
theorem Strs.len (h:Strs w A n l):l.length=n:=Elems.len h
theorem Strs.at_ (h:Strs w A n l) {i:Nat} (hi:i < n):∃b off,A=some ⟨b,off,none⟩/\b < w.heap.size/\w.cell? ⟨b,off+i,none⟩=some (txtV l[i]!):=by
 obtain ⟨b,off,e,hb,hc⟩:=h.2 (by omega);have hl:i < l.length:=by have:=h.len;omega
 refine ⟨b,off,e,hb,?_⟩;have:=hc i l[i]! (by rw[i9 l i hl,b2 hl]) 0 _ rfl;simpa using this
end
theorem Strs.of_own {w:World} {base:Nat} {v:Value} {n:Nat} {l:List Txt} (h:w.ownsRow base 9 1 v n (l.map txtV)) (hn:l.length=n):∃A c,v = .slice A n c/\Strs w A n l/\(∀a,A=some a->base<=a.block)/\n<=c:=by
 obtain ⟨A,c,h1,h2,h3,h4⟩:=Elems.of_own (enc:=enc1) (xs:=l) (fun _ _=>rfl) (by
  clear h hn
  induction l with
  | nil=>rfl
  | cons x l ih=>simp[enc1,ih]) h hn
 exact ⟨A,c,h1,h2,h3,h4⟩
def TabAt (w:World) (v:Value) (t:List Txt):Prop:=
 ∃A n c,((v = .pointer none/\A=none/\n=0/\c=0)\/∃p,v = .pointer (some ⟨p,0,none⟩)/\Blk w p 197 #[.slice A n c])/\Strs w A n t/\n<=c
theorem TabAt.below {w w':World} {v:Value} {t:List Txt} (h:TabAt w v t) (hb:Below w.heap.size w w'):TabAt w' v t:=by
 obtain ⟨A,n,c,h1,h2,h3⟩:=h;refine ⟨A,n,c,?_,h2.below hb,h3⟩;rcases h1 with h1 | ⟨p,h4,h5⟩
 .exact .inl h1
 .exact .inr ⟨p,h4,h5.below hb h5.lt⟩
def OfOut (w:World) (l:List Txt) (e:Ending) (w':World):Prop:=
 ∃p t,e = .returned (.pointer (some ⟨p,0,none⟩))/\TabAt w' (.pointer (some ⟨p,0,none⟩)) t/\IsTab l t/\t.length<=l.length/\Below w.heap.size w w'/\w.heap.size<=p
end
section
open Go.RowKit Go.Sort
open Lib renaming hid -> Jh
attribute [local go_sem ↓] Go.wp_at_zero Go.wp_at_succ
attribute [local go_sem] Later.cell
theorem Kkl (v:Value) (t:List Txt) (w:World) (h:TabAt w v t) :
  ∃A c,Strs w A t.length t/\t.length<=c/\(∀w',Below w.heap.size w w'->Calls prog 111 #[v] w' fun e w''=>e = .returned (.slice A t.length c)/\w'=w'')/\(0 < t.length->∃p,v = .pointer (some ⟨p,0,none⟩)/\Blk w p 197 #[.slice A t.length c]):=by
 obtain ⟨A,n,c,h1,h2,h3⟩:=h;have hl:=h2.len;subst hl;refine ⟨A,c,h2,h3,fun w' hb=>?_,fun h0=>?_⟩
 .rcases h1 with ⟨rfl,rfl,hn,rfl⟩ | ⟨p,rfl,hp⟩
  .rw[hn];clear h2 h3 hn;go_enter func111,ntmps111
   go_wp2_with fail
   go_ret
   exact ⟨rfl,rfl⟩
  .have hc:_=some (Value.slice A t.length c):=(hp.below hb hp.lt).cell 0;obtain ⟨n,hn⟩:=iZ t.length;rw[hn] at hc |-;clear h2 h3 hn hp;go_enter func111,ntmps111
   go_wp2_with fail
   go_ret
   exact ⟨rfl,rfl⟩
 .rcases h1 with ⟨_,_,hn,_⟩ | ⟨p,hp,hb⟩
  .omega
  .exact ⟨p,hp,hb⟩
theorem Qds (v:Value) (t:List Txt) (w:World) (h:TabAt w v t) :
  Calls prog 110 #[v] w fun e w'=>e = .returned (.int .i64 t.length)/\w=w':=by
 obtain ⟨A,c,_,_,aa,_⟩:=Kkl v t w h;have HA:=Jh (aa w (Below.refl _ _));obtain ⟨n,hn⟩:=iZ t.length;rw[hn] at HA |-;clear aa hn h;go_enter func110,ntmps110
 go_wp2_with fail
 refine HA.out.mono ?_;rintro e w' ⟨rfl,rfl⟩;go_wp2_with fail
 go_ret
 exact ⟨rfl,rfl⟩
theorem Kss (t:List Txt) (A:Option Addr) (c:Nat) (s:ByteArray) (w:World) (hs:Strs w A t.length t) (hasc:Asc t) (hn:t.length*16<=140737488351232) :
  Calls prog 169 #[.slice A t.length c,.string s] w fun e w'=>e = .returned (.tuple #[.int .i64 (below t s.data.toList:Nat),.bool (decide (t[below t s.data.toList]? = some s.data.toList))])/\Below w.heap.size w w':=by
 by_cases h0:t.length=0
 .obtain rfl:t = []:=List.eq_nil_of_length_eq_zero h0;refine (Any2.slices_BinarySearch_string_empty Tryz.laysBS A c s w).mono ?_;rintro e w' ⟨rfl,rfl⟩;exact ⟨rfl,Below.refl _ _⟩
 .obtain ⟨b,ae,rfl,_,_⟩:=hs.2 (by omega)
  have aa:=Any2.slices_BinarySearch_string Tryz.laysBS b ae t.length c (fun j=>(⟨t[j]!.toArray⟩:ByteArray)) s w (by omega) (fun j hj=>by
   obtain ⟨b',af,e,_,hc⟩:=hs.at_ hj;injection e with e;injection e with e1 e2;subst e1 e2
   exact hc)
  have ad:∀i,i < t.length->cl (⟨t[i]!.toArray⟩:ByteArray).toList s.toList=decide (t[i]! < s.data.toList):=by intro i _;rw[bytesLess_eq,cb,cb]
  have ac:cm (fun i=>cl (⟨t[i]!.toArray⟩:ByteArray).toList s.toList) t.length 0 t.length=below t s.data.toList:=by
   have h1:=Qfi hasc s.data.toList (fun i=>decide (i < t.length) && cl (⟨t[i]!.toArray⟩:ByteArray).toList s.toList) (fun i hi=>by rw[ad i hi,i9 t i hi];simp[hi]) (fun i hi=>by simp;omega);rw[<-h1]
   have ab:∀f lo hi,hi<=t.length->cm (fun i=>cl (⟨t[i]!.toArray⟩:ByteArray).toList s.toList) f lo hi=cm (fun i=>decide (i < t.length) && cl (⟨t[i]!.toArray⟩:ByteArray).toList s.toList) f lo hi:=by
    intro f
    induction f with
    | zero=>intro lo hi _;rfl
    | succ f ih=>
     intro lo hi hh;unfold cm
     split
     .rename_i hlh
      have hm:(lo+hi) / 2 < t.length:=by omega
      simp only[hm,decide_true,Bool.true_and]
      split
      .exact ih _ _ hh
      .exact ih _ _ (by omega)
     .rfl
   exact ab _ _ _ (b8 _)
  rw[ac] at aa;refine aa.mono ?_;rintro e w' ⟨rfl,q,rfl⟩;refine ⟨?_,⟨rfl,rfl,rfl,b8 _,fun _ _=>rfl⟩⟩
  have hd:decide (below t s.data.toList < t.length/\(⟨t[below t s.data.toList]!.toArray⟩:ByteArray)=s)=decide (t[below t s.data.toList]? = some s.data.toList):=by
   rw[decide_eq_decide];constructor
   .rintro ⟨h1,h2⟩;rw[i9 t _ h1] at h2;rw[b2 h1];have h3:=jk (fun x:ByteArray=>x.data.toList) h2;exact jk some h3
   .intro h;obtain ⟨h1,h2⟩:=List.getElem?_eq_some_iff.1 h;refine ⟨h1,?_⟩;rw[i9 t _ h1,h2]
  rw[hd]
theorem Kle (v:Value) (t:List Txt) (s:ByteArray) (w:World) (n e:Nat) (hr:numR t s.data.toList=(n,e)) (h:TabAt w v t) (hasc:Asc t) (hn:t.length*16<=140737488351232) :
  Calls prog 115 #[v,.string s] w fun en w'=>en = .returned (.tuple #[.int .i64 n,.int .i64 e])/\Below w.heap.size w w':=by
 obtain ⟨A,c,hs,_,aa,_⟩:=Kkl v t w h;have hb:=Kss t A c s w hs hasc hn;have HA:=Jh (aa w (Below.refl _ _));obtain ⟨m,hm⟩:=iZ t.length;obtain ⟨q,hq⟩:=iZ (below t s.data.toList);rw[numR,hq] at hr;rw[hq] at hb
 by_cases hin:t[q]? = some s.data.toList
 .rw[jf hin] at hr;obtain ⟨rfl,rfl⟩:q=n/\0=e:=by simpa using hr
  rw[jd hin,hm] at hb;rw[hm] at HA;have HB:=Jh hb;clear aa hb hr hs hm hin hq h;go_enter func115,ntmps115
  go_wp2_with fail
  refine HA.out.mono ?_;rintro en w' ⟨rfl,rfl⟩;go_wp2_with fail
  refine HB.out.mono ?_;rintro en w1 ⟨rfl,ab⟩;go_wp2_with fail
  go_ret2
  exact ⟨rfl,ab⟩
 .rw[je hin] at hr;obtain ⟨rfl,rfl⟩:0=n/\50=e:=by simpa using hr
  rw[ja hin,hm] at hb;rw[hm] at HA;have HB:=Jh hb;clear aa hb hr hs hm hin hq h;go_enter func115,ntmps115
  go_wp2_with fail
  refine HA.out.mono ?_;rintro en w' ⟨rfl,rfl⟩;go_wp2_with fail
  refine HB.out.mono ?_;rintro en w1 ⟨rfl,ab⟩;go_wp2_with fail
  go_ret2
  exact ⟨rfl,ab⟩
def tabT (t:List Txt):List UInt8:=uintT t.length++t.flatMap textT
theorem Kpq (v:Value) (t:List Txt) (w:World) (h:TabAt w v t) (hn:t.length*16<=140737488351232) (hz:(tabT t).length<=140737488351232) :
  Calls prog 41 #[v] w fun e w'=>e = .returned (.string ⟨(tabT t).toArray⟩)/\Below w.heap.size w w':=by
 obtain ⟨A,c,hs,hc,aj,_⟩:=Kkl v t w h;have ai:=Jh aj;have HZ:=Jh hz;clear aj hz;go_enter func41,ntmps41
 go_upto_region 2 with fail
 have ac:Bld w.heap.size w.heap.size [] (w.alloc (.cells #[.pointer none,.slice none 0 0] 109)):=Bld.new w (b8 _);have ar:Below w.heap.size w (w.alloc (.cells #[.pointer none,.slice none 0 0] 109)):=(Below.refl _ _).alloc (b8 _) _;obtain ⟨w0,aH⟩:=iZ (w.alloc (.cells #[.pointer none,.slice none 0 0] 109));obtain ⟨p,hp⟩:=iZ w.heap.size;rw[aH] at ac ar |-;have al:=Qds v t w0 (h.below ar);have ah:=Jh al;rw[hp] at ac |-;have HP:=Jh hp;clear aH al hp;have hl:=hs.len;obtain ⟨n,az⟩:=iZ t.length;rw[az] at ah hs hc hn;have hu:=Kau n (by omega) w0;have aF:=Kab n;obtain ⟨U,hU⟩:∃U:ByteArray,(⟨(uintT n).toArray⟩:ByteArray)=U:=⟨_,rfl⟩;have aw:U.data.toList=uintT n:=by rw[<-hU]
 have hUz:U.size<=11:=by rw[<-Kai,aw];exact aF.2
 rw[hU] at hu;have HU:=Jh hu;have aK:=Jh aw;have HN:=Jh az;clear hu hU aw aF az hl;go_wp2_with fail
 refine ah.out.mono ?_;rintro e w1 ⟨rfl,rfl⟩;go_wp2_with fail
 refine HU.out.mono ?_;rintro e w1 ⟨rfl,ag⟩;have ab:=ac.below ag;have ak:=then_ ar ag;have aN:p<=w1.heap.size:=by have:=ab.lt;omega
 go_wp2_with fail
 refine (Kba p p [] U w1 ab (by simp;omega) aN).mono ?_;rintro e w2 ⟨rfl,am,aq,_⟩;rw[cP,aK.out] at am;have aI:Below w.heap.size w w2:=by rw[HP.out] at ak |-;exact ak.trans aq
 have ad:=ai.out w2 aI;rw[HN.out] at ad;have aR:=Jh ad;clear ad ac ab aq ag ai;go_wp2_with fail
 refine aR.out.mono ?_;rintro e w3 ⟨rfl,rfl⟩;go_upto_block 0 with fail
 go_cut [] (fun wz=>Bld p p (tabT t) wz/\Below w.heap.size w wz)
 case first=>
  go_wp2_with fail
  go_loopg [14] n (fun g s14 wr=>∃i:Nat,i+g=n/\s14 = .int .i64 (i:Int)/\Bld p p (uintT n++(t.take i).flatMap textT) wr/\Below w.heap.size w wr)
  case atStart=>exact ⟨0,by omega,rfl,by simpa using am,aI⟩
  case round=>
   obtain ⟨i,aB,rfl,ac,hB⟩:=hrel;have aA:=Jh aB;clear aB
   by_cases hi:i < n
   .have aE:i < t.length:=by have:=HN.out;omega
    have el:decide ((i:Int) < (n:Int))=true:=by simp;omega
    have aS:decide (i < n)=true:=by simp;omega
    obtain ⟨b,aC,rfl,aJ,af⟩:=hs.at_ hi;have ax:wr.cell? ⟨b,aC+i,none⟩=some (txtV t[i]!):=(hB.cell (p:=⟨b,aC+i,none⟩) aJ).trans af;obtain ⟨x,hx⟩:∃x,t[i]! = x:=⟨_,rfl⟩;rw[hx] at ax;unfold txtV at ax;obtain ⟨X,hX⟩:∃X:ByteArray,(⟨x.toArray⟩:ByteArray)=X:=⟨_,rfl⟩;rw[hX] at ax;have av:X.data.toList=x:=by rw[<-hX]
    have aa:(uintT n++(t.take i).flatMap textT)++textT x=uintT n++(t.take (i+1)).flatMap textT:=by rw[bY aE,<-i9 t i aE,hx,cd];simp
    have an:(uintT n++(t.take (i+1)).flatMap textT).length<=140737488351232:=by
     have h1:=HZ.out;have h2:t.flatMap textT=(t.take (i+1)).flatMap textT++(t.drop (i+1)).flatMap textT:=by rw[<-cd,cz]
     rw[tabT,HN.out,h2] at h1;simp only[bZ] at h1 |-;omega
    rw[<-aa,bZ] at an;have hxl:x.length<=(textT x).length:=by simp[textT]
    have aP:X.size<=140737488351232:=by rw[<-Kai,av];omega
    have ap:=Kfl X aP wr;rw[av] at ap;obtain ⟨T,hT⟩:∃T:ByteArray,(⟨(textT x).toArray⟩:ByteArray)=T:=⟨_,rfl⟩;have ay:T.data.toList=textT x:=by rw[<-hT]
    have aD:T.size=(textT x).length:=by rw[<-Kai,ay]
    rw[hT] at ap;obtain ⟨P0,aG⟩:=iZ (uintT n++(t.take i).flatMap textT);rw[aG] at ac aa an;have aM:=Jh ap;have aT:=Jh ay;have aL:=Jh aD;have aO:=Jh aa;clear ap ay aD hT aa aG hx hX av af;go_wp2_with fail
    refine aM.out.mono ?_;rintro e v1 ⟨rfl,ag⟩;have ab:=ac.below ag;have ak:=then_ hB ag;go_wp2_with fail
    refine (Kba p p P0 T v1 ab (by have:=aL.out;omega) (by have:=ab.lt;omega)).mono ?_;rintro e v2 ⟨rfl,ae,aq,_⟩;rw[aT.out,aO.out] at ae;go_wp2_with fail
    go_roundg (gk - 1)
    case measure=>have:=aA.out;omega
    case rel=>exact ⟨i+1,by have:=aA.out;omega,by go_num,ae,by rw[HP.out] at ak |-;exact ak.trans aq⟩
   .have el:decide ((i:Int) < (n:Int))=false:=by simp;omega
    have aS:decide (i < n)=false:=by simp;omega
    have ao:uintT n++(t.take i).flatMap textT=tabT t:=by have:=HN.out;rw[ci (by omega),tabT,this]
    rw[ao] at ac;clear ao;go_wp2_with fail
    go_meet
    exact ⟨ac,hB⟩
 case rest=>
  obtain ⟨ac,hB⟩:=hcut;obtain ⟨w6,rfl⟩:=i7 wc;go_wp2_with fail
  refine (Kdx p p _ w6 ac (by have:=ac.lt;omega)).mono ?_;rintro e w7 ⟨rfl,aQ⟩;go_wp2_with fail
  go_ret
  refine ⟨rfl,?_⟩;rw[HP.out] at hB |-;exact hB.trans aQ
def packS (t:List Txt):List Txt->Option (List UInt8)
 | []=>some []
 | x :: r=>if (numR t x).2≠0 then none else (packS t r).map (uintT (numR t x).1 ++ ·)
def texts (l:List Lb):List Txt:=l.flatMap fun x=>[x.n,x.v]
def packR (t:List Txt) (l:List Lb):List UInt8×Nat:=
 if Kdo l≠0 then ([],Kdo l) else match packS t (texts l) with | none=>([],50) | some b=>(uintT l.length++b,0)
theorem Kjo {t:List Txt} {x:Txt} {r:List Txt} {R:Option (List UInt8)} {D:List UInt8} {k:Nat} (h:R=(packS t (x :: r)).map (D ++ ·)) (hk:numR t x=(k,0)):R=(packS t r).map ((D++uintT k) ++ ·):=by rw[h,packS,je (by rw[hk];simp),hk,Option.map_map];congr 1;funext b;simp
theorem Ksc {t:List Txt} {x:Txt} {r:List Txt} {R:Option (List UInt8)} {D:List UInt8} {k e:Nat} (h:R=(packS t (x :: r)).map (D ++ ·)) (hk:numR t x=(k,e)) (he:e≠0):R=none:=by rw[h,packS,jf (by rw[hk];exact he)];rfl
theorem Kvu {t:List Txt} {x:Txt} {k e:Nat} (h:numR t x=(k,e)) (he:e≠0):e=50:=by
 unfold numR at h
 split at h
 .injection h with _ h;omega
 .injection h with _ h;exact h.symm
theorem Koy {t:List Txt} {x:Txt} {k e:Nat} (h:numR t x=(k,e)):k<=t.length:=by
 have:=Knd t x;unfold numR at h
 split at h <;> injection h with h1 h2 <;> omega
theorem Kjy (x:Lb) (l:List Lb):texts (x :: l)=x.n :: x.v :: texts l:=rfl
theorem Qiq (a b:Value) (w:World):(cx 202 (.agg #[a,b]) (.int .i64 0)).run prog w = .ok a w:=by kernel_rfl
theorem Qir (a b:Value) (w:World):(cx 202 (.agg #[a,b]) (.int .i64 1)).run prog w = .ok b w:=by kernel_rfl
theorem Qbm (v:Value) (t:List Txt) (l:List Lb) (A:Option Addr) (n c:Nat) (w:World) (s:Txt) (er:Nat) (hr:packR t l=(s,er)) (h:TabAt w v t) (hasc:Asc t) (ht:t.length*16<=140737488351232) (hE:Elems w w.heap.size 2 encLb A n l) (hnc:n<=c) (hnm:n<=140737488351232) (hz:∀x∈l,x.n.length<=140737488351232/\x.v.length<=140737488351232) :
  Calls prog 43 #[v,.slice A n c] w fun e w'=>e = .returned (.tuple #[.string ⟨s.toArray⟩,.int .i64 er])/\Below w.heap.size w w':=by
 have ab:=Kut l A n c w hE hnc hnm hz;obtain ⟨ee,ak⟩:=iZ (Kdo l);rw[ak] at ab;rw[packR,ak] at hr;obtain ⟨EO,aR⟩:∃S:ByteArray,(⟨(Kfz l).toArray⟩:ByteArray)=S:=⟨_,rfl⟩;rw[aR] at ab;have af:=Jh ab;clear ab aR hz
 by_cases h0:ee=0
 .subst h0
  have aY:Kaw l=0:=by
   rcases Kkt l with ⟨h1,h2⟩ | ⟨h1,_⟩ | ⟨h1,_⟩
   .rw[h2] at ak;exact ak
   .exact h1
   .exact h1
  obtain ⟨a6,a9,al,_⟩:=Kep aY;have hl:=hE.len;obtain ⟨b,off,rfl,_,_⟩:=hE.2 (by omega);obtain ⟨R,hR⟩:=iZ (packS t (texts l));rw[je (by simp),hR,hl] at hr;have HR:=Jh hr;have bj:=Jh hR;have HL:=Jh hl;have a7:=Jh al;have bi:n<=8:=by omega
  have a3:0 < n:=by omega
  have hu:=Kau n (by omega);have aS:=Kab n;obtain ⟨U,hU⟩:∃U:ByteArray,(⟨(uintT n).toArray⟩:ByteArray)=U:=⟨_,rfl⟩;have aB:U.data.toList=uintT n:=by rw[<-hU]
  have hUz:U.size<=11:=by rw[<-Kai,aB];exact aS.2
  rw[hU] at hu;have HU:=Jh hu;have be:=Jh aB;clear hr hR hl al aY ak hu hU aB aS a6 a9;go_enter func43,ntmps43
  go_wp2_with fail
  refine af.out.mono ?_;rintro e w1 ⟨rfl,az⟩;go_wp2_with fail
  refine (HU.out w1).mono ?_;rintro e w2 ⟨rfl,ay⟩;have ba:=then_ az ay;clear af HU az ay;go_upto_block 0 with fail
  go_cut [8] (fun s8 wz=>∃S:ByteArray,s8 = .string S/\R=some (S.data.toList.drop (uintT n).length)/\S.data.toList=uintT n++S.data.toList.drop (uintT n).length/\Below w.heap.size w wz)
  case first=>
   go_wp2_with fail
   go_loopg [8,29] n (fun g s8 s29 wr=>∃(i:Nat) (S:ByteArray) (D:List UInt8),i+g=n/\s29 = .int .i64 (i:Int)/\s8 = .string S/\S.data.toList=uintT n++D/\S.size<=11+22*i/\R=(packS t (texts (l.drop i))).map (D ++ ·)/\Below w.heap.size w wr)
   case atStart=>exact ⟨0,U,[],by omega,rfl,rfl,by rw[be.out];simp,by omega,by rw[List.drop_zero,bj.out];simp,ba⟩
   case round=>
    obtain ⟨i,S,D,aX,rfl,rfl,a0,hSz,aU,hB⟩:=hrel;have aW:=Jh aX;have aL:=Jh a0;have aA:=Jh aU;clear aX a0 aU
    by_cases hi:i < n
    .have aE:i < l.length:=by have:=HL.out;omega
     have el:decide ((i:Int) < (n:Int))=true:=by simp;omega
     have bd:decide (i < n)=true:=by simp;omega
     obtain ⟨hbl,c0,c1⟩:=Kbi hE a3 hB i aE;obtain ⟨x,hx⟩:∃x,l[i]! = x:=⟨_,rfl⟩;rw[hx] at c0 c1;obtain ⟨N,hN⟩:∃N:ByteArray,(⟨x.n.toArray⟩:ByteArray)=N:=⟨_,rfl⟩;obtain ⟨V,hV⟩:∃N:ByteArray,(⟨x.v.toArray⟩:ByteArray)=N:=⟨_,rfl⟩;rw[hN] at c0;rw[hV] at c1;have aQ:N.data.toList=x.n:=by rw[<-hN]
     have aO:V.data.toList=x.v:=by rw[<-hV]
     have aT:l.drop i=x :: l.drop (i+1):=by rw[cr aE,<-hx,i9 l i aE]
     have aF:=aA.out;rw[aT,Kjy] at aF;obtain ⟨k1,e1,ax⟩:∃k e,numR t x.n=(k,e):=⟨_,_,rfl⟩;obtain ⟨k2,e2,aw⟩:∃k e,numR t x.v=(k,e):=⟨_,_,rfl⟩;have hs1:=Koy ax;have hs2:=Koy aw;have bg:=Jh (show numR t N.data.toList=(k1,e1) by rw[aQ,ax]);have a8:=Jh (show numR t V.data.toList=(k2,e2) by rw[aO,aw]);have ac:=Jh ax;have ag:=Jh aw;have ah:=Jh aF;clear hx hN hV aQ aO aT aF ax aw aA;have hix:∀(a b:Value) (w:World),(cx 202 (.agg #[a,b]) (.int .i64 0)).run prog w = .ok a w:=Qiq;have hiy:∀(a b:Value) (w:World),(cx 202 (.agg #[a,b]) (.int .i64 1)).run prog w = .ok b w:=Qir;go_upto_region 8 with fail
     have aI:Below w.heap.size w (wr.alloc (.cells #[.string N,.string V] 99)):=hB.alloc hB.size _;have hq:Blk (wr.alloc (.cells #[.string N,.string V] 99)) wr.heap.size 99 #[.string N,.string V]:=cF _ _ _;obtain ⟨v1,aN⟩:=iZ (wr.alloc (.cells #[.string N,.string V] 99));obtain ⟨q,aZ⟩:=iZ wr.heap.size;rw[aN] at aI hq |-;rw[aZ] at hq |-;clear aN aZ c0 c1 hB;have q0:_=some (ch N):=hq.cell 0;have q1:_=some (ch V):=hq.cell 1;go_wp2_with fail
     refine wp_loop_rounds 3 ?_;rw[rounds_succ];go_wp2_with fail
     refine (Kle v t N v1 k1 e1 bg.out (h.below aI) hasc ht).mono ?_;rintro e v2 ⟨rfl,ay⟩;have ao:=then_ aI ay
     by_cases he1:e1=0
     .subst he1;have aC:=Kau k1 (by omega) v2;have aq:=Kab k1;obtain ⟨U1,aH⟩:∃U:ByteArray,(⟨(uintT k1).toArray⟩:ByteArray)=U:=⟨_,rfl⟩;have ai:U1.data.toList=uintT k1:=by rw[<-aH]
      have a5:U1.size<=11:=by rw[<-Kai,ai];exact aq.2
      rw[aH] at aC;have a2:=Jh aC;have aG:=Jh ai;clear aC aH ai aq q0 q1 hq;go_wp2_with fail
      refine a2.out.mono ?_;rintro e v3 ⟨rfl,bc⟩;have am:=then_ ao bc;go_wp2_with fail
      rw[rounds_succ];go_wp2_with fail
      refine (Kle v t V v3 k2 e2 a8.out (h.below am) hasc ht).mono ?_;rintro e v4 ⟨rfl,bf⟩;have ar:=then_ am bf
      by_cases he2:e2=0
      .subst he2;have aK:=Kau k2 (by omega) v4;have an:=Kab k2;obtain ⟨U2,aJ⟩:∃U:ByteArray,(⟨(uintT k2).toArray⟩:ByteArray)=U:=⟨_,rfl⟩;have ae:U2.data.toList=uintT k2:=by rw[<-aJ]
       have bh:U2.size<=11:=by rw[<-Kai,ae];exact an.2
       rw[aJ] at aK;have a4:=Jh aK;have aD:=Jh ae;clear aK aJ ae an;go_wp2_with fail
       refine a4.out.mono ?_;rintro e v5 ⟨rfl,bb⟩;have aM:=then_ ar bb;go_wp2_with fail
       rw[rounds_succ];go_wp2_with fail
       go_roundg (gk - 1)
       case measure=>have:=aW.out;omega
       case rel=>
        refine ⟨i+1,_,(D++uintT k1)++uintT k2,by have:=aW.out;omega,by go_num,rfl,?_,?_,Kjo (Kjo ah.out ac.out) ag.out,aM⟩
        .simp only[cc,Array.toList_append,aL.out,aG.out,aD.out,cL]
        .simp only[cf];omega
      .have ee2:((e2:Int) != 0)=true:=by simp;omega
       have ap:=Ksc (Kjo ah.out ac.out) ag.out he2;have aa:=Kvu ag.out he2;obtain ⟨aj,ad⟩:[]=s/\50=er:=by have:=HR.out;rw[ap] at this;simpa using this
       have HE:=Jh (aa.trans ad);subst aj;clear ap aa ad;go_wp2_with fail
       go_ret2
       exact ⟨ret2 rfl (vi (by rw[HE.out])),ar⟩
     .have ee1:((e1:Int) != 0)=true:=by simp;omega
      have ap:=Ksc ah.out ac.out he1;have aa:=Kvu ac.out he1;obtain ⟨aj,ad⟩:[]=s/\50=er:=by have:=HR.out;rw[ap] at this;simpa using this
      have HE:=Jh (aa.trans ad);subst aj;clear ap aa ad q0 q1 hq;go_wp2_with fail
      go_ret2
      exact ⟨ret2 rfl (vi (by rw[HE.out])),ao⟩
    .have el:decide ((i:Int) < (n:Int))=false:=by simp;omega
     have bd:decide (i < n)=false:=by simp;omega
     have av:R=some D:=by rw[aA.out,cD (by have:=HL.out;omega)];simp[texts,packS]
     have HF:=Jh av;clear av;go_wp2_with fail
     go_meet
     refine ⟨S,rfl,?_,?_,hB⟩
     .rw[aL.out,HF.out];simp
     .rw[aL.out];simp
  case rest=>
   obtain ⟨S,rfl,a1,aP,hB⟩:=hcut;have hr:=HR.out;rw[a1] at hr;obtain ⟨aj,ad⟩:uintT n++S.data.toList.drop (uintT n).length=s/\0=er:=by simpa using hr
   have aV:S.data.toList=s:=by rw[<-aj];exact aP
   have HS:=Jh aV;have HE:=Jh ad;clear hr a1 aP aj ad aV;go_wp2_with fail
   go_ret2
   exact ⟨ret2 (jk ch (Qep (by rw[HS.out]))) (vi (by rw[<-HE.out];rfl)),hB⟩
 .rw[jf h0] at hr;obtain ⟨rfl,rfl⟩:[]=s/\ee=er:=by simpa using hr
  have ee0:((ee:Int) != 0)=true:=by simp;omega
  clear hr ak;go_enter func43,ntmps43
  go_wp2_with fail
  refine af.out.mono ?_;rintro e w1 ⟨rfl,az⟩;go_wp2_with fail
  go_ret2
  exact ⟨rfl,az⟩
end
section
open Go.RowKit Go.Sort
attribute [local go_sem ↓] Go.wp_at_zero Go.wp_at_succ
attribute [local go_sem] Later.cell
theorem Knr (x:Txt) (s:ByteArray):cl (⟨x.toArray⟩:ByteArray).toList s.toList=decide (x < s.data.toList):=by rw[bytesLess_eq,cb,cb]
theorem Kjn {w w1:World} {base:Nat} {e:TypeId} {size:Nat} {v:Value} {n:Nat} {xs:List Value} (h:w.ownsRow base e size v n xs) (hb:Below w.heap.size w w1):w1.ownsRow base e size v n xs:=
 h.kept (row:=none) ⟨hb.os,hb.tape,hb.output,hb.size,fun k hk _=>hb.block k hk⟩ (by cases v.ownBlock <;> simp)
end
section
open Go.RowKit Go.Sort
open Lib renaming hid -> Jh
attribute [local go_sem ↓] Go.wp_at_zero Go.wp_at_succ
attribute [local go_sem] Later.cell
theorem Kro:(prog.info? 180).map (fun i=>(i.zero,i.size,i.bytes))=some (some (.agg #[.string ⟨#[]⟩,.string ⟨#[]⟩]),2,32):=by kernel_rfl
def RLabs (B:Nat) (w:World) (v:Value) (ys:List Lb):Prop:=w.ownsRow B 180 2 v ys.length (ys.flatMap encLb)
theorem Qgy {l:List Lb} {k i:Nat} (hki:k < i) (hil:i < l.length) {x:Lb} (h:(l.take k).any (fun y=>y.n == x.n)=false) (hk:(l[k]!.n == x.n)=false):(l.take (k+1)).any (fun y=>y.n == x.n)=false:=by rw[bY (by omega),List.any_append,h];rw[i9 l k (by omega)] at hk;simp only[List.any_cons,hk,List.any_nil,cR]
theorem Kwx {l:List Lb} {k i:Nat} (hki:k < i) (hil:i < l.length) {x:Lb} (hk:(l[k]!.n == x.n)=true):(l.take i).any (fun y=>y.n == x.n)=true:=by rw[cO];refine ⟨l[k]!,?_,hk⟩;rw[i9 l k (by omega)];exact List.mem_take_iff_getElem.2 ⟨k,by omega,rfl⟩
theorem Kgd {B:Nat} {w:World} {g n cap:Nat} {zs:List Lb} (h:RLabs B w (.slice (some ⟨g,0,none⟩) n cap) zs) (hl:zs.length=n) {k:Nat} (hk:k < n) :
  w.cell? ⟨g,k*2,none⟩=some (.string ⟨zs[k]!.n.toArray⟩)/\w.cell? ⟨g,k*2+1,none⟩=some (.string ⟨zs[k]!.v.toArray⟩):=by
 unfold RLabs at h;rw[hl] at h;refine ⟨?_,?_⟩
 .rw[h.cellAt (k*2) (by omega),Kdj zs _ (by omega),show k*2 / 2=k by omega,show k*2 % 2=0 by omega];rfl
 .rw[h.cellAt (k*2+1) (by omega),Kdj zs _ (by omega),show (k*2+1) / 2=k by omega,show (k*2+1) % 2=1 by omega];rfl
theorem Kfu {B:Nat} {w:World} {g n cap:Nat} {zs:List Lb} (h:RLabs B w (.slice (some ⟨g,0,none⟩) n cap) zs) (hl:zs.length=n) (k:Nat):w.frozen? ⟨g,k,none⟩=false:=by unfold RLabs at h;rw[hl] at h;exact h.frozenAt k
theorem Kuw:∀(zs:List Lb) (k:Nat) (x:Lb),k < zs.length->((zs.flatMap encLb).set (k*2) (.string ⟨x.n.toArray⟩)).set (k*2+1) (.string ⟨x.v.toArray⟩)=(zs.set k x).flatMap encLb
 | [],_,_,h=>by simp at h
 | z :: zs,0,x,_=>by simp[encLb]
 | z :: zs,k+1,x,h=>by
  have:=Kuw zs k x (by simpa using h);rw[cw,List.set_cons_succ,cw,<-this];rw[cH _ _ (by simp[encLb];omega),cH _ _ (by simp[encLb];omega)];simp only[encLb,ce,List.length_nil];congr 2
  .congr 1;omega
  .omega
theorem Kwi {B:Nat} {w:World} {g n cap:Nat} {zs:List Lb} (h:RLabs B w (.slice (some ⟨g,0,none⟩) n cap) zs) (hl:zs.length=n) {k:Nat} (hk:k < n) (x:Lb) (hB:B<=g) :
  RLabs B ((w.setCell ⟨g,k*2,none⟩ (.string ⟨x.n.toArray⟩)).setCell ⟨g,k*2+1,none⟩ (.string ⟨x.v.toArray⟩)) (.slice (some ⟨g,0,none⟩) n cap) (zs.set k x)/\
   Below B w ((w.setCell ⟨g,k*2,none⟩ (.string ⟨x.n.toArray⟩)).setCell ⟨g,k*2+1,none⟩ (.string ⟨x.v.toArray⟩))/\
   ∀p,p≠g->∀(e:TypeId) (cs:Array Value),Blk w p e cs->Blk ((w.setCell ⟨g,k*2,none⟩ (.string ⟨x.n.toArray⟩)).setCell ⟨g,k*2+1,none⟩ (.string ⟨x.v.toArray⟩)) p e cs:=by
 unfold RLabs at h |-;rw[hl] at h;obtain ⟨h1,g1⟩:=h.stored (k*2) (.string ⟨x.n.toArray⟩);obtain ⟨h2,g2⟩:=h1.stored (k*2+1) (.string ⟨x.v.toArray⟩);rw[Kuw zs k x (by omega)] at h2;refine ⟨by rw[cC,hl];exact h2,?_,?_⟩
 .refine ⟨g2.os.trans g1.os,g2.tape.trans g1.tape,g2.output.trans g1.output,by have:=g1.size;have:=g2.size;omega,fun q hq=>?_⟩;have aa:q < w.heap.size:=by have:=(h.lt g rfl).2;omega
  rw[g2.block q (by have:=g1.size;omega) (fun e=>by injection e with e;omega),g1.block q aa (fun e=>by injection e with e;omega)]
 .intro q hq e cs hb;exact (hb.far (p:=⟨g,k*2,none⟩) hq _).far (p:=⟨g,k*2+1,none⟩) hq _
theorem Kyt (l:List Lb) (A:Option Addr) (n c:Nat) (w:World) (hE:Elems w w.heap.size 2 encLb A n l) (hnm:n<=140737488351232) (hz:∀x∈l,x.n.length<=140737488351232/\x.v.length<=140737488351232) :
  Calls prog 142 #[.slice A n c] w (Kze w (Kaw l)):=by
 obtain ⟨i0,bB,bX,bG,bE⟩:=info_parts Kro;have hl:=hE.len
 by_cases h0:n=0
 .subst h0;have hm:Kaw l=43:=by rw[Kaw,jf hl]
  rw[hm];clear hm;go_enter func142,ntmps142
  go_wp2_with fail
  go_ret2
  exact ⟨⟨_,rfl⟩,Below.refl _ _⟩
 .have e0:((n:Int) == 0)=false:=by rw[jg];omega
  by_cases h8:8 < n
  .have hm:Kaw l=44:=by rw[Kaw,je (by omega),jf (by omega)]
   rw[hm];have e8:decide ((8:Int) < (n:Int))=true:=by simp;omega
   clear hm;go_enter func142,ntmps142
   go_wp2_with fail
   go_ret2
   exact ⟨⟨_,rfl⟩,Below.refl _ _⟩
  .have e8:decide ((8:Int) < (n:Int))=false:=by simp;omega
   obtain ⟨R,hR⟩:=iZ (Kci [] l);have hm:Kaw l=R:=by rw[Kaw,je (by omega),je (by omega),hR]
   rw[hm];obtain ⟨b,off,rfl,hbl,_⟩:=hE.2 (by omega);have HR:=Jh hR;have HZ:=Jh hz;have aD:=Jh hl;have aG:0 < n:=by omega
   clear hm hR hz hl h0;go_enter func142,ntmps142
   go_wp2_with fail
   clear e0 e8;go_loopg [4,5] n (fun g s4 s5 wr=>∃(i:Nat) (ys:List Lb) (v4:Value),v4=s4/\i+g=n/\s5 = .int .i64 (i:Int)/\ys.length=i/\RLabs w.heap.size wr v4 ys/\Kci (l.take i) (l.drop i)=R/\Below w.heap.size w wr)
   case atStart=>exact ⟨0,[],_,rfl,by omega,rfl,rfl,World.ownsRow_nil _ _ _ _,by simpa using HR.out,Below.refl _ _⟩
   case round=>
    obtain ⟨i,ys,v4,rfl,bo,rfl,bl,aC,aw,hB⟩:=hrel;have bn:=Jh bo;have a6:=Jh aw;have aP:=Jh bl;clear bo aw bl
    by_cases hi:i < n
    .have el:decide ((i:Int) < (n:Int))=true:=by simp;omega
     have bL:decide (i < n)=true:=by simp;omega
     have ai:i < l.length:=by have:=aD.out;omega
     obtain ⟨_,c0,c1⟩:=Kbi hE aG hB i ai;obtain ⟨x,hx⟩:∃x,l[i]! = x:=⟨_,rfl⟩;have aH:l[i]=x:=by rw[<-hx,i9 l i ai]
     have bp:x∈l:=by rw[<-aH];exact cg ai
     have aL:=HZ.out x bp;have aw:=a6.out;rw[cr ai,aH,Kci] at aw;rw[hx] at c0 c1;obtain ⟨N,hN⟩:∃N:ByteArray,(⟨x.n.toArray⟩:ByteArray)=N:=⟨_,rfl⟩;obtain ⟨V,hV⟩:∃N:ByteArray,(⟨x.v.toArray⟩:ByteArray)=N:=⟨_,rfl⟩;rw[hN] at c0;rw[hV] at c1;have aS:N.data.toList=x.n:=by rw[<-hN]
     have aQ:V.data.toList=x.v:=by rw[<-hV]
     have bW:N.size<=140737488351232:=by rw[<-Kai,aS];exact aL.1
     have bT:V.size<=140737488351232:=by rw[<-Kai,aQ];exact aL.2
     have hbr:b < wr.heap.size:=by have:=hB.size;omega
     obtain ⟨rn,aY⟩:=iZ (fitN x.n);obtain ⟨rv,bb⟩:=iZ (fitV x.v);obtain ⟨ra,aX⟩:=iZ ((l.take i).any (fun y=>y.n == x.n));rw[aY,bb,aX] at aw;have bQ:=Jh (show fitN N.data.toList=rn by rw[aS,aY]);have bS:=Jh (show fitV V.data.toList=rv by rw[aQ,bb]);have bv:=Jh aX;have ao:=Jh aw;have HN:=Jh hN;have HV:=Jh hV;have HX:=Jh aH;clear aw hx aH hN hV aS aQ aL bp aY bb aX a6
     have af:ra=false->Kci (l.take (i+1)) (l.drop (i+1))=R\/rn=false\/rv=false:=by
      intro h;have:=ao.out;rw[h] at this;rw[bY ai,HX.out];cases rn <;> cases rv <;> simp at this |-
      exact this
     have al:=Jh af;clear af;go_upto_block 1 with fail
     go_cut [4] (fun s4 wz=>∃(zs:List Lb) (v5:Value),v5=s4/\zs.length=i+1/\Below w.heap.size w wz/\RLabs w.heap.size wz v5 zs/\Kci (l.take (i+1)) (l.drop (i+1))=R)
     case first=>
      go_wp2_with fail
      refine (Kqo N rn bQ.out bW wr).mono ?_;rintro e w2 ⟨rfl,rfl⟩;go_wp2_with fail
      refine (Kpg V rv bS.out bT wr).mono ?_;rintro e w2 ⟨rfl,rfl⟩
      cases rn with
      | false=>
       obtain rfl:40=R:=by have:=ao.out;simpa using this
       go_wp2_with fail
       go_ret2
       exact ⟨⟨_,rfl⟩,hB⟩
      | true=>
       cases rv with
       | false=>
        obtain rfl:41=R:=by have:=ao.out;simpa using this
        go_wp2_with fail
        go_ret2
        exact ⟨⟨_,rfl⟩,hB⟩
       | true=>
        go_upto_block 2 with fail
        go_cut [] (fun wz=>Below w.heap.size w wz/\RLabs w.heap.size wz v4 ys/\ra=false)
        case first=>
         go_wp2_with fail
         go_loopg [8] i (fun g s8 wz=>∃k:Nat,k+g=i/\s8 = .int .i64 (k:Int)/\Below w.heap.size w wz/\RLabs w.heap.size wz v4 ys/\(l.take k).any (fun y=>y.n == x.n)=false)
         case atStart=>exact ⟨0,by omega,rfl,hB,aC,by simp⟩
         case round=>
          obtain ⟨k,a2,rfl,ar,ab,aA⟩:=hrel;have aV:=Jh a2;have ay:=Jh aA;clear a2 aA
          by_cases hk:k < i
          .have ek:decide ((k:Int) < (i:Int))=true:=by simp;omega
           have bm:decide (k < i)=true:=by simp;omega
           obtain ⟨_,d0,_⟩:=Kbi hE aG ar k (by omega);obtain ⟨_,f0,_⟩:=Kbi hE aG ar i ai;rw[i9 l i ai,HX.out,HN.out] at f0;obtain ⟨q,hq⟩:=iZ (l[k]!.n == x.n);obtain ⟨K,hK⟩:∃N:ByteArray,(⟨l[k]!.n.toArray⟩:ByteArray)=N:=⟨_,rfl⟩
           have heq:(K.toList == N.toList)=q:=by rw[<-hK,<-HN.out,cb,cb,<-hq]
           rw[hK] at d0;have HQ:=Jh hq;have hbz:b < wr.heap.size:=by have:=ar.size;omega
           have hkn:(k:Int) < (n:Int):=by omega
           clear hq hK c0 c1;go_upto_region 18 with fail
           refine Kaa (by kernel_rfl) (by kernel_rfl) ?_
           repeat (go_big_quiet_step (fail))
           refine cS ?_;rintro w5 ⟨⟨_,ah⟩,rfl⟩;have ap:=then_ ar ah;have ad:RLabs w.heap.size w5 v4 ys:=Kjn ab ah
           cases q with
           | true=>
            obtain rfl:true=ra:=(Kwx hk ai HQ.out).symm.trans bv.out;obtain rfl:42=R:=by have:=ao.out;simpa using this
            go_wp2_with fail
            go_ret2
            exact ⟨⟨_,rfl⟩,ap⟩
           | false=>
            go_wp2_with fail
            go_roundg (gk - 1)
            case measure=>have:=aV.out;omega
            case rel=>exact ⟨k+1,by have:=aV.out;omega,by go_num,ap,ad,Qgy hk ai ay.out HQ.out⟩
          .have ek:decide ((k:Int) < (i:Int))=false:=by simp;omega
           have bm:decide (k < i)=false:=by simp;omega
           have aZ:k=i:=by have:=aV.out;omega
           have an:ra=false:=by rw[<-bv.out,<-ay.out,aZ]
           have aO:=Jh an;clear aZ an;go_wp2_with fail
           go_meet
           exact ⟨ar,ab,aO.out⟩
        case rest=>
         obtain ⟨az,av,an⟩:=hcut;obtain ⟨w1,rfl⟩:=i7 wc;obtain rfl:=an;have af:Kci (l.take (i+1)) (l.drop (i+1))=R:=by simpa using al.out rfl
         have aq:=Jh af;clear af al;obtain ⟨_,d0,d1⟩:=Kbi hE aG az i ai;rw[i9 l i ai,HX.out,HN.out] at d0;rw[i9 l i ai,HX.out,HV.out] at d1;have hb1:b < w1.heap.size:=by have:=az.size;omega
         have aj:w1.ownsRow w.heap.size 180 2 v4 i (ys.flatMap encLb):=by have:=av;unfold RLabs at this;rw[aP.out] at this;exact this
         clear c0 c1 hB aC av;go_wp2_with (at_builtin;refine wpList_append_own_at _ rfl _ _ 89 rfl w.heap.size 180 i0 (.agg #[.string ⟨#[]⟩,.string ⟨#[]⟩]) 2 32 underlying89 bB bX bG bE rfl (by decide) _ _ _ rfl (aj.alloc _) ⟨w1.heap.size,0,none⟩ 1 1 [.string N,.string V] rfl rfl ?p1 ?p2 ?p3 ?p4 ?p5 ?_)
         case p1=>exact Kao (l:=[.string N,.string V]) (cF w1 _ _)
         case p2=>intro u hu;simp at hu;rcases hu with rfl | rfl <;> rfl
         case p3=>unfold maxLen;omega
         case p4=>omega
         case p5=>have:=az.size;simp;omega
         intro v' w2 hown' hgrow hx9 hat;have bF:Below w.heap.size w w2:=Kig az az.size aj hgrow
         have ak:RLabs w.heap.size w2 v' (ys ++ [x]):=by
          have e1:(ys ++ [x]).flatMap encLb=ys.flatMap encLb ++ [.string N,.string V]:=by rw[cd];simp[encLb,HN.out,HV.out]
          unfold RLabs;rw[e1,bZ,aP.out];exact hown'
         clear hown' hgrow hx9 hat aj;obtain ⟨zs,a5⟩:=iZ (ys ++ [x]);have ax:zs.length=i+1:=by rw[<-a5,bZ,aP.out];rfl
         rw[a5] at ak;have ae:=ak;unfold RLabs at ae;rw[ax] at ae
         obtain ⟨g0,cap,rfl,bg⟩:∃g cap,v' = .slice (some ⟨g,0,none⟩) (i+1) cap/\w.heap.size<=g:=by
          rcases ae.2 with ⟨_,h⟩ | ⟨g,cap,cur,rfl,h,_⟩
          .omega
          .exact ⟨g,cap,rfl,h⟩
         have bz:=Jh ax;clear a5 ax ae;go_wp2_with fail
         go_loopg [9] (i+1) (fun g s9 wz=>∃(k:Nat) (zs:List Lb),s9 = .int .i64 (k:Int)/\k < g/\k<=i/\zs.length=i+1/\Below w.heap.size w wz/\RLabs w.heap.size wz (.slice (some ⟨g0,0,none⟩) ((i+1:Nat)) cap) zs)
         case atStart=>exact ⟨i,zs,by go_num,by omega,by omega,bz.out,bF,ak⟩
         case round=>
          obtain ⟨k,zs,rfl,a2,aZ,ax,ar,ab⟩:=hrel;have am:=Jh ax;clear ax
          by_cases hk:0 < k
          .obtain ⟨j,rfl⟩:∃j,k=j+1:=⟨k - 1,by omega⟩;obtain ⟨a0,a1⟩:=Kgd ab am.out (k:=j+1) (by omega);obtain ⟨b0,b1⟩:=Kgd ab am.out (k:=j) (by omega);obtain ⟨y,hy⟩:∃x,zs[j+1]! = x:=⟨_,rfl⟩;obtain ⟨z,aU⟩:∃x,zs[j]! = x:=⟨_,rfl⟩;rw[hy] at a0 a1;rw[aU] at b0 b1;obtain ⟨Y0,aN⟩:∃N:ByteArray,(⟨y.n.toArray⟩:ByteArray)=N:=⟨_,rfl⟩;obtain ⟨Y1,aR⟩:∃N:ByteArray,(⟨y.v.toArray⟩:ByteArray)=N:=⟨_,rfl⟩;obtain ⟨Z0,aT⟩:∃N:ByteArray,(⟨z.n.toArray⟩:ByteArray)=N:=⟨_,rfl⟩;obtain ⟨Z1,aK⟩:∃N:ByteArray,(⟨z.v.toArray⟩:ByteArray)=N:=⟨_,rfl⟩;rw[aN] at a0;rw[aR] at a1;rw[aT] at b0;rw[aK] at b1;obtain ⟨q,hls⟩:=iZ (cl Y0.toList Z0.toList);have bN:=Jh aN;have bK:=Jh aR;have bj:=Jh aT;have bi:=Jh aK;have hgz:g0 < wr.heap.size:=Kdv a0;have bx:=Jh aU;clear hy aU aN aR aT aK d0 d1;go_upto_region 22 with fail
           have z0:decide ((0:Int) < ((j+1:Nat):Int))=true:=by rw[i8];omega
           have z1:IntKind.i64.wrap (((j+1:Nat):Int) - 1)=(j:Int):=by rw[show ((j+1:Nat):Int) - 1=(j:Int) by omega];exact cy _ (by omega)
           have z2:(0:Int)<=((j+1:Nat):Int):=by omega
           have z3:((j+1:Nat):Int).toNat=j+1:=by omega
           have z4:((j+1:Nat):Int) < ((i+1:Nat):Int):=by omega
           have z5:(j:Int) < ((i+1:Nat):Int):=by omega
           refine Kaa (by kernel_rfl) (by kernel_rfl) ?_
           repeat (go_big_quiet_step (fail))
           refine cS ?_;rintro w5 ⟨⟨_,ah⟩,rfl⟩;have ap:=then_ ar ah;have ad:RLabs w.heap.size w5 _ zs:=Kjn ab ah;have bt:=later ah a0;have bV:=later ah a1;have bJ:=later ah b0;have bM:=later ah b1;clear a0 a1 b0 b1 ab ah
           cases q with
           | false=>
            go_wp2_with fail
            go_meet
            exact ⟨zs,_,rfl,am.out,ap,ad,aq.out⟩
           | true=>
            go_upto_region 25 with fail
            have aJ:Blk (w5.alloc (.cells #[.string Y0,.string Y1] 180)) w5.heap.size 180 #[.string Y0,.string Y1]:=cF _ _ _;have aM:Below w.heap.size w (w5.alloc (.cells #[.string Y0,.string Y1] 180)):=ap.alloc ap.size _;have ac:RLabs w.heap.size (w5.alloc (.cells #[.string Y0,.string Y1] 180)) _ zs:=World.ownsRow.alloc ad _;have aB:w5.heap.size≠g0:=by have:=Kdv bt;simp at this;omega
            obtain ⟨w6,bs⟩:=iZ (w5.alloc (.cells #[.string Y0,.string Y1] 180));obtain ⟨p6,bw⟩:=iZ w5.heap.size;rw[bs] at aJ aM ac |-;rw[bw] at aJ aB |-;clear bs bw bt bV bJ bM ad ap;obtain ⟨bf,bh⟩:=Kgd ac am.out (k:=j) (by omega);obtain ⟨bI,bO⟩:=Kgd ac am.out (k:=j+1) (by omega);rw[bx.out,bj.out] at bf;rw[bx.out,bi.out] at bh;have f0:=Kfu ac am.out ((j+1)*2);have f1:=Kfu ac am.out ((j+1)*2+1);go_upto_region 26 with fail
            obtain ⟨aa,a8,a7⟩:=Kwi ac am.out (k:=j+1) (by omega) z bg;rw[bj.out,bi.out] at aa a8 a7;have aI:=a7 p6 aB _ _ aJ;have a9:=aM.trans a8;obtain ⟨w7,be⟩:=iZ ((w6.setCell ⟨g0,(j+1)*2,none⟩ (.string Z0)).setCell ⟨g0,(j+1)*2+1,none⟩ (.string Z1));rw[be] at aa aI a9 |-;clear be a7 a8 ac aJ aM bI bO bf bh f0 f1;obtain ⟨us,a3⟩:=iZ (zs.set (j+1) z);have bq:us.length=i+1:=by rw[<-a3,cC,am.out]
            rw[a3] at aa;have aF:=Jh bq;clear a3 bq;have q0:_=some (ch Y0):=aI.cell 0;have q1:_=some (ch Y1):=aI.cell 1;obtain ⟨bA,bH⟩:=Kgd aa aF.out (k:=j) (by omega);have f0:=Kfu aa aF.out (j*2);have f1:=Kfu aa aF.out (j*2+1);go_upto_region 23 with fail
            obtain ⟨ag,a4,_⟩:=Kwi aa aF.out (k:=j) (by omega) y bg;rw[bN.out,bK.out] at ag a4;have bd:=a9.trans a4;obtain ⟨w8,bk⟩:=iZ ((w7.setCell ⟨g0,j*2,none⟩ (.string Y0)).setCell ⟨g0,j*2+1,none⟩ (.string Y1));rw[bk] at ag bd |-;obtain ⟨vs,aW⟩:=iZ (us.set j y);have bc:vs.length=i+1:=by rw[<-aW,cC,aF.out]
            rw[aW] at ag;have bP:=Jh bc;clear aW bc bk a4 aa aI a9 q0 q1 bA bH f0 f1;go_wp2_with fail
            go_roundg (gk - 1)
            case measure=>omega
            case rel=>exact ⟨j,vs,by go_num,by omega,by omega,bP.out,bd,ag⟩
          .have ek:decide ((0:Int) < (k:Int))=false:=by simp;omega
           have bm:decide (0 < k)=false:=by simp;omega
           go_upto_region 22 with fail
           refine Kaa (by kernel_rfl) (by kernel_rfl) ?_
           repeat (go_big_quiet_step (fail))
           refine cS ?_;rintro w5 ⟨⟨_,ah⟩,rfl⟩;have ap:=then_ ar ah;have ad:RLabs w.heap.size w5 _ zs:=Kjn ab ah;go_wp2_with fail
           go_meet
           exact ⟨zs,_,rfl,am.out,ap,ad,aq.out⟩
     case rest=>
      obtain ⟨bC,v5,rfl,aE,bD,ae,br⟩:=hcut;have ba:=Jh aE;have bR:=Jh br;clear aE br;go_wp2_with fail
      go_roundg (gk - 1)
      case measure=>have:=bn.out;omega
      case rel=>exact ⟨i+1,bC,_,rfl,by have:=bn.out;omega,by go_num,ba.out,ae,bR.out,bD⟩
    .have bU:R=0:=by
      have:=a6.out;rw[cD (by have:=aD.out;omega),Kci] at this;exact this.symm
     subst bU;have el:decide ((i:Int) < (n:Int))=false:=by simp;omega
     have bL:decide (i < n)=false:=by simp;omega
     go_wp2_with fail
     go_ret2
     exact ⟨⟨_,rfl⟩,hB⟩
theorem Kwm (l:List Lb) (A:Option Addr) (n c:Nat) (w:World) (r:Bool) (hr:Kcl l=r) (hE:Elems w w.heap.size 2 encLb A n l) (hnm:n<=140737488351232) (hz:∀x∈l,x.n.length<=140737488351232/\x.v.length<=140737488351232) :
  Calls prog 70 #[.slice A n c] w fun e w'=>e = .returned (.bool r)/\Below w.heap.size w w':=by
 obtain ⟨m,hm⟩:=iZ (Kaw l);have af:=Kyt l A n c w hE hnm hz;rw[hm] at af;have an:=Jh af;have HR:=Jh hr;have HM:=Jh hm;clear af hr hm hz
 by_cases h0:m=0
 .subst h0;have ak:=Kep HM.out;have hl:=hE.len;have hn8:n<=8:=by omega
  have ah:0 < n:=by omega
  have ag:r=true↔Khn l:=by rw[<-HR.out,Kgv];exact ⟨fun h=>h.2,fun h=>⟨HM.out,h⟩⟩
  have al:r=true->∀i,i+1 < l.length->l[i]!.n < l[i+1]!.n:=by
   intro h i hi;have hp:=(Klg ak.2.2.2).1 (ag.1 h);have h1:i+1 < (names l).length:=by simpa[names] using hi
   have:=b7.1 hp i (i+1) (by omega) h1 (by omega);simp only[names,cM] at this;rw[i9 l (i+1) hi,i9 l i (by omega)];exact this
  have ar:=Jh ag;have ao:=Jh al;have HL:=Jh hl;obtain ⟨b,off,rfl,hbl,_⟩:=hE.2 ah;clear ag ak al hl;go_enter func70,ntmps70
  go_wp2_with fail
  refine an.out.mono ?_;rintro e w1 ⟨⟨v,rfl⟩,ac⟩;go_wp2_with fail
  go_loopg [5] n (fun g s5 wr=>∃i:Nat,s5 = .int .i64 ((i:Int)+1)/\i+1+g=n+1/\Below w.heap.size w wr/\∀j:Nat,j < i->l[j]!.n < l[j+1]!.n)
  case atStart=>exact ⟨0,rfl,by omega,ac,fun j hj=>by omega⟩
  case round=>
   obtain ⟨i,rfl,aj,hB,ab⟩:=hrel;have ai:=Jh aj;have aa:=Jh ab;clear ab aj
   by_cases hi:i+1 < n
   .have el:decide ((i:Int)+1 < (n:Int))=true:=by simp;omega
    have am:i+1 < l.length:=by have:=HL.out;omega
    obtain ⟨_,c0,_⟩:=Kbi hE ah hB (i+1) am;obtain ⟨_,d0,_⟩:=Kbi hE ah hB i (by omega);obtain ⟨x,hx⟩:=iZ (l[i+1]!.n);obtain ⟨y,hy⟩:=iZ (l[i]!.n);rw[hx] at c0;rw[hy] at d0;obtain ⟨X,hX⟩:∃N:ByteArray,(⟨x.toArray⟩:ByteArray)=N:=⟨_,rfl⟩;obtain ⟨Y,hY⟩:∃N:ByteArray,(⟨y.toArray⟩:ByteArray)=N:=⟨_,rfl⟩;obtain ⟨q1,aw⟩:=iZ (cl X.toList Y.toList);obtain ⟨q2,ax⟩:=iZ (X.toList == Y.toList)
    have hq:(q1 || q2)=true↔¬y < x:=by
     have h1:q1=decide (x < y):=by rw[<-aw,<-hX,Knr,<-hY]
     have h2:q2=decide (x=y):=by rw[<-ax,<-hX,<-hY,cb,cb,Bool.eq_iff_iff];simp
     rw[h1,h2,Bool.or_eq_true,i8,i8];constructor
     .rintro (h | rfl)
      .exact cK h
      .exact List.lt_irrefl _
     .intro h
      by_cases h3:x < y
      .exact .inl h3
      .exact .inr (Kqz h3 h)
    rw[hX] at c0;rw[hY] at d0;have HQ:=Jh hq;have HX:=Jh hx;have HY:=Jh hy;have hbr:b < wr.heap.size:=by have:=hB.size;omega
    clear hx hy hX hY hq;go_upto_region 5 with fail
    have z1:IntKind.i64.wrap ((i:Int)+1 - 1)=(i:Int):=by rw[show (i:Int)+1 - 1=(i:Int) by omega];exact cy _ (by omega)
    have z2:(0:Int)<=(i:Int)+1:=by omega
    have z3:((i:Int)+1).toNat=i+1:=by omega
    have z4:(i:Int)+1 < (n:Int):=by omega
    have z5:(i:Int) < (n:Int):=by omega
    refine Kaa (by kernel_rfl) (by kernel_rfl) ?_
    repeat (go_big_quiet_step (fail))
    refine cS ?_;rintro w3 ⟨⟨_,av⟩,rfl⟩;clear z1 z2 z3 z4 z5;have ad:Below w.heap.size w w3:=then_ hB av
    have ae:(q1 || q2)=true->r=false:=by intro h;rw[<-cA];intro hr;have:=ao.out hr i am;rw[HX.out,HY.out] at this;exact HQ.out.1 h this
    cases q1 with
    | true=>
     obtain rfl:=ae rfl
     cases q2 with
     | true=>
      go_wp2_with fail
      go_ret
      exact ⟨rfl,ad⟩
     | false=>
      go_wp2_with fail
      go_ret
      exact ⟨rfl,ad⟩
    | false=>
     cases q2 with
     | true=>
      obtain rfl:=ae rfl;go_wp2_with fail
      go_ret
      exact ⟨rfl,ad⟩
     | false=>
      clear ae;go_wp2_with fail
      go_roundg (gk - 1)
      case measure=>have:=ai.out;omega
      case rel=>
       refine ⟨i+1,by go_num,by have:=ai.out;omega,ad,fun j hj=>?_⟩
       by_cases e:j=i
       .subst e;rw[HX.out,HY.out];apply ct;intro h;exact jl (HQ.out.2 h) (by simp)
       .exact aa.out j (by omega)
   .have el:decide ((i:Int)+1 < (n:Int))=false:=by simp;omega
    have aq:r=true:=ar.out.2 (fun j hj=>cK (aa.out j (by have:=HL.out;omega)));subst aq;go_wp2_with fail
    go_ret
    exact ⟨rfl,hB⟩
 .have ap:r=false:=by
   rw[<-HR.out,<-cA,Kgv];rintro ⟨h,_⟩;exact h0 (by rw[<-HM.out];exact h)
  subst ap;have em:((m:Int) == 0)=false:=by rw[jg];omega
  clear h0;go_enter func70,ntmps70
  go_wp2_with fail
  refine an.out.mono ?_;rintro e w1 ⟨⟨v,rfl⟩,ac⟩;go_wp2_with fail
  go_loopg [5] 1 (fun g s5 wr=>wr=w1/\s5 = .int .i64 1/\g=1)
  case atStart=>exact ⟨rfl,rfl,rfl⟩
  case round=>
   obtain ⟨rfl,rfl,_⟩:=hrel
   by_cases hn:1 < n
   .have el:decide ((1:Int) < (n:Int))=true:=by simp;omega
    go_wp2_with fail
    go_ret
    exact ⟨rfl,ac⟩
   .have el:decide ((1:Int) < (n:Int))=false:=by simp;omega
    go_wp2_with fail
    go_ret
    exact ⟨rfl,ac⟩
end
end Go.Proofs.YtdoiekknhnbepaaGreatDoor
namespace Go.Proofs
open Go.Shelf
def Tryz.keys108_ren:Go.Shelf.Ren:=⟨fun | 7=>108 | 10=>167 | n=>n,fun | 23=>191 | 26=>9 | 3=>3 | 28=>194 | 0=>0 | 27=>193 | 33=>262 | 4=>4 | n=>n,fun | n=>n⟩
theorem Tryz.keys108:Go.Proofs.SlLaysZ.n7 Tryz.prog Tryz.keys108_ren:={
 mixed:=by kernel_rfl
 f7:=⟨Tryz.f108.name,by decide,Tryz.func108.trans (congrArg some (by kernel_rfl))⟩
 f10:=⟨Tryz.f167.name,by decide,Tryz.func167.trans (congrArg some (by kernel_rfl))⟩
 t0:=Tryz.underlying0
 a0:=Tryz.isAgg0
 z0:=Tryz.sizeOf0
 v0:=Tryz.zeroValue0
 t4:=Tryz.underlying4
 a4:=Tryz.isAgg4
 z4:=Tryz.sizeOf4
 v4:=Tryz.zeroValue4
 t23:=Tryz.underlying191
 a23:=Tryz.isAgg191
 z23:=Tryz.sizeOf191
 v23:=Tryz.zeroValue191
 t26:=Tryz.underlying9
 a26:=Tryz.isAgg9
 z26:=Tryz.sizeOf9
 v26:=Tryz.zeroValue9
 t27:=Tryz.underlying193
 a27:=Tryz.isAgg193
 z27:=Tryz.sizeOf193
 v27:=Tryz.zeroValue193
 t28:=Tryz.underlying194
 a28:=Tryz.isAgg194
 z28:=Tryz.sizeOf194
 v28:=Tryz.zeroValue194
 t33:=Tryz.underlying262
 a33:=Tryz.isAgg262
 z33:=Tryz.sizeOf262
 v33:=Tryz.zeroValue262 }
def Tryz.sorted107_ren:Go.Shelf.Ren:=⟨fun | 6=>107 | 8=>165 | 9=>166 | 11=>195 | 13=>174 | 12=>196 | 23=>211 | 24=>212 | 14=>233 | 15=>234 | 16=>235 | 17=>236 | 18=>237 | 19=>238 | 20=>197 | 21=>239 | 22=>240 | 25=>258 | 26=>247 | 27=>248 | 28=>259 | 29=>260 | 30=>241 | 31=>266 | n=>n,fun | 26=>9 | 28=>194 | 24=>118 | 0=>0 | 3=>3 | 37=>200 | 48=>74 | 50=>100 | 4=>4 | 40=>303 | 39=>302 | 45=>265 | 5=>5 | 9=>9 | 51=>337 | 55=>340 | 57=>349 | 58=>350 | 33=>262 | n=>n,fun | n=>n⟩
theorem Tryz.sorted107:Go.Proofs.SlLaysZ.n6 Tryz.prog Tryz.sorted107_ren:={
 mixed:=by kernel_rfl
 f6:=⟨Tryz.f107.name,by decide,Tryz.func107.trans (congrArg some (by kernel_rfl))⟩
 f8:=⟨Tryz.f165.name,by decide,Tryz.func165.trans (congrArg some (by kernel_rfl))⟩
 f11:=⟨Tryz.f195.name,by decide,Tryz.func195.trans (congrArg some (by kernel_rfl))⟩
 t0:=Tryz.underlying0
 a0:=Tryz.isAgg0
 z0:=Tryz.sizeOf0
 v0:=Tryz.zeroValue0
 t24:=Tryz.underlying118
 a24:=Tryz.isAgg118
 z24:=Tryz.sizeOf118
 v24:=Tryz.zeroValue118
 t26:=Tryz.underlying9
 a26:=Tryz.isAgg9
 z26:=Tryz.sizeOf9
 v26:=Tryz.zeroValue9
 t28:=Tryz.underlying194
 a28:=Tryz.isAgg194
 z28:=Tryz.sizeOf194
 v28:=Tryz.zeroValue194
 i26:=by kernel_rfl }
def Tryz.sort166_ren:Go.Shelf.Ren:=⟨fun | 6=>166 | 8=>174 | 9=>196 | 19=>211 | 20=>212 | 21=>233 | 22=>234 | 23=>235 | 24=>236 | 25=>237 | 26=>238 | 27=>197 | 28=>239 | 29=>240 | 36=>258 | 31=>247 | 32=>248 | 37=>259 | 38=>260 | 39=>241 | 41=>266 | n=>n,fun | 27=>118 | 29=>9 | 3=>3 | 32=>200 | 26=>118 | 0=>0 | 44=>74 | 46=>100 | 4=>4 | 36=>303 | 35=>302 | 41=>265 | 5=>5 | 9=>9 | 53=>337 | 57=>340 | 63=>349 | 64=>350 | n=>n,fun | n=>n⟩
theorem Tryz.sort166:Go.Proofs.SlLaysM.n6 Tryz.prog Tryz.sort166_ren:={
 mixed:=by kernel_rfl
 f6:=⟨Tryz.f166.name,by decide,Tryz.func166.trans (congrArg some (by kernel_rfl))⟩
 f8:=Tryz.func174.trans (congrArg some (by kernel_rfl))
 f9:=⟨Tryz.f196.name,by decide,Tryz.func196.trans (congrArg some (by kernel_rfl))⟩
 f19:=Tryz.func211.trans (congrArg some (by kernel_rfl))
 f20:=Tryz.func212.trans (congrArg some (by kernel_rfl))
 f21:=⟨Tryz.f233.name,by decide,Tryz.func233.trans (congrArg some (by kernel_rfl))⟩
 f22:=⟨Tryz.f234.name,by decide,Tryz.func234.trans (congrArg some (by kernel_rfl))⟩
 f23:=⟨Tryz.f235.name,by decide,Tryz.func235.trans (congrArg some (by kernel_rfl))⟩
 f24:=⟨Tryz.f236.name,by decide,Tryz.func236.trans (congrArg some (by kernel_rfl))⟩
 f25:=⟨Tryz.f237.name,by decide,Tryz.func237.trans (congrArg some (by kernel_rfl))⟩
 f26:=⟨Tryz.f238.name,by decide,Tryz.func238.trans (congrArg some (by kernel_rfl))⟩
 f27:=⟨Tryz.f197.name,by decide,Tryz.func197.trans (congrArg some (by kernel_rfl))⟩
 f28:=⟨Tryz.f239.name,by decide,Tryz.func239.trans (congrArg some (by kernel_rfl))⟩
 f29:=⟨Tryz.f240.name,by decide,Tryz.func240.trans (congrArg some (by kernel_rfl))⟩
 f31:=Tryz.func247.trans (congrArg some (by kernel_rfl))
 f32:=Tryz.func248.trans (congrArg some (by kernel_rfl))
 f36:=⟨Tryz.f258.name,by decide,Tryz.func258.trans (congrArg some (by kernel_rfl))⟩
 f37:=⟨Tryz.f259.name,by decide,Tryz.func259.trans (congrArg some (by kernel_rfl))⟩
 f38:=⟨Tryz.f260.name,by decide,Tryz.func260.trans (congrArg some (by kernel_rfl))⟩
 f39:=⟨Tryz.f241.name,by decide,Tryz.func241.trans (congrArg some (by kernel_rfl))⟩
 f41:=⟨Tryz.f266.name,by decide,Tryz.func266.trans (congrArg some (by kernel_rfl))⟩
 t0:=Tryz.underlying0
 a0:=Tryz.isAgg0
 z0:=Tryz.sizeOf0
 v0:=Tryz.zeroValue0
 t3:=Tryz.underlying3
 a3:=Tryz.isAgg3
 z3:=Tryz.sizeOf3
 v3:=Tryz.zeroValue3
 t4:=Tryz.underlying4
 a4:=Tryz.isAgg4
 z4:=Tryz.sizeOf4
 v4:=Tryz.zeroValue4
 t5:=Tryz.underlying5
 a5:=Tryz.isAgg5
 z5:=Tryz.sizeOf5
 v5:=Tryz.zeroValue5
 t9:=Tryz.underlying9
 a9:=Tryz.isAgg9
 z9:=Tryz.sizeOf9
 v9:=Tryz.zeroValue9
 t26:=Tryz.underlying118
 a26:=Tryz.isAgg118
 z26:=Tryz.sizeOf118
 v26:=Tryz.zeroValue118
 t27:=Tryz.underlying118
 a27:=Tryz.isAgg118
 z27:=Tryz.sizeOf118
 v27:=Tryz.zeroValue118
 t29:=Tryz.underlying9
 a29:=Tryz.isAgg9
 z29:=Tryz.sizeOf9
 v29:=Tryz.zeroValue9
 t32:=Tryz.underlying200
 a32:=Tryz.isAgg200
 z32:=Tryz.sizeOf200
 v32:=Tryz.zeroValue200
 t35:=Tryz.underlying302
 a35:=Tryz.isAgg302
 z35:=Tryz.sizeOf302
 v35:=Tryz.zeroValue302
 t36:=Tryz.underlying303
 a36:=Tryz.isAgg303
 z36:=Tryz.sizeOf303
 v36:=Tryz.zeroValue303
 t41:=Tryz.underlying265
 a41:=Tryz.isAgg265
 z41:=Tryz.sizeOf265
 v41:=Tryz.zeroValue265
 t44:=Tryz.underlying74
 a44:=Tryz.isAgg74
 z44:=Tryz.sizeOf74
 v44:=Tryz.zeroValue74
 t46:=Tryz.underlying100
 a46:=Tryz.isAgg100
 z46:=Tryz.sizeOf100
 v46:=Tryz.zeroValue100
 t53:=Tryz.underlying337
 a53:=Tryz.isAgg337
 z53:=Tryz.sizeOf337
 v53:=Tryz.zeroValue337
 t57:=Tryz.underlying340
 a57:=Tryz.isAgg340
 z57:=Tryz.sizeOf340
 v57:=Tryz.zeroValue340
 t63:=Tryz.underlying349
 a63:=Tryz.isAgg349
 z63:=Tryz.sizeOf349
 v63:=Tryz.zeroValue349
 t64:=Tryz.underlying350
 a64:=Tryz.isAgg350
 z64:=Tryz.sizeOf350
 v64:=Tryz.zeroValue350 }
open Go.RowKit Go.Maps Go.Sort Go.Shelf
theorem Tryz.sorts107 (m:Nat):AnyZ.SortsIn Tryz.prog Tryz.sorted107_ren Fence.wide m:=
 ⟨fun blk off cap ss W hH hblk hsz=>callsIn_wide.2 (AnyM.slices_Sort_string Tryz.sort166 blk off cap ss W hH hblk hsz),
  fun p cap W=>callsIn_wide.2 (AnyM.slices_Sort_string_none Tryz.sort166 p cap W)⟩
theorem Tryz.maps_Keys_108 (mb:Option Nat) (W:World):CallsIn Fence.wide 5 Tryz.prog 108 #[.map mb] W fun e w'=>e = .returned (.func (.func 167) #[] #[.pointer (some ⟨W.heap.size,0,none⟩)])/\w'=W.alloc (.cells #[.map mb] 191):=
 AnyZ.keys_in Tryz.keys108 Fence.wide 5 trivial rfl mb W
theorem Tryz.slices_Sorted_keys_107_108 {H:Type} (b nn:Nat) (D0:DataW H) (R:Value->Option (DataW H×List MemPlace)) (w:World) (hown:w.ownsMap Tryz.prog 9 R b nn D0) (hmax:Maps.size D0<=maxLen) (hbytes:Maps.size D0*16<=140737488355328) :
  CallsIn Fence.wide 5 Tryz.prog 107 #[.func (.func 167) #[] #[.pointer (some ⟨w.heap.size,0,none⟩)]] (w.alloc (.cells #[.map (some b)] 191)) fun e w'=>∃(v:Value) (ss:List (List UInt8)),e = .returned v/\ss.Perm (strKeys D0)/\
   w'.ownsRow (w.alloc (.cells #[.map (some b)] 191)).heap.size 9 1 v ss.length ((ss.mergeSort (fun x y=>decide (x<=y))).map encStr)/\(v = .slice none 0 0↔ss = [])/\Below (w.alloc (.cells #[.map (some b)] 191)).heap.size (w.alloc (.cells #[.map (some b)] 191)) w':=by
 have ac:=hown.lt
 have ab:SeqGives Fence.wide 2 Tryz.prog 167 #[.pointer (some ⟨w.heap.size,0,none⟩)] encStr (fun ss=>ss.Perm (strKeys D0)) (Maps.size D0) (w.alloc (.cells #[.map (some b)] 191)):=
  AnyZ.keys_gives (ρ:=Tryz.keys108_ren) { Tryz.keys108 with } Fence.wide _ trivial rfl (by omega) w.heap.size b nn D0 _ (by simp) (by simp) (by
   obtain ⟨es,aa,hb,Ft,hs,hD⟩:=hown
   exact ⟨es,aa,(Below.heap_alloc _ _ b ac).trans hb,Ft,hs,hD⟩)
 exact AnyZ.sorted_in Tryz.sorted107 Fence.wide 5 trivial trivial trivial trivial rfl (by omega) (Tryz.sorts107 _) (enters_of Tryz.func166 (by kernel_rfl) rfl) 167 #[.pointer (some ⟨w.heap.size,0,none⟩)] trivial (enters_of Tryz.func167 (by kernel_rfl) rfl) _ _ hmax hbytes _ ab
end Go.Proofs
namespace Go.Proofs.YtdoiekknhnbepaaGreatDoor
open Go renaming wpQuiet_nil->cS
open List renaming getElem?_eq_getElem->b2,getD_eq_getElem?_getD->b3,getElem?_eq_none->b4,mem_flatMap->b5,getElem?_append_right->b6,pairwise_iff_getElem->b7,getElem?_append_left->b9,pairwise_cons->ca
open _root_.ByteArray renaming toList_eq->cb,data_append->cc,size_append->cf
open Value renaming string->ch
open UInt8 renaming ofNat->cj,toNat_lt->ck
open Op renaming bytesLess->cl
open Lib renaming bsGo->cm,compareBytes->cp
open Go.WideMaps renaming keyOf_string_mk->cq
open Classical renaming byContradiction->ct
open Instr renaming index->cx
open IntWalk renaming i64_in->cy
open Blk renaming new->cF
open Tryz
open List renaming take_succ_eq_append_getElem->bY,length_append->bZ,flatMap_append->cd,length_cons->ce,getElem_mem->cg,take_of_length_le->ci,length_singleton->co,drop_eq_getElem_cons->cr,flatMap_cons->cw,take_append_drop->cz,length_set->cC,drop_of_length_le->cD,length_map->cG,set_append_right->cH,length_mergeSort->cI,lt_asymm->cK,append_assoc->cL,getElem_map->cM,length_take->cN,any_eq_true->cO,nil_append->cP,append_nil->cQ
open Nat renaming le_refl->b8,testBit_lt_two_pow->cE
open Bool renaming not_eq_true->cA,and_eq_true->cB,or_false->cR
open _root_.Array renaming length_toList->cJ
section
open Go.RowKit Go.Sort Go.Maps
open Lib renaming hid -> Jh
open List renaming length_append -> Jd
attribute [local go_sem ↓] Go.wp_at_zero Go.wp_at_succ
attribute [local go_sem] Later.cell
structure Hd where
 A:Option Addr
 n:Nat
 c:Nat
instance:Inhabited Hd:=⟨⟨none,0,0⟩⟩
def encH (h:Hd):List Value:=[.slice h.A h.n h.c]
def Sets (w:World) (A:Option Addr) (n:Nat) (L:List (List Lb)):Prop:=
 ∃hs:List Hd,Elems w w.heap.size 1 encH A n hs/\L.length=n/\∀(i:Nat) (h:Hd),hs[i]? = some h->Elems w w.heap.size 2 encLb h.A h.n L[i]!/\h.n<=h.c
section
variable {w w' : World} {A : Option Addr} {n : Nat} {L : List (List Lb)}
theorem Sets.len (h:Sets w A n L):L.length=n:=by obtain ⟨_,_,h2,_⟩:=h;exact h2
theorem Sets.at_ (h:Sets w A n L) {i:Nat} (hi:i < n):∃b off B m c,A=some ⟨b,off,none⟩/\b < w.heap.size/\w.cell? ⟨b,off+i,none⟩=some (.slice B m c)/\Elems w w.heap.size 2 encLb B m L[i]!/\m<=c:=by
 obtain ⟨hs,h1,h2,h3⟩:=h;obtain ⟨b,off,e,hb,hc⟩:=h1.2 (by omega);have hl:i < hs.length:=by have:=h1.len;omega
 obtain ⟨a1,a2⟩:=h3 i hs[i] (b2 hl);have:=hc i hs[i] (b2 hl) 0 _ rfl;exact ⟨b,off,_,_,_,e,hb,by simpa using this,a1,a2⟩
end
def allT (L:List (List Lb)):List Txt:=L.flatMap texts
theorem Krd (l:List Lb) (L:List (List Lb)):allT (l :: L)=texts l++allT L:=rfl
theorem Knb (L M:List (List Lb)):allT (L++M)=allT L++allT M:=by simp[allT]
theorem Kgg (l:List Lb):(texts l).length=2*l.length:=by
 induction l with
 | nil=>rfl
 | cons x l ih=>rw[Kjy,ce,ce,ih,ce];omega
theorem Qet (l m:List Lb):texts (l++m)=texts l++texts m:=by simp[texts]
theorem Qcn {L:List (List Lb)} {i:Nat} (h:i < L.length):(texts L[i]!).length<=(allT L).length:=by
 rw[i9 L i h];have hL:L=L.take i++L[i] :: L.drop (i+1):=by rw[<-cr h,cz]
 have e:allT L=allT (L.take i)++(texts L[i]++allT (L.drop (i+1))):=by
  conv=>lhs;rw[hL]
  rw[Knb,Krd]
 rw[e,Jd,Jd];omega
theorem Qco {L:List (List Lb)} {i:Nat} (h:i < L.length):allT (L.take (i+1))=allT (L.take i)++texts L[i]!:=by rw[bY h,Knb,i9 L i h];simp[allT]
theorem Kkb {L:List (List Lb)} (i:Nat):(allT (L.take i)).length<=(allT L).length:=by
 have:allT L=allT (L.take i)++allT (L.drop i):=by rw[<-Knb,cz]
 rw[this];simp
theorem Qfd {L:List (List Lb)} {i k:Nat} (h:i < L.length) (hk:k < L[i]!.length):L[i]![k]!.n∈allT L/\L[i]![k]!.v∈allT L:=by
 rw[i9 L i h] at hk |-;rw[i9 _ k hk];constructor
 .refine b5.2 ⟨L[i],cg h,b5.2 ⟨L[i][k],cg hk,by simp⟩⟩
 .refine b5.2 ⟨L[i],cg h,b5.2 ⟨L[i][k],cg hk,by simp⟩⟩
theorem Qcf {l:List Lb} {k:Nat} (h:k < l.length):texts (l.take (k+1))=texts (l.take k) ++ [l[k]!.n] ++ [l[k]!.v]:=by rw[bY h,Qet,i9 l k h];simp[texts]
theorem law5:Keyed prog 9:=string_keyed underlying9
theorem zero5 (w:World):(zeroValue 3).run prog w = .ok (.int .i64 0) w:=by kernel_rfl
def Keb (w:World) (b:Nat) (D:DataW Unit) (l:List Txt):Prop:=w.ownsMap prog 9 (plainElem prog 3) b l.length D/\∀x:Txt,Maps.has D (.string x)=true↔x∈l
theorem Keb.put {w w':World} {b:Nat} {D:DataW Unit} {l:List Txt} {x:Txt} {d:DataW Unit} (h:Keb w b D l) (hown:w'.ownsMap prog 9 (plainElem prog 3) b (l.length+1) (D.put (.string x) d)):Keb w' b (D.put (.string x) d) (l ++ [x]):=by
 refine ⟨by rw[Jd];exact hown,fun y=>?_⟩
 by_cases e:y=x
 .subst e;rw[has_put_same (k:=.string y) (h.1.tidy law5).isMap trivial];simp
 .rw[has_put_other (by intro h;injection h with h;exact e h),h.2 y];simp[e]
theorem Qgk {D:DataW Unit} {w:World} {b n:Nat} {l ss:List Txt} (hown:w.ownsMap prog 9 (plainElem prog 3) b n D) (hk:∀x:Txt,Maps.has D (.string x)=true↔x∈l) (hp:ss.Perm (strKeys D)):IsTab l (ss.mergeSort fun x y=>decide (x<=y)):=by
 obtain ⟨es,rfl,ag⟩:=hown.tidy law5;obtain ⟨es',e',af⟩:=hown.keysOf;injection e' with e';subst e'
 have ab:∀p∈es,∃x,p.1 = .string x:=fun p hp=>by obtain ⟨v,hv⟩:=af p hp;obtain ⟨x,_,hx,_⟩:=Maps.keyOf_str underlying9 hv;exact ⟨x,hx⟩
 have ah:(strKeys (.map es)).Nodup:=by
  show (es.map fun p=>strOf p.1).Nodup
  refine List.pairwise_map.2 (ag.imp_of_mem fun {p q} hp' hq' hne e=>hne ?_);obtain ⟨a,ha⟩:=ab p hp';obtain ⟨b,hb⟩:=ab q hq';rw[ha,hb] at e |-;exact jk _ e
 have ae:∀x,x∈strKeys (.map es)↔x∈l:=by
  intro x;rw[<-hk x,has_eq,cO];show x∈es.map (fun p=>strOf p.1)↔_
  rw[List.mem_map];constructor
  .rintro ⟨p,hp,rfl⟩;obtain ⟨a,ha⟩:=ab p hp;exact ⟨p,hp,by rw[ha];simp[strOf,Lit.sameKey]⟩
  .rintro ⟨p,hp,e⟩;obtain ⟨a,ha⟩:=ab p hp;rw[ha] at e;exact ⟨p,hp,by rw[ha];simpa[strOf,Lit.sameKey] using e⟩
 have aa:(ss.mergeSort fun x y=>decide (x<=y)).Pairwise (fun a b=>a<=b):=by have:=List.pairwise_mergeSort (le:=fun x y:Txt=>decide (x<=y)) (by intro a b c;simp;exact List.le_trans) (by intro a b;simp;exact List.le_total a b) ss;simpa using this
 have ac:=(List.mergeSort_perm ss fun x y=>decide (x<=y)).trans hp;have ad:=(ac.nodup_iff).2 ah;refine ⟨?_,fun x=>?_⟩
 .unfold Asc;refine (aa.and ad).imp ?_;rintro a b ⟨h1,h2⟩;exact Ksn h1 (Ne.symm h2)
 .rw[<-ae x];exact ac.mem_iff
theorem Keb.below {w w':World} {b:Nat} {D:DataW Unit} {l:List Txt} (h:Keb w b D l) (hb:Below w.heap.size w w'):Keb w' b D l:=
 ⟨h.1.kept (row:=none) ⟨hb.os,hb.tape,hb.output,hb.size,fun k hk _=>hb.block k hk⟩ (by simp),h.2⟩
theorem Krf {w w0 w':World} {B b:Nat} (h:Below B w w0) (hg:w0.grownBy w' (some b)) (hb:B<=b) (hB:B<=w0.heap.size):Below B w w':=
 h.trans ⟨hg.os,hg.tape,hg.output,hg.size,fun k hk=>hg.block k (by omega) (fun e=>by injection e with e;omega)⟩
theorem Ksu (L:List (List Lb)) (A:Option Addr) (n c:Nat) (w:World) (hS:Sets w A n L) (hn:n<=1099511627776) (hall:(allT L).length<=1099511627776) (hz:∀x∈allT L,x.length<=1099511627776) :
  Calls prog 39 #[.slice A n c] w (OfOut w (allT L)):=by
 have hmm:=@run_makeMap prog;have hL:=hS.len;have HL:=Jh hL;have HZ:=Jh hz;clear hL hz;go_enter func39,ntmps39
 go_upto_block 0 with fail
 go_cut [3] (fun s3 wz=>∃D,s3 = .map (some w.heap.size)/\Keb wz w.heap.size D (allT L)/\Below w.heap.size w wz)
 case first=>
  go_wp2_with fail
  go_loopg [11] n (fun g s11 wr=>∃(i:Nat) (D:DataW Unit),i+g=n/\s11 = .int .i64 (i:Int)/\Keb wr w.heap.size D (allT (L.take i))/\Below w.heap.size w wr)
  case atStart=>exact ⟨0,_,by omega,rfl,⟨World.ownsMap_made _ _ _ _,fun x=>by simp[allT,Maps.has]⟩,(Below.refl _ _).alloc (b8 _) _⟩
  case round=>
   obtain ⟨i,D,aI,rfl,aa,hB⟩:=hrel;have aH:=Jh aI;clear aI
   by_cases hi:i < n
   .have el:decide ((i:Int) < (n:Int))=true:=by simp;omega
    have a5:decide (i < n)=true:=by simp;omega
    have aw:i < L.length:=by have:=HL.out;omega
    obtain ⟨b,aY,C,m,d,rfl,aX,ai,hE,hmd⟩:=hS.at_ hi;have hcr:=(hB.cell (p:=⟨b,aY+i,none⟩) aX).trans ai;have a4:=Kkb (L:=L) i;have ab:=Qco aw;have ag:=Qcn aw;have ak:=fun k hk=>Qfd (L:=L) (i:=i) (k:=k) aw hk
    obtain ⟨l,hl⟩:∃l,L[i]! = l:=⟨_,rfl⟩;rw[hl] at hE ab ag ak;have ax:=hE.len;rw[Kgg,ax] at ag
    have aA:(allT (L.take i)).length+2*m<=1099511627776:=by have h1:=Kkb (L:=L) (i+1);rw[ab,Jd,Kgg,ax] at h1;omega
    obtain ⟨T,hT⟩:=iZ (allT (L.take i));rw[hT] at aa ab aA;have a2:=Jh ab;have aK:=Jh ax;have aF:=Jh ak;clear ai a4 ab ak hl ax hT aw;go_upto_block 1 with fail
    go_cut [] (fun wz=>∃D,Keb wz w.heap.size D (T++texts l)/\Below w.heap.size w wz)
    case first=>
     go_wp2_with fail
     go_loopg [17] m (fun g s17 wz=>∃(k:Nat) (D:DataW Unit),k+g=m/\s17 = .int .i64 (k:Int)/\Keb wz w.heap.size D (T++texts (l.take k))/\Below w.heap.size w wz)
     case atStart=>exact ⟨0,D,by omega,rfl,by simpa[texts] using aa,hB⟩
     case round=>
      obtain ⟨k,D,aJ,rfl,aa,hB⟩:=hrel;have aP:=Jh aJ;clear aJ
      by_cases hk:k < m
      .have ek:decide ((k:Int) < (m:Int))=true:=by simp;omega
       have a3:decide (k < m)=true:=by simp;omega
       have aC:k < l.length:=by have:=aK.out;omega
       obtain ⟨bb,oo,rfl,_,_⟩:=hE.2 (by omega);obtain ⟨a6,c0,c1⟩:=Kbi hE (by omega) hB k aC;obtain ⟨aL,aM⟩:=aF.out k aC;have z1:=HZ.out _ aL;have z2:=HZ.out _ aM;have ab:=Qcf aC;obtain ⟨x,hx⟩:∃x,l[k]! = x:=⟨_,rfl⟩;rw[hx] at c0 c1 z1 z2 ab;obtain ⟨N,hN⟩:∃N:ByteArray,(⟨x.n.toArray⟩:ByteArray)=N:=⟨_,rfl⟩;obtain ⟨V,hV⟩:∃N:ByteArray,(⟨x.v.toArray⟩:ByteArray)=N:=⟨_,rfl⟩;rw[hN] at c0;rw[hV] at c1;have aG:N.data.toList=x.n:=by rw[<-hN]
       have az:V.data.toList=x.v:=by rw[<-hV]
       have aU:N.size<=maxLen:=by rw[<-Kai,aG];unfold maxLen;omega
       have aQ:V.size<=maxLen:=by rw[<-Kai,az];unfold maxLen;omega
       have kN:=cq (P:=prog) underlying9 aU;have kV:=cq (P:=prog) underlying9 aQ;rw[aG] at kN;rw[az] at kV
       have aZ:(T++texts (l.take k)).length+2<=1099511627776:=by rw[Jd,Kgg,cN];omega
       obtain ⟨U,hU⟩:=iZ (T++texts (l.take k));have aj:T++texts (l.take (k+1))=U ++ [x.n] ++ [x.v]:=by rw[ab,<-hU];simp
       rw[hU] at aa aZ;have an:=Jh aj;have KN:=Jh kN;have KV:=Jh kV;clear hx hN hV aG az aU aQ kN kV hU aj ab aL aM z1 z2;go_upto_region 8 with fail
       have av:Below w.heap.size w (wr.alloc (.cells #[.string N,.string V] 99)):=hB.alloc hB.size _;have hq:Blk (wr.alloc (.cells #[.string N,.string V] 99)) wr.heap.size 99 #[.string N,.string V]:=cF _ _ _;have ad:Keb (wr.alloc (.cells #[.string N,.string V] 99)) w.heap.size D U:=aa.below ((Below.refl _ _).alloc (b8 _) _);have aq:w.heap.size≠wr.heap.size:=by have:=aa.1.lt;omega
       obtain ⟨v1,aS⟩:=iZ (wr.alloc (.cells #[.string N,.string V] 99));obtain ⟨q,aV⟩:=iZ wr.heap.size;rw[aS] at av hq ad |-;rw[aV] at hq aq |-;clear aS aV c0 c1 hB aa;have q0:_=some (ch N):=hq.cell 0;have q1:_=some (ch V):=hq.cell 1;go_wp2_with (at_lookup;refine wpList_lookup_own_int _ rfl _ _ 191 rfl 9 3 .i64 law5 underlying191 underlying3 (zero5 _) w.heap.size U.length D rfl ad.1 _ _ rfl KN.out ?_)
       intro cn _ hwc;go_wp2_with (at_mapUpdate;refine wpList_mapUpdate_own _ rfl _ _ _ 191 rfl 9 3 law5 underlying191 _ w.heap.size U.length D rfl ad.1 (by unfold maxLen;omega) _ _ _ rfl rfl KN.out _ [] (plainElem_int underlying3 (wrap64_wf _)) ?_)
       intro v2 hown2 hgrow2;have ae:=ad.put hown2;have aO:=hq.grown hgrow2 (by simpa using Ne.symm aq);have am:=Krf av hgrow2 (b8 _) av.size;have aW:_=some (ch V):=aO.cell 1;clear hown2 hgrow2 ad q0 q1 hq av;go_wp2_with (at_lookup;refine wpList_lookup_own_int _ rfl _ _ 191 rfl 9 3 .i64 law5 underlying191 underlying3 (zero5 _) w.heap.size (U ++ [x.n]).length _ rfl ae.1 _ _ rfl KV.out ?_)
       intro cv _ hwv;go_wp2_with (at_mapUpdate;refine wpList_mapUpdate_own _ rfl _ _ _ 191 rfl 9 3 law5 underlying191 _ w.heap.size (U ++ [x.n]).length _ rfl ae.1 (by unfold maxLen;simp;omega) _ _ _ rfl rfl KV.out _ [] (plainElem_int underlying3 (wrap64_wf _)) ?_)
       intro v3 hown3 hgrow3;have aE:=ae.put (by rw[Jd];exact hown3);have ap:=Krf am hgrow3 (b8 _) am.size;clear hown3 hgrow3 ae aW aO am;go_wp2_with fail
       go_roundg (gk - 1)
       case measure=>have:=aP.out;omega
       case rel=>exact ⟨k+1,_,by have:=aP.out;omega,by go_num,by rw[an.out];exact aE,ap⟩
      .have ek:decide ((k:Int) < (m:Int))=false:=by simp;omega
       have a3:decide (k < m)=false:=by simp;omega
       have ab:l.take k=l:=ci (by have:=aK.out;omega);rw[ab] at aa;clear ab;go_wp2_with fail
       go_meet
       exact ⟨D,aa,hB⟩
    case rest=>
     obtain ⟨D',aD,a7⟩:=hcut;obtain ⟨wx,rfl⟩:=i7 wc;go_wp2_with fail
     go_roundg (gk - 1)
     case measure=>have:=aH.out;omega
     case rel=>exact ⟨i+1,D',by have:=aH.out;omega,by go_num,by rw[a2.out];exact aD,a7⟩
   .have el:decide ((i:Int) < (n:Int))=false:=by simp;omega
    have a5:decide (i < n)=false:=by simp;omega
    have ab:L.take i=L:=ci (by have:=HL.out;omega);rw[ab] at aa;clear ab;go_wp2_with fail
    go_meet
    exact ⟨D,rfl,aa,hB⟩
 case rest=>
  obtain ⟨D,rfl,aa,hB⟩:=hcut;obtain ⟨w1,rfl⟩:=i7 wc;have ah:=callsIn_wide.1 (Tryz.maps_Keys_108 (some w.heap.size) w1)
  have a1:Maps.size D<=1099511627776:=by obtain ⟨es,ar,_,_,hs,hD⟩:=aa.1;rw[hD,size_eq,length_sorted,cG,cJ];omega
  have ac:=callsIn_wide.1 (Tryz.slices_Sorted_keys_107_108 w.heap.size (allT L).length D _ w1 aa.1 (by unfold maxLen;omega) (by omega));have HK:=Jh ah;have a0:=Jh ac;clear ah ac;go_wp2_with fail
  refine HK.out.mono ?_;rintro e w2 ⟨rfl,rfl⟩;go_wp2_with fail
  refine a0.out.mono ?_;rintro e w3 ⟨v,ss,rfl,hP,af,_,aT⟩;have ao:=Qgk aa.1 aa.2 hP;have am:Below w.heap.size w (w1.alloc (.cells #[.map (some w.heap.size)] 191)):=hB.alloc hB.size _;have ap:=then_ am aT
  have al:(ss.mergeSort fun x y=>decide (x<=y)).length<=(allT L).length:=by
   rw[cI,hP.length_eq];obtain ⟨es,ar,_,_,hs,hD⟩:=aa.1;rw[hD];show (List.map _ _).length<=_
   rw[cG,length_sorted,cG,cJ];exact hs
  have aB:(ss.mergeSort fun x y=>decide (x<=y)).length=ss.length:=cI _;obtain ⟨z,hz⟩:=iZ (ss.mergeSort (fun x y=>decide (x<=y)));rw[hz] at ao al aB af;rw[<-aB] at af;obtain ⟨A',c',rfl,aN,_,aR⟩:=Strs.of_own af rfl;obtain ⟨q,hq⟩:=iZ z.length;rw[hq] at aN aR |-;have ay:=Jh al;clear hz aB af aa hB aT am hP a1 hq al;go_wp2_with fail
  go_ret
  exact ⟨_,z,rfl,⟨_,q,c',.inr ⟨_,rfl,cF _ _ _⟩,aN.below ((Below.refl _ _).alloc (b8 _) _),aR⟩,ao,ay.out,ap.alloc ap.size _,ap.size⟩
end
section
structure Wnd where
 start:Int
 count:Int
 sum:Nat
 min:Nat
 max:Nat
 last:Nat
def wnd0:Wnd:=⟨0,0,0,0,0,0⟩
def Keg (w a:Wnd) (first:Bool):Nat:=
 if w.start < 0\/1125899906842624 < w.start then 1 else if first=false/\w.start<=a.start then 2 else if w.count < 1\/4611686018427387904 < w.count then 3 else 0
def WndOk (w:Wnd):Prop:=0<=w.start/\w.start<=1125899906842624/\1<=w.count/\w.count<=4611686018427387904
def Kcm (w:Wnd):Prop:=w.sum < 2 ^ 64/\w.min < 2 ^ 64/\w.max < 2 ^ 64/\w.last < 2 ^ 64
theorem Kmo (w a:Wnd) (first:Bool):Keg w a first=0↔WndOk w/\(first=true\/a.start < w.start):=by unfold Keg WndOk;cases first <;> simp <;> split <;> (try split) <;> (try split) <;> simp <;> omega
def wndT (a w:Wnd):List UInt8:=uintT (w.start - a.start).toNat++uintT w.count.toNat++uintT (w.sum ^^^ a.sum)++uintT (w.min ^^^ a.min)++uintT (w.max ^^^ a.max)++uintT (w.last ^^^ a.last)
def wndsT:Wnd->List Wnd->List UInt8
 | _,[]=>[]
 | a,w :: l=>wndT a w++wndsT w l
def aggT (l:List Wnd):List UInt8:=uintT l.length++wndsT wnd0 l
def Kch:Wnd->Bool->List Wnd->Bool
 | _,_,[]=>true
 | a,first,w :: l=>decide (Keg w a first=0) && Kch w false l
def bitAt (s:List UInt8) (i:Nat):Bool:=(s.getD (i / 8) 0).toNat.testBit (7 - i % 8)
def roomB (s:List UInt8) (n:Nat):List UInt8:=if n % 8=0 then s ++ [0] else s
def pushB (s:List UInt8) (n:Nat) (b:Bool):List UInt8:=
 if b then (roomB s n).set (n / 8) ((roomB s n).getD (n / 8) 0 ||| cj (128 >>> (n % 8))) else roomB s n
structure Kdm (s:List UInt8) (l:List Bool):Prop where
 len:s.length=(l.length+7) / 8
 bit:∀i,bitAt s i=l.getD i false
theorem Kdm.nil:Kdm [] []:=⟨rfl,fun i=>by simp[bitAt]⟩
theorem Kli {s:List UInt8} {n:Nat} (h:s.length=(n+7) / 8):(roomB s n).length=n / 8+1:=by
 unfold roomB
 split
 .rw[bZ,co];omega
 .omega
theorem Klh {s:List UInt8} {n:Nat} (h:s.length=(n+7) / 8) (i:Nat):bitAt (roomB s n) i=bitAt s i:=by
 unfold roomB
 split
 .unfold bitAt;congr 2;simp only[b3]
  by_cases hi:i / 8 < s.length
  .rw[b9 hi]
  .rw[b6 (by omega),b4 (l:=s) (by omega)]
   by_cases h0:i / 8 - s.length=0
   .rw[h0];rfl
   .rw[b4 (by simp;omega)]
 .rfl
theorem Qis (k j:Nat) (hk:k < 8) (hj:j < 8):(cj (128 >>> k)).toNat.testBit (7 - j)=decide (j=k):=by
 rcases (by omega:k=0\/k=1\/k=2\/k=3\/k=4\/k=5\/k=6\/k=7) with rfl | rfl | rfl | rfl | rfl | rfl | rfl | rfl <;>
 rcases (by omega:j=0\/j=1\/j=2\/j=3\/j=4\/j=5\/j=6\/j=7) with rfl | rfl | rfl | rfl | rfl | rfl | rfl | rfl <;> rfl
theorem Kdm.push {s:List UInt8} {l:List Bool} (h:Kdm s l) (b:Bool):Kdm (pushB s l.length b) (l ++ [b]):=by
 have hr:=Kli h.len;refine ⟨?_,fun i=>?_⟩
 .unfold pushB
  split
  .rw[cC,hr,bZ,co];omega
  .rw[hr,bZ,co];omega
 .have h0:(l ++ [b]).getD i false=if i=l.length then b else l.getD i false:=by
   simp only[b3]
   by_cases hi:i < l.length
   .rw[b9 hi,je (by omega)]
   .rw[b6 (by omega)]
    by_cases he:i=l.length
    .subst he;simp
    .rw[je he,b4 (by simp;omega),b4 (by omega)]
  rw[h0,<-h.bit i];unfold pushB
  cases b with
  | false=>
   rw[je (by simp),Klh h.len]
   split
   .rename_i he
    rw[he,h.bit];simp
   .rfl
  | true=>
   rw[jf rfl]
   by_cases hq:i / 8=l.length / 8
   .have e1:bitAt ((roomB s l.length).set (l.length / 8) ((roomB s l.length).getD (l.length / 8) 0 ||| cj (128 >>> (l.length % 8)))) i=(bitAt (roomB s l.length) i || decide (i % 8=l.length % 8)):=by
     unfold bitAt;rw[hq]
     have e2:((roomB s l.length).set (l.length / 8) ((roomB s l.length).getD (l.length / 8) 0 ||| cj (128 >>> (l.length % 8)))).getD (l.length / 8) 0=((roomB s l.length).getD (l.length / 8) 0 ||| cj (128 >>> (l.length % 8))):=by simp only[b3];rw[List.getElem?_set_self (by omega)];rfl
     rw[e2,UInt8.toNat_or,Nat.testBit_or,Qis _ _ (Nat.mod_lt _ (by omega)) (Nat.mod_lt _ (by omega))]
    rw[e1,Klh h.len]
    by_cases he:i=l.length
    .rw[jf he,he];simp
    .have:i % 8≠l.length % 8:=by omega
     rw[je he,ja this,cR]
   .have e1:bitAt ((roomB s l.length).set (l.length / 8) ((roomB s l.length).getD (l.length / 8) 0 ||| cj (128 >>> (l.length % 8)))) i=bitAt (roomB s l.length) i:=by
     unfold bitAt;congr 2;simp only[b3];rw[List.getElem?_set_ne (by omega)]
    rw[e1,Klh h.len,je (by rintro rfl;exact hq rfl)]
def packFrom (s:List UInt8) (n:Nat):List Bool->List UInt8
 | []=>s
 | b :: l=>packFrom (pushB s n b) (n+1) l
theorem Kdm.packFrom {s:List UInt8} {l:List Bool} (h:Kdm s l):∀k:List Bool,Kdm (packFrom s l.length k) (l++k)
 | []=>by rw[cQ];exact h
 | b :: k=>by have:=(h.push b).packFrom k;rw[bZ,co,cL] at this;exact this
 termination_by k=>k.length
def packB (l:List Bool):List UInt8:=packFrom [] 0 l
theorem Kfp (l:List Bool):Kdm (packB l) l:=Kdm.nil.packFrom l
theorem Qhl {a b:UInt8} (h:∀j,j < 8->a.toNat.testBit (7 - j)=b.toNat.testBit (7 - j)):a=b:=by
 apply UInt8.toNat_inj.1;apply Nat.eq_of_testBit_eq;intro i
 by_cases hi:i < 8
 .have:=h (7 - i) (by omega);rwa[show 7 - (7 - i)=i by omega] at this
 .have ha:=ck a;have hb:=ck b;have h2:2 ^ 8<=2 ^ i:=Nat.pow_le_pow_right (by omega) (by omega);rw[cE (by omega),cE (by omega)]
theorem Kdm.unique {s t:List UInt8} {l:List Bool} (h:Kdm s l) (h':Kdm t l):s=t:=by apply List.ext_getElem (h.len.trans h'.len.symm);intro i h1 h2;apply Qhl;intro j hj;have a:=h.bit (8*i+j);have b:=h'.bit (8*i+j);rw[<-b] at a;unfold bitAt at a;rw[show (8*i+j) / 8=i by omega,show (8*i+j) % 8=j by omega] at a;simpa[b3,b2 h1,b2 h2] using a
theorem Koz (l:List Bool) (b:Bool):packB (l ++ [b])=pushB (packB l) l.length b:=(Kfp (l ++ [b])).unique ((Kfp l).push b)
def putN (v:Nat):Nat->List Bool
 | 0=>[]
 | n+1=>v.testBit n :: putN v n
theorem Kbh (v:Nat):∀n,(putN v n).length=n
 | 0=>rfl
 | n+1=>by rw[putN,ce,Kbh v n]
end
end Go.Proofs.YtdoiekknhnbepaaGreatDoor
