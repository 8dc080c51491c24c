/- Merged (what the claim wants of): RefBEq, RefB5, RefB1, RefB6, BlkParseD, RefB3, RefB4, RefB7, BlkSize3, BlkLawA, OpenS, OpenBulk, OpenSym, OpenLab, OpenSets, BlkOpenC, BlkLawB, Compact, CompactS, CompactP, CSplit, CmpOpen, CmpBox. -/
import Derived.Test.YtdoiekknhnbepaaGreatDoorCmk07
import Derived.Test.YtdoiekknhnbepaaGreatDoorRows
set_option linter.unusedVariables false
set_option linter.unusedSimpArgs false
set_option maxRecDepth 1000000
set_option linter.ambiguousOpen false
set_option maxHeartbeats 8000000
namespace Go.Proofs.YtdoiekknhnbepaaGreatDoor
open Go renaming wpList_append_own_at->ej
open Go renaming wpQuiet_nil->ei
open List renaming getElem?_eq_getElem->cV,getElem?_eq_some_iff->cW,mem_iff_getElem->cX,getElem?_cons_zero->cY,mem_map->c6,getElem?_map->c8,mem_singleton->c9,mem_filter->dg,mem_cons->di,mem_flatMap->dk
open DataW renaming trod_int->dm,trod->dQ,trod_struct->dR
open World renaming setCell->dS,grownBy_alloc->dT,ownsRow_nil->dU
open IntKind renaming i64->dV,u64->dW,wrap_u64->dX
open Cont renaming series->dY
open Elems renaming of_own->dZ,nil_->ZY
open Blk renaming new->ZX
open Op renaming eqFields->ZZ,equalIn->ZW
open IntWalk renaming i64_in->eb
open Option.some renaming injEq->ec
open Value renaming int->ed
open World.ownsRow renaming mono->eg
open Wnd renaming start->eh
open Go.Proofs.Tryz
open List renaming map_cons->cU,sum_cons->cZ,length_cons->db,getElem_mem->de,length_map->dj,eq_nil_of_length_eq_zero->dl,map_nil->dp,take_succ_eq_append_getElem->dt,take_of_length_le->dv,exists_mem_of_length_pos->dx,length_append->dy,flatMap_cons->dz,map_map->dB,flatMap_singleton->dC,mem_filter->dD,length_singleton->dE,length_filter_le->dF,mem_of_getElem?->dG,flatMap_append->dI,range->dJ,append_assoc->dK,filter_cons->dL,getElem_map->dM,map_append->dN,foldl_cons->dO,map_take->dP
open Nat renaming le_refl->da,le_trans->dc,add_sub_cancel->dh,xor_lt_two_pow->dr,le_succ->dH
open Bool renaming eq_iff_iff->dd,and_eq_true->df,eq_false_iff->dn,true_and->dA
open Option renaming map_eq_some_iff->dw
section
open Go.RowKit
theorem Ked {P:Program}{w:World}{d:Nat}{xs ys:Array Value}{f:Field}{fs:List Field}{t:TypeId}{o:Nat}{a b:Value}{r:Bool}(hf:(f.name != "_",f.type,f.offset)=(true,t,o)) (ha:(part t xs o).run P w = .ok a w) (hb:(part t ys o).run P w = .ok b w) (he:(ZW d t a b).run P w = .ok r w) :
  (ZZ d xs ys (f :: fs)).run P w=if r then (ZZ d xs ys fs).run P w else .ok false w:=by
 injection hf with h1 h2;injection h2 with h2 h3;subst h2 h3;have aa:f.name≠"_":=by simpa using h1
 rw[ZZ];simp only[ne_eq,aa,not_false_eq_true,if_true,Sem.run_bind,ha,hb,he,Result.andThen_ok];cases r <;> simp
theorem Kzv {P:Program}{w:World}{d:Nat}{xs ys:Array Value}:(ZZ d xs ys []).run P w = .ok true w:=rfl
theorem Qiq (x y:Smp) (w:World):(ZW 10000 133 (.agg #[.int .i64 x.t,.int .u64 (x.v:Int)]) (.agg #[.int .i64 y.t,.int .u64 (y.v:Int)])).run prog w = .ok (decide (x=y)) w:=by
 rw[run_equalIn_struct (d:=9999) w 133 _ _ (by kernel_rfl) (by kernel_rfl)];obtain⟨fs,aa⟩:=jF ((prog.fieldsOf 133).toList);have hf:fs.map (fun f=>(f.name != "_",f.type,f.offset)) = [(true,2,0),(true,100,1)]:=by rw[<-aa];kernel_rfl
 rw[aa]
 match fs,hf with
 | [f0,f1],hf=>
  simp only[cU,dp]at hf;injection hf with h0 hf;injection hf with h1 hf;rw[Ked (a:=.int .i64 x.t) (b:=.int .i64 y.t) h0 (by kernel_rfl) (by kernel_rfl) (run_equalIn_int w 9998 2 .i64 .i64 _ _ underlying2)];rw[Ked (a:=.int .u64 (x.v:Int)) (b:=.int .u64 (y.v:Int)) h1 (by kernel_rfl) (by kernel_rfl) (run_equalIn_int w 9998 100 .u64 .u64 _ _ underlying100)];rw[Kzv];have k0:(x.t == y.t)=decide (x.t=y.t):=by rw[dd];simp
  have k1:((x.v:Int) == (y.v:Int))=decide (x.v=y.v):=by rw[dd];simp;omega
  rw[k0,k1];cases x
  cases y
  simp only[Smp.mk.injEq]
  repeat' split
  all_goals simp_all
theorem Qir (x y:Smp) (w:World):(binOp .neq 133 (.agg #[.int .i64 x.t,.int .u64 (x.v:Int)]) (.agg #[.int .i64 y.t,.int .u64 (y.v:Int)])).run prog w = .ok (.bool (!decide (x=y))) w:=by rw[run_neq_struct,Qiq];rfl
theorem Qiv (x y:Wnd) (w:World):(ZW 10000 136 (.agg #[.int .i64 x.start,.int .i64 x.count,.int .u64 (x.sum:Int),.int .u64 (x.min:Int),.int .u64 (x.max:Int),.int .u64 (x.last:Int)]) (.agg #[.int .i64 y.start,.int .i64 y.count,.int .u64 (y.sum:Int),.int .u64 (y.min:Int),.int .u64 (y.max:Int),.int .u64 (y.last:Int)])).run prog w = .ok (decide (x=y)) w:=by
 rw[run_equalIn_struct (d:=9999) w 136 _ _ (by kernel_rfl) (by kernel_rfl)];obtain⟨fs,aa⟩:=jF ((prog.fieldsOf 136).toList);have hf:fs.map (fun f=>(f.name != "_",f.type,f.offset)) = [(true,2,0),(true,3,1),(true,100,2),(true,100,3),(true,100,4),(true,100,5)]:=by rw[<-aa];kernel_rfl
 rw[aa]
 match fs,hf with
 | [f0,f1,f2,f3,f4,f5],hf=>
  simp only[cU,dp]at hf;injection hf with h0 hf;injection hf with h1 hf;injection hf with h2 hf;injection hf with h3 hf;injection hf with h4 hf;injection hf with h5 hf;rw[Ked (a:=.int .i64 x.start) (b:=.int .i64 y.start) h0 (by kernel_rfl) (by kernel_rfl) (run_equalIn_int w 9998 2 .i64 .i64 _ _ underlying2)];rw[Ked (a:=.int .i64 x.count) (b:=.int .i64 y.count) h1 (by kernel_rfl) (by kernel_rfl) (run_equalIn_int w 9998 3 .i64 .i64 _ _ underlying3)];rw[Ked (a:=.int .u64 (x.sum:Int)) (b:=.int .u64 (y.sum:Int)) h2 (by kernel_rfl) (by kernel_rfl) (run_equalIn_int w 9998 100 .u64 .u64 _ _ underlying100)];rw[Ked (a:=.int .u64 (x.min:Int)) (b:=.int .u64 (y.min:Int)) h3 (by kernel_rfl) (by kernel_rfl) (run_equalIn_int w 9998 100 .u64 .u64 _ _ underlying100)];rw[Ked (a:=.int .u64 (x.max:Int)) (b:=.int .u64 (y.max:Int)) h4 (by kernel_rfl) (by kernel_rfl) (run_equalIn_int w 9998 100 .u64 .u64 _ _ underlying100)];rw[Ked (a:=.int .u64 (x.last:Int)) (b:=.int .u64 (y.last:Int)) h5 (by kernel_rfl) (by kernel_rfl) (run_equalIn_int w 9998 100 .u64 .u64 _ _ underlying100)];rw[Kzv];have k0:(x.start == y.start)=decide (x.start=y.start):=by rw[dd];simp
  have k1:(x.count == y.count)=decide (x.count=y.count):=by rw[dd];simp
  have k2:((x.sum:Int) == (y.sum:Int))=decide (x.sum=y.sum):=by rw[dd];simp;omega
  have k3:((x.min:Int) == (y.min:Int))=decide (x.min=y.min):=by rw[dd];simp;omega
  have k4:((x.max:Int) == (y.max:Int))=decide (x.max=y.max):=by rw[dd];simp;omega
  have k5:((x.last:Int) == (y.last:Int))=decide (x.last=y.last):=by rw[dd];simp;omega
  rw[k0,k1,k2,k3,k4,k5];cases x
  cases y
  simp only[Wnd.mk.injEq]
  repeat' split
  all_goals simp_all
theorem Qiw (x y:Wnd) (w:World):(binOp .neq 136 (.agg #[.int .i64 x.start,.int .i64 x.count,.int .u64 (x.sum:Int),.int .u64 (x.min:Int),.int .u64 (x.max:Int),.int .u64 (x.last:Int)]) (.agg #[.int .i64 y.start,.int .i64 y.count,.int .u64 (y.sum:Int),.int .u64 (y.min:Int),.int .u64 (y.max:Int),.int .u64 (y.last:Int)])).run prog w = .ok (.bool (!decide (x=y))) w:=by rw[run_neq_struct,Qiv];rfl
end
section
open Go.RowKit
open Lib renaming hid -> Jh
attribute [local go_sem ↓] Go.wp_at_zero Go.wp_at_succ
attribute [local go_sem] Later.cell
theorem Ktt (La Lb:List Ser) (A B:Option Addr) (n m ca cb:Nat) (w:World) (hA:Sers w A n La) (hB:Sers w B m Lb) (hn:n<=1099511627776) (hm:m<=1099511627776)
  (hza:∀s∈La,s.samples.length<=1099511627776/\s.windows.length<=1099511627776/\s.labels.length<=1099511627776) (hzb:∀s∈Lb,s.samples.length<=1099511627776/\s.windows.length<=1099511627776/\s.labels.length<=1099511627776) :
  Calls prog 25 #[.slice A n ca,.slice B m cb] w fun e w'=>e = .returned (.bool (decide (La=Lb)))/\Below w.heap.size w w':=by
 have aW:=Jh hA.len;have a4:=Jh hB.len;have a9:=Jh hA;have bd:=Jh hB;have br:=Jh hza;have bs:=Jh hzb;obtain⟨R,hR⟩:=jF (decide (La=Lb));rw[hR];have HR:=Jh hR;obtain⟨q,hq⟩:=jF w.heap.size;have HQ:=Jh hq;rw[hq];clear hR hq hA hB hza hzb
 by_cases hnm:n=m
 .subst hnm;go_enter func25,ntmps25
  go_wp2_with fail
  go_loopg [5] n (fun g s5 wr=>∃i:Nat,i+g=n/\s5 = .int .i64 (i:Int)/\(∀j,j<i->La[j]! = Lb[j]!)/\Below q w wr)
  case atStart=>exact⟨0,by omega,rfl,fun j hj=>by omega,Below.refl _ _⟩
  case round=>
   obtain⟨i,bq,rfl,aw,aq⟩:=hrel;have bj:=Jh bq;have av:=Jh aw;have aA:=Jh aq;clear bq aw aq
   by_cases hi:i<n
   .have el:decide (i<n)=true:=by rw[jH];exact hi
    obtain⟨wo,rfl⟩:=jG wr;have ak:Below w.heap.size w wo:=by rw[HQ.out];exact aA.out
    have aR:i<La.length:=by have:=aW.out;omega
    have aJ:i<Lb.length:=by have:=a4.out;omega
    obtain⟨b,aN,x,rfl,hbl,c0,c1,c2,ap⟩:=a9.out.at_ hi;obtain⟨b',ai,x',rfl,bF,d0,d1,d2,aF⟩:=bd.out.at_ hi;obtain⟨⟨LA,ln,lc⟩,⟨SA,sn,sc⟩,⟨WA,wn,wc9⟩⟩:=x;obtain⟨⟨bw,aY,bz⟩,⟨SA',sn',sc'⟩,⟨WA',wn',bG⟩⟩:=x';have hza:=br.out La[i]! (by rw[jI _ i aR];exact de aR);have hzb:=bs.out Lb[i]! (by rw[jI _ i aJ];exact de aJ);obtain⟨aa,ax⟩:∃s,La[i]! = s:=⟨_,rfl⟩;obtain⟨ab,aB⟩:∃s,Lb[i]! = s:=⟨_,rfl⟩;rw[ax]at ap hza;rw[aB]at aF hzb;have a0:wo.cell? ⟨b,aN+i*3,none⟩=some _:=later ak c0;have b0:wo.cell? ⟨b',ai+i*3,none⟩=some _:=later ak d0;have bb:ln<=140737488351232:=by have h1:aa.labels.length=ln:=ap.l.len;omega
    have bg:aY<=140737488351232:=by have h1:ab.labels.length=aY:=aF.l.len;omega
    have bv:sn<=1099511627776:=by have h1:aa.samples.length=sn:=ap.s.len;omega
    have bx:wn<=1099511627776:=by have h1:aa.windows.length=wn:=ap.w.len;omega
    obtain⟨r,hr⟩:=jF (cmpL aa.labels ab.labels);have HC:=Jh (fun u:Later wo=>Kdo aa.labels ab.labels LA bw ln aY lc bz u.w r hr ((ap.l.below (ak.trans (u.h.mono ak.size))).more (dc ak.size u.h.size)) ((aF.l.below (ak.trans (u.h.mono ak.size))).more (dc ak.size u.h.size)) bb bg);have bl:=Jh hr;have aP:=Jh ax;have aU:=Jh aB;have bo:=Jh c1;have bn:=Jh c2;have bk:=Jh d1;have bm:=Jh d2;have aV:=Jh ap.s;have ba:=Jh aF.s;have aX:=Jh ap.w;have bf:=Jh aF.w;have bt:b<wo.heap.size:=by have:=ak.size;omega
    have a7:b'<wo.heap.size:=by have:=ak.size;omega
    have bp:aa≠ab->R=false:=fun h=>by rw[<-HR.out,jK];intro e;apply h;rw[<-aP.out,<-aU.out,e]
    have aK:=Jh bp;clear hr ax aB c0 c1 c2 d0 d1 d2 ap aF hza hzb ak bp;go_upto_region 6 with fail
    refine Kaa (by kernel_rfl) (by kernel_rfl) ?_
    repeat (go_big_quiet_step ((go_at_call 69;exact Kaj _ (HC.out _))))
    refine ei ?_;rintro w2 ⟨⟨_,a6⟩,rfl⟩;have an:Below w.heap.size w w2:=then_ (by rw[HQ.out];exact aA.out) a6;have a1:w2.cell? ⟨b,aN+i*3+1,none⟩=some _:=later an bo.out;have a2:w2.cell? ⟨b,aN+i*3+2,none⟩=some _:=later an bn.out;have b1:w2.cell? ⟨b',ai+i*3+1,none⟩=some _:=later an bk.out;have b2:w2.cell? ⟨b',ai+i*3+2,none⟩=some _:=later an bm.out;have aZ:b<w2.heap.size:=by have:=an.size;omega
    have aH:b'<w2.heap.size:=by have:=an.size;omega
    by_cases h1:r=0
    rotate_left
    .have ae:R=false:=aK.out (fun e=>h1 (by rw[<-bl.out,e];exact Kcz _));have e1:(r != 0)=true:=by rw[bne_iff_ne];exact h1
     have e1':decide (r=0)=false:=jJ h1;go_upto_region 7 with fail
     refine Kaa (by kernel_rfl) (by kernel_rfl) ?_
     repeat (go_big_quiet_step (fail))
     refine ei ?_;rintro w3 ⟨⟨_,ar⟩,rfl⟩;have aC:=Jh (then_ an ar);subst ae;go_wp2_with fail
     go_ret
     exact⟨rfl,by rw[<-HQ.out];exact aC.out⟩
    subst h1;have aQ:aa.labels=ab.labels:=Kdf bl.out
    by_cases h2:sn=sn'
    rotate_left
    .have ae:R=false:=aK.out (fun e=>h2 (by have a:=aV.out.len;have b:=ba.out.len;rw[e]at a;exact a.symm.trans b));have e2:((sn:Int) != (sn':Int))=true:=by rw[bne_iff_ne];omega
     have e2':(sn != sn')=true:=by rw[bne_iff_ne];exact h2
     go_upto_region 7 with fail
     refine Kaa (by kernel_rfl) (by kernel_rfl) ?_
     repeat (go_big_quiet_step (fail))
     refine ei ?_;rintro w3 ⟨⟨_,ar⟩,rfl⟩;have aC:=Jh (then_ an ar);subst ae;go_wp2_with fail
     go_ret
     exact⟨rfl,by rw[<-HQ.out];exact aC.out⟩
    subst h2
    by_cases h3:wn=wn'
    rotate_left
    .have ae:R=false:=aK.out (fun e=>h3 (by have a:=aX.out.len;have b:=bf.out.len;rw[e]at a;exact a.symm.trans b));have e3:((wn:Int) != (wn':Int))=true:=by rw[bne_iff_ne];omega
     have e3':(wn != wn')=true:=by rw[bne_iff_ne];exact h3
     go_upto_region 7 with fail
     refine Kaa (by kernel_rfl) (by kernel_rfl) ?_
     repeat (go_big_quiet_step (fail))
     refine ei ?_;rintro w3 ⟨⟨_,ar⟩,rfl⟩;have aC:=Jh (then_ an ar);subst ae;go_wp2_with fail
     go_ret
     exact⟨rfl,by rw[<-HQ.out];exact aC.out⟩
    subst h3;have a3:=Jh aQ;go_upto_region 7 with fail
    refine Kaa (by kernel_rfl) (by kernel_rfl) ?_
    repeat (go_big_quiet_step (fail))
    refine ei ?_;rintro w3 ⟨⟨_,ar⟩,rfl⟩;have aC:=Jh (then_ an ar);have bc:=Jh (show Below q w w3 by rw[<-HQ.out];exact aC.out);clear aQ ar a1 a2 b1 b2 a0 b0 bt a7 aZ aH;go_upto_block 2 with fail
    go_cut [] (fun wz=>aa.samples=ab.samples/\Below q w wz)
    case first=>
     go_wp2_with fail
     go_loopg [7] sn (fun g s7 wr=>∃k:Nat,k+g=sn/\s7 = .int .i64 (k:Int)/\(∀j,j<k->aa.samples[j]! = ab.samples[j]!)/\Below q w wr)
     case atStart=>exact⟨0,by omega,rfl,fun j hj=>by omega,bc.out⟩
     case round=>
      obtain⟨k,aT,rfl,al,aq⟩:=hrel;have az:=Jh aT;have aj:=Jh al;have ao:=Jh aq;clear aT al aq;obtain⟨wk,rfl⟩:=jG wr;have ad:Below w.heap.size w wk:=by rw[HQ.out];exact ao.out
      have ba1:wk.cell? ⟨b,aN+i*3+1,none⟩=some _:=later ad bo.out;have bb1:wk.cell? ⟨b',ai+i*3+1,none⟩=some _:=later ad bk.out;have a8:b<wk.heap.size:=by have:=ad.size;omega
      have aM:b'<wk.heap.size:=by have:=ad.size;omega
      by_cases hk:k<sn
      .have el:decide (k<sn)=true:=by rw[jH];exact hk
       obtain⟨b1,o1,aI,bA,af⟩:=(aV.out.below ad).get hk;obtain⟨b2,o2,aG,a6,ag⟩:=(ba.out.below ad).get hk
       try dsimp only at aI aG
       subst aI aG;obtain⟨x,hx⟩:∃x,aa.samples[k]! = x:=⟨_,rfl⟩;obtain⟨y,hy⟩:∃y,ab.samples[k]! = y:=⟨_,rfl⟩;rw[hx]at af;rw[hy]at ag;have bB:wk.cell? ⟨b1,o1+k*2,none⟩=some (.int .i64 x.t):=af 0 _ rfl;have bD:wk.cell? ⟨b1,o1+k*2+1,none⟩=some (.int .u64 (x.v:Int)):=af 1 _ rfl;have bC:wk.cell? ⟨b2,o2+k*2,none⟩=some (.int .i64 y.t):=ag 0 _ rfl;have bE:wk.cell? ⟨b2,o2+k*2+1,none⟩=some (.int .u64 (y.v:Int)):=ag 1 _ rfl;have HX:=Jh hx;have HY:=Jh hy;have bh:b1<wk.heap.size:=by have:=ad.size;omega
       have be:b2<wk.heap.size:=by have:=ad.size;omega
       have ay:=Qir x y;obtain⟨dq,aD⟩:=jF (decide (x=y));rw[aD]at ay;have aS:=Jh aD;clear hx hy af ag aD;go_upto_region 12 with fail
       refine Kaa (by kernel_rfl) (by kernel_rfl) ?_
       repeat (go_big_quiet_step (fail))
       refine ei ?_;rintro w5 ⟨⟨_,aL⟩,rfl⟩;have aO:=Jh (ao.out.trans (aL.mono (by have:=ao.out.size;have:=HQ.out;omega)))
       cases dq with
       | false=>
        have ae:R=false:=aK.out (fun e=>jQ aS.out (by rw[<-HX.out,<-HY.out,e]));subst ae;go_wp2_with fail
        go_ret
        exact⟨rfl,aO.out⟩
       | true=>
        have ac:∀j,j<k+1->aa.samples[j]! = ab.samples[j]!:=fun j hj=>by
         by_cases hji:j=k
         .subst hji;rw[HX.out,HY.out];exact jP aS.out
         .exact aj.out j (by omega)
        have ah:=Jh ac;clear ac aL;go_wp2_with fail
        go_roundg (gk - 1)
        case measure=>have:=az.out;omega
        case rel=>exact⟨k+1,by have:=az.out;omega,by go_num,ah.out,aO.out⟩
      .have el:decide (k<sn)=false:=by rw[jK];exact hk
       have am:aa.samples=ab.samples:=Klg (by have h1:aa.samples.length=sn:=aV.out.len;have h2:ab.samples.length=sn:=ba.out.len;omega) (fun j hj=>aj.out j (by have h1:aa.samples.length=sn:=aV.out.len;have:=az.out;omega));have aE:=Jh am;clear am;go_wp2_with fail
       go_meet
       exact⟨aE.out,ao.out⟩
    obtain⟨am,bi⟩:=hcut;obtain⟨ws9,rfl⟩:=jG wc;have aE:=Jh am;have bc:=Jh bi;clear am bi;go_wp2_with fail
    go_loopg [8] wn (fun g s8 wr=>∃k:Nat,k+g=wn/\s8 = .int .i64 (k:Int)/\(∀j,j<k->aa.windows[j]! = ab.windows[j]!)/\Below q w wr)
    case atStart=>exact⟨0,by omega,rfl,fun j hj=>by omega,bc.out⟩
    case round=>
     obtain⟨k,aT,rfl,al,aq⟩:=hrel;have az:=Jh aT;have aj:=Jh al;have ao:=Jh aq;clear aT al aq;obtain⟨wk,rfl⟩:=jG wr;have ad:Below w.heap.size w wk:=by rw[HQ.out];exact ao.out
     have ba2:wk.cell? ⟨b,aN+i*3+2,none⟩=some _:=later ad bn.out;have bb2:wk.cell? ⟨b',ai+i*3+2,none⟩=some _:=later ad bm.out;have a8:b<wk.heap.size:=by have:=ad.size;omega
     have aM:b'<wk.heap.size:=by have:=ad.size;omega
     by_cases hk:k<wn
     .have el:decide (k<wn)=true:=by rw[jH];exact hk
      obtain⟨b1,o1,aI,bA,af⟩:=(aX.out.below ad).get hk;obtain⟨b2,o2,aG,a6,ag⟩:=(bf.out.below ad).get hk
      try dsimp only at aI aG
      subst aI aG;obtain⟨x,hx⟩:∃x,aa.windows[k]! = x:=⟨_,rfl⟩;obtain⟨y,hy⟩:∃y,ab.windows[k]! = y:=⟨_,rfl⟩;rw[hx]at af;rw[hy]at ag;have bB:wk.cell? ⟨b1,o1+k*6,none⟩=some (.int .i64 x.start):=af 0 _ rfl;have bD:wk.cell? ⟨b1,o1+k*6+1,none⟩=some (.int .i64 x.count):=af 1 _ rfl;have cx2:wk.cell? ⟨b1,o1+k*6+2,none⟩=some (.int .u64 (x.sum:Int)):=af 2 _ rfl;have cx3:wk.cell? ⟨b1,o1+k*6+3,none⟩=some (.int .u64 (x.min:Int)):=af 3 _ rfl;have cx4:wk.cell? ⟨b1,o1+k*6+4,none⟩=some (.int .u64 (x.max:Int)):=af 4 _ rfl;have cx5:wk.cell? ⟨b1,o1+k*6+5,none⟩=some (.int .u64 (x.last:Int)):=af 5 _ rfl;have bC:wk.cell? ⟨b2,o2+k*6,none⟩=some (.int .i64 y.start):=ag 0 _ rfl;have bE:wk.cell? ⟨b2,o2+k*6+1,none⟩=some (.int .i64 y.count):=ag 1 _ rfl;have cy2:wk.cell? ⟨b2,o2+k*6+2,none⟩=some (.int .u64 (y.sum:Int)):=ag 2 _ rfl;have cy3:wk.cell? ⟨b2,o2+k*6+3,none⟩=some (.int .u64 (y.min:Int)):=ag 3 _ rfl;have cy4:wk.cell? ⟨b2,o2+k*6+4,none⟩=some (.int .u64 (y.max:Int)):=ag 4 _ rfl;have cy5:wk.cell? ⟨b2,o2+k*6+5,none⟩=some (.int .u64 (y.last:Int)):=ag 5 _ rfl;have HX:=Jh hx;have HY:=Jh hy;have bh:b1<wk.heap.size:=by have:=ad.size;omega
      have be:b2<wk.heap.size:=by have:=ad.size;omega
      have ay:=Qiw x y;obtain⟨dq,aD⟩:=jF (decide (x=y));rw[aD]at ay;have aS:=Jh aD;clear hx hy af ag aD;go_upto_region 17 with fail
      refine Kaa (by kernel_rfl) (by kernel_rfl) ?_
      repeat (go_big_quiet_step (fail))
      refine ei ?_;rintro w5 ⟨⟨_,aL⟩,rfl⟩;have aO:=Jh (ao.out.trans (aL.mono (by have:=ao.out.size;have:=HQ.out;omega)))
      cases dq with
      | false=>
       have ae:R=false:=aK.out (fun e=>jQ aS.out (by rw[<-HX.out,<-HY.out,e]));subst ae;go_wp2_with fail
       go_ret
       exact⟨rfl,aO.out⟩
      | true=>
       have ac:∀j,j<k+1->aa.windows[j]! = ab.windows[j]!:=fun j hj=>by
        by_cases hji:j=k
        .subst hji;rw[HX.out,HY.out];exact jP aS.out
        .exact aj.out j (by omega)
       have ah:=Jh ac;clear ac aL;go_wp2_with fail
       go_roundg (gk - 1)
       case measure=>have:=az.out;omega
       case rel=>exact⟨k+1,by have:=az.out;omega,by go_num,ah.out,aO.out⟩
     .have el:decide (k<wn)=false:=by rw[jK];exact hk
      have am:aa.windows=ab.windows:=Klg (by have h1:aa.windows.length=wn:=aX.out.len;have h2:ab.windows.length=wn:=bf.out.len;omega) (fun j hj=>aj.out j (by have h1:aa.windows.length=wn:=aX.out.len;have:=az.out;omega));have a5:=Jh am;clear am
      have am:aa=ab:=by
       cases aa
       cases ab
       have h1:=a3.out;have h2:=aE.out;have h3:=a5.out;dsimp only at h1 h2 h3;rw[h1,h2,h3]
      have ac:∀j,j<i+1->La[j]! = Lb[j]!:=fun j hj=>by
       by_cases hji:j=i
       .subst hji;rw[aP.out,aU.out,am]
       .exact av.out j (by omega)
      have ah:=Jh ac;clear am ac;go_wp2_with fail
      go_roundg (n - i - 1)
      case measure=>have:=bj.out;omega
      case rel=>exact⟨i+1,by have:=bj.out;omega,by go_num,ah.out,ao.out⟩
   .have el:decide (i<n)=false:=by rw[jK];exact hi
    have ae:R=true:=by rw[<-HR.out,jH];exact Klg (by have:=aW.out;have:=a4.out;omega) (fun j hj=>av.out j (by have:=aW.out;omega))
    subst ae;go_wp2_with fail
    go_ret
    exact⟨rfl,aA.out⟩
 .have ae:R=false:=by
   rw[<-HR.out,jK];intro e;apply hnm;rw[<-aW.out,<-a4.out,e]
  have el:((n:Int) != (m:Int))=true:=by rw[bne_iff_ne];omega
  have el2:(n != m)=true:=by rw[bne_iff_ne];omega
  subst ae;go_enter func25,ntmps25
  go_wp2_with fail
  go_ret
  exact⟨rfl,Below.refl _ _⟩
end
section
open Go.RowKit
attribute [local go_sem ↓] Go.wp_at_zero Go.wp_at_succ
attribute [local go_sem] Later.cell
theorem Klc:(prog.info? 133).map (fun i=>(i.zero,i.size,i.bytes))=some (some (.agg #[.int .i64 0,.int .u64 0]),2,16):=by kernel_rfl
theorem Kld:(prog.info? 136).map (fun i=>(i.zero,i.size,i.bytes))=some (some (.agg #[.int .i64 0,.int .i64 0,.int .u64 0,.int .u64 0,.int .u64 0,.int .u64 0]),6,48):=by kernel_rfl
theorem Klb:(prog.info? 132).map (fun i=>(i.zero,i.size,i.bytes))=some (some (.agg #[.slice none 0 0,.slice none 0 0,.slice none 0 0]),3,72):=by kernel_rfl
structure RSer (B:Nat) (w:World) (h:Hd3) (x:Ser):Prop where
 l:w.ownsRow B 180 2 (.slice h.l.A h.l.n h.l.c) x.labels.length (x.labels.flatMap encLb)
 s:w.ownsRow B 133 2 (.slice h.s.A h.s.n h.s.c) x.samples.length (x.samples.flatMap Kac)
 w:w.ownsRow B 136 6 (.slice h.w.A h.w.n h.w.c) x.windows.length (x.windows.flatMap Kad)
theorem Kbh {w w':World}{B n sz:Nat}{T:TypeId}{v:Value}{xs:List Value}(h:w.ownsRow B T sz v n xs) (hb:Below w.heap.size w w'):w'.ownsRow B T sz v n xs:=
 Qgt h fun g hg=>hb.block g (h.lt g hg).2
theorem RSer.below {w w':World}{B:Nat}{h:Hd3}{x:Ser}(hs:RSer B w h x) (hb:Below w.heap.size w w'):RSer B w' h x:=⟨Kbh hs.l hb,Kbh hs.s hb,Kbh hs.w hb⟩
theorem RSer.mono {w:World}{B B':Nat}{h:Hd3}{x:Ser}(hs:RSer B w h x) (hb:B'<=B):RSer B' w h x:=⟨eg hs.l hb,eg hs.s hb,eg hs.w hb⟩
theorem RSer.grown {w w':World}{B B' n:Nat}{v:Value}{xs:List Value}{h:Hd3}{x:Ser}(hs:RSer B w h x) (hv:w.ownsRow B' 132 3 v n xs) (hg:w.grownBy w' v.ownBlock):RSer B w' h x:=
 ⟨hs.l.kept hg (Kas hs.l hv (by decide)),hs.s.kept hg (Kas hs.s hv (by decide)),hs.w.kept hg (Kas hs.w hv (by decide))⟩
structure SrfAt (q:Nat) (wo:World) (p:Nat) (hl:Hd) (l:List Lb) (vs vw:Value) (xs:List Smp) (ys:List Wnd) (wr:World):Prop where
 b:Blk wr p 132 #[.slice hl.A hl.n hl.c,vs,vw]
 l:wr.ownsRow q 180 2 (.slice hl.A hl.n hl.c) l.length (l.flatMap encLb)
 s:wr.ownsRow q 133 2 vs xs.length (xs.flatMap Kac)
 w:wr.ownsRow q 136 6 vw ys.length (ys.flatMap Kad)
 be:Below q wo wr
 qp:q<=p
end
section
open Go.RowKit
open Lib renaming hid -> Jh
attribute [local go_sem ↓] Go.wp_at_zero Go.wp_at_succ
attribute [local go_sem] Later.cell
theorem RSer.at_ {B:Nat}{w:World}{h:Hd3}{s:Ser}(hs:RSer B w h s):SerAt w h ⟨s.labels,s.samples,s.windows⟩/\h.l.n=s.labels.length/\h.s.n=s.samples.length/\h.w.n=s.windows.length:=by obtain⟨A0,c0,e0,k0,_,m0⟩:=dZ (enc:=encLb) (fun x _=>Kca x) rfl hs.l rfl;obtain⟨A1,c1,e1,k1,_,m1⟩:=dZ (enc:=Kac) (fun _ _=>rfl) rfl hs.s rfl;obtain⟨A2,c2,e2,k2,_,m2⟩:=dZ (enc:=Kad) (fun _ _=>rfl) rfl hs.w rfl;injection e0 with e0 f0 g0;injection e1 with e1 f1 g1;injection e2 with e2 f2 g2;obtain⟨⟨a0,b0,d0⟩,⟨a1,b1,d1⟩,⟨a2,b2,d2⟩⟩:=h;dsimp only at e0 f0 g0 e1 f1 g1 e2 f2 g2;subst e0 f0 g0 e1 f1 g1 e2 f2 g2;exact⟨⟨k0,m0,k1,m1,k2,m2⟩,rfl,rfl,rfl⟩
theorem Qex {w:World}{B n:Nat}{A:Option Addr}{c:Nat}{hs:List Hd3}{L:List Ser}(hl:hs.length=n) (hL:L.length=n) (h:w.ownsRow B 132 3 (.slice A n c) n (hs.flatMap encH3)) (hr:∀(i:Nat) (h:Hd3),hs[i]? = some h->RSer B w h L[i]!):Sers w A n L/\n<=c:=by obtain⟨A',c',e,k,_,m⟩:=dZ (enc:=encH3) (fun _ _=>rfl) rfl h hl;injection e with e _ g;subst e g;exact⟨⟨hs,k,hL,fun i x hx=>((hr i x hx).at_).1⟩,m⟩
theorem RSer.far {w:World}{B:Nat}{h:Hd3}{x:Ser}(hs:RSer B w h x) {p:Addr}(hp:p.block<B) (u:Value):RSer B (w.setCell p u) h x:=⟨Kei hs.l (Khp hs.l hp) u,Kei hs.s (Khp hs.s hp) u,Kei hs.w (Khp hs.w hp) u⟩
structure Kbe (w:World) (A:Option Addr) (n:Nat) (L:List Ser):Prop where
 s:Sers w A n L
 n:L.length<=1073741824
 z:∀s∈L,SerSz s
theorem Kbe.below {w w':World}{A:Option Addr}{n:Nat}{L:List Ser}(h:Kbe w A n L) (hb:Below w.heap.size w w'):Kbe w' A n L:=⟨h.s.below hb,h.n,h.z⟩
theorem Kbe.sz {w:World}{A:Option Addr}{n:Nat}{L:List Ser}(h:Kbe w A n L):∀s∈L,s.samples.length<=1099511627776/\s.windows.length<=1099511627776/\s.labels.length<=1099511627776:=fun s hs=>⟨(h.z s hs).n,(h.z s hs).m,(h.z s hs).l⟩
theorem Klo (a b:Cont) (ha hb:Hd) (w:World) (hA:Kbe w ha.A ha.n a.series) (hB:Kbe w hb.A hb.n b.series) :
  Calls prog 17 #[contV a.res a.frm a.to_ ha,contV b.res b.frm b.to_ hb] w fun e w'=>e = .returned (.bool (decide (a=b)))/\Below w.heap.size w w':=by
 obtain⟨R,hR⟩:=jF (decide (a=b));rw[hR];obtain⟨r,f,t,L⟩:=a;obtain⟨r',f',t',L'⟩:=b;obtain⟨A,n,cc⟩:=ha;obtain⟨B,m,cb⟩:=hb;unfold contV;dsimp only at hA hB |-;have HA:=Jh hA;have HB:=Jh hB;have HR:=Jh hR;clear hA hB hR;go_enter func17,ntmps17
 go_upto_region 1 with fail
 have ad:Below w.heap.size w ((w.alloc (.cells #[.int .i64 r,.int .i64 f,.int .i64 t,.slice A n cc] 34)).alloc (.cells #[.int .i64 r',.int .i64 f',.int .i64 t',.slice B m cb] 34)):=((Below.refl _ _).alloc (da _) _).alloc (by simp) _;have ab:Blk ((w.alloc (.cells #[.int .i64 r,.int .i64 f,.int .i64 t,.slice A n cc] 34)).alloc (.cells #[.int .i64 r',.int .i64 f',.int .i64 t',.slice B m cb] 34)) w.heap.size 34 #[.int .i64 r,.int .i64 f,.int .i64 t,.slice A n cc]:=(ZX _ _ _).alloc _;have aa:Blk ((w.alloc (.cells #[.int .i64 r,.int .i64 f,.int .i64 t,.slice A n cc] 34)).alloc (.cells #[.int .i64 r',.int .i64 f',.int .i64 t',.slice B m cb] 34)) (w.heap.size+1) 34 #[.int .i64 r',.int .i64 f',.int .i64 t',.slice B m cb]:=Blk.newAt (by simp);obtain⟨w1,ak⟩:=jF ((w.alloc (.cells #[.int .i64 r,.int .i64 f,.int .i64 t,.slice A n cc] 34)).alloc (.cells #[.int .i64 r',.int .i64 f',.int .i64 t',.slice B m cb] 34));rw[ak]at ad ab aa |-;have ai:=Jh (HA.out.below ad);have ag:=Jh (HB.out.below ad);have ao:=Jh ad;obtain⟨q,hq⟩:=jF w.heap.size;rw[hq]at ab aa |-;have al:=Jh ab;have am:=Jh aa;have k3:w1.cell? ⟨q,3,none⟩=some (.slice A n cc):=ab.cell 3;have l3:w1.cell? ⟨q+1,3,none⟩=some (.slice B m cb):=aa.cell 3;have HC:=Jh (Ktt L L' A B n m cc cb w1 ai.out.s ag.out.s (by have:=ai.out.n;have:=ai.out.s.len;omega) (by have:=ag.out.n;have:=ag.out.s.len;omega) ai.out.sz ag.out.sz);clear ak ad ab aa hq;go_wp2_with fail
 refine HC.out.mono ?_;rintro _ w2 ⟨rfl,ah⟩;have ab:=al.out.below ah al.out.lt;have aa:=am.out.below ah am.out.lt;have k0:w2.cell? ⟨q,0,none⟩=some (.int .i64 r):=ab.cell 0;have k1:w2.cell? ⟨q,1,none⟩=some (.int .i64 f):=ab.cell 1;have k2:w2.cell? ⟨q,2,none⟩=some (.int .i64 t):=ab.cell 2;have l0:w2.cell? ⟨q+1,0,none⟩=some (.int .i64 r'):=aa.cell 0;have l1:w2.cell? ⟨q+1,1,none⟩=some (.int .i64 f'):=aa.cell 1;have l2:w2.cell? ⟨q+1,2,none⟩=some (.int .i64 t'):=aa.cell 2;have ae:=Jh (then_ ao.out ah);clear ah ab aa k3 l3
 have aj:¬(L=L'/\r=r'/\f=f'/\t=t')->R=false:=fun h=>by rw[<-HR.out,jK];intro e;injection e with e1 e2 e3 e4;exact h ⟨e4,e1,e2,e3⟩
 have af:=Jh aj;clear aj
 by_cases h1:L=L'
 .have e1:decide (L=L')=true:=jL h1;rw[e1]
  by_cases h2:r=r'
  .have e2:(r == r')=true:=by simpa using h2
   have ap:decide (r=r')=true:=jL h2
   by_cases h3:f=f'
   .have e3:(f == f')=true:=by simpa using h3
    have an:decide (f=f')=true:=jL h3
    by_cases h4:t=t'
    .have e4:(t == t')=true:=by simpa using h4
     have aq:decide (t=t')=true:=jL h4;have ac:R=true:=by rw[<-HR.out,jH,h1,h2,h3,h4]
     subst ac;clear h1 h2 h3 h4 e1;go_wp2_with fail
     go_ret
     exact⟨rfl,ae.out⟩
    .have e4:(t == t')=false:=by simpa using h4
     have aq:decide (t=t')=false:=jJ h4;have ac:R=false:=af.out (fun h=>h4 h.2.2.2);subst ac;clear h1 h2 h3 h4 e1;go_wp2_with fail
     go_ret
     exact⟨rfl,ae.out⟩
   .have e3:(f == f')=false:=by simpa using h3
    have an:decide (f=f')=false:=jJ h3;have ac:R=false:=af.out (fun h=>h3 h.2.2.1);subst ac;clear h1 h2 h3 e1;go_wp2_with fail
    go_ret
    exact⟨rfl,ae.out⟩
  .have e2:(r == r')=false:=by simpa using h2
   have ap:decide (r=r')=false:=jJ h2;have ac:R=false:=af.out (fun h=>h2 h.2.1);subst ac;clear h1 h2 e1;go_wp2_with fail
   go_ret
   exact⟨rfl,ae.out⟩
 .have e1:decide (L=L')=false:=jJ h1;rw[e1];have ac:R=false:=af.out (fun h=>h1 h.1);subst ac;clear h1 e1;go_wp2_with fail
  go_ret
  exact⟨rfl,ae.out⟩
end
section
open Go.RowKit
attribute [local go_sem ↓] Go.wp_at_zero Go.wp_at_succ
attribute [local go_sem] Later.cell
section
variable {P : Program}{Q : Exit -> Act -> World -> Prop}
end
def filOf (F0 F1 F2:ByteArray):Fil:=⟨F0.data.toList,F1.data.toList,F2.data.toList⟩
end
section
open Go.RowKit
open Lib renaming hid -> Jh
attribute [local go_sem ↓] Go.wp_at_zero Go.wp_at_succ
attribute [local go_sem] Later.cell
theorem Qdx:(prog.info? 2).map (fun i=>(i.zero,i.size,i.bytes))=some (some (.int .i64 0),1,8):=by kernel_rfl
def Kfe (w a:Wnd) (first:Bool):Nat:=
 if w.start<0\/1125899906842624<w.start then 91 else if first=false/\w.start<=a.start then 90 else if w.count<1\/4611686018427387904<w.count then 110 else 0
theorem Kxx (w a:Wnd) (first:Bool):Kfe w a first=0↔Kee w a first=0:=by
 unfold Kfe Kee
 repeat' split
 all_goals simp
def prevW (W:List Wnd) (i:Nat):Wnd:=if i=0 then wnd0 else W[i - 1]!
theorem Kti (W:List Wnd) (A:Option Addr) (n c i:Nat) (w:World) (hE:Elems w w.heap.size 6 Kad A n W) (hn:n<=1099511627776) (hi:i<n) :
  Calls prog 144 #[.slice A n c,.int .i64 (i:Int)] w fun e w'=>e = .returned (.int .i64 ((Kfe W[i]! (prevW W i) (decide (i=0)):Nat):Int))/\Below w.heap.size w w':=by
 obtain⟨b,ag,rfl,hbl,hg⟩:=hE.get hi;obtain⟨R,hR⟩:=jF (Kfe W[i]! (prevW W i) (decide (i=0)));rw[hR];obtain⟨x,hx⟩:∃x,W[i]! = x:=⟨_,rfl⟩;rw[hx]at hg hR;have e0:w.cell? ⟨b,ag+i*6,none⟩=some _:=hg 0 _ rfl;have e1:w.cell? ⟨b,ag+i*6+1,none⟩=some _:=hg 1 _ rfl;have e2:w.cell? ⟨b,ag+i*6+2,none⟩=some _:=hg 2 _ rfl;have e3:w.cell? ⟨b,ag+i*6+3,none⟩=some _:=hg 3 _ rfl;have e4:w.cell? ⟨b,ag+i*6+4,none⟩=some _:=hg 4 _ rfl;have e5:w.cell? ⟨b,ag+i*6+5,none⟩=some _:=hg 5 _ rfl;have HR:=Jh hR;clear hg hx hR;go_enter func144,ntmps144
 go_upto_region 2 with fail
 have an:Below w.heap.size w (w.alloc (.cells #[.int .i64 x.start,.int .i64 x.count,.int .u64 (x.sum:Int),.int .u64 (x.min:Int),.int .u64 (x.max:Int),.int .u64 (x.last:Int)] 136)):=(Below.refl _ _).alloc (da _) _;have hp:Blk (w.alloc (.cells #[.int .i64 x.start,.int .i64 x.count,.int .u64 (x.sum:Int),.int .u64 (x.min:Int),.int .u64 (x.max:Int),.int .u64 (x.last:Int)] 136)) w.heap.size 136 #[.int .i64 x.start,.int .i64 x.count,.int .u64 (x.sum:Int),.int .u64 (x.min:Int),.int .u64 (x.max:Int),.int .u64 (x.last:Int)]:=ZX _ _ _;obtain⟨w1,aq⟩:=jF (w.alloc (.cells #[.int .i64 x.start,.int .i64 x.count,.int .u64 (x.sum:Int),.int .u64 (x.min:Int),.int .u64 (x.max:Int),.int .u64 (x.last:Int)] 136));obtain⟨p,ao⟩:=jF w.heap.size;rw[aq]at an hp |-;have ah:=Jh an;rw[ao]at hp |-;have HPE:=Jh ao;have q0:w1.cell? ⟨p,0,none⟩=some _:=hp.cell 0;have q1:w1.cell? ⟨p,1,none⟩=some _:=hp.cell 1;have hpl:=hp.lt;have HP:=Jh hp;clear aq ao e0 e1 e2 e3 e4 e5 an hp
 by_cases h1:x.start<0\/1125899906842624<x.start
 .have aa:91=R:=by rw[<-HR.out];unfold Kfe;rw[jN h1]
  have ab:=Jh aa
  by_cases h2:x.start<0
  .have el:decide (x.start<0)=true:=jL h2;clear aa h1;go_wp2_with fail
   go_ret
   rw[<-ab.out];exact⟨rfl,ah.out⟩
  .have el:decide (x.start<0)=false:=jJ h2;have av:decide (1125899906842624<x.start)=true:=jL (h1.resolve_left h2);clear aa h1;go_wp2_with fail
   go_ret
   rw[<-ab.out];exact⟨rfl,ah.out⟩
 .have el:decide (x.start<0)=false:=by rw[jK];omega
  have av:decide (1125899906842624<x.start)=false:=by rw[jK];omega
  cases i with
  | zero=>
   have ai:(if x.count<1\/4611686018427387904<x.count then 110 else 0)=R:=by rw[<-HR.out];unfold Kfe;rw[jM h1,jM (show ¬(decide (0=0)=false/\x.start<=(prevW W 0).start) by simp)]
   have ac:=Jh ai;clear ai h1;go_upto_region 4 with fail
   refine Kaa (by kernel_rfl) (by kernel_rfl) ?_
   repeat (go_big_quiet_step (fail))
   refine ei ?_;rintro w2 ⟨⟨_,af⟩,rfl⟩;have ae:=HP.out.below af HP.out.lt;have q1:w2.cell? ⟨p,1,none⟩=some _:=ae.cell 1;have al:=ae.lt;have ad:=Jh (then_ ah.out af);clear ae af
   by_cases h5:x.count<1
   .have am:decide (x.count<1)=true:=jL h5;have aa:110=R:=by rw[<-ac.out];simp[h5]
    have ab:=Jh aa;clear aa;go_wp2_with fail
    go_ret
    rw[<-ab.out];exact⟨rfl,ad.out⟩
   .have am:decide (x.count<1)=false:=jJ h5
    by_cases h6:4611686018427387904<x.count
    .have ak:decide (4611686018427387904<x.count)=true:=jL h6;have aa:110=R:=by rw[<-ac.out];simp[h6]
     have ab:=Jh aa;clear aa;go_wp2_with fail
     go_ret
     rw[<-ab.out];exact⟨rfl,ad.out⟩
    .have ak:decide (4611686018427387904<x.count)=false:=jJ h6;have aa:0=R:=by rw[<-ac.out];simp[h5,h6]
     have ab:=Jh aa;clear aa;go_wp2_with fail
     go_ret
     rw[<-ab.out];exact⟨rfl,ad.out⟩
  | succ j=>
   obtain⟨b',aw,e',_,aj⟩:=hE.get (i:=j) (by omega);injection e' with e';injection e' with e' e2;subst e' e2;obtain⟨y,hy⟩:∃y,W[j]! = y:=⟨_,rfl⟩;rw[hy]at aj;have ap:prevW W (j+1)=y:=by unfold prevW;rw[jM (by omega),dh];exact hy
   have y0:w1.cell? ⟨b,ag+j*6,none⟩=some _:=later ah.out (aj 0 _ rfl);have ar:b<w1.heap.size:=by have:=ah.out.size;omega
   obtain⟨F,hF⟩:∃F:Bool,decide (x.start<=y.start)=F:=⟨_,rfl⟩
   have ai:(if F=true then 90 else if x.count<1\/4611686018427387904<x.count then 110 else 0)=R:=by rw[<-HR.out];unfold Kfe;rw[jM h1,<-hF,ap];simp
   have ac:=Jh ai;have z1:dV.wrap ((j:Int)+1 - 1)=(j:Int):=by rw[show(j:Int)+1 - 1=(j:Int) by omega];exact eb _ (by omega)
   have z2:(0:Int)<=(j:Int)+1:=by omega
   have z3:((j:Int)+1).toNat=j+1:=by omega
   have z4:(j:Int)+1<(n:Int):=by omega
   have z5:(j:Int)<(n:Int):=by omega
   have z6:decide (0<(j:Int)+1)=true:=by rw[jH];omega
   clear ai h1 aj hy ap;go_upto_region 4 with fail
   refine Kaa (by kernel_rfl) (by kernel_rfl) ?_
   repeat (go_big_quiet_step (fail))
   refine ei ?_;rintro w2 ⟨⟨_,af⟩,rfl⟩;have ae:=HP.out.below af HP.out.lt;have q1:w2.cell? ⟨p,1,none⟩=some _:=ae.cell 1;have al:=ae.lt;have ad:=Jh (then_ ah.out af);clear ae af z1 z2 z3 z4 z5 z6 y0 hF
   cases F with
   | true=>
    have aa:90=R:=by rw[<-ac.out];rfl
    have ab:=Jh aa;clear aa;go_wp2_with fail
    go_ret
    rw[<-ab.out];exact⟨rfl,ad.out⟩
   | false=>
    by_cases h5:x.count<1
    .have am:decide (x.count<1)=true:=jL h5;have aa:110=R:=by rw[<-ac.out];simp[h5]
     have ab:=Jh aa;clear aa;go_wp2_with fail
     go_ret
     rw[<-ab.out];exact⟨rfl,ad.out⟩
    .have am:decide (x.count<1)=false:=jJ h5
     by_cases h6:4611686018427387904<x.count
     .have ak:decide (4611686018427387904<x.count)=true:=jL h6;have aa:110=R:=by rw[<-ac.out];simp[h6]
      have ab:=Jh aa;clear aa;go_wp2_with fail
      go_ret
      rw[<-ab.out];exact⟨rfl,ad.out⟩
     .have ak:decide (4611686018427387904<x.count)=false:=jJ h6;have aa:0=R:=by rw[<-ac.out];simp[h5,h6]
      have ab:=Jh aa;clear aa;go_wp2_with fail
      go_ret
      rw[<-ab.out];exact⟨rfl,ad.out⟩
theorem Kzk (S:List Smp) (W:List Wnd) (SA WA:Option Addr) (sn wn sc wc:Nat) (w:World) (hS:Elems w w.heap.size 2 Kac SA sn S) (hW:Elems w w.heap.size 6 Kad WA wn W) (hs:sn<=1099511627776) (hw:wn<=1099511627776) :
  Calls prog 72 #[.slice SA sn sc,.slice WA wn wc] w fun e w'=>∃A c,e = .returned (.slice A (sn+wn) c)/\w'.ownsRow w.heap.size 2 1 (.slice A (sn+wn) c) (sn+wn) ((S.map Smp.t++W.map eh).map fun z=>ed .i64 z)/\Below w.heap.size w w':=by
 obtain⟨i6,aw,ax,ar,av⟩:=info_parts Qdx;obtain⟨q,hq⟩:=jF w.heap.size;have HQ:=Jh hq;rw[hq];clear hq;go_enter func72,ntmps72
 go_wp2_with fail
 go_loopg [5,6] sn (fun g s5 s6 wr=>∃(i:Nat) (v5:Value),v5=s5/\i+g=sn/\s6 = .int .i64 (i:Int)/\wr.ownsRow q 2 1 v5 (i) (((S.take i).map Smp.t).map fun z=>ed .i64 z)/\Below q w wr)
 case atStart=>exact⟨0,_,rfl,by omega,rfl,dU _ _ _ _,Below.refl _ _⟩
 case round=>
  obtain⟨i,v5,rfl,an,rfl,ab,hB⟩:=hrel;have ai:=Jh an;have ad:=Jh ab;have HB:=Jh hB;clear an hB
  by_cases hi:i<sn
  .have el:decide (i<sn)=true:=by rw[jH];exact hi
   obtain⟨wk,rfl⟩:=jG wr;have ag:Below w.heap.size w wk:=by rw[HQ.out];exact HB.out
   obtain⟨b,aq,rfl,az,hg⟩:=(hS.below ag).get hi;have al:i<S.length:=by have:=hS.len;omega
   obtain⟨x,hx⟩:∃x,S[i]! = x:=⟨_,rfl⟩;rw[hx]at hg;have e0:wk.cell? ⟨b,aq+i*2,none⟩=some _:=hg 0 _ rfl;have ae:S.take (i+1)=S.take i ++ [x]:=by rw[dt al,<-hx,jI _ i al]
   have aA:b<wk.heap.size:=by have:=ag.size;omega
   have aB:q<=wk.heap.size:=by have:=HQ.out;have:=ag.size;omega
   have ap:=Jh ae;clear hx hg ae ag;go_wp2_with (at_builtin;refine ej _ rfl _ _ 125 rfl q 2 i6 (.int .i64 0) 1 8 underlying125 aw ax ar av rfl (by decide) _ _ _ rfl (ab.alloc _) ⟨wk.heap.size,0,none⟩ 1 1 [.int .i64 x.t] rfl rfl (Kam (l:=[.int .i64 x.t]) (ZX wk _ _)) ?p2 ?p3 ?p4 ?p5 ?_)
   case p2=>intro u hu;rw[c9.1 hu];rfl
   case p3=>unfold maxLen;omega
   case p4=>omega
   case p5=>simp;omega
   intro v' w5 hown' hgrow0 _ _;have aa:=(dT wk _ _).trans hgrow0;have aj:Below q w w5:=HB.out.trans ⟨aa.os,aa.tape,aa.output,aa.size,fun j hj=>aa.block j (by omega) (fun e=>by have:=(ad.out.lt j e.symm).1;omega)⟩
   have ac:w5.ownsRow q 2 1 v' (i+1) (((S.take (i+1)).map Smp.t).map fun z=>ed .i64 z):=by rw[ap.out];simpa[dB,dP,dK]using hown'
   have af:=Jh ac;have ao:=Jh aj;clear hown' hgrow0 aa aj ac ab;go_wp2_with fail
   go_roundg (gk - 1)
   case measure=>have:=ai.out;omega
   case rel=>exact⟨i+1,_,rfl,by have:=ai.out;omega,by go_num,af.out,ao.out⟩
  .have el:decide (i<sn)=false:=by rw[jK];exact hi
   have ak:i=sn:=by have:=ai.out;omega
   have ae:S.take i=S:=dv (by have:=hS.len;omega);have ab:=ad.out;rw[ae,ak]at ab;have am:=Jh ab;have aC:=Jh HB.out;clear ab ae ak;go_wp2_with fail
   go_loopg [5,7] wn (fun g s5 s7 wr=>∃(i:Nat) (v5:Value),v5=s5/\i+g=wn/\s7 = .int .i64 (i:Int)/\wr.ownsRow q 2 1 v5 (sn+i) ((S.map Smp.t++(W.take i).map eh).map fun z=>ed .i64 z)/\Below q w wr)
   case atStart=>exact⟨0,_,rfl,by omega,rfl,by simpa using am.out,aC.out⟩
   case round=>
    obtain⟨i,v5,rfl,an,rfl,ab,hB⟩:=hrel;have ai:=Jh an;have ad:=Jh ab;have HB:=Jh hB;clear an hB
    by_cases hi:i<wn
    .have el:decide (i<wn)=true:=by rw[jH];exact hi
     obtain⟨wk,rfl⟩:=jG wr;have ag:Below w.heap.size w wk:=by rw[HQ.out];exact HB.out
     obtain⟨b,aq,rfl,az,hg⟩:=(hW.below ag).get hi;have al:i<W.length:=by have:=hW.len;omega
     obtain⟨x,hx⟩:∃x,W[i]! = x:=⟨_,rfl⟩;rw[hx]at hg;have e0:wk.cell? ⟨b,aq+i*6,none⟩=some _:=hg 0 _ rfl;have ae:W.take (i+1)=W.take i ++ [x]:=by rw[dt al,<-hx,jI _ i al]
     have aA:b<wk.heap.size:=by have:=ag.size;omega
     have aB:q<=wk.heap.size:=by have:=HQ.out;have:=ag.size;omega
     have ap:=Jh ae;clear hx hg ae ag;go_wp2_with (at_builtin;refine ej _ rfl _ _ 125 rfl q 2 i6 (.int .i64 0) 1 8 underlying125 aw ax ar av rfl (by decide) _ _ _ rfl (ab.alloc _) ⟨wk.heap.size,0,none⟩ 1 1 [.int .i64 x.start] rfl rfl (Kam (l:=[.int .i64 x.start]) (ZX wk _ _)) ?p2 ?p3 ?p4 ?p5 ?_)
     case p2=>intro u hu;rw[c9.1 hu];rfl
     case p3=>unfold maxLen;omega
     case p4=>omega
     case p5=>simp;omega
     intro v' w5 hown' hgrow0 _ _;have aa:=(dT wk _ _).trans hgrow0;have aj:Below q w w5:=HB.out.trans ⟨aa.os,aa.tape,aa.output,aa.size,fun j hj=>aa.block j (by omega) (fun e=>by have:=(ad.out.lt j e.symm).1;omega)⟩
     have ac:w5.ownsRow q 2 1 v' (sn+i+1) ((S.map Smp.t++(W.take (i+1)).map eh).map fun z=>ed .i64 z):=by rw[ap.out];simpa[dB,dP,dK]using hown'
     have af:=Jh ac;have ao:=Jh aj;clear hown' hgrow0 aa aj ac ab;go_wp2_with fail
     go_roundg (gk - 1)
     case measure=>have:=ai.out;omega
     case rel=>exact⟨i+1,_,rfl,by have:=ai.out;omega,by go_num,af.out,ao.out⟩
    .have el:decide (i<wn)=false:=by rw[jK];exact hi
     have ak:i=wn:=by have:=ai.out;omega
     have ae:W.take i=W:=dv (by have:=hW.len;omega);have ab:=ad.out;rw[ae,ak]at ab;have ah:=Jh ab;have ay:=Jh HB.out;clear ab ae ak;obtain⟨AF,cF,rfl⟩:=Kah ah.out;go_wp2_with fail
     go_ret
     exact⟨AF,cF,rfl,ah.out,ay.out⟩
theorem Kln {W:List Wnd}{i:Nat}:prevW W (i+1)=W[i]!:=by unfold prevW;rw[jM (by omega),dh]
theorem Qet (W:List Wnd):prevW W 0=wnd0:=rfl
theorem Kdu (v:Nat):(⟨(uintT v).toArray⟩:ByteArray).size<=11:=(Kab v).2
theorem Kqp (W:List Wnd) (A:Option Addr) (n c:Nat) (w:World) (hE:Elems w w.heap.size 6 Kad A n W) (hn:n<=1099511627776) (hv:∀x∈W,Kcn x) :
  Calls prog 71 #[.slice A n c] w fun e w'=>(∃(S:ByteArray) (k:Nat),e = .returned (.tuple #[.string S,.int .i64 (k:Int)])/\(k=0↔Kci wnd0 true W=true))/\Below w.heap.size w w':=by
 have HE:=Jh hE;have HV:=Jh hv;have aI:=Jh hE.len;obtain⟨R,hR⟩:=jF (Kci wnd0 true W);rw[hR];have HR:=Jh hR;have bM:=Jh (fun w=>Kdk n (by omega) w);clear hE hv hR;go_enter func71,ntmps71
 go_wp2_with fail
 refine(bM.out w).mono ?_;rintro _ w1 ⟨rfl,aR⟩;obtain⟨Z,hZ⟩:∃Z:ByteArray,(⟨(uintT n).toArray⟩:ByteArray)=Z:=⟨_,rfl⟩;have hzs:Z.size<=11:=by rw[<-hZ];exact Kdu n
 rw[hZ];go_upto_region 3 with fail
 have aZ:Below w.heap.size w (w1.alloc (.cells #[.int .i64 0,.int .i64 0,.int .u64 0,.int .u64 0,.int .u64 0,.int .u64 0] 136)):=aR.alloc aR.size _;have hp:Blk (w1.alloc (.cells #[.int .i64 0,.int .i64 0,.int .u64 0,.int .u64 0,.int .u64 0,.int .u64 0] 136)) w1.heap.size 136 #[.int .i64 wnd0.start,.int .i64 wnd0.count,.int .u64 (wnd0.sum:Int),.int .u64 (wnd0.min:Int),.int .u64 (wnd0.max:Int),.int .u64 (wnd0.last:Int)]:=ZX _ _ _;obtain⟨w2,a1⟩:=jF (w1.alloc (.cells #[.int .i64 0,.int .i64 0,.int .u64 0,.int .u64 0,.int .u64 0,.int .u64 0] 136));obtain⟨p,aQ⟩:=jF w1.heap.size;have aj:w.heap.size<=p:=by rw[<-aQ];exact aR.size
 rw[a1]at aZ hp
 try rw[a1]
 rw[aQ]at hp
 try rw[aQ]
 have bm:=Jh aZ;have HP:=Jh hp;obtain⟨q,hq⟩:=jF w.heap.size;have HQ:=Jh hq;rw[hq]at bm aj;clear a1 aQ aR aZ hp hZ hq;go_wp2_with fail
 go_loopg [4,6] n (fun g s4 s6 wr=>∃(i:Nat) (Z:ByteArray),i+g=n/\s6 = .int .i64 (i:Int)/\s4 = .string Z/\Z.size<=11+66*i/\Kci (prevW W i) (decide (i=0)) (W.drop i)=R/\(0<=(prevW W i).start/\(prevW W i).start<=1125899906842624/\Kcn (prevW W i))/\Blk wr p 136 #[.int .i64 (prevW W i).start,.int .i64 (prevW W i).count,.int .u64 ((prevW W i).sum:Int),.int .u64 ((prevW W i).min:Int),.int .u64 ((prevW W i).max:Int),.int .u64 ((prevW W i).last:Int)]/\Below q w wr)
 case atStart=>exact⟨0,Z,by omega,rfl,rfl,by omega,HR.out,by rw[Qet];exact Qal,HP.out,bm.out⟩
 case round=>
  obtain⟨i,Z,bv,rfl,rfl,bo,ah,bt,bd,hB⟩:=hrel;have bf:=Jh bv;have br:=Jh bo;have bg:=Jh ah;have ad:=Jh bt;have a3:=Jh bd;have HB:=Jh hB;clear bv bo ah bt bd hB
  by_cases hi:i<n
  .have el:decide (i<n)=true:=by rw[jH];exact hi
   obtain⟨wk,rfl⟩:=jG wr;have ba:Below w.heap.size w wk:=by rw[HQ.out];exact HB.out
   have a0:=(HE.out.below ba).more ba.size;have aO:=Jh (Kti W A n c i wk a0 hn hi);have aP:i<W.length:=by have:=aI.out;omega
   have bq:W.drop i=W[i]! :: W.drop (i+1):=by rw[jI W i aP];exact List.drop_eq_getElem_cons aP
   have ah:=bg.out;rw[bq,Kci]at ah;have bc:=HV.out W[i]! (by rw[jI W i aP];exact de aP);obtain⟨b,ay,hA,hbl,hg⟩:=a0.get hi;subst hA;obtain⟨x,hx⟩:∃x,W[i]! = x:=⟨_,rfl⟩;obtain⟨a,ha⟩:=jF (prevW W i);rw[hx]at ah bc hg aO;rw[ha]at ah ad a3 aO;obtain⟨f,hf⟩:=jF (Kfe x a (decide (i=0)));rw[hf]at aO;have aX:=Kxx x a (decide (i=0));rw[hf]at aX
   have be:f<=110:=by
    rw[<-hf];unfold Kfe
    repeat' split
    all_goals omega
   have aL:=Jh ah;have bi:=Jh aX;have HX:=Jh hx;have ag:=Jh bc;have bO:=Jh ha;have HG:=Jh hg;have bV:q<=wk.heap.size:=by have:=HB.out.size;have:=HQ.out;omega
   clear ah aX hx bc ha hg hf bq a0 ba;go_wp2_with fail
   refine aO.out.mono ?_;rintro _ w3 ⟨rfl,ae⟩;have bl:=Jh (HB.out.trans (ae.mono bV));have ao:=Jh (a3.out.below ae a3.out.lt);have bB:b<w3.heap.size:=by have:=ae.size;omega
   have bK:q<=w3.heap.size:=by have:=ae.size;omega
   have m0:w3.cell? ⟨b,ay+i*6,none⟩=some _:=later ae (HG.out 0 _ rfl);have m1:w3.cell? ⟨b,ay+i*6+1,none⟩=some _:=later ae (HG.out 1 _ rfl);have m2:w3.cell? ⟨b,ay+i*6+2,none⟩=some _:=later ae (HG.out 2 _ rfl);have m3:w3.cell? ⟨b,ay+i*6+3,none⟩=some _:=later ae (HG.out 3 _ rfl);have m4:w3.cell? ⟨b,ay+i*6+4,none⟩=some _:=later ae (HG.out 4 _ rfl);have m5:w3.cell? ⟨b,ay+i*6+5,none⟩=some _:=later ae (HG.out 5 _ rfl);clear ae
   by_cases hf0:f=0
   .subst hf0;have aq:=bi.out.1 rfl;have aC:Kci x false (W.drop (i+1))=R:=by rw[<-aL.out,aq];simp
    obtain⟨⟨k1,k2,k3,k4⟩,k5⟩:=(Kna x a _).1 aq
    have bT:a.start<=x.start:=by
     rcases k5 with h | h
     .have bR:i=0:=jP h;have:=bO.out;rw[bR]at this;rw[<-this];exact k1
     .omega
    have bC:=Jh aC;have bh:=Jh (And.intro k1 k2);clear aq aC k5;go_upto_region 10 with fail
    have aJ:Below w3.heap.size w3 (w3.alloc (.cells #[.int .i64 x.start,.int .i64 x.count,.int .u64 (x.sum:Int),.int .u64 (x.min:Int),.int .u64 (x.max:Int),.int .u64 (x.last:Int)] 136)):=(Below.refl _ _).alloc (da _) _;have hr:Blk (w3.alloc (.cells #[.int .i64 x.start,.int .i64 x.count,.int .u64 (x.sum:Int),.int .u64 (x.min:Int),.int .u64 (x.max:Int),.int .u64 (x.last:Int)] 136)) w3.heap.size 136 #[.int .i64 x.start,.int .i64 x.count,.int .u64 (x.sum:Int),.int .u64 (x.min:Int),.int .u64 (x.max:Int),.int .u64 (x.last:Int)]:=ZX _ _ _;obtain⟨w4,bs⟩:=jF (w3.alloc (.cells #[.int .i64 x.start,.int .i64 x.count,.int .u64 (x.sum:Int),.int .u64 (x.min:Int),.int .u64 (x.max:Int),.int .u64 (x.last:Int)] 136));obtain⟨r,ai⟩:=jF w3.heap.size;have hqr:q<=r:=by omega
    rw[bs]at aJ hr |-;have bx:=Jh (bl.out.trans (aJ.mono bK));have am:=Jh (ao.out.below aJ ao.out.lt);rw[ai]at hr |-;have aT:=Jh hr;have hpr:p≠r:=by have:=ao.out.lt;omega
    have bI:q<=w4.heap.size:=by have:=aJ.size;omega
    clear bs ai hr aJ m0 m1 m2 m3 m4 m5;obtain⟨y0,bW⟩:=jF ((x.start - a.start).toNat);obtain⟨y1,bP⟩:=jF x.count.toNat;have hw0:wrap64 (x.start - a.start)=(y0:Int):=by unfold wrap64;have:=ad.out;omega
    have hu0:dW.wrap (y0:Int)=(y0:Int):=by rw[dX];have:=ad.out;omega
    have aA:x.count=(y1:Int):=by omega
    have hu1:dW.wrap (y1:Int)=(y1:Int):=by rw[dX];omega
    have b6:=Jh (fun w=>Kdk y0 (by have:=ad.out;omega) w);have bH:=Jh (fun w=>Kdk y1 (by omega) w);have bw:=Jh aA;clear bW bP aA k1 k2 k3 k4 bT;have c0:w4.cell? ⟨r,0,none⟩=some (.int .i64 x.start):=aT.out.cell 0;have d0:w4.cell? ⟨p,0,none⟩=some (.int .i64 a.start):=am.out.cell 0;go_wp2_with fail
    refine(b6.out w4).mono ?_;rintro _ w5 ⟨rfl,aF⟩;obtain⟨Y0,a6⟩:∃Y:ByteArray,(⟨(uintT y0).toArray⟩:ByteArray)=Y:=⟨_,rfl⟩;have b4:Y0.size<=11:=by rw[<-a6];exact Kdu _
    rw[a6];have bN:=Jh (bx.out.trans (aF.mono bI));have aG:=Jh (am.out.below aF am.out.lt);have aS:=Jh (aT.out.below aF aT.out.lt);have bJ:q<=w5.heap.size:=by have:=aF.size;omega
    clear aF a6;have c1:w5.cell? ⟨r,1,none⟩=some (.int .i64 (y1:Int)):=(aS.out.cell 1).trans (by rw[<-bw.out];rfl);clear c0 d0;go_wp2_with fail
    refine(bH.out w5).mono ?_;rintro _ w6 ⟨rfl,aB⟩;obtain⟨Y1,a2⟩:∃Y:ByteArray,(⟨(uintT y1).toArray⟩:ByteArray)=Y:=⟨_,rfl⟩;have bD:Y1.size<=11:=by rw[<-a2];exact Kdu _
    rw[a2];have b2:=Jh (bN.out.trans (aB.mono bJ));have ak:=Jh (aG.out.below aB aG.out.lt);have a8:=Jh (aS.out.below aB aS.out.lt);have b3:q<=w6.heap.size:=by have:=aB.size;omega
    clear aB a2;have az:bits .xor .u64 (x.sum:Int) (a.sum:Int)=((x.sum ^^^ a.sum:Nat):Int):=bits_xor_u64_nat _ _ (by have:=ag.out.1;omega) (by have:=ad.out.2.2.1;omega);have an:x.sum ^^^ a.sum<2 ^ 64:=dr ag.out.1 ad.out.2.2.1;obtain⟨y2,bp⟩:=jF (x.sum ^^^ a.sum);rw[bp]at az an;have bG:=Jh (fun w=>Kdk y2 an w);clear c1 bp;have c2:w6.cell? ⟨r,2,none⟩=some (.int .u64 (x.sum:Int)):=a8.out.cell 2;have d2:w6.cell? ⟨p,2,none⟩=some (.int .u64 (a.sum:Int)):=ak.out.cell 2;go_wp2_with fail
    refine(bG.out w6).mono ?_;rintro _ w7 ⟨rfl,aE⟩;obtain⟨Y2,a7⟩:∃Y:ByteArray,(⟨(uintT y2).toArray⟩:ByteArray)=Y:=⟨_,rfl⟩;have bZ:Y2.size<=11:=by rw[<-a7];exact Kdu _
    rw[a7];have bS:=Jh (b2.out.trans (aE.mono b3));have al:=Jh (ak.out.below aE ak.out.lt);have aV:=Jh (a8.out.below aE a8.out.lt);have b1:q<=w7.heap.size:=by have:=aE.size;omega
    clear aE a7;have aK:bits .xor .u64 (x.min:Int) (a.min:Int)=((x.min ^^^ a.min:Nat):Int):=bits_xor_u64_nat _ _ (by have:=ag.out.2.1;omega) (by have:=ad.out.2.2.2.1;omega);have av:x.min ^^^ a.min<2 ^ 64:=dr ag.out.2.1 ad.out.2.2.2.1;obtain⟨y3,bk⟩:=jF (x.min ^^^ a.min);rw[bk]at aK av;have bY:=Jh (fun w=>Kdk y3 av w);clear c2 d2 az an bk;have c3:w7.cell? ⟨r,3,none⟩=some (.int .u64 (x.min:Int)):=aV.out.cell 3;have d3:w7.cell? ⟨p,3,none⟩=some (.int .u64 (a.min:Int)):=al.out.cell 3;go_wp2_with fail
    refine(bY.out w7).mono ?_;rintro _ w8 ⟨rfl,aN⟩;obtain⟨Y3,a4⟩:∃Y:ByteArray,(⟨(uintT y3).toArray⟩:ByteArray)=Y:=⟨_,rfl⟩;have bQ:Y3.size<=11:=by rw[<-a4];exact Kdu _
    rw[a4];have bL:=Jh (bS.out.trans (aN.mono b1));have ax:=Jh (al.out.below aN al.out.lt);have a9:=Jh (aV.out.below aN aV.out.lt);have bF:q<=w8.heap.size:=by have:=aN.size;omega
    clear aN a4;have aM:bits .xor .u64 (x.max:Int) (a.max:Int)=((x.max ^^^ a.max:Nat):Int):=bits_xor_u64_nat _ _ (by have:=ag.out.2.2.1;omega) (by have:=ad.out.2.2.2.2.1;omega);have ar:x.max ^^^ a.max<2 ^ 64:=dr ag.out.2.2.1 ad.out.2.2.2.2.1;obtain⟨y4,bn⟩:=jF (x.max ^^^ a.max);rw[bn]at aM ar;have b5:=Jh (fun w=>Kdk y4 ar w);clear c3 d3 aK av bn;have c4:w8.cell? ⟨r,4,none⟩=some (.int .u64 (x.max:Int)):=a9.out.cell 4;have d4:w8.cell? ⟨p,4,none⟩=some (.int .u64 (a.max:Int)):=ax.out.cell 4;go_wp2_with fail
    refine(b5.out w8).mono ?_;rintro _ w9 ⟨rfl,aH⟩;obtain⟨Y4,aY⟩:∃Y:ByteArray,(⟨(uintT y4).toArray⟩:ByteArray)=Y:=⟨_,rfl⟩;have b0:Y4.size<=11:=by rw[<-aY];exact Kdu _
    rw[aY];have bX:=Jh (bL.out.trans (aH.mono bF));have aw:=Jh (ax.out.below aH ax.out.lt);have aU:=Jh (a9.out.below aH a9.out.lt);have bU:q<=w9.heap.size:=by have:=aH.size;omega
    clear aH aY;have aD:bits .xor .u64 (x.last:Int) (a.last:Int)=((x.last ^^^ a.last:Nat):Int):=bits_xor_u64_nat _ _ (by have:=ag.out.2.2.2;omega) (by have:=ad.out.2.2.2.2.2;omega);have ap:x.last ^^^ a.last<2 ^ 64:=dr ag.out.2.2.2 ad.out.2.2.2.2.2;obtain⟨y5,bj⟩:=jF (x.last ^^^ a.last);rw[bj]at aD ap;have bE:=Jh (fun w=>Kdk y5 ap w);clear c4 d4 aM ar bj;have c5:w9.cell? ⟨r,5,none⟩=some (.int .u64 (x.last:Int)):=aU.out.cell 5;have d5:w9.cell? ⟨p,5,none⟩=some (.int .u64 (a.last:Int)):=aw.out.cell 5;go_wp2_with fail
    refine(bE.out w9).mono ?_;rintro _ ac ⟨rfl,af⟩;obtain⟨Y5,aW⟩:∃Y:ByteArray,(⟨(uintT y5).toArray⟩:ByteArray)=Y:=⟨_,rfl⟩;have bz:Y5.size<=11:=by rw[<-aW];exact Kdu _
    rw[aW];have a5:=Jh (bX.out.trans (af.mono bU));have aa:=Jh (aw.out.below af aw.out.lt);have ab:=Jh (aU.out.below af aU.out.lt);have bA:q<=ac.heap.size:=by have:=af.size;omega
    clear af aW;clear c5 d5 aD ap;have c0:ac.cell? ⟨r,0,none⟩=some _:=ab.out.cell 0;have f0:=aa.out.frozen 0;have g0:ac.cell? ⟨p,0,none⟩=some _:=aa.out.cell 0;have c1:ac.cell? ⟨r,1,none⟩=some _:=ab.out.cell 1;have f1:=aa.out.frozen 1;have g1:ac.cell? ⟨p,1,none⟩=some _:=aa.out.cell 1;have c2:ac.cell? ⟨r,2,none⟩=some _:=ab.out.cell 2;have f2:=aa.out.frozen 2;have g2:ac.cell? ⟨p,2,none⟩=some _:=aa.out.cell 2;have c3:ac.cell? ⟨r,3,none⟩=some _:=ab.out.cell 3;have f3:=aa.out.frozen 3;have g3:ac.cell? ⟨p,3,none⟩=some _:=aa.out.cell 3;have c4:ac.cell? ⟨r,4,none⟩=some _:=ab.out.cell 4;have f4:=aa.out.frozen 4;have g4:ac.cell? ⟨p,4,none⟩=some _:=aa.out.cell 4;have c5:ac.cell? ⟨r,5,none⟩=some _:=ab.out.cell 5;have f5:=aa.out.frozen 5;have g5:ac.cell? ⟨p,5,none⟩=some _:=aa.out.cell 5;have hpl:=aa.out.lt;have hrl:=ab.out.lt;have z0:Z.size<=11+66*1099511627776:=by have:=br.out;omega
    go_wp2_with fail
    go_roundg (gk - 1)
    case measure=>have:=bf.out;omega
    case rel=>
     refine⟨i+1,_,by have:=bf.out;omega,by go_num,rfl,?_,?_,?_,?_,?_⟩
     .simp only[ByteArray.size_append];have:=br.out;omega
     .rw[Kln,HX.out,jJ (by omega)];exact bC.out
     .rw[Kln,HX.out];exact⟨bh.out.1,bh.out.2,ag.out⟩
     .rw[Kln,HX.out];exact(((((aa.out.set_ 0 (.int .i64 x.start)).set_ 1 (.int .i64 x.count)).set_ 2 (.int .u64 (x.sum:Int))).set_ 3 (.int .u64 (x.min:Int))).set_ 4 (.int .u64 (x.max:Int))).set_ 5 (.int .u64 (x.last:Int))
     .exact (((((a5.out.setCell (p:=⟨p,0,none⟩) aj (.int .i64 x.start)).setCell (p:=⟨p,1,none⟩) aj (.int .i64 x.count)).setCell (p:=⟨p,2,none⟩) aj (.int .u64 (x.sum:Int))).setCell (p:=⟨p,3,none⟩) aj (.int .u64 (x.min:Int))).setCell (p:=⟨p,4,none⟩) aj (.int .u64 (x.max:Int))).setCell (p:=⟨p,5,none⟩) aj (.int .u64 (x.last:Int))
   .have ai:R=false:=by
     have h1:=aL.out;have h2:Kee x a (decide (i=0))≠0:=fun h=>hf0 (bi.out.2 h)
     rw[<-h1,jJ h2];rfl
    have ef:((f:Int) != 0)=true:=by simp;omega
    have bb:=Jh ai;clear ai;go_wp2_with fail
    go_ret2
    exact⟨⟨_,_,rfl,by rw[bb.out];exact⟨fun h=>jS h hf0,fun h=>by cases h⟩⟩,by rw[HQ.out];exact bl.out⟩
  .have el:decide (i<n)=false:=by rw[jK];exact hi
   have ai:R=true:=by have h1:=bg.out;rw[List.drop_eq_nil_of_le (by have:=aI.out;omega)]at h1;exact h1.symm
   have bb:=Jh ai;clear ai;go_wp2_with fail
   go_ret2
   exact⟨⟨_,_,rfl,by rw[bb.out];exact⟨fun _=>rfl,fun _=>rfl⟩⟩,by rw[HQ.out];exact HB.out⟩
theorem Kwl:∀l:List Int,riseI l=true↔∀i,i+1<l.length->l[i]! < l[i+1]!
 | []=>by simp[riseI]
 | [_]=>by simp[riseI]
 | a :: b :: l=>by
  rw[riseI,df,jH,Kwl (b :: l)];constructor
  .rintro ⟨h1,h2⟩ i hi
   cases i with
   | zero=>simpa using h1
   | succ i=>simpa using h2 i (by simpa using hi)
  .intro h;refine⟨by simpa using h 0 (by simp),fun i hi=>?_⟩;simpa using h (i+1) (by simpa using hi)
def Kjh (f t:Int) (l:List Int) (k:Nat):Prop:=f<=l[k]!/\l[k]! < t/\(0<k->l[k - 1]! < l[k]!)
theorem Kme {f t:Int}{l:List Int}:Kcp f t l=true↔l≠[]/\∀k,k<l.length->Kjh f t l k:=by
 unfold Kcp;rw[df,df,jH,List.all_eq_true,Kwl];constructor
 .rintro ⟨⟨h1,h2⟩,h3⟩;refine⟨h1,fun k hk=>?_⟩;have h4:=h2 l[k] (de hk);simp only[df,jH]at h4;rw[<-jI l k hk]at h4;refine⟨h4.1,h4.2,fun h0=>?_⟩;have:=h3 (k - 1) (by omega);rwa[show k - 1+1=k by omega]at this
 .rintro ⟨h1,h2⟩;refine⟨⟨h1,fun x hx=>?_⟩,fun i hi=>?_⟩
  .obtain ⟨k,hk,rfl⟩:=cX.1 hx;have h4:=h2 k hk;unfold Kjh at h4;rw[jI l k hk]at h4;simp only[df,jH];exact⟨h4.1,h4.2.1⟩
  .have h4:=(h2 (i+1) hi).2.2 (by omega);rwa[dh]at h4
def Khc (s:Ser):List Int:=s.samples.map Smp.t++s.windows.map eh
def mixB (r:Int) (s:Ser):Bool:=(decide (r=0) && decide (0<s.windows.length)) || (decide (0<r) && decide (0<s.samples.length))
def cmpAt (c:Cont) (i:Nat):Bool:=decide (i=0) || decide (cmpL (c.series[i - 1]!).labels (c.series[i]!).labels<0)
theorem Qin {c:Cont}(h:0<=c.res) (i:Nat):okAt c i=(Kcm (c.series[i]!).labels && (cmpAt c i && (Kci wnd0 true (c.series[i]!).windows && !mixB c.res (c.series[i]!) && Kcp c.frm c.to_ (Khc (c.series[i]!))))):=by unfold okAt cmpAt;rw[Qdq h];rfl
theorem Qdv {w:World}{B n:Nat}{A:Option Addr}{c:Nat}{l:List Int}(h:w.ownsRow B 2 1 (.slice A n c) n (l.map fun z=>ed .i64 z)) (hl:l.length=n) {k:Nat} (hk:k<n):∃g,A=some ⟨g,0,none⟩/\g<w.heap.size/\w.cell? ⟨g,k,none⟩=some (.int .i64 l[k]!):=by
 rcases h.2 with ⟨h1,h0⟩ | ⟨g,cap,cur,h1,_,hg,_⟩
 .omega
 .injection h1 with h1 _ h3;subst h1 h3;refine⟨g,rfl,(Array.getElem?_eq_some_iff.1 hg).1,?_⟩;rw[h.cellAt k (by omega),c8,cV (by omega),jI l k (by omega)];rfl
theorem Qbz (c:Cont) (hd:Hd) (w:World) (hS:Kbe w hd.A hd.n c.series) :
  Calls prog 27 #[contV c.res c.frm c.to_ hd] w fun e w'=>e = .returned (.bool (fitB c))/\Below w.heap.size w w':=by
 obtain⟨R,hR⟩:=jF (fitB c);rw[hR];obtain⟨r,hr⟩:=jF c.res;obtain⟨f,hf⟩:=jF c.frm;obtain⟨t,ht⟩:=jF c.to_;obtain⟨A,n,cc⟩:=hd;have HR:=Jh hR;have bf:=Jh hr;have bz:=Jh hf;have bV:=Jh ht;have bq:=Jh hS;have br:=Jh hS.s.len;have hnz:n<=1073741824:=by have h1:c.series.length=n:=hS.s.len;have:=hS.n;omega
 unfold contV;rw[hr,hf,ht];dsimp only;clear hr hf ht hR hS;go_enter func27,ntmps27
 go_upto_region 1 with fail
 have aZ:Below w.heap.size w (w.alloc (.cells #[.int .i64 r,.int .i64 f,.int .i64 t,.slice A n cc] 34)):=(Below.refl _ _).alloc (da _) _;have aB:Blk (w.alloc (.cells #[.int .i64 r,.int .i64 f,.int .i64 t,.slice A n cc] 34)) w.heap.size 34 #[.int .i64 r,.int .i64 f,.int .i64 t,.slice A n cc]:=ZX _ _ _;obtain⟨w1,b7⟩:=jF (w.alloc (.cells #[.int .i64 r,.int .i64 f,.int .i64 t,.slice A n cc] 34));rw[b7]at aZ aB |-;have ba:=Jh (bq.out.below aZ);obtain⟨q,hq⟩:=jF w.heap.size;rw[hq]at aZ aB |-;have aO:=Jh aZ;have ay:=Jh aB;have HQ:=Jh hq;have k0:w1.cell? ⟨q,0,none⟩=some (.int .i64 r):=aB.cell 0;have k1:w1.cell? ⟨q,1,none⟩=some (.int .i64 f):=aB.cell 1;have k2:w1.cell? ⟨q,2,none⟩=some (.int .i64 t):=aB.cell 2;have cs:=aB.lt
 have aT:¬(0<=r/\r<3/\0<=f/\f<t/\t<=1125899906842625)->R=false:=fun h=>by rw[<-HR.out,dn];intro h2;have:=(Kqq c).1 h2;rw[bf.out,bz.out,bV.out]at this;exact h this.1
 have ad:=Jh aT;clear b7 aZ aB hq aT
 by_cases g1:r<0
 .have e1:decide (r<0)=true:=jL g1;have aa:R=false:=ad.out (by omega);subst aa;go_wp2_with fail
  go_ret
  exact⟨rfl,by rw[HQ.out];exact aO.out⟩
 have e1:decide (r<0)=false:=jJ g1
 by_cases g2:2<r
 .have e2:decide (2<r)=true:=jL g2;have aa:R=false:=ad.out (by omega);subst aa;go_wp2_with fail
  go_ret
  exact⟨rfl,by rw[HQ.out];exact aO.out⟩
 have e2:decide (2<r)=false:=jJ g2
 by_cases g3:f<0
 .have e3:decide (f<0)=true:=jL g3;have aa:R=false:=ad.out (by omega);subst aa;go_wp2_with fail
  go_ret
  exact⟨rfl,by rw[HQ.out];exact aO.out⟩
 have e3:decide (f<0)=false:=jJ g3
 by_cases g4:t<=f
 .have e4:decide (t<=f)=true:=jL g4;have aa:R=false:=ad.out (by omega);subst aa;go_wp2_with fail
  go_ret
  exact⟨rfl,by rw[HQ.out];exact aO.out⟩
 have e4:decide (t<=f)=false:=jJ g4
 by_cases g5:1125899906842625<t
 .have e5:decide (1125899906842625<t)=true:=jL g5;have aa:R=false:=ad.out (by omega);subst aa;go_wp2_with fail
  go_ret
  exact⟨rfl,by rw[HQ.out];exact aO.out⟩
 have e5:decide (1125899906842625<t)=false:=jJ g5
 have aK:R=true↔∀i,i<n->okAt c i=true:=by rw[<-HR.out,Kqq,bf.out,bz.out,bV.out,br.out];exact⟨fun h=>h.2,fun h=>⟨by omega,h⟩⟩
 have bv:=Jh aK
 have cq:∀i,i<n->okAt c i=false->R=false:=fun i hi h=>by rw[dn];intro h2;have:=aK.1 h2 i hi;rw[h]at this;cases this
 have aP:=Jh cq;have b4:=Jh g1;clear aK cq;go_upto_block 0 with fail
 clear k0 k1 k2 e1 e2 e3 e4 e5 g2 g3 g4 g5 g1 cs;go_wp2_with fail
 go_loopg [3] n (fun g s3 wr=>∃i:Nat,i+g=n/\s3 = .int .i64 (i:Int)/\(∀j,j<i->okAt c j=true)/\Below q w wr/\Below w1.heap.size w1 wr)
 case atStart=>exact⟨0,by omega,rfl,fun j hj=>by omega,aO.out,Below.refl _ _⟩
 case round=>
  obtain⟨i,cr,rfl,a9,b5,cb⟩:=hrel;have bt:=Jh cr;have aX:=Jh a9;have bH:=Jh b5;have bA:=Jh cb;clear cr a9 b5 cb;obtain⟨wo,rfl⟩:=jG wr;have bL:=ay.out.below bA.out ay.out.lt;have k3:wo.cell? ⟨q,3,none⟩=some (.slice A n cc):=bL.cell 3;have cJ:=bL.lt;clear bL
  by_cases hi:i<n
  .have el:decide (i<n)=true:=by rw[jH];exact hi
   obtain⟨b,cF,x,rfl,bB,c0,c1,c2,bC⟩:=(ba.out.s.below bA.out).at_ hi;obtain⟨⟨LA,ln,lc⟩,⟨SA,sn,sc⟩,⟨WA,wn,am⟩⟩:=x;have b9:i<c.series.length:=by have:=br.out;omega
   have ce:=bq.out.z c.series[i]! (by rw[jI _ i b9];exact de b9);obtain⟨sr,be⟩:∃sr,c.series[i]! = sr:=⟨_,rfl⟩
   have ac:okAt c i=(Kcm sr.labels && (cmpAt c i && (Kci wnd0 true sr.windows && !mixB r sr && Kcp f t (Khc sr)))):=by rw[Qin (by rw[bf.out];have:=b4.out;omega),be,bf.out,bz.out,bV.out]
   rw[be]at bC ce;have cO:=Jh be;have aI:=Jh ce;have aq:=Jh ac;clear ac be;go_upto_region 7 with fail
   have a0:Below wo.heap.size wo (wo.alloc (.cells #[.slice LA ln lc,.slice SA sn sc,.slice WA wn am] 132)):=(Below.refl _ _).alloc (da _) _;have aQ:Blk (wo.alloc (.cells #[.slice LA ln lc,.slice SA sn sc,.slice WA wn am] 132)) wo.heap.size 132 #[.slice LA ln lc,.slice SA sn sc,.slice WA wn am]:=ZX _ _ _;obtain⟨w4,cn⟩:=jF (wo.alloc (.cells #[.slice LA ln lc,.slice SA sn sc,.slice WA wn am] 132));obtain⟨p,hp⟩:=jF wo.heap.size;rw[cn]at a0 aQ |-;have ar:=bC.below a0;have b0:=Jh (bH.out.trans (a0.mono (by have:=bH.out.size;have:=HQ.out;omega)));have bs:=Jh (then_ bA.out a0);rw[hp]at aQ |-;have cd:=Jh aQ;have bQ:=Jh ar;have s0:w4.cell? ⟨p,0,none⟩=some (.slice LA ln lc):=aQ.cell 0;have hpl:=aQ.lt;obtain⟨V,hV⟩:=jF (Kcm sr.labels);rw[hV]at aq;have cC:ln<=140737488351232:=by have h1:sr.labels.length=ln:=ar.l.len;have:=aI.out.l;omega
   have cv:=Jh (Kwp sr.labels LA ln lc w4 V hV ar.l cC (fun x hx=>by have:=aI.out.z x hx;omega));clear cn hp a0 aQ ar bC c0 c1 c2 hV k3 cJ;go_wp2_with fail
   refine cv.out.mono ?_;rintro _ w5 ⟨rfl,aW⟩;have bS:=Jh (cd.out.below aW cd.out.lt);have aE:=Jh (bQ.out.below aW);have b8:=Jh (b0.out.trans (aW.mono (by have:=b0.out.size;have:=HQ.out;omega)));have bP:=Jh (then_ bs.out aW);have s2:w5.cell? ⟨p,2,none⟩=some (.slice WA wn am):=bS.out.cell 2;have cx:wn<=1099511627776:=by have h1:sr.windows.length=wn:=aE.out.w.len;have:=aI.out.m;omega
   have cy:=Jh (Kqp sr.windows WA wn am w5 aE.out.w cx aI.out.b);clear aW s0;go_wp2_with fail
   refine cy.out.mono ?_;rintro _ w6 ⟨⟨ES,ek,rfl,cl⟩,aS⟩;have bh:=Jh (bS.out.below aS bS.out.lt);have ax:=Jh (aE.out.below aS);have bb:=Jh (b8.out.trans (aS.mono (by have:=b8.out.size;have:=HQ.out;omega)));have an:=Jh (then_ bP.out aS);have b2:=Jh cl;clear aS s2 cl
   cases V with
   | false=>
    have aa:R=false:=aP.out i hi (by rw[aq.out];rfl);subst aa;go_wp2_with fail
    go_ret
    exact⟨rfl,by rw[HQ.out];exact bb.out⟩
   | true=>
    by_cases hek0:ek=0
    rotate_left
    .have aa:R=false:=aP.out i hi (by
      rw[aq.out];have:Kci wnd0 true sr.windows=false:=by rw[dn];exact fun h=>hek0 (b2.out.2 h)
      rw[this]
      simp)
     have ee:((ek:Int) != 0)=true:=by simp;omega
     subst aa;go_wp2_with fail
     go_ret
     exact⟨rfl,by rw[HQ.out];exact bb.out⟩
    .subst hek0;have b6:=b2.out.1 rfl;have ac:=aq.out;rw[b6,dA,dA]at ac;have bc:=Jh ac;clear ac b6;go_upto_region 11 with fail
     have bo:=bh.out;have bO:=bo.lt;have bJ:=ay.out.below an.out ay.out.lt;have k3:w6.cell? ⟨q,3,none⟩=some (.slice (some ⟨b,cF,none⟩) n cc):=bJ.cell 3;have bZ:=bJ.lt;have s0:w6.cell? ⟨p,0,none⟩=some (.slice LA ln lc):=bo.cell 0;clear bo bJ;go_cut [64] (fun s64 wz=>s64 = .bool (decide (0<i))/\w6=wz)
     case first=>
      obtain⟨d0,bw⟩:=jF (decide (0<i));have hd1:decide (0<(i:Int))=d0:=by rw[<-bw];congr 1;exact propext (by omega)
      go_wp2_with fail
      go_meet
      exact⟨by rw[bw],rfl⟩
     obtain⟨rfl,rfl⟩:=hcut
     apply_assumption
     go_cut [] (fun wz=>cmpAt c i=true/\Blk wz p 132 #[.slice LA ln lc,.slice SA sn sc,.slice WA wn am]/\SerAt wz ⟨⟨LA,ln,lc⟩,⟨SA,sn,sc⟩,⟨WA,wn,am⟩⟩ sr/\Below q w wz/\Below w1.heap.size w1 wz)
     case first=>
      cases i with
      | zero=>
       go_wp2_with fail
       go_meet
       exact⟨rfl,bh.out,ax.out,bb.out,an.out⟩
      | succ j=>
       have bw:decide (0<j+1)=true:=by rw[jH];omega
       obtain⟨b',ct,y,aR,cR,d0,d1,d2,bk⟩:=(ba.out.s.below an.out).at_ (i:=j) (by omega);injection aR with aR;injection aR with aR hA2;subst aR hA2;obtain⟨⟨cD,bp,cH⟩,⟨SA',sn',sc'⟩,⟨WA',wn',cS⟩⟩:=y;have b1:j<c.series.length:=by have:=br.out;omega
       have bM:=bq.out.z c.series[j]! (by rw[jI _ j b1];exact de b1);obtain⟨sy,aL⟩:∃s,c.series[j]! = s:=⟨_,rfl⟩;rw[aL]at bk bM;obtain⟨rr,bE⟩:=jF (cmpL sy.labels sr.labels)
       have aU:cmpAt c (j+1)=decide (rr<0):=by unfold cmpAt;rw[dh,aL,cO.out,bE];simp
       have cM:bp<=140737488351232:=by have h1:sy.labels.length=bp:=bk.l.len;have:=bM.l;omega
       have cQ:ln<=140737488351232:=by have h1:sr.labels.length=ln:=ax.out.l.len;have:=aI.out.l;omega
       have cE:=Jh (fun u:Later w6=>Kdo sy.labels sr.labels cD LA bp ln cH lc u.w rr bE ((bk.l.below u.h).more u.h.size) ((ax.out.l.below u.h).more u.h.size) cM cQ);have aV:=Jh aU;have z1:dV.wrap ((j:Int)+1 - 1)=(j:Int):=by rw[show(j:Int)+1 - 1=(j:Int) by omega];exact eb _ (by omega)
       have cw:dV.wrap (((j+1:Nat):Int) - 1)=(j:Int):=by rw[show((j+1:Nat):Int) - 1=(j:Int) by omega];exact eb _ (by omega)
       have z5:(j:Int)<(n:Int):=by omega
       have z6:j<n:=by omega
       clear bE aL aU bk bM d1 d2;go_upto_region 12 with fail
       refine Kaa (by kernel_rfl) (by kernel_rfl) ?_
       repeat (go_big_quiet_step ((go_at_call 69;exact Kaj _ (cE.out _))))
       refine ei ?_;rintro w7 ⟨⟨_,bi⟩,rfl⟩;have cT:=Jh (bh.out.below bi bh.out.lt);have bX:=Jh (ax.out.below bi);have ca:=Jh (bb.out.trans (bi.mono (by have:=bb.out.size;have:=HQ.out;omega)));have bU:=Jh (then_ an.out bi)
       by_cases bR:rr<0
       .have er:decide (0<=rr)=false:=by rw[jK];omega
        go_wp2_with fail
        go_meet
        exact⟨by rw[aV.out];exact jL bR,cT.out,bX.out,ca.out,bU.out⟩
       .have er:decide (0<=rr)=true:=by rw[jH];omega
        have aa:R=false:=aP.out (j+1) hi (by rw[bc.out,aV.out,jJ bR];rfl);subst aa;go_wp2_with fail
        go_ret
        exact⟨rfl,by rw[HQ.out];exact ca.out⟩
     obtain⟨b3,co,a6,cp,aY⟩:=hcut;obtain⟨w8,rfl⟩:=jG wc;have aH:=bc.out;rw[b3,dA]at aH;have a4:=Jh aH;have bT:=Jh co;have ap:=Jh a6;have bG:=Jh cp;have aF:=Jh aY;clear aH b3 co a6 cp aY k3 s0 bZ bO;have bN:=ay.out.below aF.out ay.out.lt;have k0:w8.cell? ⟨q,0,none⟩=some (.int .i64 r):=bN.cell 0;have cP:=bN.lt;have s1:w8.cell? ⟨p,1,none⟩=some (.slice SA sn sc):=bT.out.cell 1;have s2:w8.cell? ⟨p,2,none⟩=some (.slice WA wn am):=bT.out.cell 2;have cz:=bT.out.lt;have aJ:sr.samples.length=sn:=ap.out.s.len;have aC:sr.windows.length=wn:=ap.out.w.len;have ch:mixB r sr=((decide (r=0) && decide (0<wn)) || (decide (0<r) && decide (0<sn))):=by unfold mixB;rw[aJ,aC]
     have cG:=Jh ch;have bK:=Jh aJ;have bY:=Jh aC;have bD:sn<=1099511627776:=by have:=aI.out.n;omega
     have bI:wn<=1099511627776:=by have:=aI.out.m;omega
     have cL:=Jh (Kzk sr.samples sr.windows SA WA sn wn sc am w8 ap.out.s ap.out.w bD bI);clear ch aJ aC bN;have bR:=b4.out;go_upto_region 15 with fail
     go_cut [96] (fun s96 wz=>s96 = .bool (mixB r sr)/\w8=wz)
     case first=>
      have hm:=cG.out;obtain⟨M,hM⟩:=jF (mixB r sr);rw[hM]at hm
      try rw[hM]
      by_cases q1:r=0
      .have e1:(r == 0)=true:=by simpa using q1
       have a5:decide (r=0)=true:=jL q1;have e4:decide (0<r)=false:=by rw[jK];omega
       by_cases q2:0<wn
       .have e2:decide (0<wn)=true:=jL q2;have e3:decide (0<(wn:Int))=true:=by rw[jH];omega
        have aD:M=true:=by rw[hm,a5,e2];rfl
        subst aD;clear hm q1;go_wp2_with fail
        go_meet
        exact⟨by rw[hM],rfl⟩
       .have e2:decide (0<wn)=false:=jJ q2;have e3:decide (0<(wn:Int))=false:=by rw[jK];omega
        have aD:M=false:=by rw[hm,a5,e2,e4];rfl
        subst aD;clear hm q1;go_wp2_with fail
        go_meet
        exact⟨by rw[hM],rfl⟩
      .have e1:(r == 0)=false:=by simpa using q1
       have a5:decide (r=0)=false:=jJ q1;have e4:decide (0<r)=true:=by rw[jH];omega
       by_cases q2:0<sn
       .have e2:decide (0<sn)=true:=jL q2;have e3:decide (0<(sn:Int))=true:=by rw[jH];omega
        have aD:M=true:=by rw[hm,a5,e4,e2];rfl
        subst aD;clear hm;go_wp2_with fail
        go_meet
        exact⟨by rw[hM],rfl⟩
       .have e2:decide (0<sn)=false:=jJ q2;have e3:decide (0<(sn:Int))=false:=by rw[jK];omega
        have aD:M=false:=by rw[hm,a5,e4,e2];rfl
        subst aD;clear hm;go_wp2_with fail
        go_meet
        exact⟨by rw[hM],rfl⟩
     obtain⟨bg,rfl⟩:=hcut
     by_cases hmix:mixB r sr=true
     .have aa:R=false:=aP.out i hi (by rw[a4.out,hmix];simp);rw[hmix]at bg;subst bg;subst aa;go_wp2_with fail
      go_ret
      exact⟨rfl,by rw[HQ.out];exact bG.out⟩
     have ah:mixB r sr=false:=by simpa using hmix
     rw[ah]at bg;subst bg;have aM:=a4.out;rw[ah,Bool.not_false,dA]at aM;have ao:=Jh aM;clear aM hmix ah k0;go_upto_region 17 with fail
     go_wp2_with fail
     refine cL.out.mono ?_;rintro _ w9 ⟨TA,tc,rfl,ci,bl⟩;have bW:=ay.out.below aF.out ay.out.lt;have cm:=Jh (bW.below bl bW.lt);have cf:=Jh (bG.out.trans (bl.mono (by have:=bG.out.size;have:=HQ.out;omega)));have a8:=Jh (then_ aF.out bl);have bm:(Khc sr).length=sn+wn:=by unfold Khc;rw[dy,dj,dj,bK.out,bY.out]
     have aw:w9.ownsRow w8.heap.size 2 1 (.slice TA (sn+wn) tc) (sn+wn) ((Khc sr).map fun z=>ed .i64 z):=ci;obtain⟨T,hT⟩:=jF (Khc sr);obtain⟨tn,bx⟩:=jF (sn+wn);have cB:tn<=2199023255552:=by omega
     have cN:=Jh bx;rw[hT]at aw bm ao;rw[bx]at aw bm;have bF:=Jh aw;have aN:=Jh bm
     try rw[bx]
     clear bl ci aw bm hT s1 s2 bW;go_upto_region 18 with fail
     by_cases ht0:tn=0
     .have aa:R=false:=aP.out i hi (by
       rw[ao.out,dn];intro h
       exact(Kme.1 h).1 (dl (by rw[aN.out,ht0])))
      have e0:((tn:Int) == 0)=true:=by simp[ht0]
      subst aa;go_wp2_with fail
      go_ret
      exact⟨rfl,by rw[HQ.out];exact cf.out⟩
     have e0:((tn:Int) == 0)=false:=by simpa using ht0
     have aA:(∃k,k<tn/\¬Kjh f t T k)->R=false:=fun ⟨k,hk,hno⟩=>aP.out i hi (by
      rw[ao.out,dn];intro h
      exact hno ((Kme.1 h).2 k (by rw[aN.out];exact hk)))
     have aj:=Jh aA;clear aA;go_wp2_with fail
     go_loopg [10] tn (fun g s10 wr=>∃k:Nat,k+g=tn/\s10 = .int .i64 (k:Int)/\(∀j,j<k->Kjh f t T j)/\Below q w wr/\Below w9.heap.size w9 wr)
     case atStart=>exact⟨0,by omega,rfl,fun j hj=>by omega,cf.out,Below.refl _ _⟩
     case round=>
      obtain⟨k,cg,rfl,az,bB,a7⟩:=hrel;have bj:=Jh cg;have af:=Jh az;have ai:=Jh bB;have al:=Jh a7;clear cg az bB a7;obtain⟨wk,rfl⟩:=jG wr
      by_cases hk:k<tn
      .have cK:decide (k<tn)=true:=by rw[jH];exact hk
       have aG:=Kbh bF.out al.out;obtain⟨g,cI,hgl,ck⟩:=Qdv aG aN.out hk;subst cI;have bn:=cm.out.below al.out cm.out.lt;have k1:wk.cell? ⟨q,1,none⟩=some (.int .i64 f):=bn.cell 1;have k2:wk.cell? ⟨q,2,none⟩=some (.int .i64 t):=bn.cell 2;have hqk:=bn.lt;obtain⟨x,hx⟩:∃x,T[k]! = x:=⟨_,rfl⟩;rw[hx]at ck;have HX:=Jh hx;have cA:=Jh aG;clear hx bn aG
       by_cases g1:x<f
       .have a1:decide (x<f)=true:=jL g1;have aa:R=false:=aj.out ⟨k,hk,fun h=>by have:=h.1;rw[HX.out]at this;omega⟩;go_upto_region 23 with fail
        refine Kaa (by kernel_rfl) (by kernel_rfl) ?_
        repeat (go_big_quiet_step (fail))
        refine ei ?_;rintro wz ⟨⟨_,ab⟩,rfl⟩;have av:=Jh (ai.out.trans (ab.mono (by have:=ai.out.size;have:=HQ.out;omega)));subst aa;go_wp2_with fail
        go_ret
        exact⟨rfl,by rw[HQ.out];exact av.out⟩
       have a1:decide (x<f)=false:=jJ g1
       by_cases g2:t<=x
       .have a2:decide (t<=x)=true:=jL g2;have aa:R=false:=aj.out ⟨k,hk,fun h=>by have:=h.2.1;rw[HX.out]at this;omega⟩;go_upto_region 23 with fail
        refine Kaa (by kernel_rfl) (by kernel_rfl) ?_
        repeat (go_big_quiet_step (fail))
        refine ei ?_;rintro wz ⟨⟨_,ab⟩,rfl⟩;have av:=Jh (ai.out.trans (ab.mono (by have:=ai.out.size;have:=HQ.out;omega)));subst aa;go_wp2_with fail
        go_ret
        exact⟨rfl,by rw[HQ.out];exact av.out⟩
       have a2:decide (t<=x)=false:=jJ g2
       cases k with
       | zero=>
        go_upto_region 23 with fail
        refine Kaa (by kernel_rfl) (by kernel_rfl) ?_
        repeat (go_big_quiet_step (fail))
        refine ei ?_;rintro wz ⟨⟨_,ab⟩,rfl⟩;have av:=Jh (ai.out.trans (ab.mono (by have:=ai.out.size;have:=HQ.out;omega)));have ag:=Jh (then_ al.out ab)
        have ae:=Jh (show ∀jj,jj<0+1->Kjh f t T jj from fun j' hj'=>by
         by_cases hjk:j'=0
         .subst hjk;exact⟨by rw[HX.out];omega,by rw[HX.out];omega,fun h=>by omega⟩
         .exact af.out j' (by omega))
        clear ab;go_wp2_with fail
        go_roundg (gk - 1)
        case measure=>have:=bj.out;omega
        case rel=>exact⟨0+1,by have:=bj.out;omega,by first | rfl | go_num,ae.out,av.out,ag.out⟩
       | succ j=>
        obtain⟨g',ak,_,cj⟩:=Qdv cA.out aN.out (k:=j) (by omega);injection ak with ak;injection ak with ak;subst ak;obtain⟨y,hy⟩:∃y,T[j]! = y:=⟨_,rfl⟩;rw[hy]at cj;have HY:=Jh hy;clear hy;have z1:dV.wrap ((j:Int)+1 - 1)=(j:Int):=by rw[show(j:Int)+1 - 1=(j:Int) by omega];exact eb _ (by omega)
        have cw:dV.wrap (((j+1:Nat):Int) - 1)=(j:Int):=by rw[show((j+1:Nat):Int) - 1=(j:Int) by omega];exact eb _ (by omega)
        have z6:decide (0<j+1)=true:=by rw[jH];omega
        have z7:j<tn:=by omega
        have z8:(j:Int)<(tn:Int):=by omega
        by_cases g3:x<=y
        .have a3:decide (x<=y)=true:=jL g3;have aa:R=false:=aj.out ⟨j+1,hk,fun h=>by have h1:=h.2.2 (by omega);rw[HX.out,dh,HY.out]at h1;omega⟩;go_upto_region 23 with fail
         refine Kaa (by kernel_rfl) (by kernel_rfl) ?_
         repeat (go_big_quiet_step (fail))
         refine ei ?_;rintro wz ⟨⟨_,ab⟩,rfl⟩;have av:=Jh (ai.out.trans (ab.mono (by have:=ai.out.size;have:=HQ.out;omega)));subst aa;go_wp2_with fail
         go_ret
         exact⟨rfl,by rw[HQ.out];exact av.out⟩
        have a3:decide (x<=y)=false:=jJ g3;go_upto_region 23 with fail
        refine Kaa (by kernel_rfl) (by kernel_rfl) ?_
        repeat (go_big_quiet_step (fail))
        refine ei ?_;rintro wz ⟨⟨_,ab⟩,rfl⟩;have av:=Jh (ai.out.trans (ab.mono (by have:=ai.out.size;have:=HQ.out;omega)));have ag:=Jh (then_ al.out ab)
        have ae:=Jh (show ∀jj,jj<j+1+1->Kjh f t T jj from fun j' hj'=>by
         by_cases hjk:j'=j+1
         .subst hjk;exact⟨by rw[HX.out];omega,by rw[HX.out];omega,fun h=>by rw[HX.out,dh,HY.out];omega⟩
         .exact af.out j' (by omega))
        clear ab;go_wp2_with fail
        go_roundg (gk - 1)
        case measure=>have:=bj.out;omega
        case rel=>exact⟨j+1+1,by have:=bj.out;omega,by first | rfl | go_num,ae.out,av.out,ag.out⟩
      .have cK:decide (k<tn)=false:=by rw[jK];exact hk
       have bd:okAt c i=true:=by rw[ao.out,Kme];exact⟨fun h=>ht0 (by rw[<-aN.out,h];rfl),fun j hj=>af.out j (by rw[aN.out]at hj;omega)⟩
       have ae:=Jh (show ∀j,j<i+1->okAt c j=true from fun j hj=>by
        by_cases hji:j=i
        .subst hji;exact bd
        .exact aX.out j (by omega))
       have ag:=Jh ((a8.out.trans (al.out.mono (by have:=a8.out.size;omega))));clear bd;go_wp2_with fail
       go_roundg (n - i - 1)
       case measure=>have:=bt.out;omega
       case rel=>exact⟨i+1,by have:=bt.out;omega,by go_num,ae.out,ai.out,ag.out⟩
  .have el:decide (i<n)=false:=by rw[jK];exact hi
   have aa:R=true:=bv.out.2 (fun j hj=>aX.out j (by have:=bt.out;omega));subst aa;go_wp2_with fail
   go_ret
   exact⟨rfl,by rw[HQ.out];exact bH.out⟩
end
section
open Go.RowKit
open List renaming length_append -> Jd
def labsS (S:List (List Lb)):Nat:=(S.map List.length).sum
def labsN (l:List Ser):Nat:=(l.map fun s=>s.labels.length).sum
theorem Qbi (c:Cont):labsS (Kao c)=labsN c.series:=by unfold labsS labsN Kao;rw[dB];rfl
theorem Krp:∀S:List (List Lb),(allS S).length=2*labsS S
 | []=>rfl
 | l :: S=>by have h2:=Krp S;have h3:=Kgk l;unfold allS labsS at *;rw[dz,Jd,cU,cZ];omega
theorem Kwz {S:List (List Lb)}(h:Kga S):(tabT (tabOf S)).length<=11+150*labsS S:=by
 have h1:(tabOf S).length<=2*labsS S:=by refine dc (Kko _) ?_;rw[List.length_mergeSort,Krp];exact da _
 have h3:=Kft 64 (tabOf S) (Kqd h).2;have h4:=(Kab (tabOf S).length).2;unfold tabT;rw[Jd];omega
theorem Kvf (S:List (List Lb)):S.flatten.length=labsS S:=by unfold labsS;rw[List.length_flatten]
theorem Kyg (S:List (List Lb)):(keysOf S).length<=labsS S:=by
 have h1:∀l:List Lb,(l.foldr insK []).length<=l.length:=by
  intro l
  induction l with
  | nil=>exact da _
  | cons y l ih=>rw[List.foldr_cons,db];exact dc (Kns y _) (by omega)
 rw[<-Kvf];exact h1 _
theorem Qbj (T:List (List Lb)) (l:List Lb):labsS (T ++ [l])=labsS T+l.length:=by unfold labsS;rw[dN,List.sum_append,cU,dp,cZ,List.sum_nil];omega
theorem Qcl (K:List Lb) (hK:K.Nodup):∀(n:Nat) (S:List (List Lb)),S.length=n->(K.map fun x=>(Kan S x).length).sum<=labsS S:=by
 intro n
 induction n with
 | zero=>
  intro S h;have h0:S = []:=dl h;subst h0
  have:∀K:List Lb,(K.map fun x=>(Kan [] x).length).sum=0:=by
   intro K
   induction K with
   | nil=>rfl
   | cons y K ih=>rw[cU,cZ,ih];rfl
  rw[this];exact Nat.zero_le _
 | succ n ih=>
  intro S h;have aa:S≠[]:=by intro e;rw[e]at h;cases h
  obtain⟨T,l,rfl⟩:∃T l,S=T ++ [l]:=⟨S.dropLast,S.getLast aa,(List.dropLast_concat_getLast aa).symm⟩;have h1:=ih T (by rw[Jd,dE]at h;omega);have h3:=Knq l K hK
  have e:∀K:List Lb,(K.map fun x=>(Kan (T ++ [l]) x).length).sum=(K.map fun x=>(Kan T x).length).sum+(K.filter fun x=>decide (x∈l)).length:=by
   intro K
   induction K with
   | nil=>rfl
   | cons y K ih=>
    rw[cU,cZ,cU,cZ,ih,Khq,dL]
    by_cases hy:y∈l
    .rw[jN hy,jN (jL hy),Jd,db];simp;omega
    .rw[jM hy,jM (by simpa using hy)];omega
  rw[e,Qbj];omega
theorem Kyk {S:List (List Lb)}(h:Kga S):(Kcx S).length<=11+140*labsS S:=by
 have h1:=(Kab (keysOf S).length).2;have h2:=Kyg S;have h3:=Qcl (keysOf S) ((Kez S).1.imp fun hab e=>by subst e;exact Keo _ hab) S.length S rfl
 have h4:∀K:List Lb,(∀x∈K,x.n.length<=32/\x.v.length<=64)->(K.flatMap (keyT S)).length<=129*K.length+11*(K.map fun x=>(Kan S x).length).sum:=by
  intro K
  induction K with
  | nil=>intro _;simp
  | cons y K ih=>
   intro hk;have k1:=Kvn S y (hk y (by simp));have k2:=ih (fun x hx=>hk x (by simp[hx]));rw[dz,Jd,db,cU,cZ];omega
 have h5:=h4 (keysOf S) (Klf h);unfold Kcx;rw[Jd];omega
theorem Qew (t:List Txt) (s:Ser):(serT t s).length<=33+22*s.labels.length+11*s.samples.length:=by unfold serT;rw[Jd,Jd];have h1:=Qes t s.labels;have h2:=(Kab (Kbf s).length).2;have h3:=Kvz (Kbf s);have h4:=Knc s;omega
theorem Kpw (t:List Txt):∀l:List Ser,(l.flatMap (serT t)).length<=33*l.length+22*labsN l+11*smpsN l
 | []=>by simp[smpsN,labsN]
 | s :: l=>by have h1:=Qew t s;have h2:=Kpw t l;simp only[smpsN,labsN,cU,cZ,dz,Jd,db]at *;omega
theorem Qbc {c:Cont}(h:fitB c=true):(Kcq c).length<=33+312*labsN c.series+33*c.series.length+11*smpsN c.series:=by have hs:=Kst h;have h1:=Kwz hs;have h2:=(Kab c.series.length).2;have h3:=Kpw (tabOf (Kao c)) c.series;have h4:=Kyk hs;rw[Qbi]at h1 h4;unfold Kcq;simp only[Jd];omega
theorem Kxy {c:Cont}(h:fitB c=true) (hn:c.series.length<=1048576) (hm:smpsN c.series+wndsN c.series<=1048576) (hk:labsN c.series<=349525):(sealT (metaB c)).length<=200000000/\(sealT (Kdc c)).length<=200000000/\(sealT (Kcq c)).length<=200000000:=by
 have h1:=Qdp h;have h2:=Qbc h
 have h3:∀l:List UInt8,(sealT l).length=l.length+4:=fun l=>by unfold sealT;rw[Jd];rfl
 rw[h3,h3,h3];omega
end
section
open Go.RowKit
attribute [local go_sem ↓] Go.wp_at_zero Go.wp_at_succ
attribute [local go_sem] Later.cell
structure BEnv (w:World):Prop where
 n:Kea w
 d:DbTab w
theorem BEnv.below {w w':World}(h:BEnv w) (hb:Below w.heap.size w w'):BEnv w':=⟨h.n.below h.n.lt hb,h.d.below hb⟩
theorem Kwq {c:Cont}(h:fitB c=true) (hn:c.series.length<=1048576) (hm:smpsN c.series+wndsN c.series<=1048576) (hk:labsN c.series<=349525):(Kff c).mt.length<=200000000/\(Kff c).ck.length<=200000000/\(Kff c).ix.length<=200000000:=Kxy h hn hm hk
theorem Qcy (c:Cont) (hd:Hd) (w:World) (hS:Kbe w hd.A hd.n c.series) (hE:BEnv w) (hsz:fitB c=true->(Kdc c).length<=35184372088832/\(Kcq c).length<=35184372088832) :
  Calls prog 19 #[contV c.res c.frm c.to_ hd] w fun e w'=>e = .returned (.tuple #[filV (Kdm c),.int .i64 (if fitB c=true then 0 else 190)])/\Below w.heap.size w w':=
 Kxk c hd w hS.s hS.z (by have h1:c.series.length=hd.n:=hS.s.len;have:=hS.n;omega) hE.d hE.n hsz
end
section
open Go.ChangeShapes Go.WideShapes Go.ChangeAt Go.RowKit
theorem Tryz.own:ownKnob prog.godebug=none:=by kernel_rfl
theorem Tryz.laidOut:laidOutB prog=true:=by kernel_rfl
end
section
open Go.ChangeShapes Go.WideShapes Go.ChangeAt Go.RowKit Go.Deep
section
variable {H : Type}{enc : TypeId × Value -> H}{P : Program}{w : World}{base : Nat}{spare : Nat -> Bool}{held : Bool}
theorem Keh {α : Type}[Inhabited α] {t e:TypeId}{sz:Nat}{ea:α->List Value}{Q:DataW H->α->Prop}(ht:P.underlying t=some (.slice e)) (hc:P.cellsOf e=sz) (h0:0<sz) (hz:∀y,(ea y).length=sz)
  (ho:∀(fuel:Nat) (l:List Value) (x:DataW H×List MemPlace),dQ enc P w base spare held fuel e l=some x->∃y,l=ea y/\Q x.1 y)
  {fuel:Nat} {v:Value} {x:DataW H×List MemPlace} (h:dQ enc P w base spare held fuel t [v]=some x) :
  ∃A n c ys,v = .slice A n c/\(A=none->c=0)/\n<=c/\Elems w w.heap.size sz ea A n ys/\∃ds sp,(x.1 = .slice ds sp\/(x.1 = .nil/\ds = []))/\ds.length=ys.length/\∀(i:Nat) d y,ds[i]? = some d->ys[i]? = some y->Q d y:=by
 rcases open_slice ht h with ⟨hcs,hx⟩ | ⟨a,len,cap,m,n,D,Pl,hcs,_,hl,_,hmm,hx,hi⟩
 .simp at hcs;subst hcs;exact⟨none,0,0,[],rfl,fun _=>rfl,da _,ZY,[],[],.inr ⟨by rw[hx],rfl⟩,rfl,fun i d y hd=>by simp at hd⟩
 .simp at hcs;subst hcs;rw[hc]at hi;have hlm:len<=m:=by rw[hmm];split <;> omega
  obtain⟨f,hf⟩:=choose_lt (α:=α) (n:=len) (p:=fun i y=>(∀j u,(ea y)[j]? = some u->w.cell? (a.add (i*sz+j))=some u)/\Q (D i) y) (by
   intro i hlt;obtain⟨cs',ag,ah⟩:=hi i (by omega);obtain⟨y,rfl,hq⟩:=ho _ _ _ ah;obtain⟨_,hcl,ae⟩:=World.cells?_some ag;refine⟨y,fun j u hu=>?_,hq⟩;have hj:j<sz:=by have:=(cW.1 hu).1;rw[hz]at this;exact this
   have:=ae j hj;rw[Go.Deep.add_add]at this
   rw[this,hu])
  refine⟨some a,len,cap,(dJ len).map f,rfl,(fun h=>by cases h),hl,⟨by simp,fun h0'=>?_⟩,(dJ len).map D,_,.inl (by rw[hx]),by simp,fun i d y hd hy=>?_⟩
  .obtain ⟨b,af,ac⟩:=a;have hp:0<(ea (f 0)).length:=by rw[hz];exact h0
   have ad:=(hf 0 h0').1 0 _ (cV hp);have ab:ac=none:=by simpa[Addr.add]using World.cell?_spot ad
   subst ab;refine⟨b,af,rfl,by simpa[Addr.add]using Kdt ad,fun i x hx j u hu=>?_⟩;have aa:i<len:=by have:=(cW.1 hx).1;simpa using this
   have ai:f i=x:=by simpa[aa]using hx
   subst ai;have:=(hf i aa).1 j u hu;rw[add_plain]at this;rw[<-this,Nat.add_assoc]
  .have aa:i<len:=by have:=(cW.1 hd).1;simpa using this
   have h1:D i=d:=by simpa[aa]using hd
   have h2:f i=y:=by simpa[aa]using hy
   rw[<-h1,<-h2];exact(hf i aa).2
end
theorem Kfo {H:Type}(d:DataW H):1<=Rows.uptoBulk d:=by
 cases d with
 | lit l=>cases l <;> simp[Rows.uptoBulk]
 | nil=>simp[Rows.uptoBulk]
 | ptr d=>simp[Rows.uptoBulk]
 | slice elems spare=>simp[Rows.uptoBulk]
 | agg parts=>simp[Rows.uptoBulk]
 | iface t d=>simp[Rows.uptoBulk]
 | map entries=>simp[Rows.uptoBulk]
 | held h=>simp[Rows.uptoBulk]
theorem Qap {H:Type}(l sp:List (DataW H)):Rows.uptoBulkAll l+1<=Rows.uptoBulk (.slice l sp):=by simp only[Rows.uptoBulk];omega
theorem Qfu {H:Type}{l:List (DataW H)}(hk:Rows.uptoSmall H l=true):Rows.uptoBulkAll l<=1048576:=jP hk
theorem Kuo {H α : Type}(mu:α->Nat):∀(ds:List (DataW H)) (ys:List α),ds.length=ys.length->(∀(i:Nat) d y,ds[i]? = some d->ys[i]? = some y->mu y<=Rows.uptoBulk d)->(ys.map mu).sum<=Rows.uptoBulkAll ds
 | [],[],_,_=>by simp
 | d :: ds,y :: ys,hl,h=>by have h1:=h 0 d y rfl rfl;have h2:=Kuo mu ds ys (by simpa using hl) (fun i d' y' hd hy=>h (i+1) d' y' (by simpa using hd) (by simpa using hy));simp only[cU,cZ,Rows.uptoBulkAll];omega
 | [],_ :: _,hl,_=>by simp at hl
 | _ :: _,[],hl,_=>by simp at hl
theorem Keb {H α : Type}(mu:α->Nat) {d:DataW H}{ds sp:List (DataW H)}{ys:List α}(hd:d = .slice ds sp\/(d = .nil/\ds = [])) (hl:ds.length=ys.length) (h:∀(i:Nat) d y,ds[i]? = some d->ys[i]? = some y->mu y<=Rows.uptoBulk d):(ys.map mu).sum+1<=Rows.uptoBulk d:=by
 have:=Kuo mu ds ys hl h;rcases hd with rfl | ⟨rfl,rfl⟩
 .have:=Qap ds sp;omega
 .obtain rfl:ys = []:=dl (by simpa using hl.symm);simp[Rows.uptoBulk]
section
variable {H : Type}{enc : TypeId × Value -> H}{w : World}{base : Nat}{spare : Nat -> Bool}{held : Bool}
theorem Kup:prog.cellsOf 9 = 1:=by kernel_rfl
def litT (s:Txt):DataW H:=.lit (.string s)
theorem Kwg {fuel:Nat}{l:List Value}{x:DataW H×List MemPlace}(h:dQ enc prog w base spare held fuel 9 l=some x):∃s:Txt,l = [txtV s]/\x.1=litT s:=by obtain⟨s,rfl,rfl,_⟩:=DataW.trod_string underlying9 h;exact⟨s.data.toList,rfl,rfl⟩
end
section
variable {H : Type}{enc : TypeId × Value -> H}{w : World}{base : Nat}{spare : Nat -> Bool}{held : Bool}
theorem Krt:prog.cellsOf 99 = 2:=by kernel_rfl
theorem Qgo {fuel:Nat}{l:List Value}{x:DataW H×List MemPlace}(h:dQ enc prog w base spare held fuel 99 l=some x):∃y:Lb,l=encLb y/\x.1 = .agg [litT y.n,litT y.v]:=by
 obtain⟨xs,n,_,hx,ab,aa,hg⟩:=dR underlying99 h;rw[Krt]at ab
 match l,ab,xs,aa with
 | [c0,c1],_,[x0,x1],_=>
  have g0:=hg 0 _ rfl;have g1:=hg 1 _ rfl;simp[Kup]at g0 g1;obtain⟨a,e0,f0⟩:=Kwg g0;obtain⟨b,e1,f1⟩:=Kwg g1;simp at e0 e1;subst e0 e1;refine⟨⟨a,b⟩,rfl,?_⟩;rw[hx];simp[f0,f1]
end
section
variable {H : Type}{enc : TypeId × Value -> H}{w : World}{base : Nat}{spare : Nat -> Bool}{held : Bool}
def Lb.mass (x:Lb):Nat:=x.n.length+x.v.length+3
def massL (l:List Lb):Nat:=(l.map Lb.mass).sum+1
theorem Kli:∀l:List Lb,2*l.length+1<=massL l
 | []=>by simp[massL]
 | x :: l=>by have:=Kli l;simp only[massL,cU,cZ,db,Lb.mass]at *;omega
theorem Qed {l:List Lb}{x:Lb}(h:x∈l):x.n.length<=massL l/\x.v.length<=massL l:=by
 induction l with
 | nil=>cases h
 | cons y l ih=>
  simp only[massL,cU,cZ,Lb.mass]at *;rcases di.1 h with rfl | h
  .omega
  .have:=ih h;omega
theorem Koo:prog.cellsOf 54 = 1:=by kernel_rfl
theorem Klm {fuel:Nat}{v:Value}{x:DataW H×List MemPlace}(h:dQ enc prog w base spare held fuel 54 [v]=some x) :
  ∃A n c l,v = .slice A n c/\n<=c/\Elems w w.heap.size 2 encLb A n l/\massL l<=Rows.uptoBulk x.1:=by
 obtain⟨A,n,c,l,rfl,_,h2,h3,ds,sp,hx,hl,hQ⟩:=Keh (ea:=encLb) (Q:=fun d s=>d = .agg [litT s.n,litT s.v]) underlying54 Krt (by omega) (fun _=>rfl) (fun _ _ _ h=>Qgo h) h;refine⟨A,n,c,l,rfl,h2,h3,Keb Lb.mass hx hl fun i d y hd hy=>?_⟩;rw[hQ i d y hd hy];simp[Rows.uptoBulk,Rows.uptoBulkAll,litT,Lb.mass];omega
theorem Kjg {α : Type}(f:α->Nat):∀{l:List α}{x:α},x∈l->f x<=(l.map f).sum
 | y :: l,x,h=>by
  simp only[cU,cZ];rcases di.1 h with rfl | h
  .omega
  .have:=Kjg f h;omega
end
theorem Kgq:prog.cellsOf 2 = 1:=by kernel_rfl
theorem Kop:prog.cellsOf 100 = 1:=by kernel_rfl
theorem Kon:prog.cellsOf 3 = 1:=by kernel_rfl
theorem Krv:prog.cellsOf 102 = 2:=by kernel_rfl
theorem Krw:prog.cellsOf 135 = 6:=by kernel_rfl
theorem Qas:prog.cellsOf 55 = 1:=by kernel_rfl
theorem Qat:prog.cellsOf 56 = 1:=by kernel_rfl
theorem Kru:prog.cellsOf 58 = 3:=by kernel_rfl
theorem Qar:prog.cellsOf 26 = 1:=by kernel_rfl
theorem Kol:prog.cellsOf 28 = 4:=by kernel_rfl
def i64B (v:Int):Prop:=-9223372036854775808<=v/\v<=9223372036854775807
theorem Krm {n:Int}(h:(Lit.int .i64 n).wf=true):i64B n:=by have h1:dV.min = -9223372036854775808:=rfl;have h2:dV.max=9223372036854775807:=rfl;simp only[Lit.wf,df,jH]at h;unfold i64B;omega
theorem Kmd {z:Int}(h:(Lit.int .u64 z).wf=true):∃n:Nat,z=(n:Int)/\n<2 ^ 64:=by have h1:dW.min=0:=rfl;have h2:dW.max=18446744073709551615:=rfl;simp only[Lit.wf,df,jH]at h;exact⟨z.toNat,by omega,by omega⟩
section
variable {H : Type}{enc : TypeId × Value -> H}{w : World}{base : Nat}{spare : Nat -> Bool}{held : Bool}
theorem Qgq {fuel:Nat}{l:List Value}{x:DataW H×List MemPlace}(h:dQ enc prog w base spare held fuel 102 l=some x):∃y:Smp,l=Kac y/\(y.v<2 ^ 64/\1<=Rows.uptoBulk x.1):=by
 obtain⟨xs,n,_,hx,ab,aa,hg⟩:=dR underlying102 h;rw[Krv]at ab
 match l,ab,xs,aa with
 | [c0,c1],_,[x0,x1],_=>
  have g0:=hg 0 _ rfl;have g1:=hg 1 _ rfl;simp[Kgq,Kop]at g0 g1;obtain⟨a,e0,_,_⟩:=dm underlying2 g0;obtain⟨b,e1,_,wb⟩:=dm underlying100 g1;simp at e0 e1;subst e0 e1;obtain⟨v,rfl,hv⟩:=Kmd wb;exact⟨⟨a,v⟩,rfl,hv,Kfo _⟩
theorem Qgr {fuel:Nat}{l:List Value}{x:DataW H×List MemPlace}(h:dQ enc prog w base spare held fuel 135 l=some x):∃y:Wnd,l=Kad y/\(Kcn y/\1<=Rows.uptoBulk x.1):=by
 obtain⟨xs,n,_,hx,ab,aa,hg⟩:=dR underlying135 h;rw[Krw]at ab
 match l,ab,xs,aa with
 | [c0,c1,c2,c3,c4,c5],_,[x0,x1,x2,x3,x4,x5],_=>
  have g0:=hg 0 _ rfl;have g1:=hg 1 _ rfl;have g2:=hg 2 _ rfl;have g3:=hg 3 _ rfl;have g4:=hg 4 _ rfl;have g5:=hg 5 _ rfl;simp[Kgq,Kop,Kon]at g0 g1 g2 g3 g4 g5;obtain⟨a,e0,_,_⟩:=dm underlying2 g0;obtain⟨b,e1,_,_⟩:=dm underlying3 g1;obtain⟨c,e2,_,wc⟩:=dm underlying100 g2;obtain⟨d,e3,_,wd⟩:=dm underlying100 g3;obtain⟨e,e4,_,we⟩:=dm underlying100 g4;obtain⟨f,e5,_,wf⟩:=dm underlying100 g5;simp at e0 e1 e2 e3 e4 e5;subst e0 e1 e2 e3 e4 e5;obtain⟨c,rfl,hc⟩:=Kmd wc;obtain⟨d,rfl,hd⟩:=Kmd wd;obtain⟨e,rfl,he⟩:=Kmd we;obtain⟨f,rfl,hf⟩:=Kmd wf;exact⟨⟨a,b,c,d,e,f⟩,rfl,⟨hc,hd,he,hf⟩,Kfo _⟩
theorem Khx {α : Type}:∀l:List α,(l.map fun _=>1).sum=l.length
 | []=>rfl
 | x :: l=>by rw[cU,cZ,Khx l,db];omega
theorem Qel {fuel:Nat}{v:Value}{x:DataW H×List MemPlace}(h:dQ enc prog w base spare held fuel 55 [v]=some x) :
  ∃A n c l,v = .slice A n c/\n<=c/\Elems w w.heap.size 2 Kac A n l/\(∀y∈l,y.v<2 ^ 64)/\l.length+1<=Rows.uptoBulk x.1:=by
 obtain⟨A,n,c,l,rfl,_,h2,h3,ds,sp,hx,hl,hQ⟩:=Keh (ea:=Kac) (Q:=fun d (y:Smp)=>y.v<2 ^ 64/\1<=Rows.uptoBulk d) underlying55 Krv (by omega) (fun _=>rfl) (fun _ _ _ h=>Qgq h) h;refine⟨A,n,c,l,rfl,h2,h3,fun y hy=>?_,?_⟩
 .obtain ⟨i,hi,rfl⟩:=cX.1 hy;exact(hQ i (ds[i]'(by omega)) l[i] (cV _) (cV hi)).1
 .have:=Keb (fun _:Smp=>1) hx hl fun i d y hd hy=>(hQ i d y hd hy).2
  rwa[Khx]at this
theorem Qem {fuel:Nat}{v:Value}{x:DataW H×List MemPlace}(h:dQ enc prog w base spare held fuel 56 [v]=some x) :
  ∃A n c l,v = .slice A n c/\n<=c/\Elems w w.heap.size 6 Kad A n l/\(∀y∈l,Kcn y)/\l.length+1<=Rows.uptoBulk x.1:=by
 obtain⟨A,n,c,l,rfl,_,h2,h3,ds,sp,hx,hl,hQ⟩:=Keh (ea:=Kad) (Q:=fun d (y:Wnd)=>Kcn y/\1<=Rows.uptoBulk d) underlying56 Krw (by omega) (fun _=>rfl) (fun _ _ _ h=>Qgr h) h;refine⟨A,n,c,l,rfl,h2,h3,fun y hy=>?_,?_⟩
 .obtain ⟨i,hi,rfl⟩:=cX.1 hy;exact(hQ i (ds[i]'(by omega)) l[i] (cV _) (cV hi)).1
 .have:=Keb (fun _:Wnd=>1) hx hl fun i d y hd hy=>(hQ i d y hd hy).2
  rwa[Khx]at this
def Ser.mass (s:Ser):Nat:=massL s.labels+s.samples.length+s.windows.length+2
structure SerIn (w:World) (y:Hd3) (s:Ser):Prop where
 at_:SerAt w y s
 v:∀x∈s.samples,x.v<2 ^ 64
 b:∀x∈s.windows,Kcn x
theorem Qgp {fuel:Nat}{l:List Value}{x:DataW H×List MemPlace}(h:dQ enc prog w base spare held fuel 58 l=some x):∃y:Hd3,l=encH3 y/\∃s,SerIn w y s/\Ser.mass s<=Rows.uptoBulk x.1:=by
 obtain⟨xs,n,_,hx,ab,aa,hg⟩:=dR underlying58 h;rw[Kru]at ab
 match l,ab,xs,aa with
 | [c0,c1,c2],_,[x0,x1,x2],_=>
  have g0:=hg 0 _ rfl;have g1:=hg 1 _ rfl;have g2:=hg 2 _ rfl;simp[Koo,Qas,Qat]at g0 g1 g2;obtain⟨A0,n0,k0,l0,rfl,a1,a2,a3⟩:=Klm g0;obtain⟨A1,n1,k1,l1,rfl,b1,b2,b3,b4⟩:=Qel g1;obtain⟨A2,n2,k2,l2,rfl,d1,d2,d3,d4⟩:=Qem g2;refine⟨⟨⟨A0,n0,k0⟩,⟨A1,n1,k1⟩,⟨A2,n2,k2⟩⟩,rfl,⟨l0,l1,l2⟩,⟨⟨a2,a1,b2,b1,d2,d1⟩,b3,d3⟩,?_⟩;rw[hx];simp only[cU,dp,Rows.uptoBulk,Rows.uptoBulkAll,Ser.mass];omega
theorem Kpj:∀l:List Lb,3*l.length+1<=massL l
 | []=>by simp[massL]
 | x :: l=>by have:=Kpj l;simp only[massL,cU,cZ,db,Lb.mass]at *;omega
theorem Klj:∀L:List Ser,smpsN L+wndsN L+L.length+3*labsN L<=(L.map Ser.mass).sum
 | []=>by simp[smpsN,wndsN,labsN]
 | s :: L=>by have:=Klj L;have:=Kpj s.labels;simp only[smpsN,wndsN,labsN,cU,cZ,db,Ser.mass]at *;omega
end
end
section
open Go.RowKit
attribute [local go_sem ↓] Go.wp_at_zero Go.wp_at_succ
attribute [local go_sem] Later.cell
structure CSz (c:Cont):Prop where
 n:c.series.length<=1048576
 m:smpsN c.series+wndsN c.series<=1048576
 k:labsN c.series<=349525
 z:∀s∈c.series,SerSz s
structure Built (c:Cont) (S0 S1 S2:ByteArray):Prop where
 f:filOf S0 S1 S2=Kdm c
 z0:S0.size<=200000000
 z1:S1.size<=200000000
 z2:S2.size<=200000000
theorem Kun (c:Cont) (A:Option Addr) (n k:Nat) (w:World) (hS:Kbe w A n c.series) (hc:CSz c) (hE:BEnv w) :
  Calls prog 19 #[.agg #[.int .i64 c.res,.int .i64 c.frm,.int .i64 c.to_,.slice A n k]] w fun e w'=>(∃S0 S1 S2,e = .returned (.tuple #[.agg #[.string S0,.string S1,.string S2],.int .i64 (if fitB c=true then 0 else 190)])/\Built c S0 S1 S2)/\Below w.heap.size w w':=by
 have aa:=fun hf=>Kwq (c:=c) hf hc.n hc.m hc.k
 refine(Qcy c ⟨A,n,k⟩ w hS hE (fun hf=>?_)).mono ?_
 .have h1:=aa hf;have h2:(Kff c).ck=sealT (Kdc c):=rfl;have h3:(Kff c).ix=sealT (Kcq c):=rfl;rw[h2,h3,Ksq,Ksq]at h1;omega
 .rintro e w' ⟨rfl,hb⟩
  have h1:(Kdm c).mt.length<=200000000/\(Kdm c).ck.length<=200000000/\(Kdm c).ix.length<=200000000:=by
   unfold Kdm
   by_cases hf:fitB c=true
   .rw[jN hf];exact aa hf
   .rw[jM hf];exact⟨by decide,by decide,by decide⟩
  refine⟨⟨⟨(Kdm c).mt.toArray⟩,⟨(Kdm c).ck.toArray⟩,⟨(Kdm c).ix.toArray⟩,rfl,⟨rfl,?_,?_,?_⟩⟩,hb⟩
  .exact h1.1
  .exact h1.2.1
  .exact h1.2.2
end
section
open Go.Shelf Go.RowKit Go.Lib Go.Sort
attribute [local go_sem ↓] Go.wp_at_zero Go.wp_at_succ
attribute [local go_sem] Later.cell
section
instance contInC:Inhabited Cont:=⟨⟨0,0,0,[]⟩⟩
structure CH where
 r:Int
 f:Int
 t:Int
 h:Hd
def encCH (x:CH):List Value:=[.int .i64 x.r,.int .i64 x.f,.int .i64 x.t,.slice x.h.A x.h.n x.h.c]
structure Kbv (w:World) (A:Option Addr) (n:Nat) (xs:List CH) (cs:List Cont):Prop where
 e:Elems w w.heap.size 4 encCH A n xs
 l:cs.length=n
 k:∀(i:Nat) (x:CH),xs[i]? = some x->cs[i]!.res=x.r/\cs[i]!.frm=x.f/\cs[i]!.to_=x.t/\Kbe w x.h.A x.h.n cs[i]!.series/\x.h.n<=x.h.c
 z:∀c∈cs,CSz c
 n:n<=1048576
theorem Kbv.below {w w':World}{A:Option Addr}{n:Nat}{xs:List CH}{cs:List Cont}(h:Kbv w A n xs cs) (hb:Below w.heap.size w w'):Kbv w' A n xs cs:=
 ⟨(h.e.below hb).more hb.size,h.l,fun i x hi=>⟨(h.k i x hi).1,(h.k i x hi).2.1,(h.k i x hi).2.2.1,(h.k i x hi).2.2.2.1.below hb,(h.k i x hi).2.2.2.2⟩,h.z,h.n⟩
def outC:List Cont->Int×Int×Int
 | []=>(0,0,0)
 | c :: l=>(c.res,l.foldl (fun a x=>min a x.frm) c.frm,l.foldl (fun a x=>max a x.to_) c.to_)
theorem Qep (l:List Cont) (c:Cont) (h:l≠[]):outC (l ++ [c])=((outC l).1,min (outC l).2.1 c.frm,max (outC l).2.2 c.to_):=by
 cases l with
 | nil=>exact jS rfl h
 | cons x l=>simp[outC,List.foldl_append]
def okAll (cs:List Cont):Bool:=cs.all fun c=>fitB c && decide (c.res=(outC cs).1)
def okFor (r:Int) (cs:List Cont):Bool:=cs.all fun c=>fitB c && decide (c.res=r)
end
end
section
open Go.Shelf Go.RowKit Go.Lib Go.Sort
section
theorem Elems.setOff {α : Type}{w:World}{B sz:Nat}{enc:α->List Value}{A:Option Addr}{n g:Nat}{xs:List α}{t:TypeId}{cs:Array Value}(hE:Elems w B sz enc A n xs) (hb:Blk w g t cs)
  (hno:∀(x:α) (off:Nat),∃(j:Nat) (v:Value),(enc x)[j]? = some v/\cs[off+j]?≠some v) (i:Nat) (u:Value):Elems (w.setCell ⟨g,i,none⟩ u) B sz enc A n xs:=
 ⟨hE.1,fun hn=>by
  obtain⟨b,off,e,ab,hc⟩:=hE.2 hn;obtain⟨x,hx⟩:∃x,xs[0]? = some x:=⟨xs[0]'(by rw[hE.1];exact hn),cV _⟩;obtain⟨j,v,hj,hv⟩:=hno x off
  have aa:b≠g:=by rintro rfl;have h0:=hc 0 x hx j v hj;rw[hb.cell]at h0;exact hv (by simpa using h0)
  exact⟨b,off,e,ab,fun i' x hx j v hv=>(World.cell?_of_block (w:=w) (Below.heap_setCell w _ u b aa)).trans (hc i' x hx j v hv)⟩⟩
theorem Sers.setBox {w:World}{A:Option Addr}{n g:Nat}{L:List Ser}{t:TypeId}{a b c:Int}{Z:Option Addr}{k d:Nat}(h:Sers w A n L) (hb:Blk w g t #[.int .i64 a,.int .i64 b,.int .i64 c,.slice Z k d]) (i:Nat) (u:Value) :
  Sers (w.setCell ⟨g,i,none⟩ u) A n L:=by
 have aa:(w.setCell ⟨g,i,none⟩ u).heap.size=w.heap.size:=by simp[dS]
 obtain⟨hs,h1,h2,h3⟩:=h;refine⟨hs,?_,h2,fun j x hx=>?_⟩
 .rw[aa];refine h1.setOff hb (fun x off=>?_) i u;rcases off with _ | _ | _ | _ | off
  .exact ⟨0,_,rfl,by simp⟩
  .exact ⟨0,_,rfl,by simp⟩
  .exact ⟨0,_,rfl,by simp⟩
  .exact ⟨1,_,rfl,by simp⟩
  .exact ⟨0,_,rfl,by simp⟩
 .have hS:=h3 j x hx;refine⟨?_,hS.lc,?_,hS.sc,?_,hS.wc⟩
  .rw[aa];refine hS.l.setOff hb (fun x off=>⟨0,_,rfl,?_⟩) i u;rcases off with _ | _ | _ | _ | off <;> simp
  .rw[aa];refine hS.s.setOff hb (fun x off=>⟨1,_,rfl,?_⟩) i u;rcases off with _ | _ | _ | _ | off <;> simp
  .rw[aa];refine hS.w.setOff hb (fun x off=>?_) i u;rcases off with _ | _ | _ | _ | off
   .exact ⟨2,_,rfl,by simp⟩
   .exact ⟨2,_,rfl,by simp⟩
   .exact ⟨1,_,rfl,by simp⟩
   .exact ⟨0,_,rfl,by simp⟩
   .exact ⟨0,_,rfl,by simp⟩
theorem Lists.below {w w':World}{A:Option Addr}{n:Nat}{hs:List Hd}{Ls:List (List Ser)}(h:Lists w A n hs Ls) (hb:Below w.heap.size w w'):Lists w' A n hs Ls:=
 ⟨(h.e.below hb).more hb.size,h.l,fun i x hi=>⟨(h.k i x hi).1.below hb,(h.k i x hi).2⟩,h.z⟩
theorem Kbv.lists {w:World}{A:Option Addr}{n:Nat}{xs:List CH}{cs:List Cont}(h:Kbv w A n xs cs) {base c7:Nat}{A7:Option Addr}{t:TypeId}(hR:w.ownsRow base t 1 (.slice A7 n c7) n ((xs.map CH.h).flatMap Kes)) :
  Lists w A7 n (xs.map CH.h) (cs.map dY):=by
 refine⟨?_,by rw[dj,h.l],fun i hd hi=>?_,fun L hL s hs=>?_⟩
 .obtain ⟨A1,c1,e1,hE,_⟩:=dZ (xs:=xs.map CH.h) (enc:=Kes) (fun _ _=>rfl) rfl hR (by rw[dj,h.e.len]);injection e1 with e1 _ _;rw[e1];exact hE
 .rw[c8,dw]at hi;obtain⟨x,hx,rfl⟩:=hi;obtain⟨_,_,_,k4,k5⟩:=h.k i x hx;have aa:i<cs.length:=by rw[h.l,<-h.e.len];exact(cW.1 hx).1
  rw[jI (cs.map dY) i (by simpa using aa),dM];rw[jI cs i aa]at k4;exact⟨k4.s,k5⟩
 .obtain ⟨c,hc,rfl⟩:=c6.1 hL;exact((h.z c hc).z s hs).l
end
end
section
theorem Kwe {α : Type}(k:α->Int) (xs:List α):Kbd k xs (onceL k xs):=by have:=Kfv k xs [] [] (Kbd.nil k);simpa[onceL]using this
theorem Kbd.sub {α : Type}{k:α->Int}{xs l:List α}(h:Kbd k xs l) {x:α}(hx:x∈l):x∈xs:=List.mem_of_find?_eq_some ((h.mem x).1 hx)
theorem Qee {l:List Ser}{L:List Lb}{x:Smp}(h:x∈gS l L):∃s∈l,s.labels=L/\x∈s.samples:=by unfold gS at h;obtain⟨s,hs,hx⟩:=dk.1 h;rw[dD]at hs;exact⟨s,hs.1,by simpa using hs.2,hx⟩
theorem Qef {l:List Ser}{L:List Lb}{x:Wnd}(h:x∈gW l L):∃s∈l,s.labels=L/\x∈s.windows:=by unfold gW at h;obtain⟨s,hs,hx⟩:=dk.1 h;rw[dD]at hs;exact⟨s,hs.1,by simpa using hs.2,hx⟩
theorem Kfp (l:List Ser):IsMrg l (Kae l):=by have:=Kfu l [] [] IsMrg.nil;rw[List.nil_append]at this;exact this
theorem Kcy (x:Ser) (l:List Ser):labsN (x :: l)=x.labels.length+labsN l:=by unfold labsN;simp
theorem Knf (s:Ser):∀out:List Ser,labsN (Kbg out s)<=labsN out+s.labels.length
 | []=>by simp[Kbg,labsN]
 | y :: l=>by
  have i1:=Knf s l;unfold Kbg
  split
  .rw[Kcy,Kcy];dsimp only;omega
  .split
   .rw[Kcy];dsimp only;omega
   .rw[Kcy,Kcy];omega
theorem Kkt:∀l out:List Ser,labsN (l.foldl Kco out)<=labsN out+labsN l
 | [],out=>by simp[labsN]
 | s :: l,out=>by
  have i1:=Kkt l (Kco out s)
  have i2:labsN (Kco out s)<=labsN out+s.labels.length:=by
   unfold Kco
   split
   .exact Knf s out
   .omega
  rw[dO,Kcy];omega
theorem Kth (l:List Ser):labsN (Kae l)<=labsN l:=by have:=Kkt l [];unfold Kae;simpa[labsN]using this
structure SubS (l out:List Ser):Prop where
 lab:∀s∈out,∃x∈l,x.labels=s.labels
 smp:∀s∈out,∀y∈s.samples,∃x∈l,y∈x.samples
 wnd:∀s∈out,∀y∈s.windows,∃x∈l,y∈x.windows
 n:out.length<=l.length
 m:sumS out<=sumS l
 k:labsN out<=labsN l
theorem SubS.trans {a b c:List Ser}(h:SubS a b) (g:SubS b c):SubS a c:=
 ⟨fun s hs=>by obtain⟨x,hx,e⟩:=g.lab s hs;obtain⟨y,hy,e2⟩:=h.lab x hx;exact⟨y,hy,e2.trans e⟩,
  fun s hs y hy=>by obtain⟨x,hx,e⟩:=g.smp s hs y hy;exact h.smp x hx y e,
  fun s hs y hy=>by obtain⟨x,hx,e⟩:=g.wnd s hs y hy;exact h.wnd x hx y e,
  dc g.n h.n,dc g.m h.m,dc g.k h.k⟩
theorem Qik {l out:List Ser}(h:IsMrg l out) {s:Ser}(hs:s∈out):∃x∈l,x.labels=s.labels:=by
 obtain⟨h1,h2,h3⟩:=(h.mem s).1 hs;rcases (Kef s).1 h1 with q | q
 .rw[h2,Kdq]at q;obtain⟨y,hy⟩:=dx q;obtain⟨x,hx,e,_⟩:=Qee hy;exact⟨x,hx,e⟩
 .rw[h3,Kdq]at q;obtain⟨y,hy⟩:=dx q;obtain⟨x,hx,e,_⟩:=Qef hy;exact⟨x,hx,e⟩
theorem Qil {l out:List Ser}(h:IsMrg l out) {s:Ser}(hs:s∈out) {y:Smp}(hy:y∈s.samples):∃x∈l,x.labels=s.labels/\y∈x.samples:=by obtain⟨_,h2,_⟩:=(h.mem s).1 hs;rw[h2]at hy;exact Qee ((Kwe Smp.t _).sub hy)
theorem Qim {l out:List Ser}(h:IsMrg l out) {s:Ser}(hs:s∈out) {y:Wnd}(hy:y∈s.windows):∃x∈l,x.labels=s.labels/\y∈x.windows:=by obtain⟨_,_,h3⟩:=(h.mem s).1 hs;rw[h3]at hy;exact Qef ((Kwe eh _).sub hy)
theorem Khh (l:List Ser):SubS l (Kae l):=
 ⟨fun _ hs=>Qik (Kfp l) hs,fun _ hs _ hy=>by obtain⟨x,hx,_,e⟩:=Qil (Kfp l) hs hy;exact⟨x,hx,e⟩,
  fun _ hs _ hy=>by obtain⟨x,hx,_,e⟩:=Qim (Kfp l) hs hy;exact⟨x,hx,e⟩,Khg l,Kfd l,Kth l⟩
theorem Knw {fS:Ser->Smp->Bool}{fW:Ser->Wnd->Bool}{l:List Ser}{s:Ser}(h:s∈keptF fS fW l):∃x∈l,s=keepS fS fW x/\Kaq s=true:=by unfold keptF at h;rw[dD,c6]at h;obtain⟨⟨x,hx,e⟩,hg⟩:=h;exact⟨x,hx,e.symm,hg⟩
theorem Kzz (fS:Ser->Smp->Bool) (fW:Ser->Wnd->Bool):∀l:List Ser,(keptF fS fW l).length<=l.length/\sumS (keptF fS fW l)<=sumS l/\labsN (keptF fS fW l)<=labsN l
 | []=>by simp[keptF,sumS,labsN]
 | x :: l=>by
  obtain⟨i1,i2,i3⟩:=Kzz fS fW l;have h1:(x.samples.filter (fS x)).length<=x.samples.length:=dF _ _;have h2:(x.windows.filter (fW x)).length<=x.windows.length:=dF _ _
  have e:keptF fS fW (x :: l)=if Kaq (keepS fS fW x)=true then keepS fS fW x :: keptF fS fW l else keptF fS fW l:=by unfold keptF;rw[cU,dL]
  rw[e]
  split
  .rw[Kbq,Kbq,Kcy,Kcy];refine⟨by simp only[db];omega,?_,?_⟩
   .unfold keepS;dsimp only;omega
   .unfold keepS;dsimp only;omega
  .rw[Kbq,Kcy];exact⟨by simp only[db];omega,by omega,by omega⟩
theorem Kvm (fS:Ser->Smp->Bool) (fW:Ser->Wnd->Bool) (l:List Ser):SubS l (keptF fS fW l):=by
 obtain⟨h1,h2,h3⟩:=Kzz fS fW l;refine⟨fun s hs=>?_,fun s hs y hy=>?_,fun s hs y hy=>?_,h1,h2,h3⟩
 .obtain ⟨x,hx,rfl,_⟩:=Knw hs;exact⟨x,hx,rfl⟩
 .obtain ⟨x,hx,rfl,_⟩:=Knw hs;exact⟨x,hx,(dg.1 hy).1⟩
 .obtain ⟨x,hx,rfl,_⟩:=Knw hs;exact⟨x,hx,(dg.1 hy).1⟩
theorem SubS.nil (l:List Ser):SubS l []:=⟨fun s h=>by simp at h,fun s h=>by simp at h,fun s h=>by simp at h,by simp,by simp[sumS],by simp[labsN]⟩
theorem Ksv (r:Int) (ghs:List (Hd4×GoneP)) (l:List Ser):SubS l (Kbn r ghs l):=by
 unfold Kbn
 split
 .exact Kvm _ _ l
 .exact SubS.nil l
theorem Kjy (l:List Ser):sumS l=smpsN l+wndsN l:=by
 induction l with
 | nil=>rfl
 | cons x l ih=>
  rw[Kbq,ih];unfold smpsN wndsN;simp only[cU,cZ];omega
theorem CSz.of_sub {l out:List Ser}{r f t:Int}(h:SubS l out) (hz:∀s∈l,SerSz s) (hn:l.length<=1048576) (hm:sumS l<=1048576) (hk:labsN l<=349525):CSz ⟨r,f,t,out⟩:=by
 refine⟨dc h.n hn,?_,dc h.k hk,fun s hs=>?_⟩
 .have:=Kjy out;have:=h.m;dsimp only;omega
 .have h1:s.samples.length+s.windows.length<=sumS out:=Khm hs;have h2:=h.m;obtain⟨x,hx,e⟩:=h.lab s hs;refine⟨by omega,by omega,by rw[<-e];exact(hz x hx).l,fun y hy=>?_,fun y hy=>?_,by rw[<-e];exact(hz x hx).z⟩
  .obtain ⟨z,aa,e'⟩:=h.smp s hs y hy;exact(hz z aa).v y e'
  .obtain ⟨z,aa,e'⟩:=h.wnd s hs y hy;exact(hz z aa).b y e'
end
section
open Go.Shelf Go.RowKit Go.Lib Go.Sort
open Lib renaming hid -> Jh
open List renaming length_append -> Jd
attribute [local go_sem ↓] Go.wp_at_zero Go.wp_at_succ
attribute [local go_sem] Later.cell
section
structure SSz (l:List Ser):Prop where
 n:l.length<=1048576
 m:sumS l<=1048576
 k:labsN l<=349525
 z:∀s∈l,SerSz s
theorem SSz.sub {l out:List Ser}(h:SSz l) (hs:SubS l out):SSz out:=by refine⟨dc hs.n h.n,dc hs.m h.m,dc hs.k h.k,?_⟩;exact(CSz.of_sub (r:=0) (f:=0) (t:=0) hs h.z h.n h.m h.k).z
theorem SSz.csz {l:List Ser}(h:SSz l) (r f t:Int):CSz ⟨r,f,t,l⟩:=⟨h.n,by have h1:=h.m;rw[Kjy]at h1;exact h1,h.k,h.z⟩
theorem SSz.sersz {w:World}{A:Option Addr}{n:Nat}{l:List Ser}(h:SSz l) (hs:Sers w A n l):SersZ w A n l:=by have hn:=h.n;refine⟨hs,fun s hm=>?_,by rw[<-hs.len];omega⟩;have h1:=Khm hm;have h2:=h.m;exact⟨(h.z s hm).l,by omega,by omega⟩
theorem SSz.ok {w:World}{A:Option Addr}{n:Nat}{l:List Ser}(h:SSz l) (hs:Sers w A n l):Kbe w A n l:=⟨hs,by have:=h.n;omega,h.z⟩
def allF (res:Int) (ss:List Ser):List Ser:=Kbn res [] (Kae ss)
def clipF (a b:Int) (l:List Ser):List Ser:=keptF (fun _ x=>inR a b x.t) (fun _ x=>inR a b x.start) l
def Kcd (res width:Int) (l:List Ser) (f:Int):Cont:=⟨res,f,min (f+width) 1125899906842625,clipF f (min (f+width) 1125899906842625 - 1) l⟩
theorem Qhs (res:Int) (ss:List Ser):SubS ss (allF res ss):=(Khh ss).trans (Ksv res [] _)
theorem Qgn {T:TypeId}{w:World}{A:Option Addr}{n c:Nat}{ss:List Ser}(h:Sers w A n ss) (hc:n<=c) (hz:∀s∈ss,s.labels.length<=1099511627776) {w1:World}(hw1:w1=w.alloc (.cells #[.slice A n c] T)) :
  Lists w1 (some ⟨w.heap.size,0,none⟩) 1 [⟨A,n,c⟩] [ss]:=by
 have hb:Below w.heap.size w w1:=by rw[hw1];exact(Below.refl _ _).alloc (da _) _
 have hB:Blk w1 w.heap.size T #[.slice A n c]:=by rw[hw1];exact ZX _ _ _
 refine⟨⟨rfl,fun _=>⟨w.heap.size,0,rfl,hB.lt,fun i x hx j v hv=>?_⟩⟩,rfl,fun i hd hi=>?_,fun L hL s hs=>?_⟩
 .cases i with
  | zero=>
   simp only[cY,ec]at hx;subst hx;rw[hB.cell];simpa[Kes]using hv
  | succ i=>simp at hx
 .cases i with
  | zero=>
   simp only[cY,ec]at hi;subst hi;exact⟨h.below hb,hc⟩
  | succ i=>simp at hi
 .rw[c9]at hL;subst hL;exact hz s hs
theorem Qez {width:Int}(hw:1<=width) {ts L:List Int}(h:Kfn width ts L) {x:Int}(hx:x∈L):0<=x/\x<=1125899906842624:=by obtain⟨t,ht,rfl⟩:=c6.1 ((h.mem x).1 hx);have:=Kix.1 (dg.1 ht).2;have:=Kmk t width this.1 hw;omega
theorem Qci {width:Int}{ts L:List Int}(h:Kfn width ts L):L.length<=ts.length:=by refine dc (Kig L (Kcc width ts) ?_ fun x hx=>(h.mem x).1 hx) (Keu width ts);exact h.asc.imp fun hab e=>by omega
theorem Qbd:(prog.info? 28).map (fun i=>(i.zero,i.size,i.bytes))=some (some (.agg #[.int .i64 0,.int .i64 0,.int .i64 0,.slice none 0 0]),4,48):=by kernel_rfl
structure Gath (w:World) (q:Nat) (v:Value) (xs:List CH) (cs:List Cont):Prop where
 row:w.ownsRow q 28 4 v xs.length (xs.flatMap encCH)
 l:cs.length=xs.length
 k:∀(i:Nat) (x:CH),xs[i]? = some x->(cs[i]!.res=x.r/\cs[i]!.frm=x.f/\cs[i]!.to_=x.t)/\SSz cs[i]!.series/\∃B,Kbm w B x.h.A x.h.n x.h.c cs[i]!.series
theorem Gath.nil (w:World) (q:Nat):Gath w q (.slice none 0 0) [] []:=⟨dU _ _ _ _,rfl,fun i x h=>by simp at h⟩
theorem Gath.below {w w':World}{q:Nat}{v:Value}{xs:List CH}{cs:List Cont}(h:Gath w q v xs cs) (hb:Below w.heap.size w w'):Gath w' q v xs cs:=
 ⟨Kat h.row hb,h.l,fun i x hi=>⟨(h.k i x hi).1,(h.k i x hi).2.1,by obtain⟨B,h1⟩:=(h.k i x hi).2.2;exact⟨B,h1.below hb⟩⟩⟩
theorem Gath.more {w w':World}{q:Nat}{v v':Value}{xs:List CH}{cs:List Cont}(h:Gath w q v xs cs) (hg:w.grownBy w' v.ownBlock) {x:CH}{c:Cont}(hrow:w'.ownsRow q 28 4 v' (xs.length+1) (xs.flatMap encCH++encCH x))
  (h1:c.res=x.r/\c.frm=x.f/\c.to_=x.t) (h2:SSz c.series) {B:Nat} (h3:Kbm w B x.h.A x.h.n x.h.c c.series):Gath w' q v' (xs ++ [x]) (cs ++ [c]):=by
 have aa:∀{B:Nat} {A:Option Addr} {n k:Nat} {L:List Ser},Kbm w B A n k L->Kbm w' B A n k L:=fun {B A n k L} h0=>h0.grown hg fun r e=>by obtain⟨ab,hc⟩:=Kax h.row e;exact⟨_,ab,hc,by decide,by decide,by decide,by decide⟩
 refine⟨by rw[Jd,dI,dC];exact hrow,by rw[Jd,Jd,h.l];rfl,fun i y hi=>?_⟩
 by_cases hl:i<xs.length
 .rw[List.getElem?_append_left hl]at hi
  have e:(cs ++ [c])[i]! = cs[i]!:=by rw[jI _ _ (by rw[Jd,h.l];omega),jI cs i (by rw[h.l];exact hl),List.getElem_append_left]
  rw[e];obtain⟨a1,a2,B2,a3⟩:=h.k i y hi;exact⟨a1,a2,B2,aa a3⟩
 .have ac:i=xs.length:=by
   have:=(cW.1 hi).1;rw[Jd,dE]at this;omega
  subst ac;rw[List.getElem?_append_right (da _),Nat.sub_self]at hi;simp only[cY,ec]at hi;subst hi
  have e:(cs ++ [c])[xs.length]! = c:=by rw[<-h.l,jI _ _ (by rw[Jd];simp),List.getElem_append_right (da _)];simp
  rw[e];exact⟨h1,h2,B,aa h3⟩
theorem Gath.conts {w:World}{q n c:Nat}{A:Option Addr}{xs:List CH}{cs:List Cont}(h:Gath w q (.slice A n c) xs cs) (hn:xs.length=n) (hz:n<=1048576):Kbv w A n xs cs/\n<=c:=by
 obtain⟨A1,c1,e1,hE,_,hc⟩:=dZ (xs:=xs) (enc:=encCH) (fun _ _=>rfl) rfl h.row rfl;injection e1 with e1 e2 e3;subst e1 e3;rw[hn]at hE hc;refine⟨⟨hE,by rw[h.l,hn],fun i x hi=>?_,fun c hc=>?_,hz⟩,hc⟩
 .obtain ⟨a1,a2,B,a3⟩:=h.k i x hi;exact⟨a1.1,a1.2.1,a1.2.2,a2.ok a3.sers.1,a3.sers.2⟩
 .obtain ⟨i,hi,rfl⟩:=List.getElem_of_mem hc;obtain⟨x,hx⟩:∃x,xs[i]? = some x:=⟨xs[i]'(by rw[<-h.l];exact hi),cV _⟩;have:=(h.k i x hx).2.1;rw[jI cs i hi]at this;exact this.csz _ _ _
def Qfn (res width:Int) (all:List Ser) (w:World) (e:Ending) (w':World):Prop:=
   ((¬(1<=width/\width<=1099511627776)/\e = .returned (.tuple #[.slice none 0 0,.int .i64 100]))\/
    ((1<=width/\width<=1099511627776)/\¬(0<=res/\res<3)/\e = .returned (.tuple #[.slice none 0 0,.int .i64 190]))\/
    ((1<=width/\width<=1099511627776)/\(0<=res/\res<3)/\∃L,Kfn width (Kau all) L/\
     ((((L.map (Kcd res width all)).all fitB=false)/\e = .returned (.tuple #[.slice none 0 0,.int .i64 190]))\/
     (((L.map (Kcd res width all)).all fitB=true)/\∃(A':Option Addr) (n' c':Nat) (xs:List CH),e = .returned (.tuple #[.slice A' n' c',.int .i64 0])/\Kbv w' A' n' xs (L.map (Kcd res width all))/\n'<=c'))))/\Below w.heap.size w w'
theorem Kzg (res width:Int) (A:Option Addr) (n c:Nat) (ss:List Ser) (w:World) (hS:Sers w A n ss) (hc:n<=c) (hz:SSz ss) (hE:BEnv w) :
  Calls prog 20 #[.int .i64 res,.int .i64 width,.slice A n c] w (Qfn res width (allF res ss) w):=by
 by_cases hw:1<=width/\width<=1099511627776
 .have az:Kbp 0 width=(0,0):=by rw[Kbp,jM (by omega),jM (by omega)];simp
  have ac:Hid (∀W,Calls prog 49 #[.int .i64 0,.int .i64 width] W fun e w'=>e = .returned (.tuple #[.int .i64 0,.int .i64 0])/\w'=W):=fun W=>by have:=Kfx 0 width W;rw[az]at this;exact this
  have HW:=Jh hw;clear az
  by_cases hr:0<=res/\res<3
  .obtain ⟨aJ,a2⟩:=hr;have bt:=hw.1;have aO:=hw.2;have HR:Hid (0<=res/\res<3):=⟨aJ,a2⟩;have HS:=Jh hS;have HZ:=Jh hz;have HE:=Jh hE;obtain⟨all,ad⟩:=jG (allF res ss);have aN:Hid (all=Kbn res [] (Kae ss)):=ad;have an:Hid (SSz all):=by show SSz _;rw[ad];exact hz.sub (Qhs res ss)
   rw[<-ad]
   have bc:Hid (Calls prog 24 #[.slice (some ⟨w.heap.size,0,none⟩) 1 1] (w.alloc (.cells #[.slice A n c] 26)) fun e w'=>∃(A':Option Addr) (n' c':Nat),e = .returned (.slice A' n' c')/\Sers w' A' n' (Kae ss)/\n'<=c'/\Below (w.alloc (.cells #[.slice A n c] 26)).heap.size (w.alloc (.cells #[.slice A n c] 26)) w'):=by
    have:=Ksh (some ⟨w.heap.size,0,none⟩) 1 1 [⟨A,n,c⟩] [ss] (Qgn (T:=26) hS hc (fun s hs=>(hz.z s hs).l) rfl) (by decide) (by simp;have:=hz.n;omega) (by simp;have:=hz.m;omega);show Calls _ _ _ _ _
    simpa using this
   have aT:Hid (Below w.heap.size w (w.alloc (.cells #[.slice A n c] 26))):=(Below.refl _ _).alloc (da _) _;clear hS hz hE ad hw;go_enter func20,ntmps20
   go_wp2_with fail
   refine(ac.out _).mono ?_;rintro _ w1 ⟨rfl,aa⟩;have aa:=aa.symm;subst aa;clear ac;go_wp2_with fail
   refine bc.out.mono ?_;rintro _ w2 ⟨A2,n2,c2,rfl,bm,bB,bi⟩;have bo:Hid (SersZ w2 A2 n2 (Kae ss)):=(HZ.out.sub (Khh ss)).sersz bm;have aZ:Hid (Below w.heap.size w w2):=aT.out.trans (bi.mono aT.out.size);clear bm bB bi aT bc;go_wp2_with fail
   refine(Kni res A2 n2 c2 (Kae ss) none 0 0 [] w2 bo.out ⟨ZY,fun x hx=>by simp at hx,by omega⟩).mono ?_;rintro _ w3 ⟨A3,n3,c3,rfl,a3,bG,br⟩;rw[<-aN.out]at a3;have a0:Hid (Sers w3 A3 n3 all):=a3;have aU:Hid (Below w.heap.size w w3):=aZ.out.trans (br.mono aZ.out.size);clear a3 bG br aZ bo;go_wp2_with fail
   refine(Kws width HW.out A3 n3 c3 all w3 (an.out.sersz a0.out) (by have:=an.out.m;omega)).mono ?_;rintro _ w4 ⟨A4,n4,c4,L,rfl,hL,bA,bh,_,aY⟩;have HL:=Jh hL;have bd:=Jh bA;have bH:=Jh bh;have bI:Hid (Sers w4 A3 n3 all):=a0.out.below aY;have ak:Hid (Below w.heap.size w w4):=aU.out.trans (aY.mono aU.out.size)
   have hn4:n4<=1048576:=by have h1:=Qci hL;have h2:=an.out.m;rw[Kfl]at h1;omega
   have HG:Hid (Gath w4 w4.heap.size (.slice none 0 0) [] ((L.take 0).map (Kcd res width all))):=Gath.nil _ _;have ai:Hid (((L.take 0).map (Kcd res width all)).all fitB=true):=rfl;have bg:Hid (Below w4.heap.size w4 w4):=Below.refl _ _;clear hL bA bh aY a0 aU;go_wp2_with fail
   go_loopg [11,41] n4 (fun kx s11 s41 wr=>∃(i:Nat) (xs:List CH),s41 = .int .i64 (i:Int)/\i+kx=n4/\Hid (xs.length=i)/\Hid (Below w4.heap.size w4 wr)/\Hid (Gath wr w4.heap.size s11 xs ((L.take i).map (Kcd res width all)))/\Hid (((L.take i).map (Kcd res width all)).all fitB=true))
   case atStart=>exact⟨0,[],rfl,by omega,rfl,bg,HG,ai⟩
   case round=>
    clear bg HG ai;obtain⟨i,xs,rfl,hi,aB,HB,HG,ai⟩:=hrel;obtain⟨A7,c7,bx⟩:=Kah HG.out.row;rw[aB.out]at bx;subst bx;rcases Nat.lt_or_ge i n4 with hlt | hge
    .have bL:(i:Int)<(n4:Int):=by omega
     obtain⟨b0,am,bN,aX,ba⟩:=bH.out.2 (by omega);obtain⟨f,hf⟩:∃f,L[i]? = some f:=⟨L[i]'(by rw[bd.out];exact hlt),cV _⟩;have a6:f∈L:=dG hf;obtain⟨hf1,hf2⟩:=Qez bt HL.out a6
     have k0:wr.cell? ⟨b0,am+i,none⟩=some (.int .i64 f):=by have:=(HB.out.cell (p:=⟨b0,am+i*1+0,none⟩) aX).trans (ba i f hf 0 _ rfl);simpa using this
     have bF:b0<wr.heap.size:=Nat.lt_of_lt_of_le aX HB.out.size;obtain⟨cc,aE⟩:=jG (Kcd res width all f)
     have a1:Hid ((L.take (i+1)).map (Kcd res width all)=(L.take i).map (Kcd res width all) ++ [cc]):=by
      show _=_
      rw[List.take_add_one,hf,dN,aE];rfl
     obtain⟨to_,aP⟩:=jG (min (f+width) 1125899906842625);have ae:Hid (cc.res=res/\cc.frm=f/\cc.to_=to_/\cc.series=clipF f (to_ - 1) all):=by show _/\_;rw[aE,aP];exact⟨rfl,rfl,rfl,rfl⟩
     have bC:f<to_/\to_<=1125899906842625:=by omega
     have bj:Hid (cc∈L.map (Kcd res width all)):=by show _∈_;rw[aE];exact List.mem_map_of_mem a6
     have aD:Hid (SSz cc.series):=by show SSz _;rw[ae.out.2.2.2];exact an.out.sub (Kvm _ _ all)
     have bz:Hid (∀W,Below wr.heap.size wr W->Calls prog 23 #[.slice A3 n3 c3,.int .i64 f,.int .i64 (to_ - 1)] W fun e w'=>∃(A':Option Addr) (n' c':Nat),e = .returned (.slice A' n' c')/\Kbm w' W.heap.size A' n' c' cc.series/\n'<=c'/\Below W.heap.size W w'):=fun W hW=>by rw[ae.out.2.2.2];exact Kwb f (to_ - 1) A3 n3 c3 all W (an.out.sersz ((bI.out.below HB.out).below hW))
     have bn:Hid (BEnv wr):=HE.out.below (ak.out.trans (HB.out.mono ak.out.size));subst bN;clear ba aX hf a6 aE;go_upto_region 11 with fail
     clear k0 bF;have bD:Hid (min (f+width) 1125899906842625=to_):=aP.symm;clear aP;go_upto_region 12 with fail
     try rw[bD.out]
     go_wp2_with fail
     refine(bz.out wr (Below.refl _ _)).mono ?_;rintro _ w5 ⟨A5,n5,c5,rfl,ax,bK,aF⟩;have aW:Hid (Below w4.heap.size w4 w5):=HB.out.trans (aF.mono HB.out.size);have bq:Hid (Gath w5 w4.heap.size (.slice A7 i c7) xs ((L.take i).map (Kcd res width all))):=HG.out.below aF;have ar:Hid (BEnv w5):=bn.out.below aF;obtain⟨w6,aH⟩:=jG (w5.alloc (.cells #[.int .i64 res,.int .i64 f,.int .i64 to_,.slice A5 n5 c5] 28));obtain⟨p6,aM⟩:=jG w5.heap.size;have ap:Below w5.heap.size w5 w6:=by rw[aH];exact(Below.refl _ _).alloc (da _) _
     have ah:Hid (Blk w6 p6 28 #[.int .i64 res,.int .i64 f,.int .i64 to_,.slice A5 n5 c5]):=by show Blk _ _ _ _;rw[aH,aM];exact ZX _ _ _
     have a7:Hid (Below w4.heap.size w4 w6):=aW.out.trans (ap.mono aW.out.size);have a9:Hid (Gath w6 w4.heap.size (.slice A7 i c7) xs ((L.take i).map (Kcd res width all))):=bq.out.below ap;have aj:Hid (Kbm w6 wr.heap.size A5 n5 c5 cc.series):=ax.below ap;obtain⟨er,a8⟩:∃er:Int,er=(if fitB cc=true then (0:Int) else 190):=⟨_,rfl⟩
     have bk:Hid (Calls prog 19 #[.agg #[.int .i64 res,.int .i64 f,.int .i64 to_,.slice A5 n5 c5]] w6 fun e w'=>(∃S0 S1 S2,e = .returned (.tuple #[.agg #[.string S0,.string S1,.string S2],.int .i64 er]))/\Below w6.heap.size w6 w'):=by have:=Kun cc A5 n5 c5 w6 (aD.out.ok aj.out.sers.1) (aD.out.csz cc.res cc.frm cc.to_) (ar.out.below ap);rw[ae.out.1,ae.out.2.1,ae.out.2.2.1,<-a8]at this;refine this.mono ?_;rintro e w' ⟨⟨S0,S1,S2,he,_⟩,hb⟩;exact⟨⟨S0,S1,S2,he⟩,hb⟩
     have aK:Hid (w6=w5.alloc (.cells #[.int .i64 res,.int .i64 f,.int .i64 to_,.slice A5 n5 c5] 28)/\p6=w5.heap.size):=⟨aH,aM⟩;have aC:=Jh a8;clear ax bK aF aH aM ap a8 HB HG bn bz aW bq ar;go_upto_region 13 with fail
     try rw[<-aK.out.1]
     try rw[<-aK.out.2]
     clear aK;have z0:=ah.out.cell 0;have z1:=ah.out.cell 1;have z2:=ah.out.cell 2;have z3:=ah.out.cell 3;simp at z0 z1 z2 z3;have zl:=ah.out.lt;go_wp2_with fail
     refine bk.out.mono ?_;rintro _ w7 ⟨⟨S0,S1,S2,rfl⟩,aR⟩;clear z0 z1 z2 z3 zl bk;obtain⟨w8,aS⟩:=jG (w7.alloc (.cells #[.string S0,.string S1,.string S2] 44));have ay:Below w6.heap.size w6 w8:=by rw[aS];exact aR.alloc aR.size _
     have al:Hid (Blk w8 p6 28 #[.int .i64 res,.int .i64 f,.int .i64 to_,.slice A5 n5 c5]):=ah.out.below ay ah.out.lt;have aG:Hid (Below w4.heap.size w4 w8):=a7.out.trans (ay.mono a7.out.size);have bw:Hid (Gath w8 w4.heap.size (.slice A7 i c7) xs ((L.take i).map (Kcd res width all))):=a9.out.below ay;have aA:Hid (Kbm w8 wr.heap.size A5 n5 c5 cc.series):=aj.out.below ay;have be:=Jh aS;clear aR aS ay ah a7 a9 aj;go_upto_region 14 with fail
     try rw[<-be.out]
     clear be
     cases hfit:fitB cc with
     | false=>
      obtain rfl:er=190:=by rw[aC.out,hfit];rfl
      have ao:Hid ((L.map (Kcd res width all)).all fitB=false):=List.all_eq_false.2 ⟨cc,bj.out,by rw[hfit];simp⟩;clear hfit aC;go_wp2_with fail
      go_ret2
      exact⟨.inr (.inr ⟨HW.out,HR.out,L,HL.out,.inl ⟨ao.out,rfl⟩⟩),ak.out.trans (aG.out.mono ak.out.size)⟩
     | true=>
      obtain rfl:er=0:=by rw[aC.out,hfit];rfl
      have a5:Hid (((L.take (i+1)).map (Kcd res width all)).all fitB=true):=by
       show _=_
       rw[a1.out,List.all_append,ai.out];simp[hfit]
      clear hfit aC ai;have z0:=al.out.cell 0;have z1:=al.out.cell 1;have z2:=al.out.cell 2;have z3:=al.out.cell 3;simp at z0 z1 z2 z3;have zl:=al.out.lt;obtain⟨i1,bf,bv,bl,bp⟩:=info_parts Qbd;obtain⟨wa,aw⟩:=jG (w8.alloc (.cells #[.int .i64 res,.int .i64 f,.int .i64 to_,.slice A5 n5 c5] 28));have aI:Below w8.heap.size w8 wa:=by rw[aw];exact(Below.refl _ _).alloc (da _) _
      have af:Blk wa w8.heap.size 28 #[.int .i64 res,.int .i64 f,.int .i64 to_,.slice A5 n5 c5]:=by rw[aw];exact ZX _ _ _
      have aV:Hid (Gath wa w4.heap.size (.slice A7 i c7) xs ((L.take i).map (Kcd res width all))):=bw.out.below aI;have ab:wa.ownsRow w4.heap.size 28 4 (.slice A7 i c7) i (xs.flatMap encCH):=by have:=aV.out.row;rw[aB.out]at this;exact this
      have av:Hid (Kbm wa wr.heap.size A5 n5 c5 cc.series):=aA.out.below aI;have aQ:Hid (Below w4.heap.size w4 wa):=aG.out.trans (aI.mono aG.out.size);have aL:w4.heap.size<=wa.heap.size:=aQ.out.size;have ag:=Jh ab;clear aI al bw aA aG;go_wp2_with (at_builtin;(try rw[<-aw]);refine ej _ rfl _ _ 23 rfl w4.heap.size 28 i1 (.agg #[.int .i64 0,.int .i64 0,.int .i64 0,.slice none 0 0]) 4 48 underlying23 bf bv bl bp rfl (by decide) (.slice A7 i c7) i _ rfl ab ⟨w8.heap.size,0,none⟩ 1 1 [.int .i64 res,.int .i64 f,.int .i64 to_,.slice A5 n5 c5] rfl rfl (Kam (l:=[.int .i64 res,.int .i64 f,.int .i64 to_,.slice A5 n5 c5]) af) ?p2 ?p3 ?p4 ?p5 ?_)
      case p2=>intro u hu;simp only[di,List.not_mem_nil,or_false]at hu;rcases hu with rfl | rfl | rfl | rfl <;> rfl
      case p3=>unfold maxLen;omega
      case p4=>omega
      case p5=>exact aL
      intro v9 w9 hown' hgrow _ _;rw[<-aw]at hgrow;have bJ:Hid (Below w4.heap.size w4 w9):=aQ.out.grown hgrow aL (fun k hk=>(ag.out.lt k hk).1)
      have bs:Hid (Gath w9 w4.heap.size v9 (xs ++ [⟨res,f,to_,⟨A5,n5,c5⟩⟩]) ((L.take (i+1)).map (Kcd res width all))):=by
       show Gath _ _ _ _ _
       rw[a1.out];exact aV.out.more hgrow (x:=⟨res,f,to_,⟨A5,n5,c5⟩⟩) (by rw[aB.out];exact hown') ⟨ae.out.1,ae.out.2.1,ae.out.2.2.1⟩ aD.out av.out
      have aq:Hid ((xs ++ [(⟨res,f,to_,⟨A5,n5,c5⟩⟩:CH)]).length=i+1):=by show _=_;rw[Jd,aB.out];rfl
      generalize xs ++ [(⟨res,f,to_,⟨A5,n5,c5⟩⟩:CH)]=xs9 at bs aq;clear hown' hgrow ab af ag aQ av aV aw aL z0 z1 z2 z3 zl bf bv bl bp a1 ae bj aD;go_wp2_with fail
      go_roundg (n4 - (i+1))
      case measure=>omega
      case rel=>exact⟨i+1,xs9,by first | rfl | go_num,by omega,aq,bJ,bs,a5⟩
    .have bL:¬(i:Int)<(n4:Int):=by omega
     have bE:i=n4:=by omega
     have bb:L.take i=L:=dv (by rw[bd.out];omega);rw[bb]at HG ai;have HF:Hid (Kbv wr A7 n4 xs (L.map (Kcd res width all))/\n4<=c7):=by have h0:=HG.out.conts aB.out (by omega);rw[bE]at h0;exact h0
     clear bb HG bt aO aJ a2;go_wp2_with fail
     go_ret2
     exact⟨.inr (.inr ⟨HW.out,HR.out,L,HL.out,.inr ⟨ai.out,A7,n4,c7,xs,rfl,HF.out.1,HF.out.2⟩⟩),ak.out.trans (HB.out.mono ak.out.size)⟩
  .have a4:=Jh hr;clear hS hz hE hw;rcases (by omega:res<0\/0<=res) with aJ | aJ
   .go_enter func20,ntmps20
    go_wp2_with fail
    refine(ac.out _).mono ?_;rintro _ w1 ⟨rfl,aa⟩;have aa:=aa.symm;subst aa;clear ac;go_wp2_with fail
    go_ret2
    exact⟨.inr (.inl ⟨HW.out,a4.out,rfl⟩),Below.refl _ _⟩
   .have a2:3<=res:=by have:=a4.out;omega
    clear hr;go_enter func20,ntmps20
    go_wp2_with fail
    refine(ac.out _).mono ?_;rintro _ w1 ⟨rfl,aa⟩;have aa:=aa.symm;subst aa;clear ac;go_wp2_with fail
    go_ret2
    exact⟨.inr (.inl ⟨HW.out,a4.out,rfl⟩),Below.refl _ _⟩
 .have az:Kbp 0 width=(0,100):=by rw[Kbp,jN (by omega)]
  have ac:Hid (∀W,Calls prog 49 #[.int .i64 0,.int .i64 width] W fun e w'=>e = .returned (.tuple #[.int .i64 0,.int .i64 100])/\w'=W):=fun W=>by have:=Kfx 0 width W;rw[az]at this;exact this
  have bM:=Jh hw;clear az hS hz hE hw;go_enter func20,ntmps20
  go_wp2_with fail
  refine(ac.out _).mono ?_;rintro _ w1 ⟨rfl,aa⟩;have aa:=aa.symm;subst aa;clear ac;go_wp2_with fail
  go_ret2
  exact⟨.inl ⟨bM.out,rfl⟩,Below.refl _ _⟩
end
end
section
open Go.ChangeShapes Go.WideShapes Go.ChangeAt Go.RowKit Go.Deep
theorem Kom:prog.cellsOf 88 = 4:=by kernel_rfl
theorem Qaq:prog.cellsOf 86 = 3:=by kernel_rfl
theorem Kxm:prog.cellsOf 85 = 1:=by kernel_rfl
theorem Kmv:prog.cellsOf 96 = 2:=by kernel_rfl
instance gonePI:Inhabited (Hd4×GoneP):=⟨(⟨⟨none,0,0⟩,⟨none,0,0⟩,⟨none,0,0⟩,⟨none,0,0⟩⟩,⟨[],fun _=>[]⟩)⟩
instance spnI:Inhabited Spn:=⟨⟨0,0⟩⟩
instance chCI:Inhabited (CH×Cont):=⟨(⟨0,0,0,⟨none,0,0⟩⟩,⟨0,0,0,[]⟩)⟩
section
variable {H : Type}{enc : TypeId × Value -> H}{w : World}{base : Nat}{spare : Nat -> Bool}{held : Bool}
theorem Qbs {fuel:Nat}{l:List Value}{x:DataW H×List MemPlace}(h:dQ enc prog w base spare held fuel 96 l=some x):∃y:Spn,l=Kbo y/\1<=Rows.uptoBulk x.1:=by
 obtain⟨xs,n,_,hx,ab,aa,hg⟩:=dR underlying96 h;rw[Kmv]at ab
 match l,ab,xs,aa with
 | [c0,c1],_,[x0,x1],_=>
  have g0:=hg 0 _ rfl;have g1:=hg 1 _ rfl;simp[Kgq]at g0 g1;obtain⟨a,e0,_,_⟩:=dm underlying2 g0;obtain⟨b,e1,_,_⟩:=dm underlying2 g1;simp at e0 e1;subst e0 e1;exact⟨⟨a,b⟩,rfl,Kfo _⟩
theorem Kip {fuel:Nat}{v:Value}{x:DataW H×List MemPlace}(h:dQ enc prog w base spare held fuel 85 [v]=some x) :
  ∃(hd:Hd) (l:List Spn),v = .slice hd.A hd.n hd.c/\Elems w w.heap.size 2 Kbo hd.A hd.n l/\hd.n+1<=Rows.uptoBulk x.1:=by
 obtain⟨A,n,c,l,rfl,_,h2,h3,ds,sp,hx,hl,hQ⟩:=Keh (ea:=Kbo) (Q:=fun d (_:Spn)=>1<=Rows.uptoBulk d) underlying85 Kmv (by omega) (fun _=>rfl) (fun _ _ _ h=>Qbs h) h;refine⟨⟨A,n,c⟩,l,rfl,h3,?_⟩;have:=Keb (fun _:Spn=>1) hx hl fun i d y hd hy=>hQ i d y hd hy
 rw[Khx,h3.len]at this;exact this
theorem Qek {fuel:Nat}{l:List Value}{x:DataW H×List MemPlace}(h:dQ enc prog w base spare held fuel 88 l=some x):∃y:Hd4×GoneP,l=encHG y/\(1<=Rows.uptoBulk x.1/\(Rows.uptoBulk x.1<=1048576->Kfz w y.1 y.2)):=by
 obtain⟨xs,n,_,hx,ac,ab,hg⟩:=dR underlying88 h;rw[Kom]at ac
 match l,ac,xs,ab with
 | [c0,c1,c2,c3],_,[x0,x1],_=>
  have g0:=hg 0 _ rfl;have g1:=hg 1 _ rfl;simp[Koo,Qaq]at g0 g1;obtain⟨A0,n0,k0,l0,rfl,a1,a2,a3⟩:=Klm g0;obtain⟨ys,m,_,ad,_,aa,hf⟩:=DataW.trod_array underlying86 g1;rw[Kxm]at hf
  match ys,aa with
  | [y0,y1,y2],_=>
   have f0:=hf 0 (by omega);have f1:=hf 1 (by omega);have f2:=hf 2 (by omega);simp at f0 f1 f2;obtain⟨h1,l1,rfl,b1,b2⟩:=Kip f0;obtain⟨h2,l2,rfl,d1,d2⟩:=Kip f1;obtain⟨h3,l3,rfl,e1,e2⟩:=Kip f2;have ha:=a2.len;have hm:=Kli l0;refine⟨(⟨⟨A0,n0,k0⟩,h1,h2,h3⟩,⟨l0,fun r=>if r=0 then l1 else if r=1 then l2 else l3⟩),rfl,Kfo _,fun hb=>?_⟩;rw[hx]at hb;simp only[cU,dp,Rows.uptoBulk,Rows.uptoBulkAll]at hb;rw[ad]at hb;simp only[cU,dp,Rows.uptoBulk,Rows.uptoBulkAll]at hb;refine⟨a2,by dsimp only;omega,fun r hr=>?_⟩
   match r,hr with
   | 0,_=>exact⟨b1,by show h1.n<=_;omega⟩
   | 1,_=>exact⟨d1,by show h2.n<=_;omega⟩
   | 2,_=>exact⟨e1,by show h3.n<=_;omega⟩
theorem Qbq {fuel:Nat}{v:Value}{x:DataW H×List MemPlace}(h:dQ enc prog w base spare held fuel 22 [v]=some x) :
  ∃A n c ghs,v = .slice A n c/\n<=c/\(Rows.uptoBulk x.1<=1048576->Gones w A n ghs):=by
 obtain⟨A,n,c,l,rfl,_,h2,h3,ds,sp,hx,hl,hQ⟩:=Keh (ea:=encHG) (Q:=fun d (y:Hd4×GoneP)=>1<=Rows.uptoBulk d/\(Rows.uptoBulk d<=1048576->Kfz w y.1 y.2)) underlying22 Kom (by omega) (fun _=>rfl) (fun _ _ _ h=>Qek h) h;refine⟨A,n,c,l,rfl,h2,fun hb=>?_⟩;have hs:=Keb (fun _:Hd4×GoneP=>1) hx hl fun i d y hd hy=>(hQ i d y hd hy).1
 rw[Khx,h3.len]at hs;refine⟨h3,fun y hy=>?_,by omega⟩;obtain⟨i,hi,rfl⟩:=cX.1 hy;have hd:ds[i]? = some (ds[i]'(by omega)):=cV _;refine(hQ i _ l[i] hd (cV _)).2 ?_;have hm:Rows.uptoBulk (ds[i]'(by omega))<=(ds.map fun d=>Rows.uptoBulk d).sum:=Kjg (fun d=>Rows.uptoBulk d) (de _);have:=Keb (fun d:DataW H=>Rows.uptoBulk d) (ys:=ds) hx rfl fun i d y hd hy=>by rw[hd]at hy;injection hy with hy;rw[hy];exact da _
 omega
theorem Qbr {fuel:Nat}{v:Value}{x:DataW H×List MemPlace}(h:dQ enc prog w base spare held fuel 26 [v]=some x) :
  ∃A n c L,v = .slice A n c/\n<=c/\Sers w A n L/\(∀s∈L,(∀x∈s.samples,x.v<2 ^ 64)/\∀x∈s.windows,Kcn x)/\(L.map Ser.mass).sum+1<=Rows.uptoBulk x.1:=by
 obtain⟨A,n,c,hs,rfl,_,h2,h3,ds,sp,hx,hl,hQ⟩:=Keh (ea:=encH3) (Q:=fun d y=>∃s,SerIn w y s/\Ser.mass s<=Rows.uptoBulk d) underlying26 Kru (by omega) (fun _=>rfl) (fun _ _ _ h=>Qgp h) h;have hn:=h3.len
 obtain⟨f,hf⟩:=choose_lt (α:=Ser) (n:=n) (p:=fun i s=>∀d y,ds[i]? = some d->hs[i]? = some y->SerIn w y s/\Ser.mass s<=Rows.uptoBulk d) (by
  intro i hi;have h1:i<hs.length:=by omega
  have h4:i<ds.length:=by omega
  obtain⟨l,hl'⟩:=hQ i ds[i] hs[i] (cV h4) (cV h1);refine⟨l,fun d y hd hy=>?_⟩;rw[cV h4]at hd;rw[cV h1]at hy;injection hd with hd;injection hy with hy;subst hd hy
  exact hl')
 have hS:Sers w A n ((dJ n).map f):=⟨hs,h3,by simp,fun i y hy=>by
  have hi:i<n:=by have:=(cW.1 hy).1;omega
  have h4:i<ds.length:=by omega
  obtain⟨a1,a2⟩:=hf i hi ds[i] y (cV h4) hy;rw[jI _ i (by simpa using hi)]
  simpa using a1.at_⟩
 refine⟨A,n,c,(dJ n).map f,rfl,h2,hS,fun s hs9=>?_,?_⟩
 .obtain ⟨i,hi,rfl⟩:=c6.1 hs9;have hi:i<n:=List.mem_range.1 hi;have h1:i<hs.length:=by omega
  have h4:i<ds.length:=by omega
  obtain⟨a1,a2⟩:=hf i hi ds[i] hs[i] (cV h4) (cV h1);exact⟨a1.v,a1.b⟩
 .refine Keb Ser.mass hx (by simp;omega) fun i d l hd hl'=>?_
  have hi:i<n:=by have:=(cW.1 hl').1;simpa using this
  have e:f i=l:=by simpa[hi]using hl'
  have h1:i<hs.length:=by omega
  rw[<-e];exact(hf i hi d hs[i] hd (cV h1)).2
theorem Qjj {L:List Ser}(hb:∀s∈L,(∀x∈s.samples,x.v<2 ^ 64)/\∀x∈s.windows,Kcn x) (hm:(L.map Ser.mass).sum<=1048576):∀s∈L,SerSz s:=fun s hs=>by have h5:=Kjg Ser.mass hs;have h7:massL s.labels+s.samples.length+s.windows.length+2<=(L.map Ser.mass).sum:=h5;have h6:=Kli s.labels;refine⟨by omega,by omega,by omega,(hb s hs).1,(hb s hs).2,fun y hy=>?_⟩;have:=Qed hy;omega
def Cont.mass (c:Cont):Nat:=(c.series.map Ser.mass).sum+2
structure Kuh (w:World) (y:CH) (c:Cont):Prop where
 q:c.res=y.r/\c.frm=y.f/\c.to_=y.t
 s:Sers w y.h.A y.h.n c.series
 n:y.h.n<=y.h.c
 b:∀s∈c.series,(∀x∈s.samples,x.v<2 ^ 64)/\∀x∈s.windows,Kcn x
 i:i64B c.res/\i64B c.frm/\i64B c.to_
theorem Qbo {fuel:Nat}{l:List Value}{x:DataW H×List MemPlace}(h:dQ enc prog w base spare held fuel 28 l=some x) :
  ∃y:CH×Cont,l=encCH y.1/\(Kuh w y.1 y.2/\Cont.mass y.2<=Rows.uptoBulk x.1):=by
 obtain⟨xs,n,_,hx,ab,aa,hg⟩:=dR underlying28 h;rw[Kol]at ab
 match l,ab,xs,aa with
 | [c0,c1,c2,c3],_,[x0,x1,x2,x3],_=>
  have g0:=hg 0 _ rfl;have g1:=hg 1 _ rfl;have g2:=hg 2 _ rfl;have g3:=hg 3 _ rfl;simp[Kgq,Kon,Qar]at g0 g1 g2 g3;obtain⟨a,e0,_,wa⟩:=dm underlying3 g0;obtain⟨b,e1,_,wb⟩:=dm underlying2 g1;obtain⟨c,e2,_,wc⟩:=dm underlying2 g2;obtain⟨A,k,cp,L,rfl,k1,k2,k3,k4⟩:=Qbr g3;simp at e0 e1 e2;subst e0 e1 e2;refine⟨(⟨a,b,c,⟨A,k,cp⟩⟩,⟨a,b,c,L⟩),rfl,⟨⟨rfl,rfl,rfl⟩,k2,k1,k3,Krm wa,Krm wb,Krm wc⟩,?_⟩;rw[hx];simp only[cU,dp,Rows.uptoBulk,Rows.uptoBulkAll,Cont.mass];omega
theorem Ksw:∀cs:List Cont,(cs.map dY).flatten.length+sumS (cs.map dY).flatten+3*labsN (cs.map dY).flatten+cs.length<=(cs.map Cont.mass).sum
 | []=>by simp[sumS,labsN]
 | c :: cs=>by
  have h1:=Ksw cs;have h2:=Klj c.series;have h3:=Kjy c.series;have h4:labsN (c.series++(cs.map dY).flatten)=labsN c.series+labsN (cs.map dY).flatten:=by unfold labsN;simp
  rw[cU,List.flatten_cons,dy,Khv,h4,cU,cZ,db];unfold Cont.mass at h1 |-;omega
structure Kzo (w:World) (A:Option Addr) (n:Nat) (xs:List CH) (cs:List Cont):Prop where
 c:Kbv w A n xs cs
 n:(cs.map dY).flatten.length<=1048576
 m:sumS (cs.map dY).flatten<=1048576
 k:labsN (cs.map dY).flatten<=349525
 z:∀s∈(cs.map dY).flatten,SerSz s
theorem Qbp {fuel:Nat}{v:Value}{x:DataW H×List MemPlace}(h:dQ enc prog w base spare held fuel 23 [v]=some x) :
  ∃A n c xs cs,v = .slice A n c/\n<=c/\(Rows.uptoBulk x.1<=1048576->Kzo w A n xs cs):=by
 obtain⟨A,n,c,l,rfl,_,h2,h3,ds,sp,hx,hl,hQ⟩:=Keh (ea:=fun y:CH×Cont=>encCH y.1) (Q:=fun d (y:CH×Cont)=>Kuh w y.1 y.2/\Cont.mass y.2<=Rows.uptoBulk d) underlying23 Kol (by omega) (fun _=>rfl) (fun _ _ _ h=>Qbo h) h;refine⟨A,n,c,l.map Prod.fst,l.map Prod.snd,rfl,h2,fun hb=>?_⟩;have aa:(l.map fun y=>Cont.mass y.2).sum+1<=Rows.uptoBulk x.1:=Keb (fun y:CH×Cont=>Cont.mass y.2) hx hl fun i d y hd hy=>(hQ i d y hd hy).2
 have af:((l.map Prod.snd).map Cont.mass).sum+1<=Rows.uptoBulk x.1:=by rw[dB];exact aa
 have ak:=Ksw (l.map Prod.snd);have ag:=h3.len
 have ah:∀y∈l,Kuh w y.1 y.2:=fun y hy=>by obtain⟨i,hi,rfl⟩:=cX.1 hy;have hd:ds[i]? = some (ds[i]'(by omega)):=cV _;exact(hQ i _ l[i] hd (cV _)).1
 have ae:∀y∈l,∀s∈y.2.series,SerSz s:=fun y hy=>by refine Qjj (ah y hy).b ?_;have h1:=Kjg (fun y:CH×Cont=>Cont.mass y.2) hy;have h2:(y.2.series.map Ser.mass).sum+2<=(l.map fun y=>Cont.mass y.2).sum:=h1;omega
 have ab:∀y∈l,CSz y.2:=fun y hy=>by have h1:=Kjg (fun y:CH×Cont=>Cont.mass y.2) hy;have h2:(y.2.series.map Ser.mass).sum+2<=(l.map fun y=>Cont.mass y.2).sum:=h1;have h3:=Klj y.2.series;exact⟨by omega,by omega,by omega,ae y hy⟩
 rw[dj]at ak;refine⟨⟨⟨by rw[dj,ag],fun hn=>?_⟩,by rw[dj,ag],fun i y hi=>?_,fun c hc=>?_,by omega⟩,by omega,by omega,by omega,fun s hs=>?_⟩
 .obtain ⟨b,aj,e,ai,hc⟩:=h3.2 hn;refine⟨b,aj,e,ai,fun i y hi j u hu=>?_⟩;rw[c8,dw]at hi;obtain⟨z,hz,rfl⟩:=hi;exact hc i z hz j u hu
 .rw[c8,dw]at hi;obtain⟨z,hz,rfl⟩:=hi;have ac:i<l.length:=(cW.1 hz).1;have ad:=dG hz
  have e:(l.map Prod.snd)[i]! = z.2:=by rw[jI _ i (by simpa using ac),dM];rw[cV ac]at hz;injection hz with hz;rw[hz]
  rw[e];have a:=ah z ad;have b:=ab z ad;exact⟨a.q.1,a.q.2.1,a.q.2.2,⟨a.s,by have:=b.n;omega,b.z⟩,a.n⟩
 .obtain ⟨y,hy,rfl⟩:=c6.1 hc;exact ab y hy
 .obtain ⟨L,hL,hs⟩:=List.mem_flatten.1 hs;obtain⟨c,hc,rfl⟩:=c6.1 hL;obtain⟨y,hy,rfl⟩:=c6.1 hc;exact ae y hy s hs
end
end
section
open Go.Shelf Go.RowKit Go.Lib Go.Sort
section
variable {T E : TypeId}{q : Nat}{w wr w' : World}{v v' : Value}{hs : List Hd}{r f t : Int}
structure RC (T E:TypeId) (q:Nat) (w wr:World) (v:Value) (hs:List Hd) (r f t:Int):Prop where
 b:Below q w wr
 qb:Blk wr q T #[.int .i64 0,.int .i64 0,.int .i64 0,.slice none 0 0]
 o:Blk wr (q+1) T #[.int .i64 r,.int .i64 f,.int .i64 t,.slice none 0 0]
 r:wr.ownsRow (q+2) E 1 v hs.length (hs.flatMap Kes)
 z:q+2<=wr.heap.size
theorem RC.below (h:RC T E q w wr v hs r f t) (hb:Below wr.heap.size wr w'):RC T E q w w' v hs r f t:=
 ⟨h.b.trans (hb.mono (by have:=h.z;omega)),h.qb.below hb h.qb.lt,h.o.below hb h.o.lt,Kat h.r hb,dc h.z hb.size⟩
theorem RC.setF (hT:T≠E) (h:RC T E q w wr v hs r f t) (x:Int):RC T E q w (wr.setCell ⟨q+1,1,none⟩ (.int .i64 x)) v hs r x t:=
 ⟨h.b.setCell (p:=⟨q+1,1,none⟩) (dH q) _,h.qb.far (p:=⟨q+1,1,none⟩) (by show q≠q+1;omega) _,h.o.set_ 1 _,Kbj h.r h.o hT,by simpa[dS]using h.z⟩
theorem RC.setT (hT:T≠E) (h:RC T E q w wr v hs r f t) (x:Int):RC T E q w (wr.setCell ⟨q+1,2,none⟩ (.int .i64 x)) v hs r f x:=
 ⟨h.b.setCell (p:=⟨q+1,2,none⟩) (dH q) _,h.qb.far (p:=⟨q+1,2,none⟩) (by show q≠q+1;omega) _,h.o.set_ 2 _,Kbj h.r h.o hT,by simpa[dS]using h.z⟩
theorem RC.setR (hT:T≠E) (h:RC T E q w wr v hs r f t) (x:Int):RC T E q w (wr.setCell ⟨q+1,0,none⟩ (.int .i64 x)) v hs x f t:=
 ⟨h.b.setCell (p:=⟨q+1,0,none⟩) (dH q) _,h.qb.far (p:=⟨q+1,0,none⟩) (by show q≠q+1;omega) _,h.o.set_ 0 _,Kbj h.r h.o hT,by simpa[dS]using h.z⟩
theorem RC.more (hT:T≠E) (h:RC T E q w wr v hs r f t) {x:Hd}(hg:wr.grownBy w' v.ownBlock) (hrow:w'.ownsRow (q+2) E 1 v' (hs.length+1) (hs.flatMap Kes++Kes x)):RC T E q w w' v' (hs ++ [x]) r f t:=
 ⟨h.b.grown hg (by have:=h.z;omega) (fun k hk=>by have:=(h.r.lt k hk).1;omega),h.qb.grown hg (Kak h.qb h.r hT),h.o.grown hg (Kak h.o h.r hT),by rw[dy,dI,dC];exact hrow,dc h.z hg.size⟩
theorem RC.setN (hT:T≠E) (h:RC T E q w wr v hs r f t):RC T E q w (wr.setCell ⟨q+1,3,none⟩ (.slice none 0 0)) v hs r f t:=
 ⟨h.b.setCell (p:=⟨q+1,3,none⟩) (dH q) _,h.qb.far (p:=⟨q+1,3,none⟩) (by show q≠q+1;omega) _,h.o.set_ 3 _,Kbj h.r h.o hT,by simpa[dS]using h.z⟩
theorem Kgb (h:Below q w wr) (a b c d:Value):Below q w ((((wr.setCell ⟨q,0,none⟩ a).setCell ⟨q,1,none⟩ b).setCell ⟨q,2,none⟩ c).setCell ⟨q,3,none⟩ d):=
 (((h.setCell (p:=⟨q,0,none⟩) (da _) _).setCell (p:=⟨q,1,none⟩) (da _) _).setCell (p:=⟨q,2,none⟩) (da _) _).setCell (p:=⟨q,3,none⟩) (da _) _
theorem Qeo {cs:List Cont}{c0:Cont}(h:cs[0]? = some c0):outC cs=(c0.res,cs.foldl (fun a x=>min a x.frm) c0.frm,cs.foldl (fun a x=>max a x.to_) c0.to_):=by
 cases cs with
 | nil=>simp at h
 | cons x l=>
  simp only[cY,ec]at h;subst h;simp[outC,dO]
end
end
end Go.Proofs.YtdoiekknhnbepaaGreatDoor
