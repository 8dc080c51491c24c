/- Merged (what the claim wants of): RIns, RMrgP, RFind, RMrgI, RMerge, RCmp. -/
import Derived.Test.YtdoiekknhnbepaaGreatDoorCmk09
set_option linter.unusedVariables false
set_option linter.unusedSimpArgs false
set_option maxRecDepth 1000000
set_option linter.ambiguousOpen false
set_option maxHeartbeats 8000000
namespace Go.Proofs.YtdoiekknhnbepaaGreatDoor
open Go renaming wpList_append_own_at->dV
open Go renaming wpQuiet_nil->dU
open List renaming getElem?_eq_some_iff->cS,getElem?_eq_getElem->cV,pairwise_iff_getElem->cW,getElem?_append_left->cX,mem_append->cY,mem_cons->c4,getElem?_set_self->c6,mem_iff_getElem->c8,pairwise_append->dg,getElem?_set_ne->di,mem_flatten->dk,Pairwise->dm,set_set->dq
open World.grownBy renaming trans->ds,but->dw
open Value renaming slice->dx,ownBlock->dy
open World renaming grownBy_alloc->dz,ownsRow->dA,grownBy->dB,ownsRow_nil->dC,setCell->dD,cell?_of_block->dE
open World.ownsRow renaming stored->dF
open Wnd renaming start->dG
open Smp renaming t->dH
open Act renaming put->dI
open Option.some renaming inj->dJ,injEq->dK
open List.Pairwise renaming nil->dL,of_cons->dM
open Oper renaming wp_ran->dN,wp_skipped->dO,wp_called->dP
open Blk renaming new->dQ
open Cont renaming series->dR
open Elems renaming of_own->dS
open Exit renaming inBlock->dT
open Go.Proofs.Tryz
open Nat renaming le_refl->cH,lt_of_lt_of_le->cK,lt_or_ge->cM,le_trans->cZ,eq_zero_or_pos->da,lt_trichotomy->dp
open List renaming take_of_length_le->cI,take_add_one->cJ,length_take->cL,drop_eq_getElem_cons->cN,rel_of_pairwise_cons->cO,length_set->cP,mem_of_getElem?->cQ,mem_append_left->cR,length_append->cT,foldl_append->cU,flatMap_singleton->db,take_append_drop->dc,not_mem_nil->dd,flatMap_append->de,getElem_take->df,mem_cons->dh,drop_length->dj,flatten_append->dl,mem_cons_self->dn,append_assoc->dr,getElem_mem->dt
open _root_.Array renaming replicate->dv
section
open Go.Shelf Go.RowKit Go.Lib Go.Sort
open Lib renaming hid -> Jh
attribute [local go_sem ↓] Go.wp_at_zero Go.wp_at_succ
attribute [local go_sem] Later.cell
section
theorem Kch {w w':World}{B n sz:Nat}{T:TypeId}{v:Value}{xs:List Value}(h:w.ownsRow B T sz v n xs) (hg:w.grownBy w' none):w'.ownsRow B T sz v n xs:=Kcv h hg.size fun k hk=>hg.block k (h.lt k hk).2 (by simp)
theorem Kgt {w w9 wr:World}{g:Nat}{r:Option Nat}(h:w.grownBy w9 r) (h2:w9.grownBy wr (some g)) (hg:some g=r\/w.heap.size<=g):w.grownBy wr r:=
 ⟨h2.os.trans h.os,h2.tape.trans h.tape,h2.output.trans h.output,cZ h.size h2.size,fun j hj hr=>(h2.block j (cK hj h.size) (fun e=>by
  injection e with e;rcases hg with q | q
  .exact hr (by rw[<-q,e])
  .omega)).trans (h.block j hj hr)⟩
theorem Kcl (w:World) (g i:Nat) (u:Value):w.grownBy (w.setCell ⟨g,i,none⟩ u) (some g):=⟨rfl,rfl,rfl,by simp[dD],fun j _ hj=>Below.heap_setCell _ _ _ _ (fun e=>hj (by rw[e]))⟩
theorem Kkz {w1 w2:World}{g:Nat}(h:w1.grownBy w2 (some g)) (i:Nat) (u0:Value) (u1:Value):w1.grownBy ((w2.setCell ⟨g,i,none⟩ u0).setCell ⟨g,i+1,none⟩ u1) (some g):=(ds (ds h (Kcl _ g _ _)) (Kcl _ g _ _))
theorem Kla {w1 w2:World}{g:Nat}(h:w1.grownBy w2 (some g)) (i:Nat) (u0:Value) (u1:Value) (u2:Value) (u3:Value) (u4:Value) (u5:Value):w1.grownBy ((((((w2.setCell ⟨g,i,none⟩ u0).setCell ⟨g,i+1,none⟩ u1).setCell ⟨g,i+2,none⟩ u2).setCell ⟨g,i+3,none⟩ u3).setCell ⟨g,i+4,none⟩ u4).setCell ⟨g,i+5,none⟩ u5) (some g):=(ds (ds (ds (ds (ds (ds h (Kcl _ g _ _)) (Kcl _ g _ _)) (Kcl _ g _ _)) (Kcl _ g _ _)) (Kcl _ g _ _)) (Kcl _ g _ _))
theorem Qhc (l:List Smp) (x:Smp) (hasc:l.Pairwise fun a b=>dH a<dH b) (B:Nat) (A:Option Addr) (n c:Nat) (w:World) (h:w.ownsRow B 133 2 (.slice A n c) n (l.flatMap Kac)) (hl:l.length=n) (hB:B<=w.heap.size) (hn:n<=137438953472) :
  Calls prog 102 #[.slice A n c,.agg #[.int .i64 x.t,.int .u64 (x.v:Int)]] w fun e w'=>∃(A':Option Addr) (n' c':Nat),e = .returned (.slice A' n' c')/\w'.ownsRow B 133 2 (.slice A' n' c') n' ((insO dH x l).flatMap Kac)/\(insO dH x l).length=n'/\w.grownBy w' (dx A n c).ownBlock/\
   ((dx A' n' c').ownBlock=(dx A n c).ownBlock\/∃b,(dx A' n' c').ownBlock=some b/\w.heap.size<=b):=by
 obtain⟨ib,bi,bj,a9,bc⟩:=info_parts Klc;have aG:=Jh h;have HL:=Jh hl;have aO:=Jh hasc;have HB:=Jh hB;have HX:Hid (Kac x = [.int .i64 x.t,.int .u64 (x.v:Int)]):=rfl;obtain⟨q,hq⟩:=jG w.heap.size;have HQ:=Jh hq;clear h hasc hB;obtain⟨xk,a3⟩:=jG (dH x);have an:=Jh a3;go_enter func102,ntmps102
 go_upto_region 1 with fail
 obtain⟨wa,aJ⟩:=jG (w.alloc (.cells #[.int .i64 x.t,.int .u64 (x.v:Int)] 133));have aZ:Hid (Blk wa q 133 #[.int .i64 x.t,.int .u64 (x.v:Int)]):=by show Blk _ _ _ _;rw[aJ,hq];exact dQ _ _ _
 have aP:Hid (w.grownBy wa none):=by show dB _ _ _;rw[aJ];exact dz w _ none
 rw[<-aJ,<-hq];clear aJ hq a3;go_upto_block 0 with fail
 go_cut [5] (fun s5 wz=>∃k:Nat,s5 = .int .i64 (k:Int)/\k<=n/\Hid (wa.grownBy wz none)/\Hid (∀y∈l.take k,dH y<xk)/\Hid (∀y∈l.drop k,xk<=dH y))
 case first=>
  go_wp2_with fail
  go_loopg [5] n (fun kx s5 wr=>∃k:Nat,s5 = .int .i64 (k:Int)/\k<=n/\k<=kx/\Hid (wa.grownBy wr none)/\Hid (∀y∈l.drop k,xk<=dH y))
  case atStart=>exact⟨n,rfl,cH _,cH _,(show dB _ _ _ from ⟨rfl,rfl,rfl,cH _,fun _ _ _=>rfl⟩),(show ∀y∈l.drop n,_ from fun y hy=>by rw[<-HL.out,dj]at hy;simp at hy)⟩
  case round=>
   obtain⟨k,rfl,aT,hkg,HG,HD⟩:=hrel;have af:Hid (Blk wr q 133 #[.int .i64 x.t,.int .u64 (x.v:Int)]):=aZ.out.grown HG.out (by simp);have aL:Hid (wr.ownsRow B 133 2 (.slice A n c) n (l.flatMap Kac)):=Kch (Kch aG.out aP.out) HG.out;rcases da k with h0 | h0
   .subst h0;go_upto_region 2 with fail
    refine Kaa (by kernel_rfl) (by kernel_rfl) ?_
    repeat (go_big_quiet_step (fail))
    refine dU ?_;rintro w2 ⟨⟨_,aa⟩,rfl⟩;have ab:Hid (wa.grownBy w2 none):=ds HG.out ⟨aa.os,aa.tape,aa.output,aa.size,fun j hj _=>aa.block j hj⟩;clear aa;go_wp2_with fail
    go_meet
    exact⟨0,rfl,by omega,ab,(show ∀y∈l.take 0,_ from fun y hy=>by simp at hy),HD⟩
   .obtain ⟨j,hj⟩:∃j,k=j+1:=⟨k - 1,by omega⟩;obtain⟨y,hy⟩:∃y,l[j]? = some y:=⟨l[j]'(by omega),cV _⟩;obtain⟨A1,c1,e1,hE,_⟩:=dS (xs:=l) (enc:=Kac) (fun _ _=>rfl) rfl aL.out hl;obtain⟨b,az,hA,hb,hc⟩:=hE.2 (by omega);injection e1 with e1 _ e3;subst e3;rw[<-e1]at hA;have k0:wr.cell? ⟨b,az+j*2,none⟩=some (.int .i64 y.t):=hc j y hy 0 _ rfl;obtain⟨yk,aj⟩:=jG (dH y);have hk1:(k:Int) - 1=(j:Int):=by omega
    have a1:(j:Int)<(n:Int):=by omega
    have hk3:0<(k:Int):=by omega
    have aF:=Jh aj;have ah:=Jh hy;have z0:wr.cell? ⟨q,0,none⟩=some (.int .i64 x.t):=af.out.cell 0;have aD:wr.cell? ⟨b,az+j*2,none⟩=some (.int .i64 yk):=by rw[aj];exact k0
    have aC:wr.cell? ⟨q,0,none⟩=some (.int .i64 xk):=by rw[an.out];exact z0
    have zl:=af.out.lt;have aU:Hid (k=j+1):=hj;subst hA;clear hE hc e1 k0 z0 aj hy hj
    by_cases hge:xk<=yk
    .have am:decide (xk<=yk)=true:=jL hge;go_upto_region 2 with fail
     refine Kaa (by kernel_rfl) (by kernel_rfl) ?_
     repeat (go_big_quiet_step (fail))
     refine dU ?_;rintro w2 ⟨⟨_,aa⟩,rfl⟩;have ab:Hid (wa.grownBy w2 none):=ds HG.out ⟨aa.os,aa.tape,aa.output,aa.size,fun j hj _=>aa.block j hj⟩
     have bd:Hid (∀y∈l.drop j,xk<=dH y):=fun z hz=>by
      have aM:=(cS.1 ah.out).1;rw[cN aM,(cS.1 ah.out).2]at hz;rcases c4.1 hz with rfl | hz
      .rw[<-aF.out];exact hge
      .exact HD.out z (by rw[aU.out];exact hz)
     clear aa aD aC zl af aL am hb;go_wp2_with fail
     go_roundg j
     case measure=>have:=aU.out;omega
     case rel=>exact⟨j,by first | rfl | go_num,by omega,by omega,ab,bd⟩
    .have am:decide (xk<=yk)=false:=jJ hge;go_upto_region 2 with fail
     refine Kaa (by kernel_rfl) (by kernel_rfl) ?_
     repeat (go_big_quiet_step (fail))
     refine dU ?_;rintro w2 ⟨⟨_,aa⟩,rfl⟩;have ab:Hid (wa.grownBy w2 none):=ds HG.out ⟨aa.os,aa.tape,aa.output,aa.size,fun j hj _=>aa.block j hj⟩
     have bg:Hid (∀y∈l.take k,dH y<xk):=fun z hz=>by
      rw[aU.out,cJ,ah.out]at hz
      have hzy:dH z<=dH y:=by
       rcases cY.1 hz with hz | hz
       .obtain ⟨i,hi,rfl⟩:=c8.1 hz;have bh:i<j:=by rw[cL]at hi;omega
        have aM:=(cS.1 ah.out).1;have:=cW.1 aO.out i j (by omega) aM bh;rw[(cS.1 ah.out).2]at this;rw[df];omega
       .have:z=y:=by simpa using hz
        rw[this];exact Int.le_refl _
      have:=aF.out;omega
     clear aa aD aC zl af aL am hb;go_wp2_with fail
     go_meet
     exact⟨k,rfl,aT,ab,bg,HD⟩
 case rest=>
  obtain⟨k,rfl,aT,HG,HT,HD⟩:=hcut;obtain⟨wz,rfl⟩:=jG wc;have aE:Hid (Blk wz q 133 #[.int .i64 x.t,.int .u64 (x.v:Int)]):=aZ.out.grown HG.out (by simp);have aw:Hid (wz.ownsRow B 133 2 (.slice A n c) n (l.flatMap Kac)):=Kch (Kch aG.out aP.out) HG.out;have aI:Hid (w.grownBy wz none):=ds aP.out HG.out;go_upto_region 4 with fail
  go_cut [37] (fun s37 w2=>∃bb:Bool,s37 = .bool bb/\Hid (wz.grownBy w2 none)/\Hid (bb=true->insO dH x l=l)/\Hid (bb=false->∀y,l[k]? = some y->dH y≠xk))
  case first=>
   rcases cM k n with hlt | hge
   .obtain ⟨y,hy⟩:∃y,l[k]? = some y:=⟨l[k]'(by omega),cV _⟩;obtain⟨A1,c1,e1,hE,_⟩:=dS (xs:=l) (enc:=Kac) (fun _ _=>rfl) rfl aw.out hl;obtain⟨b,az,hA,hb,hc⟩:=hE.2 (by omega);injection e1 with e1 _ e3;subst e3;rw[<-e1]at hA;have k0:wz.cell? ⟨b,az+k*2,none⟩=some (.int .i64 y.t):=hc k y hy 0 _ rfl;obtain⟨yk,aj⟩:=jG (dH y);have a1:(k:Int)<(n:Int):=by omega
    have aF:=Jh aj;have ah:=Jh hy;have z0:wz.cell? ⟨q,0,none⟩=some (.int .i64 x.t):=aE.out.cell 0;have aD:wz.cell? ⟨b,az+k*2,none⟩=some (.int .i64 yk):=by rw[aj];exact k0
    have aC:wz.cell? ⟨q,0,none⟩=some (.int .i64 xk):=by rw[an.out];exact z0
    have zl:=aE.out.lt;subst hA;clear hE hc e1 k0 z0 aj hy
    by_cases heq:yk=xk
    .have al:(yk == xk)=true:=by rw[beq_iff_eq];exact heq
     refine Kaa (by kernel_rfl) (by kernel_rfl) ?_
     repeat (go_big_quiet_step (fail))
     refine dU ?_;rintro w2 ⟨⟨_,aa⟩,rfl⟩;have ab:Hid (wz.grownBy w2 none):=⟨aa.os,aa.tape,aa.output,aa.size,fun j hj _=>aa.block j hj⟩;have ac:Hid (insO dH x l=l):=Kle dH x (k:=k) (y:=y) (fun z hz=>by have:=HT.out z hz;rw[an.out]at this;exact this) ah.out (by rw[<-aF.out,heq,an.out]);clear aa aD aC zl hb al heq;go_wp2_with fail
     go_meet
     exact⟨true,rfl,ab,fun _=>ac.out,fun h=>by cases h⟩
    .have al:(yk == xk)=false:=by rw[jO];exact heq
     refine Kaa (by kernel_rfl) (by kernel_rfl) ?_
     repeat (go_big_quiet_step (fail))
     refine dU ?_;rintro w2 ⟨⟨_,aa⟩,rfl⟩;have ab:Hid (wz.grownBy w2 none):=⟨aa.os,aa.tape,aa.output,aa.size,fun j hj _=>aa.block j hj⟩
     have aq:Hid (∀y,l[k]? = some y->dH y≠xk):=fun z hz=>by rw[ah.out]at hz;injection hz with hz;rw[<-hz,<-aF.out];exact heq
     clear aa aD aC zl hb al heq;go_wp2_with fail
     go_meet
     exact⟨false,rfl,ab,(fun h=>by cases h),fun _=>aq.out⟩
   .have a1:¬(k:Int)<(n:Int):=by omega
    refine Kaa (by kernel_rfl) (by kernel_rfl) ?_
    repeat (go_big_quiet_step (fail))
    refine dU ?_;rintro w2 ⟨⟨_,aa⟩,rfl⟩;have ab:Hid (wz.grownBy w2 none):=⟨aa.os,aa.tape,aa.output,aa.size,fun j hj _=>aa.block j hj⟩
    have aq:Hid (∀y,l[k]? = some y->dH y≠xk):=fun z hz=>by have:=(cS.1 hz).1;omega
    clear aa;go_wp2_with fail
    go_meet
    exact⟨false,rfl,ab,(fun h=>by cases h),fun _=>aq.out⟩
  case rest=>
   obtain⟨bb,rfl,ab,aN,aR⟩:=hcut;obtain⟨w2,rfl⟩:=jG wc
   cases bb with
   | true=>
    have ac:=Jh (aN.out rfl);have aH:Hid (w2.ownsRow B 133 2 (.slice A n c) n (l.flatMap Kac)):=Kch aw.out ab.out;have ar:Hid (w.grownBy w2 none):=ds aI.out ab.out;clear aN aR HG HT HD aE aw aI ab;go_wp2_with fail
    go_ret
    refine⟨A,n,c,rfl,?_,?_,?_,.inl rfl⟩
    .rw[ac.out];exact aH.out
    .rw[ac.out];exact hl
    .exact dw ar.out _
   | false=>
   have aq:=Jh (aR.out rfl);clear aN aR;have av:Hid (Blk w2 q 133 #[.int .i64 x.t,.int .u64 (x.v:Int)]):=aE.out.grown ab.out (by simp);have aH:Hid (w2.ownsRow B 133 2 (.slice A n c) n (l.flatMap Kac)):=Kch aw.out ab.out;have ar:Hid (w.grownBy w2 none):=ds aI.out ab.out;have ay:Hid (insO dH x l=Kaf l k x):=Kjo dH x (by omega) (fun z hz=>by have:=HT.out z hz;rw[an.out]at this;exact this) (fun z hz=>by have:=HD.out z hz;rw[an.out]at this;exact this) (fun z hz=>by have:=aq.out z hz;rw[an.out]at this;exact this);clear HG HT HD aE aw aI ab aq;have z0:w2.cell? ⟨q,0,none⟩=some (.int .i64 x.t):=av.out.cell 0;have z1:w2.cell? ⟨q,1,none⟩=some (.int .u64 (x.v:Int)):=av.out.cell 1;have zl:=av.out.lt;obtain⟨w6,aA⟩:=jG (w2.alloc (.cells #[.int .i64 x.t,.int .u64 (x.v:Int)] 133));have ap:Hid (w2.grownBy w6 none):=by show dB _ _ _;rw[aA];exact dz w2 _ none
   have ai:Blk w6 w2.heap.size 133 #[.int .i64 x.t,.int .u64 (x.v:Int)]:=by rw[aA];exact dQ _ _ _
   have ae:w6.ownsRow B 133 2 (.slice A n c) n (l.flatMap Kac):=Kch aH.out ap.out;have ax:=Jh ae;have a4:Hid (Blk w6 q 133 #[.int .i64 x.t,.int .u64 (x.v:Int)]):=av.out.grown ap.out (by simp);have a0:B<=w6.heap.size:=cZ HB.out (cZ ar.out.size ap.out.size);go_wp2_with (at_builtin;(try rw[<-aA]);refine dV _ rfl _ _ 129 rfl B 133 ib (.agg #[.int .i64 0,.int .u64 0]) 2 16 underlying129 bi bj a9 bc rfl (by decide) (.slice A n c) n _ rfl ae ⟨w2.heap.size,0,none⟩ 1 1 [.int .i64 x.t,.int .u64 (x.v:Int)] rfl rfl (Kam (l:=[.int .i64 x.t,.int .u64 (x.v:Int)]) ai) ?p2 ?p3 ?p4 ?p5 ?_)
   case p2=>intro u hu;simp only[dh,dd,or_false]at hu;rcases hu with rfl | rfl <;> rfl
   case p3=>unfold maxLen;omega
   case p4=>omega
   case p5=>exact a0
   intro v9 w9 hown' hgrow _ ad;rw[<-aA]at hgrow
   have ak:∃g c9,v9 = .slice (some ⟨g,0,none⟩) (n+1) c9:=by
    obtain⟨A9,c9,e9⟩:=Kah hown';subst e9;rcases hown'.2 with ⟨h1,h2⟩ | ⟨g,cap,aY,h1,_⟩
    .omega
    .injection h1 with h1 _ h3;exact⟨g,c9,by rw[h1]⟩
   obtain⟨g,c9,rfl⟩:=ak
   have aX:Hid (some g=(dx A n c).ownBlock\/w.heap.size<=g):=by
    rcases ad with e | e
    .exact .inl e
    .right
     have e2:g=w2.heap.size+1:=by have:(dx (some ⟨g,0,none⟩) (n+1) c9).ownBlock=some g:=rfl;rw[this]at e;exact dJ e
     have:=ar.out.size;have:=ap.out.size;omega
   have a5:g≠q:=by
    rcases ad with e | e
    .have:=(aG.out.lt g e.symm).2;rw[HQ.out];omega
    .have e2:g=w2.heap.size+1:=by
      have:(dx (some ⟨g,0,none⟩) (n+1) c9).ownBlock=some g:=rfl;rw[this]at e;exact dJ e
     have:=av.out.lt;omega
   have a6:=Jh a5
   have be:Hid (Blk w9 q 133 #[.int .i64 x.t,.int .u64 (x.v:Int)]):=a4.out.grown hgrow (fun e=>by
    have:=(aG.out.lt q e.symm).2;have:=HQ.out
    omega)
   have aQ:Hid (w.grownBy w9 (dx A n c).ownBlock):=ds (dw (ds ar.out ap.out) _) hgrow
   have aW:Hid (w9.ownsRow B 133 2 (.slice (some ⟨g,0,none⟩) (n+1) c9) (n+1) ((Kaf l n x).flatMap Kac)):=by
    show dA _ _ _ _ _ _ _
    have e:Kaf l n x=l ++ [x]:=by rw[<-HL.out];exact Klw l x
    rw[e,de,db];exact hown'
   have aB:Hid (w9.grownBy w9 (some g)):=⟨rfl,rfl,rfl,cH _,fun _ _ _=>rfl⟩;clear hown' hgrow ad ae ai ax a4 aA a0 ap ar av aH z0 z1 zl a5;go_wp2_with fail
   go_loopg [6] n (fun kx s6 wr=>∃(m:Nat) (z:Smp),s6 = .int .i64 (m:Int)/\k<=m/\m<=n/\m<=kx/\Hid (w9.grownBy wr (some g))/\Hid (wr.ownsRow B 133 2 (.slice (some ⟨g,0,none⟩) (n+1) c9) (n+1) ((Kaf l m z).flatMap Kac)))
   case atStart=>exact⟨n,x,by first | rfl | go_num,aT,cH _,cH _,aB,aW⟩
   case round=>
    clear aW aB;obtain⟨m,z,rfl,bf,hmn,a7,HG,HR⟩:=hrel;have af:Hid (Blk wr q 133 #[.int .i64 x.t,.int .u64 (x.v:Int)]):=be.out.grown HG.out (fun e=>by injection e with e;exact a6.out e.symm);obtain⟨aY,ao⟩:=Kax HR.out (r:=g) rfl;have ak:Blk wr g 133 aY:=ao;have hgl:=ak.lt
    have ad:=fun (i:Nat) (y:Smp) (hy:(Kaf l m z)[i]? = some y) (r:Nat) (hr:r<2)=>(by
     have hil:i<n+1:=by have:=(cS.1 hy).1;rw[Kdh,HL.out]at this;exact this
     rw[HR.out.cellAt (i*2+r) (by omega)]
     exact Kcw (enc:=Kac) (fun _=>rfl) _ i r y hy hr:wr.cell? ⟨g,i*2+r,none⟩=(Kac y)[r]?)
    rcases cM k m with hlt | hge
    .obtain ⟨j,hj⟩:∃j,m=j+1:=⟨m - 1,by omega⟩;obtain⟨y,hy⟩:∃y,l[j]? = some y:=⟨l[j]'(by omega),cV _⟩;have aS:(Kaf l m z)[j]? = some y:=by rw[Kgi (by omega) (by omega)];exact hy
     have ag:(Kaf l m z)[m]? = some z:=Kdr l z (by omega);have k0:wr.cell? ⟨g,j*2,none⟩=some (.int .i64 y.t):=ad j y aS 0 (by decide);have k1:wr.cell? ⟨g,j*2+1,none⟩=some (.int .u64 (y.v:Int)):=ad j y aS 1 (by decide);have u0:wr.cell? ⟨g,m*2,none⟩=some (.int .i64 z.t):=ad m z ag 0 (by decide);have u1:wr.cell? ⟨g,m*2+1,none⟩=some (.int .u64 (z.v:Int)):=ad m z ag 1 (by decide);have f0:=ak.frozen (m*2);have f1:=ak.frozen (m*2+1);have hm1:(m:Int) - 1=(j:Int):=by omega
     have hm2:(j:Int)<(n:Int)+1:=by omega
     have a8:(m:Int)<(n:Int)+1:=by omega
     have hm4:(k:Int)<(m:Int):=by omega
     have aV:Hid (((wr.setCell ⟨g,m*2,none⟩ (.int .i64 y.t)).setCell ⟨g,m*2+1,none⟩ (.int .u64 (y.v:Int))).ownsRow B 133 2 (.slice (some ⟨g,0,none⟩) (n+1) c9) (n+1) ((Kaf l j y).flatMap Kac)):=by
      show dA _ _ _ _ _ _ _
      rw[<-Kjw z hy,<-hj,<-Kge (n:=2) (fun _=>rfl) _ m y z ag];exact(dF (dF HR.out (m*2) (.int .i64 y.t)).1 (m*2+1) (.int .u64 (y.v:Int))).1
     have aK:Hid (w9.grownBy ((wr.setCell ⟨g,m*2,none⟩ (.int .i64 y.t)).setCell ⟨g,m*2+1,none⟩ (.int .u64 (y.v:Int))) (some g)):=Kkz HG.out _ _ _;have HJ:=Jh hj;clear ad hy aS ag hj ao HR HG;go_wp2_with fail
     go_roundg j
     case measure=>have:=HJ.out;omega
     case rel=>exact⟨j,y,by first | rfl | go_num,by have:=HJ.out;omega,by omega,by omega,aK,aV⟩
    .have a2:m=k:=by omega
     have ag:(Kaf l m z)[m]? = some z:=Kdr l z (by omega);have u0:wr.cell? ⟨g,m*2,none⟩=some (.int .i64 z.t):=ad m z ag 0 (by decide);have u1:wr.cell? ⟨g,m*2+1,none⟩=some (.int .u64 (z.v:Int)):=ad m z ag 1 (by decide);have f0:=ak.frozen (m*2);have f1:=ak.frozen (m*2+1);have z0:wr.cell? ⟨q,0,none⟩=some (.int .i64 x.t):=af.out.cell 0;have z1:wr.cell? ⟨q,1,none⟩=some (.int .u64 (x.v:Int)):=af.out.cell 1;have zl:=af.out.lt;have a8:(m:Int)<(n:Int)+1:=by omega
     have aV:Hid (((wr.setCell ⟨g,m*2,none⟩ (.int .i64 x.t)).setCell ⟨g,m*2+1,none⟩ (.int .u64 (x.v:Int))).ownsRow B 133 2 (.slice (some ⟨g,0,none⟩) (n+1) c9) (n+1) ((insO dH x l).flatMap Kac)):=by
      show dA _ _ _ _ _ _ _
      rw[ay.out,<-a2,<-Kgj z x (by omega),<-Kge (n:=2) (fun _=>rfl) _ m x z ag];exact(dF (dF HR.out (m*2) (.int .i64 x.t)).1 (m*2+1) (.int .u64 (x.v:Int))).1
     have aK:Hid (w9.grownBy ((wr.setCell ⟨g,m*2,none⟩ (.int .i64 x.t)).setCell ⟨g,m*2+1,none⟩ (.int .u64 (x.v:Int))) (some g)):=Kkz HG.out _ _ _;have ba:Hid ((insO dH x l).length=n+1):=by show _=_;rw[ay.out,Kdh,HL.out]
     clear ad ag ao HR HG af hge bf a7;subst a2;go_wp2_with fail
     go_ret
     refine⟨some ⟨g,0,none⟩,n+1,c9,rfl,aV.out,ba.out,Kgt aQ.out aK.out aX.out,?_⟩;rcases aX.out with e | e
     .exact .inl e
     .exact .inr ⟨g,rfl,e⟩
theorem Kwo (l:List Wnd) (x:Wnd) (hasc:l.Pairwise fun a b=>dG a<dG b) (B:Nat) (A:Option Addr) (n c:Nat) (w:World) (h:w.ownsRow B 136 6 (.slice A n c) n (l.flatMap Kad)) (hl:l.length=n) (hB:B<=w.heap.size) (hn:n<=137438953472) :
  Calls prog 103 #[.slice A n c,.agg #[.int .i64 x.start,.int .i64 x.count,.int .u64 (x.sum:Int),.int .u64 (x.min:Int),.int .u64 (x.max:Int),.int .u64 (x.last:Int)]] w fun e w'=>∃(A':Option Addr) (n' c':Nat),e = .returned (.slice A' n' c')/\w'.ownsRow B 136 6 (.slice A' n' c') n' ((insO dG x l).flatMap Kad)/\(insO dG x l).length=n'/\w.grownBy w' (dx A n c).ownBlock/\
   ((dx A' n' c').ownBlock=(dx A n c).ownBlock\/∃b,(dx A' n' c').ownBlock=some b/\w.heap.size<=b):=by
 obtain⟨ib,bi,bj,a9,bc⟩:=info_parts Kld;have aH:=Jh h;have HL:=Jh hl;have aP:=Jh hasc;have HB:=Jh hB;have HX:Hid (Kad x = [.int .i64 x.start,.int .i64 x.count,.int .u64 (x.sum:Int),.int .u64 (x.min:Int),.int .u64 (x.max:Int),.int .u64 (x.last:Int)]):=rfl;obtain⟨q,hq⟩:=jG w.heap.size;have HQ:=Jh hq;clear h hasc hB;obtain⟨xk,a3⟩:=jG (dG x);have ap:=Jh a3;go_enter func103,ntmps103
 go_upto_region 1 with fail
 obtain⟨wa,aK⟩:=jG (w.alloc (.cells #[.int .i64 x.start,.int .i64 x.count,.int .u64 (x.sum:Int),.int .u64 (x.min:Int),.int .u64 (x.max:Int),.int .u64 (x.last:Int)] 136));have aZ:Hid (Blk wa q 136 #[.int .i64 x.start,.int .i64 x.count,.int .u64 (x.sum:Int),.int .u64 (x.min:Int),.int .u64 (x.max:Int),.int .u64 (x.last:Int)]):=by show Blk _ _ _ _;rw[aK,hq];exact dQ _ _ _
 have aQ:Hid (w.grownBy wa none):=by show dB _ _ _;rw[aK];exact dz w _ none
 rw[<-aK,<-hq];clear aK hq a3;go_upto_block 0 with fail
 go_cut [5] (fun s5 wz=>∃k:Nat,s5 = .int .i64 (k:Int)/\k<=n/\Hid (wa.grownBy wz none)/\Hid (∀y∈l.take k,dG y<xk)/\Hid (∀y∈l.drop k,xk<=dG y))
 case first=>
  go_wp2_with fail
  go_loopg [5] n (fun kx s5 wr=>∃k:Nat,s5 = .int .i64 (k:Int)/\k<=n/\k<=kx/\Hid (wa.grownBy wr none)/\Hid (∀y∈l.drop k,xk<=dG y))
  case atStart=>exact⟨n,rfl,cH _,cH _,(show dB _ _ _ from ⟨rfl,rfl,rfl,cH _,fun _ _ _=>rfl⟩),(show ∀y∈l.drop n,_ from fun y hy=>by rw[<-HL.out,dj]at hy;simp at hy)⟩
  case round=>
   obtain⟨k,rfl,aT,hkg,HG,HD⟩:=hrel;have ag:Hid (Blk wr q 136 #[.int .i64 x.start,.int .i64 x.count,.int .u64 (x.sum:Int),.int .u64 (x.min:Int),.int .u64 (x.max:Int),.int .u64 (x.last:Int)]):=aZ.out.grown HG.out (by simp);have aM:Hid (wr.ownsRow B 136 6 (.slice A n c) n (l.flatMap Kad)):=Kch (Kch aH.out aQ.out) HG.out;rcases da k with h0 | h0
   .subst h0;go_upto_region 2 with fail
    refine Kaa (by kernel_rfl) (by kernel_rfl) ?_
    repeat (go_big_quiet_step (fail))
    refine dU ?_;rintro w2 ⟨⟨_,aa⟩,rfl⟩;have ac:Hid (wa.grownBy w2 none):=ds HG.out ⟨aa.os,aa.tape,aa.output,aa.size,fun j hj _=>aa.block j hj⟩;clear aa;go_wp2_with fail
    go_meet
    exact⟨0,rfl,by omega,ac,(show ∀y∈l.take 0,_ from fun y hy=>by simp at hy),HD⟩
   .obtain ⟨j,hj⟩:∃j,k=j+1:=⟨k - 1,by omega⟩;obtain⟨y,hy⟩:∃y,l[j]? = some y:=⟨l[j]'(by omega),cV _⟩;obtain⟨A1,c1,e1,hE,_⟩:=dS (xs:=l) (enc:=Kad) (fun _ _=>rfl) rfl aM.out hl;obtain⟨b,aA,hA,hb,hc⟩:=hE.2 (by omega);injection e1 with e1 _ e3;subst e3;rw[<-e1]at hA;have k0:wr.cell? ⟨b,aA+j*6,none⟩=some (.int .i64 y.start):=hc j y hy 0 _ rfl;obtain⟨yk,al⟩:=jG (dG y);have hk1:(k:Int) - 1=(j:Int):=by omega
    have a1:(j:Int)<(n:Int):=by omega
    have hk3:0<(k:Int):=by omega
    have aG:=Jh al;have aj:=Jh hy;have z0:wr.cell? ⟨q,0,none⟩=some (.int .i64 x.start):=ag.out.cell 0;have aE:wr.cell? ⟨b,aA+j*6,none⟩=some (.int .i64 yk):=by rw[al];exact k0
    have aD:wr.cell? ⟨q,0,none⟩=some (.int .i64 xk):=by rw[ap.out];exact z0
    have zl:=ag.out.lt;have aU:Hid (k=j+1):=hj;subst hA;clear hE hc e1 k0 z0 al hy hj
    by_cases hge:xk<=yk
    .have an:decide (xk<=yk)=true:=jL hge;go_upto_region 2 with fail
     refine Kaa (by kernel_rfl) (by kernel_rfl) ?_
     repeat (go_big_quiet_step (fail))
     refine dU ?_;rintro w2 ⟨⟨_,aa⟩,rfl⟩;have ac:Hid (wa.grownBy w2 none):=ds HG.out ⟨aa.os,aa.tape,aa.output,aa.size,fun j hj _=>aa.block j hj⟩
     have bd:Hid (∀y∈l.drop j,xk<=dG y):=fun z hz=>by
      have aN:=(cS.1 aj.out).1;rw[cN aN,(cS.1 aj.out).2]at hz;rcases c4.1 hz with rfl | hz
      .rw[<-aG.out];exact hge
      .exact HD.out z (by rw[aU.out];exact hz)
     clear aa aE aD zl ag aM an hb;go_wp2_with fail
     go_roundg j
     case measure=>have:=aU.out;omega
     case rel=>exact⟨j,by first | rfl | go_num,by omega,by omega,ac,bd⟩
    .have an:decide (xk<=yk)=false:=jJ hge;go_upto_region 2 with fail
     refine Kaa (by kernel_rfl) (by kernel_rfl) ?_
     repeat (go_big_quiet_step (fail))
     refine dU ?_;rintro w2 ⟨⟨_,aa⟩,rfl⟩;have ac:Hid (wa.grownBy w2 none):=ds HG.out ⟨aa.os,aa.tape,aa.output,aa.size,fun j hj _=>aa.block j hj⟩
     have bg:Hid (∀y∈l.take k,dG y<xk):=fun z hz=>by
      rw[aU.out,cJ,aj.out]at hz
      have hzy:dG z<=dG y:=by
       rcases cY.1 hz with hz | hz
       .obtain ⟨i,hi,rfl⟩:=c8.1 hz;have bh:i<j:=by rw[cL]at hi;omega
        have aN:=(cS.1 aj.out).1;have:=cW.1 aP.out i j (by omega) aN bh;rw[(cS.1 aj.out).2]at this;rw[df];omega
       .have:z=y:=by simpa using hz
        rw[this];exact Int.le_refl _
      have:=aG.out;omega
     clear aa aE aD zl ag aM an hb;go_wp2_with fail
     go_meet
     exact⟨k,rfl,aT,ac,bg,HD⟩
 case rest=>
  obtain⟨k,rfl,aT,HG,HT,HD⟩:=hcut;obtain⟨wz,rfl⟩:=jG wc;have aF:Hid (Blk wz q 136 #[.int .i64 x.start,.int .i64 x.count,.int .u64 (x.sum:Int),.int .u64 (x.min:Int),.int .u64 (x.max:Int),.int .u64 (x.last:Int)]):=aZ.out.grown HG.out (by simp);have ax:Hid (wz.ownsRow B 136 6 (.slice A n c) n (l.flatMap Kad)):=Kch (Kch aH.out aQ.out) HG.out;have aJ:Hid (w.grownBy wz none):=ds aQ.out HG.out;go_upto_region 4 with fail
  go_cut [37] (fun s37 w2=>∃bb:Bool,s37 = .bool bb/\Hid (wz.grownBy w2 none)/\Hid (bb=true->insO dG x l=l)/\Hid (bb=false->∀y,l[k]? = some y->dG y≠xk))
  case first=>
   rcases cM k n with hlt | hge
   .obtain ⟨y,hy⟩:∃y,l[k]? = some y:=⟨l[k]'(by omega),cV _⟩;obtain⟨A1,c1,e1,hE,_⟩:=dS (xs:=l) (enc:=Kad) (fun _ _=>rfl) rfl ax.out hl;obtain⟨b,aA,hA,hb,hc⟩:=hE.2 (by omega);injection e1 with e1 _ e3;subst e3;rw[<-e1]at hA;have k0:wz.cell? ⟨b,aA+k*6,none⟩=some (.int .i64 y.start):=hc k y hy 0 _ rfl;obtain⟨yk,al⟩:=jG (dG y);have a1:(k:Int)<(n:Int):=by omega
    have aG:=Jh al;have aj:=Jh hy;have z0:wz.cell? ⟨q,0,none⟩=some (.int .i64 x.start):=aF.out.cell 0;have aE:wz.cell? ⟨b,aA+k*6,none⟩=some (.int .i64 yk):=by rw[al];exact k0
    have aD:wz.cell? ⟨q,0,none⟩=some (.int .i64 xk):=by rw[ap.out];exact z0
    have zl:=aF.out.lt;subst hA;clear hE hc e1 k0 z0 al hy
    by_cases heq:yk=xk
    .have am:(yk == xk)=true:=by rw[beq_iff_eq];exact heq
     refine Kaa (by kernel_rfl) (by kernel_rfl) ?_
     repeat (go_big_quiet_step (fail))
     refine dU ?_;rintro w2 ⟨⟨_,aa⟩,rfl⟩;have ac:Hid (wz.grownBy w2 none):=⟨aa.os,aa.tape,aa.output,aa.size,fun j hj _=>aa.block j hj⟩;have af:Hid (insO dG x l=l):=Kle dG x (k:=k) (y:=y) (fun z hz=>by have:=HT.out z hz;rw[ap.out]at this;exact this) aj.out (by rw[<-aG.out,heq,ap.out]);clear aa aE aD zl hb am heq;go_wp2_with fail
     go_meet
     exact⟨true,rfl,ac,fun _=>af.out,fun h=>by cases h⟩
    .have am:(yk == xk)=false:=by rw[jO];exact heq
     refine Kaa (by kernel_rfl) (by kernel_rfl) ?_
     repeat (go_big_quiet_step (fail))
     refine dU ?_;rintro w2 ⟨⟨_,aa⟩,rfl⟩;have ac:Hid (wz.grownBy w2 none):=⟨aa.os,aa.tape,aa.output,aa.size,fun j hj _=>aa.block j hj⟩
     have av:Hid (∀y,l[k]? = some y->dG y≠xk):=fun z hz=>by rw[aj.out]at hz;injection hz with hz;rw[<-hz,<-aG.out];exact heq
     clear aa aE aD zl hb am heq;go_wp2_with fail
     go_meet
     exact⟨false,rfl,ac,(fun h=>by cases h),fun _=>av.out⟩
   .have a1:¬(k:Int)<(n:Int):=by omega
    refine Kaa (by kernel_rfl) (by kernel_rfl) ?_
    repeat (go_big_quiet_step (fail))
    refine dU ?_;rintro w2 ⟨⟨_,aa⟩,rfl⟩;have ac:Hid (wz.grownBy w2 none):=⟨aa.os,aa.tape,aa.output,aa.size,fun j hj _=>aa.block j hj⟩
    have av:Hid (∀y,l[k]? = some y->dG y≠xk):=fun z hz=>by have:=(cS.1 hz).1;omega
    clear aa;go_wp2_with fail
    go_meet
    exact⟨false,rfl,ac,(fun h=>by cases h),fun _=>av.out⟩
  case rest=>
   obtain⟨bb,rfl,ac,aO,aS⟩:=hcut;obtain⟨w2,rfl⟩:=jG wc
   cases bb with
   | true=>
    have af:=Jh (aO.out rfl);have aI:Hid (w2.ownsRow B 136 6 (.slice A n c) n (l.flatMap Kad)):=Kch ax.out ac.out;have aw:Hid (w.grownBy w2 none):=ds aJ.out ac.out;clear aO aS HG HT HD aF ax aJ ac;go_wp2_with fail
    go_ret
    refine⟨A,n,c,rfl,?_,?_,?_,.inl rfl⟩
    .rw[af.out];exact aI.out
    .rw[af.out];exact hl
    .exact dw aw.out _
   | false=>
   have av:=Jh (aS.out rfl);clear aO aS;have ai:Hid (Blk w2 q 136 #[.int .i64 x.start,.int .i64 x.count,.int .u64 (x.sum:Int),.int .u64 (x.min:Int),.int .u64 (x.max:Int),.int .u64 (x.last:Int)]):=aF.out.grown ac.out (by simp);have aI:Hid (w2.ownsRow B 136 6 (.slice A n c) n (l.flatMap Kad)):=Kch ax.out ac.out;have aw:Hid (w.grownBy w2 none):=ds aJ.out ac.out;have az:Hid (insO dG x l=Kaf l k x):=Kjo dG x (by omega) (fun z hz=>by have:=HT.out z hz;rw[ap.out]at this;exact this) (fun z hz=>by have:=HD.out z hz;rw[ap.out]at this;exact this) (fun z hz=>by have:=av.out z hz;rw[ap.out]at this;exact this);clear HG HT HD aF ax aJ ac av;have z0:w2.cell? ⟨q,0,none⟩=some (.int .i64 x.start):=ai.out.cell 0;have z1:w2.cell? ⟨q,1,none⟩=some (.int .i64 x.count):=ai.out.cell 1;have z2:w2.cell? ⟨q,2,none⟩=some (.int .u64 (x.sum:Int)):=ai.out.cell 2;have z3:w2.cell? ⟨q,3,none⟩=some (.int .u64 (x.min:Int)):=ai.out.cell 3;have z4:w2.cell? ⟨q,4,none⟩=some (.int .u64 (x.max:Int)):=ai.out.cell 4;have z5:w2.cell? ⟨q,5,none⟩=some (.int .u64 (x.last:Int)):=ai.out.cell 5;have zl:=ai.out.lt;obtain⟨w6,aB⟩:=jG (w2.alloc (.cells #[.int .i64 x.start,.int .i64 x.count,.int .u64 (x.sum:Int),.int .u64 (x.min:Int),.int .u64 (x.max:Int),.int .u64 (x.last:Int)] 136));have ar:Hid (w2.grownBy w6 none):=by show dB _ _ _;rw[aB];exact dz w2 _ none
   have ak:Blk w6 w2.heap.size 136 #[.int .i64 x.start,.int .i64 x.count,.int .u64 (x.sum:Int),.int .u64 (x.min:Int),.int .u64 (x.max:Int),.int .u64 (x.last:Int)]:=by rw[aB];exact dQ _ _ _
   have ah:w6.ownsRow B 136 6 (.slice A n c) n (l.flatMap Kad):=Kch aI.out ar.out;have ay:=Jh ah;have a4:Hid (Blk w6 q 136 #[.int .i64 x.start,.int .i64 x.count,.int .u64 (x.sum:Int),.int .u64 (x.min:Int),.int .u64 (x.max:Int),.int .u64 (x.last:Int)]):=ai.out.grown ar.out (by simp);have a0:B<=w6.heap.size:=cZ HB.out (cZ aw.out.size ar.out.size);go_wp2_with (at_builtin;(try rw[<-aB]);refine dV _ rfl _ _ 130 rfl B 136 ib (.agg #[.int .i64 0,.int .i64 0,.int .u64 0,.int .u64 0,.int .u64 0,.int .u64 0]) 6 48 underlying130 bi bj a9 bc rfl (by decide) (.slice A n c) n _ rfl ah ⟨w2.heap.size,0,none⟩ 1 1 [.int .i64 x.start,.int .i64 x.count,.int .u64 (x.sum:Int),.int .u64 (x.min:Int),.int .u64 (x.max:Int),.int .u64 (x.last:Int)] rfl rfl (Kam (l:=[.int .i64 x.start,.int .i64 x.count,.int .u64 (x.sum:Int),.int .u64 (x.min:Int),.int .u64 (x.max:Int),.int .u64 (x.last:Int)]) ak) ?p2 ?p3 ?p4 ?p5 ?_)
   case p2=>intro u hu;simp only[dh,dd,or_false]at hu;rcases hu with rfl | rfl | rfl | rfl | rfl | rfl <;> rfl
   case p3=>unfold maxLen;omega
   case p4=>omega
   case p5=>exact a0
   intro v9 w9 hown' hgrow _ ab;rw[<-aB]at hgrow
   have ae:∃g c9,v9 = .slice (some ⟨g,0,none⟩) (n+1) c9:=by
    obtain⟨A9,c9,e9⟩:=Kah hown';subst e9;rcases hown'.2 with ⟨h1,h2⟩ | ⟨g,cap,aY,h1,_⟩
    .omega
    .injection h1 with h1 _ h3;exact⟨g,c9,by rw[h1]⟩
   obtain⟨g,c9,rfl⟩:=ae
   have aX:Hid (some g=(dx A n c).ownBlock\/w.heap.size<=g):=by
    rcases ab with e | e
    .exact .inl e
    .right
     have e2:g=w2.heap.size+1:=by have:(dx (some ⟨g,0,none⟩) (n+1) c9).ownBlock=some g:=rfl;rw[this]at e;exact dJ e
     have:=aw.out.size;have:=ar.out.size;omega
   have a5:g≠q:=by
    rcases ab with e | e
    .have:=(aH.out.lt g e.symm).2;rw[HQ.out];omega
    .have e2:g=w2.heap.size+1:=by
      have:(dx (some ⟨g,0,none⟩) (n+1) c9).ownBlock=some g:=rfl;rw[this]at e;exact dJ e
     have:=ai.out.lt;omega
   have a6:=Jh a5
   have be:Hid (Blk w9 q 136 #[.int .i64 x.start,.int .i64 x.count,.int .u64 (x.sum:Int),.int .u64 (x.min:Int),.int .u64 (x.max:Int),.int .u64 (x.last:Int)]):=a4.out.grown hgrow (fun e=>by
    have:=(aH.out.lt q e.symm).2;have:=HQ.out
    omega)
   have aR:Hid (w.grownBy w9 (dx A n c).ownBlock):=ds (dw (ds aw.out ar.out) _) hgrow
   have aW:Hid (w9.ownsRow B 136 6 (.slice (some ⟨g,0,none⟩) (n+1) c9) (n+1) ((Kaf l n x).flatMap Kad)):=by
    show dA _ _ _ _ _ _ _
    have e:Kaf l n x=l ++ [x]:=by rw[<-HL.out];exact Klw l x
    rw[e,de,db];exact hown'
   have aC:Hid (w9.grownBy w9 (some g)):=⟨rfl,rfl,rfl,cH _,fun _ _ _=>rfl⟩;clear hown' hgrow ab ah ak ay a4 aB a0 ar aw ai aI z0 z1 z2 z3 z4 z5 zl a5;go_wp2_with fail
   go_loopg [6] n (fun kx s6 wr=>∃(m:Nat) (z:Wnd),s6 = .int .i64 (m:Int)/\k<=m/\m<=n/\m<=kx/\Hid (w9.grownBy wr (some g))/\Hid (wr.ownsRow B 136 6 (.slice (some ⟨g,0,none⟩) (n+1) c9) (n+1) ((Kaf l m z).flatMap Kad)))
   case atStart=>exact⟨n,x,by first | rfl | go_num,aT,cH _,cH _,aC,aW⟩
   case round=>
    clear aW aC;obtain⟨m,z,rfl,bf,hmn,a7,HG,HR⟩:=hrel;have ag:Hid (Blk wr q 136 #[.int .i64 x.start,.int .i64 x.count,.int .u64 (x.sum:Int),.int .u64 (x.min:Int),.int .u64 (x.max:Int),.int .u64 (x.last:Int)]):=be.out.grown HG.out (fun e=>by injection e with e;exact a6.out e.symm);obtain⟨aY,aq⟩:=Kax HR.out (r:=g) rfl;have ae:Blk wr g 136 aY:=aq;have hgl:=ae.lt
    have ab:=fun (i:Nat) (y:Wnd) (hy:(Kaf l m z)[i]? = some y) (r:Nat) (hr:r<6)=>(by
     have hil:i<n+1:=by have:=(cS.1 hy).1;rw[Kdh,HL.out]at this;exact this
     rw[HR.out.cellAt (i*6+r) (by omega)]
     exact Kcw (enc:=Kad) (fun _=>rfl) _ i r y hy hr:wr.cell? ⟨g,i*6+r,none⟩=(Kad y)[r]?)
    rcases cM k m with hlt | hge
    .obtain ⟨j,hj⟩:∃j,m=j+1:=⟨m - 1,by omega⟩;obtain⟨y,hy⟩:∃y,l[j]? = some y:=⟨l[j]'(by omega),cV _⟩;have ao:(Kaf l m z)[j]? = some y:=by rw[Kgi (by omega) (by omega)];exact hy
     have ad:(Kaf l m z)[m]? = some z:=Kdr l z (by omega);have k0:wr.cell? ⟨g,j*6,none⟩=some (.int .i64 y.start):=ab j y ao 0 (by decide);have k1:wr.cell? ⟨g,j*6+1,none⟩=some (.int .i64 y.count):=ab j y ao 1 (by decide);have k2:wr.cell? ⟨g,j*6+2,none⟩=some (.int .u64 (y.sum:Int)):=ab j y ao 2 (by decide);have k3:wr.cell? ⟨g,j*6+3,none⟩=some (.int .u64 (y.min:Int)):=ab j y ao 3 (by decide);have k4:wr.cell? ⟨g,j*6+4,none⟩=some (.int .u64 (y.max:Int)):=ab j y ao 4 (by decide);have k5:wr.cell? ⟨g,j*6+5,none⟩=some (.int .u64 (y.last:Int)):=ab j y ao 5 (by decide);have u0:wr.cell? ⟨g,m*6,none⟩=some (.int .i64 z.start):=ab m z ad 0 (by decide);have u1:wr.cell? ⟨g,m*6+1,none⟩=some (.int .i64 z.count):=ab m z ad 1 (by decide);have u2:wr.cell? ⟨g,m*6+2,none⟩=some (.int .u64 (z.sum:Int)):=ab m z ad 2 (by decide);have u3:wr.cell? ⟨g,m*6+3,none⟩=some (.int .u64 (z.min:Int)):=ab m z ad 3 (by decide);have u4:wr.cell? ⟨g,m*6+4,none⟩=some (.int .u64 (z.max:Int)):=ab m z ad 4 (by decide);have u5:wr.cell? ⟨g,m*6+5,none⟩=some (.int .u64 (z.last:Int)):=ab m z ad 5 (by decide);have f0:=ae.frozen (m*6);have f1:=ae.frozen (m*6+1);have f2:=ae.frozen (m*6+2);have f3:=ae.frozen (m*6+3);have f4:=ae.frozen (m*6+4);have f5:=ae.frozen (m*6+5);have hm1:(m:Int) - 1=(j:Int):=by omega
     have hm2:(j:Int)<(n:Int)+1:=by omega
     have a8:(m:Int)<(n:Int)+1:=by omega
     have hm4:(k:Int)<(m:Int):=by omega
     have aV:Hid (((((((wr.setCell ⟨g,m*6,none⟩ (.int .i64 y.start)).setCell ⟨g,m*6+1,none⟩ (.int .i64 y.count)).setCell ⟨g,m*6+2,none⟩ (.int .u64 (y.sum:Int))).setCell ⟨g,m*6+3,none⟩ (.int .u64 (y.min:Int))).setCell ⟨g,m*6+4,none⟩ (.int .u64 (y.max:Int))).setCell ⟨g,m*6+5,none⟩ (.int .u64 (y.last:Int))).ownsRow B 136 6 (.slice (some ⟨g,0,none⟩) (n+1) c9) (n+1) ((Kaf l j y).flatMap Kad)):=by
      show dA _ _ _ _ _ _ _
      rw[<-Kjw z hy,<-hj,<-Kge (n:=6) (fun _=>rfl) _ m y z ad];exact(dF (dF (dF (dF (dF (dF HR.out (m*6) (.int .i64 y.start)).1 (m*6+1) (.int .i64 y.count)).1 (m*6+2) (.int .u64 (y.sum:Int))).1 (m*6+3) (.int .u64 (y.min:Int))).1 (m*6+4) (.int .u64 (y.max:Int))).1 (m*6+5) (.int .u64 (y.last:Int))).1
     have aL:Hid (w9.grownBy ((((((wr.setCell ⟨g,m*6,none⟩ (.int .i64 y.start)).setCell ⟨g,m*6+1,none⟩ (.int .i64 y.count)).setCell ⟨g,m*6+2,none⟩ (.int .u64 (y.sum:Int))).setCell ⟨g,m*6+3,none⟩ (.int .u64 (y.min:Int))).setCell ⟨g,m*6+4,none⟩ (.int .u64 (y.max:Int))).setCell ⟨g,m*6+5,none⟩ (.int .u64 (y.last:Int))) (some g)):=Kla HG.out _ _ _ _ _ _ _;have HJ:=Jh hj;clear ab hy ao ad hj aq HR HG;go_wp2_with fail
     go_roundg j
     case measure=>have:=HJ.out;omega
     case rel=>exact⟨j,y,by first | rfl | go_num,by have:=HJ.out;omega,by omega,by omega,aL,aV⟩
    .have a2:m=k:=by omega
     have ad:(Kaf l m z)[m]? = some z:=Kdr l z (by omega);have u0:wr.cell? ⟨g,m*6,none⟩=some (.int .i64 z.start):=ab m z ad 0 (by decide);have u1:wr.cell? ⟨g,m*6+1,none⟩=some (.int .i64 z.count):=ab m z ad 1 (by decide);have u2:wr.cell? ⟨g,m*6+2,none⟩=some (.int .u64 (z.sum:Int)):=ab m z ad 2 (by decide);have u3:wr.cell? ⟨g,m*6+3,none⟩=some (.int .u64 (z.min:Int)):=ab m z ad 3 (by decide);have u4:wr.cell? ⟨g,m*6+4,none⟩=some (.int .u64 (z.max:Int)):=ab m z ad 4 (by decide);have u5:wr.cell? ⟨g,m*6+5,none⟩=some (.int .u64 (z.last:Int)):=ab m z ad 5 (by decide);have f0:=ae.frozen (m*6);have f1:=ae.frozen (m*6+1);have f2:=ae.frozen (m*6+2);have f3:=ae.frozen (m*6+3);have f4:=ae.frozen (m*6+4);have f5:=ae.frozen (m*6+5);have z0:wr.cell? ⟨q,0,none⟩=some (.int .i64 x.start):=ag.out.cell 0;have z1:wr.cell? ⟨q,1,none⟩=some (.int .i64 x.count):=ag.out.cell 1;have z2:wr.cell? ⟨q,2,none⟩=some (.int .u64 (x.sum:Int)):=ag.out.cell 2;have z3:wr.cell? ⟨q,3,none⟩=some (.int .u64 (x.min:Int)):=ag.out.cell 3;have z4:wr.cell? ⟨q,4,none⟩=some (.int .u64 (x.max:Int)):=ag.out.cell 4;have z5:wr.cell? ⟨q,5,none⟩=some (.int .u64 (x.last:Int)):=ag.out.cell 5;have zl:=ag.out.lt;have a8:(m:Int)<(n:Int)+1:=by omega
     have aV:Hid (((((((wr.setCell ⟨g,m*6,none⟩ (.int .i64 x.start)).setCell ⟨g,m*6+1,none⟩ (.int .i64 x.count)).setCell ⟨g,m*6+2,none⟩ (.int .u64 (x.sum:Int))).setCell ⟨g,m*6+3,none⟩ (.int .u64 (x.min:Int))).setCell ⟨g,m*6+4,none⟩ (.int .u64 (x.max:Int))).setCell ⟨g,m*6+5,none⟩ (.int .u64 (x.last:Int))).ownsRow B 136 6 (.slice (some ⟨g,0,none⟩) (n+1) c9) (n+1) ((insO dG x l).flatMap Kad)):=by
      show dA _ _ _ _ _ _ _
      rw[az.out,<-a2,<-Kgj z x (by omega),<-Kge (n:=6) (fun _=>rfl) _ m x z ad];exact(dF (dF (dF (dF (dF (dF HR.out (m*6) (.int .i64 x.start)).1 (m*6+1) (.int .i64 x.count)).1 (m*6+2) (.int .u64 (x.sum:Int))).1 (m*6+3) (.int .u64 (x.min:Int))).1 (m*6+4) (.int .u64 (x.max:Int))).1 (m*6+5) (.int .u64 (x.last:Int))).1
     have aL:Hid (w9.grownBy ((((((wr.setCell ⟨g,m*6,none⟩ (.int .i64 x.start)).setCell ⟨g,m*6+1,none⟩ (.int .i64 x.count)).setCell ⟨g,m*6+2,none⟩ (.int .u64 (x.sum:Int))).setCell ⟨g,m*6+3,none⟩ (.int .u64 (x.min:Int))).setCell ⟨g,m*6+4,none⟩ (.int .u64 (x.max:Int))).setCell ⟨g,m*6+5,none⟩ (.int .u64 (x.last:Int))) (some g)):=Kla HG.out _ _ _ _ _ _ _;have ba:Hid ((insO dG x l).length=n+1):=by show _=_;rw[az.out,Kdh,HL.out]
     clear ab ad aq HR HG ag hge bf a7;subst a2;go_wp2_with fail
     go_ret
     refine⟨some ⟨g,0,none⟩,n+1,c9,rfl,aV.out,ba.out,Kgt aR.out aL.out aX.out,?_⟩;rcases aX.out with e | e
     .exact .inl e
     .exact .inr ⟨g,rfl,e⟩
end
end
section
open Go.RowKit
theorem Qcf {α : Type}{l:List α}{k j:Nat}{z:α}(h:k<=j) (hk:k<=l.length):(Kaf l k z)[j+1]? = l[j]?:=by unfold Kaf;rw[List.getElem?_append_right (by rw[cL];omega),cL,Nat.min_eq_left hk,show j+1 - k=(j - k)+1 by omega,List.getElem?_cons_succ,List.getElem?_drop];congr 1;omega
theorem Qcg {α : Type}{l:List α}{j:Nat}{y:α}(z:α) (h:l[j]? = some y):((Kaf l (j+1) z).set (j+1) y).set j z=Kaf l j z:=by have:=(cS.1 h).1;rw[Kjw z h,Kgj y z (by omega)]
theorem Klh {a b:List Lb}(h:cmpL a b<0):a≠b/\¬cmpL b a<0:=by
 refine⟨fun e=>?_,fun h2=>?_⟩
 .rw[e,Kcz]at h;omega
 .have:=Kdd a b;omega
theorem Kpr {s g:Ser}:∀{out:List Ser}{i:Nat},ascS out->out[i]? = some g->g.labels=s.labels->Kbg out s=out.set i ⟨g.labels,s.samples.foldl (fun a x=>insO dH x a) g.samples,s.windows.foldl (fun a x=>insO dG x a) g.windows⟩
 | [],i,_,h,_=>by simp at h
 | y :: l,0,_,h,e=>by simp only[List.getElem?_cons_zero,dK]at h;subst h;unfold Kbg;rw[jN e];rfl
 | y :: l,i+1,ha,h,e=>by
  have hg:l[i]? = some g:=by simpa using h
  have h1:=Klh (cO ha (cQ hg));rw[e]at h1;unfold Kbg;rw[jM h1.1,jM h1.2,Kpr (dM ha) hg e];rfl
theorem Qce {α : Type}(y:α) (l:List α) (k:Nat) (z:α):Kaf (y :: l) (k+1) z=y :: Kaf l k z:=rfl
theorem Kpq {s:Ser}:∀{out:List Ser}{k:Nat},ascS (Kaf out k ⟨s.labels,[],[]⟩)->k<=out.length->Kbg out s=Kaf out k ⟨s.labels,onceL dH s.samples,onceL dG s.windows⟩
 | [],k,_,hk=>by
  have:k=0:=by simpa using hk
  subst this;rfl
 | y :: l,0,ha,_=>by have h1:=Klh (cO (show dm _ (_ :: y :: l) from ha) (dn ..));unfold Kbg;rw[jM (Ne.symm h1.1),jN (cO (show dm _ (_ :: y :: l) from ha) (dn ..))];rfl
 | y :: l,k+1,ha,hk=>by rw[Qce]at ha |-;have h1:=Klh (cO ha (show(⟨s.labels,[],[]⟩:Ser)∈Kaf l k _ by unfold Kaf;simp));unfold Kbg;rw[jM h1.1,jM h1.2,Kpq (dM ha) (by simpa using hk)]
theorem Krr {gs:List Ser}{k:Nat}{s:Ser}(ha:ascS gs) (h1:∀y∈gs.take k,cmpL y.labels s.labels<0) (h2:∀y∈gs.drop k,cmpL s.labels y.labels<0):ascS (Kaf gs k s):=by
 unfold ascS at ha |-;rw[<-dc k gs,dg]at ha;unfold Kaf;refine dg.2 ⟨ha.1,List.pairwise_cons.2 ⟨h2,ha.2.1⟩,fun a hA b hb=>?_⟩;rcases c4.1 hb with rfl | hb
 .exact h1 a hA
 .exact ha.2.2 a hA b hb
theorem Kfc {w:World}{B n c k sz:Nat}{A:Option Addr}{T:TypeId}{xs:List Value}(h:w.ownsRow B T sz (.slice A n c) k xs):n=k:=by obtain⟨_,_,e⟩:=Kah h;injection e
def Aprt (h h':Hd3):Prop:=∀b,¬((spM h).ownBlock=some b/\(spM h').ownBlock=some b)/\¬((wpM h).ownBlock=some b/\(wpM h').ownBlock=some b)
theorem Aprt.symm {h h':Hd3}(a:Aprt h h'):Aprt h' h:=fun b=>⟨fun x=>(a b).1 ⟨x.2,x.1⟩,fun x=>(a b).2 ⟨x.2,x.1⟩⟩
structure DSt (w0:World) (w:World) (v:Value) (hs:List Hd3) (gs:List Ser):Prop where
 o:DOut w0 w0 w v hs gs
 sep:∀(i j:Nat) (h h':Hd3),hs[i]? = some h->hs[j]? = some h'->i≠j->Aprt h h'
theorem DSt.below {w0 w w':World}{v:Value}{hs:List Hd3}{gs:List Ser}(d:DSt w0 w v hs gs) (hb:Below w.heap.size w w'):DSt w0 w' v hs gs:=⟨d.o.below hb,d.sep⟩
theorem Kje {α : Type}{l:List α}{i k:Nat}{x z:α}(h:(l.set k z)[i]? = some x):(i=k/\x=z)\/(i≠k/\l[i]? = some x):=by
 rcases Nat.decEq i k with hik | rfl
 .rw[di (Ne.symm hik)]at h;exact .inr ⟨hik,h⟩
 .have hl:=(cS.1 h).1;rw[cP]at hl;rw[c6 hl]at h;exact .inl ⟨rfl,by simpa using h.symm⟩
theorem DSt.upd {w0 w w':World}{gB n c:Nat}{hs:List Hd3}{gs:List Ser}(d:DSt w0 w (.slice (some ⟨gB,0,none⟩) n c) hs gs) {k:Nat}{h h':Hd3}{g g':Ser}(hk:hs[k]? = some h) (hgk:gs[k]? = some g)
  (hb:Below w0.heap.size w0 w') (hz:w.heap.size<=w'.heap.size) (hfr:∀j,j<w.heap.size->some j≠(spM h).ownBlock->some j≠(wpM h).ownBlock->j≠gB->w'.heap[j]? = w.heap[j]?)
  (hrow:w'.ownsRow w0.heap.size 132 3 (.slice (some ⟨gB,0,none⟩) n c) hs.length ((hs.set k h').flatMap encH3)) (hx:DRow w0 w0.heap.size w' h' g')
  (hSb:(spM h').ownBlock=(spM h).ownBlock\/∃b,(spM h').ownBlock=some b/\w.heap.size<=b) (hWb:(wpM h').ownBlock=(wpM h).ownBlock\/∃b,(wpM h').ownBlock=some b/\w.heap.size<=b) :
  DSt w0 w' (.slice (some ⟨gB,0,none⟩) n c) (hs.set k h') (gs.set k g'):=by
 have a:=d.o.r k h g hk hgk
 have aa:∀{T:TypeId} {m sz:Nat} {v:Value} {xs:List Value},w.ownsRow w0.heap.size T sz v m xs->T≠132->∀j,v.ownBlock=some j->j≠gB:=fun {T m sz v xs} x hT j hj e=>by
  rcases Kas x d.o.row hT with q | q
  .rw[q]at hj;cases hj
  .exact q (by rw[hj,e];rfl)
 have ab:∀(i:Nat) (x:Hd3),hs[i]? = some x->i≠k->∀y,gs[i]? = some y->DRow w0 w0.heap.size w' x y:=fun i x hi hik y hy=>by
  have b:=d.o.r i x y hi hy;have sp:=d.sep i k x h hi hk hik;refine⟨b.l,b.lc,Kcv b.sm hz fun j hj=>?_,Kcv b.wd hz fun j hj=>?_⟩
  .exact hfr j (b.sm.lt j hj).2 (fun e=>(sp j).1 ⟨hj,e.symm⟩) (fun e=>(Kas b.sm a.wd (by decide)).elim (fun q=>by rw[show dy _=none from q]at hj;cases hj) (fun q=>q (hj.trans e))) (aa b.sm (by decide) j hj)
  .exact hfr j (b.wd.lt j hj).2 (fun e=>(Kas b.wd a.sm (by decide)).elim (fun q=>by rw[show dy _=none from q]at hj;cases hj) (fun q=>q (hj.trans e))) (fun e=>(sp j).2 ⟨hj,e.symm⟩) (aa b.wd (by decide) j hj)
 have ac:∀(i:Nat) (x:Hd3),hs[i]? = some x->i≠k->Aprt x h':=fun i x hi hik b=>by
  have sp:=d.sep i k x h hi hk hik b;have ad:i<gs.length:=by rw[d.o.l];exact(cS.1 hi).1
  have y:=d.o.r i x _ hi (cV ad);refine⟨fun e=>?_,fun e=>?_⟩
  .rcases hSb with q | ⟨c,q,hc⟩
   .exact sp.1 ⟨e.1,q▸e.2⟩
   .have h1:=(y.sm.lt b e.1).2;have h2:c=b:=dJ (q.symm.trans e.2);omega
  .rcases hWb with q | ⟨c,q,hc⟩
   .exact sp.2 ⟨e.1,q▸e.2⟩
   .have h1:=(y.wd.lt b e.1).2;have h2:c=b:=dJ (q.symm.trans e.2);omega
 refine⟨⟨d.o.bl,hb,by rw[cP];exact hrow,by rw[cP,cP];exact d.o.l,fun i x y hi hy=>?_⟩,fun i j x y hi hj hij=>?_⟩
 .rcases Kje hi with ⟨e1,e2⟩ | ⟨e1,e2⟩
  .rcases Kje hy with ⟨_,e4⟩ | ⟨e3,_⟩
   .rw[e2,e4];exact hx
   .exact jS e1 e3
  .rcases Kje hy with ⟨e3,_⟩ | ⟨_,e4⟩
   .exact jS e3 e1
   .exact ab i x e2 e1 y e4
 .rcases Kje hi with ⟨e1,e2⟩ | ⟨e1,e2⟩
  .rcases Kje hj with ⟨e3,e4⟩ | ⟨e3,e4⟩
   .exact jS (e1.trans e3.symm) hij
   .rw[e2];exact(ac j y e4 e3).symm
  .rcases Kje hj with ⟨e3,e4⟩ | ⟨e3,e4⟩
   .rw[e4];exact ac i x e2 e1
   .exact d.sep i j x y e2 e4 hij
theorem DSt.setS {w0 w w5:World}{gB n c:Nat}{hs:List Hd3}{gs:List Ser}(d:DSt w0 w (.slice (some ⟨gB,0,none⟩) n c) hs gs) {k:Nat}{h:Hd3}{g:Ser}(hk:hs[k]? = some h) (hgk:gs[k]? = some g)
  (hg:w.grownBy w5 (spM h).ownBlock) {A':Option Addr} {n' c':Nat} {xs:List Smp} (hr:w5.ownsRow w0.heap.size 133 2 (.slice A' n' c') n' (xs.flatMap Kac)) (hl:xs.length=n')
  (ho:(dx A' n' c').ownBlock=(spM h).ownBlock\/∃b,(dx A' n' c').ownBlock=some b/\w.heap.size<=b) :
  DSt w0 (w5.setCell ⟨gB,k*3+1,none⟩ (.slice A' n' c')) (.slice (some ⟨gB,0,none⟩) n c) (hs.set k { h with s:=⟨A',n',c'⟩ }) (gs.set k { g with samples:=xs }):=by
 have a:=d.o.r k h g hk hgk;have hz:=d.o.b.size;obtain⟨ab,aa⟩:=Kax d.o.row (r:=gB) rfl;have ac:Blk w gB 132 ab:=aa;have ae:=d.o.row.lt gB rfl;have ad:Blk w5 gB 132 ab:=ac.grown hg (Kak ac a.sm (by decide));refine d.upd hk hgk ((d.o.b.grown hg hz fun q hq=>(a.sm.lt q hq).1).setCell (p:=⟨gB,k*3+1,none⟩) ae.1 _) (by simp[dD];exact hg.size) (fun j hj h1 h2 h3=>?_) ?_ ?_ ho (.inl rfl)
 .rw[Below.heap_setCell _ _ _ _ h3];exact hg.block j hj h1
 .rw[Kem hs k 1 h { h with s:=⟨A',n',c'⟩ } (.slice A' n' c') hk (by decide) rfl];have h1:=d.o.row.kept hg (Kas d.o.row a.sm (by decide));have e9:=Kfc h1;rw[<-e9]at h1 |-;exact(dF h1 (k*3+1) _).1
 .have h1:=Kbj (u:=.slice A' n' c') (i:=k*3+1) hr ad (by decide);have h2:=Kbj (u:=.slice A' n' c') (i:=k*3+1) (a.wd.kept hg (Kas a.wd a.sm (by decide))) ad (by decide);rw[<-hl]at h1;exact⟨a.l,a.lc,by subst hl;exact h1,h2⟩
theorem DSt.setW {w0 w w5:World}{gB n c:Nat}{hs:List Hd3}{gs:List Ser}(d:DSt w0 w (.slice (some ⟨gB,0,none⟩) n c) hs gs) {k:Nat}{h:Hd3}{g:Ser}(hk:hs[k]? = some h) (hgk:gs[k]? = some g)
  (hg:w.grownBy w5 (wpM h).ownBlock) {A':Option Addr} {n' c':Nat} {xs:List Wnd} (hr:w5.ownsRow w0.heap.size 136 6 (.slice A' n' c') n' (xs.flatMap Kad)) (hl:xs.length=n')
  (ho:(dx A' n' c').ownBlock=(wpM h).ownBlock\/∃b,(dx A' n' c').ownBlock=some b/\w.heap.size<=b) :
  DSt w0 (w5.setCell ⟨gB,k*3+2,none⟩ (.slice A' n' c')) (.slice (some ⟨gB,0,none⟩) n c) (hs.set k { h with w:=⟨A',n',c'⟩ }) (gs.set k { g with windows:=xs }):=by
 have a:=d.o.r k h g hk hgk;have hz:=d.o.b.size;obtain⟨ab,aa⟩:=Kax d.o.row (r:=gB) rfl;have ac:Blk w gB 132 ab:=aa;have ae:=d.o.row.lt gB rfl;have ad:Blk w5 gB 132 ab:=ac.grown hg (Kak ac a.wd (by decide));refine d.upd hk hgk ((d.o.b.grown hg hz fun q hq=>(a.wd.lt q hq).1).setCell (p:=⟨gB,k*3+2,none⟩) ae.1 _) (by simp[dD];exact hg.size) (fun j hj h1 h2 h3=>?_) ?_ ?_ (.inl rfl) ho
 .rw[Below.heap_setCell _ _ _ _ h3];exact hg.block j hj h2
 .rw[Kem hs k 2 h { h with w:=⟨A',n',c'⟩ } (.slice A' n' c') hk (by decide) rfl];have h1:=d.o.row.kept hg (Kas d.o.row a.wd (by decide));have e9:=Kfc h1;rw[<-e9]at h1 |-;exact(dF h1 (k*3+2) _).1
 .have h1:=Kbj (u:=.slice A' n' c') (i:=k*3+2) hr ad (by decide);have h2:=Kbj (u:=.slice A' n' c') (i:=k*3+2) (a.sm.kept hg (Kas a.sm a.wd (by decide))) ad (by decide);rw[<-hl]at h1;exact⟨a.l,a.lc,h2,by subst hl;exact h1⟩
theorem Kht {α : Type}{l:List α}{k i:Nat}{z y:α}(hk:k<=l.length) (h:(Kaf l k z)[i]? = some y):(i=k/\y=z)\/∃j,i≠k/\l[j]? = some y/\(i<k/\j=i\/k<i/\i=j+1):=by
 rcases dp i k with hi | rfl | hi
 .rw[Kgi hi hk]at h;exact .inr ⟨i,by omega,h,.inl ⟨hi,rfl⟩⟩
 .rw[Kdr l z hk]at h;exact .inl ⟨rfl,by simpa using h.symm⟩
 .obtain ⟨j,rfl⟩:∃j,i=j+1:=⟨i - 1,by omega⟩;rw[Qcf (by omega) hk]at h;exact .inr ⟨j,by omega,h,.inr ⟨hi,rfl⟩⟩
theorem DSt.shift {w0 w9 wr:World}{g n c k:Nat}{hs:List Hd3}{gs:List Ser}{x:Hd3}{s:Ser}(d:DOut w0 w0 w9 (.slice (some ⟨g,0,none⟩) n c) (hs ++ [x]) (gs ++ [s])) (hl:gs.length=hs.length) (hsep:∀(i j:Nat) (h h':Hd3),hs[i]? = some h->hs[j]? = some h'->i≠j->Aprt h h')
  (h1:(spM x).ownBlock=none) (h2:(wpM x).ownBlock=none) (hk:k<=hs.length) (hg:w9.grownBy wr (some g)) (hrow:wr.ownsRow w0.heap.size 132 3 (.slice (some ⟨g,0,none⟩) n c) n ((Kaf hs k x).flatMap encH3)) :
  DSt w0 wr (.slice (some ⟨g,0,none⟩) n c) (Kaf hs k x) (Kaf gs k s):=by
 have hgB:=d.row.lt g rfl;have hn:n=(Kaf hs k x).length:=by rw[Kdh,Kfc d.row,cT];rfl
 have hr:∀(i:Nat) (h:Hd3) (y:Ser),(hs ++ [x])[i]? = some h->(gs ++ [s])[i]? = some y->DRow w0 w0.heap.size wr h y:=fun i h y hi hy=>(d.r i h y hi hy).grown d.row hg
 refine⟨⟨d.bl,d.b.grown hg d.b.size fun q e=>by injection e with e;omega,by rw[<-hn];exact hrow,by rw[Kdh,Kdh,hl],fun i h y hi hy=>?_⟩,fun i j h h' hi hj hij=>?_⟩
 .rcases Kht hk hi with ⟨e1,e2⟩ | ⟨j,n1,a1,b1⟩
  .rcases Kht (by omega) hy with ⟨_,e4⟩ | ⟨_,n2,_⟩
   .rw[e2,e4];exact hr hs.length x s (by simp) (by rw[<-hl];simp)
   .exact jS e1 n2
  .rcases Kht (by omega) hy with ⟨e3,_⟩ | ⟨j',n2,a2,b2⟩
   .exact jS e3 n1
   .have ej:j'=j:=by omega
    subst ej;have aa:=(cS.1 a1).1;exact hr j' h y (by rw[cX aa];exact a1) (by rw[cX (by omega)];exact a2)
 .rcases Kht hk hi with ⟨e1,e2⟩ | ⟨i',n1,a1,b1⟩
  .rw[e2];exact fun b=>⟨fun e=>by (rw[h1]at e;cases e.1),fun e=>by (rw[h2]at e;cases e.1)⟩
  .rcases Kht hk hj with ⟨e3,e4⟩ | ⟨j',n2,a2,b2⟩
   .rw[e4];exact fun b=>⟨fun e=>by (rw[h1]at e;cases e.2),fun e=>by (rw[h2]at e;cases e.2)⟩
   .exact hsep i' j' h h' a1 a2 (by omega)
end
section
open Go.Shelf Go.RowKit Go.Lib Go.Sort
open Lib renaming hid -> Jh
attribute [local go_sem ↓] Go.wp_at_zero Go.wp_at_succ
attribute [local go_sem] Later.cell
section
def Koi (gs:List Ser) (L:List Lb) (r:Int):Prop:=
 (∃(i:Nat) (g:Ser),r=(i:Int)/\gs[i]? = some g/\g.labels=L)\/(r = -1/\∀g∈gs,g.labels≠L)
theorem Kwj (hs:List Hd3) (gs:List Ser) (L:List Lb) (A B:Option Addr) (n c k d:Nat) (w:World) (hE:Elems w w.heap.size 3 encH3 A n hs) (hl:gs.length=n) (hat:∀(i:Nat) (h:Hd3) (g:Ser),hs[i]? = some h->gs[i]? = some g->Elems w w.heap.size 2 encLb h.l.A h.l.n g.labels/\h.l.n<=1099511627776)
  (hB:Elems w w.heap.size 2 encLb B k L) (hk:k<=1099511627776) (hn:n<=1099511627776) :
  Calls prog 100 #[.slice A n c,.slice B k d] w fun e w'=>(∃r,e = .returned (.int .i64 r)/\Koi gs L r)/\Below w.heap.size w w':=by
 have HE:=Jh hE;have HL:=Jh hl;have am:=Jh hat;have HB:=Jh hB;have aa:Hid (Below w.heap.size w w):=Below.refl _ _;have ab:Hid (∀g∈gs.take 0,g.labels≠L):=fun g hg=>by simp at hg
 clear hE hat hB;go_enter func100,ntmps100
 go_wp2_with fail
 go_loopg [5] n (fun kx s5 wr=>∃i:Nat,s5 = .int .i64 (i:Int)/\i+kx=n/\Hid (Below w.heap.size w wr)/\Hid (∀g∈gs.take i,g.labels≠L))
 case atStart=>exact⟨0,rfl,by omega,aa,ab⟩
 case round=>
  clear aa ab;obtain⟨i,rfl,hi,aa,ab⟩:=hrel;rcases cM i n with hlt | hge
  .have ap:(i:Int)<(n:Int):=by omega
   have aq:=HE.out.len;obtain⟨h,hh⟩:∃h,hs[i]? = some h:=⟨hs[i]'(by omega),cV _⟩;obtain⟨g,hg⟩:∃g,gs[i]? = some g:=⟨gs[i]'(by omega),cV _⟩;obtain⟨b,ak,hA,hb,hc⟩:=HE.out.2 (by omega);obtain⟨a1,a2⟩:=am.out i h g hh hg;have k0:wr.cell? ⟨b,ak+i*3,none⟩=some (.slice h.l.A h.l.n h.l.c):=(aa.out.cell (p:=⟨b,ak+i*3+0,none⟩) hb).trans (hc i h hh 0 _ rfl);obtain⟨lA,ae⟩:=jG h.l.A;obtain⟨ln,ac⟩:=jG h.l.n;obtain⟨lc,ag⟩:=jG h.l.c;rw[<-ae,<-ac,<-ag]at k0;rw[<-ae,<-ac]at a1;rw[<-ac]at a2;have an:b<wr.heap.size:=cK hb aa.out.size;obtain⟨r,hr⟩:=jF (cmpL g.labels L);have ah:=Jh (Kdo g.labels L lA B ln k lc d wr r hr ((a1.below aa.out).more aa.out.size) ((HB.out.below aa.out).more aa.out.size) (by omega) (by omega));have al:=Jh hg;have ao:Hid (gs.take (i+1)=gs.take i ++ [g]):=by show _=_;rw[cJ,hg];rfl
   have af:=Jh hr;subst hA;clear hh hc a1 a2 ae ac ag aq hg hr hb;go_wp2_with fail
   refine ah.out.mono ?_;rintro _ w2 ⟨rfl,ai⟩;have aj:Hid (Below w.heap.size w w2):=aa.out.trans (ai.mono aa.out.size);clear ai k0 an ah aa
   by_cases h0:r=0
   .have HF:Hid (Koi gs L (i:Int)):=.inl ⟨i,g,rfl,al.out,Kdf (by rw[af.out];exact h0)⟩;subst h0;go_wp2_with fail
    go_ret
    exact⟨⟨_,rfl,HF.out⟩,aj.out⟩
   .have ad:Hid (∀g∈gs.take (i+1),g.labels≠L):=fun z hz=>by
     rw[ao.out]at hz;rcases cY.1 hz with hz | hz
     .exact ab.out z hz
     .rw[List.mem_singleton]at hz;rw[hz];intro e;have:=af.out;rw[e,Kcz]at this;exact h0 this.symm
    have h1:(r == 0)=false:=by rw[jO];exact h0
    go_wp2_with fail
    go_roundg (n - (i+1))
    case measure=>omega
    case rel=>exact⟨i+1,by first | rfl | go_num,by omega,aj,ad⟩
  .have ap:¬(i:Int)<(n:Int):=by omega
   have HF:Hid (Koi gs L (-1)):=.inr ⟨rfl,fun g hg=>ab.out g (by rw[cI (by rw[HL.out];omega)];exact hg)⟩;go_wp2_with fail
   go_ret
   exact⟨⟨_,rfl,HF.out⟩,aa.out⟩
end
section
theorem Khj {w1 w2:World}{g:Nat}(h:w1.grownBy w2 (some g)) (i:Nat) (u0 u1 u2:Value):w1.grownBy (((w2.setCell ⟨g,i,none⟩ u0).setCell ⟨g,i+1,none⟩ u1).setCell ⟨g,i+2,none⟩ u2) (some g):=((h.trans (Kcl _ g _ _)).trans (Kcl _ g _ _)).trans (Kcl _ g _ _)
theorem Qaj {w:World}{B g n c T:Nat}{hs:List Hd3}(h:w.ownsRow B T 3 (.slice (some ⟨g,0,none⟩) n c) n (hs.flatMap encH3)) {i:Nat}{x z:Hd3}(hi:hs[i]? = some z) :
  (((w.setCell ⟨g,i*3,none⟩ (.slice x.l.A x.l.n x.l.c)).setCell ⟨g,i*3+1,none⟩ (.slice x.s.A x.s.n x.s.c)).setCell ⟨g,i*3+2,none⟩ (.slice x.w.A x.w.n x.w.c)).ownsRow B T 3 (.slice (some ⟨g,0,none⟩) n c) n ((hs.set i x).flatMap encH3):=by
 rw[<-Kge (n:=3) (fun _=>rfl) _ i x z hi];exact(dF (dF (dF h (i*3) _).1 (i*3+1) _).1 (i*3+2) _).1
theorem Ktp (hs:List Hd3) (gs:List Ser) (A lA:Option Addr) (n c ln lc:Nat) (L:List Lb) (w0 w:World) (d:DSt w0 w (.slice A n c) hs gs) (hasc:ascS gs) (hL:Elems w0 w0.heap.size 2 encLb lA ln L) (hlc:ln<=lc) (hln:ln<=1099511627776)
  (hbl:∀(i:Nat) (h:Hd3),hs[i]? = some h->h.l.n<=1099511627776) (hne:∀g∈gs,g.labels≠L) (hn:n<=274877906944) :
  Calls prog 101 #[.slice A n c,.agg #[.slice lA ln lc,.slice none 0 0,.slice none 0 0]] w fun e w'=>∃g c' k,e = .returned (.slice (some ⟨g,0,none⟩) (n+1) c')/\k<=n/\
   DSt w0 w' (.slice (some ⟨g,0,none⟩) (n+1) c') (Kaf hs k ⟨⟨lA,ln,lc⟩,⟨none,0,0⟩,⟨none,0,0⟩⟩) (Kaf gs k ⟨L,[],[]⟩)/\ascS (Kaf gs k ⟨L,[],[]⟩)/\w.grownBy w' (dx A n c).ownBlock/\(some g=(dx A n c).ownBlock\/w.heap.size<=g):=by
 obtain⟨ib,bw,bx,bn,bq⟩:=info_parts Klb;have HD:=Jh d;have aB:=Jh hasc;have HL:=Jh hL;have bs:=Jh hbl;have bp:=Jh hne;have HN:Hid (hs.length=n):=(Kfc d.o.row).symm;have aU:Hid (gs.length=n):=d.o.l.trans HN.out;have hz:w0.heap.size<=w.heap.size:=d.o.b.size;obtain⟨x,hx⟩:∃x:Hd3,x=⟨⟨lA,ln,lc⟩,⟨none,0,0⟩,⟨none,0,0⟩⟩:=⟨_,rfl⟩;obtain⟨s,aT⟩:∃s:Ser,s=⟨L,[],[]⟩:=⟨_,rfl⟩;have HX:=Jh hx;have HS:=Jh aT;have a1:Hid (s.labels=L):=by show _=_;rw[aT]
 rw[<-hx,<-aT];clear hasc hL hbl hne d hx aT;go_enter func101,ntmps101
 go_upto_region 1 with fail
 obtain⟨q,hq⟩:=jG w.heap.size;obtain⟨wa,a0⟩:=jG (w.alloc (.cells #[.slice lA ln lc,.slice none 0 0,.slice none 0 0] 132));have aL:Hid (Blk wa q 132 #[.slice lA ln lc,.slice none 0 0,.slice none 0 0]):=by show Blk _ _ _ _;rw[a0,hq];exact dQ _ _ _
 have ar:Hid (Below w.heap.size w wa):=by show Below _ _ _;rw[a0];exact(Below.refl _ _).alloc (cH _) _
 rw[<-a0,<-hq];clear a0 hq;have z0:=aL.out.cell 0;have z1:=aL.out.cell 1;have z2:=aL.out.cell 2;simp at z0 z1 z2;have zl:=aL.out.lt;obtain⟨w6,aG⟩:=jG (wa.alloc (.cells #[.slice lA ln lc,.slice none 0 0,.slice none 0 0] 132));have ba:Below wa.heap.size wa w6:=by rw[aG];exact(Below.refl _ _).alloc (cH _) _
 have aP:Hid (DSt w0 w6 (.slice A n c) hs gs):=(HD.out.below ar.out).below ba;have az:Blk w6 wa.heap.size 132 #[.slice lA ln lc,.slice none 0 0,.slice none 0 0]:=by rw[aG];exact dQ _ _ _
 have ag:=aP.out.o.row;rw[HN.out]at ag;have bg:w0.heap.size<=w6.heap.size:=aP.out.o.b.size;have bz:wa.grownBy w6 none:=by rw[aG];exact dz wa _ none
 clear ba;go_wp2_with (at_builtin;(try rw[<-aG]);refine dV _ rfl _ _ 32 rfl w0.heap.size 132 ib (.agg #[.slice none 0 0,.slice none 0 0,.slice none 0 0]) 3 72 underlying32 bw bx bn bq rfl (by decide) (.slice A n c) n _ rfl ag ⟨wa.heap.size,0,none⟩ 1 1 [.slice lA ln lc,.slice none 0 0,.slice none 0 0] rfl rfl (Kam (l:=[.slice lA ln lc,.slice none 0 0,.slice none 0 0]) az) ?p2 ?p3 ?p4 ?p5 ?_)
 case p2=>first | exact⟨rfl,rfl,rfl⟩ | (intro u hu;simp only[dh,dd,or_false]at hu;rcases hu with rfl | rfl | rfl <;> rfl)
 case p3=>unfold maxLen;omega
 case p4=>omega
 all_goals try exact bg
 intro v9 w9 hown' hgrow _ hat;rw[<-aG]at hgrow
 obtain⟨g,c9,rfl⟩:∃g c9,v9 = .slice (some ⟨g,0,none⟩) (n+1) c9:=by
  rcases hown'.2 with ⟨h1,h2⟩ | ⟨g,cap,aV,h1,_⟩
  .omega
  .exact ⟨g,cap,h1⟩
 have aF:Hid (DOut w0 w0 w9 (.slice (some ⟨g,0,none⟩) (n+1) c9) (hs ++ [x]) (gs ++ [s])):=by
  show DOut _ _ _ _ _ _
  refine aP.out.o.snoc hgrow (by rw[HN.out,HX.out];exact hown') ?_;rw[HX.out,HS.out];exact⟨HL.out,hlc,dC _ _ _ _,dC _ _ _ _⟩
 have aM:=Jh aP.out.sep;have be:Hid (w.grownBy w9 (dx A n c).ownBlock):=ds (ds ⟨ar.out.os,ar.out.tape,ar.out.output,ar.out.size,fun j hj _=>ar.out.block j hj⟩ (dw bz _)) hgrow
 have aE:Hid (some g=(dx A n c).ownBlock\/w.heap.size<=g):=by
  rcases hat with e | e
  .exact .inl e
  .right
   have e2:g=wa.heap.size+1:=by have:(dx (some ⟨g,0,none⟩) (n+1) c9).ownBlock=some g:=rfl;rw[this]at e;exact dJ e
   have:=ar.out.size;omega
 have a8:Hid (w9.ownsRow w0.heap.size 132 3 (.slice (some ⟨g,0,none⟩) (n+1) c9) (n+1) ((Kaf hs n x).flatMap encH3)):=by
  have e:Kaf hs n x=hs ++ [x]:=by rw[<-HN.out];exact Klw hs x
  show dA _ _ _ _ _ _ _
  rw[e,de,db,HX.out];exact hown'
 have bi:Hid (w9.grownBy w9 (some g)):=⟨rfl,rfl,rfl,cH _,fun _ _ _=>rfl⟩;have aK:Hid (∀y∈gs.drop n,cmpL L y.labels<0):=fun y hy=>by rw[<-aU.out,dj]at hy;simp at hy
 clear hown' hgrow hat az ag bg aG aP ar aL z0 z1 z2 zl;have br:(n:Int)+1 - 1=(n:Int):=by omega
 go_wp2_with fail
 go_loopg [5] n (fun kx s5 wr=>∃k:Nat,s5 = .int .i64 (k:Int)/\k<=n/\k<=kx/\Hid (w9.grownBy wr (some g))/\Hid (wr.ownsRow w0.heap.size 132 3 (.slice (some ⟨g,0,none⟩) (n+1) c9) (n+1) ((Kaf hs k x).flatMap encH3))/\Hid (∀y∈gs.drop k,cmpL L y.labels<0))
 case atStart=>exact⟨n,by first | rfl | go_num,cH _,cH _,bi,a8,aK⟩
 case round=>
  clear bi a8 aK br;obtain⟨k,rfl,an,hkg,HG,HR,aW⟩:=hrel;rcases da k with h0 | h0
  .have HF:Hid (DSt w0 wr (.slice (some ⟨g,0,none⟩) (n+1) c9) (Kaf hs k x) (Kaf gs k s)/\ascS (Kaf gs k s)/\w.grownBy wr (dx A n c).ownBlock):=by
    refine⟨DSt.shift aF.out (aU.out.trans HN.out.symm) aM.out (by rw[HX.out];rfl) (by rw[HX.out];rfl) (by rw[HN.out];exact an) HG.out HR.out,Krr aB.out (fun y hy=>?_) (fun y hy=>by rw[a1.out];exact aW.out y hy),Kgt be.out HG.out aE.out⟩;rw[h0]at hy;simp at hy
   have bA:¬0<(k:Int):=by omega
   clear h0;go_wp2_with fail
   go_ret
   first | exact⟨g,c9,rfl,k,an,HF.out.1,HF.out.2.1,HF.out.2.2,aE.out⟩ | exact⟨g,c9,k,rfl,an,HF.out.1,HF.out.2.1,HF.out.2.2,aE.out⟩
  .obtain ⟨j,hj⟩:∃j,k=j+1:=⟨k - 1,by omega⟩;obtain⟨h,hh⟩:∃h,hs[j]? = some h:=⟨hs[j]'(by rw[HN.out];omega),cV _⟩;obtain⟨y,hy⟩:∃y,gs[j]? = some y:=⟨gs[j]'(by rw[aU.out];omega),cV _⟩;have aj:(Kaf hs k x)[j]? = some h:=by rw[Kgi (by omega) (by rw[HN.out];exact an)];exact hh
   have ax:(Kaf hs k x)[k]? = some x:=Kdr hs x (by rw[HN.out];exact an);have bh:=aF.out.r j h y (by rw[cX (cS.1 hh).1];exact hh) (by rw[cX (cS.1 hy).1];exact hy);have aC:Below w0.heap.size w0 wr:=aF.out.b.grown HG.out aF.out.b.size fun q e=>by injection e with e;have:=aF.out.row.lt g rfl;omega
   obtain⟨r,hr⟩:=jF (cmpL L y.labels);have bf:=Jh (fun u:Later wr=>Kdo L y.labels lA h.l.A ln h.l.n lc h.l.c u.w r hr ((HL.out.below (aC.trans (u.h.mono aC.size))).more (cZ aC.size u.h.size)) ((bh.l.below (aC.trans (u.h.mono aC.size))).more (cZ aC.size u.h.size)) (by omega) (by have:=bs.out j h hh;omega));obtain⟨⟨jA,jn,jc⟩,⟨ak,al,ap⟩,⟨ao,am,ai⟩⟩:=h
   have aa:=fun (i:Nat) (z:Hd3) (hz:(Kaf hs k x)[i]? = some z) (r:Nat) (hr:r<3)=>(by
    have bt:i<n+1:=by have:=(cS.1 hz).1;rw[Kdh,HN.out]at this;exact this
    rw[HR.out.cellAt (i*3+r) (by omega)]
    exact Kcw (enc:=encH3) (fun _=>rfl) _ i r z hz hr:wr.cell? ⟨g,i*3+r,none⟩=(encH3 z)[r]?)
   obtain⟨aV,aS⟩:=Kax HR.out (r:=g) rfl;have a3:Blk wr g 132 aV:=aS;have aR:=Jh a3;have e0:wr.cell? ⟨g,k*3,none⟩=some (.slice lA ln lc):=by have:=aa k x ax 0 (by decide);rw[HX.out]at this;exact this
   have e1:wr.cell? ⟨g,k*3+1,none⟩=some (.slice none 0 0):=by have:=aa k x ax 1 (by decide);rw[HX.out]at this;exact this
   have e2:wr.cell? ⟨g,k*3+2,none⟩=some (.slice none 0 0):=by have:=aa k x ax 2 (by decide);rw[HX.out]at this;exact this
   have j0:wr.cell? ⟨g,j*3,none⟩=some (.slice jA jn jc):=aa j _ aj 0 (by decide);have j1:wr.cell? ⟨g,j*3+1,none⟩=some (.slice ak al ap):=aa j _ aj 1 (by decide);have j2:wr.cell? ⟨g,j*3+2,none⟩=some (.slice ao am ai):=aa j _ aj 2 (by decide);have gl:=a3.lt;have bA:0<(k:Int):=by omega
   have hk1:(k:Int) - 1=(j:Int):=by omega
   have hk2:(j:Int)<(n:Int)+1:=by omega
   have hk3:(k:Int)<(n:Int)+1:=by omega
   have a9:=Jh hr;have bb:=Jh hh;have aI:=Jh hy;have aH:=Jh hj;clear aa bh aC aj ax hr hh hy aS a3 hj;go_upto_region 5 with fail
   refine Kaa (by kernel_rfl) (by kernel_rfl) ?_
   repeat (go_big_quiet_step ((go_at_call 69;exact Kaj _ (bf.out _))))
   refine dU ?_;rintro w2 ⟨⟨_,aw⟩,rfl⟩;have aN:Hid (w9.grownBy w2 (some g)):=HG.out.trans ⟨aw.os,aw.tape,aw.output,aw.size,fun j hj _=>aw.block j hj⟩;have aA:Hid (w2.ownsRow w0.heap.size 132 3 (.slice (some ⟨g,0,none⟩) (n+1) c9) (n+1) ((Kaf hs k x).flatMap encH3)):=Kbh HR.out aw;have ad:Hid (Blk w2 g 132 aV):=aR.out.below aw gl;clear e0 e1 e2 j0 j1 j2 gl aw HG HR aR bf
   by_cases hc:0<=r
   .have bl:decide (0<=r)=true:=jL hc
    have HF:Hid (DSt w0 w2 (.slice (some ⟨g,0,none⟩) (n+1) c9) (Kaf hs k x) (Kaf gs k s)/\ascS (Kaf gs k s)/\w.grownBy w2 (dx A n c).ownBlock):=by
     refine⟨DSt.shift aF.out (aU.out.trans HN.out.symm) aM.out (by rw[HX.out];rfl) (by rw[HX.out];rfl) (by rw[HN.out];exact an) aN.out aA.out,Krr aB.out (fun z hz=>?_) (fun z hz=>by rw[a1.out];exact aW.out z hz),Kgt be.out aN.out aE.out⟩
     have bc:cmpL y.labels L<0:=by
      have h1:=Kdd y.labels L;have h2:=a9.out;have h3:cmpL L y.labels≠0:=fun e=>bp.out y (cQ aI.out) (Kdf e).symm
      omega
     rw[aH.out,cJ,aI.out]at hz;rw[a1.out];rcases cY.1 hz with hz | hz
     .obtain ⟨i,hi,rfl⟩:=c8.1 hz;have a2:=(cS.1 aI.out).1;have h1:=cW.1 aB.out i j (by rw[cL]at hi;omega) a2 (by rw[cL]at hi;omega);rw[(cS.1 aI.out).2]at h1;rw[df];exact Kde h1 bc
     .have:z=y:=by simpa using hz
      rw[this];exact bc
    clear aN aA ad;go_wp2_with fail
    go_ret
    first | exact⟨g,c9,rfl,k,an,HF.out.1,HF.out.2.1,HF.out.2.2,aE.out⟩ | exact⟨g,c9,k,rfl,an,HF.out.1,HF.out.2.1,HF.out.2.2,aE.out⟩
   .have bl:decide (0<=r)=false:=jJ hc
    have bo:Hid (∀z∈gs.drop j,cmpL L z.labels<0):=fun z hz=>by
     have a2:=(cS.1 aI.out).1;rw[cN a2,(cS.1 aI.out).2]at hz;rcases c4.1 hz with rfl | hz
     .rw[a9.out];omega
     .exact aW.out z (by rw[aH.out];exact hz)
    have bk:Hid (j≠k):=by have:=aH.out;show _≠_;omega
    have aa:=fun (W:World) (l:List Hd3) (hl:l.length=n+1) (hR:W.ownsRow w0.heap.size 132 3 (.slice (some ⟨g,0,none⟩) (n+1) c9) (n+1) (l.flatMap encH3)) (i:Nat) (z:Hd3) (hz:l[i]? = some z) (r:Nat) (hr:r<3)=>(by
     have bt:i<n+1:=by rw[<-hl];exact(cS.1 hz).1
     rw[hR.cellAt (i*3+r) (by omega)]
     exact Kcw (enc:=encH3) (fun _=>rfl) _ i r z hz hr:W.cell? ⟨g,i*3+r,none⟩=(encH3 z)[r]?)
    have af:(Kaf hs k x).length=n+1:=by rw[Kdh,HN.out]
    have aj:(Kaf hs k x)[j]? = some ⟨⟨jA,jn,jc⟩,⟨ak,al,ap⟩,⟨ao,am,ai⟩⟩:=by rw[Kgi (by omega) (by rw[HN.out];exact an)];exact bb.out
    have ax:(Kaf hs k x)[k]? = some x:=Kdr hs x (by rw[HN.out];exact an);have ab:(Kaf hs k x)[k]? = some ⟨⟨lA,ln,lc⟩,⟨none,0,0⟩,⟨none,0,0⟩⟩:=by rw[ax,HX.out]
    obtain⟨q2,aZ⟩:=jG w2.heap.size;obtain⟨w3,aX⟩:=jG (w2.alloc (.cells #[.slice lA ln lc,.slice none 0 0,.slice none 0 0] 132));have bd:Hid (Blk w3 q2 132 #[.slice lA ln lc,.slice none 0 0,.slice none 0 0]):=by show Blk _ _ _ _;rw[aX,aZ];exact dQ _ _ _
    have aY:w2.grownBy w3 none:=by rw[aX];exact dz w2 _ none
    have a7:Hid (w9.grownBy w3 (some g)):=aN.out.trans (dw aY _);have av:Hid (w3.ownsRow w0.heap.size 132 3 (.slice (some ⟨g,0,none⟩) (n+1) c9) (n+1) ((Kaf hs k x).flatMap encH3)):=Kch aA.out aY;have ac:Hid (Blk w3 g 132 aV):=ad.out.grown aY (by simp);have bB:g≠q2:=by rw[aZ];exact Nat.ne_of_lt ad.out.lt
    have bm:=Jh bB;have k0:w2.cell? ⟨g,k*3,none⟩=some (.slice lA ln lc):=aa w2 _ af aA.out k _ ab 0 (by decide);have k1:w2.cell? ⟨g,k*3+1,none⟩=some (.slice none 0 0):=aa w2 _ af aA.out k _ ab 1 (by decide);have k2:w2.cell? ⟨g,k*3+2,none⟩=some (.slice none 0 0):=aa w2 _ af aA.out k _ ab 2 (by decide);have a6:=ad.out.lt;go_upto_region 8 with fail
    rw[<-aX,<-aZ];clear k0 k1 k2 a6 aX aZ aY aN aA ad;obtain⟨w4,aQ⟩:=jG (((w3.setCell ⟨g,k*3,none⟩ (.slice jA jn jc)).setCell ⟨g,k*3+1,none⟩ (.slice ak al ap)).setCell ⟨g,k*3+2,none⟩ (.slice ao am ai));have bj:Hid (w9.grownBy w4 (some g)):=by show dB _ _ _;rw[aQ];exact Khj a7.out _ _ _ _
    have aD:Hid (w4.ownsRow w0.heap.size 132 3 (.slice (some ⟨g,0,none⟩) (n+1) c9) (n+1) (((Kaf hs k x).set k ⟨⟨jA,jn,jc⟩,⟨ak,al,ap⟩,⟨ao,am,ai⟩⟩).flatMap encH3)):=by
     show dA _ _ _ _ _ _ _
     rw[aQ];exact Qaj av.out (x:=⟨⟨jA,jn,jc⟩,⟨ak,al,ap⟩,⟨ao,am,ai⟩⟩) ax
    have aO:w3.grownBy w4 (some g):=by rw[aQ];exact Khj ⟨rfl,rfl,rfl,cH _,fun _ _ _=>rfl⟩ _ _ _ _
    have aJ:Hid (Blk w4 q2 132 #[.slice lA ln lc,.slice none 0 0,.slice none 0 0]):=bd.out.grown aO (fun e=>bm.out (by injection e with e;exact e.symm));have j0:w3.cell? ⟨g,j*3,none⟩=some (.slice jA jn jc):=aa w3 _ af av.out j _ aj 0 (by decide);have j1:w3.cell? ⟨g,j*3+1,none⟩=some (.slice ak al ap):=aa w3 _ af av.out j _ aj 1 (by decide);have j2:w3.cell? ⟨g,j*3+2,none⟩=some (.slice ao am ai):=aa w3 _ af av.out j _ aj 2 (by decide);have k0:w3.cell? ⟨g,k*3,none⟩=some (.slice lA ln lc):=aa w3 _ af av.out k _ ab 0 (by decide);have k1:w3.cell? ⟨g,k*3+1,none⟩=some (.slice none 0 0):=aa w3 _ af av.out k _ ab 1 (by decide);have k2:w3.cell? ⟨g,k*3+2,none⟩=some (.slice none 0 0):=aa w3 _ af av.out k _ ab 2 (by decide);have f0:=ac.out.frozen (k*3);have f1:=ac.out.frozen (k*3+1);have f2:=ac.out.frozen (k*3+2);have a6:=ac.out.lt;go_upto_region 9 with fail
    rw[<-aQ];clear j0 j1 j2 k0 k1 k2 f0 f1 f2 a6 aO aQ av a7 bd;have aq:((Kaf hs k x).set k ⟨⟨jA,jn,jc⟩,⟨ak,al,ap⟩,⟨ao,am,ai⟩⟩).length=n+1:=by rw[cP];exact af
    have ah:((Kaf hs k x).set k ⟨⟨jA,jn,jc⟩,⟨ak,al,ap⟩,⟨ao,am,ai⟩⟩)[j]? = some ⟨⟨jA,jn,jc⟩,⟨ak,al,ap⟩,⟨ao,am,ai⟩⟩:=by rw[di (Ne.symm bk.out)];exact aj
    have bv:Hid ((((w4.setCell ⟨g,j*3,none⟩ (.slice lA ln lc)).setCell ⟨g,j*3+1,none⟩ (.slice none 0 0)).setCell ⟨g,j*3+2,none⟩ (.slice none 0 0)).ownsRow w0.heap.size 132 3 (.slice (some ⟨g,0,none⟩) (n+1) c9) (n+1) ((Kaf hs j x).flatMap encH3)):=by have h1:=Qaj aD.out (x:=x) ah;rw[aH.out,Qcg x bb.out,HX.out]at h1;rw[HX.out];exact h1
    have a4:Hid (w9.grownBy (((w4.setCell ⟨g,j*3,none⟩ (.slice lA ln lc)).setCell ⟨g,j*3+1,none⟩ (.slice none 0 0)).setCell ⟨g,j*3+2,none⟩ (.slice none 0 0)) (some g)):=Khj bj.out _ _ _ _;have z0:=aJ.out.cell 0;have z1:=aJ.out.cell 1;have z2:=aJ.out.cell 2;simp at z0 z1 z2;have zl:=aJ.out.lt;obtain⟨a5,ay⟩:=Kax aD.out (r:=g) rfl;have ae:Blk w4 g 132 a5:=ay;have j0:w4.cell? ⟨g,j*3,none⟩=some (.slice jA jn jc):=aa w4 _ aq aD.out j _ ah 0 (by decide);have j1:w4.cell? ⟨g,j*3+1,none⟩=some (.slice ak al ap):=aa w4 _ aq aD.out j _ ah 1 (by decide);have j2:w4.cell? ⟨g,j*3+2,none⟩=some (.slice ao am ai):=aa w4 _ aq aD.out j _ ah 2 (by decide);have f0:=ae.frozen (j*3);have f1:=ae.frozen (j*3+1);have f2:=ae.frozen (j*3+2);have gl4:=ae.lt;clear ae ay aa af aq aj ah ax ab ac bj aD aJ aW hc;go_wp2_with fail
    go_roundg j
    case measure=>have:=aH.out;omega
    case rel=>exact⟨j,by first | rfl | go_num,by have:=aH.out;omega,by omega,a4,bv,bo⟩
end
end
section
open Go.Shelf Go.RowKit Go.Lib Go.Sort
open Lib renaming hid -> Jh
open List renaming setIfInBounds_toArray -> Ja, set_cons_zero -> Jb, set_cons_succ -> Jc
attribute [local go_sem ↓] Go.wp_at_zero Go.wp_at_succ
attribute [local go_sem] Later.cell
section
theorem Kgf {α : Type}(k:α->Int):∀(xs:List α) {l:List α},(l.Pairwise fun a b=>k a<k b)->(xs.foldl (fun a x=>insO k x a) l).Pairwise fun a b=>k a<k b
 | [],_,h=>h
 | x :: xs,l,h=>by rw[List.foldl_cons];exact Kgf k xs (Knu k x h)
theorem Qht {l:List Ser}(h:ascS l) {i j:Nat}{x y:Ser}(hi:l[i]? = some x) (hj:l[j]? = some y) (e:x.labels=y.labels):i=j:=by
 obtain⟨aa,rfl⟩:=cS.1 hi;obtain⟨ab,rfl⟩:=cS.1 hj;rcases dp i j with hl | hl | hl
 .exact jS e (Klh (cW.1 h i j aa ab hl)).1
 .exact hl
 .exact jS e.symm (Klh (cW.1 h j i ab aa hl)).1
structure Found (P:List Ser) (s:Ser) (gs1:List Ser) (a:Nat) (g1:Ser):Prop where
 at_:gs1[a]? = some g1
 put:gs1.set a ⟨g1.labels,s.samples.foldl (fun a x=>insO dH x a) g1.samples,s.windows.foldl (fun a x=>insO dG x a) g1.windows⟩=Kbg (Kae P) s
 aa:g1.samples.Pairwise fun a b=>dH a<dH b
 aw:g1.windows.Pairwise fun a b=>dG a<dG b
 sz:g1.samples.length+g1.windows.length<=sumS P
theorem Kku (P:List Ser):IsMrg P (Kae P):=by have:=Kfu P [] [] IsMrg.nil;unfold Kae;simpa using this
theorem Found.old {P:List Ser}{s g1:Ser}{a:Nat}(h:(Kae P)[a]? = some g1) (e:g1.labels=s.labels):Found P s (Kae P) a g1:=by
 have hm:=Kku P;obtain⟨_,h1,h2⟩:=(hm.mem g1).1 (cQ h);refine⟨h,(Kpr hm.asc h e).symm,?_,?_,?_⟩
 .rw[h1];exact Kgf _ _ dL
 .rw[h2];exact Kgf _ _ dL
 .have h3:=Khm (cQ h);have h4:=Kfd P;omega
theorem Found.new {P:List Ser}{s g1:Ser}{a k:Nat}(hk:k<=(Kae P).length) (ha:ascS (Kaf (Kae P) k ⟨s.labels,[],[]⟩)) (h:(Kaf (Kae P) k ⟨s.labels,[],[]⟩)[a]? = some g1) (e:g1.labels=s.labels):Found P s (Kaf (Kae P) k ⟨s.labels,[],[]⟩) a g1:=by have h1:=Kdr (Kae P) (⟨s.labels,[],[]⟩:Ser) hk;have aa:=Qht ha h h1 e;subst aa;rw[h1]at h;injection h with h;subst h;refine⟨h1,?_,dL,dL,Nat.zero_le _⟩;rw[Kpq ha hk,Kgj _ _ hk];rfl
theorem DSt.elems {w0 w:World}{A:Option Addr}{n c:Nat}{hs:List Hd3}{gs:List Ser}(d:DSt w0 w (.slice A n c) hs gs):Elems w w.heap.size 3 encH3 A n hs:=by obtain⟨A9,c9,e9,hE,_⟩:=dS (xs:=hs) (enc:=encH3) (fun _ _=>rfl) rfl d.o.row rfl;have hn:=Kfc d.o.row;injection e9 with e1 _ _;rw[e1,hn];exact hE
theorem DSt.lbl {w0 w:World}{v:Value}{hs:List Hd3}{gs:List Ser}(d:DSt w0 w v hs gs) (hz:∀g∈gs,g.labels.length<=1099511627776) (i:Nat) (h:Hd3) (hi:hs[i]? = some h):h.l.n<=1099511627776:=by
 have aa:i<gs.length:=by rw[d.o.l];exact(cS.1 hi).1
 have:=(d.o.r i h _ hi (cV aa)).l.len;have:=hz _ (dt aa);omega
theorem Kwk {w0 w:World}{A lA:Option Addr}{n c ln lc:Nat}{hs:List Hd3}{gs:List Ser}{L:List Lb}(d:DSt w0 w (.slice A n c) hs gs) (hz:∀g∈gs,g.labels.length<=1099511627776) (hL:Elems w0 w0.heap.size 2 encLb lA ln L) (hk:ln<=1099511627776) (hn:n<=1099511627776) :
  Calls prog 100 #[.slice A n c,.slice lA ln lc] w fun e w'=>(∃r,e = .returned (.int .i64 r)/\Koi gs L r)/\Below w.heap.size w w':=
 Kwj hs gs L A lA n c ln lc w d.elems (d.o.l.trans (Kfc d.o.row).symm) (fun i h g hi hg=>⟨((d.o.r i h g hi hg).l.below d.o.b).more d.o.b.size,d.lbl hz i h hi⟩) ((hL.below d.o.b).more d.o.b.size) hk hn
theorem Kss {α : Type}:∀{l:List α}{i:Nat}{x:α},l[i]? = some x->l.set i x=l
 | [],i,x,h=>by simp at h
 | y :: l,0,x,h=>by simp at h;rw[Jb,h]
 | y :: l,i+1,x,h=>by rw[Jc,Kss (by simpa using h)]
theorem Kkf (P:List Ser) (s:Ser):Kae (P ++ [s])=if Kaq s=true then Kbg (Kae P) s else Kae P:=by unfold Kae;rw[cU];rfl
theorem Krb (A:Option Addr) (n c:Nat) (hds:List Hd) (Ls:List (List Ser)) (w0:World) (h:Lists w0 A n hds Ls) (hn:n<=140737488355328) (hN:Ls.flatten.length<=274877906944) (hsum:sumS Ls.flatten<=137438953472) :
  Calls prog 35 #[.slice A n c] w0 fun e w'=>∃(A':Option Addr) (n' c':Nat),e = .returned (.slice A' n' c')/\Sers w' A' n' (Kae Ls.flatten)/\n'<=c'/\Below w0.heap.size w0 w':=by
 have aB:=Jh h;have HN:=Jh hN;have bw:=Jh hsum;have HD:Hid (DSt w0 w0 (.slice none 0 0) [] (Kae (Ls.take 0).flatten)):=⟨DOut.nil (Below.refl _ _),fun i j x y hi=>by simp at hi⟩;clear h hN hsum;go_enter func35,ntmps35
 go_wp2_with fail
 go_loopg [3,4] n (fun kx s3 s4 wr=>∃(i:Nat) (hs:List Hd3),s4 = .int .i64 (i:Int)/\i+kx=n/\Hid (DSt w0 wr s3 hs (Kae (Ls.take i).flatten)))
 case atStart=>exact⟨0,[],rfl,by omega,HD⟩
 case round=>
  clear HD;obtain⟨i,hs,rfl,hi,HO⟩:=hrel;rcases cM i n with hlt | hge
  .have cE:(i:Int)<(n:Int):=by omega
   obtain⟨hd,bq⟩:∃hd,hds[i]? = some hd:=⟨hds[i]'(by rw[aB.out.e.len];omega),cV _⟩;obtain⟨L,hL⟩:∃L,Ls[i]? = some L:=⟨Ls[i]'(by rw[aB.out.l];omega),cV _⟩;obtain⟨aC,cF⟩:=aB.out.k i hd bq;have bZ:Ls[i]! = L:=by rw[jI Ls i (by rw[aB.out.l];omega)];exact(cS.1 hL).2
   rw[bZ]at aC;obtain⟨bi,hE,bj,b1⟩:=aC;obtain⟨b0,aS,cG,bI,b2⟩:=aB.out.e.2 (by omega);obtain⟨hA,m,mc⟩:=hd
   have ce:Hid (∀W,Below w0.heap.size w0 W->W.cell? ⟨b0,aS+i,none⟩=some (.slice hA m mc)/\b0<W.heap.size):=fun W hW=>by have h1:=b2 i _ bq 0 _ rfl;rw[Nat.mul_one,Nat.add_zero]at h1;exact⟨(hW.cell (p:=⟨b0,aS+i,none⟩) bI).trans h1,cK bI hW.size⟩
   have HE:Hid (Elems w0 w0.heap.size 3 encH3 hA m bi):=hE;have cA:Hid (∀(k:Nat) (h:Hd3),bi[k]? = some h->SerAt w0 h L[k]!):=b1;have bP:Hid (L.length=m):=bj;have HZL:Hid (∀s∈L,s.labels.length<=1099511627776):=aB.out.z L (cQ hL)
   have aE:Hid (∀k,∃R,Ls.flatten=(Ls.take i).flatten++L.take k++R):=fun k=>by
    refine⟨L.drop k++(Ls.drop (i+1)).flatten,?_⟩;have cz:=(cS.1 hL).1
    conv=>lhs;rw[<-dc i Ls,cN cz,(cS.1 hL).2]
    simp only[dl,List.flatten_cons]
    conv=>lhs;rw[<-dc k L]
    simp only[dr]
   have hmz:m<=274877906944:=by obtain⟨R,hR⟩:=aE.out m;have h1:=HN.out;have e:L.take m=L:=cI (Nat.le_of_eq bj);have e2:L.length=m:=bj;rw[hR,cT,cT,e]at h1;omega
   have bG:Hid ((Ls.take (i+1)).flatten=(Ls.take i).flatten++L):=by show _=_;rw[cJ,hL,dl];simp
   have bz:=HO.out;rw[show(Ls.take i).flatten=(Ls.take i).flatten++L.take 0 by simp]at bz;have cf:=Jh bz;clear bz;obtain⟨k0,kl⟩:=ce.out wr HO.out.o.b;obtain⟨wo,rfl⟩:=jG wr;subst cG;clear hE b1 bj hL bq bZ b2 cF bI HO;go_wp2_with fail
   go_loopg [3,5] m (fun kx s3 s5 wr=>∃(k:Nat) (hs:List Hd3),s5 = .int .i64 (k:Int)/\k+kx=m/\Hid (DSt w0 wr s3 hs (Kae ((Ls.take i).flatten++L.take k))))
   case atStart=>exact⟨0,hs,rfl,by omega,cf⟩
   case round=>
    clear cf k0 kl;obtain⟨k,hk,rfl,hkm,HO⟩:=hrel;obtain⟨k0,kl⟩:=ce.out wr HO.out.o.b;rcases cM k m with hlt2 | hge2
    .have ax:(k:Int)<(m:Int):=by omega
     obtain⟨h3,bf⟩:∃h,bi[k]? = some h:=⟨bi[k]'(by rw[HE.out.len];omega),cV _⟩;obtain⟨s,bo⟩:∃s,L[k]? = some s:=⟨L[k]'(by rw[bP.out];omega),cV _⟩;have cc:L[k]! = s:=by rw[jI L k (by rw[bP.out];omega)];exact(cS.1 bo).2
     have al:=cA.out k h3 bf;rw[cc]at al;obtain⟨bL,oL,cl,aR,bm⟩:=HE.out.2 (by omega);obtain⟨⟨lA,ln,lc⟩,⟨sA,sn,sc⟩,⟨wA,wn,wc⟩⟩:=h3;have e0:wr.cell? ⟨bL,oL+k*3,none⟩=some (.slice lA ln lc):=(HO.out.o.b.cell (p:=⟨bL,oL+k*3,none⟩) aR).trans (bm k _ bf 0 _ rfl);have e1:wr.cell? ⟨bL,oL+k*3+1,none⟩=some (.slice sA sn sc):=(HO.out.o.b.cell (p:=⟨bL,oL+k*3+1,none⟩) aR).trans (bm k _ bf 1 _ rfl);have e2:wr.cell? ⟨bL,oL+k*3+2,none⟩=some (.slice wA wn wc):=(HO.out.o.b.cell (p:=⟨bL,oL+k*3+2,none⟩) aR).trans (bm k _ bf 2 _ rfl);have bU:bL<wr.heap.size:=cK aR HO.out.o.b.size;have aV:Hid (Elems w0 w0.heap.size 2 encLb lA ln s.labels/\ln<=lc):=⟨al.l,al.lc⟩;have aN:Hid (Elems w0 w0.heap.size 2 Kac sA sn s.samples):=al.s;have aM:Hid (Elems w0 w0.heap.size 6 Kad wA wn s.windows):=al.w;have be:Hid ((Ls.take i).flatten++L.take (k+1)=(Ls.take i).flatten++L.take k ++ [s]):=by show _=_;rw[cJ,bo,<-dr];rfl
     obtain⟨P,hP⟩:=jG ((Ls.take i).flatten++L.take k)
     have aO:Hid (∀g∈P ++ [s],g.labels.length<=1099511627776):=fun g hg=>by
      obtain⟨R,hR⟩:=aE.out (k+1);rw[be.out,<-hP]at hR;have:g∈Ls.flatten:=by rw[hR];exact cR _ hg
      obtain⟨L',h1,h2⟩:=dk.1 this;exact aB.out.z L' h1 g h2
     have bl:Hid (sumS P+(sn+wn)<=137438953472/\P.length<274877906944):=by obtain⟨R,hR⟩:=aE.out (k+1);rw[be.out,<-hP]at hR;have h1:=bw.out;have h2:=HN.out;rw[hR,Khv,Khv,Kbq]at h1;rw[hR,cT,cT,List.length_singleton]at h2;have h3:=aN.out.len;have h4:=aM.out.len;exact⟨by omega,by omega⟩
     have bC:sn<=137438953472/\wn<=137438953472:=by have:=bl.out.1;exact⟨by omega,by omega⟩
     obtain⟨cg,cj⟩:=bC;have br:Hid (ln<=1099511627776):=by have:=aO.out s (by simp);rw[aV.out.1.len]at this;exact this
     rw[<-hP]at HO be;have bY:=HO.out.o.row;obtain⟨n3,b3⟩:=jG hk.length;rw[<-b3]at bY;obtain⟨A3,c3,cm⟩:=Kah bY;subst cm
     have bd:Hid (n3<=274877906944/\n3=(Kae P).length):=by have h1:=HO.out.o.l;have h2:=Khg P;have h3:=bl.out.2;exact⟨by omega,by omega⟩
     have ca:Hid (Kaq s=decide (0<sn+wn)):=by show decide (0<s.samples.length+s.windows.length)=_;rw[aN.out.len,aM.out.len]
     subst cl;clear bm bf bo cc al aR bY b3 hP;obtain⟨q,hq⟩:=jG wr.heap.size;obtain⟨wb,bk⟩:=jG (wr.alloc (.cells #[.slice lA ln lc,.slice sA sn sc,.slice wA wn wc] 132));have aL:Hid (Blk wb q 132 #[.slice lA ln lc,.slice sA sn sc,.slice wA wn wc]):=by show Blk _ _ _ _;rw[bk,hq];exact dQ _ _ _
     have bg:Hid (DSt w0 wb (.slice A3 n3 c3) hk (Kae P)):=by show DSt _ _ _ _ _;rw[bk];exact HO.out.below ((Below.refl _ _).alloc (cH _) _)
     have bV:Hid (∀g,(dx A3 n3 c3).ownBlock=some g->g≠q):=fun g hg e=>by have:=(HO.out.o.row.lt g hg).2;omega
     go_upto_region 9 with fail
     rw[<-bk,<-hq];clear bk hq e0 e1 e2 bU k0 kl HO;have z0:=aL.out.cell 0;have z1:=aL.out.cell 1;have z2:=aL.out.cell 2;simp at z0 z1 z2;have zl:=aL.out.lt
     by_cases hz:0<sn+wn
     .have cn:((sn:Int)+(wn:Int) == 0)=false:=by rw[jO];omega
      have bb:Hid (Kaq s=true):=by show _=_;rw[ca.out,jL hz]
      have cd:=Jh (Kwk (c:=c3) (lc:=lc) bg.out (fun g hg=>Kec (fun L=>L.length<=1099511627776) P (fun x hx=>aO.out x (cR _ hx)) g hg) aV.out.1 br.out (by have:=bd.out.1;omega));go_wp2_with fail
      refine cd.out.mono ?_;rintro _ w2 ⟨⟨r,rfl,hr⟩,bE⟩;have HR:=Jh hr;have aQ:Hid (DSt w0 w2 (.slice A3 n3 c3) hk (Kae P)):=bg.out.below bE;have aH:Hid (Blk w2 q 132 #[.slice lA ln lc,.slice sA sn sc,.slice wA wn wc]):=aL.out.below bE zl;clear z0 z1 z2 zl bE hr cd bg aL;go_upto_if 45 with fail
      go_cut [3,7] from 16 to 98 (fun s3 s7 wz=>∃(v3 v7:Value) (gB n1 c1 a:Nat) (hs1:List Hd3) (gs1:List Ser) (g1:Ser),v3=s3/\v7=s7/\v3 = .slice (some ⟨gB,0,none⟩) n1 c1/\v7 = .int .i64 (a:Int)/\Hid (DSt w0 wz (.slice (some ⟨gB,0,none⟩) n1 c1) hs1 gs1)/\Hid (Found P s gs1 a g1)/\Hid (Blk wz q 132 #[.slice lA ln lc,.slice sA sn sc,.slice wA wn wc])/\Hid (gB≠q))
      case first=>
       rcases HR.out with ⟨a,g1,rfl,aP,az⟩ | ⟨rfl,hno⟩
       .have cp:¬(a:Int)<0:=by omega
        obtain⟨gB,rfl⟩:∃gB,A3=some ⟨gB,0,none⟩:=by
         rcases aQ.out.o.row.2 with ⟨h1,_⟩ | ⟨g,cap,ac,h1,_⟩
         .injection h1 with _ h1 _;have h2:=(cS.1 aP).1;have h3:=bd.out.2;omega
         .injection h1 with h1 _ _;exact⟨g,h1⟩
        have bT:Hid (Found P s (Kae P) a g1):=Found.old aP az;have aK:Hid (gB≠q):=bV.out gB rfl;clear aP az;go_wp2_with fail
        go_meet
        exact⟨_,_,gB,n3,c3,a,hk,_,g1,rfl,rfl,rfl,rfl,aQ,bT,aH,aK⟩
       .have b7:=Jh (Ktp hk (Kae P) A3 lA n3 c3 ln lc s.labels w0 w2 aQ.out (Kku P).asc aV.out.1 aV.out.2 br.out (aQ.out.lbl fun g hg=>Kec (fun L=>L.length<=1099511627776) P (fun x hx=>aO.out x (cR _ hx)) g hg) hno bd.out.1);have z0:=aH.out.cell 0;simp at z0;have zl:=aH.out.lt;clear hno;go_wp2_with fail
        refine b7.out.mono ?_;rintro _ w3 ⟨gB,c1,k1,rfl,hk1,ch,aD,cb,b8⟩;have bD:Hid (Blk w3 q 132 #[.slice lA ln lc,.slice sA sn sc,.slice wA wn wc]):=aH.out.grown cb (fun e=>bV.out q e.symm rfl);have aY:=Jh ch;have bA:=Jh aD
        have cv:Hid (∀g∈Kaf (Kae P) k1 ⟨s.labels,[],[]⟩,g.labels.length<=1099511627776):=fun g hg=>by
         rcases cY.1 hg with hg | hg
         .exact Kec (fun L=>L.length<=1099511627776) P (fun x hx=>aO.out x (cR _ hx)) g (List.mem_of_mem_take hg)
         .rcases c4.1 hg with rfl | hg
          .exact aO.out s (by simp)
          .exact Kec (fun L=>L.length<=1099511627776) P (fun x hx=>aO.out x (cR _ hx)) g (List.mem_of_mem_drop hg)
        have aK:Hid (gB≠q):=by
         rcases b8 with e | e
         .exact bV.out gB e.symm
         .have:=aH.out.lt;show gB≠q
          omega
        have ci:=Jh (Kwk (c:=c1) (lc:=lc) aY.out cv.out aV.out.1 br.out (by have:=bd.out.1;omega));have y0:=bD.out.cell 0;simp at y0;have yl:=bD.out.lt;clear z0 zl ch aD cb b8 b7 aH aQ;go_wp2_with fail
        refine ci.out.mono ?_;rintro _ w4 ⟨⟨r,rfl,hr⟩,bJ⟩;have cy:Hid (DSt w0 w4 (.slice (some ⟨gB,0,none⟩) (n3+1) c1) _ _):=aY.out.below bJ;have ck:Hid (Blk w4 q 132 #[.slice lA ln lc,.slice sA sn sc,.slice wA wn wc]):=bD.out.below bJ yl
        obtain⟨a,g1,rfl,aP,az⟩:∃(a:Nat) (g1:Ser),r=(a:Int)/\(Kaf (Kae P) k1 ⟨s.labels,[],[]⟩)[a]? = some g1/\g1.labels=s.labels:=by
         rcases hr with h1 | ⟨_,h2⟩
         .exact h1
         .exact jS rfl (h2 ⟨s.labels,[],[]⟩ (by unfold Kaf;simp))
        have bT:Hid (Found P s (Kaf (Kae P) k1 ⟨s.labels,[],[]⟩) a g1):=Found.new (by have:=bd.out.2;omega) bA.out aP az;clear y0 yl bJ hr ci aP az;go_wp2_with fail
        go_meet
        exact⟨_,_,gB,n3+1,c1,a,_,_,g1,rfl,rfl,rfl,rfl,cy,bT,ck,aK⟩
      case rest=>
       obtain⟨v3,v7,gB,n1,c1,a,hs1,gs1,g1,rfl,rfl,rfl,rfl,aY,HF,b5,aK⟩:=hcut;obtain⟨wz,rfl⟩:=jG wc
       have b6:Hid (DSt w0 wz (.slice (some ⟨gB,0,none⟩) n1 c1) hs1 (gs1.set a ⟨g1.labels,(s.samples.take 0).foldl (fun a x=>insO dH x a) g1.samples,g1.windows⟩)):=by
        show DSt _ _ _ _ _
        have h1:=aY.out;rw[<-Kss HF.out.at_]at h1;exact h1
       clear aY aQ aH HR;go_wp2_with fail
       go_loopg [8] sn (fun kx s8 wr=>∃(j:Nat) (hj:List Hd3),s8 = .int .i64 (j:Int)/\j+kx=sn/\Hid (DSt w0 wr (.slice (some ⟨gB,0,none⟩) n1 c1) hj (gs1.set a ⟨g1.labels,(s.samples.take j).foldl (fun a x=>insO dH x a) g1.samples,g1.windows⟩))/\Hid (Blk wr q 132 #[.slice lA ln lc,.slice sA sn sc,.slice wA wn wc]))
       case atStart=>exact⟨0,_,by first | rfl | go_num,by omega,b6,b5⟩
       case round=>
        clear b6  b5;obtain⟨j,hj,rfl,cr,HD,HB⟩:=hrel;have z1:wr.cell? ⟨q,1,none⟩=some (.slice sA sn sc):=HB.out.cell 1;have zl:=HB.out.lt;rcases cM j sn with hlt2 | hge2
        .have ax:(j:Int)<(sn:Int):=by omega
         obtain⟨y,hy⟩:∃y,s.samples[j]? = some y:=⟨s.samples[j]'(by rw[aN.out.len];omega),cV _⟩;obtain⟨ac,ad⟩:=jG ((s.samples.take j).foldl (fun a x=>insO dH x a) g1.samples);have bB:Hid ((s.samples.take (j+1)).foldl (fun a x=>insO dH x a) g1.samples=insO dH y ac):=by show _=_;rw[ad,cJ,hy,cU];rfl
         have ar:ac.Pairwise fun a b=>dH a<dH b:=by rw[ad];exact Kgf _ _ HF.out.aa
         have cC:ac.length<=137438953472:=by have h1:=Keg dH (s.samples.take j) g1.samples;rw[<-ad,cL,aN.out.len]at h1;have h2:=HF.out.sz;have h3:=bl.out;omega
         rw[<-ad]at HD
         have bX:a<hj.length:=by have h1:=HD.out.o.l;rw[cP]at h1;rw[<-h1];exact(cS.1 HF.out.at_).1
         obtain⟨x,hx⟩:∃x,hj[a]? = some x:=⟨hj[a]'bX,cV _⟩;have aI:(gs1.set a ⟨g1.labels,ac,g1.windows⟩)[a]? = some ⟨g1.labels,ac,g1.windows⟩:=c6 (cS.1 HF.out.at_).1;obtain⟨wd,aA⟩:=jG wr.drew;have ae:Hid (DSt w0 wd (.slice (some ⟨gB,0,none⟩) n1 c1) hj (gs1.set a ⟨g1.labels,ac,g1.windows⟩)):=by show DSt _ _ _ _ _;rw[aA];exact HD.out.below (Below.refl _ _).drew
         have ay:Hid (Blk wd q 132 #[.slice lA ln lc,.slice sA sn sc,.slice wA wn wc]):=by show Blk _ _ _ _;rw[aA];exact HB.out
         have bc:=ae.out.o.r a x _ hx aI;obtain⟨⟨bF,bM,bn⟩,⟨an,ak,ao⟩,⟨am,ai,aj⟩⟩:=x;have ab:wd.ownsRow w0.heap.size 133 2 (.slice an ak ao) ac.length (ac.flatMap Kac):=bc.sm;have aZ:=Kfc ab;rw[<-aZ]at ab;obtain⟨ct,aU⟩:=Kax ae.out.o.row (r:=gB) rfl;have aq:Blk wd gB 132 ct:=aU;have aG:Hid (some gB≠(dx an ak ao).ownBlock/\some q≠(dx an ak ao).ownBlock):=⟨Kak aq ab (by decide),Kak ay.out ab (by decide)⟩;have af:=Qhc ac y ar w0.heap.size an ak ao wd ab aZ.symm ae.out.o.b.size (by omega)
         have c0:wd.cell? ⟨gB,a*3+1,none⟩=some (.slice an ak ao):=by obtain⟨b9,o9,bt,cw,bO⟩:=ae.out.elems.2 (by have:=(ae.out.elems).len;omega);injection bt with e9;injection e9 with e1 e2;subst e1 e2;have:=bO a _ hx 1 _ rfl;rw[Nat.zero_add]at this;exact this
         have aW:=(aN.out.below ae.out.o.b);obtain⟨bx,ox,bK,bh,a8⟩:=aW.2 (by omega);have ap:=a8 j y hy;have hS:wd.cell? ⟨gB,a*3+1,none⟩=some (.slice an ak ao)/\wd.cell? ⟨q,1,none⟩=some (.slice sA sn sc)/\wd.cell? ⟨bx,ox+j*2,none⟩=some (.int .i64 y.t)/\wd.cell? ⟨bx,ox+j*2+1,none⟩=some (.int .u64 (y.v:Int)):=⟨c0,ay.out.cell 1,ap 0 _ rfl,ap 1 _ rfl⟩;have bW:bx<wd.heap.size:=cK bh ae.out.o.b.size;have az:=aq.lt;have cx:=aq.frozen (a*3+1);have co:=ay.out.lt;have cB:=ay.out.frozen 1;have bv:=Jh aq;have bN:=Jh hx;have bS:=Jh aI;subst bK;have cs:(a:Int)<(n1:Int):=by have h1:=ae.out.elems.len;omega
         clear aW a8 ap bh c0 bc aU aq hx aI ad hy ar ab bX HD HB;go_upto_region 17 with fail
         refine Kck (fun w'=>w'.cell? ⟨gB,a*3+1,none⟩=some (.slice an ak ao)/\w'.cell? ⟨q,1,none⟩=some (.slice (some ⟨bx,ox,none⟩) sn sc)/\w'.cell? ⟨bx,ox+j*2,none⟩=some (.int .i64 y.t)/\w'.cell? ⟨bx,ox+j*2+1,none⟩=some (.int .u64 (y.v:Int))) 12 16 (by kernel_rfl) rfl ?_;rw[show dv 16 false = #[false,false,false,false,false,false,false,false,false,false,false,false,false,false,false,false] from rfl,<-aA];clear aA z1 zl;refine kP (i:=0) (d:=some 62) hS ?_;simp only[dI,Ja,Jb,Jc];refine kP (i:=1) (d:=some 63) hS ?_;simp only[dI,Ja,Jb,Jc];refine kP (i:=2) (d:=some 64) hS ?_;simp only[dI,Ja,Jb,Jc];refine kP (i:=3) (d:=some 65) hS ?_;simp only[dI,Ja,Jb,Jc];refine kP (i:=4) (d:=some 66) hS ?_;simp only[dI,Ja,Jb,Jc];refine kP (i:=5) (d:=some 67) hS ?_;simp only[dI,Ja,Jb,Jc];refine kP (i:=7) (d:=some 69) hS ?_;simp only[dI,Ja,Jb,Jc];refine kP (i:=9) (d:=some 71) hS ?_;simp only[dI,Ja,Jb,Jc];refine Kbc (i:=6) (d:=some 68) rfl rfl (by kernel_rfl) (by kernel_rfl) (by kernel_rfl) (by kernel_rfl) rfl (fun _ _ _ h=>h) (.inl ⟨by rfl,fun w hw=>by (obtain⟨a0,a1,a2,a3⟩:=hw;go_simp;try rfl)⟩) hS ?_;simp only[dI,Ja,Jb,Jc];refine Kag (i:=8) (by kernel_rfl) rfl rfl ?_;refine dN (d:=some 70) (w':=wd) (v:=.slice (some ⟨bx,ox,none⟩) sn sc) rfl (by (obtain⟨a0,a1,a2,a3⟩:=hS;go_simp;try rfl)) ?_;refine⟨fun _=>hS,?_⟩;simp only[dI,Ja,Jb,Jc];refine kP (i:=10) (d:=some 72) hS ?_;simp only[dI,Ja,Jb,Jc];refine Kag (i:=11) (by kernel_rfl) rfl rfl ?_;refine dN (d:=some 73) (w':=wd) (v:=.agg #[.int .i64 y.t,.int .u64 (y.v:Int)]) rfl (by (obtain⟨a0,a1,a2,a3⟩:=hS;go_simp;try rfl)) ?_;refine⟨fun _=>hS,?_⟩;simp only[dI,Ja,Jb,Jc];refine Kag (i:=12) (by kernel_rfl) rfl rfl ?_;refine dP (d:=some 74) (w1:=wd) (g:=102) (args:=#[.slice an ak ao,.agg #[.int .i64 y.t,.int .u64 (y.v:Int)]]) rfl (by go_simp;try rfl) (N:=fun u w'=>∃(A':Option Addr) (n' c':Nat),u = .slice A' n' c'/\w'.ownsRow w0.heap.size 133 2 (.slice A' n' c') n' ((insO dH y ac).flatMap Kac)/\(insO dH y ac).length=n'/\wd.grownBy w' (dx an ak ao).ownBlock/\((dx A' n' c').ownBlock=(dx an ak ao).ownBlock\/∃b,(dx A' n' c').ownBlock=some b/\wd.heap.size<=b)) (af.mono fun e w' ⟨A',n',c',e1,e2⟩=>⟨_,e1,A',n',c',rfl,e2⟩) ?_;rintro _ w5 ⟨A5,n5,c5,rfl,a9,aX,av,aT⟩;refine⟨fun h=>jS h (by decide),?_⟩;simp only[dI,Ja,Jb,Jc]
         have bs:Hid (DSt w0 (w5.setCell ⟨gB,a*3+1,none⟩ (.slice A5 n5 c5)) (.slice (some ⟨gB,0,none⟩) n1 c1) (hj.set a ⟨⟨bF,bM,bn⟩,⟨A5,n5,c5⟩,⟨am,ai,aj⟩⟩) (gs1.set a ⟨g1.labels,(s.samples.take (j+1)).foldl (fun a x=>insO dH x a) g1.samples,g1.windows⟩)):=by
          have h1:=ae.out.setS bN.out bS.out av a9 aX aT;rw[dq]at h1;show DSt _ _ _ _ _
          rw[bB.out];exact h1
         have ah:Blk w5 gB 132 ct:=bv.out.grown av aG.out.1;have bH:Hid (Blk (w5.setCell ⟨gB,a*3+1,none⟩ (.slice A5 n5 c5)) q 132 #[.slice lA ln lc,.slice (some ⟨bx,ox,none⟩) sn sc,.slice wA wn wc]):=(ay.out.grown av aG.out.2).far (fun e=>aK.out e.symm) _;have aJ:=ah.frozen (a*3+1);have aF:=ah.lt;have bR:w5.cell? ⟨gB,a*3+1,none⟩=some (.slice an ak ao):=(dE (w:=wd) (av.block gB az aG.out.1)).trans hS.1;clear a9 aX av aT ah;refine Kcu (i:=13) (d:=some 75) rfl rfl (by kernel_rfl) (by kernel_rfl) (by kernel_rfl) rfl (fun _ _ _ h=>h) (by rfl) (fun w=>by go_simp;try rfl) (fun h=>jS h (by decide)) ?_;simp only[dI,Ja,Jb,Jc];refine Kcu (i:=14) (d:=some 76) rfl rfl (by kernel_rfl) (by kernel_rfl) (by kernel_rfl) rfl (fun _ _ _ h=>h) (by rfl) (fun w=>by go_simp;try rfl) (fun h=>jS h (by decide)) ?_;simp only[dI,Ja,Jb,Jc];refine Kag (i:=15) (by kernel_rfl) rfl rfl ?_;refine dO (w':=w5.setCell ⟨gB,a*3+1,none⟩ (.slice A5 n5 c5)) rfl (by go_simp;try rfl) ?_;refine⟨fun h=>jS h (by decide),?_⟩;refine Kby (by kernel_rfl) ?_ _;clear hS bR aJ aF af;go_wp2_with fail
         go_roundg (sn - (j+1))
         case measure=>omega
         case rel=>exact⟨j+1,_,by first | rfl | go_num,by omega,bs,bH⟩
        .have ax:¬(j:Int)<(sn:Int):=by omega
         have ag:s.samples.take j=s.samples:=cI (by rw[aN.out.len];exact hge2);rw[ag]at HD;clear ag;have b4:Hid (DSt w0 wr (.slice (some ⟨gB,0,none⟩) n1 c1) hj (gs1.set a ⟨g1.labels,s.samples.foldl (fun a x=>insO dH x a) g1.samples,(s.windows.take 0).foldl (fun a x=>insO dG x a) g1.windows⟩)):=HD.out;clear HD;go_wp2_with fail
         go_loopg [9] wn (fun kx s9 wr=>∃(j:Nat) (hj:List Hd3),s9 = .int .i64 (j:Int)/\j+kx=wn/\Hid (DSt w0 wr (.slice (some ⟨gB,0,none⟩) n1 c1) hj (gs1.set a ⟨g1.labels,s.samples.foldl (fun a x=>insO dH x a) g1.samples,(s.windows.take j).foldl (fun a x=>insO dG x a) g1.windows⟩))/\Hid (Blk wr q 132 #[.slice lA ln lc,.slice sA sn sc,.slice wA wn wc]))
         case atStart=>exact⟨0,_,by first | rfl | go_num,by omega,b4,HB⟩
         case round=>
          clear b4  HB;obtain⟨j,hj,rfl,cr,HD,HB⟩:=hrel;have z1:wr.cell? ⟨q,2,none⟩=some (.slice wA wn wc):=HB.out.cell 2;have zl:=HB.out.lt;rcases cM j wn with hlt2 | hge2
          .have ax:(j:Int)<(wn:Int):=by omega
           obtain⟨y,hy⟩:∃y,s.windows[j]? = some y:=⟨s.windows[j]'(by rw[aM.out.len];omega),cV _⟩;obtain⟨ac,ad⟩:=jG ((s.windows.take j).foldl (fun a x=>insO dG x a) g1.windows);have bB:Hid ((s.windows.take (j+1)).foldl (fun a x=>insO dG x a) g1.windows=insO dG y ac):=by show _=_;rw[ad,cJ,hy,cU];rfl
           have ar:ac.Pairwise fun a b=>dG a<dG b:=by rw[ad];exact Kgf _ _ HF.out.aw
           have cC:ac.length<=137438953472:=by have h1:=Keg dG (s.windows.take j) g1.windows;rw[<-ad,cL,aM.out.len]at h1;have h2:=HF.out.sz;have h3:=bl.out;omega
           rw[<-ad]at HD
           have bX:a<hj.length:=by have h1:=HD.out.o.l;rw[cP]at h1;rw[<-h1];exact(cS.1 HF.out.at_).1
           obtain⟨x,hx⟩:∃x,hj[a]? = some x:=⟨hj[a]'bX,cV _⟩;have aI:(gs1.set a ⟨g1.labels,s.samples.foldl (fun a x=>insO dH x a) g1.samples,ac⟩)[a]? = some ⟨g1.labels,s.samples.foldl (fun a x=>insO dH x a) g1.samples,ac⟩:=c6 (cS.1 HF.out.at_).1;obtain⟨wd,aA⟩:=jG wr.drew;have ae:Hid (DSt w0 wd (.slice (some ⟨gB,0,none⟩) n1 c1) hj (gs1.set a ⟨g1.labels,s.samples.foldl (fun a x=>insO dH x a) g1.samples,ac⟩)):=by show DSt _ _ _ _ _;rw[aA];exact HD.out.below (Below.refl _ _).drew
           have ay:Hid (Blk wd q 132 #[.slice lA ln lc,.slice sA sn sc,.slice wA wn wc]):=by show Blk _ _ _ _;rw[aA];exact HB.out
           have bc:=ae.out.o.r a x _ hx aI;obtain⟨⟨bF,bM,bn⟩,⟨an,ak,ao⟩,⟨am,ai,aj⟩⟩:=x;have ab:wd.ownsRow w0.heap.size 136 6 (.slice am ai aj) ac.length (ac.flatMap Kad):=bc.wd;have aZ:=Kfc ab;rw[<-aZ]at ab;obtain⟨ct,aU⟩:=Kax ae.out.o.row (r:=gB) rfl;have aq:Blk wd gB 132 ct:=aU;have aG:Hid (some gB≠(dx am ai aj).ownBlock/\some q≠(dx am ai aj).ownBlock):=⟨Kak aq ab (by decide),Kak ay.out ab (by decide)⟩;have af:=Kwo ac y ar w0.heap.size am ai aj wd ab aZ.symm ae.out.o.b.size (by omega)
           have c0:wd.cell? ⟨gB,a*3+2,none⟩=some (.slice am ai aj):=by obtain⟨b9,o9,bt,cw,bO⟩:=ae.out.elems.2 (by have:=(ae.out.elems).len;omega);injection bt with e9;injection e9 with e1 e2;subst e1 e2;have:=bO a _ hx 2 _ rfl;rw[Nat.zero_add]at this;exact this
           have aW:=(aM.out.below ae.out.o.b);obtain⟨bx,ox,bK,bh,a8⟩:=aW.2 (by omega);have ap:=a8 j y hy;have hS:wd.cell? ⟨gB,a*3+2,none⟩=some (.slice am ai aj)/\wd.cell? ⟨q,2,none⟩=some (.slice wA wn wc)/\wd.cell? ⟨bx,ox+j*6,none⟩=some (.int .i64 y.start)/\wd.cell? ⟨bx,ox+j*6+1,none⟩=some (.int .i64 y.count)/\wd.cell? ⟨bx,ox+j*6+2,none⟩=some (.int .u64 (y.sum:Int))/\wd.cell? ⟨bx,ox+j*6+3,none⟩=some (.int .u64 (y.min:Int))/\wd.cell? ⟨bx,ox+j*6+4,none⟩=some (.int .u64 (y.max:Int))/\wd.cell? ⟨bx,ox+j*6+5,none⟩=some (.int .u64 (y.last:Int)):=⟨c0,ay.out.cell 2,ap 0 _ rfl,ap 1 _ rfl,ap 2 _ rfl,ap 3 _ rfl,ap 4 _ rfl,ap 5 _ rfl⟩;have bW:bx<wd.heap.size:=cK bh ae.out.o.b.size;have az:=aq.lt;have cx:=aq.frozen (a*3+2);have co:=ay.out.lt;have cB:=ay.out.frozen 2;have bv:=Jh aq;have bN:=Jh hx;have bS:=Jh aI;subst bK;have cs:(a:Int)<(n1:Int):=by have h1:=ae.out.elems.len;omega
           clear aW a8 ap bh c0 bc aU aq hx aI ad hy ar ab bX HD HB;go_upto_region 21 with fail
           refine Kck (fun w'=>w'.cell? ⟨gB,a*3+2,none⟩=some (.slice am ai aj)/\w'.cell? ⟨q,2,none⟩=some (.slice (some ⟨bx,ox,none⟩) wn wc)/\w'.cell? ⟨bx,ox+j*6,none⟩=some (.int .i64 y.start)/\w'.cell? ⟨bx,ox+j*6+1,none⟩=some (.int .i64 y.count)/\w'.cell? ⟨bx,ox+j*6+2,none⟩=some (.int .u64 (y.sum:Int))/\w'.cell? ⟨bx,ox+j*6+3,none⟩=some (.int .u64 (y.min:Int))/\w'.cell? ⟨bx,ox+j*6+4,none⟩=some (.int .u64 (y.max:Int))/\w'.cell? ⟨bx,ox+j*6+5,none⟩=some (.int .u64 (y.last:Int))) 12 16 (by kernel_rfl) rfl ?_;rw[show dv 16 false = #[false,false,false,false,false,false,false,false,false,false,false,false,false,false,false,false] from rfl,<-aA];clear aA z1 zl;refine kP (i:=0) (d:=some 84) hS ?_;simp only[dI,Ja,Jb,Jc];refine kP (i:=1) (d:=some 85) hS ?_;simp only[dI,Ja,Jb,Jc];refine kP (i:=2) (d:=some 86) hS ?_;simp only[dI,Ja,Jb,Jc];refine kP (i:=3) (d:=some 87) hS ?_;simp only[dI,Ja,Jb,Jc];refine kP (i:=4) (d:=some 88) hS ?_;simp only[dI,Ja,Jb,Jc];refine kP (i:=5) (d:=some 89) hS ?_;simp only[dI,Ja,Jb,Jc];refine kP (i:=7) (d:=some 91) hS ?_;simp only[dI,Ja,Jb,Jc];refine kP (i:=9) (d:=some 93) hS ?_;simp only[dI,Ja,Jb,Jc];refine Kbc (i:=6) (d:=some 90) rfl rfl (by kernel_rfl) (by kernel_rfl) (by kernel_rfl) (by kernel_rfl) rfl (fun _ _ _ h=>h) (.inl ⟨by rfl,fun w hw=>by (obtain⟨a0,a1,a2,a3,a4,a5,a6,a7⟩:=hw;go_simp;try rfl)⟩) hS ?_;simp only[dI,Ja,Jb,Jc];refine Kag (i:=8) (by kernel_rfl) rfl rfl ?_;refine dN (d:=some 92) (w':=wd) (v:=.slice (some ⟨bx,ox,none⟩) wn wc) rfl (by (obtain⟨a0,a1,a2,a3,a4,a5,a6,a7⟩:=hS;go_simp;try rfl)) ?_;refine⟨fun _=>hS,?_⟩;simp only[dI,Ja,Jb,Jc];refine kP (i:=10) (d:=some 94) hS ?_;simp only[dI,Ja,Jb,Jc];refine Kag (i:=11) (by kernel_rfl) rfl rfl ?_;refine dN (d:=some 95) (w':=wd) (v:=.agg #[.int .i64 y.start,.int .i64 y.count,.int .u64 (y.sum:Int),.int .u64 (y.min:Int),.int .u64 (y.max:Int),.int .u64 (y.last:Int)]) rfl (by (obtain⟨a0,a1,a2,a3,a4,a5,a6,a7⟩:=hS;go_simp;try rfl)) ?_;refine⟨fun _=>hS,?_⟩;simp only[dI,Ja,Jb,Jc];refine Kag (i:=12) (by kernel_rfl) rfl rfl ?_;refine dP (d:=some 96) (w1:=wd) (g:=103) (args:=#[.slice am ai aj,.agg #[.int .i64 y.start,.int .i64 y.count,.int .u64 (y.sum:Int),.int .u64 (y.min:Int),.int .u64 (y.max:Int),.int .u64 (y.last:Int)]]) rfl (by go_simp;try rfl) (N:=fun u w'=>∃(A':Option Addr) (n' c':Nat),u = .slice A' n' c'/\w'.ownsRow w0.heap.size 136 6 (.slice A' n' c') n' ((insO dG y ac).flatMap Kad)/\(insO dG y ac).length=n'/\wd.grownBy w' (dx am ai aj).ownBlock/\((dx A' n' c').ownBlock=(dx am ai aj).ownBlock\/∃b,(dx A' n' c').ownBlock=some b/\wd.heap.size<=b)) (af.mono fun e w' ⟨A',n',c',e1,e2⟩=>⟨_,e1,A',n',c',rfl,e2⟩) ?_;rintro _ w5 ⟨A5,n5,c5,rfl,a9,aX,av,aT⟩;refine⟨fun h=>jS h (by decide),?_⟩
           simp only[dI,Ja,Jb,Jc]
           have bs:Hid (DSt w0 (w5.setCell ⟨gB,a*3+2,none⟩ (.slice A5 n5 c5)) (.slice (some ⟨gB,0,none⟩) n1 c1) (hj.set a ⟨⟨bF,bM,bn⟩,⟨an,ak,ao⟩,⟨A5,n5,c5⟩⟩) (gs1.set a ⟨g1.labels,s.samples.foldl (fun a x=>insO dH x a) g1.samples,(s.windows.take (j+1)).foldl (fun a x=>insO dG x a) g1.windows⟩)):=by
            have h1:=ae.out.setW bN.out bS.out av a9 aX aT;rw[dq]at h1;show DSt _ _ _ _ _
            rw[bB.out];exact h1
           have ah:Blk w5 gB 132 ct:=bv.out.grown av aG.out.1;have bH:Hid (Blk (w5.setCell ⟨gB,a*3+2,none⟩ (.slice A5 n5 c5)) q 132 #[.slice lA ln lc,.slice sA sn sc,.slice (some ⟨bx,ox,none⟩) wn wc]):=(ay.out.grown av aG.out.2).far (fun e=>aK.out e.symm) _;have aJ:=ah.frozen (a*3+2);have aF:=ah.lt;have bR:w5.cell? ⟨gB,a*3+2,none⟩=some (.slice am ai aj):=(dE (w:=wd) (av.block gB az aG.out.1)).trans hS.1;clear a9 aX av aT ah;refine Kcu (i:=13) (d:=some 97) rfl rfl (by kernel_rfl) (by kernel_rfl) (by kernel_rfl) rfl (fun _ _ _ h=>h) (by rfl) (fun w=>by go_simp;try rfl) (fun h=>jS h (by decide)) ?_;simp only[dI,Ja,Jb,Jc];refine Kcu (i:=14) (d:=some 98) rfl rfl (by kernel_rfl) (by kernel_rfl) (by kernel_rfl) rfl (fun _ _ _ h=>h) (by rfl) (fun w=>by go_simp;try rfl) (fun h=>jS h (by decide)) ?_;simp only[dI,Ja,Jb,Jc];refine Kag (i:=15) (by kernel_rfl) rfl rfl ?_;refine dO (w':=w5.setCell ⟨gB,a*3+2,none⟩ (.slice A5 n5 c5)) rfl (by go_simp;try rfl) ?_;refine⟨fun h=>jS h (by decide),?_⟩;refine Kby (by kernel_rfl) ?_ _;clear hS bR aJ aF af;go_wp2_with fail
           go_roundg (wn - (j+1))
           case measure=>omega
           case rel=>exact⟨j+1,_,by first | rfl | go_num,by omega,bs,bH⟩
          .have ax:¬(j:Int)<(wn:Int):=by omega
           have ag:s.windows.take j=s.windows:=cI (by rw[aM.out.len];exact hge2);rw[ag]at HD;clear ag
           have ba:Hid (DSt w0 wr (.slice (some ⟨gB,0,none⟩) n1 c1) hj (Kae ((Ls.take i).flatten++L.take (k+1)))):=by
            have h1:=HD.out;rw[HF.out.put]at h1;show DSt _ _ _ _ _
            rw[be.out,Kkf,jN bb.out];exact h1
           clear HD HB HF;go_wp2_with fail
           go_roundg (m - (k+1))
           case measure=>omega
           case rel=>exact⟨k+1,hj,by first | rfl | go_num,by omega,ba⟩
     .have cn:((sn:Int)+(wn:Int) == 0)=true:=by rw[beq_iff_eq];omega
      have ba:Hid (DSt w0 wb (.slice A3 n3 c3) hk (Kae ((Ls.take i).flatten++L.take (k+1)))):=by
       show DSt _ _ _ _ _
       rw[be.out,Kkf,jM (by rw[ca.out,jJ hz];exact Bool.noConfusion)];exact bg.out
      clear bg;go_wp2_with fail
      go_roundg (m - (k+1))
      case measure=>omega
      case rel=>exact⟨k+1,hk,by first | rfl | go_num,by omega,ba⟩
    .have ax:¬(k:Int)<(m:Int):=by omega
     have bp:=HO.out;rw[show(Ls.take i).flatten++L.take k=(Ls.take (i+1)).flatten by rw[bG.out,cI (show L.length<=k by rw[bP.out];exact hge2)]]at bp;have ba:=Jh bp;clear bp;clear HO;go_wp2_with fail
     go_roundg (n - (i+1))
     case measure=>omega
     case rel=>exact⟨i+1,hk,by first | rfl | go_num,by omega,ba⟩
  .have cE:¬(i:Int)<(n:Int):=by omega
   have bQ:=HO.out.o.row;obtain⟨m,hm⟩:=jG hs.length;rw[<-hm]at bQ;obtain⟨A7,c7,cD⟩:=Kah bQ;subst cD
   have HF:Hid (Sers wr A7 m (Kae Ls.flatten)/\m<=c7):=by have h1:=HO.out.o;rw[cI (by rw[aB.out.l];exact hge)]at h1;exact h1.sers hm.symm
   have cq:Hid (Below w0.heap.size w0 wr):=HO.out.o.b;clear HO bQ hm;go_wp2_with fail
   go_ret
   exact⟨A7,m,c7,rfl,HF.out.1,HF.out.2,cq.out⟩
end
end
section
open Go.Shelf Go.RowKit Go.Lib Go.Sort
open Lib renaming hid -> Jh
attribute [local go_sem ↓] Go.wp_at_zero Go.wp_at_succ
attribute [local go_sem] Later.cell
section
theorem Kyf:(prog.info? 32).map (fun i=>(i.zero,i.size,i.bytes))=some (some (.slice none 0 0),1,24):=by kernel_rfl
theorem Kqz (gB:Option Addr) (gN gC:Nat) (ghs:List (Hd4×GoneP)) (A:Option Addr) (n c:Nat) (xs:List CH) (cs:List Cont) (w:World) (h:Kbv w A n xs cs) (hG:Gones w gB gN ghs)
  (hN:(cs.map dR).flatten.length<=1073741824) (hsum:sumS (cs.map dR).flatten<=1073741824) :
  Calls prog 14 #[.slice gB gN gC,.slice A n c] w fun e w'=>
   ((n=0\/okAll cs=false)/\e = .returned (.tuple #[.agg #[.int .i64 0,.int .i64 0,.int .i64 0,.slice none 0 0],.int .i64 190])\/
    (n≠0/\okAll cs=true)/\∃(A':Option Addr) (n' c':Nat),e = .returned (.tuple #[.agg #[.int .i64 (outC cs).1,.int .i64 (outC cs).2.1,.int .i64 (outC cs).2.2,.slice A' n' c'],.int .i64 0])/\Sers w' A' n' (Kbn (outC cs).1 ghs (Kae (cs.map dR).flatten))/\n'<=c')/\Below w.heap.size w w':=by
 obtain⟨q,hq⟩:=jG w.heap.size;have HH:=Jh h;have HG:=Jh hG;have HN:=Jh hN;have aK:=Jh hsum;have hn:=h.n;have aD:=Jh hq;clear h hG hN hsum;go_enter func14,ntmps14
 go_upto_region 1 with fail
 obtain⟨wz,aN⟩:=jG (w.alloc (.cells #[.int .i64 0,.int .i64 0,.int .i64 0,.slice none 0 0] 34));have aZ:Hid (Blk wz q 34 #[.int .i64 0,.int .i64 0,.int .i64 0,.slice none 0 0]):=by show Blk _ _ _ _;rw[aN,hq];exact dQ _ _ _
 have aL:Hid (Below q w wz):=by show Below _ _ _;rw[aN,hq];exact(Below.refl _ _).alloc (cH _) _
 have bd:Hid (wz.heap.size=q+1):=by show _=_;rw[aN,hq];simp
 try rw[<-aN]
 try rw[<-hq]
 clear aN hq;rcases da n with h0 | h0
 .subst h0;have aW:Hid (0=0\/okAll cs=false):=(Or.inl rfl:0=0\/okAll cs=false);have ab:=Jh aZ.out;have ak:=Jh aL.out;clear aZ aL;have g0:=ab.out.cell 0;have g1:=ab.out.cell 1;have g2:=ab.out.cell 2;have g3:=ab.out.cell 3;simp at g0 g1 g2 g3;have f0:=ab.out.frozen 0;have f1:=ab.out.frozen 1;have f2:=ab.out.frozen 2;have f3:=ab.out.frozen 3;have gl:=ab.out.lt;go_wp2_with fail
  (try simp only[dT,Exit.then])
  refine bodyPost_ret (Kbx rfl _ _ ⟨q,0,none⟩ (.agg #[.int .i64 0,.int .i64 0,.int .i64 0,.slice none 0 0]) rfl (run_loadVar_row _ q 34 34 _ (0,0) _ ((((ab.out.set_ 0 _).set_ 1 _).set_ 2 _).set_ 3 _) underlying34 rfl (by kernel_rfl))) rfl ?_;exact⟨rfl,by rw[<-aD.out];exact Kgb ak.out _ _ _ _⟩
 .have bq:¬(n:Int)=0:=by omega
  have bc:((n:Int) == 0)=false:=by rw[jO];exact bq
  have aG:Below w.heap.size w wz:=by rw[<-aD.out];exact aL.out
  have hC:=HH.out.below aG;obtain⟨b0,aa,b4,a3,br⟩:=HH.out.e.2 h0;obtain⟨x0,aM⟩:∃x,xs[0]? = some x:=⟨xs[0]'(by rw[HH.out.e.len];exact h0),cV _⟩;obtain⟨c0,ay⟩:∃c0,cs[0]? = some c0:=⟨cs[0]'(by rw[HH.out.l];exact h0),cV _⟩;have aF:=HH.out.k 0 x0 aM;have aQ:cs[0]! = c0:=by rw[jI cs 0 (by rw[HH.out.l];exact h0)];exact(cS.1 ay).2
  rw[aQ]at aF;have a6:Hid (outC cs=(c0.res,cs.foldl (fun a x=>min a x.frm) c0.frm,cs.foldl (fun a x=>max a x.to_) c0.to_)):=Qeo ay;have a4:Hid (∀W,Below w.heap.size w W->∀(i:Nat) (x:CH),xs[i]? = some x->∀r v,r<4->(encCH x)[r]? = some v->W.cell? ⟨b0,aa+i*4+r,none⟩=some v):=fun W hW i x hx r v _ hv=>(hW.cell (p:=⟨b0,aa+i*4+r,none⟩) a3).trans (br i x hx r v hv)
  have a7:Hid (b0<w.heap.size):=a3;obtain⟨r0,bL⟩:=jG c0.res;obtain⟨f0,bI⟩:=jG c0.frm;obtain⟨t0,bS⟩:=jG c0.to_;rw[<-bL,<-bI,<-bS]at a6 aF;have y0:wz.cell? ⟨b0,aa,none⟩=some (.int .i64 r0):=by have:=a4.out wz aG 0 x0 aM 0 _ (by decide) rfl;rw[aF.1];simpa using this
  have y1:wz.cell? ⟨b0,aa+1,none⟩=some (.int .i64 f0):=by have:=a4.out wz aG 0 x0 aM 1 _ (by decide) rfl;rw[aF.2.1];simpa using this
  have y2:wz.cell? ⟨b0,aa+2,none⟩=some (.int .i64 t0):=by have:=a4.out wz aG 0 x0 aM 2 _ (by decide) rfl;rw[aF.2.2.1];simpa using this
  have yl:b0<wz.heap.size:=cK a3 aG.size;have bV:0<(n:Int):=by omega
  subst b4;clear hC br aM ay aF aQ bL bI bS aG a3;go_upto_region 3 with fail
  have bM:wz.heap.size=q+1:=bd.out;have a5:Below wz.heap.size wz (wz.alloc (.cells #[.int .i64 0,.int .i64 0,.int .i64 0,.slice none 0 0] 34)):=(Below.refl _ _).alloc (cH _) _;have hB:Blk (wz.alloc (.cells #[.int .i64 0,.int .i64 0,.int .i64 0,.slice none 0 0] 34)) (q+1) 34 #[.int .i64 0,.int .i64 0,.int .i64 0,.slice none 0 0]:=by rw[<-bM];exact dQ _ _ _
  have a0:=(a5.cell (p:=⟨b0,aa,none⟩) yl).trans y0;have a1:=(a5.cell (p:=⟨b0,aa+1,none⟩) yl).trans y1;have a2:=(a5.cell (p:=⟨b0,aa+2,none⟩) yl).trans y2;have n0:=hB.cell 0;have n1:=hB.cell 1;have n2:=hB.cell 2;have n3:=hB.cell 3;simp at n0 n1 n2 n3;have m0:=hB.frozen 0;have m1:=hB.frozen 1;have m2:=hB.frozen 2;have m3:=hB.frozen 3;have ml:=hB.lt;clear a5 hB;go_region
  clear n0 n1 n2 n3 m0 m1 m2 m3 ml a0 a1 a2 bV bq bc;obtain⟨w1,bf⟩:=jG ((wz.alloc (.cells #[.int .i64 r0,.int .i64 f0,.int .i64 t0,.slice none 0 0] 34)).drew)
  have ae:Hid (RC 34 32 q w w1 (.slice none 0 0) ((xs.take 0).map CH.h) r0 ((cs.take 0).foldl (fun a x=>min a x.frm) f0) ((cs.take 0).foldl (fun a x=>max a x.to_) t0)):=by
   show RC _ _ _ _ _ _ _ _ _ _
   rw[bf];have aI:wz.heap.size=q+1:=bd.out;refine⟨(aL.out.alloc (by omega) _).drew,(aZ.out.alloc _:Blk _ _ _ _),?_,dC _ _ _ _,by simp[aI]⟩;have h1:Blk (wz.alloc (.cells #[.int .i64 r0,.int .i64 f0,.int .i64 t0,.slice none 0 0] 34)) wz.heap.size 34 #[.int .i64 r0,.int .i64 f0,.int .i64 t0,.slice none 0 0]:=dQ _ _ _;rw[aI]at h1;exact h1
  try rw[<-bf]
  clear bf aZ aL bd y0 y1 y2 yl bM;have ar:Hid (okFor r0 (cs.take 0)=true):=(rfl:okFor r0 (cs.take 0)=true);go_wp2_with fail
  go_loopg [7,8] n (fun kx s7 s8 wr=>∃i:Nat,s8 = .int .i64 (i:Int)/\i+kx=n/\Hid (RC 34 32 q w wr s7 ((xs.take i).map CH.h) r0 ((cs.take i).foldl (fun a x=>min a x.frm) f0) ((cs.take i).foldl (fun a x=>max a x.to_) t0))/\Hid (okFor r0 (cs.take i)=true))
  case atStart=>exact⟨0,rfl,by omega,ae,ar⟩
  case round=>
   clear ae ar;obtain⟨i,rfl,hi,ae,ar⟩:=hrel;obtain⟨hl,aX⟩:=jG ((xs.take i).map CH.h);have ba:hl.length=i:=by rw[aX,List.length_map,cL,HH.out.e.len];omega
   obtain⟨fo,be⟩:∃x,x=(cs.take i).foldl (fun a x=>min a x.frm) f0:=⟨_,rfl⟩;obtain⟨to_,a8⟩:∃x,x=(cs.take i).foldl (fun a x=>max a x.to_) t0:=⟨_,rfl⟩;have bB:=Jh aX;have a9:=Jh ba;have aC:Hid (fo=(cs.take i).foldl (fun a x=>min a x.frm) f0/\to_=(cs.take i).foldl (fun a x=>max a x.to_) t0):=⟨be,a8⟩;rw[<-aX,<-be,<-a8]at ae;have bo:=ae.out.r;rw[ba]at bo;obtain⟨A7,c7,bZ⟩:=Kah bo;subst bZ;clear bo aX ba be a8;have ai:Hid (∀{W v hs r f t},RC 34 32 q w W v hs r f t->Below w.heap.size w W):=fun {W v hs r f t} h=>by rw[<-aD.out];exact h.b
   rcases cM i n with hlt | hge
   .have b1:(i:Int)<(n:Int):=by omega
    obtain⟨x,hx⟩:∃x,xs[i]? = some x:=⟨xs[i]'(by rw[HH.out.e.len];exact hlt),cV _⟩;have hC:=HH.out.below (ai.out ae.out);obtain⟨k1,k2,k3,k4,k5⟩:=hC.k i x hx;obtain⟨cc,aY⟩:=jG (cs[i]!);rw[<-aY]at k1 k2 k3 k4;have aH:cc∈cs:=by rw[aY,jI cs i (by rw[hC.l];exact hlt)];exact dt _
    have bh:Hid (cs.take (i+1)=cs.take i ++ [cc]):=by show _=_;rw[cJ,cV (by rw[hC.l];exact hlt),aY,jI cs i (by rw[hC.l];exact hlt)];rfl
    have bp:Hid ((xs.take (i+1)).map CH.h=hl ++ [x.h]):=by show _=_;rw[bB.out,cJ,hx,List.map_append];rfl
    have aR:Hid (cc.res=x.r/\cc.frm=x.f/\cc.to_=x.t):=⟨k1,k2,k3⟩;have an:Hid (∀W,Below w.heap.size w W->∀r v,r<4->(encCH x)[r]? = some v->W.cell? ⟨b0,aa+i*4+r,none⟩=some v):=fun W hW=>a4.out W hW i x hx
    have bg:=Jh aH;have ax:Hid (∀{W v hs r f t},RC 34 32 q w W v hs r f t->b0<W.heap.size):=fun {W v hs r f t} h=>cK a7.out (ai.out h).size
    have bk:Hid (Calls prog 27 #[.agg #[.int .i64 x.r,.int .i64 x.f,.int .i64 x.t,.slice x.h.A x.h.n x.h.c]] wr fun e w'=>e = .returned (.bool (fitB cc))/\Below wr.heap.size wr w'):=by have h1:=Qbz cc x.h wr k4;rw[k1,k2,k3]at h1;exact h1
    obtain⟨xr,xf,xt,⟨hA,aA,aE⟩⟩:=x;dsimp only at bk aR bp;have y0:wr.cell? ⟨b0,aa+i*4,none⟩=some (.int .i64 xr):=an.out wr (ai.out ae.out) 0 _ (by decide) rfl;have y1:wr.cell? ⟨b0,aa+i*4+1,none⟩=some (.int .i64 xf):=an.out wr (ai.out ae.out) 1 _ (by decide) rfl;have y2:wr.cell? ⟨b0,aa+i*4+2,none⟩=some (.int .i64 xt):=an.out wr (ai.out ae.out) 2 _ (by decide) rfl;have y3:wr.cell? ⟨b0,aa+i*4+3,none⟩=some (.slice hA aA aE):=an.out wr (ai.out ae.out) 3 _ (by decide) rfl;have yl:=ax.out ae.out;clear hC hx k1 k2 k3 k4 k5 aY aH;go_wp2_with fail
    refine bk.out.mono ?_;rintro _ w4 ⟨rfl,bG⟩;have af:=Jh (ae.out.below bG);clear bG ae bk y0 y1 y2 y3 yl;obtain⟨wf,bm⟩:=jG (fitB cc);rw[<-bm];have bP:Hid (wf=fitB cc):=bm;clear bm;have bT:Hid ((outC cs).1=r0):=by show _=_;rw[a6.out]
    have aw:Hid (wf=false\/xr≠r0->okAll cs=false):=fun hh=>by
     show okAll cs=false
     refine List.all_eq_false.2 ⟨cc,bg.out,?_⟩;rcases hh with hh | hh
     .rw[<-bP.out,hh];simp
     .rw[aR.out.1,bT.out,jJ hh];simp
    go_upto_region 9 with fail
    cases wf with
    | false=>
     refine Kaa (by kernel_rfl) (by kernel_rfl) ?_
     repeat (go_big_quiet_step (fail))
     refine dU ?_;rintro wz ⟨⟨_,aP⟩,rfl⟩;have ah:=Jh (af.out.below aP);have aW:Hid (n=0\/okAll cs=false):=.inr (aw.out (.inl rfl));clear aP;have ab:Hid (Blk wz q 34 #[.int .i64 0,.int .i64 0,.int .i64 0,.slice none 0 0]):=ah.out.qb;have ak:Hid (Below q w wz):=ah.out.b;clear ah;have g0:=ab.out.cell 0;have g1:=ab.out.cell 1;have g2:=ab.out.cell 2;have g3:=ab.out.cell 3;simp at g0 g1 g2 g3;have f0:=ab.out.frozen 0;have f1:=ab.out.frozen 1;have f2:=ab.out.frozen 2;have f3:=ab.out.frozen 3;have gl:=ab.out.lt;go_wp2_with fail
     (try simp only[dT,Exit.then])
     refine bodyPost_ret (Kbx rfl _ _ ⟨q,0,none⟩ (.agg #[.int .i64 0,.int .i64 0,.int .i64 0,.slice none 0 0]) rfl (run_loadVar_row _ q 34 34 _ (0,0) _ ((((ab.out.set_ 0 _).set_ 1 _).set_ 2 _).set_ 3 _) underlying34 rfl (by kernel_rfl))) rfl ?_;exact⟨.inl ⟨aW.out,rfl⟩,by rw[<-aD.out];exact Kgb ak.out _ _ _ _⟩
    | true=>
     have y0:w4.cell? ⟨b0,aa+i*4,none⟩=some (.int .i64 xr):=an.out w4 (ai.out af.out) 0 _ (by decide) rfl;have yl:=ax.out af.out;have o0:=af.out.o.cell 0;simp at o0;have ol:=af.out.o.lt;rcases Int.decEq xr r0 with hxr | hxr
     .have d1:(xr != r0)=true:=bne_iff_ne.2 hxr;have d2:(xr == r0)=false:=jO.2 hxr;have d3:decide (xr=r0)=false:=jJ hxr;refine Kaa (by kernel_rfl) (by kernel_rfl) ?_
      repeat (go_big_quiet_step (fail))
      refine dU ?_;rintro wz ⟨⟨_,aP⟩,rfl⟩;have ah:=Jh (af.out.below aP);have aW:Hid (n=0\/okAll cs=false):=.inr (aw.out (.inr hxr));clear aP;have ab:Hid (Blk wz q 34 #[.int .i64 0,.int .i64 0,.int .i64 0,.slice none 0 0]):=ah.out.qb;have ak:Hid (Below q w wz):=ah.out.b;clear ah;have g0:=ab.out.cell 0;have g1:=ab.out.cell 1;have g2:=ab.out.cell 2;have g3:=ab.out.cell 3;simp at g0 g1 g2 g3;have f0:=ab.out.frozen 0;have f1:=ab.out.frozen 1;have f2:=ab.out.frozen 2;have f3:=ab.out.frozen 3;have gl:=ab.out.lt;go_wp2_with fail
      (try simp only[dT,Exit.then])
      refine bodyPost_ret (Kbx rfl _ _ ⟨q,0,none⟩ (.agg #[.int .i64 0,.int .i64 0,.int .i64 0,.slice none 0 0]) rfl (run_loadVar_row _ q 34 34 _ (0,0) _ ((((ab.out.set_ 0 _).set_ 1 _).set_ 2 _).set_ 3 _) underlying34 rfl (by kernel_rfl))) rfl ?_;exact⟨.inl ⟨aW.out,rfl⟩,by rw[<-aD.out];exact Kgb ak.out _ _ _ _⟩
     .have bn:Hid (okFor r0 (cs.take (i+1))=true):=by
       show _=true
       have h1:=ar.out;unfold okFor at h1 |-;rw[bh.out,List.all_append,h1,List.all_cons,List.all_nil,<-bP.out,aR.out.1,hxr];simp
      have aJ:Hid ((cs.take (i+1)).foldl (fun a x=>min a x.frm) f0=min fo xf/\(cs.take (i+1)).foldl (fun a x=>max a x.to_) t0=max to_ xt):=by
       show _/\_
       rw[bh.out,cU,cU,<-aC.out.1,<-aC.out.2];show min fo cc.frm=_/\max to_ cc.to_=_
       rw[aR.out.2.1,aR.out.2.2];exact⟨rfl,rfl⟩
      subst hxr;have d1:(xr != xr)=false:=by simp
      refine Kaa (by kernel_rfl) (by kernel_rfl) ?_
      repeat (go_big_quiet_step (fail))
      refine dU ?_;rintro w5 ⟨⟨_,bD⟩,rfl⟩;have aj:=Jh (af.out.below bD);clear bD af y0 yl o0 ol d1 aw ar;go_upto_region 11 with fail
      have y1:w5.cell? ⟨b0,aa+i*4+1,none⟩=some (.int .i64 xf):=an.out w5 (ai.out aj.out) 1 _ (by decide) rfl;have yl:=ax.out aj.out;have o1:=aj.out.o.cell 1;simp at o1;have ol:=aj.out.o.lt;refine Kaa (by kernel_rfl) (by kernel_rfl) ?_
      repeat (go_big_quiet_step (fail))
      refine dU ?_;rintro w6 ⟨⟨_,ap⟩,rfl⟩;have ac:=Jh (aj.out.below ap);clear ap aj y1 yl o1 ol;go_upto_if 59 with fail
      go_cut [] from 28 to 65 (fun wv=>Hid (RC 34 32 q w wv (.slice A7 i c7) hl xr (min fo xf) to_))
      case first=>
       by_cases h:xf<fo
       .have y1:w6.cell? ⟨b0,aa+i*4+1,none⟩=some (.int .i64 xf):=an.out w6 (ai.out ac.out) 1 _ (by decide) rfl;have yl:=ax.out ac.out;have o1:=ac.out.o.cell 1;simp at o1;have of:=ac.out.o.frozen 1;have ol:=ac.out.o.lt
        have HN:Hid (RC 34 32 q w (w6.setCell ⟨q+1,1,none⟩ (.int .i64 xf)) (.slice A7 i c7) hl xr (min fo xf) to_):=by
         show RC _ _ _ _ _ _ _ _ _ _
         rw[show min fo xf=xf by omega];exact ac.out.setF (by decide) xf
        clear ac;go_wp2_with fail
        go_meet
        exact HN
       .have HN:Hid (RC 34 32 q w w6 (.slice A7 i c7) hl xr (min fo xf) to_):=by
         show RC _ _ _ _ _ _ _ _ _ _
         rw[show min fo xf=fo by omega];exact ac.out
        clear ac;go_wp2_with fail
        go_meet
        exact HN
      case rest=>
       obtain⟨w7,rfl⟩:=jG wc;have ag:Hid (RC 34 32 q w w7 (.slice A7 i c7) hl xr (min fo xf) to_):=hcut.out;clear ac hcut;obtain⟨fn,bO⟩:=jG (min fo xf);rw[<-bO]at ag aJ;clear bO;go_upto_region 13 with fail
       have y2:w7.cell? ⟨b0,aa+i*4+2,none⟩=some (.int .i64 xt):=an.out w7 (ai.out ag.out) 2 _ (by decide) rfl;have yl:=ax.out ag.out;have o2:=ag.out.o.cell 2;simp at o2;have ol:=ag.out.o.lt;refine Kaa (by kernel_rfl) (by kernel_rfl) ?_
       repeat (go_big_quiet_step (fail))
       refine dU ?_;rintro w8 ⟨⟨_,bK⟩,rfl⟩;have ad:=Jh (ag.out.below bK);clear bK ag y2 yl o2 ol;go_upto_if 73 with fail
       go_cut [] from 28 to 79 (fun wv=>Hid (RC 34 32 q w wv (.slice A7 i c7) hl xr fn (max to_ xt)))
       case first=>
        by_cases h:to_<xt
        .have y2:w8.cell? ⟨b0,aa+i*4+2,none⟩=some (.int .i64 xt):=an.out w8 (ai.out ad.out) 2 _ (by decide) rfl;have yl:=ax.out ad.out;have o2:=ad.out.o.cell 2;simp at o2;have of:=ad.out.o.frozen 2;have ol:=ad.out.o.lt
         have HN:Hid (RC 34 32 q w (w8.setCell ⟨q+1,2,none⟩ (.int .i64 xt)) (.slice A7 i c7) hl xr fn (max to_ xt)):=by
          show RC _ _ _ _ _ _ _ _ _ _
          rw[show max to_ xt=xt by omega];exact ad.out.setT (by decide) xt
         clear ad;go_wp2_with fail
         go_meet
         exact HN
        .have HN:Hid (RC 34 32 q w w8 (.slice A7 i c7) hl xr fn (max to_ xt)):=by
          show RC _ _ _ _ _ _ _ _ _ _
          rw[show max to_ xt=to_ by omega];exact ad.out
         clear ad;go_wp2_with fail
         go_meet
         exact HN
       case rest=>
        obtain⟨wv,rfl⟩:=jG wc;have az:Hid (RC 34 32 q w wv (.slice A7 i c7) hl xr fn (max to_ xt)):=hcut.out;clear ad hcut;obtain⟨tn,bw⟩:=jG (max to_ xt);rw[<-bw]at az aJ;clear bw;have y3:wv.cell? ⟨b0,aa+i*4+3,none⟩=some (.slice hA aA aE):=an.out wv (ai.out az.out) 3 _ (by decide) rfl;have yl:=ax.out az.out;obtain⟨i1,bz,bN,aI,bC⟩:=info_parts Kyf;obtain⟨w6,aO⟩:=jG (wv.alloc (.cells #[.slice hA aA aE] 32));have ap:Below wv.heap.size wv w6:=by rw[aO];exact(Below.refl _ _).alloc (cH _) _
        have av:Blk w6 wv.heap.size 32 #[.slice hA aA aE]:=by rw[aO];exact dQ _ _ _
        have am:Hid (RC 34 32 q w w6 (.slice A7 i c7) hl xr fn tn):=az.out.below ap;have aq:w6.ownsRow (q+2) 32 1 (.slice A7 i c7) i (hl.flatMap Kes):=by have:=am.out.r;rw[a9.out]at this;exact this
        have bW:q+2<=w6.heap.size:=am.out.z;have b3:q+2<=wv.heap.size:=az.out.z;clear ap;go_wp2_with (at_builtin;(try rw[<-aO]);refine dV _ rfl _ _ 82 rfl (q+2) 32 i1 (.slice none 0 0) 1 24 underlying82 bz bN aI bC rfl (by decide) (.slice A7 i c7) i _ rfl aq ⟨wv.heap.size,0,none⟩ 1 1 [.slice hA aA aE] rfl rfl (Kam (l:=[.slice hA aA aE]) av) ?p2 ?p3 ?p4 ?p5 ?_)
        case p2=>first | rfl | (intro u hu;simp only[dh,dd,or_false]at hu;subst hu;rfl)
        case p3=>unfold maxLen;omega
        case p4=>omega
        case p5=>omega
        intro v9 w9 hown' hgrow _ _;rw[<-aO]at hgrow
        have bY:Hid (RC 34 32 q w w9 v9 ((xs.take (i+1)).map CH.h) xr ((cs.take (i+1)).foldl (fun a x=>min a x.frm) f0) ((cs.take (i+1)).foldl (fun a x=>max a x.to_) t0)):=by
         show RC _ _ _ _ _ _ _ _ _ _
         rw[aJ.out.1,aJ.out.2,bp.out];exact am.out.more (by decide) hgrow (by rw[a9.out];exact hown')
        clear hown' hgrow aq av aO bW b3 am az y3 yl bz bN aI bC aJ aC bh bp;go_wp2_with fail
        go_roundg (n - (i+1))
        case measure=>omega
        case rel=>exact⟨i+1,by first | rfl | go_num,by omega,bY,bn⟩
   .have b1:¬(i:Int)<(n:Int):=by omega
    have bb:i=n:=by omega
    have hC:=HH.out.below (ai.out ae.out);have bt:cs.take i=cs:=cI (by rw[hC.l];omega)
    have bR:Hid (Lists wr A7 i (xs.map CH.h) (cs.map dR)):=by have h:=hC;rw[<-bb]at h;refine h.lists (base:=q+2) (c7:=c7) (t:=32) ?_;have h2:=ae.out.r;rw[a9.out,bB.out,cI (by rw[hC.e.len];omega)]at h2;exact h2
    rw[bt]at ar aC;have aV:Hid ((outC cs).1=r0/\(outC cs).2.1=fo/\(outC cs).2.2=to_):=by show _/\_/\_;rw[a6.out,aC.out.1,aC.out.2];exact⟨rfl,rfl,rfl⟩
    have bl:Hid (okAll cs=true):=by show _=true;have h:=ar.out;unfold okFor at h;unfold okAll;rw[aV.out.1];exact h
    have aT:=hC.z
    have aU:∀s∈(cs.map dR).flatten,s.labels.length<=1099511627776:=fun s hs=>by obtain⟨M,hM,bX⟩:=dk.1 hs;obtain⟨c,hc,rfl⟩:=List.mem_map.1 hM;exact((aT c hc).z s bX).l
    have b2:=Jh aU;obtain⟨SS,bE⟩:=jG (Kbn r0 ghs (Kae (cs.map dR).flatten));have bF:=Jh bE;have HIN:=Jh bb;have bv:=Jh (Krb A7 i c7 _ _ wr bR.out (by omega) (by have:=HN.out;omega) (by have:=aK.out;omega));clear hC bt ar aT aU bE bb bR;go_wp2_with fail
    refine bv.out.mono ?_;rintro _ w6 ⟨A5,n5,c5,rfl,s1,_,ap⟩;have am:=Jh (ae.out.below ap);have bQ:Hid (SersZ w6 A5 n5 (Kae (cs.map dR).flatten)):=Koy s1 b2.out (by have:=HN.out;omega) (by have:=aK.out;omega);have bs:=Jh (Ktu r0 ghs gB gN gC A5 n5 c5 _ w6 (HG.out.below (ai.out am.out)) bQ.out);have o0:=am.out.o.cell 0;simp at o0;have ol:=am.out.o.lt;clear s1 ap ae bv bQ;go_wp2_with fail
    refine bs.out.mono ?_;rintro _ w7 ⟨A2,n2,c2,rfl,bj,bJ,bA⟩;rw[<-bF.out]at bj;have ao:=Jh (am.out.below bA);have bi:Hid (Sers w7 A2 n2 SS/\n2<=c2):=⟨bj,bJ⟩;clear bj bJ bA am bs o0 ol;have u3:w7.cell? ⟨q+1,3,none⟩=some (.slice none 0 0):=ao.out.o.cell 3;have v3:=ao.out.o.frozen 3;have vl:=ao.out.o.lt;obtain⟨w8,aB⟩:=jG (w7.setCell ⟨q+1,3,none⟩ (.slice A2 n2 c2));have aS:Hid (Blk w8 (q+1) 34 #[.int .i64 r0,.int .i64 fo,.int .i64 to_,.slice A2 n2 c2]):=by show Blk _ _ _ _;rw[aB];exact ao.out.o.set_ 3 _
    have al:Hid (Blk w8 q 34 #[.int .i64 0,.int .i64 0,.int .i64 0,.slice none 0 0]):=by show Blk _ _ _ _;rw[aB];exact ao.out.qb.far (p:=⟨q+1,3,none⟩) (by show q≠q+1;omega) _
    have bU:Hid (Below q w w8):=by show Below _ _ _;rw[aB];exact ao.out.b.setCell (p:=⟨q+1,3,none⟩) (Nat.le_succ q) _
    have bH:Hid (Sers w8 A2 n2 SS/\n2<=c2):=by show _/\_;rw[aB];exact⟨bi.out.1.setBox ao.out.o 3 _,bi.out.2⟩
    have bx:=Jh aB;clear aB ao bi;go_upto_region 18 with fail
    try rw[<-bx.out]
    clear bx u3 v3 vl;have o0:=aS.out.cell 0;have o1:=aS.out.cell 1;have o2:=aS.out.cell 2;have o3:=aS.out.cell 3;simp at o0 o1 o2 o3;have ol:=aS.out.lt;have g0:=al.out.cell 0;have g1:=al.out.cell 1;have g2:=al.out.cell 2;have g3:=al.out.cell 3;simp at g0 g1 g2 g3;have l0:=al.out.frozen 0;have l1:=al.out.frozen 1;have l2:=al.out.frozen 2;have l3:=al.out.frozen 3;have gl:=al.out.lt;go_wp2_with fail
    (try simp only[dT,Exit.then])
    have q1:=al.out.set_ 0 (.int .i64 r0);have q2:=q1.set_ 1 (.int .i64 fo);have q3:=q2.set_ 2 (.int .i64 to_);have q4:=q3.set_ 3 (.slice A2 n2 c2);refine bodyPost_ret (Kbx rfl _ _ ⟨q,0,none⟩ (.agg #[.int .i64 r0,.int .i64 fo,.int .i64 to_,.slice A2 n2 c2]) rfl (run_loadVar_row _ q 34 34 _ (0,0) _ q4 underlying34 rfl (by kernel_rfl))) rfl ?_;have s1:=bH.out.1.setBox al.out 0 (.int .i64 r0);have s2:=s1.setBox (a:=r0) (b:=0) (c:=0) (Z:=none) (k:=0) (d:=0) q1 1 (.int .i64 fo);have s3:=s2.setBox (a:=r0) (b:=fo) (c:=0) (Z:=none) (k:=0) (d:=0) q2 2 (.int .i64 to_);have s4:=s3.setBox (a:=r0) (b:=fo) (c:=to_) (Z:=none) (k:=0) (d:=0) q3 3 (.slice A2 n2 c2);refine⟨.inr ⟨⟨by omega,bl.out⟩,A2,n2,c2,?_,?_,bH.out.2⟩,?_⟩
    .rw[aV.out.1,aV.out.2.1,aV.out.2.2];rfl
    .rw[aV.out.1,<-bF.out];exact s4
    .rw[<-aD.out];exact Kgb bU.out _ _ _ _
end
end
end Go.Proofs.YtdoiekknhnbepaaGreatDoor
