/- Merged (what the claim wants of): RIns, RMrgP, RFind, RMrgI. -/
import Derived.Test.YtdoiekknhnbepaaGreatDoorCsp16
set_option linter.unusedVariables false
set_option linter.unusedSimpArgs false
set_option maxRecDepth 1000000
set_option linter.ambiguousOpen false
set_option maxHeartbeats 8000000
namespace Go.Proofs.YtdoiekknhnbepaaGreatDoor
open Go renaming wpList_append_own_at->cn
open Go renaming wpQuiet_nil->cm
open List renaming getElem?_eq_some_iff->bL,getElem?_eq_getElem->bN,getElem?_append_left->bO,pairwise_iff_getElem->bS,mem_append->bY,mem_iff_getElem->bZ,mem_cons->b0,pairwise_append->b3,getElem?_set_ne->b4,Pairwise->b5
open World.grownBy renaming trans->b6,but->b7
open World.ownsRow renaming stored->b8
open World renaming grownBy_alloc->b9,ownsRow->ca,grownBy->cb,setCell->cc,ownsRow_nil->cd
open Value renaming slice->ce,ownBlock->cf
open Wnd renaming start->cg
open Smp renaming t->ch
open Option.some renaming inj->ci,injEq->cj
open Blk renaming new->ck
open Elems renaming of_own->cl
open Go.Proofs.Tryz
open Nat renaming le_refl->bC,le_trans->bF,lt_or_ge->bM,eq_zero_or_pos->bP,lt_of_lt_of_le->bW
open List renaming rel_of_pairwise_cons->bD,length_take->bE,drop_eq_getElem_cons->bG,length_set->bH,take_add_one->bI,flatMap_singleton->bJ,flatMap_append->bK,getElem_take->bQ,drop_length->bR,not_mem_nil->bT,mem_of_getElem?->bU,mem_cons->bV,mem_cons_self->bX
section
open Go.Shelf Go.RowKit Go.Lib Go.Sort
open Lib renaming hid -> Jh
attribute [local go_sem ↓] Go.wp_at_zero Go.wp_at_succ
attribute [local go_sem] Later.cell
section
theorem Kcf {w w':World} {B n sz:Nat} {T:TypeId} {v:Value} {xs:List Value} (h:w.ownsRow B T sz v n xs) (hg:w.grownBy w' none):w'.ownsRow B T sz v n xs:=Kcq h hg.size fun k hk=>hg.block k (h.lt k hk).2 (by simp)
theorem Kgp {w w9 wr:World} {g:Nat} {r:Option Nat} (h:w.grownBy w9 r) (h2:w9.grownBy wr (some g)) (hg:some g=r\/w.heap.size<=g):w.grownBy wr r:=
 ⟨h2.os.trans h.os,h2.tape.trans h.tape,h2.output.trans h.output,bF h.size h2.size,fun j hj hr=>(h2.block j (bW hj h.size) (fun e=>by
  injection e with e;rcases hg with q | q
  .exact hr (by rw[<-q,e])
  .omega)).trans (h.block j hj hr)⟩
theorem Kcj (w:World) (g i:Nat) (u:Value):w.grownBy (w.setCell ⟨g,i,none⟩ u) (some g):=⟨rfl,rfl,rfl,by simp[cc],fun j _ hj=>Below.heap_setCell _ _ _ _ (fun e=>hj (by rw[e]))⟩
theorem Kkx {w1 w2:World} {g:Nat} (h:w1.grownBy w2 (some g)) (i:Nat) (u0:Value) (u1:Value):w1.grownBy ((w2.setCell ⟨g,i,none⟩ u0).setCell ⟨g,i+1,none⟩ u1) (some g):=(b6 (b6 h (Kcj _ g _ _)) (Kcj _ g _ _))
theorem Kky {w1 w2:World} {g:Nat} (h:w1.grownBy w2 (some g)) (i:Nat) (u0:Value) (u1:Value) (u2:Value) (u3:Value) (u4:Value) (u5:Value):w1.grownBy ((((((w2.setCell ⟨g,i,none⟩ u0).setCell ⟨g,i+1,none⟩ u1).setCell ⟨g,i+2,none⟩ u2).setCell ⟨g,i+3,none⟩ u3).setCell ⟨g,i+4,none⟩ u4).setCell ⟨g,i+5,none⟩ u5) (some g):=(b6 (b6 (b6 (b6 (b6 (b6 h (Kcj _ g _ _)) (Kcj _ g _ _)) (Kcj _ g _ _)) (Kcj _ g _ _)) (Kcj _ g _ _)) (Kcj _ g _ _))
theorem Qgr (l:List Smp) (x:Smp) (hasc:l.Pairwise fun a b=>ch a < ch b) (B:Nat) (A:Option Addr) (n c:Nat) (w:World) (h:w.ownsRow B 133 2 (.slice A n c) n (l.flatMap Kac)) (hl:l.length=n) (hB:B<=w.heap.size) (hn:n<=137438953472) :
  Calls prog 102 #[.slice A n c,.agg #[.int .i64 x.t,.int .u64 (x.v:Int)]] w fun e w'=>∃(A':Option Addr) (n' c':Nat),e = .returned (.slice A' n' c')/\w'.ownsRow B 133 2 (.slice A' n' c') n' ((insO ch x l).flatMap Kac)/\(insO ch x l).length=n'/\w.grownBy w' (ce A n c).ownBlock/\
   ((ce A' n' c').ownBlock=(ce A n c).ownBlock\/∃b,(ce A' n' c').ownBlock=some b/\w.heap.size<=b):=by
 obtain ⟨ib,bg,bj,a7,a6⟩:=info_parts Khz;have aJ:=Jh h;have HL:=Jh hl;have aL:=Jh hasc;have HB:=Jh hB;have HX:Hid (Kac x = [.int .i64 x.t,.int .u64 (x.v:Int)]):=rfl;obtain ⟨q,hq⟩:=i7 w.heap.size;have HQ:=Jh hq;clear h hasc hB;obtain ⟨xk,a2⟩:=i7 (ch x);have ao:=Jh a2;go_enter func102,ntmps102
 go_upto_region 1 with fail
 obtain ⟨wa,aG⟩:=i7 (w.alloc (.cells #[.int .i64 x.t,.int .u64 (x.v:Int)] 133));have a3:Hid (Blk wa q 133 #[.int .i64 x.t,.int .u64 (x.v:Int)]):=by show Blk _ _ _ _;rw[aG,hq];exact ck _ _ _
 have aP:Hid (w.grownBy wa none):=by show cb _ _ _;rw[aG];exact b9 w _ none
 rw[<-aG,<-hq];clear aG hq a2;go_upto_block 0 with fail
 go_cut [5] (fun s5 wz=>∃k:Nat,s5 = .int .i64 (k:Int)/\k<=n/\Hid (wa.grownBy wz none)/\Hid (∀y∈l.take k,ch y < xk)/\Hid (∀y∈l.drop k,xk<=ch y))
 case first=>
  go_wp2_with fail
  go_loopg [5] n (fun kx s5 wr=>∃k:Nat,s5 = .int .i64 (k:Int)/\k<=n/\k<=kx/\Hid (wa.grownBy wr none)/\Hid (∀y∈l.drop k,xk<=ch y))
  case atStart=>exact ⟨n,rfl,bC _,bC _,(show cb _ _ _ from ⟨rfl,rfl,rfl,bC _,fun _ _ _=>rfl⟩),(show ∀y∈l.drop n,_ from fun y hy=>by rw[<-HL.out,bR] at hy;simp at hy)⟩
  case round=>
   obtain ⟨k,rfl,aU,hkg,HG,HD⟩:=hrel;have ag:Hid (Blk wr q 133 #[.int .i64 x.t,.int .u64 (x.v:Int)]):=a3.out.grown HG.out (by simp);have aR:Hid (wr.ownsRow B 133 2 (.slice A n c) n (l.flatMap Kac)):=Kcf (Kcf aJ.out aP.out) HG.out;rcases bP k with h0 | h0
   .subst h0;go_upto_region 2 with fail
    refine Kaa (by kernel_rfl) (by kernel_rfl) ?_
    repeat (go_big_quiet_step (fail))
    refine cm ?_;rintro w2 ⟨⟨_,aa⟩,rfl⟩;have ab:Hid (wa.grownBy w2 none):=b6 HG.out ⟨aa.os,aa.tape,aa.output,aa.size,fun j hj _=>aa.block j hj⟩;clear aa;go_wp2_with fail
    go_meet
    exact ⟨0,rfl,by omega,ab,(show ∀y∈l.take 0,_ from fun y hy=>by simp at hy),HD⟩
   .obtain ⟨j,hj⟩:∃j,k=j+1:=⟨k - 1,by omega⟩;obtain ⟨y,hy⟩:∃y,l[j]? = some y:=⟨l[j]'(by omega),bN _⟩;obtain ⟨A1,c1,e1,hE,_⟩:=cl (xs:=l) (enc:=Kac) (fun _ _=>rfl) rfl aR.out hl;obtain ⟨b,ay,hA,hb,hc⟩:=hE.2 (by omega);injection e1 with e1 _ e3;subst e3;rw[<-e1] at hA;have k0:wr.cell? ⟨b,ay+j*2,none⟩=some (.int .i64 y.t):=hc j y hy 0 _ rfl;obtain ⟨yk,an⟩:=i7 (ch y);have hk1:(k:Int) - 1=(j:Int):=by omega
    have aZ:(j:Int) < (n:Int):=by omega
    have hk3:0 < (k:Int):=by omega
    have aD:=Jh an;have ah:=Jh hy;have z0:wr.cell? ⟨q,0,none⟩=some (.int .i64 x.t):=ag.out.cell 0;have aB:wr.cell? ⟨b,ay+j*2,none⟩=some (.int .i64 yk):=by rw[an];exact k0
    have ax:wr.cell? ⟨q,0,none⟩=some (.int .i64 xk):=by rw[ao.out];exact z0
    have zl:=ag.out.lt;have aV:Hid (k=j+1):=hj;subst hA;clear hE hc e1 k0 z0 an hy hj
    by_cases hge:xk<=yk
    .have aj:decide (xk<=yk)=true:=jd hge;go_upto_region 2 with fail
     refine Kaa (by kernel_rfl) (by kernel_rfl) ?_
     repeat (go_big_quiet_step (fail))
     refine cm ?_;rintro w2 ⟨⟨_,aa⟩,rfl⟩;have ab:Hid (wa.grownBy w2 none):=b6 HG.out ⟨aa.os,aa.tape,aa.output,aa.size,fun j hj _=>aa.block j hj⟩
     have bf:Hid (∀y∈l.drop j,xk<=ch y):=fun z hz=>by
      have aQ:=(bL.1 ah.out).1;rw[bG aQ,(bL.1 ah.out).2] at hz;rcases b0.1 hz with rfl | hz
      .rw[<-aD.out];exact hge
      .exact HD.out z (by rw[aV.out];exact hz)
     clear aa aB ax zl ag aR aj hb;go_wp2_with fail
     go_roundg j
     case measure=>have:=aV.out;omega
     case rel=>exact ⟨j,by first | rfl | go_num,by omega,by omega,ab,bf⟩
    .have aj:decide (xk<=yk)=false:=ja hge;go_upto_region 2 with fail
     refine Kaa (by kernel_rfl) (by kernel_rfl) ?_
     repeat (go_big_quiet_step (fail))
     refine cm ?_;rintro w2 ⟨⟨_,aa⟩,rfl⟩;have ab:Hid (wa.grownBy w2 none):=b6 HG.out ⟨aa.os,aa.tape,aa.output,aa.size,fun j hj _=>aa.block j hj⟩
     have bd:Hid (∀y∈l.take k,ch y < xk):=fun z hz=>by
      rw[aV.out,bI,ah.out] at hz
      have hzy:ch z<=ch y:=by
       rcases bY.1 hz with hz | hz
       .obtain ⟨i,hi,rfl⟩:=bZ.1 hz;have a9:i < j:=by rw[bE] at hi;omega
        have aQ:=(bL.1 ah.out).1;have:=bS.1 aL.out i j (by omega) aQ a9;rw[(bL.1 ah.out).2] at this;rw[bQ];omega
       .have:z=y:=by simpa using hz
        rw[this];exact Int.le_refl _
      have:=aD.out;omega
     clear aa aB ax zl ag aR aj hb;go_wp2_with fail
     go_meet
     exact ⟨k,rfl,aU,ab,bd,HD⟩
 case rest=>
  obtain ⟨k,rfl,aU,HG,HT,HD⟩:=hcut;obtain ⟨wz,rfl⟩:=i7 wc;have aF:Hid (Blk wz q 133 #[.int .i64 x.t,.int .u64 (x.v:Int)]):=a3.out.grown HG.out (by simp);have aE:Hid (wz.ownsRow B 133 2 (.slice A n c) n (l.flatMap Kac)):=Kcf (Kcf aJ.out aP.out) HG.out;have aI:Hid (w.grownBy wz none):=b6 aP.out HG.out;go_upto_region 4 with fail
  go_cut [37] (fun s37 w2=>∃bb:Bool,s37 = .bool bb/\Hid (wz.grownBy w2 none)/\Hid (bb=true->insO ch x l=l)/\Hid (bb=false->∀y,l[k]? = some y->ch y≠xk))
  case first=>
   rcases bM k n with hlt | hge
   .obtain ⟨y,hy⟩:∃y,l[k]? = some y:=⟨l[k]'(by omega),bN _⟩;obtain ⟨A1,c1,e1,hE,_⟩:=cl (xs:=l) (enc:=Kac) (fun _ _=>rfl) rfl aE.out hl;obtain ⟨b,ay,hA,hb,hc⟩:=hE.2 (by omega);injection e1 with e1 _ e3;subst e3;rw[<-e1] at hA;have k0:wz.cell? ⟨b,ay+k*2,none⟩=some (.int .i64 y.t):=hc k y hy 0 _ rfl;obtain ⟨yk,an⟩:=i7 (ch y);have aZ:(k:Int) < (n:Int):=by omega
    have aD:=Jh an;have ah:=Jh hy;have z0:wz.cell? ⟨q,0,none⟩=some (.int .i64 x.t):=aF.out.cell 0;have aB:wz.cell? ⟨b,ay+k*2,none⟩=some (.int .i64 yk):=by rw[an];exact k0
    have ax:wz.cell? ⟨q,0,none⟩=some (.int .i64 xk):=by rw[ao.out];exact z0
    have zl:=aF.out.lt;subst hA;clear hE hc e1 k0 z0 an hy
    by_cases heq:yk=xk
    .have al:(yk == xk)=true:=by rw[beq_iff_eq];exact heq
     refine Kaa (by kernel_rfl) (by kernel_rfl) ?_
     repeat (go_big_quiet_step (fail))
     refine cm ?_;rintro w2 ⟨⟨_,aa⟩,rfl⟩;have ab:Hid (wz.grownBy w2 none):=⟨aa.os,aa.tape,aa.output,aa.size,fun j hj _=>aa.block j hj⟩;have ac:Hid (insO ch x l=l):=Kkz ch x (k:=k) (y:=y) (fun z hz=>by have:=HT.out z hz;rw[ao.out] at this;exact this) ah.out (by rw[<-aD.out,heq,ao.out]);clear aa aB ax zl hb al heq;go_wp2_with fail
     go_meet
     exact ⟨true,rfl,ab,fun _=>ac.out,fun h=>by cases h⟩
    .have al:(yk == xk)=false:=by rw[jg];exact heq
     refine Kaa (by kernel_rfl) (by kernel_rfl) ?_
     repeat (go_big_quiet_step (fail))
     refine cm ?_;rintro w2 ⟨⟨_,aa⟩,rfl⟩;have ab:Hid (wz.grownBy w2 none):=⟨aa.os,aa.tape,aa.output,aa.size,fun j hj _=>aa.block j hj⟩
     have av:Hid (∀y,l[k]? = some y->ch y≠xk):=fun z hz=>by rw[ah.out] at hz;injection hz with hz;rw[<-hz,<-aD.out];exact heq
     clear aa aB ax zl hb al heq;go_wp2_with fail
     go_meet
     exact ⟨false,rfl,ab,(fun h=>by cases h),fun _=>av.out⟩
   .have aZ:¬(k:Int) < (n:Int):=by omega
    refine Kaa (by kernel_rfl) (by kernel_rfl) ?_
    repeat (go_big_quiet_step (fail))
    refine cm ?_;rintro w2 ⟨⟨_,aa⟩,rfl⟩;have ab:Hid (wz.grownBy w2 none):=⟨aa.os,aa.tape,aa.output,aa.size,fun j hj _=>aa.block j hj⟩
    have av:Hid (∀y,l[k]? = some y->ch y≠xk):=fun z hz=>by have:=(bL.1 hz).1;omega
    clear aa;go_wp2_with fail
    go_meet
    exact ⟨false,rfl,ab,(fun h=>by cases h),fun _=>av.out⟩
  case rest=>
   obtain ⟨bb,rfl,ab,aM,aT⟩:=hcut;obtain ⟨w2,rfl⟩:=i7 wc
   cases bb with
   | true=>
    have ac:=Jh (aM.out rfl);have aH:Hid (w2.ownsRow B 133 2 (.slice A n c) n (l.flatMap Kac)):=Kcf aE.out ab.out;have ar:Hid (w.grownBy w2 none):=b6 aI.out ab.out;clear aM aT HG HT HD aF aE aI ab;go_wp2_with fail
    go_ret
    refine ⟨A,n,c,rfl,?_,?_,?_,.inl rfl⟩
    .rw[ac.out];exact aH.out
    .rw[ac.out];exact hl
    .exact b7 ar.out _
   | false=>
   have av:=Jh (aT.out rfl);clear aM aT;have aq:Hid (Blk w2 q 133 #[.int .i64 x.t,.int .u64 (x.v:Int)]):=aF.out.grown ab.out (by simp);have aH:Hid (w2.ownsRow B 133 2 (.slice A n c) n (l.flatMap Kac)):=Kcf aE.out ab.out;have ar:Hid (w.grownBy w2 none):=b6 aI.out ab.out;have aA:Hid (insO ch x l=Kae l k x):=Kjk ch x (by omega) (fun z hz=>by have:=HT.out z hz;rw[ao.out] at this;exact this) (fun z hz=>by have:=HD.out z hz;rw[ao.out] at this;exact this) (fun z hz=>by have:=av.out z hz;rw[ao.out] at this;exact this);clear HG HT HD aF aE aI ab av;have z0:w2.cell? ⟨q,0,none⟩=some (.int .i64 x.t):=aq.out.cell 0;have z1:w2.cell? ⟨q,1,none⟩=some (.int .u64 (x.v:Int)):=aq.out.cell 1;have zl:=aq.out.lt;obtain ⟨w6,aC⟩:=i7 (w2.alloc (.cells #[.int .i64 x.t,.int .u64 (x.v:Int)] 133));have ap:Hid (w2.grownBy w6 none):=by show cb _ _ _;rw[aC];exact b9 w2 _ none
   have ai:Blk w6 w2.heap.size 133 #[.int .i64 x.t,.int .u64 (x.v:Int)]:=by rw[aC];exact ck _ _ _
   have ae:w6.ownsRow B 133 2 (.slice A n c) n (l.flatMap Kac):=Kcf aH.out ap.out;have aw:=Jh ae;have aY:Hid (Blk w6 q 133 #[.int .i64 x.t,.int .u64 (x.v:Int)]):=aq.out.grown ap.out (by simp);have aX:B<=w6.heap.size:=bF HB.out (bF ar.out.size ap.out.size);go_wp2_with (at_builtin;(try rw[<-aC]);refine cn _ rfl _ _ 129 rfl B 133 ib (.agg #[.int .i64 0,.int .u64 0]) 2 16 underlying129 bg bj a7 a6 rfl (by decide) (.slice A n c) n _ rfl ae ⟨w2.heap.size,0,none⟩ 1 1 [.int .i64 x.t,.int .u64 (x.v:Int)] rfl rfl (Kao (l:=[.int .i64 x.t,.int .u64 (x.v:Int)]) ai) ?p2 ?p3 ?p4 ?p5 ?_)
   case p2=>intro u hu;simp only[bV,bT,or_false] at hu;rcases hu with rfl | rfl <;> rfl
   case p3=>unfold maxLen;omega
   case p4=>omega
   case p5=>exact aX
   intro v9 w9 hown' hgrow _ ad;rw[<-aC] at hgrow
   have ak:∃g c9,v9 = .slice (some ⟨g,0,none⟩) (n+1) c9:=by
    obtain ⟨A9,c9,e9⟩:=Kag hown';subst e9;rcases hown'.2 with ⟨h1,h2⟩ | ⟨g,cap,a5,h1,_⟩
    .omega
    .injection h1 with h1 _ h3;exact ⟨g,c9,by rw[h1]⟩
   obtain ⟨g,c9,rfl⟩:=ak
   have a4:Hid (some g=(ce A n c).ownBlock\/w.heap.size<=g):=by
    rcases ad with e | e
    .exact .inl e
    .right
     have e2:g=w2.heap.size+1:=by have:(ce (some ⟨g,0,none⟩) (n+1) c9).ownBlock=some g:=rfl;rw[this] at e;exact ci e
     have:=ar.out.size;have:=ap.out.size;omega
   have a0:g≠q:=by
    rcases ad with e | e
    .have:=(aJ.out.lt g e.symm).2;rw[HQ.out];omega
    .have e2:g=w2.heap.size+1:=by
      have:(ce (some ⟨g,0,none⟩) (n+1) c9).ownBlock=some g:=rfl;rw[this] at e;exact ci e
     have:=aq.out.lt;omega
   have bi:=Jh a0
   have bh:Hid (Blk w9 q 133 #[.int .i64 x.t,.int .u64 (x.v:Int)]):=aY.out.grown hgrow (fun e=>by
    have:=(aJ.out.lt q e.symm).2;have:=HQ.out
    omega)
   have aK:Hid (w.grownBy w9 (ce A n c).ownBlock):=b6 (b7 (b6 ar.out ap.out) _) hgrow
   have aW:Hid (w9.ownsRow B 133 2 (.slice (some ⟨g,0,none⟩) (n+1) c9) (n+1) ((Kae l n x).flatMap Kac)):=by
    show ca _ _ _ _ _ _ _
    have e:Kae l n x=l ++ [x]:=by rw[<-HL.out];exact Kln l x
    rw[e,bK,bJ];exact hown'
   have az:Hid (w9.grownBy w9 (some g)):=⟨rfl,rfl,rfl,bC _,fun _ _ _=>rfl⟩;clear hown' hgrow ad ae ai aw aY aC aX ap ar aq aH z0 z1 zl a0;go_wp2_with fail
   go_loopg [6] n (fun kx s6 wr=>∃(m:Nat) (z:Smp),s6 = .int .i64 (m:Int)/\k<=m/\m<=n/\m<=kx/\Hid (w9.grownBy wr (some g))/\Hid (wr.ownsRow B 133 2 (.slice (some ⟨g,0,none⟩) (n+1) c9) (n+1) ((Kae l m z).flatMap Kac)))
   case atStart=>exact ⟨n,x,by first | rfl | go_num,aU,bC _,bC _,az,aW⟩
   case round=>
    clear aW az;obtain ⟨m,z,rfl,bc,hmn,be,HG,HR⟩:=hrel;have ag:Hid (Blk wr q 133 #[.int .i64 x.t,.int .u64 (x.v:Int)]):=bh.out.grown HG.out (fun e=>by injection e with e;exact bi.out e.symm);obtain ⟨a5,am⟩:=Kax HR.out (r:=g) rfl;have ak:Blk wr g 133 a5:=am;have hgl:=ak.lt
    have ad:=fun (i:Nat) (y:Smp) (hy:(Kae l m z)[i]? = some y) (r:Nat) (hr:r < 2)=>(by
     have hil:i < n+1:=by have:=(bL.1 hy).1;rw[Kdi,HL.out] at this;exact this
     rw[HR.out.cellAt (i*2+r) (by omega)]
     exact Kcw (enc:=Kac) (fun _=>rfl) _ i r y hy hr:wr.cell? ⟨g,i*2+r,none⟩=(Kac y)[r]?)
    rcases bM k m with hlt | hge
    .obtain ⟨j,hj⟩:∃j,m=j+1:=⟨m - 1,by omega⟩;obtain ⟨y,hy⟩:∃y,l[j]? = some y:=⟨l[j]'(by omega),bN _⟩;have aN:(Kae l m z)[j]? = some y:=by rw[Kge (by omega) (by omega)];exact hy
     have af:(Kae l m z)[m]? = some z:=Kdt l z (by omega);have k0:wr.cell? ⟨g,j*2,none⟩=some (.int .i64 y.t):=ad j y aN 0 (by decide);have k1:wr.cell? ⟨g,j*2+1,none⟩=some (.int .u64 (y.v:Int)):=ad j y aN 1 (by decide);have u0:wr.cell? ⟨g,m*2,none⟩=some (.int .i64 z.t):=ad m z af 0 (by decide);have u1:wr.cell? ⟨g,m*2+1,none⟩=some (.int .u64 (z.v:Int)):=ad m z af 1 (by decide);have f0:=ak.frozen (m*2);have f1:=ak.frozen (m*2+1);have hm1:(m:Int) - 1=(j:Int):=by omega
     have hm2:(j:Int) < (n:Int)+1:=by omega
     have a8:(m:Int) < (n:Int)+1:=by omega
     have hm4:(k:Int) < (m:Int):=by omega
     have aS:Hid (((wr.setCell ⟨g,m*2,none⟩ (.int .i64 y.t)).setCell ⟨g,m*2+1,none⟩ (.int .u64 (y.v:Int))).ownsRow B 133 2 (.slice (some ⟨g,0,none⟩) (n+1) c9) (n+1) ((Kae l j y).flatMap Kac)):=by
      show ca _ _ _ _ _ _ _
      rw[<-Kjt z hy,<-hj,<-Kga (n:=2) (fun _=>rfl) _ m y z af];exact (b8 (b8 HR.out (m*2) (.int .i64 y.t)).1 (m*2+1) (.int .u64 (y.v:Int))).1
     have aO:Hid (w9.grownBy ((wr.setCell ⟨g,m*2,none⟩ (.int .i64 y.t)).setCell ⟨g,m*2+1,none⟩ (.int .u64 (y.v:Int))) (some g)):=Kkx HG.out _ _ _;have HJ:=Jh hj;clear ad hy aN af hj am HR HG;go_wp2_with fail
     go_roundg j
     case measure=>have:=HJ.out;omega
     case rel=>exact ⟨j,y,by first | rfl | go_num,by have:=HJ.out;omega,by omega,by omega,aO,aS⟩
    .have a1:m=k:=by omega
     have af:(Kae l m z)[m]? = some z:=Kdt l z (by omega);have u0:wr.cell? ⟨g,m*2,none⟩=some (.int .i64 z.t):=ad m z af 0 (by decide);have u1:wr.cell? ⟨g,m*2+1,none⟩=some (.int .u64 (z.v:Int)):=ad m z af 1 (by decide);have f0:=ak.frozen (m*2);have f1:=ak.frozen (m*2+1);have z0:wr.cell? ⟨q,0,none⟩=some (.int .i64 x.t):=ag.out.cell 0;have z1:wr.cell? ⟨q,1,none⟩=some (.int .u64 (x.v:Int)):=ag.out.cell 1;have zl:=ag.out.lt;have a8:(m:Int) < (n:Int)+1:=by omega
     have aS:Hid (((wr.setCell ⟨g,m*2,none⟩ (.int .i64 x.t)).setCell ⟨g,m*2+1,none⟩ (.int .u64 (x.v:Int))).ownsRow B 133 2 (.slice (some ⟨g,0,none⟩) (n+1) c9) (n+1) ((insO ch x l).flatMap Kac)):=by
      show ca _ _ _ _ _ _ _
      rw[aA.out,<-a1,<-Kgf z x (by omega),<-Kga (n:=2) (fun _=>rfl) _ m x z af];exact (b8 (b8 HR.out (m*2) (.int .i64 x.t)).1 (m*2+1) (.int .u64 (x.v:Int))).1
     have aO:Hid (w9.grownBy ((wr.setCell ⟨g,m*2,none⟩ (.int .i64 x.t)).setCell ⟨g,m*2+1,none⟩ (.int .u64 (x.v:Int))) (some g)):=Kkx HG.out _ _ _;have ba:Hid ((insO ch x l).length=n+1):=by show _=_;rw[aA.out,Kdi,HL.out]
     clear ad af am HR HG ag hge bc be;subst a1;go_wp2_with fail
     go_ret
     refine ⟨some ⟨g,0,none⟩,n+1,c9,rfl,aS.out,ba.out,Kgp aK.out aO.out a4.out,?_⟩;rcases a4.out with e | e
     .exact .inl e
     .exact .inr ⟨g,rfl,e⟩
theorem Kwl (l:List Wnd) (x:Wnd) (hasc:l.Pairwise fun a b=>cg a < cg b) (B:Nat) (A:Option Addr) (n c:Nat) (w:World) (h:w.ownsRow B 136 6 (.slice A n c) n (l.flatMap Kad)) (hl:l.length=n) (hB:B<=w.heap.size) (hn:n<=137438953472) :
  Calls prog 103 #[.slice A n c,.agg #[.int .i64 x.start,.int .i64 x.count,.int .u64 (x.sum:Int),.int .u64 (x.min:Int),.int .u64 (x.max:Int),.int .u64 (x.last:Int)]] w fun e w'=>∃(A':Option Addr) (n' c':Nat),e = .returned (.slice A' n' c')/\w'.ownsRow B 136 6 (.slice A' n' c') n' ((insO cg x l).flatMap Kad)/\(insO cg x l).length=n'/\w.grownBy w' (ce A n c).ownBlock/\
   ((ce A' n' c').ownBlock=(ce A n c).ownBlock\/∃b,(ce A' n' c').ownBlock=some b/\w.heap.size<=b):=by
 obtain ⟨ib,bg,bj,a7,a6⟩:=info_parts Kia;have aK:=Jh h;have HL:=Jh hl;have aM:=Jh hasc;have HB:=Jh hB;have HX:Hid (Kad x = [.int .i64 x.start,.int .i64 x.count,.int .u64 (x.sum:Int),.int .u64 (x.min:Int),.int .u64 (x.max:Int),.int .u64 (x.last:Int)]):=rfl;obtain ⟨q,hq⟩:=i7 w.heap.size;have HQ:=Jh hq;clear h hasc hB;obtain ⟨xk,a2⟩:=i7 (cg x);have aq:=Jh a2;go_enter func103,ntmps103
 go_upto_region 1 with fail
 obtain ⟨wa,aH⟩:=i7 (w.alloc (.cells #[.int .i64 x.start,.int .i64 x.count,.int .u64 (x.sum:Int),.int .u64 (x.min:Int),.int .u64 (x.max:Int),.int .u64 (x.last:Int)] 136));have a3:Hid (Blk wa q 136 #[.int .i64 x.start,.int .i64 x.count,.int .u64 (x.sum:Int),.int .u64 (x.min:Int),.int .u64 (x.max:Int),.int .u64 (x.last:Int)]):=by show Blk _ _ _ _;rw[aH,hq];exact ck _ _ _
 have aP:Hid (w.grownBy wa none):=by show cb _ _ _;rw[aH];exact b9 w _ none
 rw[<-aH,<-hq];clear aH hq a2;go_upto_block 0 with fail
 go_cut [5] (fun s5 wz=>∃k:Nat,s5 = .int .i64 (k:Int)/\k<=n/\Hid (wa.grownBy wz none)/\Hid (∀y∈l.take k,cg y < xk)/\Hid (∀y∈l.drop k,xk<=cg y))
 case first=>
  go_wp2_with fail
  go_loopg [5] n (fun kx s5 wr=>∃k:Nat,s5 = .int .i64 (k:Int)/\k<=n/\k<=kx/\Hid (wa.grownBy wr none)/\Hid (∀y∈l.drop k,xk<=cg y))
  case atStart=>exact ⟨n,rfl,bC _,bC _,(show cb _ _ _ from ⟨rfl,rfl,rfl,bC _,fun _ _ _=>rfl⟩),(show ∀y∈l.drop n,_ from fun y hy=>by rw[<-HL.out,bR] at hy;simp at hy)⟩
  case round=>
   obtain ⟨k,rfl,aU,hkg,HG,HD⟩:=hrel;have ag:Hid (Blk wr q 136 #[.int .i64 x.start,.int .i64 x.count,.int .u64 (x.sum:Int),.int .u64 (x.min:Int),.int .u64 (x.max:Int),.int .u64 (x.last:Int)]):=a3.out.grown HG.out (by simp);have aR:Hid (wr.ownsRow B 136 6 (.slice A n c) n (l.flatMap Kad)):=Kcf (Kcf aK.out aP.out) HG.out;rcases bP k with h0 | h0
   .subst h0;go_upto_region 2 with fail
    refine Kaa (by kernel_rfl) (by kernel_rfl) ?_
    repeat (go_big_quiet_step (fail))
    refine cm ?_;rintro w2 ⟨⟨_,aa⟩,rfl⟩;have ac:Hid (wa.grownBy w2 none):=b6 HG.out ⟨aa.os,aa.tape,aa.output,aa.size,fun j hj _=>aa.block j hj⟩;clear aa;go_wp2_with fail
    go_meet
    exact ⟨0,rfl,by omega,ac,(show ∀y∈l.take 0,_ from fun y hy=>by simp at hy),HD⟩
   .obtain ⟨j,hj⟩:∃j,k=j+1:=⟨k - 1,by omega⟩;obtain ⟨y,hy⟩:∃y,l[j]? = some y:=⟨l[j]'(by omega),bN _⟩;obtain ⟨A1,c1,e1,hE,_⟩:=cl (xs:=l) (enc:=Kad) (fun _ _=>rfl) rfl aR.out hl;obtain ⟨b,az,hA,hb,hc⟩:=hE.2 (by omega);injection e1 with e1 _ e3;subst e3;rw[<-e1] at hA;have k0:wr.cell? ⟨b,az+j*6,none⟩=some (.int .i64 y.start):=hc j y hy 0 _ rfl;obtain ⟨yk,ap⟩:=i7 (cg y);have hk1:(k:Int) - 1=(j:Int):=by omega
    have aZ:(j:Int) < (n:Int):=by omega
    have hk3:0 < (k:Int):=by omega
    have aE:=Jh ap;have aj:=Jh hy;have z0:wr.cell? ⟨q,0,none⟩=some (.int .i64 x.start):=ag.out.cell 0;have aC:wr.cell? ⟨b,az+j*6,none⟩=some (.int .i64 yk):=by rw[ap];exact k0
    have ay:wr.cell? ⟨q,0,none⟩=some (.int .i64 xk):=by rw[aq.out];exact z0
    have zl:=ag.out.lt;have aV:Hid (k=j+1):=hj;subst hA;clear hE hc e1 k0 z0 ap hy hj
    by_cases hge:xk<=yk
    .have al:decide (xk<=yk)=true:=jd hge;go_upto_region 2 with fail
     refine Kaa (by kernel_rfl) (by kernel_rfl) ?_
     repeat (go_big_quiet_step (fail))
     refine cm ?_;rintro w2 ⟨⟨_,aa⟩,rfl⟩;have ac:Hid (wa.grownBy w2 none):=b6 HG.out ⟨aa.os,aa.tape,aa.output,aa.size,fun j hj _=>aa.block j hj⟩
     have bf:Hid (∀y∈l.drop j,xk<=cg y):=fun z hz=>by
      have aQ:=(bL.1 aj.out).1;rw[bG aQ,(bL.1 aj.out).2] at hz;rcases b0.1 hz with rfl | hz
      .rw[<-aE.out];exact hge
      .exact HD.out z (by rw[aV.out];exact hz)
     clear aa aC ay zl ag aR al hb;go_wp2_with fail
     go_roundg j
     case measure=>have:=aV.out;omega
     case rel=>exact ⟨j,by first | rfl | go_num,by omega,by omega,ac,bf⟩
    .have al:decide (xk<=yk)=false:=ja hge;go_upto_region 2 with fail
     refine Kaa (by kernel_rfl) (by kernel_rfl) ?_
     repeat (go_big_quiet_step (fail))
     refine cm ?_;rintro w2 ⟨⟨_,aa⟩,rfl⟩;have ac:Hid (wa.grownBy w2 none):=b6 HG.out ⟨aa.os,aa.tape,aa.output,aa.size,fun j hj _=>aa.block j hj⟩
     have bd:Hid (∀y∈l.take k,cg y < xk):=fun z hz=>by
      rw[aV.out,bI,aj.out] at hz
      have hzy:cg z<=cg y:=by
       rcases bY.1 hz with hz | hz
       .obtain ⟨i,hi,rfl⟩:=bZ.1 hz;have a9:i < j:=by rw[bE] at hi;omega
        have aQ:=(bL.1 aj.out).1;have:=bS.1 aM.out i j (by omega) aQ a9;rw[(bL.1 aj.out).2] at this;rw[bQ];omega
       .have:z=y:=by simpa using hz
        rw[this];exact Int.le_refl _
      have:=aE.out;omega
     clear aa aC ay zl ag aR al hb;go_wp2_with fail
     go_meet
     exact ⟨k,rfl,aU,ac,bd,HD⟩
 case rest=>
  obtain ⟨k,rfl,aU,HG,HT,HD⟩:=hcut;obtain ⟨wz,rfl⟩:=i7 wc;have aG:Hid (Blk wz q 136 #[.int .i64 x.start,.int .i64 x.count,.int .u64 (x.sum:Int),.int .u64 (x.min:Int),.int .u64 (x.max:Int),.int .u64 (x.last:Int)]):=a3.out.grown HG.out (by simp);have aF:Hid (wz.ownsRow B 136 6 (.slice A n c) n (l.flatMap Kad)):=Kcf (Kcf aK.out aP.out) HG.out;have aJ:Hid (w.grownBy wz none):=b6 aP.out HG.out;go_upto_region 4 with fail
  go_cut [37] (fun s37 w2=>∃bb:Bool,s37 = .bool bb/\Hid (wz.grownBy w2 none)/\Hid (bb=true->insO cg x l=l)/\Hid (bb=false->∀y,l[k]? = some y->cg y≠xk))
  case first=>
   rcases bM k n with hlt | hge
   .obtain ⟨y,hy⟩:∃y,l[k]? = some y:=⟨l[k]'(by omega),bN _⟩;obtain ⟨A1,c1,e1,hE,_⟩:=cl (xs:=l) (enc:=Kad) (fun _ _=>rfl) rfl aF.out hl;obtain ⟨b,az,hA,hb,hc⟩:=hE.2 (by omega);injection e1 with e1 _ e3;subst e3;rw[<-e1] at hA;have k0:wz.cell? ⟨b,az+k*6,none⟩=some (.int .i64 y.start):=hc k y hy 0 _ rfl;obtain ⟨yk,ap⟩:=i7 (cg y);have aZ:(k:Int) < (n:Int):=by omega
    have aE:=Jh ap;have aj:=Jh hy;have z0:wz.cell? ⟨q,0,none⟩=some (.int .i64 x.start):=aG.out.cell 0;have aC:wz.cell? ⟨b,az+k*6,none⟩=some (.int .i64 yk):=by rw[ap];exact k0
    have ay:wz.cell? ⟨q,0,none⟩=some (.int .i64 xk):=by rw[aq.out];exact z0
    have zl:=aG.out.lt;subst hA;clear hE hc e1 k0 z0 ap hy
    by_cases heq:yk=xk
    .have am:(yk == xk)=true:=by rw[beq_iff_eq];exact heq
     refine Kaa (by kernel_rfl) (by kernel_rfl) ?_
     repeat (go_big_quiet_step (fail))
     refine cm ?_;rintro w2 ⟨⟨_,aa⟩,rfl⟩;have ac:Hid (wz.grownBy w2 none):=⟨aa.os,aa.tape,aa.output,aa.size,fun j hj _=>aa.block j hj⟩;have af:Hid (insO cg x l=l):=Kkz cg x (k:=k) (y:=y) (fun z hz=>by have:=HT.out z hz;rw[aq.out] at this;exact this) aj.out (by rw[<-aE.out,heq,aq.out]);clear aa aC ay zl hb am heq;go_wp2_with fail
     go_meet
     exact ⟨true,rfl,ac,fun _=>af.out,fun h=>by cases h⟩
    .have am:(yk == xk)=false:=by rw[jg];exact heq
     refine Kaa (by kernel_rfl) (by kernel_rfl) ?_
     repeat (go_big_quiet_step (fail))
     refine cm ?_;rintro w2 ⟨⟨_,aa⟩,rfl⟩;have ac:Hid (wz.grownBy w2 none):=⟨aa.os,aa.tape,aa.output,aa.size,fun j hj _=>aa.block j hj⟩
     have aw:Hid (∀y,l[k]? = some y->cg y≠xk):=fun z hz=>by rw[aj.out] at hz;injection hz with hz;rw[<-hz,<-aE.out];exact heq
     clear aa aC ay zl hb am heq;go_wp2_with fail
     go_meet
     exact ⟨false,rfl,ac,(fun h=>by cases h),fun _=>aw.out⟩
   .have aZ:¬(k:Int) < (n:Int):=by omega
    refine Kaa (by kernel_rfl) (by kernel_rfl) ?_
    repeat (go_big_quiet_step (fail))
    refine cm ?_;rintro w2 ⟨⟨_,aa⟩,rfl⟩;have ac:Hid (wz.grownBy w2 none):=⟨aa.os,aa.tape,aa.output,aa.size,fun j hj _=>aa.block j hj⟩
    have aw:Hid (∀y,l[k]? = some y->cg y≠xk):=fun z hz=>by have:=(bL.1 hz).1;omega
    clear aa;go_wp2_with fail
    go_meet
    exact ⟨false,rfl,ac,(fun h=>by cases h),fun _=>aw.out⟩
  case rest=>
   obtain ⟨bb,rfl,ac,aN,aT⟩:=hcut;obtain ⟨w2,rfl⟩:=i7 wc
   cases bb with
   | true=>
    have af:=Jh (aN.out rfl);have aI:Hid (w2.ownsRow B 136 6 (.slice A n c) n (l.flatMap Kad)):=Kcf aF.out ac.out;have av:Hid (w.grownBy w2 none):=b6 aJ.out ac.out;clear aN aT HG HT HD aG aF aJ ac;go_wp2_with fail
    go_ret
    refine ⟨A,n,c,rfl,?_,?_,?_,.inl rfl⟩
    .rw[af.out];exact aI.out
    .rw[af.out];exact hl
    .exact b7 av.out _
   | false=>
   have aw:=Jh (aT.out rfl);clear aN aT;have ai:Hid (Blk w2 q 136 #[.int .i64 x.start,.int .i64 x.count,.int .u64 (x.sum:Int),.int .u64 (x.min:Int),.int .u64 (x.max:Int),.int .u64 (x.last:Int)]):=aG.out.grown ac.out (by simp);have aI:Hid (w2.ownsRow B 136 6 (.slice A n c) n (l.flatMap Kad)):=Kcf aF.out ac.out;have av:Hid (w.grownBy w2 none):=b6 aJ.out ac.out;have aB:Hid (insO cg x l=Kae l k x):=Kjk cg x (by omega) (fun z hz=>by have:=HT.out z hz;rw[aq.out] at this;exact this) (fun z hz=>by have:=HD.out z hz;rw[aq.out] at this;exact this) (fun z hz=>by have:=aw.out z hz;rw[aq.out] at this;exact this);clear HG HT HD aG aF aJ ac aw;have z0:w2.cell? ⟨q,0,none⟩=some (.int .i64 x.start):=ai.out.cell 0;have z1:w2.cell? ⟨q,1,none⟩=some (.int .i64 x.count):=ai.out.cell 1;have z2:w2.cell? ⟨q,2,none⟩=some (.int .u64 (x.sum:Int)):=ai.out.cell 2;have z3:w2.cell? ⟨q,3,none⟩=some (.int .u64 (x.min:Int)):=ai.out.cell 3;have z4:w2.cell? ⟨q,4,none⟩=some (.int .u64 (x.max:Int)):=ai.out.cell 4;have z5:w2.cell? ⟨q,5,none⟩=some (.int .u64 (x.last:Int)):=ai.out.cell 5;have zl:=ai.out.lt;obtain ⟨w6,aD⟩:=i7 (w2.alloc (.cells #[.int .i64 x.start,.int .i64 x.count,.int .u64 (x.sum:Int),.int .u64 (x.min:Int),.int .u64 (x.max:Int),.int .u64 (x.last:Int)] 136));have ar:Hid (w2.grownBy w6 none):=by show cb _ _ _;rw[aD];exact b9 w2 _ none
   have ak:Blk w6 w2.heap.size 136 #[.int .i64 x.start,.int .i64 x.count,.int .u64 (x.sum:Int),.int .u64 (x.min:Int),.int .u64 (x.max:Int),.int .u64 (x.last:Int)]:=by rw[aD];exact ck _ _ _
   have ah:w6.ownsRow B 136 6 (.slice A n c) n (l.flatMap Kad):=Kcf aI.out ar.out;have ax:=Jh ah;have aY:Hid (Blk w6 q 136 #[.int .i64 x.start,.int .i64 x.count,.int .u64 (x.sum:Int),.int .u64 (x.min:Int),.int .u64 (x.max:Int),.int .u64 (x.last:Int)]):=ai.out.grown ar.out (by simp);have aX:B<=w6.heap.size:=bF HB.out (bF av.out.size ar.out.size);go_wp2_with (at_builtin;(try rw[<-aD]);refine cn _ rfl _ _ 130 rfl B 136 ib (.agg #[.int .i64 0,.int .i64 0,.int .u64 0,.int .u64 0,.int .u64 0,.int .u64 0]) 6 48 underlying130 bg bj a7 a6 rfl (by decide) (.slice A n c) n _ rfl ah ⟨w2.heap.size,0,none⟩ 1 1 [.int .i64 x.start,.int .i64 x.count,.int .u64 (x.sum:Int),.int .u64 (x.min:Int),.int .u64 (x.max:Int),.int .u64 (x.last:Int)] rfl rfl (Kao (l:=[.int .i64 x.start,.int .i64 x.count,.int .u64 (x.sum:Int),.int .u64 (x.min:Int),.int .u64 (x.max:Int),.int .u64 (x.last:Int)]) ak) ?p2 ?p3 ?p4 ?p5 ?_)
   case p2=>intro u hu;simp only[bV,bT,or_false] at hu;rcases hu with rfl | rfl | rfl | rfl | rfl | rfl <;> rfl
   case p3=>unfold maxLen;omega
   case p4=>omega
   case p5=>exact aX
   intro v9 w9 hown' hgrow _ ab;rw[<-aD] at hgrow
   have ae:∃g c9,v9 = .slice (some ⟨g,0,none⟩) (n+1) c9:=by
    obtain ⟨A9,c9,e9⟩:=Kag hown';subst e9;rcases hown'.2 with ⟨h1,h2⟩ | ⟨g,cap,a5,h1,_⟩
    .omega
    .injection h1 with h1 _ h3;exact ⟨g,c9,by rw[h1]⟩
   obtain ⟨g,c9,rfl⟩:=ae
   have a4:Hid (some g=(ce A n c).ownBlock\/w.heap.size<=g):=by
    rcases ab with e | e
    .exact .inl e
    .right
     have e2:g=w2.heap.size+1:=by have:(ce (some ⟨g,0,none⟩) (n+1) c9).ownBlock=some g:=rfl;rw[this] at e;exact ci e
     have:=av.out.size;have:=ar.out.size;omega
   have a0:g≠q:=by
    rcases ab with e | e
    .have:=(aK.out.lt g e.symm).2;rw[HQ.out];omega
    .have e2:g=w2.heap.size+1:=by
      have:(ce (some ⟨g,0,none⟩) (n+1) c9).ownBlock=some g:=rfl;rw[this] at e;exact ci e
     have:=ai.out.lt;omega
   have bi:=Jh a0
   have bh:Hid (Blk w9 q 136 #[.int .i64 x.start,.int .i64 x.count,.int .u64 (x.sum:Int),.int .u64 (x.min:Int),.int .u64 (x.max:Int),.int .u64 (x.last:Int)]):=aY.out.grown hgrow (fun e=>by
    have:=(aK.out.lt q e.symm).2;have:=HQ.out
    omega)
   have aL:Hid (w.grownBy w9 (ce A n c).ownBlock):=b6 (b7 (b6 av.out ar.out) _) hgrow
   have aW:Hid (w9.ownsRow B 136 6 (.slice (some ⟨g,0,none⟩) (n+1) c9) (n+1) ((Kae l n x).flatMap Kad)):=by
    show ca _ _ _ _ _ _ _
    have e:Kae l n x=l ++ [x]:=by rw[<-HL.out];exact Kln l x
    rw[e,bK,bJ];exact hown'
   have aA:Hid (w9.grownBy w9 (some g)):=⟨rfl,rfl,rfl,bC _,fun _ _ _=>rfl⟩;clear hown' hgrow ab ah ak ax aY aD aX ar av ai aI z0 z1 z2 z3 z4 z5 zl a0;go_wp2_with fail
   go_loopg [6] n (fun kx s6 wr=>∃(m:Nat) (z:Wnd),s6 = .int .i64 (m:Int)/\k<=m/\m<=n/\m<=kx/\Hid (w9.grownBy wr (some g))/\Hid (wr.ownsRow B 136 6 (.slice (some ⟨g,0,none⟩) (n+1) c9) (n+1) ((Kae l m z).flatMap Kad)))
   case atStart=>exact ⟨n,x,by first | rfl | go_num,aU,bC _,bC _,aA,aW⟩
   case round=>
    clear aW aA;obtain ⟨m,z,rfl,bc,hmn,be,HG,HR⟩:=hrel;have ag:Hid (Blk wr q 136 #[.int .i64 x.start,.int .i64 x.count,.int .u64 (x.sum:Int),.int .u64 (x.min:Int),.int .u64 (x.max:Int),.int .u64 (x.last:Int)]):=bh.out.grown HG.out (fun e=>by injection e with e;exact bi.out e.symm);obtain ⟨a5,ao⟩:=Kax HR.out (r:=g) rfl;have ae:Blk wr g 136 a5:=ao;have hgl:=ae.lt
    have ab:=fun (i:Nat) (y:Wnd) (hy:(Kae l m z)[i]? = some y) (r:Nat) (hr:r < 6)=>(by
     have hil:i < n+1:=by have:=(bL.1 hy).1;rw[Kdi,HL.out] at this;exact this
     rw[HR.out.cellAt (i*6+r) (by omega)]
     exact Kcw (enc:=Kad) (fun _=>rfl) _ i r y hy hr:wr.cell? ⟨g,i*6+r,none⟩=(Kad y)[r]?)
    rcases bM k m with hlt | hge
    .obtain ⟨j,hj⟩:∃j,m=j+1:=⟨m - 1,by omega⟩;obtain ⟨y,hy⟩:∃y,l[j]? = some y:=⟨l[j]'(by omega),bN _⟩;have an:(Kae l m z)[j]? = some y:=by rw[Kge (by omega) (by omega)];exact hy
     have ad:(Kae l m z)[m]? = some z:=Kdt l z (by omega);have k0:wr.cell? ⟨g,j*6,none⟩=some (.int .i64 y.start):=ab j y an 0 (by decide);have k1:wr.cell? ⟨g,j*6+1,none⟩=some (.int .i64 y.count):=ab j y an 1 (by decide);have k2:wr.cell? ⟨g,j*6+2,none⟩=some (.int .u64 (y.sum:Int)):=ab j y an 2 (by decide);have k3:wr.cell? ⟨g,j*6+3,none⟩=some (.int .u64 (y.min:Int)):=ab j y an 3 (by decide);have k4:wr.cell? ⟨g,j*6+4,none⟩=some (.int .u64 (y.max:Int)):=ab j y an 4 (by decide);have k5:wr.cell? ⟨g,j*6+5,none⟩=some (.int .u64 (y.last:Int)):=ab j y an 5 (by decide);have u0:wr.cell? ⟨g,m*6,none⟩=some (.int .i64 z.start):=ab m z ad 0 (by decide);have u1:wr.cell? ⟨g,m*6+1,none⟩=some (.int .i64 z.count):=ab m z ad 1 (by decide);have u2:wr.cell? ⟨g,m*6+2,none⟩=some (.int .u64 (z.sum:Int)):=ab m z ad 2 (by decide);have u3:wr.cell? ⟨g,m*6+3,none⟩=some (.int .u64 (z.min:Int)):=ab m z ad 3 (by decide);have u4:wr.cell? ⟨g,m*6+4,none⟩=some (.int .u64 (z.max:Int)):=ab m z ad 4 (by decide);have u5:wr.cell? ⟨g,m*6+5,none⟩=some (.int .u64 (z.last:Int)):=ab m z ad 5 (by decide);have f0:=ae.frozen (m*6);have f1:=ae.frozen (m*6+1);have f2:=ae.frozen (m*6+2);have f3:=ae.frozen (m*6+3);have f4:=ae.frozen (m*6+4);have f5:=ae.frozen (m*6+5);have hm1:(m:Int) - 1=(j:Int):=by omega
     have hm2:(j:Int) < (n:Int)+1:=by omega
     have a8:(m:Int) < (n:Int)+1:=by omega
     have hm4:(k:Int) < (m:Int):=by omega
     have aS:Hid (((((((wr.setCell ⟨g,m*6,none⟩ (.int .i64 y.start)).setCell ⟨g,m*6+1,none⟩ (.int .i64 y.count)).setCell ⟨g,m*6+2,none⟩ (.int .u64 (y.sum:Int))).setCell ⟨g,m*6+3,none⟩ (.int .u64 (y.min:Int))).setCell ⟨g,m*6+4,none⟩ (.int .u64 (y.max:Int))).setCell ⟨g,m*6+5,none⟩ (.int .u64 (y.last:Int))).ownsRow B 136 6 (.slice (some ⟨g,0,none⟩) (n+1) c9) (n+1) ((Kae l j y).flatMap Kad)):=by
      show ca _ _ _ _ _ _ _
      rw[<-Kjt z hy,<-hj,<-Kga (n:=6) (fun _=>rfl) _ m y z ad];exact (b8 (b8 (b8 (b8 (b8 (b8 HR.out (m*6) (.int .i64 y.start)).1 (m*6+1) (.int .i64 y.count)).1 (m*6+2) (.int .u64 (y.sum:Int))).1 (m*6+3) (.int .u64 (y.min:Int))).1 (m*6+4) (.int .u64 (y.max:Int))).1 (m*6+5) (.int .u64 (y.last:Int))).1
     have aO:Hid (w9.grownBy ((((((wr.setCell ⟨g,m*6,none⟩ (.int .i64 y.start)).setCell ⟨g,m*6+1,none⟩ (.int .i64 y.count)).setCell ⟨g,m*6+2,none⟩ (.int .u64 (y.sum:Int))).setCell ⟨g,m*6+3,none⟩ (.int .u64 (y.min:Int))).setCell ⟨g,m*6+4,none⟩ (.int .u64 (y.max:Int))).setCell ⟨g,m*6+5,none⟩ (.int .u64 (y.last:Int))) (some g)):=Kky HG.out _ _ _ _ _ _ _;have HJ:=Jh hj;clear ab hy an ad hj ao HR HG;go_wp2_with fail
     go_roundg j
     case measure=>have:=HJ.out;omega
     case rel=>exact ⟨j,y,by first | rfl | go_num,by have:=HJ.out;omega,by omega,by omega,aO,aS⟩
    .have a1:m=k:=by omega
     have ad:(Kae l m z)[m]? = some z:=Kdt l z (by omega);have u0:wr.cell? ⟨g,m*6,none⟩=some (.int .i64 z.start):=ab m z ad 0 (by decide);have u1:wr.cell? ⟨g,m*6+1,none⟩=some (.int .i64 z.count):=ab m z ad 1 (by decide);have u2:wr.cell? ⟨g,m*6+2,none⟩=some (.int .u64 (z.sum:Int)):=ab m z ad 2 (by decide);have u3:wr.cell? ⟨g,m*6+3,none⟩=some (.int .u64 (z.min:Int)):=ab m z ad 3 (by decide);have u4:wr.cell? ⟨g,m*6+4,none⟩=some (.int .u64 (z.max:Int)):=ab m z ad 4 (by decide);have u5:wr.cell? ⟨g,m*6+5,none⟩=some (.int .u64 (z.last:Int)):=ab m z ad 5 (by decide);have f0:=ae.frozen (m*6);have f1:=ae.frozen (m*6+1);have f2:=ae.frozen (m*6+2);have f3:=ae.frozen (m*6+3);have f4:=ae.frozen (m*6+4);have f5:=ae.frozen (m*6+5);have z0:wr.cell? ⟨q,0,none⟩=some (.int .i64 x.start):=ag.out.cell 0;have z1:wr.cell? ⟨q,1,none⟩=some (.int .i64 x.count):=ag.out.cell 1;have z2:wr.cell? ⟨q,2,none⟩=some (.int .u64 (x.sum:Int)):=ag.out.cell 2;have z3:wr.cell? ⟨q,3,none⟩=some (.int .u64 (x.min:Int)):=ag.out.cell 3;have z4:wr.cell? ⟨q,4,none⟩=some (.int .u64 (x.max:Int)):=ag.out.cell 4;have z5:wr.cell? ⟨q,5,none⟩=some (.int .u64 (x.last:Int)):=ag.out.cell 5;have zl:=ag.out.lt;have a8:(m:Int) < (n:Int)+1:=by omega
     have aS:Hid (((((((wr.setCell ⟨g,m*6,none⟩ (.int .i64 x.start)).setCell ⟨g,m*6+1,none⟩ (.int .i64 x.count)).setCell ⟨g,m*6+2,none⟩ (.int .u64 (x.sum:Int))).setCell ⟨g,m*6+3,none⟩ (.int .u64 (x.min:Int))).setCell ⟨g,m*6+4,none⟩ (.int .u64 (x.max:Int))).setCell ⟨g,m*6+5,none⟩ (.int .u64 (x.last:Int))).ownsRow B 136 6 (.slice (some ⟨g,0,none⟩) (n+1) c9) (n+1) ((insO cg x l).flatMap Kad)):=by
      show ca _ _ _ _ _ _ _
      rw[aB.out,<-a1,<-Kgf z x (by omega),<-Kga (n:=6) (fun _=>rfl) _ m x z ad];exact (b8 (b8 (b8 (b8 (b8 (b8 HR.out (m*6) (.int .i64 x.start)).1 (m*6+1) (.int .i64 x.count)).1 (m*6+2) (.int .u64 (x.sum:Int))).1 (m*6+3) (.int .u64 (x.min:Int))).1 (m*6+4) (.int .u64 (x.max:Int))).1 (m*6+5) (.int .u64 (x.last:Int))).1
     have aO:Hid (w9.grownBy ((((((wr.setCell ⟨g,m*6,none⟩ (.int .i64 x.start)).setCell ⟨g,m*6+1,none⟩ (.int .i64 x.count)).setCell ⟨g,m*6+2,none⟩ (.int .u64 (x.sum:Int))).setCell ⟨g,m*6+3,none⟩ (.int .u64 (x.min:Int))).setCell ⟨g,m*6+4,none⟩ (.int .u64 (x.max:Int))).setCell ⟨g,m*6+5,none⟩ (.int .u64 (x.last:Int))) (some g)):=Kky HG.out _ _ _ _ _ _ _;have ba:Hid ((insO cg x l).length=n+1):=by show _=_;rw[aB.out,Kdi,HL.out]
     clear ab ad ao HR HG ag hge bc be;subst a1;go_wp2_with fail
     go_ret
     refine ⟨some ⟨g,0,none⟩,n+1,c9,rfl,aS.out,ba.out,Kgp aL.out aO.out a4.out,?_⟩;rcases a4.out with e | e
     .exact .inl e
     .exact .inr ⟨g,rfl,e⟩
end
end
section
open Go.RowKit
theorem Qbx {α : Type} {l:List α} {k j:Nat} {z:α} (h:k<=j) (hk:k<=l.length):(Kae l k z)[j+1]? = l[j]?:=by unfold Kae;rw[List.getElem?_append_right (by rw[bE];omega),bE,Nat.min_eq_left hk,show j+1 - k=(j - k)+1 by omega,List.getElem?_cons_succ,List.getElem?_drop];congr 1;omega
theorem Qby {α : Type} {l:List α} {j:Nat} {y:α} (z:α) (h:l[j]? = some y):((Kae l (j+1) z).set (j+1) y).set j z=Kae l j z:=by have:=(bL.1 h).1;rw[Kjt z h,Kgf y z (by omega)]
theorem Klc {a b:List Lb} (h:cmpL a b < 0):a≠b/\¬cmpL b a < 0:=by
 refine ⟨fun e=>?_,fun h2=>?_⟩
 .rw[e,Kcz] at h;omega
 .have:=Kde a b;omega
theorem Kpe {s g:Ser}:∀{out:List Ser} {i:Nat},ascS out->out[i]? = some g->g.labels=s.labels->Kbg out s=out.set i ⟨g.labels,s.samples.foldl (fun a x=>insO ch x a) g.samples,s.windows.foldl (fun a x=>insO cg x a) g.windows⟩
 | [],i,_,h,_=>by simp at h
 | y :: l,0,_,h,e=>by simp only[List.getElem?_cons_zero,cj] at h;subst h;unfold Kbg;rw[jf e];rfl
 | y :: l,i+1,ha,h,e=>by
  have hg:l[i]? = some g:=by simpa using h
  have h1:=Klc (bD ha (bU hg));rw[e] at h1;unfold Kbg;rw[je h1.1,je h1.2,Kpe (List.Pairwise.of_cons ha) hg e];rfl
theorem Qbw {α : Type} (y:α) (l:List α) (k:Nat) (z:α):Kae (y :: l) (k+1) z=y :: Kae l k z:=rfl
theorem Kpd {s:Ser}:∀{out:List Ser} {k:Nat},ascS (Kae out k ⟨s.labels,[],[]⟩)->k<=out.length->Kbg out s=Kae out k ⟨s.labels,onceL ch s.samples,onceL cg s.windows⟩
 | [],k,_,hk=>by
  have:k=0:=by simpa using hk
  subst this;rfl
 | y :: l,0,ha,_=>by have h1:=Klc (bD (show b5 _ (_ :: y :: l) from ha) (bX ..));unfold Kbg;rw[je (Ne.symm h1.1),jf (bD (show b5 _ (_ :: y :: l) from ha) (bX ..))];rfl
 | y :: l,k+1,ha,hk=>by rw[Qbw] at ha |-;have h1:=Klc (bD ha (show (⟨s.labels,[],[]⟩:Ser)∈Kae l k _ by unfold Kae;simp));unfold Kbg;rw[je h1.1,je h1.2,Kpd (List.Pairwise.of_cons ha) (by simpa using hk)]
theorem Kre {gs:List Ser} {k:Nat} {s:Ser} (ha:ascS gs) (h1:∀y∈gs.take k,cmpL y.labels s.labels < 0) (h2:∀y∈gs.drop k,cmpL s.labels y.labels < 0):ascS (Kae gs k s):=by
 unfold ascS at ha |-;rw[<-List.take_append_drop k gs,b3] at ha;unfold Kae;refine b3.2 ⟨ha.1,List.pairwise_cons.2 ⟨h2,ha.2.1⟩,fun a hA b hb=>?_⟩;rcases b0.1 hb with rfl | hb
 .exact h1 a hA
 .exact ha.2.2 a hA b hb
theorem Kfc {w:World} {B n c k sz:Nat} {A:Option Addr} {T:TypeId} {xs:List Value} (h:w.ownsRow B T sz (.slice A n c) k xs):n=k:=by obtain ⟨_,_,e⟩:=Kag h;injection e
def Aprt (h h':Hd3):Prop:=∀b,¬((spM h).ownBlock=some b/\(spM h').ownBlock=some b)/\¬((wpM h).ownBlock=some b/\(wpM h').ownBlock=some b)
theorem Aprt.symm {h h':Hd3} (a:Aprt h h'):Aprt h' h:=fun b=>⟨fun x=>(a b).1 ⟨x.2,x.1⟩,fun x=>(a b).2 ⟨x.2,x.1⟩⟩
structure DSt (w0:World) (w:World) (v:Value) (hs:List Hd3) (gs:List Ser):Prop where
 o:DOut w0 w0 w v hs gs
 sep:∀(i j:Nat) (h h':Hd3),hs[i]? = some h->hs[j]? = some h'->i≠j->Aprt h h'
theorem DSt.below {w0 w w':World} {v:Value} {hs:List Hd3} {gs:List Ser} (d:DSt w0 w v hs gs) (hb:Below w.heap.size w w'):DSt w0 w' v hs gs:=⟨d.o.below hb,d.sep⟩
theorem Kja {α : Type} {l:List α} {i k:Nat} {x z:α} (h:(l.set k z)[i]? = some x):(i=k/\x=z)\/(i≠k/\l[i]? = some x):=by
 rcases Nat.decEq i k with hik | rfl
 .rw[b4 (Ne.symm hik)] at h;exact .inr ⟨hik,h⟩
 .have hl:=(bL.1 h).1;rw[bH] at hl;rw[List.getElem?_set_self hl] at h;exact .inl ⟨rfl,by simpa using h.symm⟩
theorem DSt.upd {w0 w w':World} {gB n c:Nat} {hs:List Hd3} {gs:List Ser} (d:DSt w0 w (.slice (some ⟨gB,0,none⟩) n c) hs gs) {k:Nat} {h h':Hd3} {g g':Ser} (hk:hs[k]? = some h) (hgk:gs[k]? = some g)
  (hb:Below w0.heap.size w0 w') (hz:w.heap.size<=w'.heap.size) (hfr:∀j,j < w.heap.size->some j≠(spM h).ownBlock->some j≠(wpM h).ownBlock->j≠gB->w'.heap[j]? = w.heap[j]?)
  (hrow:w'.ownsRow w0.heap.size 132 3 (.slice (some ⟨gB,0,none⟩) n c) hs.length ((hs.set k h').flatMap encH3)) (hx:DRow w0 w0.heap.size w' h' g')
  (hSb:(spM h').ownBlock=(spM h).ownBlock\/∃b,(spM h').ownBlock=some b/\w.heap.size<=b) (hWb:(wpM h').ownBlock=(wpM h).ownBlock\/∃b,(wpM h').ownBlock=some b/\w.heap.size<=b) :
  DSt w0 w' (.slice (some ⟨gB,0,none⟩) n c) (hs.set k h') (gs.set k g'):=by
 have a:=d.o.r k h g hk hgk
 have aa:∀{T:TypeId} {m sz:Nat} {v:Value} {xs:List Value},w.ownsRow w0.heap.size T sz v m xs->T≠132->∀j,v.ownBlock=some j->j≠gB:=fun {T m sz v xs} x hT j hj e=>by
  rcases Kav x d.o.row hT with q | q
  .rw[q] at hj;cases hj
  .exact q (by rw[hj,e];rfl)
 have ab:∀(i:Nat) (x:Hd3),hs[i]? = some x->i≠k->∀y,gs[i]? = some y->DRow w0 w0.heap.size w' x y:=fun i x hi hik y hy=>by
  have b:=d.o.r i x y hi hy;have sp:=d.sep i k x h hi hk hik;refine ⟨b.l,b.lc,Kcq b.sm hz fun j hj=>?_,Kcq b.wd hz fun j hj=>?_⟩
  .exact hfr j (b.sm.lt j hj).2 (fun e=>(sp j).1 ⟨hj,e.symm⟩) (fun e=>(Kav b.sm a.wd (by decide)).elim (fun q=>by rw[show cf _=none from q] at hj;cases hj) (fun q=>q (hj.trans e))) (aa b.sm (by decide) j hj)
  .exact hfr j (b.wd.lt j hj).2 (fun e=>(Kav b.wd a.sm (by decide)).elim (fun q=>by rw[show cf _=none from q] at hj;cases hj) (fun q=>q (hj.trans e))) (fun e=>(sp j).2 ⟨hj,e.symm⟩) (aa b.wd (by decide) j hj)
 have ac:∀(i:Nat) (x:Hd3),hs[i]? = some x->i≠k->Aprt x h':=fun i x hi hik b=>by
  have sp:=d.sep i k x h hi hk hik b;have ad:i < gs.length:=by rw[d.o.l];exact (bL.1 hi).1
  have y:=d.o.r i x _ hi (bN ad);refine ⟨fun e=>?_,fun e=>?_⟩
  .rcases hSb with q | ⟨c,q,hc⟩
   .exact sp.1 ⟨e.1,q▸e.2⟩
   .have h1:=(y.sm.lt b e.1).2;have h2:c=b:=ci (q.symm.trans e.2);omega
  .rcases hWb with q | ⟨c,q,hc⟩
   .exact sp.2 ⟨e.1,q▸e.2⟩
   .have h1:=(y.wd.lt b e.1).2;have h2:c=b:=ci (q.symm.trans e.2);omega
 refine ⟨⟨d.o.bl,hb,by rw[bH];exact hrow,by rw[bH,bH];exact d.o.l,fun i x y hi hy=>?_⟩,fun i j x y hi hj hij=>?_⟩
 .rcases Kja hi with ⟨e1,e2⟩ | ⟨e1,e2⟩
  .rcases Kja hy with ⟨_,e4⟩ | ⟨e3,_⟩
   .rw[e2,e4];exact hx
   .exact jl e1 e3
  .rcases Kja hy with ⟨e3,_⟩ | ⟨_,e4⟩
   .exact jl e3 e1
   .exact ab i x e2 e1 y e4
 .rcases Kja hi with ⟨e1,e2⟩ | ⟨e1,e2⟩
  .rcases Kja hj with ⟨e3,e4⟩ | ⟨e3,e4⟩
   .exact jl (e1.trans e3.symm) hij
   .rw[e2];exact (ac j y e4 e3).symm
  .rcases Kja hj with ⟨e3,e4⟩ | ⟨e3,e4⟩
   .rw[e4];exact ac i x e2 e1
   .exact d.sep i j x y e2 e4 hij
theorem DSt.setS {w0 w w5:World} {gB n c:Nat} {hs:List Hd3} {gs:List Ser} (d:DSt w0 w (.slice (some ⟨gB,0,none⟩) n c) hs gs) {k:Nat} {h:Hd3} {g:Ser} (hk:hs[k]? = some h) (hgk:gs[k]? = some g)
  (hg:w.grownBy w5 (spM h).ownBlock) {A':Option Addr} {n' c':Nat} {xs:List Smp} (hr:w5.ownsRow w0.heap.size 133 2 (.slice A' n' c') n' (xs.flatMap Kac)) (hl:xs.length=n')
  (ho:(ce A' n' c').ownBlock=(spM h).ownBlock\/∃b,(ce A' n' c').ownBlock=some b/\w.heap.size<=b) :
  DSt w0 (w5.setCell ⟨gB,k*3+1,none⟩ (.slice A' n' c')) (.slice (some ⟨gB,0,none⟩) n c) (hs.set k { h with s:=⟨A',n',c'⟩ }) (gs.set k { g with samples:=xs }):=by
 have a:=d.o.r k h g hk hgk;have hz:=d.o.b.size;obtain ⟨ac,aa⟩:=Kax d.o.row (r:=gB) rfl;have ad:Blk w gB 132 ac:=aa;have ae:=d.o.row.lt gB rfl;have ab:Blk w5 gB 132 ac:=ad.grown hg (Kan ad a.sm (by decide));refine d.upd hk hgk ((d.o.b.grown hg hz fun q hq=>(a.sm.lt q hq).1).setCell (p:=⟨gB,k*3+1,none⟩) ae.1 _) (by simp[cc];exact hg.size) (fun j hj h1 h2 h3=>?_) ?_ ?_ ho (.inl rfl)
 .rw[Below.heap_setCell _ _ _ _ h3];exact hg.block j hj h1
 .rw[Kem hs k 1 h { h with s:=⟨A',n',c'⟩ } (.slice A' n' c') hk (by decide) rfl];have h1:=d.o.row.kept hg (Kav d.o.row a.sm (by decide));have e9:=Kfc h1;rw[<-e9] at h1 |-;exact (b8 h1 (k*3+1) _).1
 .have h1:=Kbt (u:=.slice A' n' c') (i:=k*3+1) hr ab (by decide);have h2:=Kbt (u:=.slice A' n' c') (i:=k*3+1) (a.wd.kept hg (Kav a.wd a.sm (by decide))) ab (by decide);rw[<-hl] at h1;exact ⟨a.l,a.lc,by subst hl;exact h1,h2⟩
theorem DSt.setW {w0 w w5:World} {gB n c:Nat} {hs:List Hd3} {gs:List Ser} (d:DSt w0 w (.slice (some ⟨gB,0,none⟩) n c) hs gs) {k:Nat} {h:Hd3} {g:Ser} (hk:hs[k]? = some h) (hgk:gs[k]? = some g)
  (hg:w.grownBy w5 (wpM h).ownBlock) {A':Option Addr} {n' c':Nat} {xs:List Wnd} (hr:w5.ownsRow w0.heap.size 136 6 (.slice A' n' c') n' (xs.flatMap Kad)) (hl:xs.length=n')
  (ho:(ce A' n' c').ownBlock=(wpM h).ownBlock\/∃b,(ce A' n' c').ownBlock=some b/\w.heap.size<=b) :
  DSt w0 (w5.setCell ⟨gB,k*3+2,none⟩ (.slice A' n' c')) (.slice (some ⟨gB,0,none⟩) n c) (hs.set k { h with w:=⟨A',n',c'⟩ }) (gs.set k { g with windows:=xs }):=by
 have a:=d.o.r k h g hk hgk;have hz:=d.o.b.size;obtain ⟨ac,aa⟩:=Kax d.o.row (r:=gB) rfl;have ad:Blk w gB 132 ac:=aa;have ae:=d.o.row.lt gB rfl;have ab:Blk w5 gB 132 ac:=ad.grown hg (Kan ad a.wd (by decide));refine d.upd hk hgk ((d.o.b.grown hg hz fun q hq=>(a.wd.lt q hq).1).setCell (p:=⟨gB,k*3+2,none⟩) ae.1 _) (by simp[cc];exact hg.size) (fun j hj h1 h2 h3=>?_) ?_ ?_ (.inl rfl) ho
 .rw[Below.heap_setCell _ _ _ _ h3];exact hg.block j hj h2
 .rw[Kem hs k 2 h { h with w:=⟨A',n',c'⟩ } (.slice A' n' c') hk (by decide) rfl];have h1:=d.o.row.kept hg (Kav d.o.row a.wd (by decide));have e9:=Kfc h1;rw[<-e9] at h1 |-;exact (b8 h1 (k*3+2) _).1
 .have h1:=Kbt (u:=.slice A' n' c') (i:=k*3+2) hr ab (by decide);have h2:=Kbt (u:=.slice A' n' c') (i:=k*3+2) (a.sm.kept hg (Kav a.sm a.wd (by decide))) ab (by decide);rw[<-hl] at h1;exact ⟨a.l,a.lc,h2,by subst hl;exact h1⟩
theorem Khp {α : Type} {l:List α} {k i:Nat} {z y:α} (hk:k<=l.length) (h:(Kae l k z)[i]? = some y):(i=k/\y=z)\/∃j,i≠k/\l[j]? = some y/\(i < k/\j=i\/k < i/\i=j+1):=by
 rcases Nat.lt_trichotomy i k with hi | rfl | hi
 .rw[Kge hi hk] at h;exact .inr ⟨i,by omega,h,.inl ⟨hi,rfl⟩⟩
 .rw[Kdt l z hk] at h;exact .inl ⟨rfl,by simpa using h.symm⟩
 .obtain ⟨j,rfl⟩:∃j,i=j+1:=⟨i - 1,by omega⟩;rw[Qbx (by omega) hk] at h;exact .inr ⟨j,by omega,h,.inr ⟨hi,rfl⟩⟩
theorem DSt.shift {w0 w9 wr:World} {g n c k:Nat} {hs:List Hd3} {gs:List Ser} {x:Hd3} {s:Ser} (d:DOut w0 w0 w9 (.slice (some ⟨g,0,none⟩) n c) (hs ++ [x]) (gs ++ [s])) (hl:gs.length=hs.length) (hsep:∀(i j:Nat) (h h':Hd3),hs[i]? = some h->hs[j]? = some h'->i≠j->Aprt h h')
  (h1:(spM x).ownBlock=none) (h2:(wpM x).ownBlock=none) (hk:k<=hs.length) (hg:w9.grownBy wr (some g)) (hrow:wr.ownsRow w0.heap.size 132 3 (.slice (some ⟨g,0,none⟩) n c) n ((Kae hs k x).flatMap encH3)) :
  DSt w0 wr (.slice (some ⟨g,0,none⟩) n c) (Kae hs k x) (Kae gs k s):=by
 have hgB:=d.row.lt g rfl;have hn:n=(Kae hs k x).length:=by rw[Kdi,Kfc d.row,List.length_append];rfl
 have hr:∀(i:Nat) (h:Hd3) (y:Ser),(hs ++ [x])[i]? = some h->(gs ++ [s])[i]? = some y->DRow w0 w0.heap.size wr h y:=fun i h y hi hy=>(d.r i h y hi hy).grown d.row hg
 refine ⟨⟨d.bl,d.b.grown hg d.b.size fun q e=>by injection e with e;omega,by rw[<-hn];exact hrow,by rw[Kdi,Kdi,hl],fun i h y hi hy=>?_⟩,fun i j h h' hi hj hij=>?_⟩
 .rcases Khp hk hi with ⟨e1,e2⟩ | ⟨j,n1,a1,b1⟩
  .rcases Khp (by omega) hy with ⟨_,e4⟩ | ⟨_,n2,_⟩
   .rw[e2,e4];exact hr hs.length x s (by simp) (by rw[<-hl];simp)
   .exact jl e1 n2
  .rcases Khp (by omega) hy with ⟨e3,_⟩ | ⟨j',n2,a2,b2⟩
   .exact jl e3 n1
   .have ej:j'=j:=by omega
    subst ej;have aa:=(bL.1 a1).1;exact hr j' h y (by rw[bO aa];exact a1) (by rw[bO (by omega)];exact a2)
 .rcases Khp hk hi with ⟨e1,e2⟩ | ⟨i',n1,a1,b1⟩
  .rw[e2];exact fun b=>⟨fun e=>by (rw[h1] at e;cases e.1),fun e=>by (rw[h2] at e;cases e.1)⟩
  .rcases Khp hk hj with ⟨e3,e4⟩ | ⟨j',n2,a2,b2⟩
   .rw[e4];exact fun b=>⟨fun e=>by (rw[h1] at e;cases e.2),fun e=>by (rw[h2] at e;cases e.2)⟩
   .exact hsep i' j' h h' a1 a2 (by omega)
end
section
open Go.Shelf Go.RowKit Go.Lib Go.Sort
open Lib renaming hid -> Jh
attribute [local go_sem ↓] Go.wp_at_zero Go.wp_at_succ
attribute [local go_sem] Later.cell
section
def Knz (gs:List Ser) (L:List Lb) (r:Int):Prop:=
 (∃(i:Nat) (g:Ser),r=(i:Int)/\gs[i]? = some g/\g.labels=L)\/(r = -1/\∀g∈gs,g.labels≠L)
theorem Kwe (hs:List Hd3) (gs:List Ser) (L:List Lb) (A B:Option Addr) (n c k d:Nat) (w:World) (hE:Elems w w.heap.size 3 encH3 A n hs) (hl:gs.length=n) (hat:∀(i:Nat) (h:Hd3) (g:Ser),hs[i]? = some h->gs[i]? = some g->Elems w w.heap.size 2 encLb h.l.A h.l.n g.labels/\h.l.n<=1099511627776)
  (hB:Elems w w.heap.size 2 encLb B k L) (hk:k<=1099511627776) (hn:n<=1099511627776) :
  Calls prog 100 #[.slice A n c,.slice B k d] w fun e w'=>(∃r,e = .returned (.int .i64 r)/\Knz gs L r)/\Below w.heap.size w w':=by
 have HE:=Jh hE;have HL:=Jh hl;have ao:=Jh hat;have HB:=Jh hB;have aa:Hid (Below w.heap.size w w):=Below.refl _ _;have ab:Hid (∀g∈gs.take 0,g.labels≠L):=fun g hg=>by simp at hg
 clear hE hat hB;go_enter func100,ntmps100
 go_wp2_with fail
 go_loopg [5] n (fun kx s5 wr=>∃i:Nat,s5 = .int .i64 (i:Int)/\i+kx=n/\Hid (Below w.heap.size w wr)/\Hid (∀g∈gs.take i,g.labels≠L))
 case atStart=>exact ⟨0,rfl,by omega,aa,ab⟩
 case round=>
  clear aa ab;obtain ⟨i,rfl,hi,aa,ab⟩:=hrel;rcases bM i n with hlt | hge
  .have an:(i:Int) < (n:Int):=by omega
   have aq:=HE.out.len;obtain ⟨h,hh⟩:∃h,hs[i]? = some h:=⟨hs[i]'(by omega),bN _⟩;obtain ⟨g,hg⟩:∃g,gs[i]? = some g:=⟨gs[i]'(by omega),bN _⟩;obtain ⟨b,ah,hA,hb,hc⟩:=HE.out.2 (by omega);obtain ⟨a1,a2⟩:=ao.out i h g hh hg;have k0:wr.cell? ⟨b,ah+i*3,none⟩=some (.slice h.l.A h.l.n h.l.c):=(aa.out.cell (p:=⟨b,ah+i*3+0,none⟩) hb).trans (hc i h hh 0 _ rfl);obtain ⟨lA,ad⟩:=i7 h.l.A;obtain ⟨ln,ac⟩:=i7 h.l.n;obtain ⟨lc,ai⟩:=i7 h.l.c;rw[<-ad,<-ac,<-ai] at k0;rw[<-ad,<-ac] at a1;rw[<-ac] at a2;have am:b < wr.heap.size:=bW hb aa.out.size;obtain ⟨r,hr⟩:=iZ (cmpL g.labels L);have ak:=Jh (Kdq g.labels L lA B ln k lc d wr r hr ((a1.below aa.out).more aa.out.size) ((HB.out.below aa.out).more aa.out.size) (by omega) (by omega));have ap:=Jh hg;have al:Hid (gs.take (i+1)=gs.take i ++ [g]):=by show _=_;rw[bI,hg];rfl
   have aj:=Jh hr;subst hA;clear hh hc a1 a2 ad ac ai aq hg hr hb;go_wp2_with fail
   refine ak.out.mono ?_;rintro _ w2 ⟨rfl,af⟩;have ag:Hid (Below w.heap.size w w2):=aa.out.trans (af.mono aa.out.size);clear af k0 am ak aa
   by_cases h0:r=0
   .have HF:Hid (Knz gs L (i:Int)):=.inl ⟨i,g,rfl,ap.out,Kdg (by rw[aj.out];exact h0)⟩;subst h0;go_wp2_with fail
    go_ret
    exact ⟨⟨_,rfl,HF.out⟩,ag.out⟩
   .have ae:Hid (∀g∈gs.take (i+1),g.labels≠L):=fun z hz=>by
     rw[al.out] at hz;rcases bY.1 hz with hz | hz
     .exact ab.out z hz
     .rw[List.mem_singleton] at hz;rw[hz];intro e;have:=aj.out;rw[e,Kcz] at this;exact h0 this.symm
    have h1:(r == 0)=false:=by rw[jg];exact h0
    go_wp2_with fail
    go_roundg (n - (i+1))
    case measure=>omega
    case rel=>exact ⟨i+1,by first | rfl | go_num,by omega,ag,ae⟩
  .have an:¬(i:Int) < (n:Int):=by omega
   have HF:Hid (Knz gs L (-1)):=.inr ⟨rfl,fun g hg=>ab.out g (by rw[List.take_of_length_le (by rw[HL.out];omega)];exact hg)⟩;go_wp2_with fail
   go_ret
   exact ⟨⟨_,rfl,HF.out⟩,aa.out⟩
end
section
theorem Khg {w1 w2:World} {g:Nat} (h:w1.grownBy w2 (some g)) (i:Nat) (u0 u1 u2:Value):w1.grownBy (((w2.setCell ⟨g,i,none⟩ u0).setCell ⟨g,i+1,none⟩ u1).setCell ⟨g,i+2,none⟩ u2) (some g):=((h.trans (Kcj _ g _ _)).trans (Kcj _ g _ _)).trans (Kcj _ g _ _)
theorem Kzy {w:World} {B g n c T:Nat} {hs:List Hd3} (h:w.ownsRow B T 3 (.slice (some ⟨g,0,none⟩) n c) n (hs.flatMap encH3)) {i:Nat} {x z:Hd3} (hi:hs[i]? = some z) :
  (((w.setCell ⟨g,i*3,none⟩ (.slice x.l.A x.l.n x.l.c)).setCell ⟨g,i*3+1,none⟩ (.slice x.s.A x.s.n x.s.c)).setCell ⟨g,i*3+2,none⟩ (.slice x.w.A x.w.n x.w.c)).ownsRow B T 3 (.slice (some ⟨g,0,none⟩) n c) n ((hs.set i x).flatMap encH3):=by
 rw[<-Kga (n:=3) (fun _=>rfl) _ i x z hi];exact (b8 (b8 (b8 h (i*3) _).1 (i*3+1) _).1 (i*3+2) _).1
theorem Kti (hs:List Hd3) (gs:List Ser) (A lA:Option Addr) (n c ln lc:Nat) (L:List Lb) (w0 w:World) (d:DSt w0 w (.slice A n c) hs gs) (hasc:ascS gs) (hL:Elems w0 w0.heap.size 2 encLb lA ln L) (hlc:ln<=lc) (hln:ln<=1099511627776)
  (hbl:∀(i:Nat) (h:Hd3),hs[i]? = some h->h.l.n<=1099511627776) (hne:∀g∈gs,g.labels≠L) (hn:n<=274877906944) :
  Calls prog 101 #[.slice A n c,.agg #[.slice lA ln lc,.slice none 0 0,.slice none 0 0]] w fun e w'=>∃g c' k,e = .returned (.slice (some ⟨g,0,none⟩) (n+1) c')/\k<=n/\
   DSt w0 w' (.slice (some ⟨g,0,none⟩) (n+1) c') (Kae hs k ⟨⟨lA,ln,lc⟩,⟨none,0,0⟩,⟨none,0,0⟩⟩) (Kae gs k ⟨L,[],[]⟩)/\ascS (Kae gs k ⟨L,[],[]⟩)/\w.grownBy w' (ce A n c).ownBlock/\(some g=(ce A n c).ownBlock\/w.heap.size<=g):=by
 obtain ⟨ib,bt,bB,bn,bl⟩:=info_parts Khy;have HD:=Jh d;have aA:=Jh hasc;have HL:=Jh hL;have bv:=Jh hbl;have bz:=Jh hne;have HN:Hid (hs.length=n):=(Kfc d.o.row).symm;have aX:Hid (gs.length=n):=d.o.l.trans HN.out;have hz:w0.heap.size<=w.heap.size:=d.o.b.size;obtain ⟨x,hx⟩:∃x:Hd3,x=⟨⟨lA,ln,lc⟩,⟨none,0,0⟩,⟨none,0,0⟩⟩:=⟨_,rfl⟩;obtain ⟨s,aZ⟩:∃s:Ser,s=⟨L,[],[]⟩:=⟨_,rfl⟩;have HX:=Jh hx;have HS:=Jh aZ;have a4:Hid (s.labels=L):=by show _=_;rw[aZ]
 rw[<-hx,<-aZ];clear hasc hL hbl hne d hx aZ;go_enter func101,ntmps101
 go_upto_region 1 with fail
 obtain ⟨q,hq⟩:=i7 w.heap.size;obtain ⟨wa,aW⟩:=i7 (w.alloc (.cells #[.slice lA ln lc,.slice none 0 0,.slice none 0 0] 132));have aO:Hid (Blk wa q 132 #[.slice lA ln lc,.slice none 0 0,.slice none 0 0]):=by show Blk _ _ _ _;rw[aW,hq];exact ck _ _ _
 have av:Hid (Below w.heap.size w wa):=by show Below _ _ _;rw[aW];exact (Below.refl _ _).alloc (bC _) _
 rw[<-aW,<-hq];clear aW hq;have z0:=aO.out.cell 0;have z1:=aO.out.cell 1;have z2:=aO.out.cell 2;simp at z0 z1 z2;have zl:=aO.out.lt;obtain ⟨w6,aE⟩:=i7 (wa.alloc (.cells #[.slice lA ln lc,.slice none 0 0,.slice none 0 0] 132));have bc:Below wa.heap.size wa w6:=by rw[aE];exact (Below.refl _ _).alloc (bC _) _
 have aP:Hid (DSt w0 w6 (.slice A n c) hs gs):=(HD.out.below av.out).below bc;have aw:Blk w6 wa.heap.size 132 #[.slice lA ln lc,.slice none 0 0,.slice none 0 0]:=by rw[aE];exact ck _ _ _
 have ag:=aP.out.o.row;rw[HN.out] at ag;have a9:w0.heap.size<=w6.heap.size:=aP.out.o.b.size;have bm:wa.grownBy w6 none:=by rw[aE];exact b9 wa _ none
 clear bc;go_wp2_with (at_builtin;(try rw[<-aE]);refine cn _ rfl _ _ 32 rfl w0.heap.size 132 ib (.agg #[.slice none 0 0,.slice none 0 0,.slice none 0 0]) 3 72 underlying32 bt bB bn bl rfl (by decide) (.slice A n c) n _ rfl ag ⟨wa.heap.size,0,none⟩ 1 1 [.slice lA ln lc,.slice none 0 0,.slice none 0 0] rfl rfl (Kao (l:=[.slice lA ln lc,.slice none 0 0,.slice none 0 0]) aw) ?p2 ?p3 ?p4 ?p5 ?_)
 case p2=>first | exact ⟨rfl,rfl,rfl⟩ | (intro u hu;simp only[bV,bT,or_false] at hu;rcases hu with rfl | rfl | rfl <;> rfl)
 case p3=>unfold maxLen;omega
 case p4=>omega
 all_goals try exact a9
 intro v9 w9 hown' hgrow _ hat;rw[<-aE] at hgrow
 obtain ⟨g,c9,rfl⟩:∃g c9,v9 = .slice (some ⟨g,0,none⟩) (n+1) c9:=by
  rcases hown'.2 with ⟨h1,h2⟩ | ⟨g,cap,a0,h1,_⟩
  .omega
  .exact ⟨g,cap,h1⟩
 have aF:Hid (DOut w0 w0 w9 (.slice (some ⟨g,0,none⟩) (n+1) c9) (hs ++ [x]) (gs ++ [s])):=by
  show DOut _ _ _ _ _ _
  refine aP.out.o.snoc hgrow (by rw[HN.out,HX.out];exact hown') ?_;rw[HX.out,HS.out];exact ⟨HL.out,hlc,cd _ _ _ _,cd _ _ _ _⟩
 have aR:=Jh aP.out.sep;have be:Hid (w.grownBy w9 (ce A n c).ownBlock):=b6 (b6 ⟨av.out.os,av.out.tape,av.out.output,av.out.size,fun j hj _=>av.out.block j hj⟩ (b7 bm _)) hgrow
 have aH:Hid (some g=(ce A n c).ownBlock\/w.heap.size<=g):=by
  rcases hat with e | e
  .exact .inl e
  .right
   have e2:g=wa.heap.size+1:=by have:(ce (some ⟨g,0,none⟩) (n+1) c9).ownBlock=some g:=rfl;rw[this] at e;exact ci e
   have:=av.out.size;omega
 have a7:Hid (w9.ownsRow w0.heap.size 132 3 (.slice (some ⟨g,0,none⟩) (n+1) c9) (n+1) ((Kae hs n x).flatMap encH3)):=by
  have e:Kae hs n x=hs ++ [x]:=by rw[<-HN.out];exact Kln hs x
  show ca _ _ _ _ _ _ _
  rw[e,bK,bJ,HX.out];exact hown'
 have bi:Hid (w9.grownBy w9 (some g)):=⟨rfl,rfl,rfl,bC _,fun _ _ _=>rfl⟩;have aL:Hid (∀y∈gs.drop n,cmpL L y.labels < 0):=fun y hy=>by rw[<-aX.out,bR] at hy;simp at hy
 clear hown' hgrow hat aw ag a9 aE aP av aO z0 z1 z2 zl;have bp:(n:Int)+1 - 1=(n:Int):=by omega
 go_wp2_with fail
 go_loopg [5] n (fun kx s5 wr=>∃k:Nat,s5 = .int .i64 (k:Int)/\k<=n/\k<=kx/\Hid (w9.grownBy wr (some g))/\Hid (wr.ownsRow w0.heap.size 132 3 (.slice (some ⟨g,0,none⟩) (n+1) c9) (n+1) ((Kae hs k x).flatMap encH3))/\Hid (∀y∈gs.drop k,cmpL L y.labels < 0))
 case atStart=>exact ⟨n,by first | rfl | go_num,bC _,bC _,bi,a7,aL⟩
 case round=>
  clear bi a7 aL bp;obtain ⟨k,rfl,an,hkg,HG,HR,aY⟩:=hrel;rcases bP k with h0 | h0
  .have HF:Hid (DSt w0 wr (.slice (some ⟨g,0,none⟩) (n+1) c9) (Kae hs k x) (Kae gs k s)/\ascS (Kae gs k s)/\w.grownBy wr (ce A n c).ownBlock):=by
    refine ⟨DSt.shift aF.out (aX.out.trans HN.out.symm) aR.out (by rw[HX.out];rfl) (by rw[HX.out];rfl) (by rw[HN.out];exact an) HG.out HR.out,Kre aA.out (fun y hy=>?_) (fun y hy=>by rw[a4.out];exact aY.out y hy),Kgp be.out HG.out aH.out⟩;rw[h0] at hy;simp at hy
   have bq:¬0 < (k:Int):=by omega
   clear h0;go_wp2_with fail
   go_ret
   first | exact ⟨g,c9,rfl,k,an,HF.out.1,HF.out.2.1,HF.out.2.2,aH.out⟩ | exact ⟨g,c9,k,rfl,an,HF.out.1,HF.out.2.1,HF.out.2.2,aH.out⟩
  .obtain ⟨j,hj⟩:∃j,k=j+1:=⟨k - 1,by omega⟩;obtain ⟨h,hh⟩:∃h,hs[j]? = some h:=⟨hs[j]'(by rw[HN.out];omega),bN _⟩;obtain ⟨y,hy⟩:∃y,gs[j]? = some y:=⟨gs[j]'(by rw[aX.out];omega),bN _⟩;have ai:(Kae hs k x)[j]? = some h:=by rw[Kge (by omega) (by rw[HN.out];exact an)];exact hh
   have ar:(Kae hs k x)[k]? = some x:=Kdt hs x (by rw[HN.out];exact an);have bb:=aF.out.r j h y (by rw[bO (bL.1 hh).1];exact hh) (by rw[bO (bL.1 hy).1];exact hy);have aB:Below w0.heap.size w0 wr:=aF.out.b.grown HG.out aF.out.b.size fun q e=>by injection e with e;have:=aF.out.row.lt g rfl;omega
   obtain ⟨r,hr⟩:=iZ (cmpL L y.labels);have bj:=Jh (fun u:Later wr=>Kdq L y.labels lA h.l.A ln h.l.n lc h.l.c u.w r hr ((HL.out.below (aB.trans (u.h.mono aB.size))).more (bF aB.size u.h.size)) ((bb.l.below (aB.trans (u.h.mono aB.size))).more (bF aB.size u.h.size)) (by omega) (by have:=bv.out j h hh;omega));obtain ⟨⟨jA,jn,jc⟩,⟨al,aj,ap⟩,⟨ak,am,ao⟩⟩:=h
   have aa:=fun (i:Nat) (z:Hd3) (hz:(Kae hs k x)[i]? = some z) (r:Nat) (hr:r < 3)=>(by
    have bk:i < n+1:=by have:=(bL.1 hz).1;rw[Kdi,HN.out] at this;exact this
    rw[HR.out.cellAt (i*3+r) (by omega)]
    exact Kcw (enc:=encH3) (fun _=>rfl) _ i r z hz hr:wr.cell? ⟨g,i*3+r,none⟩=(encH3 z)[r]?)
   obtain ⟨a0,aN⟩:=Kax HR.out (r:=g) rfl;have a3:Blk wr g 132 a0:=aN;have aJ:=Jh a3;have e0:wr.cell? ⟨g,k*3,none⟩=some (.slice lA ln lc):=by have:=aa k x ar 0 (by decide);rw[HX.out] at this;exact this
   have e1:wr.cell? ⟨g,k*3+1,none⟩=some (.slice none 0 0):=by have:=aa k x ar 1 (by decide);rw[HX.out] at this;exact this
   have e2:wr.cell? ⟨g,k*3+2,none⟩=some (.slice none 0 0):=by have:=aa k x ar 2 (by decide);rw[HX.out] at this;exact this
   have j0:wr.cell? ⟨g,j*3,none⟩=some (.slice jA jn jc):=aa j _ ai 0 (by decide);have j1:wr.cell? ⟨g,j*3+1,none⟩=some (.slice al aj ap):=aa j _ ai 1 (by decide);have j2:wr.cell? ⟨g,j*3+2,none⟩=some (.slice ak am ao):=aa j _ ai 2 (by decide);have gl:=a3.lt;have bq:0 < (k:Int):=by omega
   have hk1:(k:Int) - 1=(j:Int):=by omega
   have hk2:(j:Int) < (n:Int)+1:=by omega
   have hk3:(k:Int) < (n:Int)+1:=by omega
   have ba:=Jh hr;have bf:=Jh hh;have aG:=Jh hy;have aI:=Jh hj;clear aa bb aB ai ar hr hh hy aN a3 hj;go_upto_region 5 with fail
   refine Kaa (by kernel_rfl) (by kernel_rfl) ?_
   repeat (go_big_quiet_step ((go_at_call 69;exact Kaj _ (bj.out _))))
   refine cm ?_;rintro w2 ⟨⟨_,az⟩,rfl⟩;have aS:Hid (w9.grownBy w2 (some g)):=HG.out.trans ⟨az.os,az.tape,az.output,az.size,fun j hj _=>az.block j hj⟩;have aC:Hid (w2.ownsRow w0.heap.size 132 3 (.slice (some ⟨g,0,none⟩) (n+1) c9) (n+1) ((Kae hs k x).flatMap encH3)):=Kbc HR.out az;have ah:Hid (Blk w2 g 132 a0):=aJ.out.below az gl;clear e0 e1 e2 j0 j1 j2 gl az HG HR aJ bj
   by_cases hc:0<=r
   .have bx:decide (0<=r)=true:=jd hc
    have HF:Hid (DSt w0 w2 (.slice (some ⟨g,0,none⟩) (n+1) c9) (Kae hs k x) (Kae gs k s)/\ascS (Kae gs k s)/\w.grownBy w2 (ce A n c).ownBlock):=by
     refine ⟨DSt.shift aF.out (aX.out.trans HN.out.symm) aR.out (by rw[HX.out];rfl) (by rw[HX.out];rfl) (by rw[HN.out];exact an) aS.out aC.out,Kre aA.out (fun z hz=>?_) (fun z hz=>by rw[a4.out];exact aY.out z hz),Kgp be.out aS.out aH.out⟩
     have bd:cmpL y.labels L < 0:=by
      have h1:=Kde y.labels L;have h2:=ba.out;have h3:cmpL L y.labels≠0:=fun e=>bz.out y (bU aG.out) (Kdg e).symm
      omega
     rw[aI.out,bI,aG.out] at hz;rw[a4.out];rcases bY.1 hz with hz | hz
     .obtain ⟨i,hi,rfl⟩:=bZ.1 hz;have a6:=(bL.1 aG.out).1;have h1:=bS.1 aA.out i j (by rw[bE] at hi;omega) a6 (by rw[bE] at hi;omega);rw[(bL.1 aG.out).2] at h1;rw[bQ];exact Kdf h1 bd
     .have:z=y:=by simpa using hz
      rw[this];exact bd
    clear aS aC ah;go_wp2_with fail
    go_ret
    first | exact ⟨g,c9,rfl,k,an,HF.out.1,HF.out.2.1,HF.out.2.2,aH.out⟩ | exact ⟨g,c9,k,rfl,an,HF.out.1,HF.out.2.1,HF.out.2.2,aH.out⟩
   .have bx:decide (0<=r)=false:=ja hc
    have br:Hid (∀z∈gs.drop j,cmpL L z.labels < 0):=fun z hz=>by
     have a6:=(bL.1 aG.out).1;rw[bG a6,(bL.1 aG.out).2] at hz;rcases b0.1 hz with rfl | hz
     .rw[ba.out];omega
     .exact aY.out z (by rw[aI.out];exact hz)
    have bs:Hid (j≠k):=by have:=aI.out;show _≠_;omega
    have aa:=fun (W:World) (l:List Hd3) (hl:l.length=n+1) (hR:W.ownsRow w0.heap.size 132 3 (.slice (some ⟨g,0,none⟩) (n+1) c9) (n+1) (l.flatMap encH3)) (i:Nat) (z:Hd3) (hz:l[i]? = some z) (r:Nat) (hr:r < 3)=>(by
     have bk:i < n+1:=by rw[<-hl];exact (bL.1 hz).1
     rw[hR.cellAt (i*3+r) (by omega)]
     exact Kcw (enc:=encH3) (fun _=>rfl) _ i r z hz hr:W.cell? ⟨g,i*3+r,none⟩=(encH3 z)[r]?)
    have af:(Kae hs k x).length=n+1:=by rw[Kdi,HN.out]
    have ai:(Kae hs k x)[j]? = some ⟨⟨jA,jn,jc⟩,⟨al,aj,ap⟩,⟨ak,am,ao⟩⟩:=by rw[Kge (by omega) (by rw[HN.out];exact an)];exact bf.out
    have ar:(Kae hs k x)[k]? = some x:=Kdt hs x (by rw[HN.out];exact an);have ab:(Kae hs k x)[k]? = some ⟨⟨lA,ln,lc⟩,⟨none,0,0⟩,⟨none,0,0⟩⟩:=by rw[ar,HX.out]
    obtain ⟨q2,aV⟩:=i7 w2.heap.size;obtain ⟨w3,aU⟩:=i7 (w2.alloc (.cells #[.slice lA ln lc,.slice none 0 0,.slice none 0 0] 132));have bh:Hid (Blk w3 q2 132 #[.slice lA ln lc,.slice none 0 0,.slice none 0 0]):=by show Blk _ _ _ _;rw[aU,aV];exact ck _ _ _
    have aT:w2.grownBy w3 none:=by rw[aU];exact b9 w2 _ none
    have a8:Hid (w9.grownBy w3 (some g)):=aS.out.trans (b7 aT _);have ay:Hid (w3.ownsRow w0.heap.size 132 3 (.slice (some ⟨g,0,none⟩) (n+1) c9) (n+1) ((Kae hs k x).flatMap encH3)):=Kcf aC.out aT;have ad:Hid (Blk w3 g 132 a0):=ah.out.grown aT (by simp);have bo:g≠q2:=by rw[aV];exact Nat.ne_of_lt ah.out.lt
    have bA:=Jh bo;have k0:w2.cell? ⟨g,k*3,none⟩=some (.slice lA ln lc):=aa w2 _ af aC.out k _ ab 0 (by decide);have k1:w2.cell? ⟨g,k*3+1,none⟩=some (.slice none 0 0):=aa w2 _ af aC.out k _ ab 1 (by decide);have k2:w2.cell? ⟨g,k*3+2,none⟩=some (.slice none 0 0):=aa w2 _ af aC.out k _ ab 2 (by decide);have a2:=ah.out.lt;go_upto_region 8 with fail
    rw[<-aU,<-aV];clear k0 k1 k2 a2 aU aV aT aS aC ah;obtain ⟨w4,aM⟩:=i7 (((w3.setCell ⟨g,k*3,none⟩ (.slice jA jn jc)).setCell ⟨g,k*3+1,none⟩ (.slice al aj ap)).setCell ⟨g,k*3+2,none⟩ (.slice ak am ao));have bg:Hid (w9.grownBy w4 (some g)):=by show cb _ _ _;rw[aM];exact Khg a8.out _ _ _ _
    have aD:Hid (w4.ownsRow w0.heap.size 132 3 (.slice (some ⟨g,0,none⟩) (n+1) c9) (n+1) (((Kae hs k x).set k ⟨⟨jA,jn,jc⟩,⟨al,aj,ap⟩,⟨ak,am,ao⟩⟩).flatMap encH3)):=by
     show ca _ _ _ _ _ _ _
     rw[aM];exact Kzy ay.out (x:=⟨⟨jA,jn,jc⟩,⟨al,aj,ap⟩,⟨ak,am,ao⟩⟩) ar
    have aK:w3.grownBy w4 (some g):=by rw[aM];exact Khg ⟨rfl,rfl,rfl,bC _,fun _ _ _=>rfl⟩ _ _ _ _
    have aQ:Hid (Blk w4 q2 132 #[.slice lA ln lc,.slice none 0 0,.slice none 0 0]):=bh.out.grown aK (fun e=>bA.out (by injection e with e;exact e.symm));have j0:w3.cell? ⟨g,j*3,none⟩=some (.slice jA jn jc):=aa w3 _ af ay.out j _ ai 0 (by decide);have j1:w3.cell? ⟨g,j*3+1,none⟩=some (.slice al aj ap):=aa w3 _ af ay.out j _ ai 1 (by decide);have j2:w3.cell? ⟨g,j*3+2,none⟩=some (.slice ak am ao):=aa w3 _ af ay.out j _ ai 2 (by decide);have k0:w3.cell? ⟨g,k*3,none⟩=some (.slice lA ln lc):=aa w3 _ af ay.out k _ ab 0 (by decide);have k1:w3.cell? ⟨g,k*3+1,none⟩=some (.slice none 0 0):=aa w3 _ af ay.out k _ ab 1 (by decide);have k2:w3.cell? ⟨g,k*3+2,none⟩=some (.slice none 0 0):=aa w3 _ af ay.out k _ ab 2 (by decide);have f0:=ad.out.frozen (k*3);have f1:=ad.out.frozen (k*3+1);have f2:=ad.out.frozen (k*3+2);have a2:=ad.out.lt;go_upto_region 9 with fail
    rw[<-aM];clear j0 j1 j2 k0 k1 k2 f0 f1 f2 a2 aK aM ay a8 bh;have aq:((Kae hs k x).set k ⟨⟨jA,jn,jc⟩,⟨al,aj,ap⟩,⟨ak,am,ao⟩⟩).length=n+1:=by rw[bH];exact af
    have ac:((Kae hs k x).set k ⟨⟨jA,jn,jc⟩,⟨al,aj,ap⟩,⟨ak,am,ao⟩⟩)[j]? = some ⟨⟨jA,jn,jc⟩,⟨al,aj,ap⟩,⟨ak,am,ao⟩⟩:=by rw[b4 (Ne.symm bs.out)];exact ai
    have bw:Hid ((((w4.setCell ⟨g,j*3,none⟩ (.slice lA ln lc)).setCell ⟨g,j*3+1,none⟩ (.slice none 0 0)).setCell ⟨g,j*3+2,none⟩ (.slice none 0 0)).ownsRow w0.heap.size 132 3 (.slice (some ⟨g,0,none⟩) (n+1) c9) (n+1) ((Kae hs j x).flatMap encH3)):=by have h1:=Kzy aD.out (x:=x) ac;rw[aI.out,Qby x bf.out,HX.out] at h1;rw[HX.out];exact h1
    have a1:Hid (w9.grownBy (((w4.setCell ⟨g,j*3,none⟩ (.slice lA ln lc)).setCell ⟨g,j*3+1,none⟩ (.slice none 0 0)).setCell ⟨g,j*3+2,none⟩ (.slice none 0 0)) (some g)):=Khg bg.out _ _ _ _;have z0:=aQ.out.cell 0;have z1:=aQ.out.cell 1;have z2:=aQ.out.cell 2;simp at z0 z1 z2;have zl:=aQ.out.lt;obtain ⟨a5,ax⟩:=Kax aD.out (r:=g) rfl;have ae:Blk w4 g 132 a5:=ax;have j0:w4.cell? ⟨g,j*3,none⟩=some (.slice jA jn jc):=aa w4 _ aq aD.out j _ ac 0 (by decide);have j1:w4.cell? ⟨g,j*3+1,none⟩=some (.slice al aj ap):=aa w4 _ aq aD.out j _ ac 1 (by decide);have j2:w4.cell? ⟨g,j*3+2,none⟩=some (.slice ak am ao):=aa w4 _ aq aD.out j _ ac 2 (by decide);have f0:=ae.frozen (j*3);have f1:=ae.frozen (j*3+1);have f2:=ae.frozen (j*3+2);have gl4:=ae.lt;clear ae ax aa af aq ai ac ar ab ad bg aD aQ aY hc;go_wp2_with fail
    go_roundg j
    case measure=>have:=aI.out;omega
    case rel=>exact ⟨j,by first | rfl | go_num,by have:=aI.out;omega,by omega,a1,bw,br⟩
end
end
end Go.Proofs.YtdoiekknhnbepaaGreatDoor
