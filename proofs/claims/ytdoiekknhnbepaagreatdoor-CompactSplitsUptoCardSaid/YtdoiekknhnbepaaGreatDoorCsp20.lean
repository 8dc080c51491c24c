/- Merged (what the claim wants of): CompactW, CLawA. -/
import Derived.Test.YtdoiekknhnbepaaGreatDoorCsp15
set_option linter.unusedVariables false
set_option linter.unusedSimpArgs false
set_option maxRecDepth 1000000
set_option linter.ambiguousOpen false
set_option maxHeartbeats 8000000
namespace Go.Proofs.YtdoiekknhnbepaaGreatDoor
open List renaming getElem?_eq_getElem->cf,getElem?_eq_some_iff->ch,getElem?_cons_zero->cj,mem_map->ck,mem_append->cl,mem_singleton->cm,mem_filter->cn,mem_cons->cp,all_eq_false->cq,range->ct
open Act renaming put->cv
open Oper renaming wp_skipped->cx,wp_ran->cy,wp_called->cF
open Cont renaming series->cS
open World renaming setCell->cV,ownsRow_nil->cW
open Option.some renaming injEq->cX
open Smp renaming t->cY
open Blk renaming new->cZ,newAt->c0
open Wnd renaming start->c6
open Ser renaming mass->c8
open Exit renaming inBlock->c9
open Go.Proofs.Tryz
open Nat renaming le_refl->ce,le_trans->cz,lt_or_ge->cA,lt_of_lt_of_le->cB,le_succ->cC,eq_zero_or_pos->cE
open List renaming take_of_length_le->cg,mem_of_getElem?->ci,take_add_one->cr,map_append->cD,drop_eq_getElem_cons->cG,flatMap_singleton->cH,flatMap_append->cJ,mem_singleton->cK,mem_cons_self->cL,append_assoc->cM,length_take->cN,any_eq_true->cO,all_append->cP,any_append->cR
open Int renaming emod_add_mul_ediv->co,mul_le_mul_of_nonneg_left->cw,le_refl->cI
open _root_.Array renaming replicate->cQ
open Bool renaming and_false->cT,false_and->cU
section
open Go.Shelf Go.RowKit Go.Lib Go.Sort
open Lib renaming hid -> Jh
open List renaming setIfInBounds_toArray -> Ja, set_cons_zero -> Jb, set_cons_succ -> Jc
attribute [local go_sem ↓] Go.wp_at_zero Go.wp_at_succ
attribute [local go_sem] Later.cell
section
theorem Qba:(prog.info? 26).map (fun i=>(i.zero,i.size,i.bytes))=some (some (.slice none 0 0),1,24):=by kernel_rfl
theorem Ksv (gB:Option Addr) (gN gC:Nat) (ghs:List (Hd4×GoneP)) (A:Option Addr) (n c:Nat) (xs:List CH) (cs:List Cont) (w:World) (h:Kbz w A n xs cs) (hG:Gones w gB gN ghs) (hE:BEnv w)
  (hN:(cs.map cS).flatten.length<=1073741824) (hsum:sumS (cs.map cS).flatten<=1073741824) :
  Calls prog 13 #[.slice gB gN gC,.slice A n c] w fun e w'=>
   ((n=0\/okAll cs=false)/\e = .returned (.tuple #[.agg #[.int .i64 0,.int .i64 0,.int .i64 0,.slice none 0 0],.int .i64 190])\/
    (n≠0/\okAll cs=true)/\∃(A':Option Addr) (n' c':Nat),e = .returned (.tuple #[.agg #[.int .i64 (outC cs).1,.int .i64 (outC cs).2.1,.int .i64 (outC cs).2.2,.slice A' n' c'],.int .i64 0])/\Sers w' A' n' (Kck (outC cs).1 ghs (Kaf (cs.map cS).flatten))/\n'<=c')/\Below w.heap.size w w':=by
 obtain ⟨q,hq⟩:=i7 w.heap.size;obtain ⟨r0,aT⟩:=i7 ((outC cs).1);have HH:=Jh h;have HG:=Jh hG;have HE:=Jh hE;have HN:=Jh hN;have aU:=Jh hsum;have bd:=Jh aT;have hn:=h.n;have a3:=Jh hq;clear h hG hE hN hsum aT;go_enter func13,ntmps13
 go_upto_region 2 with fail
 obtain ⟨wa,br⟩:=i7 ((w.alloc (.cells #[.int .i64 0,.int .i64 0,.int .i64 0,.slice none 0 0] 28)).alloc (.cells #[.int .i64 0,.int .i64 0,.int .i64 0,.slice none 0 0] 28))
 have ac:Hid (RC 28 26 q w wa (.slice none 0 0) ((xs.take 0).map CH.h) (outC (cs.take 0)).1 (outC (cs.take 0)).2.1 (outC (cs.take 0)).2.2):=by
  show RC _ _ _ _ _ _ _ _ _ _
  rw[br,hq];exact ⟨((Below.refl _ _).alloc (ce _) _).alloc (by simp) _,(cZ _ _ _).alloc _,c0 (by simp),cW _ _ _ _,by simp⟩
 rw[<-br,<-hq];clear br hq;go_wp2_with fail
 go_loopg [7,14] n (fun kx s7 s14 wr=>∃i:Nat,s14 = .int .i64 (i:Int)/\i+kx=n/\Hid (RC 28 26 q w wr s7 ((xs.take i).map CH.h) (outC (cs.take i)).1 (outC (cs.take i)).2.1 (outC (cs.take i)).2.2)/\Hid (okFor r0 (cs.take i)=true))
 case atStart=>exact ⟨0,rfl,by omega,ac,(rfl:okFor r0 (cs.take 0)=true)⟩
 case round=>
  clear ac;obtain ⟨i,rfl,hi,ac,aO⟩:=hrel;have aJ:Hid (Below w.heap.size w wr):=by show Below _ _ _;rw[<-a3.out];exact ac.out.b
  obtain ⟨hl,a4⟩:=i7 ((xs.take i).map CH.h);have bj:hl.length=i:=by rw[a4,List.length_map,cN,HH.out.e.len];omega
  have bG:=Jh a4;have bf:=Jh bj;rw[<-a4] at ac;have bo:=ac.out.r;rw[bj] at bo;obtain ⟨A7,c7,bY⟩:=Kag bo;subst bY;clear bo a4 bj;rcases cA i n with hlt | hge
  .have b6:(i:Int) < (n:Int):=by omega
   have hC:=HH.out.below aJ.out;obtain ⟨b0,ar,b4,bg,bn⟩:=hC.e.2 (by omega);obtain ⟨x,hx⟩:∃x,xs[i]? = some x:=⟨xs[i]'(by rw[hC.e.len];exact hlt),cf _⟩;obtain ⟨x0,bv⟩:∃x,xs[0]? = some x:=⟨xs[0]'(by rw[hC.e.len];omega),cf _⟩;obtain ⟨k1,k2,k3,k4,k5⟩:=hC.k i x hx;have bN:=(hC.k 0 x0 bv).1
   have aT:r0=x0.r:=by
    rw[bd.out,<-bN];have hl:=hC.l
    cases cs with
    | nil=>simp at hl;omega
    | cons y l=>rfl
   obtain ⟨cc,a5⟩:=i7 (cs[i]!);rw[<-a5] at k1 k2 k3 k4;have aF:cc∈cs:=by rw[a5,i9 cs i (by rw[hC.l];exact hlt)];exact List.getElem_mem _
   have bL:=hC.z cc aF;have bB:Hid (cs.take (i+1)=cs.take i ++ [cc]):=by show _=_;rw[cr,cf (by rw[hC.l];exact hlt),a5,i9 cs i (by rw[hC.l];exact hlt)];rfl
   have bD:Hid ((xs.take (i+1)).map CH.h=hl ++ [x.h]):=by show _=_;rw[bG.out,cr,hx,cD];rfl
   have ae:∀r v,r < 4->(encCH x)[r]? = some v->wr.cell? ⟨b0,ar+i*4+r,none⟩=some v:=fun r v _ hv=>bn i x hx r v hv
   have an:wr.cell? ⟨b0,ar,none⟩=some (.int .i64 r0):=by have:=bn 0 x0 bv 0 _ rfl;rw[aT];simpa using this
   subst b4;have bq:=Jh aF;have bP:Hid (BEnv wr):=HE.out.below aJ.out
   have aj:Hid (∀W,Below wr.heap.size wr W->Calls prog 19 #[.agg #[.int .i64 x.r,.int .i64 x.f,.int .i64 x.t,.slice x.h.A x.h.n x.h.c]] W fun e w'=>(∃S0 S1 S2,e = .returned (.tuple #[.agg #[.string S0,.string S1,.string S2],.int .i64 (if fitB cc=true then 0 else 190)])/\Built cc S0 S1 S2)/\Below W.heap.size W w'):=fun W hb=>by have:=Kuf cc x.h.A x.h.n x.h.c W (k4.below hb) bL (bP.out.below hb);rw[k1,k2,k3] at this;exact this
   have ax:Hid (cc.res=x.r/\cc.frm=x.f/\cc.to_=x.t):=⟨k1,k2,k3⟩;obtain ⟨xr,xf,xt,⟨hA,ak,al⟩⟩:=x;dsimp only at aj ax bD;have y0:=ae 0 (.int .i64 xr) (by decide) rfl;have y1:=ae 1 (.int .i64 xf) (by decide) rfl;have y2:=ae 2 (.int .i64 xt) (by decide) rfl;have y3:=ae 3 (.slice hA ak al) (by decide) rfl;rw[Nat.add_zero] at y0;clear hC bn hx bv k1 k2 k3 k4 k5 bN aT a5 aF bL ae;go_upto_region 6 with fail
   obtain ⟨wp,a7⟩:=i7 (wr.alloc (.cells #[.int .i64 xr,.int .i64 xf,.int .i64 xt,.slice hA ak al] 28));obtain ⟨p9,be⟩:=i7 wr.heap.size;have bR:Below wr.heap.size wr wp:=by rw[a7];exact (Below.refl _ _).alloc (ce _) _
   have aA:Hid (Blk wp p9 28 #[.int .i64 xr,.int .i64 xf,.int .i64 xt,.slice hA ak al]):=by show Blk _ _ _ _;rw[a7,be];exact cZ _ _ _
   have z0:=aA.out.cell 0;have z1:=aA.out.cell 1;have z2:=aA.out.cell 2;have z3:=aA.out.cell 3;simp at z0 z1 z2 z3;have zl:=aA.out.lt;have bb:=Jh bR;have aE:Hid (p9≠q+1):=by have:=ac.out.z;show _≠_;omega
   rw[<-a7,<-be];clear a7 be bR y0 y1 y2 y3;go_wp2_with fail
   refine (aj.out _ bb.out).mono ?_;rintro _ w4 ⟨⟨S0,S1,S2,rfl,b7⟩,bs⟩;have aG:Below wr.heap.size wr w4:=bb.out.trans (bs.mono bb.out.size);obtain ⟨w5,a8⟩:=i7 (w4.alloc (.cells #[.string S0,.string S1,.string S2] 44));have ag:Below wr.heap.size wr w5:=by rw[a8];exact aG.alloc aG.size _
   have ao:Hid (Blk w5 p9 28 #[.int .i64 xr,.int .i64 xf,.int .i64 xt,.slice hA ak al]):=by
    show Blk _ _ _ _
    rw[a8];exact (aA.out.below bs aA.out.lt).alloc _
   have aw:Hid (RC 28 26 q w w5 (.slice A7 i c7) hl (outC (cs.take i)).1 (outC (cs.take i)).2.1 (outC (cs.take i)).2.2):=ac.out.below ag;have b8:w5.cell? ⟨b0,ar,none⟩=some (.int .i64 r0):=(ag.cell (p:=⟨b0,ar,none⟩) bg).trans an;have bp:b0 < w5.heap.size:=cB bg ag.size;clear bs aG ag b7 ac aJ aA bb aj an bg z0 z1 z2 z3 zl bP;go_upto_region 7 with fail
   try rw[<-a8]
   clear a8;obtain ⟨wf,bC⟩:=i7 (fitB cc);rw[<-bC];have bF:Hid (wf=fitB cc):=bC;clear bC
   have aD:Hid (wf=false\/xr≠r0->okAll cs=false):=fun hh=>by
    show okAll cs=false
    refine cq.2 ⟨cc,bq.out,?_⟩;rcases hh with hh | hh
    .rw[<-bF.out,hh];simp
    .rw[ax.out.1,<-bd.out,ja hh];simp
   cases wf with
   | false=>
    have bx:(if false=true then (0:Int) else 190)=190:=rfl;rw[bx];refine Kaa (by kernel_rfl) (by kernel_rfl) ?_
    repeat (go_big_quiet_step (fail))
    refine wpQuiet_nil ?_;rintro wz ⟨⟨_,av⟩,rfl⟩;have ah:=Jh (aw.out.below av);have aR:Hid (n=0\/okAll cs=false):=.inr (aD.out (.inl rfl));clear av;have aa:Hid (Blk wz q 28 #[.int .i64 0,.int .i64 0,.int .i64 0,.slice none 0 0]):=ah.out.qb;have ap:Hid (Below q w wz):=ah.out.b;clear ah;have g0:=aa.out.cell 0;have g1:=aa.out.cell 1;have g2:=aa.out.cell 2;have g3:=aa.out.cell 3;simp at g0 g1 g2 g3;have f0:=aa.out.frozen 0;have f1:=aa.out.frozen 1;have f2:=aa.out.frozen 2;have f3:=aa.out.frozen 3;have gl:=aa.out.lt;go_wp2_with fail
    (try simp only[c9,Exit.then])
    refine bodyPost_ret (Kdd rfl _ _ ⟨q,0,none⟩ (.agg #[.int .i64 0,.int .i64 0,.int .i64 0,.slice none 0 0]) rfl (run_loadVar_row _ q 28 28 _ (0,0) _ ((((aa.out.set_ 0 _).set_ 1 _).set_ 2 _).set_ 3 _) underlying28 rfl (by kernel_rfl))) rfl ?_;exact ⟨.inl ⟨aR.out,rfl⟩,by rw[<-a3.out];exact Koc ap.out _ _ _ _⟩
   | true=>
    have bZ:(if true=true then (0:Int) else 190)=0:=rfl;rw[bZ];have z0:=ao.out.cell 0;simp at z0;have zl:=ao.out.lt;rcases Int.decEq xr r0 with hxr | hxr
    .have d1:(xr != r0)=true:=bne_iff_ne.2 hxr;have d2:(xr == r0)=false:=jg.2 hxr;have d3:decide (xr=r0)=false:=ja hxr;refine Kaa (by kernel_rfl) (by kernel_rfl) ?_
     repeat (go_big_quiet_step (fail))
     refine wpQuiet_nil ?_;rintro wz ⟨⟨_,av⟩,rfl⟩;have ah:=Jh (aw.out.below av);have aR:Hid (n=0\/okAll cs=false):=.inr (aD.out (.inr hxr));clear av;have aa:Hid (Blk wz q 28 #[.int .i64 0,.int .i64 0,.int .i64 0,.slice none 0 0]):=ah.out.qb;have ap:Hid (Below q w wz):=ah.out.b;clear ah;have g0:=aa.out.cell 0;have g1:=aa.out.cell 1;have g2:=aa.out.cell 2;have g3:=aa.out.cell 3;simp at g0 g1 g2 g3;have f0:=aa.out.frozen 0;have f1:=aa.out.frozen 1;have f2:=aa.out.frozen 2;have f3:=aa.out.frozen 3;have gl:=aa.out.lt;go_wp2_with fail
     (try simp only[c9,Exit.then])
     refine bodyPost_ret (Kdd rfl _ _ ⟨q,0,none⟩ (.agg #[.int .i64 0,.int .i64 0,.int .i64 0,.slice none 0 0]) rfl (run_loadVar_row _ q 28 28 _ (0,0) _ ((((aa.out.set_ 0 _).set_ 1 _).set_ 2 _).set_ 3 _) underlying28 rfl (by kernel_rfl))) rfl ?_;exact ⟨.inl ⟨aR.out,rfl⟩,by rw[<-a3.out];exact Koc ap.out _ _ _ _⟩
    .have bi:Hid (okFor r0 (cs.take (i+1))=true):=by
      show _=true
      have h1:=aO.out;unfold okFor at h1 |-;rw[bB.out,cP,h1,List.all_cons,List.all_nil,<-bF.out,ax.out.1,hxr];simp
     subst hxr;have d1:(xr != xr)=false:=by simp
     refine Kaa (by kernel_rfl) (by kernel_rfl) ?_
     repeat (go_big_quiet_step (fail))
     refine wpQuiet_nil ?_;rintro wz ⟨⟨_,av⟩,rfl⟩;have af:Hid (Blk wz p9 28 #[.int .i64 xr,.int .i64 xf,.int .i64 xt,.slice hA ak al]):=ao.out.below av ao.out.lt;have ab:Hid (RC 28 26 q w wz (.slice A7 i c7) hl (outC (cs.take i)).1 (outC (cs.take i)).2.1 (outC (cs.take i)).2.2):=aw.out.below av;obtain ⟨fo,aL⟩:∃x,x=if i=0 then xf else (outC (cs.take i)).2.1:=⟨_,rfl⟩
     obtain ⟨to_,aI⟩:∃x,x=if i=0 then xt else (outC (cs.take i)).2.2:=⟨_,rfl⟩
     have aq:Hid (fo=(if i=0 then xf else (outC (cs.take i)).2.1)/\to_=(if i=0 then xt else (outC (cs.take i)).2.2)):=⟨aL,aI⟩
     have bA:Hid (i≠0->(outC (cs.take i)).1=xr):=fun h0=>by
      rw[bd.out]
      cases cs with
      | nil=>have:=HH.out.l;simp at this;omega
      | cons y l=>cases i with
       | zero=>exact jl rfl h0
       | succ i=>rfl
     have aW:Hid (outC (cs.take (i+1))=(xr,min fo xf,max to_ xt)):=by
      show _=_
      rcases cE i with h0 | h0
      .rw[aq.out.1,aq.out.2,jf h0,jf h0,bB.out,h0,List.take_zero,List.nil_append];show (cc.res,cc.frm,cc.to_)=_
       rw[ax.out.1,ax.out.2.1,ax.out.2.2];simp
      .rw[aq.out.1,aq.out.2,je (by omega),je (by omega),bB.out,Qef _ _ (by
        intro e;have:=HH.out.l;have h2:=jk List.length e;rw[cN,List.length_nil] at h2
        omega),ax.out.2.1,ax.out.2.2,bA.out (by omega)]
     clear av ao aw b8 bp z0 zl aD aL aI aO;go_upto_if 37 with fail
     go_cut [] from 36 to 44 (fun wj=>Hid (RC 28 26 q w wj (.slice A7 i c7) hl xr fo to_)/\Hid (Blk wj p9 28 #[.int .i64 xr,.int .i64 xf,.int .i64 xt,.slice hA ak al]))
     case first=>
      rcases cE i with h0 | h0
      .have di:((i:Int) == 0)=true:=by rw[beq_iff_eq];omega
       have e0:=af.out.cell 0;have e1:=af.out.cell 1;have e2:=af.out.cell 2;simp at e0 e1 e2;have el:=af.out.lt;have g0:=ab.out.o.cell 0;have g1:=ab.out.o.cell 1;have g2:=ab.out.o.cell 2;have g3:=ab.out.o.cell 3;simp at g0 g1 g2 g3;have f0:=ab.out.o.frozen 0;have f1:=ab.out.o.frozen 1;have f2:=ab.out.o.frozen 2;have f3:=ab.out.o.frozen 3;have gl:=ab.out.o.lt
       have aB:Hid (RC 28 26 q w ((((wz.setCell ⟨q+1,0,none⟩ (.int .i64 xr)).setCell ⟨q+1,1,none⟩ (.int .i64 xf)).setCell ⟨q+1,2,none⟩ (.int .i64 xt)).setCell ⟨q+1,3,none⟩ (.slice none 0 0)) (.slice A7 i c7) hl xr fo to_):=by
        show RC _ _ _ _ _ _ _ _ _ _
        rw[aq.out.1,aq.out.2,jf h0,jf h0];exact (((ab.out.setR (by decide) xr).setF (by decide) xf).setT (by decide) xt).setN (by decide)
       have aV:Hid (Blk ((((wz.setCell ⟨q+1,0,none⟩ (.int .i64 xr)).setCell ⟨q+1,1,none⟩ (.int .i64 xf)).setCell ⟨q+1,2,none⟩ (.int .i64 xt)).setCell ⟨q+1,3,none⟩ (.slice none 0 0)) p9 28 #[.int .i64 xr,.int .i64 xf,.int .i64 xt,.slice hA ak al]):=(((af.out.far aE.out _).far aE.out _).far aE.out _).far aE.out _;clear ab af h0;go_wp2_with fail
       go_meet
       exact ⟨aB,aV⟩
      .have di:((i:Int) == 0)=false:=by rw[jg];omega
       have aB:Hid (RC 28 26 q w wz (.slice A7 i c7) hl xr fo to_):=by
        show RC _ _ _ _ _ _ _ _ _ _
        rw[aq.out.1,aq.out.2,je (by omega),je (by omega),<-bA.out (by omega)];exact ab.out
       clear ab h0;go_wp2_with fail
       go_meet
       exact ⟨aB,af⟩
     case rest=>
      obtain ⟨aB,aV⟩:=hcut;obtain ⟨wj,rfl⟩:=i7 wc;clear ab af aq bA;go_upto_region 11 with fail
      go_cut [] from 45 to 56 (fun wv=>Hid (RC 28 26 q w wv (.slice A7 i c7) hl xr (min fo xf) (max to_ xt))/\Hid (Blk wv p9 28 #[.int .i64 xr,.int .i64 xf,.int .i64 xt,.slice hA ak al]))
      case first=>
       have aH:Hid (RC 28 26 q w wj.drew (.slice A7 i c7) hl xr fo to_):=aB.out.below (Below.refl _ _).drew;have aS:Hid (Blk wj.drew p9 28 #[.int .i64 xr,.int .i64 xf,.int .i64 xt,.slice hA ak al]):=aV.out;refine Kcv (fun w'=>w'.cell? ⟨q+1,2,none⟩=some (.int .i64 to_)/\w'.cell? ⟨p9,2,none⟩=some (.int .i64 xt)) 13 14 (by kernel_rfl) rfl ?_;rw[show cQ 14 false = #[false,false,false,false,false,false,false,false,false,false,false,false,false,false] from rfl];obtain ⟨wy,aK⟩:=i7 wj.drew;rw[<-aK] at aH aS |-;clear aK aB aV;have aN:=Jh ((aH.out.setF (by decide) (min fo xf)).setT (by decide) (max to_ xt));have aM:Hid (Blk ((wy.setCell ⟨q+1,1,none⟩ (.int .i64 (min fo xf))).setCell ⟨q+1,2,none⟩ (.int .i64 (max to_ xt))) p9 28 #[.int .i64 xr,.int .i64 xf,.int .i64 xt,.slice hA ak al]):=(aS.out.far aE.out _).far aE.out _;have o1:wy.cell? ⟨q+1,1,none⟩=some (.int .i64 fo):=aH.out.o.cell 1;have o2:wy.cell? ⟨q+1,2,none⟩=some (.int .i64 to_):=aH.out.o.cell 2;have b1:wy.cell? ⟨p9,1,none⟩=some (.int .i64 xf):=aS.out.cell 1;have b2:wy.cell? ⟨p9,2,none⟩=some (.int .i64 xt):=aS.out.cell 2;have f1:=aH.out.o.frozen 1;have bw:=aH.out.o.set_ 1 (.int .i64 (min fo xf));have f2:=bw.frozen 2;have o3:(wy.setCell ⟨q+1,1,none⟩ (.int .i64 (min fo xf))).cell? ⟨q+1,2,none⟩=some (.int .i64 to_):=bw.cell 2;have b3:(wy.setCell ⟨q+1,1,none⟩ (.int .i64 (min fo xf))).cell? ⟨p9,2,none⟩=some (.int .i64 xt):=(aS.out.far aE.out _).cell 2;have hS:wy.cell? ⟨q+1,2,none⟩=some (.int .i64 to_)/\wy.cell? ⟨p9,2,none⟩=some (.int .i64 xt):=⟨o2,b2⟩;have a6:(wy.setCell ⟨q+1,1,none⟩ (.int .i64 (min fo xf))).cell? ⟨q+1,2,none⟩=some (.int .i64 to_)/\(wy.setCell ⟨q+1,1,none⟩ (.int .i64 (min fo xf))).cell? ⟨p9,2,none⟩=some (.int .i64 xt):=⟨o3,b3⟩;clear bw;refine kP (i:=0) (d:=some 45) hS ?_;simp only[cv,Ja,Jb,Jc];refine kP (i:=2) (d:=some 47) hS ?_;simp only[cv,Ja,Jb,Jc];refine kP (i:=5) (d:=some 50) hS ?_;simp only[cv,Ja,Jb,Jc];refine kP (i:=7) (d:=some 52) hS ?_;simp only[cv,Ja,Jb,Jc];refine Kbm (i:=6) (d:=some 51) rfl rfl (by kernel_rfl) (by kernel_rfl) (by kernel_rfl) (by kernel_rfl) rfl (fun _ _ _ h=>h) (.inl ⟨by rfl,fun w hw=>by (obtain ⟨ha,hb⟩:=hw;go_simp;try rfl)⟩) hS ?_;simp only[cv,Ja,Jb,Jc];refine Kbm (i:=8) (d:=some 53) rfl rfl (by kernel_rfl) (by kernel_rfl) (by kernel_rfl) (by kernel_rfl) rfl (fun _ _ _ h=>h) (.inl ⟨by rfl,fun w hw=>by (obtain ⟨ha,hb⟩:=hw;go_simp;try rfl)⟩) hS ?_;simp only[cv,Ja,Jb,Jc];refine kP (i:=9) (d:=some 54) hS ?_;simp only[cv,Ja,Jb,Jc];refine Kgw (i:=1) (j:=3) (by kernel_rfl) rfl rfl rfl rfl ?_ ?_
       .refine cy (d:=some 46) (w':=wy) (v:=.int .i64 fo) rfl (by go_simp;try rfl) ?_;refine ⟨fun _=>hS,?_⟩;simp only[cv,Ja,Jb,Jc];refine Kah (i:=3) (by kernel_rfl) rfl rfl ?_;refine cy (d:=some 48) (w':=wy) (v:=.int .i64 xf) rfl (by go_simp;try rfl) ?_;refine ⟨fun _=>hS,?_⟩;simp only[cv,Ja,Jb,Jc];refine kP (i:=4) (d:=some 49) hS ?_;simp only[cv,Ja,Jb,Jc];refine kP (i:=10) (d:=some 55) hS ?_;simp only[cv,Ja,Jb,Jc];refine Kah (i:=11) (by kernel_rfl) rfl rfl ?_;refine cx (w':=wy.setCell ⟨q+1,1,none⟩ (.int .i64 (min fo xf))) rfl (by go_simp;try rfl) ?_;refine ⟨fun _=>a6,?_⟩;simp only[cv,Ja,Jb,Jc];refine kP (i:=12) (d:=some 56) a6 ?_;simp only[cv,Ja,Jb,Jc];refine Kah (i:=13) (by kernel_rfl) rfl rfl ?_;refine cx (w':=(wy.setCell ⟨q+1,1,none⟩ (.int .i64 (min fo xf))).setCell ⟨q+1,2,none⟩ (.int .i64 (max to_ xt))) rfl (by go_simp;try rfl) ?_;refine ⟨fun h=>jl h (by decide),?_⟩;refine Kcb (by kernel_rfl) ?_ _;simp only[cv];go_wp2_with fail
        go_meet
        exact ⟨aN,aM⟩
       .refine cy (d:=some 48) (w':=wy) (v:=.int .i64 xf) rfl (by go_simp;try rfl) ?_;refine ⟨fun _=>hS,?_⟩;simp only[cv,Ja,Jb,Jc];refine Kah (i:=1) (by kernel_rfl) rfl rfl ?_;refine cy (d:=some 46) (w':=wy) (v:=.int .i64 fo) rfl (by go_simp;try rfl) ?_;refine ⟨fun _=>hS,?_⟩;simp only[cv,Ja,Jb,Jc];refine kP (i:=4) (d:=some 49) hS ?_;simp only[cv,Ja,Jb,Jc];refine kP (i:=10) (d:=some 55) hS ?_;simp only[cv,Ja,Jb,Jc];refine Kah (i:=11) (by kernel_rfl) rfl rfl ?_;refine cx (w':=wy.setCell ⟨q+1,1,none⟩ (.int .i64 (min fo xf))) rfl (by go_simp;try rfl) ?_;refine ⟨fun _=>a6,?_⟩;simp only[cv,Ja,Jb,Jc];refine kP (i:=12) (d:=some 56) a6 ?_;simp only[cv,Ja,Jb,Jc];refine Kah (i:=13) (by kernel_rfl) rfl rfl ?_;refine cx (w':=(wy.setCell ⟨q+1,1,none⟩ (.int .i64 (min fo xf))).setCell ⟨q+1,2,none⟩ (.int .i64 (max to_ xt))) rfl (by go_simp;try rfl) ?_;refine ⟨fun h=>jl h (by decide),?_⟩;refine Kcb (by kernel_rfl) ?_ _;simp only[cv];go_wp2_with fail
        go_meet
        exact ⟨aN,aM⟩
      case rest=>
       obtain ⟨aN,aM⟩:=hcut;obtain ⟨wv,rfl⟩:=i7 wc;have b3:=aM.out.cell 3;simp at b3;have bl:=aM.out.lt;obtain ⟨i1,bE,bT,bK,bI⟩:=info_parts Qba;obtain ⟨w6,aZ⟩:=i7 (wv.alloc (.cells #[.slice hA ak al] 26));have ad:Below wv.heap.size wv w6:=by rw[aZ];exact (Below.refl _ _).alloc (ce _) _
       have ay:Blk w6 wv.heap.size 26 #[.slice hA ak al]:=by rw[aZ];exact cZ _ _ _
       have a9:Hid (RC 28 26 q w w6 (.slice A7 i c7) hl xr (min fo xf) (max to_ xt)):=aN.out.below ad;have az:w6.ownsRow (q+2) 26 1 (.slice A7 i c7) i (hl.flatMap Kfe):=by have:=a9.out.r;rw[bf.out] at this;exact this
       have bV:q+2<=w6.heap.size:=a9.out.z;have cd:q+2<=wv.heap.size:=aN.out.z;clear ad aB aV;go_wp2_with (at_builtin;(try rw[<-aZ]);refine wpList_append_own_at _ rfl _ _ 80 rfl (q+2) 26 i1 (.slice none 0 0) 1 24 underlying80 bE bT bK bI rfl (by decide) (.slice A7 i c7) i _ rfl az ⟨wv.heap.size,0,none⟩ 1 1 [.slice hA ak al] rfl rfl (Kao (l:=[.slice hA ak al]) ay) ?p2 ?p3 ?p4 ?p5 ?_)
       case p2=>rfl
       case p3=>unfold maxLen;omega
       case p4=>omega
       case p5=>omega
       intro v9 w9 hown' hgrow _ _;rw[<-aZ] at hgrow
       have cb:Hid (RC 28 26 q w w9 v9 ((xs.take (i+1)).map CH.h) (outC (cs.take (i+1))).1 (outC (cs.take (i+1))).2.1 (outC (cs.take (i+1))).2.2):=by
        show RC _ _ _ _ _ _ _ _ _ _
        rw[aW.out,bD.out];exact a9.out.more (by decide) hgrow (by rw[bf.out];exact hown')
       clear hown' hgrow az ay aZ bV cd a9 aN aM b3 bl bE bT bK bI aW;go_wp2_with fail
       go_roundg (n - (i+1))
       case measure=>omega
       case rel=>exact ⟨i+1,by first | rfl | go_num,by omega,cb,bi⟩
  .have b6:¬(i:Int) < (n:Int):=by omega
   have ba:i=n:=by omega
   have hC:=HH.out.below aJ.out;have bQ:cs.take i=cs:=cg (by rw[hC.l];omega)
   have bt:Hid (Lists wr A7 i (xs.map CH.h) (cs.map cS)):=by have h:=hC;rw[<-ba] at h;refine h.lists (base:=q+2) (c7:=c7) (t:=26) ?_;have h2:=ac.out.r;rw[bf.out,bG.out,cg (by rw[hC.e.len];omega)] at h2;exact h2
   rw[bQ] at ac aO;have bk:Hid (okAll cs=true):=by show _=true;have h:=aO.out;unfold okFor at h;rw[bd.out] at h;exact h
   have bM:=hC.l;have aC:=hC.z;clear hC bQ aO;rcases cE i with h0 | h0
   .have di:((i:Int) == 0)=true:=by rw[beq_iff_eq];omega
    have bO:cs = []:=List.eq_nil_of_length_eq_zero (by omega);have a0:Hid (Blk wr (q+1) 28 #[.int .i64 0,.int .i64 0,.int .i64 0,.slice none 0 0]):=by have h:=ac.out.o;rw[bO] at h;exact h
    obtain ⟨wz,rfl⟩:=i7 wr;have o0:=a0.out.cell 0;have o1:=a0.out.cell 1;have o2:=a0.out.cell 2;have o3:=a0.out.cell 3;simp at o0 o1 o2 o3;have ol:=a0.out.lt;have aR:Hid (n=0\/okAll cs=false):=.inl (by omega);clear bO bM aC ba h0 bt;have aa:Hid (Blk wz q 28 #[.int .i64 0,.int .i64 0,.int .i64 0,.slice none 0 0]):=ac.out.qb;have ap:Hid (Below q w wz):=ac.out.b;clear ac;have g0:=aa.out.cell 0;have g1:=aa.out.cell 1;have g2:=aa.out.cell 2;have g3:=aa.out.cell 3;simp at g0 g1 g2 g3;have f0:=aa.out.frozen 0;have f1:=aa.out.frozen 1;have f2:=aa.out.frozen 2;have f3:=aa.out.frozen 3;have gl:=aa.out.lt;go_wp2_with fail
    (try simp only[c9,Exit.then])
    refine bodyPost_ret (Kdd rfl _ _ ⟨q,0,none⟩ (.agg #[.int .i64 0,.int .i64 0,.int .i64 0,.slice none 0 0]) rfl (run_loadVar_row _ q 28 28 _ (0,0) _ ((((aa.out.set_ 0 _).set_ 1 _).set_ 2 _).set_ 3 _) underlying28 rfl (by kernel_rfl))) rfl ?_;exact ⟨.inl ⟨aR.out,rfl⟩,by rw[<-a3.out];exact Koc ap.out _ _ _ _⟩
   .have di:((i:Int) == 0)=false:=by rw[jg];omega
    obtain ⟨ro,bh⟩:=i7 ((outC cs).1);obtain ⟨fo,aL⟩:=i7 ((outC cs).2.1);obtain ⟨to_,aI⟩:=i7 ((outC cs).2.2);rw[<-bh,<-aL,<-aI] at ac;have bc:Hid ((outC cs).1=ro/\(outC cs).2.1=fo/\(outC cs).2.2=to_):=⟨bh.symm,aL.symm,aI.symm⟩
    have aQ:∀s∈(cs.map cS).flatten,s.labels.length<=1099511627776:=fun s hs=>by obtain ⟨M,hM,bU⟩:=List.mem_flatten.1 hs;obtain ⟨c,hc,rfl⟩:=ck.1 hM;exact ((aC c hc).z s bU).l
    obtain ⟨SS,bm⟩:=i7 (Kck ro ghs (Kaf (cs.map cS).flatten))
    have bJ:Hid (∀W,Below wr.heap.size wr W->Calls prog 24 #[.slice A7 i c7] W fun e w'=>∃u,e = .returned u/\∃A' n' c',u = .slice A' n' c'/\SersZ w' A' n' (Kaf (cs.map cS).flatten)/\Below W.heap.size W w'):=fun W hb=>by refine (Krw A7 i c7 _ _ (bt.out.below hb) (by omega) (by have:=HN.out;omega) (by have:=aU.out;omega)).mono ?_;rintro e w' ⟨A',n',c',rfl,s1,_,s3⟩;exact ⟨_,rfl,A',n',c',rfl,Qaq s1 aQ (by have:=HN.out;omega) (by have:=aU.out;omega),s3⟩
    have bH:Hid (∀(A':Option Addr) (n' c':Nat) W,SersZ W A' n' (Kaf (cs.map cS).flatten)->Below wr.heap.size wr W->Calls prog 34 #[.int .i64 ro,.slice A' n' c',.slice gB gN gC] W fun e w'=>∃u,e = .returned u/\∃A' n' c',u = .slice A' n' c'/\(Sers w' A' n' SS/\n'<=c')/\Below W.heap.size W w'):=fun A' n' c' W hs hb=>by rw[bm];refine (Kmx ro A' n' c' _ gB gN gC ghs W hs ((HG.out.below aJ.out).below hb)).mono ?_;rintro e w' ⟨A2,n2,c2,rfl,s1,s2,s3⟩;exact ⟨_,rfl,A2,n2,c2,rfl,⟨s1,s2⟩,s3⟩
    have bW:=Jh bm;have b9:=Jh ba;clear bh aL aI aQ bM aC bt aJ bm ba;go_upto_region 16 with fail
    go_cut [] from 63 to 73 (fun w8=>∃(A2:Option Addr) (n2 c2:Nat),Hid (Blk w8 (q+1) 28 #[.int .i64 ro,.int .i64 fo,.int .i64 to_,.slice A2 n2 c2])/\Hid (Blk w8 q 28 #[.int .i64 0,.int .i64 0,.int .i64 0,.slice none 0 0])/\Hid (Below q w w8)/\Hid (Sers w8 A2 n2 SS/\n2<=c2))
    case first=>
     refine Kcv (fun _=>True) 7 8 (by kernel_rfl) rfl ?_;rw[show cQ 8 false = #[false,false,false,false,false,false,false,false] from rfl];obtain ⟨wy,aK⟩:=i7 wr.drew;have ad:Below wr.heap.size wr wy:=by rw[aK];exact (Below.refl _ _).drew
     have bz:=ac.out.o.below ad ac.out.o.lt;rw[<-aK];clear aK;have o0:wy.cell? ⟨q+1,0,none⟩=some (.int .i64 ro):=bz.cell 0;have ol:=bz.lt;clear bz;refine kP (i:=0) (d:=some 67) trivial ?_;simp only[cv,Ja,Jb,Jc];refine kP (i:=2) (d:=some 69) trivial ?_;simp only[cv,Ja,Jb,Jc];refine kP (i:=4) (d:=some 71) trivial ?_;simp only[cv,Ja,Jb,Jc];refine Kgw (i:=1) (j:=3) (by kernel_rfl) rfl rfl rfl rfl ?_ ?_
     .refine cy (d:=some 68) (w':=wy) (v:=.int .i64 ro) rfl (by go_simp;try rfl) ?_;refine ⟨fun _=>trivial,?_⟩;simp only[cv,Ja,Jb,Jc];refine Kah (i:=3) (by kernel_rfl) rfl rfl ?_;refine cF (d:=some 70) (w1:=wy) (g:=24) (args:=#[.slice A7 i c7]) rfl (by go_simp;try rfl) (bJ.out _ ad) ?_;rintro _ w6 ⟨A5,n5,c5,rfl,aP,ag⟩;refine ⟨fun _=>trivial,?_⟩;simp only[cv,Ja,Jb,Jc];refine Kah (i:=5) (by kernel_rfl) rfl rfl ?_;refine cF (d:=some 72) (w1:=w6) (g:=34) (args:=#[.int .i64 ro,.slice A5 n5 c5,.slice gB gN gC]) rfl (by go_simp;try rfl) (bH.out A5 n5 c5 _ aP (ad.trans (ag.mono ad.size))) ?_;rintro _ w7 ⟨A2,n2,c2,rfl,aY,a2⟩;have ai:=Jh (ac.out.below ((ad.trans (ag.mono ad.size)).trans (a2.mono (cz ad.size ag.size))));refine ⟨fun _=>trivial,?_⟩;simp only[cv,Ja,Jb,Jc];have aX:Hid (Sers w7 A2 n2 SS/\n2<=c2):=aY;clear a2 aY ag aP ad;refine Kah (i:=6) (by kernel_rfl) rfl rfl ?_;refine cy (d:=some 73) (w':=w7) (v:=.pointer (some ⟨q+1,3,none⟩)) rfl (by go_simp;try rfl) ?_;refine ⟨fun _=>trivial,?_⟩;simp only[cv,Ja,Jb,Jc];have u3:w7.cell? ⟨q+1,3,none⟩=some (.slice none 0 0):=ai.out.o.cell 3;have v3:=ai.out.o.frozen 3;have vl:=ai.out.o.lt;refine Kah (i:=7) (by kernel_rfl) rfl rfl ?_;refine cx (w':=w7.setCell ⟨q+1,3,none⟩ (.slice A2 n2 c2)) rfl (by go_simp;try rfl) ?_;refine ⟨fun h=>jl h (by decide),?_⟩;refine Kcb (by kernel_rfl) ?_ _;have h1:Hid (Blk (w7.setCell ⟨q+1,3,none⟩ (.slice A2 n2 c2)) (q+1) 28 #[.int .i64 ro,.int .i64 fo,.int .i64 to_,.slice A2 n2 c2]):=ai.out.o.set_ 3 _;have h2:Hid (Blk (w7.setCell ⟨q+1,3,none⟩ (.slice A2 n2 c2)) q 28 #[.int .i64 0,.int .i64 0,.int .i64 0,.slice none 0 0]):=ai.out.qb.far (p:=⟨q+1,3,none⟩) (by show q≠q+1;omega) _;have h3:Hid (Below q w (w7.setCell ⟨q+1,3,none⟩ (.slice A2 n2 c2))):=ai.out.b.setCell (p:=⟨q+1,3,none⟩) (cC q) _;have h4:Hid (Sers (w7.setCell ⟨q+1,3,none⟩ (.slice A2 n2 c2)) A2 n2 SS/\n2<=c2):=⟨aX.out.1.setBox ai.out.o 3 _,aX.out.2⟩;simp only[cv];go_wp2_with fail
      go_meet
      exact ⟨A2,n2,c2,h1,h2,h3,h4⟩
     .refine cF (d:=some 70) (w1:=wy) (g:=24) (args:=#[.slice A7 i c7]) rfl (by go_simp;try rfl) (bJ.out _ ad) ?_;rintro _ w6 ⟨A5,n5,c5,rfl,aP,ag⟩;refine ⟨fun _=>trivial,?_⟩;simp only[cv,Ja,Jb,Jc];have ca:w6.cell? ⟨q+1,0,none⟩=some (.int .i64 ro):=(ac.out.o.below (ad.trans (ag.mono ad.size)) ac.out.o.lt).cell 0;have b5:=(ac.out.o.below (ad.trans (ag.mono ad.size)) ac.out.o.lt).lt;refine Kah (i:=1) (by kernel_rfl) rfl rfl ?_;refine cy (d:=some 68) (w':=w6) (v:=.int .i64 ro) rfl (by go_simp;try rfl) ?_;refine ⟨fun _=>trivial,?_⟩;simp only[cv,Ja,Jb,Jc];clear ca b5;refine Kah (i:=5) (by kernel_rfl) rfl rfl ?_;refine cF (d:=some 72) (w1:=w6) (g:=34) (args:=#[.int .i64 ro,.slice A5 n5 c5,.slice gB gN gC]) rfl (by go_simp;try rfl) (bH.out A5 n5 c5 _ aP (ad.trans (ag.mono ad.size))) ?_;rintro _ w7 ⟨A2,n2,c2,rfl,aY,a2⟩;have ai:=Jh (ac.out.below ((ad.trans (ag.mono ad.size)).trans (a2.mono (cz ad.size ag.size))));refine ⟨fun _=>trivial,?_⟩;simp only[cv,Ja,Jb,Jc];have aX:Hid (Sers w7 A2 n2 SS/\n2<=c2):=aY;clear a2 aY ag aP ad;refine Kah (i:=6) (by kernel_rfl) rfl rfl ?_;refine cy (d:=some 73) (w':=w7) (v:=.pointer (some ⟨q+1,3,none⟩)) rfl (by go_simp;try rfl) ?_;refine ⟨fun _=>trivial,?_⟩;simp only[cv,Ja,Jb,Jc];have u3:w7.cell? ⟨q+1,3,none⟩=some (.slice none 0 0):=ai.out.o.cell 3;have v3:=ai.out.o.frozen 3;have vl:=ai.out.o.lt;refine Kah (i:=7) (by kernel_rfl) rfl rfl ?_;refine cx (w':=w7.setCell ⟨q+1,3,none⟩ (.slice A2 n2 c2)) rfl (by go_simp;try rfl) ?_;refine ⟨fun h=>jl h (by decide),?_⟩;refine Kcb (by kernel_rfl) ?_ _;have h1:Hid (Blk (w7.setCell ⟨q+1,3,none⟩ (.slice A2 n2 c2)) (q+1) 28 #[.int .i64 ro,.int .i64 fo,.int .i64 to_,.slice A2 n2 c2]):=ai.out.o.set_ 3 _;have h2:Hid (Blk (w7.setCell ⟨q+1,3,none⟩ (.slice A2 n2 c2)) q 28 #[.int .i64 0,.int .i64 0,.int .i64 0,.slice none 0 0]):=ai.out.qb.far (p:=⟨q+1,3,none⟩) (by show q≠q+1;omega) _;have h3:Hid (Below q w (w7.setCell ⟨q+1,3,none⟩ (.slice A2 n2 c2))):=ai.out.b.setCell (p:=⟨q+1,3,none⟩) (cC q) _;have h4:Hid (Sers (w7.setCell ⟨q+1,3,none⟩ (.slice A2 n2 c2)) A2 n2 SS/\n2<=c2):=⟨aX.out.1.setBox ai.out.o 3 _,aX.out.2⟩;simp only[cv];go_wp2_with fail
      go_meet
      exact ⟨A2,n2,c2,h1,h2,h3,h4⟩
    case rest=>
     obtain ⟨A2,n2,c2,a1,am,bX,bS⟩:=hcut;obtain ⟨w8,rfl⟩:=i7 wc;have o0:=a1.out.cell 0;have o1:=a1.out.cell 1;have o2:=a1.out.cell 2;have o3:=a1.out.cell 3;simp at o0 o1 o2 o3;have ol:=a1.out.lt;have g0:=am.out.cell 0;have g1:=am.out.cell 1;have g2:=am.out.cell 2;have g3:=am.out.cell 3;simp at g0 g1 g2 g3;have f0:=am.out.frozen 0;have f1:=am.out.frozen 1;have f2:=am.out.frozen 2;have f3:=am.out.frozen 3;have gl:=am.out.lt;go_wp2_with fail
     (try simp only[c9,Exit.then])
     have q1:=am.out.set_ 0 (.int .i64 ro);have q2:=q1.set_ 1 (.int .i64 fo);have q3:=q2.set_ 2 (.int .i64 to_);have q4:=q3.set_ 3 (.slice A2 n2 c2);refine bodyPost_ret (Kdd rfl _ _ ⟨q,0,none⟩ (.agg #[.int .i64 ro,.int .i64 fo,.int .i64 to_,.slice A2 n2 c2]) rfl (run_loadVar_row _ q 28 28 _ (0,0) _ q4 underlying28 rfl (by kernel_rfl))) rfl ?_;have s1:=bS.out.1.setBox am.out 0 (.int .i64 ro);have s2:=s1.setBox (a:=ro) (b:=0) (c:=0) (Z:=none) (k:=0) (d:=0) q1 1 (.int .i64 fo);have s3:=s2.setBox (a:=ro) (b:=fo) (c:=0) (Z:=none) (k:=0) (d:=0) q2 2 (.int .i64 to_);have s4:=s3.setBox (a:=ro) (b:=fo) (c:=to_) (Z:=none) (k:=0) (d:=0) q3 3 (.slice A2 n2 c2);refine ⟨.inr ⟨⟨by have:=b9.out;omega,bk.out⟩,A2,n2,c2,?_,?_,bS.out.2⟩,?_⟩
     .rw[bc.out.1,bc.out.2.1,bc.out.2.2];rfl
     .rw[bc.out.1,<-bW.out];exact s4
     .rw[<-a3.out];exact Koc bX.out _ _ _ _
end
end
section
open Go.Shelf Go.RowKit Go.Lib Go.Sort
open Lib renaming hid -> Jh
attribute [local go_sem ↓] Go.wp_at_zero Go.wp_at_succ
attribute [local go_sem] Later.cell
section
def ser0:Ser:=⟨[⟨[97],[120]⟩],[⟨3,0⟩,⟨9,0⟩,⟨25,0⟩],[]⟩
theorem all0:allF 0 [ser0] = [ser0]:=by rfl
theorem Qii {L:List Int} (h:Kcd 10 (Kak (allF 0 [ser0])) L):L = [0,20]:=by
 rw[all0] at h;have e:Kbv 10 (Kak [ser0]) = [0,0,20]:=by rfl
 refine Kjf id h.asc (by decide) fun x=>?_
 rw[h.mem x,e];simp
def cont0:Cont:=Kay 0 10 [ser0] 0
def cont1:Cont:=Kay 0 10 [ser0] 20
theorem fit0:([cont0,cont1].all fitB)=true:=by rfl
theorem ok0:okAll [cont0,cont1]=true:=by rfl
theorem out0:outC [cont0,cont1]=(0,0,30):=by rfl
theorem mrg0:Kck 0 [] (Kaf ([cont0,cont1].map cS).flatten) = [ser0]:=by rfl
theorem ssz0:SSz [ser0]:=⟨by decide,by decide,by decide,fun s hs=>by
 rw[cK] at hs;subst hs
 exact ⟨by decide,by decide,by decide,by decide,fun x hx=>(by cases hx),by decide⟩⟩
theorem Gones.nil (w:World):Gones w none 0 []:=⟨Elems.nil_,fun x hx=>by simp at hx,by omega⟩
theorem sers0 {w w1:World} (hw:w1=((w.alloc (.cells #[.string ⟨#[97]⟩,.string ⟨#[120]⟩] 99)).alloc (.cells #[.int .i64 3,.int .u64 0,.int .i64 9,.int .u64 0,.int .i64 25,.int .u64 0] 102)).alloc (.cells #[.slice (some ⟨w.heap.size,0,none⟩) 1 1,.slice (some ⟨w.heap.size+1,0,none⟩) 3 3,.slice none 0 0] 58)) :
  Sers w1 (some ⟨w.heap.size+2,0,none⟩) 1 [ser0]:=by
 have h0:Blk w1 w.heap.size 99 #[.string ⟨#[97]⟩,.string ⟨#[120]⟩]:=by rw[hw];exact ((cZ _ _ _).alloc _).alloc _
 have h1:Blk w1 (w.heap.size+1) 102 #[.int .i64 3,.int .u64 0,.int .i64 9,.int .u64 0,.int .i64 25,.int .u64 0]:=by rw[hw];exact (c0 (by simp)).alloc _
 have h2:Blk w1 (w.heap.size+2) 58 #[.slice (some ⟨w.heap.size,0,none⟩) 1 1,.slice (some ⟨w.heap.size+1,0,none⟩) 3 3,.slice none 0 0]:=by rw[hw];exact c0 (by simp)
 refine ⟨[⟨⟨some ⟨w.heap.size,0,none⟩,1,1⟩,⟨some ⟨w.heap.size+1,0,none⟩,3,3⟩,⟨none,0,0⟩⟩],⟨rfl,fun _=>⟨w.heap.size+2,0,rfl,h2.lt,fun i x hx j v hv=>?_⟩⟩,rfl,fun i hd hi=>?_⟩
 .cases i with
  | zero=>
   simp only[cj,cX] at hx;subst hx;rw[h2.cell];simpa[encH3] using hv
  | succ i=>simp at hx
 .cases i with
  | zero=>
   simp only[cj,cX] at hi;subst hi;refine ⟨⟨rfl,fun _=>⟨w.heap.size,0,rfl,h0.lt,fun i x hx j v hv=>?_⟩⟩,ce _,⟨rfl,fun _=>⟨w.heap.size+1,0,rfl,h1.lt,fun i x hx j v hv=>?_⟩⟩,ce _,⟨rfl,fun h=>jl h (Nat.lt_irrefl _)⟩,ce _⟩
   .cases i with
    | zero=>
     have e:x=⟨[97],[120]⟩:=by have:some _=some x:=hx;injection this with this;exact this.symm
     subst e;rw[h0.cell];simpa[encLb] using hv
    | succ i=>simp[ser0] at hx
   .match i,hx with
    | 0,hx=>
     have e:x=⟨3,0⟩:=by have:some _=some x:=hx;injection this with this;exact this.symm
     subst e;rw[h1.cell]
     match j,hv with
     | 0,hv=>simpa[Kac] using hv
     | 1,hv=>simpa[Kac] using hv
     | j+2,hv=>simp[Kac] at hv
    | 1,hx=>
     have e:x=⟨9,0⟩:=by have:some _=some x:=hx;injection this with this;exact this.symm
     subst e;rw[h1.cell]
     match j,hv with
     | 0,hv=>simpa[Kac] using hv
     | 1,hv=>simpa[Kac] using hv
     | j+2,hv=>simp[Kac] at hv
    | 2,hx=>
     have e:x=⟨25,0⟩:=by have:some _=some x:=hx;injection this with this;exact this.symm
     subst e;rw[h1.cell]
     match j,hv with
     | 0,hv=>simpa[Kac] using hv
     | 1,hv=>simpa[Kac] using hv
     | j+2,hv=>simp[Kac] at hv
    | i+3,hx=>simp[ser0] at hx
  | succ i=>simp at hi
theorem Kty (w:World) (hE:BEnv w):Calls prog 16 #[] w fun e w'=>e = .returned (.bool true)/\Below w.heap.size w w':=by
 obtain ⟨w1,ae⟩:=i7 (((w.alloc (.cells #[.string ⟨#[97]⟩,.string ⟨#[120]⟩] 99)).alloc (.cells #[.int .i64 3,.int .u64 0,.int .i64 9,.int .u64 0,.int .i64 25,.int .u64 0] 102)).alloc (.cells #[.slice (some ⟨w.heap.size,0,none⟩) 1 1,.slice (some ⟨w.heap.size+1,0,none⟩) 3 3,.slice none 0 0] 58));have hS:=sers0 ae;have ao:Below w.heap.size w w1:=by rw[ae];exact (((Below.refl _ _).alloc (ce _) _).alloc (by simp) _).alloc (by simp;omega) _
 have ap:=Jh (Kmw 0 10 (some ⟨w.heap.size+2,0,none⟩) 1 1 [ser0] w1 hS (ce _) ssz0 (hE.below ao));rw[ae] at ap;have aD:=Jh ao;have HE:=Jh hE;have aL:=Jh ae;clear hS ao hE ae;go_enter func16,ntmps16
 go_wp2_with fail
 refine ap.out.mono ?_;rw[<-aL.out];rintro e2 w2 ⟨ag,aG⟩
 have ad:∃(A':Option Addr) (c':Nat) (xs:List CH),e2 = .returned (.tuple #[.slice A' 2 c',.int .i64 0])/\Kbz w2 A' 2 xs [cont0,cont1]/\2<=c':=by
  rcases ag with ⟨h,_⟩ | ⟨_,h,_⟩ | ⟨_,_,L,hL,h⟩
  .exact jl ⟨by decide,by decide⟩ h
  .exact jl ⟨by decide,by decide⟩ h
  .obtain rfl:=Qii hL;rw[all0] at h;rcases h with ⟨h,_⟩ | ⟨_,A',n',c',xs,he,hc,hn⟩
   .have h2:([cont0,cont1].all fitB)=false:=h;rw[fit0] at h2;cases h2
   .have hl:n'=2:=hc.l.symm;subst hl;exact ⟨A',c',xs,he,hc,hn⟩
 clear ag;obtain ⟨A2,c2,xs,rfl,hC,hc2⟩:=ad;have al:Hid (Below w.heap.size w w2):=aD.out.trans (aG.mono aD.out.size);have HC:=Jh hC;obtain ⟨b,am,hA,hb,aa⟩:=hC.e.2 (by decide);have ar:=hC.e.len
 match xs,ar with
 | [x0,x1],_=>
  have k0:=hC.k 0 x0 rfl;have k1:=hC.k 1 x1 rfl;have aB:x0.h.n=1:=by have:=k0.2.2.2.1.s.len;exact this.symm
  have ay:x1.f=20:=by have:=k1.2.1;exact this.symm
  have o1:w2.cell? ⟨b,am+4+1,none⟩=some (.int .i64 20):=by have:=aa 1 x1 rfl 1 _ rfl;rw[ay] at this;simpa using this
  have o0:w2.cell? ⟨b,am+3,none⟩=some (.slice x0.h.A 1 x0.h.c):=by have:=aa 0 x0 rfl 3 _ rfl;rw[aB] at this;simpa using this
  subst hA;have aF:=Jh (Ksv none 0 0 [] (some ⟨b,am,none⟩) 2 c2 [x0,x1] [cont0,cont1] w2 hC (Gones.nil w2) (HE.out.below al.out) (by decide) (by decide));clear hC aa ar k0 k1 aB ay aG ap;obtain ⟨x0A,af⟩:=i7 x0.h.A;obtain ⟨x0c,ai⟩:=i7 x0.h.c;rw[<-af,<-ai] at o0;clear af ai;go_wp2_with fail
  refine aF.out.mono ?_;rintro e3 w3 ⟨ag,aE⟩
  have ad:∃(A':Option Addr) (c':Nat),e3 = .returned (.tuple #[.agg #[.int .i64 0,.int .i64 0,.int .i64 30,.slice A' 1 c'],.int .i64 0])/\Sers w3 A' 1 [ser0]:=by
   rcases ag with ⟨h,_⟩ | ⟨_,A',n',c',he,hs,_⟩
   .rcases h with h | h
    .exact jl h (by decide)
    .rw[ok0] at h;cases h
   .rw[out0] at he hs
    have aA:Sers w3 A' n' [ser0]:=by have h0:=hs;dsimp only at h0;rw[mrg0] at h0;exact h0
    have hl:n'=1:=aA.len.symm;subst hl;exact ⟨A',c',he,aA⟩
  clear ag;obtain ⟨A3,c3,rfl,aI⟩:=ad;obtain ⟨hs,an,_,av⟩:=aI;have aC:=an.len;obtain ⟨b3,ah,aK,ac,ab⟩:=an.2 (by decide)
  match hs,aC with
  | [hd],_=>
   have ax:hd.s.n=3:=by have:=(av 0 hd rfl).s.len;exact this.symm
   obtain ⟨w4,ak⟩:=i7 (w3.alloc (.cells #[.int .i64 0,.int .i64 0,.int .i64 30,.slice A3 1 c3] 28));have aj:Below w3.heap.size w3 w4:=by rw[ak];exact (Below.refl _ _).alloc (ce _) _
   have aq:Hid (Blk w4 w3.heap.size 28 #[.int .i64 0,.int .i64 0,.int .i64 30,.slice A3 1 c3]):=by show Blk _ _ _ _;rw[ak];exact cZ _ _ _
   have aJ:Hid (Below w.heap.size w w4):=by have h1:=al.out.trans (aE.mono al.out.size);exact h1.trans (aj.mono h1.size)
   have z0:w4.cell? ⟨b3,ah+1,none⟩=some (.slice hd.s.A 3 hd.s.c):=by have:=(aj.cell (p:=⟨b3,ah+0*3+1,none⟩) ac).trans (ab 0 hd rfl 1 _ rfl);rw[ax] at this;simpa using this
   have zl:b3 < w4.heap.size:=cB ac aj.size;have aH:=Jh ak;subst aK;clear av an aC ab ax aE aj ak ac aF HC;obtain ⟨sA,az⟩:=i7 hd.s.A;obtain ⟨sc,aw⟩:=i7 hd.s.c;rw[<-az,<-aw] at z0;clear az aw;go_upto_region 5 with fail
   try rw[<-aH.out]
   have q2:=aq.out.cell 2;have q3:=aq.out.cell 3;simp at q2 q3;have ql:=aq.out.lt;clear aH;go_wp2_with fail
   go_ret
   exact ⟨rfl,aJ.out⟩
end
end
end Go.Proofs.YtdoiekknhnbepaaGreatDoor
