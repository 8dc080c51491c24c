/- Merged (what the claim wants of): CompactW, CLawA, CRef, CRefC, RTaken, RKept, RInsP. -/
import Derived.Test.YtdoiekknhnbepaaGreatDoorCmk08
set_option linter.unusedVariables false
set_option linter.unusedSimpArgs false
set_option maxRecDepth 1000000
set_option linter.ambiguousOpen false
set_option maxHeartbeats 8000000
namespace Go.Proofs.YtdoiekknhnbepaaGreatDoor
open Go renaming wpList_append_own_at->dw
open Go renaming wpQuiet_nil->dv
open List renaming getElem?_eq_getElem->cp,getElem?_eq_some_iff->cq,getElem?_append_left->ct,getElem?_cons_zero->cv,getElem?_append_right->cx,filter_eq_nil_iff->cy
open Act renaming put->cF
open Oper renaming wp_skipped->cS,wp_ran->cV,wp_called->cW
open World renaming ownsRow_nil->cX,grownBy_alloc->cY
open Blk renaming new->c4,newAt->c6
open Value renaming slice->c8,string->dg
open Cont renaming series->dk
open Option.some renaming injEq->dm
open Elems renaming of_own->dq
open Exit renaming inBlock->ds
open Go.Proofs.Tryz
open Nat renaming le_refl->co,lt_of_lt_of_le->cw,le_trans->cE,lt_or_ge->cI,le_succ->cM,sub_self->cN,eq_zero_or_pos->cO,le_of_not_lt->dj
open List renaming length_take->cr,take_of_length_le->cz,flatMap_append->cA,take_add_one->cB,length_append->cC,length_filter_le->cD,take_succ_eq_append_getElem->cG,mem_of_getElem?->cH,length_singleton->cJ,eq_nil_of_length_eq_zero->cL,filter_append->cQ,drop_eq_getElem_cons->cR,flatMap_cons->cT,filter_cons->cU,length_cons->cZ,flatMap_singleton->da,filter_nil->dc,getElem_mem->de,not_mem_nil->df,any_eq_true->dh,length_map->dl,map_append->dn,any_append->dp,mem_cons->dt
open Bool renaming noConfusion->cK,false_and->cP,and_false->dr
open _root_.Array renaming replicate->db
open Option renaming toList->dd
section
open Go.Shelf Go.RowKit Go.Lib Go.Sort
open Lib renaming hid -> Jh
open List renaming setIfInBounds_toArray -> Ja, set_cons_zero -> Jb, set_cons_succ -> Jc
attribute [local go_sem ↓] Go.wp_at_zero Go.wp_at_succ
attribute [local go_sem] Later.cell
section
theorem Qbe:(prog.info? 26).map (fun i=>(i.zero,i.size,i.bytes))=some (some (.slice none 0 0),1,24):=by kernel_rfl
theorem Kke (gB:Option Addr) (gN gC:Nat) (ghs:List (Hd4×GoneP)) (A:Option Addr) (n c:Nat) (xs:List CH) (cs:List Cont) (w:World) (h:Kbv w A n xs cs) (hG:Gones w gB gN ghs) (hE:BEnv w)
  (hN:(cs.map dk).flatten.length<=1073741824) (hsum:sumS (cs.map dk).flatten<=1073741824) :
  Calls prog 13 #[.slice gB gN gC,.slice A n c] w fun e w'=>
   ((n=0\/okAll cs=false)/\e = .returned (.tuple #[.agg #[.int .i64 0,.int .i64 0,.int .i64 0,.slice none 0 0],.int .i64 190])\/
    (n≠0/\okAll cs=true)/\∃(A':Option Addr) (n' c':Nat),e = .returned (.tuple #[.agg #[.int .i64 (outC cs).1,.int .i64 (outC cs).2.1,.int .i64 (outC cs).2.2,.slice A' n' c'],.int .i64 0])/\Sers w' A' n' (Kbn (outC cs).1 ghs (Kae (cs.map dk).flatten))/\n'<=c')/\Below w.heap.size w w':=by
 obtain⟨q,hq⟩:=jG w.heap.size;obtain⟨r0,a1⟩:=jG ((outC cs).1);have HH:=Jh h;have HG:=Jh hG;have HE:=Jh hE;have HN:=Jh hN;have aQ:=Jh hsum;have a5:=Jh a1;have hn:=h.n;have aV:=Jh hq;clear h hG hE hN hsum a1;go_enter func13,ntmps13
 go_upto_region 2 with fail
 obtain⟨wa,bx⟩:=jG ((w.alloc (.cells #[.int .i64 0,.int .i64 0,.int .i64 0,.slice none 0 0] 28)).alloc (.cells #[.int .i64 0,.int .i64 0,.int .i64 0,.slice none 0 0] 28))
 have ac:Hid (RC 28 26 q w wa (.slice none 0 0) ((xs.take 0).map CH.h) (outC (cs.take 0)).1 (outC (cs.take 0)).2.1 (outC (cs.take 0)).2.2):=by
  show RC _ _ _ _ _ _ _ _ _ _
  rw[bx,hq];exact⟨((Below.refl _ _).alloc (co _) _).alloc (by simp) _,(c4 _ _ _).alloc _,c6 (by simp),cX _ _ _ _,by simp⟩
 rw[<-bx,<-hq];clear bx hq;go_wp2_with fail
 go_loopg [7,14] n (fun kx s7 s14 wr=>∃i:Nat,s14 = .int .i64 (i:Int)/\i+kx=n/\Hid (RC 28 26 q w wr s7 ((xs.take i).map CH.h) (outC (cs.take i)).1 (outC (cs.take i)).2.1 (outC (cs.take i)).2.2)/\Hid (okFor r0 (cs.take i)=true))
 case atStart=>exact⟨0,rfl,by omega,ac,(rfl:okFor r0 (cs.take 0)=true)⟩
 case round=>
  clear ac;obtain⟨i,rfl,hi,ac,aX⟩:=hrel;have aN:Hid (Below w.heap.size w wr):=by show Below _ _ _;rw[<-aV.out];exact ac.out.b
  obtain⟨hl,a6⟩:=jG ((xs.take i).map CH.h);have bi:hl.length=i:=by rw[a6,dl,cr,HH.out.e.len];omega
  have bJ:=Jh a6;have bh:=Jh bi;rw[<-a6]at ac;have bB:=ac.out.r;rw[bi]at bB;obtain⟨A7,c7,b9⟩:=Kah bB;subst b9;clear bB a6 bi;rcases cI i n with hlt | hge
  .have ca:(i:Int)<(n:Int):=by omega
   have hC:=HH.out.below aN.out;obtain⟨b0,aq,cd,bq,bf⟩:=hC.e.2 (by omega);obtain⟨x,hx⟩:∃x,xs[i]? = some x:=⟨xs[i]'(by rw[hC.e.len];exact hlt),cp _⟩;obtain⟨x0,bj⟩:∃x,xs[0]? = some x:=⟨xs[0]'(by rw[hC.e.len];omega),cp _⟩;obtain⟨k1,k2,k3,k4,k5⟩:=hC.k i x hx;have bM:=(hC.k 0 x0 bj).1
   have a1:r0=x0.r:=by
    rw[a5.out,<-bM];have hl:=hC.l
    cases cs with
    | nil=>simp at hl;omega
    | cons y l=>rfl
   obtain⟨cc,a7⟩:=jG (cs[i]!);rw[<-a7]at k1 k2 k3 k4;have aB:cc∈cs:=by rw[a7,jI cs i (by rw[hC.l];exact hlt)];exact de _
   have bP:=hC.z cc aB;have bt:Hid (cs.take (i+1)=cs.take i ++ [cc]):=by show _=_;rw[cB,cp (by rw[hC.l];exact hlt),a7,jI cs i (by rw[hC.l];exact hlt)];rfl
   have bS:Hid ((xs.take (i+1)).map CH.h=hl ++ [x.h]):=by show _=_;rw[bJ.out,cB,hx,dn];rfl
   have af:∀r v,r<4->(encCH x)[r]? = some v->wr.cell? ⟨b0,aq+i*4+r,none⟩=some v:=fun r v _ hv=>bf i x hx r v hv
   have ao:wr.cell? ⟨b0,aq,none⟩=some (.int .i64 r0):=by have:=bf 0 x0 bj 0 _ rfl;rw[a1];simpa using this
   subst cd;have bp:=Jh aB;have bO:Hid (BEnv wr):=HE.out.below aN.out
   have aj:Hid (∀W,Below wr.heap.size wr W->Calls prog 19 #[.agg #[.int .i64 x.r,.int .i64 x.f,.int .i64 x.t,.slice x.h.A x.h.n x.h.c]] W fun e w'=>(∃S0 S1 S2,e = .returned (.tuple #[.agg #[.string S0,.string S1,.string S2],.int .i64 (if fitB cc=true then 0 else 190)])/\Built cc S0 S1 S2)/\Below W.heap.size W w'):=fun W hb=>by have:=Kun cc x.h.A x.h.n x.h.c W (k4.below hb) bP (bO.out.below hb);rw[k1,k2,k3]at this;exact this
   have az:Hid (cc.res=x.r/\cc.frm=x.f/\cc.to_=x.t):=⟨k1,k2,k3⟩;obtain⟨xr,xf,xt,⟨hA,ak,al⟩⟩:=x;dsimp only at aj az bS;have y0:=af 0 (.int .i64 xr) (by decide) rfl;have y1:=af 1 (.int .i64 xf) (by decide) rfl;have y2:=af 2 (.int .i64 xt) (by decide) rfl;have y3:=af 3 (.slice hA ak al) (by decide) rfl;rw[Nat.add_zero]at y0;clear hC bf hx bj k1 k2 k3 k4 k5 bM a1 a7 aB bP af;go_upto_region 6 with fail
   obtain⟨wp,a4⟩:=jG (wr.alloc (.cells #[.int .i64 xr,.int .i64 xf,.int .i64 xt,.slice hA ak al] 28));obtain⟨p9,bg⟩:=jG wr.heap.size;have bE:Below wr.heap.size wr wp:=by rw[a4];exact(Below.refl _ _).alloc (co _) _
   have ax:Hid (Blk wp p9 28 #[.int .i64 xr,.int .i64 xf,.int .i64 xt,.slice hA ak al]):=by show Blk _ _ _ _;rw[a4,bg];exact c4 _ _ _
   have z0:=ax.out.cell 0;have z1:=ax.out.cell 1;have z2:=ax.out.cell 2;have z3:=ax.out.cell 3;simp at z0 z1 z2 z3;have zl:=ax.out.lt;have ba:=Jh bE;have aF:Hid (p9≠q+1):=by have:=ac.out.z;show _≠_;omega
   rw[<-a4,<-bg];clear a4 bg bE y0 y1 y2 y3;go_wp2_with fail
   refine(aj.out _ ba.out).mono ?_;rintro _ w4 ⟨⟨S0,S1,S2,rfl,b5⟩,br⟩;have aD:Below wr.heap.size wr w4:=ba.out.trans (br.mono ba.out.size);obtain⟨w5,bd⟩:=jG (w4.alloc (.cells #[.string S0,.string S1,.string S2] 44));have ag:Below wr.heap.size wr w5:=by rw[bd];exact aD.alloc aD.size _
   have am:Hid (Blk w5 p9 28 #[.int .i64 xr,.int .i64 xf,.int .i64 xt,.slice hA ak al]):=by
    show Blk _ _ _ _
    rw[bd];exact(ax.out.below br ax.out.lt).alloc _
   have aw:Hid (RC 28 26 q w w5 (.slice A7 i c7) hl (outC (cs.take i)).1 (outC (cs.take i)).2.1 (outC (cs.take i)).2.2):=ac.out.below ag;have b7:w5.cell? ⟨b0,aq,none⟩=some (.int .i64 r0):=(ag.cell (p:=⟨b0,aq,none⟩) bq).trans ao;have bn:b0<w5.heap.size:=cw bq ag.size;clear br aD ag b5 ac aN ax ba aj ao bq z0 z1 z2 z3 zl bO;go_upto_region 7 with fail
   try rw[<-bd]
   clear bd;obtain⟨wf,bv⟩:=jG (fitB cc);rw[<-bv];have bT:Hid (wf=fitB cc):=bv;clear bv
   have aC:Hid (wf=false\/xr≠r0->okAll cs=false):=fun hh=>by
    show okAll cs=false
    refine List.all_eq_false.2 ⟨cc,bp.out,?_⟩;rcases hh with hh | hh
    .rw[<-bT.out,hh];simp
    .rw[az.out.1,<-a5.out,jJ hh];simp
   cases wf with
   | false=>
    have bk:(if false=true then (0:Int) else 190)=190:=rfl;rw[bk];refine Kaa (by kernel_rfl) (by kernel_rfl) ?_
    repeat (go_big_quiet_step (fail))
    refine dv ?_;rintro wz ⟨⟨_,av⟩,rfl⟩;have ai:=Jh (aw.out.below av);have aO:Hid (n=0\/okAll cs=false):=.inr (aC.out (.inl rfl));clear av;have aa:Hid (Blk wz q 28 #[.int .i64 0,.int .i64 0,.int .i64 0,.slice none 0 0]):=ai.out.qb;have an:Hid (Below q w wz):=ai.out.b;clear ai;have g0:=aa.out.cell 0;have g1:=aa.out.cell 1;have g2:=aa.out.cell 2;have g3:=aa.out.cell 3;simp at g0 g1 g2 g3;have f0:=aa.out.frozen 0;have f1:=aa.out.frozen 1;have f2:=aa.out.frozen 2;have f3:=aa.out.frozen 3;have gl:=aa.out.lt;go_wp2_with fail
    (try simp only[ds,Exit.then])
    refine bodyPost_ret (Kbx rfl _ _ ⟨q,0,none⟩ (.agg #[.int .i64 0,.int .i64 0,.int .i64 0,.slice none 0 0]) rfl (run_loadVar_row _ q 28 28 _ (0,0) _ ((((aa.out.set_ 0 _).set_ 1 _).set_ 2 _).set_ 3 _) underlying28 rfl (by kernel_rfl))) rfl ?_;exact⟨.inl ⟨aO.out,rfl⟩,by rw[<-aV.out];exact Kgb an.out _ _ _ _⟩
   | true=>
    have b8:(if true=true then (0:Int) else 190)=0:=rfl;rw[b8];have z0:=am.out.cell 0;simp at z0;have zl:=am.out.lt;rcases Int.decEq xr r0 with hxr | hxr
    .have d1:(xr != r0)=true:=bne_iff_ne.2 hxr;have d2:(xr == r0)=false:=jO.2 hxr;have d3:decide (xr=r0)=false:=jJ hxr;refine Kaa (by kernel_rfl) (by kernel_rfl) ?_
     repeat (go_big_quiet_step (fail))
     refine dv ?_;rintro wz ⟨⟨_,av⟩,rfl⟩;have ai:=Jh (aw.out.below av);have aO:Hid (n=0\/okAll cs=false):=.inr (aC.out (.inr hxr));clear av;have aa:Hid (Blk wz q 28 #[.int .i64 0,.int .i64 0,.int .i64 0,.slice none 0 0]):=ai.out.qb;have an:Hid (Below q w wz):=ai.out.b;clear ai;have g0:=aa.out.cell 0;have g1:=aa.out.cell 1;have g2:=aa.out.cell 2;have g3:=aa.out.cell 3;simp at g0 g1 g2 g3;have f0:=aa.out.frozen 0;have f1:=aa.out.frozen 1;have f2:=aa.out.frozen 2;have f3:=aa.out.frozen 3;have gl:=aa.out.lt;go_wp2_with fail
     (try simp only[ds,Exit.then])
     refine bodyPost_ret (Kbx rfl _ _ ⟨q,0,none⟩ (.agg #[.int .i64 0,.int .i64 0,.int .i64 0,.slice none 0 0]) rfl (run_loadVar_row _ q 28 28 _ (0,0) _ ((((aa.out.set_ 0 _).set_ 1 _).set_ 2 _).set_ 3 _) underlying28 rfl (by kernel_rfl))) rfl ?_;exact⟨.inl ⟨aO.out,rfl⟩,by rw[<-aV.out];exact Kgb an.out _ _ _ _⟩
    .have bA:Hid (okFor r0 (cs.take (i+1))=true):=by
      show _=true
      have h1:=aX.out;unfold okFor at h1 |-;rw[bt.out,List.all_append,h1,List.all_cons,List.all_nil,<-bT.out,az.out.1,hxr];simp
     subst hxr;have d1:(xr != xr)=false:=by simp
     refine Kaa (by kernel_rfl) (by kernel_rfl) ?_
     repeat (go_big_quiet_step (fail))
     refine dv ?_;rintro wz ⟨⟨_,av⟩,rfl⟩;have ae:Hid (Blk wz p9 28 #[.int .i64 xr,.int .i64 xf,.int .i64 xt,.slice hA ak al]):=am.out.below av am.out.lt;have ab:Hid (RC 28 26 q w wz (.slice A7 i c7) hl (outC (cs.take i)).1 (outC (cs.take i)).2.1 (outC (cs.take i)).2.2):=aw.out.below av;obtain⟨fo,aL⟩:∃x,x=if i=0 then xf else (outC (cs.take i)).2.1:=⟨_,rfl⟩
     obtain⟨to_,aK⟩:∃x,x=if i=0 then xt else (outC (cs.take i)).2.2:=⟨_,rfl⟩
     have ar:Hid (fo=(if i=0 then xf else (outC (cs.take i)).2.1)/\to_=(if i=0 then xt else (outC (cs.take i)).2.2)):=⟨aL,aK⟩
     have bs:Hid (i≠0->(outC (cs.take i)).1=xr):=fun h0=>by
      rw[a5.out]
      cases cs with
      | nil=>have:=HH.out.l;simp at this;omega
      | cons y l=>cases i with
       | zero=>exact jS rfl h0
       | succ i=>rfl
     have aR:Hid (outC (cs.take (i+1))=(xr,min fo xf,max to_ xt)):=by
      show _=_
      rcases cO i with h0 | h0
      .rw[ar.out.1,ar.out.2,jN h0,jN h0,bt.out,h0,List.take_zero,List.nil_append];show(cc.res,cc.frm,cc.to_)=_
       rw[az.out.1,az.out.2.1,az.out.2.2];simp
      .rw[ar.out.1,ar.out.2,jM (by omega),jM (by omega),bt.out,Qep _ _ (by
        intro e;have:=HH.out.l;have h2:=jR List.length e;rw[cr,List.length_nil]at h2
        omega),az.out.2.1,az.out.2.2,bs.out (by omega)]
     clear av am aw b7 bn z0 zl aC aL aK aX;go_upto_if 37 with fail
     go_cut [] from 36 to 44 (fun wj=>Hid (RC 28 26 q w wj (.slice A7 i c7) hl xr fo to_)/\Hid (Blk wj p9 28 #[.int .i64 xr,.int .i64 xf,.int .i64 xt,.slice hA ak al]))
     case first=>
      rcases cO i with h0 | h0
      .have di:((i:Int) == 0)=true:=by rw[beq_iff_eq];omega
       have e0:=ae.out.cell 0;have e1:=ae.out.cell 1;have e2:=ae.out.cell 2;simp at e0 e1 e2;have el:=ae.out.lt;have g0:=ab.out.o.cell 0;have g1:=ab.out.o.cell 1;have g2:=ab.out.o.cell 2;have g3:=ab.out.o.cell 3;simp at g0 g1 g2 g3;have f0:=ab.out.o.frozen 0;have f1:=ab.out.o.frozen 1;have f2:=ab.out.o.frozen 2;have f3:=ab.out.o.frozen 3;have gl:=ab.out.o.lt
       have aE:Hid (RC 28 26 q w ((((wz.setCell ⟨q+1,0,none⟩ (.int .i64 xr)).setCell ⟨q+1,1,none⟩ (.int .i64 xf)).setCell ⟨q+1,2,none⟩ (.int .i64 xt)).setCell ⟨q+1,3,none⟩ (.slice none 0 0)) (.slice A7 i c7) hl xr fo to_):=by
        show RC _ _ _ _ _ _ _ _ _ _
        rw[ar.out.1,ar.out.2,jN h0,jN h0];exact(((ab.out.setR (by decide) xr).setF (by decide) xf).setT (by decide) xt).setN (by decide)
       have aS:Hid (Blk ((((wz.setCell ⟨q+1,0,none⟩ (.int .i64 xr)).setCell ⟨q+1,1,none⟩ (.int .i64 xf)).setCell ⟨q+1,2,none⟩ (.int .i64 xt)).setCell ⟨q+1,3,none⟩ (.slice none 0 0)) p9 28 #[.int .i64 xr,.int .i64 xf,.int .i64 xt,.slice hA ak al]):=(((ae.out.far aF.out _).far aF.out _).far aF.out _).far aF.out _;clear ab ae h0;go_wp2_with fail
       go_meet
       exact⟨aE,aS⟩
      .have di:((i:Int) == 0)=false:=by rw[jO];omega
       have aE:Hid (RC 28 26 q w wz (.slice A7 i c7) hl xr fo to_):=by
        show RC _ _ _ _ _ _ _ _ _ _
        rw[ar.out.1,ar.out.2,jM (by omega),jM (by omega),<-bs.out (by omega)];exact ab.out
       clear ab h0;go_wp2_with fail
       go_meet
       exact⟨aE,ae⟩
     case rest=>
      obtain⟨aE,aS⟩:=hcut;obtain⟨wj,rfl⟩:=jG wc;clear ab ae ar bs;go_upto_region 11 with fail
      go_cut [] from 45 to 56 (fun wv=>Hid (RC 28 26 q w wv (.slice A7 i c7) hl xr (min fo xf) (max to_ xt))/\Hid (Blk wv p9 28 #[.int .i64 xr,.int .i64 xf,.int .i64 xt,.slice hA ak al]))
      case first=>
       have aI:Hid (RC 28 26 q w wj.drew (.slice A7 i c7) hl xr fo to_):=aE.out.below (Below.refl _ _).drew;have aP:Hid (Blk wj.drew p9 28 #[.int .i64 xr,.int .i64 xf,.int .i64 xt,.slice hA ak al]):=aS.out;refine Kck (fun w'=>w'.cell? ⟨q+1,2,none⟩=some (.int .i64 to_)/\w'.cell? ⟨p9,2,none⟩=some (.int .i64 xt)) 13 14 (by kernel_rfl) rfl ?_;rw[show db 14 false = #[false,false,false,false,false,false,false,false,false,false,false,false,false,false] from rfl];obtain⟨wy,aJ⟩:=jG wj.drew;rw[<-aJ]at aI aP |-;clear aJ aE aS;have aH:=Jh ((aI.out.setF (by decide) (min fo xf)).setT (by decide) (max to_ xt));have aM:Hid (Blk ((wy.setCell ⟨q+1,1,none⟩ (.int .i64 (min fo xf))).setCell ⟨q+1,2,none⟩ (.int .i64 (max to_ xt))) p9 28 #[.int .i64 xr,.int .i64 xf,.int .i64 xt,.slice hA ak al]):=(aP.out.far aF.out _).far aF.out _;have o1:wy.cell? ⟨q+1,1,none⟩=some (.int .i64 fo):=aI.out.o.cell 1;have o2:wy.cell? ⟨q+1,2,none⟩=some (.int .i64 to_):=aI.out.o.cell 2;have b1:wy.cell? ⟨p9,1,none⟩=some (.int .i64 xf):=aP.out.cell 1;have b2:wy.cell? ⟨p9,2,none⟩=some (.int .i64 xt):=aP.out.cell 2;have f1:=aI.out.o.frozen 1;have bz:=aI.out.o.set_ 1 (.int .i64 (min fo xf));have f2:=bz.frozen 2;have o3:(wy.setCell ⟨q+1,1,none⟩ (.int .i64 (min fo xf))).cell? ⟨q+1,2,none⟩=some (.int .i64 to_):=bz.cell 2;have b3:(wy.setCell ⟨q+1,1,none⟩ (.int .i64 (min fo xf))).cell? ⟨p9,2,none⟩=some (.int .i64 xt):=(aP.out.far aF.out _).cell 2;have hS:wy.cell? ⟨q+1,2,none⟩=some (.int .i64 to_)/\wy.cell? ⟨p9,2,none⟩=some (.int .i64 xt):=⟨o2,b2⟩;have a9:(wy.setCell ⟨q+1,1,none⟩ (.int .i64 (min fo xf))).cell? ⟨q+1,2,none⟩=some (.int .i64 to_)/\(wy.setCell ⟨q+1,1,none⟩ (.int .i64 (min fo xf))).cell? ⟨p9,2,none⟩=some (.int .i64 xt):=⟨o3,b3⟩;clear bz;refine kP (i:=0) (d:=some 45) hS ?_;simp only[cF,Ja,Jb,Jc];refine kP (i:=2) (d:=some 47) hS ?_;simp only[cF,Ja,Jb,Jc];refine kP (i:=5) (d:=some 50) hS ?_;simp only[cF,Ja,Jb,Jc];refine kP (i:=7) (d:=some 52) hS ?_;simp only[cF,Ja,Jb,Jc];refine Kbc (i:=6) (d:=some 51) rfl rfl (by kernel_rfl) (by kernel_rfl) (by kernel_rfl) (by kernel_rfl) rfl (fun _ _ _ h=>h) (.inl ⟨by rfl,fun w hw=>by (obtain⟨ha,hb⟩:=hw;go_simp;try rfl)⟩) hS ?_;simp only[cF,Ja,Jb,Jc];refine Kbc (i:=8) (d:=some 53) rfl rfl (by kernel_rfl) (by kernel_rfl) (by kernel_rfl) (by kernel_rfl) rfl (fun _ _ _ h=>h) (.inl ⟨by rfl,fun w hw=>by (obtain⟨ha,hb⟩:=hw;go_simp;try rfl)⟩) hS ?_;simp only[cF,Ja,Jb,Jc];refine kP (i:=9) (d:=some 54) hS ?_;simp only[cF,Ja,Jb,Jc];refine Kha (i:=1) (j:=3) (by kernel_rfl) rfl rfl rfl rfl ?_ ?_
       .refine cV (d:=some 46) (w':=wy) (v:=.int .i64 fo) rfl (by go_simp;try rfl) ?_;refine⟨fun _=>hS,?_⟩;simp only[cF,Ja,Jb,Jc];refine Kag (i:=3) (by kernel_rfl) rfl rfl ?_;refine cV (d:=some 48) (w':=wy) (v:=.int .i64 xf) rfl (by go_simp;try rfl) ?_;refine⟨fun _=>hS,?_⟩;simp only[cF,Ja,Jb,Jc];refine kP (i:=4) (d:=some 49) hS ?_;simp only[cF,Ja,Jb,Jc];refine kP (i:=10) (d:=some 55) hS ?_;simp only[cF,Ja,Jb,Jc];refine Kag (i:=11) (by kernel_rfl) rfl rfl ?_;refine cS (w':=wy.setCell ⟨q+1,1,none⟩ (.int .i64 (min fo xf))) rfl (by go_simp;try rfl) ?_;refine⟨fun _=>a9,?_⟩;simp only[cF,Ja,Jb,Jc];refine kP (i:=12) (d:=some 56) a9 ?_;simp only[cF,Ja,Jb,Jc];refine Kag (i:=13) (by kernel_rfl) rfl rfl ?_;refine cS (w':=(wy.setCell ⟨q+1,1,none⟩ (.int .i64 (min fo xf))).setCell ⟨q+1,2,none⟩ (.int .i64 (max to_ xt))) rfl (by go_simp;try rfl) ?_;refine⟨fun h=>jS h (by decide),?_⟩;refine Kby (by kernel_rfl) ?_ _;simp only[cF];go_wp2_with fail
        go_meet
        exact⟨aH,aM⟩
       .refine cV (d:=some 48) (w':=wy) (v:=.int .i64 xf) rfl (by go_simp;try rfl) ?_;refine⟨fun _=>hS,?_⟩;simp only[cF,Ja,Jb,Jc];refine Kag (i:=1) (by kernel_rfl) rfl rfl ?_;refine cV (d:=some 46) (w':=wy) (v:=.int .i64 fo) rfl (by go_simp;try rfl) ?_;refine⟨fun _=>hS,?_⟩;simp only[cF,Ja,Jb,Jc];refine kP (i:=4) (d:=some 49) hS ?_;simp only[cF,Ja,Jb,Jc];refine kP (i:=10) (d:=some 55) hS ?_;simp only[cF,Ja,Jb,Jc];refine Kag (i:=11) (by kernel_rfl) rfl rfl ?_;refine cS (w':=wy.setCell ⟨q+1,1,none⟩ (.int .i64 (min fo xf))) rfl (by go_simp;try rfl) ?_;refine⟨fun _=>a9,?_⟩;simp only[cF,Ja,Jb,Jc];refine kP (i:=12) (d:=some 56) a9 ?_;simp only[cF,Ja,Jb,Jc];refine Kag (i:=13) (by kernel_rfl) rfl rfl ?_;refine cS (w':=(wy.setCell ⟨q+1,1,none⟩ (.int .i64 (min fo xf))).setCell ⟨q+1,2,none⟩ (.int .i64 (max to_ xt))) rfl (by go_simp;try rfl) ?_;refine⟨fun h=>jS h (by decide),?_⟩;refine Kby (by kernel_rfl) ?_ _;simp only[cF];go_wp2_with fail
        go_meet
        exact⟨aH,aM⟩
      case rest=>
       obtain⟨aH,aM⟩:=hcut;obtain⟨wv,rfl⟩:=jG wc;have b3:=aM.out.cell 3;simp at b3;have bl:=aM.out.lt;obtain⟨i1,bI,bR,bD,bK⟩:=info_parts Qbe;obtain⟨w6,aU⟩:=jG (wv.alloc (.cells #[.slice hA ak al] 26));have ad:Below wv.heap.size wv w6:=by rw[aU];exact(Below.refl _ _).alloc (co _) _
       have aA:Blk w6 wv.heap.size 26 #[.slice hA ak al]:=by rw[aU];exact c4 _ _ _
       have bb:Hid (RC 28 26 q w w6 (.slice A7 i c7) hl xr (min fo xf) (max to_ xt)):=aH.out.below ad;have ay:w6.ownsRow (q+2) 26 1 (.slice A7 i c7) i (hl.flatMap Kes):=by have:=bb.out.r;rw[bh.out]at this;exact this
       have bY:q+2<=w6.heap.size:=bb.out.z;have cb:q+2<=wv.heap.size:=aH.out.z;clear ad aE aS;go_wp2_with (at_builtin;(try rw[<-aU]);refine dw _ rfl _ _ 80 rfl (q+2) 26 i1 (.slice none 0 0) 1 24 underlying80 bI bR bD bK rfl (by decide) (.slice A7 i c7) i _ rfl ay ⟨wv.heap.size,0,none⟩ 1 1 [.slice hA ak al] rfl rfl (Kam (l:=[.slice hA ak al]) aA) ?p2 ?p3 ?p4 ?p5 ?_)
       case p2=>rfl
       case p3=>unfold maxLen;omega
       case p4=>omega
       case p5=>omega
       intro v9 w9 hown' hgrow _ _;rw[<-aU]at hgrow
       have b6:Hid (RC 28 26 q w w9 v9 ((xs.take (i+1)).map CH.h) (outC (cs.take (i+1))).1 (outC (cs.take (i+1))).2.1 (outC (cs.take (i+1))).2.2):=by
        show RC _ _ _ _ _ _ _ _ _ _
        rw[aR.out,bS.out];exact bb.out.more (by decide) hgrow (by rw[bh.out];exact hown')
       clear hown' hgrow ay aA aU bY cb bb aH aM b3 bl bI bR bD bK aR;go_wp2_with fail
       go_roundg (n - (i+1))
       case measure=>omega
       case rel=>exact⟨i+1,by first | rfl | go_num,by omega,b6,bA⟩
  .have ca:¬(i:Int)<(n:Int):=by omega
   have a8:i=n:=by omega
   have hC:=HH.out.below aN.out;have bG:cs.take i=cs:=cz (by rw[hC.l];omega)
   have bC:Hid (Lists wr A7 i (xs.map CH.h) (cs.map dk)):=by have h:=hC;rw[<-a8]at h;refine h.lists (base:=q+2) (c7:=c7) (t:=26) ?_;have h2:=ac.out.r;rw[bh.out,bJ.out,cz (by rw[hC.e.len];omega)]at h2;exact h2
   rw[bG]at ac aX;have bw:Hid (okAll cs=true):=by show _=true;have h:=aX.out;unfold okFor at h;rw[a5.out]at h;exact h
   have bQ:=hC.l;have aG:=hC.z;clear hC bG aX;rcases cO i with h0 | h0
   .have di:((i:Int) == 0)=true:=by rw[beq_iff_eq];omega
    have bL:cs = []:=cL (by omega);have a2:Hid (Blk wr (q+1) 28 #[.int .i64 0,.int .i64 0,.int .i64 0,.slice none 0 0]):=by have h:=ac.out.o;rw[bL]at h;exact h
    obtain⟨wz,rfl⟩:=jG wr;have o0:=a2.out.cell 0;have o1:=a2.out.cell 1;have o2:=a2.out.cell 2;have o3:=a2.out.cell 3;simp at o0 o1 o2 o3;have ol:=a2.out.lt;have aO:Hid (n=0\/okAll cs=false):=.inl (by omega);clear bL bQ aG a8 h0 bC;have aa:Hid (Blk wz q 28 #[.int .i64 0,.int .i64 0,.int .i64 0,.slice none 0 0]):=ac.out.qb;have an:Hid (Below q w wz):=ac.out.b;clear ac;have g0:=aa.out.cell 0;have g1:=aa.out.cell 1;have g2:=aa.out.cell 2;have g3:=aa.out.cell 3;simp at g0 g1 g2 g3;have f0:=aa.out.frozen 0;have f1:=aa.out.frozen 1;have f2:=aa.out.frozen 2;have f3:=aa.out.frozen 3;have gl:=aa.out.lt;go_wp2_with fail
    (try simp only[ds,Exit.then])
    refine bodyPost_ret (Kbx rfl _ _ ⟨q,0,none⟩ (.agg #[.int .i64 0,.int .i64 0,.int .i64 0,.slice none 0 0]) rfl (run_loadVar_row _ q 28 28 _ (0,0) _ ((((aa.out.set_ 0 _).set_ 1 _).set_ 2 _).set_ 3 _) underlying28 rfl (by kernel_rfl))) rfl ?_;exact⟨.inl ⟨aO.out,rfl⟩,by rw[<-aV.out];exact Kgb an.out _ _ _ _⟩
   .have di:((i:Int) == 0)=false:=by rw[jO];omega
    obtain⟨ro,bo⟩:=jG ((outC cs).1);obtain⟨fo,aL⟩:=jG ((outC cs).2.1);obtain⟨to_,aK⟩:=jG ((outC cs).2.2);rw[<-bo,<-aL,<-aK]at ac;have bc:Hid ((outC cs).1=ro/\(outC cs).2.1=fo/\(outC cs).2.2=to_):=⟨bo.symm,aL.symm,aK.symm⟩
    have a3:∀s∈(cs.map dk).flatten,s.labels.length<=1099511627776:=fun s hs=>by obtain⟨M,hM,bZ⟩:=List.mem_flatten.1 hs;obtain⟨c,hc,rfl⟩:=List.mem_map.1 hM;exact((aG c hc).z s bZ).l
    obtain⟨SS,bm⟩:=jG (Kbn ro ghs (Kae (cs.map dk).flatten))
    have bH:Hid (∀W,Below wr.heap.size wr W->Calls prog 24 #[.slice A7 i c7] W fun e w'=>∃u,e = .returned u/\∃A' n' c',u = .slice A' n' c'/\SersZ w' A' n' (Kae (cs.map dk).flatten)/\Below W.heap.size W w'):=fun W hb=>by refine(Ksh A7 i c7 _ _ (bC.out.below hb) (by omega) (by have:=HN.out;omega) (by have:=aQ.out;omega)).mono ?_;rintro e w' ⟨A',n',c',rfl,s1,_,s3⟩;exact⟨_,rfl,A',n',c',rfl,Koy s1 a3 (by have:=HN.out;omega) (by have:=aQ.out;omega),s3⟩
    have bF:Hid (∀(A':Option Addr) (n' c':Nat) W,SersZ W A' n' (Kae (cs.map dk).flatten)->Below wr.heap.size wr W->Calls prog 34 #[.int .i64 ro,.slice A' n' c',.slice gB gN gC] W fun e w'=>∃u,e = .returned u/\∃A' n' c',u = .slice A' n' c'/\(Sers w' A' n' SS/\n'<=c')/\Below W.heap.size W w'):=fun A' n' c' W hs hb=>by rw[bm];refine(Kni ro A' n' c' _ gB gN gC ghs W hs ((HG.out.below aN.out).below hb)).mono ?_;rintro e w' ⟨A2,n2,c2,rfl,s1,s2,s3⟩;exact⟨_,rfl,A2,n2,c2,rfl,⟨s1,s2⟩,s3⟩
    have bV:=Jh bm;have bW:=Jh a8;clear bo aL aK a3 bQ aG bC aN bm a8;go_upto_region 16 with fail
    go_cut [] from 63 to 73 (fun w8=>∃(A2:Option Addr) (n2 c2:Nat),Hid (Blk w8 (q+1) 28 #[.int .i64 ro,.int .i64 fo,.int .i64 to_,.slice A2 n2 c2])/\Hid (Blk w8 q 28 #[.int .i64 0,.int .i64 0,.int .i64 0,.slice none 0 0])/\Hid (Below q w w8)/\Hid (Sers w8 A2 n2 SS/\n2<=c2))
    case first=>
     refine Kck (fun _=>True) 7 8 (by kernel_rfl) rfl ?_;rw[show db 8 false = #[false,false,false,false,false,false,false,false] from rfl];obtain⟨wy,aJ⟩:=jG wr.drew;have ad:Below wr.heap.size wr wy:=by rw[aJ];exact(Below.refl _ _).drew
     have be:=ac.out.o.below ad ac.out.o.lt;rw[<-aJ];clear aJ;have o0:wy.cell? ⟨q+1,0,none⟩=some (.int .i64 ro):=be.cell 0;have ol:=be.lt;clear be;refine kP (i:=0) (d:=some 67) trivial ?_;simp only[cF,Ja,Jb,Jc];refine kP (i:=2) (d:=some 69) trivial ?_;simp only[cF,Ja,Jb,Jc];refine kP (i:=4) (d:=some 71) trivial ?_;simp only[cF,Ja,Jb,Jc];refine Kha (i:=1) (j:=3) (by kernel_rfl) rfl rfl rfl rfl ?_ ?_
     .refine cV (d:=some 68) (w':=wy) (v:=.int .i64 ro) rfl (by go_simp;try rfl) ?_;refine⟨fun _=>trivial,?_⟩;simp only[cF,Ja,Jb,Jc];refine Kag (i:=3) (by kernel_rfl) rfl rfl ?_;refine cW (d:=some 70) (w1:=wy) (g:=24) (args:=#[.slice A7 i c7]) rfl (by go_simp;try rfl) (bH.out _ ad) ?_;rintro _ w6 ⟨A5,n5,c5,rfl,aZ,ag⟩;refine⟨fun _=>trivial,?_⟩;simp only[cF,Ja,Jb,Jc];refine Kag (i:=5) (by kernel_rfl) rfl rfl ?_;refine cW (d:=some 72) (w1:=w6) (g:=34) (args:=#[.int .i64 ro,.slice A5 n5 c5,.slice gB gN gC]) rfl (by go_simp;try rfl) (bF.out A5 n5 c5 _ aZ (ad.trans (ag.mono ad.size))) ?_;rintro _ w7 ⟨A2,n2,c2,rfl,aY,aT⟩;have ah:=Jh (ac.out.below ((ad.trans (ag.mono ad.size)).trans (aT.mono (cE ad.size ag.size))));refine⟨fun _=>trivial,?_⟩;simp only[cF,Ja,Jb,Jc];have aW:Hid (Sers w7 A2 n2 SS/\n2<=c2):=aY;clear aT aY ag aZ ad;refine Kag (i:=6) (by kernel_rfl) rfl rfl ?_;refine cV (d:=some 73) (w':=w7) (v:=.pointer (some ⟨q+1,3,none⟩)) rfl (by go_simp;try rfl) ?_;refine⟨fun _=>trivial,?_⟩;simp only[cF,Ja,Jb,Jc];have u3:w7.cell? ⟨q+1,3,none⟩=some (.slice none 0 0):=ah.out.o.cell 3;have v3:=ah.out.o.frozen 3;have vl:=ah.out.o.lt;refine Kag (i:=7) (by kernel_rfl) rfl rfl ?_;refine cS (w':=w7.setCell ⟨q+1,3,none⟩ (.slice A2 n2 c2)) rfl (by go_simp;try rfl) ?_;refine⟨fun h=>jS h (by decide),?_⟩;refine Kby (by kernel_rfl) ?_ _;have h1:Hid (Blk (w7.setCell ⟨q+1,3,none⟩ (.slice A2 n2 c2)) (q+1) 28 #[.int .i64 ro,.int .i64 fo,.int .i64 to_,.slice A2 n2 c2]):=ah.out.o.set_ 3 _;have h2:Hid (Blk (w7.setCell ⟨q+1,3,none⟩ (.slice A2 n2 c2)) q 28 #[.int .i64 0,.int .i64 0,.int .i64 0,.slice none 0 0]):=ah.out.qb.far (p:=⟨q+1,3,none⟩) (by show q≠q+1;omega) _;have h3:Hid (Below q w (w7.setCell ⟨q+1,3,none⟩ (.slice A2 n2 c2))):=ah.out.b.setCell (p:=⟨q+1,3,none⟩) (cM q) _;have h4:Hid (Sers (w7.setCell ⟨q+1,3,none⟩ (.slice A2 n2 c2)) A2 n2 SS/\n2<=c2):=⟨aW.out.1.setBox ah.out.o 3 _,aW.out.2⟩;simp only[cF];go_wp2_with fail
      go_meet
      exact⟨A2,n2,c2,h1,h2,h3,h4⟩
     .refine cW (d:=some 70) (w1:=wy) (g:=24) (args:=#[.slice A7 i c7]) rfl (by go_simp;try rfl) (bH.out _ ad) ?_;rintro _ w6 ⟨A5,n5,c5,rfl,aZ,ag⟩;refine⟨fun _=>trivial,?_⟩;simp only[cF,Ja,Jb,Jc];have b4:w6.cell? ⟨q+1,0,none⟩=some (.int .i64 ro):=(ac.out.o.below (ad.trans (ag.mono ad.size)) ac.out.o.lt).cell 0;have bU:=(ac.out.o.below (ad.trans (ag.mono ad.size)) ac.out.o.lt).lt;refine Kag (i:=1) (by kernel_rfl) rfl rfl ?_;refine cV (d:=some 68) (w':=w6) (v:=.int .i64 ro) rfl (by go_simp;try rfl) ?_;refine⟨fun _=>trivial,?_⟩;simp only[cF,Ja,Jb,Jc];clear b4 bU;refine Kag (i:=5) (by kernel_rfl) rfl rfl ?_;refine cW (d:=some 72) (w1:=w6) (g:=34) (args:=#[.int .i64 ro,.slice A5 n5 c5,.slice gB gN gC]) rfl (by go_simp;try rfl) (bF.out A5 n5 c5 _ aZ (ad.trans (ag.mono ad.size))) ?_;rintro _ w7 ⟨A2,n2,c2,rfl,aY,aT⟩;have ah:=Jh (ac.out.below ((ad.trans (ag.mono ad.size)).trans (aT.mono (cE ad.size ag.size))));refine⟨fun _=>trivial,?_⟩;simp only[cF,Ja,Jb,Jc];have aW:Hid (Sers w7 A2 n2 SS/\n2<=c2):=aY;clear aT aY ag aZ ad;refine Kag (i:=6) (by kernel_rfl) rfl rfl ?_;refine cV (d:=some 73) (w':=w7) (v:=.pointer (some ⟨q+1,3,none⟩)) rfl (by go_simp;try rfl) ?_;refine⟨fun _=>trivial,?_⟩;simp only[cF,Ja,Jb,Jc];have u3:w7.cell? ⟨q+1,3,none⟩=some (.slice none 0 0):=ah.out.o.cell 3;have v3:=ah.out.o.frozen 3;have vl:=ah.out.o.lt;refine Kag (i:=7) (by kernel_rfl) rfl rfl ?_;refine cS (w':=w7.setCell ⟨q+1,3,none⟩ (.slice A2 n2 c2)) rfl (by go_simp;try rfl) ?_;refine⟨fun h=>jS h (by decide),?_⟩;refine Kby (by kernel_rfl) ?_ _;have h1:Hid (Blk (w7.setCell ⟨q+1,3,none⟩ (.slice A2 n2 c2)) (q+1) 28 #[.int .i64 ro,.int .i64 fo,.int .i64 to_,.slice A2 n2 c2]):=ah.out.o.set_ 3 _;have h2:Hid (Blk (w7.setCell ⟨q+1,3,none⟩ (.slice A2 n2 c2)) q 28 #[.int .i64 0,.int .i64 0,.int .i64 0,.slice none 0 0]):=ah.out.qb.far (p:=⟨q+1,3,none⟩) (by show q≠q+1;omega) _;have h3:Hid (Below q w (w7.setCell ⟨q+1,3,none⟩ (.slice A2 n2 c2))):=ah.out.b.setCell (p:=⟨q+1,3,none⟩) (cM q) _;have h4:Hid (Sers (w7.setCell ⟨q+1,3,none⟩ (.slice A2 n2 c2)) A2 n2 SS/\n2<=c2):=⟨aW.out.1.setBox ah.out.o 3 _,aW.out.2⟩;simp only[cF];go_wp2_with fail
      go_meet
      exact⟨A2,n2,c2,h1,h2,h3,h4⟩
    case rest=>
     obtain⟨A2,n2,c2,a0,ap,bX,bN⟩:=hcut;obtain⟨w8,rfl⟩:=jG wc;have o0:=a0.out.cell 0;have o1:=a0.out.cell 1;have o2:=a0.out.cell 2;have o3:=a0.out.cell 3;simp at o0 o1 o2 o3;have ol:=a0.out.lt;have g0:=ap.out.cell 0;have g1:=ap.out.cell 1;have g2:=ap.out.cell 2;have g3:=ap.out.cell 3;simp at g0 g1 g2 g3;have f0:=ap.out.frozen 0;have f1:=ap.out.frozen 1;have f2:=ap.out.frozen 2;have f3:=ap.out.frozen 3;have gl:=ap.out.lt;go_wp2_with fail
     (try simp only[ds,Exit.then])
     have q1:=ap.out.set_ 0 (.int .i64 ro);have q2:=q1.set_ 1 (.int .i64 fo);have q3:=q2.set_ 2 (.int .i64 to_);have q4:=q3.set_ 3 (.slice A2 n2 c2);refine bodyPost_ret (Kbx rfl _ _ ⟨q,0,none⟩ (.agg #[.int .i64 ro,.int .i64 fo,.int .i64 to_,.slice A2 n2 c2]) rfl (run_loadVar_row _ q 28 28 _ (0,0) _ q4 underlying28 rfl (by kernel_rfl))) rfl ?_;have s1:=bN.out.1.setBox ap.out 0 (.int .i64 ro);have s2:=s1.setBox (a:=ro) (b:=0) (c:=0) (Z:=none) (k:=0) (d:=0) q1 1 (.int .i64 fo);have s3:=s2.setBox (a:=ro) (b:=fo) (c:=0) (Z:=none) (k:=0) (d:=0) q2 2 (.int .i64 to_);have s4:=s3.setBox (a:=ro) (b:=fo) (c:=to_) (Z:=none) (k:=0) (d:=0) q3 3 (.slice A2 n2 c2);refine⟨.inr ⟨⟨by have:=bW.out;omega,bw.out⟩,A2,n2,c2,?_,?_,bN.out.2⟩,?_⟩
     .rw[bc.out.1,bc.out.2.1,bc.out.2.2];rfl
     .rw[bc.out.1,<-bV.out];exact s4
     .rw[<-aV.out];exact Kgb bX.out _ _ _ _
end
end
section
open Go.Shelf Go.RowKit Go.Lib Go.Sort
open Lib renaming hid -> Jh
attribute [local go_sem ↓] Go.wp_at_zero Go.wp_at_succ
attribute [local go_sem] Later.cell
section
def ser0:Ser:=⟨[⟨[97],[120]⟩],[⟨3,0⟩,⟨9,0⟩,⟨25,0⟩],[]⟩
theorem all0:allF 0 [ser0] = [ser0]:=by rfl
theorem Qis {L:List Int}(h:Kfn 10 (Kau (allF 0 [ser0])) L):L = [0,20]:=by
 rw[all0]at h;have e:Kcc 10 (Kau [ser0]) = [0,0,20]:=by rfl
 refine Kjk id h.asc (by decide) fun x=>?_
 rw[h.mem x,e];simp
def cont0:Cont:=Kcd 0 10 [ser0] 0
def cont1:Cont:=Kcd 0 10 [ser0] 20
theorem fit0:([cont0,cont1].all fitB)=true:=by rfl
theorem ok0:okAll [cont0,cont1]=true:=by rfl
theorem out0:outC [cont0,cont1]=(0,0,30):=by rfl
theorem mrg0:Kbn 0 [] (Kae ([cont0,cont1].map dk).flatten) = [ser0]:=by rfl
theorem ssz0:SSz [ser0]:=⟨by decide,by decide,by decide,fun s hs=>by
 rw[List.mem_singleton]at hs;subst hs
 exact⟨by decide,by decide,by decide,by decide,fun x hx=>(by cases hx),by decide⟩⟩
theorem Gones.nil (w:World):Gones w none 0 []:=⟨Elems.nil_,fun x hx=>by simp at hx,by omega⟩
theorem sers0 {w w1:World}(hw:w1=((w.alloc (.cells #[.string ⟨#[97]⟩,.string ⟨#[120]⟩] 99)).alloc (.cells #[.int .i64 3,.int .u64 0,.int .i64 9,.int .u64 0,.int .i64 25,.int .u64 0] 102)).alloc (.cells #[.slice (some ⟨w.heap.size,0,none⟩) 1 1,.slice (some ⟨w.heap.size+1,0,none⟩) 3 3,.slice none 0 0] 58)) :
  Sers w1 (some ⟨w.heap.size+2,0,none⟩) 1 [ser0]:=by
 have h0:Blk w1 w.heap.size 99 #[.string ⟨#[97]⟩,.string ⟨#[120]⟩]:=by rw[hw];exact((c4 _ _ _).alloc _).alloc _
 have h1:Blk w1 (w.heap.size+1) 102 #[.int .i64 3,.int .u64 0,.int .i64 9,.int .u64 0,.int .i64 25,.int .u64 0]:=by rw[hw];exact(c6 (by simp)).alloc _
 have h2:Blk w1 (w.heap.size+2) 58 #[.slice (some ⟨w.heap.size,0,none⟩) 1 1,.slice (some ⟨w.heap.size+1,0,none⟩) 3 3,.slice none 0 0]:=by rw[hw];exact c6 (by simp)
 refine⟨[⟨⟨some ⟨w.heap.size,0,none⟩,1,1⟩,⟨some ⟨w.heap.size+1,0,none⟩,3,3⟩,⟨none,0,0⟩⟩],⟨rfl,fun _=>⟨w.heap.size+2,0,rfl,h2.lt,fun i x hx j v hv=>?_⟩⟩,rfl,fun i hd hi=>?_⟩
 .cases i with
  | zero=>
   simp only[cv,dm]at hx;subst hx;rw[h2.cell];simpa[encH3]using hv
  | succ i=>simp at hx
 .cases i with
  | zero=>
   simp only[cv,dm]at hi;subst hi;refine⟨⟨rfl,fun _=>⟨w.heap.size,0,rfl,h0.lt,fun i x hx j v hv=>?_⟩⟩,co _,⟨rfl,fun _=>⟨w.heap.size+1,0,rfl,h1.lt,fun i x hx j v hv=>?_⟩⟩,co _,⟨rfl,fun h=>jS h (Nat.lt_irrefl _)⟩,co _⟩
   .cases i with
    | zero=>
     have e:x=⟨[97],[120]⟩:=by have:some _=some x:=hx;injection this with this;exact this.symm
     subst e;rw[h0.cell];simpa[encLb]using hv
    | succ i=>simp[ser0]at hx
   .match i,hx with
    | 0,hx=>
     have e:x=⟨3,0⟩:=by have:some _=some x:=hx;injection this with this;exact this.symm
     subst e;rw[h1.cell]
     match j,hv with
     | 0,hv=>simpa[Kac]using hv
     | 1,hv=>simpa[Kac]using hv
     | j+2,hv=>simp[Kac]at hv
    | 1,hx=>
     have e:x=⟨9,0⟩:=by have:some _=some x:=hx;injection this with this;exact this.symm
     subst e;rw[h1.cell]
     match j,hv with
     | 0,hv=>simpa[Kac]using hv
     | 1,hv=>simpa[Kac]using hv
     | j+2,hv=>simp[Kac]at hv
    | 2,hx=>
     have e:x=⟨25,0⟩:=by have:some _=some x:=hx;injection this with this;exact this.symm
     subst e;rw[h1.cell]
     match j,hv with
     | 0,hv=>simpa[Kac]using hv
     | 1,hv=>simpa[Kac]using hv
     | j+2,hv=>simp[Kac]at hv
    | i+3,hx=>simp[ser0]at hx
  | succ i=>simp at hi
theorem Kuf (w:World) (hE:BEnv w):Calls prog 16 #[] w fun e w'=>e = .returned (.bool true)/\Below w.heap.size w w':=by
 obtain⟨w1,ai⟩:=jG (((w.alloc (.cells #[.string ⟨#[97]⟩,.string ⟨#[120]⟩] 99)).alloc (.cells #[.int .i64 3,.int .u64 0,.int .i64 9,.int .u64 0,.int .i64 25,.int .u64 0] 102)).alloc (.cells #[.slice (some ⟨w.heap.size,0,none⟩) 1 1,.slice (some ⟨w.heap.size+1,0,none⟩) 3 3,.slice none 0 0] 58));have hS:=sers0 ai;have ap:Below w.heap.size w w1:=by rw[ai];exact(((Below.refl _ _).alloc (co _) _).alloc (by simp) _).alloc (by simp;omega) _
 have an:=Jh (Kzg 0 10 (some ⟨w.heap.size+2,0,none⟩) 1 1 [ser0] w1 hS (co _) ssz0 (hE.below ap));rw[ai]at an;have ay:=Jh ap;have HE:=Jh hE;have aI:=Jh ai;clear hS ap hE ai;go_enter func16,ntmps16
 go_wp2_with fail
 refine an.out.mono ?_;rw[<-aI.out];rintro e2 w2 ⟨ag,aE⟩
 have ac:∃(A':Option Addr) (c':Nat) (xs:List CH),e2 = .returned (.tuple #[.slice A' 2 c',.int .i64 0])/\Kbv w2 A' 2 xs [cont0,cont1]/\2<=c':=by
  rcases ag with ⟨h,_⟩ | ⟨_,h,_⟩ | ⟨_,_,L,hL,h⟩
  .exact jS ⟨by decide,by decide⟩ h
  .exact jS ⟨by decide,by decide⟩ h
  .obtain rfl:=Qis hL;rw[all0]at h;rcases h with ⟨h,_⟩ | ⟨_,A',n',c',xs,he,hc,hn⟩
   .have h2:([cont0,cont1].all fitB)=false:=h;rw[fit0]at h2;cases h2
   .have hl:n'=2:=hc.l.symm;subst hl;exact⟨A',c',xs,he,hc,hn⟩
 clear ag;obtain⟨A2,c2,xs,rfl,hC,hc2⟩:=ac;have am:Hid (Below w.heap.size w w2):=ay.out.trans (aE.mono ay.out.size);have HC:=Jh hC;obtain⟨b,aq,hA,hb,aa⟩:=hC.e.2 (by decide);have aF:=hC.e.len
 match xs,aF with
 | [x0,x1],_=>
  have k0:=hC.k 0 x0 rfl;have k1:=hC.k 1 x1 rfl;have az:x0.h.n=1:=by have:=k0.2.2.2.1.s.len;exact this.symm
  have ar:x1.f=20:=by have:=k1.2.1;exact this.symm
  have o1:w2.cell? ⟨b,aq+4+1,none⟩=some (.int .i64 20):=by have:=aa 1 x1 rfl 1 _ rfl;rw[ar]at this;simpa using this
  have o0:w2.cell? ⟨b,aq+3,none⟩=some (.slice x0.h.A 1 x0.h.c):=by have:=aa 0 x0 rfl 3 _ rfl;rw[az]at this;simpa using this
  subst hA;have aG:=Jh (Kke none 0 0 [] (some ⟨b,aq,none⟩) 2 c2 [x0,x1] [cont0,cont1] w2 hC (Gones.nil w2) (HE.out.below am.out) (by decide) (by decide));clear hC aa aF k0 k1 az ar aE an;obtain⟨x0A,ae⟩:=jG x0.h.A;obtain⟨x0c,ah⟩:=jG x0.h.c;rw[<-ae,<-ah]at o0;clear ae ah;go_wp2_with fail
  refine aG.out.mono ?_;rintro e3 w3 ⟨ag,aC⟩
  have ac:∃(A':Option Addr) (c':Nat),e3 = .returned (.tuple #[.agg #[.int .i64 0,.int .i64 0,.int .i64 30,.slice A' 1 c'],.int .i64 0])/\Sers w3 A' 1 [ser0]:=by
   rcases ag with ⟨h,_⟩ | ⟨_,A',n',c',he,hs,_⟩
   .rcases h with h | h
    .exact jS h (by decide)
    .rw[ok0]at h;cases h
   .rw[out0]at he hs
    have aA:Sers w3 A' n' [ser0]:=by have h0:=hs;dsimp only at h0;rw[mrg0]at h0;exact h0
    have hl:n'=1:=aA.len.symm;subst hl;exact⟨A',c',he,aA⟩
  clear ag;obtain⟨A3,c3,rfl,aK⟩:=ac;obtain⟨hs,ao,_,ax⟩:=aK;have aD:=ao.len;obtain⟨b3,af,aL,ad,ab⟩:=ao.2 (by decide)
  match hs,aD with
  | [hd],_=>
   have av:hd.s.n=3:=by have:=(ax 0 hd rfl).s.len;exact this.symm
   obtain⟨w4,ak⟩:=jG (w3.alloc (.cells #[.int .i64 0,.int .i64 0,.int .i64 30,.slice A3 1 c3] 28));have aj:Below w3.heap.size w3 w4:=by rw[ak];exact(Below.refl _ _).alloc (co _) _
   have al:Hid (Blk w4 w3.heap.size 28 #[.int .i64 0,.int .i64 0,.int .i64 30,.slice A3 1 c3]):=by show Blk _ _ _ _;rw[ak];exact c4 _ _ _
   have aJ:Hid (Below w.heap.size w w4):=by have h1:=am.out.trans (aC.mono am.out.size);exact h1.trans (aj.mono h1.size)
   have z0:w4.cell? ⟨b3,af+1,none⟩=some (.slice hd.s.A 3 hd.s.c):=by have:=(aj.cell (p:=⟨b3,af+0*3+1,none⟩) ad).trans (ab 0 hd rfl 1 _ rfl);rw[av]at this;simpa using this
   have zl:b3<w4.heap.size:=cw ad aj.size;have aw:=Jh ak;subst aL;clear ax ao aD ab av aC aj ak ad aG HC;obtain⟨sA,aH⟩:=jG hd.s.A;obtain⟨sc,aB⟩:=jG hd.s.c;rw[<-aH,<-aB]at z0;clear aH aB;go_upto_region 5 with fail
   try rw[<-aw.out]
   have q2:=al.out.cell 2;have q3:=al.out.cell 3;simp at q2 q3;have ql:=al.out.lt;clear aw;go_wp2_with fail
   go_ret
   exact⟨rfl,aJ.out⟩
end
end
section
open Go.RowKit
open Lib renaming hid -> Jh
attribute [local go_sem ↓] Go.wp_at_zero Go.wp_at_succ
attribute [local go_sem] Later.cell
theorem Kja (l:List Lb) (A:Option Addr) (n c:Nat) (w:World) (hE:Elems w w.heap.size 2 encLb A n l) (hnm:n*32<=140737488351232) :
  Calls prog 37 #[.slice A n c] w fun e w'=>∃A c,e = .returned (.slice A l.length c)/\w'.ownsRow w.heap.size 180 2 (.slice A l.length c) l.length (l.flatMap encLb)/\Below w.heap.size w w':=by
 obtain⟨i0,ar,aw,ap,aq⟩:=info_parts Ksb;have hl:=hE.len;have HL:=Jh hl;clear hl;go_enter func37,ntmps37
 go_wp2_with fail
 go_loopg [3,8] n (fun g s3 s8 wr=>∃(i:Nat) (v3:Value),v3=s3/\i+g=n/\s8 = .int .i64 (i:Int)/\RLabs w.heap.size wr v3 (l.take i)/\Below w.heap.size w wr)
 case atStart=>exact⟨0,_,rfl,by omega,rfl,cX _ _ _ _,Below.refl _ _⟩
 case round=>
  obtain⟨i,v3,rfl,al,rfl,aa,hB⟩:=hrel;have ak:=Jh al;clear al
  by_cases hi:i<n
  .have ai:i<l.length:=by have:=HL.out;omega
   have el:decide ((i:Int)<(n:Int))=true:=by simp;omega
   have ao:decide (i<n)=true:=by simp;omega
   obtain⟨b,off,rfl,_,_⟩:=hE.2 (by omega);obtain⟨hbl,c0,c1⟩:=Kbk hE (by omega) hB i ai;obtain⟨x,hx⟩:∃x,l[i]! = x:=⟨_,rfl⟩;rw[hx]at c0 c1;obtain⟨N,hN⟩:∃N:ByteArray,(⟨x.n.toArray⟩:ByteArray)=N:=⟨_,rfl⟩;obtain⟨V,hV⟩:∃N:ByteArray,(⟨x.v.toArray⟩:ByteArray)=N:=⟨_,rfl⟩;rw[hN]at c0;rw[hV]at c1;have ax:b<wr.heap.size:=by have:=hB.size;omega
   have ad:l.take (i+1)=l.take i ++ [x]:=by rw[cG ai,<-hx,jI l i ai]
   have ag:(l.take i).length=i:=by rw[cr];omega
   obtain⟨ys,aj⟩:=jF (l.take i);rw[aj]at ag aa ad;have ac:wr.ownsRow w.heap.size 180 2 v3 i (ys.flatMap encLb):=by have:=aa;unfold RLabs at this;rw[ag]at this;exact this
   have av:=Jh ad;have an:=Jh ag;have HN:=Jh hN;have HV:=Jh hV;clear hx hN hV ad ag aj aa;go_upto_region 5 with fail
   have af:Below w.heap.size w (wr.alloc (.cells #[.string N,.string V] 99)):=hB.alloc hB.size _;have hq:Blk (wr.alloc (.cells #[.string N,.string V] 99)) wr.heap.size 99 #[.string N,.string V]:=c4 _ _ _;have ab:=ac.alloc (.cells #[.string N,.string V] 99);obtain⟨w1,am⟩:=jF (wr.alloc (.cells #[.string N,.string V] 99));obtain⟨p,hp⟩:=jF wr.heap.size;rw[am]at af hq ab |-;rw[hp]at hq |-;clear am hp c0 c1 hB ac ax;have q0:_=some (dg N):=hq.cell 0;have q1:_=some (dg V):=hq.cell 1;go_wp2_with (at_builtin;refine dw _ rfl _ _ 89 rfl w.heap.size 180 i0 (.agg #[.string ⟨#[]⟩,.string ⟨#[]⟩]) 2 32 underlying89 ar aw ap aq rfl (by decide) _ _ _ rfl (ab.alloc _) ⟨w1.heap.size,0,none⟩ 1 1 [.string N,.string V] rfl rfl ?p1 ?p2 ?p3 ?p4 ?p5 ?_)
   case p1=>exact Kam (l:=[.string N,.string V]) (c4 w1 _ _)
   case p2=>intro u hu;simp at hu;rcases hu with rfl | rfl <;> rfl
   case p3=>unfold maxLen;omega
   case p4=>omega
   case p5=>have:=af.size;simp;omega
   intro v' w2 hown' hgrow hx9 hat;have ay:Below w.heap.size w w2:=Kii af af.size ab hgrow
   have ae:RLabs w.heap.size w2 v' (l.take (i+1)):=by
    have e1:(ys ++ [x]).flatMap encLb=ys.flatMap encLb ++ [.string N,.string V]:=by rw[cA];simp[encLb,HN.out,HV.out]
    unfold RLabs;rw[av.out,e1,cC,an.out];exact hown'
   clear hown' hgrow hx9 hat ab q0 q1 hq;go_wp2_with fail
   go_roundg (gk - 1)
   case measure=>have:=ak.out;omega
   case rel=>exact⟨i+1,_,rfl,by have:=ak.out;omega,by go_num,ae,ay⟩
  .have el:decide ((i:Int)<(n:Int))=false:=by simp;omega
   have ao:decide (i<n)=false:=by simp;omega
   have ad:l.take i=l:=cz (by have:=HL.out;omega);rw[ad]at aa;unfold RLabs at aa;obtain⟨A',c',rfl⟩:=Kah aa;have ah:=Jh aa;clear ad aa;go_wp2_with fail
   go_ret
   exact⟨A',c',rfl,ah.out,hB⟩
theorem Kmq (L:List Ser) (A:Option Addr) (n c:Nat) (w:World) (hS:Sers w A n L) (hn:n<=1073741824) (hz:∀s∈L,s.samples.length<=1099511627776/\s.windows.length<=1099511627776/\s.labels.length<=1099511627776) :
  Calls prog 22 #[.slice A n c] w fun e w'=>∃(A':Option Addr) (c':Nat) (hs:List Hd3),e = .returned (.slice A' n c')/\hs.length=n/\w'.ownsRow w.heap.size 132 3 (.slice A' n c') n (hs.flatMap encH3)/\(∀(i:Nat) (h:Hd3),hs[i]? = some h->RSer w.heap.size w' h L[i]!)/\Below w.heap.size w w':=by
 obtain⟨ib,ck,cl,bY,b7⟩:=info_parts Klb;obtain⟨is,bZ,cc,b2,cb⟩:=info_parts Klc;obtain⟨iw,cd,cf,bd,ca⟩:=info_parts Kld;have aP:=hS.len;have HS:=Jh hS;have HZ:=Jh hz;have bB:=Jh aP;obtain⟨q0,bH⟩:=jF w.heap.size;have bg:=Jh bH;rw[bH];clear hS hz aP bH;go_enter func22,ntmps22
 go_wp2_with fail
 go_loopg [3,13] n (fun g s3 s13 wr=>∃(i:Nat) (hs:List Hd3) (v3:Value),v3=s3/\i+g=n/\s13 = .int .i64 (i:Int)/\hs.length=i/\wr.ownsRow q0 132 3 v3 i (hs.flatMap encH3)/\(∀(j:Nat) (h:Hd3),hs[j]? = some h->RSer q0 wr h L[j]!)/\Below q0 w wr)
 case atStart=>exact⟨0,[],_,rfl,by omega,rfl,rfl,cX _ _ _ _,fun j h hj=>by simp at hj,Below.refl _ _⟩
 case round=>
  obtain⟨i,hs,v3,rfl,bV,rfl,bO,ba,aT,hB⟩:=hrel;have bk:=Jh bV;have bo:=Jh bO;have aL:=Jh ba;have aZ:=Jh aT;have HB:=Jh hB;clear bV bO ba aT hB
  by_cases hi:i<n
  .have el:decide (i<n)=true:=by rw[jH];omega
   obtain⟨wo,rfl⟩:=jG wr;have bW:Below w.heap.size w wo:=by rw[bg.out];exact HB.out
   obtain⟨b,off,x,rfl,hbl,c0,c1,c2,bs⟩:=(HS.out.below bW).at_ hi;obtain⟨⟨LA,ln,lc⟩,⟨SA,sn,sc⟩,⟨WA,wn,a1⟩⟩:=x;have bR:i<L.length:=by have:=bB.out;omega
   have bI:=HZ.out L[i]! (by rw[jI _ i bR];exact de bR);obtain⟨sr,bh⟩:∃sr,L[i]! = sr:=⟨_,rfl⟩;rw[bh]at bs bI;have ch:=Jh bh;have b0:=Jh bs;have bz:=Jh bI;clear bh bs bI bW;go_upto_region 5 with fail
   have aN:Below wo.heap.size wo (wo.alloc (.cells #[.slice LA ln lc,.slice SA sn sc,.slice WA wn a1] 58)):=(Below.refl _ _).alloc (co _) _;have aM:Blk (wo.alloc (.cells #[.slice LA ln lc,.slice SA sn sc,.slice WA wn a1] 58)) wo.heap.size 58 #[.slice LA ln lc,.slice SA sn sc,.slice WA wn a1]:=c4 _ _ _;obtain⟨w1,bd⟩:=jF (wo.alloc (.cells #[.slice LA ln lc,.slice SA sn sc,.slice WA wn a1] 58));obtain⟨p5,a0⟩:=jF wo.heap.size;rw[bd]at aN aM |-;have af:=b0.out.below aN;have aB:=Kbh aL.out aN;have aC:∀(j:Nat) (h:Hd3),hs[j]? = some h->RSer q0 w1 h L[j]!:=fun j h hj=>(aZ.out j h hj).below aN
   have bq:Below q0 w w1:=HB.out.trans (aN.mono (by have:=HB.out.size;have:=bg.out;omega));rw[a0]at aM |-;obtain⟨q,hq⟩:=jF w1.heap.size;have aR:p5<q:=by rw[<-hq];exact aM.lt
   have aW:q0<=q:=by have:=bq.size;have:=bg.out;omega
   have k0:w1.cell? ⟨p5,0,none⟩=some (.slice LA ln lc):=aM.cell 0;have bT:=Jh aM;have a6:=Jh aB;have aV:=Jh aC;have b6:=Jh bq;have az:=Jh hq;have aH:=Kja sr.labels LA ln lc w1 af.l (by have h1:sr.labels.length=ln:=af.l.len;have:=bz.out;omega);have bn:sr.labels.length=ln:=af.l.len;rw[bn,hq]at aH;have bm:=Jh aH;have bc:=Jh af.s;have bb:=Jh af.w;have bP:=Jh bn;have b8:sn<=1099511627776:=by have h1:sr.samples.length=sn:=af.s.len;have:=bz.out;omega
   have b9:wn<=1099511627776:=by have h1:sr.windows.length=wn:=af.w.len;have:=bz.out;omega
   clear bd a0 aN aM af aB aC bq c0 c1 c2 hq aH bn;go_wp2_with fail
   refine bm.out.mono ?_;rintro _ w2 ⟨A0,ai,rfl,bS,bQ⟩;have bX:=Jh bS;have bf:=Jh bQ;clear bS bQ k0;go_upto_region 6 with fail
   have bG:q<=w2.heap.size:=by have:=bf.out.size;have:=az.out;omega
   have ax:SrfAt q w1 w2.heap.size ⟨A0,ln,ai⟩ sr.labels (.slice none 0 0) (.slice none 0 0) [] [] (w2.alloc (.cells #[.slice A0 ln ai,.slice none 0 0,.slice none 0 0] 132)):=
    ⟨c4 _ _ _,by have h1:=bX.out;rw[<-bP.out]at h1;rw[<-bP.out];exact h1.alloc _,cX _ _ _ _,cX _ _ _ _,by exact bf.out.alloc bG _,bG⟩
   obtain⟨w3,bA⟩:=jF (w2.alloc (.cells #[.slice A0 ln ai,.slice none 0 0,.slice none 0 0] 132));obtain⟨p,hp⟩:=jF w2.heap.size;rw[bA,hp]at ax;rw[bA,hp];have bC:=Jh ax;have br:=bT.out.below ax.be aR;have k1:w3.cell? ⟨p5,1,none⟩=some (.slice SA sn sc):=br.cell 1;have bw:=br.lt;clear bA hp ax br bG;go_upto_block 2 with fail
   go_cut [] (fun wz=>∃vs:Value,SrfAt q w1 p ⟨A0,ln,ai⟩ sr.labels vs (.slice none 0 0) sr.samples [] wz)
   case first=>
    go_wp2_with fail
    go_loopg [24] sn (fun g s24 wr=>∃(k:Nat) (vs:Value),k+g=sn/\s24 = .int .i64 (k:Int)/\SrfAt q w1 p ⟨A0,ln,ai⟩ sr.labels vs (.slice none 0 0) (sr.samples.take k) [] wr)
    case atStart=>exact⟨0,_,by omega,rfl,bC.out⟩
    case round=>
     obtain⟨k,vs,a7,rfl,ab⟩:=hrel;have aU:=Jh a7;have aF:=Jh ab;clear a7 ab
     by_cases hk:k<sn
     .have el:decide (k<sn)=true:=by rw[jH];omega
      obtain⟨wk,rfl⟩:=jG wr;have ab:=aF.out;have ap:(sr.samples.take k).length=k:=by have h1:=bc.out.len;rw[cr];omega
      obtain⟨VA,vc,aI⟩:=Kah ab.s;rw[ap]at aI;subst aI;have aJ:Below w1.heap.size w1 wk:=by rw[az.out];exact ab.be
      obtain⟨bx,ox,bE,cn,an⟩:=(bc.out.below aJ).get hk;subst bE;have a3:k<sr.samples.length:=by have:=bc.out.len;omega
      obtain⟨x,hx⟩:∃x,sr.samples[k]! = x:=⟨_,rfl⟩;rw[hx]at an;have e0:wk.cell? ⟨bx,ox+k*2,none⟩=some (.int .i64 x.t):=an 0 _ rfl;have e1:wk.cell? ⟨bx,ox+k*2+1,none⟩=some (.int .u64 (x.v:Int)):=an 1 _ rfl;have bt:bx<wk.heap.size:=by have:=aJ.size;omega
      have av:sr.samples.take (k+1)=sr.samples.take k ++ [x]:=by rw[cG a3,<-hx,jI _ k a3]
      have aQ:(sr.samples.take k).length=k:=by rw[cr];omega
      have bF:=Jh av;have aX:=Jh aQ;clear av aQ hx an ab ap;go_upto_region 9 with fail
      have ab:=aF.out;have aj:Below wk.heap.size wk (wk.alloc (.cells #[.int .i64 x.t,.int .u64 (x.v:Int)] 102)):=(Below.refl _ _).alloc (co _) _;have ak:Blk (wk.alloc (.cells #[.int .i64 x.t,.int .u64 (x.v:Int)] 102)) wk.heap.size 102 #[.int .i64 x.t,.int .u64 (x.v:Int)]:=c4 _ _ _;obtain⟨w4,ar⟩:=jF (wk.alloc (.cells #[.int .i64 x.t,.int .u64 (x.v:Int)] 102));obtain⟨p8,aq⟩:=jF wk.heap.size;rw[ar]at aj ak |-;have ac:=Kbh ab.s aj;have al:=Kbh ab.l aj;have am:=Kbh ab.w aj;have ae:=ab.b.below aj ab.b.lt;have aG:Below q w1 w4:=ab.be.trans (aj.mono (by have:=ab.be.size;have:=az.out;omega));rw[aq]at ak |-;have u0:w4.cell? ⟨p8,0,none⟩=some _:=ak.cell 0;have u1:w4.cell? ⟨p8,1,none⟩=some _:=ak.cell 1;have d1:w4.cell? ⟨p,1,none⟩=some _:=ae.cell 1;have bM:=ae.lt;have b1:q<=w4.heap.size:=by have:=aG.size;have:=az.out;omega
      rw[aX.out]at ac;have aK:=Jh ab;have ao:=Jh ac;have bD:=Jh al;have bJ:=Jh am;have aw:=Jh ae;have bi:=Jh aG;clear ar aq ab al am ae aG aj ak aJ;go_wp2_with (at_builtin;refine dw _ rfl _ _ 129 rfl q 133 is (.agg #[.int .i64 0,.int .u64 0]) 2 16 underlying129 bZ cc b2 cb rfl (by decide) _ _ _ rfl (ac.alloc _) ⟨w4.heap.size,0,none⟩ 1 1 [.int .i64 x.t,.int .u64 (x.v:Int)] rfl rfl (Kam (l:=[.int .i64 x.t,.int .u64 (x.v:Int)]) (c4 w4 _ _)) ?p2 ?p3 ?p4 ?p5 ?_)
      case p2=>first | exact⟨rfl,rfl⟩ | (intro u hu;simp at hu;rcases hu with rfl | rfl <;> rfl)
      case p3=>unfold maxLen;omega
      case p4=>omega
      case p5=>first | omega | (simp;omega)
      intro v' w5 hown' hgrow0 _ _;have aa:w4.grownBy w5 (c8 VA k vc).ownBlock:=(cY w4 _ _).trans hgrow0;have ac:=ao.out;have al:=bD.out;have am:=bJ.out;have ab:=aK.out;have a8:=al.kept aa (Kas al ac (by decide));have a9:=am.kept aa (Kas am ac (by decide));have ag:=aw.out.grown aa (Kak aw.out ac (by decide));have aY:Below q w1 w5:=bi.out.trans ⟨aa.os,aa.tape,aa.output,aa.size,fun j hj=>aa.block j (by omega) (fun e=>by have:=(ac.lt j e.symm).1;omega)⟩;have f1:=ag.frozen 1;have a2:=ag.lt;have d1:w5.cell? ⟨p,1,none⟩=some _:=ag.cell 1
      have ah:SrfAt q w1 p ⟨A0,ln,ai⟩ sr.labels v' (.slice none 0 0) (sr.samples.take (k+1)) [] (w5.setCell ⟨p,1,none⟩ v'):=by refine⟨by exact ag.set_ 1 _,Kbj a8 ag (by decide),?_,Kbj a9 ag (by decide),aY.setCell (p:=⟨p,1,none⟩) ab.qp _,ab.qp⟩;refine Kbj ?_ ag (by decide);rw[bF.out,cC,aX.out,cA];exact hown'
      have aE:=Jh ah;obtain⟨b4,ce,rfl⟩:=Kah hown';clear ah hown' hgrow0 aa ac al am ab a8 a9 ag aY;go_wp2_with fail
      go_roundg (gk - 1)
      case measure=>have:=aU.out;omega
      case rel=>exact⟨k+1,_,by have:=aU.out;omega,by go_num,aE.out⟩
     .have el:decide (k<sn)=false:=by rw[jK];omega
      have av:sr.samples.take k=sr.samples:=cz (by have:=bc.out.len;omega);have ab:=aF.out;rw[av]at ab;have aD:=Jh ab;clear ab av;go_wp2_with fail
      go_meet
      exact⟨_,aD.out⟩
   obtain⟨vs,ab⟩:=hcut;obtain⟨ws,rfl⟩:=jG wc;obtain⟨VS,VC,aI⟩:=Kah ab.s;subst aI;have bv:=Jh ab;have bL:=bT.out.below ab.be aR;have k2:ws.cell? ⟨p5,2,none⟩=some (.slice WA wn a1):=bL.cell 2;have bj:=bL.lt;clear bL ab k1 bw;go_upto_block 4 with fail
   go_cut [] (fun wz=>∃vs:Value,SrfAt q w1 p ⟨A0,ln,ai⟩ sr.labels (.slice VS sr.samples.length VC) vs sr.samples sr.windows wz)
   case first=>
    go_wp2_with fail
    go_loopg [42] wn (fun g s42 wr=>∃(k:Nat) (vs:Value),k+g=wn/\s42 = .int .i64 (k:Int)/\SrfAt q w1 p ⟨A0,ln,ai⟩ sr.labels (.slice VS sr.samples.length VC) vs sr.samples (sr.windows.take k) wr)
    case atStart=>exact⟨0,_,by omega,rfl,bv.out⟩
    case round=>
     obtain⟨k,vs,a7,rfl,ab⟩:=hrel;have aU:=Jh a7;have aF:=Jh ab;clear a7 ab
     by_cases hk:k<wn
     .have el:decide (k<wn)=true:=by rw[jH];omega
      obtain⟨wk,rfl⟩:=jG wr;have ab:=aF.out;have ap:(sr.windows.take k).length=k:=by have h1:=bb.out.len;rw[cr];omega
      obtain⟨VA,vc,aI⟩:=Kah ab.w;rw[ap]at aI;subst aI;have aJ:Below w1.heap.size w1 wk:=by rw[az.out];exact ab.be
      obtain⟨bx,ox,bE,cn,an⟩:=(bb.out.below aJ).get hk;subst bE;have a3:k<sr.windows.length:=by have:=bb.out.len;omega
      obtain⟨x,hx⟩:∃x,sr.windows[k]! = x:=⟨_,rfl⟩;rw[hx]at an;have e0:wk.cell? ⟨bx,ox+k*6,none⟩=some (.int .i64 x.start):=an 0 _ rfl;have e1:wk.cell? ⟨bx,ox+k*6+1,none⟩=some (.int .i64 x.count):=an 1 _ rfl;have e2:wk.cell? ⟨bx,ox+k*6+2,none⟩=some (.int .u64 (x.sum:Int)):=an 2 _ rfl;have e3:wk.cell? ⟨bx,ox+k*6+3,none⟩=some (.int .u64 (x.min:Int)):=an 3 _ rfl;have e4:wk.cell? ⟨bx,ox+k*6+4,none⟩=some (.int .u64 (x.max:Int)):=an 4 _ rfl;have e5:wk.cell? ⟨bx,ox+k*6+5,none⟩=some (.int .u64 (x.last:Int)):=an 5 _ rfl;have bt:bx<wk.heap.size:=by have:=aJ.size;omega
      have av:sr.windows.take (k+1)=sr.windows.take k ++ [x]:=by rw[cG a3,<-hx,jI _ k a3]
      have aQ:(sr.windows.take k).length=k:=by rw[cr];omega
      have bF:=Jh av;have aX:=Jh aQ;clear av aQ hx an ab ap;go_upto_region 14 with fail
      have ab:=aF.out;have aj:Below wk.heap.size wk (wk.alloc (.cells #[.int .i64 x.start,.int .i64 x.count,.int .u64 (x.sum:Int),.int .u64 (x.min:Int),.int .u64 (x.max:Int),.int .u64 (x.last:Int)] 135)):=(Below.refl _ _).alloc (co _) _;have ak:Blk (wk.alloc (.cells #[.int .i64 x.start,.int .i64 x.count,.int .u64 (x.sum:Int),.int .u64 (x.min:Int),.int .u64 (x.max:Int),.int .u64 (x.last:Int)] 135)) wk.heap.size 135 #[.int .i64 x.start,.int .i64 x.count,.int .u64 (x.sum:Int),.int .u64 (x.min:Int),.int .u64 (x.max:Int),.int .u64 (x.last:Int)]:=c4 _ _ _;obtain⟨w4,ar⟩:=jF (wk.alloc (.cells #[.int .i64 x.start,.int .i64 x.count,.int .u64 (x.sum:Int),.int .u64 (x.min:Int),.int .u64 (x.max:Int),.int .u64 (x.last:Int)] 135));obtain⟨p8,aq⟩:=jF wk.heap.size;rw[ar]at aj ak |-;have ac:=Kbh ab.w aj;have al:=Kbh ab.l aj;have am:=Kbh ab.s aj;have ae:=ab.b.below aj ab.b.lt;have aG:Below q w1 w4:=ab.be.trans (aj.mono (by have:=ab.be.size;have:=az.out;omega));rw[aq]at ak |-;have u0:w4.cell? ⟨p8,0,none⟩=some _:=ak.cell 0;have u1:w4.cell? ⟨p8,1,none⟩=some _:=ak.cell 1;have u2:w4.cell? ⟨p8,2,none⟩=some _:=ak.cell 2;have u3:w4.cell? ⟨p8,3,none⟩=some _:=ak.cell 3;have u4:w4.cell? ⟨p8,4,none⟩=some _:=ak.cell 4;have u5:w4.cell? ⟨p8,5,none⟩=some _:=ak.cell 5;have d2:w4.cell? ⟨p,2,none⟩=some _:=ae.cell 2;have bM:=ae.lt;have b1:q<=w4.heap.size:=by have:=aG.size;have:=az.out;omega
      rw[aX.out]at ac;have aK:=Jh ab;have ao:=Jh ac;have bD:=Jh al;have bJ:=Jh am;have aw:=Jh ae;have bi:=Jh aG;clear ar aq ab al am ae aG aj ak aJ;go_wp2_with (at_builtin;refine dw _ rfl _ _ 130 rfl q 136 iw (.agg #[.int .i64 0,.int .i64 0,.int .u64 0,.int .u64 0,.int .u64 0,.int .u64 0]) 6 48 underlying130 cd cf bd ca rfl (by decide) _ _ _ rfl (ac.alloc _) ⟨w4.heap.size,0,none⟩ 1 1 [.int .i64 x.start,.int .i64 x.count,.int .u64 (x.sum:Int),.int .u64 (x.min:Int),.int .u64 (x.max:Int),.int .u64 (x.last:Int)] rfl rfl (Kam (l:=[.int .i64 x.start,.int .i64 x.count,.int .u64 (x.sum:Int),.int .u64 (x.min:Int),.int .u64 (x.max:Int),.int .u64 (x.last:Int)]) (c4 w4 _ _)) ?p2 ?p3 ?p4 ?p5 ?_)
      case p2=>first | exact⟨rfl,rfl,rfl,rfl,rfl,rfl⟩ | (intro u hu;simp at hu;rcases hu with rfl | rfl | rfl | rfl | rfl | rfl <;> rfl)
      case p3=>unfold maxLen;omega
      case p4=>omega
      case p5=>first | omega | (simp;omega)
      intro v' w5 hown' hgrow0 _ _;have aa:w4.grownBy w5 (c8 VA k vc).ownBlock:=(cY w4 _ _).trans hgrow0;have ac:=ao.out;have al:=bD.out;have am:=bJ.out;have ab:=aK.out;have a8:=al.kept aa (Kas al ac (by decide));have a9:=am.kept aa (Kas am ac (by decide));have ag:=aw.out.grown aa (Kak aw.out ac (by decide));have aY:Below q w1 w5:=bi.out.trans ⟨aa.os,aa.tape,aa.output,aa.size,fun j hj=>aa.block j (by omega) (fun e=>by have:=(ac.lt j e.symm).1;omega)⟩;have f2:=ag.frozen 2;have a2:=ag.lt;have d2:w5.cell? ⟨p,2,none⟩=some _:=ag.cell 2
      have ah:SrfAt q w1 p ⟨A0,ln,ai⟩ sr.labels (.slice VS sr.samples.length VC) v' sr.samples (sr.windows.take (k+1)) (w5.setCell ⟨p,2,none⟩ v'):=by refine⟨by exact ag.set_ 2 _,Kbj a8 ag (by decide),Kbj a9 ag (by decide),?_,aY.setCell (p:=⟨p,2,none⟩) ab.qp _,ab.qp⟩;refine Kbj ?_ ag (by decide);rw[bF.out,cC,aX.out,cA];exact hown'
      have aE:=Jh ah;obtain⟨b4,ce,rfl⟩:=Kah hown';clear ah hown' hgrow0 aa ac al am ab a8 a9 ag aY;go_wp2_with fail
      go_roundg (gk - 1)
      case measure=>have:=aU.out;omega
      case rel=>exact⟨k+1,_,by have:=aU.out;omega,by go_num,aE.out⟩
     .have el:decide (k<wn)=false:=by rw[jK];omega
      have av:sr.windows.take k=sr.windows:=cz (by have:=bb.out.len;omega);have ab:=aF.out;rw[av]at ab;have aD:=Jh ab;clear ab av;go_wp2_with fail
      go_meet
      exact⟨_,aD.out⟩
   obtain⟨vs,ab⟩:=hcut;obtain⟨ww,rfl⟩:=jG wc;obtain⟨VW,WC,b3⟩:=Kah ab.w;subst b3;have ci:=az.out;have bK:Below w1.heap.size w1 ww:=by rw[ci];exact ab.be
   have ad:=Kbh a6.out bK;have ay:∀(j:Nat) (h:Hd3),hs[j]? = some h->RSer q0 ww h L[j]!:=fun j h hj=>(aV.out j h hj).below bK
   have bN:Below q0 w ww:=b6.out.trans (ab.be.mono aW);have e0:ww.cell? ⟨p,0,none⟩=some (.slice A0 ln ai):=ab.b.cell 0;have e1:ww.cell? ⟨p,1,none⟩=some (.slice VS sr.samples.length VC):=ab.b.cell 1;have e2:ww.cell? ⟨p,2,none⟩=some (.slice VW sr.windows.length WC):=ab.b.cell 2;have hpl:=ab.b.lt;have cg:q0<=ww.heap.size:=by have:=bN.size;have:=bg.out;omega
   have bp:=Jh ab;have aO:=Jh ad;have a5:=Jh ay;have bf:=Jh bN;clear ab bK ay bN k2 bj;go_wp2_with (at_builtin;go_loud (refine dw _ rfl _ _ 32 rfl q0 132 ib (.agg #[.slice none 0 0,.slice none 0 0,.slice none 0 0]) 3 72 underlying32 ck cl bY b7 rfl (by decide) _ _ _ rfl (ad.alloc _) ⟨ww.heap.size,0,none⟩ 1 1 [.slice A0 ln ai,.slice VS sr.samples.length VC,.slice VW sr.windows.length WC] rfl rfl (Kam (l:=[.slice A0 ln ai,.slice VS sr.samples.length VC,.slice VW sr.windows.length WC]) (c4 ww _ _)) ?p2 ?p3 ?p4 ?p5 ?_))
   case p2=>first | exact⟨rfl,rfl,rfl⟩ | (intro u hu;simp at hu;rcases hu with rfl | rfl | rfl <;> rfl)
   case p3=>unfold maxLen;omega
   case p4=>omega
   case p5=>first | omega | (simp;omega)
   intro v' w6 hown' hgrow0 _ _;have aa:=(cY ww _ _).trans hgrow0;have ad:=aO.out;have ab:=bp.out;have ah:RSer q0 w6 ⟨⟨A0,ln,ai⟩,⟨VS,sr.samples.length,VC⟩,⟨VW,sr.windows.length,WC⟩⟩ sr:=RSer.grown (RSer.mono ⟨ab.l,ab.s,ab.w⟩ aW) ad aa
   have a4:∀(j:Nat) (h:Hd3),(hs ++ [⟨⟨A0,ln,ai⟩,⟨VS,sr.samples.length,VC⟩,⟨VW,sr.windows.length,WC⟩⟩])[j]? = some h->RSer q0 w6 h L[j]!:=by
    intro j h hj
    by_cases hjl:j<hs.length
    .rw[ct hjl]at hj;exact RSer.grown (a5.out j h hj) ad aa
    .have cm:j=hs.length:=by
      have:=(cq.1 hj).1;rw[cC,cJ]at this;omega
     subst cm;have e:h=⟨⟨A0,ln,ai⟩,⟨VS,sr.samples.length,VC⟩,⟨VW,sr.windows.length,WC⟩⟩:=by simpa using hj.symm
     subst e;rw[bo.out,ch.out];exact ah
   have bU:Below q0 w w6:=bf.out.trans ⟨aa.os,aa.tape,aa.output,aa.size,fun j hj=>aa.block j (by omega) (fun e=>by have:=(ad.lt j e.symm).1;omega)⟩
   have aA:w6.ownsRow q0 132 3 v' (i+1) ((hs ++ [(⟨⟨A0,ln,ai⟩,⟨VS,sr.samples.length,VC⟩,⟨VW,sr.windows.length,WC⟩⟩:Hd3)]).flatMap encH3):=by rw[cA];exact hown'
   have bl:=Jh a4;have cj:=Jh bU;have aS:=Jh aA;clear hown' hgrow0 aa ad ab ah a4 bU aA;go_wp2_with fail
   go_roundg (gk - 1)
   case measure=>have:=bk.out;omega
   case rel=>exact⟨i+1,_,_,rfl,by have:=bk.out;omega,by go_num,by rw[cC,bo.out];rfl,aS.out,bl.out,cj.out⟩
  .have el:decide (i<n)=false:=by rw[jK];omega
   have b5:i=n:=by have:=bk.out;omega
   subst b5;obtain⟨A',c',rfl⟩:=Kah aL.out;go_wp2_with fail
   go_ret
   exact⟨A',c',hs,rfl,bo.out,aL.out,aZ.out,HB.out⟩
end
section
open Go.Shelf Go.RowKit Go.Lib Go.Sort
open Lib renaming hid -> Jh
open List renaming setIfInBounds_toArray -> Ja, set_cons_zero -> Jb, set_cons_succ -> Jc, length_append -> Jd
attribute [local go_sem ↓] Go.wp_at_zero Go.wp_at_succ
attribute [local go_sem] Later.cell
section
theorem Kyc:(prog.info? 34).map (fun i=>(i.zero,i.size,i.bytes))=some (some (.agg #[.int .i64 0,.int .i64 0,.int .i64 0,.slice none 0 0]),4,48):=by kernel_rfl
def RCo (w:World) (B:Nat) (h:Hd) (L:List Ser):Prop:=
 ∃hs:List Hd3,hs.length=h.n/\L.length=h.n/\w.ownsRow B 132 3 (.slice h.A h.n h.c) h.n (hs.flatMap encH3)/\∀(i:Nat) (x:Hd3),hs[i]? = some x->RSer B w x L[i]!
theorem RCo.below {w w':World}{B:Nat}{h:Hd}{L:List Ser}(x:RCo w B h L) (hb:Below w.heap.size w w'):RCo w' B h L:=by obtain⟨hs,h1,h2,h3,h4⟩:=x;exact⟨hs,h1,h2,Kat h3 hb,fun i y hy=>(h4 i y hy).below hb⟩
theorem RCo.mono {w:World}{B B':Nat}{h:Hd}{L:List Ser}(x:RCo w B h L) (hB:B'<=B):RCo w B' h L:=by obtain⟨hs,h1,h2,h3,h4⟩:=x;exact⟨hs,h1,h2,Kcg h3 hB,fun i y hy=>(h4 i y hy).mono hB⟩
theorem RCo.grown {w w':World}{B B' n sz:Nat}{h:Hd}{L:List Ser}{v:Value}{xs:List Value}(x:RCo w B h L) (hv:w.ownsRow B' 34 sz v n xs) (hg:w.grownBy w' v.ownBlock):RCo w' B h L:=by obtain⟨hs,h1,h2,h3,h4⟩:=x;refine⟨hs,h1,h2,h3.kept hg (Kas h3 hv (by decide)),fun i y hy=>?_⟩;have a:=h4 i y hy;exact⟨a.l.kept hg (Kas a.l hv (by decide)),a.s.kept hg (Kas a.s hv (by decide)),a.w.kept hg (Kas a.w hv (by decide))⟩
theorem RCo.sers {w:World}{B:Nat}{h:Hd}{L:List Ser}(x:RCo w B h L):Sers w h.A h.n L/\h.n<=h.c:=by obtain⟨hs,h1,h2,h3,h4⟩:=x;exact Qex h1 h2 h3 h4
structure RGath (P:World->CH->Cont->Prop) (w:World) (q:Nat) (v:Value) (xs:List CH) (cs:List Cont):Prop where
 row:w.ownsRow q 34 4 v xs.length (xs.flatMap encCH)
 l:cs.length=xs.length
 k:∀(i:Nat) (x:CH),xs[i]? = some x->P w x cs[i]!
theorem RGath.nil (P:World->CH->Cont->Prop) (w:World) (q:Nat):RGath P w q (.slice none 0 0) [] []:=⟨cX _ _ _ _,rfl,fun i x h=>by simp at h⟩
theorem RGath.below {P:World->CH->Cont->Prop}{w w':World}{q:Nat}{v:Value}{xs:List CH}{cs:List Cont}(h:RGath P w q v xs cs) (hb:Below w.heap.size w w') (hP:∀x c,P w x c->P w' x c):RGath P w' q v xs cs:=
 ⟨Kat h.row hb,h.l,fun i x hi=>hP _ _ (h.k i x hi)⟩
theorem RGath.more {P:World->CH->Cont->Prop}{w w':World}{q:Nat}{v v':Value}{xs:List CH}{cs:List Cont}(h:RGath P w q v xs cs) (hP:∀x c,P w x c->P w' x c) {x:CH}{c:Cont}(hrow:w'.ownsRow q 34 4 v' (xs.length+1) (xs.flatMap encCH++encCH x)) (hx:P w' x c) :
  RGath P w' q v' (xs ++ [x]) (cs ++ [c]):=by
 refine⟨by rw[Jd,cA,da];exact hrow,by rw[Jd,Jd,h.l];rfl,fun i y hi=>?_⟩
 by_cases hl:i<xs.length
 .rw[ct hl]at hi
  have e:(cs ++ [c])[i]! = cs[i]!:=by rw[jI _ _ (by rw[Jd,h.l];omega),jI cs i (by rw[h.l];exact hl),List.getElem_append_left]
  rw[e];exact hP _ _ (h.k i y hi)
 .have aa:i=xs.length:=by
   have:=(cq.1 hi).1;rw[Jd,cJ]at this;omega
  subst aa;rw[cx (co _),cN]at hi;simp only[cv,dm]at hi;subst hi
  have e:(cs ++ [c])[xs.length]! = c:=by rw[<-h.l,jI _ _ (by rw[Jd];simp),List.getElem_append_right (co _)];simp
  rw[e];exact hx
theorem RGath.conts {P:World->CH->Cont->Prop}{w:World}{q n c:Nat}{A:Option Addr}{xs:List CH}{cs:List Cont}(h:RGath P w q (.slice A n c) xs cs) (hn:xs.length=n) (hz:n<=1048576) (hcz:∀c∈cs,CSz c)
  (hP:∀x c,P w x c->(c.res=x.r/\c.frm=x.f/\c.to_=x.t)/\Kbe w x.h.A x.h.n c.series/\x.h.n<=x.h.c):Kbv w A n xs cs/\n<=c:=by
 obtain⟨A1,c1,e1,hE,_,hc⟩:=dq (xs:=xs) (enc:=encCH) (fun _ _=>rfl) rfl h.row rfl;injection e1 with e1 e2 e3;subst e1 e3;rw[hn]at hE hc;refine⟨⟨hE,by rw[h.l,hn],fun i x hi=>?_,hcz,hz⟩,hc⟩;obtain⟨a1,a2,a3⟩:=hP _ _ (h.k i x hi);exact⟨a1.1,a1.2.1,a1.2.2,a2,a3⟩
def RCn (B:Nat) (w:World) (x:CH) (c:Cont):Prop:=(c.res=x.r/\c.frm=x.f/\c.to_=x.t)/\RCo w B x.h c.series/\c.series.length<=1073741824/\∀s∈c.series,SerSz s
theorem Khf (c:Cont) (hd:Hd) (w:World) (hS:Kbe w hd.A hd.n c.series) :
  Calls prog 18 #[contV c.res c.frm c.to_ hd] w fun e w'=>(∃hd',e = .returned (contV c.res c.frm c.to_ hd')/\RCo w' w.heap.size hd' c.series)/\Below w.heap.size w w':=by
 obtain⟨r,hr⟩:=jF c.res;obtain⟨f,hf⟩:=jF c.frm;obtain⟨t,ht⟩:=jF c.to_;obtain⟨L,hL⟩:=jF c.series;obtain⟨A,n,cc⟩:=hd;rw[hL]at hS;rw[hr,hf,ht,hL];unfold contV;dsimp only at hS |-;have aw:=Jh hS;clear hr hf ht hL hS;go_enter func18,ntmps18
 go_upto_region 1 with fail
 have ak:Below w.heap.size w ((w.alloc (.cells #[.int .i64 r,.int .i64 f,.int .i64 t,.slice A n cc] 28)).alloc (.cells #[.int .i64 0,.int .i64 0,.int .i64 0,.slice none 0 0] 34)):=((Below.refl _ _).alloc (co _) _).alloc (by simp) _;have ah:Blk ((w.alloc (.cells #[.int .i64 r,.int .i64 f,.int .i64 t,.slice A n cc] 28)).alloc (.cells #[.int .i64 0,.int .i64 0,.int .i64 0,.slice none 0 0] 34)) w.heap.size 28 #[.int .i64 r,.int .i64 f,.int .i64 t,.slice A n cc]:=(c4 _ _ _).alloc _;have al:Blk ((w.alloc (.cells #[.int .i64 r,.int .i64 f,.int .i64 t,.slice A n cc] 28)).alloc (.cells #[.int .i64 0,.int .i64 0,.int .i64 0,.slice none 0 0] 34)) (w.heap.size+1) 34 #[.int .i64 0,.int .i64 0,.int .i64 0,.slice none 0 0]:=c6 (by simp);obtain⟨w1,aq⟩:=jF ((w.alloc (.cells #[.int .i64 r,.int .i64 f,.int .i64 t,.slice A n cc] 28)).alloc (.cells #[.int .i64 0,.int .i64 0,.int .i64 0,.slice none 0 0] 34));rw[aq]at ak ah al |-;have ad:=Jh (aw.out.below ak);obtain⟨q,hq⟩:=jF w.heap.size;rw[hq]at ak ah al |-;have av:=Jh ak;have ao:=Jh ah;have an:=Jh al;clear aq;have hS:w1.drew.cell? ⟨q,0,none⟩=some (.int .i64 r)/\w1.drew.cell? ⟨q,1,none⟩=some (.int .i64 f)/\w1.drew.cell? ⟨q,2,none⟩=some (.int .i64 t)/\w1.drew.cell? ⟨q,3,none⟩=some (.slice A n cc):=⟨ah.cell 0,ah.cell 1,ah.cell 2,ah.cell 3⟩;refine Kck (fun w'=>w'.cell? ⟨q,0,none⟩=some (.int .i64 r)/\w'.cell? ⟨q,1,none⟩=some (.int .i64 f)/\w'.cell? ⟨q,2,none⟩=some (.int .i64 t)/\w'.cell? ⟨q,3,none⟩=some (.slice A n cc)) 10 11 (by kernel_rfl) rfl ?_;rw[show db 11 false = #[false,false,false,false,false,false,false,false,false,false,false] from rfl];refine kP (i:=0) (d:=some 3) hS ?_;simp only[cF,Ja,Jb,Jc];refine Kbc (i:=1) (d:=some 4) rfl rfl (by kernel_rfl) (by kernel_rfl) (by kernel_rfl) (by kernel_rfl) rfl (fun _ _ _ h=>h) (.inl ⟨by rfl,fun w hw=>by (obtain⟨ha,hb,hc,hd⟩:=hw;go_simp;try rfl)⟩) hS ?_;simp only[cF,Ja,Jb,Jc];refine kP (i:=2) (d:=some 5) hS ?_;simp only[cF,Ja,Jb,Jc];refine Kbc (i:=3) (d:=some 6) rfl rfl (by kernel_rfl) (by kernel_rfl) (by kernel_rfl) (by kernel_rfl) rfl (fun _ _ _ h=>h) (.inl ⟨by rfl,fun w hw=>by (obtain⟨ha,hb,hc,hd⟩:=hw;go_simp;try rfl)⟩) hS ?_;simp only[cF,Ja,Jb,Jc];refine kP (i:=4) (d:=some 7) hS ?_;simp only[cF,Ja,Jb,Jc];refine Kbc (i:=5) (d:=some 8) rfl rfl (by kernel_rfl) (by kernel_rfl) (by kernel_rfl) (by kernel_rfl) rfl (fun _ _ _ h=>h) (.inl ⟨by rfl,fun w hw=>by (obtain⟨ha,hb,hc,hd⟩:=hw;go_simp;try rfl)⟩) hS ?_;simp only[cF,Ja,Jb,Jc];refine kP (i:=6) (d:=some 9) hS ?_;simp only[cF,Ja,Jb,Jc];refine Kbc (i:=7) (d:=some 10) rfl rfl (by kernel_rfl) (by kernel_rfl) (by kernel_rfl) (by kernel_rfl) rfl (fun _ _ _ h=>h) (.inl ⟨by rfl,fun w hw=>by (obtain⟨ha,hb,hc,hd⟩:=hw;go_simp;try rfl)⟩) hS ?_;simp only[cF,Ja,Jb,Jc];refine Kag (i:=8) (by kernel_rfl) rfl rfl ?_;have hc:=Kmq L A n cc w1.drew (ad.out.s.below (Below.refl _ _).drew) (by have:=ad.out.n;have:=ad.out.s.len;omega) ad.out.sz
 refine cW (d:=some 11) (w1:=w1.drew) (g:=22) (args:=#[.slice A n cc]) rfl (by go_simp;try rfl) (N:=fun u w'=>∃(A':Option Addr) (c':Nat) (hs:List Hd3),u = .slice A' n c'/\hs.length=n/\w'.ownsRow w1.heap.size 132 3 (.slice A' n c') n (hs.flatMap encH3)/\(∀(i:Nat) (h:Hd3),hs[i]? = some h->RSer w1.heap.size w' h L[i]!)/\Below w1.heap.size w1 w') (hc.mono ?_) ?_
 .rintro e w2 ⟨A',c',hs,rfl,hl,aa,af,ai⟩;exact⟨_,rfl,A',c',hs,rfl,hl,aa,af,Qao ai⟩
 .rintro u w2 ⟨A',c',hs,rfl,hl,aa,af,ai⟩;have aj:=ao.out.below ai ao.out.lt;have hS:w2.cell? ⟨q,0,none⟩=some (.int .i64 r)/\w2.cell? ⟨q,1,none⟩=some (.int .i64 f)/\w2.cell? ⟨q,2,none⟩=some (.int .i64 t)/\w2.cell? ⟨q,3,none⟩=some (.slice A n cc):=⟨aj.cell 0,aj.cell 1,aj.cell 2,aj.cell 3⟩;refine⟨fun _=>hS,?_⟩;simp only[cF,Ja,Jb,Jc];refine kP (i:=9) (d:=some 12) hS ?_;simp only[cF,Ja,Jb,Jc];have ae:=an.out.below ai an.out.lt;have d0:w2.cell? ⟨q+1,0,none⟩=some (.int .i64 0):=ae.cell 0;have d1:w2.cell? ⟨q+1,1,none⟩=some (.int .i64 0):=ae.cell 1;have d2:w2.cell? ⟨q+1,2,none⟩=some (.int .i64 0):=ae.cell 2;have d3:w2.cell? ⟨q+1,3,none⟩=some (.slice none 0 0):=ae.cell 3;have f0:=ae.frozen 0;have f1:=ae.frozen 1;have f2:=ae.frozen 2;have f3:=ae.frozen 3;refine Kag (i:=10) (by kernel_rfl) rfl rfl ?_;refine cS (w':=(((w2.setCell ⟨q+1,0,none⟩ (.int .i64 r)).setCell ⟨q+1,1,none⟩ (.int .i64 f)).setCell ⟨q+1,2,none⟩ (.int .i64 t)).setCell ⟨q+1,3,none⟩ (.slice A' n c')) rfl (by go_simp) ?_;refine⟨fun h=>jS h (by decide),?_⟩;refine Kby (by kernel_rfl) ?_ _;have k0:=(((ae.set_ 0 (.int .i64 r)).set_ 1 (.int .i64 f)).set_ 2 (.int .i64 t)).set_ 3 (.slice A' n c')
  have am:Below q w ((((w2.setCell ⟨q+1,0,none⟩ (.int .i64 r)).setCell ⟨q+1,1,none⟩ (.int .i64 f)).setCell ⟨q+1,2,none⟩ (.int .i64 t)).setCell ⟨q+1,3,none⟩ (.slice A' n c')):=
   ((((av.out.trans (ai.mono (by have:=ao.out.lt;omega))).setCell (p:=⟨q+1,0,none⟩) (cM q) _).setCell (p:=⟨q+1,1,none⟩) (cM q) _).setCell (p:=⟨q+1,2,none⟩) (cM q) _).setCell (p:=⟨q+1,3,none⟩) (cM q) _
  have ag:q+1<w1.heap.size:=an.out.lt;have ab:=Kei (Kei (Kei (Kei aa (p:=⟨q+1,0,none⟩) (Khp aa ag) (.int .i64 r)) (p:=⟨q+1,1,none⟩) (Khp aa ag) (.int .i64 f)) (p:=⟨q+1,2,none⟩) (Khp aa ag) (.int .i64 t)) (p:=⟨q+1,3,none⟩) (Khp aa ag) (.slice A' n c')
  have ac:∀(i:Nat) (h:Hd3),hs[i]? = some h->RSer w1.heap.size ((((w2.setCell ⟨q+1,0,none⟩ (.int .i64 r)).setCell ⟨q+1,1,none⟩ (.int .i64 f)).setCell ⟨q+1,2,none⟩ (.int .i64 t)).setCell ⟨q+1,3,none⟩ (.slice A' n c')) h L[i]!:=fun i h hi=>
   ((((af i h hi).far (p:=⟨q+1,0,none⟩) ag _).far (p:=⟨q+1,1,none⟩) ag _).far (p:=⟨q+1,2,none⟩) ag _).far (p:=⟨q+1,3,none⟩) ag _
  obtain⟨wf,ap⟩:=jF ((((w2.setCell ⟨q+1,0,none⟩ (.int .i64 r)).setCell ⟨q+1,1,none⟩ (.int .i64 f)).setCell ⟨q+1,2,none⟩ (.int .i64 t)).setCell ⟨q+1,3,none⟩ (.slice A' n c'));rw[ap]at k0 am ab ac |-;have HK:=Jh k0;have ar:=Jh am;have ax:Hid (RCo wf q ⟨A',n,c'⟩ L):=RCo.mono ⟨hs,hl,ad.out.s.len,ab,ac⟩ (by omega);clear ap k0 am ab ac aa af aj ae d0 d1 d2 d3 f0 f1 f2 f3 hS ai hl;simp only[cF]
  iterate 4 (try (first | go_values | go_skip | go_guarded | go_step | go_upon | go_back))
  refine bodyPost_ret (Kgo rfl _ _ ⟨q+1,0,none⟩ (.agg #[.int .i64 r,.int .i64 f,.int .i64 t,.slice A' n c']) rfl (run_loadVar_row _ (q+1) 34 34 _ (0,0) _ HK.out underlying34 rfl (by kernel_rfl))) rfl ?_;exact⟨⟨⟨A',n,c'⟩,rfl,by rw[hq];exact ax.out⟩,by rw[hq];exact ar.out⟩
theorem Kmo (A:Option Addr) (n c:Nat) (xs:List CH) (cs:List Cont) (w:World) (h:Kbv w A n xs cs) :
  Calls prog 12 #[.slice A n c] w fun e w'=>∃(A':Option Addr) (c':Nat) (xs':List CH),e = .returned (.slice A' n c')/\Kbv w' A' n xs' cs/\n<=c'/\Below w.heap.size w w':=by
 obtain⟨i1,aP,aY,aQ,aU⟩:=info_parts Kyc;have H:=Jh h;have hn:=h.n;have aG:Hid (Below w.heap.size w w):=Below.refl _ _;have aM:Hid (RGath (RCn w.heap.size) w w.heap.size (.slice none 0 0) [] (cs.take 0)):=RGath.nil _ _ _;clear h;go_enter func12,ntmps12
 go_wp2_with fail
 go_loopg [3,8] n (fun kx s3 s8 wr=>∃(i:Nat) (ys:List CH),s8 = .int .i64 (i:Int)/\i+kx=n/\Hid (ys.length=i)/\Hid (Below w.heap.size w wr)/\Hid (RGath (RCn w.heap.size) wr w.heap.size s3 ys (cs.take i)))
 case atStart=>exact⟨0,[],rfl,by omega,rfl,aG,aM⟩
 case round=>
  clear aG aM;obtain⟨i,ys,rfl,hi,ai,HB,HG⟩:=hrel;have aE:=HG.out.row;rw[ai.out]at aE;obtain⟨A7,c7,aR⟩:=Kah aE;subst aR;clear aE;rcases cI i n with hlt | hge
  .have aV:(i:Int)<(n:Int):=by omega
   have hC:=H.out.below HB.out;obtain⟨b0,av,aX,aF,aO⟩:=hC.e.2 (by omega);obtain⟨x,hx⟩:∃x,xs[i]? = some x:=⟨xs[i]'(by rw[hC.e.len];exact hlt),cp _⟩;obtain⟨k1,k2,k3,k4,k5⟩:=hC.k i x hx;obtain⟨cc,ax⟩:=jG (cs[i]!);rw[<-ax]at k1 k2 k3 k4;have aI:Hid (cs.take (i+1)=cs.take i ++ [cc]):=by show _=_;rw[cB,cp (by rw[hC.l];exact hlt),ax,jI cs i (by rw[hC.l];exact hlt)];rfl
   have aa:∀r v,r<4->(encCH x)[r]? = some v->wr.cell? ⟨b0,av+i*4+r,none⟩=some v:=fun r v _ hv=>aO i x hx r v hv
   have aW:Hid (cc.series.length<=1073741824/\∀s∈cc.series,SerSz s):=⟨k4.n,k4.z⟩;have aC:Hid (cc.res=x.r/\cc.frm=x.f/\cc.to_=x.t):=⟨k1,k2,k3⟩
   have ay:Hid (∀W,Below wr.heap.size wr W->Calls prog 18 #[.agg #[.int .i64 x.r,.int .i64 x.f,.int .i64 x.t,.slice x.h.A x.h.n x.h.c]] W fun e w'=>(∃hd',e = .returned (.agg #[.int .i64 x.r,.int .i64 x.f,.int .i64 x.t,.slice hd'.A hd'.n hd'.c])/\RCo w' W.heap.size hd' cc.series)/\Below W.heap.size W w'):=fun W hb=>by have:=Khf cc x.h W (k4.below hb);rw[k1,k2,k3]at this;exact this
   obtain⟨xr,xf,xt,⟨hA,aq,aA⟩⟩:=x;dsimp only at ay aC;have y0:=aa 0 (.int .i64 xr) (by decide) rfl;have y1:=aa 1 (.int .i64 xf) (by decide) rfl;have y2:=aa 2 (.int .i64 xt) (by decide) rfl;have y3:=aa 3 (.slice hA aq aA) (by decide) rfl;rw[Nat.add_zero]at y0;have aT:b0<wr.heap.size:=aF;subst aX;clear hC aO hx k1 k2 k3 k4 k5 aa ax aF;go_upto_region 5 with fail
   obtain⟨wa,ao⟩:=jG (wr.alloc (.cells #[.int .i64 xr,.int .i64 xf,.int .i64 xt,.slice hA aq aA] 28));obtain⟨pa,ar⟩:=jG wr.heap.size;have aH:Below wr.heap.size wr wa:=by rw[ao];exact(Below.refl _ _).alloc (co _) _
   have am:=Jh aH;have ag:Blk wa pa 28 #[.int .i64 xr,.int .i64 xf,.int .i64 xt,.slice hA aq aA]:=by rw[ao,ar];exact c4 _ _ _
   have z0:=ag.cell 0;have z1:=ag.cell 1;have z2:=ag.cell 2;have z3:=ag.cell 3;simp at z0 z1 z2 z3;have zl:=ag.lt
   try rw[<-ao,<-ar]
   clear ao ar aH ag y0 y1 y2 y3 aT;go_wp2_with fail
   refine(ay.out _ am.out).mono ?_;rintro _ w5 ⟨⟨⟨A5,n5,c5⟩,rfl,aJ⟩,aL⟩;have ae:Below wr.heap.size wr w5:=am.out.trans (aL.mono am.out.size);have aD:w.heap.size<=wr.heap.size:=HB.out.size;have al:∀x c,RCn w.heap.size wr x c->RCn w.heap.size w5 x c:=fun x c h=>⟨h.1,h.2.1.below ae,h.2.2⟩
   have aK:Hid (RGath (RCn w.heap.size) w5 w.heap.size (.slice A7 i c7) ys (cs.take i)):=HG.out.below ae al;have ap:Hid (Below w.heap.size w w5):=HB.out.trans (ae.mono aD);have an:Hid (RCn w.heap.size w5 ⟨xr,xf,xt,⟨A5,n5,c5⟩⟩ cc):=⟨aC.out,aJ.mono (cE aD am.out.size),aW.out⟩;obtain⟨w6,ah⟩:=jG (w5.alloc (.cells #[.int .i64 xr,.int .i64 xf,.int .i64 xt,.slice A5 n5 c5] 34));have ak:Below w5.heap.size w5 w6:=by rw[ah];exact(Below.refl _ _).alloc (co _) _
   have af:Blk w6 w5.heap.size 34 #[.int .i64 xr,.int .i64 xf,.int .i64 xt,.slice A5 n5 c5]:=by rw[ah];exact c4 _ _ _
   have az:Hid (RGath (RCn w.heap.size) w6 w.heap.size (.slice A7 i c7) ys (cs.take i)):=aK.out.below ak fun x c h=>⟨h.1,h.2.1.below ak,h.2.2⟩
   have ad:Hid (RCn w.heap.size w6 ⟨xr,xf,xt,⟨A5,n5,c5⟩⟩ cc):=⟨an.out.1,an.out.2.1.below ak,an.out.2.2⟩;have aB:Hid (Below w.heap.size w w6):=ap.out.trans (ak.mono ap.out.size);have ac:w6.ownsRow w.heap.size 34 4 (.slice A7 i c7) i (ys.flatMap encCH):=by have:=az.out.row;rw[ai.out]at this;exact this
   have ab:=Jh ac;have aw:w.heap.size<=w6.heap.size:=aB.out.size;clear aL ae aD al aJ ak HG HB aK ap an am ay z0 z1 z2 z3 zl;go_wp2_with (at_builtin;(try rw[<-ah]);refine dw _ rfl _ _ 24 rfl w.heap.size 34 i1 (.agg #[.int .i64 0,.int .i64 0,.int .i64 0,.slice none 0 0]) 4 48 underlying24 aP aY aQ aU rfl (by decide) (.slice A7 i c7) i _ rfl ac ⟨w5.heap.size,0,none⟩ 1 1 [.int .i64 xr,.int .i64 xf,.int .i64 xt,.slice A5 n5 c5] rfl rfl (Kam (l:=[.int .i64 xr,.int .i64 xf,.int .i64 xt,.slice A5 n5 c5]) af) ?p2 ?p3 ?p4 ?p5 ?_)
   case p2=>intro u hu;simp only[dt,df,or_false]at hu;rcases hu with rfl | rfl | rfl | rfl <;> rfl
   case p3=>unfold maxLen;omega
   case p4=>omega
   case p5=>exact aw
   intro v9 w9 hown' hgrow _ _;rw[<-ah]at hgrow;have aZ:Hid (Below w.heap.size w w9):=aB.out.grown hgrow aw (fun k hk=>(ab.out.lt k hk).1)
   have aN:Hid (RGath (RCn w.heap.size) w9 w.heap.size v9 (ys ++ [⟨xr,xf,xt,⟨A5,n5,c5⟩⟩]) (cs.take (i+1))):=by
    show RGath _ _ _ _ _ _
    rw[aI.out];exact az.out.more (fun x c h=>⟨h.1,h.2.1.grown ab.out hgrow,h.2.2⟩) (by rw[ai.out];exact hown') ⟨ad.out.1,ad.out.2.1.grown ab.out hgrow,ad.out.2.2⟩
   have aj:Hid ((ys ++ [(⟨xr,xf,xt,⟨A5,n5,c5⟩⟩:CH)]).length=i+1):=by show _=_;rw[Jd,ai.out];rfl
   generalize ys ++ [(⟨xr,xf,xt,⟨A5,n5,c5⟩⟩:CH)]=ys9 at aN aj;clear hown' hgrow ac af ab aB az ad ah aw aI aC;go_wp2_with fail
   go_roundg (n - (i+1))
   case measure=>omega
   case rel=>exact⟨i+1,ys9,by first | rfl | go_num,by omega,aj,aZ,aN⟩
  .have aV:¬(i:Int)<(n:Int):=by omega
   have aS:i=n:=by omega
   subst aS
   have HF:Hid (Kbv wr A7 i ys cs/\i<=c7):=by have h1:=HG.out;rw[cz (by rw[H.out.l];exact co _)]at h1;refine h1.conts ai.out hn H.out.z fun x c hx=>⟨hx.1,⟨hx.2.1.sers.1,hx.2.2.1,hx.2.2.2⟩,hx.2.1.sers.2⟩
   clear HG;go_wp2_with fail
   go_ret
   exact⟨A7,c7,rfl,⟨ys,HF.out.1⟩,HF.out.2,HB.out⟩
end
end
section
open Go.Shelf Go.RowKit Go.Lib Go.Sort
open Lib renaming hid -> Jh
attribute [local go_sem ↓] Go.wp_at_zero Go.wp_at_succ
attribute [local go_sem] Later.cell
section
theorem Qca (l:List Spn) (A:Option Addr) (n c:Nat) (t:Int) (w:World) (hE:Elems w w.heap.size 2 Kbo A n l) (hn:n<=1099511627776) :
  Calls prog 159 #[.slice A n c,.int .i64 t] w fun e w'=>e = .returned (.bool (hasF l t))/\w'=w:=by
 have HE:=Jh hE;have aa:Hid (hasF (l.take 0) t=false):=rfl;obtain⟨R,hR⟩:=jG (hasF l t);have ad:=Jh hR;rw[<-hR];clear hE hR;go_enter func159,ntmps159
 go_wp2_with fail
 go_loopg [5] n (fun kx s5 wr=>∃i:Nat,s5 = .int .i64 (i:Int)/\i+kx=n/\wr=w/\Hid (hasF (l.take i) t=false))
 case atStart=>exact⟨0,rfl,by omega,rfl,aa⟩
 case round=>
  clear aa;obtain⟨i,rfl,hi,hw,aa⟩:=hrel;have hw:=hw.symm;subst hw;rcases cI i n with hlt | hge
  .have ag:(i:Int)<(n:Int):=by omega
   have ah:=HE.out.len;obtain⟨y,hy⟩:∃y,l[i]? = some y:=⟨l[i]'(by omega),cp _⟩;obtain⟨b,ae,hA,hb,hc⟩:=HE.out.2 (by omega);have k0:w.cell? ⟨b,ae+i*2,none⟩=some (.int .i64 y.frm):=hc i y hy 0 _ rfl;have k1:w.cell? ⟨b,ae+i*2+1,none⟩=some (.int .i64 y.to_):=hc i y hy 1 _ rfl;obtain⟨f,hf⟩:=jG y.frm;obtain⟨e,he⟩:=jG y.to_
   have ac:Hid (hasF (l.take (i+1)) t=(decide (f<=t) && decide (t<=e))):=by
    show _=_
    have h0:=aa.out;unfold hasF at h0 |-;rw[cB,hy,dp,h0,hf,he];simp[inS]
   rw[<-hf]at k0;rw[<-he]at k1
   have af:Hid (f<=t/\t<=e->hasF l t=true):=fun hh=>by unfold hasF;rw[dh];exact⟨y,cH hy,by unfold inS;rw[<-hf,<-he];simp[hh.1,hh.2]⟩
   subst hA;clear hy hc hf he ah
   by_cases h1:f<=t
   .have d1:decide (f<=t)=true:=jL h1
    by_cases h2:t<=e
    .have d2:decide (t<=e)=true:=jL h2;have HT:Hid (R=true):=by show _=_;rw[ad.out];exact af.out ⟨h1,h2⟩
     go_wp2_with fail
     go_ret
     exact⟨by rw[HT.out];rfl,rfl⟩
    .have d2:decide (t<=e)=false:=jJ h2;have ab:Hid (hasF (l.take (i+1)) t=false):=by show _=_;rw[ac.out,d2,dr]
     go_wp2_with fail
     go_roundg (n - (i+1))
     case measure=>omega
     case rel=>exact⟨i+1,by first | rfl | go_num,by omega,rfl,ab⟩
   .have d1:decide (f<=t)=false:=jJ h1;have ab:Hid (hasF (l.take (i+1)) t=false):=by show _=_;rw[ac.out,d1,cP]
    go_wp2_with fail
    go_roundg (n - (i+1))
    case measure=>omega
    case rel=>exact⟨i+1,by first | rfl | go_num,by omega,rfl,ab⟩
  .have ag:¬(i:Int)<(n:Int):=by omega
   have HF:Hid (R=false):=by
    show _=_
    have h0:=aa.out;rw[cz (by rw[HE.out.len];exact hge)]at h0;rw[ad.out,h0]
   go_wp2_with fail
   go_ret
   exact⟨by rw[HF.out];rfl,rfl⟩
theorem Kls (hs:List (Hd4×GoneP)) (A B:Option Addr) (n c k d r:Nat) (hr:r<3) (l:List Lb) (t:Int) (w:World) (hG:Gones w A n hs) (hB:Elems w w.heap.size 2 encLb B k l) (hk:k<=1099511627776) :
  Calls prog 104 #[.slice A n c,.slice B k d,.int .i64 (r:Int),.int .i64 t] w fun e w'=>e = .returned (.bool (Kbb hs r l t))/\Below w.heap.size w w':=by
 have HG:=Jh hG;have HB:=Jh hB;have aa:Hid (Below w.heap.size w w):=Below.refl _ _;have ad:Hid (Kbb (hs.take 0) r l t=false):=rfl;obtain⟨R,hR⟩:=jG (Kbb hs r l t);have av:=Jh hR;have hr3:(r:Int)<3:=by omega
 have hn:=hG.n;rw[<-hR];clear hG hB hR;go_enter func104,ntmps104
 go_wp2_with fail
 go_loopg [9] n (fun kx s9 wr=>∃i:Nat,s9 = .int .i64 (i:Int)/\i+kx=n/\Hid (Below w.heap.size w wr)/\Hid (Kbb (hs.take i) r l t=false))
 case atStart=>exact⟨0,rfl,by omega,aa,ad⟩
 case round=>
  clear aa ad;obtain⟨i,rfl,hi,aa,ad⟩:=hrel;rcases cI i n with hlt | hge
  .have aC:(i:Int)<(n:Int):=by omega
   have aA:=HG.out.e.len;obtain⟨y,hy⟩:∃y,hs[i]? = some y:=⟨hs[i]'(by omega),cp _⟩;obtain⟨b,ac,hA,hb,hc⟩:=HG.out.e.2 (by omega);have ha:=(HG.out.a y (cH hy)).below aa.out;have ab:∀j v,(encHG y)[j]? = some v->wr.cell? ⟨b,ac+i*4+j,none⟩=some v:=fun j v hv=>(aa.out.cell (p:=⟨b,ac+i*4+j,none⟩) hb).trans (hc i y hy j v hv)
   have k0:wr.cell? ⟨b,ac+i*4,none⟩=some (.slice y.1.l.A y.1.l.n y.1.l.c):=ab 0 _ rfl
   have k1:wr.cell? ⟨b,ac+i*4+1+r,none⟩=some (.slice (y.1.sp r).A (y.1.sp r).n (y.1.sp r).c):=by
    rw[show ac+i*4+1+r=ac+i*4+(1+r) by omega];refine ab (1+r) _ ?_
    match r,hr with
    | 0,_=>rfl
    | 1,_=>rfl
    | 2,_=>rfl
   have ak:b<wr.heap.size:=cw hb aa.out.size;obtain⟨cc,ah⟩:=jF (cmpL y.2.labels l);have an:=Jh (Kdo y.2.labels l y.1.l.A B y.1.l.n k y.1.l.c d wr cc ah ha.l ((HB.out.below aa.out).more aa.out.size) (by have:=ha.z;omega) (by omega));have aB:=Jh ha;obtain⟨R2,ai⟩:=jG (hasF (y.2.sp r) t)
   have al:Hid (∀W,Below wr.heap.size wr W->Calls prog 159 #[.slice (y.1.sp r).A (y.1.sp r).n (y.1.sp r).c,.int .i64 t] W fun e w'=>e = .returned (.bool R2)/\w'=W):=fun W hW=>by rw[ai];have h1:=(aB.out.below hW).s r hr;exact Qca (y.2.sp r) _ _ _ t W h1.1 h1.2
   have ar:Hid (Kbb (hs.take (i+1)) r l t=(decide (cc=0) && R2)):=by
    show _=_
    have h0:=ad.out;unfold Kbb at h0 |-;rw[cB,hy,dp,h0,<-ah,ai];simp[goneF]
   have aD:Hid (cc=0->R2=true->Kbb hs r l t=true):=fun h1 h2=>by unfold Kbb;rw[dh];refine⟨y,cH hy,?_⟩;unfold goneF;rw[ah,h1,<-ai,h2];rfl
   obtain⟨lA,ap⟩:=jG y.1.l.A;obtain⟨ln,aw⟩:=jG y.1.l.n;obtain⟨lc,ay⟩:=jG y.1.l.c;obtain⟨sA,az⟩:=jG ((y.1.sp r).A);obtain⟨sn,aq⟩:=jG ((y.1.sp r).n);obtain⟨sc,ax⟩:=jG ((y.1.sp r).c);rw[<-ap,<-aw,<-ay]at k0 an;rw[<-az,<-aq,<-ax]at k1 al;have HB0:Hid (b<w.heap.size):=hb;subst hA;clear hy hc ab ha ah ai ap aw ay az aq ax aA hb;go_wp2_with fail
   refine an.out.mono ?_;rintro _ w2 ⟨rfl,af⟩;have ag:Hid (Below w.heap.size w w2):=aa.out.trans (af.mono aa.out.size);have ae:=Jh (al.out w2 af);have aE:w2.cell? ⟨b,ac+i*4+1+r,none⟩=some (.slice sA sn sc):=(af.cell (p:=⟨b,ac+i*4+1+r,none⟩) ak).trans k1;have am:b<w2.heap.size:=cw ak af.size;clear af k0 k1 ak an aa al;go_wp2_with fail
   refine ae.out.mono ?_;rintro _ w3 ⟨rfl,ao⟩;have ao:=ao.symm;subst ao;clear ae aE am
   cases R2 with
   | false=>
    have aj:Hid (Kbb (hs.take (i+1)) r l t=false):=by show _=_;rw[ar.out,dr]
    by_cases h0:cc=0
    .subst h0;go_wp2_with fail
     go_roundg (n - (i+1))
     case measure=>omega
     case rel=>exact⟨i+1,by first | rfl | go_num,by omega,ag,aj⟩
    .have h1:(cc == 0)=false:=by rw[jO];exact h0
     go_wp2_with fail
     go_roundg (n - (i+1))
     case measure=>omega
     case rel=>exact⟨i+1,by first | rfl | go_num,by omega,ag,aj⟩
   | true=>
    by_cases h0:cc=0
    .have HT:Hid (R=true):=by show _=_;rw[av.out];exact aD.out h0 rfl
     subst h0;go_wp2_with fail
     go_ret
     exact⟨by rw[HT.out];rfl,ag.out⟩
    .have h1:(cc == 0)=false:=by rw[jO];exact h0
     have aj:Hid (Kbb (hs.take (i+1)) r l t=false):=by show _=_;rw[ar.out,jJ h0,cP]
     go_wp2_with fail
     go_roundg (n - (i+1))
     case measure=>omega
     case rel=>exact⟨i+1,by first | rfl | go_num,by omega,ag,aj⟩
  .have aC:¬(i:Int)<(n:Int):=by omega
   have HF:Hid (R=false):=by
    show _=_
    have h0:=ad.out;rw[cz (by rw[HG.out.e.len];exact hge)]at h0;rw[av.out,h0]
   go_wp2_with fail
   go_ret
   exact⟨by rw[HF.out];rfl,aa.out⟩
end
end
section
open Go.Shelf Go.RowKit Go.Lib Go.Sort
open Lib renaming hid -> Jh
open List renaming length_append -> Jd
attribute [local go_sem ↓] Go.wp_at_zero Go.wp_at_succ
attribute [local go_sem] Later.cell
section
structure DRow (w0:World) (B:Nat) (w:World) (h:Hd3) (g:Ser):Prop where
 l:Elems w0 w0.heap.size 2 encLb h.l.A h.l.n g.labels
 lc:h.l.n<=h.l.c
 sm:w.ownsRow B 133 2 (.slice h.s.A h.s.n h.s.c) g.samples.length (g.samples.flatMap Kac)
 wd:w.ownsRow B 136 6 (.slice h.w.A h.w.n h.w.c) g.windows.length (g.windows.flatMap Kad)
theorem DRow.below {w0 w w':World}{B:Nat}{h:Hd3}{g:Ser}(d:DRow w0 B w h g) (hb:Below w.heap.size w w'):DRow w0 B w' h g:=⟨d.l,d.lc,Kbh d.sm hb,Kbh d.wd hb⟩
theorem DRow.grown {w0 w w':World}{B B' n sz:Nat}{v:Value}{xs:List Value}{h:Hd3}{g:Ser}(d:DRow w0 B w h g) (hv:w.ownsRow B' 132 sz v n xs) (hg:w.grownBy w' v.ownBlock):DRow w0 B w' h g:=
 ⟨d.l,d.lc,d.sm.kept hg (Kas d.sm hv (by decide)),d.wd.kept hg (Kas d.wd hv (by decide))⟩
theorem DRow.at_ {w0 w:World}{B:Nat}{h:Hd3}{g:Ser}(d:DRow w0 B w h g) (hb:Below w0.heap.size w0 w):SerAt w h g:=by obtain⟨A1,c1,e1,k1,_,m1⟩:=dq (enc:=Kac) (fun x _=>rfl) rfl d.sm rfl;obtain⟨A2,c2,e2,k2,_,m2⟩:=dq (enc:=Kad) (fun x _=>rfl) rfl d.wd rfl;injection e1 with e1 f1 g1;injection e2 with e2 f2 g2;rw[<-e1,<-f1]at k1;rw[<-e2,<-f2]at k2;exact⟨(d.l.below hb).more hb.size,d.lc,k1,by omega,k2,by omega⟩
structure DOut (wl w0:World) (w:World) (v:Value) (hs:List Hd3) (gs:List Ser):Prop where
 bl:Below wl.heap.size wl w0
 b:Below w0.heap.size w0 w
 row:w.ownsRow w0.heap.size 132 3 v hs.length (hs.flatMap encH3)
 l:gs.length=hs.length
 r:∀(i:Nat) (h:Hd3) (g:Ser),hs[i]? = some h->gs[i]? = some g->DRow wl w0.heap.size w h g
theorem DOut.nil {wl w0:World}(hbl:Below wl.heap.size wl w0):DOut wl w0 w0 (.slice none 0 0) [] []:=⟨hbl,Below.refl _ _,cX _ _ _ _,rfl,fun i h g hi=>by simp at hi⟩
theorem DOut.below {wl w0 w w':World}{v:Value}{hs:List Hd3}{gs:List Ser}(d:DOut wl w0 w v hs gs) (hb:Below w.heap.size w w'):DOut wl w0 w' v hs gs:=
 ⟨d.bl,d.b.trans (hb.mono d.b.size),Kbh d.row hb,d.l,fun i h g hi hg=>(d.r i h g hi hg).below hb⟩
theorem DOut.snoc {wl w0 w w':World}{v v':Value}{hs:List Hd3}{gs:List Ser}(d:DOut wl w0 w v hs gs) {x:Hd3}{s:Ser}(hg:w.grownBy w' v.ownBlock) (hrow:w'.ownsRow w0.heap.size 132 3 v' (hs.length+1) (hs.flatMap encH3++encH3 x)) (hx:DRow wl w0.heap.size w x s) :
  DOut wl w0 w' v' (hs ++ [x]) (gs ++ [s]):=by
 refine⟨d.bl,d.b.grown hg d.b.size (fun k hk=>(d.row.lt k hk).1),by rw[Jd,cA,da];exact hrow,by rw[Jd,Jd,d.l];rfl,fun i h g hi hgi=>?_⟩
 by_cases hl:i<hs.length
 .rw[ct hl]at hi;rw[ct (by rw[d.l];exact hl)]at hgi;exact(d.r i h g hi hgi).grown d.row hg
 .have aa:i=hs.length:=by
   have:=(cq.1 hi).1;rw[Jd,cJ]at this;omega
  subst aa;rw[cx (co _),cN]at hi;rw[cx (by rw[d.l];exact co _),d.l,cN]at hgi;simp only[cv,dm]at hi hgi;subst hi hgi;exact hx.grown d.row hg
theorem DOut.sers {wl w0 w:World}{A:Option Addr}{n c:Nat}{hs:List Hd3}{gs:List Ser}(d:DOut wl w0 w (.slice A n c) hs gs) (hn:hs.length=n):Sers w A n gs/\n<=c:=by
 obtain⟨A9,c9,e9,hE,_,ab⟩:=dq (xs:=hs) (enc:=encH3) (fun _ _=>rfl) rfl d.row rfl;injection e9 with e9 _ e8;subst e9 e8;rw[hn]at hE ab;refine⟨⟨hs,hE,by rw[d.l,hn],fun i h hi=>?_⟩,ab⟩;have aa:i<gs.length:=by rw[d.l];exact(cq.1 hi).1
 rw[jI gs i aa];exact(d.r i h _ hi (cp aa)).at_ (d.bl.trans (d.b.mono d.bl.size))
structure DNew (wo:World) (w:World) (p:Nat) (hl:Hd) (vs vw:Value) (xs:List Smp) (ys:List Wnd):Prop where
 b:Below wo.heap.size wo w
 x:Blk w p 132 #[.slice hl.A hl.n hl.c,vs,vw]
 p:wo.heap.size<=p
 s:w.ownsRow wo.heap.size 133 2 vs xs.length (xs.flatMap Kac)
 w:w.ownsRow wo.heap.size 136 6 vw ys.length (ys.flatMap Kad)
theorem DNew.below {wo w w':World}{p:Nat}{hl:Hd}{vs vw:Value}{xs:List Smp}{ys:List Wnd}(d:DNew wo w p hl vs vw xs ys) (hb:Below w.heap.size w w'):DNew wo w' p hl vs vw xs ys:=
 ⟨d.b.trans (hb.mono d.b.size),d.x.below hb d.x.lt,d.p,Kbh d.s hb,Kbh d.w hb⟩
theorem DNew.setS {wo w w':World}{p:Nat}{hl:Hd}{vs vw v':Value}{xs xs':List Smp}{ys:List Wnd}(d:DNew wo w p hl vs vw xs ys) (hg:w.grownBy w' vs.ownBlock) (hrow:w'.ownsRow wo.heap.size 133 2 v' xs'.length (xs'.flatMap Kac)) :
  DNew wo (w'.setCell ⟨p,1,none⟩ v') p hl v' vw xs' ys:=by
 have hb:=d.x.grown hg (Kak d.x d.s (by decide));have hB:=d.b.grown hg d.b.size (fun k hk=>(d.s.lt k hk).1);exact⟨hB.setCell (p:=⟨p,1,none⟩) d.p _,hb.set_ 1 _,d.p,Kbj hrow hb (by decide),Kbj (d.w.kept hg (Kas d.w d.s (by decide))) hb (by decide)⟩
theorem DNew.setW {wo w w':World}{p:Nat}{hl:Hd}{vs vw v':Value}{xs:List Smp}{ys ys':List Wnd}(d:DNew wo w p hl vs vw xs ys) (hg:w.grownBy w' vw.ownBlock) (hrow:w'.ownsRow wo.heap.size 136 6 v' ys'.length (ys'.flatMap Kad)) :
  DNew wo (w'.setCell ⟨p,2,none⟩ v') p hl vs v' xs ys':=by
 have hb:=d.x.grown hg (Kak d.x d.w (by decide));have hB:=d.b.grown hg d.b.size (fun k hk=>(d.w.lt k hk).1);exact⟨hB.setCell (p:=⟨p,2,none⟩) d.p _,hb.set_ 2 _,d.p,Kbj (d.s.kept hg (Kas d.s d.w (by decide))) hb (by decide),Kbj hrow hb (by decide)⟩
theorem Ktv (r:Nat) (hr3:r<3) (ghs:List (Hd4×GoneP)) (gB:Option Addr) (gN gC:Nat) (A:Option Addr) (n c:Nat) (ss:List Ser) (w0 wl:World) (hbl:Below wl.heap.size wl w0) (hG:Gones w0 gB gN ghs) (h:SersZ wl A n ss) :
  Calls prog 36 #[.int .i64 (r:Int),.slice A n c,.slice gB gN gC] w0 fun e w'=>∃(A':Option Addr) (n' c':Nat) (hs:List Hd3),e = .returned (.slice A' n' c')/\hs.length=n'/\DOut wl w0 w' (.slice A' n' c') hs (Kbn (r:Int) ghs ss):=by
 have az:=Jh hbl;obtain⟨ib,b2,b7,bI,bO⟩:=info_parts Klb;obtain⟨is,bK,bW,bM,bU⟩:=info_parts Klc;obtain⟨iw,bX,bZ,aQ,bR⟩:=info_parts Kld;obtain⟨aO,hE,bF,aH⟩:=h.s;have hn:=h.n;have HE:=Jh hE;have bC:=Jh bF;have bT:=Jh aH;have HZ:=Jh h.z;obtain⟨fS,bf⟩:∃f:Ser->Smp->Bool,f=fun s x=>decide (r=0) && !Kbb ghs r s.labels x.t:=⟨_,rfl⟩
 obtain⟨fW,a6⟩:∃f:Ser->Wnd->Bool,f=fun s x=>decide (r≠0) && !Kbb ghs r s.labels x.start:=⟨_,rfl⟩
 have bH:=Jh bf;have bB:=Jh a6;have bA:Hid (Kbn (r:Int) ghs ss=keptF fS fW ss):=by show _=_;unfold Kbn;rw[jN (by omega),Int.toNat_natCast,bf,a6]
 rw[bA.out];have HD:Hid (DOut wl w0 w0 (.slice none 0 0) [] (((ss.take 0).map (keepS fS fW)).filter Kaq)):=DOut.nil az.out;clear hE bF aH h bf a6 bA;have HG:=Jh hG;clear hG;have hra:¬(r:Int)<0:=by omega
 have hrb:¬2<(r:Int):=by omega
 obtain⟨q0,bG⟩:∃q:Bool,((r:Int) == 0)=q:=⟨_,rfl⟩;obtain⟨q1,bp⟩:∃q:Bool,decide (0<(r:Int))=q:=⟨_,rfl⟩;have hq2:decide (0<r)=q1:=by rw[<-bp];exact decide_eq_decide.2 (by omega)
 go_enter func36,ntmps36
 go_wp2_with fail
 go_loopg [7,8] n (fun kx s7 s8 wr=>∃(i:Nat) (hs:List Hd3),s8 = .int .i64 (i:Int)/\i+kx=n/\Hid (DOut wl w0 wr s7 hs (((ss.take i).map (keepS fS fW)).filter Kaq)))
 case atStart=>exact⟨0,[],rfl,by omega,HD⟩
 case round=>
  clear HD;obtain⟨i,hs,rfl,hi,HO⟩:=hrel;rcases cI i n with hlt | hge
  .have b1:(i:Int)<(n:Int):=by omega
   have af:=HO.out.row;obtain⟨m,hm⟩:=jG hs.length;rw[<-hm]at af;obtain⟨A7,c7,bm⟩:=Kah af;subst bm;have aJ:=Jh hm;clear af hm;obtain⟨b0,ad,b5,a3,bz⟩:=HE.out.2 (by omega);have bN:=HE.out.len;obtain⟨h,hh⟩:∃h,aO[i]? = some h:=⟨aO[i]'(by omega),cp _⟩;obtain⟨s,a7⟩:∃s,ss[i]! = s:=⟨_,rfl⟩;have ah:=bT.out i h hh;rw[a7]at ah;have bw:ss[i]? = some s:=by rw[<-a7,jI ss i (by rw[bC.out];exact hlt)];exact cp _
   have bq:=Jh (HZ.out s (cH bw));obtain⟨⟨lA,ln,lc⟩,⟨sA,sn,sc⟩,⟨wA,wn,wc⟩⟩:=h;obtain⟨wo,rfl⟩:=jG wr;have a4:Hid (Elems wl wl.heap.size 2 Kac sA sn s.samples):=ah.s;have a0:Hid (Elems wl wl.heap.size 6 Kad wA wn s.windows):=ah.w;have aI:Hid (Elems wl wl.heap.size 2 encLb lA ln s.labels/\ln<=lc):=⟨ah.l,ah.lc⟩
   have bl:sn<=137438953472/\wn<=137438953472:=by have h1:=a4.out.len;have h2:=a0.out.len;obtain⟨z1,z2,z3⟩:=bq.out;omega
   obtain⟨aP,aM⟩:=bl;have aB:Hid (Below w0.heap.size w0 wo):=HO.out.b;have aq:Hid (Below wl.heap.size wl wo):=az.out.trans (aB.out.mono az.out.size);have aX:Hid (∀W,Below wo.heap.size wo W->∀r v,r<3->(encH3 ⟨⟨lA,ln,lc⟩,⟨sA,sn,sc⟩,⟨wA,wn,wc⟩⟩)[r]? = some v->W.cell? ⟨b0,ad+i*3+r,none⟩=some v):=fun W hW r v _ hv=>(hW.cell (p:=⟨b0,ad+i*3+r,none⟩) (cw a3 aq.out.size)).trans ((aq.out.cell (p:=⟨b0,ad+i*3+r,none⟩) a3).trans (bz i _ hh r v hv))
   have a9:Hid (b0<wo.heap.size):=cw a3 aq.out.size
   have aL:Hid (((ss.take (i+1)).map (keepS fS fW)).filter Kaq=((ss.take i).map (keepS fS fW)).filter Kaq++(if Kaq (keepS fS fW s)=true then [keepS fS fW s] else [])):=by
    show _=_
    rw[cB,bw,dn,cQ];congr 1;simp only[dd,List.map_cons,List.map_nil,cU,dc]
   have k0:wo.cell? ⟨b0,ad+i*3,none⟩=some (.slice lA ln lc):=aX.out wo (Below.refl _ _) 0 _ (by decide) rfl;have kl:=a9.out;subst b5;clear bz bN hh a7 ah bw a3;go_upto_region 8 with fail
   obtain⟨p,hp⟩:=jG wo.heap.size;obtain⟨w1,aQ⟩:=jG (wo.alloc (.cells #[.slice lA ln lc,.slice none 0 0,.slice none 0 0] 132))
   have bs:Hid (DNew wo w1 p ⟨lA,ln,lc⟩ (.slice none 0 0) (.slice none 0 0) ((s.samples.take 0).filter (fS s)) []):=by
    show DNew _ _ _ _ _ _ _ _
    rw[aQ,hp];exact⟨(Below.refl _ _).alloc (co _) _,c4 _ _ _,co _,cX _ _ _ _,cX _ _ _ _⟩
   rw[<-aQ,<-hp];clear aQ hp k0 kl;go_upto_block 2 with fail
   go_cut [10,11] from 32 to 74 (fun _ _ wz=>∃vs:Value,Hid (DNew wo wz p ⟨lA,ln,lc⟩ vs (.slice none 0 0) (s.samples.filter (fS s)) []))
   case first=>
    go_wp2_with fail
    go_loopg [10] sn (fun kx s10 wr=>∃(k:Nat) (vs:Value),s10 = .int .i64 (k:Int)/\k+kx=sn/\Hid (DNew wo wr p ⟨lA,ln,lc⟩ vs (.slice none 0 0) ((s.samples.take k).filter (fS s)) []))
    case atStart=>exact⟨0,_,rfl,by omega,bs⟩
    case round=>
     clear bs;obtain⟨k,vs,rfl,hk,HD⟩:=hrel;have aD:wr.cell? ⟨b0,ad+i*3+1,none⟩=some (.slice sA sn sc):=aX.out wr HD.out.b 1 _ (by decide) rfl;have ak:b0<wr.heap.size:=cw a9.out HD.out.b.size
     by_cases hon:r=0/\k<sn
     .have ag:(k:Int)<(sn:Int):=by omega
      have an:(r:Int)=0:=by omega
      have bo:q0=true:=by rw[<-bG,beq_iff_eq];exact an
      clear an;have ax:=a4.out.below (aq.out.trans (HD.out.b.mono aq.out.size));obtain⟨bx,ox,bh,ao,aR⟩:=ax.2 (by omega);have bb:=ax.len;obtain⟨y,hy⟩:∃y,s.samples[k]? = some y:=⟨s.samples[k]'(by omega),cp _⟩;have aj:=aR k y hy;have ab:bx<wr.heap.size:=cw ao (cE aq.out.size HD.out.b.size);have e0:wr.cell? ⟨bx,ox+k*2,none⟩=some (.int .i64 y.t):=aj 0 _ rfl;have e1:wr.cell? ⟨bx,ox+k*2+1,none⟩=some (.int .u64 (y.v:Int)):=aj 1 _ rfl
      have aA:Hid ((s.samples.take (k+1)).filter (fS s)=(s.samples.take k).filter (fS s)++(if fS s y=true then [y] else [])):=by
       show _=_
       rw[cB,hy,cQ];congr 1;simp only[dd,cU,dc]
      obtain⟨tk,aE⟩:=jG (Kbb ghs r s.labels y.t);have HP:Hid (fS s y = !tk):=by show _=_;rw[bH.out,aE];dsimp only;rw[jL (show r=0 from hon.1)];rfl
      have aK:Hid (∀u:Later wr,Calls prog 104 #[.slice gB gN gC,.slice lA ln lc,.int .i64 (r:Int),.int .i64 y.t] u.w fun e w'=>e = .returned (.bool tk)/\Below u.w.heap.size u.w w'):=fun u=>by have aU:Below w0.heap.size w0 u.w:=aB.out.trans ((HD.out.b.trans (u.h.mono HD.out.b.size)).mono aB.out.size);have aV:Below wl.heap.size wl u.w:=az.out.trans (aU.mono az.out.size);rw[aE];exact Kls ghs gB lA gN gC ln lc r hr3 s.labels y.t u.w (HG.out.below aU) ((aI.out.1.below aV).more aV.size) (by have h1:=aI.out.1.len;have h2:=bq.out.1;omega)
      have aN:=HD.out.x.cell 0;simp at aN;have bt:=HD.out.x.lt;subst bh;clear ax aR bb hy aj ao aE hon;go_upto_region 11 with fail
      refine Kaa (by kernel_rfl) (by kernel_rfl) ?_
      repeat (go_big_quiet_step ((go_at_call 104;exact Kaj _ (aK.out _))))
      refine dv ?_;rintro w2 ⟨⟨_,ae⟩,rfl⟩;have ay:Hid (DNew wo w2 p ⟨lA,ln,lc⟩ vs (.slice none 0 0) ((s.samples.take k).filter (fS s)) []):=HD.out.below ae;have bk:w2.cell? ⟨b0,ad+i*3+1,none⟩=some (.slice (some ⟨bx,ox,none⟩) sn sc):=aX.out w2 ay.out.b 1 _ (by decide) rfl;have bv:b0<w2.heap.size:=cw ak ae.size;have a5:bx<w2.heap.size:=cw ab ae.size;have v0:w2.cell? ⟨bx,ox+k*2,none⟩=some (.int .i64 y.t):=(ae.cell (p:=⟨bx,ox+k*2,none⟩) ab).trans e0;have v1:w2.cell? ⟨bx,ox+k*2+1,none⟩=some (.int .u64 (y.v:Int)):=(ae.cell (p:=⟨bx,ox+k*2+1,none⟩) ab).trans e1;clear ae aD ak ab e0 e1 aN bt HD aK;have HD:=ay;clear ay;obtain⟨wr,rfl⟩:=jG w2
      cases tk with
      | false=>
       have aa:fS s y=true:=HP.out;have bc:Hid ((s.samples.take (k+1)).filter (fS s)=(s.samples.take k).filter (fS s) ++ [y]):=by show _=_;rw[aA.out,aa];rfl
       have ac:=HD.out.s;obtain⟨m2,hm⟩:=jF (((s.samples.take k).filter (fS s)).length);have bV:m2<=k:=by rw[<-hm];exact cE (cD _ _) (by rw[cr];omega)
       have HM:=Jh hm;rw[hm]at ac;obtain⟨VA,vc,aC⟩:=Kah ac;subst aC;have ap:=Jh ac;have aG:=HD.out.x;have d1:wr.cell? ⟨p,1,none⟩=some (.slice VA m2 vc):=aG.cell 1;have bQ:=aG.lt;have bL:wo.heap.size<=wr.heap.size:=HD.out.b.size
       have bg:Hid (∀w5:World,(wr.drew.alloc (.cells #[.int .i64 y.t,.int .u64 (y.v:Int)] 133)).grownBy w5 (c8 VA m2 vc).ownBlock->w5.cell? ⟨p,1,none⟩=some (.slice VA m2 vc)/\w5.frozen? ⟨p,1,none⟩=false/\p<w5.heap.size/\wr.grownBy w5 (c8 VA m2 vc).ownBlock):=fun w5 hg=>by have h1:Blk wr.drew p 132 _:=HD.out.x;have h2:=(h1.alloc (.cells #[.int .i64 y.t,.int .u64 (y.v:Int)] 133)).grown hg (Kak HD.out.x ap.out (by decide));have h3:wr.drew.grownBy w5 (c8 VA m2 vc).ownBlock:=(cY wr.drew _ _).trans hg;exact⟨h2.cell 1,h2.frozen 1,h2.lt,⟨h3.os,h3.tape,h3.output,h3.size,h3.block⟩⟩
       have am:Hid (∀j u,([.int .i64 y.t,.int .u64 (y.v:Int)]:List Value)[j]? = some u->(wr.drew.alloc (.cells #[.int .i64 y.t,.int .u64 (y.v:Int)] 133)).cell? ((⟨wr.heap.size,0,none⟩:Addr).add j)=some u):=Kam (l:=[.int .i64 y.t,.int .u64 (y.v:Int)]) (c4 wr.drew _ _);have bi:Hid (∀u∈([.int .i64 y.t,.int .u64 (y.v:Int)]:List Value),u.oneCell'=true):=by show ∀u∈_,_;intro u hu;simp at hu;rcases hu with rfl | rfl <;> rfl
       clear ac aG hm aa;go_upto_region 13 with fail
       go_region_law ((refine step_append_lies _ (by rfl) _ _ _ (by rfl) wo.heap.size 133 is (.agg #[.int .i64 0,.int .u64 0]) 2 16 underlying129 bK bW bM bU rfl (by omega) (.slice VA m2 vc) m2 _ (by rfl) (World.ownsRow.alloc (w:=wr.drew) ap.out _) ⟨wr.heap.size,0,none⟩ 1 1 [.int .i64 y.t,.int .u64 (y.v:Int)] (by rfl) (by rfl) am.out bi.out (by omega) (by simp only[maxLen];omega) (by omega) (by simp;omega) (wr.heap.size+1) (by simp) ?_;intro g cap w5 hown5 hgrow aH hlt5;obtain⟨kz,fz,pz,aW⟩:=bg.out _ hgrow))
       all_goals
        have aF:Hid (DNew wo (w5.setCell ⟨p,1,none⟩ (.slice (some ⟨g,0,none⟩) (m2+1) cap)) p ⟨lA,ln,lc⟩ (.slice (some ⟨g,0,none⟩) (m2+1) cap) (.slice none 0 0) ((s.samples.take (k+1)).filter (fS s)) []):=HD.out.setS aW (by
         rw[bc.out,Jd,cA,HM.out]
         exact hown5)
        clear aH hgrow hown5 aW;go_wp2_with fail
        go_roundg (sn - (k+1))
        case measure=>omega
        case rel=>exact⟨k+1,_,by first | rfl | go_num,by omega,aF⟩
      | true=>
       have aF:Hid (DNew wo wr p ⟨lA,ln,lc⟩ vs (.slice none 0 0) ((s.samples.take (k+1)).filter (fS s)) []):=by
        have aa:fS s y=false:=HP.out;have e:(s.samples.take (k+1)).filter (fS s)=(s.samples.take k).filter (fS s):=by rw[aA.out,aa];simp
        show DNew _ _ _ _ _ _ _ _
        rw[e];exact HD.out
       clear HD aA HP;go_wp2_with fail
       go_roundg (sn - (k+1))
       case measure=>omega
       case rel=>exact⟨k+1,_,by first | rfl | go_num,by omega,aF⟩
     .have al:(s.samples.take k).filter (fS s)=s.samples.filter (fS s):=by
       by_cases hr9:r=0
       .rw[cz (by rw[a4.out.len];exact dj fun h9=>hon ⟨hr9,h9⟩)]
       .have h9:∀y,fS s y=false:=fun y=>by rw[bH.out];dsimp only;rw[jJ hr9,cP]
        rw[cy.2 fun y _=>by rw[h9 y];exact cK,cy.2 fun y _=>by rw[h9 y];exact cK]
      rw[al]at HD;clear al
      by_cases hr9:r=0
      .have ag:¬(k:Int)<(sn:Int):=fun h9=>hon ⟨hr9,by omega⟩
       clear hon hr9;go_wp2_with fail
       go_meet
       exact⟨vs,HD⟩
      .have an:¬(r:Int)=0:=by omega
       have bo:q0=false:=by rw[<-bG,jO];exact an
       clear hon an hr9;rcases cI k sn with h9 | h9
       .have ag:(k:Int)<(sn:Int):=by omega
        go_wp2_with fail
        go_meet
        exact⟨vs,HD⟩
       .have ag:¬(k:Int)<(sn:Int):=by omega
        go_wp2_with fail
        go_meet
        exact⟨vs,HD⟩
   case rest=>
    clear bs;obtain⟨vs,HD⟩:=hcut;obtain⟨wr,rfl⟩:=jG wc;have aC:=HD.out.s;obtain⟨SN,a1⟩:=jG ((s.samples.filter (fS s)).length);rw[<-a1]at aC;obtain⟨SA,SC,bJ⟩:=Kah aC;subst bJ;have bS:SN<=137438953472:=by rw[a1];exact cE (cD _ _) (by rw[a4.out.len];exact aP)
    have a8:=Jh a1;have bd:Hid (DNew wo wr p ⟨lA,ln,lc⟩ (.slice SA SN SC) (.slice none 0 0) (s.samples.filter (fS s)) ((s.windows.take 0).filter (fW s))):=HD.out;clear HD aC a1;go_upto_block 4 with fail
    go_cut [12,13] from 75 to 117 (fun _ _ wz=>∃vs:Value,Hid (DNew wo wz p ⟨lA,ln,lc⟩ (.slice SA SN SC) vs (s.samples.filter (fS s)) (s.windows.filter (fW s))))
    case first=>
     go_wp2_with fail
     go_loopg [12] wn (fun kx s12 wr=>∃(k:Nat) (vs:Value),s12 = .int .i64 (k:Int)/\k+kx=wn/\Hid (DNew wo wr p ⟨lA,ln,lc⟩ (.slice SA SN SC) vs (s.samples.filter (fS s)) ((s.windows.take k).filter (fW s))))
     case atStart=>exact⟨0,_,rfl,by omega,bd⟩
     case round=>
      clear bd;obtain⟨k,vs,rfl,hk,HD⟩:=hrel;have aD:wr.cell? ⟨b0,ad+i*3+2,none⟩=some (.slice wA wn wc):=aX.out wr HD.out.b 2 _ (by decide) rfl;have ak:b0<wr.heap.size:=cw a9.out HD.out.b.size
      by_cases hon:r≠0/\k<wn
      .have ag:(k:Int)<(wn:Int):=by omega
       have an:0<(r:Int):=by omega
       have bo:q1=true:=by rw[<-bp];exact jL an
       clear an;have ax:=a0.out.below (aq.out.trans (HD.out.b.mono aq.out.size));obtain⟨bx,ox,bh,ao,aR⟩:=ax.2 (by omega);have bb:=ax.len;obtain⟨y,hy⟩:∃y,s.windows[k]? = some y:=⟨s.windows[k]'(by omega),cp _⟩;have aj:=aR k y hy;have ab:bx<wr.heap.size:=cw ao (cE aq.out.size HD.out.b.size);have e0:wr.cell? ⟨bx,ox+k*6,none⟩=some (.int .i64 y.start):=aj 0 _ rfl;have e1:wr.cell? ⟨bx,ox+k*6+1,none⟩=some (.int .i64 y.count):=aj 1 _ rfl;have e2:wr.cell? ⟨bx,ox+k*6+2,none⟩=some (.int .u64 (y.sum:Int)):=aj 2 _ rfl;have e3:wr.cell? ⟨bx,ox+k*6+3,none⟩=some (.int .u64 (y.min:Int)):=aj 3 _ rfl;have e4:wr.cell? ⟨bx,ox+k*6+4,none⟩=some (.int .u64 (y.max:Int)):=aj 4 _ rfl;have e5:wr.cell? ⟨bx,ox+k*6+5,none⟩=some (.int .u64 (y.last:Int)):=aj 5 _ rfl
       have aA:Hid ((s.windows.take (k+1)).filter (fW s)=(s.windows.take k).filter (fW s)++(if fW s y=true then [y] else [])):=by
        show _=_
        rw[cB,hy,cQ];congr 1;simp only[dd,cU,dc]
       obtain⟨tk,aE⟩:=jG (Kbb ghs r s.labels y.start);have HP:Hid (fW s y = !tk):=by show _=_;rw[bB.out,aE];dsimp only;rw[jL (show r≠0 from hon.1)];rfl
       have aK:Hid (∀u:Later wr,Calls prog 104 #[.slice gB gN gC,.slice lA ln lc,.int .i64 (r:Int),.int .i64 y.start] u.w fun e w'=>e = .returned (.bool tk)/\Below u.w.heap.size u.w w'):=fun u=>by have aU:Below w0.heap.size w0 u.w:=aB.out.trans ((HD.out.b.trans (u.h.mono HD.out.b.size)).mono aB.out.size);have aV:Below wl.heap.size wl u.w:=az.out.trans (aU.mono az.out.size);rw[aE];exact Kls ghs gB lA gN gC ln lc r hr3 s.labels y.start u.w (HG.out.below aU) ((aI.out.1.below aV).more aV.size) (by have h1:=aI.out.1.len;have h2:=bq.out.1;omega)
       have aN:=HD.out.x.cell 0;simp at aN;have bt:=HD.out.x.lt;subst bh;clear ax aR bb hy aj ao aE hon;go_upto_region 17 with fail
       refine Kaa (by kernel_rfl) (by kernel_rfl) ?_
       repeat (go_big_quiet_step ((go_at_call 104;exact Kaj _ (aK.out _))))
       refine dv ?_;rintro w2 ⟨⟨_,ae⟩,rfl⟩;have ay:Hid (DNew wo w2 p ⟨lA,ln,lc⟩ (.slice SA SN SC) vs (s.samples.filter (fS s)) ((s.windows.take k).filter (fW s))):=HD.out.below ae;have bk:w2.cell? ⟨b0,ad+i*3+2,none⟩=some (.slice (some ⟨bx,ox,none⟩) wn wc):=aX.out w2 ay.out.b 2 _ (by decide) rfl;have bv:b0<w2.heap.size:=cw ak ae.size;have a5:bx<w2.heap.size:=cw ab ae.size;have v0:w2.cell? ⟨bx,ox+k*6,none⟩=some (.int .i64 y.start):=(ae.cell (p:=⟨bx,ox+k*6,none⟩) ab).trans e0;have v1:w2.cell? ⟨bx,ox+k*6+1,none⟩=some (.int .i64 y.count):=(ae.cell (p:=⟨bx,ox+k*6+1,none⟩) ab).trans e1;have v2:w2.cell? ⟨bx,ox+k*6+2,none⟩=some (.int .u64 (y.sum:Int)):=(ae.cell (p:=⟨bx,ox+k*6+2,none⟩) ab).trans e2;have v3:w2.cell? ⟨bx,ox+k*6+3,none⟩=some (.int .u64 (y.min:Int)):=(ae.cell (p:=⟨bx,ox+k*6+3,none⟩) ab).trans e3;have v4:w2.cell? ⟨bx,ox+k*6+4,none⟩=some (.int .u64 (y.max:Int)):=(ae.cell (p:=⟨bx,ox+k*6+4,none⟩) ab).trans e4;have v5:w2.cell? ⟨bx,ox+k*6+5,none⟩=some (.int .u64 (y.last:Int)):=(ae.cell (p:=⟨bx,ox+k*6+5,none⟩) ab).trans e5;clear ae aD ak ab e0 e1 e2 e3 e4 e5 aN bt HD aK;have HD:=ay;clear ay;obtain⟨wr,rfl⟩:=jG w2
       cases tk with
       | false=>
        have aa:fW s y=true:=HP.out;have bc:Hid ((s.windows.take (k+1)).filter (fW s)=(s.windows.take k).filter (fW s) ++ [y]):=by show _=_;rw[aA.out,aa];rfl
        have ac:=HD.out.w;obtain⟨m2,hm⟩:=jF (((s.windows.take k).filter (fW s)).length);have bV:m2<=k:=by rw[<-hm];exact cE (cD _ _) (by rw[cr];omega)
        have HM:=Jh hm;rw[hm]at ac;obtain⟨VA,vc,aC⟩:=Kah ac;subst aC;have ap:=Jh ac;have aG:=HD.out.x;have d1:wr.cell? ⟨p,2,none⟩=some (.slice VA m2 vc):=aG.cell 2;have bQ:=aG.lt;have bL:wo.heap.size<=wr.heap.size:=HD.out.b.size
        have bg:Hid (∀w5:World,(wr.drew.alloc (.cells #[.int .i64 y.start,.int .i64 y.count,.int .u64 (y.sum:Int),.int .u64 (y.min:Int),.int .u64 (y.max:Int),.int .u64 (y.last:Int)] 136)).grownBy w5 (c8 VA m2 vc).ownBlock->w5.cell? ⟨p,2,none⟩=some (.slice VA m2 vc)/\w5.frozen? ⟨p,2,none⟩=false/\p<w5.heap.size/\wr.grownBy w5 (c8 VA m2 vc).ownBlock):=fun w5 hg=>by have h1:Blk wr.drew p 132 _:=HD.out.x;have h2:=(h1.alloc (.cells #[.int .i64 y.start,.int .i64 y.count,.int .u64 (y.sum:Int),.int .u64 (y.min:Int),.int .u64 (y.max:Int),.int .u64 (y.last:Int)] 136)).grown hg (Kak HD.out.x ap.out (by decide));have h3:wr.drew.grownBy w5 (c8 VA m2 vc).ownBlock:=(cY wr.drew _ _).trans hg;exact⟨h2.cell 2,h2.frozen 2,h2.lt,⟨h3.os,h3.tape,h3.output,h3.size,h3.block⟩⟩
        have am:Hid (∀j u,([.int .i64 y.start,.int .i64 y.count,.int .u64 (y.sum:Int),.int .u64 (y.min:Int),.int .u64 (y.max:Int),.int .u64 (y.last:Int)]:List Value)[j]? = some u->(wr.drew.alloc (.cells #[.int .i64 y.start,.int .i64 y.count,.int .u64 (y.sum:Int),.int .u64 (y.min:Int),.int .u64 (y.max:Int),.int .u64 (y.last:Int)] 136)).cell? ((⟨wr.heap.size,0,none⟩:Addr).add j)=some u):=Kam (l:=[.int .i64 y.start,.int .i64 y.count,.int .u64 (y.sum:Int),.int .u64 (y.min:Int),.int .u64 (y.max:Int),.int .u64 (y.last:Int)]) (c4 wr.drew _ _);have bi:Hid (∀u∈([.int .i64 y.start,.int .i64 y.count,.int .u64 (y.sum:Int),.int .u64 (y.min:Int),.int .u64 (y.max:Int),.int .u64 (y.last:Int)]:List Value),u.oneCell'=true):=by show ∀u∈_,_;intro u hu;simp at hu;rcases hu with rfl | rfl | rfl | rfl | rfl | rfl <;> rfl
        clear ac aG hm aa;go_upto_region 19 with fail
        go_region_law ((refine step_append_lies _ (by rfl) _ _ _ (by rfl) wo.heap.size 136 iw (.agg #[.int .i64 0,.int .i64 0,.int .u64 0,.int .u64 0,.int .u64 0,.int .u64 0]) 6 48 underlying130 bX bZ aQ bR rfl (by omega) (.slice VA m2 vc) m2 _ (by rfl) (World.ownsRow.alloc (w:=wr.drew) ap.out _) ⟨wr.heap.size,0,none⟩ 1 1 [.int .i64 y.start,.int .i64 y.count,.int .u64 (y.sum:Int),.int .u64 (y.min:Int),.int .u64 (y.max:Int),.int .u64 (y.last:Int)] (by rfl) (by rfl) am.out bi.out (by omega) (by simp only[maxLen];omega) (by omega) (by simp;omega) (wr.heap.size+1) (by simp) ?_;intro g cap w5 hown5 hgrow aH hlt5;obtain⟨kz,fz,pz,aW⟩:=bg.out _ hgrow))
        all_goals
         have aF:Hid (DNew wo (w5.setCell ⟨p,2,none⟩ (.slice (some ⟨g,0,none⟩) (m2+1) cap)) p ⟨lA,ln,lc⟩ (.slice SA SN SC) (.slice (some ⟨g,0,none⟩) (m2+1) cap) (s.samples.filter (fS s)) ((s.windows.take (k+1)).filter (fW s))):=HD.out.setW aW (by
          rw[bc.out,Jd,cA,HM.out]
          exact hown5)
         clear aH hgrow hown5 aW;go_wp2_with fail
         go_roundg (wn - (k+1))
         case measure=>omega
         case rel=>exact⟨k+1,_,by first | rfl | go_num,by omega,aF⟩
       | true=>
        have aF:Hid (DNew wo wr p ⟨lA,ln,lc⟩ (.slice SA SN SC) vs (s.samples.filter (fS s)) ((s.windows.take (k+1)).filter (fW s))):=by
         have aa:fW s y=false:=HP.out;have e:(s.windows.take (k+1)).filter (fW s)=(s.windows.take k).filter (fW s):=by rw[aA.out,aa];simp
         show DNew _ _ _ _ _ _ _ _
         rw[e];exact HD.out
        clear HD aA HP;go_wp2_with fail
        go_roundg (wn - (k+1))
        case measure=>omega
        case rel=>exact⟨k+1,_,by first | rfl | go_num,by omega,aF⟩
      .have al:(s.windows.take k).filter (fW s)=s.windows.filter (fW s):=by
        by_cases hr9:r≠0
        .rw[cz (by rw[a0.out.len];exact dj fun h9=>hon ⟨hr9,h9⟩)]
        .have h9:∀y,fW s y=false:=fun y=>by rw[bB.out];dsimp only;rw[jJ hr9,cP]
         rw[cy.2 fun y _=>by rw[h9 y];exact cK,cy.2 fun y _=>by rw[h9 y];exact cK]
       rw[al]at HD;clear al
       by_cases hr9:r≠0
       .have ag:¬(k:Int)<(wn:Int):=fun h9=>hon ⟨hr9,by omega⟩
        clear hon hr9;go_wp2_with fail
        go_meet
        exact⟨vs,HD⟩
       .have an:¬0<(r:Int):=by omega
        have bo:q1=false:=by rw[<-bp];exact jJ an
        clear hon an hr9;rcases cI k wn with h9 | h9
        .have ag:(k:Int)<(wn:Int):=by omega
         go_wp2_with fail
         go_meet
         exact⟨vs,HD⟩
        .have ag:¬(k:Int)<(wn:Int):=by omega
         go_wp2_with fail
         go_meet
         exact⟨vs,HD⟩
    case rest=>
     clear bd;obtain⟨vs,HD⟩:=hcut;obtain⟨wr,rfl⟩:=jG wc;have ba:=HD.out.w;obtain⟨WN,aY⟩:=jG ((s.windows.filter (fW s)).length);rw[<-aY]at ba;obtain⟨WA,WC,bP⟩:=Kah ba;subst bP;have b3:WN<=137438953472:=by rw[aY];exact cE (cD _ _) (by rw[a0.out.len];exact aM)
     have br:=Jh aY;clear ba aY;have aw:Hid (DOut wl w0 wr (.slice A7 m c7) hs (((ss.take i).map (keepS fS fW)).filter Kaq)):=HO.out.below HD.out.b;have aT:=HD.out.x;have x0:=aT.cell 0;have x1:=aT.cell 1;have x2:=aT.cell 2;simp at x0 x1 x2;have xl:=aT.lt;have bE:Hid (Kaq (keepS fS fW s)=decide (0<SN+WN)):=by show decide (0<(s.samples.filter (fS s)).length+(s.windows.filter (fW s)).length)=_;rw[a8.out,br.out]
     clear aT
     by_cases hz:0<SN+WN
     .have b6:(0:Int)<(SN:Int)+(WN:Int):=by omega
      have bY:Hid (((ss.take (i+1)).map (keepS fS fW)).filter Kaq=((ss.take i).map (keepS fS fW)).filter Kaq ++ [keepS fS fW s]):=by show _=_;rw[aL.out,bE.out,jL hz];rfl
      have ai:=aw.out.row;rw[<-aJ.out]at ai;have hm:=aJ.out
      have hmz:m<=274877906944:=by have h1:=aw.out.l;have h2:=cD Kaq ((ss.take i).map (keepS fS fW));rw[dl,cr]at h2;omega
      obtain⟨w6,aS⟩:=jG (wr.alloc (.cells #[.slice lA ln lc,.slice SA SN SC,.slice WA WN WC] 132));have aZ:Below wr.heap.size wr w6:=by rw[aS];exact(Below.refl _ _).alloc (co _) _
      have av:Blk w6 wr.heap.size 132 #[.slice lA ln lc,.slice SA SN SC,.slice WA WN WC]:=by rw[aS];exact c4 _ _ _
      have ar:w6.ownsRow w0.heap.size 132 3 (.slice A7 m c7) m (hs.flatMap encH3):=Kbh ai aZ;have be:Hid (DOut wl w0 w6 (.slice A7 m c7) hs (((ss.take i).map (keepS fS fW)).filter Kaq)):=aw.out.below aZ;have bn:Hid (DNew wo w6 p ⟨lA,ln,lc⟩ (.slice SA SN SC) (.slice WA WN WC) (s.samples.filter (fS s)) (s.windows.filter (fW s))):=HD.out.below aZ;have bD:w0.heap.size<=w6.heap.size:=be.out.b.size;have b4:w0.heap.size<=wr.heap.size+1:=by have:=aw.out.b.size;omega
      clear ai aZ aw HD hm;go_wp2_with (at_builtin;(try rw[<-aS]);refine dw _ rfl _ _ 32 rfl w0.heap.size 132 ib (.agg #[.slice none 0 0,.slice none 0 0,.slice none 0 0]) 3 72 underlying32 b2 b7 bI bO rfl (by decide) (.slice A7 m c7) m _ rfl ar ⟨wr.heap.size,0,none⟩ 1 1 [.slice lA ln lc,.slice SA SN SC,.slice WA WN WC] rfl rfl (Kam (l:=[.slice lA ln lc,.slice SA SN SC,.slice WA WN WC]) av) ?p2 ?p3 ?p4 ?p5 ?_)
      case p2=>first | exact⟨rfl,rfl,rfl⟩ | (intro u hu;simp only[dt,df,or_false]at hu;rcases hu with rfl | rfl | rfl <;> rfl)
      case p3=>unfold maxLen;omega
      case p4=>omega
      all_goals try first | exact bD | exact b4
      intro v9 w9 hown' hgrow _ _;rw[<-aS]at hgrow
      have a2:Hid (DOut wl w0 w9 v9 (hs ++ [⟨⟨lA,ln,lc⟩,⟨SA,SN,SC⟩,⟨WA,WN,WC⟩⟩]) (((ss.take (i+1)).map (keepS fS fW)).filter Kaq)):=by
       show DOut _ _ _ _ _ _
       rw[bY.out];refine be.out.snoc hgrow (by rw[<-aJ.out];exact hown') ⟨aI.out.1,aI.out.2,?_,?_⟩
       .have h1:=Kcg bn.out.s aB.out.size;rw[<-a8.out]at h1;show w6.ownsRow _ _ _ (.slice SA SN SC) (s.samples.filter (fS s)).length _
        rw[<-a8.out];exact h1
       .have h1:=Kcg bn.out.w aB.out.size;rw[<-br.out]at h1;show w6.ownsRow _ _ _ (.slice WA WN WC) (s.windows.filter (fW s)).length _
        rw[<-br.out];exact h1
      generalize hs ++ [(⟨⟨lA,ln,lc⟩,⟨SA,SN,SC⟩,⟨WA,WN,WC⟩⟩:Hd3)]=hsn at a2;clear hown' hgrow ar av be bn aS bD x0 x1 x2 xl;go_wp2_with fail
      go_roundg (n - (i+1))
      case measure=>omega
      case rel=>exact⟨i+1,hsn,by first | rfl | go_num,by omega,a2⟩
     .have b6:¬(0:Int)<(SN:Int)+(WN:Int):=by omega
      have a2:Hid (DOut wl w0 wr (.slice A7 m c7) hs (((ss.take (i+1)).map (keepS fS fW)).filter Kaq)):=by
       have e:((ss.take (i+1)).map (keepS fS fW)).filter Kaq=((ss.take i).map (keepS fS fW)).filter Kaq:=by rw[aL.out,bE.out,jJ hz];simp
       show DOut _ _ _ _ _ _
       rw[e];exact aw.out
      clear aw HD;go_wp2_with fail
      go_roundg (n - (i+1))
      case measure=>omega
      case rel=>exact⟨i+1,hs,by first | rfl | go_num,by omega,a2⟩
  .have b1:¬(i:Int)<(n:Int):=by omega
   have bj:=HO.out.row;obtain⟨m,hm⟩:=jG hs.length;rw[<-hm]at bj;obtain⟨A7,c7,bm⟩:=Kah bj;subst bm
   have HF:Hid (DOut wl w0 wr (.slice A7 m c7) hs (keptF fS fW ss)):=by
    have h1:=HO.out;have e:((ss.take i).map (keepS fS fW)).filter Kaq=keptF fS fW ss:=by unfold keptF;rw[cz (by rw[bC.out];exact hge)]
    rw[e]at h1;exact h1
   have aJ:Hid (hs.length=m):=hm.symm;clear HO bj hm;go_wp2_with fail
   go_ret
   first | exact⟨A7,m,c7,hs,rfl,aJ.out,HF.out⟩ | exact⟨A7,m,c7,rfl,hs,aJ.out,HF.out⟩
theorem Ktu (res:Int) (ghs:List (Hd4×GoneP)) (gB:Option Addr) (gN gC:Nat) (A:Option Addr) (n c:Nat) (ss:List Ser) (w0:World) (hG:Gones w0 gB gN ghs) (h:SersZ w0 A n ss) :
  Calls prog 36 #[.int .i64 res,.slice A n c,.slice gB gN gC] w0 fun e w'=>∃(A':Option Addr) (n' c':Nat),e = .returned (.slice A' n' c')/\Sers w' A' n' (Kbn res ghs ss)/\n'<=c'/\Below w0.heap.size w0 w':=by
 by_cases hr:0<=res/\res<3
 .obtain ⟨r,rfl⟩:=Int.eq_ofNat_of_zero_le hr.1;refine(Ktv r (by omega) ghs gB gN gC A n c ss w0 w0 (Below.refl _ _) hG h).mono ?_;rintro e w' ⟨A',n',c',hs,he,hl,hd⟩;exact⟨A',n',c',he,(hd.sers hl).1,(hd.sers hl).2,hd.b⟩
 .have HF:Hid (Kbn res ghs ss = []):=by show _=_;unfold Kbn;rw[jM hr]
  have HN:Hid (Sers w0 none 0 []):=Sers.nil w0;rw[HF.out];clear hG h HF
  by_cases h0:res<0
  .clear hr;go_enter func36,ntmps36
   go_wp2_with fail
   go_ret
   exact⟨none,0,0,rfl,HN.out,co _,Below.refl _ _⟩
  .have h2:2<res:=by omega
   clear hr;go_enter func36,ntmps36
   go_wp2_with fail
   go_ret
   exact⟨none,0,0,rfl,HN.out,co _,Below.refl _ _⟩
end
end
section
section
variable {α : Type}
def Kaf (l:List α) (k:Nat) (z:α):List α:=l.take k++z :: l.drop k
theorem Kdh (l:List α) (k:Nat) (z:α):(Kaf l k z).length=l.length+1:=by unfold Kaf;simp only[cC,cr,cZ,List.length_drop];omega
theorem Klw (l:List α) (z:α):Kaf l l.length z=l ++ [z]:=by unfold Kaf;simp
theorem Kgi {l:List α}{k j:Nat}{z:α}(h:j<k) (hk:k<=l.length):(Kaf l k z)[j]? = l[j]?:=by unfold Kaf;rw[ct (by rw[cr];omega),List.getElem?_take_of_lt h]
theorem Kdr (l:List α) {k:Nat}(z:α) (hk:k<=l.length):(Kaf l k z)[k]? = some z:=by unfold Kaf;rw[cx (by rw[cr];omega),cr,Nat.min_eq_left hk,cN];rfl
theorem Qai {A B:List α}{z y:α}{k:Nat}(h:A.length=k):(A++z :: B).set k y=A++y :: B:=by subst h;rw[List.set_append_right _ _ (co _),cN];rfl
theorem Kgj {l:List α}{k:Nat}(z x:α) (hk:k<=l.length):(Kaf l k z).set k x=Kaf l k x:=by unfold Kaf;exact Qai (by rw[cr];omega)
theorem Kjw {l:List α}{j:Nat}{y:α}(z:α) (h:l[j]? = some y):(Kaf l (j+1) z).set (j+1) y=Kaf l j y:=by
 have hl:=(cq.1 h).1;rw[Kgj z y (by omega)];have e1:l.take (j+1)=l.take j ++ [y]:=by rw[cB,h];rfl
 have e2:l.drop j=y :: l.drop (j+1):=by rw[cR hl,(cq.1 h).2]
 unfold Kaf;rw[e1,e2];simp
variable (key : α -> Int)
theorem Kjo (x:α):∀{l:List α}{k:Nat},k<=l.length->(∀y∈l.take k,key y<key x)->(∀y∈l.drop k,key x<=key y)->(∀y,l[k]? = some y->key y≠key x)->insO key x l=Kaf l k x
 | [],k,hk,_,_,_=>by
  have:k=0:=by simpa using hk
  subst this;rfl
 | y :: l,0,_,_,h2,h3=>by have h4:=h2 y (by simp);have h5:=h3 y rfl;unfold insO Kaf;rw[jN (by omega)];rfl
 | y :: l,k+1,hk,h1,h2,h3=>by have h4:=h1 y (by simp);unfold insO;rw[jM (by omega),jM (by omega),Kjo x (l:=l) (k:=k) (by simpa using hk) (fun z hz=>h1 z (by simp[hz])) (fun z hz=>h2 z (by simpa using hz)) (fun z hz=>h3 z (by simpa using hz))];rfl
theorem Kle (x:α):∀{l:List α}{k:Nat}{y:α},(∀y∈l.take k,key y<key x)->l[k]? = some y->key y=key x->insO key x l=l
 | [],k,y,_,h,_=>by simp at h
 | z :: l,0,y,_,h,e=>by simp only[cv,dm]at h;subst h;unfold insO;rw[jM (by omega),jN (by omega)]
 | z :: l,k+1,y,h1,h,e=>by have h4:=h1 z (by simp);unfold insO;rw[jM (by omega),jM (by omega),Kle x (l:=l) (k:=k) (y:=y) (fun z hz=>h1 z (by simp[hz])) (by simpa using h) e]
def Kpx {β : Type}:List β->Nat->List β->List β
 | xs,_,[]=>xs
 | xs,i,v :: vs=>Kpx (xs.set i v) (i+1) vs
theorem Kjv {β : Type}:∀(vs A C B:List β),C.length=vs.length->Kpx (A++C++B) A.length vs=A++vs++B
 | [],A,C,B,h=>by have:C = []:=cL (by simpa using h);subst this;rfl
 | v :: vs,A,[],B,h=>by simp at h
 | v :: vs,A,c :: C,B,h=>by
  have e:(A++c :: C++B).set A.length v=A ++ [v]++C++B:=by simp
  have:=Kjv vs (A ++ [v]) C B (by simpa using h);unfold Kpx;rw[e];rw[show A.length+1=(A ++ [v]).length by simp,this];simp
theorem Kge {β : Type}{enc:α->List β}{n:Nat}(hk:∀x,(enc x).length=n):∀(l:List α) (i:Nat) (y z:α),l[i]? = some z->Kpx (l.flatMap enc) (i*n) (enc y)=(l.set i y).flatMap enc
 | [],i,y,z,h=>by simp at h
 | a :: l,0,y,z,h=>by simp only[List.set_cons_zero,cT,Nat.zero_mul];have:=Kjv (enc y) [] (enc a) (l.flatMap enc) (by rw[hk,hk]);simpa using this
 | a :: l,i+1,y,z,h=>by
  have hz:l[i]? = some z:=by simpa using h
  obtain⟨A,B,hl,hA⟩:∃A B,l=A++z :: B/\A.length=i:=by have ab:=(cq.1 hz).1;refine⟨l.take i,l.drop (i+1),?_,by rw[cr];omega⟩;rw[<-(cq.1 hz).2,<-cR ab,List.take_append_drop]
  have aa:∀A:List α,(A.flatMap enc).length=A.length*n:=by
   intro A
   induction A with
   | nil=>simp
   | cons x A ih=>rw[cT,cC,ih,hk,cZ,Nat.succ_mul];omega
  have:=Kjv (enc y) ((a :: A).flatMap enc) (enc z) (B.flatMap enc) (by rw[hk,hk]);rw[aa,cZ,hA]at this;rw[hl,List.set_cons_succ,Qai hA];simp only[cT,cA,List.append_assoc]at this |-;exact this
end
end
end Go.Proofs.YtdoiekknhnbepaaGreatDoor
