/- Merged (what the claim wants of): MrgKept, MrgClip, MrgStrip, MrgLaw4, MrgLaw5, IMap, CStarts, EncSealE, EncSealF, BlkPlain4, BlkPlain5, BlkTake2, KeyIter, BlkListsA. -/
import Derived.Test.YtdoiekknhnbepaaGreatDoorCmk05
import Derived.Laws.EntriesVeiled
import Derived.Sort.OwnSortedInts
set_option linter.unusedVariables false
set_option linter.unusedSimpArgs false
set_option maxRecDepth 1000000
set_option linter.ambiguousOpen false
set_option maxHeartbeats 8000000
namespace Go.Proofs.YtdoiekknhnbepaaGreatDoor
open Go renaming wpQuiet_nil->eE
open Go renaming wpList_append_own_at->eD
open List renaming getElem?_eq_getElem->cX,getD_eq_getElem?_getD->cY,getElem?_eq_some_iff->c6,getElem?_cons_zero->c8,filter_eq_nil_iff->dg,mem_cons->di,mem_singleton->dk,any_eq_true->dm,getElem?_append_left->dq,nodup_append->ds,mem_range->dX,range->dY
open World renaming grownBy_alloc->dZ,ownsRow_nil->ZZ,ownsRow->ZV
open BitVec renaming toNat_ofNat->ZY,ofInt_natCast->ZX,toNat_xor->ZW,ofInt->ZU
open Maps renaming size->ea,keyOf_int_inv->eb,has->ec
open Blk renaming new->ed,newAt->ee
open Grown renaming refl->ef
open Value renaming int->eh,slice->ei
open IntKind renaming u32->ej,wrap_u64->ek,i64->em,u64->en,wrap_u32->eo
open Wnd renaming start->ep
open UInt8 renaming toNat_ofNat'->eq,ofNat->et
open Smp renaming t->ev
open Lit renaming int->ew,sameKey->ey
open _root_.Array renaming getElem?_eq_some_iff->ez
open Result renaming andThen->eA
open Option.some renaming injEq->eB
open Classical renaming byContradiction->eC
open Tryz
open Nat renaming le_refl->cN,lt_of_lt_of_le->cO,lt_or_ge->de,and_two_pow_sub_one_eq_mod->dj,le_of_lt->dl,shiftLeft_eq->dr,le_trans->dw,eq_zero_or_pos->dB,mod_eq_of_lt->dI,or_assoc->dJ,or_comm->dN
open List renaming take_of_length_le->cP,length_append->cQ,take_add_one->cR,take_succ_cons->cT,eq_nil_of_length_eq_zero->cU,take_zero->cZ,map_append->da,drop_succ_cons->db,filter_append->dd,mem_of_getElem?->df,getElem_mem->dh,drop_zero->dn,filter_cons->dp,flatMap_append->dt,length_map->dv,flatMap_singleton->dx,not_mem_nil->dy,mem_cons_of_mem->dz,filter_nil->dA,mem_cons_self->dC,mem_singleton->dD,append_assoc->dE,mem_cons->dF,length_take->dG,length_cons->dH,mem_append->dK,length_filter_le->dL,length_singleton->dM,pairwise_map->dO,flatten_cons->dP,any_append->dQ,filter_map->dR,append_nil->dS
open Bool renaming and_eq_true->dc,false_and->dT,true_and->dV
open Option renaming toList->dU
open Int renaming decEq->dW
section
open Go.Shelf Go.RowKit Go.Lib Go.Sort
open Lib renaming hid -> Jh
attribute [local go_sem ↓] Go.wp_at_zero Go.wp_at_succ
attribute [local go_sem] Later.cell
section
theorem MRows.snoc2 {B:Nat}{w1 w:World}{hs:List Hd3}{gs:List Ser}(m:MRows B w1 hs gs) (hb:Below w1.heap.size w1 w) {h:Hd3}{s:Ser}(hm:MRow B w h s) (h1:∀b,(spM h).ownBlock=some b->w1.heap.size<=b) (h2:∀b,(wpM h).ownBlock=some b->w1.heap.size<=b):MRows B w (hs ++ [h]) (gs ++ [s]):=by
 have mw:=m.below hb
 have aa:∀(i:Nat) (x:Hd3),(hs ++ [h])[i]? = some x->(hs[i]? = some x/\i<hs.length)\/(x=h/\i=hs.length):=fun i x hi=>by
  rcases de i hs.length with hl | hl
  .rw[dq hl]at hi;exact .inl ⟨hi,hl⟩
  .rw[List.getElem?_append_right hl]at hi;rcases dB (i - hs.length) with h0 | h0
   .rw[h0]at hi;exact .inr ⟨by simpa using hi.symm,by omega⟩
   .rw[List.getElem?_eq_none (by simp;omega)]at hi;cases hi
 have ac:∀(i:Nat) (x:Hd3),hs[i]? = some x->((spM x).ownBlock=none\/(spM x).ownBlock≠(spM h).ownBlock)/\((wpM x).ownBlock=none\/(wpM x).ownBlock≠(wpM h).ownBlock):=fun i x hi=>by
  have a:=m.at_ i x hi;refine⟨?_,?_⟩
  .cases hq:(spM x).ownBlock with
   | none=>exact .inl rfl
   | some c=>
         refine .inr fun e=>?_
         have:=h1 c e.symm;have:=(a.sm.lt c hq).2;omega
  .cases hq:(wpM x).ownBlock with
   | none=>exact .inl rfl
   | some c=>
         refine .inr fun e=>?_
         have:=h2 c e.symm;have:=(a.wd.lt c hq).2;omega
 have ab:∀{a b:Option Nat},(a=none\/a≠b)->(b=none\/b≠a):=fun {a b} q=>by
  cases b with
  | none=>exact .inl rfl
  | some c=>
        refine .inr fun e=>?_
        rcases q with q | q
        .rw[q]at e;cases e
        .exact q e.symm
 refine⟨by simp[m.len],fun i x hi=>?_,fun i j x y hi hj hij=>?_⟩
 .rcases aa i x hi with ⟨hi,hl⟩ | ⟨e1,e2⟩
  .rw[show(gs ++ [s])[i]! = gs[i]! by rw[jI _ i (by have:=m.len;simp;omega),jI gs i (by have:=m.len;omega),List.getElem_append_left]];exact mw.at_ i x hi
  .rw[e1,e2,show(gs ++ [s])[hs.length]! = s by rw[m.len];simp];exact hm
 .rcases aa i x hi with ⟨hi,hl⟩ | ⟨e1,e2⟩
  .rcases aa j y hj with ⟨hj,hl2⟩ | ⟨e3,e4⟩
   .exact m.sep i j x y hi hj hij
   .rw[e3];exact ac i x hi
  .rcases aa j y hj with ⟨hj,hl2⟩ | ⟨e3,e4⟩
   .rw[e1];have f:=ac j y hj;exact⟨ab f.1,ab f.2⟩
   .omega
def keepS (fS:Ser->Smp->Bool) (fW:Ser->Wnd->Bool) (s:Ser):Ser:=⟨s.labels,s.samples.filter (fS s),s.windows.filter (fW s)⟩
def keptF (fS:Ser->Smp->Bool) (fW:Ser->Wnd->Bool) (l:List Ser):List Ser:=(l.map (keepS fS fW)).filter Kaq
def Kjj {β : Type}(P:Program) (g:Nat) (cb:Array Value) (enc:β->List Value) (f:Ser->β->Bool) (hs:List Hd3) (ss:List Ser) (of:Ser->List β) (w0:World):Prop:=
 ∀W,Below w0.heap.size w0 W->∀(i:Nat) (h:Hd3) (s:Ser),hs[i]? = some h->ss[i]! = s->∀y,y∈of s->Calls P g (#[.agg (encH3 h).toArray,.agg (enc y).toArray]++cb) W fun e w'=>e = .returned (.bool (f s y))/\Grown W w'
def Kbm (w:World) (B:Nat) (A:Option Addr) (n c:Nat) (L:List Ser):Prop:=
 ∃hs:List Hd3,hs.length=n/\w.ownsRow B 58 3 (.slice A n c) n (hs.flatMap encH3)/\MRows B w hs L
theorem Kbm.sers {w:World}{B:Nat}{A:Option Addr}{n c:Nat}{L:List Ser}(h:Kbm w B A n c L):Sers w A n L/\n<=c:=by obtain⟨hs,rfl,h1,h2⟩:=h;obtain⟨A9,c9,e9,hE,_,aa⟩:=Elems.of_own (xs:=hs) (fun x _=>Kda x) rfl h1 rfl;injection e9 with e9 _ e8;subst e9 e8;exact⟨⟨hs,hE,h2.len.symm,fun i h hi=>h2.sers i h hi⟩,aa⟩
theorem Kbm.grown {w w':World}{B:Nat}{A:Option Addr}{n c:Nat}{L:List Ser}{row:Option Nat}(h:Kbm w B A n c L) (hg:w.grownBy w' row)
  (hrow:∀r,row=some r->∃t cs,Blk w r t cs/\t≠58/\t≠99/\t≠102/\t≠135):Kbm w' B A n c L:=by
 obtain⟨hs,h0,h1,h2⟩:=h;refine⟨hs,h0,Kcv h1 hg.size fun k hk=>hg.block k (h1.lt k hk).2 fun e=>?_,h2.frame hg fun r e=>?_⟩
 .obtain ⟨t,cs,hb,ht,_⟩:=hrow k e.symm;exact Kak hb h1 ht hk.symm
 .obtain ⟨t,cs,hb,_,ht⟩:=hrow r e;exact⟨t,cs,hb,ht⟩
theorem MRows.mono {B B':Nat}{w:World}{hs:List Hd3}{gs:List Ser}(m:MRows B w hs gs) (hB:B'<=B):MRows B' w hs gs:=
 ⟨m.len,fun i h hi=>⟨(m.at_ i h hi).lb.imp id fun x=>Kcg x hB,(m.at_ i h hi).ln,(m.at_ i h hi).lc,Kcg (m.at_ i h hi).sm hB,Kcg (m.at_ i h hi).wd hB⟩,m.sep⟩
theorem Kbm.mono {w:World}{B B':Nat}{A:Option Addr}{n c:Nat}{L:List Ser}(h:Kbm w B A n c L) (hB:B'<=B):Kbm w B' A n c L:=by obtain⟨hs,h0,h1,h2⟩:=h;exact⟨hs,h0,Kcg h1 hB,h2.mono hB⟩
theorem Kbm.below {w w':World}{B:Nat}{A:Option Addr}{n c:Nat}{L:List Ser}(h:Kbm w B A n c L) (hb:Below w.heap.size w w'):Kbm w' B A n c L:=
 h.grown (row:=none) ⟨hb.os,hb.tape,hb.output,hb.size,fun k hk _=>hb.block k hk⟩ fun r e=>by cases e
theorem Knb {w0:World}(fS:Ser->Smp->Bool) (fW:Ser->Wnd->Bool) (gS gW:Nat) (cS cW:Array Value) (A:Option Addr) (n c:Nat) (hs0:List Hd3) (ss:List Ser)
  (egS:∀args w,(callFunc gS args).run prog w = .ok (.enter gS args) w) (egW:∀args w,(callFunc gW args).run prog w = .ok (.enter gW args) w)
  (hE:Elems w0 w0.heap.size 3 encH3 A n hs0) (hss:ss.length=n) (hat:∀(i:Nat) (h:Hd3),hs0[i]? = some h->SerAt w0 h ss[i]!)
  (hz:∀s∈ss,s.labels.length<=1099511627776/\s.samples.length<=137438953472/\s.windows.length<=137438953472) (hn:n<=274877906944)
  (hS:Kjj prog gS cS Kac fS hs0 ss Ser.samples w0) (hW:Kjj prog gW cW Kad fW hs0 ss Ser.windows w0) :
  Calls prog 54 #[.slice A n c,.func (.func gS) #[] cS,.func (.func gW) #[] cW] w0 fun e w'=>∃(A':Option Addr) (n' c':Nat),e = .returned (.slice A' n' c')/\Kbm w' w0.heap.size A' n' c' (keptF fS fW ss)/\n'<=c'/\Below w0.heap.size w0 w':=by
 obtain⟨ib,cH,cL,cw,cC⟩:=info_parts Kie;have HE:=Jh hE;have b4:=Jh hss;have cE:=Jh hat;have HZ:=Jh hz;have cM:Hid (∀W,Below w0.heap.size w0 W->∀(i:Nat) (h:Hd3) (s:Ser),hs0[i]? = some h->ss[i]! = s->∀y,y∈s.samples->Calls prog gS (#[.agg (encH3 h).toArray,.agg (Kac y).toArray]++cS) W fun e w'=>e = .returned (.bool (fS s y))/\Grown W w'):=hS;have cB:Hid (∀W,Below w0.heap.size w0 W->∀(i:Nat) (h:Hd3) (s:Ser),hs0[i]? = some h->ss[i]! = s->∀y,y∈s.windows->Calls prog gW (#[.agg (encH3 h).toArray,.agg (Kad y).toArray]++cW) W fun e w'=>e = .returned (.bool (fW s y))/\Grown W w'):=hW;have M0:Hid (MSt w0 w0 w0 (.slice none 0 0) [] (((ss.take 0).map (keepS fS fW)).filter Kaq)):=⟨Below.refl _ _,Below.refl _ _,ZZ _ _ _ _,⟨rfl,fun i h hi=>by simp at hi,fun i j h h' hi=>by simp at hi⟩⟩;clear hE hss hat hz hS hW;go_enter func54,ntmps54
 go_wp2
 go_loopg [7,17] n (fun kx s7 s17 wr=>∃(i:Nat) (hs:List Hd3),s17 = .int .i64 (i:Int)/\i+kx=n/\Hid (MSt w0 w0 wr s7 hs (((ss.take i).map (keepS fS fW)).filter Kaq)))
 case atStart=>exact⟨0,[],rfl,by omega,M0⟩
 case round=>
  clear M0;obtain⟨i,hs,rfl,hi,HM⟩:=hrel;rcases de i n with hlt | hge
  .have bx:(i:Int)<(n:Int):=by omega
   obtain⟨A4,cV,bG⟩:=Kah HM.out.row;obtain⟨m,hm⟩:=jG hs.length;rw[<-hm]at bG;subst bG;have cn:Hid (hs.length=m):=hm.symm;obtain⟨gs,bJ⟩:=jG (((ss.take i).map (keepS fS fW)).filter Kaq);rw[<-bJ]at HM;have cJ:Hid (gs=((ss.take i).map (keepS fS fW)).filter Kaq):=bJ
   have hmz:m<=274877906944:=by
    have h1:=HM.out.rows.len
    have h2:gs.length<=i:=by rw[bJ];refine dw (dL _ _) ?_;rw[dv,dG];omega
    omega
   clear hm bJ;obtain⟨b0,ay,cK,b5,ck⟩:=HE.out.2 (by omega);have cA:=HE.out.len;obtain⟨h,hh⟩:∃h,hs0[i]? = some h:=⟨hs0[i]'(by omega),cX _⟩;obtain⟨s,bA⟩:∃s,ss[i]! = s:=⟨_,rfl⟩;have cm:Hid (hs0[i]? = some h):=hh;have cg:Hid (ss[i]! = s):=bA;have az:=cE.out i h hh;rw[bA]at az;have ba:s∈ss:=by rw[<-bA,jI ss i (by rw[b4.out];exact hlt)];exact dh _
   have cI:=Jh (HZ.out s ba);have aa:∀r v,r<3->(encH3 h)[r]? = some v->wr.cell? ⟨b0,ay+i*3+r,none⟩=some v:=fun r v _ hv=>(HM.out.b0.cell (p:=⟨b0,ay+i*3+r,none⟩) b5).trans (ck i h hh r v hv)
   have bW:b0<wr.heap.size:=cO b5 HM.out.b0.size;subst cK;obtain⟨lA,bQ⟩:=jG h.l.A;obtain⟨ln,bH⟩:=jG h.l.n;obtain⟨lc,bV⟩:=jG h.l.c;obtain⟨sA,bC⟩:=jG h.s.A;obtain⟨sn,a9⟩:=jG h.s.n;obtain⟨sc,b9⟩:=jG h.s.c;obtain⟨wA,bN⟩:=jG h.w.A;obtain⟨wn,bD⟩:=jG h.w.n;obtain⟨wc,bS⟩:=jG h.w.c;have co:Hid ((encH3 h).toArray = #[.slice lA ln lc,.slice sA sn sc,.slice wA wn wc]):=by show _=_;rw[bQ,bH,bV,bC,a9,b9,bN,bD,bS];rfl
   have k0:wr.cell? ⟨b0,ay+i*3,none⟩=some (.slice lA ln lc):=by rw[bQ,bH,bV];exact aa 0 _ (by decide) rfl
   have k1:wr.cell? ⟨b0,ay+i*3+1,none⟩=some (.slice sA sn sc):=by rw[bC,a9,b9];exact aa 1 _ (by decide) rfl
   have k2:wr.cell? ⟨b0,ay+i*3+2,none⟩=some (.slice wA wn wc):=by rw[bN,bD,bS];exact aa 2 _ (by decide) rfl
   have bM:Hid (Elems w0 w0.heap.size 2 Kac sA sn s.samples):=by show Elems _ _ _ _ _ _ _;rw[bC,a9];exact az.s
   have bF:Hid (Elems w0 w0.heap.size 6 Kad wA wn s.windows):=by show Elems _ _ _ _ _ _ _;rw[bN,bD];exact az.w
   have be:Hid (Elems w0 w0.heap.size 2 encLb lA ln s.labels):=by show Elems _ _ _ _ _ _ _;rw[bQ,bH];exact az.l
   have aQ:Hid (sn<=137438953472/\wn<=137438953472/\ln<=1099511627776):=by have h1:=bM.out.len;have h2:=bF.out.len;have h3:=be.out.len;obtain⟨z1,z2,z3⟩:=cI.out;exact⟨by omega,by omega,by omega⟩
   have cc:=aQ.out;clear ck cA hh bA az ba aa b5 bQ bH bV bC a9 b9 bN bD bS;go_upto_region 5 with fail
   obtain⟨wa,bP⟩:=jG (wr.alloc (.cells #[.slice lA ln lc,.slice sA sn sc,.slice wA wn wc] 58));obtain⟨p1,bU⟩:=jG wr.heap.size;have bh:Hid (Blk wa p1 58 #[.slice lA ln lc,.slice sA sn sc,.slice wA wn wc]):=by show Blk _ _ _ _;rw[bP,bU];exact ed _ _ _
   have bd:Hid (MSt w0 w0 wa (.slice A4 m cV) hs gs):=by show MSt _ _ _ _ _ _;rw[bP];exact HM.out.below ((Below.refl _ _).alloc (cN _) _)
   rw[<-bP,<-bU];have l0:=bh.out.cell 0;simp at l0;have cD:=bh.out.lt;have ci:=Jh (Kia s.labels lA ln lc wa ((be.out.below bd.out.b0).more bd.out.b0.size) cc.2.2);clear bP bU HM k0 k1 k2 bW;go_wp2_with fail
   refine ci.out.mono ?_;rintro _ w1 ⟨⟨af,ac,rfl,bj,aW⟩,ca⟩;have bi:Hid (MSt w0 w0 w1 (.slice A4 m cV) hs gs):=bd.out.below ca;have av:Hid (Blk w1 p1 58 #[.slice lA ln lc,.slice sA sn sc,.slice wA wn wc]):=bh.out.below ca bh.out.lt;have b1:Hid (ln=0\/w1.ownsRow w0.heap.size 99 2 (.slice af ln ac) ln (s.labels.flatMap encLb)):=aW.imp id fun y=>Kcg y bd.out.b0.size
   have cb:Hid (ln<=ac):=bj;have aN:Hid (Below w0.heap.size w0 w1):=bi.out.b0;have al:Hid (w0.heap.size<=w1.heap.size):=bi.out.b0.size;have l1:=av.out.cell 1;have l2:=av.out.cell 2;simp at l1 l2;have bY:=av.out.lt;clear ca aW bj bd bh ci l0 cD;go_upto_region 6 with fail
   obtain⟨wq,bB⟩:=jG (w1.alloc (.cells #[.slice af ln ac,.slice none 0 0,.slice none 0 0] 58));obtain⟨p2,ce⟩:=jG w1.heap.size;have aj:Hid (Blk wq p2 58 #[.slice af ln ac,.slice none 0 0,.slice none 0 0]):=by show Blk _ _ _ _;rw[bB,ce];exact ed _ _ _
   have ag:Hid (Below w1.heap.size w1 wq):=by show Below _ _ _;rw[bB];exact(Below.refl _ _).alloc (cN _) _
   have bn:Hid (w1.heap.size<=p2):=by show _<=_;omega
   have cy:wq.cell? ⟨p1,1,none⟩=some (.slice sA sn sc):=(av.out.below ag.out av.out.lt).cell 1;have a1:p1<wq.heap.size:=cO av.out.lt ag.out.size;rw[<-bB,<-ce];clear bB ce l1 l2 bY;go_wp2_with fail
   go_loopg [28] sn (fun kx sj wr=>∃(j vn vc:Nat) (vA:Option Addr),sj = .int .i64 (j:Int)/\j+kx=sn/\vn<=j/\Hid (Below w1.heap.size w1 wr)/\Hid (Blk wr p2 58 #[.slice af ln ac,.slice vA vn vc,.slice none 0 0])/\Hid (wr.ownsRow w1.heap.size 102 2 (.slice vA vn vc) vn (((s.samples.take j).filter (fS s)).flatMap Kac))/\Hid (((s.samples.take j).filter (fS s)).length=vn))
   case atStart=>exact⟨0,0,0,none,rfl,by omega,by omega,ag,aj,(show Hid _ from ZZ _ _ _ _),rfl⟩
   case round=>
    clear ag aj;obtain⟨j,vn,vc,vA,rfl,hj,cq,ag,aj,HR,ar⟩:=hrel;rcases de j sn with hlt | hge
    .have bx:(j:Int)<(sn:Int):=by omega
     obtain⟨b,ak,hA,hb,hc⟩:=bM.out.2 (by omega);have hl:=bM.out.len;obtain⟨y,hy⟩:∃y,s.samples[j]? = some y:=⟨s.samples[j]'(by omega),cX _⟩;have aa:∀r v,r<2->(Kac y)[r]? = some v->wr.cell? ⟨b,ak+j*2+r,none⟩=some v:=fun r v _ hv=>(ag.out.cell (p:=⟨b,ak+j*2+r,none⟩) (cO hb al.out)).trans ((aN.out.cell (p:=⟨b,ak+j*2+r,none⟩) hb).trans (hc j y hy r v hv))
     have ap:(s.samples.take (j+1)).filter (fS s)=(s.samples.take j).filter (fS s)++(if fS s y=true then [y] else []):=by rw[cR,hy,dd];congr 1;simp only[dU,dp,dA]
     have aF:Hid ((s.samples.take (j+1)).filter (fS s)=(s.samples.take j).filter (fS s)++(if fS s y=true then [y] else [])):=ap;have aZ:Hid (∀W,Below w1.heap.size w1 W->Calls prog gS (#[.agg (encH3 h).toArray,.agg (Kac y).toArray]++cS) W fun e w'=>e = .returned (.bool (fS s y))/\Grown W w'):=fun W hW=>cM.out W (aN.out.trans (hW.mono al.out)) i h s cm.out cg.out y (df hy)
     subst hA;obtain⟨r,hr⟩:=jG (fS s y);rw[<-hr]at aZ aF;obtain⟨hh,bq⟩:=jG h;have bX:Hid (hh=h):=bq;obtain⟨y1,y2⟩:=y
     have a0:Hid (∀W,Below w1.heap.size w1 W->Calls prog gS (#[.agg #[.slice lA ln lc,.slice (some ⟨b,ak,none⟩) sn sc,.slice wA wn wc],.agg #[.int .i64 y1,.int .u64 (y2:Int)]]++cS) W fun e w'=>e = .returned (.bool r)/\Grown W w'):=fun W hW=>by have:=aZ.out W hW;rw[co.out]at this;exact this
     have k0:wr.cell? ⟨b,ak+j*2,none⟩=some (.int .i64 y1):=aa 0 _ (by decide) rfl;have k1:wr.cell? ⟨b,ak+j*2+1,none⟩=some (.int .u64 (y2:Int)):=aa 1 _ (by decide) rfl;have b2:b<wr.heap.size:=cO (cO hb al.out) ag.out.size;clear hc hl aa ap hr bq hy aZ hb;clear hh bX;go_upto_region 9 with fail
     obtain⟨wb,aO⟩:=jG (wr.alloc (.cells #[.int .i64 y1,.int .u64 (y2:Int)] 102));obtain⟨p3,a7⟩:=jG wr.heap.size;have aC:Blk wb p3 102 #[.int .i64 y1,.int .u64 (y2:Int)]:=by rw[aO,a7];exact ed _ _ _
     have aJ:Below wr.heap.size wr wb:=by rw[aO];exact(Below.refl _ _).alloc (cN _) _
     have ax:Hid (Below w1.heap.size w1 wb):=ag.out.trans (aJ.mono ag.out.size);have a3:Hid (Blk wb p2 58 #[.slice af ln ac,.slice vA vn vc,.slice none 0 0]):=aj.out.below aJ aj.out.lt;have bc:Hid (wb.ownsRow w1.heap.size 102 2 (.slice vA vn vc) vn (((s.samples.take j).filter (fS s)).flatMap Kac)):=Kat HR.out aJ;have ab:Hid (Blk wb p3 102 #[.int .i64 y1,.int .u64 (y2:Int)]):=aC;have ai:Hid (Blk wb p1 58 #[.slice lA ln lc,.slice (some ⟨b,ak,none⟩) sn sc,.slice wA wn wc]):=av.out.below ax.out av.out.lt;rw[<-aO,<-a7];have q0:=ab.out.cell 0;have q1:=ab.out.cell 1;have r0:=ai.out.cell 0;have r1:=ai.out.cell 1;have r2:=ai.out.cell 2;simp at q0 q1 r0 r1 r2;have aB:=ab.out.lt;have a4:=ai.out.lt;clear aO a7 aC aJ ag aj HR k0 k1 b2;go_wp2_with fail
     refine(a0.out _ ax.out).mono ?_;rintro _ w5 ⟨rfl,bv⟩;have aw:=bv.below;have aP:Hid (Below w1.heap.size w1 w5):=ax.out.trans (aw.mono ax.out.size);have aq:Hid (Blk w5 p2 58 #[.slice af ln ac,.slice vA vn vc,.slice none 0 0]):=a3.out.below aw a3.out.lt;have aL:Hid (w5.ownsRow w1.heap.size 102 2 (.slice vA vn vc) vn (((s.samples.take j).filter (fS s)).flatMap Kac)):=Kat bc.out aw;have ad:Hid (Blk w5 p3 102 #[.int .i64 y1,.int .u64 (y2:Int)]):=ab.out.below aw ab.out.lt;clear bv aw ax a3 bc ab ai q0 q1 r0 r1 r2 aB a4
     cases r with
     | false=>
      have hE:(s.samples.take (j+1)).filter (fS s)=(s.samples.take j).filter (fS s):=by rw[aF.out];simp
      have cd:Hid (w5.ownsRow w1.heap.size 102 2 (.slice vA vn vc) vn (((s.samples.take (j+1)).filter (fS s)).flatMap Kac)):=by show ZV _ _ _ _ _ _ _;rw[hE];exact aL.out
      have a5:Hid (((s.samples.take (j+1)).filter (fS s)).length=vn):=by show _=_;rw[hE];exact ar.out
      clear hE aL ar aF;go_wp2_with fail
      go_roundg (sn - (j+1))
      case measure=>omega
      case rel=>exact⟨j+1,vn,vc,vA,by first | rfl | go_num,by omega,by omega,aP,aq,cd,a5⟩
     | true=>
      have hE:(s.samples.take (j+1)).filter (fS s)=(s.samples.take j).filter (fS s) ++ [⟨y1,y2⟩]:=by rw[aF.out];simp
      have a2:Hid ((s.samples.take (j+1)).filter (fS s)=(s.samples.take j).filter (fS s) ++ [⟨y1,y2⟩]):=hE;have e0:=aq.out.cell 1;simp at e0;have q0:=ad.out.cell 0;have q1:=ad.out.cell 1;simp at q0 q1;have aG:=aq.out.lt;have aB:=ad.out.lt;obtain⟨i1,bf,br,bm,bo⟩:=info_parts Ksc;obtain⟨w6,aE⟩:=jG (w5.alloc (.cells #[.int .i64 y1,.int .u64 (y2:Int)] 102));have aI:Below w5.heap.size w5 w6:=by rw[aE];exact(Below.refl _ _).alloc (cN _) _
      have an:Blk w6 w5.heap.size 102 #[.int .i64 y1,.int .u64 (y2:Int)]:=by rw[aE];exact ed _ _ _
      have ah:w6.ownsRow w1.heap.size 102 2 (.slice vA vn vc) vn (((s.samples.take j).filter (fS s)).flatMap Kac):=Kat aL.out aI;have ae:=Jh ah;have aR:Hid (Below w1.heap.size w1 w6):=aP.out.trans (aI.mono aP.out.size);have aY:Hid (Blk w6 p2 58 #[.slice af ln ac,.slice vA vn vc,.slice none 0 0]):=aq.out.below aI aq.out.lt;have bl:=aR.out.size;have bZ:vn<=1099511627776:=by have:=aQ.out;omega
      clear hE aI aL aF ad;go_wp2_with (at_builtin;(try rw[<-aE]);refine eD _ rfl _ _ 55 rfl w1.heap.size 102 i1 (.agg #[.int .i64 0,.int .u64 0]) 2 16 underlying55 bf br bm bo rfl (by decide) (.slice vA vn vc) vn _ rfl ah ⟨w5.heap.size,0,none⟩ 1 1 [.int .i64 y1,.int .u64 (y2:Int)] rfl rfl (Kam (l:=[.int .i64 y1,.int .u64 (y2:Int)]) an) ?p2 ?p3 ?p4 ?p5 ?_)
      case p2=>intro u hu;simp only[dF,dy,or_false]at hu;rcases hu with rfl | rfl <;> rfl
      case p3=>unfold maxLen;omega
      case p4=>omega
      case p5=>exact bl
      intro v6 w7 hown' hgrow _ hat;rw[<-aE]at hgrow;obtain⟨A7,c7,rfl⟩:=Kah hown';have aD:∀k,(ei vA vn vc).ownBlock=some k->w1.heap.size<=k:=fun k hk=>(ae.out.lt k hk).1
      have bg:Below w1.heap.size w1 w7:=aR.out.grown hgrow aR.out.size aD;have ao:Blk w7 p2 58 #[.slice af ln ac,.slice vA vn vc,.slice none 0 0]:=aY.out.grown hgrow (Kak aY.out ae.out (by decide));have aV:Hid (Below w1.heap.size w1 (w7.setCell ⟨p2,1,none⟩ (.slice A7 (vn+1) c7))):=bg.setCell (p:=⟨p2,1,none⟩) bn.out _;have aK:Hid (Blk (w7.setCell ⟨p2,1,none⟩ (.slice A7 (vn+1) c7)) p2 58 #[.slice af ln ac,.slice A7 (vn+1) c7,.slice none 0 0]):=ao.set_ 1 _
      have cf:Hid ((w7.setCell ⟨p2,1,none⟩ (.slice A7 (vn+1) c7)).ownsRow w1.heap.size 102 2 (.slice A7 (vn+1) c7) (vn+1) (((s.samples.take (j+1)).filter (fS s)).flatMap Kac)):=by
       show ZV _ _ _ _ _ _ _
       rw[a2.out,dt,dx];exact Kbj hown' ao (by decide)
      have a6:Hid (((s.samples.take (j+1)).filter (fS s)).length=vn+1):=by show _=_;rw[a2.out,cQ,ar.out];rfl
      have d7:=ao.cell 1;simp at d7;have f7:=ao.frozen 1;have b6:=ao.lt;clear hown' hgrow hat aD bg ao ah an ae aR aY a2 ar aq aP e0 q0 q1 aE bl bZ bf br bm bo;go_wp2_with fail
      go_roundg (sn - (j+1))
      case measure=>omega
      case rel=>exact⟨j+1,vn+1,c7,A7,by first | rfl | go_num,by omega,by omega,aV,aK,cf,a6⟩
    .have bx:¬(j:Int)<(sn:Int):=by omega
     clear cy a1;obtain⟨SA,b7⟩:=jG vA;obtain⟨SN,bk⟩:=jG vn;obtain⟨SC,bT⟩:=jG vc;obtain⟨SL,bL⟩:=jG (s.samples.filter (fS s));have ap:s.samples.take j=s.samples:=cP (by have:=bM.out.len;omega);have bz:Hid (SL=s.samples.filter (fS s)):=bL
     have bw:Hid (wr.ownsRow w1.heap.size 102 2 (.slice SA SN SC) SN (SL.flatMap Kac)):=by have h1:=HR.out;rw[ap,<-bL,<-b7,<-bk,<-bT]at h1;exact h1
     have ch:Hid (SL.length=SN):=by have h1:=ar.out;rw[ap,<-bL,<-bk]at h1;exact h1
     rw[<-b7,<-bk,<-bT]at aj;have cF:SN<=137438953472:=by rw[bk];omega
     have cz:wr.cell? ⟨p1,2,none⟩=some (.slice wA wn wc):=(av.out.below ag.out av.out.lt).cell 2;have a1:p1<wr.heap.size:=cO av.out.lt ag.out.size;clear b7 bk bT bL ap HR ar cq;clear vA vn vc;go_wp2_with fail
     go_loopg [46] wn (fun kx sj wr=>∃(j vn vc:Nat) (vA:Option Addr),sj = .int .i64 (j:Int)/\j+kx=wn/\vn<=j/\Hid (Below w1.heap.size w1 wr)/\Hid (Blk wr p2 58 #[.slice af ln ac,.slice SA SN SC,.slice vA vn vc])/\Hid (wr.ownsRow w1.heap.size 135 6 (.slice vA vn vc) vn (((s.windows.take j).filter (fW s)).flatMap Kad))/\Hid (((s.windows.take j).filter (fW s)).length=vn)/\Hid (wr.ownsRow w1.heap.size 102 2 (.slice SA SN SC) SN (SL.flatMap Kac)))
     case atStart=>exact⟨0,0,0,none,rfl,by omega,by omega,ag,aj,(show Hid _ from ZZ _ _ _ _),rfl,bw⟩
     case round=>
      clear ag aj bw;obtain⟨j,vn,vc,vA,rfl,hj,cq,ag,aj,HR,ar,bR⟩:=hrel;rcases de j wn with hlt | hge
      .have bx:(j:Int)<(wn:Int):=by omega
       obtain⟨b,ak,hA,hb,hc⟩:=bF.out.2 (by omega);have hl:=bF.out.len;obtain⟨y,hy⟩:∃y,s.windows[j]? = some y:=⟨s.windows[j]'(by omega),cX _⟩;have aa:∀r v,r<6->(Kad y)[r]? = some v->wr.cell? ⟨b,ak+j*6+r,none⟩=some v:=fun r v _ hv=>(ag.out.cell (p:=⟨b,ak+j*6+r,none⟩) (cO hb al.out)).trans ((aN.out.cell (p:=⟨b,ak+j*6+r,none⟩) hb).trans (hc j y hy r v hv))
       have ap:(s.windows.take (j+1)).filter (fW s)=(s.windows.take j).filter (fW s)++(if fW s y=true then [y] else []):=by rw[cR,hy,dd];congr 1;simp only[dU,dp,dA]
       have aF:Hid ((s.windows.take (j+1)).filter (fW s)=(s.windows.take j).filter (fW s)++(if fW s y=true then [y] else [])):=ap;have aZ:Hid (∀W,Below w1.heap.size w1 W->Calls prog gW (#[.agg (encH3 h).toArray,.agg (Kad y).toArray]++cW) W fun e w'=>e = .returned (.bool (fW s y))/\Grown W w'):=fun W hW=>cB.out W (aN.out.trans (hW.mono al.out)) i h s cm.out cg.out y (df hy)
       subst hA;obtain⟨r,hr⟩:=jG (fW s y);rw[<-hr]at aZ aF;obtain⟨hh,bq⟩:=jG h;have bX:Hid (hh=h):=bq;obtain⟨y1,y2,y3,y4,y5,y6⟩:=y
       have a0:Hid (∀W,Below w1.heap.size w1 W->Calls prog gW (#[.agg #[.slice lA ln lc,.slice sA sn sc,.slice (some ⟨b,ak,none⟩) wn wc],.agg #[.int .i64 y1,.int .i64 y2,.int .u64 (y3:Int),.int .u64 (y4:Int),.int .u64 (y5:Int),.int .u64 (y6:Int)]]++cW) W fun e w'=>e = .returned (.bool r)/\Grown W w'):=fun W hW=>by have:=aZ.out W hW;rw[co.out]at this;exact this
       have k0:wr.cell? ⟨b,ak+j*6,none⟩=some (.int .i64 y1):=aa 0 _ (by decide) rfl;have k1:wr.cell? ⟨b,ak+j*6+1,none⟩=some (.int .i64 y2):=aa 1 _ (by decide) rfl;have k2:wr.cell? ⟨b,ak+j*6+2,none⟩=some (.int .u64 (y3:Int)):=aa 2 _ (by decide) rfl;have k3:wr.cell? ⟨b,ak+j*6+3,none⟩=some (.int .u64 (y4:Int)):=aa 3 _ (by decide) rfl;have k4:wr.cell? ⟨b,ak+j*6+4,none⟩=some (.int .u64 (y5:Int)):=aa 4 _ (by decide) rfl;have k5:wr.cell? ⟨b,ak+j*6+5,none⟩=some (.int .u64 (y6:Int)):=aa 5 _ (by decide) rfl;have b2:b<wr.heap.size:=cO (cO hb al.out) ag.out.size;clear hc hl aa ap hr bq hy aZ hb;clear hh bX;go_upto_region 15 with fail
       obtain⟨wb,aO⟩:=jG (wr.alloc (.cells #[.int .i64 y1,.int .i64 y2,.int .u64 (y3:Int),.int .u64 (y4:Int),.int .u64 (y5:Int),.int .u64 (y6:Int)] 135));obtain⟨p3,a7⟩:=jG wr.heap.size;have aC:Blk wb p3 135 #[.int .i64 y1,.int .i64 y2,.int .u64 (y3:Int),.int .u64 (y4:Int),.int .u64 (y5:Int),.int .u64 (y6:Int)]:=by rw[aO,a7];exact ed _ _ _
       have aJ:Below wr.heap.size wr wb:=by rw[aO];exact(Below.refl _ _).alloc (cN _) _
       have ax:Hid (Below w1.heap.size w1 wb):=ag.out.trans (aJ.mono ag.out.size);have a3:Hid (Blk wb p2 58 #[.slice af ln ac,.slice SA SN SC,.slice vA vn vc]):=aj.out.below aJ aj.out.lt;have bc:Hid (wb.ownsRow w1.heap.size 135 6 (.slice vA vn vc) vn (((s.windows.take j).filter (fW s)).flatMap Kad)):=Kat HR.out aJ;have ab:Hid (Blk wb p3 135 #[.int .i64 y1,.int .i64 y2,.int .u64 (y3:Int),.int .u64 (y4:Int),.int .u64 (y5:Int),.int .u64 (y6:Int)]):=aC;have ai:Hid (Blk wb p1 58 #[.slice lA ln lc,.slice sA sn sc,.slice (some ⟨b,ak,none⟩) wn wc]):=av.out.below ax.out av.out.lt;have bp:Hid (wb.ownsRow w1.heap.size 102 2 (.slice SA SN SC) SN (SL.flatMap Kac)):=Kat bR.out aJ;rw[<-aO,<-a7];have q0:=ab.out.cell 0;have q1:=ab.out.cell 1;have q2:=ab.out.cell 2;have q3:=ab.out.cell 3;have q4:=ab.out.cell 4;have q5:=ab.out.cell 5;have r0:=ai.out.cell 0;have r1:=ai.out.cell 1;have r2:=ai.out.cell 2;simp at q0 q1 q2 q3 q4 q5 r0 r1 r2;have aB:=ab.out.lt;have a4:=ai.out.lt;clear aO a7 aC aJ ag aj HR k0 k1 k2 k3 k4 k5 b2 bR;go_wp2_with fail
       refine(a0.out _ ax.out).mono ?_;rintro _ w5 ⟨rfl,bv⟩;have aw:=bv.below;have aP:Hid (Below w1.heap.size w1 w5):=ax.out.trans (aw.mono ax.out.size);have aq:Hid (Blk w5 p2 58 #[.slice af ln ac,.slice SA SN SC,.slice vA vn vc]):=a3.out.below aw a3.out.lt;have aL:Hid (w5.ownsRow w1.heap.size 135 6 (.slice vA vn vc) vn (((s.windows.take j).filter (fW s)).flatMap Kad)):=Kat bc.out aw;have ad:Hid (Blk w5 p3 135 #[.int .i64 y1,.int .i64 y2,.int .u64 (y3:Int),.int .u64 (y4:Int),.int .u64 (y5:Int),.int .u64 (y6:Int)]):=ab.out.below aw ab.out.lt;have aX:Hid (w5.ownsRow w1.heap.size 102 2 (.slice SA SN SC) SN (SL.flatMap Kac)):=Kat bp.out aw;clear bv aw ax a3 bc ab ai q0 q1 q2 q3 q4 q5 r0 r1 r2 aB a4 bp
       cases r with
       | false=>
        have hE:(s.windows.take (j+1)).filter (fW s)=(s.windows.take j).filter (fW s):=by rw[aF.out];simp
        have cd:Hid (w5.ownsRow w1.heap.size 135 6 (.slice vA vn vc) vn (((s.windows.take (j+1)).filter (fW s)).flatMap Kad)):=by show ZV _ _ _ _ _ _ _;rw[hE];exact aL.out
        have a5:Hid (((s.windows.take (j+1)).filter (fW s)).length=vn):=by show _=_;rw[hE];exact ar.out
        clear hE aL ar aF;go_wp2_with fail
        go_roundg (wn - (j+1))
        case measure=>omega
        case rel=>exact⟨j+1,vn,vc,vA,by first | rfl | go_num,by omega,by omega,aP,aq,cd,a5,aX⟩
       | true=>
        have hE:(s.windows.take (j+1)).filter (fW s)=(s.windows.take j).filter (fW s) ++ [⟨y1,y2,y3,y4,y5,y6⟩]:=by rw[aF.out];simp
        have a2:Hid ((s.windows.take (j+1)).filter (fW s)=(s.windows.take j).filter (fW s) ++ [⟨y1,y2,y3,y4,y5,y6⟩]):=hE;have e0:=aq.out.cell 2;simp at e0;have q0:=ad.out.cell 0;have q1:=ad.out.cell 1;have q2:=ad.out.cell 2;have q3:=ad.out.cell 3;have q4:=ad.out.cell 4;have q5:=ad.out.cell 5;simp at q0 q1 q2 q3 q4 q5;have aG:=aq.out.lt;have aB:=ad.out.lt;obtain⟨i1,bf,br,bm,bo⟩:=info_parts Ksd;obtain⟨w6,aE⟩:=jG (w5.alloc (.cells #[.int .i64 y1,.int .i64 y2,.int .u64 (y3:Int),.int .u64 (y4:Int),.int .u64 (y5:Int),.int .u64 (y6:Int)] 135));have aI:Below w5.heap.size w5 w6:=by rw[aE];exact(Below.refl _ _).alloc (cN _) _
        have an:Blk w6 w5.heap.size 135 #[.int .i64 y1,.int .i64 y2,.int .u64 (y3:Int),.int .u64 (y4:Int),.int .u64 (y5:Int),.int .u64 (y6:Int)]:=by rw[aE];exact ed _ _ _
        have ah:w6.ownsRow w1.heap.size 135 6 (.slice vA vn vc) vn (((s.windows.take j).filter (fW s)).flatMap Kad):=Kat aL.out aI;have ae:=Jh ah;have aR:Hid (Below w1.heap.size w1 w6):=aP.out.trans (aI.mono aP.out.size);have aY:Hid (Blk w6 p2 58 #[.slice af ln ac,.slice SA SN SC,.slice vA vn vc]):=aq.out.below aI aq.out.lt;have aS:Hid (w6.ownsRow w1.heap.size 102 2 (.slice SA SN SC) SN (SL.flatMap Kac)):=Kat aX.out aI;have bl:=aR.out.size;have bZ:vn<=1099511627776:=by have:=aQ.out;omega
        clear hE aI aL aF ad aX;go_wp2_with (at_builtin;(try rw[<-aE]);refine eD _ rfl _ _ 56 rfl w1.heap.size 135 i1 (.agg #[.int .i64 0,.int .i64 0,.int .u64 0,.int .u64 0,.int .u64 0,.int .u64 0]) 6 48 underlying56 bf br bm bo rfl (by decide) (.slice vA vn vc) vn _ rfl ah ⟨w5.heap.size,0,none⟩ 1 1 [.int .i64 y1,.int .i64 y2,.int .u64 (y3:Int),.int .u64 (y4:Int),.int .u64 (y5:Int),.int .u64 (y6:Int)] rfl rfl (Kam (l:=[.int .i64 y1,.int .i64 y2,.int .u64 (y3:Int),.int .u64 (y4:Int),.int .u64 (y5:Int),.int .u64 (y6:Int)]) an) ?p2 ?p3 ?p4 ?p5 ?_)
        case p2=>intro u hu;simp only[dF,dy,or_false]at hu;rcases hu with rfl | rfl | rfl | rfl | rfl | rfl <;> rfl
        case p3=>unfold maxLen;omega
        case p4=>omega
        case p5=>exact bl
        intro v6 w7 hown' hgrow _ hat;rw[<-aE]at hgrow;obtain⟨A7,c7,rfl⟩:=Kah hown';have aD:∀k,(ei vA vn vc).ownBlock=some k->w1.heap.size<=k:=fun k hk=>(ae.out.lt k hk).1
        have bg:Below w1.heap.size w1 w7:=aR.out.grown hgrow aR.out.size aD;have ao:Blk w7 p2 58 #[.slice af ln ac,.slice SA SN SC,.slice vA vn vc]:=aY.out.grown hgrow (Kak aY.out ae.out (by decide));have aV:Hid (Below w1.heap.size w1 (w7.setCell ⟨p2,2,none⟩ (.slice A7 (vn+1) c7))):=bg.setCell (p:=⟨p2,2,none⟩) bn.out _;have aK:Hid (Blk (w7.setCell ⟨p2,2,none⟩ (.slice A7 (vn+1) c7)) p2 58 #[.slice af ln ac,.slice SA SN SC,.slice A7 (vn+1) c7]):=ao.set_ 2 _
        have cf:Hid ((w7.setCell ⟨p2,2,none⟩ (.slice A7 (vn+1) c7)).ownsRow w1.heap.size 135 6 (.slice A7 (vn+1) c7) (vn+1) (((s.windows.take (j+1)).filter (fW s)).flatMap Kad)):=by
         show ZV _ _ _ _ _ _ _
         rw[a2.out,dt,dx];exact Kbj hown' ao (by decide)
        have a6:Hid (((s.windows.take (j+1)).filter (fW s)).length=vn+1):=by show _=_;rw[a2.out,cQ,ar.out];rfl
        have b8:Hid ((w7.setCell ⟨p2,2,none⟩ (.slice A7 (vn+1) c7)).ownsRow w1.heap.size 102 2 (.slice SA SN SC) SN (SL.flatMap Kac)):=by
         have h7:w7.ownsRow w1.heap.size 102 2 (.slice SA SN SC) SN (SL.flatMap Kac):=Kcv aS.out hgrow.size fun k hk=>hgrow.block k (aS.out.lt k hk).2 fun e=>(Kas aS.out ae.out (by decide)).elim (fun q=>by rw[q]at hk;cases hk) (fun q=>q (hk.trans e))
         exact Kbj h7 ao (by decide)
        have d7:=ao.cell 2;simp at d7;have f7:=ao.frozen 2;have b6:=ao.lt;clear hown' hgrow hat aD bg ao ah an ae aR aY a2 ar aq aP e0 q0 q1 q2 q3 q4 q5 aE bl bZ bf br bm bo aS;go_wp2_with fail
        go_roundg (wn - (j+1))
        case measure=>omega
        case rel=>exact⟨j+1,vn+1,c7,A7,by first | rfl | go_num,by omega,by omega,aV,aK,cf,a6,b8⟩
      .have bx:¬(j:Int)<(wn:Int):=by omega
       have ap:s.windows.take j=s.windows:=cP (by have:=bF.out.len;omega)
       have cr:Hid (wr.ownsRow w1.heap.size 135 6 (.slice vA vn vc) vn ((s.windows.filter (fW s)).flatMap Kad)):=by have h1:=HR.out;rw[ap]at h1;exact h1
       have ct:Hid ((s.windows.filter (fW s)).length=vn):=by have h1:=ar.out;rw[ap]at h1;exact h1
       have am:=Jh (fun W=>Kpy ⟨⟨af,ln,ac⟩,⟨SA,SN,SC⟩,⟨vA,vn,vc⟩⟩ ⟨by show SN<=_;omega,by show vn<=_;have:=aQ.out;omega⟩ W);have e0:=aj.out.cell 0;have e1:=aj.out.cell 1;have e2:=aj.out.cell 2;simp at e0 e1 e2;have aG:=aj.out.lt;clear ap HR ar cz a1;obtain⟨rr,b3⟩:=jG (goodH ⟨⟨af,ln,ac⟩,⟨SA,SN,SC⟩,⟨vA,vn,vc⟩⟩)
       have cx:Hid (rr=Kaq (keepS fS fW s)):=by
        show _=_
        rw[b3];unfold goodH Kaq keepS;dsimp only;rw[<-bz.out,ch.out,ct.out]
       rw[<-b3]at am;unfold encH3 at am;dsimp only at am
       have aH:((ss.take (i+1)).map (keepS fS fW)).filter Kaq=gs++(if rr=true then [keepS fS fW s] else []):=by
        have cp:i<ss.length:=by rw[b4.out];exact hlt
        rw[cR,cX cp,da,dd,<-cJ.out,cx.out];congr 1;rw[show ss[i]=s by rw[<-cg.out,jI ss i cp]];simp[dp]
       have aM:Hid (((ss.take (i+1)).map (keepS fS fW)).filter Kaq=gs++(if rr=true then [keepS fS fW s] else [])):=aH;clear b3 aH;go_wp2_with fail
       refine(am.out _).mono ?_;rintro _ w8 ⟨rfl,cj⟩;have bt:=cj.below;have aV:Hid (Below w1.heap.size w1 w8):=ag.out.trans (bt.mono ag.out.size);have aK:Hid (Blk w8 p2 58 #[.slice af ln ac,.slice SA SN SC,.slice vA vn vc]):=aj.out.below bt aj.out.lt;have bK:Hid (w8.ownsRow w1.heap.size 102 2 (.slice SA SN SC) SN (SL.flatMap Kac)):=Kat bR.out bt;have bE:Hid (w8.ownsRow w1.heap.size 135 6 (.slice vA vn vc) vn ((s.windows.filter (fW s)).flatMap Kad)):=Kat cr.out bt;clear cj bt ag aj bR cr am e0 e1 e2 aG
       cases rr with
       | false=>
        have bO:Hid (MSt w0 w0 w8 (.slice A4 m cV) hs (((ss.take (i+1)).map (keepS fS fW)).filter Kaq)):=by
         show MSt _ _ _ _ _ _
         rw[aM.out];simpa using bi.out.below aV.out
        clear aM bK bE aK;go_wp2_with fail
        go_roundg (n - (i+1))
        case measure=>omega
        case rel=>exact⟨i+1,hs,by first | rfl | go_num,by omega,bO⟩
       | true=>
        have e0:=aK.out.cell 0;have e1:=aK.out.cell 1;have e2:=aK.out.cell 2;simp at e0 e1 e2;have aG:=aK.out.lt;obtain⟨w9,bs⟩:=jG (w8.alloc (.cells #[.slice af ln ac,.slice SA SN SC,.slice vA vn vc] 58));have bI:Below w8.heap.size w8 w9:=by rw[bs];exact(Below.refl _ _).alloc (cN _) _
        have aU:Blk w9 w8.heap.size 58 #[.slice af ln ac,.slice SA SN SC,.slice vA vn vc]:=by rw[bs];exact ed _ _ _
        have aA:Below w1.heap.size w1 w9:=aV.out.trans (bI.mono aV.out.size);have a8:Hid (MSt w0 w0 w9 (.slice A4 m cV) hs gs):=bi.out.below aA;have aT:w9.ownsRow w0.heap.size 58 3 (.slice A4 m cV) m (hs.flatMap encH3):=by have:=a8.out.row;rw[cn.out]at this;exact this
        have cv:MRow w0.heap.size w9 ⟨⟨af,ln,ac⟩,⟨SA,SN,SC⟩,⟨vA,vn,vc⟩⟩ (keepS fS fW s):=by
         refine⟨?_,be.out.len,cb.out,?_,?_⟩
         .rcases b1.out with e | e
          .exact .inl ⟨e,cU (by show s.labels.length=0;rw[be.out.len];exact e)⟩
          .refine .inr ?_;show w9.ownsRow _ _ _ _ s.labels.length _
           rw[be.out.len];exact Kcv e aA.size fun k hk=>aA.block k (e.lt k hk).2
         .show w9.ownsRow _ _ _ _ (s.samples.filter (fS s)).length ((s.samples.filter (fS s)).flatMap Kac)
          rw[<-bz.out,ch.out];exact Kcg (Kat bK.out bI) al.out
         .show w9.ownsRow _ _ _ _ (s.windows.filter (fW s)).length ((s.windows.filter (fW s)).flatMap Kad)
          rw[ct.out];exact Kcg (Kat bE.out bI) al.out
        have bb:Hid (MRows w0.heap.size w9 (hs ++ [⟨⟨af,ln,ac⟩,⟨SA,SN,SC⟩,⟨vA,vn,vc⟩⟩]) (gs ++ [keepS fS fW s])):=bi.out.rows.snoc2 aA cv (fun b hb=>(bK.out.lt b hb).1) (fun b hb=>(bE.out.lt b hb).1);have cl:=a8.out.b0.size;clear cv bI aA bK bE aK aV;go_wp2_with (at_builtin;(try rw[<-bs]);refine eD _ rfl _ _ 26 rfl w0.heap.size 58 ib (.agg #[.slice none 0 0,.slice none 0 0,.slice none 0 0]) 3 72 underlying26 cH cL cw cC rfl (by decide) (.slice A4 m cV) m _ rfl aT ⟨w8.heap.size,0,none⟩ 1 1 [.slice af ln ac,.slice SA SN SC,.slice vA vn vc] rfl rfl (Kam (l:=[.slice af ln ac,.slice SA SN SC,.slice vA vn vc]) aU) ?p2 ?p3 ?p4 ?p5 ?_)
        case p2=>intro u hu;simp only[dF,dy,or_false]at hu;rcases hu with rfl | rfl | rfl <;> rfl
        case p3=>unfold maxLen;omega
        case p4=>omega
        case p5=>exact cl
        intro v9 wz hown' hgrow _ hat;rw[<-bs]at hgrow;obtain⟨A9,c9,rfl⟩:=Kah hown'
        have bO:Hid (MSt w0 w0 wz (.slice A9 (m+1) c9) (hs ++ [⟨⟨af,ln,ac⟩,⟨SA,SN,SC⟩,⟨vA,vn,vc⟩⟩]) (((ss.take (i+1)).map (keepS fS fW)).filter Kaq)):=by
         show MSt _ _ _ _ _ _
         rw[aM.out];obtain⟨q1,q2⟩:=a8.out.low (cN _) hgrow (fun k hk=>(a8.out.row.lt k hk).1);refine⟨q1,q2,?_,?_⟩
         .rw[dt,dx,cQ,cn.out];exact hown'
         .refine bb.out.frame hgrow fun r e=>?_
          obtain⟨cu,cG⟩:=Kax a8.out.row e;exact⟨_,cu,cG,by decide,by decide,by decide⟩
        generalize hs ++ [(⟨⟨af,ln,ac⟩,⟨SA,SN,SC⟩,⟨vA,vn,vc⟩⟩:Hd3)]=a9 at bO;clear hown' hgrow hat aT aU a8 bb aM bs cl e0 e1 e2 aG;go_wp2_with fail
        go_roundg (n - (i+1))
        case measure=>omega
        case rel=>exact⟨i+1,a9,by first | rfl | go_num,by omega,bO⟩
  .have bx:¬(i:Int)<(n:Int):=by omega
   obtain⟨A4,cV,bG⟩:=Kah HM.out.row;subst bG
   have cs:((ss.take i).map (keepS fS fW)).filter Kaq=keptF fS fW ss:=by unfold keptF;rw[cP (by rw[b4.out];exact hge)]
   have hM:=HM.out;rw[cs]at hM
   have HF:Hid (Kbm wr w0.heap.size A4 hs.length cV (keptF fS fW ss)/\hs.length<=cV/\Below w0.heap.size w0 wr):=by have h1:Kbm wr w0.heap.size A4 hs.length cV (keptF fS fW ss):=⟨hs,rfl,hM.row,hM.rows⟩;exact⟨h1,h1.sers.2,hM.b0⟩
   obtain⟨m,hm⟩:=jG hs.length;rw[<-hm]at HF |-;clear hM cs HM hm;go_wp2_with fail
   go_ret
   exact⟨A4,m,cV,rfl,HF.out.1,HF.out.2.1,HF.out.2.2⟩
theorem Qbf {w0:World}(fS:Ser->Smp->Bool) (fW:Ser->Wnd->Bool) (gS gW:Nat) (cS cW:Array Value) (A:Option Addr) (n c:Nat) (hs0:List Hd3) (ss:List Ser)
  (egS:∀args w,(callFunc gS args).run prog w = .ok (.enter gS args) w) (egW:∀args w,(callFunc gW args).run prog w = .ok (.enter gW args) w)
  (hE:Elems w0 w0.heap.size 3 encH3 A n hs0) (hss:ss.length=n) (hat:∀(i:Nat) (h:Hd3),hs0[i]? = some h->SerAt w0 h ss[i]!)
  (hz:∀s∈ss,s.labels.length<=1099511627776/\s.samples.length<=137438953472/\s.windows.length<=137438953472) (hn:n<=274877906944)
  (hS:Kjj prog gS cS Kac fS hs0 ss Ser.samples w0) (hW:Kjj prog gW cW Kad fW hs0 ss Ser.windows w0) :
  Calls prog 54 #[.slice A n c,.func (.func gS) #[] cS,.func (.func gW) #[] cW] w0 fun e w'=>∃(A':Option Addr) (n' c':Nat),e = .returned (.slice A' n' c')/\Sers w' A' n' (keptF fS fW ss)/\n'<=c'/\Below w0.heap.size w0 w':=
 (Knb fS fW gS gW cS cW A n c hs0 ss egS egW hE hss hat hz hn hS hW).mono fun _ _ h=>by obtain⟨A',n',c',he,h1,h2,h3⟩:=h;exact⟨A',n',c',he,h1.sers.1,h2,h3⟩
end
section
def inR (a b t:Int):Bool:=decide (a<=t) && decide (t<=b)
theorem Kmx (a b t:Int) (pf pt:Nat) (W:World) (hf:Blk W pf 2 #[.int .i64 a]) (ht:Blk W pt 2 #[.int .i64 b]) :
  Calls prog 53 #[.int .i64 t,.pointer (some ⟨pf,0,none⟩),.pointer (some ⟨pt,0,none⟩)] W fun e w'=>e = .returned (.bool (inR a b t))/\Grown W w':=by
 have f0:=hf.cell 0;have t0:=ht.cell 0;simp at f0 t0;have hfl:=hf.lt;have htl:=ht.lt;obtain⟨r,hr⟩:=jG (inR a b t);rw[<-hr];have HR:=Jh hr;clear hr hf ht
 by_cases h1:a<=t
 .obtain ⟨r2,aa⟩:=jF (decide (t<=b));have e:r=r2:=by rw[HR.out];unfold inR;rw[jL h1,aa];rfl
  subst e;have d1:decide (a<=t)=true:=jL h1;go_enter func53,ntmps53
  go_wp2_with fail
  go_ret
  exact⟨by first | rfl | (rw[<-aa];rfl),ef _⟩
 .have e:r=false:=by rw[HR.out];unfold inR;rw[jJ h1];rfl
  subst e;have d1:decide (a<=t)=false:=jJ h1;go_enter func53,ntmps53
  go_wp2_with fail
  go_ret
  exact⟨rfl,ef _⟩
theorem Kxp (a b:Int) (h:Hd3) (y:Smp) (p pf pt:Nat) (W:World) (hp:Blk W p 137 #[.func (.func 53) #[] #[.pointer (some ⟨pf,0,none⟩),.pointer (some ⟨pt,0,none⟩)]]) (hf:Blk W pf 2 #[.int .i64 a]) (ht:Blk W pt 2 #[.int .i64 b]) :
  Calls prog 55 #[.agg (encH3 h).toArray,.agg (Kac y).toArray,.pointer (some ⟨p,0,none⟩)] W fun e w'=>e = .returned (.bool (inR a b y.t))/\Grown W w':=by
 have hc:∀W',Below W.heap.size W W'->Calls prog 53 #[.int .i64 y.t,.pointer (some ⟨pf,0,none⟩),.pointer (some ⟨pt,0,none⟩)] W' fun e w'=>e = .returned (.bool (inR a b y.t))/\Grown W' w':=fun W' hb=>Kmx a b y.t pf pt W' (hf.below hb hf.lt) (ht.below hb ht.lt)
 have egT:∀args w,(callFunc 53 args).run prog w = .ok (.enter 53 args) w:=enters_of func53 (by kernel_rfl) rfl;obtain⟨r,hr⟩:=jG (inR a b y.t);rw[<-hr]at hc |-;have HC:=Jh hc;clear hc hr;obtain⟨⟨A1,n1,c1⟩,⟨A2,n2,c2⟩,⟨A3,n3,c3⟩⟩:=h;obtain⟨y1,y2⟩:=y;unfold encH3 Kac;dsimp only at HC |-;have p0:=hp.cell 0;simp at p0;have hpl:=hp.lt;clear hp hf ht;go_enter func55,ntmps55
 go_wp2_with fail
 refine(HC.out _ (((Below.refl _ _).alloc (cN _) _).alloc (by simp) _)).mono ?_;rintro _ w1 ⟨rfl,hg⟩;have HG:=Jh hg;clear hg;go_wp2_with fail
 go_ret
 exact⟨rfl,(((ef _).alloc _).alloc _).trans HG.out⟩
theorem Kxq (a b:Int) (h:Hd3) (y:Wnd) (p pf pt:Nat) (W:World) (hp:Blk W p 137 #[.func (.func 53) #[] #[.pointer (some ⟨pf,0,none⟩),.pointer (some ⟨pt,0,none⟩)]]) (hf:Blk W pf 2 #[.int .i64 a]) (ht:Blk W pt 2 #[.int .i64 b]) :
  Calls prog 56 #[.agg (encH3 h).toArray,.agg (Kad y).toArray,.pointer (some ⟨p,0,none⟩)] W fun e w'=>e = .returned (.bool (inR a b y.start))/\Grown W w':=by
 have hc:∀W',Below W.heap.size W W'->Calls prog 53 #[.int .i64 y.start,.pointer (some ⟨pf,0,none⟩),.pointer (some ⟨pt,0,none⟩)] W' fun e w'=>e = .returned (.bool (inR a b y.start))/\Grown W' w':=fun W' hb=>Kmx a b y.start pf pt W' (hf.below hb hf.lt) (ht.below hb ht.lt)
 have egT:∀args w,(callFunc 53 args).run prog w = .ok (.enter 53 args) w:=enters_of func53 (by kernel_rfl) rfl;obtain⟨r,hr⟩:=jG (inR a b y.start);rw[<-hr]at hc |-;have HC:=Jh hc;clear hc hr;obtain⟨⟨A1,n1,c1⟩,⟨A2,n2,c2⟩,⟨A3,n3,c3⟩⟩:=h;obtain⟨y1,y2,y3,y4,y5,y6⟩:=y;unfold encH3 Kad;dsimp only at HC |-;have p0:=hp.cell 0;simp at p0;have hpl:=hp.lt;clear hp hf ht;go_enter func56,ntmps56
 go_wp2_with fail
 refine(HC.out _ (((Below.refl _ _).alloc (cN _) _).alloc (by simp) _)).mono ?_;rintro _ w1 ⟨rfl,hg⟩;have HG:=Jh hg;clear hg;go_wp2_with fail
 go_ret
 exact⟨rfl,(((ef _).alloc _).alloc _).trans HG.out⟩
structure SersZ (w:World) (A:Option Addr) (n:Nat) (L:List Ser):Prop where
 s:Sers w A n L
 z:∀s∈L,s.labels.length<=1099511627776/\s.samples.length<=137438953472/\s.windows.length<=137438953472
 n:n<=274877906944
theorem Kwb (a b:Int) (A:Option Addr) (n c:Nat) (ss:List Ser) (w:World) (h:SersZ w A n ss) :
  Calls prog 23 #[.slice A n c,.int .i64 a,.int .i64 b] w fun e w'=>∃(A':Option Addr) (n' c':Nat),e = .returned (.slice A' n' c')/\Kbm w' w.heap.size A' n' c' (keptF (fun _ x=>inR a b x.t) (fun _ x=>inR a b x.start) ss)/\n'<=c'/\Below w.heap.size w w':=by
 obtain⟨w3,aa⟩:=jG (((w.alloc (.cells #[.int .i64 a] 2)).alloc (.cells #[.int .i64 b] 2)).alloc (.cells #[.func (.func 53) #[] #[.pointer (some ⟨w.heap.size,0,none⟩),.pointer (some ⟨w.heap.size+1,0,none⟩)]] 137));have ab:Below w.heap.size w w3:=by rw[aa];exact(((Below.refl _ _).alloc (cN _) _).alloc (by simp) _).alloc (by simp;omega) _
 have hf:Blk w3 w.heap.size 2 #[.int .i64 a]:=by rw[aa];exact((ed _ _ _).alloc _).alloc _
 have ht:Blk w3 (w.heap.size+1) 2 #[.int .i64 b]:=by rw[aa];exact(ee (by simp)).alloc _
 have hp:Blk w3 (w.heap.size+2) 137 #[.func (.func 53) #[] #[.pointer (some ⟨w.heap.size,0,none⟩),.pointer (some ⟨w.heap.size+1,0,none⟩)]]:=by rw[aa];exact ee (by simp)
 obtain⟨pf,ah⟩:=jG w.heap.size;obtain⟨q1,aj⟩:=jG (w.heap.size+1);obtain⟨q2,ai⟩:=jG (w.heap.size+2);have ae:∀args w,(callFunc 55 args).run prog w = .ok (.enter 55 args) w:=enters_of func55 (by kernel_rfl) rfl;have af:∀args w,(callFunc 56 args).run prog w = .ok (.enter 56 args) w:=enters_of func56 (by kernel_rfl) rfl;obtain⟨hs,hE,hl,ad⟩:=h.s.below ab
 have HK:=Jh (Knb (w0:=w3) (fun _ x=>inR a b x.t) (fun _ x=>inR a b x.start) 55 56 #[.pointer (some ⟨w.heap.size+2,0,none⟩)] #[.pointer (some ⟨w.heap.size+2,0,none⟩)] A n c hs ss ae af hE hl ad h.z h.n
  (fun W hW i h s _ _ y _=>Kxp a b h y _ _ _ W (hp.below hW hp.lt) (hf.below hW hf.lt) (ht.below hW ht.lt))
  (fun W hW i h s _ _ y _=>Kxq a b h y _ _ _ W (hp.below hW hp.lt) (hf.below hW hf.lt) (ht.below hW ht.lt)))
 have ac:=Jh ab;have ag:=Jh aa;clear hf ht hp ae af hE hl ad h ab aa;clear ah aj ai pf q1 q2;go_enter func23,ntmps23
 go_upto_region 2 with fail
 have aa:=ag.out;rw[<-aa];clear aa;go_wp2_with fail
 refine HK.out.mono ?_;rintro _ w4 ⟨A',n',c',rfl,h1,h2,h3⟩;have HF:=Jh (And.intro (h1.mono ac.out.size) (And.intro h2 (ac.out.trans (h3.mono ac.out.size))));clear h1 h2 h3 HK;go_wp2_with fail
 go_ret
 exact⟨A',n',c',rfl,HF.out.1,HF.out.2.1,HF.out.2.2⟩
end
section
def Kbo (s:Spn):List Value:=[.int .i64 s.frm,.int .i64 s.to_]
structure Hd4 where
 l:Hd
 s0:Hd
 s1:Hd
 s2:Hd
def encH4 (h:Hd4):List Value:=[.slice h.l.A h.l.n h.l.c,.slice h.s0.A h.s0.n h.s0.c,.slice h.s1.A h.s1.n h.s1.c,.slice h.s2.A h.s2.n h.s2.c]
structure GoneP where
 labels:List Lb
 sp:Nat->List Spn
def encHG (x:Hd4×GoneP):List Value:=encH4 x.1
theorem Kvi (f:Spn->Bool) (gc:Nat) (cb:Array Value) (A:Option Addr) (n c:Nat) (l:List Spn) (w:World) (eg:∀args w,(callFunc gc args).run prog w = .ok (.enter gc args) w) (hE:Elems w w.heap.size 2 Kbo A n l) (hn:n<=1099511627776)
  (hf:∀W,Below w.heap.size w W->∀(i:Nat) (y:Spn),l[i]? = some y->Calls prog gc (#[.agg (Kbo y).toArray]++cb) W fun e w'=>e = .returned (.bool (f y))/\Grown W w') :
  Calls prog 190 #[.slice A n c,.func (.func gc) #[] cb] w fun e w'=>(∃k:Int,e = .returned (.int .i64 k)/\decide (0<=k)=l.any f)/\Grown w w':=by
 have HE:=Jh hE;have HF:=Jh hf;clear hE hf;go_enter func190,ntmps190
 go_wp2
 go_loopg [8] n (fun kx s8 wr=>∃i:Nat,s8 = .int .i64 (i:Int)/\i+kx=n/\Hid ((l.take i).any f=false)/\Hid (Grown w wr))
 case atStart=>exact⟨0,rfl,by omega,(by rw[cZ];rfl:(l.take 0).any f=false),ef _⟩
 case round=>
  obtain⟨i,rfl,hi,HA,HG⟩:=hrel;rcases de i n with hlt | hge
  .have aj:(i:Int)<(n:Int):=by omega
   obtain⟨b,ac,hA,hb,hc⟩:=HE.out.2 (by omega);have hl:=HE.out.len;obtain⟨y,hy⟩:∃y,l[i]? = some y:=⟨l[i]'(by omega),cX _⟩;have aa:∀r v,r<2->(Kbo y)[r]? = some v->wr.cell? ⟨b,ac+i*2+r,none⟩=some v:=fun r v _ hv=>(HG.out.below.cell (p:=⟨b,ac+i*2+r,none⟩) hb).trans (hc i y hy r v hv)
   have ai:b<wr.heap.size:=cO hb HG.out.below.size;have ab:=HF.out wr HG.out.below i y hy
   have ae:Hid ((l.take (i+1)).any f=f y):=by
    show _=_
    rw[cR,hy,dQ,HA.out];simp
   have ad:Hid (f y=true->l.any f=true):=fun h=>dm.2 ⟨y,df hy,h⟩
   subst hA;obtain⟨r,hr⟩:=jG (f y);rw[<-hr]at ab ae ad;obtain⟨y1,y2⟩:=y;unfold Kbo at ab;dsimp only at ab;have ag:=Jh ab;have k0:wr.cell? ⟨b,ac+i*2,none⟩=some (.int .i64 y1):=aa 0 _ (by decide) rfl;have k1:wr.cell? ⟨b,ac+i*2+1,none⟩=some (.int .i64 y2):=aa 1 _ (by decide) rfl;clear hc hl aa ab hr hy hb;go_wp2_with fail
   refine(ag.out).mono ?_;rintro _ w5 ⟨rfl,af⟩;have ah:Hid (Grown w w5):=HG.out.trans af;clear af HG k0 k1 ai ag
   cases r with
   | true=>
    go_wp2_with fail
    go_ret
    exact⟨⟨(i:Int),rfl,by rw[ad.out (by first | exact rfl | trivial)];exact jL (by omega)⟩,ah.out⟩
   | false=>
    clear ad;go_wp2_with fail
    go_roundg (n - (i+1))
    case measure=>omega
    case rel=>exact⟨i+1,by first | rfl | go_num,by omega,ae,ah⟩
  .have aj:¬(i:Int)<(n:Int):=by omega
   go_wp2_with fail
   go_ret
   refine⟨⟨-1,rfl,?_⟩,HG.out⟩;have h:=HA.out;rw[cP (by rw[HE.out.len];exact hge)]at h;rw[h];rfl
theorem Kox (f:Spn->Bool) (gc:Nat) (cb:Array Value) (A:Option Addr) (n c:Nat) (l:List Spn) (w:World) (eg:∀args w,(callFunc gc args).run prog w = .ok (.enter gc args) w) (hE:Elems w w.heap.size 2 Kbo A n l) (hn:n<=1099511627776)
  (hf:∀W,Below w.heap.size w W->∀(i:Nat) (y:Spn),l[i]? = some y->Calls prog gc (#[.agg (Kbo y).toArray]++cb) W fun e w'=>e = .returned (.bool (f y))/\Grown W w') :
  Calls prog 157 #[.slice A n c,.func (.func gc) #[] cb] w fun e w'=>e = .returned (.bool (l.any f))/\Grown w w':=by
 have HI:=Jh (Kvi f gc cb A n c l w eg hE hn hf);clear hE hf;go_enter func157,ntmps157
 go_wp2_with fail
 refine(HI.out).mono ?_;rintro _ w1 ⟨⟨k,rfl,hk⟩,hg⟩;have HG:=Jh hg;have HK:=Jh hk;clear hg hk;go_wp2_with fail
 go_ret
 exact⟨by first | (rw[<-HK.out];rfl) | (rw[<-HK.out]),HG.out⟩
theorem Kvh (f:(Hd4×GoneP)->Bool) (gc:Nat) (cb:Array Value) (A:Option Addr) (n c:Nat) (l:List (Hd4×GoneP)) (w:World) (eg:∀args w,(callFunc gc args).run prog w = .ok (.enter gc args) w) (hE:Elems w w.heap.size 4 encHG A n l) (hn:n<=1099511627776)
  (hf:∀W,Below w.heap.size w W->∀(i:Nat) (y:(Hd4×GoneP)),l[i]? = some y->Calls prog gc (#[.agg (encHG y).toArray]++cb) W fun e w'=>e = .returned (.bool (f y))/\Grown W w') :
  Calls prog 156 #[.slice A n c,.func (.func gc) #[] cb] w fun e w'=>(∃k:Int,e = .returned (.int .i64 k)/\decide (0<=k)=l.any f)/\Grown w w':=by
 have HE:=Jh hE;have HF:=Jh hf;clear hE hf;go_enter func156,ntmps156
 go_wp2
 go_loopg [8] n (fun kx s8 wr=>∃i:Nat,s8 = .int .i64 (i:Int)/\i+kx=n/\Hid ((l.take i).any f=false)/\Hid (Grown w wr))
 case atStart=>exact⟨0,rfl,by omega,(by rw[cZ];rfl:(l.take 0).any f=false),ef _⟩
 case round=>
  obtain⟨i,rfl,hi,HA,HG⟩:=hrel;rcases de i n with hlt | hge
  .have aj:(i:Int)<(n:Int):=by omega
   obtain⟨b,ab,hA,hb,hc⟩:=HE.out.2 (by omega);have hl:=HE.out.len;obtain⟨y,hy⟩:∃y,l[i]? = some y:=⟨l[i]'(by omega),cX _⟩;have aa:∀r v,r<4->(encHG y)[r]? = some v->wr.cell? ⟨b,ab+i*4+r,none⟩=some v:=fun r v _ hv=>(HG.out.below.cell (p:=⟨b,ab+i*4+r,none⟩) hb).trans (hc i y hy r v hv)
   have ai:b<wr.heap.size:=cO hb HG.out.below.size;have ac:=HF.out wr HG.out.below i y hy
   have ae:Hid ((l.take (i+1)).any f=f y):=by
    show _=_
    rw[cR,hy,dQ,HA.out];simp
   have ad:Hid (f y=true->l.any f=true):=fun h=>dm.2 ⟨y,df hy,h⟩
   subst hA;obtain⟨r,hr⟩:=jG (f y);rw[<-hr]at ac ae ad;obtain⟨⟨⟨A1,n1,c1⟩,⟨A2,n2,c2⟩,⟨A3,n3,c3⟩,⟨A4,n4,c4⟩⟩,gp⟩:=y;unfold encHG encH4 at ac;dsimp only at ac;have ag:=Jh ac;have k0:wr.cell? ⟨b,ab+i*4,none⟩=some (.slice A1 n1 c1):=aa 0 _ (by decide) rfl;have k1:wr.cell? ⟨b,ab+i*4+1,none⟩=some (.slice A2 n2 c2):=aa 1 _ (by decide) rfl;have k2:wr.cell? ⟨b,ab+i*4+2,none⟩=some (.slice A3 n3 c3):=aa 2 _ (by decide) rfl;have k3:wr.cell? ⟨b,ab+i*4+3,none⟩=some (.slice A4 n4 c4):=aa 3 _ (by decide) rfl;clear hc hl aa ac hr hy hb;go_wp2_with fail
   refine(ag.out).mono ?_;rintro _ w5 ⟨rfl,af⟩;have ah:Hid (Grown w w5):=HG.out.trans af;clear af HG k0 k1 k2 k3 ai ag
   cases r with
   | true=>
    go_wp2_with fail
    go_ret
    exact⟨⟨(i:Int),rfl,by rw[ad.out (by first | exact rfl | trivial)];exact jL (by omega)⟩,ah.out⟩
   | false=>
    clear ad;go_wp2_with fail
    go_roundg (n - (i+1))
    case measure=>omega
    case rel=>exact⟨i+1,by first | rfl | go_num,by omega,ae,ah⟩
  .have aj:¬(i:Int)<(n:Int):=by omega
   go_wp2_with fail
   go_ret
   refine⟨⟨-1,rfl,?_⟩,HG.out⟩;have h:=HA.out;rw[cP (by rw[HE.out.len];exact hge)]at h;rw[h];rfl
theorem Kow (f:(Hd4×GoneP)->Bool) (gc:Nat) (cb:Array Value) (A:Option Addr) (n c:Nat) (l:List (Hd4×GoneP)) (w:World) (eg:∀args w,(callFunc gc args).run prog w = .ok (.enter gc args) w) (hE:Elems w w.heap.size 4 encHG A n l) (hn:n<=1099511627776)
  (hf:∀W,Below w.heap.size w W->∀(i:Nat) (y:(Hd4×GoneP)),l[i]? = some y->Calls prog gc (#[.agg (encHG y).toArray]++cb) W fun e w'=>e = .returned (.bool (f y))/\Grown W w') :
  Calls prog 95 #[.slice A n c,.func (.func gc) #[] cb] w fun e w'=>e = .returned (.bool (l.any f))/\Grown w w':=by
 have HI:=Jh (Kvh f gc cb A n c l w eg hE hn hf);clear hE hf;go_enter func95,ntmps95
 go_wp2_with fail
 refine(HI.out).mono ?_;rintro _ w1 ⟨⟨k,rfl,hk⟩,hg⟩;have HG:=Jh hg;have HK:=Jh hk;clear hg hk;go_wp2_with fail
 go_ret
 exact⟨by first | (rw[<-HK.out];rfl) | (rw[<-HK.out]),HG.out⟩
def inS (t:Int) (s:Spn):Bool:=decide (s.frm<=t) && decide (t<=s.to_)
def hasF (l:List Spn) (t:Int):Bool:=l.any (inS t)
theorem Qbb (s:Spn) (t:Int) (p:Nat) (W:World) (hp:Blk W p 2 #[.int .i64 t]):Calls prog 158 #[.agg (Kbo s).toArray,.pointer (some ⟨p,0,none⟩)] W fun e w'=>e = .returned (.bool (inS t s))/\Grown W w':=by
 obtain⟨a,b⟩:=s;have p0:=hp.cell 0;simp at p0;have hpl:=hp.lt;obtain⟨r,hr⟩:=jG (inS t ⟨a,b⟩);rw[<-hr];have HR:=Jh hr;unfold Kbo;dsimp only;clear hr hp
 by_cases h1:a<=t
 .obtain ⟨r2,aa⟩:=jF (decide (t<=b));have e:r=r2:=by rw[HR.out];unfold inS;dsimp only;rw[jL h1,aa];rfl
  subst e;have d1:decide (a<=t)=true:=jL h1;go_enter func158,ntmps158
  go_wp2_with fail
  go_ret
  exact⟨by first | rfl | (rw[<-aa];rfl),(ef _).alloc _⟩
 .have e:r=false:=by rw[HR.out];unfold inS;dsimp only;rw[jJ h1];rfl
  subst e;have d1:decide (a<=t)=false:=jJ h1;go_enter func158,ntmps158
  go_wp2_with fail
  go_ret
  exact⟨rfl,(ef _).alloc _⟩
theorem Qdu (l:List Spn) (t:Int) (A:Option Addr) (n c:Nat) (w:World) (hE:Elems w w.heap.size 2 Kbo A n l) (hn:n<=1099511627776) :
  Calls prog 97 #[.slice A n c,.int .i64 t] w fun e w'=>e = .returned (.bool (hasF l t))/\Grown w w':=by
 obtain⟨w1,aa⟩:=jG (w.alloc (.cells #[.int .i64 t] 2));have ab:Grown w w1:=by rw[aa];exact(ef _).alloc _
 have hb:Blk w1 w.heap.size 2 #[.int .i64 t]:=by rw[aa];exact ed _ _ _
 have eg:∀args w,(callFunc 158 args).run prog w = .ok (.enter 158 args) w:=enters_of func158 (by kernel_rfl) rfl;have HC:=Jh (Kox (inS t) 158 #[.pointer (some ⟨w.heap.size,0,none⟩)] A n c l w1 eg ((hE.below ab.below).more ab.below.size) hn (fun W hW i y _=>Qbb y t _ W (hb.below hW hb.lt)));have HG:=Jh ab;have ac:=Jh aa;clear ab hb aa hE eg;go_enter func97,ntmps97
 go_upto_region 1 with fail
 have aa:=ac.out;rw[<-aa];clear aa;go_wp2_with fail
 refine(HC.out).mono ?_;rintro _ w2 ⟨rfl,hg⟩;have ad:=Jh (HG.out.trans hg);clear hg;go_wp2_with fail
 go_ret
 exact⟨rfl,ad.out⟩
def Hd4.sp (h:Hd4) (r:Nat):Hd:=if r=0 then h.s0 else if r=1 then h.s1 else h.s2
structure Kfz (w:World) (h:Hd4) (g:GoneP):Prop where
 l:Elems w w.heap.size 2 encLb h.l.A h.l.n g.labels
 z:h.l.n<=1099511627776
 s:∀r,r<3->Elems w w.heap.size 2 Kbo (h.sp r).A (h.sp r).n (g.sp r)/\(h.sp r).n<=1099511627776
theorem Kfz.below {w w':World}{h:Hd4}{g:GoneP}(x:Kfz w h g) (hb:Below w.heap.size w w'):Kfz w' h g:=
 ⟨(x.l.below hb).more hb.size,x.z,fun r hr=>⟨((x.s r hr).1.below hb).more hb.size,(x.s r hr).2⟩⟩
def goneF (r:Nat) (l:List Lb) (t:Int) (g:GoneP):Bool:=decide (cmpL g.labels l=0) && hasF (g.sp r) t
attribute [local go_sem] Kbw.cell
theorem Kub (r:Nat) (hr:r<3) (l:List Lb) (t:Int) (h:Hd4) (g:GoneP) (hs:Hd3) (ps pr pt:Nat) (W:World) (hat:Kfz W h g) (hl:Elems W W.heap.size 2 encLb hs.l.A hs.l.n l) (hlz:hs.l.n<=1099511627776)
  (hps:Blk W ps 58 (encH3 hs).toArray) (hpr:Blk W pr 3 #[.int .i64 (r:Int)]) (hpt:Blk W pt 2 #[.int .i64 t]) :
  Calls prog 96 #[.agg (encH4 h).toArray,.pointer (some ⟨ps,0,none⟩),.pointer (some ⟨pr,0,none⟩),.pointer (some ⟨pt,0,none⟩)] W fun e w'=>e = .returned (.bool (goneF r l t g))/\Grown W w':=by
 obtain⟨cc,az⟩:=jG (cmpL g.labels l)
 have aw:∀X:World,Below W.heap.size W X->Calls prog 60 #[.slice h.l.A h.l.n h.l.c,.slice hs.l.A hs.l.n hs.l.c] X fun e w'=>e = .returned (.int .i64 cc)/\Grown X w':=fun X hb=>
  Kdy g.labels l h.l.A hs.l.A h.l.n hs.l.n _ _ X cc az.symm ((hat.l.below hb).more hb.size) ((hl.below hb).more hb.size) (dw hat.z (by decide)) (dw hlz (by decide))
 have av:∀X:World,Below W.heap.size W X->Calls prog 97 #[.slice (h.sp r).A (h.sp r).n (h.sp r).c,.int .i64 t] X fun e w'=>e = .returned (.bool (hasF (g.sp r) t))/\Grown X w':=fun X hb=>
  Qdu (g.sp r) t _ _ _ X (((hat.s r hr).1.below hb).more hb.size) (hat.s r hr).2
 have ae:=Jh aw;have ac:=Jh av;obtain⟨hv,ay⟩:=jG (hasF (g.sp r) t);have ax:Hid (goneF r l t g=(decide (cc=0) && hv)):=by show _=_;unfold goneF;rw[az,ay]
 rw[<-ay]at ac;obtain⟨⟨A1,n1,c1⟩,⟨A2,n2,c2⟩,⟨A3,n3,c3⟩,⟨A4,n4,c4⟩⟩:=h;obtain⟨⟨lA,ln,lc⟩,⟨sA,sn,sc⟩,⟨wA,wn,wc⟩⟩:=hs;unfold encH3 at hps;unfold encH4;dsimp only at ae ac hps |-;clear aw av az ay hat hl hlz;obtain⟨ar,aq⟩:=jG (goneF r l t g);rw[<-aq];have ab:Hid (ar=(decide (cc=0) && hv)):=by show _=_;rw[aq];exact ax.out
 clear aq ax;rcases (by omega:r=0\/r=1\/r=2) with rfl | rfl | rfl
 .have ao:Hid (∀X:World,Below W.heap.size W X->Calls prog 97 #[.slice A2 n2 c2,.int .i64 t] X fun e w'=>e = .returned (.bool hv)/\Grown X w'):=ac.out;have s0:=hps.cell 0;have r0:=hpr.cell 0;have t0:=hpt.cell 0;simp at s0 r0 t0;have ah:=Jh hps;have ai:=Jh hpr;have ag:=Jh hpt;clear ac s0 r0 t0 hps hpr hpt;go_enter func96,ntmps96
  go_upto_region 1 with fail
  obtain⟨w1,aj⟩:=jG (W.alloc (.cells #[.slice A1 n1 c1,.slice A2 n2 c2,.slice A3 n3 c3,.slice A4 n4 c4] 88));obtain⟨q,hq⟩:=jG W.heap.size;have aa:Grown W w1:=by rw[aj];exact(ef _).alloc _
  have af:Blk w1 q 88 #[.slice A1 n1 c1,.slice A2 n2 c2,.slice A3 n3 c3,.slice A4 n4 c4]:=by rw[aj,hq];exact ed _ _ _
  have an:Hid (∀X:Kbw w1,Calls prog 60 #[.slice A1 n1 c1,.slice lA ln lc] X.w fun e w'=>e = .returned (.int .i64 cc)/\Grown X.w w'):=fun X=>ae.out X.w (aa.below.trans (X.h.below.mono aa.below.size))
  have ap:Hid (∀X:Kbw w1,Calls prog 97 #[.slice A2 n2 c2,.int .i64 t] X.w fun e w'=>e = .returned (.bool hv)/\Grown X.w w'):=fun X=>ao.out X.w (aa.below.trans (X.h.below.mono aa.below.size))
  have am:=Jh aa;have s0:=(ah.out.below aa.below ah.out.lt).cell 0;have r0:=(ai.out.below aa.below ai.out.lt).cell 0;have t0:=(ag.out.below aa.below ag.out.lt).cell 0;have g0:=af.cell 0;have g1:=af.cell 1;simp at s0 r0 t0 g0 g1;have l1:=(ah.out.below aa.below ah.out.lt).lt;have l2:=(ai.out.below aa.below ai.out.lt).lt;have l3:=(ag.out.below aa.below ag.out.lt).lt;have l4:=af.lt;rw[<-aj,<-hq];clear aj hq aa af ae ao;rcases dW cc 0 with hc | hc
  .have d1:(cc == 0)=false:=jO.2 hc;have d2:decide (cc=0)=false:=jJ hc;have al:ar=false:=by rw[ab.out,d2];rfl
   subst al;clear ab;refine Kap 13 (by kernel_rfl) (by kernel_rfl) ?_;simp only[cT,cZ,db,dn]
   repeat (go_big_quiet_step (first | (go_at_call 60;exact Kar _ (an.out _)) | (go_at_call 97;exact Kar _ (ap.out _))))
   refine eE ?_;rintro w2 ⟨⟨_,ad⟩,rfl⟩;have ak:=Jh (am.out.trans ad);clear ad;go_wp2_with fail
   go_ret
   exact⟨rfl,ak.out⟩
  .subst hc;have al:ar=hv:=by rw[ab.out];rfl
   subst al;clear ab;refine Kap 13 (by kernel_rfl) (by kernel_rfl) ?_;simp only[cT,cZ,db,dn]
   repeat (go_big_quiet_step (first | (go_at_call 60;exact Kar _ (an.out _)) | (go_at_call 97;exact Kar _ (ap.out _))))
   refine eE ?_;rintro w2 ⟨⟨_,ad⟩,rfl⟩;have ak:=Jh (am.out.trans ad);clear ad;go_wp2_with fail
   go_ret
   exact⟨rfl,ak.out⟩
 .have ao:Hid (∀X:World,Below W.heap.size W X->Calls prog 97 #[.slice A3 n3 c3,.int .i64 t] X fun e w'=>e = .returned (.bool hv)/\Grown X w'):=ac.out;have s0:=hps.cell 0;have r0:=hpr.cell 0;have t0:=hpt.cell 0;simp at s0 r0 t0;have ah:=Jh hps;have ai:=Jh hpr;have ag:=Jh hpt;clear ac s0 r0 t0 hps hpr hpt;go_enter func96,ntmps96
  go_upto_region 1 with fail
  obtain⟨w1,aj⟩:=jG (W.alloc (.cells #[.slice A1 n1 c1,.slice A2 n2 c2,.slice A3 n3 c3,.slice A4 n4 c4] 88));obtain⟨q,hq⟩:=jG W.heap.size;have aa:Grown W w1:=by rw[aj];exact(ef _).alloc _
  have af:Blk w1 q 88 #[.slice A1 n1 c1,.slice A2 n2 c2,.slice A3 n3 c3,.slice A4 n4 c4]:=by rw[aj,hq];exact ed _ _ _
  have an:Hid (∀X:Kbw w1,Calls prog 60 #[.slice A1 n1 c1,.slice lA ln lc] X.w fun e w'=>e = .returned (.int .i64 cc)/\Grown X.w w'):=fun X=>ae.out X.w (aa.below.trans (X.h.below.mono aa.below.size))
  have ap:Hid (∀X:Kbw w1,Calls prog 97 #[.slice A3 n3 c3,.int .i64 t] X.w fun e w'=>e = .returned (.bool hv)/\Grown X.w w'):=fun X=>ao.out X.w (aa.below.trans (X.h.below.mono aa.below.size))
  have am:=Jh aa;have s0:=(ah.out.below aa.below ah.out.lt).cell 0;have r0:=(ai.out.below aa.below ai.out.lt).cell 0;have t0:=(ag.out.below aa.below ag.out.lt).cell 0;have g0:=af.cell 0;have g1:=af.cell 2;simp at s0 r0 t0 g0 g1;have l1:=(ah.out.below aa.below ah.out.lt).lt;have l2:=(ai.out.below aa.below ai.out.lt).lt;have l3:=(ag.out.below aa.below ag.out.lt).lt;have l4:=af.lt;rw[<-aj,<-hq];clear aj hq aa af ae ao;rcases dW cc 0 with hc | hc
  .have d1:(cc == 0)=false:=jO.2 hc;have d2:decide (cc=0)=false:=jJ hc;have al:ar=false:=by rw[ab.out,d2];rfl
   subst al;clear ab;refine Kap 13 (by kernel_rfl) (by kernel_rfl) ?_;simp only[cT,cZ,db,dn]
   repeat (go_big_quiet_step (first | (go_at_call 60;exact Kar _ (an.out _)) | (go_at_call 97;exact Kar _ (ap.out _))))
   refine eE ?_;rintro w2 ⟨⟨_,ad⟩,rfl⟩;have ak:=Jh (am.out.trans ad);clear ad;go_wp2_with fail
   go_ret
   exact⟨rfl,ak.out⟩
  .subst hc;have al:ar=hv:=by rw[ab.out];rfl
   subst al;clear ab;refine Kap 13 (by kernel_rfl) (by kernel_rfl) ?_;simp only[cT,cZ,db,dn]
   repeat (go_big_quiet_step (first | (go_at_call 60;exact Kar _ (an.out _)) | (go_at_call 97;exact Kar _ (ap.out _))))
   refine eE ?_;rintro w2 ⟨⟨_,ad⟩,rfl⟩;have ak:=Jh (am.out.trans ad);clear ad;go_wp2_with fail
   go_ret
   exact⟨rfl,ak.out⟩
 .have ao:Hid (∀X:World,Below W.heap.size W X->Calls prog 97 #[.slice A4 n4 c4,.int .i64 t] X fun e w'=>e = .returned (.bool hv)/\Grown X w'):=ac.out;have s0:=hps.cell 0;have r0:=hpr.cell 0;have t0:=hpt.cell 0;simp at s0 r0 t0;have ah:=Jh hps;have ai:=Jh hpr;have ag:=Jh hpt;clear ac s0 r0 t0 hps hpr hpt;go_enter func96,ntmps96
  go_upto_region 1 with fail
  obtain⟨w1,aj⟩:=jG (W.alloc (.cells #[.slice A1 n1 c1,.slice A2 n2 c2,.slice A3 n3 c3,.slice A4 n4 c4] 88));obtain⟨q,hq⟩:=jG W.heap.size;have aa:Grown W w1:=by rw[aj];exact(ef _).alloc _
  have af:Blk w1 q 88 #[.slice A1 n1 c1,.slice A2 n2 c2,.slice A3 n3 c3,.slice A4 n4 c4]:=by rw[aj,hq];exact ed _ _ _
  have an:Hid (∀X:Kbw w1,Calls prog 60 #[.slice A1 n1 c1,.slice lA ln lc] X.w fun e w'=>e = .returned (.int .i64 cc)/\Grown X.w w'):=fun X=>ae.out X.w (aa.below.trans (X.h.below.mono aa.below.size))
  have ap:Hid (∀X:Kbw w1,Calls prog 97 #[.slice A4 n4 c4,.int .i64 t] X.w fun e w'=>e = .returned (.bool hv)/\Grown X.w w'):=fun X=>ao.out X.w (aa.below.trans (X.h.below.mono aa.below.size))
  have am:=Jh aa;have s0:=(ah.out.below aa.below ah.out.lt).cell 0;have r0:=(ai.out.below aa.below ai.out.lt).cell 0;have t0:=(ag.out.below aa.below ag.out.lt).cell 0;have g0:=af.cell 0;have g1:=af.cell 3;simp at s0 r0 t0 g0 g1;have l1:=(ah.out.below aa.below ah.out.lt).lt;have l2:=(ai.out.below aa.below ai.out.lt).lt;have l3:=(ag.out.below aa.below ag.out.lt).lt;have l4:=af.lt;rw[<-aj,<-hq];clear aj hq aa af ae ao;rcases dW cc 0 with hc | hc
  .have d1:(cc == 0)=false:=jO.2 hc;have d2:decide (cc=0)=false:=jJ hc;have al:ar=false:=by rw[ab.out,d2];rfl
   subst al;clear ab;refine Kap 13 (by kernel_rfl) (by kernel_rfl) ?_;simp only[cT,cZ,db,dn]
   repeat (go_big_quiet_step (first | (go_at_call 60;exact Kar _ (an.out _)) | (go_at_call 97;exact Kar _ (ap.out _))))
   refine eE ?_;rintro w2 ⟨⟨_,ad⟩,rfl⟩;have ak:=Jh (am.out.trans ad);clear ad;go_wp2_with fail
   go_ret
   exact⟨rfl,ak.out⟩
  .subst hc;have al:ar=hv:=by rw[ab.out];rfl
   subst al;clear ab;refine Kap 13 (by kernel_rfl) (by kernel_rfl) ?_;simp only[cT,cZ,db,dn]
   repeat (go_big_quiet_step (first | (go_at_call 60;exact Kar _ (an.out _)) | (go_at_call 97;exact Kar _ (ap.out _))))
   refine eE ?_;rintro w2 ⟨⟨_,ad⟩,rfl⟩;have ak:=Jh (am.out.trans ad);clear ad;go_wp2_with fail
   go_ret
   exact⟨rfl,ak.out⟩
structure Gones (w:World) (A:Option Addr) (n:Nat) (hs:List (Hd4×GoneP)):Prop where
 e:Elems w w.heap.size 4 encHG A n hs
 a:∀x∈hs,Kfz w x.1 x.2
 n:n<=1099511627776
theorem Gones.below {w w':World}{A:Option Addr}{n:Nat}{hs:List (Hd4×GoneP)}(h:Gones w A n hs) (hb:Below w.heap.size w w'):Gones w' A n hs:=
 ⟨(h.e.below hb).more hb.size,fun x hx=>(h.a x hx).below hb,h.n⟩
def Kbb (hs:List (Hd4×GoneP)) (r:Nat) (l:List Lb) (t:Int):Bool:=hs.any fun x=>goneF r l t x.2
theorem Klz (hs:List (Hd4×GoneP)) (A:Option Addr) (n c r:Nat) (hr:r<3) (l:List Lb) (t:Int) (h:Hd3) (pg pr:Nat) (W:World) (hG:Gones W A n hs) (hl:Elems W W.heap.size 2 encLb h.l.A h.l.n l) (hlz:h.l.n<=1099511627776)
  (hpg:Blk W pg 22 #[.slice A n c]) (hpr:Blk W pr 3 #[.int .i64 (r:Int)]) :
  Calls prog 94 #[.agg (encH3 h).toArray,.int .i64 t,.pointer (some ⟨pg,0,none⟩),.pointer (some ⟨pr,0,none⟩)] W fun e w'=>e = .returned (.bool (Kbb hs r l t))/\Grown W w':=by
 obtain⟨w2,ab⟩:=jG ((W.alloc (.cells (encH3 h).toArray 58)).alloc (.cells #[.int .i64 t] 2));have ah:Grown W w2:=by rw[ab];exact((ef _).alloc _).alloc _
 have ai:Blk w2 W.heap.size 58 (encH3 h).toArray:=by rw[ab];exact(ed _ _ _).alloc _
 have ag:Blk w2 (W.heap.size+1) 2 #[.int .i64 t]:=by rw[ab];exact ee (by simp)
 have aa:=ah.below;have ae:=hpg.below aa hpg.lt;have ac:=hpr.below aa hpr.lt;have eg:∀args w,(callFunc 96 args).run prog w = .ok (.enter 96 args) w:=enters_of func96 (by kernel_rfl) rfl
 have HC:=Jh (Kow (fun x=>goneF r l t x.2) 96 #[.pointer (some ⟨W.heap.size,0,none⟩),.pointer (some ⟨pr,0,none⟩),.pointer (some ⟨W.heap.size+1,0,none⟩)] A n c hs w2 eg ((hG.e.below aa).more aa.size) hG.n
  (fun X hX i y hy=>Kub r hr l t y.1 y.2 h W.heap.size pr (W.heap.size+1) X ((hG.a y (df hy)).below (aa.trans (hX.mono aa.size))) ((hl.below (aa.trans (hX.mono aa.size))).more (aa.trans (hX.mono aa.size)).size) hlz (ai.below hX ai.lt) (ac.below hX ac.lt) (ag.below hX ag.lt)))
 have ak:=Jh ah;have af:=Jh ab;have ad:=Jh ae;obtain⟨⟨lA,ln,lc⟩,⟨sA,sn,sc⟩,⟨wA,wn,wc⟩⟩:=h;unfold encH3 at af |-;dsimp only at af |-;clear ah ai ag aa ae ac ab hG hl hpg hpr eg;go_enter func94,ntmps94
 go_upto_region 1 with fail
 have ab:=af.out;rw[<-ab];clear ab;have g0:=ad.out.cell 0;simp at g0;have gl:=ad.out.lt;go_wp2_with fail
 refine(HC.out).mono ?_;rintro _ w3 ⟨rfl,hg⟩;have aj:=Jh (ak.out.trans hg);clear hg;go_wp2_with fail
 go_ret
 exact⟨rfl,aj.out⟩
theorem Kwu (hs:List (Hd4×GoneP)) (A:Option Addr) (n c r:Nat) (hr:r<3) (l:List Lb) (h:Hd3) (y:Smp) (p pg pr:Nat) (W:World) (hG:Gones W A n hs) (hl:Elems W W.heap.size 2 encLb h.l.A h.l.n l) (hlz:h.l.n<=1099511627776)
  (hp:Blk W p 184 #[.func (.func 94) #[] #[.pointer (some ⟨pg,0,none⟩),.pointer (some ⟨pr,0,none⟩)]]) (hpg:Blk W pg 22 #[.slice A n c]) (hpr:Blk W pr 3 #[.int .i64 (r:Int)]) :
  Calls prog 98 #[.agg (encH3 h).toArray,.agg (Kac y).toArray,.pointer (some ⟨pr,0,none⟩),.pointer (some ⟨p,0,none⟩)] W fun e w'=>e = .returned (.bool (decide (r=0) && !Kbb hs r l y.t))/\Grown W w':=by
 have ht:∀X:World,Below W.heap.size W X->Calls prog 94 #[.agg (encH3 h).toArray,.int .i64 y.t,.pointer (some ⟨pg,0,none⟩),.pointer (some ⟨pr,0,none⟩)] X fun e w'=>e = .returned (.bool (Kbb hs r l y.t))/\Grown X w':=fun X hX=>
  Klz hs A n c r hr l y.t h pg pr X (hG.below hX) ((hl.below hX).more hX.size) hlz (hpg.below hX hpg.lt) (hpr.below hX hpr.lt)
 have egT:∀args w,(callFunc 94 args).run prog w = .ok (.enter 94 args) w:=enters_of func94 (by kernel_rfl) rfl;obtain⟨tk,ab⟩:=jG (Kbb hs r l y.t);rw[<-ab]at ht |-;have HT:=Jh ht;have p0:=hp.cell 0;have r0:=hpr.cell 0;simp at p0 r0;have pl:=hp.lt;have rl:=hpr.lt;obtain⟨⟨lA,ln,lc⟩,⟨sA,sn,sc⟩,⟨wA,wn,wc⟩⟩:=h;obtain⟨y1,y2⟩:=y;unfold encH3 Kac;unfold encH3 at HT;dsimp only at HT |-;clear ht ab hG hl hp hpg hpr;rcases dB r with h0 | h0
 .subst h0;simp only[decide_true,dV];have aa:Hid (∀X:World,Below W.heap.size W X->Calls prog 94 #[.agg #[.slice lA ln lc,.slice sA sn sc,.slice wA wn wc],.int .i64 y1,.pointer (some ⟨pg,0,none⟩),.pointer (some ⟨pr,0,none⟩)] X fun e w'=>e = .returned (.bool tk)/\Grown X w'):=HT.out;go_enter func98,ntmps98
  go_wp2_with fail
  refine(aa.out _ (((Below.refl _ _).alloc (cN _) _).alloc (by simp) _)).mono ?_;rintro _ w1 ⟨rfl,hg⟩;have HG:=Jh hg;clear hg;go_wp2_with fail
  go_ret
  exact⟨by cases tk <;> rfl,(((ef _).alloc _).alloc _).trans HG.out⟩
 .have hn:r≠0:=by omega
  have d1:((r:Int) == 0)=false:=jO.2 (by omega);have d2:((r:Int) != 0)=true:=bne_iff_ne.2 (by omega);have d3:decide ((r:Int)=0)=false:=jJ (by omega);rw[show decide (r=0)=false from jJ hn];simp only[dT];have aa:Hid (∀X:World,Below W.heap.size W X->Calls prog 94 #[.agg #[.slice lA ln lc,.slice sA sn sc,.slice wA wn wc],.int .i64 y1,.pointer (some ⟨pg,0,none⟩),.pointer (some ⟨pr,0,none⟩)] X fun e w'=>e = .returned (.bool tk)/\Grown X w'):=HT.out;go_enter func98,ntmps98
  go_wp2_with fail
  go_ret
  exact⟨rfl,((ef _).alloc _).alloc _⟩
theorem Kwv (hs:List (Hd4×GoneP)) (A:Option Addr) (n c r:Nat) (hr:r<3) (l:List Lb) (h:Hd3) (y:Wnd) (p pg pr:Nat) (W:World) (hG:Gones W A n hs) (hl:Elems W W.heap.size 2 encLb h.l.A h.l.n l) (hlz:h.l.n<=1099511627776)
  (hp:Blk W p 184 #[.func (.func 94) #[] #[.pointer (some ⟨pg,0,none⟩),.pointer (some ⟨pr,0,none⟩)]]) (hpg:Blk W pg 22 #[.slice A n c]) (hpr:Blk W pr 3 #[.int .i64 (r:Int)]) :
  Calls prog 99 #[.agg (encH3 h).toArray,.agg (Kad y).toArray,.pointer (some ⟨pr,0,none⟩),.pointer (some ⟨p,0,none⟩)] W fun e w'=>e = .returned (.bool (decide (r≠0) && !Kbb hs r l y.start))/\Grown W w':=by
 have ht:∀X:World,Below W.heap.size W X->Calls prog 94 #[.agg (encH3 h).toArray,.int .i64 y.start,.pointer (some ⟨pg,0,none⟩),.pointer (some ⟨pr,0,none⟩)] X fun e w'=>e = .returned (.bool (Kbb hs r l y.start))/\Grown X w':=fun X hX=>
  Klz hs A n c r hr l y.start h pg pr X (hG.below hX) ((hl.below hX).more hX.size) hlz (hpg.below hX hpg.lt) (hpr.below hX hpr.lt)
 have egT:∀args w,(callFunc 94 args).run prog w = .ok (.enter 94 args) w:=enters_of func94 (by kernel_rfl) rfl;obtain⟨tk,ab⟩:=jG (Kbb hs r l y.start);rw[<-ab]at ht |-;have HT:=Jh ht;have p0:=hp.cell 0;have r0:=hpr.cell 0;simp at p0 r0;have pl:=hp.lt;have rl:=hpr.lt;obtain⟨⟨lA,ln,lc⟩,⟨sA,sn,sc⟩,⟨wA,wn,wc⟩⟩:=h;obtain⟨y1,y2,y3,y4,y5,y6⟩:=y;unfold encH3 Kad;unfold encH3 at HT;dsimp only at HT |-;clear ht ab hG hl hp hpg hpr;rcases dB r with h0 | h0
 .subst h0;simp only[ne_eq,not_true_eq_false,decide_false,dT];have aa:Hid (∀X:World,Below W.heap.size W X->Calls prog 94 #[.agg #[.slice lA ln lc,.slice sA sn sc,.slice wA wn wc],.int .i64 y1,.pointer (some ⟨pg,0,none⟩),.pointer (some ⟨pr,0,none⟩)] X fun e w'=>e = .returned (.bool tk)/\Grown X w'):=HT.out;go_enter func99,ntmps99
  go_wp2_with fail
  go_ret
  exact⟨rfl,((ef _).alloc _).alloc _⟩
 .have hn:r≠0:=by omega
  have d1:((r:Int) == 0)=false:=jO.2 (by omega);have d2:((r:Int) != 0)=true:=bne_iff_ne.2 (by omega);have d3:decide ((r:Int)=0)=false:=jJ (by omega);rw[show decide (r≠0)=true from jL hn];simp only[dV];have aa:Hid (∀X:World,Below W.heap.size W X->Calls prog 94 #[.agg #[.slice lA ln lc,.slice sA sn sc,.slice wA wn wc],.int .i64 y1,.pointer (some ⟨pg,0,none⟩),.pointer (some ⟨pr,0,none⟩)] X fun e w'=>e = .returned (.bool tk)/\Grown X w'):=HT.out;go_enter func99,ntmps99
  go_wp2_with fail
  refine(aa.out _ (((Below.refl _ _).alloc (cN _) _).alloc (by simp) _)).mono ?_;rintro _ w1 ⟨rfl,hg⟩;have HG:=Jh hg;clear hg;go_wp2_with fail
  go_ret
  exact⟨by cases tk <;> rfl,(((ef _).alloc _).alloc _).trans HG.out⟩
def Kbn (res:Int) (hs:List (Hd4×GoneP)) (ss:List Ser):List Ser:=if 0<=res/\res<3 then keptF (fun s x=>decide (res.toNat=0) && !Kbb hs res.toNat s.labels x.t) (fun s x=>decide (res.toNat≠0) && !Kbb hs res.toNat s.labels x.start) ss else []
theorem Kni (res:Int) (A:Option Addr) (n c:Nat) (ss:List Ser) (B:Option Addr) (k d:Nat) (hs:List (Hd4×GoneP)) (w:World) (h:SersZ w A n ss) (hG:Gones w B k hs) :
  Calls prog 34 #[.int .i64 res,.slice A n c,.slice B k d] w fun e w'=>∃(A':Option Addr) (n' c':Nat),e = .returned (.slice A' n' c')/\Sers w' A' n' (Kbn res hs ss)/\n'<=c'/\Below w.heap.size w w':=by
 by_cases hres:0<=res/\res<3
 .obtain ⟨r,rfl⟩:∃r:Nat,res=(r:Int):=⟨res.toNat,by omega⟩;have ai:r<3:=by omega
  have ac:Kbn (r:Int) hs ss=keptF (fun s x=>decide (r=0) && !Kbb hs r s.labels x.t) (fun s x=>decide (r≠0) && !Kbb hs r s.labels x.start) ss:=by unfold Kbn;rw[jN hres,Int.toNat_natCast]
  rw[ac];obtain⟨w3,ab⟩:=jG (((w.alloc (.cells #[.int .i64 (r:Int)] 3)).alloc (.cells #[.slice B k d] 22)).alloc (.cells #[.func (.func 94) #[] #[.pointer (some ⟨w.heap.size+1,0,none⟩),.pointer (some ⟨w.heap.size,0,none⟩)]] 184));have ad:Below w.heap.size w w3:=by rw[ab];exact(((Below.refl _ _).alloc (cN _) _).alloc (by simp) _).alloc (by simp;omega) _
  have hf:Blk w3 w.heap.size 3 #[.int .i64 (r:Int)]:=by rw[ab];exact((ed _ _ _).alloc _).alloc _
  have ht:Blk w3 (w.heap.size+1) 22 #[.slice B k d]:=by rw[ab];exact(ee (by simp)).alloc _
  have hp:Blk w3 (w.heap.size+2) 184 #[.func (.func 94) #[] #[.pointer (some ⟨w.heap.size+1,0,none⟩),.pointer (some ⟨w.heap.size,0,none⟩)]]:=by rw[ab];exact ee (by simp)
  have ah:∀args w,(callFunc 98 args).run prog w = .ok (.enter 98 args) w:=enters_of func98 (by kernel_rfl) rfl;have ak:∀args w,(callFunc 99 args).run prog w = .ok (.enter 99 args) w:=enters_of func99 (by kernel_rfl) rfl;obtain⟨aj,hE,hl,ae⟩:=h.s.below ad;have af:=hG.below ad
  have aa:∀(i:Nat) (x:Hd3) (s:Ser),aj[i]? = some x->ss[i]! = s->x.l.n<=1099511627776/\Elems w3 w3.heap.size 2 encLb x.l.A x.l.n s.labels:=fun i x s hi hs=>by
   have a:=ae i x hi;rw[hs]at a
   have ag:s∈ss:=by
    have am:i<ss.length:=by rw[hl,<-hE.len];exact(c6.1 hi).1
    rw[<-hs,jI ss i am];exact dh _
   refine⟨?_,a.l⟩;have h1:=a.l.len;have h2:=(h.z s ag).1;omega
  have HK:=Jh (Qbf (w0:=w3) (fun s x=>decide (r=0) && !Kbb hs r s.labels x.t) (fun s x=>decide (r≠0) && !Kbb hs r s.labels x.start) 98 99 #[.pointer (some ⟨w.heap.size,0,none⟩),.pointer (some ⟨w.heap.size+2,0,none⟩)] #[.pointer (some ⟨w.heap.size,0,none⟩),.pointer (some ⟨w.heap.size+2,0,none⟩)] A n c aj ss ah ak hE hl ae h.z h.n
   (fun W hW i x s hi hs' y _=>Kwu hs B k d r ai s.labels x y _ _ _ W (af.below hW) (((aa i x s hi hs').2.below hW).more hW.size) (aa i x s hi hs').1 (hp.below hW hp.lt) (ht.below hW ht.lt) (hf.below hW hf.lt))
   (fun W hW i x s hi hs' y _=>Kwv hs B k d r ai s.labels x y _ _ _ W (af.below hW) (((aa i x s hi hs').2.below hW).more hW.size) (aa i x s hi hs').1 (hp.below hW hp.lt) (ht.below hW ht.lt) (hf.below hW hf.lt)))
  have al:=Jh ad;have an:=Jh ab;have d1:¬(r:Int)<0:=by omega
  have d2:(r:Int)<3:=by omega
  clear hf ht hp ah ak hE hl ae h ad ab hG af aa ac hres;go_enter func34,ntmps34
  go_upto_region 4 with fail
  have ab:=an.out;rw[<-ab];clear ab;go_wp2_with fail
  refine HK.out.mono ?_;rintro _ w4 ⟨A',n',c',rfl,h1,h2,h3⟩;have HF:=Jh (And.intro h1 (And.intro h2 (al.out.trans (h3.mono al.out.size))));clear h1 h2 h3 HK;go_wp2_with fail
  go_ret
  exact⟨A',n',c',rfl,HF.out.1,HF.out.2.1,HF.out.2.2⟩
 .have ac:Kbn res hs ss = []:=by unfold Kbn;rw[jM hres]
  rw[ac];clear h hG ac;rcases (by omega:res<0\/(¬res<0/\3<=res)) with h1 | ⟨h1,h2⟩
  .go_enter func34,ntmps34
   go_wp2_with fail
   go_ret
   exact⟨none,0,0,rfl,Sers.nil _,cN _,((Below.refl _ _).alloc (cN _) _).alloc (by simp) _⟩
  .go_enter func34,ntmps34
   go_wp2_with fail
   go_ret
   exact⟨none,0,0,rfl,Sers.nil _,cN _,((Below.refl _ _).alloc (cN _) _).alloc (by simp) _⟩
end
end
section
open Go.Shelf Go.RowKit Go.Lib Go.Sort
theorem eqvM {w0:World}(x:MS w0):eqv (ltOf (cfM (w0:=w0))) x=fun y=>decide (y.s.labels=x.s.labels):=by
 funext y;unfold eqv;rw[ltM,ltM];have h:=Kdd x.s.labels y.s.labels
 by_cases he:y.s.labels=x.s.labels
 .rw[jL he,he,Kcz];rfl
 .rw[jJ he];have hz:cmpL x.s.labels y.s.labels≠0:=fun e=>he (Kdf e).symm
  rcases (by omega:cmpL x.s.labels y.s.labels<0\/cmpL y.s.labels x.s.labels<0) with q | q
  .rw[jL q];rfl
  .rw[jL q];simp
theorem Kzh {w0:World}{xs ys:List (MS w0)}(h:Stab (ltOf cfM) xs ys):Kev (ys.map MS.s)=Kae (xs.map MS.s):=by
 refine Qeg ?_ fun L=>?_
 .rw[dO];refine h.asc.imp fun q=>?_
  rw[ltM,jK]at q;exact q
 .rw[dR,dR];congr 1
  by_cases hex:∃x∈xs,x.s.labels=L
  .obtain ⟨x,_,rfl⟩:=hex;have:=h.keep x;rw[eqvM]at this;exact this
  .have h1:xs.filter ((fun x=>decide (x.labels=L)) ∘ MS.s) = []:=dg.2 fun x hx he=>hex ⟨x,hx,by simpa using he⟩
   have h2:ys.filter ((fun x=>decide (x.labels=L)) ∘ MS.s) = []:=dg.2 fun x hx he=>hex ⟨x,h.perm.mem_iff.1 hx,by simpa using he⟩
   rw[h1,h2]
theorem Qad {w:World}:∀{hs:List Hd3}{L:List Ser},Pairs (fun h s=>SerAt w h s/\h.l.n<=1099511627776) hs L->∃xs:List (MS w),xs.map MS.h=hs/\xs.map MS.s=L
 | [],[],_=>⟨[],rfl,rfl⟩
 | [],_ :: _,h=>h.elim
 | _ :: _,[],h=>h.elim
 | a :: hs,b :: L,h=>by obtain⟨xs,h1,h2⟩:=Qad h.2;exact⟨⟨a,b,h.1.1,h.1.2⟩ :: xs,by simp[h1],by simp[h2]⟩
structure Lists (w:World) (A:Option Addr) (n:Nat) (hs:List Hd) (Ls:List (List Ser)):Prop where
 e:Elems w w.heap.size 1 Kes A n hs
 l:Ls.length=n
 k:∀(i:Nat) (h:Hd),hs[i]? = some h->Sers w h.A h.n Ls[i]!/\h.n<=h.c
 z:∀L∈Ls,∀s∈L,s.labels.length<=1099511627776
theorem Kwa {w:World}:∀{hs:List Hd}{Ls:List (List Ser)},Pairs (fun (h:Hd) L=>Sers w h.A h.n L/\∀s∈L,s.labels.length<=1099511627776) hs Ls->∃(Ks:List (List Hd3)) (xs:List (MS w)),Ks.flatten=xs.map MS.h/\xs.map MS.s=Ls.flatten/\Pairs (fun (h:Hd) K=>Elems w w.heap.size 3 encH3 h.A h.n K) hs Ks
 | [],[],_=>⟨[],[],rfl,rfl,trivial⟩
 | [],_ :: _,h=>h.elim
 | _ :: _,[],h=>h.elim
 | a :: hs,L :: Ls,h=>by
  obtain⟨Ks,xs,h1,h2,h3⟩:=Kwa h.2;obtain⟨⟨ks,e1,e2,e3⟩,hz⟩:=h.1
  obtain⟨ys,f1,f2⟩:=Qad (w:=w) (hs:=ks) (L:=L) (Pairs.of (by rw[e1.len,e2]) fun i x hi=>⟨e3 i x hi,by
   have hl:=(e3 i x hi).l.len;have aa:i<L.length:=by rw[e2,<-e1.len];exact(c6.1 hi).1
   rw[<-hl,jI L i aa]
   exact hz _ (dh _)⟩)
  exact⟨ks :: Ks,ys++xs,by rw[dP,h1,da,f1],by rw[dP,da,f2,h2],e1,h3⟩
theorem Ksh {w:World}(A:Option Addr) (n c:Nat) (hs:List Hd) (Ls:List (List Ser)) (h:Lists w A n hs Ls) (hn:n<=140737488355328) (hN:Ls.flatten.length<=274877906944) (hsum:sumS Ls.flatten<=137438953472) :
  Calls prog 24 #[.slice A n c] w fun e w'=>∃(A':Option Addr) (n' c':Nat),e = .returned (.slice A' n' c')/\Sers w' A' n' (Kae Ls.flatten)/\n'<=c'/\Below w.heap.size w w':=by
 obtain⟨Ks,xs,h1,h2,h3⟩:=Kwa (w:=w) (hs:=hs) (Ls:=Ls) (Pairs.of (by rw[h.e.len,h.l]) fun i x hi=>⟨(h.k i x hi).1,by
  have ab:i<Ls.length:=by rw[h.l,<-h.e.len];exact(c6.1 hi).1
  rw[jI Ls i ab]
  exact h.z _ (dh _)⟩)
 have ac:xs.length=Ls.flatten.length:=by rw[<-h2,dv]
 have aa:CatIn w A n hs Ks:=⟨h.e,by rw[<-h3.len,h.e.len],fun i x hi=>h3.at_ i x hi,fun x hx=>by
  obtain⟨i,hi⟩:=List.mem_iff_getElem?.1 hx
  exact(h.k i x hi).2⟩
 refine(Kyn xs A n c hs Ks h1 aa (by rw[ac];exact hN) hn (by rw[h2];exact hsum)).mono ?_;rintro e w' ⟨ys,A',n',c',rfl,g1,g2,g3,g4⟩;rw[Kzh g1,h2]at g2;exact⟨A',n',c',rfl,g2,g3,g4⟩
end
section
theorem Kbq (x:Ser) (l:List Ser):sumS (x :: l)=x.samples.length+x.windows.length+sumS l:=by unfold sumS;simp
theorem Kih {α : Type}(k:α->Int) (xs:List α):(onceL k xs).length<=xs.length:=by have:=Keg k xs [];unfold onceL;simpa using this
theorem Kso (P:List Lb->Prop) (s:Ser):∀out:List Ser,(Kbg out s).length<=out.length+1/\sumS (Kbg out s)<=sumS out+(s.samples.length+s.windows.length)/\((∀g∈out,P g.labels)->P s.labels->∀g∈Kbg out s,P g.labels)
 | []=>by have h1:=Kih ev s.samples;have h2:=Kih ep s.windows;refine⟨by simp[Kbg],?_,fun _ h g hg=>by simp[Kbg]at hg;rw[hg];exact h⟩;unfold Kbg;rw[Kbq];simp[sumS];omega
 | y :: l=>by
  have h1:=Kih ev s.samples;have h2:=Kih ep s.windows;have h3:=Keg ev s.samples y.samples;have h4:=Keg ep s.windows y.windows;obtain⟨i1,i2,i3⟩:=Kso P s l;unfold Kbg
  split
  .refine ⟨by simp,?_,fun ho _ g hg=>?_⟩
   .rw[Kbq,Kbq];dsimp only;omega
   .rcases di.1 hg with q | q
    .rw[q];exact ho y (dC)
    .exact ho g (dz _ q)
  .split
   .refine ⟨by simp,?_,fun ho hs g hg=>?_⟩
    .rw[Kbq];dsimp only;omega
    .rcases di.1 hg with q | q
     .rw[q];exact hs
     .exact ho g q
   .refine ⟨by simp only[dH];omega,?_,fun ho hs g hg=>?_⟩
    .rw[Kbq,Kbq];omega
    .rcases di.1 hg with q | q
     .rw[q];exact ho y (dC)
     .exact i3 (fun g h=>ho g (dz _ h)) hs g q
theorem Kgr (P:List Lb->Prop):∀l out:List Ser,(l.foldl Kco out).length<=out.length+l.length/\sumS (l.foldl Kco out)<=sumS out+sumS l/\((∀g∈out,P g.labels)->(∀s∈l,P s.labels)->∀g∈l.foldl Kco out,P g.labels)
 | [],out=>⟨by simp,by simp,fun h _=>h⟩
 | s :: l,out=>by
  obtain⟨i1,i2,i3⟩:=Kgr P l (Kco out s)
  have hs:(Kco out s).length<=out.length+1/\sumS (Kco out s)<=sumS out+(s.samples.length+s.windows.length)/\((∀g∈out,P g.labels)->P s.labels->∀g∈Kco out s,P g.labels):=by
   unfold Kco
   split
   .exact Kso P s out
   .exact ⟨by omega,by omega,fun h _=>h⟩
  rw[List.foldl_cons,Kbq,dH];exact⟨by omega,by omega,fun h hl=>i3 (hs.2.2 h (hl s dC)) fun x hx=>hl x (dz _ hx)⟩
theorem Khg (l:List Ser):(Kae l).length<=l.length:=by have:=(Kgr (fun _=>True) l []).1;unfold Kae;simpa using this
theorem Kfd (l:List Ser):sumS (Kae l)<=sumS l:=by have:=(Kgr (fun _=>True) l []).2.1;unfold Kae;simpa[sumS]using this
theorem Kec (P:List Lb->Prop) (l:List Ser) (h:∀s∈l,P s.labels):∀g∈Kae l,P g.labels:=(Kgr P l []).2.2 (fun g hg=>by simp at hg) h
theorem Khm {l:List Ser}{s:Ser}(h:s∈l):s.samples.length+s.windows.length<=sumS l:=by
 induction l with
 | nil=>simp at h
 | cons x l ih=>
  rw[Kbq];rcases di.1 h with q | q
  .rw[q];omega
  .have:=ih q;omega
theorem Koy {w:World}{A:Option Addr}{n:Nat}{l:List Ser}(h:Sers w A n (Kae l)) (hz:∀s∈l,s.labels.length<=1099511627776) (hl:l.length<=274877906944) (hs:sumS l<=137438953472):SersZ w A n (Kae l):=by
 have hn:(Kae l).length=n:=by obtain⟨hs0,_,h2,_⟩:=h;exact h2
 refine⟨h,fun s hm=>⟨Kec (fun L=>L.length<=1099511627776) l hz s hm,?_,?_⟩,by have:=Khg l;omega⟩
 .have h1:=Khm hm;have h2:=Kfd l;omega
 .have h1:=Khm hm;have h2:=Kfd l;omega
end
section
open Go.RowKit Go.Maps Go.Sort
def HRi (v:Value):Option (DataW Value×List MemPlace):=some (.held v,[])
def IMap (P:Program) (K:TypeId) (w:World) (b:Nat) (f:Int->Option Int):Prop:=
 ∃D:DataW Value,w.ownsMap P K HRi b (ea D) D/\(∀x,ec D (.int .i64 x)=(f x).isSome)/\∀x v,f x=some v->∀z,D.atKey (.int .i64 x) z = .held (.int .i64 v)
def updI (f:Int->Option Int) (x v:Int):Int->Option Int:=fun y=>if y=x then some v else f y
theorem Kig:∀(l L:List Int),l.Nodup->(∀x∈l,x∈L)->l.length<=L.length
 | [],_,_,_=>by simp
 | a :: l,L,hn,h=>by have ha:=List.nodup_cons.1 hn;have:=Kig l (L.erase a) ha.2 (fun x hx=>(List.mem_erase_of_ne (fun e:x=a=>ha.1 (by rw[<-e];exact hx))).2 (h x (by simp[hx])));rw[List.length_erase_of_mem (h a (by simp))]at this;have h0:0<L.length:=List.length_pos_of_mem (h a (by simp));simp only[dH];omega
def Kvl:Lit->Int
 | .int _ x=>x
 | _=>0
section
variable {P : Program}{K T E : TypeId}{w w' : World}{b : Nat}{f : Int -> Option Int}
theorem Kyu {n:Nat}{D:DataW Value}(h:w.ownsMap P K HRi b n D):w.ownsMap P K HRi b (ea D) D:=by obtain⟨es,aa,hb,F,hs,rfl⟩:=h;exact⟨es,aa,hb,F,by simp[ea,length_sorted],rfl⟩
theorem IMap.lt (h:IMap P K w b f):b<w.heap.size:=by obtain⟨D,h,_⟩:=h;exact h.lt
theorem IMap.grown {row:Option Nat}(h:IMap P K w b f) (hg:w.grownBy w' row) (hne:some b≠row):IMap P K w' b f:=by obtain⟨D,h1,h2⟩:=h;exact⟨D,h1.kept hg hne,h2⟩
theorem IMap.made (w:World):IMap P K (w.alloc (.map #[] 0)) w.heap.size fun _=>none:=
 ⟨.map [],World.ownsMap_made w P K HRi,fun x=>rfl,fun x v h=>by cases h⟩
theorem IMap.size_le (hK:P.underlying K=some (.int .i64)) {D:DataW Value}{n:Nat}(h:w.ownsMap P K HRi b n D) (L:List Int) (hL:∀x,ec D (.int .i64 x)=true->x∈L):ea D<=L.length:=by
 obtain⟨es,rfl,ad⟩:=h.tidy (int_keyed hK);obtain⟨es0,ac,_,F,_,e'⟩:=h;injection e' with e'
 have aa:∀p∈es,∃x,p.1 = .int .i64 x:=fun p hp=>by rw[e']at hp;obtain⟨v,hv⟩:=fit_keys F p (mem_sorted.1 hp);obtain⟨x,_,hx,_⟩:=eb hK hv;exact⟨x,hx⟩
 rw[size_eq]
 have ae:(es.map fun p=>Kvl p.1).Nodup:=by refine List.pairwise_map.2 (ad.imp_of_mem fun {p q} hp' hq' hne e=>hne ?_);obtain⟨a,ha⟩:=aa p hp';obtain⟨b,hb⟩:=aa q hq';rw[ha,hb]at e |-;exact jR _ e
 have ab:∀x∈es.map (fun p=>Kvl p.1),x∈L:=by intro x hx;obtain⟨p,hp,rfl⟩:=List.mem_map.1 hx;obtain⟨a,ha⟩:=aa p hp;apply hL;rw[has_eq,dm];exact⟨p,hp,by rw[ha];simp[Kvl,ey]⟩
 have:=Kig _ L ae ab;simpa using this
theorem wfI {x:Int}(h0:-9223372036854775808<=x) (h1:x<9223372036854775808):(ew .i64 x).wf=true:=by have e1:em.min = -9223372036854775808:=rfl;have e2:em.max=9223372036854775807:=rfl;simp only[Lit.wf,dc,jH];omega
theorem IMap.look (h:IMap P K w b f) (hK:P.underlying K=some (.int .i64)) (ht:P.underlying T=some (.map K E)) (hz:(zeroValue E).run P w = .ok (.int .i64 0) w) {x:Int}(hx:(ew .i64 x).wf=true) :
  (Instr.lookup T (.map (some b)) (.int .i64 x) false).run P w = .ok (.int .i64 ((f x).getD 0)) w:=by
 obtain⟨D,h1,h2,h3⟩:=h;obtain⟨v,ps,aa,hv⟩:=h1.lookup (int_keyed hK) ht hz (zd:=.held (.int .i64 0)) (zp:=[]) rfl (keyOf_int_mk hK hx);rw[aa];congr 1
 have e:DataW.held v=D.atKey (.int .i64 x) (.held (.int .i64 0)):=by have:some (DataW.held v,([]:List MemPlace))=some (D.atKey (.int .i64 x) (.held (.int .i64 0)),ps):=hv;injection this with this;injection this
 cases hf:f x with
 | none=>
  have hh:=h2 x;rw[hf]at hh;rw[atKey_of_not_has hh]at e;injection e
 | some u=>
  rw[h3 _ u hf]at e;injection e
theorem IMap.put (h:IMap P K w b f) (hK:P.underlying K=some (.int .i64)) (ht:P.underlying T=some (.map K E)) {x:Int}(hx:(ew .i64 x).wf=true) (v:Int) (L:List Int) (hL:∀x,(f x).isSome=true->x∈L) (hn:L.length<maxLen) :
  ∃w1,(Instr.mapUpdate T (.map (some b)) (.int .i64 x) (.int .i64 v)).run P w = .ok () w1/\IMap P K w1 b (updI f x v)/\w.grownBy w1 (some b)/\w1.heap.size=w.heap.size:=by
 obtain⟨D,h1,h2,h3⟩:=h;have hsz:=IMap.size_le hK h1 L (fun x hx=>hL x (by rw[<-h2];exact hx));obtain⟨w1,ad,ac,aa⟩:=h1.store (int_keyed hK) ht (by omega) (kl:=.int .i64 x) (keyOf_int_mk hK hx) (val:=.int .i64 v) (d:=.held (.int .i64 v)) (ps:=[]) rfl;refine⟨w1,ad,⟨_,Kyu ac,fun y=>?_,fun y u hu z=>?_⟩,aa.grown,?_⟩
 .unfold updI
  by_cases e:y=x
  .subst e;rw[has_put_same (k:=.int .i64 _) h1.isMap trivial,jN rfl];rfl
  .rw[has_put_other (by intro h;injection h with _ h;exact e h),jM e,h2]
 .unfold updI at hu
  by_cases e:y=x
  .subst e;rw[jN rfl]at hu;injection hu with hu;rw[atKey_put_same (k:=.int .i64 _) h1.isMap trivial,hu]
  .rw[jM e]at hu;rw[atKey_put_other (by intro h;injection h with _ h;exact e h)];exact h3 y u hu z
 .obtain ⟨es,ae,es',ab,_,rfl⟩:=aa;simp[ChangeMaps.setBlock]
end
section
variable {P : Program}{K T E : TypeId}(w : World) {ops : Array Oper}{rest : List Oper}{o : Oper}{a : Act}{Q : Exit -> Act -> World -> Prop}{b : Nat}{f : Int -> Option Int}
theorem Kmh (hg:o.guard=none) (m x:Operand) (hop:o.op=Op.lookup T m x false) (hK:P.underlying K=some (.int .i64)) (ht:P.underlying T=some (.map K E)) (hz:(zeroValue E).run P w = .ok (.int .i64 0) w)
  (hm:a.eval m = .map (some b)) (h:IMap P K w b f) {k:Int} (hx:a.eval x = .int .i64 k) (hs:(ew .i64 k).wf=true)
  (hQ:wpList P ops Q rest (a.put o.dst (.int .i64 ((f k).getD 0))) w):wpList P ops Q (o :: rest) a w:=by
 refine wpList_plain hg fun K' hK'=>?_
 have:=h.look hK ht hz hs;unfold Oper.wp;simp[execOp,hop,hm,hx,this,eA];exact hK' _ _ hQ
theorem Knk (hg:o.guard=none) (m x v:Operand) (hop:o.op=Op.mapUpdate T m x v) (hK:P.underlying K=some (.int .i64)) (ht:P.underlying T=some (.map K E))
  (hm:a.eval m = .map (some b)) (h:IMap P K w b f) {k:Int} (hx:a.eval x = .int .i64 k) (hs:(ew .i64 k).wf=true) (u:Int) (hv:a.eval v = .int .i64 u) (L:List Int) (hL:∀x,(f x).isSome=true->x∈L) (hn:L.length<maxLen)
  (hQ:∀w1,IMap P K w1 b (updI f k u)->w.grownBy w1 (some b)->w1.heap.size=w.heap.size->wpList P ops Q rest (a.put o.dst undef) w1):wpList P ops Q (o :: rest) a w:=by
 refine wpList_plain hg fun K' hK'=>?_
 obtain⟨w1,aa,h1,h2,h3⟩:=h.put hK ht hs u L hL hn;unfold Oper.wp;simp[execOp,hop,hm,hx,hv,aa,eA];exact hK' _ _ (hQ w1 h1 h2 h3)
end
end
section
open Go.Shelf Go.RowKit Go.Lib Go.Sort Go.Maps
open Lib renaming hid -> Jh
attribute [local go_sem ↓] Go.wp_at_zero Go.wp_at_succ
attribute [local go_sem] Later.cell
section
def Kbp (t width:Int):Int×Int:=if width<1\/1099511627776<width then (0,100) else if t<0\/1125899906842624<t then (0,91) else (t - t % width,0)
def inT (t:Int):Bool:=decide (0<=t) && decide (t<=1125899906842624)
theorem Kix {t:Int}:inT t=true↔0<=t/\t<=1125899906842624:=by unfold inT;rw[dc,jH,jH]
theorem Kmk (t width:Int) (h:0<=t) (h':1<=width):0<=t % width/\t % width<=t:=by refine⟨Int.emod_nonneg _ (by omega),?_⟩;have h1:=Int.emod_add_mul_ediv t width;have h2:0<=width*(t / width):=Int.mul_nonneg (by omega) (Int.ediv_nonneg h (by omega));omega
theorem Kfx (t width:Int) (w:World) :
  Calls prog 49 #[.int .i64 t,.int .i64 width] w fun e w'=>e = .returned (.tuple #[.int .i64 (Kbp t width).1,.int .i64 (Kbp t width).2])/\w'=w:=by
 by_cases h1:width<1
 .have hf:Hid (Kbp t width=(0,100)):=by show _=_;rw[Kbp,jN (by omega)]
  go_enter func49,ntmps49
  go_wp2
  go_ret2
  exact⟨ret2 (vi (by rw[hf.out])) (vi (by rw[hf.out])),rfl⟩
 by_cases h2:1099511627776<width
 .have hf:Hid (Kbp t width=(0,100)):=by show _=_;rw[Kbp,jN (by omega)]
  go_enter func49,ntmps49
  go_wp2
  go_ret2
  exact⟨ret2 (vi (by rw[hf.out])) (vi (by rw[hf.out])),rfl⟩
 by_cases h3:t<0
 .have hf:Hid (Kbp t width=(0,91)):=by show _=_;rw[Kbp,jM (by omega),jN (by omega)]
  go_enter func49,ntmps49
  go_wp2
  go_ret2
  exact⟨ret2 (vi (by rw[hf.out])) (vi (by rw[hf.out])),rfl⟩
 by_cases h4:1125899906842624<t
 .have hf:Hid (Kbp t width=(0,91)):=by show _=_;rw[Kbp,jM (by omega),jN (by omega)]
  go_enter func49,ntmps49
  go_wp2
  go_ret2
  exact⟨ret2 (vi (by rw[hf.out])) (vi (by rw[hf.out])),rfl⟩
 .obtain ⟨hm1,hm2⟩:=Kmk t width (by omega) (by omega);have hf:Hid (Kbp t width=(t - t % width,0)):=by show _=_;rw[Kbp,jM (by omega),jM (by omega)]
  go_enter func49,ntmps49
  go_wp2
  go_ret2
  exact⟨ret2 (vi (by rw[hf.out])) (vi (by rw[hf.out])),rfl⟩
def Koe (s:Ser):List Int:=s.samples.map ev++s.windows.map ep
def Kau (l:List Ser):List Int:=l.flatMap Koe
def Kcc (width:Int) (ts:List Int):List Int:=(ts.filter inT).map fun t=>t - t % width
theorem Kfl (l:List Ser):(Kau l).length=sumS l:=by
 induction l with
 | nil=>rfl
 | cons x l ih=>
  rw[Kbq,<-ih];unfold Kau Koe;simp[List.length_flatMap];omega
theorem Kzj (l:List Ser) (s:Ser):Kau (l ++ [s])=Kau l++s.samples.map ev++s.windows.map ep:=by unfold Kau Koe;simp[dt]
theorem Keu (width:Int) (ts:List Int):(Kcc width ts).length<=ts.length:=by unfold Kcc;rw[dv];exact dL _ _
structure Kfn (width:Int) (ts L:List Int):Prop where
 asc:L.Pairwise fun a b=>a<b
 mem:∀x,x∈L↔x∈Kcc width ts
def Kba (width:Int) (f:Int->Option Int) (ts:List Int):Prop:=∀x,(f x).isSome=true↔x∈Kcc width ts
theorem Kba.nil (width:Int):Kba width (fun _=>none) []:=fun x=>by simp[Kcc]
theorem Kba.add {width:Int}{f:Int->Option Int}{ts:List Int}(h:Kba width f ts) {t:Int}(ht:inT t=true) (u:Int):Kba width (updI f (t - t % width) u) (ts ++ [t]):=fun x=>by
 unfold updI;have e:Kcc width (ts ++ [t])=Kcc width ts ++ [t - t % width]:=by unfold Kcc;rw[dd,da];simp[ht]
 rw[e,dK,dD]
 by_cases hx:x=t - t % width
 .rw[jN hx];simp[hx]
 .rw[jM hx,h x];simp[hx]
theorem Kba.skip {width:Int}{f:Int->Option Int}{ts:List Int}(h:Kba width f ts) {t:Int}(ht:inT t=false):Kba width f (ts ++ [t]):=fun x=>by
 have e:Kcc width (ts ++ [t])=Kcc width ts:=by unfold Kcc;rw[dd,da];simp[ht]
 rw[e];exact h x
theorem Qak:∀{l:List Ser}{i:Nat}{s:Ser},l[i]? = some s->sumS (l.take i)+(s.samples.length+s.windows.length)<=sumS l
 | [],i,s,h=>by simp at h
 | x :: l,0,s,h=>by simp only[c8,eB]at h;subst h;rw[Kbq];simp[sumS]
 | x :: l,i+1,s,h=>by have:=Qak (l:=l) (i:=i) (s:=s) (by simpa using h);rw[cT,Kbq,Kbq];omega
def encZ1 (x:Int):List Value:=[.int .i64 x]
theorem Qdo (l:List Int):l.flatMap encZ1=l.map (eh .i64):=by
 induction l with
 | nil=>rfl
 | cons x l ih=>rw[List.flatMap_cons,ih];rfl
theorem Qfk (w:World):(zeroValue 3).run prog w = .ok (.int .i64 0) w:=by kernel_rfl
theorem Qdw:(prog.info? 2).map (fun i=>(i.zero,i.size,i.bytes))=some (some (.int .i64 0),1,8):=by kernel_rfl
theorem hK64:prog.underlying 2 = some (.int .i64):=underlying2
theorem hT64:prog.underlying 216 = some (.map 2 3):=underlying216
theorem Qjh {w:World}{base g cap n:Nat}{l:List Int}(h:w.ownsRow base 2 1 (.slice (some ⟨g,0,none⟩) n cap) n (l.map (eh .i64))) (hn:l.length=n):Holds (eh .i64) w g 0 l.toArray/\∃cur,w.heap[g]? = some (.cells cur 2 (0,0))/\n<=cap/\cap<=maxLen/\cur.size=cap*1:=by
 rcases h.2 with ⟨he,_⟩ | ⟨g',cap',cur,he,h1,h2,h3,h4,h5,h6⟩
 .cases he
 .injection he with he _ hcc;injection he with he;injection he with he _ _;subst he hcc;refine⟨fun t ht=>?_,cur,h2,h3,h4,h5⟩;have aa:t<l.length:=by simpa using ht
  refine⟨?_,by simp[World.frozen?,h2]⟩;rw[Nat.zero_add,cell_of_row w g t cur _ (0,0) h2]
  have e1:cur[t]? = (l.map (eh .i64))[t]?:=by rw[<-h6,List.getElem?_take_of_lt (by rw[Nat.mul_one,<-hn];exact aa)];simp
  rw[e1];simp[aa]
theorem Kws (width:Int) (hw:1<=width/\width<=1099511627776) (A:Option Addr) (n c:Nat) (ss:List Ser) (w0:World) (h:SersZ w0 A n ss) (hsum:sumS ss<=137438953472) :
  Calls prog 50 #[.int .i64 width,.slice A n c] w0 fun e w'=>∃(A':Option Addr) (n' c':Nat) (L:List Int),e = .returned (.slice A' n' c')/\Kfn width (Kau ss) L/\L.length=n'/\Elems w' w'.heap.size 1 encZ1 A' n' L/\n'<=c'/\Below w0.heap.size w0 w':=by
 obtain⟨ib,b3,b4,bJ,aB⟩:=info_parts Qdw;obtain⟨b1,hE,bW,bI⟩:=h.s;have hn:=h.n;have HE:=Jh hE;have bR:=Jh bW;have cb:=Jh bI;have HZ:=Jh h.z;have aH:=Jh hsum;obtain⟨b,hb⟩:=jF w0.heap.size;have aC:Hid (w0.heap.size=b):=hb;clear hE bW bI h hsum;have a3:=@run_makeMap prog;go_enter func50,ntmps50
 go_upto_region 2 with fail
 clear a3;obtain⟨wa,bi⟩:=jG (w0.alloc (.map #[] 0));have HM:Hid (IMap prog 2 wa b (fun _=>none)):=by show IMap _ _ _ _ _;rw[bi,<-hb];exact IMap.made w0
 have HB:Hid (Below b w0 wa):=by show Below _ _ _;rw[bi,<-hb];exact(Below.refl _ _).alloc (cN _) _
 have HK:Hid (Kba width (fun _=>none) (Kau (ss.take 0))):=Kba.nil width;rw[<-bi]
 try rw[hb]
 clear bi hb;go_wp2_with fail
 go_loopg [21] n (fun kx s21 wr=>∃(i:Nat) (f:Int->Option Int),s21 = .int .i64 (i:Int)/\i+kx=n/\Hid (Below b w0 wr)/\Hid (IMap prog 2 wr b f)/\Hid (Kba width f (Kau (ss.take i))))
 case atStart=>exact⟨0,_,rfl,by omega,HB,HM,HK⟩
 case round=>
  clear HB HM HK;obtain⟨i,f,rfl,hi,HB,HM,HK⟩:=hrel;rcases de i n with hlt | hge
  .have a9:(i:Int)<(n:Int):=by omega
   obtain⟨b0,ai,cf,bx,bd⟩:=HE.out.2 (by omega);have be:=HE.out.len;obtain⟨h,hh⟩:∃h,b1[i]? = some h:=⟨b1[i]'(by omega),cX _⟩;obtain⟨s,bl⟩:∃s,ss[i]! = s:=⟨_,rfl⟩;have aw:=cb.out i h hh;rw[bl]at aw;have bF:ss[i]? = some s:=by rw[<-bl,jI ss i (by rw[bR.out];exact hlt)];exact cX _
   have b9:Hid (Kau (ss.take (i+1))=Kau (ss.take i)++s.samples.map ev++s.windows.map ep):=by
    show _=_
    rw[cR,bF];exact Kzj _ _
   have aT:Hid (sumS (ss.take i)+(s.samples.length+s.windows.length)<=137438953472):=dw (Qak bF) aH.out;have aa:∀r v,r<3->(encH3 h)[r]? = some v->wr.cell? ⟨b0,ai+i*3+r,none⟩=some v:=fun r v _ hv=>(HB.out.cell (p:=⟨b0,ai+i*3+r,none⟩) (by rw[<-aC.out];exact bx)).trans (bd i h hh r v hv)
   have bo:b0<wr.heap.size:=Nat.lt_trans (by rw[<-aC.out];exact bx) HM.out.lt;subst cf;obtain⟨lA,b2⟩:=jG h.l.A;obtain⟨ln,bQ⟩:=jG h.l.n;obtain⟨lc,bM⟩:=jG h.l.c;obtain⟨sA,br⟩:=jG h.s.A;obtain⟨sn,bD⟩:=jG h.s.n;obtain⟨sc,bZ⟩:=jG h.s.c;obtain⟨wA,bC⟩:=jG h.w.A;obtain⟨wn,bs⟩:=jG h.w.n;obtain⟨wc,bH⟩:=jG h.w.c;have k0:wr.cell? ⟨b0,ai+i*3,none⟩=some (.slice lA ln lc):=by rw[b2,bQ,bM];exact aa 0 _ (by decide) rfl
   have k1:wr.cell? ⟨b0,ai+i*3+1,none⟩=some (.slice sA sn sc):=by rw[br,bD,bZ];exact aa 1 _ (by decide) rfl
   have k2:wr.cell? ⟨b0,ai+i*3+2,none⟩=some (.slice wA wn wc):=by rw[bC,bs,bH];exact aa 2 _ (by decide) rfl
   have bB:Hid (Elems w0 w0.heap.size 2 Kac sA sn s.samples):=by show Elems _ _ _ _ _ _ _;rw[br,bD];exact aw.s
   have bv:Hid (Elems w0 w0.heap.size 6 Kad wA wn s.windows):=by show Elems _ _ _ _ _ _ _;rw[bC,bs];exact aw.w
   have hls:=bB.out.len;have hlw:=bv.out.len;have hsz:sn<=137438953472/\wn<=137438953472:=by have:=aT.out;omega
   clear bd be hh bl aw bF aa bx b2 bQ bM br bD bZ bC bs bH;go_upto_region 5 with fail
   obtain⟨wx,a5⟩:=jG (wr.alloc (.cells #[.slice lA ln lc,.slice sA sn sc,.slice wA wn wc] 58));obtain⟨p1,bc⟩:=jG wr.heap.size;have bK:Hid (b<p1):=by show _ < _;rw[bc];exact HM.out.lt
   have ah:Hid (Blk wx p1 58 #[.slice lA ln lc,.slice sA sn sc,.slice wA wn wc]):=by show Blk _ _ _ _;rw[a5,bc];exact ed _ _ _
   have bN:Hid (Below b w0 wx):=by show Below _ _ _;rw[a5];exact HB.out.alloc (dl HM.out.lt) _
   have bT:Hid (IMap prog 2 wx b f):=by show IMap _ _ _ _ _;rw[a5];exact HM.out.grown (dZ wr _ none) (by simp)
   rw[<-a5,<-bc];have l1:=ah.out.cell 1;simp at l1;have bz:=ah.out.lt;clear a5 bc HB HM k0 k1 k2 bo;go_wp2_with fail
   clear l1 bz;have HB:=bN;have HM:=bT;clear bN bT;go_loopg [28] sn (fun kx sj wr=>∃(j:Nat) (f:Int->Option Int),sj = .int .i64 (j:Int)/\j+kx=sn/\Hid (Below b w0 wr)/\Hid (Blk wr p1 58 #[.slice lA ln lc,.slice sA sn sc,.slice wA wn wc])/\Hid (IMap prog 2 wr b f)/\Hid (Kba width f (Kau (ss.take i)++(s.samples.take j).map ev)))
   case atStart=>exact⟨0,f,rfl,by omega,HB,ah,HM,(show Kba _ _ _ by have:=HK.out;simpa using this)⟩
   case round=>
    clear HB ah HM HK;clear f;obtain⟨j,f,rfl,hj,HB,ah,HM,HK⟩:=hrel;rcases de j sn with hlt | hge
    .have a9:(j:Int)<(sn:Int):=by omega
     obtain⟨bb,ae,hA,aL,hc⟩:=bB.out.2 (by omega);have hl:=bB.out.len;obtain⟨y,hy⟩:∃y,s.samples[j]? = some y:=⟨s.samples[j]'(by omega),cX _⟩;have aa:∀r v,r<2->(Kac y)[r]? = some v->wr.cell? ⟨bb,ae+j*2+r,none⟩=some v:=fun r v _ hv=>(HB.out.cell (p:=⟨bb,ae+j*2+r,none⟩) (by rw[<-aC.out];exact aL)).trans (hc j y hy r v hv)
     have aQ:Hid (Kau (ss.take i)++(s.samples.take (j+1)).map ev=(Kau (ss.take i)++(s.samples.take j).map ev) ++ [ev y]):=by
      show _=_
      rw[cR,hy,da,<-dE];rfl
     have aM:Hid ((Kau (ss.take i)++(s.samples.take j).map ev).length<=137438953472):=by
      show _<=_
      have h1:=aT.out;rw[<-Kfl]at h1;simp only[cQ,dv,dG];omega
     subst hA;obtain⟨y1,y2⟩:=y;dsimp only at aQ;have k0:wr.cell? ⟨bb,ae+j*2,none⟩=some (.int .i64 y1):=aa 0 _ (by decide) rfl;have k1:wr.cell? ⟨bb,ae+j*2+1,none⟩=some (.int .u64 (y2:Int)):=aa 1 _ (by decide) rfl;have aI:bb<wr.heap.size:=cO aL (by rw[aC.out];exact dw (dl HM.out.lt) (cN _));clear hc hl aa hy aL;go_upto_region 8 with fail
     obtain⟨wb,an⟩:=jG (wr.alloc (.cells #[.int .i64 y1,.int .u64 (y2:Int)] 102));obtain⟨p3,aU⟩:=jG wr.heap.size;have aK:Hid (Blk wb p3 102 #[.int .i64 y1,.int .u64 (y2:Int)]):=by show Blk _ _ _ _;rw[an,aU];exact ed _ _ _
     have aG:wr.grownBy wb none:=by rw[an];exact dZ wr _ none
     have aF:Hid (Below b w0 wb):=by show Below _ _ _;rw[an];exact HB.out.alloc (dl HM.out.lt) _
     have aR:Hid (Blk wb p1 58 #[.slice lA ln lc,.slice (some ⟨bb,ae,none⟩) sn sc,.slice wA wn wc]):=ah.out.grown aG (by simp);have aq:Hid (IMap prog 2 wb b f):=HM.out.grown aG (by simp);rw[<-an,<-aU];have q0:=aK.out.cell 0;simp at q0;have aJ:=aK.out.lt;clear an aU aG HB ah HM aI k0 k1;obtain⟨z,hz⟩:=jG ((Kbp y1 width).1);obtain⟨er,ar⟩:=jG ((Kbp y1 width).2)
     have av:Hid (∀W,Calls prog 49 #[.int .i64 y1,.int .i64 width] W fun e w'=>e = .returned (.tuple #[.int .i64 z,.int .i64 er])/\w'=W):=fun W=>by rw[hz,ar];exact Kfx y1 width W
     cases hin:inT y1 with
     | false=>
      obtain rfl:er=91:=by
       have h1:=hin;rw[ar,Kbp,jM (by omega),jN];refine eC fun hq=>?_
       rw[Kix.2 (by omega)]at h1;cases h1
      have ak:Hid (Kba width f (Kau (ss.take i)++(s.samples.take (j+1)).map ev)):=by show Kba _ _ _;rw[aQ.out];exact HK.out.skip hin
      clear hz ar hin HK;go_wp2_with fail
      refine(av.out wb).mono ?_;rintro _ w5 ⟨rfl,rfl⟩;go_wp2_with fail
      go_roundg (sn - (j+1))
      case measure=>omega
      case rel=>exact⟨j+1,f,by first | rfl | go_num,by omega,aF,aR,aq,ak⟩
     | true=>
      have aN:=Kix.1 hin;have aP:Kbp y1 width=(y1 - y1 % width,0):=by rw[Kbp,jM (by omega),jM (by omega)]
      obtain rfl:er=0:=by rw[ar,aP]
      obtain rfl:z=y1 - y1 % width:=by rw[hz,aP]
      have a3:=Kmk y1 width (by omega) (by omega);have aS:(ew .i64 (y1 - y1 % width)).wf=true:=wfI (by omega) (by omega);have ak:Hid (∀u,Kba width (updI f (y1 - y1 % width) u) (Kau (ss.take i)++(s.samples.take (j+1)).map ev)):=fun u=>by rw[aQ.out];exact HK.out.add hin u
      obtain⟨z,aB⟩:=jG (y1 - y1 % width);rw[<-aB]at av ak aS;clear hz ar hin aN aP a3 aB;have ba:=Jh aS;clear aS;go_wp2_with fail
      refine(av.out wb).mono ?_;rintro _ w5 ⟨rfl,rfl⟩;clear av q0 aJ aK
      go_wp2_with (first
       | (at_lookup;refine Kmh (T:=216) _ rfl _ _ rfl hK64 hT64 (Qfk _) rfl aq.out rfl ba.out ?_)
       | (at_mapUpdate;refine Knk _ rfl _ _ _ rfl hK64 hT64 rfl aq.out rfl ba.out _ rfl (Kcc width (Kau (ss.take i)++(s.samples.take j).map ev)) (fun x hx=>(HK.out x).1 hx) (by have h1:=Keu width (Kau (ss.take i)++(s.samples.take j).map ev);have h2:=aM.out;unfold maxLen;omega) ?_;intro w6 hI6 hg6 hs6))
      have ab:∀k,some b=some k->b<=k:=fun k hk=>by injection hk with hk;omega
      have bE:Hid (Below b w0 w6):=aF.out.grown hg6 (dl aq.out.lt) ab;have bt:Hid (Blk w6 p1 58 #[.slice lA ln lc,.slice (some ⟨bb,ae,none⟩) sn sc,.slice wA wn wc]):=aR.out.grown hg6 (fun e=>by injection e with e;have:=bK.out;omega);obtain⟨u6,a7⟩:∃u,IMap prog 2 w6 b (updI f z u):=⟨_,hI6⟩;have bw:=Jh a7;have bk:=Jh (ak.out u6);clear hI6 a7 hg6 hs6 ab aF aR aq HK ak;go_wp2_with fail
      go_roundg (sn - (j+1))
      case measure=>omega
      case rel=>exact⟨j+1,_,by first | rfl | go_num,by omega,bE,bt,bw,bk⟩
    .have a9:¬(j:Int)<(sn:Int):=by omega
     have aV:Hid (Kba width f (Kau (ss.take i)++s.samples.map ev)):=by
      show Kba _ _ _
      have h1:=HK.out;rw[cP (show s.samples.length<=j by omega)]at h1;exact h1
     have l2:=ah.out.cell 2;simp at l2;have bz:=ah.out.lt;clear HK;have HK:=aV;clear aV;go_wp2_with fail
     clear l2 bz;go_loopg [49] wn (fun kx sj wr=>∃(j:Nat) (f:Int->Option Int),sj = .int .i64 (j:Int)/\j+kx=wn/\Hid (Below b w0 wr)/\Hid (Blk wr p1 58 #[.slice lA ln lc,.slice sA sn sc,.slice wA wn wc])/\Hid (IMap prog 2 wr b f)/\Hid (Kba width f ((Kau (ss.take i)++s.samples.map ev)++(s.windows.take j).map ep)))
     case atStart=>exact⟨0,f,rfl,by omega,HB,ah,HM,(show Kba _ _ _ by have:=HK.out;simpa using this)⟩
     case round=>
      clear HB ah HM HK;clear f;obtain⟨j,f,rfl,hj,HB,ah,HM,HK⟩:=hrel;rcases de j wn with hlt | hge
      .have a9:(j:Int)<(wn:Int):=by omega
       obtain⟨bb,ae,hA,aL,hc⟩:=bv.out.2 (by omega);have hl:=bv.out.len;obtain⟨y,hy⟩:∃y,s.windows[j]? = some y:=⟨s.windows[j]'(by omega),cX _⟩;have aa:∀r v,r<6->(Kad y)[r]? = some v->wr.cell? ⟨bb,ae+j*6+r,none⟩=some v:=fun r v _ hv=>(HB.out.cell (p:=⟨bb,ae+j*6+r,none⟩) (by rw[<-aC.out];exact aL)).trans (hc j y hy r v hv)
       have aQ:Hid ((Kau (ss.take i)++s.samples.map ev)++(s.windows.take (j+1)).map ep=((Kau (ss.take i)++s.samples.map ev)++(s.windows.take j).map ep) ++ [ep y]):=by
        show _=_
        rw[cR,hy,da,<-dE];rfl
       have aM:Hid (((Kau (ss.take i)++s.samples.map ev)++(s.windows.take j).map ep).length<=137438953472):=by
        show _<=_
        have h1:=aT.out;rw[<-Kfl]at h1;simp only[cQ,dv,dG];omega
       subst hA;obtain⟨y1,y2,y3,y4,y5,y6⟩:=y;dsimp only at aQ;have k0:wr.cell? ⟨bb,ae+j*6,none⟩=some (.int .i64 y1):=aa 0 _ (by decide) rfl;have k1:wr.cell? ⟨bb,ae+j*6+1,none⟩=some (.int .i64 y2):=aa 1 _ (by decide) rfl;have k2:wr.cell? ⟨bb,ae+j*6+2,none⟩=some (.int .u64 (y3:Int)):=aa 2 _ (by decide) rfl;have k3:wr.cell? ⟨bb,ae+j*6+3,none⟩=some (.int .u64 (y4:Int)):=aa 3 _ (by decide) rfl;have k4:wr.cell? ⟨bb,ae+j*6+4,none⟩=some (.int .u64 (y5:Int)):=aa 4 _ (by decide) rfl;have k5:wr.cell? ⟨bb,ae+j*6+5,none⟩=some (.int .u64 (y6:Int)):=aa 5 _ (by decide) rfl;have aI:bb<wr.heap.size:=cO aL (by rw[aC.out];exact dw (dl HM.out.lt) (cN _));clear hc hl aa hy aL;go_upto_region 15 with fail
       obtain⟨wb,an⟩:=jG (wr.alloc (.cells #[.int .i64 y1,.int .i64 y2,.int .u64 (y3:Int),.int .u64 (y4:Int),.int .u64 (y5:Int),.int .u64 (y6:Int)] 135));obtain⟨p3,aU⟩:=jG wr.heap.size;have aK:Hid (Blk wb p3 135 #[.int .i64 y1,.int .i64 y2,.int .u64 (y3:Int),.int .u64 (y4:Int),.int .u64 (y5:Int),.int .u64 (y6:Int)]):=by show Blk _ _ _ _;rw[an,aU];exact ed _ _ _
       have aG:wr.grownBy wb none:=by rw[an];exact dZ wr _ none
       have aF:Hid (Below b w0 wb):=by show Below _ _ _;rw[an];exact HB.out.alloc (dl HM.out.lt) _
       have aR:Hid (Blk wb p1 58 #[.slice lA ln lc,.slice sA sn sc,.slice (some ⟨bb,ae,none⟩) wn wc]):=ah.out.grown aG (by simp);have aq:Hid (IMap prog 2 wb b f):=HM.out.grown aG (by simp);rw[<-an,<-aU];have q0:=aK.out.cell 0;simp at q0;have aJ:=aK.out.lt;clear an aU aG HB ah HM aI k0 k1 k2 k3 k4 k5;obtain⟨z,hz⟩:=jG ((Kbp y1 width).1);obtain⟨er,ar⟩:=jG ((Kbp y1 width).2)
       have av:Hid (∀W,Calls prog 49 #[.int .i64 y1,.int .i64 width] W fun e w'=>e = .returned (.tuple #[.int .i64 z,.int .i64 er])/\w'=W):=fun W=>by rw[hz,ar];exact Kfx y1 width W
       cases hin:inT y1 with
       | false=>
        obtain rfl:er=91:=by
         have h1:=hin;rw[ar,Kbp,jM (by omega),jN];refine eC fun hq=>?_
         rw[Kix.2 (by omega)]at h1;cases h1
        have ak:Hid (Kba width f ((Kau (ss.take i)++s.samples.map ev)++(s.windows.take (j+1)).map ep)):=by show Kba _ _ _;rw[aQ.out];exact HK.out.skip hin
        clear hz ar hin HK;go_wp2_with fail
        refine(av.out wb).mono ?_;rintro _ w5 ⟨rfl,rfl⟩;go_wp2_with fail
        go_roundg (wn - (j+1))
        case measure=>omega
        case rel=>exact⟨j+1,f,by first | rfl | go_num,by omega,aF,aR,aq,ak⟩
       | true=>
        have aN:=Kix.1 hin;have aP:Kbp y1 width=(y1 - y1 % width,0):=by rw[Kbp,jM (by omega),jM (by omega)]
        obtain rfl:er=0:=by rw[ar,aP]
        obtain rfl:z=y1 - y1 % width:=by rw[hz,aP]
        have a3:=Kmk y1 width (by omega) (by omega);have aS:(ew .i64 (y1 - y1 % width)).wf=true:=wfI (by omega) (by omega);have ak:Hid (∀u,Kba width (updI f (y1 - y1 % width) u) ((Kau (ss.take i)++s.samples.map ev)++(s.windows.take (j+1)).map ep)):=fun u=>by rw[aQ.out];exact HK.out.add hin u
        obtain⟨z,aB⟩:=jG (y1 - y1 % width);rw[<-aB]at av ak aS;clear hz ar hin aN aP a3 aB;have ba:=Jh aS;clear aS;go_wp2_with fail
        refine(av.out wb).mono ?_;rintro _ w5 ⟨rfl,rfl⟩;clear av q0 aJ aK
        go_wp2_with (first
         | (at_lookup;refine Kmh (T:=216) _ rfl _ _ rfl hK64 hT64 (Qfk _) rfl aq.out rfl ba.out ?_)
         | (at_mapUpdate;refine Knk _ rfl _ _ _ rfl hK64 hT64 rfl aq.out rfl ba.out _ rfl (Kcc width ((Kau (ss.take i)++s.samples.map ev)++(s.windows.take j).map ep)) (fun x hx=>(HK.out x).1 hx) (by have h1:=Keu width ((Kau (ss.take i)++s.samples.map ev)++(s.windows.take j).map ep);have h2:=aM.out;unfold maxLen;omega) ?_;intro w6 hI6 hg6 hs6))
        have ab:∀k,some b=some k->b<=k:=fun k hk=>by injection hk with hk;omega
        have bE:Hid (Below b w0 w6):=aF.out.grown hg6 (dl aq.out.lt) ab;have bt:Hid (Blk w6 p1 58 #[.slice lA ln lc,.slice sA sn sc,.slice (some ⟨bb,ae,none⟩) wn wc]):=aR.out.grown hg6 (fun e=>by injection e with e;have:=bK.out;omega);obtain⟨u6,a7⟩:∃u,IMap prog 2 w6 b (updI f z u):=⟨_,hI6⟩;have bw:=Jh a7;have bk:=Jh (ak.out u6);clear hI6 a7 hg6 hs6 ab aF aR aq HK ak;go_wp2_with fail
        go_roundg (wn - (j+1))
        case measure=>omega
        case rel=>exact⟨j+1,_,by first | rfl | go_num,by omega,bE,bt,bw,bk⟩
      .have a9:¬(j:Int)<(wn:Int):=by omega
       have b8:Hid (Kba width f (Kau (ss.take (i+1)))):=by
        show Kba _ _ _
        have h1:=HK.out;rw[cP (show s.windows.length<=j by omega),<-b9.out]at h1;exact h1
       go_wp2_with fail
       go_roundg (n - (i+1))
       case measure=>omega
       case rel=>exact⟨i+1,f,by first | rfl | go_num,by omega,HB,HM,b8⟩
  .have a9:¬(i:Int)<(n:Int):=by omega
   have aV:Hid (Kba width f (Kau ss)):=by
    show Kba _ _ _
    have h1:=HK.out;rw[cP (by rw[bR.out];omega)]at h1;exact h1
   obtain⟨D,ax,aO,_⟩:=HM.out;have a6:=Jh aO
   have hdz:ea D<=137438953472:=by
    have h1:=IMap.size_le hK64 ax (Kcc width (Kau ss)) fun x hx=>(aV.out x).1 (by rw[<-aO];exact hx)
    have h2:=Keu width (Kau ss);have h3:=aH.out;rw[Kfl]at h2;omega
   have bS:=HB;have aI:=ax.lt;clear HK HM HB aO hi hge;go_wp2_with (at_range;refine wpList_range_own _ rfl _ 216 rfl 2 3 (int_keyed hK64) hT64 HRi b (ea D) D rfl ax ?_;intro w1 hrg0 hg0 hsz0)
   obtain⟨r,hr⟩:=jF wr.heap.size;have bX:Below b w0 w1:=bS.out.grown hg0 (dl aI) (fun k hk=>by cases hk);have hrl:b<r:=by rw[<-hr];exact aI
   rw[hr]at hrg0 |-;clear hr hsz0 hg0 bS ax aI
   try go_frame
   obtain⟨wo,rfl⟩:=jG wr;go_loopg [16] (ea D) (fun g s16 wr=>∃(left:Lit->Bool) (cnt:Nat) (out:List Int) (v5:Value),v5=s16/\cnt<=g/\Hid (wr.ranges prog 2 HRi b r (ea D) D left cnt)/\Hid (wr.ownsRow (r+1) 2 1 v5 out.length (out.map (eh .i64)))/\Hid out.Nodup/\Hid (∀x,x∈out↔(f x).isSome=true/\left (.int .i64 x)=false)/\Hid (Below b w0 wr)/\out.length<=137438953472)
   case atStart=>
    refine⟨ec D,ea D,[],_,rfl,cN _,hrg0,(show Hid _ from ZZ _ _ _ _),List.nodup_nil,(show ∀x,_ from fun x=>?_),bX,by simp⟩;rw[a6.out x];cases (f x).isSome <;> simp
   case round=>
    clear hrg0 bX;obtain⟨left,cnt,out,v5,rfl,hcg,bg,ag,bA,aj,HB,b6⟩:=hrel;obtain⟨A5,c5,rfl⟩:=Kah ag.out;obtain⟨m,hm⟩:=jF out.length;have HM:=Jh hm;rw[hm]at ag b6 |-;clear hm;go_wp2_with (at_next;refine wpList_next_ranges _ rfl _ rfl 2 (int_keyed hK64) HRi (eh .i64) (fun v:Value=>v) (fun key kl hk=>by obtain⟨x,e,_⟩:=eb hK64 hk;exact⟨_,e⟩) (fun v _ _=>⟨v,rfl⟩) b r (ea D) D left cnt rfl bg.out ?_ ?_)
    .intro bd be;have b5:Hid (∀x,x∈out↔x∈Kcc width (Kau ss)):=fun x=>by rw[aj.out x,be,<-aV.out x];simp
     clear be bd aj bg
     by_cases hm0:m=0
     .subst hm0;obtain rfl:out = []:=cU HM.out;go_wp2_with fail
      refine(Tryz.slices_Sort_int_none A5 c5 wr).mono ?_;rintro e w3 ⟨rfl,rfl⟩;go_wp2_with fail
      go_ret
      exact⟨A5,0,c5,[],rfl,⟨List.Pairwise.nil,b5.out⟩,rfl,⟨rfl,fun h=>jS h (by omega)⟩,Nat.zero_le _,by rw[aC.out];exact HB.out⟩
     .obtain ⟨g,rfl⟩:∃g,A5=some ⟨g,0,none⟩:=by
       rcases ag.out.2 with ⟨h1,h2⟩ | ⟨g,cap,bq,h1,_⟩
       .exact jS h2 hm0
       .injection h1 with h1;exact⟨g,h1⟩
      have ac:=ag.out.lt g rfl;obtain⟨az,bq,af,aW,a1,ad⟩:=Qjh ag.out HM.out;have ao:=Tryz.slices_Sort_int g 0 c5 out wr az ac.2 (by rw[HM.out];omega);rw[HM.out]at ao;have HS:=Jh ao;have a0:=Jh (⟨af,aW,a1,ad,ac⟩:(wr.heap[g]? = some (.cells bq 2 (0,0))/\m<=c5/\c5<=maxLen/\bq.size=c5*1/\_));clear ao az af aW a1 ad ac;go_wp2_with fail
      refine HS.out.mono ?_;rintro e w3 ⟨rfl,q,os,bf⟩;obtain⟨af,aW,a1,ad,ac⟩:=a0.out;obtain⟨z,hz⟩:=jF (out.mergeSort (fun x y=>decide (x<=y)));rw[hz]at bf;have bh:z.length=out.length:=by rw[<-hz,List.length_mergeSort]
      have al:z.Perm out:=by rw[<-hz];exact List.mergeSort_perm out _
      have aZ:z.Pairwise fun a b=>a<b:=by
       have h1:z.Pairwise (fun a b=>a<=b):=by have:=List.pairwise_mergeSort (le:=fun x y:Int=>decide (x<=y)) (by intro a b c;simp;omega) (by intro a b;simp;omega) out;rw[hz]at this;simpa using this
       refine(h1.and ((al.nodup_iff).2 bA.out)).imp ?_;rintro a b ⟨h1,h2⟩;omega
      have ap:w3.ownsRow (r+1) 2 1 (.slice (some ⟨g,0,none⟩) m c5) m (z.map (eh .i64)):=by have:=ownsRow_sortedI (n:=q) (os:=os) (ss:=out) (ts:=z) (base:=r+1) (cap:=c5) bh ac.1 af (by rw[HM.out];exact aW) a1 ad;rw[<-bf,HM.out]at this;exact this
      have bY:wr.grownBy w3 (some g):=by rw[bf];exact grownBy_sortedI _
      have bV:Below b w0 w3:=HB.out.grown bY (by have:=ac.1;have:=ac.2;omega) (fun k hk=>by injection hk with hk;have:=ac.1;omega);rw[<-Qdo]at ap;obtain⟨A4,c4,e4,bO,ce,_⟩:=Elems.of_own (xs:=z) (enc:=encZ1) (fun _ _=>rfl) rfl ap (by rw[bh,HM.out]);injection e4 with e4 e5 e6;subst e4 e6
      have bj:Hid (∃(A':Option Addr) (n' c':Nat) (L:List Int),Ending.returned (ei (some ⟨g,0,none⟩) m c5)=Ending.returned (ei A' n' c')/\Kfn width (Kau ss) L/\L.length=n'/\Elems w3 w3.heap.size 1 encZ1 A' n' L/\n'<=c'/\Below w0.heap.size w0 w3):=
       ⟨some ⟨g,0,none⟩,m,c5,z,rfl,⟨aZ,fun x=>by rw[al.mem_iff];exact b5.out x⟩,by rw[bh,HM.out],bO,aW,by rw[aC.out];exact bV⟩
      clear bO ce ap bY bV af ad a1 aW ac aZ al bh hz bf HS a0;go_wp2_with fail
      go_ret
      exact bj.out
    .intro x cv kl y2 y3 w2 cnt2 hkx hlk hv hat2 hrg2 hlt hg2 hs2 hen;clear hs2 hv;obtain⟨k,e1,rfl,_⟩:=eb hK64 hkx;obtain rfl:x=k:=by injection e1
     have bL:(f x).isSome=true:=by rw[<-a6.out x];exact Maps.has_true_of_atKey hat2
     have bU:Hid (Below b w0 w2):=HB.out.grown hg2 (by have:=bg.out.lt;omega) (fun k hk=>by injection hk with hk;omega)
     have ay:Hid (w2.ownsRow (r+1) 2 1 (.slice A5 m c5) m (out.map (eh .i64))):=ag.out.kept hg2 (.inr fun e=>by
      have:=(ag.out.lt r e).1
      omega)
     have a2:x∉out:=by intro hm;have:=((aj.out x).1 hm).2;rw[hlk]at this;cases this
     have a4:Hid (out ++ [x]).Nodup:=by
      show List.Nodup _
      rw[ds];refine⟨bA.out,by simp,?_⟩;intro p hpo q hq;simp at hq;subst hq;intro e;exact a2 (e▸hpo)
     have aD:Hid (∀z,z∈out ++ [x]↔(f z).isSome=true/\(left (.int .i64 z) && !(ew .i64 z).sameKey (.int .i64 x))=false):=fun z=>by
      have b7:(ew .i64 z).sameKey (.int .i64 x)=decide (z=x):=by simp[ey]
      rw[dK,aj.out z,dD,b7]
      by_cases hzx:z=x
      .subst hzx;simp[bL]
      .cases left (.int .i64 z) <;> simp[hzx]
     have bp:m+1<=137438953472:=by
      have h1:=Kig (out ++ [x]) (Kcc width (Kau ss)) a4.out fun z hz=>(aV.out z).1 ((aD.out z).1 hz).1
      have h2:=Keu width (Kau ss);have h3:=aH.out;rw[Kfl]at h2;rw[cQ,HM.out,dM]at h1;omega
     have a8:=Jh hrg2;have hr2:r<w2.heap.size:=hrg2.lt;have bP:Hid (cnt2<cnt):=hlt;clear bL a2 hrg2 hg2 hkx hlk hat2 HB ag bA aj bg e1 hlt;obtain⟨w6,aX⟩:=jG (w2.alloc (.cells #[.int .i64 x] 2));have bn:Below w2.heap.size w2 w6:=by rw[aX];exact(Below.refl _ _).alloc (cN _) _
     have aE:Blk w6 w2.heap.size 2 #[.int .i64 x]:=by rw[aX];exact ed _ _ _
     have am:w6.ownsRow (r+1) 2 1 (.slice A5 m c5) m (out.map (eh .i64)):=Kat ay.out bn;have aA:=Jh am;have bm:Hid (w2.grownBy w6 none):=by show World.grownBy _ _ _;rw[aX];exact dZ w2 _ none
     have ca:w2.heap.size<=w6.heap.size:=bn.size;go_wp2_with (at_builtin;(try rw[<-aX]);refine eD _ rfl _ _ 125 rfl (r+1) 2 ib (.int .i64 0) 1 8 underlying125 b3 b4 bJ aB rfl (by decide) (.slice A5 m c5) m _ rfl am ⟨w2.heap.size,0,none⟩ 1 1 [.int .i64 x] rfl rfl (Kam (l:=[.int .i64 x]) aE) ?p2 ?p3 ?p4 ?p5 ?_)
     case p2=>intro u hu;simp only[dF,dy,or_false]at hu;rcases hu with rfl;rfl
     case p3=>unfold maxLen;omega
     case p4=>omega
     case p5=>omega
     intro v9 w9 hown' hgrow _ _;rw[<-aX]at hgrow;have ab:∀k,(ei A5 m c5).ownBlock=some k->r+1<=k:=fun k hk=>(aA.out.lt k hk).1
     have cc:Hid (Below b w0 w9):=(bU.out.grown bm.out (by omega) (fun k hk=>by cases hk)).grown hgrow (by omega) (fun k hk=>by have:=ab k hk;omega);have bG:Hid (w9.ranges prog 2 HRi b r (ea D) D (fun z=>left z && !z.sameKey (.int .i64 x)) cnt2):=(a8.out.kept bm.out (by simp) (by simp)).kept hgrow (fun e=>by have:=ab b e.symm;omega) (fun e=>by have:=ab r e.symm;omega)
     have aY:Hid (w9.ownsRow (r+1) 2 1 v9 (out ++ [x]).length ((out ++ [x]).map (eh .i64))):=by
      show ZV _ _ _ _ _ _ _
      rw[cQ,HM.out,da];exact hown'
     have cd:(out ++ [x]).length<=137438953472:=by rw[cQ,HM.out];exact bp
     clear hown' hgrow ab am aE aA ay bm aX ca bn bU a8 b3 b4 bJ aB;go_wp2_with fail
     go_roundg (gk - 1)
     case measure=>have:=bP.out;omega
     case rel=>exact⟨_,cnt2,out ++ [x],_,rfl,by have:=bP.out;omega,bG,aY,a4,aD,cc,cd⟩
end
end
section
open Go.RowKit
open Lib renaming hid -> Jh
attribute [local go_sem ↓] Go.wp_at_zero Go.wp_at_succ
attribute [local go_sem] Later.cell
theorem Qds {l:List Txt}{i:Nat}(hi:i<l.length):(l.take (i+1)).flatten=(l.take i).flatten++l[i]!:=by rw[List.take_succ_eq_append_getElem hi,List.flatten_append,jI l i hi];simp
theorem Qho {n a:Nat}(ha:a<2 ^ n):a ^^^ (2 ^ n - 1)=2 ^ n - 1 - a:=by have h:=BitVec.toNat_not (x:=BitVec.ofNat n a);rw[<-BitVec.xor_allOnes,ZW,BitVec.toNat_allOnes,ZY,dI ha]at h;exact h
theorem Qct {a:Nat}(ha:a<18446744073709551616):a ^^^ 18446744073709551615=18446744073709551615 - a:=Qho (n:=64) ha
theorem Qhp {v:Int}(h1:-9223372036854775808<=v) (h2:v<=9223372036854775807) :
  bits .xor .u64 (en.wrap (wrap64 (v*2))) (en.wrap (v / 9223372036854775808))=((zig v:Nat):Int):=by
 rw[ek,ek];unfold wrap64
 by_cases h:0<=v
 .have e1:((v*2+9223372036854775808) % 18446744073709551616 - 9223372036854775808) % 18446744073709551616=((zig v:Nat):Int):=by unfold zig;rw[jN h];omega
  have e2:v / 9223372036854775808 % 18446744073709551616=((0:Nat):Int):=by omega
  rw[e1,e2,bits_xor_u64_nat _ _ (by have:=Kxj h1 h2;omega) (by decide),Nat.xor_zero]
 .have e1:((v*2+9223372036854775808) % 18446744073709551616 - 9223372036854775808) % 18446744073709551616=((18446744073709551615 - zig v:Nat):Int):=by unfold zig;rw[jM h];omega
  have e2:v / 9223372036854775808 % 18446744073709551616=((18446744073709551615:Nat):Int):=by omega
  rw[e1,e2,bits_xor_u64_nat _ _ (by omega) (by decide),Qct (by omega)];have:=Kxj h1 h2;omega
theorem Kof (n:Int) (h0:0<=n) (h1:n<2 ^ 32):ej.wrap n=n:=by rw[eo];omega
theorem Kzq {a b:Nat}(ha:a<4294967296) (hb:b<4294967296):bits .and .u32 (a:Int) (b:Int)=((a &&& b:Nat):Int):=(bits_nat .u32 32 (by decide) Kof a b ha hb).1
theorem Qen {a b:Nat}(ha:a<4294967296) (hb:b<4294967296):bits .or .u32 (a:Int) (b:Int)=((a ||| b:Nat):Int):=(bits_nat .u32 32 (by decide) Kof a b ha hb).2
theorem Kro {a b:Nat}(ha:a<4294967296) (hb:b<4294967296):bits .xor .u32 (a:Int) (b:Int)=((a ^^^ b:Nat):Int):=by have h:bits .xor .u32 (a:Int) (b:Int)=ej.wrap (((ZU 32 (a:Int) ^^^ ZU 32 (b:Int)).toNat:Nat):Int):=rfl;rw[h,ZX,ZX,ZW,ZY,ZY,dI (show a<2 ^ 32 by omega),dI (show b<2 ^ 32 by omega)];exact Kof _ (Int.natCast_nonneg _) (by have:=Khz ha hb;omega)
theorem Kho {k x:Nat}(y:Nat) (h:x<2 ^ k):(y*2 ^ k) ||| x=y*2 ^ k+x:=by have:=Nat.shiftLeft_add_eq_or_of_lt h y;rw[dr]at this;exact this.symm
theorem Qgs {x1 x0 y1 y0:Nat}(hx:x0<65536) (hy:y0<65536):(x1*65536+x0) ||| (y1*65536+y0)=(x1 ||| y1)*65536+(x0 ||| y0):=by
 have e1:=Kho (k:=16) x1 (show x0<2 ^ 16 from hx);have e2:=Kho (k:=16) y1 (show y0<2 ^ 16 from hy);have e3:=Kho (k:=16) (x1 ||| y1) (Nat.or_lt_two_pow (show x0<2 ^ 16 from hx) (show y0<2 ^ 16 from hy))
 have e4:(x1 ||| y1)*2 ^ 16=x1*2 ^ 16 ||| y1*2 ^ 16:=by rw[<-dr,<-dr,<-dr,Nat.shiftLeft_or_distrib]
 have aa:(65536:Nat)=2 ^ 16:=by decide
 rw[aa,<-e1,<-e2,<-e3,e4,dJ,dJ];congr 1;rw[<-dJ,<-dJ,dN x0]
theorem Khd (v:Nat):v &&& 16711935=v / 65536 % 256*65536+v % 256:=by
 have h1:(16711935:Nat)=255 <<< 16 ||| 255:=by decide
 have h2:v &&& 255=v % 256:=dj v 8
 have h3:v &&& (255 <<< 16)=((v >>> 16) &&& 255) <<< 16:=by
  apply Nat.eq_of_testBit_eq;intro i;simp only[Nat.testBit_and,Nat.testBit_shiftLeft,Nat.testBit_shiftRight]
  by_cases h:16<=i
  .simp[h,Nat.add_sub_cancel' h]
  .simp[h]
 have h4:(v >>> 16) &&& 255=v / 65536 % 256:=by rw[Nat.shiftRight_eq_div_pow];exact dj _ 8
 rw[h1,Nat.and_or_distrib_left,h2,h3,h4,dr];exact Kho (k:=16) _ (by omega)
def revN (v:Nat):Nat:=v % 256*16777216+v / 256 % 256*65536+v / 65536 % 256*256+v / 16777216
theorem Qha {v:Nat}(hv:v<4294967296):((v / 256) &&& 16711935) ||| ((v &&& 16711935)*256)=(v / 65536 % 256*256+v / 16777216)*65536+(v % 256*256+v / 256 % 256):=by
 rw[Khd,Khd];have e1:(v / 65536 % 256*65536+v % 256)*256=(v / 65536 % 256*256)*65536+v % 256*256:=by omega
 have e2:v / 256 / 65536 % 256=v / 16777216:=by omega
 rw[e1,e2,Qgs (by omega) (by omega)];have e3:=Kho (k:=8) (v / 65536 % 256) (show v / 16777216<2 ^ 8 by omega);have e4:=Kho (k:=8) (v % 256) (show v / 256 % 256<2 ^ 8 by omega);have e8:(2:Nat) ^ 8=256:=by decide
 rw[e8]at e3 e4;rw[dN (v / 16777216),dN (v / 256 % 256),e3,e4]
theorem Ksf (v:Int) (h1:-9223372036854775808<=v) (h2:v<=9223372036854775807) (w:World) :
  Calls prog 46 #[.int .i64 v] w fun e w'=>e = .returned (.string ⟨(intT v).toArray⟩)/\Below w.heap.size w w':=by
 have HU:=Jh (fun w=>Kav (zig v) (Kxj h1 h2) w);go_enter func46,ntmps46
 go_wp2_with fail
 rw[Qhp h1 h2];refine(HU.out w).mono ?_;rintro _ w1 ⟨rfl,hb⟩;go_wp2_with fail
 go_ret
 exact⟨rfl,hb⟩
theorem Qgz {v:Nat}(hv:v<4294967296):bits .or .u32 (bits .and .u32 ((v:Int) / 256) 16711935) (bits .and .u32 (v:Int) 16711935*256 % 4294967296)=(((v / 65536 % 256*256+v / 16777216)*65536+(v % 256*256+v / 256 % 256):Nat):Int):=by
 have e1:(v:Int) / 256=((v / 256:Nat):Int):=by omega
 have e2:∀x:Nat,x<4294967296->bits .and .u32 (x:Int) 16711935=((x &&& 16711935:Nat):Int):=fun x hx=>Kzq hx (by decide)
 have e3:((v &&& 16711935:Nat):Int)*256 % 4294967296=(((v &&& 16711935)*256:Nat):Int):=by rw[Khd];omega
 rw[e1,e2 _ (by omega),e2 _ hv,e3,Qen (by rw[Khd];omega) (by rw[Khd];omega),Qha hv]
theorem Qgy {v:Nat}(hv:v<4294967296) {T:Int}(hT:T=(((v / 65536 % 256*256+v / 16777216)*65536+(v % 256*256+v / 256 % 256):Nat):Int)) :
  bits .or .u32 (T / 65536) (T*65536 % 4294967296)=((revN v:Nat):Int):=by
 subst hT;have e1:(((v / 65536 % 256*256+v / 16777216)*65536+(v % 256*256+v / 256 % 256):Nat):Int) / 65536=((v / 65536 % 256*256+v / 16777216:Nat):Int):=by omega
 have e2:(((v / 65536 % 256*256+v / 16777216)*65536+(v % 256*256+v / 256 % 256):Nat):Int)*65536 % 4294967296=(((v % 256*256+v / 256 % 256)*65536:Nat):Int):=by omega
 rw[e1,e2,Qen (by omega) (by omega),dN];have e3:=Kho (k:=16) (v % 256*256+v / 256 % 256) (show v / 65536 % 256*256+v / 16777216<2 ^ 16 by omega);have aa:(2:Nat) ^ 16=65536:=by decide
 rw[aa]at e3;rw[e3];unfold revN;omega
theorem Qeu (v:Nat) (hv:v<4294967296) (w:World) :
  Calls prog 175 #[.int .u32 v] w fun e w'=>e = .returned (.int .u32 (revN v:Nat))/\w=w':=by
 go_enter func175,ntmps175
 go_wp2_with fail
 rw[Qgy hv (Qgz hv)];go_ret
 exact⟨rfl,rfl⟩
theorem Qaw (a b c d:UInt8) (g:Nat) (w:World) (h0:w.cell? ⟨g,0,none⟩=some (.int .u8 (a.toNat:Int))) (h1:w.cell? ⟨g,1,none⟩=some (.int .u8 (b.toNat:Int))) (h2:w.cell? ⟨g,2,none⟩=some (.int .u8 (c.toNat:Int))) (h3:w.cell? ⟨g,3,none⟩=some (.int .u8 (d.toNat:Int))) :
  (convert 76 9 (.slice (some ⟨g,0,none⟩) 4 4)).run prog w = .ok (.string ⟨#[a,b,c,d]⟩) w:=
 run_convert_bytes_back w _ _ 5 ⟨g,0,none⟩ 4 [a,b,c,d] underlying76 underlying5 underlying9 (fun j hj=>by
  match j,hj with
  | 0,_=>exact h0
  | 1,_=>exact h1
  | 2,_=>exact h2
  | 3,_=>exact h3
  | _+4,hj=>simp at hj;omega)
theorem Qev {a b c d r:Nat}(ha:a<256) (hb:b<256) (hc:c<256) (hd:d<256) (hr:a*16777216+b*65536+c*256+d=r) :
  (r:Int) / 16777216=(a:Int)/\(r:Int) / 65536 % 256=(b:Int)/\(r:Int) / 256 % 256=(c:Int)/\(r:Int) % 256=(d:Int):=by
 subst hr;refine⟨?_,?_,?_,?_⟩ <;> omega
theorem Qax (v:Nat) (hv:v<4294967296) (w:World) :
  Calls prog 122 #[.int .u32 v] w fun e w'=>e = .returned (.string ⟨(fourT v).toArray⟩)/\Below w.heap.size w w':=by
 have HR:=Jh (Qeu v hv w);obtain⟨r,hr⟩:=jF (revN v);rw[hr]at HR;have hr2:r<4294967296:=by rw[<-hr];unfold revN;omega
 obtain⟨b0,h0⟩:=jF (et v);obtain⟨b1,h1⟩:=jF (et (v / 256));obtain⟨b2,h2⟩:=jF (et (v / 65536));obtain⟨b3,h3⟩:=jF (et (v / 16777216));obtain⟨p0,p1,p2,p3⟩:=Qev (a:=v % 256) (b:=v / 256 % 256) (c:=v / 65536 % 256) (d:=v / 16777216) (by omega) (by omega) (by omega) (by omega) hr;have k0:(r:Int) / 16777216=(b0.toNat:Int):=by rw[p0,<-h0,eq]
 have k1:(r:Int) / 65536 % 256=(b1.toNat:Int):=by rw[p1,<-h1,eq]
 have k2:(r:Int) / 256 % 256=(b2.toNat:Int):=by rw[p2,<-h2,eq]
 have k3:(r:Int) % 256=(b3.toNat:Int):=by rw[p3,<-h3,eq];omega
 have hcv:=Qaw b0 b1 b2 b3 w.heap.size (w.alloc (.cells #[.int .u8 ((r:Int) / 16777216),.int .u8 ((r:Int) / 65536 % 256),.int .u8 ((r:Int) / 256 % 256),.int .u8 ((r:Int) % 256)] 5)) (by rw[k0];simp[go_sem]) (by rw[k1];simp[go_sem]) (by rw[k2];simp[go_sem]) (by rw[k3];simp[go_sem]);have hb:Below w.heap.size w (w.alloc (.cells #[.int .u8 ((r:Int) / 16777216),.int .u8 ((r:Int) / 65536 % 256),.int .u8 ((r:Int) / 256 % 256),.int .u8 ((r:Int) % 256)] 5)):=(Below.refl _ _).alloc (cN _) _;have aa:(⟨#[b0,b1,b2,b3]⟩:ByteArray)=⟨(fourT v).toArray⟩:=by rw[<-h0,<-h1,<-h2,<-h3];rfl
 have ab:=Jh aa;have HB:=Jh hb;clear k0 k1 k2 k3 h0 h1 h2 h3 hr aa hb p0 p1 p2 p3;go_enter func122,ntmps122
 go_wp2_with fail
 refine HR.out.mono ?_;rintro _ w1 ⟨rfl,rfl⟩;go_wp2_with fail
 go_ret
 exact⟨by first | rfl | (rw[ab.out];rfl),HB.out⟩
def Kea (w:World):Prop:=∀i,i<16->w.cell? ⟨0,i,none⟩=some (.int .u32 (nibs.getD i 0:Nat))
theorem Kea.below {B:Nat}{w w':World}(h:Kea w) (hB:0 < B) (hb:Below B w w'):Kea w':=fun i hi=>(hb.cell (p:=⟨0,i,none⟩) hB).trans (h i hi)
theorem and15 {c:Nat}(h:c<4294967296):bits .and .u32 (c:Int) 15=((c % 16:Nat):Int):=by have h1:bits .and .u32 (c:Int) 15=((c &&& 15:Nat):Int):=Kzq h (by decide);rw[h1];congr 1;exact dj c 4
theorem Qae {c:Nat}(h:c<4294967296):bits .xor .u32 ((nibs.getD (c % 16) 0:Nat):Int) ((c:Int) / 16)=((nibN c:Nat):Int):=by
 have e1:(c:Int) / 16=((c / 16:Nat):Int):=by omega
 rw[e1,Kro (Qaf _) (by omega)];rfl
theorem Qdi (Ao:Option Addr) (n c:Nat) (l:List Txt) (w:World) (h:Strs w Ao n l) (hn:n<=140737488355328) (hs:∀s∈l,s.length<=140737488355328) (hT:Kea w) :
  Calls prog 123 #[.slice Ao n c] w fun e w'=>e = .returned (.int .u32 (crcL l.flatten:Nat))/\w=w':=by
 have hln:=h.len;have HS:=Jh hs;have HH:=Jh h;have HT:=Jh hT;clear hs h hT;go_enter func123,ntmps123
 go_wp2_with fail
 go_loopg [3,9] n (fun g s3 s9 wr=>∃i c:Nat,i+g=n/\s9 = .int .i64 (i:Int)/\s3 = .int .u32 (c:Int)/\c<4294967296/\crcF 4294967295 (l.take i).flatten=c/\wr=w)
 case atStart=>exact⟨0,4294967295,by omega,rfl,rfl,by decide,rfl,rfl⟩
 case round=>
  obtain⟨i,c,aA,rfl,rfl,hc,az,rfl⟩:=hrel;have ay:=Jh aA;have aw:=Jh az;clear aA az
  by_cases hi:i<n
  .have el:decide ((i:Int)<(n:Int))=true:=by simp;omega
   have aC:decide (i<n)=true:=by simp;omega
   have aJ:(i:Int)<(n:Int):=by omega
   obtain⟨b,off,aD,hbl,x0⟩:=HH.out.at_ hi;subst aD;have ax:i<l.length:=by omega
   obtain⟨T,hT⟩:∃T:ByteArray,(⟨l[i]!.toArray⟩:ByteArray)=T:=⟨_,rfl⟩;have aq:T.data.toList=l[i]!:=by rw[<-hT]
   have hTs:T.size<=140737488355328:=by have:=HS.out l[i]! (by rw[jI l i ax];exact dh _);rw[<-aq,Kai]at this;exact this
   unfold txtV at x0;rw[hT]at x0;have ak:=Qds ax;rw[<-aq]at ak;have aM:=Jh ak;obtain⟨og,rfl⟩:=jG gk;clear ak hT aq;go_wp2_with fail
   go_loopg [3,15] T.size (fun g s3 s15 wr2=>∃j c:Nat,j+g=T.size/\s15 = .int .i64 (j:Int)/\s3 = .int .u32 (c:Int)/\c<4294967296/\crcF 4294967295 ((l.take i).flatten++T.data.toList.take j)=c/\wr2=wr)
   case atStart=>exact⟨0,c,by omega,rfl,rfl,hc,by rw[cZ,dS];exact aw.out,rfl⟩
   case round=>
    obtain⟨j,c',aB,rfl,rfl,al,ac,rfl⟩:=hrel;have av:=Jh aB;have ad:=Jh ac;clear aB ac
    by_cases hj:j<T.size
    .have fl:decide ((j:Int)<(T.size:Int))=true:=by simp;omega
     have aH:decide (j<T.size)=true:=by simp;omega
     have aL:(j:Int)<(T.size:Int):=by omega
     have hbt:=UInt8.toNat_lt T[j];obtain⟨c0,af⟩:=jF (c' ^^^ T[j].toNat);have hx0:bits .xor .u32 (c':Int) (T[j].toNat:Int)=(c0:Int):=by rw[<-af];exact Kro al (by omega)
     have ah:c0<4294967296:=by rw[<-af];exact Khz al (by omega)
     obtain⟨i0,aj⟩:=jF (c0 % 16);have ha0:bits .and .u32 (c0:Int) 15=(i0:Int):=by rw[<-aj];exact and15 ah
     have am:i0<16:=by omega
     obtain⟨n0,an⟩:=jF (nibs.getD i0 0);have aF:=HT.out i0 am;rw[an]at aF;obtain⟨c1,ag⟩:=jF (nibN c0);have hy0:bits .xor .u32 (n0:Int) ((c0:Int) / 16)=(c1:Int):=by rw[<-an,<-aj,<-ag];exact Qae ah
     have ao:c1<4294967296:=by rw[<-ag];exact Kmm ah
     obtain⟨i1,ai⟩:=jF (c1 % 16);have ha1:bits .and .u32 (c1:Int) 15=(i1:Int):=by rw[<-ai];exact and15 ao
     have ar:i1<16:=by omega
     obtain⟨n1,ap⟩:=jF (nibs.getD i1 0);have aE:=HT.out i1 ar;rw[ap]at aE;obtain⟨c2,ae⟩:=jF (nibN c1);have hy1:bits .xor .u32 (n1:Int) ((c1:Int) / 16)=(c2:Int):=by rw[<-ap,<-ai,<-ae];exact Qae ao
     have aK:c2<4294967296:=by rw[<-ae];exact Kmm ao
     have aa:crcF 4294967295 ((l.take i).flatten++T.data.toList.take (j+1))=c2:=by
      have e:T.data.toList.take (j+1)=T.data.toList.take j ++ [T[j]]:=by rw[cR,cX (by simpa using hj)];simp[ByteArray.getElem_eq_getElem_data]
      rw[e,<-dE,Qdh,ad.out,<-ae,<-ag,<-af];rfl
     have aG:=Jh aa;clear aa af ag ae an ap aj ai;go_wp2_with fail
     go_roundg (gk - 1)
     case measure=>have:=av.out;omega
     case rel=>exact⟨j+1,c2,by have:=av.out;omega,by go_num,rfl,aK,aG.out,rfl⟩
    .have fl:decide ((j:Int)<(T.size:Int))=false:=by simp;omega
     have aH:decide (j<T.size)=false:=by simp;omega
     have ab:crcF 4294967295 (l.take (i+1)).flatten=c':=by have:=ad.out;have e:T.data.toList.take j=T.data.toList:=cP (by rw[Kai];omega);rw[e,<-aM.out]at this;exact this
     have HF:=Jh ab;clear ab;go_wp2_with fail
     go_roundg (og - 1)
     case measure=>have:=ay.out;omega
     case rel=>exact⟨i+1,c',by have:=ay.out;omega,by go_num,rfl,al,HF.out,rfl⟩
  .have el:decide ((i:Int)<(n:Int))=false:=by simp;omega
   have aC:decide (i<n)=false:=by simp;omega
   have aI:bits .xor .u32 ej.max (c:Int)=((crcL l.flatten:Nat):Int):=by have h1:bits .xor .u32 ej.max (c:Int)=((4294967295 ^^^ c:Nat):Int):=Kro (a:=4294967295) (by decide) hc;have h2:=aw.out;rw[cP (by omega)]at h2;rw[h1];unfold crcL;rw[h2,Nat.xor_comm]
   go_wp2_with fail
   go_ret
   exact⟨rfl,rfl⟩
end
section
open Go.RowKit
attribute [local go_sem ↓] Go.wp_at_zero Go.wp_at_succ
attribute [local go_sem] Later.cell
theorem Qit {w:World}{b:Nat}{l:List Txt}(h:Blk w b 9 (l.map txtV).toArray):Strs w (some ⟨b,0,none⟩) l.length l:=
 ⟨rfl,fun _=>⟨b,0,rfl,h.lt,fun i x hx j v hv=>by
  match j,hv with
  | 0,hv=>
   injection hv with hv;subst hv;have h1:=h.cell i;have h2:(l.map txtV).toArray[i]? = some (txtV x):=by simp[hx]
   simpa[h2]using h1
  | j+1,hv=>simp[enc1]at hv⟩⟩
theorem Qfv {a b:ByteArray}(h:a.data.toList=b.data.toList):a=b:=by
 cases a;cases b
 simp at h;rw[h]
theorem Kea.lt {w:World}(h:Kea w):0 < w.heap.size:=Kdt (h 0 (by decide))
theorem Qhe {w:World}{b:Nat}{S:ByteArray}(h:Blk w b 9 #[.string S]):Strs w (some ⟨b,0,none⟩) 1 [S.data.toList]:=Qit (by unfold txtV;exact h)
theorem Qib {w:World}{b c:Nat}{S:ByteArray}(h:Blk w b 9 #[.string S]) (hS:S.size<=140737488355328) (hT:Kea w) :
  Calls prog 123 #[.slice (some ⟨b,0,none⟩) 1 c] w fun e w'=>e = .returned (.int .u32 (crcL S.data.toList:Nat))/\w=w':=by
 have h1:=Qdi (some ⟨b,0,none⟩) 1 c [S.data.toList] w (Qhe h) (by decide) (fun s hs=>by rw[dk.1 hs,Kai];exact hS) hT;have e:[S.data.toList].flatten=S.data.toList:=by simp
 rw[e]at h1;exact h1
theorem Qcd (s:ByteArray) (hs:s.size<=140737488351232) (w:World) (hT:Kea w) :
  Calls prog 47 #[.string s] w fun e w'=>e = .returned (.string ⟨(sealT s.data.toList).toArray⟩)/\Below w.heap.size w w':=by
 obtain⟨w1,ab⟩:=jF (w.alloc (.cells #[.string s] 9));have ae:Below w.heap.size w w1:=by rw[<-ab];exact(Below.refl _ _).alloc (cN _) _
 have ad:Blk w1 w.heap.size 9 #[.string s]:=by rw[<-ab];exact ed _ _ _
 have HC:=Lib.hid (Qib (c:=1) ad (by omega) (hT.below hT.lt ae));have HF:=Lib.hid (fun w=>Qax (crcL s.data.toList) (Qia _) w);have HW:=Lib.hid ab;obtain⟨F,hF⟩:∃F:ByteArray,(⟨(fourT (crcL s.data.toList)).toArray⟩:ByteArray)=F:=⟨_,rfl⟩;have hF4:F.size=4:=by rw[<-hF];rfl
 have aa:s++F=(⟨(sealT s.data.toList).toArray⟩:ByteArray):=Qfv (by rw[<-hF];simp[sealT,ByteArray.data_append]);rw[hF]at HF;have ac:=Lib.hid aa;clear ab ad aa hF;go_enter func47,ntmps47
 go_wp2_with fail
 rw[HW.out];refine HC.out.mono ?_;rintro _ w2 ⟨rfl,rfl⟩;go_wp2_with fail
 refine(HF.out w1).mono ?_;rintro _ w2 ⟨rfl,af⟩;go_wp2_with fail
 rw[ac.out];go_ret
 exact⟨rfl,then_ ae af⟩
end
section
open Go.RowKit
theorem Kwi {S:List (List Lb)}{q:Lb}(h:q∉keysOf S):Kan S q = []:=by unfold Kan;rw[dg];intro i hi;rw[jH];intro hm;apply h;rw[(Kez S).2];have hl:=dX.1 hi;rw[cY,cX hl]at hm;exact⟨S[i],dh hl,hm⟩
def Ket (S:List (List Lb)) (l:List Lb) (k:Nat):Lb->List Nat:=fun y=>if y∈l.take k then Kan S y ++ [S.length] else Kan S y
theorem Kyy (S:List (List Lb)) (l:List Lb):Ket S l 0=Kan S:=by funext y;simp[Ket]
theorem Khq (S:List (List Lb)) (l:List Lb) (y:Lb):Kan (S ++ [l]) y=if y∈l then Kan S y ++ [S.length] else Kan S y:=by
 unfold Kan;rw[cQ,dM,List.range_succ,dd]
 have h1:(dY S.length).filter (fun i=>decide (y∈(S ++ [l]).getD i []))=(dY S.length).filter (fun i=>decide (y∈S.getD i [])):=by apply List.filter_congr;intro i hi;rw[cY,cY,dq (dX.1 hi)]
 have h2:(S ++ [l]).getD S.length []=l:=by simp[cY]
 rw[h1]
 by_cases hy:y∈l
 .rw[jN hy,dp,dA,h2,jN (jL hy)]
 .rw[jM hy,dp,dA,h2,jM (by simpa using hy),dS]
theorem Qby (S:List (List Lb)) (l:List Lb):Ket S l l.length=Kan (S ++ [l]):=by funext y;rw[Khq,Ket,List.take_length]
theorem Kyz:Kan []=fun _=>[]:=rfl
theorem Kfy {l:List Lb}(h:Kcm l=true):l.Nodup/\l≠[]/\l.length<=8/\(∀x∈l,x.n.length<=32/\x.v.length<=64)/\Kdn l=0:=by
 have he:=Qcq h;unfold Kcm at h;rw[dc,jH,jH]at h;obtain⟨h1,h2⟩:=h;have hm:=h1;unfold Kaw at h1
 split at h1
 .cases h1
 .split at h1
  .cases h1
  .rename_i h3 h4
   refine⟨?_,fun e=>h3 (by rw[e];rfl),by omega,fun x hx=>?_,he⟩
   .unfold names at h2;rw[dO]at h2;exact h2.imp fun hab e=>by subst e;exact List.lt_irrefl _ hab
   .obtain ⟨a,b⟩:=Kju h1 x hx;unfold fitN at a;unfold fitV at b;simp only[dc,jH]at a b;omega
theorem Qgu {c:Cont}{s:Ser}(h:Kdw c s=true) (h0:0<=c.frm) (h1:c.to_<=1125899906842625) (hv:∀x∈s.samples,x.v<2 ^ 64) :
  (∀p∈Kcb s.samples.length s.samples,(Ker p).1=Kdb p)/\(aggO s.windows).1=aggT s.windows:=by
 unfold Kdw at h
 split at h
 .rename_i hr
  rw[dc,jH,Qcs]at h;obtain⟨hw,_,hi,ad⟩:=h;have ae:s.windows = []:=cU hw;refine⟨fun p hp=>?_,by rw[ae];rfl⟩;have aa:=Qgw (fun x hx=>(⟨by have:=hi x hx;omega,by have:=hi x hx;omega,hv x hx⟩:SmpOk x)) ad hp;have ab:fitC none 0 p=true:=(Kvc p none 0).2 ⟨fun x hx=>⟨(aa.1 x hx).1,(aa.1 x hx).2.1⟩,aa.2.1,fun y x hy=>(by cases hy),.inr (by have:=aa.2.2;omega)⟩;unfold Ker;rw[jN ((Qdm p).2 ab)]
 .rename_i hr
  rw[dc,dc,jH]at h;have ac:s.samples = []:=cU h.1.2;refine⟨fun p hp=>by rw[ac]at hp;simp[Kcb]at hp,?_⟩;unfold aggO;rw[jN ((Kkl _ _ _).2 h.1.1)]
theorem Qao {w w':World}(h:Below w.drew.heap.size w.drew w'):Below w.heap.size w w':=⟨h.os,h.tape,h.output,h.size,h.block⟩
end
section
open Go.RowKit
open Go.ChangeMaps (setBlock)
open Go.MapKept
structure RIt (w:World) (b r:Nat) (es:Array MapEntry) (clock:Nat) (out:List MapEntry) (cnt:Nat):Prop where
 ex:∃since seen c0,w.heap[b]? = some (.map es clock)/\w.heap[r]? = some (.mapIter (some b) since seen c0)/\(∀x∈es.toList,x.born<since)/\(leftOf es seen).size=cnt/\
  (∀x∈es.toList,seen.contains x.born=true↔x∈out)/\since<=c0/\since<=clock
 sub:∀x∈out,x∈es.toList
 nd:out.Nodup
section
variable {w w' : World}{b r : Nat}{es : Array MapEntry}{clock : Nat}{out : List MapEntry}{cnt : Nat}
theorem RIt.map (h:RIt w b r es clock out cnt):w.heap[b]? = some (.map es clock):=by obtain⟨_,_,_,hb,_⟩:=h.ex;exact hb
theorem RIt.blt (h:RIt w b r es clock out cnt):b<w.heap.size:=(ez.1 h.map).1
theorem RIt.rlt (h:RIt w b r es clock out cnt):r<w.heap.size:=by obtain⟨_,_,_,_,hr,_⟩:=h.ex;exact(ez.1 hr).1
theorem RIt.ne (h:RIt w b r es clock out cnt):r≠b:=by obtain⟨_,_,_,hb,hr,_⟩:=h.ex;intro e;rw[e,hb]at hr;cases hr
theorem RIt.kept {row:Option Nat}(h:RIt w b r es clock out cnt) (hg:w.grownBy w' row) (hb':some b≠row) (hr':some r≠row):RIt w' b r es clock out cnt:=by have h1:=h.blt;have h2:=h.rlt;obtain⟨aa,ab,c0,hb,hr,rest⟩:=h.ex;exact⟨⟨aa,ab,c0,(hg.block b h1 hb').trans hb,(hg.block r h2 hr').trans hr,rest⟩,h.sub,h.nd⟩
theorem RIt.below (h:RIt w b r es clock out cnt) (hb:Below w.heap.size w w'):RIt w' b r es clock out cnt:=h.kept (row:=none) ⟨hb.os,hb.tape,hb.output,hb.size,fun k hk _=>hb.block k hk⟩ (by simp) (by simp)
variable {P : Program}{ops : Array Oper}{rest : List Oper}{o : Oper}{a : Act}{Q : Exit -> Act -> World -> Prop}
theorem Kog (hg:o.guard=none) (m:Operand) (t:TypeId) (hop:o.op=Op.range t m) (k e:TypeId) (ht:P.underlying t=some (.map k e)) (hm:a.eval m = .map (some b)) (hb:w.heap[b]? = some (.map es clock)) (hst:Stamped es clock)
  (hK:∀w',RIt w' b w.heap.size es clock [] es.size->w.grownBy w' none->w'.heap.size=w.heap.size+1->wpList P ops Q rest (a.put o.dst (.pointer (some ⟨w.heap.size,0,none⟩))) w') :
  wpList P ops Q (o :: rest) a w:=by
 refine wpList_plain hg fun K' hK'=>?_
 have ab:=(ez.1 hb).1;have aa:=run_range_map (P:=P) w t k e b es clock ht hb;unfold Oper.wp;simp[execOp,hop,hm,aa,eA];refine hK' _ _ (hK _ ⟨⟨clock,#[],clock,((MapKept.heap_alloc w _).2 b ab).trans hb,(MapKept.heap_alloc w _).1,hst.1,by simp[leftOf],fun x _=>by simp,cN _,cN _⟩,by simp,by simp⟩ (dZ w _ none) (by simp))
theorem RIt.next (h:RIt w b r es clock out cnt) (hst:Stamped es clock) (ty:TypeId) :
  (cnt=0/\(∀x∈es.toList,x∈out)/\(Instr.next (.pointer (some ⟨r,0,none⟩)) false ty).run P w = .ok (.tuple #[.bool false]) w)\/
  ∃e w' cnt',e∈es.toList/\e∉out/\(Instr.next (.pointer (some ⟨r,0,none⟩)) false ty).run P w = .ok (.tuple #[.bool true,e.key,e.val]) w'/\RIt w' b r es clock (out ++ [e]) cnt'/\cnt'<cnt/\w.grownBy w' (some r)/\w'.heap.size=w.heap.size/\
   (Instr.entry (.pointer (some ⟨r,0,none⟩))).run P w' = .ok (.tuple #[e.key,e.val]) w':=by
 have ao:=h.ne;have ag:=h.sub;have ap:=h.nd;obtain⟨aa,ab,c0,hb,hr,ad,rfl,af,ak,aj⟩:=h.ex;rcases run_next_at (P:=P) w ty r b aa c0 ab es clock hr hb ad ak with ⟨h0,hrun⟩ | ⟨e,he,w1,hal,hrun⟩
 .exact Or.inl ⟨h0,fun x hx=>(af x hx).1 (all_seen es ab h0 x hx),hrun⟩
 .obtain ⟨ae,am⟩:=mem_left he;have al:w1.heap[r]? = some (.mapIter (some b) aa ab c0):=by rcases hal with rfl | rfl <;> exact hr
  have an:w1.heap[b]? = some (.map es clock):=by rcases hal with rfl | rfl <;> exact hb
  have ac:=heap_set (o':=.mapIter (some b) aa (ab.push e.born) clock) al;have ah:(setBlock w1 r (.mapIter (some b) aa (ab.push e.born) clock)).heap[b]? = some (.map es clock):=(ac.2 b (fun e1=>ao e1.symm)).trans an
  have ai:e∉out:=fun hm=>by have:=(af e ae).2 hm;rw[am]at this;cases this
  refine Or.inr ⟨e,_,_,ae,ai,hrun,⟨⟨aa,ab.push e.born,clock,ah,ac.1,ad,rfl,fun x hx=>?_,aj,aj⟩,fun x hx=>?_,?_⟩,left_shrinks es ab e he,?_,?_,run_entry_at _ r b aa ab es clock e ac.1 ah ae hst.2.1⟩
  .rw[contains_push,dK,dD,<-af x hx,Bool.or_eq_true,beq_iff_eq];constructor
   .rintro (h | h)
    .exact .inl h
    .exact .inr (born_inj hst.2.1 hx ae h)
   .rintro (h | h)
    .exact .inl h
    .exact .inr (by rw[h])
  .rcases List.mem_append.1 hx with h | h
   .exact ag x h
   .rw[dk.1 h];exact ae
  .exact ds.2 ⟨ap,by simp,fun x hx y hy=>by rw[dk.1 hy];rintro rfl;exact ai hx⟩
  .rcases hal with rfl | rfl <;> exact⟨rfl,rfl,rfl,by simp[setBlock],fun i _ hi=>ac.2 i (fun e1=>hi (by rw[e1]))⟩
  .rcases hal with rfl | rfl <;> simp[setBlock]
structure Qix (es:Array MapEntry) (out:List MapEntry) (cnt:Nat):Prop where
 z:cnt=0
 all:∀x∈es.toList,x∈out
structure Qhq {α : Type} (P:Program) (mkK:α->Value) (w:World) (b r:Nat) (es:Array MapEntry) (clock:Nat) (out:List MapEntry) (cnt:Nat) (x:α) (v:Value) (w':World):Prop where
 ex:∃e cnt',e∈es.toList/\e∉out/\e.key=mkK x/\e.val=v/\RIt w' b r es clock (out ++ [e]) cnt'/\cnt'<cnt
 g:w.grownBy w' (some r)
 s:w'.heap.size=w.heap.size
 run:(Instr.entry (.pointer (some ⟨r,0,none⟩))).run P w' = .ok (.tuple #[mkK x,v]) w'
theorem Kqj {α : Type}(hg:o.guard=none) (it:Operand) (hop:o.op=Op.next it false) (mkK:α->Value) (b r:Nat) (es:Array MapEntry) (clock:Nat) (out:List MapEntry) (cnt:Nat) (hst:Stamped es clock) (hk:∀e∈es.toList,∃x,e.key=mkK x)
  (hit:a.eval it = .pointer (some ⟨r,0,none⟩)) (h:RIt w b r es clock out cnt)
  (hDone:Qix es out cnt->wpList P ops Q rest (a.put o.dst (.tuple #[.bool false])) w)
  (hMore:∀(x:α) (v:Value) (w':World),Qhq P mkK w b r es clock out cnt x v w'->wpList P ops Q rest (a.put o.dst (.tuple #[.bool true,mkK x,v])) w') :
  wpList P ops Q (o :: rest) a w:=by
 refine wpList_plain hg fun K' hK'=>?_
 unfold Oper.wp;rcases h.next (P:=P) hst o.type with ⟨h0,hl,hrun⟩ | ⟨e,w',cnt',he,hno,hrun,hrg,hlt,hgr,hsz,hen⟩
 .simp[execOp,hop,hit,hrun,eA];exact hK' _ _ (hDone ⟨h0,hl⟩)
 .obtain ⟨x,hx⟩:=hk e he;rw[hx]at hrun hen;simp[execOp,hop,hit,hrun,eA];exact hK' _ _ (hMore x _ w' ⟨⟨e,cnt',he,hno,hx,rfl,hrg,hlt⟩,hgr,hsz,hen⟩)
end
end
section
open Go.RowKit Go.Shelf Go.Sort
attribute [local go_sem ↓] Go.wp_at_zero Go.wp_at_succ
attribute [local go_sem] Later.cell
def cfK (x y:Lb):Int:=cmpL [x] [y]
theorem Qfy (x y:Lb):cmpL [x] [y]<0↔ltB x y:=by
 rw[Kux];constructor
 .rintro (h | ⟨_,h⟩)
  .exact h
  .simp[cmpL]at h
 .exact .inl
theorem ltK (x y:Lb):ltOf cfK x y=decide (ltB x y):=by unfold ltOf cfK;rw[decide_eq_decide];exact Qfy x y
theorem Ksg (x y:Lb):ltB x y\/x=y\/ltB y x:=by
 by_cases h1:ltB x y
 .exact .inl h1
 .by_cases h2:ltB y x
  .exact .inr (.inr h2)
  .exact .inr (.inl (Kqx h1 h2))
theorem swoK:SWO (ltOf cfK) where
 irrefl x:=by rw[ltK];simpa using Keo x
 trans x y z h1 h2:=by rw[ltK,jH]at h1 h2 |-;exact Kfb h1 h2
 ntrans x y z h1 h2:=by
  rw[ltK,jK]at h1 h2 |-;intro h;rcases Ksg x y with k | rfl | k
  .exact h1 k
  .exact h2 h
  .exact h2 (Kfb k h)
theorem Kyj (x y:Lb) (W:World) :
  Calls prog 120 #[.agg (encLb x).toArray,.agg (encLb y).toArray] W fun e w'=>e = .returned (.int .i64 (cfK x y))/\∃q os',w'=grow (W.drewN q) os':=by
 suffices h:Calls prog 120 #[.agg (encLb x).toArray,.agg (encLb y).toArray] W fun e w'=>e = .returned (.int .i64 (cfK x y))/\Grown W w' by refine h.mono ?_;rintro e w' ⟨he,⟨p,hp⟩⟩;exact⟨he,p.n,p.os,hp⟩
 have HC:=Lib.hid (fun (w:World) (p q:Nat) (h1:Blk w p 99 #[.string ⟨x.n.toArray⟩,.string ⟨x.v.toArray⟩]) (h2:Blk w q 99 #[.string ⟨y.n.toArray⟩,.string ⟨y.v.toArray⟩])=>
  Kdy [x] [y] (some ⟨p,0,none⟩) (some ⟨q,0,none⟩) 1 1 1 1 w (cfK x y) rfl
   (⟨rfl,fun _=>⟨p,0,rfl,h1.lt,fun i z hz j v hv=>by
    cases i with
    | zero=>simp only[c8,eB]at hz;subst hz;rw[h1.cell];simpa[encLb]using hv
    | succ i=>simp at hz⟩⟩)
   (⟨rfl,fun _=>⟨q,0,rfl,h2.lt,fun i z hz j v hv=>by
    cases i with
    | zero=>simp only[c8,eB]at hz;subst hz;rw[h2.cell];simpa[encLb]using hv
    | succ i=>simp at hz⟩⟩) (by decide) (by decide))
 obtain⟨r,hr⟩:=jF (cfK x y);unfold encLb;obtain⟨N,hN⟩:∃N:ByteArray,(⟨x.n.toArray⟩:ByteArray)=N:=⟨_,rfl⟩;obtain⟨V,hV⟩:∃N:ByteArray,(⟨x.v.toArray⟩:ByteArray)=N:=⟨_,rfl⟩;obtain⟨N2,ab⟩:∃N:ByteArray,(⟨y.n.toArray⟩:ByteArray)=N:=⟨_,rfl⟩;obtain⟨V2,aa⟩:∃N:ByteArray,(⟨y.v.toArray⟩:ByteArray)=N:=⟨_,rfl⟩;rw[hr]at HC |-;rw[hN,hV,ab,aa]at HC |-;clear hN hV ab aa hr;go_enter func120,ntmps120
 go_wp2_with fail
 have hg:Grown W ((((W.alloc (.cells #[.string N,.string V] 99)).alloc (.cells #[.string N2,.string V2] 99)).alloc (.cells #[.string N,.string V] 99)).alloc (.cells #[.string N2,.string V2] 99)):=((((ef _).alloc _).alloc _).alloc _).alloc _;refine(HC.out _ (W.heap.size+1+1) (W.heap.size+1+1+1) ((ee (by simp)).alloc _) (ee (by simp))).mono ?_;rintro _ w' ⟨rfl,hb⟩;go_wp2_with fail
 go_ret
 exact⟨rfl,hg.trans hb⟩
end
end Go.Proofs.YtdoiekknhnbepaaGreatDoor
