/- Merged (what the claim wants of): MrgKept, MrgClip, MrgStrip, MrgLaw4, MrgLaw5, IMap. -/
import Derived.Test.YtdoiekknhnbepaaGreatDoorCsp09
import Derived.Laws.EntriesVeiled
import Derived.Sort.OwnSortedInts
set_option linter.unusedVariables false
set_option linter.unusedSimpArgs false
set_option maxRecDepth 1000000
set_option linter.ambiguousOpen false
set_option maxHeartbeats 8000000
namespace Go.Proofs.YtdoiekknhnbepaaGreatDoor
open Go renaming wpQuiet_nil->dJ
open Go renaming wpList_append_own_at->dI
open List renaming getElem?_eq_getElem->cX,getElem?_eq_some_iff->cY,mem_cons->c0,any_eq_true->c5,filter_eq_nil_iff->c6,pairwise_map->c8
open Grown renaming refl->dg
open Blk renaming new->di,newAt->dk
open World renaming ownsRow->dm,ownsRow_nil->dq
open Maps renaming size->ds,has->dH
open Tryz
open Nat renaming lt_of_lt_of_le->cN,le_refl->cO,lt_or_ge->db,eq_zero_or_pos->dh,le_trans->dx
open List renaming take_succ_cons->cP,drop_succ_cons->cQ,take_of_length_le->cR,take_zero->cT,mem_of_getElem?->cU,take_add_one->cZ,drop_zero->da,flatMap_singleton->dc,getElem_mem->dd,mem_cons_of_mem->de,flatMap_append->df,filter_append->dj,length_append->dl,mem_cons_self->dn,filter_cons->dp,not_mem_nil->dr,length_cons->dt,map_append->dv,mem_cons->dw,flatten_cons->dy,length_map->dz,filter_nil->dA,any_append->dB,filter_map->dC
open Bool renaming false_and->dD,true_and->dF
open Option renaming toList->dE
open Int renaming decEq->dG
section
open Go.Shelf Go.RowKit Go.Lib Go.Sort
open Lib renaming hid -> Jh
attribute [local go_sem ↓] Go.wp_at_zero Go.wp_at_succ
attribute [local go_sem] Later.cell
section
theorem MRows.snoc2 {B:Nat} {w1 w:World} {hs:List Hd3} {gs:List Ser} (m:MRows B w1 hs gs) (hb:Below w1.heap.size w1 w) {h:Hd3} {s:Ser} (hm:MRow B w h s) (h1:∀b,(spM h).ownBlock=some b->w1.heap.size<=b) (h2:∀b,(wpM h).ownBlock=some b->w1.heap.size<=b):MRows B w (hs ++ [h]) (gs ++ [s]):=by
 have mw:=m.below hb
 have aa:∀(i:Nat) (x:Hd3),(hs ++ [h])[i]? = some x->(hs[i]? = some x/\i < hs.length)\/(x=h/\i=hs.length):=fun i x hi=>by
  rcases db i hs.length with hl | hl
  .rw[List.getElem?_append_left hl] at hi;exact .inl ⟨hi,hl⟩
  .rw[List.getElem?_append_right hl] at hi;rcases dh (i - hs.length) with h0 | h0
   .rw[h0] at hi;exact .inr ⟨by simpa using hi.symm,by omega⟩
   .rw[List.getElem?_eq_none (by simp;omega)] at hi;cases hi
 have ac:∀(i:Nat) (x:Hd3),hs[i]? = some x->((spM x).ownBlock=none\/(spM x).ownBlock≠(spM h).ownBlock)/\((wpM x).ownBlock=none\/(wpM x).ownBlock≠(wpM h).ownBlock):=fun i x hi=>by
  have a:=m.at_ i x hi;refine ⟨?_,?_⟩
  .cases hq:(spM x).ownBlock with
   | none=>exact .inl rfl
   | some c=>
         refine .inr fun e=>?_
         have:=h1 c e.symm;have:=(a.sm.lt c hq).2;omega
  .cases hq:(wpM x).ownBlock with
   | none=>exact .inl rfl
   | some c=>
         refine .inr fun e=>?_
         have:=h2 c e.symm;have:=(a.wd.lt c hq).2;omega
 have ab:∀{a b:Option Nat},(a=none\/a≠b)->(b=none\/b≠a):=fun {a b} q=>by
  cases b with
  | none=>exact .inl rfl
  | some c=>
        refine .inr fun e=>?_
        rcases q with q | q
        .rw[q] at e;cases e
        .exact q e.symm
 refine ⟨by simp[m.len],fun i x hi=>?_,fun i j x y hi hj hij=>?_⟩
 .rcases aa i x hi with ⟨hi,hl⟩ | ⟨e1,e2⟩
  .rw[show (gs ++ [s])[i]! = gs[i]! by rw[i9 _ i (by have:=m.len;simp;omega),i9 gs i (by have:=m.len;omega),List.getElem_append_left]];exact mw.at_ i x hi
  .rw[e1,e2,show (gs ++ [s])[hs.length]! = s by rw[m.len];simp];exact hm
 .rcases aa i x hi with ⟨hi,hl⟩ | ⟨e1,e2⟩
  .rcases aa j y hj with ⟨hj,hl2⟩ | ⟨e3,e4⟩
   .exact m.sep i j x y hi hj hij
   .rw[e3];exact ac i x hi
  .rcases aa j y hj with ⟨hj,hl2⟩ | ⟨e3,e4⟩
   .rw[e1];have f:=ac j y hj;exact ⟨ab f.1,ab f.2⟩
   .omega
def keepS (fS:Ser->Smp->Bool) (fW:Ser->Wnd->Bool) (s:Ser):Ser:=⟨s.labels,s.samples.filter (fS s),s.windows.filter (fW s)⟩
def keptF (fS:Ser->Smp->Bool) (fW:Ser->Wnd->Bool) (l:List Ser):List Ser:=(l.map (keepS fS fW)).filter Kam
def Kje {β : Type} (P:Program) (g:Nat) (cb:Array Value) (enc:β->List Value) (f:Ser->β->Bool) (hs:List Hd3) (ss:List Ser) (of:Ser->List β) (w0:World):Prop:=
 ∀W,Below w0.heap.size w0 W->∀(i:Nat) (h:Hd3) (s:Ser),hs[i]? = some h->ss[i]! = s->∀y,y∈of s->Calls P g (#[.agg (encH3 h).toArray,.agg (enc y).toArray]++cb) W fun e w'=>e = .returned (.bool (f s y))/\Grown W w'
def Kbk (w:World) (B:Nat) (A:Option Addr) (n c:Nat) (L:List Ser):Prop:=
 ∃hs:List Hd3,hs.length=n/\w.ownsRow B 58 3 (.slice A n c) n (hs.flatMap encH3)/\MRows B w hs L
theorem Kbk.sers {w:World} {B:Nat} {A:Option Addr} {n c:Nat} {L:List Ser} (h:Kbk w B A n c L):Sers w A n L/\n<=c:=by obtain ⟨hs,rfl,h1,h2⟩:=h;obtain ⟨A9,c9,e9,hE,_,aa⟩:=Elems.of_own (xs:=hs) (fun x _=>Kda x) rfl h1 rfl;injection e9 with e9 _ e8;subst e9 e8;exact ⟨⟨hs,hE,h2.len.symm,fun i h hi=>h2.sers i h hi⟩,aa⟩
theorem Kbk.grown {w w':World} {B:Nat} {A:Option Addr} {n c:Nat} {L:List Ser} {row:Option Nat} (h:Kbk w B A n c L) (hg:w.grownBy w' row)
  (hrow:∀r,row=some r->∃t cs,Blk w r t cs/\t≠58/\t≠99/\t≠102/\t≠135):Kbk w' B A n c L:=by
 obtain ⟨hs,h0,h1,h2⟩:=h;refine ⟨hs,h0,Kcq h1 hg.size fun k hk=>hg.block k (h1.lt k hk).2 fun e=>?_,h2.frame hg fun r e=>?_⟩
 .obtain ⟨t,cs,hb,ht,_⟩:=hrow k e.symm;exact Kan hb h1 ht hk.symm
 .obtain ⟨t,cs,hb,_,ht⟩:=hrow r e;exact ⟨t,cs,hb,ht⟩
theorem MRows.mono {B B':Nat} {w:World} {hs:List Hd3} {gs:List Ser} (m:MRows B w hs gs) (hB:B'<=B):MRows B' w hs gs:=
 ⟨m.len,fun i h hi=>⟨(m.at_ i h hi).lb.imp id fun x=>Kce x hB,(m.at_ i h hi).ln,(m.at_ i h hi).lc,Kce (m.at_ i h hi).sm hB,Kce (m.at_ i h hi).wd hB⟩,m.sep⟩
theorem Kbk.mono {w:World} {B B':Nat} {A:Option Addr} {n c:Nat} {L:List Ser} (h:Kbk w B A n c L) (hB:B'<=B):Kbk w B' A n c L:=by obtain ⟨hs,h0,h1,h2⟩:=h;exact ⟨hs,h0,Kce h1 hB,h2.mono hB⟩
theorem Kbk.below {w w':World} {B:Nat} {A:Option Addr} {n c:Nat} {L:List Ser} (h:Kbk w B A n c L) (hb:Below w.heap.size w w'):Kbk w' B A n c L:=
 h.grown (row:=none) ⟨hb.os,hb.tape,hb.output,hb.size,fun k hk _=>hb.block k hk⟩ fun r e=>by cases e
theorem Kmp {w0:World} (fS:Ser->Smp->Bool) (fW:Ser->Wnd->Bool) (gS gW:Nat) (cS cW:Array Value) (A:Option Addr) (n c:Nat) (hs0:List Hd3) (ss:List Ser)
  (egS:∀args w,(callFunc gS args).run prog w = .ok (.enter gS args) w) (egW:∀args w,(callFunc gW args).run prog w = .ok (.enter gW args) w)
  (hE:Elems w0 w0.heap.size 3 encH3 A n hs0) (hss:ss.length=n) (hat:∀(i:Nat) (h:Hd3),hs0[i]? = some h->SerAt w0 h ss[i]!)
  (hz:∀s∈ss,s.labels.length<=1099511627776/\s.samples.length<=137438953472/\s.windows.length<=137438953472) (hn:n<=274877906944)
  (hS:Kje prog gS cS Kac fS hs0 ss Ser.samples w0) (hW:Kje prog gW cW Kad fW hs0 ss Ser.windows w0) :
  Calls prog 54 #[.slice A n c,.func (.func gS) #[] cS,.func (.func gW) #[] cW] w0 fun e w'=>∃(A':Option Addr) (n' c':Nat),e = .returned (.slice A' n' c')/\Kbk w' w0.heap.size A' n' c' (keptF fS fW ss)/\n'<=c'/\Below w0.heap.size w0 w':=by
 obtain ⟨ib,cH,cM,cC,cA⟩:=info_parts Kib;have HE:=Jh hE;have b5:=Jh hss;have cG:=Jh hat;have HZ:=Jh hz;have cB:Hid (∀W,Below w0.heap.size w0 W->∀(i:Nat) (h:Hd3) (s:Ser),hs0[i]? = some h->ss[i]! = s->∀y,y∈s.samples->Calls prog gS (#[.agg (encH3 h).toArray,.agg (Kac y).toArray]++cS) W fun e w'=>e = .returned (.bool (fS s y))/\Grown W w'):=hS;have cI:Hid (∀W,Below w0.heap.size w0 W->∀(i:Nat) (h:Hd3) (s:Ser),hs0[i]? = some h->ss[i]! = s->∀y,y∈s.windows->Calls prog gW (#[.agg (encH3 h).toArray,.agg (Kad y).toArray]++cW) W fun e w'=>e = .returned (.bool (fW s y))/\Grown W w'):=hW;have M0:Hid (MSt w0 w0 w0 (.slice none 0 0) [] (((ss.take 0).map (keepS fS fW)).filter Kam)):=⟨Below.refl _ _,Below.refl _ _,dq _ _ _ _,⟨rfl,fun i h hi=>by simp at hi,fun i j h h' hi=>by simp at hi⟩⟩;clear hE hss hat hz hS hW;go_enter func54,ntmps54
 go_wp2
 go_loopg [7,17] n (fun kx s7 s17 wr=>∃(i:Nat) (hs:List Hd3),s17 = .int .i64 (i:Int)/\i+kx=n/\Hid (MSt w0 w0 wr s7 hs (((ss.take i).map (keepS fS fW)).filter Kam)))
 case atStart=>exact ⟨0,[],rfl,by omega,M0⟩
 case round=>
  clear M0;obtain ⟨i,hs,rfl,hi,HM⟩:=hrel;rcases db i n with hlt | hge
  .have bn:(i:Int) < (n:Int):=by omega
   obtain ⟨A4,cV,bG⟩:=Kag HM.out.row;obtain ⟨m,hm⟩:=i7 hs.length;rw[<-hm] at bG;subst bG;have ck:Hid (hs.length=m):=hm.symm;obtain ⟨gs,bA⟩:=i7 (((ss.take i).map (keepS fS fW)).filter Kam);rw[<-bA] at HM;have cL:Hid (gs=((ss.take i).map (keepS fS fW)).filter Kam):=bA
   have hmz:m<=274877906944:=by
    have h1:=HM.out.rows.len
    have h2:gs.length<=i:=by rw[bA];refine dx (List.length_filter_le _ _) ?_;rw[dz,List.length_take];omega
    omega
   clear hm bA;obtain ⟨b0,aB,cE,bY,cm⟩:=HE.out.2 (by omega);have cD:=HE.out.len;obtain ⟨h,hh⟩:∃h,hs0[i]? = some h:=⟨hs0[i]'(by omega),cX _⟩;obtain ⟨s,bL⟩:∃s,ss[i]! = s:=⟨_,rfl⟩;have cp:Hid (hs0[i]? = some h):=hh;have cb:Hid (ss[i]! = s):=bL;have aA:=cG.out i h hh;rw[bL] at aA;have bl:s∈ss:=by rw[<-bL,i9 ss i (by rw[b5.out];exact hlt)];exact dd _
   have cw:=Jh (HZ.out s bl);have aa:∀r v,r < 3->(encH3 h)[r]? = some v->wr.cell? ⟨b0,aB+i*3+r,none⟩=some v:=fun r v _ hv=>(HM.out.b0.cell (p:=⟨b0,aB+i*3+r,none⟩) bY).trans (cm i h hh r v hv)
   have b1:b0 < wr.heap.size:=cN bY HM.out.b0.size;subst cE;obtain ⟨lA,bH⟩:=i7 h.l.A;obtain ⟨ln,bF⟩:=i7 h.l.n;obtain ⟨lc,b8⟩:=i7 h.l.c;obtain ⟨sA,bN⟩:=i7 h.s.A;obtain ⟨sn,a9⟩:=i7 h.s.n;obtain ⟨sc,b6⟩:=i7 h.s.c;obtain ⟨wA,bK⟩:=i7 h.w.A;obtain ⟨wn,bB⟩:=i7 h.w.n;obtain ⟨wc,bT⟩:=i7 h.w.c;have cs:Hid ((encH3 h).toArray = #[.slice lA ln lc,.slice sA sn sc,.slice wA wn wc]):=by show _=_;rw[bH,bF,b8,bN,a9,b6,bK,bB,bT];rfl
   have k0:wr.cell? ⟨b0,aB+i*3,none⟩=some (.slice lA ln lc):=by rw[bH,bF,b8];exact aa 0 _ (by decide) rfl
   have k1:wr.cell? ⟨b0,aB+i*3+1,none⟩=some (.slice sA sn sc):=by rw[bN,a9,b6];exact aa 1 _ (by decide) rfl
   have k2:wr.cell? ⟨b0,aB+i*3+2,none⟩=some (.slice wA wn wc):=by rw[bK,bB,bT];exact aa 2 _ (by decide) rfl
   have bD:Hid (Elems w0 w0.heap.size 2 Kac sA sn s.samples):=by show Elems _ _ _ _ _ _ _;rw[bN,a9];exact aA.s
   have bI:Hid (Elems w0 w0.heap.size 6 Kad wA wn s.windows):=by show Elems _ _ _ _ _ _ _;rw[bK,bB];exact aA.w
   have bp:Hid (Elems w0 w0.heap.size 2 encLb lA ln s.labels):=by show Elems _ _ _ _ _ _ _;rw[bH,bF];exact aA.l
   have aP:Hid (sn<=137438953472/\wn<=137438953472/\ln<=1099511627776):=by have h1:=bD.out.len;have h2:=bI.out.len;have h3:=bp.out.len;obtain ⟨z1,z2,z3⟩:=cw.out;exact ⟨by omega,by omega,by omega⟩
   have cf:=aP.out;clear cm cD hh bL aA bl aa bY bH bF b8 bN a9 b6 bK bB bT;go_upto_region 5 with fail
   obtain ⟨wa,bJ⟩:=i7 (wr.alloc (.cells #[.slice lA ln lc,.slice sA sn sc,.slice wA wn wc] 58));obtain ⟨p1,bW⟩:=i7 wr.heap.size;have bi:Hid (Blk wa p1 58 #[.slice lA ln lc,.slice sA sn sc,.slice wA wn wc]):=by show Blk _ _ _ _;rw[bJ,bW];exact di _ _ _
   have br:Hid (MSt w0 w0 wa (.slice A4 m cV) hs gs):=by show MSt _ _ _ _ _ _;rw[bJ];exact HM.out.below ((Below.refl _ _).alloc (cO _) _)
   rw[<-bJ,<-bW];have l0:=bi.out.cell 0;simp at l0;have cK:=bi.out.lt;have cl:=Jh (Khu s.labels lA ln lc wa ((bp.out.below br.out.b0).more br.out.b0.size) cf.2.2);clear bJ bW HM k0 k1 k2 b1;go_wp2_with fail
   refine cl.out.mono ?_;rintro _ w1 ⟨⟨af,ac,rfl,bh,aT⟩,cd⟩;have bz:Hid (MSt w0 w0 w1 (.slice A4 m cV) hs gs):=br.out.below cd;have aq:Hid (Blk w1 p1 58 #[.slice lA ln lc,.slice sA sn sc,.slice wA wn wc]):=bi.out.below cd bi.out.lt;have bV:Hid (ln=0\/w1.ownsRow w0.heap.size 99 2 (.slice af ln ac) ln (s.labels.flatMap encLb)):=aT.imp id fun y=>Kce y br.out.b0.size
   have bU:Hid (ln<=ac):=bh;have aL:Hid (Below w0.heap.size w0 w1):=bz.out.b0;have al:Hid (w0.heap.size<=w1.heap.size):=bz.out.b0.size;have l1:=aq.out.cell 1;have l2:=aq.out.cell 2;simp at l1 l2;have b2:=aq.out.lt;clear cd aT bh br bi cl l0 cK;go_upto_region 6 with fail
   obtain ⟨wq,bP⟩:=i7 (w1.alloc (.cells #[.slice af ln ac,.slice none 0 0,.slice none 0 0] 58));obtain ⟨p2,bX⟩:=i7 w1.heap.size;have aj:Hid (Blk wq p2 58 #[.slice af ln ac,.slice none 0 0,.slice none 0 0]):=by show Blk _ _ _ _;rw[bP,bX];exact di _ _ _
   have ah:Hid (Below w1.heap.size w1 wq):=by show Below _ _ _;rw[bP];exact (Below.refl _ _).alloc (cO _) _
   have bw:Hid (w1.heap.size<=p2):=by show _<=_;omega
   have cx:wq.cell? ⟨p1,1,none⟩=some (.slice sA sn sc):=(aq.out.below ah.out aq.out.lt).cell 1;have a7:p1 < wq.heap.size:=cN aq.out.lt ah.out.size;rw[<-bP,<-bX];clear bP bX l1 l2 b2;go_wp2_with fail
   go_loopg [28] sn (fun kx sj wr=>∃(j vn vc:Nat) (vA:Option Addr),sj = .int .i64 (j:Int)/\j+kx=sn/\vn<=j/\Hid (Below w1.heap.size w1 wr)/\Hid (Blk wr p2 58 #[.slice af ln ac,.slice vA vn vc,.slice none 0 0])/\Hid (wr.ownsRow w1.heap.size 102 2 (.slice vA vn vc) vn (((s.samples.take j).filter (fS s)).flatMap Kac))/\Hid (((s.samples.take j).filter (fS s)).length=vn))
   case atStart=>exact ⟨0,0,0,none,rfl,by omega,by omega,ah,aj,(show Hid _ from dq _ _ _ _),rfl⟩
   case round=>
    clear ah aj;obtain ⟨j,vn,vc,vA,rfl,hj,cq,ah,aj,HR,ar⟩:=hrel;rcases db j sn with hlt | hge
    .have bn:(j:Int) < (sn:Int):=by omega
     obtain ⟨b,ak,hA,hb,hc⟩:=bD.out.2 (by omega);have hl:=bD.out.len;obtain ⟨y,hy⟩:∃y,s.samples[j]? = some y:=⟨s.samples[j]'(by omega),cX _⟩;have aa:∀r v,r < 2->(Kac y)[r]? = some v->wr.cell? ⟨b,ak+j*2+r,none⟩=some v:=fun r v _ hv=>(ah.out.cell (p:=⟨b,ak+j*2+r,none⟩) (cN hb al.out)).trans ((aL.out.cell (p:=⟨b,ak+j*2+r,none⟩) hb).trans (hc j y hy r v hv))
     have ap:(s.samples.take (j+1)).filter (fS s)=(s.samples.take j).filter (fS s)++(if fS s y=true then [y] else []):=by rw[cZ,hy,dj];congr 1;simp only[dE,dp,dA]
     have aH:Hid ((s.samples.take (j+1)).filter (fS s)=(s.samples.take j).filter (fS s)++(if fS s y=true then [y] else [])):=ap;have aY:Hid (∀W,Below w1.heap.size w1 W->Calls prog gS (#[.agg (encH3 h).toArray,.agg (Kac y).toArray]++cS) W fun e w'=>e = .returned (.bool (fS s y))/\Grown W w'):=fun W hW=>cB.out W (aL.out.trans (hW.mono al.out)) i h s cp.out cb.out y (cU hy)
     subst hA;obtain ⟨r,hr⟩:=i7 (fS s y);rw[<-hr] at aY aH;obtain ⟨hh,bc⟩:=i7 h;have b7:Hid (hh=h):=bc;obtain ⟨y1,y2⟩:=y
     have a0:Hid (∀W,Below w1.heap.size w1 W->Calls prog gS (#[.agg #[.slice lA ln lc,.slice (some ⟨b,ak,none⟩) sn sc,.slice wA wn wc],.agg #[.int .i64 y1,.int .u64 (y2:Int)]]++cS) W fun e w'=>e = .returned (.bool r)/\Grown W w'):=fun W hW=>by have:=aY.out W hW;rw[cs.out] at this;exact this
     have k0:wr.cell? ⟨b,ak+j*2,none⟩=some (.int .i64 y1):=aa 0 _ (by decide) rfl;have k1:wr.cell? ⟨b,ak+j*2+1,none⟩=some (.int .u64 (y2:Int)):=aa 1 _ (by decide) rfl;have ca:b < wr.heap.size:=cN (cN hb al.out) ah.out.size;clear hc hl aa ap hr bc hy aY hb;clear hh b7;go_upto_region 9 with fail
     obtain ⟨wb,aO⟩:=i7 (wr.alloc (.cells #[.int .i64 y1,.int .u64 (y2:Int)] 102));obtain ⟨p3,a5⟩:=i7 wr.heap.size;have ay:Blk wb p3 102 #[.int .i64 y1,.int .u64 (y2:Int)]:=by rw[aO,a5];exact di _ _ _
     have aJ:Below wr.heap.size wr wb:=by rw[aO];exact (Below.refl _ _).alloc (cO _) _
     have aF:Hid (Below w1.heap.size w1 wb):=ah.out.trans (aJ.mono ah.out.size);have a4:Hid (Blk wb p2 58 #[.slice af ln ac,.slice vA vn vc,.slice none 0 0]):=aj.out.below aJ aj.out.lt;have bo:Hid (wb.ownsRow w1.heap.size 102 2 (.slice vA vn vc) vn (((s.samples.take j).filter (fS s)).flatMap Kac)):=Kbb HR.out aJ;have ab:Hid (Blk wb p3 102 #[.int .i64 y1,.int .u64 (y2:Int)]):=ay;have ag:Hid (Blk wb p1 58 #[.slice lA ln lc,.slice (some ⟨b,ak,none⟩) sn sc,.slice wA wn wc]):=aq.out.below aF.out aq.out.lt;rw[<-aO,<-a5];have q0:=ab.out.cell 0;have q1:=ab.out.cell 1;have r0:=ag.out.cell 0;have r1:=ag.out.cell 1;have r2:=ag.out.cell 2;simp at q0 q1 r0 r1 r2;have aC:=ab.out.lt;have aZ:=ag.out.lt;clear aO a5 ay aJ ah aj HR k0 k1 ca;go_wp2_with fail
     refine (a0.out _ aF.out).mono ?_;rintro _ w5 ⟨rfl,bt⟩;have aw:=bt.below;have aQ:Hid (Below w1.heap.size w1 w5):=aF.out.trans (aw.mono aF.out.size);have av:Hid (Blk w5 p2 58 #[.slice af ln ac,.slice vA vn vc,.slice none 0 0]):=a4.out.below aw a4.out.lt;have aM:Hid (w5.ownsRow w1.heap.size 102 2 (.slice vA vn vc) vn (((s.samples.take j).filter (fS s)).flatMap Kac)):=Kbb bo.out aw;have ad:Hid (Blk w5 p3 102 #[.int .i64 y1,.int .u64 (y2:Int)]):=ab.out.below aw ab.out.lt;clear bt aw aF a4 bo ab ag q0 q1 r0 r1 r2 aC aZ
     cases r with
     | false=>
      have hE:(s.samples.take (j+1)).filter (fS s)=(s.samples.take j).filter (fS s):=by rw[aH.out];simp
      have b9:Hid (w5.ownsRow w1.heap.size 102 2 (.slice vA vn vc) vn (((s.samples.take (j+1)).filter (fS s)).flatMap Kac)):=by show dm _ _ _ _ _ _ _;rw[hE];exact aM.out
      have a2:Hid (((s.samples.take (j+1)).filter (fS s)).length=vn):=by show _=_;rw[hE];exact ar.out
      clear hE aM ar aH;go_wp2_with fail
      go_roundg (sn - (j+1))
      case measure=>omega
      case rel=>exact ⟨j+1,vn,vc,vA,by first | rfl | go_num,by omega,by omega,aQ,av,b9,a2⟩
     | true=>
      have hE:(s.samples.take (j+1)).filter (fS s)=(s.samples.take j).filter (fS s) ++ [⟨y1,y2⟩]:=by rw[aH.out];simp
      have a3:Hid ((s.samples.take (j+1)).filter (fS s)=(s.samples.take j).filter (fS s) ++ [⟨y1,y2⟩]):=hE;have e0:=av.out.cell 1;simp at e0;have q0:=ad.out.cell 0;have q1:=ad.out.cell 1;simp at q0 q1;have aG:=av.out.lt;have aC:=ad.out.lt;obtain ⟨i1,be,bs,bj,bm⟩:=info_parts Krp;obtain ⟨w6,aD⟩:=i7 (w5.alloc (.cells #[.int .i64 y1,.int .u64 (y2:Int)] 102));have aI:Below w5.heap.size w5 w6:=by rw[aD];exact (Below.refl _ _).alloc (cO _) _
      have an:Blk w6 w5.heap.size 102 #[.int .i64 y1,.int .u64 (y2:Int)]:=by rw[aD];exact di _ _ _
      have ai:w6.ownsRow w1.heap.size 102 2 (.slice vA vn vc) vn (((s.samples.take j).filter (fS s)).flatMap Kac):=Kbb aM.out aI;have ae:=Jh ai;have aN:Hid (Below w1.heap.size w1 w6):=aQ.out.trans (aI.mono aQ.out.size);have a6:Hid (Blk w6 p2 58 #[.slice af ln ac,.slice vA vn vc,.slice none 0 0]):=av.out.below aI av.out.lt;have bg:=aN.out.size;have b4:vn<=1099511627776:=by have:=aP.out;omega
      clear hE aI aM aH ad;go_wp2_with (at_builtin;(try rw[<-aD]);refine dI _ rfl _ _ 55 rfl w1.heap.size 102 i1 (.agg #[.int .i64 0,.int .u64 0]) 2 16 underlying55 be bs bj bm rfl (by decide) (.slice vA vn vc) vn _ rfl ai ⟨w5.heap.size,0,none⟩ 1 1 [.int .i64 y1,.int .u64 (y2:Int)] rfl rfl (Kao (l:=[.int .i64 y1,.int .u64 (y2:Int)]) an) ?p2 ?p3 ?p4 ?p5 ?_)
      case p2=>intro u hu;simp only[dw,dr,or_false] at hu;rcases hu with rfl | rfl <;> rfl
      case p3=>unfold maxLen;omega
      case p4=>omega
      case p5=>exact bg
      intro v6 w7 hown' hgrow _ hat;rw[<-aD] at hgrow;obtain ⟨A7,c7,rfl⟩:=Kag hown';have az:∀k,(Value.slice vA vn vc).ownBlock=some k->w1.heap.size<=k:=fun k hk=>(ae.out.lt k hk).1
      have bx:Below w1.heap.size w1 w7:=aN.out.grown hgrow aN.out.size az;have ao:Blk w7 p2 58 #[.slice af ln ac,.slice vA vn vc,.slice none 0 0]:=a6.out.grown hgrow (Kan a6.out ae.out (by decide));have aU:Hid (Below w1.heap.size w1 (w7.setCell ⟨p2,1,none⟩ (.slice A7 (vn+1) c7))):=bx.setCell (p:=⟨p2,1,none⟩) bw.out _;have aK:Hid (Blk (w7.setCell ⟨p2,1,none⟩ (.slice A7 (vn+1) c7)) p2 58 #[.slice af ln ac,.slice A7 (vn+1) c7,.slice none 0 0]):=ao.set_ 1 _
      have b3:Hid ((w7.setCell ⟨p2,1,none⟩ (.slice A7 (vn+1) c7)).ownsRow w1.heap.size 102 2 (.slice A7 (vn+1) c7) (vn+1) (((s.samples.take (j+1)).filter (fS s)).flatMap Kac)):=by
       show dm _ _ _ _ _ _ _
       rw[a3.out,df,dc];exact Kbt hown' ao (by decide)
      have aX:Hid (((s.samples.take (j+1)).filter (fS s)).length=vn+1):=by show _=_;rw[a3.out,dl,ar.out];rfl
      have d7:=ao.cell 1;simp at d7;have f7:=ao.frozen 1;have bZ:=ao.lt;clear hown' hgrow hat az bx ao ai an ae aN a6 a3 ar av aQ e0 q0 q1 aD bg b4 be bs bj bm;go_wp2_with fail
      go_roundg (sn - (j+1))
      case measure=>omega
      case rel=>exact ⟨j+1,vn+1,c7,A7,by first | rfl | go_num,by omega,by omega,aU,aK,b3,aX⟩
    .have bn:¬(j:Int) < (sn:Int):=by omega
     clear cx a7;obtain ⟨SA,cg⟩:=i7 vA;obtain ⟨SN,ba⟩:=i7 vn;obtain ⟨SC,bS⟩:=i7 vc;obtain ⟨SL,bQ⟩:=i7 (s.samples.filter (fS s));have ap:s.samples.take j=s.samples:=cR (by have:=bD.out.len;omega);have bd:Hid (SL=s.samples.filter (fS s)):=bQ
     have bk:Hid (wr.ownsRow w1.heap.size 102 2 (.slice SA SN SC) SN (SL.flatMap Kac)):=by have h1:=HR.out;rw[ap,<-bQ,<-cg,<-ba,<-bS] at h1;exact h1
     have cv:Hid (SL.length=SN):=by have h1:=ar.out;rw[ap,<-bQ,<-ba] at h1;exact h1
     rw[<-cg,<-ba,<-bS] at aj;have cz:SN<=137438953472:=by rw[ba];omega
     have cy:wr.cell? ⟨p1,2,none⟩=some (.slice wA wn wc):=(aq.out.below ah.out aq.out.lt).cell 2;have a7:p1 < wr.heap.size:=cN aq.out.lt ah.out.size;clear cg ba bS bQ ap HR ar cq;clear vA vn vc;go_wp2_with fail
     go_loopg [46] wn (fun kx sj wr=>∃(j vn vc:Nat) (vA:Option Addr),sj = .int .i64 (j:Int)/\j+kx=wn/\vn<=j/\Hid (Below w1.heap.size w1 wr)/\Hid (Blk wr p2 58 #[.slice af ln ac,.slice SA SN SC,.slice vA vn vc])/\Hid (wr.ownsRow w1.heap.size 135 6 (.slice vA vn vc) vn (((s.windows.take j).filter (fW s)).flatMap Kad))/\Hid (((s.windows.take j).filter (fW s)).length=vn)/\Hid (wr.ownsRow w1.heap.size 102 2 (.slice SA SN SC) SN (SL.flatMap Kac)))
     case atStart=>exact ⟨0,0,0,none,rfl,by omega,by omega,ah,aj,(show Hid _ from dq _ _ _ _),rfl,bk⟩
     case round=>
      clear ah aj bk;obtain ⟨j,vn,vc,vA,rfl,hj,cq,ah,aj,HR,ar,bM⟩:=hrel;rcases db j wn with hlt | hge
      .have bn:(j:Int) < (wn:Int):=by omega
       obtain ⟨b,ak,hA,hb,hc⟩:=bI.out.2 (by omega);have hl:=bI.out.len;obtain ⟨y,hy⟩:∃y,s.windows[j]? = some y:=⟨s.windows[j]'(by omega),cX _⟩;have aa:∀r v,r < 6->(Kad y)[r]? = some v->wr.cell? ⟨b,ak+j*6+r,none⟩=some v:=fun r v _ hv=>(ah.out.cell (p:=⟨b,ak+j*6+r,none⟩) (cN hb al.out)).trans ((aL.out.cell (p:=⟨b,ak+j*6+r,none⟩) hb).trans (hc j y hy r v hv))
       have ap:(s.windows.take (j+1)).filter (fW s)=(s.windows.take j).filter (fW s)++(if fW s y=true then [y] else []):=by rw[cZ,hy,dj];congr 1;simp only[dE,dp,dA]
       have aH:Hid ((s.windows.take (j+1)).filter (fW s)=(s.windows.take j).filter (fW s)++(if fW s y=true then [y] else [])):=ap;have aY:Hid (∀W,Below w1.heap.size w1 W->Calls prog gW (#[.agg (encH3 h).toArray,.agg (Kad y).toArray]++cW) W fun e w'=>e = .returned (.bool (fW s y))/\Grown W w'):=fun W hW=>cI.out W (aL.out.trans (hW.mono al.out)) i h s cp.out cb.out y (cU hy)
       subst hA;obtain ⟨r,hr⟩:=i7 (fW s y);rw[<-hr] at aY aH;obtain ⟨hh,bc⟩:=i7 h;have b7:Hid (hh=h):=bc;obtain ⟨y1,y2,y3,y4,y5,y6⟩:=y
       have a0:Hid (∀W,Below w1.heap.size w1 W->Calls prog gW (#[.agg #[.slice lA ln lc,.slice sA sn sc,.slice (some ⟨b,ak,none⟩) wn wc],.agg #[.int .i64 y1,.int .i64 y2,.int .u64 (y3:Int),.int .u64 (y4:Int),.int .u64 (y5:Int),.int .u64 (y6:Int)]]++cW) W fun e w'=>e = .returned (.bool r)/\Grown W w'):=fun W hW=>by have:=aY.out W hW;rw[cs.out] at this;exact this
       have k0:wr.cell? ⟨b,ak+j*6,none⟩=some (.int .i64 y1):=aa 0 _ (by decide) rfl;have k1:wr.cell? ⟨b,ak+j*6+1,none⟩=some (.int .i64 y2):=aa 1 _ (by decide) rfl;have k2:wr.cell? ⟨b,ak+j*6+2,none⟩=some (.int .u64 (y3:Int)):=aa 2 _ (by decide) rfl;have k3:wr.cell? ⟨b,ak+j*6+3,none⟩=some (.int .u64 (y4:Int)):=aa 3 _ (by decide) rfl;have k4:wr.cell? ⟨b,ak+j*6+4,none⟩=some (.int .u64 (y5:Int)):=aa 4 _ (by decide) rfl;have k5:wr.cell? ⟨b,ak+j*6+5,none⟩=some (.int .u64 (y6:Int)):=aa 5 _ (by decide) rfl;have ca:b < wr.heap.size:=cN (cN hb al.out) ah.out.size;clear hc hl aa ap hr bc hy aY hb;clear hh b7;go_upto_region 15 with fail
       obtain ⟨wb,aO⟩:=i7 (wr.alloc (.cells #[.int .i64 y1,.int .i64 y2,.int .u64 (y3:Int),.int .u64 (y4:Int),.int .u64 (y5:Int),.int .u64 (y6:Int)] 135));obtain ⟨p3,a5⟩:=i7 wr.heap.size;have ay:Blk wb p3 135 #[.int .i64 y1,.int .i64 y2,.int .u64 (y3:Int),.int .u64 (y4:Int),.int .u64 (y5:Int),.int .u64 (y6:Int)]:=by rw[aO,a5];exact di _ _ _
       have aJ:Below wr.heap.size wr wb:=by rw[aO];exact (Below.refl _ _).alloc (cO _) _
       have aF:Hid (Below w1.heap.size w1 wb):=ah.out.trans (aJ.mono ah.out.size);have a4:Hid (Blk wb p2 58 #[.slice af ln ac,.slice SA SN SC,.slice vA vn vc]):=aj.out.below aJ aj.out.lt;have bo:Hid (wb.ownsRow w1.heap.size 135 6 (.slice vA vn vc) vn (((s.windows.take j).filter (fW s)).flatMap Kad)):=Kbb HR.out aJ;have ab:Hid (Blk wb p3 135 #[.int .i64 y1,.int .i64 y2,.int .u64 (y3:Int),.int .u64 (y4:Int),.int .u64 (y5:Int),.int .u64 (y6:Int)]):=ay;have ag:Hid (Blk wb p1 58 #[.slice lA ln lc,.slice sA sn sc,.slice (some ⟨b,ak,none⟩) wn wc]):=aq.out.below aF.out aq.out.lt;have bf:Hid (wb.ownsRow w1.heap.size 102 2 (.slice SA SN SC) SN (SL.flatMap Kac)):=Kbb bM.out aJ;rw[<-aO,<-a5];have q0:=ab.out.cell 0;have q1:=ab.out.cell 1;have q2:=ab.out.cell 2;have q3:=ab.out.cell 3;have q4:=ab.out.cell 4;have q5:=ab.out.cell 5;have r0:=ag.out.cell 0;have r1:=ag.out.cell 1;have r2:=ag.out.cell 2;simp at q0 q1 q2 q3 q4 q5 r0 r1 r2;have aC:=ab.out.lt;have aZ:=ag.out.lt;clear aO a5 ay aJ ah aj HR k0 k1 k2 k3 k4 k5 ca bM;go_wp2_with fail
       refine (a0.out _ aF.out).mono ?_;rintro _ w5 ⟨rfl,bt⟩;have aw:=bt.below;have aQ:Hid (Below w1.heap.size w1 w5):=aF.out.trans (aw.mono aF.out.size);have av:Hid (Blk w5 p2 58 #[.slice af ln ac,.slice SA SN SC,.slice vA vn vc]):=a4.out.below aw a4.out.lt;have aM:Hid (w5.ownsRow w1.heap.size 135 6 (.slice vA vn vc) vn (((s.windows.take j).filter (fW s)).flatMap Kad)):=Kbb bo.out aw;have ad:Hid (Blk w5 p3 135 #[.int .i64 y1,.int .i64 y2,.int .u64 (y3:Int),.int .u64 (y4:Int),.int .u64 (y5:Int),.int .u64 (y6:Int)]):=ab.out.below aw ab.out.lt;have a1:Hid (w5.ownsRow w1.heap.size 102 2 (.slice SA SN SC) SN (SL.flatMap Kac)):=Kbb bf.out aw;clear bt aw aF a4 bo ab ag q0 q1 q2 q3 q4 q5 r0 r1 r2 aC aZ bf
       cases r with
       | false=>
        have hE:(s.windows.take (j+1)).filter (fW s)=(s.windows.take j).filter (fW s):=by rw[aH.out];simp
        have b9:Hid (w5.ownsRow w1.heap.size 135 6 (.slice vA vn vc) vn (((s.windows.take (j+1)).filter (fW s)).flatMap Kad)):=by show dm _ _ _ _ _ _ _;rw[hE];exact aM.out
        have a2:Hid (((s.windows.take (j+1)).filter (fW s)).length=vn):=by show _=_;rw[hE];exact ar.out
        clear hE aM ar aH;go_wp2_with fail
        go_roundg (wn - (j+1))
        case measure=>omega
        case rel=>exact ⟨j+1,vn,vc,vA,by first | rfl | go_num,by omega,by omega,aQ,av,b9,a2,a1⟩
       | true=>
        have hE:(s.windows.take (j+1)).filter (fW s)=(s.windows.take j).filter (fW s) ++ [⟨y1,y2,y3,y4,y5,y6⟩]:=by rw[aH.out];simp
        have a3:Hid ((s.windows.take (j+1)).filter (fW s)=(s.windows.take j).filter (fW s) ++ [⟨y1,y2,y3,y4,y5,y6⟩]):=hE;have e0:=av.out.cell 2;simp at e0;have q0:=ad.out.cell 0;have q1:=ad.out.cell 1;have q2:=ad.out.cell 2;have q3:=ad.out.cell 3;have q4:=ad.out.cell 4;have q5:=ad.out.cell 5;simp at q0 q1 q2 q3 q4 q5;have aG:=av.out.lt;have aC:=ad.out.lt;obtain ⟨i1,be,bs,bj,bm⟩:=info_parts Krq;obtain ⟨w6,aD⟩:=i7 (w5.alloc (.cells #[.int .i64 y1,.int .i64 y2,.int .u64 (y3:Int),.int .u64 (y4:Int),.int .u64 (y5:Int),.int .u64 (y6:Int)] 135));have aI:Below w5.heap.size w5 w6:=by rw[aD];exact (Below.refl _ _).alloc (cO _) _
        have an:Blk w6 w5.heap.size 135 #[.int .i64 y1,.int .i64 y2,.int .u64 (y3:Int),.int .u64 (y4:Int),.int .u64 (y5:Int),.int .u64 (y6:Int)]:=by rw[aD];exact di _ _ _
        have ai:w6.ownsRow w1.heap.size 135 6 (.slice vA vn vc) vn (((s.windows.take j).filter (fW s)).flatMap Kad):=Kbb aM.out aI;have ae:=Jh ai;have aN:Hid (Below w1.heap.size w1 w6):=aQ.out.trans (aI.mono aQ.out.size);have a6:Hid (Blk w6 p2 58 #[.slice af ln ac,.slice SA SN SC,.slice vA vn vc]):=av.out.below aI av.out.lt;have aS:Hid (w6.ownsRow w1.heap.size 102 2 (.slice SA SN SC) SN (SL.flatMap Kac)):=Kbb a1.out aI;have bg:=aN.out.size;have b4:vn<=1099511627776:=by have:=aP.out;omega
        clear hE aI aM aH ad a1;go_wp2_with (at_builtin;(try rw[<-aD]);refine dI _ rfl _ _ 56 rfl w1.heap.size 135 i1 (.agg #[.int .i64 0,.int .i64 0,.int .u64 0,.int .u64 0,.int .u64 0,.int .u64 0]) 6 48 underlying56 be bs bj bm rfl (by decide) (.slice vA vn vc) vn _ rfl ai ⟨w5.heap.size,0,none⟩ 1 1 [.int .i64 y1,.int .i64 y2,.int .u64 (y3:Int),.int .u64 (y4:Int),.int .u64 (y5:Int),.int .u64 (y6:Int)] rfl rfl (Kao (l:=[.int .i64 y1,.int .i64 y2,.int .u64 (y3:Int),.int .u64 (y4:Int),.int .u64 (y5:Int),.int .u64 (y6:Int)]) an) ?p2 ?p3 ?p4 ?p5 ?_)
        case p2=>intro u hu;simp only[dw,dr,or_false] at hu;rcases hu with rfl | rfl | rfl | rfl | rfl | rfl <;> rfl
        case p3=>unfold maxLen;omega
        case p4=>omega
        case p5=>exact bg
        intro v6 w7 hown' hgrow _ hat;rw[<-aD] at hgrow;obtain ⟨A7,c7,rfl⟩:=Kag hown';have az:∀k,(Value.slice vA vn vc).ownBlock=some k->w1.heap.size<=k:=fun k hk=>(ae.out.lt k hk).1
        have bx:Below w1.heap.size w1 w7:=aN.out.grown hgrow aN.out.size az;have ao:Blk w7 p2 58 #[.slice af ln ac,.slice SA SN SC,.slice vA vn vc]:=a6.out.grown hgrow (Kan a6.out ae.out (by decide));have aU:Hid (Below w1.heap.size w1 (w7.setCell ⟨p2,2,none⟩ (.slice A7 (vn+1) c7))):=bx.setCell (p:=⟨p2,2,none⟩) bw.out _;have aK:Hid (Blk (w7.setCell ⟨p2,2,none⟩ (.slice A7 (vn+1) c7)) p2 58 #[.slice af ln ac,.slice SA SN SC,.slice A7 (vn+1) c7]):=ao.set_ 2 _
        have b3:Hid ((w7.setCell ⟨p2,2,none⟩ (.slice A7 (vn+1) c7)).ownsRow w1.heap.size 135 6 (.slice A7 (vn+1) c7) (vn+1) (((s.windows.take (j+1)).filter (fW s)).flatMap Kad)):=by
         show dm _ _ _ _ _ _ _
         rw[a3.out,df,dc];exact Kbt hown' ao (by decide)
        have aX:Hid (((s.windows.take (j+1)).filter (fW s)).length=vn+1):=by show _=_;rw[a3.out,dl,ar.out];rfl
        have ce:Hid ((w7.setCell ⟨p2,2,none⟩ (.slice A7 (vn+1) c7)).ownsRow w1.heap.size 102 2 (.slice SA SN SC) SN (SL.flatMap Kac)):=by
         have h7:w7.ownsRow w1.heap.size 102 2 (.slice SA SN SC) SN (SL.flatMap Kac):=Kcq aS.out hgrow.size fun k hk=>hgrow.block k (aS.out.lt k hk).2 fun e=>(Kav aS.out ae.out (by decide)).elim (fun q=>by rw[q] at hk;cases hk) (fun q=>q (hk.trans e))
         exact Kbt h7 ao (by decide)
        have d7:=ao.cell 2;simp at d7;have f7:=ao.frozen 2;have bZ:=ao.lt;clear hown' hgrow hat az bx ao ai an ae aN a6 a3 ar av aQ e0 q0 q1 q2 q3 q4 q5 aD bg b4 be bs bj bm aS;go_wp2_with fail
        go_roundg (wn - (j+1))
        case measure=>omega
        case rel=>exact ⟨j+1,vn+1,c7,A7,by first | rfl | go_num,by omega,by omega,aU,aK,b3,aX,ce⟩
      .have bn:¬(j:Int) < (wn:Int):=by omega
       have ap:s.windows.take j=s.windows:=cR (by have:=bI.out.len;omega)
       have ci:Hid (wr.ownsRow w1.heap.size 135 6 (.slice vA vn vc) vn ((s.windows.filter (fW s)).flatMap Kad)):=by have h1:=HR.out;rw[ap] at h1;exact h1
       have ct:Hid ((s.windows.filter (fW s)).length=vn):=by have h1:=ar.out;rw[ap] at h1;exact h1
       have am:=Jh (fun W=>Kpl ⟨⟨af,ln,ac⟩,⟨SA,SN,SC⟩,⟨vA,vn,vc⟩⟩ ⟨by show SN<=_;omega,by show vn<=_;have:=aP.out;omega⟩ W);have e0:=aj.out.cell 0;have e1:=aj.out.cell 1;have e2:=aj.out.cell 2;simp at e0 e1 e2;have aG:=aj.out.lt;clear ap HR ar cy a7;obtain ⟨rr,cc⟩:=i7 (goodH ⟨⟨af,ln,ac⟩,⟨SA,SN,SC⟩,⟨vA,vn,vc⟩⟩)
       have cJ:Hid (rr=Kam (keepS fS fW s)):=by
        show _=_
        rw[cc];unfold goodH Kam keepS;dsimp only;rw[<-bd.out,cv.out,ct.out]
       rw[<-cc] at am;unfold encH3 at am;dsimp only at am
       have ax:((ss.take (i+1)).map (keepS fS fW)).filter Kam=gs++(if rr=true then [keepS fS fW s] else []):=by
        have ch:i < ss.length:=by rw[b5.out];exact hlt
        rw[cZ,cX ch,dv,dj,<-cL.out,cJ.out];congr 1;rw[show ss[i]=s by rw[<-cb.out,i9 ss i ch]];simp[dp]
       have aR:Hid (((ss.take (i+1)).map (keepS fS fW)).filter Kam=gs++(if rr=true then [keepS fS fW s] else [])):=ax;clear cc ax;go_wp2_with fail
       refine (am.out _).mono ?_;rintro _ w8 ⟨rfl,cr⟩;have bv:=cr.below;have aU:Hid (Below w1.heap.size w1 w8):=ah.out.trans (bv.mono ah.out.size);have aK:Hid (Blk w8 p2 58 #[.slice af ln ac,.slice SA SN SC,.slice vA vn vc]):=aj.out.below bv aj.out.lt;have bO:Hid (w8.ownsRow w1.heap.size 102 2 (.slice SA SN SC) SN (SL.flatMap Kac)):=Kbb bM.out bv;have bC:Hid (w8.ownsRow w1.heap.size 135 6 (.slice vA vn vc) vn ((s.windows.filter (fW s)).flatMap Kad)):=Kbb ci.out bv;clear cr bv ah aj bM ci am e0 e1 e2 aG
       cases rr with
       | false=>
        have bR:Hid (MSt w0 w0 w8 (.slice A4 m cV) hs (((ss.take (i+1)).map (keepS fS fW)).filter Kam)):=by
         show MSt _ _ _ _ _ _
         rw[aR.out];simpa using bz.out.below aU.out
        clear aR bO bC aK;go_wp2_with fail
        go_roundg (n - (i+1))
        case measure=>omega
        case rel=>exact ⟨i+1,hs,by first | rfl | go_num,by omega,bR⟩
       | true=>
        have e0:=aK.out.cell 0;have e1:=aK.out.cell 1;have e2:=aK.out.cell 2;simp at e0 e1 e2;have aG:=aK.out.lt;obtain ⟨w9,bq⟩:=i7 (w8.alloc (.cells #[.slice af ln ac,.slice SA SN SC,.slice vA vn vc] 58));have bE:Below w8.heap.size w8 w9:=by rw[bq];exact (Below.refl _ _).alloc (cO _) _
        have aV:Blk w9 w8.heap.size 58 #[.slice af ln ac,.slice SA SN SC,.slice vA vn vc]:=by rw[bq];exact di _ _ _
        have aE:Below w1.heap.size w1 w9:=aU.out.trans (bE.mono aU.out.size);have a8:Hid (MSt w0 w0 w9 (.slice A4 m cV) hs gs):=bz.out.below aE;have aW:w9.ownsRow w0.heap.size 58 3 (.slice A4 m cV) m (hs.flatMap encH3):=by have:=a8.out.row;rw[ck.out] at this;exact this
        have cn:MRow w0.heap.size w9 ⟨⟨af,ln,ac⟩,⟨SA,SN,SC⟩,⟨vA,vn,vc⟩⟩ (keepS fS fW s):=by
         refine ⟨?_,bp.out.len,bU.out,?_,?_⟩
         .rcases bV.out with e | e
          .exact .inl ⟨e,List.eq_nil_of_length_eq_zero (by show s.labels.length=0;rw[bp.out.len];exact e)⟩
          .refine .inr ?_;show w9.ownsRow _ _ _ _ s.labels.length _
           rw[bp.out.len];exact Kcq e aE.size fun k hk=>aE.block k (e.lt k hk).2
         .show w9.ownsRow _ _ _ _ (s.samples.filter (fS s)).length ((s.samples.filter (fS s)).flatMap Kac)
          rw[<-bd.out,cv.out];exact Kce (Kbb bO.out bE) al.out
         .show w9.ownsRow _ _ _ _ (s.windows.filter (fW s)).length ((s.windows.filter (fW s)).flatMap Kad)
          rw[ct.out];exact Kce (Kbb bC.out bE) al.out
        have bb:Hid (MRows w0.heap.size w9 (hs ++ [⟨⟨af,ln,ac⟩,⟨SA,SN,SC⟩,⟨vA,vn,vc⟩⟩]) (gs ++ [keepS fS fW s])):=bz.out.rows.snoc2 aE cn (fun b hb=>(bO.out.lt b hb).1) (fun b hb=>(bC.out.lt b hb).1);have co:=a8.out.b0.size;clear cn bE aE bO bC aK aU;go_wp2_with (at_builtin;(try rw[<-bq]);refine dI _ rfl _ _ 26 rfl w0.heap.size 58 ib (.agg #[.slice none 0 0,.slice none 0 0,.slice none 0 0]) 3 72 underlying26 cH cM cC cA rfl (by decide) (.slice A4 m cV) m _ rfl aW ⟨w8.heap.size,0,none⟩ 1 1 [.slice af ln ac,.slice SA SN SC,.slice vA vn vc] rfl rfl (Kao (l:=[.slice af ln ac,.slice SA SN SC,.slice vA vn vc]) aV) ?p2 ?p3 ?p4 ?p5 ?_)
        case p2=>intro u hu;simp only[dw,dr,or_false] at hu;rcases hu with rfl | rfl | rfl <;> rfl
        case p3=>unfold maxLen;omega
        case p4=>omega
        case p5=>exact co
        intro v9 wz hown' hgrow _ hat;rw[<-bq] at hgrow;obtain ⟨A9,c9,rfl⟩:=Kag hown'
        have bR:Hid (MSt w0 w0 wz (.slice A9 (m+1) c9) (hs ++ [⟨⟨af,ln,ac⟩,⟨SA,SN,SC⟩,⟨vA,vn,vc⟩⟩]) (((ss.take (i+1)).map (keepS fS fW)).filter Kam)):=by
         show MSt _ _ _ _ _ _
         rw[aR.out];obtain ⟨q1,q2⟩:=a8.out.low (cO _) hgrow (fun k hk=>(a8.out.row.lt k hk).1);refine ⟨q1,q2,?_,?_⟩
         .rw[df,dc,dl,ck.out];exact hown'
         .refine bb.out.frame hgrow fun r e=>?_
          obtain ⟨cu,cF⟩:=Kax a8.out.row e;exact ⟨_,cu,cF,by decide,by decide,by decide⟩
        generalize hs ++ [(⟨⟨af,ln,ac⟩,⟨SA,SN,SC⟩,⟨vA,vn,vc⟩⟩:Hd3)]=a9 at bR;clear hown' hgrow hat aW aV a8 bb aR bq co e0 e1 e2 aG;go_wp2_with fail
        go_roundg (n - (i+1))
        case measure=>omega
        case rel=>exact ⟨i+1,a9,by first | rfl | go_num,by omega,bR⟩
  .have bn:¬(i:Int) < (n:Int):=by omega
   obtain ⟨A4,cV,bG⟩:=Kag HM.out.row;subst bG
   have cj:((ss.take i).map (keepS fS fW)).filter Kam=keptF fS fW ss:=by unfold keptF;rw[cR (by rw[b5.out];exact hge)]
   have hM:=HM.out;rw[cj] at hM
   have HF:Hid (Kbk wr w0.heap.size A4 hs.length cV (keptF fS fW ss)/\hs.length<=cV/\Below w0.heap.size w0 wr):=by have h1:Kbk wr w0.heap.size A4 hs.length cV (keptF fS fW ss):=⟨hs,rfl,hM.row,hM.rows⟩;exact ⟨h1,h1.sers.2,hM.b0⟩
   obtain ⟨m,hm⟩:=i7 hs.length;rw[<-hm] at HF |-;clear hM cj HM hm;go_wp2_with fail
   go_ret
   exact ⟨A4,m,cV,rfl,HF.out.1,HF.out.2.1,HF.out.2.2⟩
theorem Qbb {w0:World} (fS:Ser->Smp->Bool) (fW:Ser->Wnd->Bool) (gS gW:Nat) (cS cW:Array Value) (A:Option Addr) (n c:Nat) (hs0:List Hd3) (ss:List Ser)
  (egS:∀args w,(callFunc gS args).run prog w = .ok (.enter gS args) w) (egW:∀args w,(callFunc gW args).run prog w = .ok (.enter gW args) w)
  (hE:Elems w0 w0.heap.size 3 encH3 A n hs0) (hss:ss.length=n) (hat:∀(i:Nat) (h:Hd3),hs0[i]? = some h->SerAt w0 h ss[i]!)
  (hz:∀s∈ss,s.labels.length<=1099511627776/\s.samples.length<=137438953472/\s.windows.length<=137438953472) (hn:n<=274877906944)
  (hS:Kje prog gS cS Kac fS hs0 ss Ser.samples w0) (hW:Kje prog gW cW Kad fW hs0 ss Ser.windows w0) :
  Calls prog 54 #[.slice A n c,.func (.func gS) #[] cS,.func (.func gW) #[] cW] w0 fun e w'=>∃(A':Option Addr) (n' c':Nat),e = .returned (.slice A' n' c')/\Sers w' A' n' (keptF fS fW ss)/\n'<=c'/\Below w0.heap.size w0 w':=
 (Kmp fS fW gS gW cS cW A n c hs0 ss egS egW hE hss hat hz hn hS hW).mono fun _ _ h=>by obtain ⟨A',n',c',he,h1,h2,h3⟩:=h;exact ⟨A',n',c',he,h1.sers.1,h2,h3⟩
end
section
def inR (a b t:Int):Bool:=decide (a<=t) && decide (t<=b)
theorem Kml (a b t:Int) (pf pt:Nat) (W:World) (hf:Blk W pf 2 #[.int .i64 a]) (ht:Blk W pt 2 #[.int .i64 b]) :
  Calls prog 53 #[.int .i64 t,.pointer (some ⟨pf,0,none⟩),.pointer (some ⟨pt,0,none⟩)] W fun e w'=>e = .returned (.bool (inR a b t))/\Grown W w':=by
 have f0:=hf.cell 0;have t0:=ht.cell 0;simp at f0 t0;have hfl:=hf.lt;have htl:=ht.lt;obtain ⟨r,hr⟩:=i7 (inR a b t);rw[<-hr];have HR:=Jh hr;clear hr hf ht
 by_cases h1:a<=t
 .obtain ⟨r2,aa⟩:=iZ (decide (t<=b));have e:r=r2:=by rw[HR.out];unfold inR;rw[jd h1,aa];rfl
  subst e;have d1:decide (a<=t)=true:=jd h1;go_enter func53,ntmps53
  go_wp2_with fail
  go_ret
  exact ⟨by first | rfl | (rw[<-aa];rfl),dg _⟩
 .have e:r=false:=by rw[HR.out];unfold inR;rw[ja h1];rfl
  subst e;have d1:decide (a<=t)=false:=ja h1;go_enter func53,ntmps53
  go_wp2_with fail
  go_ret
  exact ⟨rfl,dg _⟩
theorem Kxl (a b:Int) (h:Hd3) (y:Smp) (p pf pt:Nat) (W:World) (hp:Blk W p 137 #[.func (.func 53) #[] #[.pointer (some ⟨pf,0,none⟩),.pointer (some ⟨pt,0,none⟩)]]) (hf:Blk W pf 2 #[.int .i64 a]) (ht:Blk W pt 2 #[.int .i64 b]) :
  Calls prog 55 #[.agg (encH3 h).toArray,.agg (Kac y).toArray,.pointer (some ⟨p,0,none⟩)] W fun e w'=>e = .returned (.bool (inR a b y.t))/\Grown W w':=by
 have hc:∀W',Below W.heap.size W W'->Calls prog 53 #[.int .i64 y.t,.pointer (some ⟨pf,0,none⟩),.pointer (some ⟨pt,0,none⟩)] W' fun e w'=>e = .returned (.bool (inR a b y.t))/\Grown W' w':=fun W' hb=>Kml a b y.t pf pt W' (hf.below hb hf.lt) (ht.below hb ht.lt)
 have egT:∀args w,(callFunc 53 args).run prog w = .ok (.enter 53 args) w:=enters_of func53 (by kernel_rfl) rfl;obtain ⟨r,hr⟩:=i7 (inR a b y.t);rw[<-hr] at hc |-;have HC:=Jh hc;clear hc hr;obtain ⟨⟨A1,n1,c1⟩,⟨A2,n2,c2⟩,⟨A3,n3,c3⟩⟩:=h;obtain ⟨y1,y2⟩:=y;unfold encH3 Kac;dsimp only at HC |-;have p0:=hp.cell 0;simp at p0;have hpl:=hp.lt;clear hp hf ht;go_enter func55,ntmps55
 go_wp2_with fail
 refine (HC.out _ (((Below.refl _ _).alloc (cO _) _).alloc (by simp) _)).mono ?_;rintro _ w1 ⟨rfl,hg⟩;have HG:=Jh hg;clear hg;go_wp2_with fail
 go_ret
 exact ⟨rfl,(((dg _).alloc _).alloc _).trans HG.out⟩
theorem Kxm (a b:Int) (h:Hd3) (y:Wnd) (p pf pt:Nat) (W:World) (hp:Blk W p 137 #[.func (.func 53) #[] #[.pointer (some ⟨pf,0,none⟩),.pointer (some ⟨pt,0,none⟩)]]) (hf:Blk W pf 2 #[.int .i64 a]) (ht:Blk W pt 2 #[.int .i64 b]) :
  Calls prog 56 #[.agg (encH3 h).toArray,.agg (Kad y).toArray,.pointer (some ⟨p,0,none⟩)] W fun e w'=>e = .returned (.bool (inR a b y.start))/\Grown W w':=by
 have hc:∀W',Below W.heap.size W W'->Calls prog 53 #[.int .i64 y.start,.pointer (some ⟨pf,0,none⟩),.pointer (some ⟨pt,0,none⟩)] W' fun e w'=>e = .returned (.bool (inR a b y.start))/\Grown W' w':=fun W' hb=>Kml a b y.start pf pt W' (hf.below hb hf.lt) (ht.below hb ht.lt)
 have egT:∀args w,(callFunc 53 args).run prog w = .ok (.enter 53 args) w:=enters_of func53 (by kernel_rfl) rfl;obtain ⟨r,hr⟩:=i7 (inR a b y.start);rw[<-hr] at hc |-;have HC:=Jh hc;clear hc hr;obtain ⟨⟨A1,n1,c1⟩,⟨A2,n2,c2⟩,⟨A3,n3,c3⟩⟩:=h;obtain ⟨y1,y2,y3,y4,y5,y6⟩:=y;unfold encH3 Kad;dsimp only at HC |-;have p0:=hp.cell 0;simp at p0;have hpl:=hp.lt;clear hp hf ht;go_enter func56,ntmps56
 go_wp2_with fail
 refine (HC.out _ (((Below.refl _ _).alloc (cO _) _).alloc (by simp) _)).mono ?_;rintro _ w1 ⟨rfl,hg⟩;have HG:=Jh hg;clear hg;go_wp2_with fail
 go_ret
 exact ⟨rfl,(((dg _).alloc _).alloc _).trans HG.out⟩
structure SersZ (w:World) (A:Option Addr) (n:Nat) (L:List Ser):Prop where
 s:Sers w A n L
 z:∀s∈L,s.labels.length<=1099511627776/\s.samples.length<=137438953472/\s.windows.length<=137438953472
 n:n<=274877906944
theorem Kvs (a b:Int) (A:Option Addr) (n c:Nat) (ss:List Ser) (w:World) (h:SersZ w A n ss) :
  Calls prog 23 #[.slice A n c,.int .i64 a,.int .i64 b] w fun e w'=>∃(A':Option Addr) (n' c':Nat),e = .returned (.slice A' n' c')/\Kbk w' w.heap.size A' n' c' (keptF (fun _ x=>inR a b x.t) (fun _ x=>inR a b x.start) ss)/\n'<=c'/\Below w.heap.size w w':=by
 obtain ⟨w3,aa⟩:=i7 (((w.alloc (.cells #[.int .i64 a] 2)).alloc (.cells #[.int .i64 b] 2)).alloc (.cells #[.func (.func 53) #[] #[.pointer (some ⟨w.heap.size,0,none⟩),.pointer (some ⟨w.heap.size+1,0,none⟩)]] 137));have ac:Below w.heap.size w w3:=by rw[aa];exact (((Below.refl _ _).alloc (cO _) _).alloc (by simp) _).alloc (by simp;omega) _
 have hf:Blk w3 w.heap.size 2 #[.int .i64 a]:=by rw[aa];exact ((di _ _ _).alloc _).alloc _
 have ht:Blk w3 (w.heap.size+1) 2 #[.int .i64 b]:=by rw[aa];exact (dk (by simp)).alloc _
 have hp:Blk w3 (w.heap.size+2) 137 #[.func (.func 53) #[] #[.pointer (some ⟨w.heap.size,0,none⟩),.pointer (some ⟨w.heap.size+1,0,none⟩)]]:=by rw[aa];exact dk (by simp)
 obtain ⟨pf,ag⟩:=i7 w.heap.size;obtain ⟨q1,ai⟩:=i7 (w.heap.size+1);obtain ⟨q2,ah⟩:=i7 (w.heap.size+2);have af:∀args w,(callFunc 55 args).run prog w = .ok (.enter 55 args) w:=enters_of func55 (by kernel_rfl) rfl;have ad:∀args w,(callFunc 56 args).run prog w = .ok (.enter 56 args) w:=enters_of func56 (by kernel_rfl) rfl;obtain ⟨hs,hE,hl,ae⟩:=h.s.below ac
 have HK:=Jh (Kmp (w0:=w3) (fun _ x=>inR a b x.t) (fun _ x=>inR a b x.start) 55 56 #[.pointer (some ⟨w.heap.size+2,0,none⟩)] #[.pointer (some ⟨w.heap.size+2,0,none⟩)] A n c hs ss af ad hE hl ae h.z h.n
  (fun W hW i h s _ _ y _=>Kxl a b h y _ _ _ W (hp.below hW hp.lt) (hf.below hW hf.lt) (ht.below hW ht.lt))
  (fun W hW i h s _ _ y _=>Kxm a b h y _ _ _ W (hp.below hW hp.lt) (hf.below hW hf.lt) (ht.below hW ht.lt)))
 have ab:=Jh ac;have aj:=Jh aa;clear hf ht hp af ad hE hl ae h ac aa;clear ag ai ah pf q1 q2;go_enter func23,ntmps23
 go_upto_region 2 with fail
 have aa:=aj.out;rw[<-aa];clear aa;go_wp2_with fail
 refine HK.out.mono ?_;rintro _ w4 ⟨A',n',c',rfl,h1,h2,h3⟩;have HF:=Jh (And.intro (h1.mono ab.out.size) (And.intro h2 (ab.out.trans (h3.mono ab.out.size))));clear h1 h2 h3 HK;go_wp2_with fail
 go_ret
 exact ⟨A',n',c',rfl,HF.out.1,HF.out.2.1,HF.out.2.2⟩
end
section
def Kee (s:Spn):List Value:=[.int .i64 s.frm,.int .i64 s.to_]
structure Hd4 where
 l:Hd
 s0:Hd
 s1:Hd
 s2:Hd
def encH4 (h:Hd4):List Value:=[.slice h.l.A h.l.n h.l.c,.slice h.s0.A h.s0.n h.s0.c,.slice h.s1.A h.s1.n h.s1.c,.slice h.s2.A h.s2.n h.s2.c]
structure GoneP where
 labels:List Lb
 sp:Nat->List Spn
def encHG (x:Hd4×GoneP):List Value:=encH4 x.1
theorem Kva (f:Spn->Bool) (gc:Nat) (cb:Array Value) (A:Option Addr) (n c:Nat) (l:List Spn) (w:World) (eg:∀args w,(callFunc gc args).run prog w = .ok (.enter gc args) w) (hE:Elems w w.heap.size 2 Kee A n l) (hn:n<=1099511627776)
  (hf:∀W,Below w.heap.size w W->∀(i:Nat) (y:Spn),l[i]? = some y->Calls prog gc (#[.agg (Kee y).toArray]++cb) W fun e w'=>e = .returned (.bool (f y))/\Grown W w') :
  Calls prog 190 #[.slice A n c,.func (.func gc) #[] cb] w fun e w'=>(∃k:Int,e = .returned (.int .i64 k)/\decide (0<=k)=l.any f)/\Grown w w':=by
 have HE:=Jh hE;have HF:=Jh hf;clear hE hf;go_enter func190,ntmps190
 go_wp2
 go_loopg [8] n (fun kx s8 wr=>∃i:Nat,s8 = .int .i64 (i:Int)/\i+kx=n/\Hid ((l.take i).any f=false)/\Hid (Grown w wr))
 case atStart=>exact ⟨0,rfl,by omega,(by rw[cT];rfl:(l.take 0).any f=false),dg _⟩
 case round=>
  obtain ⟨i,rfl,hi,HA,HG⟩:=hrel;rcases db i n with hlt | hge
  .have aj:(i:Int) < (n:Int):=by omega
   obtain ⟨b,ac,hA,hb,hc⟩:=HE.out.2 (by omega);have hl:=HE.out.len;obtain ⟨y,hy⟩:∃y,l[i]? = some y:=⟨l[i]'(by omega),cX _⟩;have aa:∀r v,r < 2->(Kee y)[r]? = some v->wr.cell? ⟨b,ac+i*2+r,none⟩=some v:=fun r v _ hv=>(HG.out.below.cell (p:=⟨b,ac+i*2+r,none⟩) hb).trans (hc i y hy r v hv)
   have ai:b < wr.heap.size:=cN hb HG.out.below.size;have ab:=HF.out wr HG.out.below i y hy
   have af:Hid ((l.take (i+1)).any f=f y):=by
    show _=_
    rw[cZ,hy,dB,HA.out];simp
   have ad:Hid (f y=true->l.any f=true):=fun h=>c5.2 ⟨y,cU hy,h⟩
   subst hA;obtain ⟨r,hr⟩:=i7 (f y);rw[<-hr] at ab af ad;obtain ⟨y1,y2⟩:=y;unfold Kee at ab;dsimp only at ab;have ag:=Jh ab;have k0:wr.cell? ⟨b,ac+i*2,none⟩=some (.int .i64 y1):=aa 0 _ (by decide) rfl;have k1:wr.cell? ⟨b,ac+i*2+1,none⟩=some (.int .i64 y2):=aa 1 _ (by decide) rfl;clear hc hl aa ab hr hy hb;go_wp2_with fail
   refine (ag.out).mono ?_;rintro _ w5 ⟨rfl,ae⟩;have ah:Hid (Grown w w5):=HG.out.trans ae;clear ae HG k0 k1 ai ag
   cases r with
   | true=>
    go_wp2_with fail
    go_ret
    exact ⟨⟨(i:Int),rfl,by rw[ad.out (by first | exact rfl | trivial)];exact jd (by omega)⟩,ah.out⟩
   | false=>
    clear ad;go_wp2_with fail
    go_roundg (n - (i+1))
    case measure=>omega
    case rel=>exact ⟨i+1,by first | rfl | go_num,by omega,af,ah⟩
  .have aj:¬(i:Int) < (n:Int):=by omega
   go_wp2_with fail
   go_ret
   refine ⟨⟨-1,rfl,?_⟩,HG.out⟩;have h:=HA.out;rw[cR (by rw[HE.out.len];exact hge)] at h;rw[h];rfl
theorem Kol (f:Spn->Bool) (gc:Nat) (cb:Array Value) (A:Option Addr) (n c:Nat) (l:List Spn) (w:World) (eg:∀args w,(callFunc gc args).run prog w = .ok (.enter gc args) w) (hE:Elems w w.heap.size 2 Kee A n l) (hn:n<=1099511627776)
  (hf:∀W,Below w.heap.size w W->∀(i:Nat) (y:Spn),l[i]? = some y->Calls prog gc (#[.agg (Kee y).toArray]++cb) W fun e w'=>e = .returned (.bool (f y))/\Grown W w') :
  Calls prog 157 #[.slice A n c,.func (.func gc) #[] cb] w fun e w'=>e = .returned (.bool (l.any f))/\Grown w w':=by
 have HI:=Jh (Kva f gc cb A n c l w eg hE hn hf);clear hE hf;go_enter func157,ntmps157
 go_wp2_with fail
 refine (HI.out).mono ?_;rintro _ w1 ⟨⟨k,rfl,hk⟩,hg⟩;have HG:=Jh hg;have HK:=Jh hk;clear hg hk;go_wp2_with fail
 go_ret
 exact ⟨by first | (rw[<-HK.out];rfl) | (rw[<-HK.out]),HG.out⟩
theorem Kuz (f:(Hd4×GoneP)->Bool) (gc:Nat) (cb:Array Value) (A:Option Addr) (n c:Nat) (l:List (Hd4×GoneP)) (w:World) (eg:∀args w,(callFunc gc args).run prog w = .ok (.enter gc args) w) (hE:Elems w w.heap.size 4 encHG A n l) (hn:n<=1099511627776)
  (hf:∀W,Below w.heap.size w W->∀(i:Nat) (y:(Hd4×GoneP)),l[i]? = some y->Calls prog gc (#[.agg (encHG y).toArray]++cb) W fun e w'=>e = .returned (.bool (f y))/\Grown W w') :
  Calls prog 156 #[.slice A n c,.func (.func gc) #[] cb] w fun e w'=>(∃k:Int,e = .returned (.int .i64 k)/\decide (0<=k)=l.any f)/\Grown w w':=by
 have HE:=Jh hE;have HF:=Jh hf;clear hE hf;go_enter func156,ntmps156
 go_wp2
 go_loopg [8] n (fun kx s8 wr=>∃i:Nat,s8 = .int .i64 (i:Int)/\i+kx=n/\Hid ((l.take i).any f=false)/\Hid (Grown w wr))
 case atStart=>exact ⟨0,rfl,by omega,(by rw[cT];rfl:(l.take 0).any f=false),dg _⟩
 case round=>
  obtain ⟨i,rfl,hi,HA,HG⟩:=hrel;rcases db i n with hlt | hge
  .have aj:(i:Int) < (n:Int):=by omega
   obtain ⟨b,ab,hA,hb,hc⟩:=HE.out.2 (by omega);have hl:=HE.out.len;obtain ⟨y,hy⟩:∃y,l[i]? = some y:=⟨l[i]'(by omega),cX _⟩;have aa:∀r v,r < 4->(encHG y)[r]? = some v->wr.cell? ⟨b,ab+i*4+r,none⟩=some v:=fun r v _ hv=>(HG.out.below.cell (p:=⟨b,ab+i*4+r,none⟩) hb).trans (hc i y hy r v hv)
   have ai:b < wr.heap.size:=cN hb HG.out.below.size;have ac:=HF.out wr HG.out.below i y hy
   have af:Hid ((l.take (i+1)).any f=f y):=by
    show _=_
    rw[cZ,hy,dB,HA.out];simp
   have ad:Hid (f y=true->l.any f=true):=fun h=>c5.2 ⟨y,cU hy,h⟩
   subst hA;obtain ⟨r,hr⟩:=i7 (f y);rw[<-hr] at ac af ad;obtain ⟨⟨⟨A1,n1,c1⟩,⟨A2,n2,c2⟩,⟨A3,n3,c3⟩,⟨A4,n4,c4⟩⟩,gp⟩:=y;unfold encHG encH4 at ac;dsimp only at ac;have ag:=Jh ac;have k0:wr.cell? ⟨b,ab+i*4,none⟩=some (.slice A1 n1 c1):=aa 0 _ (by decide) rfl;have k1:wr.cell? ⟨b,ab+i*4+1,none⟩=some (.slice A2 n2 c2):=aa 1 _ (by decide) rfl;have k2:wr.cell? ⟨b,ab+i*4+2,none⟩=some (.slice A3 n3 c3):=aa 2 _ (by decide) rfl;have k3:wr.cell? ⟨b,ab+i*4+3,none⟩=some (.slice A4 n4 c4):=aa 3 _ (by decide) rfl;clear hc hl aa ac hr hy hb;go_wp2_with fail
   refine (ag.out).mono ?_;rintro _ w5 ⟨rfl,ae⟩;have ah:Hid (Grown w w5):=HG.out.trans ae;clear ae HG k0 k1 k2 k3 ai ag
   cases r with
   | true=>
    go_wp2_with fail
    go_ret
    exact ⟨⟨(i:Int),rfl,by rw[ad.out (by first | exact rfl | trivial)];exact jd (by omega)⟩,ah.out⟩
   | false=>
    clear ad;go_wp2_with fail
    go_roundg (n - (i+1))
    case measure=>omega
    case rel=>exact ⟨i+1,by first | rfl | go_num,by omega,af,ah⟩
  .have aj:¬(i:Int) < (n:Int):=by omega
   go_wp2_with fail
   go_ret
   refine ⟨⟨-1,rfl,?_⟩,HG.out⟩;have h:=HA.out;rw[cR (by rw[HE.out.len];exact hge)] at h;rw[h];rfl
theorem Kok (f:(Hd4×GoneP)->Bool) (gc:Nat) (cb:Array Value) (A:Option Addr) (n c:Nat) (l:List (Hd4×GoneP)) (w:World) (eg:∀args w,(callFunc gc args).run prog w = .ok (.enter gc args) w) (hE:Elems w w.heap.size 4 encHG A n l) (hn:n<=1099511627776)
  (hf:∀W,Below w.heap.size w W->∀(i:Nat) (y:(Hd4×GoneP)),l[i]? = some y->Calls prog gc (#[.agg (encHG y).toArray]++cb) W fun e w'=>e = .returned (.bool (f y))/\Grown W w') :
  Calls prog 95 #[.slice A n c,.func (.func gc) #[] cb] w fun e w'=>e = .returned (.bool (l.any f))/\Grown w w':=by
 have HI:=Jh (Kuz f gc cb A n c l w eg hE hn hf);clear hE hf;go_enter func95,ntmps95
 go_wp2_with fail
 refine (HI.out).mono ?_;rintro _ w1 ⟨⟨k,rfl,hk⟩,hg⟩;have HG:=Jh hg;have HK:=Jh hk;clear hg hk;go_wp2_with fail
 go_ret
 exact ⟨by first | (rw[<-HK.out];rfl) | (rw[<-HK.out]),HG.out⟩
def inS (t:Int) (s:Spn):Bool:=decide (s.frm<=t) && decide (t<=s.to_)
def hasF (l:List Spn) (t:Int):Bool:=l.any (inS t)
theorem Qax (s:Spn) (t:Int) (p:Nat) (W:World) (hp:Blk W p 2 #[.int .i64 t]):Calls prog 158 #[.agg (Kee s).toArray,.pointer (some ⟨p,0,none⟩)] W fun e w'=>e = .returned (.bool (inS t s))/\Grown W w':=by
 obtain ⟨a,b⟩:=s;have p0:=hp.cell 0;simp at p0;have hpl:=hp.lt;obtain ⟨r,hr⟩:=i7 (inS t ⟨a,b⟩);rw[<-hr];have HR:=Jh hr;unfold Kee;dsimp only;clear hr hp
 by_cases h1:a<=t
 .obtain ⟨r2,aa⟩:=iZ (decide (t<=b));have e:r=r2:=by rw[HR.out];unfold inS;dsimp only;rw[jd h1,aa];rfl
  subst e;have d1:decide (a<=t)=true:=jd h1;go_enter func158,ntmps158
  go_wp2_with fail
  go_ret
  exact ⟨by first | rfl | (rw[<-aa];rfl),(dg _).alloc _⟩
 .have e:r=false:=by rw[HR.out];unfold inS;dsimp only;rw[ja h1];rfl
  subst e;have d1:decide (a<=t)=false:=ja h1;go_enter func158,ntmps158
  go_wp2_with fail
  go_ret
  exact ⟨rfl,(dg _).alloc _⟩
theorem Qdl (l:List Spn) (t:Int) (A:Option Addr) (n c:Nat) (w:World) (hE:Elems w w.heap.size 2 Kee A n l) (hn:n<=1099511627776) :
  Calls prog 97 #[.slice A n c,.int .i64 t] w fun e w'=>e = .returned (.bool (hasF l t))/\Grown w w':=by
 obtain ⟨w1,aa⟩:=i7 (w.alloc (.cells #[.int .i64 t] 2));have ab:Grown w w1:=by rw[aa];exact (dg _).alloc _
 have hb:Blk w1 w.heap.size 2 #[.int .i64 t]:=by rw[aa];exact di _ _ _
 have eg:∀args w,(callFunc 158 args).run prog w = .ok (.enter 158 args) w:=enters_of func158 (by kernel_rfl) rfl;have HC:=Jh (Kol (inS t) 158 #[.pointer (some ⟨w.heap.size,0,none⟩)] A n c l w1 eg ((hE.below ab.below).more ab.below.size) hn (fun W hW i y _=>Qax y t _ W (hb.below hW hb.lt)));have HG:=Jh ab;have ad:=Jh aa;clear ab hb aa hE eg;go_enter func97,ntmps97
 go_upto_region 1 with fail
 have aa:=ad.out;rw[<-aa];clear aa;go_wp2_with fail
 refine (HC.out).mono ?_;rintro _ w2 ⟨rfl,hg⟩;have ac:=Jh (HG.out.trans hg);clear hg;go_wp2_with fail
 go_ret
 exact ⟨rfl,ac.out⟩
def Hd4.sp (h:Hd4) (r:Nat):Hd:=if r=0 then h.s0 else if r=1 then h.s1 else h.s2
structure Kkj (w:World) (h:Hd4) (g:GoneP):Prop where
 l:Elems w w.heap.size 2 encLb h.l.A h.l.n g.labels
 z:h.l.n<=1099511627776
 s:∀r,r < 3->Elems w w.heap.size 2 Kee (h.sp r).A (h.sp r).n (g.sp r)/\(h.sp r).n<=1099511627776
theorem Kkj.below {w w':World} {h:Hd4} {g:GoneP} (x:Kkj w h g) (hb:Below w.heap.size w w'):Kkj w' h g:=
 ⟨(x.l.below hb).more hb.size,x.z,fun r hr=>⟨((x.s r hr).1.below hb).more hb.size,(x.s r hr).2⟩⟩
def goneF (r:Nat) (l:List Lb) (t:Int) (g:GoneP):Bool:=decide (cmpL g.labels l=0) && hasF (g.sp r) t
attribute [local go_sem] Kbu.cell
theorem Ktu (r:Nat) (hr:r < 3) (l:List Lb) (t:Int) (h:Hd4) (g:GoneP) (hs:Hd3) (ps pr pt:Nat) (W:World) (hat:Kkj W h g) (hl:Elems W W.heap.size 2 encLb hs.l.A hs.l.n l) (hlz:hs.l.n<=1099511627776)
  (hps:Blk W ps 58 (encH3 hs).toArray) (hpr:Blk W pr 3 #[.int .i64 (r:Int)]) (hpt:Blk W pt 2 #[.int .i64 t]) :
  Calls prog 96 #[.agg (encH4 h).toArray,.pointer (some ⟨ps,0,none⟩),.pointer (some ⟨pr,0,none⟩),.pointer (some ⟨pt,0,none⟩)] W fun e w'=>e = .returned (.bool (goneF r l t g))/\Grown W w':=by
 obtain ⟨cc,az⟩:=i7 (cmpL g.labels l)
 have ax:∀X:World,Below W.heap.size W X->Calls prog 60 #[.slice h.l.A h.l.n h.l.c,.slice hs.l.A hs.l.n hs.l.c] X fun e w'=>e = .returned (.int .i64 cc)/\Grown X w':=fun X hb=>
  Kea g.labels l h.l.A hs.l.A h.l.n hs.l.n _ _ X cc az.symm ((hat.l.below hb).more hb.size) ((hl.below hb).more hb.size) (dx hat.z (by decide)) (dx hlz (by decide))
 have av:∀X:World,Below W.heap.size W X->Calls prog 97 #[.slice (h.sp r).A (h.sp r).n (h.sp r).c,.int .i64 t] X fun e w'=>e = .returned (.bool (hasF (g.sp r) t))/\Grown X w':=fun X hb=>
  Qdl (g.sp r) t _ _ _ X (((hat.s r hr).1.below hb).more hb.size) (hat.s r hr).2
 have ae:=Jh ax;have ac:=Jh av;obtain ⟨hv,ay⟩:=i7 (hasF (g.sp r) t);have aw:Hid (goneF r l t g=(decide (cc=0) && hv)):=by show _=_;unfold goneF;rw[az,ay]
 rw[<-ay] at ac;obtain ⟨⟨A1,n1,c1⟩,⟨A2,n2,c2⟩,⟨A3,n3,c3⟩,⟨A4,n4,c4⟩⟩:=h;obtain ⟨⟨lA,ln,lc⟩,⟨sA,sn,sc⟩,⟨wA,wn,wc⟩⟩:=hs;unfold encH3 at hps;unfold encH4;dsimp only at ae ac hps |-;clear ax av az ay hat hl hlz;obtain ⟨ar,aq⟩:=i7 (goneF r l t g);rw[<-aq];have ab:Hid (ar=(decide (cc=0) && hv)):=by show _=_;rw[aq];exact aw.out
 clear aq aw;rcases (by omega:r=0\/r=1\/r=2) with rfl | rfl | rfl
 .have am:Hid (∀X:World,Below W.heap.size W X->Calls prog 97 #[.slice A2 n2 c2,.int .i64 t] X fun e w'=>e = .returned (.bool hv)/\Grown X w'):=ac.out;have s0:=hps.cell 0;have r0:=hpr.cell 0;have t0:=hpt.cell 0;simp at s0 r0 t0;have ai:=Jh hps;have af:=Jh hpr;have ah:=Jh hpt;clear ac s0 r0 t0 hps hpr hpt;go_enter func96,ntmps96
  go_upto_region 1 with fail
  obtain ⟨w1,ag⟩:=i7 (W.alloc (.cells #[.slice A1 n1 c1,.slice A2 n2 c2,.slice A3 n3 c3,.slice A4 n4 c4] 88));obtain ⟨q,hq⟩:=i7 W.heap.size;have aa:Grown W w1:=by rw[ag];exact (dg _).alloc _
  have aj:Blk w1 q 88 #[.slice A1 n1 c1,.slice A2 n2 c2,.slice A3 n3 c3,.slice A4 n4 c4]:=by rw[ag,hq];exact di _ _ _
  have ap:Hid (∀X:Kbu w1,Calls prog 60 #[.slice A1 n1 c1,.slice lA ln lc] X.w fun e w'=>e = .returned (.int .i64 cc)/\Grown X.w w'):=fun X=>ae.out X.w (aa.below.trans (X.h.below.mono aa.below.size))
  have ao:Hid (∀X:Kbu w1,Calls prog 97 #[.slice A2 n2 c2,.int .i64 t] X.w fun e w'=>e = .returned (.bool hv)/\Grown X.w w'):=fun X=>am.out X.w (aa.below.trans (X.h.below.mono aa.below.size))
  have an:=Jh aa;have s0:=(ai.out.below aa.below ai.out.lt).cell 0;have r0:=(af.out.below aa.below af.out.lt).cell 0;have t0:=(ah.out.below aa.below ah.out.lt).cell 0;have g0:=aj.cell 0;have g1:=aj.cell 1;simp at s0 r0 t0 g0 g1;have l1:=(ai.out.below aa.below ai.out.lt).lt;have l2:=(af.out.below aa.below af.out.lt).lt;have l3:=(ah.out.below aa.below ah.out.lt).lt;have l4:=aj.lt;rw[<-ag,<-hq];clear ag hq aa aj ae am;rcases dG cc 0 with hc | hc
  .have d1:(cc == 0)=false:=jg.2 hc;have d2:decide (cc=0)=false:=ja hc;have al:ar=false:=by rw[ab.out,d2];rfl
   subst al;clear ab;refine Kar 13 (by kernel_rfl) (by kernel_rfl) ?_;simp only[cP,cT,cQ,da]
   repeat (go_big_quiet_step (first | (go_at_call 60;exact Kas _ (ap.out _)) | (go_at_call 97;exact Kas _ (ao.out _))))
   refine dJ ?_;rintro w2 ⟨⟨_,ad⟩,rfl⟩;have ak:=Jh (an.out.trans ad);clear ad;go_wp2_with fail
   go_ret
   exact ⟨rfl,ak.out⟩
  .subst hc;have al:ar=hv:=by rw[ab.out];rfl
   subst al;clear ab;refine Kar 13 (by kernel_rfl) (by kernel_rfl) ?_;simp only[cP,cT,cQ,da]
   repeat (go_big_quiet_step (first | (go_at_call 60;exact Kas _ (ap.out _)) | (go_at_call 97;exact Kas _ (ao.out _))))
   refine dJ ?_;rintro w2 ⟨⟨_,ad⟩,rfl⟩;have ak:=Jh (an.out.trans ad);clear ad;go_wp2_with fail
   go_ret
   exact ⟨rfl,ak.out⟩
 .have am:Hid (∀X:World,Below W.heap.size W X->Calls prog 97 #[.slice A3 n3 c3,.int .i64 t] X fun e w'=>e = .returned (.bool hv)/\Grown X w'):=ac.out;have s0:=hps.cell 0;have r0:=hpr.cell 0;have t0:=hpt.cell 0;simp at s0 r0 t0;have ai:=Jh hps;have af:=Jh hpr;have ah:=Jh hpt;clear ac s0 r0 t0 hps hpr hpt;go_enter func96,ntmps96
  go_upto_region 1 with fail
  obtain ⟨w1,ag⟩:=i7 (W.alloc (.cells #[.slice A1 n1 c1,.slice A2 n2 c2,.slice A3 n3 c3,.slice A4 n4 c4] 88));obtain ⟨q,hq⟩:=i7 W.heap.size;have aa:Grown W w1:=by rw[ag];exact (dg _).alloc _
  have aj:Blk w1 q 88 #[.slice A1 n1 c1,.slice A2 n2 c2,.slice A3 n3 c3,.slice A4 n4 c4]:=by rw[ag,hq];exact di _ _ _
  have ap:Hid (∀X:Kbu w1,Calls prog 60 #[.slice A1 n1 c1,.slice lA ln lc] X.w fun e w'=>e = .returned (.int .i64 cc)/\Grown X.w w'):=fun X=>ae.out X.w (aa.below.trans (X.h.below.mono aa.below.size))
  have ao:Hid (∀X:Kbu w1,Calls prog 97 #[.slice A3 n3 c3,.int .i64 t] X.w fun e w'=>e = .returned (.bool hv)/\Grown X.w w'):=fun X=>am.out X.w (aa.below.trans (X.h.below.mono aa.below.size))
  have an:=Jh aa;have s0:=(ai.out.below aa.below ai.out.lt).cell 0;have r0:=(af.out.below aa.below af.out.lt).cell 0;have t0:=(ah.out.below aa.below ah.out.lt).cell 0;have g0:=aj.cell 0;have g1:=aj.cell 2;simp at s0 r0 t0 g0 g1;have l1:=(ai.out.below aa.below ai.out.lt).lt;have l2:=(af.out.below aa.below af.out.lt).lt;have l3:=(ah.out.below aa.below ah.out.lt).lt;have l4:=aj.lt;rw[<-ag,<-hq];clear ag hq aa aj ae am;rcases dG cc 0 with hc | hc
  .have d1:(cc == 0)=false:=jg.2 hc;have d2:decide (cc=0)=false:=ja hc;have al:ar=false:=by rw[ab.out,d2];rfl
   subst al;clear ab;refine Kar 13 (by kernel_rfl) (by kernel_rfl) ?_;simp only[cP,cT,cQ,da]
   repeat (go_big_quiet_step (first | (go_at_call 60;exact Kas _ (ap.out _)) | (go_at_call 97;exact Kas _ (ao.out _))))
   refine dJ ?_;rintro w2 ⟨⟨_,ad⟩,rfl⟩;have ak:=Jh (an.out.trans ad);clear ad;go_wp2_with fail
   go_ret
   exact ⟨rfl,ak.out⟩
  .subst hc;have al:ar=hv:=by rw[ab.out];rfl
   subst al;clear ab;refine Kar 13 (by kernel_rfl) (by kernel_rfl) ?_;simp only[cP,cT,cQ,da]
   repeat (go_big_quiet_step (first | (go_at_call 60;exact Kas _ (ap.out _)) | (go_at_call 97;exact Kas _ (ao.out _))))
   refine dJ ?_;rintro w2 ⟨⟨_,ad⟩,rfl⟩;have ak:=Jh (an.out.trans ad);clear ad;go_wp2_with fail
   go_ret
   exact ⟨rfl,ak.out⟩
 .have am:Hid (∀X:World,Below W.heap.size W X->Calls prog 97 #[.slice A4 n4 c4,.int .i64 t] X fun e w'=>e = .returned (.bool hv)/\Grown X w'):=ac.out;have s0:=hps.cell 0;have r0:=hpr.cell 0;have t0:=hpt.cell 0;simp at s0 r0 t0;have ai:=Jh hps;have af:=Jh hpr;have ah:=Jh hpt;clear ac s0 r0 t0 hps hpr hpt;go_enter func96,ntmps96
  go_upto_region 1 with fail
  obtain ⟨w1,ag⟩:=i7 (W.alloc (.cells #[.slice A1 n1 c1,.slice A2 n2 c2,.slice A3 n3 c3,.slice A4 n4 c4] 88));obtain ⟨q,hq⟩:=i7 W.heap.size;have aa:Grown W w1:=by rw[ag];exact (dg _).alloc _
  have aj:Blk w1 q 88 #[.slice A1 n1 c1,.slice A2 n2 c2,.slice A3 n3 c3,.slice A4 n4 c4]:=by rw[ag,hq];exact di _ _ _
  have ap:Hid (∀X:Kbu w1,Calls prog 60 #[.slice A1 n1 c1,.slice lA ln lc] X.w fun e w'=>e = .returned (.int .i64 cc)/\Grown X.w w'):=fun X=>ae.out X.w (aa.below.trans (X.h.below.mono aa.below.size))
  have ao:Hid (∀X:Kbu w1,Calls prog 97 #[.slice A4 n4 c4,.int .i64 t] X.w fun e w'=>e = .returned (.bool hv)/\Grown X.w w'):=fun X=>am.out X.w (aa.below.trans (X.h.below.mono aa.below.size))
  have an:=Jh aa;have s0:=(ai.out.below aa.below ai.out.lt).cell 0;have r0:=(af.out.below aa.below af.out.lt).cell 0;have t0:=(ah.out.below aa.below ah.out.lt).cell 0;have g0:=aj.cell 0;have g1:=aj.cell 3;simp at s0 r0 t0 g0 g1;have l1:=(ai.out.below aa.below ai.out.lt).lt;have l2:=(af.out.below aa.below af.out.lt).lt;have l3:=(ah.out.below aa.below ah.out.lt).lt;have l4:=aj.lt;rw[<-ag,<-hq];clear ag hq aa aj ae am;rcases dG cc 0 with hc | hc
  .have d1:(cc == 0)=false:=jg.2 hc;have d2:decide (cc=0)=false:=ja hc;have al:ar=false:=by rw[ab.out,d2];rfl
   subst al;clear ab;refine Kar 13 (by kernel_rfl) (by kernel_rfl) ?_;simp only[cP,cT,cQ,da]
   repeat (go_big_quiet_step (first | (go_at_call 60;exact Kas _ (ap.out _)) | (go_at_call 97;exact Kas _ (ao.out _))))
   refine dJ ?_;rintro w2 ⟨⟨_,ad⟩,rfl⟩;have ak:=Jh (an.out.trans ad);clear ad;go_wp2_with fail
   go_ret
   exact ⟨rfl,ak.out⟩
  .subst hc;have al:ar=hv:=by rw[ab.out];rfl
   subst al;clear ab;refine Kar 13 (by kernel_rfl) (by kernel_rfl) ?_;simp only[cP,cT,cQ,da]
   repeat (go_big_quiet_step (first | (go_at_call 60;exact Kas _ (ap.out _)) | (go_at_call 97;exact Kas _ (ao.out _))))
   refine dJ ?_;rintro w2 ⟨⟨_,ad⟩,rfl⟩;have ak:=Jh (an.out.trans ad);clear ad;go_wp2_with fail
   go_ret
   exact ⟨rfl,ak.out⟩
structure Gones (w:World) (A:Option Addr) (n:Nat) (hs:List (Hd4×GoneP)):Prop where
 e:Elems w w.heap.size 4 encHG A n hs
 a:∀x∈hs,Kkj w x.1 x.2
 n:n<=1099511627776
theorem Gones.below {w w':World} {A:Option Addr} {n:Nat} {hs:List (Hd4×GoneP)} (h:Gones w A n hs) (hb:Below w.heap.size w w'):Gones w' A n hs:=
 ⟨(h.e.below hb).more hb.size,fun x hx=>(h.a x hx).below hb,h.n⟩
def Kbl (hs:List (Hd4×GoneP)) (r:Nat) (l:List Lb) (t:Int):Bool:=hs.any fun x=>goneF r l t x.2
theorem Klq (hs:List (Hd4×GoneP)) (A:Option Addr) (n c r:Nat) (hr:r < 3) (l:List Lb) (t:Int) (h:Hd3) (pg pr:Nat) (W:World) (hG:Gones W A n hs) (hl:Elems W W.heap.size 2 encLb h.l.A h.l.n l) (hlz:h.l.n<=1099511627776)
  (hpg:Blk W pg 22 #[.slice A n c]) (hpr:Blk W pr 3 #[.int .i64 (r:Int)]) :
  Calls prog 94 #[.agg (encH3 h).toArray,.int .i64 t,.pointer (some ⟨pg,0,none⟩),.pointer (some ⟨pr,0,none⟩)] W fun e w'=>e = .returned (.bool (Kbl hs r l t))/\Grown W w':=by
 obtain ⟨w2,ab⟩:=i7 ((W.alloc (.cells (encH3 h).toArray 58)).alloc (.cells #[.int .i64 t] 2));have ai:Grown W w2:=by rw[ab];exact ((dg _).alloc _).alloc _
 have af:Blk w2 W.heap.size 58 (encH3 h).toArray:=by rw[ab];exact (di _ _ _).alloc _
 have ag:Blk w2 (W.heap.size+1) 2 #[.int .i64 t]:=by rw[ab];exact dk (by simp)
 have aa:=ai.below;have ae:=hpg.below aa hpg.lt;have ac:=hpr.below aa hpr.lt;have eg:∀args w,(callFunc 96 args).run prog w = .ok (.enter 96 args) w:=enters_of func96 (by kernel_rfl) rfl
 have HC:=Jh (Kok (fun x=>goneF r l t x.2) 96 #[.pointer (some ⟨W.heap.size,0,none⟩),.pointer (some ⟨pr,0,none⟩),.pointer (some ⟨W.heap.size+1,0,none⟩)] A n c hs w2 eg ((hG.e.below aa).more aa.size) hG.n
  (fun X hX i y hy=>Ktu r hr l t y.1 y.2 h W.heap.size pr (W.heap.size+1) X ((hG.a y (cU hy)).below (aa.trans (hX.mono aa.size))) ((hl.below (aa.trans (hX.mono aa.size))).more (aa.trans (hX.mono aa.size)).size) hlz (af.below hX af.lt) (ac.below hX ac.lt) (ag.below hX ag.lt)))
 have ak:=Jh ai;have ah:=Jh ab;have ad:=Jh ae;obtain ⟨⟨lA,ln,lc⟩,⟨sA,sn,sc⟩,⟨wA,wn,wc⟩⟩:=h;unfold encH3 at ah |-;dsimp only at ah |-;clear ai af ag aa ae ac ab hG hl hpg hpr eg;go_enter func94,ntmps94
 go_upto_region 1 with fail
 have ab:=ah.out;rw[<-ab];clear ab;have g0:=ad.out.cell 0;simp at g0;have gl:=ad.out.lt;go_wp2_with fail
 refine (HC.out).mono ?_;rintro _ w3 ⟨rfl,hg⟩;have aj:=Jh (ak.out.trans hg);clear hg;go_wp2_with fail
 go_ret
 exact ⟨rfl,aj.out⟩
theorem Kwr (hs:List (Hd4×GoneP)) (A:Option Addr) (n c r:Nat) (hr:r < 3) (l:List Lb) (h:Hd3) (y:Smp) (p pg pr:Nat) (W:World) (hG:Gones W A n hs) (hl:Elems W W.heap.size 2 encLb h.l.A h.l.n l) (hlz:h.l.n<=1099511627776)
  (hp:Blk W p 184 #[.func (.func 94) #[] #[.pointer (some ⟨pg,0,none⟩),.pointer (some ⟨pr,0,none⟩)]]) (hpg:Blk W pg 22 #[.slice A n c]) (hpr:Blk W pr 3 #[.int .i64 (r:Int)]) :
  Calls prog 98 #[.agg (encH3 h).toArray,.agg (Kac y).toArray,.pointer (some ⟨pr,0,none⟩),.pointer (some ⟨p,0,none⟩)] W fun e w'=>e = .returned (.bool (decide (r=0) && !Kbl hs r l y.t))/\Grown W w':=by
 have ht:∀X:World,Below W.heap.size W X->Calls prog 94 #[.agg (encH3 h).toArray,.int .i64 y.t,.pointer (some ⟨pg,0,none⟩),.pointer (some ⟨pr,0,none⟩)] X fun e w'=>e = .returned (.bool (Kbl hs r l y.t))/\Grown X w':=fun X hX=>
  Klq hs A n c r hr l y.t h pg pr X (hG.below hX) ((hl.below hX).more hX.size) hlz (hpg.below hX hpg.lt) (hpr.below hX hpr.lt)
 have egT:∀args w,(callFunc 94 args).run prog w = .ok (.enter 94 args) w:=enters_of func94 (by kernel_rfl) rfl;obtain ⟨tk,aa⟩:=i7 (Kbl hs r l y.t);rw[<-aa] at ht |-;have HT:=Jh ht;have p0:=hp.cell 0;have r0:=hpr.cell 0;simp at p0 r0;have pl:=hp.lt;have rl:=hpr.lt;obtain ⟨⟨lA,ln,lc⟩,⟨sA,sn,sc⟩,⟨wA,wn,wc⟩⟩:=h;obtain ⟨y1,y2⟩:=y;unfold encH3 Kac;unfold encH3 at HT;dsimp only at HT |-;clear ht aa hG hl hp hpg hpr;rcases dh r with h0 | h0
 .subst h0;simp only[decide_true,dF];have ab:Hid (∀X:World,Below W.heap.size W X->Calls prog 94 #[.agg #[.slice lA ln lc,.slice sA sn sc,.slice wA wn wc],.int .i64 y1,.pointer (some ⟨pg,0,none⟩),.pointer (some ⟨pr,0,none⟩)] X fun e w'=>e = .returned (.bool tk)/\Grown X w'):=HT.out;go_enter func98,ntmps98
  go_wp2_with fail
  refine (ab.out _ (((Below.refl _ _).alloc (cO _) _).alloc (by simp) _)).mono ?_;rintro _ w1 ⟨rfl,hg⟩;have HG:=Jh hg;clear hg;go_wp2_with fail
  go_ret
  exact ⟨by cases tk <;> rfl,(((dg _).alloc _).alloc _).trans HG.out⟩
 .have hn:r≠0:=by omega
  have d1:((r:Int) == 0)=false:=jg.2 (by omega);have d2:((r:Int) != 0)=true:=bne_iff_ne.2 (by omega);have d3:decide ((r:Int)=0)=false:=ja (by omega);rw[show decide (r=0)=false from ja hn];simp only[dD];have ab:Hid (∀X:World,Below W.heap.size W X->Calls prog 94 #[.agg #[.slice lA ln lc,.slice sA sn sc,.slice wA wn wc],.int .i64 y1,.pointer (some ⟨pg,0,none⟩),.pointer (some ⟨pr,0,none⟩)] X fun e w'=>e = .returned (.bool tk)/\Grown X w'):=HT.out;go_enter func98,ntmps98
  go_wp2_with fail
  go_ret
  exact ⟨rfl,((dg _).alloc _).alloc _⟩
theorem Kws (hs:List (Hd4×GoneP)) (A:Option Addr) (n c r:Nat) (hr:r < 3) (l:List Lb) (h:Hd3) (y:Wnd) (p pg pr:Nat) (W:World) (hG:Gones W A n hs) (hl:Elems W W.heap.size 2 encLb h.l.A h.l.n l) (hlz:h.l.n<=1099511627776)
  (hp:Blk W p 184 #[.func (.func 94) #[] #[.pointer (some ⟨pg,0,none⟩),.pointer (some ⟨pr,0,none⟩)]]) (hpg:Blk W pg 22 #[.slice A n c]) (hpr:Blk W pr 3 #[.int .i64 (r:Int)]) :
  Calls prog 99 #[.agg (encH3 h).toArray,.agg (Kad y).toArray,.pointer (some ⟨pr,0,none⟩),.pointer (some ⟨p,0,none⟩)] W fun e w'=>e = .returned (.bool (decide (r≠0) && !Kbl hs r l y.start))/\Grown W w':=by
 have ht:∀X:World,Below W.heap.size W X->Calls prog 94 #[.agg (encH3 h).toArray,.int .i64 y.start,.pointer (some ⟨pg,0,none⟩),.pointer (some ⟨pr,0,none⟩)] X fun e w'=>e = .returned (.bool (Kbl hs r l y.start))/\Grown X w':=fun X hX=>
  Klq hs A n c r hr l y.start h pg pr X (hG.below hX) ((hl.below hX).more hX.size) hlz (hpg.below hX hpg.lt) (hpr.below hX hpr.lt)
 have egT:∀args w,(callFunc 94 args).run prog w = .ok (.enter 94 args) w:=enters_of func94 (by kernel_rfl) rfl;obtain ⟨tk,aa⟩:=i7 (Kbl hs r l y.start);rw[<-aa] at ht |-;have HT:=Jh ht;have p0:=hp.cell 0;have r0:=hpr.cell 0;simp at p0 r0;have pl:=hp.lt;have rl:=hpr.lt;obtain ⟨⟨lA,ln,lc⟩,⟨sA,sn,sc⟩,⟨wA,wn,wc⟩⟩:=h;obtain ⟨y1,y2,y3,y4,y5,y6⟩:=y;unfold encH3 Kad;unfold encH3 at HT;dsimp only at HT |-;clear ht aa hG hl hp hpg hpr;rcases dh r with h0 | h0
 .subst h0;simp only[ne_eq,not_true_eq_false,decide_false,dD];have ab:Hid (∀X:World,Below W.heap.size W X->Calls prog 94 #[.agg #[.slice lA ln lc,.slice sA sn sc,.slice wA wn wc],.int .i64 y1,.pointer (some ⟨pg,0,none⟩),.pointer (some ⟨pr,0,none⟩)] X fun e w'=>e = .returned (.bool tk)/\Grown X w'):=HT.out;go_enter func99,ntmps99
  go_wp2_with fail
  go_ret
  exact ⟨rfl,((dg _).alloc _).alloc _⟩
 .have hn:r≠0:=by omega
  have d1:((r:Int) == 0)=false:=jg.2 (by omega);have d2:((r:Int) != 0)=true:=bne_iff_ne.2 (by omega);have d3:decide ((r:Int)=0)=false:=ja (by omega);rw[show decide (r≠0)=true from jd hn];simp only[dF];have ab:Hid (∀X:World,Below W.heap.size W X->Calls prog 94 #[.agg #[.slice lA ln lc,.slice sA sn sc,.slice wA wn wc],.int .i64 y1,.pointer (some ⟨pg,0,none⟩),.pointer (some ⟨pr,0,none⟩)] X fun e w'=>e = .returned (.bool tk)/\Grown X w'):=HT.out;go_enter func99,ntmps99
  go_wp2_with fail
  refine (ab.out _ (((Below.refl _ _).alloc (cO _) _).alloc (by simp) _)).mono ?_;rintro _ w1 ⟨rfl,hg⟩;have HG:=Jh hg;clear hg;go_wp2_with fail
  go_ret
  exact ⟨by cases tk <;> rfl,(((dg _).alloc _).alloc _).trans HG.out⟩
def Kck (res:Int) (hs:List (Hd4×GoneP)) (ss:List Ser):List Ser:=if 0<=res/\res < 3 then keptF (fun s x=>decide (res.toNat=0) && !Kbl hs res.toNat s.labels x.t) (fun s x=>decide (res.toNat≠0) && !Kbl hs res.toNat s.labels x.start) ss else []
theorem Kmx (res:Int) (A:Option Addr) (n c:Nat) (ss:List Ser) (B:Option Addr) (k d:Nat) (hs:List (Hd4×GoneP)) (w:World) (h:SersZ w A n ss) (hG:Gones w B k hs) :
  Calls prog 34 #[.int .i64 res,.slice A n c,.slice B k d] w fun e w'=>∃(A':Option Addr) (n' c':Nat),e = .returned (.slice A' n' c')/\Sers w' A' n' (Kck res hs ss)/\n'<=c'/\Below w.heap.size w w':=by
 by_cases hres:0<=res/\res < 3
 .obtain ⟨r,rfl⟩:∃r:Nat,res=(r:Int):=⟨res.toNat,by omega⟩;have aj:r < 3:=by omega
  have ac:Kck (r:Int) hs ss=keptF (fun s x=>decide (r=0) && !Kbl hs r s.labels x.t) (fun s x=>decide (r≠0) && !Kbl hs r s.labels x.start) ss:=by unfold Kck;rw[jf hres,Int.toNat_natCast]
  rw[ac];obtain ⟨w3,ab⟩:=i7 (((w.alloc (.cells #[.int .i64 (r:Int)] 3)).alloc (.cells #[.slice B k d] 22)).alloc (.cells #[.func (.func 94) #[] #[.pointer (some ⟨w.heap.size+1,0,none⟩),.pointer (some ⟨w.heap.size,0,none⟩)]] 184));have ad:Below w.heap.size w w3:=by rw[ab];exact (((Below.refl _ _).alloc (cO _) _).alloc (by simp) _).alloc (by simp;omega) _
  have hf:Blk w3 w.heap.size 3 #[.int .i64 (r:Int)]:=by rw[ab];exact ((di _ _ _).alloc _).alloc _
  have ht:Blk w3 (w.heap.size+1) 22 #[.slice B k d]:=by rw[ab];exact (dk (by simp)).alloc _
  have hp:Blk w3 (w.heap.size+2) 184 #[.func (.func 94) #[] #[.pointer (some ⟨w.heap.size+1,0,none⟩),.pointer (some ⟨w.heap.size,0,none⟩)]]:=by rw[ab];exact dk (by simp)
  have ak:∀args w,(callFunc 98 args).run prog w = .ok (.enter 98 args) w:=enters_of func98 (by kernel_rfl) rfl;have ai:∀args w,(callFunc 99 args).run prog w = .ok (.enter 99 args) w:=enters_of func99 (by kernel_rfl) rfl;obtain ⟨al,hE,hl,ag⟩:=h.s.below ad;have ae:=hG.below ad
  have aa:∀(i:Nat) (x:Hd3) (s:Ser),al[i]? = some x->ss[i]! = s->x.l.n<=1099511627776/\Elems w3 w3.heap.size 2 encLb x.l.A x.l.n s.labels:=fun i x s hi hs=>by
   have a:=ag i x hi;rw[hs] at a
   have af:s∈ss:=by
    have am:i < ss.length:=by rw[hl,<-hE.len];exact (cY.1 hi).1
    rw[<-hs,i9 ss i am];exact dd _
   refine ⟨?_,a.l⟩;have h1:=a.l.len;have h2:=(h.z s af).1;omega
  have HK:=Jh (Qbb (w0:=w3) (fun s x=>decide (r=0) && !Kbl hs r s.labels x.t) (fun s x=>decide (r≠0) && !Kbl hs r s.labels x.start) 98 99 #[.pointer (some ⟨w.heap.size,0,none⟩),.pointer (some ⟨w.heap.size+2,0,none⟩)] #[.pointer (some ⟨w.heap.size,0,none⟩),.pointer (some ⟨w.heap.size+2,0,none⟩)] A n c al ss ak ai hE hl ag h.z h.n
   (fun W hW i x s hi hs' y _=>Kwr hs B k d r aj s.labels x y _ _ _ W (ae.below hW) (((aa i x s hi hs').2.below hW).more hW.size) (aa i x s hi hs').1 (hp.below hW hp.lt) (ht.below hW ht.lt) (hf.below hW hf.lt))
   (fun W hW i x s hi hs' y _=>Kws hs B k d r aj s.labels x y _ _ _ W (ae.below hW) (((aa i x s hi hs').2.below hW).more hW.size) (aa i x s hi hs').1 (hp.below hW hp.lt) (ht.below hW ht.lt) (hf.below hW hf.lt)))
  have ah:=Jh ad;have an:=Jh ab;have d1:¬(r:Int) < 0:=by omega
  have d2:(r:Int) < 3:=by omega
  clear hf ht hp ak ai hE hl ag h ad ab hG ae aa ac hres;go_enter func34,ntmps34
  go_upto_region 4 with fail
  have ab:=an.out;rw[<-ab];clear ab;go_wp2_with fail
  refine HK.out.mono ?_;rintro _ w4 ⟨A',n',c',rfl,h1,h2,h3⟩;have HF:=Jh (And.intro h1 (And.intro h2 (ah.out.trans (h3.mono ah.out.size))));clear h1 h2 h3 HK;go_wp2_with fail
  go_ret
  exact ⟨A',n',c',rfl,HF.out.1,HF.out.2.1,HF.out.2.2⟩
 .have ac:Kck res hs ss = []:=by unfold Kck;rw[je hres]
  rw[ac];clear h hG ac;rcases (by omega:res < 0\/(¬res < 0/\3<=res)) with h1 | ⟨h1,h2⟩
  .go_enter func34,ntmps34
   go_wp2_with fail
   go_ret
   exact ⟨none,0,0,rfl,Sers.nil _,cO _,((Below.refl _ _).alloc (cO _) _).alloc (by simp) _⟩
  .go_enter func34,ntmps34
   go_wp2_with fail
   go_ret
   exact ⟨none,0,0,rfl,Sers.nil _,cO _,((Below.refl _ _).alloc (cO _) _).alloc (by simp) _⟩
end
end
section
open Go.Shelf Go.RowKit Go.Lib Go.Sort
theorem eqvM {w0:World} (x:MS w0):eqv (ltOf (cfM (w0:=w0))) x=fun y=>decide (y.s.labels=x.s.labels):=by
 funext y;unfold eqv;rw[ltM,ltM];have h:=Kde x.s.labels y.s.labels
 by_cases he:y.s.labels=x.s.labels
 .rw[jd he,he,Kcz];rfl
 .rw[ja he];have hz:cmpL x.s.labels y.s.labels≠0:=fun e=>he (Kdg e).symm
  rcases (by omega:cmpL x.s.labels y.s.labels < 0\/cmpL y.s.labels x.s.labels < 0) with q | q
  .rw[jd q];rfl
  .rw[jd q];simp
theorem Kyy {w0:World} {xs ys:List (MS w0)} (h:Stab (ltOf cfM) xs ys):Kev (ys.map MS.s)=Kaf (xs.map MS.s):=by
 refine Qdx ?_ fun L=>?_
 .rw[c8];refine h.asc.imp fun q=>?_
  rw[ltM,jb] at q;exact q
 .rw[dC,dC];congr 1
  by_cases hex:∃x∈xs,x.s.labels=L
  .obtain ⟨x,_,rfl⟩:=hex;have:=h.keep x;rw[eqvM] at this;exact this
  .have h1:xs.filter ((fun x=>decide (x.labels=L)) ∘ MS.s) = []:=c6.2 fun x hx he=>hex ⟨x,hx,by simpa using he⟩
   have h2:ys.filter ((fun x=>decide (x.labels=L)) ∘ MS.s) = []:=c6.2 fun x hx he=>hex ⟨x,h.perm.mem_iff.1 hx,by simpa using he⟩
   rw[h1,h2]
theorem Kzs {w:World}:∀{hs:List Hd3} {L:List Ser},Pairs (fun h s=>SerAt w h s/\h.l.n<=1099511627776) hs L->∃xs:List (MS w),xs.map MS.h=hs/\xs.map MS.s=L
 | [],[],_=>⟨[],rfl,rfl⟩
 | [],_ :: _,h=>h.elim
 | _ :: _,[],h=>h.elim
 | a :: hs,b :: L,h=>by obtain ⟨xs,h1,h2⟩:=Kzs h.2;exact ⟨⟨a,b,h.1.1,h.1.2⟩ :: xs,by simp[h1],by simp[h2]⟩
structure Lists (w:World) (A:Option Addr) (n:Nat) (hs:List Hd) (Ls:List (List Ser)):Prop where
 e:Elems w w.heap.size 1 Kfe A n hs
 l:Ls.length=n
 k:∀(i:Nat) (h:Hd),hs[i]? = some h->Sers w h.A h.n Ls[i]!/\h.n<=h.c
 z:∀L∈Ls,∀s∈L,s.labels.length<=1099511627776
theorem Kvr {w:World}:∀{hs:List Hd} {Ls:List (List Ser)},Pairs (fun (h:Hd) L=>Sers w h.A h.n L/\∀s∈L,s.labels.length<=1099511627776) hs Ls->∃(Ks:List (List Hd3)) (xs:List (MS w)),Ks.flatten=xs.map MS.h/\xs.map MS.s=Ls.flatten/\Pairs (fun (h:Hd) K=>Elems w w.heap.size 3 encH3 h.A h.n K) hs Ks
 | [],[],_=>⟨[],[],rfl,rfl,trivial⟩
 | [],_ :: _,h=>h.elim
 | _ :: _,[],h=>h.elim
 | a :: hs,L :: Ls,h=>by
  obtain ⟨Ks,xs,h1,h2,h3⟩:=Kvr h.2;obtain ⟨⟨ks,e1,e2,e3⟩,hz⟩:=h.1
  obtain ⟨ys,f1,f2⟩:=Kzs (w:=w) (hs:=ks) (L:=L) (Pairs.of (by rw[e1.len,e2]) fun i x hi=>⟨e3 i x hi,by
   have hl:=(e3 i x hi).l.len;have aa:i < L.length:=by rw[e2,<-e1.len];exact (cY.1 hi).1
   rw[<-hl,i9 L i aa]
   exact hz _ (dd _)⟩)
  exact ⟨ks :: Ks,ys++xs,by rw[dy,h1,dv,f1],by rw[dy,dv,f2,h2],e1,h3⟩
theorem Krw {w:World} (A:Option Addr) (n c:Nat) (hs:List Hd) (Ls:List (List Ser)) (h:Lists w A n hs Ls) (hn:n<=140737488355328) (hN:Ls.flatten.length<=274877906944) (hsum:sumS Ls.flatten<=137438953472) :
  Calls prog 24 #[.slice A n c] w fun e w'=>∃(A':Option Addr) (n' c':Nat),e = .returned (.slice A' n' c')/\Sers w' A' n' (Kaf Ls.flatten)/\n'<=c'/\Below w.heap.size w w':=by
 obtain ⟨Ks,xs,h1,h2,h3⟩:=Kvr (w:=w) (hs:=hs) (Ls:=Ls) (Pairs.of (by rw[h.e.len,h.l]) fun i x hi=>⟨(h.k i x hi).1,by
  have ac:i < Ls.length:=by rw[h.l,<-h.e.len];exact (cY.1 hi).1
  rw[i9 Ls i ac]
  exact h.z _ (dd _)⟩)
 have ab:xs.length=Ls.flatten.length:=by rw[<-h2,dz]
 have aa:CatIn w A n hs Ks:=⟨h.e,by rw[<-h3.len,h.e.len],fun i x hi=>h3.at_ i x hi,fun x hx=>by
  obtain ⟨i,hi⟩:=List.mem_iff_getElem?.1 hx
  exact (h.k i x hi).2⟩
 refine (Kyf xs A n c hs Ks h1 aa (by rw[ab];exact hN) hn (by rw[h2];exact hsum)).mono ?_;rintro e w' ⟨ys,A',n',c',rfl,g1,g2,g3,g4⟩;rw[Kyy g1,h2] at g2;exact ⟨A',n',c',rfl,g2,g3,g4⟩
end
section
theorem Kbo (x:Ser) (l:List Ser):sumS (x :: l)=x.samples.length+x.windows.length+sumS l:=by unfold sumS;simp
theorem Kie {α : Type} (k:α->Int) (xs:List α):(onceL k xs).length<=xs.length:=by have:=Kei k xs [];unfold onceL;simpa using this
theorem Ksd (P:List Lb->Prop) (s:Ser):∀out:List Ser,(Kbg out s).length<=out.length+1/\sumS (Kbg out s)<=sumS out+(s.samples.length+s.windows.length)/\((∀g∈out,P g.labels)->P s.labels->∀g∈Kbg out s,P g.labels)
 | []=>by have h1:=Kie Smp.t s.samples;have h2:=Kie Wnd.start s.windows;refine ⟨by simp[Kbg],?_,fun _ h g hg=>by simp[Kbg] at hg;rw[hg];exact h⟩;unfold Kbg;rw[Kbo];simp[sumS];omega
 | y :: l=>by
  have h1:=Kie Smp.t s.samples;have h2:=Kie Wnd.start s.windows;have h3:=Kei Smp.t s.samples y.samples;have h4:=Kei Wnd.start s.windows y.windows;obtain ⟨i1,i2,i3⟩:=Ksd P s l;unfold Kbg
  split
  .refine ⟨by simp,?_,fun ho _ g hg=>?_⟩
   .rw[Kbo,Kbo];dsimp only;omega
   .rcases c0.1 hg with q | q
    .rw[q];exact ho y (dn)
    .exact ho g (de _ q)
  .split
   .refine ⟨by simp,?_,fun ho hs g hg=>?_⟩
    .rw[Kbo];dsimp only;omega
    .rcases c0.1 hg with q | q
     .rw[q];exact hs
     .exact ho g q
   .refine ⟨by simp only[dt];omega,?_,fun ho hs g hg=>?_⟩
    .rw[Kbo,Kbo];omega
    .rcases c0.1 hg with q | q
     .rw[q];exact ho y (dn)
     .exact i3 (fun g h=>ho g (de _ h)) hs g q
theorem Kgn (P:List Lb->Prop):∀l out:List Ser,(l.foldl Kcn out).length<=out.length+l.length/\sumS (l.foldl Kcn out)<=sumS out+sumS l/\((∀g∈out,P g.labels)->(∀s∈l,P s.labels)->∀g∈l.foldl Kcn out,P g.labels)
 | [],out=>⟨by simp,by simp,fun h _=>h⟩
 | s :: l,out=>by
  obtain ⟨i1,i2,i3⟩:=Kgn P l (Kcn out s)
  have hs:(Kcn out s).length<=out.length+1/\sumS (Kcn out s)<=sumS out+(s.samples.length+s.windows.length)/\((∀g∈out,P g.labels)->P s.labels->∀g∈Kcn out s,P g.labels):=by
   unfold Kcn
   split
   .exact Ksd P s out
   .exact ⟨by omega,by omega,fun h _=>h⟩
  rw[List.foldl_cons,Kbo,dt];exact ⟨by omega,by omega,fun h hl=>i3 (hs.2.2 h (hl s dn)) fun x hx=>hl x (de _ hx)⟩
theorem Khd (l:List Ser):(Kaf l).length<=l.length:=by have:=(Kgn (fun _=>True) l []).1;unfold Kaf;simpa using this
theorem Kfd (l:List Ser):sumS (Kaf l)<=sumS l:=by have:=(Kgn (fun _=>True) l []).2.1;unfold Kaf;simpa[sumS] using this
theorem Ked (P:List Lb->Prop) (l:List Ser) (h:∀s∈l,P s.labels):∀g∈Kaf l,P g.labels:=(Kgn P l []).2.2 (fun g hg=>by simp at hg) h
theorem Khi {l:List Ser} {s:Ser} (h:s∈l):s.samples.length+s.windows.length<=sumS l:=by
 induction l with
 | nil=>simp at h
 | cons x l ih=>
  rw[Kbo];rcases c0.1 h with q | q
  .rw[q];omega
  .have:=ih q;omega
theorem Qaq {w:World} {A:Option Addr} {n:Nat} {l:List Ser} (h:Sers w A n (Kaf l)) (hz:∀s∈l,s.labels.length<=1099511627776) (hl:l.length<=274877906944) (hs:sumS l<=137438953472):SersZ w A n (Kaf l):=by
 have hn:(Kaf l).length=n:=by obtain ⟨hs0,_,h2,_⟩:=h;exact h2
 refine ⟨h,fun s hm=>⟨Ked (fun L=>L.length<=1099511627776) l hz s hm,?_,?_⟩,by have:=Khd l;omega⟩
 .have h1:=Khi hm;have h2:=Kfd l;omega
 .have h1:=Khi hm;have h2:=Kfd l;omega
end
section
open Go.RowKit Go.Maps Go.Sort
def HRi (v:Value):Option (DataW Value×List MemPlace):=some (.held v,[])
def IMap (P:Program) (K:TypeId) (w:World) (b:Nat) (f:Int->Option Int):Prop:=
 ∃D:DataW Value,w.ownsMap P K HRi b (ds D) D/\(∀x,dH D (.int .i64 x)=(f x).isSome)/\∀x v,f x=some v->∀z,D.atKey (.int .i64 x) z = .held (.int .i64 v)
def updI (f:Int->Option Int) (x v:Int):Int->Option Int:=fun y=>if y=x then some v else f y
theorem Kid:∀(l L:List Int),l.Nodup->(∀x∈l,x∈L)->l.length<=L.length
 | [],_,_,_=>by simp
 | a :: l,L,hn,h=>by have ha:=List.nodup_cons.1 hn;have:=Kid l (L.erase a) ha.2 (fun x hx=>(List.mem_erase_of_ne (fun e:x=a=>ha.1 (by rw[<-e];exact hx))).2 (h x (by simp[hx])));rw[List.length_erase_of_mem (h a (by simp))] at this;have h0:0 < L.length:=List.length_pos_of_mem (h a (by simp));simp only[dt];omega
def Kvd:Lit->Int
 | .int _ x=>x
 | _=>0
section
variable {P : Program} {K T E : TypeId} {w w' : World} {b : Nat} {f : Int -> Option Int}
theorem Kym {n:Nat} {D:DataW Value} (h:w.ownsMap P K HRi b n D):w.ownsMap P K HRi b (ds D) D:=by obtain ⟨es,aa,hb,F,hs,rfl⟩:=h;exact ⟨es,aa,hb,F,by simp[ds,length_sorted],rfl⟩
theorem IMap.lt (h:IMap P K w b f):b < w.heap.size:=by obtain ⟨D,h,_⟩:=h;exact h.lt
theorem IMap.grown {row:Option Nat} (h:IMap P K w b f) (hg:w.grownBy w' row) (hne:some b≠row):IMap P K w' b f:=by obtain ⟨D,h1,h2⟩:=h;exact ⟨D,h1.kept hg hne,h2⟩
theorem IMap.made (w:World):IMap P K (w.alloc (.map #[] 0)) w.heap.size fun _=>none:=
 ⟨.map [],World.ownsMap_made w P K HRi,fun x=>rfl,fun x v h=>by cases h⟩
theorem IMap.size_le (hK:P.underlying K=some (.int .i64)) {D:DataW Value} {n:Nat} (h:w.ownsMap P K HRi b n D) (L:List Int) (hL:∀x,dH D (.int .i64 x)=true->x∈L):ds D<=L.length:=by
 obtain ⟨es,rfl,ad⟩:=h.tidy (int_keyed hK);obtain ⟨es0,ac,_,F,_,e'⟩:=h;injection e' with e'
 have aa:∀p∈es,∃x,p.1 = .int .i64 x:=fun p hp=>by rw[e'] at hp;obtain ⟨v,hv⟩:=fit_keys F p (mem_sorted.1 hp);obtain ⟨x,_,hx,_⟩:=Maps.keyOf_int_inv hK hv;exact ⟨x,hx⟩
 rw[size_eq]
 have ae:(es.map fun p=>Kvd p.1).Nodup:=by refine c8.2 (ad.imp_of_mem fun {p q} hp' hq' hne e=>hne ?_);obtain ⟨a,ha⟩:=aa p hp';obtain ⟨b,hb⟩:=aa q hq';rw[ha,hb] at e |-;exact jk _ e
 have ab:∀x∈es.map (fun p=>Kvd p.1),x∈L:=by intro x hx;obtain ⟨p,hp,rfl⟩:=List.mem_map.1 hx;obtain ⟨a,ha⟩:=aa p hp;apply hL;rw[has_eq,c5];exact ⟨p,hp,by rw[ha];simp[Kvd,Lit.sameKey]⟩
 have:=Kid _ L ae ab;simpa using this
theorem wfI {x:Int} (h0:-9223372036854775808<=x) (h1:x < 9223372036854775808):(Lit.int .i64 x).wf=true:=by have e1:IntKind.i64.min = -9223372036854775808:=rfl;have e2:IntKind.i64.max=9223372036854775807:=rfl;simp only[Lit.wf,Bool.and_eq_true,i8];omega
theorem IMap.look (h:IMap P K w b f) (hK:P.underlying K=some (.int .i64)) (ht:P.underlying T=some (.map K E)) (hz:(zeroValue E).run P w = .ok (.int .i64 0) w) {x:Int} (hx:(Lit.int .i64 x).wf=true) :
  (Instr.lookup T (.map (some b)) (.int .i64 x) false).run P w = .ok (.int .i64 ((f x).getD 0)) w:=by
 obtain ⟨D,h1,h2,h3⟩:=h;obtain ⟨v,ps,aa,hv⟩:=h1.lookup (int_keyed hK) ht hz (zd:=.held (.int .i64 0)) (zp:=[]) rfl (keyOf_int_mk hK hx);rw[aa];congr 1
 have e:DataW.held v=D.atKey (.int .i64 x) (.held (.int .i64 0)):=by have:some (DataW.held v,([]:List MemPlace))=some (D.atKey (.int .i64 x) (.held (.int .i64 0)),ps):=hv;injection this with this;injection this
 cases hf:f x with
 | none=>
  have hh:=h2 x;rw[hf] at hh;rw[atKey_of_not_has hh] at e;injection e
 | some u=>
  rw[h3 _ u hf] at e;injection e
theorem IMap.put (h:IMap P K w b f) (hK:P.underlying K=some (.int .i64)) (ht:P.underlying T=some (.map K E)) {x:Int} (hx:(Lit.int .i64 x).wf=true) (v:Int) (L:List Int) (hL:∀x,(f x).isSome=true->x∈L) (hn:L.length < maxLen) :
  ∃w1,(Instr.mapUpdate T (.map (some b)) (.int .i64 x) (.int .i64 v)).run P w = .ok () w1/\IMap P K w1 b (updI f x v)/\w.grownBy w1 (some b)/\w1.heap.size=w.heap.size:=by
 obtain ⟨D,h1,h2,h3⟩:=h;have hsz:=IMap.size_le hK h1 L (fun x hx=>hL x (by rw[<-h2];exact hx));obtain ⟨w1,ab,ac,aa⟩:=h1.store (int_keyed hK) ht (by omega) (kl:=.int .i64 x) (keyOf_int_mk hK hx) (val:=.int .i64 v) (d:=.held (.int .i64 v)) (ps:=[]) rfl;refine ⟨w1,ab,⟨_,Kym ac,fun y=>?_,fun y u hu z=>?_⟩,aa.grown,?_⟩
 .unfold updI
  by_cases e:y=x
  .subst e;rw[has_put_same (k:=.int .i64 _) h1.isMap trivial,jf rfl];rfl
  .rw[has_put_other (by intro h;injection h with _ h;exact e h),je e,h2]
 .unfold updI at hu
  by_cases e:y=x
  .subst e;rw[jf rfl] at hu;injection hu with hu;rw[atKey_put_same (k:=.int .i64 _) h1.isMap trivial,hu]
  .rw[je e] at hu;rw[atKey_put_other (by intro h;injection h with _ h;exact e h)];exact h3 y u hu z
 .obtain ⟨es,ae,es',ad,_,rfl⟩:=aa;simp[ChangeMaps.setBlock]
end
section
variable {P : Program} {K T E : TypeId} (w : World) {ops : Array Oper} {rest : List Oper} {o : Oper} {a : Act} {Q : Exit -> Act -> World -> Prop} {b : Nat} {f : Int -> Option Int}
theorem Klz (hg:o.guard=none) (m x:Operand) (hop:o.op=Op.lookup T m x false) (hK:P.underlying K=some (.int .i64)) (ht:P.underlying T=some (.map K E)) (hz:(zeroValue E).run P w = .ok (.int .i64 0) w)
  (hm:a.eval m = .map (some b)) (h:IMap P K w b f) {k:Int} (hx:a.eval x = .int .i64 k) (hs:(Lit.int .i64 k).wf=true)
  (hQ:wpList P ops Q rest (a.put o.dst (.int .i64 ((f k).getD 0))) w):wpList P ops Q (o :: rest) a w:=by
 refine wpList_plain hg fun K' hK'=>?_
 have:=h.look hK ht hz hs;unfold Oper.wp;simp[execOp,hop,hm,hx,this,Result.andThen];exact hK' _ _ hQ
theorem Kna (hg:o.guard=none) (m x v:Operand) (hop:o.op=Op.mapUpdate T m x v) (hK:P.underlying K=some (.int .i64)) (ht:P.underlying T=some (.map K E))
  (hm:a.eval m = .map (some b)) (h:IMap P K w b f) {k:Int} (hx:a.eval x = .int .i64 k) (hs:(Lit.int .i64 k).wf=true) (u:Int) (hv:a.eval v = .int .i64 u) (L:List Int) (hL:∀x,(f x).isSome=true->x∈L) (hn:L.length < maxLen)
  (hQ:∀w1,IMap P K w1 b (updI f k u)->w.grownBy w1 (some b)->w1.heap.size=w.heap.size->wpList P ops Q rest (a.put o.dst undef) w1):wpList P ops Q (o :: rest) a w:=by
 refine wpList_plain hg fun K' hK'=>?_
 obtain ⟨w1,aa,h1,h2,h3⟩:=h.put hK ht hs u L hL hn;unfold Oper.wp;simp[execOp,hop,hm,hx,hv,aa,Result.andThen];exact hK' _ _ (hQ w1 h1 h2 h3)
end
end
end Go.Proofs.YtdoiekknhnbepaaGreatDoor
