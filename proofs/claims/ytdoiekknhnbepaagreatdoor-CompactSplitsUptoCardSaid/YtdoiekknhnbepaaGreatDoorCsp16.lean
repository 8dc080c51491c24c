/- Merged (what the claim wants of): RKept, RInsP. -/
import Derived.Test.YtdoiekknhnbepaaGreatDoorCsp15
set_option linter.unusedVariables false
set_option linter.unusedSimpArgs false
set_option maxRecDepth 1000000
set_option linter.ambiguousOpen false
set_option maxHeartbeats 8000000
namespace Go.Proofs.YtdoiekknhnbepaaGreatDoor
open List renaming getElem?_eq_getElem->b9,getElem?_eq_some_iff->ca,filter_eq_nil_iff->cb,getElem?_append_right->cc,getElem?_append_left->cf,getElem?_cons_zero->ch,map_nil->cj
open World renaming ownsRow_nil->ck,grownBy_alloc->cl
open Value renaming slice->cm
open World.ownsRow renaming alloc->cn
open Blk renaming new->cp
open Go.Proofs.Tryz
open Nat renaming lt_of_lt_of_le->b8,le_trans->cg,le_refl->cw,lt_or_ge->cD,sub_self->cJ,le_of_not_lt->cO
open List renaming length_filter_le->cd,length_take->ce,take_of_length_le->ci,take_add_one->co,flatMap_append->cr,filter_append->cz,filter_cons->cA,filter_nil->cB,drop_eq_getElem_cons->cG,flatMap_cons->cH,length_cons->cI,mem_of_getElem?->cL,length_append->cM,not_mem_nil->cN,map_append->cP,length_map->cQ,map_cons->cT,mem_cons->cU
open Option renaming toList->cC
open Bool renaming noConfusion->cE,and_eq_false_iff->cK,false_and->cR
section
open Go.Shelf Go.RowKit Go.Lib Go.Sort
open Lib renaming hid -> Jh
open List renaming length_append -> Jd
attribute [local go_sem ↓] Go.wp_at_zero Go.wp_at_succ
attribute [local go_sem] Later.cell
section
structure DRow (w0:World) (B:Nat) (w:World) (h:Hd3) (g:Ser):Prop where
 l:Elems w0 w0.heap.size 2 encLb h.l.A h.l.n g.labels
 lc:h.l.n<=h.l.c
 sm:w.ownsRow B 133 2 (.slice h.s.A h.s.n h.s.c) g.samples.length (g.samples.flatMap Kac)
 wd:w.ownsRow B 136 6 (.slice h.w.A h.w.n h.w.c) g.windows.length (g.windows.flatMap Kad)
theorem DRow.below {w0 w w':World} {B:Nat} {h:Hd3} {g:Ser} (d:DRow w0 B w h g) (hb:Below w.heap.size w w'):DRow w0 B w' h g:=⟨d.l,d.lc,Kbc d.sm hb,Kbc d.wd hb⟩
theorem DRow.grown {w0 w w':World} {B B' n sz:Nat} {v:Value} {xs:List Value} {h:Hd3} {g:Ser} (d:DRow w0 B w h g) (hv:w.ownsRow B' 132 sz v n xs) (hg:w.grownBy w' v.ownBlock):DRow w0 B w' h g:=
 ⟨d.l,d.lc,d.sm.kept hg (Kav d.sm hv (by decide)),d.wd.kept hg (Kav d.wd hv (by decide))⟩
theorem DRow.at_ {w0 w:World} {B:Nat} {h:Hd3} {g:Ser} (d:DRow w0 B w h g) (hb:Below w0.heap.size w0 w):SerAt w h g:=by obtain ⟨A1,c1,e1,k1,_,m1⟩:=Elems.of_own (enc:=Kac) (fun x _=>rfl) rfl d.sm rfl;obtain ⟨A2,c2,e2,k2,_,m2⟩:=Elems.of_own (enc:=Kad) (fun x _=>rfl) rfl d.wd rfl;injection e1 with e1 f1 g1;injection e2 with e2 f2 g2;rw[<-e1,<-f1] at k1;rw[<-e2,<-f2] at k2;exact ⟨(d.l.below hb).more hb.size,d.lc,k1,by omega,k2,by omega⟩
structure DOut (wl w0:World) (w:World) (v:Value) (hs:List Hd3) (gs:List Ser):Prop where
 bl:Below wl.heap.size wl w0
 b:Below w0.heap.size w0 w
 row:w.ownsRow w0.heap.size 132 3 v hs.length (hs.flatMap encH3)
 l:gs.length=hs.length
 r:∀(i:Nat) (h:Hd3) (g:Ser),hs[i]? = some h->gs[i]? = some g->DRow wl w0.heap.size w h g
theorem DOut.nil {wl w0:World} (hbl:Below wl.heap.size wl w0):DOut wl w0 w0 (.slice none 0 0) [] []:=⟨hbl,Below.refl _ _,ck _ _ _ _,rfl,fun i h g hi=>by simp at hi⟩
theorem DOut.below {wl w0 w w':World} {v:Value} {hs:List Hd3} {gs:List Ser} (d:DOut wl w0 w v hs gs) (hb:Below w.heap.size w w'):DOut wl w0 w' v hs gs:=
 ⟨d.bl,d.b.trans (hb.mono d.b.size),Kbc d.row hb,d.l,fun i h g hi hg=>(d.r i h g hi hg).below hb⟩
theorem DOut.snoc {wl w0 w w':World} {v v':Value} {hs:List Hd3} {gs:List Ser} (d:DOut wl w0 w v hs gs) {x:Hd3} {s:Ser} (hg:w.grownBy w' v.ownBlock) (hrow:w'.ownsRow w0.heap.size 132 3 v' (hs.length+1) (hs.flatMap encH3++encH3 x)) (hx:DRow wl w0.heap.size w x s) :
  DOut wl w0 w' v' (hs ++ [x]) (gs ++ [s]):=by
 refine ⟨d.bl,d.b.grown hg d.b.size (fun k hk=>(d.row.lt k hk).1),by rw[Jd,cr,List.flatMap_singleton];exact hrow,by rw[Jd,Jd,d.l];rfl,fun i h g hi hgi=>?_⟩
 by_cases hl:i < hs.length
 .rw[cf hl] at hi;rw[cf (by rw[d.l];exact hl)] at hgi;exact (d.r i h g hi hgi).grown d.row hg
 .have aa:i=hs.length:=by
   have:=(ca.1 hi).1;rw[Jd,List.length_singleton] at this;omega
  subst aa;rw[cc (cw _),cJ] at hi;rw[cc (by rw[d.l];exact cw _),d.l,cJ] at hgi;simp only[ch,Option.some.injEq] at hi hgi;subst hi hgi;exact hx.grown d.row hg
theorem DOut.sers {wl w0 w:World} {A:Option Addr} {n c:Nat} {hs:List Hd3} {gs:List Ser} (d:DOut wl w0 w (.slice A n c) hs gs) (hn:hs.length=n):Sers w A n gs/\n<=c:=by
 obtain ⟨A9,c9,e9,hE,_,aa⟩:=Elems.of_own (xs:=hs) (enc:=encH3) (fun _ _=>rfl) rfl d.row rfl;injection e9 with e9 _ e8;subst e9 e8;rw[hn] at hE aa;refine ⟨⟨hs,hE,by rw[d.l,hn],fun i h hi=>?_⟩,aa⟩;have ab:i < gs.length:=by rw[d.l];exact (ca.1 hi).1
 rw[i9 gs i ab];exact (d.r i h _ hi (b9 ab)).at_ (d.bl.trans (d.b.mono d.bl.size))
structure DNew (wo:World) (w:World) (p:Nat) (hl:Hd) (vs vw:Value) (xs:List Smp) (ys:List Wnd):Prop where
 b:Below wo.heap.size wo w
 x:Blk w p 132 #[.slice hl.A hl.n hl.c,vs,vw]
 p:wo.heap.size<=p
 s:w.ownsRow wo.heap.size 133 2 vs xs.length (xs.flatMap Kac)
 w:w.ownsRow wo.heap.size 136 6 vw ys.length (ys.flatMap Kad)
theorem DNew.below {wo w w':World} {p:Nat} {hl:Hd} {vs vw:Value} {xs:List Smp} {ys:List Wnd} (d:DNew wo w p hl vs vw xs ys) (hb:Below w.heap.size w w'):DNew wo w' p hl vs vw xs ys:=
 ⟨d.b.trans (hb.mono d.b.size),d.x.below hb d.x.lt,d.p,Kbc d.s hb,Kbc d.w hb⟩
theorem DNew.setS {wo w w':World} {p:Nat} {hl:Hd} {vs vw v':Value} {xs xs':List Smp} {ys:List Wnd} (d:DNew wo w p hl vs vw xs ys) (hg:w.grownBy w' vs.ownBlock) (hrow:w'.ownsRow wo.heap.size 133 2 v' xs'.length (xs'.flatMap Kac)) :
  DNew wo (w'.setCell ⟨p,1,none⟩ v') p hl v' vw xs' ys:=by
 have hb:=d.x.grown hg (Kan d.x d.s (by decide));have hB:=d.b.grown hg d.b.size (fun k hk=>(d.s.lt k hk).1);exact ⟨hB.setCell (p:=⟨p,1,none⟩) d.p _,hb.set_ 1 _,d.p,Kbt hrow hb (by decide),Kbt (d.w.kept hg (Kav d.w d.s (by decide))) hb (by decide)⟩
theorem DNew.setW {wo w w':World} {p:Nat} {hl:Hd} {vs vw v':Value} {xs:List Smp} {ys ys':List Wnd} (d:DNew wo w p hl vs vw xs ys) (hg:w.grownBy w' vw.ownBlock) (hrow:w'.ownsRow wo.heap.size 136 6 v' ys'.length (ys'.flatMap Kad)) :
  DNew wo (w'.setCell ⟨p,2,none⟩ v') p hl vs v' xs ys':=by
 have hb:=d.x.grown hg (Kan d.x d.w (by decide));have hB:=d.b.grown hg d.b.size (fun k hk=>(d.w.lt k hk).1);exact ⟨hB.setCell (p:=⟨p,2,none⟩) d.p _,hb.set_ 2 _,d.p,Kbt (d.s.kept hg (Kav d.s d.w (by decide))) hb (by decide),Kbt hrow hb (by decide)⟩
theorem Kwd (a b:Int) (A:Option Addr) (n c:Nat) (ss:List Ser) (w0 wl:World) (hbl:Below wl.heap.size wl w0) (h:SersZ wl A n ss) :
  Calls prog 52 #[.slice A n c,.int .i64 a,.int .i64 b] w0 fun e w'=>∃(A':Option Addr) (n' c':Nat) (hs:List Hd3),e = .returned (.slice A' n' c')/\hs.length=n'/\DOut wl w0 w' (.slice A' n' c') hs (keptF (fun _ x=>inR a b x.t) (fun _ x=>inR a b x.start) ss):=by
 have a5:=Jh hbl;obtain ⟨ib,bK,bP,bA,bt⟩:=info_parts Khy;obtain ⟨is,bv,bo,bq,bn⟩:=info_parts Khz;obtain ⟨iw,bJ,bI,aH,bs⟩:=info_parts Kia;obtain ⟨aB,hE,bl,ay⟩:=h.s;have hn:=h.n;have HE:=Jh hE;have bf:=Jh bl;have bH:=Jh ay;have HZ:=Jh h.z;obtain ⟨fS,a1⟩:∃f:Ser->Smp->Bool,f=fun _ x=>inR a b x.t:=⟨_,rfl⟩
 obtain ⟨fW,aW⟩:∃f:Ser->Wnd->Bool,f=fun _ x=>inR a b x.start:=⟨_,rfl⟩
 have bz:=Jh a1;have bL:=Jh aW;rw[<-a1,<-aW];have HD:Hid (DOut wl w0 w0 (.slice none 0 0) [] (((ss.take 0).map (keepS fS fW)).filter Kam)):=DOut.nil a5.out;clear hE bl ay h a1 aW;go_enter func52,ntmps52
 go_wp2_with fail
 go_loopg [7,8] n (fun kx s7 s8 wr=>∃(i:Nat) (hs:List Hd3),s8 = .int .i64 (i:Int)/\i+kx=n/\Hid (DOut wl w0 wr s7 hs (((ss.take i).map (keepS fS fW)).filter Kam)))
 case atStart=>exact ⟨0,[],rfl,by omega,HD⟩
 case round=>
  clear HD;obtain ⟨i,hs,rfl,hi,HO⟩:=hrel;rcases cD i n with hlt | hge
  .have bG:(i:Int) < (n:Int):=by omega
   have ac:=HO.out.row;obtain ⟨m,hm⟩:=i7 hs.length;rw[<-hm] at ac;obtain ⟨A7,c7,a2⟩:=Kag ac;subst a2;have az:=Jh hm;clear ac hm;obtain ⟨b0,ae,bC,aK,bg⟩:=HE.out.2 (by omega);have bB:=HE.out.len;obtain ⟨h,hh⟩:∃h,aB[i]? = some h:=⟨aB[i]'(by omega),b9 _⟩;obtain ⟨s,a3⟩:∃s,ss[i]! = s:=⟨_,rfl⟩;have ad:=bH.out i h hh;rw[a3] at ad;have aX:ss[i]? = some s:=by rw[<-a3,i9 ss i (by rw[bf.out];exact hlt)];exact b9 _
   have bm:=Jh (HZ.out s (cL aX));obtain ⟨⟨lA,ln,lc⟩,⟨sA,sn,sc⟩,⟨wA,wn,wc⟩⟩:=h;obtain ⟨wo,rfl⟩:=i7 wr;have aL:Hid (Elems wl wl.heap.size 2 Kac sA sn s.samples):=ad.s;have aM:Hid (Elems wl wl.heap.size 6 Kad wA wn s.windows):=ad.w;have bi:Hid (Elems wl wl.heap.size 2 encLb lA ln s.labels/\ln<=lc):=⟨ad.l,ad.lc⟩
   have ba:sn<=137438953472/\wn<=137438953472:=by have h1:=aL.out.len;have h2:=aM.out.len;obtain ⟨z1,z2,z3⟩:=bm.out;omega
   obtain ⟨aF,aC⟩:=ba;have bd:Hid (Below w0.heap.size w0 wo):=HO.out.b;have am:Hid (Below wl.heap.size wl wo):=a5.out.trans (bd.out.mono a5.out.size);have aQ:Hid (∀W,Below wo.heap.size wo W->∀r v,r < 3->(encH3 ⟨⟨lA,ln,lc⟩,⟨sA,sn,sc⟩,⟨wA,wn,wc⟩⟩)[r]? = some v->W.cell? ⟨b0,ae+i*3+r,none⟩=some v):=fun W hW r v _ hv=>(hW.cell (p:=⟨b0,ae+i*3+r,none⟩) (b8 aK am.out.size)).trans ((am.out.cell (p:=⟨b0,ae+i*3+r,none⟩) aK).trans (bg i _ hh r v hv))
   have bb:Hid (b0 < wo.heap.size):=b8 aK am.out.size
   have aI:Hid (((ss.take (i+1)).map (keepS fS fW)).filter Kam=((ss.take i).map (keepS fS fW)).filter Kam++(if Kam (keepS fS fW s)=true then [keepS fS fW s] else [])):=by
    show _=_
    rw[co,aX,cP,cz];congr 1;simp only[cC,cT,cj,cA,cB]
   have k0:wo.cell? ⟨b0,ae+i*3,none⟩=some (.slice lA ln lc):=aQ.out wo (Below.refl _ _) 0 _ (by decide) rfl;have kl:=bb.out;subst bC;clear bg bB hh a3 ad aX aK;go_upto_region 6 with fail
   obtain ⟨p,hp⟩:=i7 wo.heap.size;obtain ⟨w1,aH⟩:=i7 (wo.alloc (.cells #[.slice lA ln lc,.slice none 0 0,.slice none 0 0] 132))
   have bh:Hid (DNew wo w1 p ⟨lA,ln,lc⟩ (.slice none 0 0) (.slice none 0 0) ((s.samples.take 0).filter (fS s)) []):=by
    show DNew _ _ _ _ _ _ _ _
    rw[aH,hp];exact ⟨(Below.refl _ _).alloc (cw _) _,cp _ _ _,cw _,ck _ _ _ _,ck _ _ _ _⟩
   rw[<-aH,<-hp];clear aH hp k0 kl;go_upto_region 6 with fail
   go_wp2_with fail
   go_loopg [10] sn (fun kx s10 wr=>∃(k:Nat) (vs:Value),s10 = .int .i64 (k:Int)/\k+kx=sn/\Hid (DNew wo wr p ⟨lA,ln,lc⟩ vs (.slice none 0 0) ((s.samples.take k).filter (fS s)) []))
   case atStart=>exact ⟨0,_,rfl,by omega,bh⟩
   case round=>
    clear bh;obtain ⟨k,vs,rfl,hk,HD⟩:=hrel;have aU:wr.cell? ⟨b0,ae+i*3+1,none⟩=some (.slice sA sn sc):=aQ.out wr HD.out.b 1 _ (by decide) rfl;have aT:b0 < wr.heap.size:=b8 bb.out HD.out.b.size;rcases cD k sn with hlt2 | hge2
    .have ap:(k:Int) < (sn:Int):=by omega
     have aw:=aL.out.below (am.out.trans (HD.out.b.mono am.out.size));obtain ⟨bx,ox,bc,af,aA⟩:=aw.2 (by omega);have aS:=aw.len;obtain ⟨y,hy⟩:∃y,s.samples[k]? = some y:=⟨s.samples[k]'(by omega),b9 _⟩;have ak:=aA k y hy;have a6:bx < wr.heap.size:=b8 af (cg am.out.size HD.out.b.size);have e0:wr.cell? ⟨bx,ox+k*2,none⟩=some (.int .i64 y.t):=ak 0 _ rfl;have e1:wr.cell? ⟨bx,ox+k*2+1,none⟩=some (.int .u64 (y.v:Int)):=ak 1 _ rfl
     have ax:Hid ((s.samples.take (k+1)).filter (fS s)=(s.samples.take k).filter (fS s)++(if fS s y=true then [y] else [])):=by
      show _=_
      rw[co,hy,cz];congr 1;simp only[cC,cA,cB]
     have HP:Hid (fS s y=(decide (a<=y.t) && decide (y.t<=b))):=by show _=_;rw[bz.out];rfl
     subst bc;clear aw aA aS hy ak af
     by_cases h1:a<=y.t/\y.t<=b
     .have c1:decide (a<=y.t)=true:=jd h1.1;have c2:decide (y.t<=b)=true:=jd h1.2;have aa:fS s y=true:=by rw[HP.out,c1,c2];rfl
      obtain ⟨bR,bS⟩:=h1;have aR:Hid ((s.samples.take (k+1)).filter (fS s)=(s.samples.take k).filter (fS s) ++ [y]):=by show _=_;rw[ax.out,aa];rfl
      have ab:=HD.out.s;obtain ⟨m2,hm⟩:=iZ (((s.samples.take k).filter (fS s)).length);have bE:m2<=k:=by rw[<-hm];exact cg (cd _ _) (by rw[ce];omega)
      have HM:=Jh hm;rw[hm] at ab;obtain ⟨VA,vc,ar⟩:=Kag ab;subst ar;have ai:=Jh ab;have aq:=HD.out.x;have d1:wr.cell? ⟨p,1,none⟩=some (.slice VA m2 vc):=aq.cell 1;have bO:=aq.lt;have bw:wo.heap.size<=wr.heap.size:=HD.out.b.size
      have a0:Hid (∀w5:World,(wr.drew.alloc (.cells #[.int .i64 y.t,.int .u64 (y.v:Int)] 133)).grownBy w5 (cm VA m2 vc).ownBlock->w5.cell? ⟨p,1,none⟩=some (.slice VA m2 vc)/\w5.frozen? ⟨p,1,none⟩=false/\p < w5.heap.size/\wr.grownBy w5 (cm VA m2 vc).ownBlock):=fun w5 hg=>by have h1:Blk wr.drew p 132 _:=HD.out.x;have h2:=(h1.alloc (.cells #[.int .i64 y.t,.int .u64 (y.v:Int)] 133)).grown hg (Kan HD.out.x ai.out (by decide));have h3:wr.drew.grownBy w5 (cm VA m2 vc).ownBlock:=(cl wr.drew _ _).trans hg;exact ⟨h2.cell 1,h2.frozen 1,h2.lt,⟨h3.os,h3.tape,h3.output,h3.size,h3.block⟩⟩
      have ah:Hid (∀j u,([.int .i64 y.t,.int .u64 (y.v:Int)]:List Value)[j]? = some u->(wr.drew.alloc (.cells #[.int .i64 y.t,.int .u64 (y.v:Int)] 133)).cell? ((⟨wr.heap.size,0,none⟩:Addr).add j)=some u):=Kao (l:=[.int .i64 y.t,.int .u64 (y.v:Int)]) (cp wr.drew _ _);have aY:Hid (∀u∈([.int .i64 y.t,.int .u64 (y.v:Int)]:List Value),u.oneCell'=true):=by show ∀u∈_,_;intro u hu;simp at hu;rcases hu with rfl | rfl <;> rfl
      clear ab aq hm aa;go_upto_region 10 with fail
      go_region_law ((refine step_append_lies _ (by rfl) _ _ _ (by rfl) wo.heap.size 133 is (.agg #[.int .i64 0,.int .u64 0]) 2 16 underlying129 bv bo bq bn rfl (by omega) (.slice VA m2 vc) m2 _ (by rfl) (cn (w:=wr.drew) ai.out _) ⟨wr.heap.size,0,none⟩ 1 1 [.int .i64 y.t,.int .u64 (y.v:Int)] (by rfl) (by rfl) ah.out aY.out (by omega) (by simp only[maxLen];omega) (by omega) (by simp;omega) (wr.heap.size+1) (by simp) ?_;intro g cap w5 hown5 hgrow ay hlt5;obtain ⟨kz,fz,pz,aG⟩:=a0.out _ hgrow))
      all_goals
       have al:Hid (DNew wo (w5.setCell ⟨p,1,none⟩ (.slice (some ⟨g,0,none⟩) (m2+1) cap)) p ⟨lA,ln,lc⟩ (.slice (some ⟨g,0,none⟩) (m2+1) cap) (.slice none 0 0) ((s.samples.take (k+1)).filter (fS s)) []):=HD.out.setS aG (by
        rw[aR.out,Jd,cr,HM.out]
        exact hown5)
       clear ay hgrow hown5 aG;go_wp2_with fail
       go_roundg (sn - (k+1))
       case measure=>omega
       case rel=>exact ⟨k+1,_,by first | rfl | go_num,by omega,al⟩
     .have aa:fS s y=false:=by
       rw[HP.out,cK]
       by_cases c1:a<=y.t
       .exact .inr (ja fun c2=>h1 ⟨c1,c2⟩)
       .exact .inl (ja c1)
      have al:Hid (DNew wo wr p ⟨lA,ln,lc⟩ vs (.slice none 0 0) ((s.samples.take (k+1)).filter (fS s)) []):=by
       have e:(s.samples.take (k+1)).filter (fS s)=(s.samples.take k).filter (fS s):=by rw[ax.out,aa];simp
       show DNew _ _ _ _ _ _ _ _
       rw[e];exact HD.out
      clear HD ax HP aa
      by_cases c1:a<=y.t
      .have c2:¬y.t<=b:=fun c2=>h1 ⟨c1,c2⟩
       have c3:decide (a<=y.t)=true:=jd c1;have c4:decide (y.t<=b)=false:=ja c2;clear h1;go_wp2_with fail
       go_roundg (sn - (k+1))
       case measure=>omega
       case rel=>exact ⟨k+1,_,by first | rfl | go_num,by omega,al⟩
      .have c3:decide (a<=y.t)=false:=ja c1;clear h1;go_wp2_with fail
       go_roundg (sn - (k+1))
       case measure=>omega
       case rel=>exact ⟨k+1,_,by first | rfl | go_num,by omega,al⟩
    .have ap:¬(k:Int) < (sn:Int):=by omega
     have aj:(s.samples.take k).filter (fS s)=s.samples.filter (fS s):=by rw[ci (by rw[aL.out.len];omega)]
     rw[aj] at HD;clear aj;have ar:=HD.out.s;obtain ⟨SN,aJ⟩:=i7 ((s.samples.filter (fS s)).length);rw[<-aJ] at ar;obtain ⟨SA,SC,br⟩:=Kag ar;subst br;have bN:SN<=137438953472:=by rw[aJ];exact cg (cd _ _) (by rw[aL.out.len];exact aF)
     have a7:=Jh aJ;have bj:Hid (DNew wo wr p ⟨lA,ln,lc⟩ (.slice SA SN SC) (.slice none 0 0) (s.samples.filter (fS s)) ((s.windows.take 0).filter (fW s))):=HD.out;clear HD ar aJ;go_upto_region 11 with fail
     go_wp2_with fail
     go_loopg [11] wn (fun kx s11 wr=>∃(k:Nat) (vs:Value),s11 = .int .i64 (k:Int)/\k+kx=wn/\Hid (DNew wo wr p ⟨lA,ln,lc⟩ (.slice SA SN SC) vs (s.samples.filter (fS s)) ((s.windows.take k).filter (fW s))))
     case atStart=>exact ⟨0,_,rfl,by omega,bj⟩
     case round=>
      clear bj;obtain ⟨k,vs,rfl,hk,HD⟩:=hrel;have aU:wr.cell? ⟨b0,ae+i*3+2,none⟩=some (.slice wA wn wc):=aQ.out wr HD.out.b 2 _ (by decide) rfl;have aT:b0 < wr.heap.size:=b8 bb.out HD.out.b.size;rcases cD k wn with hlt2 | hge2
      .have ap:(k:Int) < (wn:Int):=by omega
       have aw:=aM.out.below (am.out.trans (HD.out.b.mono am.out.size));obtain ⟨bx,ox,bc,af,aA⟩:=aw.2 (by omega);have aS:=aw.len;obtain ⟨y,hy⟩:∃y,s.windows[k]? = some y:=⟨s.windows[k]'(by omega),b9 _⟩;have ak:=aA k y hy;have a6:bx < wr.heap.size:=b8 af (cg am.out.size HD.out.b.size);have e0:wr.cell? ⟨bx,ox+k*6,none⟩=some (.int .i64 y.start):=ak 0 _ rfl;have e1:wr.cell? ⟨bx,ox+k*6+1,none⟩=some (.int .i64 y.count):=ak 1 _ rfl;have e2:wr.cell? ⟨bx,ox+k*6+2,none⟩=some (.int .u64 (y.sum:Int)):=ak 2 _ rfl;have e3:wr.cell? ⟨bx,ox+k*6+3,none⟩=some (.int .u64 (y.min:Int)):=ak 3 _ rfl;have e4:wr.cell? ⟨bx,ox+k*6+4,none⟩=some (.int .u64 (y.max:Int)):=ak 4 _ rfl;have e5:wr.cell? ⟨bx,ox+k*6+5,none⟩=some (.int .u64 (y.last:Int)):=ak 5 _ rfl
       have ax:Hid ((s.windows.take (k+1)).filter (fW s)=(s.windows.take k).filter (fW s)++(if fW s y=true then [y] else [])):=by
        show _=_
        rw[co,hy,cz];congr 1;simp only[cC,cA,cB]
       have HP:Hid (fW s y=(decide (a<=y.start) && decide (y.start<=b))):=by show _=_;rw[bL.out];rfl
       subst bc;clear aw aA aS hy ak af
       by_cases h1:a<=y.start/\y.start<=b
       .have c1:decide (a<=y.start)=true:=jd h1.1;have c2:decide (y.start<=b)=true:=jd h1.2;have aa:fW s y=true:=by rw[HP.out,c1,c2];rfl
        obtain ⟨bR,bS⟩:=h1;have aR:Hid ((s.windows.take (k+1)).filter (fW s)=(s.windows.take k).filter (fW s) ++ [y]):=by show _=_;rw[ax.out,aa];rfl
        have ab:=HD.out.w;obtain ⟨m2,hm⟩:=iZ (((s.windows.take k).filter (fW s)).length);have bE:m2<=k:=by rw[<-hm];exact cg (cd _ _) (by rw[ce];omega)
        have HM:=Jh hm;rw[hm] at ab;obtain ⟨VA,vc,ar⟩:=Kag ab;subst ar;have ai:=Jh ab;have aq:=HD.out.x;have d1:wr.cell? ⟨p,2,none⟩=some (.slice VA m2 vc):=aq.cell 2;have bO:=aq.lt;have bw:wo.heap.size<=wr.heap.size:=HD.out.b.size
        have a0:Hid (∀w5:World,(wr.drew.alloc (.cells #[.int .i64 y.start,.int .i64 y.count,.int .u64 (y.sum:Int),.int .u64 (y.min:Int),.int .u64 (y.max:Int),.int .u64 (y.last:Int)] 136)).grownBy w5 (cm VA m2 vc).ownBlock->w5.cell? ⟨p,2,none⟩=some (.slice VA m2 vc)/\w5.frozen? ⟨p,2,none⟩=false/\p < w5.heap.size/\wr.grownBy w5 (cm VA m2 vc).ownBlock):=fun w5 hg=>by have h1:Blk wr.drew p 132 _:=HD.out.x;have h2:=(h1.alloc (.cells #[.int .i64 y.start,.int .i64 y.count,.int .u64 (y.sum:Int),.int .u64 (y.min:Int),.int .u64 (y.max:Int),.int .u64 (y.last:Int)] 136)).grown hg (Kan HD.out.x ai.out (by decide));have h3:wr.drew.grownBy w5 (cm VA m2 vc).ownBlock:=(cl wr.drew _ _).trans hg;exact ⟨h2.cell 2,h2.frozen 2,h2.lt,⟨h3.os,h3.tape,h3.output,h3.size,h3.block⟩⟩
        have ah:Hid (∀j u,([.int .i64 y.start,.int .i64 y.count,.int .u64 (y.sum:Int),.int .u64 (y.min:Int),.int .u64 (y.max:Int),.int .u64 (y.last:Int)]:List Value)[j]? = some u->(wr.drew.alloc (.cells #[.int .i64 y.start,.int .i64 y.count,.int .u64 (y.sum:Int),.int .u64 (y.min:Int),.int .u64 (y.max:Int),.int .u64 (y.last:Int)] 136)).cell? ((⟨wr.heap.size,0,none⟩:Addr).add j)=some u):=Kao (l:=[.int .i64 y.start,.int .i64 y.count,.int .u64 (y.sum:Int),.int .u64 (y.min:Int),.int .u64 (y.max:Int),.int .u64 (y.last:Int)]) (cp wr.drew _ _);have aY:Hid (∀u∈([.int .i64 y.start,.int .i64 y.count,.int .u64 (y.sum:Int),.int .u64 (y.min:Int),.int .u64 (y.max:Int),.int .u64 (y.last:Int)]:List Value),u.oneCell'=true):=by show ∀u∈_,_;intro u hu;simp at hu;rcases hu with rfl | rfl | rfl | rfl | rfl | rfl <;> rfl
        clear ab aq hm aa;go_upto_region 15 with fail
        go_region_law ((refine step_append_lies _ (by rfl) _ _ _ (by rfl) wo.heap.size 136 iw (.agg #[.int .i64 0,.int .i64 0,.int .u64 0,.int .u64 0,.int .u64 0,.int .u64 0]) 6 48 underlying130 bJ bI aH bs rfl (by omega) (.slice VA m2 vc) m2 _ (by rfl) (cn (w:=wr.drew) ai.out _) ⟨wr.heap.size,0,none⟩ 1 1 [.int .i64 y.start,.int .i64 y.count,.int .u64 (y.sum:Int),.int .u64 (y.min:Int),.int .u64 (y.max:Int),.int .u64 (y.last:Int)] (by rfl) (by rfl) ah.out aY.out (by omega) (by simp only[maxLen];omega) (by omega) (by simp;omega) (wr.heap.size+1) (by simp) ?_;intro g cap w5 hown5 hgrow ay hlt5;obtain ⟨kz,fz,pz,aG⟩:=a0.out _ hgrow))
        all_goals
         have al:Hid (DNew wo (w5.setCell ⟨p,2,none⟩ (.slice (some ⟨g,0,none⟩) (m2+1) cap)) p ⟨lA,ln,lc⟩ (.slice SA SN SC) (.slice (some ⟨g,0,none⟩) (m2+1) cap) (s.samples.filter (fS s)) ((s.windows.take (k+1)).filter (fW s))):=HD.out.setW aG (by
          rw[aR.out,Jd,cr,HM.out]
          exact hown5)
         clear ay hgrow hown5 aG;go_wp2_with fail
         go_roundg (wn - (k+1))
         case measure=>omega
         case rel=>exact ⟨k+1,_,by first | rfl | go_num,by omega,al⟩
       .have aa:fW s y=false:=by
         rw[HP.out,cK]
         by_cases c1:a<=y.start
         .exact .inr (ja fun c2=>h1 ⟨c1,c2⟩)
         .exact .inl (ja c1)
        have al:Hid (DNew wo wr p ⟨lA,ln,lc⟩ (.slice SA SN SC) vs (s.samples.filter (fS s)) ((s.windows.take (k+1)).filter (fW s))):=by
         have e:(s.windows.take (k+1)).filter (fW s)=(s.windows.take k).filter (fW s):=by rw[ax.out,aa];simp
         show DNew _ _ _ _ _ _ _ _
         rw[e];exact HD.out
        clear HD ax HP aa
        by_cases c1:a<=y.start
        .have c2:¬y.start<=b:=fun c2=>h1 ⟨c1,c2⟩
         have c3:decide (a<=y.start)=true:=jd c1;have c4:decide (y.start<=b)=false:=ja c2;clear h1;go_wp2_with fail
         go_roundg (wn - (k+1))
         case measure=>omega
         case rel=>exact ⟨k+1,_,by first | rfl | go_num,by omega,al⟩
        .have c3:decide (a<=y.start)=false:=ja c1;clear h1;go_wp2_with fail
         go_roundg (wn - (k+1))
         case measure=>omega
         case rel=>exact ⟨k+1,_,by first | rfl | go_num,by omega,al⟩
      .have ap:¬(k:Int) < (wn:Int):=by omega
       have aj:(s.windows.take k).filter (fW s)=s.windows.filter (fW s):=by rw[ci (by rw[aM.out.len];omega)]
       rw[aj] at HD;clear aj;have a9:=HD.out.w;obtain ⟨WN,aN⟩:=i7 ((s.windows.filter (fW s)).length);rw[<-aN] at a9;obtain ⟨WA,WC,bD⟩:=Kag a9;subst bD;have bF:WN<=137438953472:=by rw[aN];exact cg (cd _ _) (by rw[aM.out.len];exact aC)
       have a4:=Jh aN;clear a9 aN;have av:Hid (DOut wl w0 wr (.slice A7 m c7) hs (((ss.take i).map (keepS fS fW)).filter Kam)):=HO.out.below HD.out.b;have aD:=HD.out.x;have x0:=aD.cell 0;have x1:=aD.cell 1;have x2:=aD.cell 2;simp at x0 x1 x2;have xl:=aD.lt;have bk:Hid (Kam (keepS fS fW s)=decide (0 < SN+WN)):=by show decide (0 < (s.samples.filter (fS s)).length+(s.windows.filter (fW s)).length)=_;rw[a7.out,a4.out]
       clear aD
       by_cases hz:0 < SN+WN
       .have bp:(0:Int) < (SN:Int)+(WN:Int):=by omega
        have bQ:Hid (((ss.take (i+1)).map (keepS fS fW)).filter Kam=((ss.take i).map (keepS fS fW)).filter Kam ++ [keepS fS fW s]):=by show _=_;rw[aI.out,bk.out,jd hz];rfl
        have ag:=av.out.row;rw[<-az.out] at ag;have hm:=az.out
        have hmz:m<=274877906944:=by have h1:=av.out.l;have h2:=cd Kam ((ss.take i).map (keepS fS fW));rw[cQ,ce] at h2;omega
        obtain ⟨w6,aE⟩:=i7 (wr.alloc (.cells #[.slice lA ln lc,.slice SA SN SC,.slice WA WN WC] 132));have aO:Below wr.heap.size wr w6:=by rw[aE];exact (Below.refl _ _).alloc (cw _) _
        have an:Blk w6 wr.heap.size 132 #[.slice lA ln lc,.slice SA SN SC,.slice WA WN WC]:=by rw[aE];exact cp _ _ _
        have ao:w6.ownsRow w0.heap.size 132 3 (.slice A7 m c7) m (hs.flatMap encH3):=Kbc ag aO;have aV:Hid (DOut wl w0 w6 (.slice A7 m c7) hs (((ss.take i).map (keepS fS fW)).filter Kam)):=av.out.below aO;have a8:Hid (DNew wo w6 p ⟨lA,ln,lc⟩ (.slice SA SN SC) (.slice WA WN WC) (s.samples.filter (fS s)) (s.windows.filter (fW s))):=HD.out.below aO;have be:w0.heap.size<=w6.heap.size:=aV.out.b.size;have bM:w0.heap.size<=wr.heap.size+1:=by have:=av.out.b.size;omega
        clear ag aO av HD hm;go_wp2_with (at_builtin;(try rw[<-aE]);refine wpList_append_own_at _ rfl _ _ 32 rfl w0.heap.size 132 ib (.agg #[.slice none 0 0,.slice none 0 0,.slice none 0 0]) 3 72 underlying32 bK bP bA bt rfl (by decide) (.slice A7 m c7) m _ rfl ao ⟨wr.heap.size,0,none⟩ 1 1 [.slice lA ln lc,.slice SA SN SC,.slice WA WN WC] rfl rfl (Kao (l:=[.slice lA ln lc,.slice SA SN SC,.slice WA WN WC]) an) ?p2 ?p3 ?p4 ?p5 ?_)
        case p2=>first | exact ⟨rfl,rfl,rfl⟩ | (intro u hu;simp only[cU,cN,or_false] at hu;rcases hu with rfl | rfl | rfl <;> rfl)
        case p3=>unfold maxLen;omega
        case p4=>omega
        all_goals try first | exact be | exact bM
        intro v9 w9 hown' hgrow _ _;rw[<-aE] at hgrow
        have aP:Hid (DOut wl w0 w9 v9 (hs ++ [⟨⟨lA,ln,lc⟩,⟨SA,SN,SC⟩,⟨WA,WN,WC⟩⟩]) (((ss.take (i+1)).map (keepS fS fW)).filter Kam)):=by
         show DOut _ _ _ _ _ _
         rw[bQ.out];refine aV.out.snoc hgrow (by rw[<-az.out];exact hown') ⟨bi.out.1,bi.out.2,?_,?_⟩
         .have h1:=Kce a8.out.s bd.out.size;rw[<-a7.out] at h1;show w6.ownsRow _ _ _ (.slice SA SN SC) (s.samples.filter (fS s)).length _
          rw[<-a7.out];exact h1
         .have h1:=Kce a8.out.w bd.out.size;rw[<-a4.out] at h1;show w6.ownsRow _ _ _ (.slice WA WN WC) (s.windows.filter (fW s)).length _
          rw[<-a4.out];exact h1
        generalize hs ++ [(⟨⟨lA,ln,lc⟩,⟨SA,SN,SC⟩,⟨WA,WN,WC⟩⟩:Hd3)]=hsn at aP;clear hown' hgrow ao an aV a8 aE be x0 x1 x2 xl;go_wp2_with fail
        go_roundg (n - (i+1))
        case measure=>omega
        case rel=>exact ⟨i+1,hsn,by first | rfl | go_num,by omega,aP⟩
       .have bp:¬(0:Int) < (SN:Int)+(WN:Int):=by omega
        have aP:Hid (DOut wl w0 wr (.slice A7 m c7) hs (((ss.take (i+1)).map (keepS fS fW)).filter Kam)):=by
         have e:((ss.take (i+1)).map (keepS fS fW)).filter Kam=((ss.take i).map (keepS fS fW)).filter Kam:=by rw[aI.out,bk.out,ja hz];simp
         show DOut _ _ _ _ _ _
         rw[e];exact av.out
        clear av HD;go_wp2_with fail
        go_roundg (n - (i+1))
        case measure=>omega
        case rel=>exact ⟨i+1,hs,by first | rfl | go_num,by omega,aP⟩
  .have bG:¬(i:Int) < (n:Int):=by omega
   have aZ:=HO.out.row;obtain ⟨m,hm⟩:=i7 hs.length;rw[<-hm] at aZ;obtain ⟨A7,c7,a2⟩:=Kag aZ;subst a2
   have HF:Hid (DOut wl w0 wr (.slice A7 m c7) hs (keptF fS fW ss)):=by
    have h1:=HO.out;have e:((ss.take i).map (keepS fS fW)).filter Kam=keptF fS fW ss:=by unfold keptF;rw[ci (by rw[bf.out];exact hge)]
    rw[e] at h1;exact h1
   have az:Hid (hs.length=m):=hm.symm;clear HO aZ hm;go_wp2_with fail
   go_ret
   first | exact ⟨A7,m,c7,hs,rfl,az.out,HF.out⟩ | exact ⟨A7,m,c7,rfl,hs,az.out,HF.out⟩
theorem Kto (r:Nat) (hr3:r < 3) (ghs:List (Hd4×GoneP)) (gB:Option Addr) (gN gC:Nat) (A:Option Addr) (n c:Nat) (ss:List Ser) (w0 wl:World) (hbl:Below wl.heap.size wl w0) (hG:Gones w0 gB gN ghs) (h:SersZ wl A n ss) :
  Calls prog 36 #[.int .i64 (r:Int),.slice A n c,.slice gB gN gC] w0 fun e w'=>∃(A':Option Addr) (n' c':Nat) (hs:List Hd3),e = .returned (.slice A' n' c')/\hs.length=n'/\DOut wl w0 w' (.slice A' n' c') hs (Kck (r:Int) ghs ss):=by
 have aE:=Jh hbl;obtain ⟨ib,b2,b6,bR,bO⟩:=info_parts Khy;obtain ⟨is,bP,bJ,bL,bI⟩:=info_parts Khz;obtain ⟨iw,b1,bZ,aV,bN⟩:=info_parts Kia;obtain ⟨aM,hE,bG,aH⟩:=h.s;have hn:=h.n;have HE:=Jh hE;have bC:=Jh bG;have bY:=Jh aH;have HZ:=Jh h.z;obtain ⟨fS,bi⟩:∃f:Ser->Smp->Bool,f=fun s x=>decide (r=0) && !Kbl ghs r s.labels x.t:=⟨_,rfl⟩
 obtain ⟨fW,a9⟩:∃f:Ser->Wnd->Bool,f=fun s x=>decide (r≠0) && !Kbl ghs r s.labels x.start:=⟨_,rfl⟩
 have bB:=Jh bi;have bE:=Jh a9;have bz:Hid (Kck (r:Int) ghs ss=keptF fS fW ss):=by show _=_;unfold Kck;rw[jf (by omega),Int.toNat_natCast,bi,a9]
 rw[bz.out];have HD:Hid (DOut wl w0 w0 (.slice none 0 0) [] (((ss.take 0).map (keepS fS fW)).filter Kam)):=DOut.nil aE.out;clear hE bG aH h bi a9 bz;have HG:=Jh hG;clear hG;have hra:¬(r:Int) < 0:=by omega
 have hrb:¬2 < (r:Int):=by omega
 obtain ⟨q0,bH⟩:∃q:Bool,((r:Int) == 0)=q:=⟨_,rfl⟩;obtain ⟨q1,bt⟩:∃q:Bool,decide (0 < (r:Int))=q:=⟨_,rfl⟩;have hq2:decide (0 < r)=q1:=by rw[<-bt];exact decide_eq_decide.2 (by omega)
 go_enter func36,ntmps36
 go_wp2_with fail
 go_loopg [7,8] n (fun kx s7 s8 wr=>∃(i:Nat) (hs:List Hd3),s8 = .int .i64 (i:Int)/\i+kx=n/\Hid (DOut wl w0 wr s7 hs (((ss.take i).map (keepS fS fW)).filter Kam)))
 case atStart=>exact ⟨0,[],rfl,by omega,HD⟩
 case round=>
  clear HD;obtain ⟨i,hs,rfl,hi,HO⟩:=hrel;rcases cD i n with hlt | hge
  .have bX:(i:Int) < (n:Int):=by omega
   have af:=HO.out.row;obtain ⟨m,hm⟩:=i7 hs.length;rw[<-hm] at af;obtain ⟨A7,c7,bj⟩:=Kag af;subst bj;have aI:=Jh hm;clear af hm;obtain ⟨b0,ad,bT,aZ,bD⟩:=HE.out.2 (by omega);have bS:=HE.out.len;obtain ⟨h,hh⟩:∃h,aM[i]? = some h:=⟨aM[i]'(by omega),b9 _⟩;obtain ⟨s,bl⟩:∃s,ss[i]! = s:=⟨_,rfl⟩;have ah:=bY.out i h hh;rw[bl] at ah;have ba:ss[i]? = some s:=by rw[<-bl,i9 ss i (by rw[bC.out];exact hlt)];exact b9 _
   have a5:=Jh (HZ.out s (cL ba));obtain ⟨⟨lA,ln,lc⟩,⟨sA,sn,sc⟩,⟨wA,wn,wc⟩⟩:=h;obtain ⟨wo,rfl⟩:=i7 wr;have a0:Hid (Elems wl wl.heap.size 2 Kac sA sn s.samples):=ah.s;have a1:Hid (Elems wl wl.heap.size 6 Kad wA wn s.windows):=ah.w;have aJ:Hid (Elems wl wl.heap.size 2 encLb lA ln s.labels/\ln<=lc):=⟨ah.l,ah.lc⟩
   have bs:sn<=137438953472/\wn<=137438953472:=by have h1:=a0.out.len;have h2:=a1.out.len;obtain ⟨z1,z2,z3⟩:=a5.out;omega
   obtain ⟨aS,aN⟩:=bs;have aG:Hid (Below w0.heap.size w0 wo):=HO.out.b;have aq:Hid (Below wl.heap.size wl wo):=aE.out.trans (aG.out.mono aE.out.size);have aK:Hid (∀W,Below wo.heap.size wo W->∀r v,r < 3->(encH3 ⟨⟨lA,ln,lc⟩,⟨sA,sn,sc⟩,⟨wA,wn,wc⟩⟩)[r]? = some v->W.cell? ⟨b0,ad+i*3+r,none⟩=some v):=fun W hW r v _ hv=>(hW.cell (p:=⟨b0,ad+i*3+r,none⟩) (b8 aZ aq.out.size)).trans ((aq.out.cell (p:=⟨b0,ad+i*3+r,none⟩) aZ).trans (bD i _ hh r v hv))
   have bv:Hid (b0 < wo.heap.size):=b8 aZ aq.out.size
   have aW:Hid (((ss.take (i+1)).map (keepS fS fW)).filter Kam=((ss.take i).map (keepS fS fW)).filter Kam++(if Kam (keepS fS fW s)=true then [keepS fS fW s] else [])):=by
    show _=_
    rw[co,ba,cP,cz];congr 1;simp only[cC,cT,cj,cA,cB]
   have k0:wo.cell? ⟨b0,ad+i*3,none⟩=some (.slice lA ln lc):=aK.out wo (Below.refl _ _) 0 _ (by decide) rfl;have kl:=bv.out;subst bT;clear bD bS hh bl ah ba aZ;go_upto_region 8 with fail
   obtain ⟨p,hp⟩:=i7 wo.heap.size;obtain ⟨w1,aV⟩:=i7 (wo.alloc (.cells #[.slice lA ln lc,.slice none 0 0,.slice none 0 0] 132))
   have bm:Hid (DNew wo w1 p ⟨lA,ln,lc⟩ (.slice none 0 0) (.slice none 0 0) ((s.samples.take 0).filter (fS s)) []):=by
    show DNew _ _ _ _ _ _ _ _
    rw[aV,hp];exact ⟨(Below.refl _ _).alloc (cw _) _,cp _ _ _,cw _,ck _ _ _ _,ck _ _ _ _⟩
   rw[<-aV,<-hp];clear aV hp k0 kl;go_upto_block 2 with fail
   go_cut [10,11] from 32 to 74 (fun _ _ wz=>∃vs:Value,Hid (DNew wo wz p ⟨lA,ln,lc⟩ vs (.slice none 0 0) (s.samples.filter (fS s)) []))
   case first=>
    go_wp2_with fail
    go_loopg [10] sn (fun kx s10 wr=>∃(k:Nat) (vs:Value),s10 = .int .i64 (k:Int)/\k+kx=sn/\Hid (DNew wo wr p ⟨lA,ln,lc⟩ vs (.slice none 0 0) ((s.samples.take k).filter (fS s)) []))
    case atStart=>exact ⟨0,_,rfl,by omega,bm⟩
    case round=>
     clear bm;obtain ⟨k,vs,rfl,hk,HD⟩:=hrel;have aw:wr.cell? ⟨b0,ad+i*3+1,none⟩=some (.slice sA sn sc):=aK.out wr HD.out.b 1 _ (by decide) rfl;have ai:b0 < wr.heap.size:=b8 bv.out HD.out.b.size
     by_cases hon:r=0/\k < sn
     .have ag:(k:Int) < (sn:Int):=by omega
      have al:(r:Int)=0:=by omega
      have bf:q0=true:=by rw[<-bH,beq_iff_eq];exact al
      clear al;have aD:=a0.out.below (aq.out.trans (HD.out.b.mono aq.out.size));obtain ⟨bx,ox,bw,aj,aL⟩:=aD.2 (by omega);have a7:=aD.len;obtain ⟨y,hy⟩:∃y,s.samples[k]? = some y:=⟨s.samples[k]'(by omega),b9 _⟩;have ap:=aL k y hy;have ab:bx < wr.heap.size:=b8 aj (cg aq.out.size HD.out.b.size);have e0:wr.cell? ⟨bx,ox+k*2,none⟩=some (.int .i64 y.t):=ap 0 _ rfl;have e1:wr.cell? ⟨bx,ox+k*2+1,none⟩=some (.int .u64 (y.v:Int)):=ap 1 _ rfl
      have aF:Hid ((s.samples.take (k+1)).filter (fS s)=(s.samples.take k).filter (fS s)++(if fS s y=true then [y] else [])):=by
       show _=_
       rw[co,hy,cz];congr 1;simp only[cC,cA,cB]
      obtain ⟨tk,ax⟩:=i7 (Kbl ghs r s.labels y.t);have HP:Hid (fS s y = !tk):=by show _=_;rw[bB.out,ax];dsimp only;rw[jd (show r=0 from hon.1)];rfl
      have aP:Hid (∀u:Later wr,Calls prog 104 #[.slice gB gN gC,.slice lA ln lc,.int .i64 (r:Int),.int .i64 y.t] u.w fun e w'=>e = .returned (.bool tk)/\Below u.w.heap.size u.w w'):=fun u=>by have aX:Below w0.heap.size w0 u.w:=aG.out.trans ((HD.out.b.trans (u.h.mono HD.out.b.size)).mono aG.out.size);have aT:Below wl.heap.size wl u.w:=aE.out.trans (aX.mono aE.out.size);rw[ax];exact Klj ghs gB lA gN gC ln lc r hr3 s.labels y.t u.w (HG.out.below aX) ((aJ.out.1.below aT).more aT.size) (by have h1:=aJ.out.1.len;have h2:=a5.out.1;omega)
      have aO:=HD.out.x.cell 0;simp at aO;have bb:=HD.out.x.lt;subst bw;clear aD aL a7 hy ap aj ax hon;go_upto_region 11 with fail
      refine Kaa (by kernel_rfl) (by kernel_rfl) ?_
      repeat (go_big_quiet_step ((go_at_call 104;exact Kaj _ (aP.out _))))
      refine wpQuiet_nil ?_;rintro w2 ⟨⟨_,ae⟩,rfl⟩;have aC:Hid (DNew wo w2 p ⟨lA,ln,lc⟩ vs (.slice none 0 0) ((s.samples.take k).filter (fS s)) []):=HD.out.below ae;have bc:w2.cell? ⟨b0,ad+i*3+1,none⟩=some (.slice (some ⟨bx,ox,none⟩) sn sc):=aK.out w2 aC.out.b 1 _ (by decide) rfl;have bk:b0 < w2.heap.size:=b8 ai ae.size;have be:bx < w2.heap.size:=b8 ab ae.size;have v0:w2.cell? ⟨bx,ox+k*2,none⟩=some (.int .i64 y.t):=(ae.cell (p:=⟨bx,ox+k*2,none⟩) ab).trans e0;have v1:w2.cell? ⟨bx,ox+k*2+1,none⟩=some (.int .u64 (y.v:Int)):=(ae.cell (p:=⟨bx,ox+k*2+1,none⟩) ab).trans e1;clear ae aw ai ab e0 e1 aO bb HD aP;have HD:=aC;clear aC;obtain ⟨wr,rfl⟩:=i7 w2
      cases tk with
      | false=>
       have aa:fS s y=true:=HP.out;have a6:Hid ((s.samples.take (k+1)).filter (fS s)=(s.samples.take k).filter (fS s) ++ [y]):=by show _=_;rw[aF.out,aa];rfl
       have ac:=HD.out.s;obtain ⟨m2,hm⟩:=iZ (((s.samples.take k).filter (fS s)).length);have bV:m2<=k:=by rw[<-hm];exact cg (cd _ _) (by rw[ce];omega)
       have HM:=Jh hm;rw[hm] at ac;obtain ⟨VA,vc,az⟩:=Kag ac;subst az;have an:=Jh ac;have ay:=HD.out.x;have d1:wr.cell? ⟨p,1,none⟩=some (.slice VA m2 vc):=ay.cell 1;have b5:=ay.lt;have bQ:wo.heap.size<=wr.heap.size:=HD.out.b.size
       have bh:Hid (∀w5:World,(wr.drew.alloc (.cells #[.int .i64 y.t,.int .u64 (y.v:Int)] 133)).grownBy w5 (cm VA m2 vc).ownBlock->w5.cell? ⟨p,1,none⟩=some (.slice VA m2 vc)/\w5.frozen? ⟨p,1,none⟩=false/\p < w5.heap.size/\wr.grownBy w5 (cm VA m2 vc).ownBlock):=fun w5 hg=>by have h1:Blk wr.drew p 132 _:=HD.out.x;have h2:=(h1.alloc (.cells #[.int .i64 y.t,.int .u64 (y.v:Int)] 133)).grown hg (Kan HD.out.x an.out (by decide));have h3:wr.drew.grownBy w5 (cm VA m2 vc).ownBlock:=(cl wr.drew _ _).trans hg;exact ⟨h2.cell 1,h2.frozen 1,h2.lt,⟨h3.os,h3.tape,h3.output,h3.size,h3.block⟩⟩
       have am:Hid (∀j u,([.int .i64 y.t,.int .u64 (y.v:Int)]:List Value)[j]? = some u->(wr.drew.alloc (.cells #[.int .i64 y.t,.int .u64 (y.v:Int)] 133)).cell? ((⟨wr.heap.size,0,none⟩:Addr).add j)=some u):=Kao (l:=[.int .i64 y.t,.int .u64 (y.v:Int)]) (cp wr.drew _ _);have bd:Hid (∀u∈([.int .i64 y.t,.int .u64 (y.v:Int)]:List Value),u.oneCell'=true):=by show ∀u∈_,_;intro u hu;simp at hu;rcases hu with rfl | rfl <;> rfl
       clear ac ay hm aa;go_upto_region 13 with fail
       go_region_law ((refine step_append_lies _ (by rfl) _ _ _ (by rfl) wo.heap.size 133 is (.agg #[.int .i64 0,.int .u64 0]) 2 16 underlying129 bP bJ bL bI rfl (by omega) (.slice VA m2 vc) m2 _ (by rfl) (cn (w:=wr.drew) an.out _) ⟨wr.heap.size,0,none⟩ 1 1 [.int .i64 y.t,.int .u64 (y.v:Int)] (by rfl) (by rfl) am.out bd.out (by omega) (by simp only[maxLen];omega) (by omega) (by simp;omega) (wr.heap.size+1) (by simp) ?_;intro g cap w5 hown5 hgrow aH hlt5;obtain ⟨kz,fz,pz,aU⟩:=bh.out _ hgrow))
       all_goals
        have aA:Hid (DNew wo (w5.setCell ⟨p,1,none⟩ (.slice (some ⟨g,0,none⟩) (m2+1) cap)) p ⟨lA,ln,lc⟩ (.slice (some ⟨g,0,none⟩) (m2+1) cap) (.slice none 0 0) ((s.samples.take (k+1)).filter (fS s)) []):=HD.out.setS aU (by
         rw[a6.out,Jd,cr,HM.out]
         exact hown5)
        clear aH hgrow hown5 aU;go_wp2_with fail
        go_roundg (sn - (k+1))
        case measure=>omega
        case rel=>exact ⟨k+1,_,by first | rfl | go_num,by omega,aA⟩
      | true=>
       have aA:Hid (DNew wo wr p ⟨lA,ln,lc⟩ vs (.slice none 0 0) ((s.samples.take (k+1)).filter (fS s)) []):=by
        have aa:fS s y=false:=HP.out;have e:(s.samples.take (k+1)).filter (fS s)=(s.samples.take k).filter (fS s):=by rw[aF.out,aa];simp
        show DNew _ _ _ _ _ _ _ _
        rw[e];exact HD.out
       clear HD aF HP;go_wp2_with fail
       go_roundg (sn - (k+1))
       case measure=>omega
       case rel=>exact ⟨k+1,_,by first | rfl | go_num,by omega,aA⟩
     .have ao:(s.samples.take k).filter (fS s)=s.samples.filter (fS s):=by
       by_cases hr9:r=0
       .rw[ci (by rw[a0.out.len];exact cO fun h9=>hon ⟨hr9,h9⟩)]
       .have h9:∀y,fS s y=false:=fun y=>by rw[bB.out];dsimp only;rw[ja hr9,cR]
        rw[cb.2 fun y _=>by rw[h9 y];exact cE,cb.2 fun y _=>by rw[h9 y];exact cE]
      rw[ao] at HD;clear ao
      by_cases hr9:r=0
      .have ag:¬(k:Int) < (sn:Int):=fun h9=>hon ⟨hr9,by omega⟩
       clear hon hr9;go_wp2_with fail
       go_meet
       exact ⟨vs,HD⟩
      .have al:¬(r:Int)=0:=by omega
       have bf:q0=false:=by rw[<-bH,jg];exact al
       clear hon al hr9;rcases cD k sn with h9 | h9
       .have ag:(k:Int) < (sn:Int):=by omega
        go_wp2_with fail
        go_meet
        exact ⟨vs,HD⟩
       .have ag:¬(k:Int) < (sn:Int):=by omega
        go_wp2_with fail
        go_meet
        exact ⟨vs,HD⟩
   case rest=>
    clear bm;obtain ⟨vs,HD⟩:=hcut;obtain ⟨wr,rfl⟩:=i7 wc;have az:=HD.out.s;obtain ⟨SN,aY⟩:=i7 ((s.samples.filter (fS s)).length);rw[<-aY] at az;obtain ⟨SA,SC,bM⟩:=Kag az;subst bM;have b4:SN<=137438953472:=by rw[aY];exact cg (cd _ _) (by rw[a0.out.len];exact aS)
    have bp:=Jh aY;have bo:Hid (DNew wo wr p ⟨lA,ln,lc⟩ (.slice SA SN SC) (.slice none 0 0) (s.samples.filter (fS s)) ((s.windows.take 0).filter (fW s))):=HD.out;clear HD az aY;go_upto_block 4 with fail
    go_cut [12,13] from 75 to 117 (fun _ _ wz=>∃vs:Value,Hid (DNew wo wz p ⟨lA,ln,lc⟩ (.slice SA SN SC) vs (s.samples.filter (fS s)) (s.windows.filter (fW s))))
    case first=>
     go_wp2_with fail
     go_loopg [12] wn (fun kx s12 wr=>∃(k:Nat) (vs:Value),s12 = .int .i64 (k:Int)/\k+kx=wn/\Hid (DNew wo wr p ⟨lA,ln,lc⟩ (.slice SA SN SC) vs (s.samples.filter (fS s)) ((s.windows.take k).filter (fW s))))
     case atStart=>exact ⟨0,_,rfl,by omega,bo⟩
     case round=>
      clear bo;obtain ⟨k,vs,rfl,hk,HD⟩:=hrel;have aw:wr.cell? ⟨b0,ad+i*3+2,none⟩=some (.slice wA wn wc):=aK.out wr HD.out.b 2 _ (by decide) rfl;have ai:b0 < wr.heap.size:=b8 bv.out HD.out.b.size
      by_cases hon:r≠0/\k < wn
      .have ag:(k:Int) < (wn:Int):=by omega
       have al:0 < (r:Int):=by omega
       have bf:q1=true:=by rw[<-bt];exact jd al
       clear al;have aD:=a1.out.below (aq.out.trans (HD.out.b.mono aq.out.size));obtain ⟨bx,ox,bw,aj,aL⟩:=aD.2 (by omega);have a7:=aD.len;obtain ⟨y,hy⟩:∃y,s.windows[k]? = some y:=⟨s.windows[k]'(by omega),b9 _⟩;have ap:=aL k y hy;have ab:bx < wr.heap.size:=b8 aj (cg aq.out.size HD.out.b.size);have e0:wr.cell? ⟨bx,ox+k*6,none⟩=some (.int .i64 y.start):=ap 0 _ rfl;have e1:wr.cell? ⟨bx,ox+k*6+1,none⟩=some (.int .i64 y.count):=ap 1 _ rfl;have e2:wr.cell? ⟨bx,ox+k*6+2,none⟩=some (.int .u64 (y.sum:Int)):=ap 2 _ rfl;have e3:wr.cell? ⟨bx,ox+k*6+3,none⟩=some (.int .u64 (y.min:Int)):=ap 3 _ rfl;have e4:wr.cell? ⟨bx,ox+k*6+4,none⟩=some (.int .u64 (y.max:Int)):=ap 4 _ rfl;have e5:wr.cell? ⟨bx,ox+k*6+5,none⟩=some (.int .u64 (y.last:Int)):=ap 5 _ rfl
       have aF:Hid ((s.windows.take (k+1)).filter (fW s)=(s.windows.take k).filter (fW s)++(if fW s y=true then [y] else [])):=by
        show _=_
        rw[co,hy,cz];congr 1;simp only[cC,cA,cB]
       obtain ⟨tk,ax⟩:=i7 (Kbl ghs r s.labels y.start);have HP:Hid (fW s y = !tk):=by show _=_;rw[bE.out,ax];dsimp only;rw[jd (show r≠0 from hon.1)];rfl
       have aP:Hid (∀u:Later wr,Calls prog 104 #[.slice gB gN gC,.slice lA ln lc,.int .i64 (r:Int),.int .i64 y.start] u.w fun e w'=>e = .returned (.bool tk)/\Below u.w.heap.size u.w w'):=fun u=>by have aX:Below w0.heap.size w0 u.w:=aG.out.trans ((HD.out.b.trans (u.h.mono HD.out.b.size)).mono aG.out.size);have aT:Below wl.heap.size wl u.w:=aE.out.trans (aX.mono aE.out.size);rw[ax];exact Klj ghs gB lA gN gC ln lc r hr3 s.labels y.start u.w (HG.out.below aX) ((aJ.out.1.below aT).more aT.size) (by have h1:=aJ.out.1.len;have h2:=a5.out.1;omega)
       have aO:=HD.out.x.cell 0;simp at aO;have bb:=HD.out.x.lt;subst bw;clear aD aL a7 hy ap aj ax hon;go_upto_region 17 with fail
       refine Kaa (by kernel_rfl) (by kernel_rfl) ?_
       repeat (go_big_quiet_step ((go_at_call 104;exact Kaj _ (aP.out _))))
       refine wpQuiet_nil ?_;rintro w2 ⟨⟨_,ae⟩,rfl⟩;have aC:Hid (DNew wo w2 p ⟨lA,ln,lc⟩ (.slice SA SN SC) vs (s.samples.filter (fS s)) ((s.windows.take k).filter (fW s))):=HD.out.below ae;have bc:w2.cell? ⟨b0,ad+i*3+2,none⟩=some (.slice (some ⟨bx,ox,none⟩) wn wc):=aK.out w2 aC.out.b 2 _ (by decide) rfl;have bk:b0 < w2.heap.size:=b8 ai ae.size;have be:bx < w2.heap.size:=b8 ab ae.size;have v0:w2.cell? ⟨bx,ox+k*6,none⟩=some (.int .i64 y.start):=(ae.cell (p:=⟨bx,ox+k*6,none⟩) ab).trans e0;have v1:w2.cell? ⟨bx,ox+k*6+1,none⟩=some (.int .i64 y.count):=(ae.cell (p:=⟨bx,ox+k*6+1,none⟩) ab).trans e1;have v2:w2.cell? ⟨bx,ox+k*6+2,none⟩=some (.int .u64 (y.sum:Int)):=(ae.cell (p:=⟨bx,ox+k*6+2,none⟩) ab).trans e2;have v3:w2.cell? ⟨bx,ox+k*6+3,none⟩=some (.int .u64 (y.min:Int)):=(ae.cell (p:=⟨bx,ox+k*6+3,none⟩) ab).trans e3;have v4:w2.cell? ⟨bx,ox+k*6+4,none⟩=some (.int .u64 (y.max:Int)):=(ae.cell (p:=⟨bx,ox+k*6+4,none⟩) ab).trans e4;have v5:w2.cell? ⟨bx,ox+k*6+5,none⟩=some (.int .u64 (y.last:Int)):=(ae.cell (p:=⟨bx,ox+k*6+5,none⟩) ab).trans e5;clear ae aw ai ab e0 e1 e2 e3 e4 e5 aO bb HD aP;have HD:=aC;clear aC;obtain ⟨wr,rfl⟩:=i7 w2
       cases tk with
       | false=>
        have aa:fW s y=true:=HP.out;have a6:Hid ((s.windows.take (k+1)).filter (fW s)=(s.windows.take k).filter (fW s) ++ [y]):=by show _=_;rw[aF.out,aa];rfl
        have ac:=HD.out.w;obtain ⟨m2,hm⟩:=iZ (((s.windows.take k).filter (fW s)).length);have bV:m2<=k:=by rw[<-hm];exact cg (cd _ _) (by rw[ce];omega)
        have HM:=Jh hm;rw[hm] at ac;obtain ⟨VA,vc,az⟩:=Kag ac;subst az;have an:=Jh ac;have ay:=HD.out.x;have d1:wr.cell? ⟨p,2,none⟩=some (.slice VA m2 vc):=ay.cell 2;have b5:=ay.lt;have bQ:wo.heap.size<=wr.heap.size:=HD.out.b.size
        have bh:Hid (∀w5:World,(wr.drew.alloc (.cells #[.int .i64 y.start,.int .i64 y.count,.int .u64 (y.sum:Int),.int .u64 (y.min:Int),.int .u64 (y.max:Int),.int .u64 (y.last:Int)] 136)).grownBy w5 (cm VA m2 vc).ownBlock->w5.cell? ⟨p,2,none⟩=some (.slice VA m2 vc)/\w5.frozen? ⟨p,2,none⟩=false/\p < w5.heap.size/\wr.grownBy w5 (cm VA m2 vc).ownBlock):=fun w5 hg=>by have h1:Blk wr.drew p 132 _:=HD.out.x;have h2:=(h1.alloc (.cells #[.int .i64 y.start,.int .i64 y.count,.int .u64 (y.sum:Int),.int .u64 (y.min:Int),.int .u64 (y.max:Int),.int .u64 (y.last:Int)] 136)).grown hg (Kan HD.out.x an.out (by decide));have h3:wr.drew.grownBy w5 (cm VA m2 vc).ownBlock:=(cl wr.drew _ _).trans hg;exact ⟨h2.cell 2,h2.frozen 2,h2.lt,⟨h3.os,h3.tape,h3.output,h3.size,h3.block⟩⟩
        have am:Hid (∀j u,([.int .i64 y.start,.int .i64 y.count,.int .u64 (y.sum:Int),.int .u64 (y.min:Int),.int .u64 (y.max:Int),.int .u64 (y.last:Int)]:List Value)[j]? = some u->(wr.drew.alloc (.cells #[.int .i64 y.start,.int .i64 y.count,.int .u64 (y.sum:Int),.int .u64 (y.min:Int),.int .u64 (y.max:Int),.int .u64 (y.last:Int)] 136)).cell? ((⟨wr.heap.size,0,none⟩:Addr).add j)=some u):=Kao (l:=[.int .i64 y.start,.int .i64 y.count,.int .u64 (y.sum:Int),.int .u64 (y.min:Int),.int .u64 (y.max:Int),.int .u64 (y.last:Int)]) (cp wr.drew _ _);have bd:Hid (∀u∈([.int .i64 y.start,.int .i64 y.count,.int .u64 (y.sum:Int),.int .u64 (y.min:Int),.int .u64 (y.max:Int),.int .u64 (y.last:Int)]:List Value),u.oneCell'=true):=by show ∀u∈_,_;intro u hu;simp at hu;rcases hu with rfl | rfl | rfl | rfl | rfl | rfl <;> rfl
        clear ac ay hm aa;go_upto_region 19 with fail
        go_region_law ((refine step_append_lies _ (by rfl) _ _ _ (by rfl) wo.heap.size 136 iw (.agg #[.int .i64 0,.int .i64 0,.int .u64 0,.int .u64 0,.int .u64 0,.int .u64 0]) 6 48 underlying130 b1 bZ aV bN rfl (by omega) (.slice VA m2 vc) m2 _ (by rfl) (cn (w:=wr.drew) an.out _) ⟨wr.heap.size,0,none⟩ 1 1 [.int .i64 y.start,.int .i64 y.count,.int .u64 (y.sum:Int),.int .u64 (y.min:Int),.int .u64 (y.max:Int),.int .u64 (y.last:Int)] (by rfl) (by rfl) am.out bd.out (by omega) (by simp only[maxLen];omega) (by omega) (by simp;omega) (wr.heap.size+1) (by simp) ?_;intro g cap w5 hown5 hgrow aH hlt5;obtain ⟨kz,fz,pz,aU⟩:=bh.out _ hgrow))
        all_goals
         have aA:Hid (DNew wo (w5.setCell ⟨p,2,none⟩ (.slice (some ⟨g,0,none⟩) (m2+1) cap)) p ⟨lA,ln,lc⟩ (.slice SA SN SC) (.slice (some ⟨g,0,none⟩) (m2+1) cap) (s.samples.filter (fS s)) ((s.windows.take (k+1)).filter (fW s))):=HD.out.setW aU (by
          rw[a6.out,Jd,cr,HM.out]
          exact hown5)
         clear aH hgrow hown5 aU;go_wp2_with fail
         go_roundg (wn - (k+1))
         case measure=>omega
         case rel=>exact ⟨k+1,_,by first | rfl | go_num,by omega,aA⟩
       | true=>
        have aA:Hid (DNew wo wr p ⟨lA,ln,lc⟩ (.slice SA SN SC) vs (s.samples.filter (fS s)) ((s.windows.take (k+1)).filter (fW s))):=by
         have aa:fW s y=false:=HP.out;have e:(s.windows.take (k+1)).filter (fW s)=(s.windows.take k).filter (fW s):=by rw[aF.out,aa];simp
         show DNew _ _ _ _ _ _ _ _
         rw[e];exact HD.out
        clear HD aF HP;go_wp2_with fail
        go_roundg (wn - (k+1))
        case measure=>omega
        case rel=>exact ⟨k+1,_,by first | rfl | go_num,by omega,aA⟩
      .have ao:(s.windows.take k).filter (fW s)=s.windows.filter (fW s):=by
        by_cases hr9:r≠0
        .rw[ci (by rw[a1.out.len];exact cO fun h9=>hon ⟨hr9,h9⟩)]
        .have h9:∀y,fW s y=false:=fun y=>by rw[bE.out];dsimp only;rw[ja hr9,cR]
         rw[cb.2 fun y _=>by rw[h9 y];exact cE,cb.2 fun y _=>by rw[h9 y];exact cE]
       rw[ao] at HD;clear ao
       by_cases hr9:r≠0
       .have ag:¬(k:Int) < (wn:Int):=fun h9=>hon ⟨hr9,by omega⟩
        clear hon hr9;go_wp2_with fail
        go_meet
        exact ⟨vs,HD⟩
       .have al:¬0 < (r:Int):=by omega
        have bf:q1=false:=by rw[<-bt];exact ja al
        clear hon al hr9;rcases cD k wn with h9 | h9
        .have ag:(k:Int) < (wn:Int):=by omega
         go_wp2_with fail
         go_meet
         exact ⟨vs,HD⟩
        .have ag:¬(k:Int) < (wn:Int):=by omega
         go_wp2_with fail
         go_meet
         exact ⟨vs,HD⟩
    case rest=>
     clear bo;obtain ⟨vs,HD⟩:=hcut;obtain ⟨wr,rfl⟩:=i7 wc;have br:=HD.out.w;obtain ⟨WN,a2⟩:=i7 ((s.windows.filter (fW s)).length);rw[<-a2] at br;obtain ⟨WA,WC,bU⟩:=Kag br;subst bU;have bW:WN<=137438953472:=by rw[a2];exact cg (cd _ _) (by rw[a1.out.len];exact aN)
     have bn:=Jh a2;clear br a2;have aB:Hid (DOut wl w0 wr (.slice A7 m c7) hs (((ss.take i).map (keepS fS fW)).filter Kam)):=HO.out.below HD.out.b;have aQ:=HD.out.x;have x0:=aQ.cell 0;have x1:=aQ.cell 1;have x2:=aQ.cell 2;simp at x0 x1 x2;have xl:=aQ.lt;have bF:Hid (Kam (keepS fS fW s)=decide (0 < SN+WN)):=by show decide (0 < (s.samples.filter (fS s)).length+(s.windows.filter (fW s)).length)=_;rw[bp.out,bn.out]
     clear aQ
     by_cases hz:0 < SN+WN
     .have bK:(0:Int) < (SN:Int)+(WN:Int):=by omega
      have b7:Hid (((ss.take (i+1)).map (keepS fS fW)).filter Kam=((ss.take i).map (keepS fS fW)).filter Kam ++ [keepS fS fW s]):=by show _=_;rw[aW.out,bF.out,jd hz];rfl
      have ak:=aB.out.row;rw[<-aI.out] at ak;have hm:=aI.out
      have hmz:m<=274877906944:=by have h1:=aB.out.l;have h2:=cd Kam ((ss.take i).map (keepS fS fW));rw[cQ,ce] at h2;omega
      obtain ⟨w6,aR⟩:=i7 (wr.alloc (.cells #[.slice lA ln lc,.slice SA SN SC,.slice WA WN WC] 132));have a3:Below wr.heap.size wr w6:=by rw[aR];exact (Below.refl _ _).alloc (cw _) _
      have ar:Blk w6 wr.heap.size 132 #[.slice lA ln lc,.slice SA SN SC,.slice WA WN WC]:=by rw[aR];exact cp _ _ _
      have av:w6.ownsRow w0.heap.size 132 3 (.slice A7 m c7) m (hs.flatMap encH3):=Kbc ak a3;have a8:Hid (DOut wl w0 w6 (.slice A7 m c7) hs (((ss.take i).map (keepS fS fW)).filter Kam)):=aB.out.below a3;have bq:Hid (DNew wo w6 p ⟨lA,ln,lc⟩ (.slice SA SN SC) (.slice WA WN WC) (s.samples.filter (fS s)) (s.windows.filter (fW s))):=HD.out.below a3;have bA:w0.heap.size<=w6.heap.size:=a8.out.b.size;have b3:w0.heap.size<=wr.heap.size+1:=by have:=aB.out.b.size;omega
      clear ak a3 aB HD hm;go_wp2_with (at_builtin;(try rw[<-aR]);refine wpList_append_own_at _ rfl _ _ 32 rfl w0.heap.size 132 ib (.agg #[.slice none 0 0,.slice none 0 0,.slice none 0 0]) 3 72 underlying32 b2 b6 bR bO rfl (by decide) (.slice A7 m c7) m _ rfl av ⟨wr.heap.size,0,none⟩ 1 1 [.slice lA ln lc,.slice SA SN SC,.slice WA WN WC] rfl rfl (Kao (l:=[.slice lA ln lc,.slice SA SN SC,.slice WA WN WC]) ar) ?p2 ?p3 ?p4 ?p5 ?_)
      case p2=>first | exact ⟨rfl,rfl,rfl⟩ | (intro u hu;simp only[cU,cN,or_false] at hu;rcases hu with rfl | rfl | rfl <;> rfl)
      case p3=>unfold maxLen;omega
      case p4=>omega
      all_goals try first | exact bA | exact b3
      intro v9 w9 hown' hgrow _ _;rw[<-aR] at hgrow
      have a4:Hid (DOut wl w0 w9 v9 (hs ++ [⟨⟨lA,ln,lc⟩,⟨SA,SN,SC⟩,⟨WA,WN,WC⟩⟩]) (((ss.take (i+1)).map (keepS fS fW)).filter Kam)):=by
       show DOut _ _ _ _ _ _
       rw[b7.out];refine a8.out.snoc hgrow (by rw[<-aI.out];exact hown') ⟨aJ.out.1,aJ.out.2,?_,?_⟩
       .have h1:=Kce bq.out.s aG.out.size;rw[<-bp.out] at h1;show w6.ownsRow _ _ _ (.slice SA SN SC) (s.samples.filter (fS s)).length _
        rw[<-bp.out];exact h1
       .have h1:=Kce bq.out.w aG.out.size;rw[<-bn.out] at h1;show w6.ownsRow _ _ _ (.slice WA WN WC) (s.windows.filter (fW s)).length _
        rw[<-bn.out];exact h1
      generalize hs ++ [(⟨⟨lA,ln,lc⟩,⟨SA,SN,SC⟩,⟨WA,WN,WC⟩⟩:Hd3)]=hsn at a4;clear hown' hgrow av ar a8 bq aR bA x0 x1 x2 xl;go_wp2_with fail
      go_roundg (n - (i+1))
      case measure=>omega
      case rel=>exact ⟨i+1,hsn,by first | rfl | go_num,by omega,a4⟩
     .have bK:¬(0:Int) < (SN:Int)+(WN:Int):=by omega
      have a4:Hid (DOut wl w0 wr (.slice A7 m c7) hs (((ss.take (i+1)).map (keepS fS fW)).filter Kam)):=by
       have e:((ss.take (i+1)).map (keepS fS fW)).filter Kam=((ss.take i).map (keepS fS fW)).filter Kam:=by rw[aW.out,bF.out,ja hz];simp
       show DOut _ _ _ _ _ _
       rw[e];exact aB.out
      clear aB HD;go_wp2_with fail
      go_roundg (n - (i+1))
      case measure=>omega
      case rel=>exact ⟨i+1,hs,by first | rfl | go_num,by omega,a4⟩
  .have bX:¬(i:Int) < (n:Int):=by omega
   have bg:=HO.out.row;obtain ⟨m,hm⟩:=i7 hs.length;rw[<-hm] at bg;obtain ⟨A7,c7,bj⟩:=Kag bg;subst bj
   have HF:Hid (DOut wl w0 wr (.slice A7 m c7) hs (keptF fS fW ss)):=by
    have h1:=HO.out;have e:((ss.take i).map (keepS fS fW)).filter Kam=keptF fS fW ss:=by unfold keptF;rw[ci (by rw[bC.out];exact hge)]
    rw[e] at h1;exact h1
   have aI:Hid (hs.length=m):=hm.symm;clear HO bg hm;go_wp2_with fail
   go_ret
   first | exact ⟨A7,m,c7,hs,rfl,aI.out,HF.out⟩ | exact ⟨A7,m,c7,rfl,hs,aI.out,HF.out⟩
theorem Ktn (res:Int) (ghs:List (Hd4×GoneP)) (gB:Option Addr) (gN gC:Nat) (A:Option Addr) (n c:Nat) (ss:List Ser) (w0:World) (hG:Gones w0 gB gN ghs) (h:SersZ w0 A n ss) :
  Calls prog 36 #[.int .i64 res,.slice A n c,.slice gB gN gC] w0 fun e w'=>∃(A':Option Addr) (n' c':Nat),e = .returned (.slice A' n' c')/\Sers w' A' n' (Kck res ghs ss)/\n'<=c'/\Below w0.heap.size w0 w':=by
 by_cases hr:0<=res/\res < 3
 .obtain ⟨r,rfl⟩:=Int.eq_ofNat_of_zero_le hr.1;refine (Kto r (by omega) ghs gB gN gC A n c ss w0 w0 (Below.refl _ _) hG h).mono ?_;rintro e w' ⟨A',n',c',hs,he,hl,hd⟩;exact ⟨A',n',c',he,(hd.sers hl).1,(hd.sers hl).2,hd.b⟩
 .have HF:Hid (Kck res ghs ss = []):=by show _=_;unfold Kck;rw[je hr]
  have HN:Hid (Sers w0 none 0 []):=Sers.nil w0;rw[HF.out];clear hG h HF
  by_cases h0:res < 0
  .clear hr;go_enter func36,ntmps36
   go_wp2_with fail
   go_ret
   exact ⟨none,0,0,rfl,HN.out,cw _,Below.refl _ _⟩
  .have h2:2 < res:=by omega
   clear hr;go_enter func36,ntmps36
   go_wp2_with fail
   go_ret
   exact ⟨none,0,0,rfl,HN.out,cw _,Below.refl _ _⟩
end
end
section
section
variable {α : Type}
def Kae (l:List α) (k:Nat) (z:α):List α:=l.take k++z :: l.drop k
theorem Kdi (l:List α) (k:Nat) (z:α):(Kae l k z).length=l.length+1:=by unfold Kae;simp only[cM,ce,cI,List.length_drop];omega
theorem Kln (l:List α) (z:α):Kae l l.length z=l ++ [z]:=by unfold Kae;simp
theorem Kge {l:List α} {k j:Nat} {z:α} (h:j < k) (hk:k<=l.length):(Kae l k z)[j]? = l[j]?:=by unfold Kae;rw[cf (by rw[ce];omega),List.getElem?_take_of_lt h]
theorem Kdt (l:List α) {k:Nat} (z:α) (hk:k<=l.length):(Kae l k z)[k]? = some z:=by unfold Kae;rw[cc (by rw[ce];omega),ce,Nat.min_eq_left hk,cJ];rfl
theorem Kzx {A B:List α} {z y:α} {k:Nat} (h:A.length=k):(A++z :: B).set k y=A++y :: B:=by subst h;rw[List.set_append_right _ _ (cw _),cJ];rfl
theorem Kgf {l:List α} {k:Nat} (z x:α) (hk:k<=l.length):(Kae l k z).set k x=Kae l k x:=by unfold Kae;exact Kzx (by rw[ce];omega)
theorem Kjt {l:List α} {j:Nat} {y:α} (z:α) (h:l[j]? = some y):(Kae l (j+1) z).set (j+1) y=Kae l j y:=by
 have hl:=(ca.1 h).1;rw[Kgf z y (by omega)];have e1:l.take (j+1)=l.take j ++ [y]:=by rw[co,h];rfl
 have e2:l.drop j=y :: l.drop (j+1):=by rw[cG hl,(ca.1 h).2]
 unfold Kae;rw[e1,e2];simp
variable (key : α -> Int)
theorem Kjk (x:α):∀{l:List α} {k:Nat},k<=l.length->(∀y∈l.take k,key y < key x)->(∀y∈l.drop k,key x<=key y)->(∀y,l[k]? = some y->key y≠key x)->insO key x l=Kae l k x
 | [],k,hk,_,_,_=>by
  have:k=0:=by simpa using hk
  subst this;rfl
 | y :: l,0,_,_,h2,h3=>by have h4:=h2 y (by simp);have h5:=h3 y rfl;unfold insO Kae;rw[jf (by omega)];rfl
 | y :: l,k+1,hk,h1,h2,h3=>by have h4:=h1 y (by simp);unfold insO;rw[je (by omega),je (by omega),Kjk x (l:=l) (k:=k) (by simpa using hk) (fun z hz=>h1 z (by simp[hz])) (fun z hz=>h2 z (by simpa using hz)) (fun z hz=>h3 z (by simpa using hz))];rfl
theorem Kkz (x:α):∀{l:List α} {k:Nat} {y:α},(∀y∈l.take k,key y < key x)->l[k]? = some y->key y=key x->insO key x l=l
 | [],k,y,_,h,_=>by simp at h
 | z :: l,0,y,_,h,e=>by simp only[ch,Option.some.injEq] at h;subst h;unfold insO;rw[je (by omega),jf (by omega)]
 | z :: l,k+1,y,h1,h,e=>by have h4:=h1 z (by simp);unfold insO;rw[je (by omega),je (by omega),Kkz x (l:=l) (k:=k) (y:=y) (fun z hz=>h1 z (by simp[hz])) (by simpa using h) e]
def Kpk {β : Type}:List β->Nat->List β->List β
 | xs,_,[]=>xs
 | xs,i,v :: vs=>Kpk (xs.set i v) (i+1) vs
theorem Kjs {β : Type}:∀(vs A C B:List β),C.length=vs.length->Kpk (A++C++B) A.length vs=A++vs++B
 | [],A,C,B,h=>by have:C = []:=List.eq_nil_of_length_eq_zero (by simpa using h);subst this;rfl
 | v :: vs,A,[],B,h=>by simp at h
 | v :: vs,A,c :: C,B,h=>by
  have e:(A++c :: C++B).set A.length v=A ++ [v]++C++B:=by simp
  have:=Kjs vs (A ++ [v]) C B (by simpa using h);unfold Kpk;rw[e];rw[show A.length+1=(A ++ [v]).length by simp,this];simp
theorem Kga {β : Type} {enc:α->List β} {n:Nat} (hk:∀x,(enc x).length=n):∀(l:List α) (i:Nat) (y z:α),l[i]? = some z->Kpk (l.flatMap enc) (i*n) (enc y)=(l.set i y).flatMap enc
 | [],i,y,z,h=>by simp at h
 | a :: l,0,y,z,h=>by simp only[List.set_cons_zero,cH,Nat.zero_mul];have:=Kjs (enc y) [] (enc a) (l.flatMap enc) (by rw[hk,hk]);simpa using this
 | a :: l,i+1,y,z,h=>by
  have hz:l[i]? = some z:=by simpa using h
  obtain ⟨A,B,hl,hA⟩:∃A B,l=A++z :: B/\A.length=i:=by have ab:=(ca.1 hz).1;refine ⟨l.take i,l.drop (i+1),?_,by rw[ce];omega⟩;rw[<-(ca.1 hz).2,<-cG ab,List.take_append_drop]
  have aa:∀A:List α,(A.flatMap enc).length=A.length*n:=by
   intro A
   induction A with
   | nil=>simp
   | cons x A ih=>rw[cH,cM,ih,hk,cI,Nat.succ_mul];omega
  have:=Kjs (enc y) ((a :: A).flatMap enc) (enc z) (B.flatMap enc) (by rw[hk,hk]);rw[aa,cI,hA] at this;rw[hl,List.set_cons_succ,Kzx hA];simp only[cH,cr,List.append_assoc] at this |-;exact this
end
end
end Go.Proofs.YtdoiekknhnbepaaGreatDoor
