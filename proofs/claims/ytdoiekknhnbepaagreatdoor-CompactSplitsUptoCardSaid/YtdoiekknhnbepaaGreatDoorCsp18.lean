/- Merged (what the claim wants of): RMerge, CRef, CRefC, RSplit. -/
import Derived.Test.YtdoiekknhnbepaaGreatDoorCsp17
set_option linter.unusedVariables false
set_option linter.unusedSimpArgs false
set_option maxRecDepth 1000000
set_option linter.ambiguousOpen false
set_option maxHeartbeats 8000000
namespace Go.Proofs.YtdoiekknhnbepaaGreatDoor
open Go renaming wpList_append_own_at->dy
open List renaming getElem?_eq_some_iff->cS,getElem?_eq_getElem->cV,mem_filter->cW,pairwise_iff_getElem->cX,getElem?_append_left->cY,getElem?_set_self->c4,getElem?_eq_none->c6,mem_append->c8,mem_cons->dg,set_set->di
open Act renaming put->dj
open Value renaming slice->dk,string->dl
open World renaming ownsRow_nil->dm,grownBy_alloc->dn,cell?_of_block->dp
open Oper renaming wp_ran->dq,wp_skipped->dr,wp_called->ds
open Wnd renaming start->dt
open Smp renaming t->dv
open Blk renaming new->dw
open List.Pairwise renaming nil->dx
open Go.Proofs.Tryz
open List renaming take_of_length_le->cH,length_append->cI,length_take->cK,mem_append_left->cL,take_succ_eq_append_getElem->cM,flatMap_append->cN,take_add_one->cO,mem_of_getElem?->cP,length_singleton->cR,foldl_append->cU,take_append_drop->da,flatten_append->dc,append_assoc->dd,getElem_mem->de,length_set->df,mem_cons->dh
open Nat renaming le_refl->cJ,lt_of_lt_of_le->cQ,lt_or_ge->cT,le_succ->db
open _root_.Array renaming replicate->cZ
section
open Go.Shelf Go.RowKit Go.Lib Go.Sort
open Lib renaming hid -> Jh
open List renaming setIfInBounds_toArray -> Ja, set_cons_zero -> Jb, set_cons_succ -> Jc
attribute [local go_sem ↓] Go.wp_at_zero Go.wp_at_succ
attribute [local go_sem] Later.cell
section
theorem Kgb {α : Type} (k:α->Int):∀(xs:List α) {l:List α},(l.Pairwise fun a b=>k a < k b)->(xs.foldl (fun a x=>insO k x a) l).Pairwise fun a b=>k a < k b
 | [],_,h=>h
 | x :: xs,l,h=>by rw[List.foldl_cons];exact Kgb k xs (Knm k x h)
theorem Qhh {l:List Ser} (h:ascS l) {i j:Nat} {x y:Ser} (hi:l[i]? = some x) (hj:l[j]? = some y) (e:x.labels=y.labels):i=j:=by
 obtain ⟨ab,rfl⟩:=cS.1 hi;obtain ⟨aa,rfl⟩:=cS.1 hj;rcases Nat.lt_trichotomy i j with hl | hl | hl
 .exact jl e (Klc (cX.1 h i j ab aa hl)).1
 .exact hl
 .exact jl e.symm (Klc (cX.1 h j i aa ab hl)).1
structure Found (P:List Ser) (s:Ser) (gs1:List Ser) (a:Nat) (g1:Ser):Prop where
 at_:gs1[a]? = some g1
 put:gs1.set a ⟨g1.labels,s.samples.foldl (fun a x=>insO dv x a) g1.samples,s.windows.foldl (fun a x=>insO dt x a) g1.windows⟩=Kbg (Kaf P) s
 aa:g1.samples.Pairwise fun a b=>dv a < dv b
 aw:g1.windows.Pairwise fun a b=>dt a < dt b
 sz:g1.samples.length+g1.windows.length<=sumS P
theorem Kks (P:List Ser):IsMrg P (Kaf P):=by have:=Kfs P [] [] IsMrg.nil;unfold Kaf;simpa using this
theorem Found.old {P:List Ser} {s g1:Ser} {a:Nat} (h:(Kaf P)[a]? = some g1) (e:g1.labels=s.labels):Found P s (Kaf P) a g1:=by
 have hm:=Kks P;obtain ⟨_,h1,h2⟩:=(hm.mem g1).1 (cP h);refine ⟨h,(Kpe hm.asc h e).symm,?_,?_,?_⟩
 .rw[h1];exact Kgb _ _ dx
 .rw[h2];exact Kgb _ _ dx
 .have h3:=Khi (cP h);have h4:=Kfd P;omega
theorem Found.new {P:List Ser} {s g1:Ser} {a k:Nat} (hk:k<=(Kaf P).length) (ha:ascS (Kae (Kaf P) k ⟨s.labels,[],[]⟩)) (h:(Kae (Kaf P) k ⟨s.labels,[],[]⟩)[a]? = some g1) (e:g1.labels=s.labels):Found P s (Kae (Kaf P) k ⟨s.labels,[],[]⟩) a g1:=by have h1:=Kdt (Kaf P) (⟨s.labels,[],[]⟩:Ser) hk;have aa:=Qhh ha h h1 e;subst aa;rw[h1] at h;injection h with h;subst h;refine ⟨h1,?_,dx,dx,Nat.zero_le _⟩;rw[Kpd ha hk,Kgf _ _ hk];rfl
theorem DSt.elems {w0 w:World} {A:Option Addr} {n c:Nat} {hs:List Hd3} {gs:List Ser} (d:DSt w0 w (.slice A n c) hs gs):Elems w w.heap.size 3 encH3 A n hs:=by obtain ⟨A9,c9,e9,hE,_⟩:=Elems.of_own (xs:=hs) (enc:=encH3) (fun _ _=>rfl) rfl d.o.row rfl;have hn:=Kfc d.o.row;injection e9 with e1 _ _;rw[e1,hn];exact hE
theorem DSt.lbl {w0 w:World} {v:Value} {hs:List Hd3} {gs:List Ser} (d:DSt w0 w v hs gs) (hz:∀g∈gs,g.labels.length<=1099511627776) (i:Nat) (h:Hd3) (hi:hs[i]? = some h):h.l.n<=1099511627776:=by
 have aa:i < gs.length:=by rw[d.o.l];exact (cS.1 hi).1
 have:=(d.o.r i h _ hi (cV aa)).l.len;have:=hz _ (de aa);omega
theorem Kwf {w0 w:World} {A lA:Option Addr} {n c ln lc:Nat} {hs:List Hd3} {gs:List Ser} {L:List Lb} (d:DSt w0 w (.slice A n c) hs gs) (hz:∀g∈gs,g.labels.length<=1099511627776) (hL:Elems w0 w0.heap.size 2 encLb lA ln L) (hk:ln<=1099511627776) (hn:n<=1099511627776) :
  Calls prog 100 #[.slice A n c,.slice lA ln lc] w fun e w'=>(∃r,e = .returned (.int .i64 r)/\Knz gs L r)/\Below w.heap.size w w':=
 Kwe hs gs L A lA n c ln lc w d.elems (d.o.l.trans (Kfc d.o.row).symm) (fun i h g hi hg=>⟨((d.o.r i h g hi hg).l.below d.o.b).more d.o.b.size,d.lbl hz i h hi⟩) ((hL.below d.o.b).more d.o.b.size) hk hn
theorem Ksi {α : Type}:∀{l:List α} {i:Nat} {x:α},l[i]? = some x->l.set i x=l
 | [],i,x,h=>by simp at h
 | y :: l,0,x,h=>by simp at h;rw[Jb,h]
 | y :: l,i+1,x,h=>by rw[Jc,Ksi (by simpa using h)]
theorem Kkc (P:List Ser) (s:Ser):Kaf (P ++ [s])=if Kam s=true then Kbg (Kaf P) s else Kaf P:=by unfold Kaf;rw[cU];rfl
theorem Kqp (A:Option Addr) (n c:Nat) (hds:List Hd) (Ls:List (List Ser)) (w0:World) (h:Lists w0 A n hds Ls) (hn:n<=140737488355328) (hN:Ls.flatten.length<=274877906944) (hsum:sumS Ls.flatten<=137438953472) :
  Calls prog 35 #[.slice A n c] w0 fun e w'=>∃(A':Option Addr) (n' c':Nat),e = .returned (.slice A' n' c')/\Sers w' A' n' (Kaf Ls.flatten)/\n'<=c'/\Below w0.heap.size w0 w':=by
 have aB:=Jh h;have HN:=Jh hN;have bP:=Jh hsum;have HD:Hid (DSt w0 w0 (.slice none 0 0) [] (Kaf (Ls.take 0).flatten)):=⟨DOut.nil (Below.refl _ _),fun i j x y hi=>by simp at hi⟩;clear h hN hsum;go_enter func35,ntmps35
 go_wp2_with fail
 go_loopg [3,4] n (fun kx s3 s4 wr=>∃(i:Nat) (hs:List Hd3),s4 = .int .i64 (i:Int)/\i+kx=n/\Hid (DSt w0 wr s3 hs (Kaf (Ls.take i).flatten)))
 case atStart=>exact ⟨0,[],rfl,by omega,HD⟩
 case round=>
  clear HD;obtain ⟨i,hs,rfl,hi,HO⟩:=hrel;rcases cT i n with hlt | hge
  .have cw:(i:Int) < (n:Int):=by omega
   obtain ⟨hd,bH⟩:∃hd,hds[i]? = some hd:=⟨hds[i]'(by rw[aB.out.e.len];omega),cV _⟩;obtain ⟨L,hL⟩:∃L,Ls[i]? = some L:=⟨Ls[i]'(by rw[aB.out.l];omega),cV _⟩;obtain ⟨aD,cF⟩:=aB.out.k i hd bH;have ce:Ls[i]! = L:=by rw[i9 Ls i (by rw[aB.out.l];omega)];exact (cS.1 hL).2
   rw[ce] at aD;obtain ⟨bm,hE,bi,b3⟩:=aD;obtain ⟨b0,a9,cs,bt,b8⟩:=aB.out.e.2 (by omega);obtain ⟨hA,m,mc⟩:=hd
   have bZ:Hid (∀W,Below w0.heap.size w0 W->W.cell? ⟨b0,a9+i,none⟩=some (.slice hA m mc)/\b0 < W.heap.size):=fun W hW=>by have h1:=b8 i _ bH 0 _ rfl;rw[Nat.mul_one,Nat.add_zero] at h1;exact ⟨(hW.cell (p:=⟨b0,a9+i,none⟩) bt).trans h1,cQ bt hW.size⟩
   have HE:Hid (Elems w0 w0.heap.size 3 encH3 hA m bm):=hE;have cx:Hid (∀(k:Nat) (h:Hd3),bm[k]? = some h->SerAt w0 h L[k]!):=b3;have bp:Hid (L.length=m):=bi;have HZL:Hid (∀s∈L,s.labels.length<=1099511627776):=aB.out.z L (cP hL)
   have aF:Hid (∀k,∃R,Ls.flatten=(Ls.take i).flatten++L.take k++R):=fun k=>by
    refine ⟨L.drop k++(Ls.drop (i+1)).flatten,?_⟩;have cm:=(cS.1 hL).1
    conv=>lhs;rw[<-da i Ls,List.drop_eq_getElem_cons cm,(cS.1 hL).2]
    simp only[dc,List.flatten_cons]
    conv=>lhs;rw[<-da k L]
    simp only[dd]
   have hmz:m<=274877906944:=by obtain ⟨R,hR⟩:=aF.out m;have h1:=HN.out;have e:L.take m=L:=cH (Nat.le_of_eq bi);have e2:L.length=m:=bi;rw[hR,cI,cI,e] at h1;omega
   have bB:Hid ((Ls.take (i+1)).flatten=(Ls.take i).flatten++L):=by show _=_;rw[cO,hL,dc];simp
   have bs:=HO.out;rw[show (Ls.take i).flatten=(Ls.take i).flatten++L.take 0 by simp] at bs;have ch:=Jh bs;clear bs;obtain ⟨k0,kl⟩:=bZ.out wr HO.out.o.b;obtain ⟨wo,rfl⟩:=i7 wr;subst cs;clear hE b3 bi hL bH ce b8 cF bt HO;go_wp2_with fail
   go_loopg [3,5] m (fun kx s3 s5 wr=>∃(k:Nat) (hs:List Hd3),s5 = .int .i64 (k:Int)/\k+kx=m/\Hid (DSt w0 wr s3 hs (Kaf ((Ls.take i).flatten++L.take k))))
   case atStart=>exact ⟨0,hs,rfl,by omega,ch⟩
   case round=>
    clear ch k0 kl;obtain ⟨k,hk,rfl,hkm,HO⟩:=hrel;obtain ⟨k0,kl⟩:=bZ.out wr HO.out.o.b;rcases cT k m with hlt2 | hge2
    .have aq:(k:Int) < (m:Int):=by omega
     obtain ⟨h3,aR⟩:∃h,bm[k]? = some h:=⟨bm[k]'(by rw[HE.out.len];omega),cV _⟩;obtain ⟨s,bS⟩:∃s,L[k]? = some s:=⟨L[k]'(by rw[bp.out];omega),cV _⟩;have b5:L[k]! = s:=by rw[i9 L k (by rw[bp.out];omega)];exact (cS.1 bS).2
     have al:=cx.out k h3 aR;rw[b5] at al;obtain ⟨bL,oL,cl,aZ,bl⟩:=HE.out.2 (by omega);obtain ⟨⟨lA,ln,lc⟩,⟨sA,sn,sc⟩,⟨wA,wn,wc⟩⟩:=h3;have e0:wr.cell? ⟨bL,oL+k*3,none⟩=some (.slice lA ln lc):=(HO.out.o.b.cell (p:=⟨bL,oL+k*3,none⟩) aZ).trans (bl k _ aR 0 _ rfl);have e1:wr.cell? ⟨bL,oL+k*3+1,none⟩=some (.slice sA sn sc):=(HO.out.o.b.cell (p:=⟨bL,oL+k*3+1,none⟩) aZ).trans (bl k _ aR 1 _ rfl);have e2:wr.cell? ⟨bL,oL+k*3+2,none⟩=some (.slice wA wn wc):=(HO.out.o.b.cell (p:=⟨bL,oL+k*3+2,none⟩) aZ).trans (bl k _ aR 2 _ rfl);have bM:bL < wr.heap.size:=cQ aZ HO.out.o.b.size;have bb:Hid (Elems w0 w0.heap.size 2 encLb lA ln s.labels/\ln<=lc):=⟨al.l,al.lc⟩;have aK:Hid (Elems w0 w0.heap.size 2 Kac sA sn s.samples):=al.s;have aM:Hid (Elems w0 w0.heap.size 6 Kad wA wn s.windows):=al.w;have a8:Hid ((Ls.take i).flatten++L.take (k+1)=(Ls.take i).flatten++L.take k ++ [s]):=by show _=_;rw[cO,bS,<-dd];rfl
     obtain ⟨P,hP⟩:=i7 ((Ls.take i).flatten++L.take k)
     have aN:Hid (∀g∈P ++ [s],g.labels.length<=1099511627776):=fun g hg=>by
      obtain ⟨R,hR⟩:=aF.out (k+1);rw[a8.out,<-hP] at hR;have:g∈Ls.flatten:=by rw[hR];exact cL _ hg
      obtain ⟨L',h1,h2⟩:=List.mem_flatten.1 this;exact aB.out.z L' h1 g h2
     have bk:Hid (sumS P+(sn+wn)<=137438953472/\P.length < 274877906944):=by obtain ⟨R,hR⟩:=aF.out (k+1);rw[a8.out,<-hP] at hR;have h1:=bP.out;have h2:=HN.out;rw[hR,Kjv,Kjv,Kbo] at h1;rw[hR,cI,cI,cR] at h2;have h3:=aK.out.len;have h4:=aM.out.len;exact ⟨by omega,by omega⟩
     have bD:sn<=137438953472/\wn<=137438953472:=by have:=bk.out.1;exact ⟨by omega,by omega⟩
     obtain ⟨cf,cb⟩:=bD;have bK:Hid (ln<=1099511627776):=by have:=aN.out s (by simp);rw[bb.out.1.len] at this;exact this
     rw[<-hP] at HO a8;have bG:=HO.out.o.row;obtain ⟨n3,ci⟩:=i7 hk.length;rw[<-ci] at bG;obtain ⟨A3,c3,cz⟩:=Kag bG;subst cz
     have bg:Hid (n3<=274877906944/\n3=(Kaf P).length):=by have h1:=HO.out.o.l;have h2:=Khd P;have h3:=bk.out.2;exact ⟨by omega,by omega⟩
     have cg:Hid (Kam s=decide (0 < sn+wn)):=by show decide (0 < s.samples.length+s.windows.length)=_;rw[aK.out.len,aM.out.len]
     subst cl;clear bl aR bS b5 al aZ bG ci hP;obtain ⟨q,hq⟩:=i7 wr.heap.size;obtain ⟨wb,bj⟩:=i7 (wr.alloc (.cells #[.slice lA ln lc,.slice sA sn sc,.slice wA wn wc] 132));have aP:Hid (Blk wb q 132 #[.slice lA ln lc,.slice sA sn sc,.slice wA wn wc]):=by show Blk _ _ _ _;rw[bj,hq];exact dw _ _ _
     have be:Hid (DSt w0 wb (.slice A3 n3 c3) hk (Kaf P)):=by show DSt _ _ _ _ _;rw[bj];exact HO.out.below ((Below.refl _ _).alloc (cJ _) _)
     have bJ:Hid (∀g,(dk A3 n3 c3).ownBlock=some g->g≠q):=fun g hg e=>by have:=(HO.out.o.row.lt g hg).2;omega
     go_upto_region 9 with fail
     rw[<-bj,<-hq];clear bj hq e0 e1 e2 bM k0 kl HO;have z0:=aP.out.cell 0;have z1:=aP.out.cell 1;have z2:=aP.out.cell 2;simp at z0 z1 z2;have zl:=aP.out.lt
     by_cases hz:0 < sn+wn
     .have co:((sn:Int)+(wn:Int) == 0)=false:=by rw[jg];omega
      have aY:Hid (Kam s=true):=by show _=_;rw[cg.out,jd hz]
      have b4:=Jh (Kwf (c:=c3) (lc:=lc) be.out (fun g hg=>Ked (fun L=>L.length<=1099511627776) P (fun x hx=>aN.out x (cL _ hx)) g hg) bb.out.1 bK.out (by have:=bg.out.1;omega));go_wp2_with fail
      refine b4.out.mono ?_;rintro _ w2 ⟨⟨r,rfl,hr⟩,bU⟩;have HR:=Jh hr;have aL:Hid (DSt w0 w2 (.slice A3 n3 c3) hk (Kaf P)):=be.out.below bU;have aI:Hid (Blk w2 q 132 #[.slice lA ln lc,.slice sA sn sc,.slice wA wn wc]):=aP.out.below bU zl;clear z0 z1 z2 zl bU hr b4 be aP;go_upto_if 45 with fail
      go_cut [3,7] from 16 to 98 (fun s3 s7 wz=>∃(v3 v7:Value) (gB n1 c1 a:Nat) (hs1:List Hd3) (gs1:List Ser) (g1:Ser),v3=s3/\v7=s7/\v3 = .slice (some ⟨gB,0,none⟩) n1 c1/\v7 = .int .i64 (a:Int)/\Hid (DSt w0 wz (.slice (some ⟨gB,0,none⟩) n1 c1) hs1 gs1)/\Hid (Found P s gs1 a g1)/\Hid (Blk wz q 132 #[.slice lA ln lc,.slice sA sn sc,.slice wA wn wc])/\Hid (gB≠q))
      case first=>
       rcases HR.out with ⟨a,g1,rfl,aO,aA⟩ | ⟨rfl,hno⟩
       .have cD:¬(a:Int) < 0:=by omega
        obtain ⟨gB,rfl⟩:∃gB,A3=some ⟨gB,0,none⟩:=by
         rcases aL.out.o.row.2 with ⟨h1,_⟩ | ⟨g,cap,ac,h1,_⟩
         .injection h1 with _ h1 _;have h2:=(cS.1 aO).1;have h3:=bg.out.2;omega
         .injection h1 with h1 _ _;exact ⟨g,h1⟩
        have bX:Hid (Found P s (Kaf P) a g1):=Found.old aO aA;have aQ:Hid (gB≠q):=bJ.out gB rfl;clear aO aA;go_wp2_with fail
        go_meet
        exact ⟨_,_,gB,n3,c3,a,hk,_,g1,rfl,rfl,rfl,rfl,aL,bX,aI,aQ⟩
       .have cd:=Jh (Kti hk (Kaf P) A3 lA n3 c3 ln lc s.labels w0 w2 aL.out (Kks P).asc bb.out.1 bb.out.2 bK.out (aL.out.lbl fun g hg=>Ked (fun L=>L.length<=1099511627776) P (fun x hx=>aN.out x (cL _ hx)) g hg) hno bg.out.1);have z0:=aI.out.cell 0;simp at z0;have zl:=aI.out.lt;clear hno;go_wp2_with fail
        refine cd.out.mono ?_;rintro _ w3 ⟨gB,c1,k1,rfl,hk1,cj,aC,b6,b2⟩;have bR:Hid (Blk w3 q 132 #[.slice lA ln lc,.slice sA sn sc,.slice wA wn wc]):=aI.out.grown b6 (fun e=>bJ.out q e.symm rfl);have bd:=Jh cj;have bz:=Jh aC
        have cq:Hid (∀g∈Kae (Kaf P) k1 ⟨s.labels,[],[]⟩,g.labels.length<=1099511627776):=fun g hg=>by
         rcases c8.1 hg with hg | hg
         .exact Ked (fun L=>L.length<=1099511627776) P (fun x hx=>aN.out x (cL _ hx)) g (List.mem_of_mem_take hg)
         .rcases dg.1 hg with rfl | hg
          .exact aN.out s (by simp)
          .exact Ked (fun L=>L.length<=1099511627776) P (fun x hx=>aN.out x (cL _ hx)) g (List.mem_of_mem_drop hg)
        have aQ:Hid (gB≠q):=by
         rcases b2 with e | e
         .exact bJ.out gB e.symm
         .have:=aI.out.lt;show gB≠q
          omega
        have ca:=Jh (Kwf (c:=c1) (lc:=lc) bd.out cq.out bb.out.1 bK.out (by have:=bg.out.1;omega));have y0:=bR.out.cell 0;simp at y0;have yl:=bR.out.lt;clear z0 zl cj aC b6 b2 cd aI aL;go_wp2_with fail
        refine ca.out.mono ?_;rintro _ w4 ⟨⟨r,rfl,hr⟩,bN⟩;have cC:Hid (DSt w0 w4 (.slice (some ⟨gB,0,none⟩) (n3+1) c1) _ _):=bd.out.below bN;have cE:Hid (Blk w4 q 132 #[.slice lA ln lc,.slice sA sn sc,.slice wA wn wc]):=bR.out.below bN yl
        obtain ⟨a,g1,rfl,aO,aA⟩:∃(a:Nat) (g1:Ser),r=(a:Int)/\(Kae (Kaf P) k1 ⟨s.labels,[],[]⟩)[a]? = some g1/\g1.labels=s.labels:=by
         rcases hr with h1 | ⟨_,h2⟩
         .exact h1
         .exact jl rfl (h2 ⟨s.labels,[],[]⟩ (by unfold Kae;simp))
        have bX:Hid (Found P s (Kae (Kaf P) k1 ⟨s.labels,[],[]⟩) a g1):=Found.new (by have:=bg.out.2;omega) bz.out aO aA;clear y0 yl bN hr ca aO aA;go_wp2_with fail
        go_meet
        exact ⟨_,_,gB,n3+1,c1,a,_,_,g1,rfl,rfl,rfl,rfl,cC,bX,cE,aQ⟩
      case rest=>
       obtain ⟨v3,v7,gB,n1,c1,a,hs1,gs1,g1,rfl,rfl,rfl,rfl,bd,HF,b7,aQ⟩:=hcut;obtain ⟨wz,rfl⟩:=i7 wc
       have cc:Hid (DSt w0 wz (.slice (some ⟨gB,0,none⟩) n1 c1) hs1 (gs1.set a ⟨g1.labels,(s.samples.take 0).foldl (fun a x=>insO dv x a) g1.samples,g1.windows⟩)):=by
        show DSt _ _ _ _ _
        have h1:=bd.out;rw[<-Ksi HF.out.at_] at h1;exact h1
       clear bd aL aI HR;go_wp2_with fail
       go_loopg [8] sn (fun kx s8 wr=>∃(j:Nat) (hj:List Hd3),s8 = .int .i64 (j:Int)/\j+kx=sn/\Hid (DSt w0 wr (.slice (some ⟨gB,0,none⟩) n1 c1) hj (gs1.set a ⟨g1.labels,(s.samples.take j).foldl (fun a x=>insO dv x a) g1.samples,g1.windows⟩))/\Hid (Blk wr q 132 #[.slice lA ln lc,.slice sA sn sc,.slice wA wn wc]))
       case atStart=>exact ⟨0,_,by first | rfl | go_num,by omega,cc,b7⟩
       case round=>
        clear cc  b7;obtain ⟨j,hj,rfl,ck,HD,HB⟩:=hrel;have z1:wr.cell? ⟨q,1,none⟩=some (.slice sA sn sc):=HB.out.cell 1;have zl:=HB.out.lt;rcases cT j sn with hlt2 | hge2
        .have aq:(j:Int) < (sn:Int):=by omega
         obtain ⟨y,hy⟩:∃y,s.samples[j]? = some y:=⟨s.samples[j]'(by rw[aK.out.len];omega),cV _⟩;obtain ⟨ac,ad⟩:=i7 ((s.samples.take j).foldl (fun a x=>insO dv x a) g1.samples);have bq:Hid ((s.samples.take (j+1)).foldl (fun a x=>insO dv x a) g1.samples=insO dv y ac):=by show _=_;rw[ad,cO,hy,cU];rfl
         have av:ac.Pairwise fun a b=>dv a < dv b:=by rw[ad];exact Kgb _ _ HF.out.aa
         have cv:ac.length<=137438953472:=by have h1:=Kei dv (s.samples.take j) g1.samples;rw[<-ad,cK,aK.out.len] at h1;have h2:=HF.out.sz;have h3:=bk.out;omega
         rw[<-ad] at HD
         have bI:a < hj.length:=by have h1:=HD.out.o.l;rw[df] at h1;rw[<-h1];exact (cS.1 HF.out.at_).1
         obtain ⟨x,hx⟩:∃x,hj[a]? = some x:=⟨hj[a]'bI,cV _⟩;have aE:(gs1.set a ⟨g1.labels,ac,g1.windows⟩)[a]? = some ⟨g1.labels,ac,g1.windows⟩:=c4 (cS.1 HF.out.at_).1;obtain ⟨wd,az⟩:=i7 wr.drew;have ae:Hid (DSt w0 wd (.slice (some ⟨gB,0,none⟩) n1 c1) hj (gs1.set a ⟨g1.labels,ac,g1.windows⟩)):=by show DSt _ _ _ _ _;rw[az];exact HD.out.below (Below.refl _ _).drew
         have ar:Hid (Blk wd q 132 #[.slice lA ln lc,.slice sA sn sc,.slice wA wn wc]):=by show Blk _ _ _ _;rw[az];exact HB.out
         have aV:=ae.out.o.r a x _ hx aE;obtain ⟨⟨bO,bE,bn⟩,⟨ak,ai,an⟩,⟨aj,am,ao⟩⟩:=x;have ab:wd.ownsRow w0.heap.size 133 2 (.slice ak ai an) ac.length (ac.flatMap Kac):=aV.sm;have aS:=Kfc ab;rw[<-aS] at ab;obtain ⟨ct,aW⟩:=Kax ae.out.o.row (r:=gB) rfl;have ap:Blk wd gB 132 ct:=aW;have aJ:Hid (some gB≠(dk ak ai an).ownBlock/\some q≠(dk ak ai an).ownBlock):=⟨Kan ap ab (by decide),Kan ar.out ab (by decide)⟩;have af:=Qgr ac y av w0.heap.size ak ai an wd ab aS.symm ae.out.o.b.size (by omega)
         have c0:wd.cell? ⟨gB,a*3+1,none⟩=some (.slice ak ai an):=by obtain ⟨b9,o9,bW,cn,bo⟩:=ae.out.elems.2 (by have:=(ae.out.elems).len;omega);injection bW with e9;injection e9 with e1 e2;subst e1 e2;have:=bo a _ hx 1 _ rfl;rw[Nat.zero_add] at this;exact this
         have bc:=(aK.out.below ae.out.o.b);obtain ⟨bx,ox,bY,aX,aT⟩:=bc.2 (by omega);have ax:=aT j y hy;have hS:wd.cell? ⟨gB,a*3+1,none⟩=some (.slice ak ai an)/\wd.cell? ⟨q,1,none⟩=some (.slice sA sn sc)/\wd.cell? ⟨bx,ox+j*2,none⟩=some (.int .i64 y.t)/\wd.cell? ⟨bx,ox+j*2+1,none⟩=some (.int .u64 (y.v:Int)):=⟨c0,ar.out.cell 1,ax 0 _ rfl,ax 1 _ rfl⟩;have bC:bx < wd.heap.size:=cQ aX ae.out.o.b.size;have aA:=ap.lt;have cA:=ap.frozen (a*3+1);have cy:=ar.out.lt;have cB:=ar.out.frozen 1;have br:=Jh ap;have bv:=Jh hx;have bQ:=Jh aE;subst bY;have cp:(a:Int) < (n1:Int):=by have h1:=ae.out.elems.len;omega
         clear bc aT ax aX c0 aV aW ap hx aE ad hy av ab bI HD HB;go_upto_region 17 with fail
         refine Kcv (fun w'=>w'.cell? ⟨gB,a*3+1,none⟩=some (.slice ak ai an)/\w'.cell? ⟨q,1,none⟩=some (.slice (some ⟨bx,ox,none⟩) sn sc)/\w'.cell? ⟨bx,ox+j*2,none⟩=some (.int .i64 y.t)/\w'.cell? ⟨bx,ox+j*2+1,none⟩=some (.int .u64 (y.v:Int))) 12 16 (by kernel_rfl) rfl ?_;rw[show cZ 16 false = #[false,false,false,false,false,false,false,false,false,false,false,false,false,false,false,false] from rfl,<-az];clear az z1 zl;refine kP (i:=0) (d:=some 62) hS ?_;simp only[dj,Ja,Jb,Jc];refine kP (i:=1) (d:=some 63) hS ?_;simp only[dj,Ja,Jb,Jc];refine kP (i:=2) (d:=some 64) hS ?_;simp only[dj,Ja,Jb,Jc];refine kP (i:=3) (d:=some 65) hS ?_;simp only[dj,Ja,Jb,Jc];refine kP (i:=4) (d:=some 66) hS ?_;simp only[dj,Ja,Jb,Jc];refine kP (i:=5) (d:=some 67) hS ?_;simp only[dj,Ja,Jb,Jc];refine kP (i:=7) (d:=some 69) hS ?_;simp only[dj,Ja,Jb,Jc];refine kP (i:=9) (d:=some 71) hS ?_;simp only[dj,Ja,Jb,Jc];refine Kbm (i:=6) (d:=some 68) rfl rfl (by kernel_rfl) (by kernel_rfl) (by kernel_rfl) (by kernel_rfl) rfl (fun _ _ _ h=>h) (.inl ⟨by rfl,fun w hw=>by (obtain ⟨a0,a1,a2,a3⟩:=hw;go_simp;try rfl)⟩) hS ?_;simp only[dj,Ja,Jb,Jc];refine Kah (i:=8) (by kernel_rfl) rfl rfl ?_;refine dq (d:=some 70) (w':=wd) (v:=.slice (some ⟨bx,ox,none⟩) sn sc) rfl (by (obtain ⟨a0,a1,a2,a3⟩:=hS;go_simp;try rfl)) ?_;refine ⟨fun _=>hS,?_⟩;simp only[dj,Ja,Jb,Jc];refine kP (i:=10) (d:=some 72) hS ?_;simp only[dj,Ja,Jb,Jc];refine Kah (i:=11) (by kernel_rfl) rfl rfl ?_;refine dq (d:=some 73) (w':=wd) (v:=.agg #[.int .i64 y.t,.int .u64 (y.v:Int)]) rfl (by (obtain ⟨a0,a1,a2,a3⟩:=hS;go_simp;try rfl)) ?_;refine ⟨fun _=>hS,?_⟩;simp only[dj,Ja,Jb,Jc];refine Kah (i:=12) (by kernel_rfl) rfl rfl ?_;refine ds (d:=some 74) (w1:=wd) (g:=102) (args:=#[.slice ak ai an,.agg #[.int .i64 y.t,.int .u64 (y.v:Int)]]) rfl (by go_simp;try rfl) (N:=fun u w'=>∃(A':Option Addr) (n' c':Nat),u = .slice A' n' c'/\w'.ownsRow w0.heap.size 133 2 (.slice A' n' c') n' ((insO dv y ac).flatMap Kac)/\(insO dv y ac).length=n'/\wd.grownBy w' (dk ak ai an).ownBlock/\((dk A' n' c').ownBlock=(dk ak ai an).ownBlock\/∃b,(dk A' n' c').ownBlock=some b/\wd.heap.size<=b)) (af.mono fun e w' ⟨A',n',c',e1,e2⟩=>⟨_,e1,A',n',c',rfl,e2⟩) ?_;rintro _ w5 ⟨A5,n5,c5,rfl,aU,bf,ay,bh⟩;refine ⟨fun h=>jl h (by decide),?_⟩;simp only[dj,Ja,Jb,Jc]
         have bw:Hid (DSt w0 (w5.setCell ⟨gB,a*3+1,none⟩ (.slice A5 n5 c5)) (.slice (some ⟨gB,0,none⟩) n1 c1) (hj.set a ⟨⟨bO,bE,bn⟩,⟨A5,n5,c5⟩,⟨aj,am,ao⟩⟩) (gs1.set a ⟨g1.labels,(s.samples.take (j+1)).foldl (fun a x=>insO dv x a) g1.samples,g1.windows⟩)):=by
          have h1:=ae.out.setS bv.out bQ.out ay aU bf bh;rw[di] at h1;show DSt _ _ _ _ _
          rw[bq.out];exact h1
         have ah:Blk w5 gB 132 ct:=br.out.grown ay aJ.out.1;have bV:Hid (Blk (w5.setCell ⟨gB,a*3+1,none⟩ (.slice A5 n5 c5)) q 132 #[.slice lA ln lc,.slice (some ⟨bx,ox,none⟩) sn sc,.slice wA wn wc]):=(ar.out.grown ay aJ.out.2).far (fun e=>aQ.out e.symm) _;have aG:=ah.frozen (a*3+1);have aH:=ah.lt;have bT:w5.cell? ⟨gB,a*3+1,none⟩=some (.slice ak ai an):=(dp (w:=wd) (ay.block gB aA aJ.out.1)).trans hS.1;clear aU bf ay bh ah;refine Kcu (i:=13) (d:=some 75) rfl rfl (by kernel_rfl) (by kernel_rfl) (by kernel_rfl) rfl (fun _ _ _ h=>h) (by rfl) (fun w=>by go_simp;try rfl) (fun h=>jl h (by decide)) ?_;simp only[dj,Ja,Jb,Jc];refine Kcu (i:=14) (d:=some 76) rfl rfl (by kernel_rfl) (by kernel_rfl) (by kernel_rfl) rfl (fun _ _ _ h=>h) (by rfl) (fun w=>by go_simp;try rfl) (fun h=>jl h (by decide)) ?_;simp only[dj,Ja,Jb,Jc];refine Kah (i:=15) (by kernel_rfl) rfl rfl ?_;refine dr (w':=w5.setCell ⟨gB,a*3+1,none⟩ (.slice A5 n5 c5)) rfl (by go_simp;try rfl) ?_;refine ⟨fun h=>jl h (by decide),?_⟩;refine Kcb (by kernel_rfl) ?_ _;clear hS bT aG aH af;go_wp2_with fail
         go_roundg (sn - (j+1))
         case measure=>omega
         case rel=>exact ⟨j+1,_,by first | rfl | go_num,by omega,bw,bV⟩
        .have aq:¬(j:Int) < (sn:Int):=by omega
         have ag:s.samples.take j=s.samples:=cH (by rw[aK.out.len];exact hge2);rw[ag] at HD;clear ag;have b1:Hid (DSt w0 wr (.slice (some ⟨gB,0,none⟩) n1 c1) hj (gs1.set a ⟨g1.labels,s.samples.foldl (fun a x=>insO dv x a) g1.samples,(s.windows.take 0).foldl (fun a x=>insO dt x a) g1.windows⟩)):=HD.out;clear HD;go_wp2_with fail
         go_loopg [9] wn (fun kx s9 wr=>∃(j:Nat) (hj:List Hd3),s9 = .int .i64 (j:Int)/\j+kx=wn/\Hid (DSt w0 wr (.slice (some ⟨gB,0,none⟩) n1 c1) hj (gs1.set a ⟨g1.labels,s.samples.foldl (fun a x=>insO dv x a) g1.samples,(s.windows.take j).foldl (fun a x=>insO dt x a) g1.windows⟩))/\Hid (Blk wr q 132 #[.slice lA ln lc,.slice sA sn sc,.slice wA wn wc]))
         case atStart=>exact ⟨0,_,by first | rfl | go_num,by omega,b1,HB⟩
         case round=>
          clear b1  HB;obtain ⟨j,hj,rfl,ck,HD,HB⟩:=hrel;have z1:wr.cell? ⟨q,2,none⟩=some (.slice wA wn wc):=HB.out.cell 2;have zl:=HB.out.lt;rcases cT j wn with hlt2 | hge2
          .have aq:(j:Int) < (wn:Int):=by omega
           obtain ⟨y,hy⟩:∃y,s.windows[j]? = some y:=⟨s.windows[j]'(by rw[aM.out.len];omega),cV _⟩;obtain ⟨ac,ad⟩:=i7 ((s.windows.take j).foldl (fun a x=>insO dt x a) g1.windows);have bq:Hid ((s.windows.take (j+1)).foldl (fun a x=>insO dt x a) g1.windows=insO dt y ac):=by show _=_;rw[ad,cO,hy,cU];rfl
           have av:ac.Pairwise fun a b=>dt a < dt b:=by rw[ad];exact Kgb _ _ HF.out.aw
           have cv:ac.length<=137438953472:=by have h1:=Kei dt (s.windows.take j) g1.windows;rw[<-ad,cK,aM.out.len] at h1;have h2:=HF.out.sz;have h3:=bk.out;omega
           rw[<-ad] at HD
           have bI:a < hj.length:=by have h1:=HD.out.o.l;rw[df] at h1;rw[<-h1];exact (cS.1 HF.out.at_).1
           obtain ⟨x,hx⟩:∃x,hj[a]? = some x:=⟨hj[a]'bI,cV _⟩;have aE:(gs1.set a ⟨g1.labels,s.samples.foldl (fun a x=>insO dv x a) g1.samples,ac⟩)[a]? = some ⟨g1.labels,s.samples.foldl (fun a x=>insO dv x a) g1.samples,ac⟩:=c4 (cS.1 HF.out.at_).1;obtain ⟨wd,az⟩:=i7 wr.drew;have ae:Hid (DSt w0 wd (.slice (some ⟨gB,0,none⟩) n1 c1) hj (gs1.set a ⟨g1.labels,s.samples.foldl (fun a x=>insO dv x a) g1.samples,ac⟩)):=by show DSt _ _ _ _ _;rw[az];exact HD.out.below (Below.refl _ _).drew
           have ar:Hid (Blk wd q 132 #[.slice lA ln lc,.slice sA sn sc,.slice wA wn wc]):=by show Blk _ _ _ _;rw[az];exact HB.out
           have aV:=ae.out.o.r a x _ hx aE;obtain ⟨⟨bO,bE,bn⟩,⟨ak,ai,an⟩,⟨aj,am,ao⟩⟩:=x;have ab:wd.ownsRow w0.heap.size 136 6 (.slice aj am ao) ac.length (ac.flatMap Kad):=aV.wd;have aS:=Kfc ab;rw[<-aS] at ab;obtain ⟨ct,aW⟩:=Kax ae.out.o.row (r:=gB) rfl;have ap:Blk wd gB 132 ct:=aW;have aJ:Hid (some gB≠(dk aj am ao).ownBlock/\some q≠(dk aj am ao).ownBlock):=⟨Kan ap ab (by decide),Kan ar.out ab (by decide)⟩;have af:=Kwl ac y av w0.heap.size aj am ao wd ab aS.symm ae.out.o.b.size (by omega)
           have c0:wd.cell? ⟨gB,a*3+2,none⟩=some (.slice aj am ao):=by obtain ⟨b9,o9,bW,cn,bo⟩:=ae.out.elems.2 (by have:=(ae.out.elems).len;omega);injection bW with e9;injection e9 with e1 e2;subst e1 e2;have:=bo a _ hx 2 _ rfl;rw[Nat.zero_add] at this;exact this
           have bc:=(aM.out.below ae.out.o.b);obtain ⟨bx,ox,bY,aX,aT⟩:=bc.2 (by omega);have ax:=aT j y hy;have hS:wd.cell? ⟨gB,a*3+2,none⟩=some (.slice aj am ao)/\wd.cell? ⟨q,2,none⟩=some (.slice wA wn wc)/\wd.cell? ⟨bx,ox+j*6,none⟩=some (.int .i64 y.start)/\wd.cell? ⟨bx,ox+j*6+1,none⟩=some (.int .i64 y.count)/\wd.cell? ⟨bx,ox+j*6+2,none⟩=some (.int .u64 (y.sum:Int))/\wd.cell? ⟨bx,ox+j*6+3,none⟩=some (.int .u64 (y.min:Int))/\wd.cell? ⟨bx,ox+j*6+4,none⟩=some (.int .u64 (y.max:Int))/\wd.cell? ⟨bx,ox+j*6+5,none⟩=some (.int .u64 (y.last:Int)):=⟨c0,ar.out.cell 2,ax 0 _ rfl,ax 1 _ rfl,ax 2 _ rfl,ax 3 _ rfl,ax 4 _ rfl,ax 5 _ rfl⟩;have bC:bx < wd.heap.size:=cQ aX ae.out.o.b.size;have aA:=ap.lt;have cA:=ap.frozen (a*3+2);have cy:=ar.out.lt;have cB:=ar.out.frozen 2;have br:=Jh ap;have bv:=Jh hx;have bQ:=Jh aE;subst bY;have cp:(a:Int) < (n1:Int):=by have h1:=ae.out.elems.len;omega
           clear bc aT ax aX c0 aV aW ap hx aE ad hy av ab bI HD HB;go_upto_region 21 with fail
           refine Kcv (fun w'=>w'.cell? ⟨gB,a*3+2,none⟩=some (.slice aj am ao)/\w'.cell? ⟨q,2,none⟩=some (.slice (some ⟨bx,ox,none⟩) wn wc)/\w'.cell? ⟨bx,ox+j*6,none⟩=some (.int .i64 y.start)/\w'.cell? ⟨bx,ox+j*6+1,none⟩=some (.int .i64 y.count)/\w'.cell? ⟨bx,ox+j*6+2,none⟩=some (.int .u64 (y.sum:Int))/\w'.cell? ⟨bx,ox+j*6+3,none⟩=some (.int .u64 (y.min:Int))/\w'.cell? ⟨bx,ox+j*6+4,none⟩=some (.int .u64 (y.max:Int))/\w'.cell? ⟨bx,ox+j*6+5,none⟩=some (.int .u64 (y.last:Int))) 12 16 (by kernel_rfl) rfl ?_;rw[show cZ 16 false = #[false,false,false,false,false,false,false,false,false,false,false,false,false,false,false,false] from rfl,<-az];clear az z1 zl;refine kP (i:=0) (d:=some 84) hS ?_;simp only[dj,Ja,Jb,Jc];refine kP (i:=1) (d:=some 85) hS ?_;simp only[dj,Ja,Jb,Jc];refine kP (i:=2) (d:=some 86) hS ?_;simp only[dj,Ja,Jb,Jc];refine kP (i:=3) (d:=some 87) hS ?_;simp only[dj,Ja,Jb,Jc];refine kP (i:=4) (d:=some 88) hS ?_;simp only[dj,Ja,Jb,Jc];refine kP (i:=5) (d:=some 89) hS ?_;simp only[dj,Ja,Jb,Jc];refine kP (i:=7) (d:=some 91) hS ?_;simp only[dj,Ja,Jb,Jc];refine kP (i:=9) (d:=some 93) hS ?_;simp only[dj,Ja,Jb,Jc];refine Kbm (i:=6) (d:=some 90) rfl rfl (by kernel_rfl) (by kernel_rfl) (by kernel_rfl) (by kernel_rfl) rfl (fun _ _ _ h=>h) (.inl ⟨by rfl,fun w hw=>by (obtain ⟨a0,a1,a2,a3,a4,a5,a6,a7⟩:=hw;go_simp;try rfl)⟩) hS ?_;simp only[dj,Ja,Jb,Jc];refine Kah (i:=8) (by kernel_rfl) rfl rfl ?_;refine dq (d:=some 92) (w':=wd) (v:=.slice (some ⟨bx,ox,none⟩) wn wc) rfl (by (obtain ⟨a0,a1,a2,a3,a4,a5,a6,a7⟩:=hS;go_simp;try rfl)) ?_;refine ⟨fun _=>hS,?_⟩;simp only[dj,Ja,Jb,Jc];refine kP (i:=10) (d:=some 94) hS ?_;simp only[dj,Ja,Jb,Jc];refine Kah (i:=11) (by kernel_rfl) rfl rfl ?_;refine dq (d:=some 95) (w':=wd) (v:=.agg #[.int .i64 y.start,.int .i64 y.count,.int .u64 (y.sum:Int),.int .u64 (y.min:Int),.int .u64 (y.max:Int),.int .u64 (y.last:Int)]) rfl (by (obtain ⟨a0,a1,a2,a3,a4,a5,a6,a7⟩:=hS;go_simp;try rfl)) ?_;refine ⟨fun _=>hS,?_⟩;simp only[dj,Ja,Jb,Jc];refine Kah (i:=12) (by kernel_rfl) rfl rfl ?_;refine ds (d:=some 96) (w1:=wd) (g:=103) (args:=#[.slice aj am ao,.agg #[.int .i64 y.start,.int .i64 y.count,.int .u64 (y.sum:Int),.int .u64 (y.min:Int),.int .u64 (y.max:Int),.int .u64 (y.last:Int)]]) rfl (by go_simp;try rfl) (N:=fun u w'=>∃(A':Option Addr) (n' c':Nat),u = .slice A' n' c'/\w'.ownsRow w0.heap.size 136 6 (.slice A' n' c') n' ((insO dt y ac).flatMap Kad)/\(insO dt y ac).length=n'/\wd.grownBy w' (dk aj am ao).ownBlock/\((dk A' n' c').ownBlock=(dk aj am ao).ownBlock\/∃b,(dk A' n' c').ownBlock=some b/\wd.heap.size<=b)) (af.mono fun e w' ⟨A',n',c',e1,e2⟩=>⟨_,e1,A',n',c',rfl,e2⟩) ?_;rintro _ w5 ⟨A5,n5,c5,rfl,aU,bf,ay,bh⟩;refine ⟨fun h=>jl h (by decide),?_⟩
           simp only[dj,Ja,Jb,Jc]
           have bw:Hid (DSt w0 (w5.setCell ⟨gB,a*3+2,none⟩ (.slice A5 n5 c5)) (.slice (some ⟨gB,0,none⟩) n1 c1) (hj.set a ⟨⟨bO,bE,bn⟩,⟨ak,ai,an⟩,⟨A5,n5,c5⟩⟩) (gs1.set a ⟨g1.labels,s.samples.foldl (fun a x=>insO dv x a) g1.samples,(s.windows.take (j+1)).foldl (fun a x=>insO dt x a) g1.windows⟩)):=by
            have h1:=ae.out.setW bv.out bQ.out ay aU bf bh;rw[di] at h1;show DSt _ _ _ _ _
            rw[bq.out];exact h1
           have ah:Blk w5 gB 132 ct:=br.out.grown ay aJ.out.1;have bV:Hid (Blk (w5.setCell ⟨gB,a*3+2,none⟩ (.slice A5 n5 c5)) q 132 #[.slice lA ln lc,.slice sA sn sc,.slice (some ⟨bx,ox,none⟩) wn wc]):=(ar.out.grown ay aJ.out.2).far (fun e=>aQ.out e.symm) _;have aG:=ah.frozen (a*3+2);have aH:=ah.lt;have bT:w5.cell? ⟨gB,a*3+2,none⟩=some (.slice aj am ao):=(dp (w:=wd) (ay.block gB aA aJ.out.1)).trans hS.1;clear aU bf ay bh ah;refine Kcu (i:=13) (d:=some 97) rfl rfl (by kernel_rfl) (by kernel_rfl) (by kernel_rfl) rfl (fun _ _ _ h=>h) (by rfl) (fun w=>by go_simp;try rfl) (fun h=>jl h (by decide)) ?_;simp only[dj,Ja,Jb,Jc];refine Kcu (i:=14) (d:=some 98) rfl rfl (by kernel_rfl) (by kernel_rfl) (by kernel_rfl) rfl (fun _ _ _ h=>h) (by rfl) (fun w=>by go_simp;try rfl) (fun h=>jl h (by decide)) ?_;simp only[dj,Ja,Jb,Jc];refine Kah (i:=15) (by kernel_rfl) rfl rfl ?_;refine dr (w':=w5.setCell ⟨gB,a*3+2,none⟩ (.slice A5 n5 c5)) rfl (by go_simp;try rfl) ?_;refine ⟨fun h=>jl h (by decide),?_⟩;refine Kcb (by kernel_rfl) ?_ _;clear hS bT aG aH af;go_wp2_with fail
           go_roundg (wn - (j+1))
           case measure=>omega
           case rel=>exact ⟨j+1,_,by first | rfl | go_num,by omega,bw,bV⟩
          .have aq:¬(j:Int) < (wn:Int):=by omega
           have ag:s.windows.take j=s.windows:=cH (by rw[aM.out.len];exact hge2);rw[ag] at HD;clear ag
           have ba:Hid (DSt w0 wr (.slice (some ⟨gB,0,none⟩) n1 c1) hj (Kaf ((Ls.take i).flatten++L.take (k+1)))):=by
            have h1:=HD.out;rw[HF.out.put] at h1;show DSt _ _ _ _ _
            rw[a8.out,Kkc,jf aY.out];exact h1
           clear HD HB HF;go_wp2_with fail
           go_roundg (m - (k+1))
           case measure=>omega
           case rel=>exact ⟨k+1,hj,by first | rfl | go_num,by omega,ba⟩
     .have co:((sn:Int)+(wn:Int) == 0)=true:=by rw[beq_iff_eq];omega
      have ba:Hid (DSt w0 wb (.slice A3 n3 c3) hk (Kaf ((Ls.take i).flatten++L.take (k+1)))):=by
       show DSt _ _ _ _ _
       rw[a8.out,Kkc,je (by rw[cg.out,ja hz];exact Bool.noConfusion)];exact be.out
      clear be;go_wp2_with fail
      go_roundg (m - (k+1))
      case measure=>omega
      case rel=>exact ⟨k+1,hk,by first | rfl | go_num,by omega,ba⟩
    .have aq:¬(k:Int) < (m:Int):=by omega
     have bA:=HO.out;rw[show (Ls.take i).flatten++L.take k=(Ls.take (i+1)).flatten by rw[bB.out,cH (show L.length<=k by rw[bp.out];exact hge2)]] at bA;have ba:=Jh bA;clear bA;clear HO;go_wp2_with fail
     go_roundg (n - (i+1))
     case measure=>omega
     case rel=>exact ⟨i+1,hk,by first | rfl | go_num,by omega,ba⟩
  .have cw:¬(i:Int) < (n:Int):=by omega
   have bF:=HO.out.o.row;obtain ⟨m,hm⟩:=i7 hs.length;rw[<-hm] at bF;obtain ⟨A7,c7,cr⟩:=Kag bF;subst cr
   have HF:Hid (Sers wr A7 m (Kaf Ls.flatten)/\m<=c7):=by have h1:=HO.out.o;rw[cH (by rw[aB.out.l];exact hge)] at h1;exact h1.sers hm.symm
   have cG:Hid (Below w0.heap.size w0 wr):=HO.out.o.b;clear HO bF hm;go_wp2_with fail
   go_ret
   exact ⟨A7,m,c7,rfl,HF.out.1,HF.out.2,cG.out⟩
end
end
section
open Go.RowKit
open Lib renaming hid -> Jh
attribute [local go_sem ↓] Go.wp_at_zero Go.wp_at_succ
attribute [local go_sem] Later.cell
theorem Kqk (l:List Lb) (A:Option Addr) (n c:Nat) (w:World) (hE:Elems w w.heap.size 2 encLb A n l) (hnm:n*32<=140737488351232) :
  Calls prog 37 #[.slice A n c] w fun e w'=>∃A c,e = .returned (.slice A l.length c)/\w'.ownsRow w.heap.size 180 2 (.slice A l.length c) l.length (l.flatMap encLb)/\Below w.heap.size w w':=by
 obtain ⟨i0,aq,ar,ap,ax⟩:=info_parts Kro;have hl:=hE.len;have HL:=Jh hl;clear hl;go_enter func37,ntmps37
 go_wp2_with fail
 go_loopg [3,8] n (fun g s3 s8 wr=>∃(i:Nat) (v3:Value),v3=s3/\i+g=n/\s8 = .int .i64 (i:Int)/\RLabs w.heap.size wr v3 (l.take i)/\Below w.heap.size w wr)
 case atStart=>exact ⟨0,_,rfl,by omega,rfl,dm _ _ _ _,Below.refl _ _⟩
 case round=>
  obtain ⟨i,v3,rfl,ak,rfl,aa,hB⟩:=hrel;have aj:=Jh ak;clear ak
  by_cases hi:i < n
  .have ai:i < l.length:=by have:=HL.out;omega
   have el:decide ((i:Int) < (n:Int))=true:=by simp;omega
   have aw:decide (i < n)=true:=by simp;omega
   obtain ⟨b,off,rfl,_,_⟩:=hE.2 (by omega);obtain ⟨hbl,c0,c1⟩:=Kbi hE (by omega) hB i ai;obtain ⟨x,hx⟩:∃x,l[i]! = x:=⟨_,rfl⟩;rw[hx] at c0 c1;obtain ⟨N,hN⟩:∃N:ByteArray,(⟨x.n.toArray⟩:ByteArray)=N:=⟨_,rfl⟩;obtain ⟨V,hV⟩:∃N:ByteArray,(⟨x.v.toArray⟩:ByteArray)=N:=⟨_,rfl⟩;rw[hN] at c0;rw[hV] at c1;have ao:b < wr.heap.size:=by have:=hB.size;omega
   have ad:l.take (i+1)=l.take i ++ [x]:=by rw[cM ai,<-hx,i9 l i ai]
   have ag:(l.take i).length=i:=by rw[cK];omega
   obtain ⟨ys,am⟩:=iZ (l.take i);rw[am] at ag aa ad;have ac:wr.ownsRow w.heap.size 180 2 v3 i (ys.flatMap encLb):=by have:=aa;unfold RLabs at this;rw[ag] at this;exact this
   have av:=Jh ad;have an:=Jh ag;have HN:=Jh hN;have HV:=Jh hV;clear hx hN hV ad ag am aa;go_upto_region 5 with fail
   have af:Below w.heap.size w (wr.alloc (.cells #[.string N,.string V] 99)):=hB.alloc hB.size _;have hq:Blk (wr.alloc (.cells #[.string N,.string V] 99)) wr.heap.size 99 #[.string N,.string V]:=dw _ _ _;have ab:=ac.alloc (.cells #[.string N,.string V] 99);obtain ⟨w1,al⟩:=iZ (wr.alloc (.cells #[.string N,.string V] 99));obtain ⟨p,hp⟩:=iZ wr.heap.size;rw[al] at af hq ab |-;rw[hp] at hq |-;clear al hp c0 c1 hB ac ao;have q0:_=some (dl N):=hq.cell 0;have q1:_=some (dl V):=hq.cell 1;go_wp2_with (at_builtin;refine dy _ rfl _ _ 89 rfl w.heap.size 180 i0 (.agg #[.string ⟨#[]⟩,.string ⟨#[]⟩]) 2 32 underlying89 aq ar ap ax rfl (by decide) _ _ _ rfl (ab.alloc _) ⟨w1.heap.size,0,none⟩ 1 1 [.string N,.string V] rfl rfl ?p1 ?p2 ?p3 ?p4 ?p5 ?_)
   case p1=>exact Kao (l:=[.string N,.string V]) (dw w1 _ _)
   case p2=>intro u hu;simp at hu;rcases hu with rfl | rfl <;> rfl
   case p3=>unfold maxLen;omega
   case p4=>omega
   case p5=>have:=af.size;simp;omega
   intro v' w2 hown' hgrow hx9 hat;have ay:Below w.heap.size w w2:=Kig af af.size ab hgrow
   have ae:RLabs w.heap.size w2 v' (l.take (i+1)):=by
    have e1:(ys ++ [x]).flatMap encLb=ys.flatMap encLb ++ [.string N,.string V]:=by rw[cN];simp[encLb,HN.out,HV.out]
    unfold RLabs;rw[av.out,e1,cI,an.out];exact hown'
   clear hown' hgrow hx9 hat ab q0 q1 hq;go_wp2_with fail
   go_roundg (gk - 1)
   case measure=>have:=aj.out;omega
   case rel=>exact ⟨i+1,_,rfl,by have:=aj.out;omega,by go_num,ae,ay⟩
  .have el:decide ((i:Int) < (n:Int))=false:=by simp;omega
   have aw:decide (i < n)=false:=by simp;omega
   have ad:l.take i=l:=cH (by have:=HL.out;omega);rw[ad] at aa;unfold RLabs at aa;obtain ⟨A',c',rfl⟩:=Kag aa;have ah:=Jh aa;clear ad aa;go_wp2_with fail
   go_ret
   exact ⟨A',c',rfl,ah.out,hB⟩
theorem Kgm (L:List Ser) (A:Option Addr) (n c:Nat) (w:World) (hS:Sers w A n L) (hn:n<=1073741824) (hz:∀s∈L,s.samples.length<=1099511627776/\s.windows.length<=1099511627776/\s.labels.length<=1099511627776) :
  Calls prog 22 #[.slice A n c] w fun e w'=>∃(A':Option Addr) (c':Nat) (hs:List Hd3),e = .returned (.slice A' n c')/\hs.length=n/\w'.ownsRow w.heap.size 132 3 (.slice A' n c') n (hs.flatMap encH3)/\(∀(i:Nat) (h:Hd3),hs[i]? = some h->RSer w.heap.size w' h L[i]!)/\Below w.heap.size w w':=by
 obtain ⟨ib,ch,cn,b8,b3⟩:=info_parts Khy;obtain ⟨is,b5,b0,b1,bZ⟩:=info_parts Khz;obtain ⟨iw,cf,cd,bf,b2⟩:=info_parts Kia;have a4:=hS.len;have HS:=Jh hS;have HZ:=Jh hz;have bE:=Jh a4;obtain ⟨q0,bN⟩:=iZ w.heap.size;have bg:=Jh bN;rw[bN];clear hS hz a4 bN;go_enter func22,ntmps22
 go_wp2_with fail
 go_loopg [3,13] n (fun g s3 s13 wr=>∃(i:Nat) (hs:List Hd3) (v3:Value),v3=s3/\i+g=n/\s13 = .int .i64 (i:Int)/\hs.length=i/\wr.ownsRow q0 132 3 v3 i (hs.flatMap encH3)/\(∀(j:Nat) (h:Hd3),hs[j]? = some h->RSer q0 wr h L[j]!)/\Below q0 w wr)
 case atStart=>exact ⟨0,[],_,rfl,by omega,rfl,rfl,dm _ _ _ _,fun j h hj=>by simp at hj,Below.refl _ _⟩
 case round=>
  obtain ⟨i,hs,v3,rfl,bT,rfl,bR,aU,aP,hB⟩:=hrel;have bw:=Jh bT;have bh:=Jh bR;have aH:=Jh aU;have aY:=Jh aP;have HB:=Jh hB;clear bT bR aU aP hB
  by_cases hi:i < n
  .have el:decide (i < n)=true:=by rw[i8];omega
   obtain ⟨wo,rfl⟩:=i7 wr;have bS:Below w.heap.size w wo:=by rw[bg.out];exact HB.out
   obtain ⟨b,off,x,rfl,hbl,c0,c1,c2,bF⟩:=(HS.out.below bS).at_ hi;obtain ⟨⟨LA,ln,lc⟩,⟨SA,sn,sc⟩,⟨WA,wn,a2⟩⟩:=x;have bP:i < L.length:=by have:=bE.out;omega
   have bH:=HZ.out L[i]! (by rw[i9 _ i bP];exact de bP);obtain ⟨sr,bG⟩:∃sr,L[i]! = sr:=⟨_,rfl⟩;rw[bG] at bF bH;have ci:=Jh bG;have ca:=Jh bF;have bz:=Jh bH;clear bG bF bH bS;go_upto_region 5 with fail
   have aN:Below wo.heap.size wo (wo.alloc (.cells #[.slice LA ln lc,.slice SA sn sc,.slice WA wn a2] 58)):=(Below.refl _ _).alloc (cJ _) _;have aM:Blk (wo.alloc (.cells #[.slice LA ln lc,.slice SA sn sc,.slice WA wn a2] 58)) wo.heap.size 58 #[.slice LA ln lc,.slice SA sn sc,.slice WA wn a2]:=dw _ _ _;obtain ⟨w1,bf⟩:=iZ (wo.alloc (.cells #[.slice LA ln lc,.slice SA sn sc,.slice WA wn a2] 58));obtain ⟨p5,ba⟩:=iZ wo.heap.size;rw[bf] at aN aM |-;have ah:=ca.out.below aN;have aC:=Kbc aH.out aN;have aA:∀(j:Nat) (h:Hd3),hs[j]? = some h->RSer q0 w1 h L[j]!:=fun j h hj=>(aY.out j h hj).below aN
   have bs:Below q0 w w1:=HB.out.trans (aN.mono (by have:=HB.out.size;have:=bg.out;omega));rw[ba] at aM |-;obtain ⟨q,hq⟩:=iZ w1.heap.size;have aZ:p5 < q:=by rw[<-hq];exact aM.lt
   have aT:q0<=q:=by have:=bs.size;have:=bg.out;omega
   have k0:w1.cell? ⟨p5,0,none⟩=some (.slice LA ln lc):=aM.cell 0;have bW:=Jh aM;have aS:=Jh aC;have aW:=Jh aA;have b9:=Jh bs;have az:=Jh hq;have aL:=Kqk sr.labels LA ln lc w1 ah.l (by have h1:sr.labels.length=ln:=ah.l.len;have:=bz.out;omega);have bl:sr.labels.length=ln:=ah.l.len;rw[bl,hq] at aL;have bi:=Jh aL;have bc:=Jh ah.s;have bd:=Jh ah.w;have bO:=Jh bl;have b7:sn<=1099511627776:=by have h1:sr.samples.length=sn:=ah.s.len;have:=bz.out;omega
   have bX:wn<=1099511627776:=by have h1:sr.windows.length=wn:=ah.w.len;have:=bz.out;omega
   clear bf ba aN aM ah aC aA bs c0 c1 c2 hq aL bl;go_wp2_with fail
   refine bi.out.mono ?_;rintro _ w2 ⟨A0,ai,rfl,bU,bV⟩;have ck:=Jh bU;have bb:=Jh bV;clear bU bV k0;go_upto_region 6 with fail
   have bt:q<=w2.heap.size:=by have:=bb.out.size;have:=az.out;omega
   have ax:SrfAt q w1 w2.heap.size ⟨A0,ln,ai⟩ sr.labels (.slice none 0 0) (.slice none 0 0) [] [] (w2.alloc (.cells #[.slice A0 ln ai,.slice none 0 0,.slice none 0 0] 132)):=
    ⟨dw _ _ _,by have h1:=ck.out;rw[<-bO.out] at h1;rw[<-bO.out];exact h1.alloc _,dm _ _ _ _,dm _ _ _ _,by exact bb.out.alloc bt _,bt⟩
   obtain ⟨w3,br⟩:=iZ (w2.alloc (.cells #[.slice A0 ln ai,.slice none 0 0,.slice none 0 0] 132));obtain ⟨p,hp⟩:=iZ w2.heap.size;rw[br,hp] at ax;rw[br,hp];have bI:=Jh ax;have bn:=bW.out.below ax.be aZ;have k1:w3.cell? ⟨p5,1,none⟩=some (.slice SA sn sc):=bn.cell 1;have bp:=bn.lt;clear br hp ax bn bt;go_upto_block 2 with fail
   go_cut [] (fun wz=>∃vs:Value,SrfAt q w1 p ⟨A0,ln,ai⟩ sr.labels vs (.slice none 0 0) sr.samples [] wz)
   case first=>
    go_wp2_with fail
    go_loopg [24] sn (fun g s24 wr=>∃(k:Nat) (vs:Value),k+g=sn/\s24 = .int .i64 (k:Int)/\SrfAt q w1 p ⟨A0,ln,ai⟩ sr.labels vs (.slice none 0 0) (sr.samples.take k) [] wr)
    case atStart=>exact ⟨0,_,by omega,rfl,bI.out⟩
    case round=>
     obtain ⟨k,vs,a7,rfl,ab⟩:=hrel;have aV:=Jh a7;have aD:=Jh ab;clear a7 ab
     by_cases hk:k < sn
     .have el:decide (k < sn)=true:=by rw[i8];omega
      obtain ⟨wk,rfl⟩:=i7 wr;have ab:=aD.out;have aq:(sr.samples.take k).length=k:=by have h1:=bc.out.len;rw[cK];omega
      obtain ⟨VA,vc,aF⟩:=Kag ab.s;rw[aq] at aF;subst aF;have aI:Below w1.heap.size w1 wk:=by rw[az.out];exact ab.be
      obtain ⟨bx,ox,bM,cb,al⟩:=(bc.out.below aI).get hk;subst bM;have aX:k < sr.samples.length:=by have:=bc.out.len;omega
      obtain ⟨x,hx⟩:∃x,sr.samples[k]! = x:=⟨_,rfl⟩;rw[hx] at al;have e0:wk.cell? ⟨bx,ox+k*2,none⟩=some (.int .i64 x.t):=al 0 _ rfl;have e1:wk.cell? ⟨bx,ox+k*2+1,none⟩=some (.int .u64 (x.v:Int)):=al 1 _ rfl;have bB:bx < wk.heap.size:=by have:=aI.size;omega
      have ap:sr.samples.take (k+1)=sr.samples.take k ++ [x]:=by rw[cM aX,<-hx,i9 _ k aX]
      have a6:(sr.samples.take k).length=k:=by rw[cK];omega
      have bL:=Jh ap;have a0:=Jh a6;clear ap a6 hx al ab aq;go_upto_region 9 with fail
      have ab:=aD.out;have aj:Below wk.heap.size wk (wk.alloc (.cells #[.int .i64 x.t,.int .u64 (x.v:Int)] 102)):=(Below.refl _ _).alloc (cJ _) _;have ak:Blk (wk.alloc (.cells #[.int .i64 x.t,.int .u64 (x.v:Int)] 102)) wk.heap.size 102 #[.int .i64 x.t,.int .u64 (x.v:Int)]:=dw _ _ _;obtain ⟨w4,aw⟩:=iZ (wk.alloc (.cells #[.int .i64 x.t,.int .u64 (x.v:Int)] 102));obtain ⟨p8,av⟩:=iZ wk.heap.size;rw[aw] at aj ak |-;have ac:=Kbc ab.s aj;have an:=Kbc ab.l aj;have am:=Kbc ab.w aj;have ae:=ab.b.below aj ab.b.lt;have aE:Below q w1 w4:=ab.be.trans (aj.mono (by have:=ab.be.size;have:=az.out;omega));rw[av] at ak |-;have u0:w4.cell? ⟨p8,0,none⟩=some _:=ak.cell 0;have u1:w4.cell? ⟨p8,1,none⟩=some _:=ak.cell 1;have d1:w4.cell? ⟨p,1,none⟩=some _:=ae.cell 1;have bv:=ae.lt;have b6:q<=w4.heap.size:=by have:=aE.size;have:=az.out;omega
      rw[a0.out] at ac;have aJ:=Jh ab;have ar:=Jh ac;have bk:=Jh an;have bD:=Jh am;have ao:=Jh ae;have bJ:=Jh aE;clear aw av ab an am ae aE aj ak aI;go_wp2_with (at_builtin;refine dy _ rfl _ _ 129 rfl q 133 is (.agg #[.int .i64 0,.int .u64 0]) 2 16 underlying129 b5 b0 b1 bZ rfl (by decide) _ _ _ rfl (ac.alloc _) ⟨w4.heap.size,0,none⟩ 1 1 [.int .i64 x.t,.int .u64 (x.v:Int)] rfl rfl (Kao (l:=[.int .i64 x.t,.int .u64 (x.v:Int)]) (dw w4 _ _)) ?p2 ?p3 ?p4 ?p5 ?_)
      case p2=>first | exact ⟨rfl,rfl⟩ | (intro u hu;simp at hu;rcases hu with rfl | rfl <;> rfl)
      case p3=>unfold maxLen;omega
      case p4=>omega
      case p5=>first | omega | (simp;omega)
      intro v' w5 hown' hgrow0 _ _;have aa:w4.grownBy w5 (dk VA k vc).ownBlock:=(dn w4 _ _).trans hgrow0;have ac:=ar.out;have an:=bk.out;have am:=bD.out;have ab:=aJ.out;have aO:=an.kept aa (Kav an ac (by decide));have a5:=am.kept aa (Kav am ac (by decide));have ag:=ao.out.grown aa (Kan ao.out ac (by decide));have a8:Below q w1 w5:=bJ.out.trans ⟨aa.os,aa.tape,aa.output,aa.size,fun j hj=>aa.block j (by omega) (fun e=>by have:=(ac.lt j e.symm).1;omega)⟩;have f1:=ag.frozen 1;have a1:=ag.lt;have d1:w5.cell? ⟨p,1,none⟩=some _:=ag.cell 1
      have af:SrfAt q w1 p ⟨A0,ln,ai⟩ sr.labels v' (.slice none 0 0) (sr.samples.take (k+1)) [] (w5.setCell ⟨p,1,none⟩ v'):=by refine ⟨by exact ag.set_ 1 _,Kbt aO ag (by decide),?_,Kbt a5 ag (by decide),a8.setCell (p:=⟨p,1,none⟩) ab.qp _,ab.qp⟩;refine Kbt ?_ ag (by decide);rw[bL.out,cI,a0.out,cN];exact hown'
      have aG:=Jh af;obtain ⟨cc,cj,rfl⟩:=Kag hown';clear af hown' hgrow0 aa ac an am ab aO a5 ag a8;go_wp2_with fail
      go_roundg (gk - 1)
      case measure=>have:=aV.out;omega
      case rel=>exact ⟨k+1,_,by have:=aV.out;omega,by go_num,aG.out⟩
     .have el:decide (k < sn)=false:=by rw[jb];omega
      have ap:sr.samples.take k=sr.samples:=cH (by have:=bc.out.len;omega);have ab:=aD.out;rw[ap] at ab;have aK:=Jh ab;clear ab ap;go_wp2_with fail
      go_meet
      exact ⟨_,aK.out⟩
   obtain ⟨vs,ab⟩:=hcut;obtain ⟨ws,rfl⟩:=i7 wc;obtain ⟨VS,VC,aF⟩:=Kag ab.s;subst aF;have bq:=Jh ab;have bj:=bW.out.below ab.be aZ;have k2:ws.cell? ⟨p5,2,none⟩=some (.slice WA wn a2):=bj.cell 2;have bK:=bj.lt;clear bj ab k1 bp;go_upto_block 4 with fail
   go_cut [] (fun wz=>∃vs:Value,SrfAt q w1 p ⟨A0,ln,ai⟩ sr.labels (.slice VS sr.samples.length VC) vs sr.samples sr.windows wz)
   case first=>
    go_wp2_with fail
    go_loopg [42] wn (fun g s42 wr=>∃(k:Nat) (vs:Value),k+g=wn/\s42 = .int .i64 (k:Int)/\SrfAt q w1 p ⟨A0,ln,ai⟩ sr.labels (.slice VS sr.samples.length VC) vs sr.samples (sr.windows.take k) wr)
    case atStart=>exact ⟨0,_,by omega,rfl,bq.out⟩
    case round=>
     obtain ⟨k,vs,a7,rfl,ab⟩:=hrel;have aV:=Jh a7;have aD:=Jh ab;clear a7 ab
     by_cases hk:k < wn
     .have el:decide (k < wn)=true:=by rw[i8];omega
      obtain ⟨wk,rfl⟩:=i7 wr;have ab:=aD.out;have aq:(sr.windows.take k).length=k:=by have h1:=bd.out.len;rw[cK];omega
      obtain ⟨VA,vc,aF⟩:=Kag ab.w;rw[aq] at aF;subst aF;have aI:Below w1.heap.size w1 wk:=by rw[az.out];exact ab.be
      obtain ⟨bx,ox,bM,cb,al⟩:=(bd.out.below aI).get hk;subst bM;have aX:k < sr.windows.length:=by have:=bd.out.len;omega
      obtain ⟨x,hx⟩:∃x,sr.windows[k]! = x:=⟨_,rfl⟩;rw[hx] at al;have e0:wk.cell? ⟨bx,ox+k*6,none⟩=some (.int .i64 x.start):=al 0 _ rfl;have e1:wk.cell? ⟨bx,ox+k*6+1,none⟩=some (.int .i64 x.count):=al 1 _ rfl;have e2:wk.cell? ⟨bx,ox+k*6+2,none⟩=some (.int .u64 (x.sum:Int)):=al 2 _ rfl;have e3:wk.cell? ⟨bx,ox+k*6+3,none⟩=some (.int .u64 (x.min:Int)):=al 3 _ rfl;have e4:wk.cell? ⟨bx,ox+k*6+4,none⟩=some (.int .u64 (x.max:Int)):=al 4 _ rfl;have e5:wk.cell? ⟨bx,ox+k*6+5,none⟩=some (.int .u64 (x.last:Int)):=al 5 _ rfl;have bB:bx < wk.heap.size:=by have:=aI.size;omega
      have ap:sr.windows.take (k+1)=sr.windows.take k ++ [x]:=by rw[cM aX,<-hx,i9 _ k aX]
      have a6:(sr.windows.take k).length=k:=by rw[cK];omega
      have bL:=Jh ap;have a0:=Jh a6;clear ap a6 hx al ab aq;go_upto_region 14 with fail
      have ab:=aD.out;have aj:Below wk.heap.size wk (wk.alloc (.cells #[.int .i64 x.start,.int .i64 x.count,.int .u64 (x.sum:Int),.int .u64 (x.min:Int),.int .u64 (x.max:Int),.int .u64 (x.last:Int)] 135)):=(Below.refl _ _).alloc (cJ _) _;have ak:Blk (wk.alloc (.cells #[.int .i64 x.start,.int .i64 x.count,.int .u64 (x.sum:Int),.int .u64 (x.min:Int),.int .u64 (x.max:Int),.int .u64 (x.last:Int)] 135)) wk.heap.size 135 #[.int .i64 x.start,.int .i64 x.count,.int .u64 (x.sum:Int),.int .u64 (x.min:Int),.int .u64 (x.max:Int),.int .u64 (x.last:Int)]:=dw _ _ _;obtain ⟨w4,aw⟩:=iZ (wk.alloc (.cells #[.int .i64 x.start,.int .i64 x.count,.int .u64 (x.sum:Int),.int .u64 (x.min:Int),.int .u64 (x.max:Int),.int .u64 (x.last:Int)] 135));obtain ⟨p8,av⟩:=iZ wk.heap.size;rw[aw] at aj ak |-;have ac:=Kbc ab.w aj;have an:=Kbc ab.l aj;have am:=Kbc ab.s aj;have ae:=ab.b.below aj ab.b.lt;have aE:Below q w1 w4:=ab.be.trans (aj.mono (by have:=ab.be.size;have:=az.out;omega));rw[av] at ak |-;have u0:w4.cell? ⟨p8,0,none⟩=some _:=ak.cell 0;have u1:w4.cell? ⟨p8,1,none⟩=some _:=ak.cell 1;have u2:w4.cell? ⟨p8,2,none⟩=some _:=ak.cell 2;have u3:w4.cell? ⟨p8,3,none⟩=some _:=ak.cell 3;have u4:w4.cell? ⟨p8,4,none⟩=some _:=ak.cell 4;have u5:w4.cell? ⟨p8,5,none⟩=some _:=ak.cell 5;have d2:w4.cell? ⟨p,2,none⟩=some _:=ae.cell 2;have bv:=ae.lt;have b6:q<=w4.heap.size:=by have:=aE.size;have:=az.out;omega
      rw[a0.out] at ac;have aJ:=Jh ab;have ar:=Jh ac;have bk:=Jh an;have bD:=Jh am;have ao:=Jh ae;have bJ:=Jh aE;clear aw av ab an am ae aE aj ak aI;go_wp2_with (at_builtin;refine dy _ rfl _ _ 130 rfl q 136 iw (.agg #[.int .i64 0,.int .i64 0,.int .u64 0,.int .u64 0,.int .u64 0,.int .u64 0]) 6 48 underlying130 cf cd bf b2 rfl (by decide) _ _ _ rfl (ac.alloc _) ⟨w4.heap.size,0,none⟩ 1 1 [.int .i64 x.start,.int .i64 x.count,.int .u64 (x.sum:Int),.int .u64 (x.min:Int),.int .u64 (x.max:Int),.int .u64 (x.last:Int)] rfl rfl (Kao (l:=[.int .i64 x.start,.int .i64 x.count,.int .u64 (x.sum:Int),.int .u64 (x.min:Int),.int .u64 (x.max:Int),.int .u64 (x.last:Int)]) (dw w4 _ _)) ?p2 ?p3 ?p4 ?p5 ?_)
      case p2=>first | exact ⟨rfl,rfl,rfl,rfl,rfl,rfl⟩ | (intro u hu;simp at hu;rcases hu with rfl | rfl | rfl | rfl | rfl | rfl <;> rfl)
      case p3=>unfold maxLen;omega
      case p4=>omega
      case p5=>first | omega | (simp;omega)
      intro v' w5 hown' hgrow0 _ _;have aa:w4.grownBy w5 (dk VA k vc).ownBlock:=(dn w4 _ _).trans hgrow0;have ac:=ar.out;have an:=bk.out;have am:=bD.out;have ab:=aJ.out;have aO:=an.kept aa (Kav an ac (by decide));have a5:=am.kept aa (Kav am ac (by decide));have ag:=ao.out.grown aa (Kan ao.out ac (by decide));have a8:Below q w1 w5:=bJ.out.trans ⟨aa.os,aa.tape,aa.output,aa.size,fun j hj=>aa.block j (by omega) (fun e=>by have:=(ac.lt j e.symm).1;omega)⟩;have f2:=ag.frozen 2;have a1:=ag.lt;have d2:w5.cell? ⟨p,2,none⟩=some _:=ag.cell 2
      have af:SrfAt q w1 p ⟨A0,ln,ai⟩ sr.labels (.slice VS sr.samples.length VC) v' sr.samples (sr.windows.take (k+1)) (w5.setCell ⟨p,2,none⟩ v'):=by refine ⟨by exact ag.set_ 2 _,Kbt aO ag (by decide),Kbt a5 ag (by decide),?_,a8.setCell (p:=⟨p,2,none⟩) ab.qp _,ab.qp⟩;refine Kbt ?_ ag (by decide);rw[bL.out,cI,a0.out,cN];exact hown'
      have aG:=Jh af;obtain ⟨cc,cj,rfl⟩:=Kag hown';clear af hown' hgrow0 aa ac an am ab aO a5 ag a8;go_wp2_with fail
      go_roundg (gk - 1)
      case measure=>have:=aV.out;omega
      case rel=>exact ⟨k+1,_,by have:=aV.out;omega,by go_num,aG.out⟩
     .have el:decide (k < wn)=false:=by rw[jb];omega
      have ap:sr.windows.take k=sr.windows:=cH (by have:=bd.out.len;omega);have ab:=aD.out;rw[ap] at ab;have aK:=Jh ab;clear ab ap;go_wp2_with fail
      go_meet
      exact ⟨_,aK.out⟩
   obtain ⟨vs,ab⟩:=hcut;obtain ⟨ww,rfl⟩:=i7 wc;obtain ⟨VW,WC,cl⟩:=Kag ab.w;subst cl;have cm:=az.out;have bo:Below w1.heap.size w1 ww:=by rw[cm];exact ab.be
   have ad:=Kbc aS.out bo;have ay:∀(j:Nat) (h:Hd3),hs[j]? = some h->RSer q0 ww h L[j]!:=fun j h hj=>(aW.out j h hj).below bo
   have bm:Below q0 w ww:=b9.out.trans (ab.be.mono aT);have e0:ww.cell? ⟨p,0,none⟩=some (.slice A0 ln ai):=ab.b.cell 0;have e1:ww.cell? ⟨p,1,none⟩=some (.slice VS sr.samples.length VC):=ab.b.cell 1;have e2:ww.cell? ⟨p,2,none⟩=some (.slice VW sr.windows.length WC):=ab.b.cell 2;have hpl:=ab.b.lt;have bY:q0<=ww.heap.size:=by have:=bm.size;have:=bg.out;omega
   have bC:=Jh ab;have a3:=Jh ad;have aR:=Jh ay;have bb:=Jh bm;clear ab bo ay bm k2 bK;go_wp2_with (at_builtin;go_loud (refine dy _ rfl _ _ 32 rfl q0 132 ib (.agg #[.slice none 0 0,.slice none 0 0,.slice none 0 0]) 3 72 underlying32 ch cn b8 b3 rfl (by decide) _ _ _ rfl (ad.alloc _) ⟨ww.heap.size,0,none⟩ 1 1 [.slice A0 ln ai,.slice VS sr.samples.length VC,.slice VW sr.windows.length WC] rfl rfl (Kao (l:=[.slice A0 ln ai,.slice VS sr.samples.length VC,.slice VW sr.windows.length WC]) (dw ww _ _)) ?p2 ?p3 ?p4 ?p5 ?_))
   case p2=>first | exact ⟨rfl,rfl,rfl⟩ | (intro u hu;simp at hu;rcases hu with rfl | rfl | rfl <;> rfl)
   case p3=>unfold maxLen;omega
   case p4=>omega
   case p5=>first | omega | (simp;omega)
   intro v' w6 hown' hgrow0 _ _;have aa:=(dn ww _ _).trans hgrow0;have ad:=a3.out;have ab:=bC.out;have af:RSer q0 w6 ⟨⟨A0,ln,ai⟩,⟨VS,sr.samples.length,VC⟩,⟨VW,sr.windows.length,WC⟩⟩ sr:=RSer.grown (RSer.mono ⟨ab.l,ab.s,ab.w⟩ aT) ad aa
   have a9:∀(j:Nat) (h:Hd3),(hs ++ [⟨⟨A0,ln,ai⟩,⟨VS,sr.samples.length,VC⟩,⟨VW,sr.windows.length,WC⟩⟩])[j]? = some h->RSer q0 w6 h L[j]!:=by
    intro j h hj
    by_cases hjl:j < hs.length
    .rw[cY hjl] at hj;exact RSer.grown (aR.out j h hj) ad aa
    .have ce:j=hs.length:=by
      have:=(cS.1 hj).1;rw[cI,cR] at this;omega
     subst ce;have e:h=⟨⟨A0,ln,ai⟩,⟨VS,sr.samples.length,VC⟩,⟨VW,sr.windows.length,WC⟩⟩:=by simpa using hj.symm
     subst e;rw[bh.out,ci.out];exact af
   have bQ:Below q0 w w6:=bb.out.trans ⟨aa.os,aa.tape,aa.output,aa.size,fun j hj=>aa.block j (by omega) (fun e=>by have:=(ad.lt j e.symm).1;omega)⟩
   have aB:w6.ownsRow q0 132 3 v' (i+1) ((hs ++ [(⟨⟨A0,ln,ai⟩,⟨VS,sr.samples.length,VC⟩,⟨VW,sr.windows.length,WC⟩⟩:Hd3)]).flatMap encH3):=by rw[cN];exact hown'
   have bA:=Jh a9;have b4:=Jh bQ;have aQ:=Jh aB;clear hown' hgrow0 aa ad ab af a9 bQ aB;go_wp2_with fail
   go_roundg (gk - 1)
   case measure=>have:=bw.out;omega
   case rel=>exact ⟨i+1,_,_,rfl,by have:=bw.out;omega,by go_num,by rw[cI,bh.out];rfl,aQ.out,bA.out,b4.out⟩
  .have el:decide (i < n)=false:=by rw[jb];omega
   have cg:i=n:=by have:=bw.out;omega
   subst cg;obtain ⟨A',c',rfl⟩:=Kag aH.out;go_wp2_with fail
   go_ret
   exact ⟨A',c',hs,rfl,bh.out,aH.out,aY.out,HB.out⟩
end
section
open Go.Shelf Go.RowKit Go.Lib Go.Sort
open Lib renaming hid -> Jh
open List renaming setIfInBounds_toArray -> Ja, set_cons_zero -> Jb, set_cons_succ -> Jc, length_append -> Jd
attribute [local go_sem ↓] Go.wp_at_zero Go.wp_at_succ
attribute [local go_sem] Later.cell
section
theorem Kxx:(prog.info? 34).map (fun i=>(i.zero,i.size,i.bytes))=some (some (.agg #[.int .i64 0,.int .i64 0,.int .i64 0,.slice none 0 0]),4,48):=by kernel_rfl
def RCo (w:World) (B:Nat) (h:Hd) (L:List Ser):Prop:=
 ∃hs:List Hd3,hs.length=h.n/\L.length=h.n/\w.ownsRow B 132 3 (.slice h.A h.n h.c) h.n (hs.flatMap encH3)/\∀(i:Nat) (x:Hd3),hs[i]? = some x->RSer B w x L[i]!
theorem RCo.mono {w:World} {B B':Nat} {h:Hd} {L:List Ser} (x:RCo w B h L) (hB:B'<=B):RCo w B' h L:=by obtain ⟨hs,h1,h2,h3,h4⟩:=x;exact ⟨hs,h1,h2,Kce h3 hB,fun i y hy=>(h4 i y hy).mono hB⟩
theorem RCo.sers {w:World} {B:Nat} {h:Hd} {L:List Ser} (x:RCo w B h L):Sers w h.A h.n L/\h.n<=h.c:=by obtain ⟨hs,h1,h2,h3,h4⟩:=x;exact Ksh h1 h2 h3 h4
structure RGath (P:World->CH->Cont->Prop) (w:World) (q:Nat) (v:Value) (xs:List CH) (cs:List Cont):Prop where
 row:w.ownsRow q 34 4 v xs.length (xs.flatMap encCH)
 l:cs.length=xs.length
 k:∀(i:Nat) (x:CH),xs[i]? = some x->P w x cs[i]!
theorem RGath.nil (P:World->CH->Cont->Prop) (w:World) (q:Nat):RGath P w q (.slice none 0 0) [] []:=⟨dm _ _ _ _,rfl,fun i x h=>by simp at h⟩
theorem RGath.below {P:World->CH->Cont->Prop} {w w':World} {q:Nat} {v:Value} {xs:List CH} {cs:List Cont} (h:RGath P w q v xs cs) (hb:Below w.heap.size w w') (hP:∀x c,P w x c->P w' x c):RGath P w' q v xs cs:=
 ⟨Kbb h.row hb,h.l,fun i x hi=>hP _ _ (h.k i x hi)⟩
theorem RGath.more {P:World->CH->Cont->Prop} {w w':World} {q:Nat} {v v':Value} {xs:List CH} {cs:List Cont} (h:RGath P w q v xs cs) (hP:∀x c,P w x c->P w' x c) {x:CH} {c:Cont} (hrow:w'.ownsRow q 34 4 v' (xs.length+1) (xs.flatMap encCH++encCH x)) (hx:P w' x c) :
  RGath P w' q v' (xs ++ [x]) (cs ++ [c]):=by
 refine ⟨by rw[Jd,cN,List.flatMap_singleton];exact hrow,by rw[Jd,Jd,h.l];rfl,fun i y hi=>?_⟩
 by_cases hl:i < xs.length
 .rw[cY hl] at hi
  have e:(cs ++ [c])[i]! = cs[i]!:=by rw[i9 _ _ (by rw[Jd,h.l];omega),i9 cs i (by rw[h.l];exact hl),List.getElem_append_left]
  rw[e];exact hP _ _ (h.k i y hi)
 .have aa:i=xs.length:=by
   have:=(cS.1 hi).1;rw[Jd,cR] at this;omega
  subst aa;rw[List.getElem?_append_right (cJ _),Nat.sub_self] at hi;simp only[List.getElem?_cons_zero,Option.some.injEq] at hi;subst hi
  have e:(cs ++ [c])[xs.length]! = c:=by rw[<-h.l,i9 _ _ (by rw[Jd];simp),List.getElem_append_right (cJ _)];simp
  rw[e];exact hx
theorem RGath.conts {P:World->CH->Cont->Prop} {w:World} {q n c:Nat} {A:Option Addr} {xs:List CH} {cs:List Cont} (h:RGath P w q (.slice A n c) xs cs) (hn:xs.length=n) (hz:n<=1048576) (hcz:∀c∈cs,CSz c)
  (hP:∀x c,P w x c->(c.res=x.r/\c.frm=x.f/\c.to_=x.t)/\Kcg w x.h.A x.h.n c.series/\x.h.n<=x.h.c):Kbz w A n xs cs/\n<=c:=by
 obtain ⟨A1,c1,e1,hE,_,hc⟩:=Elems.of_own (xs:=xs) (enc:=encCH) (fun _ _=>rfl) rfl h.row rfl;injection e1 with e1 e2 e3;subst e1 e3;rw[hn] at hE hc;refine ⟨⟨hE,by rw[h.l,hn],fun i x hi=>?_,hcz,hz⟩,hc⟩;obtain ⟨a1,a2,a3⟩:=hP _ _ (h.k i x hi);exact ⟨a1.1,a1.2.1,a1.2.2,a2,a3⟩
theorem Kup (c:Cont) (hd:Hd) (w:World) (hS:Kcg w hd.A hd.n c.series) :
  Calls prog 18 #[contV c.res c.frm c.to_ hd] w fun e w'=>(∃hd',e = .returned (contV c.res c.frm c.to_ hd')/\RCo w' w.heap.size hd' c.series)/\Below w.heap.size w w':=by
 obtain ⟨r,hr⟩:=iZ c.res;obtain ⟨f,hf⟩:=iZ c.frm;obtain ⟨t,ht⟩:=iZ c.to_;obtain ⟨L,hL⟩:=iZ c.series;obtain ⟨A,n,cc⟩:=hd;rw[hL] at hS;rw[hr,hf,ht,hL];unfold contV;dsimp only at hS |-;have av:=Jh hS;clear hr hf ht hL hS;go_enter func18,ntmps18
 go_upto_region 1 with fail
 have ak:Below w.heap.size w ((w.alloc (.cells #[.int .i64 r,.int .i64 f,.int .i64 t,.slice A n cc] 28)).alloc (.cells #[.int .i64 0,.int .i64 0,.int .i64 0,.slice none 0 0] 34)):=((Below.refl _ _).alloc (cJ _) _).alloc (by simp) _;have ah:Blk ((w.alloc (.cells #[.int .i64 r,.int .i64 f,.int .i64 t,.slice A n cc] 28)).alloc (.cells #[.int .i64 0,.int .i64 0,.int .i64 0,.slice none 0 0] 34)) w.heap.size 28 #[.int .i64 r,.int .i64 f,.int .i64 t,.slice A n cc]:=(dw _ _ _).alloc _;have an:Blk ((w.alloc (.cells #[.int .i64 r,.int .i64 f,.int .i64 t,.slice A n cc] 28)).alloc (.cells #[.int .i64 0,.int .i64 0,.int .i64 0,.slice none 0 0] 34)) (w.heap.size+1) 34 #[.int .i64 0,.int .i64 0,.int .i64 0,.slice none 0 0]:=Blk.newAt (by simp);obtain ⟨w1,ap⟩:=iZ ((w.alloc (.cells #[.int .i64 r,.int .i64 f,.int .i64 t,.slice A n cc] 28)).alloc (.cells #[.int .i64 0,.int .i64 0,.int .i64 0,.slice none 0 0] 34));rw[ap] at ak ah an |-;have ad:=Jh (av.out.below ak);obtain ⟨q,hq⟩:=iZ w.heap.size;rw[hq] at ak ah an |-;have aw:=Jh ak;have am:=Jh ah;have al:=Jh an;clear ap;have hS:w1.drew.cell? ⟨q,0,none⟩=some (.int .i64 r)/\w1.drew.cell? ⟨q,1,none⟩=some (.int .i64 f)/\w1.drew.cell? ⟨q,2,none⟩=some (.int .i64 t)/\w1.drew.cell? ⟨q,3,none⟩=some (.slice A n cc):=⟨ah.cell 0,ah.cell 1,ah.cell 2,ah.cell 3⟩;refine Kcv (fun w'=>w'.cell? ⟨q,0,none⟩=some (.int .i64 r)/\w'.cell? ⟨q,1,none⟩=some (.int .i64 f)/\w'.cell? ⟨q,2,none⟩=some (.int .i64 t)/\w'.cell? ⟨q,3,none⟩=some (.slice A n cc)) 10 11 (by kernel_rfl) rfl ?_;rw[show cZ 11 false = #[false,false,false,false,false,false,false,false,false,false,false] from rfl];refine kP (i:=0) (d:=some 3) hS ?_;simp only[dj,Ja,Jb,Jc];refine Kbm (i:=1) (d:=some 4) rfl rfl (by kernel_rfl) (by kernel_rfl) (by kernel_rfl) (by kernel_rfl) rfl (fun _ _ _ h=>h) (.inl ⟨by rfl,fun w hw=>by (obtain ⟨ha,hb,hc,hd⟩:=hw;go_simp;try rfl)⟩) hS ?_;simp only[dj,Ja,Jb,Jc];refine kP (i:=2) (d:=some 5) hS ?_;simp only[dj,Ja,Jb,Jc];refine Kbm (i:=3) (d:=some 6) rfl rfl (by kernel_rfl) (by kernel_rfl) (by kernel_rfl) (by kernel_rfl) rfl (fun _ _ _ h=>h) (.inl ⟨by rfl,fun w hw=>by (obtain ⟨ha,hb,hc,hd⟩:=hw;go_simp;try rfl)⟩) hS ?_;simp only[dj,Ja,Jb,Jc];refine kP (i:=4) (d:=some 7) hS ?_;simp only[dj,Ja,Jb,Jc];refine Kbm (i:=5) (d:=some 8) rfl rfl (by kernel_rfl) (by kernel_rfl) (by kernel_rfl) (by kernel_rfl) rfl (fun _ _ _ h=>h) (.inl ⟨by rfl,fun w hw=>by (obtain ⟨ha,hb,hc,hd⟩:=hw;go_simp;try rfl)⟩) hS ?_;simp only[dj,Ja,Jb,Jc];refine kP (i:=6) (d:=some 9) hS ?_;simp only[dj,Ja,Jb,Jc];refine Kbm (i:=7) (d:=some 10) rfl rfl (by kernel_rfl) (by kernel_rfl) (by kernel_rfl) (by kernel_rfl) rfl (fun _ _ _ h=>h) (.inl ⟨by rfl,fun w hw=>by (obtain ⟨ha,hb,hc,hd⟩:=hw;go_simp;try rfl)⟩) hS ?_;simp only[dj,Ja,Jb,Jc];refine Kah (i:=8) (by kernel_rfl) rfl rfl ?_;have hc:=Kgm L A n cc w1.drew (ad.out.s.below (Below.refl _ _).drew) (by have:=ad.out.n;have:=ad.out.s.len;omega) ad.out.sz
 refine ds (d:=some 11) (w1:=w1.drew) (g:=22) (args:=#[.slice A n cc]) rfl (by go_simp;try rfl) (N:=fun u w'=>∃(A':Option Addr) (c':Nat) (hs:List Hd3),u = .slice A' n c'/\hs.length=n/\w'.ownsRow w1.heap.size 132 3 (.slice A' n c') n (hs.flatMap encH3)/\(∀(i:Nat) (h:Hd3),hs[i]? = some h->RSer w1.heap.size w' h L[i]!)/\Below w1.heap.size w1 w') (hc.mono ?_) ?_
 .rintro e w2 ⟨A',c',hs,rfl,hl,aa,af,ai⟩;exact ⟨_,rfl,A',c',hs,rfl,hl,aa,af,Qae ai⟩
 .rintro u w2 ⟨A',c',hs,rfl,hl,aa,af,ai⟩;have aj:=am.out.below ai am.out.lt;have hS:w2.cell? ⟨q,0,none⟩=some (.int .i64 r)/\w2.cell? ⟨q,1,none⟩=some (.int .i64 f)/\w2.cell? ⟨q,2,none⟩=some (.int .i64 t)/\w2.cell? ⟨q,3,none⟩=some (.slice A n cc):=⟨aj.cell 0,aj.cell 1,aj.cell 2,aj.cell 3⟩;refine ⟨fun _=>hS,?_⟩;simp only[dj,Ja,Jb,Jc];refine kP (i:=9) (d:=some 12) hS ?_;simp only[dj,Ja,Jb,Jc];have ae:=al.out.below ai al.out.lt;have d0:w2.cell? ⟨q+1,0,none⟩=some (.int .i64 0):=ae.cell 0;have d1:w2.cell? ⟨q+1,1,none⟩=some (.int .i64 0):=ae.cell 1;have d2:w2.cell? ⟨q+1,2,none⟩=some (.int .i64 0):=ae.cell 2;have d3:w2.cell? ⟨q+1,3,none⟩=some (.slice none 0 0):=ae.cell 3;have f0:=ae.frozen 0;have f1:=ae.frozen 1;have f2:=ae.frozen 2;have f3:=ae.frozen 3;refine Kah (i:=10) (by kernel_rfl) rfl rfl ?_;refine dr (w':=(((w2.setCell ⟨q+1,0,none⟩ (.int .i64 r)).setCell ⟨q+1,1,none⟩ (.int .i64 f)).setCell ⟨q+1,2,none⟩ (.int .i64 t)).setCell ⟨q+1,3,none⟩ (.slice A' n c')) rfl (by go_simp) ?_;refine ⟨fun h=>jl h (by decide),?_⟩;refine Kcb (by kernel_rfl) ?_ _;have k0:=(((ae.set_ 0 (.int .i64 r)).set_ 1 (.int .i64 f)).set_ 2 (.int .i64 t)).set_ 3 (.slice A' n c')
  have ao:Below q w ((((w2.setCell ⟨q+1,0,none⟩ (.int .i64 r)).setCell ⟨q+1,1,none⟩ (.int .i64 f)).setCell ⟨q+1,2,none⟩ (.int .i64 t)).setCell ⟨q+1,3,none⟩ (.slice A' n c')):=
   ((((aw.out.trans (ai.mono (by have:=am.out.lt;omega))).setCell (p:=⟨q+1,0,none⟩) (db q) _).setCell (p:=⟨q+1,1,none⟩) (db q) _).setCell (p:=⟨q+1,2,none⟩) (db q) _).setCell (p:=⟨q+1,3,none⟩) (db q) _
  have ag:q+1 < w1.heap.size:=al.out.lt;have ac:=Kej (Kej (Kej (Kej aa (p:=⟨q+1,0,none⟩) (Khl aa ag) (.int .i64 r)) (p:=⟨q+1,1,none⟩) (Khl aa ag) (.int .i64 f)) (p:=⟨q+1,2,none⟩) (Khl aa ag) (.int .i64 t)) (p:=⟨q+1,3,none⟩) (Khl aa ag) (.slice A' n c')
  have ab:∀(i:Nat) (h:Hd3),hs[i]? = some h->RSer w1.heap.size ((((w2.setCell ⟨q+1,0,none⟩ (.int .i64 r)).setCell ⟨q+1,1,none⟩ (.int .i64 f)).setCell ⟨q+1,2,none⟩ (.int .i64 t)).setCell ⟨q+1,3,none⟩ (.slice A' n c')) h L[i]!:=fun i h hi=>
   ((((af i h hi).far (p:=⟨q+1,0,none⟩) ag _).far (p:=⟨q+1,1,none⟩) ag _).far (p:=⟨q+1,2,none⟩) ag _).far (p:=⟨q+1,3,none⟩) ag _
  obtain ⟨wf,aq⟩:=iZ ((((w2.setCell ⟨q+1,0,none⟩ (.int .i64 r)).setCell ⟨q+1,1,none⟩ (.int .i64 f)).setCell ⟨q+1,2,none⟩ (.int .i64 t)).setCell ⟨q+1,3,none⟩ (.slice A' n c'));rw[aq] at k0 ao ac ab |-;have HK:=Jh k0;have ax:=Jh ao;have ar:Hid (RCo wf q ⟨A',n,c'⟩ L):=RCo.mono ⟨hs,hl,ad.out.s.len,ac,ab⟩ (by omega);clear aq k0 ao ac ab aa af aj ae d0 d1 d2 d3 f0 f1 f2 f3 hS ai hl;simp only[dj]
  iterate 4 (try (first | go_values | go_skip | go_guarded | go_step | go_upon | go_back))
  refine bodyPost_ret (Kgk rfl _ _ ⟨q+1,0,none⟩ (.agg #[.int .i64 r,.int .i64 f,.int .i64 t,.slice A' n c']) rfl (run_loadVar_row _ (q+1) 34 34 _ (0,0) _ HK.out underlying34 rfl (by kernel_rfl))) rfl ?_;exact ⟨⟨⟨A',n,c'⟩,rfl,by rw[hq];exact ar.out⟩,by rw[hq];exact ax.out⟩
end
end
section
open Go.Shelf Go.RowKit Go.Lib Go.Sort
open Lib renaming hid -> Jh
attribute [local go_sem ↓] Go.wp_at_zero Go.wp_at_succ
attribute [local go_sem] Later.cell
section
theorem Qcp:∀M:List Int,∃L:List Int,(L.Pairwise fun a b=>a < b)/\∀x,x∈L↔x∈M
 | []=>⟨[],dx,fun x=>Iff.rfl⟩
 | m :: M=>by
  obtain ⟨L,h1,h2⟩:=Qcp M;refine ⟨L.filter (fun x=>decide (x < m))++m :: L.filter (fun x=>decide (m < x)),List.pairwise_append.2 ⟨h1.filter _,List.pairwise_cons.2 ⟨fun x hx=>by simpa using (cW.1 hx).2,h1.filter _⟩,fun x hx y hy=>?_⟩,fun x=>?_⟩
  .have aa:x < m:=by simpa using (cW.1 hx).2
   rcases dg.1 hy with rfl | hy
   .exact aa
   .have hy2:m < y:=by simpa using (cW.1 hy).2
    omega
  .simp only[c8,cW,dh,i8,h2];constructor
   .rintro (⟨h,_⟩ | rfl | ⟨h,_⟩)
    .exact .inr h
    .exact .inl rfl
    .exact .inr h
   .rintro (rfl | h)
    .exact .inr (.inl rfl)
    .rcases Int.lt_trichotomy x m with h3 | h3 | h3
     .exact .inl ⟨h,h3⟩
     .exact .inr (.inl h3)
     .exact .inr (.inr ⟨h,h3⟩)
theorem Qeo (width:Int) (ts:List Int):∃L,Kcd width ts L:=by obtain ⟨L,h1,h2⟩:=Qcp (Kbv width ts);exact ⟨L,h1,h2⟩
def fAt (L:List Int) (i:Nat):Int:=(L[i]?).getD (-1)
theorem Qdf {width:Int} (hw:1<=width) {ts L:List Int} (hL:Kcd width ts L) {i:Nat} {a r:Int} (ha:0<=a) (hfrom:Kgz width ts L i a) (hr:Kat ts a r):(if r < 0 then (-1:Int) else r - r % width)=fAt L i:=by
 unfold fAt;rcases Qhi hw hL ha hfrom hr with ⟨f,h1,h2,h3,h4⟩ | ⟨h1,h2⟩
 .rw[je (by omega),h1,h4];rfl
 .rw[jf (by omega),c6 h1];rfl
def RSp (wq w:World) (x:CH) (c:Cont):Prop:=
 (c.res=x.r/\c.frm=x.f/\c.to_=x.t)/\(∃hs:List Hd3,hs.length=x.h.n/\c.series.length=hs.length/\w.ownsRow wq.heap.size 132 3 (.slice x.h.A x.h.n x.h.c) hs.length (hs.flatMap encH3)/\∀(i:Nat) (h:Hd3) (g:Ser),hs[i]? = some h->c.series[i]? = some g->DRow wq wq.heap.size w h g)/\c.series.length<=1073741824/\∀s∈c.series,SerSz s
theorem RSp.below {wq w w':World} {x:CH} {c:Cont} (h:RSp wq w x c) (hb:Below w.heap.size w w'):RSp wq w' x c:=by obtain ⟨h1,⟨hs,a1,a2,a3,a4⟩,h3⟩:=h;exact ⟨h1,⟨hs,a1,a2,Kbc a3 hb,fun i h g hi hg=>(a4 i h g hi hg).below hb⟩,h3⟩
theorem RSp.grown {wq w w':World} {x:CH} {c:Cont} {B n sz:Nat} {v:Value} {xs:List Value} (h:RSp wq w x c) (hv:w.ownsRow B 34 sz v n xs) (hg:w.grownBy w' v.ownBlock):RSp wq w' x c:=by obtain ⟨h1,⟨hs,a1,a2,a3,a4⟩,h3⟩:=h;refine ⟨h1,⟨hs,a1,a2,a3.kept hg (Kav a3 hv (by decide)),fun i h g hi hgi=>?_⟩,h3⟩;have d:=a4 i h g hi hgi;exact ⟨d.l,d.lc,d.sm.kept hg (Kav d.sm hv (by decide)),d.wd.kept hg (Kav d.wd hv (by decide))⟩
theorem RSp.ok {wq w:World} {x:CH} {c:Cont} (h:RSp wq w x c) (hb:Below wq.heap.size wq w):(c.res=x.r/\c.frm=x.f/\c.to_=x.t)/\Kcg w x.h.A x.h.n c.series/\x.h.n<=x.h.c:=by obtain ⟨h1,⟨hs,a1,a2,a3,a4⟩,h3,h4⟩:=h;have d:DOut wq wq w (.slice x.h.A x.h.n x.h.c) hs c.series:=⟨Below.refl _ _,hb,a3,a2,a4⟩;exact ⟨h1,⟨(d.sers a1).1,h3,h4⟩,(d.sers a1).2⟩
theorem RSp.of {wq w0 w:World} {A:Option Addr} {n c p:Nat} {hs:List Hd3} {gs:List Ser} (d:DOut wq w0 w (.slice A n c) hs gs) (hl:hs.length=n) (hp:p < w0.heap.size) (u:Value) (i:Nat) {r f t:Int} (hz:gs.length<=1073741824/\∀s∈gs,SerSz s):RSp wq (w.setCell ⟨p,i,none⟩ u) ⟨r,f,t,⟨A,n,c⟩⟩ ⟨r,f,t,gs⟩:=by
 have aa:∀{T:TypeId} {m sz:Nat} {v:Value} {xs:List Value},w.ownsRow w0.heap.size T sz v m xs->(w.setCell ⟨p,i,none⟩ u).ownsRow wq.heap.size T sz v m xs:=fun {T m sz v xs} h=>
  Kce (Kcq h (by simp[World.setCell]) fun k hk=>Below.heap_setCell w _ u k (by have:=(h.lt k hk).1;show k≠p;omega)) d.bl.size
 exact ⟨⟨rfl,rfl,rfl⟩,⟨hs,hl,d.l,aa d.row,fun j h g hj hg=>⟨(d.r j h g hj hg).l,(d.r j h g hj hg).lc,aa (d.r j h g hj hg).sm,aa (d.r j h g hj hg).wd⟩⟩,hz⟩
theorem Kwk (res width:Int) (A:Option Addr) (n c:Nat) (ss:List Ser) (w:World) (hS:Sers w A n ss) (hc:n<=c) (hz:SSz ss) :
  Calls prog 21 #[.int .i64 res,.int .i64 width,.slice A n c] w (Kha res width (allF res ss) w):=by
 by_cases hw:1<=width/\width<=1099511627776
 .have HW:=Jh hw
  by_cases hr:0<=res/\res < 3
  .obtain ⟨ax,aR⟩:=hr;obtain ⟨aA,bf⟩:=hw;have HR:Hid (0<=res/\res < 3):=⟨ax,aR⟩;have HZ:=Jh hz;obtain ⟨all,af⟩:=i7 (allF res ss);have a1:Hid (all=Kck res [] (Kaf ss)):=af;have aH:Hid (SSz all):=by show SSz _;rw[af];exact hz.sub (Kzf res ss)
   rw[<-af];obtain ⟨L,hL⟩:=Qeo width (Kak all);have HL:=Jh hL
   have hLn:L.length<=1048576:=by have h1:=Kpo hL;have h2:=aH.out.m;rw[Keq] at h1;omega
   obtain ⟨w1,ae⟩:=i7 (w.alloc (.cells #[.slice A n c] 32))
   have bh:Hid (Calls prog 35 #[.slice (some ⟨w.heap.size,0,none⟩) 1 1] w1 fun e w'=>∃(A':Option Addr) (n' c':Nat),e = .returned (.slice A' n' c')/\Sers w' A' n' (Kaf ss)/\n'<=c'/\Below w1.heap.size w1 w'):=by
    have:=Kqp (some ⟨w.heap.size,0,none⟩) 1 1 [⟨A,n,c⟩] [ss] w1 (Kvw hS hc (fun s hs=>(hz.z s hs).l) ae) (by decide) (by simp;have:=hz.n;omega) (by simp;have:=hz.m;omega);show Calls _ _ _ _ _
    simpa using this
   have aV:Hid (Below w.heap.size w w1):=by show Below _ _ _;rw[ae];exact (Below.refl _ _).alloc (cJ _) _
   obtain ⟨q0,hq0⟩:=i7 w.heap.size;have bm:=Jh ae;have bJ:¬res < 0:=by omega
   have bL:¬2 < res:=by omega
   have aQ:¬width < 1:=by omega
   have a8:¬1099511627776 < width:=by omega
   clear hS hz af hL ae;go_enter func21,ntmps21
   go_upto_region 6 with fail
   try rw[<-bm.out]
   clear bm;go_wp2_with fail
   refine bh.out.mono ?_;rintro _ w2 ⟨A2,n2,c2,rfl,bb,bK,br⟩;have bi:Hid (SersZ w2 A2 n2 (Kaf ss)):=(HZ.out.sub (Khe ss)).sersz bb;have ad:Hid (Below w.heap.size w w2):=aV.out.trans (br.mono aV.out.size);clear bb bK br aV bh;go_wp2_with fail
   refine (Ktn res [] none 0 0 A2 n2 c2 (Kaf ss) w2 ⟨Elems.nil_,fun x hx=>by simp at hx,by omega⟩ bi.out).mono ?_;rintro _ w3 ⟨A3,n3,c3,rfl,a2,bD,bk⟩;rw[<-a1.out] at a2;have aL:Hid (SersZ w3 A3 n3 all):=aH.out.sersz a2;have aK:Hid (Below w.heap.size w w3):=ad.out.trans (bk.mono ad.out.size)
   have bg:Hid (∀W,Below w3.heap.size w3 W->∀(i:Nat) (a:Int),0<=a->Kgz width (Kak all) L i a->Calls prog 51 #[.slice A3 n3 c3,.int .i64 width,.int .i64 a] W fun e w'=>e = .returned (.int .i64 (fAt L i))/\w'=W):=fun W hW i a ha hf=>by refine (Kwg width a ha aA bf A3 n3 c3 all W ⟨aL.out.s.below hW,aL.out.z,aL.out.n⟩).mono ?_;rintro e w' ⟨⟨r,rfl,hb⟩,rfl⟩;exact ⟨by rw[Qdf aA HL.out ha hf hb],rfl⟩
   have be:=Jh (bg.out w3 (Below.refl _ _) 0 0 (Int.le_refl _) (Qat HL.out));have HG:Hid (RGath (RSp w3) w3 w3.heap.size (.slice none 0 0) [] ((L.take 0).map (Kay res width all))):=RGath.nil _ _ _;have aj:Hid (((L.take 0).map (Kay res width all)).all fitB=true):=rfl;have bz:Hid (Below w3.heap.size w3 w3):=Below.refl _ _;clear a2 bD bk ad bi;go_wp2_with fail
   refine be.out.mono ?_;rintro _ w4 ⟨rfl,a0⟩;have a0:=a0.symm;subst a0;clear be;go_wp2_with fail
   go_loopg [10,11] L.length (fun kx s10 s11 wr=>∃(i:Nat) (xs:List CH) (f:Int),s11 = .int .i64 f/\i+kx=L.length/\Hid (f=fAt L i)/\Hid (xs.length=i)/\Hid (Below w3.heap.size w3 wr)/\Hid (RGath (RSp w3) wr w3.heap.size s10 xs ((L.take i).map (Kay res width all)))/\Hid (((L.take i).map (Kay res width all)).all fitB=true))
   case atStart=>exact ⟨0,[],_,rfl,by omega,rfl,rfl,bz,HG,aj⟩
   case round=>
    clear bz HG aj;obtain ⟨i,xs,f,rfl,hi,HF,ao,HB,HG,aj⟩:=hrel;have aX:=HG.out.row;rw[ao.out] at aX;obtain ⟨A7,c7,bF⟩:=Kag aX;subst bF;clear aX;rcases cT i L.length with hlt | hge
    .have hf:L[i]? = some f:=by have:=HF.out;unfold fAt at this;rw[cV hlt] at this |-;rw[this];rfl
     have aS:f∈L:=cP hf;obtain ⟨hf1,hf2⟩:=Ksm aA HL.out aS;obtain ⟨cc,aE⟩:=i7 (Kay res width all f)
     have bA:Hid ((L.take (i+1)).map (Kay res width all)=(L.take i).map (Kay res width all) ++ [cc]):=by
      show _=_
      rw[cO,hf,List.map_append,aE];rfl
     obtain ⟨to_,aC⟩:=i7 (min (f+width) 1125899906842625);have aF:Hid (cc=⟨res,f,to_,clipF f (to_ - 1) all⟩):=by show _=_;rw[aE,aC];rfl
     have bE:f < to_:=by omega
     have bM:to_<=1125899906842625:=by omega
     have bI:Hid (Kgz width (Kak all) L (i+1) to_):=by show Kgz _ _ _ _ _;rw[aC];exact Qdj aA HL.out hf
     have bN:Hid (cc∈L.map (Kay res width all)):=by show _∈_;rw[aE];exact List.mem_map_of_mem aS
     have bq:Hid (SSz (clipF f (to_ - 1) all)):=aH.out.sub (Kjl _ _ all);have bd:Hid (to_=min (f+width) 1125899906842625):=aC;clear hf aS aE aC;go_upto_region 12 with fail
     obtain ⟨wa,aJ⟩:=i7 (wr.alloc (.cells #[.int .i64 res,.int .i64 f,.int .i64 (f+width),.slice none 0 0] 34));obtain ⟨p,hp⟩:=i7 wr.heap.size;have aY:Hid (Below wr.heap.size wr wa):=by show Below _ _ _;rw[aJ];exact (Below.refl _ _).alloc (cJ _) _
     have an:Hid (Blk wa p 34 #[.int .i64 res,.int .i64 f,.int .i64 (f+width),.slice none 0 0]):=by show Blk _ _ _ _;rw[aJ,hp];exact dw _ _ _
     have aO:Hid (wr.heap.size<=p):=by show _<=_;rw[hp];exact cJ _
     try rw[<-aJ]
     try rw[<-hp]
     clear aJ hp;have z2:=an.out.cell 2;simp at z2;have zl:=an.out.lt;go_upto_if 46 with fail
     go_cut [] from 36 to 68 (fun wz=>Hid (Blk wz p 34 #[.int .i64 res,.int .i64 f,.int .i64 to_,.slice none 0 0])/\Hid (Below wr.heap.size wr wz))
     case first=>
      rcases Int.lt_or_le 1125899906842625 (f+width) with h1 | h1
      .have ht:to_=1125899906842625:=by have:=bd.out;omega
       have fz:=an.out.frozen 2;have ab:Hid (Blk (wa.setCell ⟨p,2,none⟩ (.int .i64 1125899906842625)) p 34 #[.int .i64 res,.int .i64 f,.int .i64 to_,.slice none 0 0]):=by show Blk _ _ _ _;rw[ht];exact an.out.set_ 2 _
       have ad:Hid (Below wr.heap.size wr (wa.setCell ⟨p,2,none⟩ (.int .i64 1125899906842625))):=aY.out.setCell (p:=⟨p,2,none⟩) aO.out _;clear ht;go_wp2_with fail
       go_meet
       exact ⟨ab,ad⟩
      .have ht:to_=f+width:=by have:=bd.out;omega
       have hn1:¬1125899906842625 < f+width:=by omega
       have ab:Hid (Blk wa p 34 #[.int .i64 res,.int .i64 f,.int .i64 to_,.slice none 0 0]):=by show Blk _ _ _ _;rw[ht];exact an.out
       clear ht h1;go_wp2_with fail
       go_meet
       exact ⟨ab,aY⟩
     case rest=>
      obtain ⟨ab,ad⟩:=hcut;clear z2 zl an aY;obtain ⟨wz,rfl⟩:=i7 wc;have bB:Hid (Below w3.heap.size w3 wz):=HB.out.trans (ad.out.mono HB.out.size);have bj:=Jh (Kwd f (to_ - 1) A3 n3 c3 all wz w3 bB.out aL.out);have z1:=ab.out.cell 1;have z2:=ab.out.cell 2;have z3:=ab.out.cell 3;simp at z1 z2 z3;have zl:=ab.out.lt;go_wp2_with fail
      refine bj.out.mono ?_;rintro _ w5 ⟨A5,n5,c5,hs,rfl,bc,hd⟩;have aW:Below wz.heap.size wz w5:=hd.b;have ar:Blk w5 p 34 #[.int .i64 res,.int .i64 f,.int .i64 to_,.slice none 0 0]:=ab.out.below aW ab.out.lt;have fz:=ar.frozen 3;have z5:=ar.lt;have z6:w5.cell? ⟨p,3,none⟩=some (.slice none 0 0):=ar.cell 3;obtain ⟨w6,az⟩:=i7 (w5.setCell ⟨p,3,none⟩ (.slice A5 n5 c5));have ai:Hid (Blk w6 p 34 #[.int .i64 res,.int .i64 f,.int .i64 to_,.slice A5 n5 c5]):=by show Blk _ _ _ _;rw[az];exact ar.set_ 3 _
      have aG:Hid (Below wr.heap.size wr w6):=by show Below _ _ _;rw[az];exact (ad.out.trans (aW.mono ad.out.size)).setCell (p:=⟨p,3,none⟩) aO.out _
      have a6:Hid (RSp w3 w6 ⟨res,f,to_,⟨A5,n5,c5⟩⟩ cc):=by show RSp _ _ _ _;rw[az,aF.out];exact RSp.of hd bc ab.out.lt _ _ ⟨by have:=bq.out.n;unfold clipF at this;omega,bq.out.z⟩
      have a9:=Jh az;clear az hd bc aW ar z1 z2 z3 zl bj ab ad bB;go_upto_region 15 with fail
      try rw[<-a9.out]
      clear a9 fz z5 z6;have av:Hid (Below w3.heap.size w3 w6):=HB.out.trans (aG.out.mono HB.out.size);have a3:=Jh (Qbr cc ⟨A5,n5,c5⟩ w6 (a6.out.ok av.out).2.1);have aT:=a3.out;rw[aF.out] at aT;rw[<-aF.out] at aT
      have ap:Hid (Calls prog 27 #[.agg #[.int .i64 res,.int .i64 f,.int .i64 to_,.slice A5 n5 c5]] w6 fun e w'=>e = .returned (.bool (fitB cc))/\Below w6.heap.size w6 w'):=by have h1:=a3.out;have e:=aF.out;rw[show cc.res=res by rw[e],show cc.frm=f by rw[e],show cc.to_=to_ by rw[e]] at h1;exact h1
      clear aT a3;have z0:=ai.out.cell 0;have z1:=ai.out.cell 1;have z2:=ai.out.cell 2;have z3:=ai.out.cell 3;simp at z0 z1 z2 z3;have zl:=ai.out.lt;go_wp2_with fail
      refine ap.out.mono ?_;rintro _ w7 ⟨rfl,aN⟩;clear z0 z1 z2 z3 zl ap;have ah:Hid (Blk w7 p 34 #[.int .i64 res,.int .i64 f,.int .i64 to_,.slice A5 n5 c5]):=ai.out.below aN ai.out.lt;have aD:Hid (Below wr.heap.size wr w7):=aG.out.trans (aN.mono aG.out.size);have bC:Hid (RSp w3 w7 ⟨res,f,to_,⟨A5,n5,c5⟩⟩ cc):=a6.out.below aN;clear aN ai aG a6 av
      cases hfit:fitB cc with
      | false=>
       have aw:Hid ((L.map (Kay res width all)).all fitB=false):=List.all_eq_false.2 ⟨cc,bN.out,by rw[hfit];simp⟩;clear hfit;go_wp2_with fail
       go_ret2
       exact ⟨.inr (.inr ⟨HW.out,HR.out,L,HL.out,.inl ⟨aw.out,rfl⟩⟩),aK.out.trans ((HB.out.trans (aD.out.mono HB.out.size)).mono aK.out.size)⟩
      | true=>
       have aZ:Hid (((L.take (i+1)).map (Kay res width all)).all fitB=true):=by
        show _=_
        rw[bA.out,List.all_append,aj.out];simp[hfit]
       clear hfit aj;have z0:=ah.out.cell 0;have z1:=ah.out.cell 1;have z2:=ah.out.cell 2;have z3:=ah.out.cell 3;simp at z0 z1 z2 z3;have zl:=ah.out.lt;obtain ⟨i1,ba,bt,bl,bp⟩:=info_parts Kxx;obtain ⟨w8,ay⟩:=i7 (w7.alloc (.cells #[.int .i64 res,.int .i64 f,.int .i64 to_,.slice A5 n5 c5] 34));have aM:Below w7.heap.size w7 w8:=by rw[ay];exact (Below.refl _ _).alloc (cJ _) _
       have ag:Blk w8 w7.heap.size 34 #[.int .i64 res,.int .i64 f,.int .i64 to_,.slice A5 n5 c5]:=by rw[ay];exact dw _ _ _
       have aI:Hid (Below wr.heap.size wr w8):=aD.out.trans (aM.mono aD.out.size);have a7:Hid (RGath (RSp w3) w8 w3.heap.size (.slice A7 i c7) xs ((L.take i).map (Kay res width all))):=HG.out.below aI.out fun x c h=>h.below aI.out
       have ac:w8.ownsRow w3.heap.size 34 4 (.slice A7 i c7) i (xs.flatMap encCH):=by have:=a7.out.row;rw[ao.out] at this;exact this
       have aa:=Jh ac;have bo:Hid (RSp w3 w8 ⟨res,f,to_,⟨A5,n5,c5⟩⟩ cc):=bC.out.below aM;have bx:Hid (Blk w8 p 34 #[.int .i64 res,.int .i64 f,.int .i64 to_,.slice A5 n5 c5]):=ah.out.below aM ah.out.lt;have al:Hid (Below w3.heap.size w3 w8):=HB.out.trans (aI.out.mono HB.out.size);have aU:w3.heap.size<=w8.heap.size:=al.out.size
       have bn:Hid (∀k,(dk A7 i c7).ownBlock=some k->p≠k):=fun k hk=>by
        have h1:=HG.out.row;rw[ao.out] at h1;have h2:=(h1.lt k hk).2;have h3:=aO.out;show p≠k
        omega
       clear aM ah aD bC HG HB;go_wp2_with (at_builtin;(try rw[<-ay]);refine dy _ rfl _ _ 24 rfl w3.heap.size 34 i1 (.agg #[.int .i64 0,.int .i64 0,.int .i64 0,.slice none 0 0]) 4 48 underlying24 ba bt bl bp rfl (by decide) (.slice A7 i c7) i _ rfl ac ⟨w7.heap.size,0,none⟩ 1 1 [.int .i64 res,.int .i64 f,.int .i64 to_,.slice A5 n5 c5] rfl rfl (Kao (l:=[.int .i64 res,.int .i64 f,.int .i64 to_,.slice A5 n5 c5]) ag) ?p2 ?p3 ?p4 ?p5 ?_)
       case p2=>intro u hu;simp only[dh,List.not_mem_nil,or_false] at hu;rcases hu with rfl | rfl | rfl | rfl <;> rfl
       case p3=>unfold maxLen;omega
       case p4=>omega
       case p5=>exact aU
       intro v9 w9 hown' hgrow _ _;rw[<-ay] at hgrow;have bw:Hid (Below w3.heap.size w3 w9):=al.out.grown hgrow aU (fun k hk=>(aa.out.lt k hk).1)
       have bv:Hid (RGath (RSp w3) w9 w3.heap.size v9 (xs ++ [⟨res,f,to_,⟨A5,n5,c5⟩⟩]) ((L.take (i+1)).map (Kay res width all))):=by
        show RGath _ _ _ _ _ _
        rw[bA.out];exact a7.out.more (fun x c h=>h.grown aa.out hgrow) (by rw[ao.out];exact hown') (bo.out.grown aa.out hgrow)
       have aB:Hid ((xs ++ [(⟨res,f,to_,⟨A5,n5,c5⟩⟩:CH)]).length=i+1):=by show _=_;rw[cI,ao.out];rfl
       have aP:Blk w9 p 34 #[.int .i64 res,.int .i64 f,.int .i64 to_,.slice A5 n5 c5]:=bx.out.grown hgrow (fun e=>bn.out p e.symm rfl);generalize xs ++ [(⟨res,f,to_,⟨A5,n5,c5⟩⟩:CH)]=xs9 at bv aB;have aq:=Jh (bg.out w9 bw.out (i+1) to_ (by omega) bI.out);have y2:=aP.cell 2;simp at y2;have yl:=aP.lt;clear hown' hgrow ac ag aa aI a7 bo bx al bn ay aU aP z0 z1 z2 z3 zl ba bt bl bp;go_wp2_with fail
       refine aq.out.mono ?_;rintro _ w10 ⟨rfl,ak⟩;have ak:=ak.symm;subst ak;clear y2 yl aq;obtain ⟨f2,am⟩:=i7 (fAt L (i+1));have bG:=Jh am;rw[<-am];clear am;go_wp2_with fail
       go_roundg (L.length - (i+1))
       case measure=>omega
       case rel=>exact ⟨i+1,xs9,f2,by first | rfl | go_num,by omega,bG,aB,bw,bv,aZ⟩
    .have hf:f = -1:=by have:=HF.out;unfold fAt at this;rw[c6 hge] at this;exact this
     subst hf;have hin:i=L.length:=by omega
     have bs:L.take i=L:=cH hge;rw[bs] at HG aj
     have aq:Hid (Kbz wr A7 i xs (L.map (Kay res width all))/\i<=c7):=HG.out.conts ao.out (by omega) (fun c hc=>by
      obtain ⟨f,hf,rfl⟩:=List.mem_map.1 hc
      exact (aH.out.sub (Kjl (fun _ x=>inR f (min (f+width) 1125899906842625 - 1) x.t) (fun _ x=>inR f (min (f+width) 1125899906842625 - 1) x.start) all)).csz _ _ _) fun x c h=>h.ok HB.out
     clear bs HG;go_wp2_with fail
     go_ret2
     exact ⟨.inr (.inr ⟨HW.out,HR.out,L,HL.out,.inr ⟨aj.out,A7,i,c7,xs,rfl,aq.out.1,aq.out.2⟩⟩),aK.out.trans (HB.out.mono aK.out.size)⟩
  .have a5:=Jh hr;obtain ⟨aA,bf⟩:=hw;have aQ:¬width < 1:=by omega
   have a8:¬1099511627776 < width:=by omega
   clear hS hz;rcases (by omega:res < 0\/0<=res) with ax | ax
   .clear hr;go_enter func21,ntmps21
    go_wp2_with fail
    go_ret2
    exact ⟨.inr (.inl ⟨HW.out,a5.out,rfl⟩),Below.refl _ _⟩
   .have aR:2 < res:=by have:=a5.out;omega
    have bH:¬res < 0:=by omega
    clear hr;go_enter func21,ntmps21
    go_wp2_with fail
    go_ret2
    exact ⟨.inr (.inl ⟨HW.out,a5.out,rfl⟩),Below.refl _ _⟩
 .have a4:=Jh hw;clear hS hz;rcases (by omega:width < 1\/1<=width) with ax | ax
  .clear hw;go_enter func21,ntmps21
   go_wp2_with fail
   go_ret2
   exact ⟨.inl ⟨a4.out,rfl⟩,Below.refl _ _⟩
  .have aR:1099511627776 < width:=by have:=a4.out;omega
   have bH:¬width < 1:=by omega
   clear hw;go_enter func21,ntmps21
   go_wp2_with fail
   go_ret2
   exact ⟨.inl ⟨a4.out,rfl⟩,Below.refl _ _⟩
end
end
end Go.Proofs.YtdoiekknhnbepaaGreatDoor
