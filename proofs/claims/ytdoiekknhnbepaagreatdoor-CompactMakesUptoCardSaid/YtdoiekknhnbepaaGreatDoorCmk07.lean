/- Merged (what the claim wants of): BlkListsB, BlkFitA, BlkFitB, BlkFitC, ChunkIter, BlkPartsW, Builder2, BlkBuild, BlkSize, RefB2, RefBPlain. -/
import Derived.Test.YtdoiekknhnbepaaGreatDoorCmk06
import Derived.RangeFuncNested
set_option linter.unusedVariables false
set_option linter.unusedSimpArgs false
set_option maxRecDepth 1000000
set_option linter.ambiguousOpen false
set_option maxHeartbeats 8000000
namespace Go.Proofs.YtdoiekknhnbepaaGreatDoor
open Go renaming wpList_append_own_at->km
open Go renaming wpQuiet_nil->kk
open List renaming getElem?_eq_getElem->is,mem_map->it,mem_flatMap->iw,mem_singleton->i2,getElem?_map->i3,mem_range->i4,nodup_cons->i5,mem_append->i6,length->jc
open Lib renaming cell_of_heap->jj,byteCells->jn,strCells->jA,run_append_own_stringF->jT,frozen_of_heap->jU,compact->jV
open World renaming size_alloc->jW,cell?_of_block->jX,grownBy_alloc->jY,ownsRow_nil->jZ,setCell->j0,putObj_heap_other->j1,shape?->j2
open Value renaming string->j3,oneCell'->j4,slice->j5
open _root_.ByteArray renaming toList_eq->j6,data_append->j7,size_append->j8
open _root_.Array renaming getElem?_eq_some_iff->j9
open Blk renaming newAt->ka,new->kc
open Builtin renaming unsafeSliceData_->kd,unsafeString_->ke,append_->kf
open Wnd renaming start->kg
open Decidable renaming byContradiction->kh
open World.ownsRow renaming lt->ki
open Hd3 renaming l->kj
open Tryz
open List renaming length_cons->iv,length_map->iz,flatMap_append->iA,length_append->iD,map_cons->iE,append_assoc->iF,getElem_mem->iG,eq_nil_of_length_eq_zero->iH,flatMap_singleton->iI,take_append_drop->iK,take_add_one->iL,flatMap_cons->iM,drop_eq_getElem_cons->iN,mem_map_of_mem->iO,sum_cons->iP,map_append->iQ,size_toArray->iS,length_range->iU,length_singleton->iV,take_length->iW,length_take->iX,length_drop->iY,filter_cons->iZ,drop_eq_nil_iff->i9,nodup_cons->ja,nil_append->jb,getElem_of_mem->jd,append_toArray->je,flatten_append->jf,range->jg,lt_irrefl->jh,push_toArray->ji,take_append_getElem->jk,cons_append->jl,map_map->jo,take_of_length_le->jp,drop_eq_nil_of_le->jq,length_nil->js,flatten_cons->jz,getElem_map->jB,take_zero->jE
open Nat renaming le_refl->iy,le_trans->iC,lt_of_lt_of_le->iR,lt_add_of_pos_right->jm,reduceAdd->jw,reduceSub->jx,min->jy,zero_le->jC
open Bool renaming and_eq_true->iB,or_eq_false_iff->iJ,eq_false_iff->iT,eq_iff_iff->jr,and_eq_false_iff->jt,or_eq_true->jD
open _root_.Array renaming replicate_succ->i7,replicate_zero->i8,toList_append->jv
section
open Go.RowKit Go.Shelf Go.Sort Go.Maps
open Lib renaming hid -> Jh
attribute [local go_sem ↓] Go.wp_at_zero Go.wp_at_succ
attribute [local go_sem] Later.cell
def Qfm (w:World) (B:Nat) (v:Value) (l:List Lb) (e:Ending) (w':World):Prop:=
 e = .returned (.tuple #[])/\∃l':List Lb,l'.Perm l/\(l'.Pairwise fun a b=>¬ltB b a)/\w'.ownsRow B 99 2 v l'.length (l'.flatMap encLb)/\w.grownBy w' v.ownBlock
theorem Krc (l:List Lb) (B:Nat) (v:Value) (w:World) (h:w.ownsRow B 99 2 v l.length (l.flatMap encLb)) (hn:l.length<=1099511627776) :
  Calls prog 119 #[v,.func (.func 120) #[] #[]] w (Qfm w B v l):=by
 have ad:(l = []/\v = .slice none 0 0)\/∃g c,v = .slice (some ⟨g,0,none⟩) l.length c:=by
  rcases h.2 with ⟨h1,h0⟩ | ⟨g,cap,cur,h1,_⟩
  .exact .inl ⟨iH h0,h1⟩
  .exact .inr ⟨g,cap,h1⟩
 rcases ad with ⟨rfl,rfl⟩ | ⟨g,c,rfl⟩
 .refine (AnyF.slices_SortFunc_none Tryz.laysSFL none 0 _ w).mono ?_;rintro e w' ⟨rfl,rfl⟩;exact⟨rfl,[],.refl _,List.Pairwise.nil,h,⟨rfl,rfl,rfl,iy _,fun _ _ _=>rfl⟩⟩
 .have ac:=ki h g rfl;have eg:∀args w,(callFunc 120 args).run prog w = .ok (.enter 120 args) w:=enters_of func120 (by kernel_rfl) rfl;have aa:=AnyQ.slices_SortFunc Tryz.laysSFL 2 isAgg99 sizeOf99 encLb Kca Kib cfK swoK 120 #[] g 0 c l.toArray w eg (fun _ _ _ _ x y=>Kyj x y _) (Kfg Kca (by decide) h rfl) ac.2 (by simp;omega);simp only[iS]at aa;refine aa.mono ?_;rintro e w' ⟨rfl,d',m,os,hp,hs,rfl⟩;obtain⟨ab,ae⟩:=Qbx rfl hp;refine⟨rfl,d'.toList,ae,?_,?_,Kya _ _ _ _ _ _ _ _⟩
  .refine (Qbv ab hs).imp ?_;intro a b hab;rw[ltK,jK]at hab;exact hab
  .have:=Kfj Kca (by decide) h rfl d' ab m os;rw[show d'.toList.length=l.length by simpa using ab];exact this
theorem Kjs {S:List (List Lb)}{x:Lb}:Kan S x≠[]↔x∈keysOf S:=by
 constructor
 .intro h;exact Classical.byContradiction fun hk=>h (Kwi hk)
 .intro h h0;obtain⟨s,hs,hx⟩:=((Kez S).2 x).1 h;obtain⟨i,hi,rfl⟩:=jd hs;unfold Kan at h0;rw[List.filter_eq_nil_iff]at h0;refine h0 i (i4.2 hi) ?_;rw[jH,List.getD_eq_getElem?_getD,is hi];exact hx
theorem Kyh {S:List (List Lb)}{ks l':List Lb}(hn:ks.Nodup) (hm:∀x,x∈ks↔x∈keysOf S) (hp:l'.Perm ks) (hs:l'.Pairwise fun a b=>¬ltB b a):l'=keysOf S:=by
 refine Kvo ?_ (Kez S).1 fun x=>by rw[hp.mem_iff,hm]
 refine(hs.and (hp.nodup_iff.2 hn)).imp ?_;rintro a b ⟨h1,h2⟩;rcases Ksg a b with h | h | h
 .exact h
 .exact jS h h2
 .exact jS h h1
theorem Kpk {α β : Type}{f:α->β}:∀{l:List α},l.Nodup->(∀x∈l,∀y∈l,f x=f y->x=y)->(l.map f).Nodup
 | [],_,_=>by simp
 | a :: l,h,hi=>by rw[ja]at h;rw[iE,ja];refine⟨?_,Kpk h.2 fun x hx y hy=>hi x (by simp[hx]) y (by simp[hy])⟩;intro hm;obtain⟨y,hy,e⟩:=it.1 hm;have:=hi y (by simp[hy]) a (by simp) e;exact h.1 (this▸hy)
theorem Qeh {α β : Type}{f:α->β}{l:List α}(h:(l.map f).Nodup):l.Nodup:=by
 induction l with
 | nil=>simp
 | cons a l ih=>
  rw[iE,ja]at h;rw[ja];exact⟨fun hm=>h.1 (iO hm),ih h.2⟩
theorem Ksi:∀(l L:List Lb),l.Nodup->(∀x∈l,x∈L)->l.length<=L.length
 | [],_,_,_=>by simp
 | a :: l,L,hn,h=>by have ha:=i5.1 hn;have:=Ksi l (L.erase a) ha.2 (fun x hx=>(List.mem_erase_of_ne (fun e:x=a=>ha.1 (by rw[<-e];exact hx))).2 (h x (by simp[hx])));rw[List.length_erase_of_mem (h a (by simp))]at this;have h0:0<L.length:=List.length_pos_of_mem (h a (by simp));simp only[iv];omega
theorem Kvp {w:World}{B b n:Nat}{S:List (List Lb)}{es:Array MapEntry}{clock:Nat}(h:LMap w B b (Kan S) n es clock) {out:List MapEntry}{ks:List Lb}(hnd:out.Nodup) (hsub:∀x∈out,x∈es.toList) (hks:out.map (·.key)=ks.map lbV) :
  ks.Nodup/\(∀x∈ks,x∈keysOf S)/\((∀e∈es.toList,e∈out)->∀x,x∈ks↔x∈keysOf S)/\ks.length<=es.size:=by
 have ae:(es.toList.map (·.key)).Nodup:=h.st.2.2;have ad:(out.map (·.key)).Nodup:=Kpk hnd fun x hx y hy e=>entry_eq_of_key (List.pairwise_map.1 (show(es.toList.map (·.key)).Pairwise (·≠·) from ae)) (hsub x hx) (hsub y hy) e
 rw[hks]at ad;have aa:=Qeh ad
 have ab:∀x∈ks,∃e∈out,e.key=lbV x:=fun x hx=>by
  have:lbV x∈out.map (·.key):=by rw[hks];exact iO hx
  obtain⟨e,he,hk⟩:=it.1 this;exact⟨e,he,hk⟩
 have ac:∀e∈es.toList,∀x,e.key=lbV x->x∈keysOf S:=fun e he x hk=>by obtain⟨y,_,hy,hf,_⟩:=h.k e he;rw[hk]at hy;rw[Kfa hy];exact Kjs.1 hf
 refine⟨aa,fun x hx=>?_,fun hall x=>⟨fun hx=>?_,fun hx=>?_⟩,?_⟩
 .obtain ⟨e,he,hk⟩:=ab x hx;exact ac e (hsub e he) x hk
 .obtain ⟨e,he,hk⟩:=ab x hx;exact ac e (hsub e he) x hk
 .obtain ⟨e,he,hk⟩:=h.a x (Kjs.2 hx)
  have:lbV x∈ks.map lbV:=by rw[<-hks,<-hk];exact iO (hall e he)
  obtain⟨y,hy,e1⟩:=it.1 this;rw[<-Kfa e1];exact hy
 .obtain ⟨L,hL⟩:∃L:List Lb,es.toList.map (·.key)=L.map lbV:=by
   have:∀l:List MapEntry,(∀e∈l,∃x,e.key=lbV x)->∃L:List Lb,l.map (·.key)=L.map lbV:=by
    intro l
    induction l with
    | nil=>intro _;exact⟨[],rfl⟩
    | cons e l ih=>
     intro hl;obtain⟨x,hx⟩:=hl e (by simp);obtain⟨L,hL⟩:=ih fun e he=>hl e (by simp[he])
     exact⟨x :: L,by simp[hx,hL]⟩
   exact this _ fun e he=>by obtain⟨x,_,hk,_⟩:=h.k e he;exact⟨x,hk⟩
  have h1:=Ksi ks L aa fun x hx=>by
   obtain⟨e,he,hk⟩:=ab x hx;have:lbV x∈L.map lbV:=by rw[<-hL,<-hk];exact iO (hsub e he)
   obtain⟨y,hy,e1⟩:=it.1 this;rw[<-Kfa e1];exact hy
  have h2:=jR jc hL;rw[iz,iz]at h2;have h3:es.toList.length=es.size:=by simp
  omega
structure LK where
 a:ByteArray
 b:ByteArray
def mkP (p:LK):Value:=.agg #[.string p.a,.string p.b]
theorem Qie (x:Lb):lbV x=mkP ⟨⟨x.n.toArray⟩,⟨x.v.toArray⟩⟩:=rfl
theorem Qii {p:LK}{x:Lb}(h:mkP p=lbV x):p.a=⟨x.n.toArray⟩/\p.b=⟨x.v.toArray⟩:=by obtain⟨a,b⟩:=p;unfold mkP lbV at h;simp at h;exact⟨h.1,h.2⟩
theorem Kyl (S:List (List Lb)) (b n B:Nat) (es:Array MapEntry) (clock:Nat) (w:World) (h:LMap w B b (Kan S) n es clock) (hn:n<=1099511627776) (hS:S.length<=1099511627776) (hz:(Kcx S).length<=35184372088832) :
  Calls prog 45 #[.map (some b)] w fun e w'=>e = .returned (.string ⟨(Kcx S).toArray⟩)/\Below w.heap.size w w':=by
 obtain⟨i0,b3,cf,bO,bX⟩:=info_parts Knr
 have bF:∀e∈es.toList,∃p,e.key=mkP p:=fun e he=>by obtain⟨x,_,hk,_⟩:=h.k e he;exact⟨_,hk.trans (Qie x)⟩
 have H:=Jh h;have b6:=Jh bF;have HZ:=Jh hz;have b2:es.size<=1099511627776:=iC h.sz hn;have hh:=h.h;have a9:=h.st;clear h bF hz;go_enter func45,ntmps45
 go_wp2_with (at_range;refine Kog rfl _ 104 rfl 99 69 underlying104 rfl hh a9 ?_;intro w0 hrg0 hg0 hs0)
 obtain⟨r,hr⟩:=jF w.heap.size;have b5:Below r w w0:=⟨hg0.os,hg0.tape,hg0.output,hg0.size,fun k hk=>hg0.block k (by omega) (by simp)⟩;rw[hr]at hrg0 |-;have HR:=Jh hr;have bP:=Jh a9;clear hr hs0 hg0 hh a9;go_frame
 go_loopg [3] es.size (fun g s3 wr=>∃(out:List MapEntry) (cnt:Nat) (ks:List Lb) (v3:Value),v3=s3/\cnt<=g/\RIt wr b r es clock out cnt/\out.map (·.key)=ks.map lbV/\wr.ownsRow (r+1) 99 2 v3 ks.length (ks.flatMap encLb)/\Below r w wr)
 case atStart=>exact⟨[],es.size,[],_,rfl,iy _,hrg0,rfl,jZ _ _ _ _,b5⟩
 case round=>
  obtain⟨out,cnt,ks,v3,rfl,hcg,aj,bH,ac,hB⟩:=hrel;have a4:=Jh bH;clear bH;go_wp2_with (at_next;refine Kqj rfl _ rfl mkP b r es clock out cnt bP.out b6.out rfl aj ?_ ?_)
  .intro hao;have ab:=hao.all;obtain⟨k1,k2,k3,k4⟩:=Kvp H.out aj.nd aj.sub a4.out;have hL:LMap wr B b (Kan S) n es clock:=H.out.below (HR.out.symm▸hB);have be:=Jh (Krc ks (r+1) v3 wr ac (by omega));have bN:=Jh k1;have b0:=Jh (k3 ab);obtain⟨A,cap,rfl⟩:=Kah ac;obtain⟨m,hm⟩:=jF ks.length;have HM:=Jh hm;have ca:m<=1099511627776:=by omega
   rw[hm]at be ac |-;have HL:=Jh hL;have aC:=Jh ac;have HB:=Jh hB;clear hao ab k1 k2 k3 k4 hL hm ac hB aj;go_wp2_with fail
   refine be.out.mono ?_;rintro e w3 ⟨rfl,l',hp,hs,aa,ak⟩;have hK:=Kyh bN.out b0.out hp hs;have hl'm:l'.length=m:=hp.length_eq.trans HM.out;rw[hl'm]at aa;have aG:Below r w w3:=HB.out.trans ⟨ak.os,ak.tape,ak.output,ak.size,fun j hj=>ak.block j (by have:=HB.out.size;rw[HR.out]at this;omega) (fun e=>by have:=(ki aC.out j e.symm).1;omega)⟩;have bL:LMap w3 B b (Kan S) n es clock:=HL.out.kept ak (fun q e=>by obtain⟨bR,hc⟩:=Kax aC.out e;exact⟨bR,_,hc,by decide⟩);obtain⟨A',bY,he,bd,_,_⟩:=Elems.of_own (fun x _=>Kca x) rfl aa hl'm;injection he with heA _ hec;subst heA hec;have hu:=Kav m (by omega) w3;obtain⟨U,hU⟩:∃U:ByteArray,(⟨(uintT m).toArray⟩:ByteArray)=U:=⟨_,rfl⟩;have br:U.data.toList=uintT m:=by rw[<-hU]
   rw[hU]at hu;have HU:=Jh hu;have bZ:=Jh br;have HK:=Jh hK;have aI:=Jh hl'm;have bm:=Jh aG;have b1:=Jh bd;have cb:=Jh bL;clear hU hu br hK hl'm aG bd bL aa ak hp hs;go_wp2_with fail
   refine HU.out.mono ?_;rintro e w4 ⟨rfl,aw⟩;have bc:=Jh (bm.out.trans (aw.mono (by have:=bm.out.size;rw[HR.out]at this;omega)));have bp:=Jh ((b1.out.below aw).more aw.size);have aZ:=Jh (cb.out.below aw);have bB:uintT m++l'.flatMap (keyT S)=Kcx S:=by unfold Kcx;rw[HK.out,<-HK.out,aI.out]
   have bD:=Jh bB;clear aw bB;go_wp2_with fail
   go_loopg [5,28] m (fun g s5 s28 wz=>∃(i:Nat) (Z:ByteArray),i+g=m/\s28 = .int .i64 (i:Int)/\s5 = .string Z/\Z.data.toList=uintT m++(l'.take i).flatMap (keyT S)/\Below w4.heap.size w4 wz)
   case atStart=>exact⟨0,U,by omega,rfl,rfl,by rw[bZ.out];simp,Below.refl _ _⟩
   case round=>
    obtain⟨i,Z,bI,rfl,rfl,hZ,aH⟩:=hrel;have aQ:=Jh bI;have a5:=Jh hZ;obtain⟨wz,rfl⟩:=jG wr;clear bI hZ
    by_cases hi:i<m
    .have ay:i<l'.length:=by have:=aI.out;omega
     have el:decide ((i:Int)<(m:Int))=true:=by simp;omega
     have bM:decide (i<m)=true:=by simp;omega
     obtain⟨bk,ok,rfl,_,_⟩:=bp.out.2 (by omega);obtain⟨hbl,c0,c1⟩:=Kbk bp.out (by omega) aH i ay;have ai:l'[i]!∈l':=by rw[jI l' i ay];exact iG ay
     have aM:l'.take (i+1)=l'.take i ++ [l'[i]!]:=by rw[jI l' i ay];exact(jk ay).symm
     obtain⟨x,hx⟩:∃x,l'[i]! = x:=⟨_,rfl⟩;rw[hx]at c0 c1 ai aM
     have ae:(uintT m++(l'.take (i+1)).flatMap (keyT S)).length<=35184372088832:=by
      have h1:=HZ.out;rw[<-bD.out,iD]at h1;rw[iD]
      have h2:((l'.take (i+1)).flatMap (keyT S)).length<=(l'.flatMap (keyT S)).length:=by
       have:l'.flatMap (keyT S)=(l'.take (i+1)).flatMap (keyT S)++(l'.drop (i+1)).flatMap (keyT S):=by rw[<-iA,iK]
       rw[this,iD];omega
      omega
     rw[aM,iA,iI,<-iF,<-a5.out]at ae;have bE:keyT S x=textT x.n++(textT x.v++postT (Kan S x)):=rfl;rw[bE]at ae;simp only[iD]at ae;have bn:Z.data.toList.length=Z.size:=rfl;rw[bn]at ae;obtain⟨N,hN⟩:∃N:ByteArray,(⟨x.n.toArray⟩:ByteArray)=N:=⟨_,rfl⟩;obtain⟨V,hV⟩:∃N:ByteArray,(⟨x.v.toArray⟩:ByteArray)=N:=⟨_,rfl⟩;have ba:N.data.toList=x.n:=by rw[<-hN]
     have bf:V.data.toList=x.v:=by rw[<-hV]
     rw[hN]at c0;rw[hV]at c1;have bv:lbV x = .agg #[.string N,.string V]:=by unfold lbV;rw[hN,hV]
     have bx:x∈keysOf S:=by rw[<-HK.out];exact ai
     obtain⟨aF,e0,ap,ag⟩:(x.n.length<=1099511627776/\x.v.length<=1099511627776)/\∃e0,e0∈es.toList/\e0.key=lbV x:=by obtain⟨e0,ap,ag⟩:=aZ.out.a x (Kjs.2 bx);obtain⟨y,bU,hy,_⟩:=aZ.out.k e0 ap;rw[ag]at hy;rw[Kfa hy];exact⟨bU,e0,ap,by rw[ag,Kfa hy]⟩
     have aE:=Jh aF;have bh:=Jh ap;have bg:=Jh ag;have bW:=Jh bv;have b4:=Jh aM;have bb:=Jh ba;have bG:=Jh bf;clear hx hN hV ba bf bv bx aF ap ag aM bn bE ai;go_upto_region 11 with fail
     have aT:Below wz.heap.size wz (wz.alloc (.cells #[.string N,.string V] 99)):=(Below.refl _ _).alloc (iy _) _;have hq:Blk (wz.alloc (.cells #[.string N,.string V] 99)) wz.heap.size 99 #[.string N,.string V]:=kc _ _ _;obtain⟨w5,bK⟩:=jF (wz.alloc (.cells #[.string N,.string V] 99));rw[bK]at aT hq |-;obtain⟨p,hp⟩:=jF wz.heap.size;rw[hp]at hq |-;have a1:=then_ aH aT;have aB:=aZ.out.below a1;clear bK hp c0 c1 aT aH;have q0:_=some (j3 N):=hq.cell 0;have q1:_=some (j3 V):=hq.cell 1;obtain⟨kl,aL⟩:=Knx x (by have:=aE.out.1;unfold maxLen;omega) (by have:=aE.out.2;unfold maxLen;omega);have ad:=Qbk aB.h (Qaa aB) aL bh.out bg.out aB.st.2.2;rw[bW.out]at ad;obtain⟨y,_,hy,bQ,av⟩:=aB.k e0 bh.out;rw[bg.out]at hy;obtain rfl:y=x:=(Kfa hy).symm;obtain⟨A2,c2,bj,bl,_,_⟩:=Elems.of_own (fun (x:Nat) _=>(rfl:(encN x).length=1)) rfl av rfl;rw[bj]at ad;have bt:(Kan S y).Pairwise (· < ·):=by unfold Kan;exact List.pairwise_lt_range.filter _
     have bC:∀z∈Kan S y,z<=1099511627776:=fun z hz=>by unfold Kan at hz;have:=i4.1 (List.mem_filter.1 hz).1;omega
     have aA:=Kne S y;have bo:=Jh (Kto (Kan S y) A2 (Kan S y).length c2 w5 bl (by omega) bt bC);obtain⟨PT,a0⟩:∃N:ByteArray,(⟨(postT (Kan S y)).toArray⟩:ByteArray)=N:=⟨_,rfl⟩;obtain⟨n2,aW⟩:=jF ((Kan S y).length);have aS:PT.data.toList=postT (Kan S y):=by rw[<-a0]
     have bz:PT.size=(postT (Kan S y)).length:=by rw[<-Kai,aS]
     rw[a0,aW]at bo;rw[aW]at ad;have b8:=Jh aS;have HQ:=Jh hq;rw[<-bz]at ae;clear hy bQ av bj bl bt bC aA a0 aW bz aS aB aL;go_wp2_with fail
     refine bo.out.mono ?_;rintro _ w6 ⟨rfl,aP⟩;have aN:=HQ.out.below aP HQ.out.lt;have cc:=then_ a1 aP;have q0:w6.cell? ⟨p,0,none⟩=some (j3 N):=aN.cell 0;have q1:w6.cell? ⟨p,1,none⟩=some (j3 V):=aN.cell 1;have hp6:=aN.lt;have bq:N.size<=140737488351232:=by rw[<-Kai,bb.out];have:=aE.out.1;omega
     have bi:V.size<=140737488351232:=by rw[<-Kai,bG.out];have:=aE.out.2;omega
     have aV:=Jh (fun u:Later w6=>Kfk N bq u.w);have a7:=Jh (fun u:Later w6=>Kfk V bi u.w);rw[bb.out]at aV;rw[bG.out]at a7;obtain⟨T1,aO⟩:∃N:ByteArray,(⟨(textT y.n).toArray⟩:ByteArray)=N:=⟨_,rfl⟩;obtain⟨T2,a2⟩:∃N:ByteArray,(⟨(textT y.v).toArray⟩:ByteArray)=N:=⟨_,rfl⟩;have ah:T1.data.toList=textT y.n:=by rw[<-aO]
     have al:T2.data.toList=textT y.v:=by rw[<-a2]
     have aq:T1.size=(textT y.n).length:=by rw[<-Kai,ah]
     have aD:T2.size=(textT y.v).length:=by rw[<-Kai,al]
     rw[aO]at aV;rw[a2]at a7;rw[<-aq,<-aD]at ae;have aR:=Jh ah;have a8:=Jh al;clear aO a2 aq aD ah al bq bi aN hq aP ad a1;go_upto_region 12 with fail
     refine Kaa (by kernel_rfl) (by kernel_rfl) ?_
     repeat (go_big_quiet_step ((first | (go_at_call 112;first | with_reducible exact Kaj _ (aV.out _) | with_reducible exact Kaj _ (a7.out _)))))
     refine kk ?_;rintro w7 ⟨⟨_,bV⟩,rfl⟩;go_wp2_with fail
     go_roundg (gk - 1)
     case measure=>have:=aQ.out;omega
     case rel=>
      refine⟨i+1,_,by have:=aQ.out;omega,by go_num,rfl,?_,then_ cc bV⟩;rw[b4.out,iA,iI,<-iF,<-a5.out];show _=_++keyT S y
      unfold keyT;simp only[j7,jv,aR.out,a8.out,b8.out,iF]
    .have el:decide ((i:Int)<(m:Int))=false:=by simp;omega
     have bM:decide (i<m)=false:=by simp;omega
     have bs:i=m:=by have:=aQ.out;omega
     have az:(⟨(Kcx S).toArray⟩:ByteArray)=Z:=by have h1:=a5.out;rw[bs,<-aI.out,iW,aI.out,bD.out]at h1;rw[<-h1]
     have HF:=Jh az;have b9:=Jh (bc.out.trans (aH.mono (by have:=bc.out.size;rw[HR.out]at this;omega)));clear az bs;go_wp2_with fail
     go_ret
     rw[HF.out];exact⟨rfl,by rw[HR.out];exact b9.out⟩
  .intro p v w2 hco;obtain⟨e,aX,he,ce,bA,bS,am,hlt⟩:=hco.ex;have ao:=hco.g;have bw:=hco.run;obtain⟨x,aF,aK,b7,_⟩:=H.out.k e he;have ar:=aK;rw[bA]at aK;obtain⟨hX,hY⟩:=Qii aK;obtain⟨X,Y⟩:=p;dsimp only at hX hY;have bJ:Below r w w2:=hB.trans ⟨ao.os,ao.tape,ao.output,ao.size,fun j hj=>ao.block j (by have:=hB.size;rw[HR.out]at this;omega) (fun e=>by injection e with e;omega)⟩;have af:w2.ownsRow (r+1) 99 2 v3 ks.length (ks.flatMap encLb):=ac.kept ao (.inr fun e=>by have:=(ac.lt r e).1;omega);have aL:=(Kvp H.out aj.nd aj.sub a4.out).2.2.2;have hr2:r<w2.heap.size:=am.rlt;have hbr:b<r:=by have:=(j9.1 H.out.h).1;have:=HR.out;omega
   obtain⟨m,hm⟩:=jF ks.length;rw[hm]at aL af;have HM:=Jh hm;have HX:=Jh hX;have HY:=Jh hY;have cd:=Jh ar;have a3:(Instr.entry (.pointer (some ⟨r,0,none⟩))).run prog w2 = .ok (.tuple #[.agg #[.string X,.string Y],v]) w2:=bw;clear hco aK ar hX hY ac aj hm ao hB bw bA bS ce b7 aF he;unfold mkP;dsimp only;go_upto_region 5 with fail
   have aJ:Below w2.heap.size w2 (w2.alloc (.cells #[.string X,.string Y] 99)):=(Below.refl _ _).alloc (iy _) _;have hq:Blk (w2.alloc (.cells #[.string X,.string Y] 99)) w2.heap.size 99 #[.string X,.string Y]:=kc _ _ _;obtain⟨w3,aY⟩:=jF (w2.alloc (.cells #[.string X,.string Y] 99));rw[aY]at aJ hq |-;obtain⟨p,hp⟩:=jF w2.heap.size;have aa:w3.ownsRow (r+1) 99 2 v3 m (ks.flatMap encLb):=by rw[<-aY];exact af.alloc _
   have an:=am.below aJ;have aG:Below r w w3:=bJ.trans (aJ.mono (by omega));rw[hp]at hq |-;have q0:_=some (j3 X):=hq.cell 0;have q1:_=some (j3 Y):=hq.cell 1;have hr3:r<w3.heap.size:=an.rlt;clear hp aY aJ af am bJ a3;go_wp2_with (at_builtin;refine km _ rfl _ _ 54 rfl (r+1) 99 i0 (.agg #[.string ⟨#[]⟩,.string ⟨#[]⟩]) 2 32 underlying54 b3 cf bO bX rfl (by decide) _ _ _ rfl (aa.alloc _) ⟨w3.heap.size,0,none⟩ 1 1 [.string X,.string Y] rfl rfl ?p1 ?p2 ?p3 ?p4 ?p5 ?_)
   case p1=>exact Kam (l:=[.string X,.string Y]) (kc w3 _ _)
   case p2=>intro u hu;simp at hu;rcases hu with rfl | rfl <;> rfl
   case p3=>unfold maxLen;omega
   case p4=>omega
   case p5=>simp;omega
   intro v' w4 hown' hgrow _ _;have ab:w3.grownBy w4 v3.ownBlock:=(jY w3 _ _).trans hgrow;have bT:Below r w w4:=aG.trans ⟨ab.os,ab.tape,ab.output,ab.size,fun j hj=>ab.block j (by omega) (fun e=>by have:=(aa.lt j e.symm).1;omega)⟩;have a6:=an.kept ab (fun e=>by have:=(aa.lt b e.symm).1;omega) (fun e=>by have:=(aa.lt r e.symm).1;omega)
   have ax:w4.ownsRow (r+1) 99 2 v' (ks ++ [x]).length ((ks ++ [x]).flatMap encLb):=by
    have e1:(ks ++ [x]).flatMap encLb=ks.flatMap encLb ++ [.string X,.string Y]:=by rw[iA];simp[encLb,HX.out,HY.out]
    rw[e1,iD,HM.out];exact hown'
   have aU:=Jh (show(out ++ [e]).map (·.key)=(ks ++ [x]).map lbV by rw[iQ,iQ,a4.out];simp[cd.out]);clear hown' hgrow ab aa an q0 q1 hq;go_wp2_with fail
   go_roundg (gk - 1)
   case measure=>omega
   case rel=>exact⟨out ++ [e],aX,ks ++ [x],_,rfl,by omega,a6,aU.out,ax,bT⟩
end
section
open Go.RowKit
open Lib renaming hid -> Jh
attribute [local go_sem ↓] Go.wp_at_zero Go.wp_at_succ
attribute [local go_sem] Later.cell
theorem Elems.get {α : Type}[Inhabited α] {w:World}{B sz n:Nat}{enc:α->List Value}{A:Option Addr}{xs:List α}(h:Elems w B sz enc A n xs) {i:Nat}(hi:i<n):∃b off,A=some ⟨b,off,none⟩/\b<B/\∀j v,(enc xs[i]!)[j]? = some v->w.cell? ⟨b,off+i*sz+j,none⟩=some v:=by
 obtain⟨b,off,e,hb,hc⟩:=h.2 (by omega);have hl:i<xs.length:=by have:=h.len;omega
 refine⟨b,off,e,hb,fun j v hv=>hc i xs[i]! (by rw[jI xs i hl];exact is hl) j v hv⟩
def Kiv (w:World) (b:Nat) (h:Hd3) (x:Ser):Prop:=Blk w b 58 #[.slice h.l.A h.l.n h.l.c,.slice h.s.A h.s.n h.s.c,.slice h.w.A h.w.n h.w.c]/\SerAt w h x
theorem Qff (w:World) (b:Nat) (h:Hd3) (x:Ser) (hb:Kiv w b h x) (hn:h.s.n<=1099511627776) (i:Nat) (hi:i<h.s.n) :
  Calls prog 163 #[.int .i64 (i:Int),.pointer (some ⟨b,0,none⟩)] w fun e w'=>e = .returned (.int .i64 (x.samples[i]!).t)/\w=w':=by
 obtain⟨bb,ac,hA,hlt,hc⟩:=hb.2.s.get hi;have c1:w.cell? ⟨b,1,none⟩=some (.slice h.s.A h.s.n h.s.c):=hb.1.cell 1;have d0:w.cell? ⟨bb,ac+i*2,none⟩=some (.int .i64 (x.samples[i]!).t):=hc 0 _ rfl;obtain⟨t,ht⟩:=jF ((x.samples[i]!).t);rw[ht]at d0 |-;rw[hA]at c1;obtain⟨n,aa⟩:=jF h.s.n;obtain⟨c,ab⟩:=jF h.s.c;rw[aa]at hn hi c1;rw[ab]at c1;clear hb hc hA ht aa ab;have hi':(i:Int)<(n:Int):=by omega
 go_enter func163,ntmps163
 go_wp2_with fail
 go_ret
 exact⟨rfl,rfl⟩
theorem Qfg (w:World) (b:Nat) (h:Hd3) (x:Ser) (hb:Kiv w b h x) (hn:h.w.n<=1099511627776) (i:Nat) (hi:i<h.w.n) :
  Calls prog 164 #[.int .i64 (i:Int),.pointer (some ⟨b,0,none⟩)] w fun e w'=>e = .returned (.int .i64 (x.windows[i]!).start)/\w=w':=by
 obtain⟨bb,ac,hA,hlt,hc⟩:=hb.2.w.get hi;have c1:w.cell? ⟨b,2,none⟩=some (.slice h.w.A h.w.n h.w.c):=hb.1.cell 2;have d0:w.cell? ⟨bb,ac+i*6,none⟩=some (.int .i64 (x.windows[i]!).start):=hc 0 _ rfl;obtain⟨t,ht⟩:=jF ((x.windows[i]!).start);rw[ht]at d0 |-;rw[hA]at c1;obtain⟨n,aa⟩:=jF h.w.n;obtain⟨c,ab⟩:=jF h.w.c;rw[aa]at hn hi c1;rw[ab]at c1;clear hb hc hA ht aa ab;have hi':(i:Int)<(n:Int):=by omega
 go_enter func164,ntmps164
 go_wp2_with fail
 go_ret
 exact⟨rfl,rfl⟩
def badAt (f t:Int) (l:List Int) (i:Nat):Bool:=decide (l[i]! < f) || decide (t<=l[i]!) || (decide (0<i) && decide (l[i]!<=l[i - 1]!))
theorem Qcr (f t:Int):∀l:List Int,Kcp f t l=true↔l≠[]/\∀i,i<l.length->badAt f t l i=false:=by
 have aa:∀l:List Int,riseI l=true↔∀i,i+1<l.length->l[i]! < l[i+1]!:=by
  intro l
  induction l with
  | nil=>simp[riseI]
  | cons a l ih=>
   cases l with
   | nil=>simp[riseI]
   | cons b l=>
    rw[riseI,iB,jH,ih];constructor
    .rintro ⟨h1,h2⟩ i hi
     cases i with
     | zero=>simpa using h1
     | succ i=>simpa using h2 i (by simpa using hi)
    .intro h;refine⟨by simpa using h 0 (by simp),fun i hi=>?_⟩;simpa using h (i+1) (by simpa using hi)
 intro l;unfold Kcp;rw[iB,iB,jH,aa,List.all_eq_true];constructor
 .rintro ⟨⟨h0,h1⟩,h2⟩;refine⟨h0,fun i hi=>?_⟩;have hm:=h1 l[i]! (by rw[jI l i hi];exact iG hi);rw[iB,jH,jH]at hm;unfold badAt;rw[iJ,iJ,jK,jK];refine⟨⟨by omega,by omega⟩,?_⟩
  cases i with
  | zero=>rfl
  | succ i=>
   have:=h2 i (by omega);rw[jt];right;rw[jK,show i+1 - 1=i from rfl];omega
 .rintro ⟨h0,h1⟩;refine⟨⟨h0,fun x hx=>?_⟩,fun i hi=>?_⟩
  .obtain ⟨i,hi,rfl⟩:=jd hx;have:=h1 i hi;unfold badAt at this;rw[iJ,iJ,jK,jK,jI l i hi]at this;rw[iB,jH,jH];omega
  .have:=h1 (i+1) hi;unfold badAt at this;rw[iJ,jt,show i+1 - 1=i from rfl]at this;rcases this.2 with h | h
   .rw[jK]at h;omega
   .rw[jK]at h;omega
def contV (r f t:Int) (h:Hd):Value:=.agg #[.int .i64 r,.int .i64 f,.int .i64 t,.slice h.A h.n h.c]
theorem Kmf (r f t:Int) (h:Hd) (ts:List Int) (g:Nat) (b:Nat) (w:World) (hn:ts.length<=1099511627776) (heg:∀args W,(callFunc g args).run prog W = .ok (.enter g args) W)
  (hT:∀i,i<ts.length->∀W,Below w.heap.size w W->Calls prog g #[.int .i64 (i:Int),.pointer (some ⟨b,0,none⟩)] W fun e w'=>e = .returned (.int .i64 ts[i]!)/\W=w') :
  Calls prog 162 #[contV r f t h,.int .i64 (ts.length:Int),.func (.func g) #[] #[.pointer (some ⟨b,0,none⟩)]] w fun e w'=>e = .returned (.bool (Kcp f t ts))/\Below w.heap.size w w':=by
 obtain⟨n,hl⟩:=jF ts.length;obtain⟨R,hR⟩:=jF (Kcp f t ts);have aa:=Qcr f t ts;rw[hl]at hn hT aa;rw[hl,hR];rw[hR]at aa;have ao:ts≠[]↔0<n:=by rw[<-hl];exact List.length_pos_iff.symm
 rw[ao]at aa;have ah:=Jh aa;have HT:=Jh hT;obtain⟨q,hq⟩:=jF w.heap.size;have ak:Below q w (w.alloc (.cells #[.int .i64 r,.int .i64 f,.int .i64 t,.slice h.A h.n h.c] 28)):=(Below.refl _ _).alloc (by omega) _;have ai:Blk (w.alloc (.cells #[.int .i64 r,.int .i64 f,.int .i64 t,.slice h.A h.n h.c] 28)) q 28 #[.int .i64 r,.int .i64 f,.int .i64 t,.slice h.A h.n h.c]:=ka hq.symm;unfold contV;clear hl hR aa hT ao;go_enter func162,ntmps162
 go_upto_region 1 with fail
 obtain⟨w1,am⟩:=jF (w.alloc (.cells #[.int .i64 r,.int .i64 f,.int .i64 t,.slice h.A h.n h.c] 28));rw[am]at ak ai;rw[am]
 try rw[hq]
 have HQ:=Jh hq;have HB:=Jh ak;clear am hq ak;have c1:w1.cell? ⟨q,1,none⟩=some (.int .i64 f):=ai.cell 1;have c2:w1.cell? ⟨q,2,none⟩=some (.int .i64 t):=ai.cell 2;go_wp2_with fail
 go_loopg [10] n (fun g10 s10 wr=>∃i:Nat,i+g10=n/\s10 = .int .i64 (i:Int)/\wr=w1/\∀j,j<i->badAt f t ts j=false)
 case atStart=>exact⟨0,by omega,rfl,rfl,fun j hj=>by omega⟩
 case round=>
  obtain⟨i,hi,rfl,rfl,af⟩:=hrel;have ae:=Jh af;clear af
  cases gk with
  | zero=>
   have el:decide (i<n)=false:=by rw[jK];omega
   have ac:R=decide ((0:Int)<(n:Int)):=by
    rw[jr,ah.out,jH];constructor
    .intro h;omega
    .intro h;exact⟨by omega,fun j hj=>ae.out j (by omega)⟩
   have ap:=Jh ac;clear ac;go_wp2_with fail
   go_ret
   rw[ap.out];exact⟨by simp,by rw[HQ.out];exact HB.out⟩
  | succ gk=>
   have el:decide (i<n)=true:=by rw[jH];omega
   have HC:=Jh (HT.out i (by omega) wr (by rw[HQ.out];exact HB.out))
   have HP:Hid (0<i->Calls prog g #[.int .i64 ((i:Int) - 1),.pointer (some ⟨b,0,none⟩)] wr fun e w'=>e = .returned (.int .i64 ts[i - 1]!)/\wr=w'):=Jh (fun h=>by
    have:=HT.out (i - 1) (by omega) wr (by rw[HQ.out];exact HB.out)
    rwa[show((i - 1:Nat):Int)=(i:Int) - 1 by omega]at this)
   obtain⟨x,hx⟩:∃x,ts[i]! = x:=⟨_,rfl⟩;obtain⟨y,hy⟩:∃y,ts[i - 1]! = y:=⟨_,rfl⟩;have ag:badAt f t ts i=(decide (x<f) || decide (t<=x) || (decide (0<i) && decide (x<=y))):=by unfold badAt;rw[hx,hy]
   have ab:=Jh ag;rw[hx]at HC;rw[hy]at HP;clear hx hy ag;go_wp2_with fail
   refine HC.out.mono ?_;rintro _ w3 ⟨rfl,rfl⟩
   have ad:badAt f t ts i=true->R=false:=fun hb=>by rw[iT];intro hR;have:=(ah.out.1 hR).2 i (by omega);rw[hb]at this;cases this
   have al:=Jh ad;clear ad
   by_cases h1:x<f
   .have e1:decide (x<f)=true:=jL h1;have ac:R=false:=al.out (by rw[ab.out,e1];rfl);go_wp2_with fail
    go_ret
    rw[ac];exact⟨rfl,by rw[HQ.out];exact HB.out⟩
   have e1:decide (x<f)=false:=jJ h1
   by_cases h2:t<=x
   .have e2:decide (t<=x)=true:=jL h2;have ac:R=false:=al.out (by rw[ab.out,e1,e2];rfl);go_wp2_with fail
    go_ret
    rw[ac];exact⟨rfl,by rw[HQ.out];exact HB.out⟩
   have e2:decide (t<=x)=false:=jJ h2
   have go:∀(h:badAt f t ts i=false) (j:Nat),j<i+1->badAt f t ts j=false:=fun h j hj=>by
    by_cases e:j=i
    .rw[e];exact h
    .exact ae.out j (by omega)
   have GO:=Jh go;clear go
   by_cases h3:0<i
   .have e3:decide ((0:Int)<(i:Int))=true:=by rw[jH];omega
    have an:=Jh (HP.out h3)
    by_cases h4:x<=y
    .have e4:decide (x<=y)=true:=jL h4;have ac:R=false:=al.out (by rw[ab.out,e1,e2,e4,jL h3];rfl);go_wp2_with fail
     refine an.out.mono ?_;rintro _ w4 ⟨rfl,rfl⟩;go_wp2_with fail
     go_ret
     rw[ac];exact⟨rfl,by rw[HQ.out];exact HB.out⟩
    .have e4:decide (x<=y)=false:=jJ h4;have hb:badAt f t ts i=false:=by rw[ab.out,e1,e2,e4,jL h3];rfl
     have aj:=Jh hb;clear hb;go_wp2_with fail
     refine an.out.mono ?_;rintro _ w4 ⟨rfl,rfl⟩;go_wp2_with fail
     go_roundg gk
     case measure=>omega
     case rel=>exact⟨i+1,by omega,by go_num,rfl,GO.out aj.out⟩
   .have e3:decide ((0:Int)<(i:Int))=false:=by rw[jK];omega
    obtain rfl:i=0:=by omega
    have hb:badAt f t ts 0=false:=by rw[ab.out,e1,e2];rfl
    have aj:=Jh hb;clear hb;go_wp2_with fail
    go_roundg gk
    case measure=>omega
    case rel=>exact⟨1,by omega,by go_num,rfl,GO.out aj.out⟩
theorem Kiv.below {w w':World}{b:Nat}{h:Hd3}{x:Ser}(hs:Kiv w b h x) (hb:Below w.heap.size w w'):Kiv w' b h x:=⟨hs.1.below hb hs.1.lt,hs.2.below hb⟩
theorem Kvd (c:Cont) (hd:Hd) (s:Ser) (h:Hd3) (w:World) (hS:SerAt w h s) (hn:s.samples.length<=1099511627776) (hm:s.windows.length<=1099511627776) (hb:∀x∈s.windows,Kcn x) :
  Calls prog 106 #[contV c.res c.frm c.to_ hd,.agg #[.slice h.l.A h.l.n h.l.c,.slice h.s.A h.s.n h.s.c,.slice h.w.A h.w.n h.w.c]] w fun e w'=>e = .returned (.bool (Kdw c s))/\Below w.heap.size w w':=by
 have hmf:∀(fn:Fn) (first cap:Array Value) (w:World),(Instr.makeFunc fn first cap).run prog w = .ok (.func fn first cap) w:=fun _ _ _ _=>rfl
 have aq:s.samples.length=h.s.n:=hS.s.len;have aw:s.windows.length=h.w.n:=hS.w.len;obtain⟨r,hr⟩:=jF c.res;obtain⟨f,hf⟩:=jF c.frm;obtain⟨t,ht⟩:=jF c.to_;obtain⟨R,hR⟩:=jF (Kdw c s);rw[hR,hr,hf,ht];rw[Kdw,hr,hf,ht]at hR;have HR:=Jh hR;obtain⟨q,hq⟩:=jF w.heap.size;have ae:Below q w ((w.alloc (.cells #[.int .i64 r,.int .i64 f,.int .i64 t,.slice hd.A hd.n hd.c] 28)).alloc (.cells #[.slice h.l.A h.l.n h.l.c,.slice h.s.A h.s.n h.s.c,.slice h.w.A h.w.n h.w.c] 58)):=((Below.refl _ _).alloc (by omega) _).alloc (by simp;omega) _;have af:Blk ((w.alloc (.cells #[.int .i64 r,.int .i64 f,.int .i64 t,.slice hd.A hd.n hd.c] 28)).alloc (.cells #[.slice h.l.A h.l.n h.l.c,.slice h.s.A h.s.n h.s.c,.slice h.w.A h.w.n h.w.c] 58)) q 28 #[.int .i64 r,.int .i64 f,.int .i64 t,.slice hd.A hd.n hd.c]:=(ka hq.symm).alloc _;have ah:Blk ((w.alloc (.cells #[.int .i64 r,.int .i64 f,.int .i64 t,.slice hd.A hd.n hd.c] 28)).alloc (.cells #[.slice h.l.A h.l.n h.l.c,.slice h.s.A h.s.n h.s.c,.slice h.w.A h.w.n h.w.c] 58)) (q+1) 58 #[.slice h.l.A h.l.n h.l.c,.slice h.s.A h.s.n h.s.c,.slice h.w.A h.w.n h.w.c]:=ka (by simp;omega);unfold contV;clear hr hf ht hR;go_enter func106,ntmps106
 go_upto_region 1 with fail
 obtain⟨w1,ao⟩:=jF ((w.alloc (.cells #[.int .i64 r,.int .i64 f,.int .i64 t,.slice hd.A hd.n hd.c] 28)).alloc (.cells #[.slice h.l.A h.l.n h.l.c,.slice h.s.A h.s.n h.s.c,.slice h.w.A h.w.n h.w.c] 58));rw[ao]at ae af ah;rw[ao]
 try rw[hq]
 have ax:Kiv w1 (q+1) h s:=⟨ah,hS.below (hq.symm▸ae)⟩;have ak:=Jh ax;have HQ:=Jh hq;have HB:=Jh ae;have hqw:q+1<w1.heap.size:=ah.lt;clear ao hq ae hS ax;have ad:(s.samples.map Smp.t).length=h.s.n:=by rw[iz];exact aq
 have ac:(s.windows.map kg).length=h.w.n:=by rw[iz];exact aw
 have az:=Jh (fun (w2:World) (hb:Below w1.heap.size w1 w2) (i:Nat) (hi:i<(s.samples.map Smp.t).length) (W:World) (hW:Below w2.heap.size w2 W)=>(show Calls prog 163 #[.int .i64 (i:Int),.pointer (some ⟨q+1,0,none⟩)] W fun e w'=>e = .returned (.int .i64 (s.samples.map Smp.t)[i]!)/\W=w' by
  have:=Qff W (q+1) h s ((ak.out.below hb).below hW) (by omega) i (by omega)
  rwa[show(s.samples.map Smp.t)[i]! = (s.samples[i]!).t by rw[jI _ i hi,jB,jI _ i (by omega)]]))
 have ay:=Jh (fun (w2:World) (hb:Below w1.heap.size w1 w2) (i:Nat) (hi:i<(s.windows.map kg).length) (W:World) (hW:Below w2.heap.size w2 W)=>(show Calls prog 164 #[.int .i64 (i:Int),.pointer (some ⟨q+1,0,none⟩)] W fun e w'=>e = .returned (.int .i64 (s.windows.map kg)[i]!)/\W=w' by
  have:=Qfg W (q+1) h s ((ak.out.below hb).below hW) (by omega) i (by omega)
  rwa[show(s.windows.map kg)[i]! = (s.windows[i]!).start by rw[jI _ i hi,jB,jI _ i (by omega)]]))
 have ai:=Jh (fun (w2:World) (hb:Below w1.heap.size w1 w2)=>Kmf r f t hd (s.samples.map Smp.t) 163 (q+1) w2 (by omega) (enters_of func163 (by kernel_rfl) rfl) (az.out w2 hb));have al:=Jh (fun (w2:World) (hb:Below w1.heap.size w1 w2)=>Kmf r f t hd (s.windows.map kg) 164 (q+1) w2 (by omega) (enters_of func164 (by kernel_rfl) rfl) (ay.out w2 hb));rw[ad]at ai;rw[ac]at al;unfold contV at ai al;obtain⟨b1,ae⟩:=jF (Kcp f t (s.samples.map Smp.t));obtain⟨b2,av⟩:=jF (Kcp f t (s.windows.map kg));rw[ae]at ai HR;rw[av]at al HR;rw[aw,aq]at HR;have k0:w1.cell? ⟨q,0,none⟩=some (.int .i64 r):=af.cell 0;have k1:w1.cell? ⟨q,1,none⟩=some (.int .i64 f):=af.cell 1;have k2:w1.cell? ⟨q,2,none⟩=some (.int .i64 t):=af.cell 2;have k3:w1.cell? ⟨q,3,none⟩=some (.slice hd.A hd.n hd.c):=af.cell 3;have s1:w1.cell? ⟨q+1,1,none⟩=some (.slice h.s.A h.s.n h.s.c):=ah.cell 1;have s2:w1.cell? ⟨q+1,2,none⟩=some (.slice h.w.A h.w.n h.w.c):=ah.cell 2;have HEA:=Jh (ak.out.2.w);have HA:=Jh (Kkc s.windows h.w.A h.w.n h.w.c w1 ak.out.2.w (by omega) hb);clear ad ac ae av
 by_cases h0:r=0
 .subst h0;have ab:=HR.out;rw[jN rfl]at ab
  by_cases hw0:h.w.n=0
  .have e0:decide ((h.w.n:Int)=0)=true:=by rw[jH];omega
   rw[hw0]at ab;have aa:R=b1:=by rw[<-ab];simp
   have an:=Jh aa;have HC:=Jh (ai.out w1 (Below.refl _ _));rw[hw0]at s2;clear ab aa;go_wp2_with fail
   refine HC.out.mono ?_;rintro _ w3 ⟨rfl,h3⟩;go_wp2_with fail
   go_ret
   rw[an.out];exact⟨rfl,by rw[HQ.out];exact HB.out.trans (h3.mono (by omega))⟩
  .have e0:decide ((h.w.n:Int)=0)=false:=by rw[jK];omega
   have e1:((h.w.n:Int) == 0)=false:=by simp;omega
   have aa:R=false:=by rw[<-ab,jJ hw0];rfl
   clear ab;go_wp2_with fail
   go_ret
   try rw[aa]
   exact⟨rfl,by rw[HQ.out];exact HB.out⟩
 .have e0:decide (r=0)=false:=jJ h0;have e1:(r == 0)=false:=by simp;omega
  have ab:=HR.out;rw[jM h0]at ab;obtain⟨T,k,ag⟩:∃T k,aggO s.windows=(T,k):=⟨_,_,rfl⟩;rw[ag]at HA
  have hk:k=0↔Kci wnd0 true s.windows=true:=by
   rw[<-Kkl];unfold aggO at ag
   split at ag
   .rename_i hz
    injection ag with _ h2;rw[<-h2,hz]
   .injection ag with _ h2;rw[<-h2]
  dsimp only at HA;obtain⟨X,hX⟩:∃X:ByteArray,(⟨T.toArray⟩:ByteArray)=X:=⟨_,rfl⟩;rw[hX]at HA;have am:=Jh ab;have HK:=Jh hk;clear ag hX ab hk;have ap:=Jh af;have ar:=Jh ah;go_wp2_with fail
  refine HA.out.mono ?_;rintro _ w2 ⟨rfl,h2⟩;have HC:=Jh (al.out w2 h2);have g2:=ar.out.below h2 ar.out.lt;have f2:=ap.out.below h2 ap.out.lt;have k0:w2.cell? ⟨q,0,none⟩=some (.int .i64 r):=f2.cell 0;have k1:w2.cell? ⟨q,1,none⟩=some (.int .i64 f):=f2.cell 1;have k2:w2.cell? ⟨q,2,none⟩=some (.int .i64 t):=f2.cell 2;have k3:w2.cell? ⟨q,3,none⟩=some (.slice hd.A hd.n hd.c):=f2.cell 3;have s1:w2.cell? ⟨q+1,1,none⟩=some (.slice h.s.A h.s.n h.s.c):=g2.cell 1;have s2:w2.cell? ⟨q+1,2,none⟩=some (.slice h.w.A h.w.n h.w.c):=g2.cell 2;have aj:=Jh (HB.out.trans (h2.mono (by omega)));clear f2 g2 h2
  by_cases hk0:k=0
  .subst hk0
   by_cases hs0:h.s.n=0
   .have aa:R=b2:=by rw[<-am.out,HK.out.1 rfl,hs0];simp
    have an:=Jh aa;rw[hs0]at s1;clear aa;go_wp2_with fail
    refine HC.out.mono ?_;rintro _ w3 ⟨rfl,h3⟩;go_wp2_with fail
    go_ret
    rw[an.out];exact⟨rfl,by rw[HQ.out];exact aj.out.trans (h3.mono (by have:=aj.out.size;have:=HQ.out;omega))⟩
   .have e2:decide ((h.s.n:Int)=0)=false:=by rw[jK];omega
    have e3:((h.s.n:Int) == 0)=false:=by simp;omega
    have aa:R=false:=by rw[<-am.out,jJ hs0];simp
    go_wp2_with fail
    go_ret
    try rw[aa]
    exact⟨rfl,by rw[HQ.out];exact aj.out⟩
  .have e2:((k:Int) == 0)=false:=by simp;omega
   have e3:decide ((k:Int)=0)=false:=by rw[jK];omega
   have hf:Kci wnd0 true s.windows=false:=by rw[iT];exact fun h=>hk0 (HK.out.2 h)
   have aa:R=false:=by rw[<-am.out,hf];rfl
   clear hf;go_wp2_with fail
   go_ret
   try rw[aa]
   exact⟨rfl,by rw[HQ.out];exact aj.out⟩
structure SerSz (s:Ser):Prop where
 n:s.samples.length<=1099511627776
 m:s.windows.length<=1099511627776
 l:s.labels.length<=1099511627776
 v:∀x∈s.samples,x.v<2 ^ 64
 b:∀x∈s.windows,Kcn x
 z:∀x∈s.labels,x.n.length<=1099511627776/\x.v.length<=1099511627776
def okAt (c:Cont) (i:Nat):Bool:=Kcm (c.series[i]!).labels && ((decide (i=0) || decide (cmpL (c.series[i - 1]!).labels (c.series[i]!).labels<0)) && Kdw c (c.series[i]!))
theorem Qag:∀l:List Ser,ordS l=true↔∀i,i+1<l.length->cmpL (l[i]!).labels (l[i+1]!).labels<0
 | []=>by simp[ordS]
 | [_]=>by simp[ordS]
 | a :: b :: l=>by
  rw[ordS,iB,jH,Qag (b :: l)];constructor
  .rintro ⟨h1,h2⟩ i hi
   cases i with
   | zero=>simpa using h1
   | succ i=>simpa using h2 i (by simpa using hi)
  .intro h;refine⟨by simpa using h 0 (by simp),fun i hi=>?_⟩;simpa using h (i+1) (by simpa using hi)
theorem Kqq (c:Cont):fitB c=true↔(0<=c.res/\c.res<3/\0<=c.frm/\c.frm<c.to_/\c.to_<=1125899906842625)/\∀i,i<c.series.length->okAt c i=true:=by
 rw[Khi,Qag];constructor
 .rintro ⟨h1,h2,h3,h4,h5,h6,h7⟩;refine⟨⟨h1,h2,h3,h4,h5⟩,fun i hi=>?_⟩;have hm:=h6 c.series[i]! (by rw[jI _ i hi];exact iG hi);unfold okAt;rw[hm.1,hm.2,Bool.true_and,Bool.and_true,jD,jH,jH]
  cases i with
  | zero=>exact .inl rfl
  | succ i=>exact .inr (h7 i hi)
 .rintro ⟨⟨h1,h2,h3,h4,h5⟩,h6⟩;refine⟨h1,h2,h3,h4,h5,fun s hs=>?_,fun i hi=>?_⟩
  .obtain ⟨i,hi,rfl⟩:=jd hs;have:=h6 i hi;unfold okAt at this;rw[iB,iB,jI _ i hi]at this;exact⟨this.1,this.2.2⟩
  .have:=h6 (i+1) hi;unfold okAt at this;rw[iB,iB,jD,jH,jH]at this;rcases this.2.1 with h | h
   .omega
   .exact h
theorem Qdr (c:Cont) (hd:Hd) (w:World) (hS:Sers w hd.A hd.n c.series) (hz:∀s∈c.series,SerSz s) (hn:hd.n<=1099511627776) :
  Calls prog 38 #[contV c.res c.frm c.to_ hd] w fun e w'=>e = .returned (.bool (fitB c))/\Below w.heap.size w w':=by
 have ao:c.series.length=hd.n:=hS.len;obtain⟨r,hr⟩:=jF c.res;obtain⟨f,hf⟩:=jF c.frm;obtain⟨t,ht⟩:=jF c.to_;obtain⟨R,hR⟩:=jF (fitB c);have aw:=Kqq c;have ac:=fun (s:Ser) (h:Hd3) (w:World) (hs:SerAt w h s) (hz:SerSz s)=>Kvd c hd s h w hs hz.n hz.m hz.b
 unfold contV at ac;rw[hR,hr,hf,ht,ao]at aw;rw[hR,hr,hf,ht];rw[hr,hf,ht]at ac;obtain⟨A,hA⟩:=jF hd.A;obtain⟨n,am⟩:=jF hd.n;obtain⟨cc,aD⟩:=jF hd.c;unfold contV;rw[hA,am,aD]at ac;rw[hA,am]at hS;rw[am]at aw hn ao;rw[hA,am,aD];have aY:=Jh ac;have aP:=Jh aw;have HS:=Jh hS;have HZ:=Jh hz;obtain⟨q,hq⟩:=jF w.heap.size;have aI:Below q w (w.alloc (.cells #[.int .i64 r,.int .i64 f,.int .i64 t,.slice A n cc] 28)):=(Below.refl _ _).alloc (by omega) _;have ad:Blk (w.alloc (.cells #[.int .i64 r,.int .i64 f,.int .i64 t,.slice A n cc] 28)) q 28 #[.int .i64 r,.int .i64 f,.int .i64 t,.slice A n cc]:=ka hq.symm;clear ac aw hS hz hA am aD hr hf ht hR;go_enter func38,ntmps38
 go_upto_region 1 with fail
 obtain⟨w1,aM⟩:=jF (w.alloc (.cells #[.int .i64 r,.int .i64 f,.int .i64 t,.slice A n cc] 28));rw[aM]at aI ad;rw[aM]
 try rw[hq]
 have HQ:=Jh hq;have HB:=Jh aI;have HK:=Jh ad;have hqw:q<w1.heap.size:=ad.lt;have k0:w1.cell? ⟨q,0,none⟩=some (.int .i64 r):=ad.cell 0;have k1:w1.cell? ⟨q,1,none⟩=some (.int .i64 f):=ad.cell 1;have k2:w1.cell? ⟨q,2,none⟩=some (.int .i64 t):=ad.cell 2;have k3:w1.cell? ⟨q,3,none⟩=some (.slice A n cc):=ad.cell 3;clear aM hq aI ad
 have no:∀(h:¬(0<=r/\r<3/\0<=f/\f<t/\t<=1125899906842625)),R=false:=fun h=>by rw[iT];exact fun hR=>h (aP.out.1 hR).1
 have NO:=Jh no;clear no
 by_cases h1:r<0
 .have aa:=NO.out (by omega);have e1:decide (r<0)=true:=jL h1;go_wp2_with fail
  go_ret
  try rw[aa]
  exact⟨rfl,by rw[HQ.out];exact HB.out⟩
 have e1:decide (r<0)=false:=jJ h1
 by_cases h2:3<=r
 .have aa:=NO.out (by omega);have e2:decide (3<=r)=true:=jL h2;go_wp2_with fail
  go_ret
  try rw[aa]
  exact⟨rfl,by rw[HQ.out];exact HB.out⟩
 have e2:decide (3<=r)=false:=jJ h2
 by_cases h3:f<0
 .have aa:=NO.out (by omega);have e3:decide (f<0)=true:=jL h3;go_wp2_with fail
  go_ret
  try rw[aa]
  exact⟨rfl,by rw[HQ.out];exact HB.out⟩
 have e3:decide (f<0)=false:=jJ h3
 by_cases h4:t<=f
 .have aa:=NO.out (by omega);have e4:decide (t<=f)=true:=jL h4;go_wp2_with fail
  go_ret
  try rw[aa]
  exact⟨rfl,by rw[HQ.out];exact HB.out⟩
 have e4:decide (t<=f)=false:=jJ h4
 by_cases h5:1125899906842625<t
 .have aa:=NO.out (by omega);have e5:decide (1125899906842625<t)=true:=jL h5;go_wp2_with fail
  go_ret
  try rw[aa]
  exact⟨rfl,by rw[HQ.out];exact HB.out⟩
 have e5:decide (1125899906842625<t)=false:=jJ h5
 have an:R=true↔∀i,i<n->okAt c i=true:=by rw[aP.out];exact⟨fun h=>h.2,fun h=>⟨by omega,h⟩⟩
 have aN:=Jh an;clear an;go_wp2_with fail
 go_loopg [33] n (fun g s33 wr=>∃i:Nat,i+g=n/\s33 = .int .i64 (i:Int)/\Below (q+1) w1 wr/\∀j,j<i->okAt c j=true)
 case atStart=>exact⟨0,by omega,rfl,Below.refl _ _,fun j hj=>by omega⟩
 case round=>
  obtain⟨i,hi,rfl,aJ,aq⟩:=hrel;have ai:=Jh aq;have aZ:=Jh aJ;clear aq;have kb:=HK.out.below aJ (by omega);have k0:wr.cell? ⟨q,0,none⟩=some (.int .i64 r):=kb.cell 0;have k1:wr.cell? ⟨q,1,none⟩=some (.int .i64 f):=kb.cell 1;have k2:wr.cell? ⟨q,2,none⟩=some (.int .i64 t):=kb.cell 2;have k3:wr.cell? ⟨q,3,none⟩=some (.slice A n cc):=kb.cell 3;have hqr:=kb.lt;have aA:Hid (Below q w wr):=Jh (HB.out.trans (aJ.mono (by omega)))
  cases gk with
  | zero=>
   have el:decide (i<n)=false:=by rw[jK];omega
   have aa:R=true:=aN.out.2 (fun j hj=>ai.out j (by omega));go_wp2_with fail
   go_ret
   try rw[aa]
   exact⟨rfl,by rw[HQ.out];exact aA.out⟩
  | succ gk=>
   have el:decide (i<n)=true:=by rw[jH];omega
   have aF:=HS.out.below (HQ.out.symm▸aA.out);obtain⟨bb,aT,x,rfl,hbb,c0,c1,c2,hx⟩:=aF.at_ (i:=i) (by omega);have aO:i<c.series.length:=by omega
   have ay:=HZ.out (c.series[i]!) (by rw[jI _ i aO];exact iG aO);go_upto_region 6 with fail
   have ag:Blk (wr.alloc (.cells #[.slice x.l.A x.l.n x.l.c,.slice x.s.A x.s.n x.s.c,.slice x.w.A x.w.n x.w.c] 58)) wr.heap.size 58 #[.slice x.l.A x.l.n x.l.c,.slice x.s.A x.s.n x.s.c,.slice x.w.A x.w.n x.w.c]:=kc _ _ _;have ae:Below wr.heap.size wr (wr.alloc (.cells #[.slice x.l.A x.l.n x.l.c,.slice x.s.A x.s.n x.s.c,.slice x.w.A x.w.n x.w.c] 58)):=(Below.refl _ _).alloc (iy _) _;obtain⟨w4,aG⟩:=jF (wr.alloc (.cells #[.slice x.l.A x.l.n x.l.c,.slice x.s.A x.s.n x.s.c,.slice x.w.A x.w.n x.w.c] 58));obtain⟨p,hp⟩:=jF wr.heap.size;rw[aG]at ag ae;rw[aG];rw[hp]at ag
   try rw[hp]
   have ar:=Jh (hx.below ae);have al:=kb.below ae kb.lt;have k0:w4.cell? ⟨q,0,none⟩=some (.int .i64 r):=al.cell 0;have k1:w4.cell? ⟨q,1,none⟩=some (.int .i64 f):=al.cell 1;have k2:w4.cell? ⟨q,2,none⟩=some (.int .i64 t):=al.cell 2;have k3:w4.cell? ⟨q,3,none⟩=some (.slice (some ⟨bb,aT,none⟩) n cc):=al.cell 3;have r0:w4.cell? ⟨p,0,none⟩=some (.slice x.l.A x.l.n x.l.c):=ag.cell 0;have r1:w4.cell? ⟨p,1,none⟩=some (.slice x.s.A x.s.n x.s.c):=ag.cell 1;have r2:w4.cell? ⟨p,2,none⟩=some (.slice x.w.A x.w.n x.w.c):=ag.cell 2;have hq4:=al.lt;have hp4:=ag.lt;have aU:bb<w4.heap.size:=by have:=ae.size;omega
   have aH:=Jh (aF.below ae);have aL:Hid (Below (q+1) w1 w4):=Jh (aZ.out.trans (ae.mono (by omega)));have aB:Hid (Below q w w4):=Jh (aA.out.trans (ae.mono (by omega)));have ha:=aN.out
   have aS:okAt c i=false->R=false:=fun h=>by rw[iT];intro hR;have:=ha.1 hR i (by omega);rw[h]at this;cases this
   have av:=Jh aS;have aX:(c.series[i]!).labels.length=x.l.n:=hx.l.len;have aV:=ay.l;obtain⟨sr,az⟩:∃sr,c.series[i]! = sr:=⟨_,rfl⟩;have aj:okAt c i=(Kcm sr.labels && ((decide (i=0) || decide (cmpL (c.series[i - 1]!).labels sr.labels<0)) && Kdw c sr)):=by unfold okAt;rw[az]
   rw[az]at ar ay aX aV;obtain⟨vl,aC⟩:=jF (Kcm sr.labels);obtain⟨fs,ac⟩:=jF (Kdw c sr);rw[aC,ac]at aj;have ax:=Jh aj;have HV:=Jh (fun y:Later w4=>Kiu sr.labels x.l.A x.l.n x.l.c y.w vl aC (ar.out.below y.h).l ar.out.lc (by omega) (fun z hz=>by have:=ay.z z hz;omega));have HF:=Jh (fun y:Later w4=>aY.out sr x y.w (ar.out.below y.h) ay);rw[ac]at HF
   have a0:Hid (∀j,i=j+1->∃y:Hd3,w4.cell? ⟨bb,aT+j*3,none⟩=some (.slice y.l.A y.l.n y.l.c)/\SerAt w4 y (c.series[j]!)):=Jh (fun j hj=>by
    obtain⟨b2,aW,y,e,_,d0,_,_,hy⟩:=aH.out.at_ (i:=j) (by omega);injection e with e;injection e with e1 e2;subst e1 e2
    exact⟨y,d0,hy⟩)
   have ab:Hid (∀w5,Below w4.heap.size w4 w5->Below (q+1) w1 w5/\Below q w w5):=Jh (fun w5 hb5=>⟨aL.out.trans (hb5.mono (by omega)),aB.out.trans (hb5.mono (by omega))⟩);clear ag ae aG hp hx al kb ha aS aC ac aj aF c0 c1 c2 az
   cases vl with
   | false=>
    have aa:R=false:=av.out (by rw[ax.out];rfl);have ak:=Jh aa;clear aa;refine Kaa (by kernel_rfl) (by kernel_rfl) ?_
    repeat (go_big_quiet_step ((first | (go_at_call 105;exact Kaj _ (HV.out _)) | (go_at_call 60;exact Kaj _ (HC.out _)) | (go_at_call 106;exact Kaj _ (HF.out _)))))
    refine kk ?_;rintro w5 ⟨⟨_,hb5⟩,rfl⟩;go_wp2_with fail
    go_ret
    try rw[ak.out]
    exact⟨rfl,by rw[HQ.out];exact(ab.out _ hb5).2⟩
   | true=>
    by_cases hi0:i=0
    .subst hi0
     cases fs with
     | false=>
      have aa:R=false:=av.out (by rw[ax.out];rfl);have ak:=Jh aa;clear aa;refine Kaa (by kernel_rfl) (by kernel_rfl) ?_
      repeat (go_big_quiet_step ((first | (go_at_call 105;exact Kaj _ (HV.out _)) | (go_at_call 60;exact Kaj _ (HC.out _)) | (go_at_call 106;exact Kaj _ (HF.out _)))))
      refine kk ?_;rintro w5 ⟨⟨_,hb5⟩,rfl⟩;go_wp2_with fail
      go_ret
      try rw[ak.out]
      exact⟨rfl,by rw[HQ.out];exact(ab.out _ hb5).2⟩
     | true=>
      have ap:okAt c 0=true:=by rw[ax.out];rfl
      have aE:=Jh ap;clear ap;refine Kaa (by kernel_rfl) (by kernel_rfl) ?_
      repeat (go_big_quiet_step ((first | (go_at_call 105;exact Kaj _ (HV.out _)) | (go_at_call 60;exact Kaj _ (HC.out _)) | (go_at_call 106;exact Kaj _ (HF.out _)))))
      refine kk ?_;rintro w5 ⟨⟨_,hb5⟩,rfl⟩;go_wp2_with fail
      go_roundg gk
      case measure=>omega
      case rel=>
       refine⟨0+1,by omega,by go_num,(ab.out _ hb5).1,fun k hk=>?_⟩
       by_cases e:k=0
       .rw[e];exact aE.out
       .exact ai.out k (by omega)
    .obtain ⟨j,rfl⟩:∃j,i=j+1:=⟨i - 1,by omega⟩;obtain⟨y,d0,hy⟩:=a0.out j rfl;have hj1:((j+1:Nat):Int) - 1=(j:Int):=by omega
     have hj2:((j:Int)+1) - 1=(j:Int):=by omega
     obtain⟨cm,aK⟩:=jF (cmpL (c.series[j]!).labels sr.labels);have af:=ax.out;rw[show j+1 - 1=j from rfl,aK,show decide (j+1=0)=false from rfl]at af;have ah:=Jh af;have hyl:(c.series[j]!).labels.length=y.l.n:=hy.l.len;have hzj:=(HZ.out (c.series[j]!) (by rw[jI _ j (by omega)];exact iG _)).l;have HC:=Jh (fun z:Later w4=>Kqw (c.series[j]!).labels sr.labels y.l.A x.l.A y.l.n x.l.n y.l.c x.l.c z.w cm aK (hy.below z.h).l (ar.out.below z.h).l (by omega) (by omega));clear af aK hy
     by_cases hc0:0<=cm
     .have e6:decide (0<=cm)=true:=jL hc0;have aa:R=false:=av.out (by rw[ah.out,jJ (by omega)];rfl);have ak:=Jh aa;clear aa;refine Kaa (by kernel_rfl) (by kernel_rfl) ?_
      repeat (go_big_quiet_step ((first | (go_at_call 105;exact Kaj _ (HV.out _)) | (go_at_call 60;exact Kaj _ (HC.out _)) | (go_at_call 106;exact Kaj _ (HF.out _)))))
      refine kk ?_;rintro w5 ⟨⟨_,hb5⟩,rfl⟩;go_wp2_with fail
      go_ret
      try rw[ak.out]
      exact⟨rfl,by rw[HQ.out];exact(ab.out _ hb5).2⟩
     .have e6:decide (0<=cm)=false:=jJ hc0;have aR:decide (cm<0)=true:=jL (by omega);have aQ:=Jh aR;clear aR
      cases fs with
      | false=>
       have aa:R=false:=av.out (by rw[ah.out,aQ.out];rfl);have ak:=Jh aa;clear aa;refine Kaa (by kernel_rfl) (by kernel_rfl) ?_
       repeat (go_big_quiet_step ((first | (go_at_call 105;exact Kaj _ (HV.out _)) | (go_at_call 60;exact Kaj _ (HC.out _)) | (go_at_call 106;exact Kaj _ (HF.out _)))))
       refine kk ?_;rintro w5 ⟨⟨_,hb5⟩,rfl⟩;go_wp2_with fail
       go_ret
       try rw[ak.out]
       exact⟨rfl,by rw[HQ.out];exact(ab.out _ hb5).2⟩
      | true=>
       have ap:okAt c (j+1)=true:=by rw[ah.out,aQ.out];rfl
       have aE:=Jh ap;clear ap;refine Kaa (by kernel_rfl) (by kernel_rfl) ?_
       repeat (go_big_quiet_step ((first | (go_at_call 105;exact Kaj _ (HV.out _)) | (go_at_call 60;exact Kaj _ (HC.out _)) | (go_at_call 106;exact Kaj _ (HF.out _)))))
       refine kk ?_;rintro w5 ⟨⟨_,hb5⟩,rfl⟩;go_wp2_with fail
       go_roundg gk
       case measure=>omega
       case rel=>
        refine⟨(j+1)+1,by omega,by go_num,(ab.out _ hb5).1,fun k hk=>?_⟩
        by_cases e:k=(j+1)
        .rw[e];exact aE.out
        .exact ai.out k (by omega)
end
section
open Go.RowKit Go.Shelf
attribute [local go_sem] Oper.semAt_some
abbrev Pc (len:Nat):={ k:Nat // k*120<len }
def pcV (A:Option Addr) (len:Nat) (k:Nat):Value:=.slice (A.map (·.add (k*120*2))) (jy 120 (len - k*120)) (jy 120 (len - k*120))
def KpC (Bs Bn:Nat) (W W':World):Prop:=W'.heap[Bs]? = W.heap[Bs]?/\W'.heap[Bn]? = W.heap[Bn]?
theorem KpC.trans {Bs Bn:Nat}{A B C:World}(h:KpC Bs Bn A B) (k:KpC Bs Bn B C):KpC Bs Bn A C:=⟨k.1.trans h.1,k.2.trans h.2⟩
theorem KpC.put {Bs Bn B:Nat}(hs:Bs<B) (hn:Bn<B) (W:World) (l:Nat) (o':Obj) (hl:B<=l):KpC Bs Bn W (W.putObj l o'):=⟨j1 (by omega),j1 (by omega)⟩
theorem Kyw {α : Type}{w:World}{B sz n:Nat}{enc:α->List Value}{A:Option Addr}{xs:List α}(h:Elems w B sz enc A n xs) {k:Nat}(hk:k<n) (m:Nat) (hm:m<=n - k) :
  Elems w B sz enc (A.map (·.add (k*sz))) m ((xs.drop k).take m):=by
 have h2:=h.cut (k:=k) (cap:=n) (by omega) (iy _);rw[jM (by omega)]at h2;refine⟨by rw[iX,iY,h.len];omega,fun hn=>?_⟩;obtain⟨b,aa,e,hb,hc⟩:=h2.2 (by omega);refine⟨b,aa,e,hb,fun i x hx j v hv=>hc i x ?_ j v hv⟩;rw[List.getElem?_take]at hx
 split at hx
 .exact hx
 .cases hx
theorem Qcz (F:Fence) (n:Nat) (h7:F.fn 170) (hro:F.round=none) (hn:1<=n) (l Bs Bn:Nat) (A:Option Addr) (len cap:Nat) (hcap:len<=cap) (hreach:len<=140737488351232) (hA:0<len->∃b off,A=some ⟨b,off,none⟩) (J Jx:List (Pc len)->World->Prop) (hJd:∀pre W,J pre W->J pre W.drew)
  (hY:∀pre x W,J pre W->pre.length<(len+119) / 120->YieldAt F (n - 1) prog l #[pcV A len x.1] W fun e W'=>
   (e = .returned (.bool true)/\J (pre ++ [x]) W'/\KpC Bs Bn W W')\/(e = .returned (.bool false)/\Jx (pre ++ [x]) W'))
  (W:World) (hBs:W.cell? ⟨Bs,0,none⟩=some (.slice A len cap)) (hBn:W.cell? ⟨Bn,0,none⟩=some (.int .i64 120)) (h0:J [] W) :
  CallsIn F n prog 170 #[.func (.yield l) #[] #[],.pointer (some ⟨Bs,0,none⟩),.pointer (some ⟨Bn,0,none⟩)] W fun e W'=>(∃v,e = .returned v)/\
   ((∃ys:List (Pc len),ys.map (·.1)=jg ((len+119) / 120)/\J ys W')\/(∃pre:List (Pc len),True/\Jx pre W')):=by
 refine callsIn_of_wp func170 rfl h7 ?_ hro;simp only[ntmps170,iS,iv,js,jw,jx,i7,i8,ji,je,jb,jl]
 gi_wp2
 gi_loopw [4] (fun i wr=>∃(k:Nat) (pre:List (Pc len)),i = .int .i64 ((k*120:Nat):Int)/\k<=(len+119) / 120/\pre.map (·.1)=jg k/\J pre wr/\KpC Bs Bn W wr)
  (fun i _=>len+120 - (intOf i).toNat)
 case atStart=>exact⟨0,[],rfl,jC _,rfl,h0,rfl,rfl⟩
 case round=>
  obtain⟨k,pre,rfl,hk,aa,af,ad⟩:=hrel;have aj:pre.length=k:=by rw[<-iz (f:=fun x:Pc len=>x.1),aa,iU]
  have cs:wr.cell? ⟨Bs,0,none⟩=some (.slice A len cap):=(jX (a:=⟨Bs,0,none⟩) ad.1).trans hBs;have cn:wr.cell? ⟨Bn,0,none⟩=some (.int .i64 120):=(jX (a:=⟨Bn,0,none⟩) ad.2).trans hBn
  by_cases hlt:k*120<len
  .obtain ⟨b,off,rfl⟩:=hA (by omega);obtain⟨fn,ak,ac,al,hy,hR⟩:=hY pre ⟨k,hlt⟩ wr.drew (hJd _ _ af) (by omega);obtain⟨i,hi⟩:=jF (k*120);obtain⟨m,hm⟩:=jF (jy 120 (len - i))
   have ae:pcV (some ⟨b,off,none⟩) len k = .slice (some ⟨b,off+i*2,none⟩) m m:=by unfold pcV;rw[hi,hm];simp[Addr.add]
   dsimp only at hy;rw[ae]at hy;rw[hi]at hlt |-;have am:jy 120 (len - i)=min 120 (len - i):=rfl;have hm1:m<=120/\m<=len - i/\0<m:=by omega
   have hmi:min (120:Int) ((len - i:Nat):Int)=(m:Int):=by omega
   have ai:min (120:Int) ((len:Int) - (i:Int))=(m:Int):=by omega
   have hci:cap≠i:=by omega
   have el:decide ((i:Int)<(len:Int))=true:=by rw[jH];omega
   clear am hm ae
   gi_wp2
   gi_region
   all_goals (
    gi_wp2
    refine hR.mono ?_;rintro e W3 (⟨rfl,ah,ag⟩ | ⟨rfl,ab⟩)
    .have cn3:W3.cell? ⟨Bn,0,none⟩=some (.int .i64 120):=(jX (a:=⟨Bn,0,none⟩) ag.2).trans cn
     gi_wp2
     go_roundw
     case rel=>exact⟨k+1,pre ++ [⟨k,by omega⟩],by rw[<-hi];simp;omega,by omega,by rw[iQ,aa,List.range_succ];rfl,ah,KpC.trans (B:=wr.drew) ad ag⟩
     case measure=>simp[intOf];omega
    .gi_wp2
     refine bodyPost_ret (results_none rfl _ _ _) rfl ?_
     exact⟨⟨_,rfl⟩,.inr ⟨_,trivial,ab⟩⟩)
  .have el:decide (((k*120:Nat):Int)<(len:Int))=false:=by rw[jK];omega
   obtain rfl:k=(len+119) / 120:=by omega
   gi_wp2
   go_end0
   exact⟨⟨_,rfl⟩,.inl ⟨pre,aa,af⟩⟩
theorem Qfw (F:Fence) (n:Nat) (h5:F.fn 116) (hro:F.round=none) (A:Option Addr) (len cap:Nat) (w:World) :
  CallsIn F n prog 116 #[.slice A len cap,.int .i64 120] w fun e w'=>e = .returned (.func (.func 170) #[] #[.pointer (some ⟨w.heap.size,0,none⟩),.pointer (some ⟨w.heap.size+1,0,none⟩)])/\w'=(w.alloc (.cells #[.slice A len cap] 55)).alloc (.cells #[.int .i64 120] 3):=by
 have hmf:∀(fn:Fn) (first cap:Array Value) (w:World),(Instr.makeFunc fn first cap).run prog w = .ok (.func fn first cap) w:=fun _ _ _ _=>rfl
 refine callsIn_of_wp func116 rfl h5 ?_ hro;simp only[ntmps116,iS,iv,js,jw,jx,i7,i8,ji,je,jb,jl]
 gi_wp2
 go_ret
 exact⟨rfl,rfl⟩
theorem Qaz (w:World) (r:Option Nat):w.grownBy w.drew r:=⟨rfl,rfl,rfl,iy _,fun _ _ _=>rfl⟩
theorem Kxo (F:Fence) (n:Nat) (h7:F.fn 170) (hro:F.round=none) (hn:1<=n) (Bs Bn:Nat) (A:Option Addr) (len cap:Nat) (hcap:len<=cap) (hreach:len<=140737488351232) (hA:0<len->∃b off,A=some ⟨b,off,none⟩) (w:World) (hbs:Bs<w.heap.size) (hbn:Bn<w.heap.size)
  (hc:w.cell? ⟨Bs,0,none⟩=some (.slice A len cap)) (hc2:w.cell? ⟨Bn,0,none⟩=some (.int .i64 120)) :
  SeqStopsK F n prog 170 #[.pointer (some ⟨Bs,0,none⟩),.pointer (some ⟨Bn,0,none⟩)] (fun x:Pc len=>#[pcV A len x.1]) (KpC Bs Bn) (fun ys=>ys.map (·.1)=jg ((len+119) / 120)) (fun _=>True) ((len+119) / 120) w:=fun l J Jx W hW hJ _ hY h0=>
 Qcz F n h7 hro hn l Bs Bn A len cap hcap hreach hA J Jx (fun pre W h=>hJ pre W W.drew none h (Qaz W none) (fun r e=>by cases e)) hY W ((hW.cell (p:=⟨Bs,0,none⟩) (by simp;omega)).trans hc) ((hW.cell (p:=⟨Bn,0,none⟩) (by simp;omega)).trans hc2) h0
end
section
open Go.RowKit Go.Shelf
open Lib renaming hid -> Jh
attribute [local go_sem] Oper.semAt_some
def pcL (l:List Smp) (k:Nat):List Smp:=(l.drop (k*120)).take 120
theorem Kgw:∀(f:Nat) (l:List Smp),l.length<=f->Kcb f l=(jg ((l.length+119) / 120)).map (pcL l)
 | 0,l,h=>by have h0:l = []:=iH (by omega);subst h0;rfl
 | _+1,[],_=>rfl
 | f+1,x :: l,h=>by
  have hl:((x :: l).drop 120).length=(x :: l).length - 120:=iY;have e:((x :: l).length+119) / 120=(((x :: l).drop 120).length+119) / 120+1:=by rw[hl,iv];omega
  rw[Kcb,Kgw f _ (by rw[hl];rw[iv]at h |-;omega),e,List.range_succ_eq_map,iE,jo];congr 1;apply List.map_congr_left;intro k _;show pcL _ k=pcL _ (k+1)
  unfold pcL;rw[List.drop_drop];congr 2;omega
def serV (h:Hd3):Value:=.agg #[.slice h.l.A h.l.n h.l.c,.slice h.s.A h.s.n h.s.c,.slice h.w.A h.w.n h.w.c]
theorem Qdz:(prog.info? 9).map (fun i=>(i.zero,i.size,i.bytes))=some (some (.string ⟨#[]⟩),1,16):=by kernel_rfl
theorem Qeq {w:World}{B C n sz:Nat}{T:TypeId}{v:Value}{xs:List Value}(h:w.ownsRow C T sz v n xs) (hB:B<=C):w.ownsRow B T sz v n xs:=by
 obtain⟨h1,h2⟩:=h;refine⟨h1,?_⟩;rcases h2 with h2 | ⟨g,cap,cur,a,b,c⟩
 .exact .inl h2
 .exact .inr ⟨g,cap,cur,a,by omega,c⟩
theorem Kyv (s:Ser) (h:Hd3) (w:World) (hS:SerAt w h s) (hn:s.samples.length<=1099511627776) (hm:s.windows.length<=1099511627776) (hv:∀x∈s.samples,x.v<2 ^ 64) (hb:∀x∈s.windows,Kcn x) (hT:DbTab w)
  (hf:∀p∈Kcb s.samples.length s.samples,(Ker p).1=Kdb p) (hg:(aggO s.windows).1=aggT s.windows) :
  Calls prog 44 #[serV h] w fun e w'=>∃v,e = .returned v/\w'.ownsRow w.heap.size 9 1 v (Kbf s).length ((Kbf s).map txtV)/\Below w.heap.size w w':=by
 refine(callsIn_wide (n:=3)).1 ?_;unfold serV;obtain⟨ib,hi,aM,aE,aH⟩:=info_parts Qdz;refine callsIn_of_wp_marks func44 rfl trivial ?_ rfl;simp only[ntmps44,iS,iv,js,jw,jx,i7,i8,ji,je,jb,jl]
 gi_wp2_with (refine⟨trivial,?_⟩;gi_at_call 116;refine(Qfw Fence.wide 2 trivial rfl _ _ _ _).mono ?_;rintro e w' ⟨rfl,rfl⟩)
 obtain⟨q,hq⟩:=jF w.heap.size;rw[hq];have aJ:Below q w (((w.alloc (.cells #[.slice h.l.A h.l.n h.l.c,.slice h.s.A h.s.n h.s.c,.slice h.w.A h.w.n h.w.c] 58)).alloc (.cells #[.slice none 0 0] 118)).alloc (.cells #[.slice h.s.A h.s.n h.s.c] 55)):=(((Below.refl _ _).alloc (by omega) _).alloc (by simp;omega) _).alloc (by simp;omega) _;have ar:=aJ.alloc (by simp;omega) (.cells #[.int .i64 120] 3);have bS:Blk ((((w.alloc (.cells #[.slice h.l.A h.l.n h.l.c,.slice h.s.A h.s.n h.s.c,.slice h.w.A h.w.n h.w.c] 58)).alloc (.cells #[.slice none 0 0] 118)).alloc (.cells #[.slice h.s.A h.s.n h.s.c] 55)).alloc (.cells #[.int .i64 120] 3)) q 58 #[.slice h.l.A h.l.n h.l.c,.slice h.s.A h.s.n h.s.c,.slice h.w.A h.w.n h.w.c]:=(((ka hq.symm).alloc _).alloc _).alloc _
 have bO:Boxed ((((w.alloc (.cells #[.slice h.l.A h.l.n h.l.c,.slice h.s.A h.s.n h.s.c,.slice h.w.A h.w.n h.w.c] 58)).alloc (.cells #[.slice none 0 0] 118)).alloc (.cells #[.slice h.s.A h.s.n h.s.c] 55)).alloc (.cells #[.int .i64 120] 3)) (q+1) 118 (.slice none 0 0):=by have:=Boxed.new (w.alloc (.cells #[.slice h.l.A h.l.n h.l.c,.slice h.s.A h.s.n h.s.c,.slice h.w.A h.w.n h.w.c] 58)) 118 (.slice none 0 0);rw[jW,hq]at this;exact(this.alloc _).alloc _
 have bA:Boxed ((((w.alloc (.cells #[.slice h.l.A h.l.n h.l.c,.slice h.s.A h.s.n h.s.c,.slice h.w.A h.w.n h.w.c] 58)).alloc (.cells #[.slice none 0 0] 118)).alloc (.cells #[.slice h.s.A h.s.n h.s.c] 55)).alloc (.cells #[.int .i64 120] 3)) (q+2) 55 (.slice h.s.A h.s.n h.s.c):=by have:=Boxed.new ((w.alloc (.cells #[.slice h.l.A h.l.n h.l.c,.slice h.s.A h.s.n h.s.c,.slice h.w.A h.w.n h.w.c] 58)).alloc (.cells #[.slice none 0 0] 118)) 55 (.slice h.s.A h.s.n h.s.c);rw[jW,jW,hq]at this;exact this.alloc _
 have bN:Boxed ((((w.alloc (.cells #[.slice h.l.A h.l.n h.l.c,.slice h.s.A h.s.n h.s.c,.slice h.w.A h.w.n h.w.c] 58)).alloc (.cells #[.slice none 0 0] 118)).alloc (.cells #[.slice h.s.A h.s.n h.s.c] 55)).alloc (.cells #[.int .i64 120] 3)) (q+3) 3 (.int .i64 120):=by have:=Boxed.new (((w.alloc (.cells #[.slice h.l.A h.l.n h.l.c,.slice h.s.A h.s.n h.s.c,.slice h.w.A h.w.n h.w.c] 58)).alloc (.cells #[.slice none 0 0] 118)).alloc (.cells #[.slice h.s.A h.s.n h.s.c] 55)) 3 (.int .i64 120);rw[jW,jW,jW,hq]at this;exact this
 obtain⟨W0,aA⟩:=jF ((((w.alloc (.cells #[.slice h.l.A h.l.n h.l.c,.slice h.s.A h.s.n h.s.c,.slice h.w.A h.w.n h.w.c] 58)).alloc (.cells #[.slice none 0 0] 118)).alloc (.cells #[.slice h.s.A h.s.n h.s.c] 55)).alloc (.cells #[.int .i64 120] 3));have hsz:W0.heap.size=q+4:=by rw[<-aA];simp;omega
 rw[aA]at ar bS bO bA bN |-;clear aA aJ;have ao:s.samples.length=h.s.n:=hS.s.len;obtain⟨N,hN⟩:=jF ((h.s.n+119) / 120);rw[Kgw _ _ (iy _),ao,hN]at hf;have a5:∀k,k<N->(Ker (pcL s.samples k)).1=Kdb (pcL s.samples k):=fun k hk=>hf _ (it.2 ⟨k,i4.2 hk,rfl⟩)
 have aZ:∀W,Below q w W->∀x:Pc h.s.n,∃A n,pcV h.s.A h.s.n x.1 = .slice A n n/\Elems W W.heap.size 2 Kac A n (pcL s.samples x.1)/\n<=120:=fun W hW x=>by
  have hx:=x.2;have e:=((hS.s.below (hq.symm▸hW)).more (hq▸hW).size);refine⟨_,_,rfl,?_,Nat.min_le_left _ _⟩;have:=Kyw e (k:=x.1*120) (by omega) (jy 120 (h.s.n - x.1*120)) (Nat.min_le_right _ _);unfold pcL
  have e2:(s.samples.drop (x.1*120)).take 120=(s.samples.drop (x.1*120)).take (jy 120 (h.s.n - x.1*120)):=by
   rw[List.take_eq_take_iff,iY,ao];show min 120 _=min (min 120 _) _
   omega
  rw[e2];exact this
 have aX:∀k,∀x∈pcL s.samples k,x.v<2 ^ 64:=fun k x hx=>hv x (List.mem_of_mem_drop (List.mem_of_mem_take hx))
 have st:=Kxo Fence.wide 2 trivial rfl (by omega) (q+2) (q+3) h.s.A h.s.n h.s.c hS.sc (by omega) (fun hp=>by obtain⟨b,aY,e,_⟩:=hS.s.2 hp;exact⟨b,aY,e⟩) W0 (by omega) (by omega) bA.cell bN.cell;obtain⟨I,hI⟩:∃I:List (Pc h.s.n)->World->Prop,I=fun pre W=>(∃v,Boxed W (q+1) 118 v/\W.ownsRow (q+1) 9 1 v pre.length (pre.map fun x=>txtV (Kdb (pcL s.samples x.1)))/\True)/\((Boxed W (q+2) 55 (.slice h.s.A h.s.n h.s.c)/\Boxed W (q+3) 3 (.int .i64 120))/\Below (q+1) W0 W):=⟨_,rfl⟩
 have aw:=OwnFrom.and (Own.from (holdsRow_own (q+1) (q+1) 118 9 1 (fun (pre:List (Pc h.s.n))=>pre.length) (fun (pre:List (Pc h.s.n))=>pre.map fun x=>txtV (Kdb (pcL s.samples x.1))) (fun _ _=>True)) W0.heap.size) (OwnFrom.and (OwnFrom.and (Own.from (boxed_own (β:=List (Pc h.s.n)) (q+2) 55 (fun _=>.slice h.s.A h.s.n h.s.c)) W0.heap.size) (Own.from (boxed_own (β:=List (Pc h.s.n)) (q+3) 3 (fun _=>.int .i64 120)) W0.heap.size)) (ownFrom_below (β:=List (Pc h.s.n)) (B:=W0.heap.size) (n₀:=q+1) (w₀:=W0) (by omega) (by omega)))
 have a8:OwnFrom W0.heap.size I:=by rw[hI];exact aw
 have h0:I [] W0:=by rw[hI];exact⟨⟨_,bO,jZ _ _ _ _,trivial⟩,⟨bA,bN⟩,Below.refl _ _⟩
 refine wpIn_rangeFunc_ownG rfl (by omega) (gf:=170) (lb:=#[.pointer (some ⟨q+2,0,none⟩),.pointer (some ⟨q+3,0,none⟩)]) rfl trivial (enters_of func170 (by kernel_rfl) rfl)
  st (fun h k=>KpC.trans h k) (fun W l o o2 hl _ _ _=>KpC.put (B:=W0.heap.size) (by omega) (by omega) W l o2 hl) (Below.refl _ _) (fun _=>rfl) I
  (fun _ _ _=>False) a8 (fun _ _ _ _ _ hs _ _=>hs) h0
  (fun x=>{ tmps:=#[.agg #[.slice h.l.A h.l.n h.l.c,.slice h.s.A h.s.n h.s.c,.slice h.w.A h.w.n h.w.c],.pointer (some ⟨q,0,none⟩),.slice none 0 0,.pointer (some ⟨q+1,0,none⟩),pcV h.s.A h.s.n x.1,undef,undef,undef,undef,.pointer (some ⟨q,1,none⟩),.slice h.s.A h.s.n h.s.c,.func (.func 170) #[] #[.pointer (some ⟨q+1+1,0,none⟩),.pointer (some ⟨q+1+1+1,0,none⟩)],pcV h.s.A h.s.n x.1,undef,undef,undef,undef,undef,undef,undef,undef,undef,undef,undef,undef,undef,undef,undef,undef,undef,undef,undef,undef,undef,undef,undef,undef],defers:=[] }) ?assign ?body ?done ?stop
 case assign=>
  intro l x W K hK
  gi_wp2
  exact hK
 case body=>
  intro l pre x W hIW hlt;rw[hI]at hIW;obtain⟨⟨v,an,ae,_⟩,⟨aD,aN⟩,ac⟩:=hIW;have ag:Below q w W:=ar.trans (ac.mono (by omega));obtain⟨A,n,aK,hE,ay⟩:=aZ W ag x;rw[aK];have a2:x.1<N:=by have:=x.2;omega
  obtain⟨T,e9,ak⟩:∃T e9,Ker (pcL s.samples x.1)=(T,e9):=⟨_,_,rfl⟩;have ap:=a5 x.1 a2;have HC:=Ktd (pcL s.samples x.1) A n n W hE (by omega) (aX _) (hT.below (hq.symm▸ag));rw[ak]at HC ap;dsimp only at HC ap;obtain⟨X,hX⟩:∃X:ByteArray,(⟨T.toArray⟩:ByteArray)=X:=⟨_,rfl⟩;rw[hX]at HC;have HC:=Jh HC;have HX:=Jh hX;have aS:=Jh ap;have aR:=ac.size;have hBs:=ac;clear hE ak hX ap aK
  gi_wp2_with (first
   | (refine⟨trivial,?_⟩;gi_at_call 117;refine(CallsIn.inRound l (callsIn_wide.2 HC.out)).mono ?_;rintro e w5 ⟨rfl,ab⟩;have g5:W.grownBy w5 none:=⟨ab.os,ab.tape,ab.output,ab.size,fun k hk _=>ab.block k hk⟩;have ah:=an.kept g5 (by simp);have a9:=ah.cell;have aT:=ah.frozen;have aa:=Kfi ae ab;have a4:=ab.size)
   | (gi_at_builtin;refine wpListIn_append_own _ rfl _ _ 118 rfl (q+1) 9 ib (.string ⟨#[]⟩) 1 16 underlying118 hi aM aE aH rfl (by decide) _ _ _ rfl (aa.alloc _) ⟨w5.heap.size,0,none⟩ 1 1 [.string X] rfl rfl (cell_one_new _ _ _) (by simp[j4]) (by unfold maxLen;omega) (by omega) (by simp;omega) ?_;intro v' w1 hown' hgrow _;obtain⟨g',ad,rfl⟩:=ownsRow_succ hown';obtain⟨al,av,am,ax,az⟩:=ah.appended (by decide) aa (by omega) (by omega) hown' hgrow;have a1:=al.cell;have a6:=al.frozen))
  have aC:=aD.kept g5 (by simp);have aL:=aN.kept g5 (by simp);have ga:w5.grownBy _ v.ownBlock:=(jY w5 _ _).trans hgrow;have aO:=(aC.kept ga (aC.not_row (by decide) aa)).other (B':=q+1) (by omega) (.slice (some ⟨g',0,none⟩) (pre.length+1) ad);have ay:=(aL.kept ga (aL.not_row (by decide) aa)).other (B':=q+1) (by omega) (.slice (some ⟨g',0,none⟩) (pre.length+1) ad);refine⟨((KeepsOthers.of_grownBy g5 (fun j o ej _=>by cases ej)).trans ax).from _,⟨(show _=_ from aO).trans (show _=_ from aD).symm,(show _=_ from ay).trans (show _=_ from aN).symm⟩,?_⟩;rw[hI];refine⟨⟨_,av,?_,trivial⟩,⟨aO,ay⟩,(ac.trans (ab.mono (by omega))).trans az⟩;rw[iQ,iD];have aq:j3 X=txtV (Kdb (pcL s.samples x.1)):=by rw[<-HX.out,aS.out];rfl
  rw[aq]at am;exact am
 case done=>
  intro D ys W hD hys hIW hK;rw[hI]at hIW;obtain⟨⟨v,an,ae,_⟩,_,ac⟩:=hIW;have ag:Below q w W:=ar.trans (ac.mono (by omega))
  have aF:ys.map (fun x=>txtV (Kdb (pcL s.samples x.1)))=(jg N).map (fun k=>txtV (Kdb (pcL s.samples k))):=by rw[<-hN,<-hys,jo];rfl
  have aG:ys.length=N:=by rw[<-iz (f:=fun x:Pc h.s.n=>x.1),hys,iU,hN]
  rw[aF,aG]at ae;have a3:=bS.below ac (by omega);have aP:s.windows.length=h.w.n:=hS.w.len;have aQ:=(hS.w.below (hq.symm▸ag)).more (hq▸ag).size;have hc:=an.cell;have c2:W.cell? ⟨q,2,none⟩=some (.slice h.w.A h.w.n h.w.c):=a3.cell 2
  have aj:(Kbf s).map txtV=(jg N).map (fun k=>txtV (Kdb (pcL s.samples k)))++(aggsT s.windows).map txtV:=by unfold Kbf;rw[Kgw _ _ (iy _),ao,hN,iQ,jo,jo];rfl
  have ai:(Kbf s).length=N+(aggsT s.windows).length:=by unfold Kbf;rw[Kgw _ _ (iy _),ao,hN,iD,iz,iz,iU]
  have hDq:q+4<=D:=by omega
  by_cases hw0:h.w.n=0
  .have aU:s.windows = []:=iH (by omega);rw[aU]at aj ai;have e0:decide ((0:Int)<(h.w.n:Int))=false:=by rw[jK];omega
   have af:W.ownsRow q 9 1 v (Kbf s).length ((Kbf s).map txtV):=by rw[aj,ai];simpa[aggsT]using Qeq ae (by omega)
   clear ae aj ai
   gi_wp2
   refine⟨by simp,.inl ⟨_,_,rfl,run_takeDeferred hK,?_⟩⟩;exact⟨_,results_tmp rfl _ _ _,v,rfl,by rw[hq];exact ownsRow_putObj af _ hK rfl,by rw[hq];exact ag.trans (belowK_b (w:=W0) (n₀:=q) (by omega) W D _ _ hD hK rfl rfl)⟩
  .have e0:decide ((0:Int)<(h.w.n:Int))=true:=by rw[jH];omega
   have aI:aggsT s.windows = [aggT s.windows]:=by
    cases hx:s.windows with
    | nil=>rw[hx]at aP;simp at aP;omega
    | cons y l=>rfl
   rw[aI]at aj ai;obtain⟨T,e9,ak⟩:∃T e9,aggO s.windows=(T,e9):=⟨_,_,rfl⟩;have HC:=Kkc s.windows h.w.A h.w.n h.w.c W aQ (by omega) hb;rw[ak]at HC hg;dsimp only at HC hg;obtain⟨X,hX⟩:∃X:ByteArray,(⟨T.toArray⟩:ByteArray)=X:=⟨_,rfl⟩;rw[hX]at HC;have HC:=Jh HC;have HX:=Jh hX;have HG:=Jh hg;have a0:=Jh aj;have aW:=Jh ai;have HK:=Jh hK;have a7:=Jh ag;have aR:=ac.size;clear ak hX hg aj ai aQ aI aF aG
   gi_wp2_with (first
    | (refine⟨trivial,?_⟩;gi_at_call 118;refine(callsIn_wide.2 HC.out).mono ?_;rintro e w5 ⟨rfl,ab⟩;have g5:W.grownBy w5 none:=⟨ab.os,ab.tape,ab.output,ab.size,fun k hk _=>ab.block k hk⟩;have ah:=an.kept g5 (by simp);have a9:=ah.cell;have aT:=ah.frozen;have aa:=Kfi ae ab;have a4:=ab.size)
    | (gi_at_builtin;refine wpListIn_append_own _ rfl _ _ 118 rfl (q+1) 9 ib (.string ⟨#[]⟩) 1 16 underlying118 hi aM aE aH rfl (by decide) _ _ _ rfl (aa.alloc _) ⟨w5.heap.size,0,none⟩ 1 1 [.string X] rfl rfl (cell_one_new _ _ _) (by simp[j4]) (by unfold maxLen;omega) (by omega) (by simp;omega) ?_;intro v' w1 hown' hgrow _;obtain⟨g',ad,rfl⟩:=ownsRow_succ hown';obtain⟨al,av,am,ax,az⟩:=ah.appended (by decide) aa (by omega) (by omega) hown' hgrow;have a1:=al.cell;have a6:=al.frozen;have hc2:=av.cell))
   have aB:=((KeepsOthers.of_grownBy g5 (fun j o ej _=>by cases ej)).trans ax).same D _ HK.out rfl;have aq:j3 X=txtV (aggT s.windows):=by rw[<-HX.out,HG.out];rfl
   have af:(w1.setCell ⟨q+1,0,none⟩ (.slice (some ⟨g',0,none⟩) (N+1) ad)).ownsRow q 9 1 (.slice (some ⟨g',0,none⟩) (N+1) ad) (Kbf s).length ((Kbf s).map txtV):=by rw[a0.out,aW.out];rw[aq]at am;exact Qeq am (by omega)
   have aV:Below q w (w1.setCell ⟨q+1,0,none⟩ (.slice (some ⟨g',0,none⟩) (N+1) ad)):=a7.out.trans ((ab.mono (by omega)).trans (az.mono (by omega)));refine⟨by simp,.inl ⟨_,_,rfl,run_takeDeferred aB,?_⟩⟩;exact⟨_,results_tmp rfl _ _ _,_,rfl,by rw[hq];exact ownsRow_putObj af _ aB rfl,by rw[hq];exact aV.trans (belowK_b (w:=W0) (n₀:=q) (by omega) _ D _ _ hD aB rfl rfl)⟩
 case stop=>
  rintro D c pre W _ _ h _;exact h.elim
end
section
open Go.Shelf Go.RowKit
open Lib renaming hid -> Jh
attribute [local go_sem ↓] Go.wp_at_zero Go.wp_at_succ
theorem Kmp {P:Program}(w:World) (base:Nat) (t u ty e:TypeId) (i:TypeInfo) (ht:P.underlying t=some (.slice e)) (hu:P.underlying u=some .string) (hi:P.info? e=some i) (hz:i.zero=some (.int .u8 0))
  (hsize:i.size=1) (hby:i.bytes=1) (v:Value) (n:Nat) (xs:List Value) (hown:w.ownsRowF base e 1 v n xs) (s:ByteArray)
  (h63:n+s.size<=maxLen) (hbytes:n+s.size<=140737488355328) (hbase:base<=w.heap.size) :
  ∃v' w',(kf #[t,u] ty #[v,.string s]).run P w = .ok v' w'/\w'.ownsRowF base e 1 v' (n+s.size) (xs++jA s)/\w.grownBy w' v.ownBlock/\
   (v' = .slice none 0 0↔v = .slice none 0 0/\s.size=0)/\(∀k,v'.ownBlock=some k->v.ownBlock=some k\/w.heap.size<=k):=by
 obtain⟨v',w',h1,h2,h3,h4⟩:=jT (P:=P) w base t u ty e i ht hu hi hz hsize hby v n xs hown s h63 hbytes hbase;refine⟨v',w',h1,h2,h3,h4,fun k hk=>?_⟩;rcases hown.2 with ⟨rfl,rfl⟩ | ⟨g,cap,cur,fz,rfl,hbg,hg,hfz,hnc,hcm,hcs,htake⟩
 .obtain ⟨v2,w2,k1,k2,_,_⟩:=jT (P:=P) w w.heap.size t u ty e i ht hu hi hz hsize hby (.slice none 0 0) 0 xs ⟨hown.1,.inl ⟨rfl,rfl⟩⟩ s h63 hbytes (iy _);rw[h1]at k1;injection k1 with e1 e2;subst e1 e2;exact .inr (k2.lt k hk).1
 .by_cases hroom:n+s.size<=cap
  .have hr:=Lib.run_append_room_stringF (P:=P) w t u ty e i ht hu hi hsize g n cap cur fz hg (by simpa using hfz) s hroom (by omega);rw[h1]at hr;injection hr with e1 e2;subst e1;exact .inl hk
  .have ab:xs.length=n:=by simpa using hown.1
   have aa:∀j u,xs[j]? = some u->w.cell? ((⟨g,0,none⟩:Addr).add j)=some u:=hown.cells (g:=g) rfl;have hr:=Lib.run_append_grow_string (P:=P) w t u ty e i (.int .u8 0) ht hu hi hz ⟨g,0,none⟩ n cap xs (by rw[hsize];simpa using ab) aa s (by omega) (by simp only[maxLen]at h63;omega) (by rw[hby];exact growslice_fits (by omega) (by omega));rw[h1]at hr;injection hr with e1 e2;subst e1;simp[Value.ownBlock]at hk;exact .inr (by omega)
theorem Kkb {P:Program}{w:World}{ops:Array Oper}{rest:List Oper}{o:Oper}{a:Act}{Q:Exit->Act->World->Prop}(hgd:o.guard=none) (sl x:Operand) (t u:TypeId)
  (ho:o.op = .call { callee:=.builtin .append,args:=#[sl,x],argTypes:=#[t,u] })
  (base:Nat) (e:TypeId) (i:TypeInfo) (ht:P.underlying t=some (.slice e)) (hu:P.underlying u=some .string) (hi:P.info? e=some i) (hz:i.zero=some (.int .u8 0))
  (hsize:i.size=1) (hby:i.bytes=1)
  (v:Value) (n:Nat) (xs:List Value) (hs:a.eval sl=v) (hown:w.ownsRowF base e 1 v n xs) (s:ByteArray) (hx:a.eval x = .string s)
  (h63:n+s.size<=maxLen) (hbytes:n+s.size<=140737488355328) (hbase:base<=w.heap.size)
  (h:∀v' w',w'.ownsRowF base e 1 v' (n+s.size) (xs++jA s)->w.grownBy w' v.ownBlock->(v' = .slice none 0 0↔v = .slice none 0 0/\s.size=0)->(∀k,v'.ownBlock=some k->v.ownBlock=some k\/w.heap.size<=k)->wpList P ops Q rest (a.put o.dst v') w'):wpList P ops Q (o :: rest) a w:=by
 refine wpList_plain hgd fun K hK=>?_
 obtain⟨v',w',hr,h2,h3,h4,h5⟩:=Kmp (P:=P) w base t u o.type e i ht hu hi hz hsize hby v n xs hown s h63 hbytes hbase;unfold Oper.wp execOp;simp only[ho,resolve,invoke,builtin,Sem.run_bind,Sem.run_pure,Result.andThen_ok,List.map_toArray,iE,List.map_nil,hs,hx,hr];exact hK _ _ (h v' w' h2 h3 h4 h5)
structure BldR (B b:Nat) (r:Option Nat) (l:List UInt8) (w:World):Prop where
 hB:B<=b
 ex:∃p v,(p = .pointer none\/p = .pointer (some ⟨b,0,none⟩))/\w.heap[b]? = some (.cells #[p,v] 109 (0,0))/\w.ownsRowF B 5 1 v l.length (jn l)/\v.ownBlock=r/\(l = []->v = .slice none 0 0)
structure OnlyB (b:Nat) (r:Option Nat) (w w':World):Prop where
 os:w'.os=w.os
 tape:w'.tape=w.tape
 output:w'.output=w.output
 size:w.heap.size<=w'.heap.size
 block:∀k,k<w.heap.size->k≠b->some k≠r->w'.heap[k]? = w.heap[k]?
section
variable {B b c : Nat}{r s : Option Nat}{l m : List UInt8}{w w' : World}
theorem BldR.row (h:BldR B b r l w) {k:Nat}(hk:r=some k):B<=k/\∃cur fz,w.heap[k]? = some (.cells cur 5 fz):=by
 obtain⟨p,v,_,_,aa,hv,_⟩:=h.ex;rcases aa.2 with ⟨rfl,_⟩ | ⟨g,cap,cur,fz,rfl,hbg,hg,_⟩
 .rw[hk]at hv;cases hv
 .rw[hk]at hv;injection hv with hv;subst hv;exact⟨hbg,cur,fz,hg⟩
theorem BldR.blt (h:BldR B b r l w):b<w.heap.size:=by obtain⟨p,v,_,hb,_⟩:=h.ex;exact Blk.lt hb
theorem BldR.rlt (h:BldR B b r l w) {k:Nat}(hk:r=some k):k<w.heap.size:=by obtain⟨_,cur,fz,hc⟩:=h.row hk;exact(j9.1 hc).1
theorem BldR.keep (h:BldR B b r l w) (h1:w'.heap[b]? = w.heap[b]?) (h2:∀k,r=some k->w'.heap[k]? = w.heap[k]?):BldR B b r l w':=by
 obtain⟨p,v,hp,hb,aa,hv,hn⟩:=h.ex;refine⟨h.hB,p,v,hp,h1.trans hb,⟨aa.1,?_⟩,hv,hn⟩;rcases aa.2 with h3 | ⟨g,cap,cur,fz,rfl,hbg,hg,rest⟩
 .exact .inl h3
 .exact .inr ⟨g,cap,cur,fz,rfl,hbg,(h2 g hv.symm).trans hg,rest⟩
theorem BldR.below (h:BldR B b r l w) (hb:Below w.heap.size w w'):BldR B b r l w':=h.keep (hb.block b h.blt) fun k hk=>hb.block k (h.rlt hk)
theorem BldR.new {B:Nat}(w:World) (hB:B<=w.heap.size):BldR B w.heap.size none [] (w.alloc (.cells #[.pointer none,.slice none 0 0] 109)):=
 ⟨hB,_,_,.inl rfl,heap_alloc_new w _,World.ownsRowF_nil _ _ _ _,rfl,fun _=>rfl⟩
theorem BldR.far (h:BldR B b r l w) (h':BldR B c s m w) (hbc:b≠c) (hrs:∀k,r=some k->s≠some k) (ho:OnlyB c s w w'):BldR B b r l w':=by
 refine h.keep (ho.block b h.blt hbc fun e=>?_) fun k hk=>ho.block k (h.rlt hk) (fun e=>?_) (fun e=>hrs k hk e.symm)
 .obtain ⟨p,v,_,hb,_⟩:=h.ex;obtain⟨_,aa,fz,hc⟩:=h'.row e.symm;rw[hb]at hc;injection hc with hc;injection hc with _ hc _
  revert hc
  decide
 .obtain ⟨p,v,_,hb,_⟩:=h'.ex;obtain⟨_,aa,fz,hc⟩:=h.row hk;rw[e,hb]at hc;injection hc with hc;injection hc with _ hc _
  revert hc
  decide
theorem OnlyB.below (h:OnlyB b r w w') (hb:B<=b) (hr:∀k,r=some k->B<=k) (hB:B<=w.heap.size):Below B w w':=
 ⟨h.os,h.tape,h.output,h.size,fun k hk=>h.block k (by omega) (by omega) fun e=>by have:=hr k e.symm;omega⟩
end
theorem Krn (B b:Nat) (r:Option Nat) (l:List UInt8) (s:ByteArray) (w:World) (h:BldR B b r l w) (hlen:l.length+s.size<=140737488355328) :
  Calls prog 40 #[.pointer (some ⟨b,0,none⟩),.string s] w fun e w'=>e = .returned (.tuple #[.int .i64 s.size,.nilIface])/\
   ∃r',BldR B b r' (l++s.data.toList) w'/\(∀k,r'=some k->r=some k\/w.heap.size<=k)/\OnlyB b r w w':=by
 obtain⟨i0,hi,ax,ar,av⟩:=info_parts Kgc.infoByte;obtain⟨p,v,hp,aa,af,hv,hn⟩:=h.ex;have ay:=h.blt
 have am:Calls prog 109 #[.pointer (some ⟨b,0,none⟩)] w fun e w'=>e = .returned (.tuple #[])/\w'.heap[b]? = some (.cells #[.pointer (some ⟨b,0,none⟩),v] 109 (0,0))/\OnlyB b none w w'/\w'.heap.size=w.heap.size:=by
  rcases hp with rfl | rfl
  .refine (Any.Builder_copyCheck_fresh Kum Kgc.toX72 b w (by rw[jj aa];rfl) (by unfold j2;rw[aa];rfl) (jU aa 0)).mono ?_;rintro e w' ⟨rfl,rfl⟩;refine⟨rfl,?_,⟨rfl,rfl,rfl,by simp[j0],fun k _ hk _=>Below.heap_setCell _ _ _ _ (fun e=>hk e)⟩,by simp[j0]⟩;have:=(show Blk w b 109 #[.pointer none,v] from aa).set_ 0 (.pointer (some ⟨b,0,none⟩));exact this
  .refine (Any.Builder_copyCheck_used Kum Kgc.toX72 b w (by rw[jj aa];rfl)).mono ?_;rintro e w' ⟨rfl,rfl⟩;exact⟨rfl,aa,⟨rfl,rfl,rfl,iy _,fun _ _ _ _=>rfl⟩,rfl⟩
 have az:=Jh am
 have ak:v.ownBlock≠some b:=fun e=>by
  obtain⟨_,ae,fz,hc⟩:=h.row (hv.symm.trans e);rw[aa]at hc;injection hc with hc;injection hc with _ hc _
  revert hc
  decide
 have HN:=Jh hn;have HV:=Jh hv;have ac:=Jh af;have HB:=Jh h.hB;clear am hp hn hv af h aa;go_enter func40,ntmps40
 go_wp2_with fail
 refine az.out.mono ?_;rintro e w1 ⟨rfl,aa,aj,an⟩
 have ag:w1.ownsRowF B 5 1 v l.length (jn l):=by
  refine⟨ac.out.1,?_⟩;rcases ac.out.2 with h3 | ⟨g,cap,ae,fz,e1,hbg,hg,rest⟩
  .exact .inl h3
  .refine .inr ⟨g,cap,ae,fz,e1,hbg,(aj.block g (j9.1 hg).1 (fun e2=>ak (by rw[e1,e2];rfl)) (by simp)).trans hg,rest⟩
 have c0:w1.cell? ⟨b,0,none⟩=some (.pointer (some ⟨b,0,none⟩)):=by rw[jj aa];rfl
 have c1:w1.cell? ⟨b,1,none⟩=some v:=by rw[jj aa];rfl
 have ai:=Jh aj;have ad:=Jh an;have aw:=Jh aa;clear aj an aa;go_wp2_with (at_builtin;refine Kkb rfl _ _ 76 9 rfl B 5 i0 underlying76 underlying9 hi ax ar av _ _ _ rfl ag s rfl ?c3 ?c4 ?c5 ?_)
 case c3=>unfold maxLen;omega
 case c4=>omega
 case c5=>have:=HB.out;have:=ad.out;omega
 intro v' w2 hown' hgrow hnil hwhere;have ap:b<w1.heap.size:=by have:=ad.out;omega
 have ah:w2.heap[b]? = some (.cells #[.pointer (some ⟨b,0,none⟩),v] 109 (0,0)):=by rw[hgrow.block b ap (fun e=>ak e.symm)];exact aw.out
 have d0:w2.cell? ⟨b,0,none⟩=some (.pointer (some ⟨b,0,none⟩)):=by rw[jj ah];rfl
 have d1:w2.cell? ⟨b,1,none⟩=some v:=by rw[jj ah];rfl
 have f1:w2.frozen? ⟨b,1,none⟩=false:=jU ah 1
 obtain⟨ao,n',cap,rfl⟩:∃ao n' cap,v' = .slice ao n' cap:=by
  rcases hown'.2 with ⟨hv,_⟩ | ⟨g,cap,ae,fz,hv,_⟩
  .exact ⟨_,_,_,hv⟩
  .exact ⟨_,_,_,hv⟩
 have al:=Jh hnil;clear hnil;go_wp2_with fail
 go_ret2
 have ab:Blk (w2.setCell ⟨b,1,none⟩ (.slice ao n' cap)) b 109 #[.pointer (some ⟨b,0,none⟩),.slice ao n' cap]:=(show Blk w2 b 109 #[.pointer (some ⟨b,0,none⟩),v] from ah).set_ 1 _
 have hv'b:(j5 ao n' cap).ownBlock≠some b:=fun e=>by
  rcases hwhere b e with h1 | h1
  .exact ak h1
  .omega
 refine⟨rfl,(j5 ao n' cap).ownBlock,⟨HB.out,_,_,.inr rfl,ab,?_,rfl,?_⟩,fun k hk=>?_,⟨?_,?_,?_,?_,fun k hk hkb hkr=>?_⟩⟩
 .have aA:(l++s.data.toList).length=l.length+s.size:=by rw[iD];rfl
  have aq:jn (l++s.data.toList)=jn l++jA s:=by simp[jn,jA]
  rw[aA,aq];refine⟨hown'.1,?_⟩;rcases hown'.2 with h3 | ⟨g,cap,ae,fz,e1,hbg,hg,rest⟩
  .exact .inl h3
  .refine .inr ⟨g,cap,ae,fz,e1,hbg,(Below.heap_setCell _ _ _ _ (fun e2=>hv'b (by rw[e1,e2];rfl))).trans hg,rest⟩
 .intro hnl;have h1:l = []/\s.data.toList = []:=by simpa using hnl
  refine al.out.2 ⟨HN.out h1.1,?_⟩;have h2:=jR jc h1.2;have h3:s.data = #[]:=by simpa using h1.2
  first
   | exact h2
   | (cases s with | mk d=>(have h4:d = #[]:=h3);rw[h4];rfl)
 .rw[<-HV.out];rcases hwhere k hk with h1 | h1
  .exact .inl h1
  .exact .inr (by have:=ad.out;omega)
 .exact hgrow.os.trans ai.out.os
 .exact hgrow.tape.trans ai.out.tape
 .exact hgrow.output.trans ai.out.output
 .have:=hgrow.size;have:=ad.out;simp[j0];omega
 .rw[Below.heap_setCell _ _ _ _ (fun e=>hkb e),hgrow.block k (by have:=ad.out;omega) (by rw[HV.out];exact hkr),ai.out.block k hk hkb (by simp)]
theorem Kwf (b g:Nat) (w:World) (n:Nat):OnlyB b (some g) w (w.drew.freeze ⟨g,0,none⟩ n):=by
 unfold World.freeze
 split
 .exact ⟨rfl,rfl,rfl,iy _,fun _ _ _ _=>rfl⟩
 .refine ⟨rfl,rfl,rfl,by simp,fun k _ _ hk=>?_⟩;show(Array.modify _ _ _)[k]? = _
  rw[Array.getElem?_modify,jM (fun e=>hk (by rw[<-e]))];rfl
theorem Kiw (B b:Nat) (r:Option Nat) (l:List UInt8) (w:World) (h:BldR B b r l w) :
  Calls prog 48 #[.pointer (some ⟨b,0,none⟩)] w fun e w'=>e = .returned (.string ⟨l.toArray⟩)/\OnlyB b r w w':=by
 obtain⟨p,v,hp,ad,aa,hv,hn⟩:=h.ex
 by_cases h0:l = []
 .obtain rfl:=hn h0;subst h0;have ah:(ke #[215,3] 9 #[.pointer none,.int .i64 0]).run prog w.drew = .ok (.string ⟨#[]⟩) w.drew:=Any.unsafeString_none Knn Kgc w.drew none
  have c1:w.drew.cell? ⟨b,1,none⟩=some (.slice none 0 0):=by have:w.drew.heap[b]? = some (.cells #[p,.slice none 0 0] 109 (0,0)):=ad;rw[jj this];rfl
  have ai:(kd #[76] 215 #[.slice none 0 0]).run prog w.drew = .ok (.pointer none) w.drew:=rfl;have ab:OnlyB b r w w.drew:=⟨rfl,rfl,rfl,iy _,fun _ _ _ _=>rfl⟩;clear hp ad aa hv hn h;go_enter func48,ntmps48
  go_wp2
  go_region
  all_goals (go_wp2;go_ret;exact⟨rfl,ab⟩)
 .have ag:l.length≠0:=by simpa using h0
  obtain⟨g,cap,cur,fz,rfl,hbg,hg,aj,hnc,ae,af,ac⟩:∃g cap cur fz,v = .slice (some ⟨g,0,none⟩) l.length cap/\B<=g/\w.heap[g]? = some (.cells cur 5 fz)/\fz.2<=l.length*1/\l.length<=cap/\cap<=maxLen/\cur.size=cap*1/\cur.toList.take (l.length*1)=jn l:=by
   rcases aa.2 with ⟨_,hz⟩ | ⟨g,cap,cur,fz,hv,r⟩
   .exact jS hz ag
   .exact ⟨g,cap,cur,fz,hv,r⟩
  have c1:w.drew.cell? ⟨b,1,none⟩=some (.slice (some ⟨g,0,none⟩) l.length cap):=by have:w.drew.heap[b]? = some (.cells #[p,.slice (some ⟨g,0,none⟩) l.length cap] 109 (0,0)):=ad;rw[jj this];rfl
  have ai:(kd #[76] 215 #[.slice (some ⟨g,0,none⟩) l.length cap]).run prog w.drew = .ok (.pointer (some ⟨g,0,none⟩)) w.drew:=
   Lib.run_unsafeSliceData_row _ _ _ _ _ _ (by omega)
  have ah:(ke #[215,3] 9 #[.pointer (some ⟨g,0,none⟩),.int .i64 l.length]).run prog w.drew = .ok (.string ⟨l.toArray⟩) (w.drew.freeze ⟨g,0,none⟩ l.length):=by refine Lib.run_unsafeString_row w.drew 215 3 9 5 Knn.t127 Kgc.cellsByte g cur.size (by have hg':w.drew.heap[g]? = some (.cells cur 5 fz):=hg;simp[j2,hg']) l h0 (by omega) (by unfold maxLen at ae;omega) ?_;intro j x hx;have:=aa.cells (g:=g) rfl j (.int .u8 x.toNat) (by simp[jn,hx]);exact this
  have ab:OnlyB b r w (w.drew.freeze ⟨g,0,none⟩ l.length):=by rw[show r=some g from hv.symm];exact Kwf b g w _
  have HF:=Jh ab;clear hp ad aa hv hn h hg aj ae af ac ab;go_enter func48,ntmps48
  go_wp2
  go_region
  all_goals (go_wp2;go_ret;exact⟨rfl,HF.out⟩)
def Two (B b1 b2:Nat) (l1 l2:List UInt8) (w:World):Prop:=∃r1 r2,BldR B b1 r1 l1 w/\BldR B b2 r2 l2 w/\b1≠b2/\∀k,r1=some k->r2≠some k
theorem Two.below {B b1 b2:Nat}{l1 l2:List UInt8}{w w':World}(h:Two B b1 b2 l1 l2 w) (hb:Below w.heap.size w w'):Two B b1 b2 l1 l2 w':=by obtain⟨r1,r2,h1,h2,h3,h4⟩:=h;exact⟨r1,r2,h1.below hb,h2.below hb,h3,h4⟩
theorem Two.swap {B b1 b2:Nat}{l1 l2:List UInt8}{w:World}(h:Two B b1 b2 l1 l2 w):Two B b2 b1 l2 l1 w:=by obtain⟨r1,r2,h1,h2,h3,h4⟩:=h;exact⟨r2,r1,h2,h1,Ne.symm h3,fun k hk hk'=>h4 k hk' hk⟩
def Rest (w w':World):Prop:=∀k T cs,Blk w k T cs->T≠109->T≠5->Blk w' k T cs
theorem Rest.below {w w':World}(h:Below w.heap.size w w'):Rest w w':=fun _ _ _ hb _ _=>hb.below h hb.lt
theorem Rest.own {w w':World}{B n sz:Nat}{T:TypeId}{v:Value}{xs:List Value}(h:Rest w w') (ho:w.ownsRow B T sz v n xs) (h1:T≠109) (h2:T≠5):w'.ownsRow B T sz v n xs:=by
 refine⟨ho.1,?_⟩;rcases ho.2 with h3 | ⟨g,cap,cur,e1,hbg,hg,rest⟩
 .exact .inl h3
 .exact .inr ⟨g,cap,cur,e1,hbg,h g T cur hg h1 h2,rest⟩
theorem BldR.rest {B b:Nat}{r:Option Nat}{l:List UInt8}{w w':World}(h:BldR B b r l w) (ho:OnlyB b r w w'):Rest w w':=by
 intro k T cs hk h1 h2;refine(ho.block k hk.lt (fun e=>?_) (fun e=>?_)).trans hk
 .obtain ⟨p,v,_,hb,_⟩:=h.ex;rw[<-e,show w.heap[k]? = _ from hk]at hb;injection hb with hb;injection hb with _ hb _;exact h1 hb
 .obtain ⟨_,cur,fz,hc⟩:=h.row e.symm;rw[show w.heap[k]? = _ from hk]at hc;injection hc with hc;injection hc with _ hc _;exact h2 hc
theorem Kqk {B b1 b2:Nat}{l1 l2:List UInt8}(s:ByteArray) (w:World) (h:Two B b1 b2 l1 l2 w) (hlen:l1.length+s.size<=140737488355328) (hB:B<=w.heap.size) :
  Calls prog 40 #[.pointer (some ⟨b1,0,none⟩),.string s] w fun e w'=>e = .returned (.tuple #[.int .i64 s.size,.nilIface])/\Two B b1 b2 (l1++s.data.toList) l2 w'/\Below B w w'/\Rest w w':=by
 obtain⟨r1,r2,h1,h2,h3,h4⟩:=h;refine(Krn B b1 r1 l1 s w h1 hlen).mono ?_;rintro e w' ⟨rfl,r',k1,k2,k3⟩;refine⟨rfl,⟨r',r2,k1,h2.far h1 (Ne.symm h3) (fun k hk hk'=>h4 k hk' hk) k3,h3,fun k hk hk'=>?_⟩,k3.below h1.hB (fun k hk=>(h1.row hk).1) hB,h1.rest k3⟩;rcases k2 k hk with h5 | h5
 .exact h4 k h5 hk'
 .have:=h2.rlt hk';omega
theorem Kdx {B b1 b2:Nat}{l1 l2:List UInt8}(s:ByteArray) (w:World) (h:Two B b1 b2 l1 l2 w) (hlen:l2.length+s.size<=140737488355328) (hB:B<=w.heap.size) :
  Calls prog 40 #[.pointer (some ⟨b2,0,none⟩),.string s] w fun e w'=>e = .returned (.tuple #[.int .i64 s.size,.nilIface])/\Two B b1 b2 l1 (l2++s.data.toList) w'/\Below B w w'/\Rest w w':=by
 refine(Kqk s w h.swap hlen hB).mono ?_;rintro e w' ⟨h1,h2,h3⟩;exact⟨h1,h2.swap,h3⟩
theorem Qck {B b1 b2:Nat}{l1 l2:List UInt8}(w:World) (h:Two B b1 b2 l1 l2 w) (hB:B<=w.heap.size) :
  Calls prog 48 #[.pointer (some ⟨b1,0,none⟩)] w fun e w'=>e = .returned (.string ⟨l1.toArray⟩)/\(∃r2,BldR B b2 r2 l2 w')/\Below B w w':=by
 obtain⟨r1,r2,h1,h2,h3,h4⟩:=h;refine(Kiw B b1 r1 l1 w h1).mono ?_;rintro e w' ⟨rfl,k3⟩;exact⟨rfl,⟨r2,h2.far h1 (Ne.symm h3) (fun k hk hk'=>h4 k hk' hk) k3⟩,k3.below h1.hB (fun k hk=>(h1.row hk).1) hB⟩
end
section
open Go.RowKit Go.Shelf Go.Sort Go.Maps
open Go.ChangeMaps (setBlock)
open Lib renaming hid -> Jh
open List renaming length_append -> Jd
attribute [local go_sem ↓] Go.wp_at_zero Go.wp_at_succ
attribute [local go_sem] Later.cell
theorem Kyx {S:List (List Lb)}{l:List Lb}(hd:l.Nodup) {k:Nat}(hk:k<l.length):addF (Ket S l k) l[k]! S.length=Ket S l (k+1):=by
 have hx:l[k]! = l[k]:=jI l k hk;have ab:l.take (k+1)=l.take k ++ [l[k]]:=(jk hk).symm;have hl:l=l.take k++l[k] :: l.drop (k+1):=by rw[<-iN hk,iK]
 have ac:(l.take k++l[k] :: l.drop (k+1)).Nodup:=by rw[<-hl];exact hd
 have aa:l[k]∉l.take k:=fun hm=>(List.nodup_append.1 ac).2.2 _ hm _ (List.mem_cons_self ..) rfl
 funext y;unfold addF Ket;rw[hx,ab]
 by_cases hy:y=l[k]
 .rw[jN hy,jM aa,hy,jN (i6.2 (.inr (i2.2 rfl)))]
 .rw[jM hy]
  have:y∈l.take k ++ [l[k]]↔y∈l.take k:=by rw[i6,i2];exact⟨fun h=>h.resolve_right hy,.inl⟩
  by_cases hm:y∈l.take k
  .rw[jN hm,jN (this.2 hm)]
  .rw[jM hm,jM (fun h=>hm (this.1 h))]
def filV (f:Fil):Value:=.agg #[txtV f.mt,txtV f.ck,txtV f.ix]
def Kdm (c:Cont):Fil:=if fitB c=true then Kff c else ⟨[],[],[]⟩
theorem Qdy:(prog.info? 54).map (fun i=>(i.zero,i.size,i.bytes))=some (some (.slice none 0 0),1,24):=by kernel_rfl
theorem Qgd (h:Hd):(encH h).length=1:=rfl
structure FstAt (c:Cont) (hs:List Hd3) (q m i:Nat) (vs:Value) (w1 w:World):Prop where
 row:w.ownsRow (q+2) 54 1 vs i (((hs.map kj).take i).flatMap encH)
 map:∃es clock,LMap w (q+2) m (Kan ((Kao c).take i)) (i*8) es clock
 b:Below (q+2) w1 w
theorem Qey {c:Cont}{i:Nat}(h:i<c.series.length):(Kao c).take (i+1)=(Kao c).take i ++ [(c.series[i]!).labels]/\((Kao c).take i).length=i:=by
 have e:(Kao c)[i]? = some (c.series[i]!).labels:=by unfold Kao;rw[i3,is h,jI _ i h];rfl
 refine⟨by rw[iL,e];rfl,?_⟩;have:(Kao c).length=c.series.length:=by unfold Kao;rw[iz]
 rw[iX];omega
theorem Kng {w:World}{B n sz b:Nat}{T:TypeId}{v:Value}{xs:List Value}{es:Array MapEntry}{clock:Nat}(h:w.ownsRow B T sz v n xs) (hb:w.heap[b]? = some (.map es clock)):v.ownBlock=none\/v.ownBlock≠some b:=.inr (Kjc h hb)
def ixAt (c:Cont) (T:List Txt) (i:Nat):List UInt8:=tabT T++(uintT c.series.length++(c.series.take i).flatMap (serT T))
def ckAt (c:Cont) (i:Nat):List UInt8:=(c.series.take i).flatMap fun s=>(Kbf s).flatten
theorem Kxb {c:Cont}{i:Nat}(h:i<c.series.length):c.series.take (i+1)=c.series.take i ++ [c.series[i]!]:=by rw[iL,is h,jI _ i h];rfl
theorem Qea {c:Cont}{T:List Txt}{i:Nat}(h:i<c.series.length):ixAt c T (i+1)=ixAt c T i++serT T c.series[i]!:=by unfold ixAt;rw[Kxb h,iA,iI];simp only[iF]
theorem Qda {c:Cont}{i:Nat}(h:i<c.series.length):ckAt c (i+1)=ckAt c i++(Kbf c.series[i]!).flatten:=by unfold ckAt;rw[Kxb h,iA,iI]
theorem Kkx {α β : Type}(f:α->List β) (l:List α) (i:Nat):((l.take i).flatMap f).length<=(l.flatMap f).length:=by
 have:l.flatMap f=(l.take i).flatMap f++(l.drop i).flatMap f:=by rw[<-iA,iK]
 rw[this,Jd];omega
theorem Kzy (c:Cont) (i:Nat):(ixAt c (tabOf (Kao c)) i).length+(Kcx (Kao c)).length<=(Kcq c).length:=by unfold ixAt Kcq;have:=Kkx (serT (tabOf (Kao c))) c.series i;simp only[Jd];omega
theorem Qgh (c:Cont):ixAt c (tabOf (Kao c)) c.series.length++Kcx (Kao c)=Kcq c:=by unfold ixAt Kcq;rw[iW];simp only[iF]
theorem Qhx (c:Cont) (i:Nat):(ckAt c i).length<=(Kdc c).length:=Kkx _ c.series i
theorem Qfx (c:Cont):ckAt c c.series.length=Kdc c:=by unfold ckAt Kdc;rw[iW]
theorem Kok:∀{L:List (List Lb)},(∀s∈L,s.length<=8)->(allT L).length<=16*L.length
 | [],_=>by simp[allT]
 | l :: L,h=>by
  have h1:=Kok (L:=L) fun s hs=>h s (by simp[hs])
  have h2:=h l (by simp);rw[Krq,Jd,Kgk,iv];omega
theorem Qfe {l:List Lb}{x:Txt}(h:x∈texts l):∃y∈l,x=y.n\/x=y.v:=by unfold texts at h;obtain⟨y,hy,hx⟩:=iw.1 h;simp at hx;exact⟨y,hy,hx⟩
theorem Qec (P:List (List UInt8)):(lensT P).length<=11*P.length:=by
 induction P with
 | nil=>simp[lensT]
 | cons p P ih=>
  have h:=(Kab p.length).2;have e:lensT (p :: P)=uintT p.length++lensT P:=rfl;rw[e,Jd,iv];omega
theorem Qbw (s:Ser):(Kbf s).length<=s.samples.length+1:=by
 have a1:=Kgn s.samples.length s.samples;have a2:(aggsT s.windows).length<=1:=by cases s.windows <;> simp[aggsT]
 unfold Kbf;rw[Jd,iz];omega
theorem Kvg {P:List (List UInt8)}{k:Nat}(h:k<P.length):(P.take (k+1)).flatten=(P.take k).flatten++P[k]!/\((P.take (k+1)).flatten).length<=P.flatten.length:=by
 have e:P.take (k+1)=P.take k ++ [P[k]!]:=by rw[iL,is h,jI _ k h];rfl
 refine⟨by rw[e,jf];simp,?_⟩;have:P.flatten=(P.take (k+1)).flatten++(P.drop (k+1)).flatten:=by rw[<-jf,iK]
 rw[this,Jd];omega
theorem Qbl {P:List (List UInt8)}{k:Nat}(h:k<P.length):lensT (P.take (k+1))=lensT (P.take k)++uintT (P[k]!).length:=by
 have e:P.take (k+1)=P.take k ++ [P[k]!]:=by rw[iL,is h,jI _ k h];rfl
 unfold lensT;rw[e,iA,iI]
theorem bnd1 {A X U L Z I l l' k u n:Nat}(h:A+(X+(U+L))+Z<=I) (hI:I<=35184372088832) (hl:l<=11*l') (hl':l'<=k) (hk:k<n) (hn:n<=1099511627777) (hu:u<=11):A+X+U+l+u<=140737488355328:=by omega
theorem bnd2 {A F C f y:Nat}(h:A+F<=C) (hC:C<=35184372088832) (hf:f+y<=F):A+f+y<=140737488355328:=by omega
theorem Kxk (c:Cont) (hd:Hd) (w:World) (hS:Sers w hd.A hd.n c.series) (hz:∀s∈c.series,SerSz s) (hn:hd.n<=1073741824) (hT:DbTab w) (hN:Kea w)
  (hsz:fitB c=true->(Kdc c).length<=35184372088832/\(Kcq c).length<=35184372088832) :
  Calls prog 19 #[contV c.res c.frm c.to_ hd] w fun e w'=>e = .returned (.tuple #[filV (Kdm c),.int .i64 (if fitB c=true then 0 else 190)])/\Below w.heap.size w w':=by
 have hD:=@run_makeMap prog;obtain⟨i0,gZ,gQ,go,gc⟩:=info_parts Qdy;obtain⟨i1,gb,gM,ge,gg⟩:=info_parts Qgf;have cf:c.series.length=hd.n:=hS.len;obtain⟨r,hr⟩:=jF c.res;obtain⟨f,hf⟩:=jF c.frm;obtain⟨t,ht⟩:=jF c.to_;obtain⟨F,hF⟩:=jF (fitB c);have bK:=fun (w:World) (h:Sers w hd.A hd.n c.series)=>Qdr c hd w h hz (by omega)
 obtain⟨A,hA⟩:=jF hd.A;obtain⟨n,dU⟩:=jF hd.n;obtain⟨cc,fj⟩:=jF hd.c;obtain⟨G,hG⟩:=jF (Kdm c);unfold contV;unfold contV at bK;rw[hA,dU,fj,hr,hf,ht,hF]at bK;rw[hr,hf,ht,hA,dU,fj,hF,hG];rw[hA,dU]at hS;rw[dU]at cf hn;rw[hF]at hsz;have dC:=Jh bK;have HS:=Jh hS;have HZ:=Jh hz;have HT:=Jh hT;have HN:=Jh hN;have gV:=Jh hsz;have HF:=Jh hF;have HG:=Jh hG;have aq:=Jh cf;have f4:=Jh hr;have gI:=Jh hf;have ho:=Jh ht;obtain⟨q,hq⟩:=jF w.heap.size;have d8:Below q w ((w.alloc (.cells #[.int .i64 r,.int .i64 f,.int .i64 t,.slice A n cc] 28)).alloc (.cells #[.string ⟨#[]⟩,.string ⟨#[]⟩,.string ⟨#[]⟩] 44)):=((Below.refl _ _).alloc (by omega) _).alloc (by simp;omega) _;have cj:Blk ((w.alloc (.cells #[.int .i64 r,.int .i64 f,.int .i64 t,.slice A n cc] 28)).alloc (.cells #[.string ⟨#[]⟩,.string ⟨#[]⟩,.string ⟨#[]⟩] 44)) q 28 #[.int .i64 r,.int .i64 f,.int .i64 t,.slice A n cc]:=(ka hq.symm).alloc _;have ei:Blk ((w.alloc (.cells #[.int .i64 r,.int .i64 f,.int .i64 t,.slice A n cc] 28)).alloc (.cells #[.string ⟨#[]⟩,.string ⟨#[]⟩,.string ⟨#[]⟩] 44)) (q+1) 44 #[.string ⟨#[]⟩,.string ⟨#[]⟩,.string ⟨#[]⟩]:=ka (by simp;omega);clear bK hS hz hT hN hsz hF hA dU fj hr hf ht hG cf;go_enter func19,ntmps19
 go_upto_region 1 with fail
 obtain⟨w1,eX⟩:=jF ((w.alloc (.cells #[.int .i64 r,.int .i64 f,.int .i64 t,.slice A n cc] 28)).alloc (.cells #[.string ⟨#[]⟩,.string ⟨#[]⟩,.string ⟨#[]⟩] 44));rw[eX]at d8 cj ei;rw[eX]
 try rw[hq]
 have HQ:=Jh hq;have cU:=Jh d8;have ef:=Jh cj;have fs:=Jh ei;have hC:q+1<w1.heap.size:=ei.lt;have k0:w1.cell? ⟨q,0,none⟩=some (.int .i64 r):=cj.cell 0;have k1:w1.cell? ⟨q,1,none⟩=some (.int .i64 f):=cj.cell 1;have k2:w1.cell? ⟨q,2,none⟩=some (.int .i64 t):=cj.cell 2;have k3:w1.cell? ⟨q,3,none⟩=some (.slice A n cc):=cj.cell 3;have cT:=HS.out.below (HQ.out.symm▸d8);have gF:=Jh (dC.out w1 cT);clear eX hq d8 cj ei cT;go_wp2_with fail
 refine gF.out.mono ?_;rintro e w2 ⟨rfl,fm⟩;have ds:=Jh (show Below (q+2) w1 w2 from fm.mono (by omega));have h4:q+1<w2.heap.size:=by have:=fm.size;omega
 clear fm;have g6:=ef.out.below ds.out (by omega);have bt:=fs.out.below ds.out (by omega);have dx:Hid (Below q w w2):=Jh (cU.out.trans (ds.out.mono (by omega)))
 cases F with
 | false=>
  have eE:G=⟨[],[],[]⟩:=by rw[<-HG.out];unfold Kdm;rw[jM (by rw[HF.out];decide)]
  subst eE;have g0:w2.cell? ⟨q+1,0,none⟩=some (.string ⟨#[]⟩):=bt.cell 0;have g1:w2.cell? ⟨q+1,1,none⟩=some (.string ⟨#[]⟩):=bt.cell 1;have g2:w2.cell? ⟨q+1,2,none⟩=some (.string ⟨#[]⟩):=bt.cell 2;have e0:=bt.frozen 0;have e1:=bt.frozen 1;have e2:=bt.frozen 2;have h6:=Jh bt;clear g6 bt k0 k1 k2 k3;go_wp2_with fail
  refine bodyPost_ret (Kbx rfl _ _ ⟨q+1,0,none⟩ (filV ⟨[],[],[]⟩) rfl (run_loadVar_row _ (q+1) 44 44 _ (0,0) _ (((h6.out.set_ 0 _).set_ 1 _).set_ 2 _) underlying44 rfl (by kernel_rfl))) rfl ?_;exact⟨rfl,by rw[HQ.out];exact((dx.out.setCell (p:=⟨q+1,0,none⟩) (by show q<=q+1;omega) _).setCell (p:=⟨q+1,1,none⟩) (by show q<=q+1;omega) _).setCell (p:=⟨q+1,2,none⟩) (by show q<=q+1;omega) _⟩
 | true=>
  obtain⟨hO,h8,ig,ij,hL,gj,im⟩:=Khi.1 HF.out;have HC:=Jh gj;have eE:G=Kff c:=by rw[<-HG.out];unfold Kdm;rw[jN HF.out]
  subst eE;obtain⟨hs,fH,ea,gU⟩:=HS.out;have gG:hs.length=n:=fH.len;have cI:=Jh fH;have d5:=Jh gU;clear hO h8 ig ij hL gj im fH ea gU;go_upto_region 5 with fail
  have hm:LMap (w2.alloc (.map #[] 0)) (q+2) w2.heap.size (fun _=>[]) 0 #[] 0:=LMap.new w2 (q+2);have da:Below (q+2) w1 (w2.alloc (.map #[] 0)):=ds.out.alloc (by omega) _;obtain⟨w3,fO⟩:=jF (w2.alloc (.map #[] 0));obtain⟨m,cY⟩:=jF w2.heap.size;have hM:q+2<=m:=by omega
  rw[fO,cY]at hm;rw[fO]at da |-;rw[cY];have hH:q+1<w3.heap.size:=by have:=da.size;omega
  have gs:=ef.out.below da (by omega);have k3:w3.cell? ⟨q,3,none⟩=some (.slice A n cc):=gs.cell 3;have HM:=Jh hm;have gt:=Jh da;clear fO cY g6 bt k0 k1 k2 hm da gs h4;go_upto_block 0 with fail
  go_cut [4] (fun s4 wz=>∃vs:Value,vs=s4/\FstAt c hs q m n vs w1 wz)
  case first=>
   go_wp2_with fail
   go_loopg [4,29] n (fun g s4 s29 wr=>∃(i:Nat) (vs:Value),vs=s4/\i+g=n/\s29 = .int .i64 (i:Int)/\FstAt c hs q m i vs w1 wr)
   case atStart=>exact⟨0,_,rfl,by omega,rfl,⟨jZ _ _ _ _,⟨#[],0,by rw[jE,Kyz];exact HM.out⟩,gt.out⟩⟩
   case round=>
    obtain⟨i,vs,rfl,dZ,rfl,aI⟩:=hrel;have ct:=Jh dZ;have c7:=Jh aI;clear dZ aI
    by_cases hi:i<n
    .have el:decide (i<n)=true:=by rw[jH];omega
     obtain⟨wo,rfl⟩:=jG wr;obtain⟨aj,⟨es,clock,ai⟩,aC⟩:=c7.out;have bS:Below w.heap.size w wo:=by rw[HQ.out];exact cU.out.trans (aC.mono (by omega))
     obtain⟨bb,cy,hA,fN,ao⟩:=cI.out.2 (by omega);subst hA;have fp:i<hs.length:=by omega
     obtain⟨x,hx⟩:=jF (hs[i]);have cb:hs[i]? = some x:=by rw[is fp,hx]
     have gL:(hs.map kj).take (i+1)=(hs.map kj).take i ++ [x.l]:=by rw[iL,i3,cb];rfl
     have bO:=d5.out i x cb;have bF:=ao i x cb;obtain⟨⟨LA,ln,lc⟩,⟨SA,sn,sc⟩,⟨WA,wn,aL⟩⟩:=x;have c0:wo.cell? ⟨bb,cy+i*3,none⟩=some (.slice LA ln lc):=later bS (by simpa using bF 0 _ rfl);have c1:wo.cell? ⟨bb,cy+i*3+1,none⟩=some (.slice SA sn sc):=later bS (by simpa using bF 1 _ rfl);have c2:wo.cell? ⟨bb,cy+i*3+2,none⟩=some (.slice WA wn aL):=later bS (by simpa using bF 2 _ rfl);have be:i<c.series.length:=by have:=aq.out;omega
     obtain⟨cR,aN⟩:=Qey be;obtain⟨l,hl⟩:=jF ((c.series[i]!).labels);have hE:Elems w w.heap.size 2 encLb LA ln l:=by rw[<-hl];exact bO.l
     have hlc:ln<=lc:=bO.lc;have az:=Kfy (HC.out (c.series[i]!) (by rw[jI _ i be];exact iG be)).1;rw[hl]at cR az;have HE:=Jh hE;have gp:=Jh hE.len;have fx:=Jh cR;have aB:=Jh aN;have aA:=Jh az;have hJ:=Jh gL;have bL:=Jh ai;have fD:=Jh aj;have cJ:=Jh aC;clear bO bF ao cb gL hx cR aN az hE ai aj aC hl fN;go_upto_block 1 with fail
     go_cut [4] (fun s4 wz=>∃vs':Value,vs'=s4/\FstAt c hs q m (i+1) vs' w1 wz)
     case first=>
      go_upto_region 8 with fail
      have bo:Below wo.heap.size wo (wo.alloc (.cells #[.slice LA ln lc,.slice SA sn sc,.slice WA wn aL] 58)):=(Below.refl _ _).alloc (iy _) _;have cW:Blk (wo.alloc (.cells #[.slice LA ln lc,.slice SA sn sc,.slice WA wn aL] 58)) wo.heap.size 58 #[.slice LA ln lc,.slice SA sn sc,.slice WA wn aL]:=kc _ _ _;obtain⟨w4,fw⟩:=jF (wo.alloc (.cells #[.slice LA ln lc,.slice SA sn sc,.slice WA wn aL] 58));obtain⟨p,hp⟩:=jF wo.heap.size;rw[fw]at bo cW |-;have ay:w4.ownsRow (q+2) 54 1 vs i (((hs.map kj).take i).flatMap encH):=by rw[<-fw];exact fD.out.alloc _
      have bX:=bL.out.below bo;have fg:Below (q+2) w1 w4:=cJ.out.trans (bo.mono (by have:=cJ.out.size;omega));rw[hp]at cW |-;have eQ:q+2<=w4.heap.size:=by have:=fg.size;omega
      have s0:w4.cell? ⟨p,0,none⟩=some (.slice LA ln lc):=cW.cell 0;have gh:=Jh cW;have dj:=Jh bX;have ee:=Jh fg;have eG:=cW.lt;clear fw hp bo cW bX fg c0 c1 c2 bS;go_wp2_with (at_builtin;refine km _ rfl _ _ 103 rfl (q+2) 54 i0 (.slice none 0 0) 1 24 underlying103 gZ gQ go gc rfl (by decide) _ _ _ rfl (ay.alloc _) ⟨w4.heap.size,0,none⟩ 1 1 [.slice LA ln lc] rfl rfl ?p1 ?p2 ?p3 ?p4 ?p5 ?_)
      case p2=>first | rfl | (intro u hu;rw[i2.1 hu];rfl)
      case p3=>unfold maxLen;omega
      case p4=>omega
      case p5=>first | omega | (simp;omega)
      intro vs' w5 hown' hgrow _ _;have aa:w4.grownBy w5 vs.ownBlock:=(jY w4 _ _).trans hgrow
      have bR:w5.ownsRow (q+2) 54 1 vs' (i+1) (((hs.map kj).take (i+1)).flatMap encH):=by rw[hJ.out,iA];exact hown'
      have gW:Below (q+2) w1 w5:=ee.out.trans ⟨aa.os,aa.tape,aa.output,aa.size,fun j hj=>aa.block j (by omega) (fun e=>by have:=(ay.lt j e.symm).1;omega)⟩;have b3:=dj.out.kept aa (fun k e=>by obtain⟨f8,hc⟩:=Kax ay e;exact⟨f8,_,hc,by decide⟩);have gq:=gh.out.grown aa (fun e=>by obtain⟨f8,hc⟩:=Kax ay e.symm;exact gh.out.ne_ (show Blk w4 p _ _ from hc) (by decide) rfl);have s0:w5.cell? ⟨p,0,none⟩=some (.slice LA ln lc):=gq.cell 0;have dW:=Jh bR;have cK:=Jh gW;have aF:=Jh b3;clear hown' hgrow aa ay bR gW b3 gq eG eQ;go_wp2_with fail
      go_loopg [42] ln (fun g s42 wz=>∃k:Nat,k+g=ln/\s42 = .int .i64 (k:Int)/\wz.ownsRow (q+2) 54 1 vs' (i+1) (((hs.map kj).take (i+1)).flatMap encH)/\(∃es clock,LMap wz (q+2) m (Ket ((Kao c).take i) l k) (i*8+k) es clock)/\Below (q+2) w1 wz)
      case atStart=>exact⟨0,by omega,rfl,dW.out,⟨_,_,by rw[Kyy];exact aF.out⟩,cK.out⟩
      case round=>
       obtain⟨k,dv,rfl,aj,⟨es,clock,ai⟩,aC⟩:=hrel;have cO:=Jh dv;have b1:=Jh aj;have b8:=Jh ai;have al:=Jh aC;clear dv aj ai aC
       by_cases hk:k<ln
       .have el:decide (k<ln)=true:=by rw[jH];omega
        obtain⟨wk,rfl⟩:=jG wr;have f9:Below w.heap.size w wk:=by rw[HQ.out];exact cU.out.trans (al.out.mono (by omega))
        have cz:k<l.length:=by have:=gp.out;omega
        have fT:k<8:=by have:=aA.out.2.2.1;omega
        obtain⟨ba,oa,h5,_,_⟩:=HE.out.2 (by omega);have hE:=HE.out;subst h5;obtain⟨hba,a0,a1⟩:=Kbk hE (by omega) f9 k cz;have fR:=aA.out.2.2.2.1 l[k]! (by rw[jI l k cz];exact iG cz);obtain⟨x,hx⟩:∃x,l[k]! = x:=⟨_,rfl⟩;have aD:=Kyx (S:=(Kao c).take i) aA.out.1 cz;rw[hx]at a0 a1 fR aD;rw[aB.out]at aD;obtain⟨N,hN⟩:∃N:ByteArray,(⟨x.n.toArray⟩:ByteArray)=N:=⟨_,rfl⟩;obtain⟨V,hV⟩:∃N:ByteArray,(⟨x.v.toArray⟩:ByteArray)=N:=⟨_,rfl⟩;have hg:lbV x = .agg #[.string N,.string V]:=by unfold lbV;rw[hN,hV]
        rw[hN]at a0;rw[hV]at a1;have il:=Jh fR;have dJ:=Jh aD;have ih:=Jh hg;clear hx hN hV hg fR aD hE;go_upto_region 12 with fail
        have a6:Below wk.heap.size wk (wk.alloc (.cells #[.string N,.string V] 99)):=(Below.refl _ _).alloc (iy _) _;have c5:Blk (wk.alloc (.cells #[.string N,.string V] 99)) wk.heap.size 99 #[.string N,.string V]:=kc _ _ _;obtain⟨w6,cX⟩:=jF (wk.alloc (.cells #[.string N,.string V] 99));rw[cX]at a6 c5 |-;obtain⟨p9,f7⟩:=jF wk.heap.size;have fY:Below (q+2) w1 w6:=al.out.trans (a6.mono (by have:=al.out.size;omega));have b4:w6.ownsRow (q+2) 54 1 vs' (i+1) (((hs.map kj).take (i+1)).flatMap encH):=by rw[<-cX];exact b1.out.alloc _
        have bZ:=b8.out.below a6;rw[f7]at c5 |-;have q0:w6.cell? ⟨p9,0,none⟩=some (.string N):=c5.cell 0;have q1:w6.cell? ⟨p9,1,none⟩=some (.string V):=c5.cell 1;obtain⟨w7,ff⟩:=jF (w6.alloc (.cells #[.int .i64 (i:Int)] 3));have bT:Below w6.heap.size w6 w7:=by rw[<-ff];exact(Below.refl _ _).alloc (iy _) _
        have d1:Blk w7 w6.heap.size 3 #[.int .i64 (i:Int)]:=by rw[<-ff];exact kc _ _ _
        have a8:w7.ownsRow (q+2) 54 1 vs' (i+1) (((hs.map kj).take (i+1)).flatMap encH):=by rw[<-ff];exact b4.alloc _
        have an:=bZ.below bT;have eR:Below (q+2) w1 w7:=fY.trans (bT.mono (by have:=fY.size;omega));have ic:q+2<=w7.heap.size:=by have:=eR.size;omega
        obtain⟨b7,eT⟩:=jF w6.heap.size;rw[eT]at d1;obtain⟨v0,st,dd,ab,bc,aE,fG,bz⟩:=an.step x (by have:=il.out;omega) i ic;rw[ih.out]at bc;have bw:w7.grownBy (setBlock w7 m (.map dd ab)) (some m):=Ken _;have aw:=Knh w7 m (.map dd ab);have f3:=Kiq (.map dd ab) an.h;obtain⟨w8,gr⟩:=jF (setBlock w7 m (.map dd ab));rw[gr]at bc aE bz bw aw f3
        have c4:some b7≠some m:=fun e=>by injection e with e;have h1:=an.h;rw[<-e]at h1;rw[show w7.heap[b7]? = _ from d1]at h1;cases h1
        have gm:Blk w8 b7 3 #[.int .i64 (i:Int)]:=d1.grown bw c4;have bU:=a8.kept bw (Kng a8 an.h);have gA:Below (q+2) w1 w8:=eR.trans ⟨bw.os,bw.tape,bw.output,bw.size,fun j hj=>bw.block j (by omega) (fun e=>by injection e with e;omega)⟩;obtain⟨A0,ir,rfl⟩:=Kah aE;obtain⟨n0,fB⟩:=jF ((Ket ((Kao c).take i) l k x).length)
        have gJ:n0<=i+1:=by
         rw[<-fB];unfold Ket;have h1:=Kne ((Kao c).take i) x;rw[aB.out]at h1
         split
         .rw[Jd,iV];omega
         .omega
        rw[fB]at aE bz bc fG;have fZ:=Jh bz;have gH:=Jh f3;have hK:=Jh fG;have bY:=Jh bU;have dq:=Jh gA;have fS:=Jh aw;have hq8:q+2<=w8.heap.size:=by omega
        have bh:=Jh aE;have ip:=Jh gm;clear cX f7 a6 c5 fY b4 bZ bT d1 a8 an eR bw aw c4 gm bU gA bz gr a0 a1 f9 fB fG f3;go_wp2_with (at_builtin;refine km _ rfl _ _ 69 rfl (q+2) 3 i1 (.int .i64 0) 1 8 underlying69 gb gM ge gg rfl (by decide) _ _ _ rfl bh.out ⟨b7,0,none⟩ 1 1 [.int .i64 (i:Int)] rfl rfl (Kam (l:=[.int .i64 (i:Int)]) ip.out) ?p2 ?p3 ?p4 ?p5 ?_)
        case p2=>first | rfl | (intro u hu;rw[i2.1 hu];rfl)
        case p3=>unfold maxLen;omega
        case p4=>omega
        case p5=>omega
        intro v' w9 hown' hgrow _ hat;obtain⟨gz,bi,dE,ed,_⟩:=fZ.out w9 v' hgrow hown' (hat.imp id (fun h=>by rw[fS.out]at h;exact h));rw[dJ.out]at ed;have am:w9.grownBy (setBlock w9 m (.map gz bi)) (some m):=Ken _;obtain⟨w10,dr⟩:=jF (setBlock w9 m (.map gz bi));rw[dr]at dE ed am;have cY:w9.heap[m]? = some (.map dd ab):=(hgrow.block m (j9.1 gH.out).1 (Ne.symm hK.out)).trans gH.out;have bj:=bY.out.kept hgrow (Kas bY.out bh.out (by decide));have a4:=bj.kept am (Kng bj cY);have d0:Below (q+2) w1 w10:=(dq.out.trans ⟨hgrow.os,hgrow.tape,hgrow.output,hgrow.size,fun j hj=>hgrow.block j (by omega) (fun e=>by have:=(ki bh.out j e.symm).1;omega)⟩).trans ⟨am.os,am.tape,am.output,am.size,fun j hj=>am.block j (by have:=hgrow.size;omega) (fun e=>by injection e with e;omega)⟩;have ev:=Jh ed;have cF:=Jh a4;have bf:=Jh d0;clear hown' hgrow hat ed am dr cY bj a4 d0;go_wp2_with fail
        go_roundg (gk - 1)
        case measure=>have:=cO.out;omega
        case rel=>exact⟨k+1,by have:=cO.out;omega,by go_num,cF.out,⟨_,_,ev.out⟩,bf.out⟩
       .have el:decide (k<ln)=false:=by rw[jK];omega
        have cz:k=l.length:=by have:=cO.out;have:=gp.out;omega
        have dg:FstAt c hs q m (i+1) vs' w1 wr:=⟨b1.out,⟨_,_,by
         have h1:=b8.out;rw[cz,Qby,<-fx.out]at h1
         exact h1.mono (by have:=aA.out.2.2.1;omega)⟩,al.out⟩
        have cm:=Jh dg;clear dg cz;go_wp2_with fail
        go_meet
        exact⟨_,rfl,cm.out⟩
     case rest=>
      obtain⟨vs',rfl,aI⟩:=hcut;have cm:=Jh aI;clear aI;go_wp2_with fail
      go_roundg (gk - 1)
      case measure=>have:=ct.out;omega
      case rel=>exact⟨i+1,_,rfl,by have:=ct.out;omega,by go_num,cm.out⟩
    .have el:decide (i<n)=false:=by rw[jK];omega
     have c8:i=n:=by have:=ct.out;omega
     have aI:FstAt c hs q m n vs w1 wr:=by rw[<-c8];exact c7.out
     have aB:=Jh aI;clear aI c8;go_wp2_with fail
     go_meet
     exact⟨_,rfl,aB.out⟩
  case rest=>
   obtain⟨vs,rfl,aI⟩:=hcut;obtain⟨w4,rfl⟩:=jG wc;obtain⟨aj,⟨es,clock,ai⟩,bo⟩:=aI;have ea:(Kao c).length=n:=by unfold Kao;rw[iz];exact aq.out
   have gx:(hs.map kj).length=n:=by rw[iz];exact gG
   rw[jp (by omega)]at ai;rw[jp (by omega)]at aj;have bS:Below w.heap.size w w4:=by rw[HQ.out];exact cU.out.trans (bo.mono (by omega))
   obtain⟨AS,cs,rfl,gv,eq,fi⟩:=Elems.of_own (fun x _=>Qgd x) rfl aj gx
   have bV:Sets w4 AS n (Kao c):=by
    refine⟨_,gv,ea,fun i h hi=>?_⟩;rw[i3]at hi
    cases hx:hs[i]? with
    | none=>rw[hx]at hi;cases hi
    | some x=>
     rw[hx]at hi;injection hi with hi;subst hi;have h1:=d5.out i x hx;have be:i<c.series.length:=by have:=(List.getElem?_eq_some_iff.1 hx).1;have:=aq.out;omega
     have e:(Kao c)[i]! = (c.series[i]!).labels:=by
      have e2:(Kao c)[i]? = some (c.series[i]!).labels:=by unfold Kao;rw[i3,is be,jI _ i be];rfl
      rw[List.getElem!_eq_getElem?_getD,e2];rfl
     rw[e];exact⟨(h1.l.below bS).more bS.size,h1.lc⟩
   have aw:∀s∈Kao c,s.length<=8/\∀x∈s,x.n.length<=32/\x.v.length<=64:=fun s hs=>by unfold Kao at hs;obtain⟨y,hy,rfl⟩:=it.1 hs;have:=Kfy (HC.out y hy).1;exact⟨this.2.2.1,this.2.2.2.1⟩
   have aa:(allT (Kao c)).length<=16*n:=by
    have:=Kok (L:=Kao c) fun s hs=>(aw s hs).1
    omega
   have dG:∀x∈allT (Kao c),x.length<=64:=fun x hx=>by
    obtain⟨s,hs,hx⟩:=iw.1 hx;obtain⟨y,hy,h1 | h1⟩:=Qfe hx
    .rw[h1];have:=((aw s hs).2 y hy).1;omega
    .rw[h1];have:=((aw s hs).2 y hy).2;omega
   have gN:=Jh (Ktf (Kao c) AS n cs w4 bV (by omega) (by omega) (fun x hx=>by have:=dG x hx;omega));have bL:=Jh ai;have ee:=Jh bo;have cv:=Jh aa;have aJ:=Jh (gV.out (by first | trivial | rfl));have eQ:q+2<=w4.heap.size:=by have:=bo.size;omega
   clear aj ai bo bS gv bV aw aa dG ea gx eq fi;go_wp2_with fail
   refine gN.out.mono ?_;rintro _ w5 ⟨pt,T,rfl,cL,bB,fc,ez,hw⟩;obtain rfl:T=tabOf (Kao c):=bB.one (show IsTab (allT (Kao c)) _ from Kwy (Kao c));obtain⟨T,eP⟩:=jF (tabOf (Kao c));rw[eP]at cL bB fc;have ek:=Jh eP;have cx:=Jh cL;have bM:=Jh bB;have eF:=Jh fc;have cK:=Jh (show Below (q+2) w1 w5 from ee.out.trans (ez.mono (by omega)));have aF:=Jh (bL.out.below ez);clear cL bB fc ez hw eP eQ;go_upto_region 17 with fail
   have dl:BldR w5.heap.size w5.heap.size none [] (w5.alloc (.cells #[.pointer none,.slice none 0 0] 109)):=BldR.new w5 (iy _)
   have dP:BldR w5.heap.size (w5.heap.size+1) none [] ((w5.alloc (.cells #[.pointer none,.slice none 0 0] 109)).alloc (.cells #[.pointer none,.slice none 0 0] 109)):=by have:=BldR.new (B:=w5.heap.size) (w5.alloc (.cells #[.pointer none,.slice none 0 0] 109)) (by simp);rw[jW]at this;exact this
   have a6:Below w5.heap.size w5 ((w5.alloc (.cells #[.pointer none,.slice none 0 0] 109)).alloc (.cells #[.pointer none,.slice none 0 0] 109)):=((Below.refl _ _).alloc (iy _) _).alloc (by simp) _;have bA:Two w5.heap.size w5.heap.size (w5.heap.size+1) [] [] ((w5.alloc (.cells #[.pointer none,.slice none 0 0] 109)).alloc (.cells #[.pointer none,.slice none 0 0] 109)):=⟨none,none,dl.below ((Below.refl _ _).alloc (iy _) _),dP,by omega,fun k h=>by cases h⟩;obtain⟨w6,cX⟩:=jF ((w5.alloc (.cells #[.pointer none,.slice none 0 0] 109)).alloc (.cells #[.pointer none,.slice none 0 0] 109));rw[cX]at a6 bA |-;have dQ:q+2<=w5.heap.size:=by have:=cK.out.size;omega
   have d7:=Jh (ef.out.below cK.out (by omega));have hh:=Jh (fs.out.below cK.out (by omega));have br:Hid (Below w.heap.size w w5):=Jh (by rw[HQ.out];exact cU.out.trans (cK.out.mono (by omega)));obtain⟨d,hd⟩:=jF w5.heap.size;have HD:=Jh hd;rw[hd]at a6 bA dQ |-
   have h3:(tabT T).length<=35184372088832:=by have h1:=aJ.out.2;unfold Kcq at h1;rw[ek.out,Jd]at h1;omega
   have cI:=Jh (Kqc (.pointer (some ⟨pt,0,none⟩)) T w6 (cx.out.below (hd.symm▸a6)) (by have:=eF.out;have:=cv.out;omega) (by omega));obtain⟨X,hX⟩:∃X:ByteArray,(⟨(tabT T).toArray⟩:ByteArray)=X:=⟨_,rfl⟩;have e4:X.data.toList=tabT T:=by rw[<-hX]
   have hQ:X.size=(tabT T).length:=by rw[<-Kai,e4]
   rw[hX]at cI;have gn:=Jh e4;have gl:=Jh a6;have dV:=Jh bA;have gE:d<=w6.heap.size:=by have:=a6.size;omega
   clear dl dP cX hd hX e4 a6 bA;go_wp2_with fail
   refine cI.out.mono ?_;rintro _ w7 ⟨rfl,bT⟩;have gy:=Jh (gl.out.trans (bT.mono gE));have gY:d<=w7.heap.size:=by have:=bT.size;omega
   have f6:=Jh (Kdx X w7 (dV.out.below bT) (by simp;omega) gY);clear bT gl dV cI;go_wp2_with fail
   refine f6.out.mono ?_;rintro _ w8 ⟨rfl,cE,fX,bk⟩;clear bk;rw[jb,gn.out]at cE;have dq:=Jh (gy.out.trans fX);have gd:d<=w8.heap.size:=by have:=fX.size;omega
   have fT:=d7.out.below dq.out (by omega);have k3:w8.cell? ⟨q,3,none⟩=some (.slice A n cc):=fT.cell 3;have hu:=Kav n (by omega) w8;obtain⟨U,hU⟩:∃U:ByteArray,(⟨(uintT n).toArray⟩:ByteArray)=U:=⟨_,rfl⟩;have fy:U.data.toList=uintT n:=by rw[<-hU]
   have ib:U.size<=11:=by rw[<-Kai,fy];exact(Kab n).2
   rw[hU]at hu;have HU:=Jh hu;have ga:=Jh fy;have c6:=Jh cE;clear fX fT hu hU fy cE gy f6;go_wp2_with fail
   refine HU.out.mono ?_;rintro _ w9 ⟨rfl,eh⟩;have gi:=Jh (dq.out.trans (eh.mono gd));have gD:d<=w9.heap.size:=by have:=eh.size;omega
   have g8:=Jh (Kdx U w9 (c6.out.below eh) (by omega) gD);clear eh k3;go_wp2_with fail
   refine g8.out.mono ?_;rintro _ w10 ⟨rfl,a9,cl,bk⟩;clear bk;have gC:tabT T++U.data.toList=ixAt c T 0:=by unfold ixAt;rw[ga.out,aq.out,jE];simp
   rw[gC]at a9;have bf:=Jh (gi.out.trans cl);have fW:d<=w10.heap.size:=by have:=cl.size;omega
   have b0:=Jh (show Two d d (d+1) (ckAt c 0) (ixAt c T 0) w10 from a9);have dy:=d7.out.below bf.out (by omega);have k3:w10.cell? ⟨q,3,none⟩=some (.slice A n cc):=dy.cell 3;clear a9 cl dy gC gi dq g8 c6;go_upto_block 4 with fail
   go_cut [] (fun wz=>Two d d (d+1) (ckAt c n) (ixAt c T n) wz/\Below d w5 wz)
   case first=>
    go_wp2_with fail
    go_loopg [70] n (fun g s70 wr=>∃i:Nat,i+g=n/\s70 = .int .i64 (i:Int)/\Two d d (d+1) (ckAt c i) (ixAt c T i) wr/\Below d w5 wr)
    case atStart=>exact⟨0,by omega,rfl,b0.out,bf.out⟩
    case round=>
     obtain⟨i,dZ,rfl,aO,aC⟩:=hrel;have ct:=Jh dZ;have gS:=Jh aO;have cJ:=Jh aC;clear dZ aO aC
     by_cases hi:i<n
     .have el:decide (i<n)=true:=by rw[jH];omega
      obtain⟨wo,rfl⟩:=jG wr;have aW:Below w.heap.size w wo:=br.out.trans (cJ.out.mono (by have:=HQ.out;omega));obtain⟨bb,cy,hA,fN,ao⟩:=cI.out.2 (by omega);subst hA;have fp:i<hs.length:=by omega
      obtain⟨x,hx⟩:=jF (hs[i]);have cb:hs[i]? = some x:=by rw[is fp,hx]
      have bO:=(d5.out i x cb).below aW;have bF:=ao i x cb;obtain⟨⟨LA,ln,lc⟩,⟨SA,sn,sc⟩,⟨WA,wn,aL⟩⟩:=x;have c0:wo.cell? ⟨bb,cy+i*3,none⟩=some (.slice LA ln lc):=later aW (by simpa using bF 0 _ rfl);have c1:wo.cell? ⟨bb,cy+i*3+1,none⟩=some (.slice SA sn sc):=later aW (by simpa using bF 1 _ rfl);have c2:wo.cell? ⟨bb,cy+i*3+2,none⟩=some (.slice WA wn aL):=later aW (by simpa using bF 2 _ rfl);have be:i<c.series.length:=by have:=aq.out;omega
      have bI:c.series[i]!∈c.series:=by rw[jI _ i be];exact iG be
      have ej:=HC.out _ bI;have dF:=HZ.out _ bI;have aP:=Qea (T:=T) be;have bC:=Qda be;have ae:=Kzy c (i+1);have bJ:=Qhx c (i+1);rw[ek.out]at ae;have aX:(c.series[i]!).labels∈Kao c:=it.2 ⟨_,bI,rfl⟩;obtain⟨s,gX⟩:∃s,c.series[i]! = s:=⟨_,rfl⟩;rw[gX]at bO ej dF aP bC aX;have az:=Kfy ej.1;have gT:packR T s.labels=(pk T s.labels,0):=Qer bM.out.1 az.2.2.2.2 (fun x hx=>(bM.out.2 x).2 (iw.2 ⟨_,aX,hx⟩))
      obtain⟨f0,f1⟩:0<=c.frm/\c.to_<=1125899906842625:=by obtain⟨_,_,a,_,b,_⟩:=Khi.1 HF.out;exact⟨a,b⟩
      obtain⟨dM,c3⟩:=Qgu ej.2 f0 f1 dF.v;have eU:=Qbw s;have fo:=dF.n;have dk:=bO.l.len;rw[aP]at ae;rw[bC]at bJ;have dm:serT T s=pk T s.labels++(uintT (Kbf s).length++lensT (Kbf s)):=rfl;rw[dm]at ae aP;simp only[Jd]at ae bJ;have ec:=aJ.out.2;have d4:=aJ.out.1;have aA:=Jh az;have fe:=Jh gT;have eC:=Jh aP;have e5:=Jh bC;have fb:=Jh dM;have eO:=Jh c3;have en:=Jh dF;have fh:=Jh bO;clear bO bF ao cb hx bI ej dF aP bC aX gX az gT f0 f1 dM c3 dm fN;go_upto_block 5 with fail
      go_cut [] (fun wz=>Two d d (d+1) (ckAt c (i+1)) (ixAt c T (i+1)) wz/\Below d w5 wz)
      case first=>
       go_upto_region 22 with fail
       have ac:Below wo.heap.size wo (wo.alloc (.cells #[.slice LA ln lc,.slice SA sn sc,.slice WA wn aL] 58)):=(Below.refl _ _).alloc (iy _) _;have aV:Blk (wo.alloc (.cells #[.slice LA ln lc,.slice SA sn sc,.slice WA wn aL] 58)) wo.heap.size 58 #[.slice LA ln lc,.slice SA sn sc,.slice WA wn aL]:=kc _ _ _;obtain⟨w12,dp⟩:=jF (wo.alloc (.cells #[.slice LA ln lc,.slice SA sn sc,.slice WA wn aL] 58));obtain⟨p,hp⟩:=jF wo.heap.size;have ie:d<=wo.heap.size:=by have:=cJ.out.size;have:=HD.out;omega
       rw[dp]at ac aV |-;have cn:Below d w5 w12:=cJ.out.trans (ac.mono ie);have bP:=gS.out.below ac;have aG:=fh.out.below ac;rw[hp]at aV |-;have s0:w12.cell? ⟨p,0,none⟩=some (.slice LA ln lc):=aV.cell 0;have dt:=Jh aV;have bl:=cx.out.below (HD.out.symm▸cn);have gB:=Jh (Qbu (.pointer (some ⟨pt,0,none⟩)) T s.labels LA ln lc w12 (pk T s.labels) 0 fe.out bl bM.out.1 (by have:=eF.out;have:=cv.out;omega) aG.l aG.lc (by have:=aA.out.2.2.1;have:s.labels.length=ln:=dk;omega) (fun x hx=>by have:=aA.out.2.2.2.1 x hx;omega));obtain⟨X2,fq⟩:∃X:ByteArray,(⟨(pk T s.labels).toArray⟩:ByteArray)=X:=⟨_,rfl⟩;have ce:X2.data.toList=pk T s.labels:=by rw[<-fq]
       have ia:X2.size=(pk T s.labels).length:=by rw[<-Kai,ce]
       rw[fq]at gB;have di:=Jh ce;have bm:=Jh cn;have dh:=Jh bP;have dA:=Jh aG;have bv:d<=w12.heap.size:=by have:=ac.size;omega
       clear ac aV dp hp cn bP aG bl fq ce c0 c1 c2 aW;go_wp2_with fail
       refine gB.out.mono ?_;rintro _ w13 ⟨rfl,ad⟩;have bG:=dt.out.below ad dt.out.lt;have s0:w13.cell? ⟨p,0,none⟩=some (.slice LA ln lc):=bG.cell 0;have s1:w13.cell? ⟨p,1,none⟩=some (.slice SA sn sc):=bG.cell 1;have s2:w13.cell? ⟨p,2,none⟩=some (.slice WA wn aL):=bG.cell 2;have cN:Below d w5 w13:=bm.out.trans (ad.mono bv);have eb:=Kyv s ⟨⟨LA,ln,lc⟩,⟨SA,sn,sc⟩,⟨WA,wn,aL⟩⟩ w13 (dA.out.below ad) en.out.n en.out.m en.out.v en.out.b (HT.out.below (br.out.trans (cN.mono (by have:=HQ.out;omega)))) fb.out eO.out;unfold serV at eb;dsimp only at eb;have h0:=Jh eb;have aR:=Jh cN;have aH:=Jh (dh.out.below ad);have aM:d<=w13.heap.size:=by have:=ad.size;omega
       clear ad bG cN eb;go_wp2_with fail
       refine h0.out.mono ?_;rintro _ dc ⟨v,rfl,av,ag⟩;obtain⟨AP,cp,rfl⟩:=Kah av;obtain⟨P,hP⟩:=jF (Kbf s);rw[hP]at av ae bJ eU |-;obtain⟨np,eD⟩:=jF P.length;rw[eD]at av ae eU |-;have HP:=Jh hP;have d2:=Jh eD;have a7:=Jh (aR.out.trans (ag.mono aM));have fL:=Jh av;have aS:d<=dc.heap.size:=by have:=ag.size;omega
       have eS:=Jh (Kdx X2 dc (aH.out.below ag) (by omega) aS);clear ag av hP eD s0 s1 s2;go_wp2_with fail
       refine eS.out.mono ?_;rintro _ dR ⟨rfl,cd,ap,dw⟩;have bD:=Jh (a7.out.trans ap);have cG:=Jh (dw.own fL.out (by decide) (by decide));have dX:=Jh cd;have bd:d<=dR.heap.size:=by have:=ap.size;omega
       have fP:=Kav np (by omega) dR;obtain⟨U2,eL⟩:∃U:ByteArray,(⟨(uintT np).toArray⟩:ByteArray)=U:=⟨_,rfl⟩;have cD:U2.data.toList=uintT np:=by rw[<-eL]
       have h9:U2.size=(uintT np).length:=by rw[<-Kai,cD]
       rw[eL]at fP;have h2:=Jh fP;have ew:=Jh cD;clear fP eL cD cd ap dw;go_wp2_with fail
       refine h2.out.mono ?_;rintro _ dK ⟨rfl,ak⟩;have aQ:=Jh (bD.out.trans (ak.mono bd));have cw:=Jh ((Rest.below ak).own cG.out (by decide) (by decide));have aT:d<=dK.heap.size:=by have:=ak.size;omega
       have eJ:(ixAt c T i++X2.data.toList).length=(ixAt c T i).length+(pk T s.labels).length:=by rw[Jd,di.out]
       have eY:=Jh (Kdx U2 dK (dX.out.below ak) (by omega) aT);clear ak;go_wp2_with fail
       refine eY.out.mono ?_;rintro _ cS ⟨rfl,a5,ax,dL⟩;rw[di.out,ew.out]at a5;have bN:=Jh (aQ.out.trans ax);have cQ:=Jh (dL.own cw.out (by decide) (by decide));have bE:d<=cS.heap.size:=by have:=ax.size;omega
       have dY:=Jh (show Two d d (d+1) (ckAt c i++(P.take 0).flatten) (ixAt c T i++pk T s.labels++uintT np++lensT (P.take 0)) cS by simpa[lensT]using a5);clear a5 ax dL eJ;go_wp2_with fail
       go_loopg [92] np (fun g s92 wz=>∃k:Nat,k+g=np/\s92 = .int .i64 (k:Int)/\Two d d (d+1) (ckAt c i++(P.take k).flatten) (ixAt c T i++pk T s.labels++uintT np++lensT (P.take k)) wz/\wz.ownsRow w13.heap.size 9 1 (.slice AP np cp) np (P.map txtV)/\Below d w5 wz)
       case atStart=>exact⟨0,by omega,rfl,dY.out,cQ.out,bN.out⟩
       case round=>
        obtain⟨k,dv,rfl,aO,av,aC⟩:=hrel;have cO:=Jh dv;have dT:=Jh aO;have ca:=Jh av;have al:=Jh aC;obtain⟨wk,rfl⟩:=jG wr;clear dv aO av aC
        by_cases hk:k<np
        .have el:decide (k<np)=true:=by rw[jH];omega
         have f5:k<P.length:=by have:=d2.out;omega
         obtain⟨AQ,cq,he,dO,_,_⟩:=Strs.of_own ca.out d2.out;injection he with e1 _ e2;subst e1 e2;obtain⟨bp,op,h7,hbp,gR⟩:=dO.at_ hk;subst h7;obtain⟨ck,dN⟩:=Kvg f5;have eI:=Qbl f5;have hB:=Qec (P.take k);have f2:(P.take k).length<=k:=by rw[iX];omega
         obtain⟨Y,hY⟩:∃Y:ByteArray,(⟨P[k]!.toArray⟩:ByteArray)=Y:=⟨_,rfl⟩;have fA:Y.data.toList=P[k]!:=by rw[<-hY]
         have ey:Y.size=(P[k]!).length:=by rw[<-Kai,fA]
         have hZ:wk.cell? ⟨bp,op+k,none⟩=some (.string Y):=by rw[gR];unfold txtV;rw[hY]
         rw[<-ey]at eI;rw[ck,Jd,<-ey]at dN;have hYz:Y.size<=35184372088832:=by omega
         have er:=Kav Y.size (by omega) wk;obtain⟨U3,eK⟩:∃U:ByteArray,(⟨(uintT Y.size).toArray⟩:ByteArray)=U:=⟨_,rfl⟩;have ci:U3.data.toList=uintT Y.size:=by rw[<-eK]
         have et:U3.size<=11:=by rw[<-Kai,ci];exact(Kab _).2
         rw[eK]at er;have io:=Jh er;have fU:=Jh ci;have ik:=Jh ck;have ii:=Jh eI;have hR:=Jh fA;have hv:d<=wk.heap.size:=by have:=al.out.size;have:=HD.out;omega
         clear er eK ci ck eI hY fA gR dO ey;go_wp2_with fail
         refine io.out.mono ?_;rintro _ cV ⟨rfl,ah⟩;have aY:=Jh (al.out.trans (ah.mono hv));have cr:=Jh ((Rest.below ah).own ca.out (by decide) (by decide));have a2:d<=cV.heap.size:=iC hv ah.size;have fV:=Jh (Kdx U3 cV (dT.out.below ah) (by rw[Jd,Jd,Jd];exact bnd1 ae ec hB f2 hk (iC eU (Nat.add_le_add_right fo 1)) et) a2);clear ah;go_wp2_with fail
         refine fV.out.mono ?_;rintro _ bH ⟨rfl,b5,aK,db⟩;have bq:=Jh (aY.out.trans aK);have cA:=Jh (db.own cr.out (by decide) (by decide));have ep:d<=bH.heap.size:=iC a2 aK.size;have fE:=Jh (Kqk Y bH b5 (by rw[Jd];exact bnd2 bJ d4 dN) ep);clear aK db b5;go_wp2_with fail
         refine fE.out.mono ?_;rintro _ iq ⟨rfl,aU,c9,dS⟩
         have co:Hid (Two d d (d+1) (ckAt c i++(P.take (k+1)).flatten) (ixAt c T i++pk T s.labels++uintT np++lensT (P.take (k+1))) iq):=Jh (by
          rw[ik.out,ii.out];rw[fU.out,hR.out]at aU
          simpa only[iF]using aU)
         have e7:=Jh (bq.out.trans c9);have ch:=Jh (dS.own cA.out (by decide) (by decide));clear c9 dS aU;go_wp2_with fail
         go_roundg (gk - 1)
         case measure=>have:=cO.out;omega
         case rel=>exact⟨k+1,by have:=cO.out;omega,by go_num,co.out,ch.out,e7.out⟩
        .have el:decide (k<np)=false:=by rw[jK];omega
         have g7:k=P.length:=by have:=cO.out;have:=d2.out;omega
         have co:Hid (Two d d (d+1) (ckAt c (i+1)) (ixAt c T (i+1)) wk/\Below d w5 wk):=Jh (by
          have h1:=dT.out;rw[g7,iW]at h1;rw[e5.out,eC.out,HP.out,d2.out];refine⟨?_,al.out⟩
          simpa only[iF]using h1)
         clear g7;go_wp2_with fail
         go_meet
         exact co.out
      case rest=>
       obtain⟨aO,aC⟩:=hcut;have eo:=Jh aO;have fv:=Jh aC;clear aO aC;go_wp2_with fail
       go_roundg (gk - 1)
       case measure=>have:=ct.out;omega
       case rel=>exact⟨i+1,by have:=ct.out;omega,by go_num,eo.out,fv.out⟩
     .have el:decide (i<n)=false:=by rw[jK];omega
      have c8:i=n:=by have:=ct.out;omega
      have HE:Hid (Two d d (d+1) (ckAt c n) (ixAt c T n) wr/\Below d w5 wr):=Jh (by rw[<-c8];exact⟨gS.out,cJ.out⟩);clear c8;go_wp2_with fail
      go_meet
      exact HE.out
   case rest=>
    obtain⟨aO,bn⟩:=hcut;obtain⟨gK,rfl⟩:=jG wc;have dD:d<=gK.heap.size:=by have:=bn.size;have:=HD.out;omega
    have bs:=Qgh c;have aZ:=Qfx c;have ae:=Kzy c n;rw[aq.out]at bs aZ;rw[ek.out]at bs ae;rw[aZ]at aO;have ec:=aJ.out.2;have d4:=aJ.out.1;have gO:(Kcx (Kao c)).length<=35184372088832:=by omega
    have bW:(Kao c).length<=1099511627776:=by unfold Kao;rw[iz,aq.out];omega
    have eN:=Jh (Kyl (Kao c) m (n*8) (q+2) es clock gK (aF.out.below (HD.out.symm▸bn)) (by omega) bW gO);obtain⟨X3,fK⟩:∃X:ByteArray,(⟨(Kcx (Kao c)).toArray⟩:ByteArray)=X:=⟨_,rfl⟩;have cH:X3.data.toList=Kcx (Kao c):=by rw[<-fK]
    have eM:X3.size=(Kcx (Kao c)).length:=by rw[<-Kai,cH]
    rw[fK]at eN;have df:=Jh cH;have b2:=Jh aO;have cZ:=Jh bn;have dB:=Jh bs;clear aO bn bs aZ fK cH bW;go_wp2_with fail
    refine eN.out.mono ?_;rintro _ w12 ⟨rfl,ac⟩;have bm:=Jh (cZ.out.trans (ac.mono dD));have bv:d<=w12.heap.size:=by have:=ac.size;omega
    have dI:=Jh (Kdx X3 w12 (b2.out.below ac) (by omega) bv);clear ac;go_wp2_with fail
    refine dI.out.mono ?_;rintro _ w13 ⟨rfl,bg,ad,bk⟩;clear bk;rw[df.out,dB.out]at bg;have aR:=Jh (bm.out.trans ad);have aH:=Jh bg;have aM:d<=w13.heap.size:=by have:=ad.size;omega
    have bx:=d7.out.below aR.out (by omega);have k0:w13.cell? ⟨q,0,none⟩=some (.int .i64 r):=bx.cell 0;have k1:w13.cell? ⟨q,1,none⟩=some (.int .i64 f):=bx.cell 1;have k2:w13.cell? ⟨q,2,none⟩=some (.int .i64 t):=bx.cell 2
    obtain⟨g0,g1,g2,g3,g4⟩:0<=c.res/\c.res<3/\0<=c.frm/\c.frm<c.to_/\c.to_<=1125899906842625:=by obtain⟨a,b,e,f,g,_⟩:=Khi.1 HF.out;exact⟨a,b,e,f,g⟩
    have af:metaB c=uintT c.res.toNat++(intT c.frm++intT c.to_):=rfl;rw[f4.out]at g0 g1 af;rw[gI.out]at g2 g3 af;rw[ho.out]at g3 g4 af;obtain⟨rn,rfl⟩:∃rn:Nat,r=(rn:Int):=⟨r.toNat,by omega⟩;rw[Int.toNat_natCast]at af;have fF:=Jh (fun u:Later w13=>Kav rn (by omega) u.w);have ex:=Jh (fun u:Later w13=>Ksf f (by omega) (by omega) u.w);have eA:=Jh (fun u:Later w13=>Ksf t (by omega) (by omega) u.w);obtain⟨M0,fr⟩:∃X:ByteArray,(⟨(uintT rn).toArray⟩:ByteArray)=X:=⟨_,rfl⟩;obtain⟨M1,eZ⟩:∃X:ByteArray,(⟨(intT f).toArray⟩:ByteArray)=X:=⟨_,rfl⟩;obtain⟨M2,eH⟩:∃X:ByteArray,(⟨(intT t).toArray⟩:ByteArray)=X:=⟨_,rfl⟩;have cg:M0.data.toList=uintT rn:=by rw[<-fr]
    have cM:M1.data.toList=intT f:=by rw[<-eZ]
    have cC:M2.data.toList=intT t:=by rw[<-eH]
    have fI:M0.size<=11:=by rw[<-Kai,cg];exact(Kab _).2
    have fJ:M1.size<=11:=by rw[<-Kai,cM];exact(Kab _).2
    have e3:M2.size<=11:=by rw[<-Kai,cC];exact(Kab _).2
    rw[fr]at fF;rw[eZ]at ex;rw[eH]at eA
    have gf:(M0++M1++M2).data.toList=metaB c:=by rw[af];simp only[j7,jv,cg,cM,cC,iF]
    have fl:=Jh gf;clear fr eZ eH cg cM cC gf af bx bg ad k3;have fC:q<w13.heap.size:=iR (iR (jm (by decide:0<2)) dQ) aM;go_upto_region 34 with fail
    refine Kaa (by kernel_rfl) (by kernel_rfl) ?_
    repeat (go_big_quiet_step ((first | (go_at_call 42;with_reducible exact Kaj _ (fF.out _)) | (go_at_call 46;first | with_reducible exact Kaj _ (ex.out _) | with_reducible exact Kaj _ (eA.out _)))))
    refine kk ?_;rintro dc ⟨⟨_,ag⟩,rfl⟩;obtain⟨MB,fQ⟩:=jF (M0++M1++M2);have fd:MB.size<=33:=by rw[<-fQ,j8,j8];omega
    rw[fQ]at fl |-;have ha:w.heap.size<=d:=by rw[HQ.out];exact Nat.le_of_lt (iR (jm (by decide:0<2)) dQ)
    have d9:=Jh (fun (s:ByteArray) (hs:s.size<=140737488351232) (W:World) (hb:Below d w5 W)=>Qcd s hs W (Kea.below HN.out HN.out.lt (br.out.trans (hb.mono ha))));have a7:=Jh (aR.out.trans (ag.mono aM));have b9:=Jh (aH.out.below ag);have aS:d<=dc.heap.size:=iC aM ag.size;have eg:=d9.out MB (by omega) dc a7.out;rw[fl.out]at eg;obtain⟨S1,cT⟩:∃S:ByteArray,(⟨(sealT (metaB c)).toArray⟩:ByteArray)=S:=⟨_,rfl⟩;rw[cT]at eg;have gP:=Jh eg;have eB:=Jh cT;clear fQ ag eg cT k0 k1 k2 fF ex eA fI fJ e3;go_wp2_with fail
    refine gP.out.mono ?_;rintro _ dR ⟨rfl,ap⟩;have bD:=Jh (a7.out.trans (ap.mono aS));have bd:d<=dR.heap.size:=iC aS ap.size;have aI:=Qck dR (b9.out.below ap) bd;obtain⟨CB,fM⟩:∃S:ByteArray,(⟨(Kdc c).toArray⟩:ByteArray)=S:=⟨_,rfl⟩;rw[fM]at aI;have cB:CB.data.toList=Kdc c:=by rw[<-fM]
    have e6:CB.size<=35184372088832:=by rw[<-Kai,cB];exact d4
    have c7:=Jh aI;have de:=Jh cB;clear ap aI fM cB;go_wp2_with fail
    refine c7.out.mono ?_;rintro _ dK ⟨rfl,⟨r2,bQ⟩,ak⟩;have aQ:=Jh (bD.out.trans ak);have aT:d<=dK.heap.size:=iC bd ak.size;have b6:=Jh bQ;have d3:=d9.out CB (by omega) dK aQ.out;rw[de.out]at d3;obtain⟨S2,fn⟩:∃S:ByteArray,(⟨(sealT (Kdc c)).toArray⟩:ByteArray)=S:=⟨_,rfl⟩;rw[fn]at d3;have g5:=Jh d3;have fk:=Jh fn;clear ak bQ d3 fn;go_wp2_with fail
    refine g5.out.mono ?_;rintro _ cS ⟨rfl,ax⟩;have bN:=Jh (aQ.out.trans (ax.mono aT));have bE:d<=cS.heap.size:=iC aT ax.size;have a3:=Jh (b6.out.below ax);have aN:=Kiw d (d+1) r2 (Kcq c) cS a3.out;obtain⟨IB,e8⟩:∃S:ByteArray,(⟨(Kcq c).toArray⟩:ByteArray)=S:=⟨_,rfl⟩;rw[e8]at aN;have cP:IB.data.toList=Kcq c:=by rw[<-e8]
    have ft:IB.size<=35184372088832:=by rw[<-Kai,cP];exact ec
    have aB:=Jh aN;have dz:=Jh cP;clear ax aN e8 cP;go_wp2_with fail
    refine aB.out.mono ?_;rintro _ cV ⟨rfl,dn⟩;have ah:Below d cS cV:=dn.below (Nat.le_succ d) (fun k hk=>(a3.out.row hk).1) bE;have aY:=Jh (bN.out.trans ah);have a2:d<=cV.heap.size:=iC bE ah.size;have em:=d9.out IB (by omega) cV aY.out;rw[dz.out]at em;obtain⟨S3,fa⟩:∃S:ByteArray,(⟨(sealT (Kcq c)).toArray⟩:ByteArray)=S:=⟨_,rfl⟩;rw[fa]at em;have gw:=Jh em;have e9:=Jh fa;clear ah dn em fa;go_wp2_with fail
    refine gw.out.mono ?_;rintro _ bH ⟨rfl,aK⟩;have bq:=Jh (aY.out.trans (aK.mono a2));have ar:=hh.out.below bq.out (iR (Nat.lt_succ_self _) dQ);have e0:bH.cell? ⟨q+1,0,none⟩=some (.string ⟨#[]⟩):=ar.cell 0;have e1:bH.cell? ⟨q+1,1,none⟩=some (.string ⟨#[]⟩):=ar.cell 1;have e2:bH.cell? ⟨q+1,2,none⟩=some (.string ⟨#[]⟩):=ar.cell 2;have z0:=ar.frozen 0;have z1:=ar.frozen 1;have z2:=ar.frozen 2;have dH:=Jh ar;clear ar aK;clear hD gZ gQ go gc gb gM ge gg hC gG hM hH k3 dQ h3 hQ gE gY gd gD fW dD bv aM aS bd aT bE a2 ib ae ec d4 gO eM g0 g1 g2 g3 g4 fC fd e6 ft hn
    try clear d9
    try clear gw
    try clear aB
    try clear g5
    try clear c7
    try clear gP
    try clear dz
    try clear de
    try clear fl
    try clear dB
    try clear df
    try clear ga
    try clear gn
    try clear a3
    try clear b6
    try clear b9
    try clear aH
    try clear b2
    try clear b0
    try clear aY
    try clear bN
    try clear aQ
    try clear bD
    try clear a7
    try clear aR
    try clear bm
    try clear cZ
    try clear bf
    try clear dI
    try clear eN
    try clear HU
    try clear d7
    try clear gF
    try clear dC
    try clear ef
    try clear f4
    try clear aF
    try clear cx
    try clear bM
    try clear eF
    try clear cv
    try clear ek
    try clear aJ
    try clear bL
    try clear gN
    try clear cK
    try clear ee
    try clear HM
    try clear gt
    try clear d5
    try clear cI
    try clear gV
    try clear HG
    try clear HC
    try clear HF
    try clear dx
    try clear ds
    try clear fs
    try clear cU
    try clear aq
    try clear gI
    try clear ho
    try clear HN
    try clear HT
    try clear HZ
    try clear HS
    try clear hh
    try clear HD
    dsimp only
    iterate 12 (try (first | go_values | go_skip | go_guarded | go_step | go_upon | go_back))
    have eV:Blk (((bH.setCell ⟨q+1,0,none⟩ (.string S1)).setCell ⟨q+1,1,none⟩ (.string S2)).setCell ⟨q+1,2,none⟩ (.string S3)) (q+1) 44 #[.string S1,.string S2,.string S3]:=((dH.out.set_ 0 _).set_ 1 _).set_ 2 _;have d6:w.heap.size<=q+1:=by rw[HQ.out];exact Nat.le_succ _
    have fz:Below w.heap.size w (((bH.setCell ⟨q+1,0,none⟩ (.string S1)).setCell ⟨q+1,1,none⟩ (.string S2)).setCell ⟨q+1,2,none⟩ (.string S3)):=(((br.out.trans (bq.out.mono ha)).setCell (p:=⟨q+1,0,none⟩) d6 _).setCell (p:=⟨q+1,1,none⟩) d6 _).setCell (p:=⟨q+1,2,none⟩) d6 _;obtain⟨wf,g9⟩:=jF (((bH.setCell ⟨q+1,0,none⟩ (.string S1)).setCell ⟨q+1,1,none⟩ (.string S2)).setCell ⟨q+1,2,none⟩ (.string S3));rw[g9]at eV fz |-;have hI:=Jh eV;have hW:=Jh fz;clear g9 eV fz e0 e1 e2 z0 z1 z2 d6 dH
    iterate 2 (try (first | go_values | go_skip | go_guarded | go_step | go_upon | go_back))
    refine bodyPost_ret (Kbx rfl _ _ ⟨q+1,0,none⟩ (.agg #[.string S1,.string S2,.string S3]) rfl (run_loadVar_row _ (q+1) 44 44 _ (0,0) _ hI.out underlying44 rfl (by kernel_rfl))) rfl ?_
    have eW:filV (Kff c) = .agg #[.string S1,.string S2,.string S3]:=by unfold filV Kff txtV;rw[eB.out,fk.out,e9.out]
    rw[eW];exact⟨rfl,hW.out⟩
end
section
open Go.RowKit
open List renaming length_append -> Jd
theorem Kxn (c:Int):(Kcs c).length<=68:=by
 unfold Kcs
 repeat' split
 all_goals simp[Kbi]
theorem Kxv (c:Cst) (x:Nat):(Kbr c x).1.length<=77:=by
 unfold Kbr
 repeat' split
 all_goals simp[Kbi]
 all_goals omega
theorem Kzc (c:Cst) (s:Smp):(Kbs c s).1.length<=145:=by
 unfold Kbs
 split
 .simp[Kbi]
 .have h1:=Kxn (s.t - c.last.t - c.step);have h2:=Kxv { c with step:=s.t - c.last.t } (s.v ^^^ c.last.v);simp only[Jd];omega
theorem Klt:∀(l:List Smp) (c:Cst),(Kbz c l).length<=145*l.length
 | [],_=>iy _
 | s :: l,c=>by have h1:=Kzc c s;have h2:=Klt l (Kbs c s).2;rw[Kbz,Jd,iv];omega
theorem Qau (p:List Smp):(Kdb p).length<=12+19*p.length:=by unfold Kdb;have h1:=(Kab p.length).2;have h2:=(Kfr (Kbz cst0 p)).len;have h3:=Klt p cst0;rw[Jd];omega
theorem Kta:∀(l:List Wnd) (a:Wnd),(wndsT a l).length<=66*l.length
 | [],_=>iy _
 | w :: l,a=>by have h:=Kta l w;have h1:=(Kab (w.start - a.start).toNat).2;have h2:=(Kab w.count.toNat).2;have h3:=(Kab (w.sum ^^^ a.sum)).2;have h4:=(Kab (w.min ^^^ a.min)).2;have h5:=(Kab (w.max ^^^ a.max)).2;have h6:=(Kab (w.last ^^^ a.last)).2;rw[wndsT];unfold wndT;simp only[Jd,iv];omega
theorem Qcu (l:List Wnd):(aggsT l).flatten.length<=77*l.length:=by
 cases l with
 | nil=>simp[aggsT]
 | cons w l=>
  have h1:=(Kab (w :: l).length).2;have h2:=Kta (w :: l) wnd0;have e:(aggsT (w :: l)).flatten=uintT (w :: l).length++wndsT wnd0 (w :: l):=by simp[aggsT,aggT]
  rw[e,Jd];rw[iv]at *;omega
theorem Kij:∀(f:Nat) (l:List Smp),((Kcb f l).map Kdb).flatten.length<=31*l.length
 | 0,l=>by simp[Kcb]
 | f+1,[]=>by simp[Kcb]
 | f+1,x :: l=>by
  have h1:=Qau ((x :: l).take 120);have h2:=Kij f ((x :: l).drop 120);have h3:((x :: l).take 120).length=min 120 (l.length+1):=by rw[iX,iv]
  have h4:((x :: l).drop 120).length=l.length+1 - 120:=by rw[iY,iv]
  rw[Kcb,iE,jz,Jd,iv];omega
theorem Kqy (s:Ser):(Kbf s).flatten.length<=31*s.samples.length+77*s.windows.length:=by unfold Kbf;rw[jf,Jd];have h1:=Kij s.samples.length s.samples;have h2:=Qcu s.windows;omega
theorem Kvz (P:List (List UInt8)):(lensT P).length<=11*P.length:=by
 induction P with
 | nil=>simp[lensT]
 | cons p P ih=>
  have h:=(Kab p.length).2;have e:lensT (p :: P)=uintT p.length++lensT P:=rfl;rw[e,Jd,iv];omega
theorem Knc (s:Ser):(Kbf s).length<=s.samples.length+1:=by
 have a1:=Kgn s.samples.length s.samples;have a2:(aggsT s.windows).length<=1:=by cases s.windows <;> simp[aggsT]
 unfold Kbf;rw[Jd,iz];omega
def smpsN (l:List Ser):Nat:=(l.map fun s=>s.samples.length).sum
def wndsN (l:List Ser):Nat:=(l.map fun s=>s.windows.length).sum
theorem Kmw:∀l:List Ser,(l.flatMap fun s=>(Kbf s).flatten).length<=31*smpsN l+77*wndsN l
 | []=>by simp[smpsN,wndsN]
 | s :: l=>by have h1:=Kqy s;have h2:=Kmw l;simp only[smpsN,wndsN,iE,iP,iM,Jd]at *;omega
theorem Qhd (t:List Txt) (s:Ser) (h:s.labels.length<=8):(serT t s).length<=209+11*s.samples.length:=by unfold serT;rw[Jd,Jd];have h1:=Qes t s.labels;have h2:=(Kab (Kbf s).length).2;have h3:=Kvz (Kbf s);have h4:=Knc s;omega
theorem Ksr (t:List Txt):∀l:List Ser,(∀s∈l,s.labels.length<=8)->(l.flatMap (serT t)).length<=209*l.length+11*smpsN l
 | [],_=>by simp[smpsN]
 | s :: l,h=>by have h1:=Qhd t s (h s (by simp));have h2:=Ksr t l (fun x hx=>h x (by simp[hx]));simp only[smpsN,iE,iP,iM,Jd,iv]at *;omega
theorem Kft (m:Nat):∀l:List Txt,(∀x∈l,x.length<=m)->(l.flatMap textT).length<=(11+m)*l.length
 | [],_=>by simp
 | x :: l,h=>by have h1:=h x (by simp);have h2:=Kft m l (fun y hy=>h y (by simp[hy]));have h3:=(Kab x.length).2;rw[iM,Jd,iv,Nat.mul_succ];unfold textT at *;rw[Jd];omega
theorem Kko (l:List Txt):(jV l).length<=l.length:=by unfold jV Lib.compactUpTo;rw[iz];exact iC (List.length_filter_le _ _) (by rw[iU];exact iy _)
theorem Kuj:∀S:List (List Lb),(∀l∈S,l.length<=8)->(allS S).length<=16*S.length
 | [],_=>by simp[allS]
 | l :: S,h=>by
  have h1:=h l (by simp);have h2:=Kuj S (fun x hx=>h x (by simp[hx]))
  have h3:(texts l).length=2*l.length:=by
   clear h1 h2 h
   induction l with
   | nil=>rfl
   | cons x l ih=>simp[texts]at *;omega
  unfold allS at *;rw[iM,Jd,iv];omega
theorem Qhk {l:List Lb}{x:Txt}(h:x∈texts l):∃y∈l,x=y.n\/x=y.v:=by unfold texts at h;obtain⟨y,hy,hx⟩:=iw.1 h;refine⟨y,hy,?_⟩;simpa using hx
def Kga (S:List (List Lb)):Prop:=∀l∈S,l.length<=8/\∀y∈l,y.n.length<=32/\y.v.length<=64
theorem Kqd {S:List (List Lb)}(h:Kga S):(tabOf S).length<=16*S.length/\∀x∈tabOf S,x.length<=64:=by
 refine⟨?_,fun x hx=>?_⟩
 .refine iC (Kko _) ?_;rw[List.length_mergeSort];exact Kuj S fun l hl=>(h l hl).1
 .have h1:=((Kwy S).2 x).1 hx;obtain⟨l,hl,hx⟩:=iw.1 h1;obtain⟨y,hy,hh⟩:=Qhk hx;have:=(h l hl).2 y hy;rcases hh with rfl | rfl <;> omega
theorem Kzi {S:List (List Lb)}(h:Kga S):(tabT (tabOf S)).length<=11+1200*S.length:=by obtain⟨h1,h2⟩:=Kqd h;have h3:=Kft 64 (tabOf S) h2;have h4:=(Kab (tabOf S).length).2;unfold tabT;rw[Jd];omega
theorem Kns (x:Lb):∀l:List Lb,(insK x l).length<=l.length+1
 | []=>iy _
 | y :: l=>by
  rw[insK]
  split
  .simp
  .split
   .have:=Kns x l;simp only[iv];omega
   .simp
theorem Qbh {S:List (List Lb)}(h:Kga S):(keysOf S).length<=8*S.length:=by
 have h1:∀l:List Lb,(l.foldr insK []).length<=l.length:=by
  intro l
  induction l with
  | nil=>exact iy _
  | cons y l ih=>rw[List.foldr_cons,iv];exact iC (Kns y _) (by omega)
 refine iC (h1 _) ?_
 induction S with
 | nil=>simp
 | cons l S ih=>
  have:=(h l (by simp)).1;have:=ih (fun x hx=>h x (by simp[hx]));rw[jz,Jd,iv];omega
theorem Klf {S:List (List Lb)}(h:Kga S):∀x∈keysOf S,x.n.length<=32/\x.v.length<=64:=fun x hx=>by obtain⟨l,hl,hm⟩:=((Kez S).2 x).1 hx;exact(h l hl).2 x hm
theorem Knq:∀(l K:List Lb),K.Nodup->(K.filter fun x=>decide (x∈l)).length<=l.length
 | [],K,_=>by simp
 | a :: l,K,hK=>by
  have h1:=Knq l K hK
  have h2:∀K:List Lb,K.Nodup->(K.filter fun x=>decide (x∈a :: l)).length<=(K.filter fun x=>decide (x∈l)).length+(if a∈K then 1 else 0):=by
   intro K
   induction K with
   | nil=>intro _;simp
   | cons y K ih=>
    intro hn;have hc:=i5.1 hn;have ih:=ih hc.2
    by_cases hya:y=a
    .subst hya;rw[jM hc.1]at ih;rw[jN (by simp),List.filter_cons_of_pos (by simp),iv];rw[iZ]
     split
     .rw[iv];omega
     .omega
    .have e:decide (y∈a :: l)=decide (y∈l):=by simp[hya]
     have e2:(a∈y :: K)↔a∈K:=by simp[Ne.symm hya]
     rw[iZ,iZ,e];simp only[e2]
     split
     .simp only[iv];omega
     .omega
  have h3:=h2 K hK;rw[iv]
  split at h3 <;> omega
theorem Qfc (K:List Lb) (hK:K.Nodup):∀(n:Nat) (S:List (List Lb)),S.length=n->(∀l∈S,l.length<=8)->(K.map fun x=>(Kan S x).length).sum<=8*S.length:=by
 intro n
 induction n with
 | zero=>
  intro S h _;have h0:S = []:=iH h;subst h0
  have:∀K:List Lb,(K.map fun x=>(Kan [] x).length).sum=0:=by
   intro K
   induction K with
   | nil=>rfl
   | cons y K ih=>rw[iE,iP,ih];rfl
  rw[this];exact jC _
 | succ n ih=>
  intro S h h8;have aa:S≠[]:=by intro e;rw[e]at h;cases h
  obtain⟨T,l,rfl⟩:∃T l,S=T ++ [l]:=⟨S.dropLast,S.getLast aa,(List.dropLast_concat_getLast aa).symm⟩;have h1:=ih T (by rw[Jd,iV]at h;omega) (fun x hx=>h8 x (by simp[hx]));have h2:=h8 l (by simp);have h3:=Knq l K hK
  have e:∀K:List Lb,(K.map fun x=>(Kan (T ++ [l]) x).length).sum=(K.map fun x=>(Kan T x).length).sum+(K.filter fun x=>decide (x∈l)).length:=by
   intro K
   induction K with
   | nil=>rfl
   | cons y K ih=>
    rw[iE,iP,iE,iP,ih,Khq,iZ]
    by_cases hy:y∈l
    .rw[jN hy,jN (jL hy),Jd,iv];simp;omega
    .rw[jM hy,jM (by simpa using hy)];omega
  rw[e,Jd,iV];omega
theorem Kqb:∀(l:List Nat) (a:Nat),(Kcr a l).length<=11*l.length
 | [],_=>by simp[Kcr]
 | x :: l,a=>by have h:=Kqb l x;have h1:=(Kab (x - a)).2;rw[Kcr,Jd,iv];omega
theorem Kvn (S:List (List Lb)) (x:Lb) (h:x.n.length<=32/\x.v.length<=64):(keyT S x).length<=129+11*(Kan S x).length:=by have h1:=(Kab x.n.length).2;have h2:=(Kab x.v.length).2;have h3:=(Kab (Kan S x).length).2;have h4:=Kqb (Kan S x) 0;unfold keyT textT postT;simp only[Jd];omega
theorem Qbm {S:List (List Lb)}(h:Kga S):(Kcx S).length<=11+1120*S.length:=by
 have h1:=(Kab (keysOf S).length).2;have h2:=Qbh h;have h3:=Qfc (keysOf S) ((Kez S).1.imp fun hab e=>by subst e;exact Keo _ hab) S.length S rfl (fun l hl=>(h l hl).1)
 have h4:∀K:List Lb,(∀x∈K,x.n.length<=32/\x.v.length<=64)->(K.flatMap (keyT S)).length<=129*K.length+11*(K.map fun x=>(Kan S x).length).sum:=by
  intro K
  induction K with
  | nil=>intro _;simp
  | cons y K ih=>
   intro hk;have k1:=Kvn S y (hk y (by simp));have k2:=ih (fun x hx=>hk x (by simp[hx]));rw[iM,Jd,iv,iE,iP];omega
 have h5:=h4 (keysOf S) (Klf h);unfold Kcx;rw[Jd];omega
theorem Kst {c:Cont}(h:fitB c=true):Kga (Kao c):=by intro l hl;obtain⟨s,hs,rfl⟩:=it.1 hl;have:=Kfy ((Khi.1 h).2.2.2.2.2.1 s hs).1;exact⟨this.2.2.1,this.2.2.2.1⟩
theorem Qdp {c:Cont}(h:fitB c=true):(metaB c).length<=33/\(Kdc c).length<=31*smpsN c.series+77*wndsN c.series/\(Kcq c).length<=33+2529*c.series.length+11*smpsN c.series:=by
 have hs:=Kst h;have hn:(Kao c).length=c.series.length:=by simp[Kao]
 refine⟨?_,Kmw c.series,?_⟩
 .have h1:=(Kab c.res.toNat).2;have h2:(intT c.frm).length<=11:=(Kab _).2;have h3:(intT c.to_).length<=11:=(Kab _).2;unfold metaB;simp only[Jd];omega
 .have h1:=Kzi hs;have h2:=(Kab c.series.length).2;have h3:=Ksr (tabOf (Kao c)) c.series (fun s hx=>(hs s.labels (it.2 ⟨s,hx,rfl⟩)).1);have h4:=Qbm hs;unfold Kcq;simp only[Jd];omega
end
section
open Go.RowKit
open Lib renaming hid -> Jh
attribute [local go_sem ↓] Go.wp_at_zero Go.wp_at_succ
attribute [local go_sem] Later.cell
theorem Qga (m:List Lb):cmpL [] m=if m = [] then 0 else -1:=by cases m <;> rfl
theorem Qdg (m:List Lb):cmpL m []=if m = [] then 0 else 1:=by cases m <;> rfl
theorem Kdo (l m:List Lb) (A B:Option Addr) (n k ca cb:Nat) (w:World) (r:Int) (hr:cmpL l m=r) (hA:Elems w w.heap.size 2 encLb A n l) (hB:Elems w w.heap.size 2 encLb B k m) (hn:n<=140737488351232) (hk:k<=140737488351232) :
  Calls prog 69 #[.slice A n ca,.slice B k cb] w fun e w'=>e = .returned (.int .i64 r)/\Below w.heap.size w w':=by
 have HR:=Jh hr;have ax:=Jh hA.len;have aw:=Jh hB.len;clear hr;go_enter func69,ntmps69
 go_wp2_with fail
 go_loopg [5] n (fun g s5 wr=>∃i:Nat,s5 = .int .i64 (i:Int)/\i+g=n/\i<=k/\cmpL (l.drop i) (m.drop i)=r/\Below w.heap.size w wr)
 case atStart=>exact⟨0,rfl,by omega,jC _,HR.out,Below.refl _ _⟩
 case round=>
  obtain⟨i,rfl,aD,hik,aa,ac⟩:=hrel;have ay:=Jh aD;have az:=Jh aa;clear aD aa
  by_cases hi:i<n
  .have el:decide (i<n)=true:=by rw[jH];exact hi
   by_cases hi2:i<k
   .have aK:decide (i<k)=true:=by rw[jH];exact hi2
    obtain⟨w0,rfl⟩:=jG wr;have ad:i<l.length:=by have:=ax.out;omega
    have ae:i<m.length:=by have:=aw.out;omega
    have ah:0<n:=by omega
    have ai:0<k:=by omega
    obtain⟨b,off,rfl,hbl,_⟩:=hA.2 ah;obtain⟨b',aP,rfl,hbm,_⟩:=hB.2 ai;obtain⟨x,hx⟩:∃x,l[i]! = x:=⟨_,rfl⟩;obtain⟨y,hy⟩:∃y,m[i]! = y:=⟨_,rfl⟩;obtain⟨XN,al⟩:∃N:ByteArray,(⟨x.n.toArray⟩:ByteArray)=N:=⟨_,rfl⟩;obtain⟨XV,am⟩:∃N:ByteArray,(⟨x.v.toArray⟩:ByteArray)=N:=⟨_,rfl⟩;obtain⟨YN,ao⟩:∃N:ByteArray,(⟨y.n.toArray⟩:ByteArray)=N:=⟨_,rfl⟩;obtain⟨YV,an⟩:∃N:ByteArray,(⟨y.v.toArray⟩:ByteArray)=N:=⟨_,rfl⟩;have aB:l.drop i=x :: l.drop (i+1):=by rw[<-hx,jI l i ad];exact iN ad
    have aC:m.drop i=y :: m.drop (i+1):=by rw[<-hy,jI m i ae];exact iN ae
    have aa:=az.out;rw[aB,aC,cmpL]at aa;obtain⟨q1,aN⟩:=jF (Op.bytesLess XN.toList YN.toList);obtain⟨q2,aX⟩:=jF (XN.toList == YN.toList);obtain⟨q3,aU⟩:=jF (Op.bytesLess XV.toList YV.toList);obtain⟨q4,aJ⟩:=jF (XV.toList == YV.toList);have k1:q1=decide (x.n<y.n):=by rw[<-aN,<-al,Knz,<-ao]
    have k2:q2=decide (x.n=y.n):=by rw[<-aX,<-al,<-ao,j6,j6,jr];simp
    have k3:q3=decide (x.v<y.v):=by rw[<-aU,<-am,Knz,<-an]
    have k4:q4=decide (x.v=y.v):=by rw[<-aJ,<-am,<-an,j6,j6,jr];simp
    have aT:Hid (q1=true->r = -1):=Jh (fun h=>by rw[k1,jH]at h;rw[jN h]at aa;exact aa.symm);have aY:Hid (q1=false->q2=false->r=1):=Jh (fun h1 h=>by rw[k1,jK]at h1;rw[k2,jK]at h;rw[jM h1,jN (kh fun h3=>h (Kek h1 h3))]at aa;exact aa.symm);have aH:Hid (q1=false->q2=true->q3=true->r = -1):=Jh (fun h1 h2 h=>by rw[k1,jK]at h1;rw[k2,jH]at h2;rw[k3,jH]at h;rw[jM h1,jM (by rw[h2];exact jh _),jN h]at aa;exact aa.symm);have aF:Hid (q1=false->q2=true->q3=false->q4=false->r=1):=Jh (fun h1 h2 h3 h=>by rw[k1,jK]at h1;rw[k2,jH]at h2;rw[k3,jK]at h3;rw[k4,jK]at h;rw[jM h1,jM (by rw[h2];exact jh _),jM h3,jN (kh fun h5=>h (Kek h3 h5))]at aa;exact aa.symm);have aA:Hid (q1=false->q2=true->q3=false->q4=true->cmpL (l.drop (i+1)) (m.drop (i+1))=r):=Jh (fun h1 h2 h3 h=>by rw[k1,jK]at h1;rw[k2,jH]at h2;rw[k3,jK]at h3;rw[k4,jH]at h;rw[jM h1,jM (by rw[h2];exact jh _),jM h3,jM (by rw[h];exact jh _)]at aa;exact aa);have HX:=Jh hx;have HY:=Jh hy;have ar:=Jh al;have ap:=Jh am;have aq:=Jh ao;have av:=Jh an;obtain⟨_,a0,a1⟩:=Kbk hA ah ac i ad;obtain⟨_,d0,d1⟩:=Kbk hB ai ac i ae;rw[hx,al]at a0;rw[hx,am]at a1;rw[hy,ao]at d0;rw[hy,an]at d1;have aS:b<w0.heap.size:=by have:=ac.size;omega
    have aM:b'<w0.heap.size:=by have:=ac.size;omega
    clear k1 k2 k3 k4 aa aB aC hx hy al am ao an;go_upto_region 4 with fail
    refine Kaa (by kernel_rfl) (by kernel_rfl) ?_
    repeat (go_big_quiet_step (fail))
    refine kk ?_;rintro w1 ⟨⟨_,aR⟩,rfl⟩;have ag:Below w.heap.size w w1:=then_ ac aR;obtain⟨_,a0,a1⟩:=Kbk hA ah ag i ad;obtain⟨_,d0,d1⟩:=Kbk hB ai ag i ae;rw[HX.out,ar.out]at a0;rw[HX.out,ap.out]at a1;rw[HY.out,aq.out]at d0;rw[HY.out,av.out]at d1;have aI:b<w1.heap.size:=by have:=ag.size;omega
    have aZ:b'<w1.heap.size:=by have:=ag.size;omega
    cases q1 with
    | true=>
     have ab:r = -1:=aT.out rfl;subst ab;go_wp2_with fail
     go_ret
     exact⟨rfl,ag⟩
    | false=>
     go_upto_region 6 with fail
     refine Kaa (by kernel_rfl) (by kernel_rfl) ?_
     repeat (go_big_quiet_step (fail))
     refine kk ?_;rintro w2 ⟨⟨_,aV⟩,rfl⟩;have aj:Below w.heap.size w w2:=then_ ag aV;obtain⟨_,a0,a1⟩:=Kbk hA ah aj i ad;obtain⟨_,d0,d1⟩:=Kbk hB ai aj i ae;rw[HX.out,ar.out]at a0;rw[HX.out,ap.out]at a1;rw[HY.out,aq.out]at d0;rw[HY.out,av.out]at d1;have a3:b<w2.heap.size:=by have:=aj.size;omega
     have aQ:b'<w2.heap.size:=by have:=aj.size;omega
     cases q2 with
     | false=>
      have ab:r=1:=aY.out rfl rfl;subst ab;go_wp2_with fail
      go_ret
      exact⟨rfl,aj⟩
     | true=>
      go_upto_region 8 with fail
      refine Kaa (by kernel_rfl) (by kernel_rfl) ?_
      repeat (go_big_quiet_step (fail))
      refine kk ?_;rintro w3 ⟨⟨_,aO⟩,rfl⟩;have af:Below w.heap.size w w3:=then_ aj aO;obtain⟨_,a0,a1⟩:=Kbk hA ah af i ad;obtain⟨_,d0,d1⟩:=Kbk hB ai af i ae;rw[HX.out,ar.out]at a0;rw[HX.out,ap.out]at a1;rw[HY.out,aq.out]at d0;rw[HY.out,av.out]at d1;have aW:b<w3.heap.size:=by have:=af.size;omega
      have a4:b'<w3.heap.size:=by have:=af.size;omega
      cases q3 with
      | true=>
       have ab:r = -1:=aH.out rfl rfl rfl;subst ab;go_wp2_with fail
       go_ret
       exact⟨rfl,af⟩
      | false=>
       go_upto_region 10 with fail
       refine Kaa (by kernel_rfl) (by kernel_rfl) ?_
       repeat (go_big_quiet_step (fail))
       refine kk ?_;rintro w4 ⟨⟨_,aE⟩,rfl⟩;have ak:Below w.heap.size w w4:=then_ af aE;obtain⟨_,a0,a1⟩:=Kbk hA ah ak i ad;obtain⟨_,d0,d1⟩:=Kbk hB ai ak i ae;rw[HX.out,ar.out]at a0;rw[HX.out,ap.out]at a1;rw[HY.out,aq.out]at d0;rw[HY.out,av.out]at d1;have a2:b<w4.heap.size:=by have:=ak.size;omega
       have aL:b'<w4.heap.size:=by have:=ak.size;omega
       cases q4 with
       | false=>
        have ab:r=1:=aF.out rfl rfl rfl rfl;subst ab;go_wp2_with fail
        go_ret
        exact⟨rfl,ak⟩
       | true=>
         go_wp2_with fail
         go_roundg (gk - 1)
         case measure=>have:=ay.out;omega
         case rel=>exact⟨i+1,by go_num,by have:=ay.out;omega,by omega,by first | exact aA.out rfl rfl rfl rfl | simpa using aA.out,ak⟩
   .have aK:decide (i<k)=false:=by rw[jK];exact hi2
    have aG:i=k:=by omega
    have ab:r=1:=by have h1:=az.out;rw[jq (show m.length<=i by have:=aw.out;omega),Qdg,jM (by rw[i9];have:=ax.out;omega)]at h1;exact h1.symm
    have e1:decide (n<k)=false:=by rw[jK];omega
    have e2:decide (k<n)=true:=by rw[jH];omega
    subst ab;go_wp2_with fail
    go_ret
    exact⟨rfl,ac⟩
  .have el:decide (i<n)=false:=by rw[jK];exact hi
   have hin:i=n:=by have:=ay.out;omega
   have h1:=az.out;rw[jq (show l.length<=i by have:=ax.out;omega),Qga]at h1
   by_cases hnk:n<k
   .have ab:r = -1:=by
     rw[jM (by rw[i9];have:=aw.out;omega)]at h1;exact h1.symm
    have e1:decide (n<k)=true:=by rw[jH];exact hnk
    subst ab;clear h1;go_wp2_with fail
    go_ret
    exact⟨rfl,ac⟩
   .have ab:r=0:=by
     rw[jN (by rw[i9];have:=aw.out;omega)]at h1;exact h1.symm
    have e1:decide (n<k)=false:=by rw[jK];exact hnk
    have e2:decide (k<n)=false:=by rw[jK];omega
    subst ab;clear h1;go_wp2_with fail
    go_ret
    exact⟨rfl,ac⟩
end
section
open Go.RowKit
instance smpEq:DecidableEq Smp:=fun a b=>by
 cases a with
 | mk t v=>
  cases b with
  | mk t' v'=>exact if h:t=t'/\v=v' then isTrue (by rw[h.1,h.2]) else isFalse fun e=>h (by injection e with e1 e2;exact⟨e1,e2⟩)
instance wndEq:DecidableEq Wnd:=fun a b=>by
 cases a with
 | mk a1 a2 a3 a4 a5 a6=>
  cases b with
  | mk b1 b2 b3 b4 b5 b6=>
   exact if h:a1=b1/\a2=b2/\a3=b3/\a4=b4/\a5=b5/\a6=b6 then isTrue (by obtain⟨rfl,rfl,rfl,rfl,rfl,rfl⟩:=h;rfl) else isFalse fun e=>h (by injection e with e1 e2 e3 e4 e5 e6;exact⟨e1,e2,e3,e4,e5,e6⟩)
instance serEq:DecidableEq Ser:=fun a b=>by
 cases a with
 | mk l s w=>
  cases b with
  | mk l' s' w'=>exact if h:l=l'/\s=s'/\w=w' then isTrue (by rw[h.1,h.2.1,h.2.2]) else isFalse fun e=>h (by injection e with e1 e2 e3;exact⟨e1,e2,e3⟩)
instance contEq:DecidableEq Cont:=fun a b=>by
 cases a with
 | mk r f t s=>
  cases b with
  | mk r' f' t' s'=>exact if h:r=r'/\f=f'/\t=t'/\s=s' then isTrue (by obtain⟨rfl,rfl,rfl,rfl⟩:=h;rfl) else isFalse fun e=>h (by injection e with e1 e2 e3 e4;exact⟨e1,e2,e3,e4⟩)
theorem Klg {α : Type}[Inhabited α] {a b:List α}(h:a.length=b.length) (hi:∀i,i<a.length->a[i]! = b[i]!):a=b:=by apply List.ext_getElem h;intro i h1 h2;have:=hi i h1;rwa[jI a i h1,jI b i h2]at this
end
end Go.Proofs.YtdoiekknhnbepaaGreatDoor
