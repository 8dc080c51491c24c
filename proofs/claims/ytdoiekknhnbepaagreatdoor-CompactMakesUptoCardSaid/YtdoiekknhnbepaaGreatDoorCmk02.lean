/- Merged (what the claim wants of): ColWalks, AggPlain, BitPlain, ChkPlain, ChkPlain2, ChkPlain3, LabCmp, BlkPlain, BlkMem, MrgEnc, OncePlain, OncePlain2, MrgLaw, MrgPlain, MrgPlain2, MrgLaw2, MrgLaw3, MrgSym, MrgSortS, MrgStabS, SortRow, BackPlain, LabCmpW. -/
import Derived.Test.YtdoiekknhnbepaaGreatDoorCmk01
import Derived.Shelf.SlSortCmp.NoneTotal
set_option linter.unusedVariables false
set_option linter.unusedSimpArgs false
set_option maxRecDepth 1000000
set_option maxHeartbeats 8000000
namespace Go.Proofs.YtdoiekknhnbepaaGreatDoor
open List renaming pairwise_cons->a9,mem_cons->be,getElem?_eq_getElem->bk,mem_singleton->bl,pairwise_append->bp,getD_eq_getElem?_getD->bx,getElem?_eq_none->bA,mem_append->bL,getElem?_append_right->bN,getElem?_append_left->bO,mem_flatMap->bS,filter_eq_nil_iff->b3,find?_cons->b4,pairwise_iff_getElem->b5,mem_take_iff_getElem->b6,mem_drop_iff_getElem->b7,getElem?_take_of_lt->b9,getLast?_singleton->cc,length_eq_one_iff->ch,cons_lt_cons_iff->cj,getLast?_append->ck,pairwise_map->cl,mem_map->cm,not_lt->cp
open _root_.Array renaming getElem?_append_left->cq,getElem?_modify->cs
open IntKind renaming wrap_i64->ct,i64->cx
open Lib renaming compareBytes->cy,hid->cF
open UInt8 renaming ofNat->cR,toNat_lt->cS,not_lt->cT
open Calls renaming mono->cU,grown_of->cV
open Value renaming string->cW,int->cX
open Classical renaming byContradiction->cY
open List.Pairwise renaming nil->cZ,filter->c3
open Sem renaming run->c4
open Option.some renaming inj->c5,injEq->c6
open Go.WideMaps renaming keyOf_string_mk->c7
open Blk renaming new->c8
open Ne renaming symm->c9
open Tryz
open List renaming length_cons->a8,eq_nil_of_length_eq_zero->bc,append_assoc->bd,mem_cons_self->bf,mem_cons_of_mem->bg,length_nil->bh,append_nil->bi,take_append_drop->bj,pairwise_singleton->bm,length_append->bn,size_toArray->br,nil_append->bs,length_take->bt,drop_eq_getElem_cons->bv,not_mem_nil->bw,length_drop->bz,cons_append->bB,mem_cons->bD,filter_cons->bE,length_singleton->bF,mem_singleton->bG,foldl_cons->bH,getElem_mem->bI,take_succ_eq_append_getElem->bJ,lt_irrefl->bK,take_zero->bP,drop_zero->bQ,drop_eq_nil_of_le->bR,set_append_right->bT,mem_append_left->bU,length_map->bV,dropLast_concat_getLast->bW,set_cons_zero->bY,filter_append->bZ,getElem_append_right->cd,flatMap_cons->cg,take_of_length_le->cr,length_mergeSort->cz,concat_eq_append->cA,cons_lt_cons_iff->cB,cons_merge_cons->cC,flatMap_append->cG,lt_asymm->cH,set_cons_succ->cJ,getElem_drop->cK,set_append->cN,mem_append->cO,lt_trans->cQ
open Nat renaming le_refl->bo,lt_or_ge->bq,eq_zero_or_pos->bC,sub_self->bM,mul_comm->bX,add_sub_cancel->b8,zero_le->ce,testBit_lt_two_pow->cw,div_lt_of_lt_mul->cD,mod_lt->cI,succ_mul->cM
open Bool renaming and_eq_true->ci,noConfusion->co,not_eq_true'->cL
open _root_.Array renaming length_toList->cE
open Option renaming some_or->cP
section
open Go.RowKit Go.Sort Go.Maps
open Lib renaming hid -> Jh
open List renaming length_append -> Jd
attribute [local go_sem ↓] Go.wp_at_zero Go.wp_at_succ
attribute [local go_sem] Later.cell
structure Hd where
 A:Option Addr
 n:Nat
 c:Nat
instance:Inhabited Hd:=⟨⟨none,0,0⟩⟩
def encH (h:Hd):List Value:=[.slice h.A h.n h.c]
def Sets (w:World) (A:Option Addr) (n:Nat) (L:List (List Lb)):Prop:=
 ∃hs:List Hd,Elems w w.heap.size 1 encH A n hs/\L.length=n/\∀(i:Nat) (h:Hd),hs[i]? = some h->Elems w w.heap.size 2 encLb h.A h.n L[i]!/\h.n<=h.c
section
variable {w w' : World}{A : Option Addr}{n : Nat}{L : List (List Lb)}
theorem Sets.len (h:Sets w A n L):L.length=n:=by obtain⟨_,_,h2,_⟩:=h;exact h2
theorem Sets.at_ (h:Sets w A n L) {i:Nat}(hi:i<n):∃b off B m c,A=some ⟨b,off,none⟩/\b<w.heap.size/\w.cell? ⟨b,off+i,none⟩=some (.slice B m c)/\Elems w w.heap.size 2 encLb B m L[i]!/\m<=c:=by
 obtain⟨hs,h1,h2,h3⟩:=h;obtain⟨b,off,e,hb,hc⟩:=h1.2 (by omega);have hl:i<hs.length:=by have:=h1.len;omega
 obtain⟨a1,a2⟩:=h3 i hs[i] (bk hl);have:=hc i hs[i] (bk hl) 0 _ rfl;exact⟨b,off,_,_,_,e,hb,by simpa using this,a1,a2⟩
end
def allT (L:List (List Lb)):List Txt:=L.flatMap texts
theorem Krq (l:List Lb) (L:List (List Lb)):allT (l :: L)=texts l++allT L:=rfl
theorem Knl (L M:List (List Lb)):allT (L++M)=allT L++allT M:=by simp[allT]
theorem Kgk (l:List Lb):(texts l).length=2*l.length:=by
 induction l with
 | nil=>rfl
 | cons x l ih=>rw[Kka,a8,a8,ih,a8];omega
theorem Qfd (l m:List Lb):texts (l++m)=texts l++texts m:=by simp[texts]
theorem Qcv {L:List (List Lb)}{i:Nat}(h:i<L.length):(texts L[i]!).length<=(allT L).length:=by
 rw[jI L i h];have hL:L=L.take i++L[i] :: L.drop (i+1):=by rw[<-bv h,bj]
 have e:allT L=allT (L.take i)++(texts L[i]++allT (L.drop (i+1))):=by
  conv=>lhs;rw[hL]
  rw[Knl,Krq]
 rw[e,Jd,Jd];omega
theorem Qcw {L:List (List Lb)}{i:Nat}(h:i<L.length):allT (L.take (i+1))=allT (L.take i)++texts L[i]!:=by rw[bJ h,Knl,jI L i h];simp[allT]
theorem Kkd {L:List (List Lb)}(i:Nat):(allT (L.take i)).length<=(allT L).length:=by
 have:allT L=allT (L.take i)++allT (L.drop i):=by rw[<-Knl,bj]
 rw[this];simp
theorem Qfo {L:List (List Lb)}{i k:Nat}(h:i<L.length) (hk:k<L[i]!.length):L[i]![k]!.n∈allT L/\L[i]![k]!.v∈allT L:=by
 rw[jI L i h]at hk |-;rw[jI _ k hk];constructor
 .refine bS.2 ⟨L[i],bI h,bS.2 ⟨L[i][k],bI hk,by simp⟩⟩
 .refine bS.2 ⟨L[i],bI h,bS.2 ⟨L[i][k],bI hk,by simp⟩⟩
theorem Qcn {l:List Lb}{k:Nat}(h:k<l.length):texts (l.take (k+1))=texts (l.take k) ++ [l[k]!.n] ++ [l[k]!.v]:=by rw[bJ h,Qfd,jI l k h];simp[texts]
theorem law5:Keyed prog 9:=string_keyed underlying9
theorem zero5 (w:World):(zeroValue 3).run prog w = .ok (.int .i64 0) w:=by kernel_rfl
def Kdz (w:World) (b:Nat) (D:DataW Unit) (l:List Txt):Prop:=w.ownsMap prog 9 (plainElem prog 3) b l.length D/\∀x:Txt,Maps.has D (.string x)=true↔x∈l
theorem Kdz.put {w w':World}{b:Nat}{D:DataW Unit}{l:List Txt}{x:Txt}{d:DataW Unit}(h:Kdz w b D l) (hown:w'.ownsMap prog 9 (plainElem prog 3) b (l.length+1) (D.put (.string x) d)):Kdz w' b (D.put (.string x) d) (l ++ [x]):=by
 refine⟨by rw[Jd];exact hown,fun y=>?_⟩
 by_cases e:y=x
 .subst e;rw[has_put_same (k:=.string y) (h.1.tidy law5).isMap trivial];simp
 .rw[has_put_other (by intro h;injection h with h;exact e h),h.2 y];simp[e]
theorem Qgv {D:DataW Unit}{w:World}{b n:Nat}{l ss:List Txt}(hown:w.ownsMap prog 9 (plainElem prog 3) b n D) (hk:∀x:Txt,Maps.has D (.string x)=true↔x∈l) (hp:ss.Perm (strKeys D)):IsTab l (ss.mergeSort fun x y=>decide (x<=y)):=by
 obtain⟨es,rfl,af⟩:=hown.tidy law5;obtain⟨es',e',ag⟩:=hown.keysOf;injection e' with e';subst e'
 have aa:∀p∈es,∃x,p.1 = .string x:=fun p hp=>by obtain⟨v,hv⟩:=ag p hp;obtain⟨x,_,hx,_⟩:=Maps.keyOf_str underlying9 hv;exact⟨x,hx⟩
 have ah:(strKeys (.map es)).Nodup:=by
  show(es.map fun p=>strOf p.1).Nodup
  refine cl.2 (af.imp_of_mem fun {p q} hp' hq' hne e=>hne ?_);obtain⟨a,ha⟩:=aa p hp';obtain⟨b,hb⟩:=aa q hq';rw[ha,hb]at e |-;exact jR _ e
 have ad:∀x,x∈strKeys (.map es)↔x∈l:=by
  intro x;rw[<-hk x,has_eq,List.any_eq_true];show x∈es.map (fun p=>strOf p.1)↔_
  rw[cm];constructor
  .rintro ⟨p,hp,rfl⟩;obtain⟨a,ha⟩:=aa p hp;exact⟨p,hp,by rw[ha];simp[strOf,Lit.sameKey]⟩
  .rintro ⟨p,hp,e⟩;obtain⟨a,ha⟩:=aa p hp;rw[ha]at e;exact⟨p,hp,by rw[ha];simpa[strOf,Lit.sameKey]using e⟩
 have ab:(ss.mergeSort fun x y=>decide (x<=y)).Pairwise (fun a b=>a<=b):=by have:=List.pairwise_mergeSort (le:=fun x y:Txt=>decide (x<=y)) (by intro a b c;simp;exact List.le_trans) (by intro a b;simp;exact List.le_total a b) ss;simpa using this
 have ac:=(List.mergeSort_perm ss fun x y=>decide (x<=y)).trans hp;have ae:=(ac.nodup_iff).2 ah;refine⟨?_,fun x=>?_⟩
 .unfold Asc;refine(ab.and ae).imp ?_;rintro a b ⟨h1,h2⟩;exact Ksx h1 (c9 h2)
 .rw[<-ad x];exact ac.mem_iff
theorem Kdz.below {w w':World}{b:Nat}{D:DataW Unit}{l:List Txt}(h:Kdz w b D l) (hb:Below w.heap.size w w'):Kdz w' b D l:=
 ⟨h.1.kept (row:=none) ⟨hb.os,hb.tape,hb.output,hb.size,fun k hk _=>hb.block k hk⟩ (by simp),h.2⟩
theorem Krs {w w0 w':World}{B b:Nat}(h:Below B w w0) (hg:w0.grownBy w' (some b)) (hb:B<=b) (hB:B<=w0.heap.size):Below B w w':=
 h.trans ⟨hg.os,hg.tape,hg.output,hg.size,fun k hk=>hg.block k (by omega) (fun e=>by injection e with e;omega)⟩
theorem Ktf (L:List (List Lb)) (A:Option Addr) (n c:Nat) (w:World) (hS:Sets w A n L) (hn:n<=1099511627776) (hall:(allT L).length<=1099511627776) (hz:∀x∈allT L,x.length<=1099511627776) :
  Calls prog 39 #[.slice A n c] w (OfOut w (allT L)):=by
 have hmm:=@run_makeMap prog;have hL:=hS.len;have HL:=Jh hL;have HZ:=Jh hz;clear hL hz;go_enter func39,ntmps39
 go_upto_block 0 with fail
 go_cut [3] (fun s3 wz=>∃D,s3 = .map (some w.heap.size)/\Kdz wz w.heap.size D (allT L)/\Below w.heap.size w wz)
 case first=>
  go_wp2_with fail
  go_loopg [11] n (fun g s11 wr=>∃(i:Nat) (D:DataW Unit),i+g=n/\s11 = .int .i64 (i:Int)/\Kdz wr w.heap.size D (allT (L.take i))/\Below w.heap.size w wr)
  case atStart=>exact⟨0,_,by omega,rfl,⟨World.ownsMap_made _ _ _ _,fun x=>by simp[allT,Maps.has]⟩,(Below.refl _ _).alloc (bo _) _⟩
  case round=>
   obtain⟨i,D,aU,rfl,aa,hB⟩:=hrel;have aT:=Jh aU;clear aU
   by_cases hi:i<n
   .have el:decide ((i:Int)<(n:Int))=true:=by simp;omega
    have aX:decide (i<n)=true:=by simp;omega
    have ax:i<L.length:=by have:=HL.out;omega
    obtain⟨b,a7,C,m,d,rfl,a0,ah,hE,hmd⟩:=hS.at_ hi;have hcr:=(hB.cell (p:=⟨b,a7+i,none⟩) a0).trans ah;have a4:=Kkd (L:=L) i;have ab:=Qcw ax;have ai:=Qcv ax;have ak:=fun k hk=>Qfo (L:=L) (i:=i) (k:=k) ax hk
    obtain⟨l,hl⟩:∃l,L[i]! = l:=⟨_,rfl⟩;rw[hl]at hE ab ai ak;have av:=hE.len;rw[Kgk,av]at ai
    have aC:(allT (L.take i)).length+2*m<=1099511627776:=by have h1:=Kkd (L:=L) (i+1);rw[ab,Jd,Kgk,av]at h1;omega
    obtain⟨T,hT⟩:=jF (allT (L.take i));rw[hT]at aa ab aC;have aZ:=Jh ab;have aH:=Jh av;have aG:=Jh ak;clear ah a4 ab ak hl av hT ax;go_upto_block 1 with fail
    go_cut [] (fun wz=>∃D,Kdz wz w.heap.size D (T++texts l)/\Below w.heap.size w wz)
    case first=>
     go_wp2_with fail
     go_loopg [17] m (fun g s17 wz=>∃(k:Nat) (D:DataW Unit),k+g=m/\s17 = .int .i64 (k:Int)/\Kdz wz w.heap.size D (T++texts (l.take k))/\Below w.heap.size w wz)
     case atStart=>exact⟨0,D,by omega,rfl,by simpa[texts]using aa,hB⟩
     case round=>
      obtain⟨k,D,aI,rfl,aa,hB⟩:=hrel;have aK:=Jh aI;clear aI
      by_cases hk:k<m
      .have ek:decide ((k:Int)<(m:Int))=true:=by simp;omega
       have a3:decide (k<m)=true:=by simp;omega
       have aD:k<l.length:=by have:=aH.out;omega
       obtain⟨bb,oo,rfl,_,_⟩:=hE.2 (by omega);obtain⟨a5,c0,c1⟩:=Kbk hE (by omega) hB k aD;obtain⟨aL,aN⟩:=aG.out k aD;have z1:=HZ.out _ aL;have z2:=HZ.out _ aN;have ab:=Qcn aD;obtain⟨x,hx⟩:∃x,l[k]! = x:=⟨_,rfl⟩;rw[hx]at c0 c1 z1 z2 ab;obtain⟨N,hN⟩:∃N:ByteArray,(⟨x.n.toArray⟩:ByteArray)=N:=⟨_,rfl⟩;obtain⟨V,hV⟩:∃N:ByteArray,(⟨x.v.toArray⟩:ByteArray)=N:=⟨_,rfl⟩;rw[hN]at c0;rw[hV]at c1;have ay:N.data.toList=x.n:=by rw[<-hN]
       have aE:V.data.toList=x.v:=by rw[<-hV]
       have aJ:N.size<=maxLen:=by rw[<-Kai,ay];unfold maxLen;omega
       have aR:V.size<=maxLen:=by rw[<-Kai,aE];unfold maxLen;omega
       have kN:=c7 (P:=prog) underlying9 aJ;have kV:=c7 (P:=prog) underlying9 aR;rw[ay]at kN;rw[aE]at kV
       have aY:(T++texts (l.take k)).length+2<=1099511627776:=by rw[Jd,Kgk,bt];omega
       obtain⟨U,hU⟩:=jF (T++texts (l.take k));have aj:T++texts (l.take (k+1))=U ++ [x.n] ++ [x.v]:=by rw[ab,<-hU];simp
       rw[hU]at aa aY;have ar:=Jh aj;have KN:=Jh kN;have KV:=Jh kV;clear hx hN hV ay aE aJ aR kN kV hU aj ab aL aN z1 z2;go_upto_region 8 with fail
       have aw:Below w.heap.size w (wr.alloc (.cells #[.string N,.string V] 99)):=hB.alloc hB.size _;have hq:Blk (wr.alloc (.cells #[.string N,.string V] 99)) wr.heap.size 99 #[.string N,.string V]:=c8 _ _ _;have ad:Kdz (wr.alloc (.cells #[.string N,.string V] 99)) w.heap.size D U:=aa.below ((Below.refl _ _).alloc (bo _) _);have aq:w.heap.size≠wr.heap.size:=by have:=aa.1.lt;omega
       obtain⟨v1,aM⟩:=jF (wr.alloc (.cells #[.string N,.string V] 99));obtain⟨q,aV⟩:=jF wr.heap.size;rw[aM]at aw hq ad |-;rw[aV]at hq aq |-;clear aM aV c0 c1 hB aa;have q0:_=some (cW N):=hq.cell 0;have q1:_=some (cW V):=hq.cell 1;go_wp2_with (at_lookup;refine wpList_lookup_own_int _ rfl _ _ 191 rfl 9 3 .i64 law5 underlying191 underlying3 (zero5 _) w.heap.size U.length D rfl ad.1 _ _ rfl KN.out ?_)
       intro cn _ hwc;go_wp2_with (at_mapUpdate;refine wpList_mapUpdate_own _ rfl _ _ _ 191 rfl 9 3 law5 underlying191 _ w.heap.size U.length D rfl ad.1 (by unfold maxLen;omega) _ _ _ rfl rfl KN.out _ [] (plainElem_int underlying3 (wrap64_wf _)) ?_)
       intro v2 hown2 hgrow2;have ae:=ad.put hown2;have aS:=hq.grown hgrow2 (by simpa using c9 aq);have am:=Krs aw hgrow2 (bo _) aw.size;have a6:_=some (cW V):=aS.cell 1;clear hown2 hgrow2 ad q0 q1 hq aw;go_wp2_with (at_lookup;refine wpList_lookup_own_int _ rfl _ _ 191 rfl 9 3 .i64 law5 underlying191 underlying3 (zero5 _) w.heap.size (U ++ [x.n]).length _ rfl ae.1 _ _ rfl KV.out ?_)
       intro cv _ hwv;go_wp2_with (at_mapUpdate;refine wpList_mapUpdate_own _ rfl _ _ _ 191 rfl 9 3 law5 underlying191 _ w.heap.size (U ++ [x.n]).length _ rfl ae.1 (by unfold maxLen;simp;omega) _ _ _ rfl rfl KV.out _ [] (plainElem_int underlying3 (wrap64_wf _)) ?_)
       intro v3 hown3 hgrow3;have aB:=ae.put (by rw[Jd];exact hown3);have ao:=Krs am hgrow3 (bo _) am.size;clear hown3 hgrow3 ae a6 aS am;go_wp2_with fail
       go_roundg (gk - 1)
       case measure=>have:=aK.out;omega
       case rel=>exact⟨k+1,_,by have:=aK.out;omega,by go_num,by rw[ar.out];exact aB,ao⟩
      .have ek:decide ((k:Int)<(m:Int))=false:=by simp;omega
       have a3:decide (k<m)=false:=by simp;omega
       have ab:l.take k=l:=cr (by have:=aH.out;omega);rw[ab]at aa;clear ab;go_wp2_with fail
       go_meet
       exact⟨D,aa,hB⟩
    case rest=>
     obtain⟨D',az,aW⟩:=hcut;obtain⟨wx,rfl⟩:=jG wc;go_wp2_with fail
     go_roundg (gk - 1)
     case measure=>have:=aT.out;omega
     case rel=>exact⟨i+1,D',by have:=aT.out;omega,by go_num,by rw[aZ.out];exact az,aW⟩
   .have el:decide ((i:Int)<(n:Int))=false:=by simp;omega
    have aX:decide (i<n)=false:=by simp;omega
    have ab:L.take i=L:=cr (by have:=HL.out;omega);rw[ab]at aa;clear ab;go_wp2_with fail
    go_meet
    exact⟨D,rfl,aa,hB⟩
 case rest=>
  obtain⟨D,rfl,aa,hB⟩:=hcut;obtain⟨w1,rfl⟩:=jG wc;have ag:=callsIn_wide.1 (Tryz.maps_Keys_108 (some w.heap.size) w1)
  have a1:Maps.size D<=1099511627776:=by obtain⟨es,an,_,_,hs,hD⟩:=aa.1;rw[hD,size_eq,length_sorted,bV,cE];omega
  have ac:=callsIn_wide.1 (Tryz.slices_Sorted_keys_107_108 w.heap.size (allT L).length D _ w1 aa.1 (by unfold maxLen;omega) (by omega));have HK:=Jh ag;have a2:=Jh ac;clear ag ac;go_wp2_with fail
  refine HK.out.mono ?_;rintro e w2 ⟨rfl,rfl⟩;go_wp2_with fail
  refine a2.out.mono ?_;rintro e w3 ⟨v,ss,rfl,hP,af,_,aQ⟩;have ap:=Qgv aa.1 aa.2 hP;have am:Below w.heap.size w (w1.alloc (.cells #[.map (some w.heap.size)] 191)):=hB.alloc hB.size _;have ao:=then_ am aQ
  have al:(ss.mergeSort fun x y=>decide (x<=y)).length<=(allT L).length:=by
   rw[cz,hP.length_eq];obtain⟨es,an,_,_,hs,hD⟩:=aa.1;rw[hD];show(List.map _ _).length<=_
   rw[bV,length_sorted,bV,cE];exact hs
  have aA:(ss.mergeSort fun x y=>decide (x<=y)).length=ss.length:=cz _;obtain⟨z,hz⟩:=jF (ss.mergeSort (fun x y=>decide (x<=y)));rw[hz]at ap al aA af;rw[<-aA]at af;obtain⟨A',c',rfl,aO,_,aP⟩:=Strs.of_own af rfl;obtain⟨q,hq⟩:=jF z.length;rw[hq]at aO aP |-;have aF:=Jh al;clear hz aA af aa hB aQ am hP a1 hq al;go_wp2_with fail
  go_ret
  exact⟨_,z,rfl,⟨_,q,c',.inr ⟨_,rfl,c8 _ _ _⟩,aO.below ((Below.refl _ _).alloc (bo _) _),aP⟩,ap,aF.out,ao.alloc ao.size _,ao.size⟩
end
section
structure Wnd where
 start:Int
 count:Int
 sum:Nat
 min:Nat
 max:Nat
 last:Nat
def wnd0:Wnd:=⟨0,0,0,0,0,0⟩
def Kee (w a:Wnd) (first:Bool):Nat:=
 if w.start<0\/1125899906842624<w.start then 1 else if first=false/\w.start<=a.start then 2 else if w.count<1\/4611686018427387904<w.count then 3 else 0
def WndOk (w:Wnd):Prop:=0<=w.start/\w.start<=1125899906842624/\1<=w.count/\w.count<=4611686018427387904
def Kcn (w:Wnd):Prop:=w.sum<2 ^ 64/\w.min<2 ^ 64/\w.max<2 ^ 64/\w.last<2 ^ 64
theorem Kna (w a:Wnd) (first:Bool):Kee w a first=0↔WndOk w/\(first=true\/a.start<w.start):=by unfold Kee WndOk;cases first <;> simp <;> split <;> (try split) <;> (try split) <;> simp <;> omega
def wndT (a w:Wnd):List UInt8:=uintT (w.start - a.start).toNat++uintT w.count.toNat++uintT (w.sum ^^^ a.sum)++uintT (w.min ^^^ a.min)++uintT (w.max ^^^ a.max)++uintT (w.last ^^^ a.last)
def wndsT:Wnd->List Wnd->List UInt8
 | _,[]=>[]
 | a,w :: l=>wndT a w++wndsT w l
def aggT (l:List Wnd):List UInt8:=uintT l.length++wndsT wnd0 l
def Kci:Wnd->Bool->List Wnd->Bool
 | _,_,[]=>true
 | a,first,w :: l=>decide (Kee w a first=0) && Kci w false l
def bitAt (s:List UInt8) (i:Nat):Bool:=(s.getD (i / 8) 0).toNat.testBit (7 - i % 8)
def roomB (s:List UInt8) (n:Nat):List UInt8:=if n % 8=0 then s ++ [0] else s
def pushB (s:List UInt8) (n:Nat) (b:Bool):List UInt8:=
 if b then (roomB s n).set (n / 8) ((roomB s n).getD (n / 8) 0 ||| cR (128 >>> (n % 8))) else roomB s n
structure Kdl (s:List UInt8) (l:List Bool):Prop where
 len:s.length=(l.length+7) / 8
 bit:∀i,bitAt s i=l.getD i false
theorem Kdl.nil:Kdl [] []:=⟨rfl,fun i=>by simp[bitAt]⟩
theorem Klr {s:List UInt8}{n:Nat}(h:s.length=(n+7) / 8):(roomB s n).length=n / 8+1:=by
 unfold roomB
 split
 .rw[bn,bF];omega
 .omega
theorem Klq {s:List UInt8}{n:Nat}(h:s.length=(n+7) / 8) (i:Nat):bitAt (roomB s n) i=bitAt s i:=by
 unfold roomB
 split
 .unfold bitAt;congr 2;simp only[bx]
  by_cases hi:i / 8<s.length
  .rw[bO hi]
  .rw[bN (by omega),bA (l:=s) (by omega)]
   by_cases h0:i / 8 - s.length=0
   .rw[h0];rfl
   .rw[bA (by simp;omega)]
 .rfl
theorem Qjc (k j:Nat) (hk:k<8) (hj:j<8):(cR (128 >>> k)).toNat.testBit (7 - j)=decide (j=k):=by
 rcases (by omega:k=0\/k=1\/k=2\/k=3\/k=4\/k=5\/k=6\/k=7) with rfl | rfl | rfl | rfl | rfl | rfl | rfl | rfl <;>
 rcases (by omega:j=0\/j=1\/j=2\/j=3\/j=4\/j=5\/j=6\/j=7) with rfl | rfl | rfl | rfl | rfl | rfl | rfl | rfl <;> rfl
theorem Kdl.push {s:List UInt8}{l:List Bool}(h:Kdl s l) (b:Bool):Kdl (pushB s l.length b) (l ++ [b]):=by
 have hr:=Klr h.len;refine⟨?_,fun i=>?_⟩
 .unfold pushB
  split
  .rw[List.length_set,hr,bn,bF];omega
  .rw[hr,bn,bF];omega
 .have h0:(l ++ [b]).getD i false=if i=l.length then b else l.getD i false:=by
   simp only[bx]
   by_cases hi:i<l.length
   .rw[bO hi,jM (by omega)]
   .rw[bN (by omega)]
    by_cases he:i=l.length
    .subst he;simp
    .rw[jM he,bA (by simp;omega),bA (by omega)]
  rw[h0,<-h.bit i];unfold pushB
  cases b with
  | false=>
   rw[jM (by simp),Klq h.len]
   split
   .rename_i he
    rw[he,h.bit];simp
   .rfl
  | true=>
   rw[jN rfl]
   by_cases hq:i / 8=l.length / 8
   .have e1:bitAt ((roomB s l.length).set (l.length / 8) ((roomB s l.length).getD (l.length / 8) 0 ||| cR (128 >>> (l.length % 8)))) i=(bitAt (roomB s l.length) i || decide (i % 8=l.length % 8)):=by
     unfold bitAt;rw[hq]
     have e2:((roomB s l.length).set (l.length / 8) ((roomB s l.length).getD (l.length / 8) 0 ||| cR (128 >>> (l.length % 8)))).getD (l.length / 8) 0=((roomB s l.length).getD (l.length / 8) 0 ||| cR (128 >>> (l.length % 8))):=by simp only[bx];rw[List.getElem?_set_self (by omega)];rfl
     rw[e2,UInt8.toNat_or,Nat.testBit_or,Qjc _ _ (cI _ (by omega)) (cI _ (by omega))]
    rw[e1,Klq h.len]
    by_cases he:i=l.length
    .rw[jN he,he];simp
    .have:i % 8≠l.length % 8:=by omega
     rw[jM he,jJ this,Bool.or_false]
   .have e1:bitAt ((roomB s l.length).set (l.length / 8) ((roomB s l.length).getD (l.length / 8) 0 ||| cR (128 >>> (l.length % 8)))) i=bitAt (roomB s l.length) i:=by
     unfold bitAt;congr 2;simp only[bx];rw[List.getElem?_set_ne (by omega)]
    rw[e1,Klq h.len,jM (by rintro rfl;exact hq rfl)]
def packFrom (s:List UInt8) (n:Nat):List Bool->List UInt8
 | []=>s
 | b :: l=>packFrom (pushB s n b) (n+1) l
theorem Kdl.packFrom {s:List UInt8}{l:List Bool}(h:Kdl s l):∀k:List Bool,Kdl (packFrom s l.length k) (l++k)
 | []=>by rw[bi];exact h
 | b :: k=>by have:=(h.push b).packFrom k;rw[bn,bF,bd]at this;exact this
 termination_by k=>k.length
def packB (l:List Bool):List UInt8:=packFrom [] 0 l
theorem Kfr (l:List Bool):Kdl (packB l) l:=Kdl.nil.packFrom l
theorem Qhw {a b:UInt8}(h:∀j,j<8->a.toNat.testBit (7 - j)=b.toNat.testBit (7 - j)):a=b:=by
 apply UInt8.toNat_inj.1;apply Nat.eq_of_testBit_eq;intro i
 by_cases hi:i<8
 .have:=h (7 - i) (by omega);rwa[show 7 - (7 - i)=i by omega]at this
 .have ha:=cS a;have hb:=cS b;have h2:2 ^ 8<=2 ^ i:=Nat.pow_le_pow_right (by omega) (by omega);rw[cw (by omega),cw (by omega)]
theorem Kdl.unique {s t:List UInt8}{l:List Bool}(h:Kdl s l) (h':Kdl t l):s=t:=by apply List.ext_getElem (h.len.trans h'.len.symm);intro i h1 h2;apply Qhw;intro j hj;have a:=h.bit (8*i+j);have b:=h'.bit (8*i+j);rw[<-b]at a;unfold bitAt at a;rw[show(8*i+j) / 8=i by omega,show(8*i+j) % 8=j by omega]at a;simpa[bx,bk h1,bk h2]using a
theorem Kpm (l:List Bool) (b:Bool):packB (l ++ [b])=pushB (packB l) l.length b:=(Kfr (l ++ [b])).unique ((Kfr l).push b)
def putN (v:Nat):Nat->List Bool
 | 0=>[]
 | n+1=>v.testBit n :: putN v n
theorem Kbi (v:Nat):∀n,(putN v n).length=n
 | 0=>rfl
 | n+1=>by rw[putN,a8,Kbi v n]
structure Smp where
 t:Int
 v:Nat
structure Cst where
 n:Nat
 last:Smp
 step:Int
 lead:Nat
 tail:Nat
 window:Bool
def cst0:Cst:=⟨0,⟨0,0⟩,0,0,0,false⟩
def u64N (c:Int):Nat:=(c % 18446744073709551616).toNat
def Kcs (c:Int):List Bool:=
 if c=0 then [false] else
 if -64<=c/\c<64 then putN 2 2++putN (u64N c) 7 else
 if -256<=c/\c<256 then putN 6 3++putN (u64N c) 9 else
 if -2048<=c/\c<2048 then putN 14 4++putN (u64N c) 12 else putN 15 4++putN (u64N c) 64
def clzN (x:Nat):Nat:=64 - (if x=0 then 0 else x.log2+1)
def ctzF (x:Nat):Nat->Nat
 | 0=>0
 | f+1=>if x % 2=1 then 0 else ctzF (x / 2) f+1
def ctzN (x:Nat):Nat:=ctzF x 64
def Kbr (c:Cst) (x:Nat):List Bool×Cst:=
 if x=0 then ([false],c) else
 if c.window=true/\c.lead<=min (clzN x) 31/\c.tail<=ctzN x then (putN 2 2++putN (x >>> c.tail) (64 - c.lead - c.tail),c) else
 (putN 3 2++putN (min (clzN x) 31) 5++putN (63 - min (clzN x) 31 - ctzN x) 6++putN (x >>> ctzN x) (64 - min (clzN x) 31 - ctzN x),{ c with lead:=min (clzN x) 31,tail:=ctzN x,window:=true })
def Kbs (c:Cst) (s:Smp):List Bool×Cst:=
 if c.n=0 then (putN (u64N s.t) 64++putN s.v 64,{ c with n:=1,last:=s }) else
 (Kcs (s.t - c.last.t - c.step)++(Kbr { c with step:=s.t - c.last.t } (s.v ^^^ c.last.v)).1,{ (Kbr { c with step:=s.t - c.last.t } (s.v ^^^ c.last.v)).2 with last:=s,n:=c.n+1 })
def Kbz:Cst->List Smp->List Bool
 | _,[]=>[]
 | c,s :: l=>(Kbs c s).1++Kbz (Kbs c s).2 l
theorem Qjd {x:Nat}(h0:x≠0) (h:x<2 ^ 64):clzN x<=63/\x<2 ^ (64 - clzN x):=by unfold clzN;rw[jM h0];have h1:=(Nat.log2_lt h0).2 h;refine⟨by omega,?_⟩;rw[show 64 - (64 - (x.log2+1))=x.log2+1 by omega];exact Nat.lt_log2_self
theorem Kks:∀(f x:Nat),x≠0->x<2 ^ f->2 ^ ctzF x f ∣ x/\ctzF x f<f/\(x >>> ctzF x f) % 2=1
 | 0,x,h0,h=>by simp at h;omega
 | f+1,x,h0,h=>by
  rw[ctzF]
  by_cases hx:x % 2=1
  .rw[jN hx];exact⟨by simp,by omega,by simpa using hx⟩
  .rw[jM hx];obtain⟨⟨q,hq⟩,h2,h3⟩:=Kks f (x / 2) (by omega) (by rw[Nat.pow_succ]at h;omega);refine⟨⟨q,?_⟩,by omega,?_⟩
   .rw[Nat.pow_succ,Nat.mul_right_comm,<-hq];omega
   .rw[Nat.shiftRight_succ_inside];exact h3
theorem Qgb {x:Nat}(h0:x≠0) (h:x<2 ^ 64):2 ^ ctzN x ∣ x/\ctzN x<64:=⟨(Kks 64 x h0 h).1,(Kks 64 x h0 h).2.1⟩
theorem Kzs {x:Nat}(h0:x≠0) (h:x<2 ^ 64):clzN x+ctzN x<=63:=by obtain⟨h1,h2⟩:=Qjd h0 h;obtain⟨⟨q,hq⟩,h4⟩:=Qgb h0 h;have aa:2 ^ ctzN x<=x:=Nat.le_of_dvd (by omega) ⟨q,hq⟩;have:2 ^ ctzN x<2 ^ (64 - clzN x):=Nat.lt_of_le_of_lt aa h2;have:=(Nat.pow_lt_pow_iff_right (by omega:1<2)).1 this;omega
def Cst.Ok (c:Cst):Prop:=c.lead<=31/\c.lead+c.tail<=63
theorem Cst.ok0:cst0.Ok:=⟨by decide,by decide⟩
theorem Qdk {c:Cst}(h:c.Ok) {x:Nat}(hx:x<2 ^ 64):(Kbr c x).2.Ok:=by
 unfold Kbr
 split
 .exact h
 .rename_i h0
  split
  .exact h
  .have:=Kzs h0 hx;exact⟨Nat.min_le_right _ _,by show min (clzN x) 31+ctzN x<=63;omega⟩
end
section
open Go.RowKit
def SmpOk (s:Smp):Prop:=0<=s.t/\s.t<=1125899906842624/\s.v<2 ^ 64
def Rises:List Smp->Prop
 | []=>True
 | [_]=>True
 | a :: b :: l=>a.t<b.t/\Rises (b :: l)
structure Cst.Good (c:Cst):Prop where
 ok:c.Ok
 t0:0<=c.last.t
 t1:c.last.t<=1125899906842624
 v:c.last.v<2 ^ 64
 s0:-1125899906842624<=c.step
 s1:c.step<=1125899906842624
theorem Cst.good0:cst0.Good:=⟨Cst.ok0,by decide,by decide,by decide,by decide,by decide⟩
theorem Cst.Ok.step {c:Cst}(h:c.Ok) (z:Int):Cst.Ok { c with step:=z }:=h
theorem Kxw (c:Cst) (x:Nat):(Kbr c x).2.step=c.step:=by
 unfold Kbr
 split
 .rfl
 .split <;> rfl
theorem Kzd {c:Cst}(h:c.Good) {s:Smp}(hs:SmpOk s):(Kbs c s).2.Good:=by
 unfold Kbs
 split
 .exact ⟨h.ok,hs.1,hs.2.1,hs.2.2,h.s0,h.s1⟩
 .have hx:s.v ^^^ c.last.v<2 ^ 64:=Nat.xor_lt_two_pow hs.2.2 h.v;have hd:=Qdk (h.ok.step (s.t - c.last.t)) hx;have aa:=Kxw { c with step:=s.t - c.last.t } (s.v ^^^ c.last.v);dsimp only at aa;refine⟨hd,hs.1,hs.2.1,hs.2.2,?_,?_⟩
  .show _<=(Kbr { c with step:=s.t - c.last.t } (s.v ^^^ c.last.v)).2.step
   rw[aa];have:=hs.1;have:=h.t1;omega
  .show (Kbr { c with step:=s.t - c.last.t } (s.v ^^^ c.last.v)).2.step<=_
   rw[aa];have:=hs.2.1;have:=h.t0;omega
theorem Kik (c:Cst) (s:Smp):(Kbs c s).2.n=c.n+1/\(Kbs c s).2.last=s:=by
 unfold Kbs
 split
 .rename_i h
  exact⟨by rw[h],rfl⟩
 .exact ⟨rfl,rfl⟩
end
section
def Qhr (l:List Smp):Prop:=(∀x∈l,SmpOk x)/\Rises l/\l.length<=120
def Kdb (l:List Smp):List UInt8:=uintT l.length++packB (Kbz cst0 l)
def fitC:Option Smp->Nat->List Smp->Bool
 | _,_,[]=>true
 | prev,n,x :: l=>decide (0<=x.t) && decide (x.t<=1125899906842624) && (match prev with | none=>true | some y=>decide (y.t<x.t)) && decide (n<120) && fitC (some x) (n+1) l
theorem Qcb {x:Smp}:∀{l:List Smp},Rises (x :: l)↔(∀y,l.head? = some y->x.t<y.t)/\Rises l
 | []=>⟨fun _=>⟨fun y h=>(by cases h),trivial⟩,fun _=>trivial⟩
 | z :: l=>⟨fun h=>⟨fun y hy=>(by obtain rfl:=c5 hy;exact h.1),h.2⟩,fun h=>⟨h.1 z rfl,h.2⟩⟩
theorem Kvc:∀(l:List Smp) (prev:Option Smp) (n:Nat),fitC prev n l=true↔(∀x∈l,0<=x.t/\x.t<=1125899906842624)/\Rises l/\(∀y x,prev=some y->l.head? = some x->y.t<x.t)/\(l = []\/n+l.length<=120)
 | [],prev,n=>by simp[fitC,Rises]
 | x :: l,prev,n=>by
  have ih:=Kvc l (some x) (n+1);rw[show fitC prev n (x :: l)=(decide (0<=x.t) && decide (x.t<=1125899906842624) && (match prev with | none=>true | some y=>decide (y.t<x.t)) && decide (n<120) && fitC (some x) (n+1) l) from by cases prev <;> rfl,ci,ih,Qcb];simp only[ci,jH,bD,forall_eq_or_imp,a8,reduceCtorEq,false_or,List.head?_cons,c6];constructor
  .rintro ⟨⟨⟨⟨h1,h2⟩,h3⟩,h4⟩,h5,h6,h7,h8⟩;refine⟨⟨⟨h1,h2⟩,h5⟩,⟨fun y hy=>h7 x y rfl hy,h6⟩,?_,?_⟩
   .rintro y _ rfl rfl;simpa using h3
   .rcases h8 with rfl | h8
    .simp;omega
    .omega
  .rintro ⟨⟨⟨h1,h2⟩,h5⟩,⟨h7,h6⟩,h3,h8⟩;refine⟨⟨⟨⟨h1,h2⟩,?_⟩,by omega⟩,h5,h6,?_,.inr (by omega)⟩
   .cases prev with
    | none=>rfl
    | some y=>simpa using h3 y x rfl rfl
   .rintro y z hy hz;exact hy▸h7 z hz
def cmpL:List Lb->List Lb->Int
 | [],[]=>0
 | [],_ :: _=>-1
 | _ :: _,[]=>1
 | x :: a,y :: b=>if x.n<y.n then -1 else if y.n<x.n then 1 else if x.v<y.v then -1 else if y.v<x.v then 1 else cmpL a b
theorem Kek {a b:Txt}(h1:¬a<b) (h2:¬b<a):a=b:=List.le_antisymm (cp.1 h2) (cp.1 h1)
theorem Kcz:∀a:List Lb,cmpL a a=0
 | []=>rfl
 | x :: a=>by have h1:¬x.n<x.n:=bK _;have h2:¬x.v<x.v:=bK _;rw[cmpL,jM h1,jM h1,jM h2,jM h2,Kcz a]
theorem Kdf:∀{a b:List Lb},cmpL a b=0->a=b
 | [],[],_=>rfl
 | [],_ :: _,h=>by simp[cmpL]at h
 | _ :: _,[],h=>by simp[cmpL]at h
 | x :: a,y :: b,h=>by
  rw[cmpL]at h
  split at h
  .simp at h
  .rename_i h1
   split at h
   .simp at h
   .rename_i h2
    split at h
    .simp at h
    .rename_i h3
     split at h
     .simp at h
     .rename_i h4
      have e1:=Kek h1 h2;have e2:=Kek h3 h4;rw[Kdf h];cases x;cases y
      simp_all
theorem Kdd:∀a b:List Lb,cmpL a b = -cmpL b a
 | [],[]=>rfl
 | [],_ :: _=>rfl
 | _ :: _,[]=>rfl
 | x :: a,y :: b=>by
  rw[cmpL,cmpL]
  by_cases h1:x.n<y.n
  .have h2:¬y.n<x.n:=cH h1;rw[jN h1,jM h2,jN h1]
  .rw[jM h1]
   by_cases h2:y.n<x.n
   .rw[jN h2,jN h2];rfl
   .rw[jM h2,jM h2,jM h1]
    by_cases h3:x.v<y.v
    .have h4:¬y.v<x.v:=cH h3;rw[jN h3,jM h4,jN h3]
    .rw[jM h3]
     by_cases h4:y.v<x.v
     .rw[jN h4,jN h4];rfl
     .rw[jM h4,jM h4,jM h3,Kdd a b]
def ltB (x y:Lb):Prop:=x.n<y.n\/(x.n=y.n/\x.v<y.v)
theorem Kfb {x y z:Lb}(h1:ltB x y) (h2:ltB y z):ltB x z:=by
 rcases h1 with h1 | ⟨e1,h1⟩
 .rcases h2 with h2 | ⟨e2,_⟩
  .exact .inl (cQ h1 h2)
  .exact .inl (e2▸h1)
 .rcases h2 with h2 | ⟨e2,h2⟩
  .exact .inl (e1▸h2)
  .exact .inr ⟨e1.trans e2,cQ h1 h2⟩
theorem Kux {x y:Lb}{a b:List Lb}:cmpL (x :: a) (y :: b)<0↔ltB x y\/(x=y/\cmpL a b<0):=by
 rw[cmpL];unfold ltB
 by_cases h1:x.n<y.n
 .rw[jN h1];exact⟨fun _=>.inl (.inl h1),fun _=>by decide⟩
 .rw[jM h1]
  by_cases h2:y.n<x.n
  .rw[jN h2];refine⟨fun h=>by simp at h,?_⟩;rintro ((h | ⟨e,_⟩) | ⟨e,_⟩)
   .exact jS h h1
   .rw[e]at h2;exact jS h2 (bK _)
   .rw[e]at h2;exact jS h2 (bK _)
  .rw[jM h2];have en:=Kek h1 h2
   by_cases h3:x.v<y.v
   .rw[jN h3];exact⟨fun _=>.inl (.inr ⟨en,h3⟩),fun _=>by decide⟩
   .rw[jM h3]
    by_cases h4:y.v<x.v
    .rw[jN h4];refine⟨fun h=>by simp at h,?_⟩;rintro ((h | ⟨_,h⟩) | ⟨e,_⟩)
     .exact jS h h1
     .exact jS h h3
     .rw[e]at h4;exact jS h4 (bK _)
    .rw[jM h4];have ev:=Kek h3 h4;have aa:x=y:=by cases x;cases y;simp_all
     constructor
     .exact fun h=>.inr ⟨aa,h⟩
     .rintro ((h | ⟨_,h⟩) | ⟨_,h⟩)
      .exact jS h h1
      .exact jS h h3
      .exact h
theorem Kde:∀{a b c:List Lb},cmpL a b<0->cmpL b c<0->cmpL a c<0
 | [],[],_,h,_=>by simp[cmpL]at h
 | [],_ :: _,[],_,h=>by simp[cmpL]at h
 | [],_ :: _,_ :: _,_,_=>by simp[cmpL]
 | _ :: _,[],_,h,_=>by simp[cmpL]at h
 | _ :: _,_ :: _,[],_,h=>by simp[cmpL]at h
 | x :: a,y :: b,z :: c,h1,h2=>by
  rw[Kux]at h1 h2 |-;rcases h1 with h1 | ⟨e1,h1⟩
  .rcases h2 with h2 | ⟨e2,_⟩
   .exact .inl (Kfb h1 h2)
   .exact .inl (e2▸h1)
  .rcases h2 with h2 | ⟨e2,h2⟩
   .exact .inl (e1▸h2)
   .exact .inr ⟨e1.trans e2,Kde h1 h2⟩
structure Ser where
 labels:List Lb
 samples:List Smp
 windows:List Wnd
structure Cont where
 res:Int
 frm:Int
 to_:Int
 series:List Ser
def riseI:List Int->Bool
 | []=>true
 | [_]=>true
 | a :: b :: l=>decide (a<b) && riseI (b :: l)
def Kcp (f t:Int) (l:List Int):Bool:=decide (l≠[]) && l.all (fun x=>decide (f<=x) && decide (x<t)) && riseI l
def Kdw (c:Cont) (s:Ser):Bool:=
 if c.res=0 then decide (s.windows.length=0) && Kcp c.frm c.to_ (s.samples.map Smp.t)
 else Kci wnd0 true s.windows && decide (s.samples.length=0) && Kcp c.frm c.to_ (s.windows.map Wnd.start)
def Kzw (c:Cont) (s:Ser):Bool:=
 Kci wnd0 true s.windows && !((decide (c.res=0) && decide (0<s.windows.length)) || (decide (0<c.res) && decide (0<s.samples.length))) && Kcp c.frm c.to_ (s.samples.map Smp.t++s.windows.map Wnd.start)
theorem Qdq {c:Cont}(h:0<=c.res) (s:Ser):Kdw c s=Kzw c s:=by
 unfold Kdw Kzw
 by_cases h0:c.res=0
 .rw[jN h0];have h1:¬0<c.res:=by omega
  cases hw:s.windows with
  | nil=>simp[h0,Kci]
  | cons w l=>simp[h0]
 .rw[jM h0];have h1:0<c.res:=by omega
  cases hs:s.samples with
  | nil=>simp[h0,h1]
  | cons x l=>simp[h0,h1]
end
section
open Go.RowKit
def Kac (x:Smp):List Value:=[.int .i64 x.t,.int .u64 (x.v:Int)]
def Kad (x:Wnd):List Value:=[.int .i64 x.start,.int .i64 x.count,.int .u64 (x.sum:Int),.int .u64 (x.min:Int),.int .u64 (x.max:Int),.int .u64 (x.last:Int)]
instance smpIn:Inhabited Smp:=⟨⟨0,0⟩⟩
instance wndIn:Inhabited Wnd:=⟨wnd0⟩
instance serIn:Inhabited Ser:=⟨⟨[],[],[]⟩⟩
structure Hd3 where
 l:Hd
 s:Hd
 w:Hd
instance hd3In:Inhabited Hd3:=⟨⟨default,default,default⟩⟩
def encH3 (h:Hd3):List Value:=[.slice h.l.A h.l.n h.l.c,.slice h.s.A h.s.n h.s.c,.slice h.w.A h.w.n h.w.c]
structure SerAt (w:World) (h:Hd3) (x:Ser):Prop where
 l:Elems w w.heap.size 2 encLb h.l.A h.l.n x.labels
 lc:h.l.n<=h.l.c
 s:Elems w w.heap.size 2 Kac h.s.A h.s.n x.samples
 sc:h.s.n<=h.s.c
 w:Elems w w.heap.size 6 Kad h.w.A h.w.n x.windows
 wc:h.w.n<=h.w.c
theorem SerAt.below {w w':World}{h:Hd3}{x:Ser}(hs:SerAt w h x) (hb:Below w.heap.size w w'):SerAt w' h x:=
 ⟨(hs.l.below hb).more hb.size,hs.lc,(hs.s.below hb).more hb.size,hs.sc,(hs.w.below hb).more hb.size,hs.wc⟩
def Sers (w:World) (A:Option Addr) (n:Nat) (L:List Ser):Prop:=
 ∃hs:List Hd3,Elems w w.heap.size 3 encH3 A n hs/\L.length=n/\∀(i:Nat) (h:Hd3),hs[i]? = some h->SerAt w h L[i]!
section
variable {w w' : World}{A : Option Addr}{n : Nat}{L : List Ser}
theorem Sers.below (h:Sers w A n L) (hb:Below w.heap.size w w'):Sers w' A n L:=by obtain⟨hs,h1,h2,h3⟩:=h;exact⟨hs,(h1.below hb).more hb.size,h2,fun i x hx=>(h3 i x hx).below hb⟩
theorem Sers.len (h:Sers w A n L):L.length=n:=by obtain⟨_,_,h2,_⟩:=h;exact h2
theorem Sers.nil (w:World):Sers w none 0 []:=⟨[],Elems.nil_,rfl,fun i h hi=>by simp at hi⟩
theorem Sers.at_ (h:Sers w A n L) {i:Nat}(hi:i<n):∃b off x,A=some ⟨b,off,none⟩/\b<w.heap.size/\
  w.cell? ⟨b,off+i*3,none⟩=some (.slice x.l.A x.l.n x.l.c)/\w.cell? ⟨b,off+i*3+1,none⟩=some (.slice x.s.A x.s.n x.s.c)/\w.cell? ⟨b,off+i*3+2,none⟩=some (.slice x.w.A x.w.n x.w.c)/\SerAt w x L[i]!:=by
 obtain⟨hs,h1,h2,h3⟩:=h;obtain⟨b,off,e,hb,hc⟩:=h1.2 (by omega);have hl:i<hs.length:=by have:=h1.len;omega
 have a1:=h3 i hs[i] (bk hl);have c0:=hc i hs[i] (bk hl) 0 _ rfl;have c1:=hc i hs[i] (bk hl) 1 _ rfl;have c2:=hc i hs[i] (bk hl) 2 _ rfl;exact⟨b,off,hs[i],e,hb,by simpa using c0,c1,c2,a1⟩
end
end
section
theorem Khu (x:Smp):(Kac x).length=2:=rfl
theorem Khy (x:Wnd):(Kad x).length=6:=rfl
theorem Kda (x:Hd3):(encH3 x).length=3:=rfl
theorem Kwr:∀x:Smp,∀v∈Kac x,v.oneCell'=true:=by intro s v hv;simp only[Kac,bD,bw,or_false]at hv;rcases hv with rfl | rfl <;> rfl
theorem Kxg:∀x:Wnd,∀v∈Kad x,v.oneCell'=true:=by intro s v hv;simp only[Kad,bD,bw,or_false]at hv;rcases hv with rfl | rfl | rfl | rfl | rfl | rfl <;> rfl
theorem Kqt:∀x:Hd3,∀v∈encH3 x,v.oneCell'=true:=by intro s v hv;simp only[encH3,bD,bw,or_false]at hv;rcases hv with rfl | rfl | rfl <;> rfl
section
variable {α : Type}(k : α -> Int)
structure Kbd (xs l:List α):Prop where
 asc:l.Pairwise fun a b=>k a<k b
 mem:∀x,x∈l↔xs.find? (fun y=>k y == k x)=some x
theorem Kjk:∀{a b:List α},(a.Pairwise fun x y=>k x<k y)->(b.Pairwise fun x y=>k x<k y)->(∀x,x∈a↔x∈b)->a=b
 | [],[],_,_,_=>rfl
 | [],y :: b,_,_,h=>jS ((h y).2 (bf ..)) (by simp)
 | x :: a,[],_,_,h=>jS ((h x).1 (bf ..)) (by simp)
 | x :: a,y :: b,ha,hb,h=>by
  obtain⟨a1,a2⟩:=a9.1 ha;obtain⟨b1,b2⟩:=a9.1 hb
  have aa:x=y:=by
   have h1:=(h x).1 (bf ..);have h2:=(h y).2 (bf ..);rcases be.1 h1 with e | h1
   .exact e
   .rcases be.1 h2 with e | h2
    .exact e.symm
    .have:=b1 x h1;have:=a1 y h2;omega
  subst aa;congr 1;refine Kjk a2 b2 fun z=>⟨fun hz=>?_,fun hz=>?_⟩
  .rcases be.1 ((h z).1 (bg _ hz)) with e | hz2
   .subst e;exact jS (a1 z hz) (Int.lt_irrefl _)
   .exact hz2
  .rcases be.1 ((h z).2 (bg _ hz)) with e | hz2
   .subst e;exact jS (b1 z hz) (Int.lt_irrefl _)
   .exact hz2
theorem Kbd.unique {xs a b:List α}(ha:Kbd k xs a) (hb:Kbd k xs b):a=b:=
 Kjk k ha.asc hb.asc fun x=>(ha.mem x).trans (hb.mem x).symm
theorem Kbd.nil:Kbd k ([]:List α) []:=⟨cZ,fun x=>by simp⟩
def insO (x:α):List α->List α
 | []=>[x]
 | y :: l=>if k x<k y then x :: y :: l else if k x=k y then y :: l else y :: insO x l
theorem Knv (x:α):∀{l:List α},(l.Pairwise fun a b=>k a<k b)->∀z,z∈insO k x l↔z∈l\/(z=x/\∀y∈l,k y≠k x)
 | [],_,z=>by simp[insO]
 | y :: l,h,z=>by
  obtain⟨h1,h2⟩:=a9.1 h;unfold insO
  split
  .rename_i hlt
   constructor
   .intro hz;rcases be.1 hz with e | hz
    .refine .inr ⟨e,fun w hw=>?_⟩;rcases be.1 hw with rfl | hw
     .omega
     .have:=h1 w hw;omega
    .exact .inl hz
   .rintro (hz | ⟨rfl,_⟩)
    .exact bg _ hz
    .exact bf ..
  .split
   .rename_i he
    constructor
    .exact .inl
    .rintro (hz | ⟨rfl,hz⟩)
     .exact hz
     .exact jS he.symm (hz y (bf ..))
   .rename_i hn he
    rw[bD,Knv x h2 z,bD];constructor
    .rintro (rfl | hz | ⟨rfl,hz⟩)
     .exact .inl (.inl rfl)
     .exact .inl (.inr hz)
     .refine .inr ⟨rfl,fun w hw=>?_⟩;rcases be.1 hw with rfl | hw
      .exact fun e=>he e.symm
      .exact hz w hw
    .rintro ((rfl | hz) | ⟨rfl,hz⟩)
     .exact .inl rfl
     .exact .inr (.inl hz)
     .exact .inr (.inr ⟨rfl,fun w hw=>hz w (bg _ hw)⟩)
theorem Knu (x:α):∀{l:List α},(l.Pairwise fun a b=>k a<k b)->(insO k x l).Pairwise fun a b=>k a<k b
 | [],_=>bm _ _
 | y :: l,h=>by
  obtain⟨h1,h2⟩:=a9.1 h;unfold insO
  split
  .rename_i hlt
   refine a9.2 ⟨fun w hw=>?_,h⟩;rcases be.1 hw with rfl | hw
   .exact hlt
   .have:=h1 w hw;omega
  .split
   .exact h
   .rename_i hn he
    refine a9.2 ⟨fun w hw=>?_,Knu x h2⟩;rcases (Knv k x h2 w).1 hw with hw | ⟨rfl,_⟩
    .exact h1 w hw
    .omega
theorem Kbd.snoc {xs l:List α}(h:Kbd k xs l) (x:α):Kbd k (xs ++ [x]) (insO k x l):=by
 refine⟨Knu k x h.asc,fun z=>?_⟩;rw[Knv k x h.asc z,List.find?_append];constructor
 .rintro (hz | ⟨rfl,hz⟩)
  .rw[(h.mem z).1 hz];rfl
  .cases hf:xs.find? (fun y=>k y == k z) with
   | none=>simp
   | some w=>
    have hk:k w=k z:=by simpa using List.find?_some hf
    have hw:w∈l:=by rw[h.mem w,hk];exact hf
    exact jS hk (hz w hw)
 .intro hz
  cases hf:xs.find? (fun y=>k y == k z) with
  | some w=>
   rw[hf]at hz;have:w=z:=by simpa using hz
   subst this;exact .inl ((h.mem w).2 hf)
  | none=>
   rw[hf]at hz;have aa:k x=k z/\x=z:=by simpa using hz
   refine .inr ⟨aa.2.symm,fun y hy e=>?_⟩;have h1:=(h.mem y).1 hy;have h2:k y=k z:=e.trans aa.1;rw[h2,hf]at h1;cases h1
theorem Kfv:∀(xs ys l:List α),Kbd k ys l->Kbd k (ys++xs) (xs.foldl (fun a x=>insO k x a) l)
 | [],ys,l,h=>by rw[bi];exact h
 | x :: xs,ys,l,h=>by have:=Kfv xs (ys ++ [x]) _ (h.snoc k x);rw[bd]at this;exact this
end
section
variable {α : Type}(k : α -> Int)
def compO:List α->List α
 | []=>[]
 | [x]=>[x]
 | x :: y :: l=>if k x=k y then compO (x :: l) else x :: compO (y :: l)
 termination_by l=>l.length
theorem Kjm:∀(n:Nat) (ys:List α),ys.length<=n->(ys.Pairwise fun a b=>k a<=k b)->Kbd k ys (compO k ys)
 | _,[],_,_=>by rw[compO];exact Kbd.nil k
 | _,[x],_,_=>by
  rw[compO];refine⟨bm _ _,fun z=>?_⟩;simp only[bG,b4,List.find?_nil];constructor
  .rintro rfl;simp
  .intro h
   split at h
   .exact (c5 h).symm
   .cases h
 | 0,x :: y :: l,hn,_=>by simp at hn
 | n+1,x :: y :: l,hn,hp=>by
  obtain⟨h1,h2⟩:=a9.1 hp;obtain⟨h3,h4⟩:=a9.1 h2;rw[compO]
  by_cases he:k x=k y
  .rw[jN he];have ih:=Kjm n (x :: l) (by simp only[a8]at hn |-;omega) (a9.2 ⟨fun z hz=>h1 z (bg _ hz),h4⟩);refine⟨ih.asc,fun z=>?_⟩;rw[ih.mem z];simp only[b4]
   by_cases hz:k x=k z
   .rw[show(k x == k z)=true by simpa using hz]
   .rw[show(k x == k z)=false by simpa using hz,show(k y == k z)=false by simpa using (he▸hz)]
  .rw[jM he];have ab:k x<k y:=by have:=h1 y (bf ..);omega
   have ih:=Kjm n (y :: l) (by simp only[a8]at hn |-;omega) h2
   have aa:∀z∈compO k (y :: l),k x<k z:=fun z hz=>by
    have h5:=(ih.mem z).1 hz;have h6:=List.mem_of_find?_eq_some h5;rcases be.1 h6 with rfl | h6
    .exact ab
    .have:=h3 z h6;omega
   refine⟨a9.2 ⟨aa,ih.asc⟩,fun z=>?_⟩;rw[bD,ih.mem z,b4 (a:=x)]
   by_cases hz:k x=k z
   .rw[show(k x == k z)=true by simpa using hz];constructor
    .rintro (rfl | h)
     .rfl
     .have:=aa z ((ih.mem z).2 h);omega
    .intro h;exact .inl (c5 h).symm
   .rw[show(k x == k z)=false by simpa using hz];constructor
    .rintro (rfl | h)
     .exact jS rfl hz
     .exact h
    .exact .inr
theorem Kmz (xs:List α) (t:Int):xs.find? (fun y=>k y == t)=(xs.filter fun y=>k y == t).head?:=by
 induction xs with
 | nil=>rfl
 | cons x xs ih=>
  rw[b4,bE]
  cases hx:k x == t with
  | true=>simp
  | false=>simp
theorem Qei {xs ys:List α}(hp:ys.Pairwise fun a b=>k a<=k b) (hs:∀t,(ys.filter fun y=>k y == t)=xs.filter fun y=>k y == t):Kbd k xs (compO k ys):=by have h:=Kjm k ys.length ys (bo _) hp;refine⟨h.asc,fun x=>?_⟩;rw[h.mem x,Kmz,Kmz,hs]
end
def lastS (gs:List Ser):Ser:=gs[gs.length - 1]!
def openG (gs:List Ser) (s:Ser):List Ser:=if gs = []\/cmpL (lastS gs).labels s.labels≠0 then gs ++ [⟨s.labels,[],[]⟩] else gs
def addG (gs:List Ser) (s:Ser):List Ser:=gs.set (gs.length - 1) ⟨(lastS gs).labels,(lastS gs).samples++s.samples,(lastS gs).windows++s.windows⟩
def stepG (gs:List Ser) (s:Ser):List Ser:=addG (openG gs s) s
def grpG (l:List Ser):List Ser:=l.foldl stepG []
def sumS (l:List Ser):Nat:=(l.map fun s=>s.samples.length+s.windows.length).sum
theorem Ksk (gs:List Ser) (s:Ser):0<(openG gs s).length:=by
 unfold openG
 split
 .simp
 .rename_i h
  cases gs with
  | nil=>simp at h
  | cons x l=>simp
theorem Khv (a b:List Ser):sumS (a++b)=sumS a+sumS b:=by unfold sumS;simp
theorem Kma (gs:List Ser) (s:Ser):sumS (openG gs s)=sumS gs:=by
 unfold openG
 split
 .rw[Khv];simp[sumS]
 .rfl
theorem Khw:∀(gs:List Ser) (k:Nat) (x:Ser),k<gs.length->sumS (gs.set k x)+(gs[k]!.samples.length+gs[k]!.windows.length)=sumS gs+(x.samples.length+x.windows.length)
 | [],k,x,h=>by simp at h
 | y :: l,0,x,_=>by simp[sumS];omega
 | y :: l,k+1,x,h=>by have ih:=Khw l k x (by simpa using h);simp only[cJ,sumS,List.map_cons,List.sum_cons]at ih |-;rw[show(y :: l)[k+1]! = l[k]! by simp];omega
theorem Qhf {gs:List Ser}(h:0<gs.length) (s:Ser):sumS (addG gs s)=sumS gs+(s.samples.length+s.windows.length):=by have:=Khw gs (gs.length - 1) ⟨(lastS gs).labels,(lastS gs).samples++s.samples,(lastS gs).windows++s.windows⟩ (by omega);simp only[bn]at this;unfold addG;unfold lastS at this |-;omega
theorem Qfb (gs:List Ser) (s:Ser):sumS (stepG gs s)=sumS gs+(s.samples.length+s.windows.length):=by unfold stepG;rw[Qhf (Ksk gs s),Kma]
theorem Kww (l:List Ser):∀gs:List Ser,sumS (l.foldl stepG gs)=sumS gs+sumS l:=by
 induction l with
 | nil=>intro gs;simp[sumS]
 | cons s l ih=>
  intro gs;rw[bH,ih,Qfb];simp[sumS];omega
theorem Kjf {gs:List Ser}{k:Nat}(h:k<gs.length):gs[k]!.samples.length+gs[k]!.windows.length<=sumS gs:=by have:=Khw gs k ⟨[],[],[]⟩ h;simp only[bh]at this;omega
theorem Qif (gs:List Ser) (s:Ser):(addG gs s).length=gs.length:=by unfold addG;simp
def Kay (s:Ser):Ser:=⟨s.labels,s.samples.foldl (fun a x=>insO Smp.t x a) [],s.windows.foldl (fun a x=>insO Wnd.start x a) []⟩
theorem Kyr {s:Ser}{zs:List Smp}(h:Kbd Smp.t s.samples zs):(Kay s).samples=zs:=
 (Kbd.unique Smp.t h (Kfv Smp.t s.samples [] [] (Kbd.nil _))).symm
theorem Kys {s:Ser}{zs:List Wnd}(h:Kbd Wnd.start s.windows zs):(Kay s).windows=zs:=
 (Kbd.unique Wnd.start h (Kfv Wnd.start s.windows [] [] (Kbd.nil _))).symm
def Kaq (s:Ser):Bool:=decide (0<s.samples.length+s.windows.length)
def Kev (l:List Ser):List Ser:=((grpG l).map Kay).filter Kaq
theorem Qba (P:List Lb->Prop) (l:List Ser):∀gs:List Ser,(∀g∈gs,P g.labels)->(∀s∈l,P s.labels)->∀g∈l.foldl stepG gs,P g.labels:=by
 induction l with
 | nil=>intro gs h _;exact h
 | cons s l ih=>
  intro gs h1 h2;rw[bH];refine ih _ ?_ (fun x hx=>h2 x (bg _ hx))
  have ho:∀g∈openG gs s,P g.labels:=by
   unfold openG
   split
   .intro g hg;rcases bL.1 hg with hg | hg
    .exact h1 g hg
    .rw[bl.1 hg];exact h2 s (bf ..)
   .exact h1
  intro g hg;unfold stepG addG at hg;rcases List.mem_or_eq_of_mem_set hg with hg | hg
  .exact ho g hg
  .rw[hg];show P (lastS (openG gs s)).labels
   refine ho (lastS (openG gs s)) ?_;have hp:=Ksk gs s;unfold lastS;rw[jI _ _ (by omega)];exact bI _
theorem Kvj {α : Type}(k:α->Int) (x:α):∀l:List α,(insO k x l).length<=l.length+1
 | []=>by simp[insO]
 | y :: l=>by
  unfold insO
  split
  .simp
  .split
   .simp
   .have:=Kvj k x l;simp only[a8];omega
theorem Keg {α : Type}(k:α->Int):∀(xs l:List α),(xs.foldl (fun a x=>insO k x a) l).length<=l.length+xs.length
 | [],l=>by simp
 | x :: xs,l=>by rw[bH];have h1:=Keg k xs (insO k x l);have h2:=Kvj k x l;rw[a8];omega
theorem Kyq (s:Ser):(Kay s).samples.length<=s.samples.length/\(Kay s).windows.length<=s.windows.length:=by have h1:=Keg Smp.t s.samples [];have h2:=Keg Wnd.start s.windows [];unfold Kay;dsimp only;rw[bh]at h1 h2;omega
def Pairs {α β : Type}(R:α->β->Prop):List α->List β->Prop
 | [],[]=>True
 | a :: l,b :: m=>R a b/\Pairs R l m
 | _,_=>False
theorem Pairs.of {α β : Type}[Inhabited β] {R:α->β->Prop}:∀{l:List α}{m:List β},l.length=m.length->(∀(i:Nat) (a:α),l[i]? = some a->R a m[i]!)->Pairs R l m
 | [],[],_,_=>trivial
 | [],_ :: _,h,_=>by simp at h
 | _ :: _,[],h,_=>by simp at h
 | a :: l,b :: m,h,hr=>⟨by simpa using hr 0 a rfl,Pairs.of (by simpa using h) fun i x hx=>by simpa using hr (i+1) x (by simpa using hx)⟩
theorem Pairs.at_ {α β : Type}[Inhabited β] {R:α->β->Prop}:∀{l:List α}{m:List β},Pairs R l m->∀(i:Nat) (a:α),l[i]? = some a->R a m[i]!
 | [],_,_,i,a,h=>by simp at h
 | _ :: _,[],h,_,_,_=>h.elim
 | a :: l,b :: m,h,0,x,hx=>by
  have:a=x:=by simpa using hx
  subst this;exact h.1
 | a :: l,b :: m,h,i+1,x,hx=>by have:=Pairs.at_ h.2 i x (by simpa using hx);simpa using this
theorem Pairs.len {α β : Type}{R:α->β->Prop}:∀{l:List α}{m:List β},Pairs R l m->l.length=m.length
 | [],[],_=>rfl
 | [],_ :: _,h=>h.elim
 | _ :: _,[],h=>h.elim
 | a :: l,b :: m,h=>by rw[a8,a8,h.2.len]
theorem Pairs.filter {α β : Type}{R:α->β->Prop}{f:α->Bool}{g:β->Bool}(hfg:∀a b,R a b->f a=g b):∀{l:List α}{m:List β},Pairs R l m->Pairs R (l.filter f) (m.filter g)
 | [],[],_=>trivial
 | [],_ :: _,h=>h.elim
 | _ :: _,[],h=>h.elim
 | a :: l,b :: m,h=>by
  rw[bE,bE,hfg a b h.1]
  split
  .exact ⟨h.1,h.2.filter hfg⟩
  .exact h.2.filter hfg
theorem Qej (gs:List Ser) {i:Nat}(hi:i<gs.length):((gs.take i).map Kay++gs.drop i).set i (Kay gs[i]!)=(gs.take (i+1)).map Kay++gs.drop (i+1)/\((gs.take i).map Kay++gs.drop i)[i]! = gs[i]!:=by
 have hl:((gs.take i).map Kay).length=i:=by rw[bV,bt];omega
 have hd:gs.drop i=gs[i] :: gs.drop (i+1):=bv hi;refine⟨?_,?_⟩
 .rw[bT _ _ (by omega),hl,bM,hd,bY,List.take_add_one,bk hi,List.map_append,jI gs i hi];simp
 .rw[jI _ i (by rw[bn,hl,bz];omega),cd (by omega),jI gs i hi];simp only[hl,cK,bM,Nat.add_zero]
end
section
open Go.Sort
open List renaming length_append -> Jd
section
variable {α : Type}(lt : α -> α -> Bool)
def eqv (x y:α):Bool:=!lt x y && !lt y x
structure Stab (xs ys:List α):Prop where
 perm:ys.Perm xs
 asc:ys.Pairwise fun a b=>lt b a=false
 keep:∀x,ys.filter (eqv lt x)=xs.filter (eqv lt x)
def mrg (X Y:List α):List α:=List.merge X Y fun a b=>!lt b a
theorem Kbt (Y:List α):mrg lt [] Y=Y:=by unfold mrg;exact List.nil_merge ..
theorem Kbu (X:List α):mrg lt X []=X:=by unfold mrg;exact List.merge_right ..
theorem Kif {x y:α}(X Y:List α) (h:lt y x=false):mrg lt (x :: X) (y :: Y)=x :: mrg lt X (y :: Y):=by unfold mrg;rw[cC,jN (by simp[h])]
theorem Kgv {x y:α}(X Y:List α) (h:lt y x=true):mrg lt (x :: X) (y :: Y)=y :: mrg lt (x :: X) Y:=by unfold mrg;rw[cC,jM (by simp[h])]
theorem Kwc (X Y:List α):(mrg lt X Y).Perm (X++Y):=List.merge_perm_append _
theorem Kml (X Y:List α):(mrg lt X Y).length=X.length+Y.length:=by rw[(Kwc lt X Y).length_eq,Jd]
theorem Kgg:∀(n:Nat) (X1 X2 Y1 Y2:List α),X1.length+Y1.length<=n->(∀x∈X1,∀y∈Y2,lt y x=false)->(∀x∈X2,∀y∈Y1,lt y x=true)->mrg lt (X1++X2) (Y1++Y2)=mrg lt X1 Y1++mrg lt X2 Y2
 | _,[],X2,[],Y2,_,_,_=>by rw[Kbt];rfl
 | 0,[],_,y :: Y1,_,h,_,_=>by simp at h
 | 0,x :: X1,_,_,_,h,_,_=>by simp at h
 | n+1,[],X2,y :: Y1,Y2,hn,h1,h2=>by
  rw[Kbt,bs]
  cases X2 with
  | nil=>rw[Kbt,Kbt]
  | cons x X2=>
   have ih:=Kgg n [] (x :: X2) Y1 Y2 (by simp only[a8,bh]at hn |-;omega) (fun _ h=>jS h bw) (fun a ha b hb=>h2 a ha b (bg _ hb));rw[Kbt,bs]at ih;rw[bB,Kgv lt X2 _ (h2 x (bf ..) y (bf ..)),ih];rfl
 | n+1,x :: X1,X2,[],Y2,hn,h1,h2=>by
  rw[Kbu,bs]
  cases Y2 with
  | nil=>rw[Kbu,Kbu]
  | cons y Y2=>
   have ih:=Kgg n X1 X2 [] (y :: Y2) (by simp only[a8,bh]at hn |-;omega) (fun a ha b hb=>h1 a (bg _ ha) b hb) (fun _ _ _ h=>jS h bw);rw[Kbu,bs]at ih;rw[bB,Kif lt _ Y2 (h1 x (bf ..) y (bf ..)),ih];rfl
 | n+1,x :: X1,X2,y :: Y1,Y2,hn,h1,h2=>by
  cases h:lt y x with
  | false=>
   have ih:=Kgg n X1 X2 (y :: Y1) Y2 (by simp only[a8]at hn |-;omega) (fun a ha b hb=>h1 a (bg _ ha) b hb) h2;rw[Kif lt X1 Y1 h,bB,bB,Kif lt _ _ h];rw[bB]at ih |-;rw[ih]
  | true=>
   have ih:=Kgg n (x :: X1) X2 Y1 Y2 (by simp only[a8]at hn |-;omega) h1 (fun a ha b hb=>h2 a ha b (bg _ hb));rw[Kgv lt X1 Y1 h,bB,bB,Kgv lt _ _ h];rw[bB]at ih |-;rw[ih]
theorem Klk (X1 X2 Y1 Y2:List α) (h1:∀x∈X1,∀y∈Y2,lt y x=false) (h2:∀x∈X2,∀y∈Y1,lt y x=true):mrg lt (X1++X2) (Y1++Y2)=mrg lt X1 Y1++mrg lt X2 Y2:=
 Kgg lt _ X1 X2 Y1 Y2 (bo _) h1 h2
variable {lt}(S : SWO lt)
include S
theorem lt_le {x y z:α}(h1:lt x y=true) (h2:lt z y=false):lt x z=true:=by
 cases h:lt x z with
 | true=>rfl
 | false=>exact jS (S.ntrans x z y h h2) (by rw[h1];exact co)
theorem le_lt {x y z:α}(h1:lt y x=false) (h2:lt y z=true):lt x z=true:=by
 cases h:lt x z with
 | true=>rfl
 | false=>exact jS (S.ntrans y x z h1 h) (by rw[h2];exact co)
theorem lt_asymm {x y:α}(h:lt x y=true):lt y x=false:=by
 cases h2:lt y x with
 | false=>rfl
 | true=>exact jS (S.trans x y x h h2) (by rw[S.irrefl];exact co)
theorem Qij {X Y:List α}(hX:X.Pairwise fun a b=>lt b a=false) (hY:Y.Pairwise fun a b=>lt b a=false):(mrg lt X Y).Pairwise fun a b=>lt b a=false:=by
 have h:(mrg lt X Y).Pairwise fun a b=>(!lt b a)=true:=by
  unfold mrg;refine List.pairwise_merge (fun a b c h1 h2=>?_) (fun a b=>?_) X Y ?_ ?_
  .simp only[cL]at h1 h2 |-;exact S.ntrans c b a h2 h1
  .cases h:lt b a with
   | false=>simp
   | true=>simp[lt_asymm S h]
  .exact hX.imp fun h=>by simp[h]
  .exact hY.imp fun h=>by simp[h]
 exact h.imp fun h=>by simpa using h
theorem Koa (z:α):∀(n:Nat) (X Y:List α),X.length+Y.length<=n->(X.Pairwise fun a b=>lt b a=false)->(Y.Pairwise fun a b=>lt b a=false)->(mrg lt X Y).filter (eqv lt z)=X.filter (eqv lt z)++Y.filter (eqv lt z)
 | _,[],Y,_,_,_=>by rw[Kbt];rfl
 | _,x :: X,[],_,_,_=>by rw[Kbu];simp
 | 0,x :: X,y :: Y,h,_,_=>by simp at h
 | n+1,x :: X,y :: Y,hn,hX,hY=>by
  obtain⟨x1,x2⟩:=a9.1 hX;obtain⟨y1,y2⟩:=a9.1 hY
  cases h:lt y x with
  | false=>
   rw[Kif lt X Y h,bE,bE,Koa z n X (y :: Y) (by simp only[a8]at hn |-;omega) x2 hY]
   split <;> rfl
  | true=>
   rw[Kgv lt X Y h,bE,Koa z n (x :: X) Y (by simp only[a8]at hn |-;omega) hX y2,bE (x:=y)]
   split
   .rename_i hz
    have hn:(x :: X).filter (eqv lt z) = []:=by
     rw[b3];intro a ha he
     have aa:lt y a=true:=by
      rcases be.1 ha with rfl | ha
      .exact h
      .exact lt_le S h (x1 a ha)
     simp only[eqv,ci,cL]at hz he;have:=le_lt S hz.2 aa;rw[he.1]at this;cases this
    rw[hn];rfl
   .rfl
theorem Stab.mrg {xs ys us vs:List α}(h1:Stab lt xs ys) (h2:Stab lt us vs):Stab lt (xs++us) (mrg lt ys vs) where
 perm:=(Kwc lt ys vs).trans (h1.perm.append h2.perm)
 asc:=Qij S h1.asc h2.asc
 keep x:=by rw[Koa S x _ ys vs (bo _) h1.asc h2.asc,h1.keep,h2.keep,bZ]
omit S
theorem Stab.nil:Stab lt ([]:List α) []:=⟨.refl _,cZ,fun _=>rfl⟩
theorem Stab.one (x:α):Stab lt [x] [x]:=⟨.refl _,bm _ _,fun _=>rfl⟩
theorem Stab.len {xs ys:List α}(h:Stab lt xs ys):ys.length=xs.length:=h.perm.length_eq
inductive Blks (lt:α->α->Bool) (c:Nat):List α->List α->Prop where
 | last {xs ys:List α}:xs.length<=c->Stab lt xs ys->Blks lt c xs ys
 | more {xs ys us vs:List α}:xs.length=c->Stab lt xs ys->Blks lt c us vs->Blks lt c (xs++us) (ys++vs)
inductive Whole (lt:α->α->Bool) (c:Nat):List α->List α->Prop where
 | nil:Whole lt c [] []
 | more {xs ys us vs:List α}:xs.length=c->Stab lt xs ys->Whole lt c us vs->Whole lt c (xs++us) (ys++vs)
theorem Whole.len {c:Nat}{xs ys:List α}(h:Whole lt c xs ys):ys.length=xs.length:=by
 induction h with
 | nil=>rfl
 | more _ h _ ih=>rw[Jd,Jd,h.len,ih]
theorem Blks.len {c:Nat}{xs ys:List α}(h:Blks lt c xs ys):ys.length=xs.length:=by
 induction h with
 | last _ h=>exact h.len
 | more _ h _ ih=>rw[Jd,Jd,h.len,ih]
theorem Whole.snoc {c:Nat}{xs ys us vs:List α}(h:Whole lt c xs ys) (hc:us.length=c) (hs:Stab lt us vs):Whole lt c (xs++us) (ys++vs):=by
 induction h with
 | nil=>rw[bs,bs,<-bi us,<-bi vs];exact .more hc hs .nil
 | more h1 h2 _ ih=>rw[bd,bd];exact .more h1 h2 ih
theorem Whole.close {c:Nat}{xs ys us vs:List α}(h:Whole lt c xs ys) (hs:Blks lt c us vs):Blks lt c (xs++us) (ys++vs):=by
 induction h with
 | nil=>exact hs
 | more h1 h2 _ ih=>rw[bd,bd];exact .more h1 h2 ih
theorem Blks.first {c:Nat}{xs ys:List α}(h:Blks lt c xs ys) (hc:c<=xs.length):∃x1 x2 y1 y2,xs=x1++x2/\ys=y1++y2/\x1.length=c/\Stab lt x1 y1/\Blks lt c x2 y2:=by
 cases h with
 | last h1 h2=>exact⟨xs,[],ys,[],by simp,by simp,by omega,h2,.last (by simp) .nil⟩
 | more h1 h2 h3=>exact⟨_,_,_,_,rfl,rfl,h1,h2,h3⟩
theorem Blks.short {c:Nat}{xs ys:List α}(h:Blks lt c xs ys) (hc:xs.length<=c) (h0:0<c):Stab lt xs ys:=by
 cases h with
 | last h1 h2=>exact h2
 | more h1 h2 h3=>
  rename_i x1 y1 x2 y2
  have hx:x2 = []:=bc (by rw[Jd]at hc;omega);subst hx;have hy:y2 = []:=bc (by have:=h3.len;simpa using this);subst hy;simpa using h2
end
section
variable {α : Type}[Inhabited α]
theorem Kct {A B:List α}{x:α}{i:Nat}(h:i=A.length):(A++x :: B).toArray[i]! = x:=by subst h;simp
theorem Kej {A B C:List α}{x y:α}{i j:Nat}(hi:i=A.length) (hj:j=A.length+1+B.length):swp (A++x :: (B++y :: C)).toArray i j=(A++y :: (B++x :: C)).toArray:=by
 have e1:(A++x :: (B++y :: C)).toArray[i]! = x:=Kct hi
 have e2:(A++x :: (B++y :: C)).toArray[j]! = y:=by rw[show A++x :: (B++y :: C)=(A++x :: B)++y :: C by simp];exact Kct (by simp only[Jd,a8];omega)
 unfold swp;rw[e1,e2];subst hi hj;apply Array.ext';simp only[List.setIfInBounds_toArray,cN,Nat.lt_irrefl,if_false,bM,bY];rw[jM (by omega),show A.length+1+B.length - A.length=B.length+1 by omega,cJ,cN,jM (by omega),bM,bY]
theorem Kgy {A B C:List α}{x y:α}{i j:Nat}(hi:i=A.length) (hj:j=A.length+1+B.length):swp (A++x :: (B++y :: C)).toArray j i=(A++y :: (B++x :: C)).toArray:=by
 refine Eq.trans ?_ (Kej hi hj);have aa:i≠j:=by omega
 unfold swp;exact Array.setIfInBounds_comm _ _ (c9 aa)
variable {lt : α -> α -> Bool}(S : SWO lt)
include S
theorem Kiy:∀(n:Nat) (P A T:List α) (x:α),A.length=n->(A.Pairwise fun a b=>lt b a=false)->insInner lt P.length (P.length+n) (P++(A++x :: T)).toArray=(P++(mrg lt A [x]++T)).toArray
 | 0,P,A,T,x,hn,_=>by have:A = []:=bc hn;subst this;rw[insInner_stop lt _ _ _ (.inl (by omega)),Kbt];rfl
 | n+1,P,A,T,x,hn,hA=>by
  obtain⟨A',y,rfl⟩:∃A' y,A=A' ++ [y]:=by
   have aa:A≠[]:=by intro h;subst h;simp at hn
   exact⟨A.dropLast,A.getLast aa,(bW aa).symm⟩
  have ab:A'.length=n:=by simpa using hn
  obtain⟨a1,_,a3⟩:=bp.1 hA
  have ex:(P++(A' ++ [y]++x :: T)).toArray[P.length+(n+1)]! = x:=by rw[show P++(A' ++ [y]++x :: T)=(P++(A' ++ [y]))++x :: T by simp];exact Kct (by simp only[Jd,a8,bh];omega)
  have ey:(P++(A' ++ [y]++x :: T)).toArray[P.length+(n+1) - 1]! = y:=by rw[show P++(A' ++ [y]++x :: T)=(P++A')++y :: (x :: T) by simp];exact Kct (by simp only[Jd];omega)
  cases h:lt x y with
  | true=>
   rw[insInner_go lt _ _ _ (by omega) (by rw[ex,ey];exact h)]
   have e:swp (P++(A' ++ [y]++x :: T)).toArray (P.length+(n+1)) (P.length+(n+1) - 1)=(P++(A'++x :: (y :: T))).toArray:=by rw[show P++(A' ++ [y]++x :: T)=(P++A')++y :: ([]++x :: T) by simp,Kgy (A:=P++A') (B:=[]) (by simp only[Jd];omega) (by simp only[Jd,bh];omega)];simp
   rw[e,show P.length+(n+1) - 1=P.length+n by omega,Kiy n P A' (y :: T) x ab a1];have:=Klk lt A' [y] [x] [] (fun _ _ _ h=>jS h bw) (fun a ha b hb=>by rw[bl.1 ha,bl.1 hb];exact h);rw[bi]at this;rw[this,Kbu];simp
  | false=>
   rw[insInner_stop lt _ _ _ (.inr (by rw[ex,ey];exact h))]
   have:=Klk lt (A' ++ [y]) [] [] [x] (fun a ha b hb=>by
    rw[bl.1 hb];rcases bL.1 ha with ha | ha
    .exact S.ntrans x y a h (a3 a ha y (bl.2 rfl))
    .rw[bl.1 ha];exact h) (fun _ h=>jS h bw)
   rw[bi,bs,Kbu,Kbt]at this;rw[this];simp
theorem Kiz:∀(n:Nat) (P A0 A R T:List α),R.length=n->Stab lt A0 A->∃Z,Stab lt (A0++R) Z/\insOuter lt P.length (P.length+A.length+n) (P.length+A.length) (P++(A++(R++T))).toArray=(P++(Z++T)).toArray
 | 0,P,A0,A,R,T,hn,h=>by have:R = []:=bc hn;subst this;refine⟨A,by simpa using h,?_⟩;rw[insOuter,jM (by omega)];simp
 | n+1,P,A0,A,[],T,hn,h=>by simp at hn
 | n+1,P,A0,A,x :: R,T,hn,h=>by have h1:Stab lt (A0 ++ [x]) (mrg lt A [x]):=h.mrg S (.one x);obtain⟨Z,hz,e⟩:=Kiz n P (A0 ++ [x]) (mrg lt A [x]) R T (by simpa using hn) h1;refine⟨Z,by simpa using hz,?_⟩;rw[insOuter_go _ _ _ _ _ (by omega),show P++(A++(x :: R++T))=P++(A++x :: (R++T)) by simp,Kiy S A.length P A (R++T) x rfl h.asc,<-e];rw[Kml];simp only[a8,bh];congr 1 <;> omega
theorem Kfh (P R T:List α) (h:0<R.length):∃Z,Stab lt R Z/\insertionSort lt (P++(R++T)).toArray P.length (P.length+R.length)=(P++(Z++T)).toArray:=by
 cases R with
 | nil=>simp at h
 | cons x R=>
  obtain⟨Z,hz,e⟩:=Kiz S R.length P [x] [x] R T rfl (.one x);refine⟨Z,hz,?_⟩;rw[insertionSort,show P++(x :: R++T)=P++([x]++(R++T)) by simp,<-e];simp only[a8,bh];congr 1 <;> omega
omit S
theorem Kfq (P T:List α):insertionSort lt (P++T).toArray P.length P.length=(P++T).toArray:=by rw[insertionSort,insOuter,jM (by omega)]
end
end
section
open Go.Sort
section
variable {α : Type}[Inhabited α] {lt : α -> α -> Bool}
theorem Kmj (S:SWO lt) {X:List α}(h:X.Pairwise fun a b=>lt b a=false) {i j:Nat}(hij:i<=j) (hj:j<X.length):lt X[j]! X[i]! = false:=by
 rcases Nat.eq_or_lt_of_le hij with rfl | hlt
 .exact S.irrefl _
 .rw[jI X j hj,jI X i (by omega)];exact b5.1 h i j (by omega) hj hlt
theorem Kjb (S:SWO lt) {X Y:List α}(hX:X.Pairwise fun a b=>lt b a=false) (hY:Y.Pairwise fun a b=>lt b a=false) (s e:Nat) (hs:s<=X.length) (he:e<=Y.length)
  (h1:s=0\/e=Y.length\/lt Y[e]! X[s - 1]! = false) (h2:s=X.length\/e=0\/lt Y[e - 1]! X[s]! = true) :
  mrg lt X Y=mrg lt (X.take s) (Y.take e)++mrg lt (X.drop s) (Y.drop e):=by
 have:=Klk lt (X.take s) (X.drop s) (Y.take e) (Y.drop e) ?_ ?_
 .rwa[bj,bj]at this
 .intro x hx y hy;obtain⟨i,hi,rfl⟩:=b6.1 hx;obtain⟨k,hk,rfl⟩:=b7.1 hy;rcases h1 with h | h | h
  .omega
  .omega
  .rw[<-jI X i (by omega),<-jI Y (e+k) (by omega)];exact S.ntrans _ _ _ (S.ntrans _ _ _ (Kmj S hY (i:=e) (j:=e+k) (by omega) (by omega)) h) (Kmj S hX (i:=i) (j:=s - 1) (by omega) (by omega))
 .intro x hx y hy;obtain⟨i,hi,rfl⟩:=b7.1 hx;obtain⟨k,hk,rfl⟩:=b6.1 hy;rcases h2 with h | h | h
  .omega
  .omega
  .rw[<-jI X (s+i) (by omega),<-jI Y k (by omega)];exact lt_le S (le_lt S (Kmj S hY (i:=k) (j:=e - 1) (by omega) (by omega)) h) (Kmj S hX (i:=s) (j:=s+i) (by omega) (by omega))
theorem Ksa {X:List α}{s:Nat}(h:s<X.length):(X.drop s)[0]! = X[s]!:=by rw[jI _ _ (by rw[bz];omega),jI X s h,cK];rfl
theorem Khn (S:SWO lt) {x:α}{Y:List α}(hY:Y.Pairwise fun a b=>lt b a=false) (e:Nat) (he:e<=Y.length) (h1:e=Y.length\/lt Y[e]! x=false) (h2:e=0\/lt Y[e - 1]! x=true):mrg lt [x] Y=Y.take e++x :: Y.drop e:=by
 rw[Kjb S (bm _ _) hY 0 e (by simp) he (.inl rfl) (.inr (h2.imp id fun h=>h)),bP,bQ,Kbt];congr 1;rw[Kjb S (bm _ _) (hY.drop) 1 0 (by simp) (ce _) (.inr ?_) (.inl rfl)]
 .rw[bP,Kbu,bQ,show([x].drop 1:List α) = [] from rfl,Kbt];rfl
 .rcases bq e Y.length with h | h
  .rcases h1 with h1 | h1
   .omega
   .right;rw[Ksa h];exact h1
  .left;rw[bz];omega
theorem Kgm (S:SWO lt) {y:α}{X:List α}(hX:X.Pairwise fun a b=>lt b a=false) (s:Nat) (hs:s<=X.length) (h1:s=0\/lt y X[s - 1]! = false) (h2:s=X.length\/lt y X[s]! = true):mrg lt X [y]=X.take s++y :: X.drop s:=by
 rw[Kjb S hX (bm _ _) s 0 hs (by simp) (h1.imp id .inr) (h2.imp id fun _=>.inl rfl),bP,Kbu,bQ];congr 1;rw[Kjb S (hX.drop) (bm _ _) 0 1 (ce _) (by simp) (.inl rfl) ?_]
 .rw[bP,Kbt,show([y].drop 1:List α) = [] from rfl,bQ,Kbu];rfl
 .rcases bq s X.length with h | h
  .rcases h2 with h2 | h2
   .omega
   .right;right;rw[Ksa h];exact h2
  .left;rw[bz];omega
theorem Kdp {A X T:List α}{i t:Nat}(hi:i<X.length) (ht:t=A.length+i):(A++(X++T)).toArray[t]! = X[i]!:=by subst ht;rw[jI _ _ (by simp only[br,bn];omega),jI X i hi];simp only[List.getElem_toArray];rw[cd (by omega)];simp only[Nat.add_sub_cancel_left];rw[List.getElem_append_left hi]
theorem Kds {A X Y T:List α}{i t:Nat}(hi:i<Y.length) (ht:t=A.length+X.length+i):(A++(X++(Y++T))).toArray[t]! = Y[i]!:=by rw[<-bd];exact Kdp hi (by rw[bn];exact ht)
end
end
section
instance lbDecM:DecidableEq Lb:=fun a b=>if h:a.n=b.n/\a.v=b.v then isTrue (by cases a;cases b;obtain⟨h1,h2⟩:=h;simp only at h1 h2;rw[h1,h2]) else isFalse (fun e=>h (by rw[e];exact⟨rfl,rfl⟩))
def onceL {α : Type}(k:α->Int) (xs:List α):List α:=xs.foldl (fun a x=>insO k x a) []
def gS (l:List Ser) (L:List Lb):List Smp:=(l.filter fun x=>decide (x.labels=L)).flatMap Ser.samples
def gW (l:List Ser) (L:List Lb):List Wnd:=(l.filter fun x=>decide (x.labels=L)).flatMap Ser.windows
theorem Kpd (a b:List Ser) (L:List Lb):gS (a++b) L=gS a L++gS b L:=by unfold gS;rw[bZ,cG]
theorem Kpf (a b:List Ser) (L:List Lb):gW (a++b) L=gW a L++gW b L:=by unfold gW;rw[bZ,cG]
theorem Kpe (s:Ser) (L:List Lb):gS [s] L=if s.labels=L then s.samples else []:=by unfold gS;by_cases h:s.labels=L <;> simp[h]
theorem Kpg (s:Ser) (L:List Lb):gW [s] L=if s.labels=L then s.windows else []:=by unfold gW;by_cases h:s.labels=L <;> simp[h]
def ascS (l:List Ser):Prop:=l.Pairwise fun a b=>cmpL a.labels b.labels<0
theorem Kos {a b:List Lb}(h:cmpL a b<0):a≠b:=fun e=>by rw[e,Kcz]at h;exact jS h (by decide)
theorem Kmu:∀{a b:List Ser},ascS a->ascS b->(∀x,x∈a↔x∈b)->a=b
 | [],[],_,_,_=>rfl
 | [],y :: b,_,_,h=>jS ((h y).2 (bf ..)) (by simp)
 | x :: a,[],_,_,h=>jS ((h x).1 (bf ..)) (by simp)
 | x :: a,y :: b,ha,hb,h=>by
  obtain⟨a1,a2⟩:=a9.1 ha;obtain⟨b1,b2⟩:=a9.1 hb
  have aa:x=y:=by
   rcases be.1 ((h x).1 (bf ..)) with e | h1
   .exact e
   .rcases be.1 ((h y).2 (bf ..)) with e | h2
    .exact e.symm
    .have h3:=Kde (b1 x h1) (a1 y h2);rw[Kcz]at h3;exact jS h3 (by decide)
  subst aa;congr 1;refine Kmu a2 b2 fun z=>⟨fun hz=>?_,fun hz=>?_⟩
  .rcases be.1 ((h z).1 (bg _ hz)) with e | hz2
   .subst e;exact jS rfl (Kos (a1 z hz))
   .exact hz2
  .rcases be.1 ((h z).2 (bg _ hz)) with e | hz2
   .subst e;exact jS rfl (Kos (b1 z hz))
   .exact hz2
structure IsGrp (l gs:List Ser):Prop where
 asc:ascS gs
 mem:∀g,g∈gs↔(∃x∈l,x.labels=g.labels)/\g.samples=gS l g.labels/\g.windows=gW l g.labels
 last:∀x,l.getLast? = some x->gs≠[]/\(lastS gs).labels=x.labels
theorem IsGrp.nil:IsGrp [] []:=⟨cZ,fun g=>by simp,fun x h=>by simp at h⟩
theorem Kny (gs:List Ser) (x:Ser):lastS (gs ++ [x])=x:=by unfold lastS;simp
theorem Kvu {gs:List Ser}(h:gs≠[]):∃ini,gs=ini ++ [lastS gs]:=by have hp:0<gs.length:=List.length_pos_iff.2 h;refine⟨gs.dropLast,?_⟩;have:=(bW h).symm;rw[show lastS gs=gs.getLast h by unfold lastS;rw[jI gs _ (by omega),List.getLast_eq_getElem]];exact this
theorem IsGrp.step {l gs:List Ser}(h:IsGrp l gs) (s:Ser) (hs:∀x,l.getLast? = some x->¬cmpL s.labels x.labels<0) (hl:l.Pairwise fun a b=>¬cmpL b.labels a.labels<0):IsGrp (l ++ [s]) (stepG gs s):=by
 have aq:∀g∈gs,∃x∈l,x.labels=g.labels:=fun g hg=>((h.mem g).1 hg).1
 unfold stepG openG
 by_cases hc:gs = []\/cmpL (lastS gs).labels s.labels≠0
 .rw[jN hc]
  have ai:∀g∈gs,cmpL g.labels s.labels<0:=by
   intro g hg;have ad:gs≠[]:=fun e=>by rw[e]at hg;cases hg
   rcases hc with hc | hc
   .exact jS hc ad
   .obtain ⟨ini,aa⟩:=Kvu ad
    have ac:cmpL (lastS gs).labels s.labels<0:=by
     obtain⟨x,hx⟩:∃x,l.getLast? = some x:=by
      cases hq:l.getLast? with
      | some x=>exact⟨x,rfl⟩
      | none=>
       have:l = []:=List.getLast?_eq_none_iff.1 hq;obtain⟨y,hy,_⟩:=aq g hg;rw[this]at hy;cases hy
     have h1:=hs x hx;have h2:=(h.last x hx).2;rw[<-h2]at h1;have:=Kdd (lastS gs).labels s.labels;omega
    have ha:=h.asc;rw[aa]at hg ha;rcases bL.1 hg with hg | hg
    .exact Kde ((bp.1 ha).2.2 g hg _ (bl.2 rfl)) ac
    .rw[bl.1 hg];exact ac
  have al:∀x∈l,x.labels≠s.labels:=by intro x hx e;have hg:(⟨x.labels,gS l x.labels,gW l x.labels⟩:Ser)∈gs:=(h.mem _).2 ⟨⟨x,hx,rfl⟩,rfl,rfl⟩;exact Kos (ai _ hg) e
  have ag:gS l s.labels = []/\gW l s.labels = []:=by
   have:l.filter (fun x=>decide (x.labels=s.labels)) = []:=b3.2 fun x hx=>by simpa using al x hx
   unfold gS gW;rw[this];exact⟨rfl,rfl⟩
  have ae:addG (gs ++ [⟨s.labels,[],[]⟩]) s=gs ++ [⟨s.labels,s.samples,s.windows⟩]:=by unfold addG;rw[Kny,bn,bF,b8,bT _ _ (bo _),bM];simp
  rw[ae];refine⟨bp.2 ⟨h.asc,bm _ _,fun g hg y hy=>?_⟩,fun g=>?_,fun x hx=>?_⟩
  .rw[bl.1 hy];exact ai g hg
  .rw[cO,bG,h.mem g,Kpd,Kpf,Kpe,Kpg];constructor
   .rintro (⟨⟨x,hx,e⟩,h1,h2⟩ | rfl)
    .have ad:s.labels≠g.labels:=fun e2=>al x hx (e.trans e2.symm)
     rw[jM ad,jM ad,bi,bi];exact⟨⟨x,bU _ hx,e⟩,h1,h2⟩
    .rw[jN rfl,jN rfl,ag.1,ag.2];exact⟨⟨s,by simp,rfl⟩,rfl,rfl⟩
   .rintro ⟨⟨x,hx,e⟩,h1,h2⟩
    by_cases hsl:s.labels=g.labels
    .right;rw[jN hsl,<-hsl,ag.1]at h1;rw[jN hsl,<-hsl,ag.2]at h2;obtain⟨g1,g2,g3⟩:=g;dsimp only at h1 h2 hsl;rw[hsl,h1,h2];rfl
    .left;rw[jM hsl,bi]at h1 h2;rcases bL.1 hx with hx | hx
     .exact ⟨⟨x,hx,e⟩,h1,h2⟩
     .rw[bl.1 hx]at e;exact jS e hsl
  .rw[ck,cc,cP]at hx;injection hx with hx;subst hx;exact⟨by simp,by rw[Kny]⟩
 .rw[jM hc];have ad:gs≠[]:=fun e=>hc (.inl e)
  have hz:cmpL (lastS gs).labels s.labels=0:=cY fun e=>hc (.inr e)
  have ab:=Kdf hz;obtain⟨ini,aa⟩:=Kvu ad
  have ao:lastS gs∈gs:=by have:lastS gs∈ini ++ [lastS gs]:=List.mem_append_right _ (bl.2 rfl);rw[<-aa]at this;exact this
  obtain⟨⟨x0,hx0,e0⟩,aj,ak⟩:=(h.mem (lastS gs)).1 ao
  have ae:addG gs s=ini ++ [⟨(lastS gs).labels,(lastS gs).samples++s.samples,(lastS gs).windows++s.windows⟩]:=by
   unfold addG;have an:gs.length=ini.length+1:=by rw[aa];simp
   conv=>lhs;arg 1;rw[aa]
   rw[an,b8,bT _ _ (bo _),bM];simp
  have ha:=h.asc
  have ah:∀g∈ini,g∈gs/\g.labels≠s.labels:=fun g hg=>by rw[aa]at ha |-;have:=(bp.1 ha).2.2 g hg _ (bl.2 rfl);exact⟨bU _ hg,fun e=>Kos this (by rw[e];exact ab.symm)⟩
  rw[ae];refine⟨?_,fun g=>?_,fun x hx=>?_⟩
  .rw[aa]at ha;obtain⟨p1,p2,p3⟩:=bp.1 ha;refine bp.2 ⟨p1,bm _ _,fun g hg y hy=>?_⟩;rw[bl.1 hy];exact p3 g hg (lastS gs) (bl.2 rfl)
  .rw[cO,bG,Kpd,Kpf,Kpe,Kpg];constructor
   .rintro (hg | rfl)
    .obtain ⟨ap,am⟩:=ah g hg;obtain⟨⟨x,hx,e⟩,h1,h2⟩:=(h.mem g).1 ap;rw[jM (c9 am),jM (c9 am),bi,bi];exact⟨⟨x,bU _ hx,e⟩,h1,h2⟩
    .dsimp only;rw[jN ab.symm,jN ab.symm,<-aj,<-ak];exact⟨⟨s,by simp,ab.symm⟩,rfl,rfl⟩
   .rintro ⟨⟨x,hx,e⟩,h1,h2⟩
    by_cases hsl:s.labels=g.labels
    .right;rw[jN hsl,<-hsl,<-ab,<-aj]at h1;rw[jN hsl,<-hsl,<-ab,<-ak]at h2;obtain⟨g1,g2,g3⟩:=g;dsimp only at h1 h2 hsl;rw[h1,h2,ab,hsl]
    .left;rw[jM hsl,bi]at h1 h2
     have af:g∈gs:=(h.mem g).2 ⟨by
      rcases bL.1 hx with hx | hx
      .exact ⟨x,hx,e⟩
      .rw[bl.1 hx]at e;exact jS e hsl,h1,h2⟩
     rw[aa]at af;rcases bL.1 af with af | af
     .exact af
     .rw[bl.1 af]at hsl;exact jS ab.symm hsl
  .rw[ck,cc,cP]at hx;injection hx with hx;subst hx;exact⟨by simp,by rw[Kny];exact ab⟩
theorem Qdt:∀(l p gs:List Ser),((p++l).Pairwise fun a b=>¬cmpL b.labels a.labels<0)->IsGrp p gs->IsGrp (p++l) (l.foldl stepG gs)
 | [],p,gs,_,h=>by simpa using h
 | s :: l,p,gs,hp,h=>by rw[bH,show p++s :: l=(p ++ [s])++l by simp];obtain⟨p1,p2,p3⟩:=bp.1 hp;refine Qdt l (p ++ [s]) (stepG gs s) (by simpa using hp) (h.step s (fun x hx=>p3 x (List.mem_of_getLast? hx) s (bf ..)) p1)
theorem Kvk {α : Type}(k:α->Int) (x:α):∀l:List α,0<(insO k x l).length/\l.length<=(insO k x l).length
 | []=>by simp[insO]
 | y :: l=>by
  unfold insO
  split
  .simp
  .split
   .simp
   .have:=Kvk k x l;simp only[a8];omega
theorem Kid {α : Type}(k:α->Int):∀(xs l:List α),l.length<=(xs.foldl (fun a x=>insO k x a) l).length/\(0<xs.length->0<(xs.foldl (fun a x=>insO k x a) l).length)
 | [],l=>by simp
 | x :: xs,l=>by rw[bH];have h1:=Kid k xs (insO k x l);have h2:=Kvk k x l;exact⟨by omega,fun _=>by omega⟩
theorem Kdq {α : Type}(k:α->Int) (xs:List α):0<(onceL k xs).length↔0<xs.length:=by
 constructor
 .intro h
  cases xs with
  | nil=>simp[onceL]at h
  | cons x l=>simp
 .exact (Kid k xs []).2
theorem Ksj {α : Type}(k:α->Int) (a b:List α):onceL k (a++b)=b.foldl (fun a x=>insO k x a) (onceL k a):=by unfold onceL;rw[List.foldl_append]
def Kbg:List Ser->Ser->List Ser
 | [],s=>[⟨s.labels,onceL Smp.t s.samples,onceL Wnd.start s.windows⟩]
 | y :: l,s=>if y.labels=s.labels then ⟨y.labels,s.samples.foldl (fun a x=>insO Smp.t x a) y.samples,s.windows.foldl (fun a x=>insO Wnd.start x a) y.windows⟩ :: l
  else if cmpL s.labels y.labels<0 then ⟨s.labels,onceL Smp.t s.samples,onceL Wnd.start s.windows⟩ :: y :: l else y :: Kbg l s
def Kco (out:List Ser) (s:Ser):List Ser:=if Kaq s=true then Kbg out s else out
def Kae (l:List Ser):List Ser:=l.foldl Kco []
structure IsMrg (l out:List Ser):Prop where
 asc:ascS out
 mem:∀g,g∈out↔Kaq g=true/\g.samples=onceL Smp.t (gS l g.labels)/\g.windows=onceL Wnd.start (gW l g.labels)
theorem IsMrg.unique {l a b:List Ser}(ha:IsMrg l a) (hb:IsMrg l b):a=b:=Kmu ha.asc hb.asc fun x=>(ha.mem x).trans (hb.mem x).symm
theorem Kef (g:Ser):Kaq g=true↔0<g.samples.length\/0<g.windows.length:=by unfold Kaq;rw[jH];omega
theorem IsGrp.merged {l gs:List Ser}(h:IsGrp l gs):IsMrg l ((gs.map Kay).filter Kaq):=by
 refine⟨?_,fun g=>?_⟩
 .refine c3 _ ?_;rw[cl];exact h.asc
 .rw[List.mem_filter,cm];constructor
  .rintro ⟨⟨g0,aa,rfl⟩,h2⟩;obtain⟨_,h3,h4⟩:=(h.mem g0).1 aa;refine⟨h2,?_,?_⟩
   .show onceL Smp.t g0.samples=_;rw[h3];rfl
   .show onceL Wnd.start g0.windows=_;rw[h4];rfl
  .rintro ⟨h1,h2,h3⟩;refine⟨⟨⟨g.labels,gS l g.labels,gW l g.labels⟩,(h.mem _).2 ⟨?_,rfl,rfl⟩,?_⟩,h1⟩
   .refine cY fun hn=>?_
    have hf:l.filter (fun x=>decide (x.labels=g.labels)) = []:=b3.2 fun x hx he=>hn ⟨x,hx,by simpa using he⟩
    have e1:gS l g.labels = []:=by unfold gS;rw[hf];rfl
    have e2:gW l g.labels = []:=by unfold gW;rw[hf];rfl
    rw[e1]at h2;rw[e2]at h3;rw[Kef,h2,h3]at h1;simp[onceL]at h1
   .obtain ⟨g1,g2,g3⟩:=g;dsimp only at h2 h3 |-;rw[h2,h3];rfl
theorem Kpo (z:List Lb) (s:Ser):∀out:List Ser,(∀g∈out,cmpL z g.labels<0)->cmpL z s.labels<0->∀g∈Kbg out s,cmpL z g.labels<0
 | [],_,h,g,hg=>by rw[Kbg,bG]at hg;rw[hg];exact h
 | y :: l,h1,h,g,hg=>by
  rw[Kbg]at hg
  split at hg
  .rcases be.1 hg with rfl | hg
   .exact h1 y (bf ..)
   .exact h1 g (bg _ hg)
  .split at hg
   .rcases be.1 hg with rfl | hg
    .exact h
    .exact h1 g hg
   .rcases be.1 hg with rfl | hg
    .exact h1 g (bf ..)
    .exact Kpo z s l (fun g hg=>h1 g (bg _ hg)) h g hg
theorem Kpn (s:Ser):∀out:List Ser,ascS out->ascS (Kbg out s)
 | [],_=>by rw[Kbg];exact bm _ _
 | y :: l,h=>by
  obtain⟨h1,h2⟩:=a9.1 h;rw[Kbg]
  split
  .exact a9.2 ⟨h1,h2⟩
  .rename_i hne
   split
   .rename_i hlt
    refine a9.2 ⟨fun g hg=>?_,h⟩;rcases be.1 hg with rfl | hg
    .exact hlt
    .exact Kde hlt (h1 g hg)
   .rename_i hge
    have aa:cmpL y.labels s.labels<0:=by
     have h3:=Kdd y.labels s.labels;rcases (by omega:cmpL y.labels s.labels<0\/cmpL y.labels s.labels=0) with h4 | h4
     .exact h4
     .exact jS (Kdf h4) hne
    exact a9.2 ⟨Kpo y.labels s l h1 aa,Kpn s l h2⟩
theorem Kpp (s:Ser):∀(out:List Ser),ascS out->∀g,g∈Kbg out s↔(g∈out/\g.labels≠s.labels)\/(g.labels=s.labels/\((∃y∈out,y.labels=s.labels/\g.samples=s.samples.foldl (fun a x=>insO Smp.t x a) y.samples/\g.windows=s.windows.foldl (fun a x=>insO Wnd.start x a) y.windows)\/((∀y∈out,y.labels≠s.labels)/\g.samples=onceL Smp.t s.samples/\g.windows=onceL Wnd.start s.windows)))
 | [],_,g=>by
  rw[Kbg,bG];constructor
  .rintro rfl;exact .inr ⟨rfl,.inr ⟨fun y hy=>jS hy bw,rfl,rfl⟩⟩
  .rintro (⟨h,_⟩ | ⟨h,⟨y,hy,_⟩ | ⟨_,h1,h2⟩⟩)
   .cases h
   .cases hy
   .obtain ⟨g1,g2,g3⟩:=g;dsimp only at h h1 h2;rw[h,h1,h2]
 | y :: l,ha,g=>by
  obtain⟨a1,a2⟩:=a9.1 ha
  have aa:∀z,cmpL z y.labels<0\/z=y.labels->∀x∈l,x.labels≠z:=fun z hz x hx e=>by
   have h1:=a1 x hx;rcases hz with hz | hz
   .have h2:=Kde hz h1;rw[e,Kcz]at h2;exact jS h2 (by decide)
   .rw[e,hz,Kcz]at h1;exact jS h1 (by decide)
  rw[Kbg]
  split
  .rename_i he
   have hl:=aa s.labels (.inr he.symm);rw[bD];constructor
   .rintro (rfl | hg)
    .exact .inr ⟨he,.inl ⟨y,bf ..,he,rfl,rfl⟩⟩
    .exact .inl ⟨bg _ hg,hl g hg⟩
   .rintro (⟨h,hn⟩ | ⟨h,⟨x,hx,e,h1,h2⟩ | ⟨hn,_⟩⟩)
    .rcases be.1 h with rfl | h
     .exact jS he hn
     .exact .inr h
    .rcases be.1 hx with rfl | hx
     .left;obtain⟨g1,g2,g3⟩:=g;dsimp only at h h1 h2;rw[h,h1,h2,he]
     .exact jS e (hl x hx)
    .exact jS he (hn y (bf ..))
  .rename_i hne
   split
   .rename_i hlt
    have hl:=aa s.labels (.inl hlt);rw[bD];constructor
    .rintro (rfl | hg)
     .refine .inr ⟨rfl,.inr ⟨fun x hx=>?_,rfl,rfl⟩⟩;rcases be.1 hx with rfl | hx
      .exact hne
      .exact hl x hx
     .refine .inl ⟨hg,?_⟩;rcases be.1 hg with rfl | hg
      .exact hne
      .exact hl g hg
    .rintro (⟨h,hn⟩ | ⟨h,⟨x,hx,e,_⟩ | ⟨_,h1,h2⟩⟩)
     .exact .inr h
     .rcases be.1 hx with rfl | hx
      .exact jS e hne
      .exact jS e (hl x hx)
     .left;obtain⟨g1,g2,g3⟩:=g;dsimp only at h h1 h2;rw[h,h1,h2]
   .rw[bD,Kpp s l a2 g];constructor
    .rintro (rfl | ⟨h,hn⟩ | ⟨h,⟨x,hx,e⟩ | ⟨hn,e⟩⟩)
     .exact .inl ⟨bf ..,hne⟩
     .exact .inl ⟨bg _ h,hn⟩
     .exact .inr ⟨h,.inl ⟨x,bg _ hx,e⟩⟩
     .refine .inr ⟨h,.inr ⟨fun x hx=>?_,e⟩⟩;rcases be.1 hx with rfl | hx
      .exact hne
      .exact hn x hx
    .rintro (⟨h,hn⟩ | ⟨h,⟨x,hx,e⟩ | ⟨hn,e⟩⟩)
     .rcases be.1 h with rfl | h
      .exact .inl rfl
      .exact .inr (.inl ⟨h,hn⟩)
     .rcases be.1 hx with rfl | hx
      .exact jS e.1 hne
      .exact .inr (.inr ⟨h,.inl ⟨x,hx,e⟩⟩)
     .exact .inr (.inr ⟨h,.inr ⟨fun x hx=>hn x (bg _ hx),e⟩⟩)
theorem IsMrg.step {l out:List Ser}(h:IsMrg l out) (s:Ser):IsMrg (l ++ [s]) (Kco out s):=by
 unfold Kco
 by_cases hs:Kaq s=true
 .rw[jN hs];refine⟨Kpn s out h.asc,fun g=>?_⟩;rw[Kpp s out h.asc g,Kpd,Kpf,Kpe,Kpg]
  by_cases hl:g.labels=s.labels
  .rw[jN hl.symm,jN hl.symm,Ksj,Ksj,hl];have hg:Kaq g=true↔0<g.samples.length\/0<g.windows.length:=Kef g;have ab:=(Kef s).1 hs;constructor
   .rintro (⟨_,h1⟩ | ⟨_,⟨y,hy,e,h1,h2⟩ | ⟨hn,h1,h2⟩⟩)
    .exact jS rfl h1
    .obtain ⟨_,h3,h4⟩:=(h.mem y).1 hy;rw[e]at h3 h4;rw[h3]at h1;rw[h4]at h2;refine⟨?_,h1,h2⟩;rw[hg,h1,h2];have f1:=(Kid Smp.t s.samples (onceL Smp.t (gS l s.labels))).2;have f2:=(Kid Wnd.start s.windows (onceL Wnd.start (gW l s.labels))).2;exact ab.imp f1 f2
    .have aa:gS l s.labels = []/\gW l s.labels = []:=by
      refine cY fun hc=>?_
      refine hn ⟨s.labels,onceL Smp.t (gS l s.labels),onceL Wnd.start (gW l s.labels)⟩ ((h.mem _).2 ⟨?_,rfl,rfl⟩) rfl;rw[Kef];dsimp only;rw[Kdq,Kdq];rcases bC (gS l s.labels).length with q | q
      .rcases bC (gW l s.labels).length with q2 | q2
       .exact jS ⟨bc q,bc q2⟩ hc
       .exact .inr q2
      .exact .inl q
     rw[aa.1,aa.2];refine⟨?_,h1,h2⟩;rw[hg,h1,h2,Kdq,Kdq];exact ab
   .rintro ⟨h0,h1,h2⟩;refine .inr ⟨rfl,?_⟩
    by_cases hy:∃y∈out,y.labels=s.labels
    .obtain ⟨y,hy,e⟩:=hy;obtain⟨_,h3,h4⟩:=(h.mem y).1 hy;rw[e]at h3 h4;exact .inl ⟨y,hy,e,by rw[h3];exact h1,by rw[h4];exact h2⟩
    .have hn:∀y∈out,y.labels≠s.labels:=fun y hy' e=>hy ⟨y,hy',e⟩
     have aa:gS l s.labels = []/\gW l s.labels = []:=by
      refine cY fun hc=>?_
      refine hn ⟨s.labels,onceL Smp.t (gS l s.labels),onceL Wnd.start (gW l s.labels)⟩ ((h.mem _).2 ⟨?_,rfl,rfl⟩) rfl;rw[Kef];dsimp only;rw[Kdq,Kdq];rcases bC (gS l s.labels).length with q | q
      .rcases bC (gW l s.labels).length with q2 | q2
       .exact jS ⟨bc q,bc q2⟩ hc
       .exact .inr q2
      .exact .inl q
     rw[aa.1]at h1;rw[aa.2]at h2;exact .inr ⟨hn,h1,h2⟩
  .rw[jM (c9 hl),jM (c9 hl),bi,bi,<-h.mem g];constructor
   .rintro (⟨h1,_⟩ | ⟨h1,_⟩)
    .exact h1
    .exact jS h1 hl
   .intro h1;exact .inl ⟨h1,hl⟩
 .rw[jM hs]
  have h0:s.samples = []/\s.windows = []:=by
   have:=fun q=>hs ((Kef s).2 q)
   exact⟨bc (by rcases bC s.samples.length with q | q;exact q;exact jS (.inl q) this),bc (by rcases bC s.windows.length with q | q;exact q;exact jS (.inr q) this)⟩
  refine⟨h.asc,fun g=>?_⟩;rw[h.mem g,Kpd,Kpf,Kpe,Kpg,h0.1,h0.2];simp
theorem Kfu:∀(l p out:List Ser),IsMrg p out->IsMrg (p++l) (l.foldl Kco out)
 | [],p,out,h=>by simpa using h
 | s :: l,p,out,h=>by rw[bH,show p++s :: l=(p ++ [s])++l by simp];exact Kfu l (p ++ [s]) _ (h.step s)
theorem IsMrg.nil:IsMrg [] []:=⟨cZ,fun g=>by
 constructor
 .intro h;cases h
 .rintro ⟨h1,h2,h3⟩;rw[Kef,h2,h3]at h1
  simp[onceL,gS,gW]at h1⟩
theorem Qeg {xs ys:List Ser}(hs:ys.Pairwise fun a b=>¬cmpL b.labels a.labels<0) (hk:∀L,ys.filter (fun x=>decide (x.labels=L))=xs.filter (fun x=>decide (x.labels=L))):Kev ys=Kae xs:=by
 have h1:IsMrg ys (Kev ys):=by have:=Qdt ys [] [] (by simpa using hs) IsGrp.nil;simp only[bs]at this;exact this.merged
 have h2:IsMrg xs (Kae xs):=by have:=Kfu xs [] [] IsMrg.nil;rw[bs]at this;exact this
 refine IsMrg.unique h1 ⟨h2.asc,fun g=>?_⟩;rw[h2.mem g];unfold gS gW;rw[hk]
end
section
open Go.Sort
theorem ixf {i N:Nat}(h:i<N) (hN:N<4611686018427387904):((i:Int)).toNat=i/\(0:Int)<=(i:Int)/\(i:Int)<(N:Int)/\cx.wrap (i:Int)=(i:Int):=⟨by omega,by omega,by omega,by rw[ct];omega⟩
theorem Kre {α : Type}{A X1 X2 Y1 R:List α}(h:X2.length=0\/Y1.length=0):A++(X1++(X2++(Y1++R)))=A++(X1++(Y1++(X2++R))):=by rcases h with h | h <;> rw[bc h] <;> simp
theorem Khb {α : Type}(lt:α->α->Bool) {A X Y R:List α}(h:X.length=0\/Y.length=0):A++(X++(Y++R))=A++(mrg lt X Y++R):=by
 rcases h with h | h <;> rw[bc h]
 .rw[Kbt];simp
 .rw[Kbu];simp
theorem Kmc {α : Type}[Inhabited α] {lt:α->α->Bool}{A X Y S:List α}{dk:Array α}{a m b mid lo hi e j nn N:Nat}(SW:SWO lt) (hdk:dk=(A++(X++(Y++S))).toArray) (hl:A.length+X.length+Y.length+S.length=N) (ha:a=A.length) (hm:m=a+X.length) (hb:b=m+Y.length)
  (hX:X.Pairwise fun a b=>lt b a=false) (hY:Y.Pairwise fun a b=>lt b a=false) (hnn:X.length+Y.length<=nn+1) (X2:1<X.length) (Y2:1<Y.length) (hmid3:2*mid<=a+b) (hmid4:a+b<=2*mid+1)
  (hcase:(mid<m/\lo+b=mid+m/\hi=mid)\/(m<=mid/\lo=a/\hi=m)) (he:e=mid+m - j) (h1:lo<=j) (h2:j<=hi) (hal:a<=lo) (him:hi<=m) (himid:hi<=mid) (hlob:mid+m<=lo+b)
  (hB1:j=lo\/lt dk[mid+m - j]! dk[j - 1]! = false) (hB2:j=hi\/lt dk[mid+m - 1 - j]! dk[j]! = true) :
  ∃X1 X2 Y1 Y2:List α,dk=(A++(X1++(X2++(Y1++(Y2++S))))).toArray/\mrg lt X Y=mrg lt X1 Y1++mrg lt X2 Y2/\a=A.length/\j=a+X1.length/\m=j+X2.length/\e=m+Y1.length/\b=e+Y2.length/\mid=j+Y1.length/\X1.length+Y1.length<=nn/\X2.length+Y2.length<=nn/\
   A.length+X1.length+X2.length+Y1.length+Y2.length+S.length=N/\(X1.Pairwise fun a b=>lt b a=false)/\(X2.Pairwise fun a b=>lt b a=false)/\(Y1.Pairwise fun a b=>lt b a=false)/\(Y2.Pairwise fun a b=>lt b a=false):=by
 have DX:∀t,a<=t->t<m->dk[t]! = X[t - a]!:=fun t h1 h2=>by rw[hdk,Kdp (A:=A) (X:=X) (T:=Y++S) (i:=t - a) (by omega) (by omega)]
 have DY:∀t,m<=t->t<b->dk[t]! = Y[t - m]!:=fun t h1 h2=>by rw[hdk,Kds (A:=A) (X:=X) (Y:=Y) (T:=S) (i:=t - m) (by omega) (by omega)]
 have hcut:=Kjb SW hX hY (j - a) (e - m) (by omega) (by omega) ?_ ?_
 .have t1:(X.take (j - a)).length=j - a:=by rw[bt];omega
  have t2:(X.drop (j - a)).length=m - j:=by rw[bz];omega
  have t3:(Y.take (e - m)).length=e - m:=by rw[bt];omega
  have t4:(Y.drop (e - m)).length=b - e:=by rw[bz];omega
  refine⟨X.take (j - a),X.drop (j - a),Y.take (e - m),Y.drop (e - m),?_,hcut,ha,by omega,by omega,by omega,by omega,by omega,by omega,by omega,by omega,hX.take,hX.drop,hY.take,hY.drop⟩;rw[hdk,<-bd (X.take (j - a)),bj,<-bd (Y.take (e - m)),bj]
 .rcases hB1 with h | h
  .rcases hcase with ⟨_,_,_⟩ | ⟨_,_,_⟩
   .right;left;omega
   .left;omega
  .rcases bq a j with hj1 | hj1
   .rcases bq e b with hb1 | hb1
    .right;right;rw[<-he,DY e (by omega) hb1,DX (j - 1) (by omega) (by omega)]at h;rw[show j - a - 1=j - 1 - a by omega];exact h
    .right;left;omega
   .left;omega
 .rcases hB2 with h | h
  .rcases hcase with ⟨_,_,_⟩ | ⟨_,_,_⟩
   .right;left;omega
   .left;omega
  .rcases bq j m with hj1 | hj1
   .rcases bq m e with hb1 | hb1
    .right;right;rw[show mid+m - 1 - j=e - 1 by omega,DY (e - 1) (by omega) (by omega),DX j (by omega) (by omega)]at h;rw[show e - m - 1=e - 1 - m by omega];exact h
    .right;left;omega
   .left;omega
end
section
open List renaming length_append -> Jd
attribute [-go_sem] loadCells
open Go.Shelf Go.RowKit Go.Lib Go.Sort
section
variable {α : Type}[Inhabited α] {enc : α -> List Value}{cf : α -> α -> Int}{d0 : Array α}{w0 : World}{blk off cap g N : Nat}{cb : Array Value}
theorem Kex (A X M Y S:List α) (a b n:Nat) (w:World) (R:RowK enc 3 w0 blk off d0) (hN:d0.size=N) (hl:A.length+X.length+M.length+Y.length+S.length=N) (hX:X.length=n) (hY:Y.length=n) (ha:a=A.length) (hb:b=A.length+n+M.length) (hsz:N<4611686018427387904)
  (S0:SWK enc 3 w0 blk off (A++(X++(M++(Y++S)))).toArray w) :
  Calls prog 254 #[.slice (some ⟨blk,off,none⟩) N cap,.int .i64 a,.int .i64 b,.int .i64 n,.func (.func g) #[] cb] w fun e w'=>e = .returned (.tuple #[])/\SWK enc 3 w0 blk off (A++(Y++(M++(X++S)))).toArray w':=by
 have S1:Aside (SWK enc 3 w0 blk off (A++(X++(M++(Y++S)))).toArray w):=S0;have HQ:Hid (d0.size=N/\A.length+X.length+M.length+Y.length+S.length=N/\X.length=n/\Y.length=n/\a=A.length/\b=A.length+n+M.length):=⟨hN,hl,hX,hY,ha,hb⟩;have ban:a+n<=b:=by omega
 have bbn:b+n<=N:=by omega
 clear hN hl hX hY ha hb;have mixed:prog.follows .mixedOrders=true:=by kernel_rfl
 clear S0;go_enter func254,ntmps254
 go_wp2
 go_loopg [10] n (fun kx s10 wr=>∃(i:Nat) (X1 X2 Y1 Y2:List α),s10 = .int .i64 i/\i+kx=n/\Hid (X1.length=i/\Y1.length=i/\X=X1++X2/\Y=Y1++Y2)/\Aside (SWK enc 3 w0 blk off (A++(Y1++(X2++(M++(X1++(Y2++S)))))).toArray wr))
 case atStart=>exact⟨0,[],X,[],Y,rfl,by omega,⟨rfl,rfl,rfl,rfl⟩,S1⟩
 case round=>
  clear S1;obtain⟨i,X1,X2,Y1,Y2,rfl,hk,ab,S1⟩:=hrel;obtain⟨hN,hl,hX,hY,ha,hb⟩:=HQ.out;obtain⟨h1,h2,h3,h4⟩:=ab.out;have e1:X1.length+X2.length=n:=by rw[<-hX,h3,Jd]
  have e2:Y1.length+Y2.length=n:=by rw[<-hY,h4,Jd]
  by_cases hlt:i<n
  .have hlz:(i:Int)<(n:Int):=by omega
   obtain⟨x,X2,rfl⟩:∃x l,X2=x :: l:=by
    cases X2 with
    | nil=>simp at e1;omega
    | cons x l=>exact⟨x,l,rfl⟩
   obtain⟨y,Y2,rfl⟩:∃y l,Y2=y :: l:=by
    cases Y2 with
    | nil=>simp at e2;omega
    | cons y l=>exact⟨y,l,rfl⟩
   simp only[a8]at e1 e2
   have HN:Hid (swp (A++(Y1++(x :: X2++(M++(X1++(y :: Y2++S)))))).toArray (a+i) (b+i)=(A++((Y1 ++ [y])++(X2++(M++((X1 ++ [x])++(Y2++S)))))).toArray):=by
    show _=_
    rw[show A++(Y1++(x :: X2++(M++(X1++(y :: Y2++S)))))=(A++Y1)++x :: ((X2++(M++X1))++y :: (Y2++S)) by simp,Kej (by simp only[Jd];omega) (by simp only[Jd];omega)];simp
   have aa:(A++(Y1++(x :: X2++(M++(X1++(y :: Y2++S)))))).toArray.size=N:=by simp only[br,Jd,a8];omega
   obtain⟨dk,ah⟩:=jG ((A++(Y1++(x :: X2++(M++(X1++(y :: Y2++S)))))).toArray);rw[<-ah]at HN S1 aa;have ac:Hid ((X1 ++ [x]).length=i+1/\(Y1 ++ [y]).length=i+1/\X=(X1 ++ [x])++X2/\Y=(Y1 ++ [y])++Y2):=⟨by simp[h1],by simp[h2],by rw[h3];simp,by rw[h4];simp⟩;clear ah ab hl hX hY ha hb h1 h2 h3 h4 e1 e2;go_wp2_with fail
   have eat:((a:Int)+(i:Int)).toNat=a+i:=by omega
   have pat:(0:Int)<=(a:Int)+(i:Int):=by omega
   have bat:(a:Int)+(i:Int)<(N:Int):=by omega
   have rat:cx.wrap ((a:Int)+(i:Int))=(a:Int)+(i:Int):=by rw[ct];omega
   have ect:((b:Int)+(i:Int)).toNat=b+i:=by omega
   have pct:(0:Int)<=(b:Int)+(i:Int):=by omega
   have bct:(b:Int)+(i:Int)<(N:Int):=by omega
   have rct:cx.wrap ((b:Int)+(i:Int))=(b:Int)+(i:Int):=by rw[ct];omega
   have S2:Aside (SWK enc 3 w0 blk off (swp dk (a+i) (b+i)) ((wr.drew.setCells blk (off+(a+i)*3) (enc dk[b+i]!)).setCells blk (off+(b+i)*3) (enc dk[a+i]!))):=S1.out.swapped R (a+i) (b+i) (by omega) (by omega);have ae:c4 prog (loadCells ⟨blk,off+(a+i)*3,none⟩ 3) wr.drew = .ok (enc dk[a+i]!).toArray wr.drew:=S1.out.ld1 R (by omega) prog (a+i) (by omega);have ag:c4 prog (loadCells ⟨blk,off+(b+i)*3,none⟩ 3) wr.drew = .ok (enc dk[b+i]!).toArray wr.drew:=S1.out.ld1 R (by omega) prog (b+i) (by omega);have af:=S1.out.st1 R (by omega) prog (a+i) (by omega) dk[b+i]!;have ad:=S1.out.st2 R (by omega) prog (a+i) (b+i) (by omega) (by omega) dk[b+i]! dk[a+i]!;have aj:(enc dk[a+i]!).length=3:=R.hk _;have ak:(enc dk[b+i]!).length=3:=R.hk _;generalize enc dk[a+i]! = cIt at S2 ae ad aj;generalize enc dk[b+i]! = cJt at S2 ag af ad ak;clear S1 aa hN;go_wp2_with fail
   go_big_region_o
   clear ae ag af ad;generalize (wr.drew.setCells blk (off+(a+i)*3) cJt).setCells blk (off+(b+i)*3) cIt=w2 at S2 |-;rw[HN.out]at S2;go_wp2
   go_roundg (n - (i+1))
   case measure=>omega
   case rel=>exact⟨i+1,X1 ++ [x],X2,Y1 ++ [y],Y2,by first | rfl | go_num,by omega,ac,S2⟩
  .have ai:X2 = []:=bc (by omega);have al:Y2 = []:=bc (by omega);subst ai al
   have S2:Aside (SWK enc 3 w0 blk off (A++(Y++(M++(X++S)))).toArray wr):=by rw[bi]at h3 h4;rw[h3,h4];exact S1.out
   clear S1 ab hl hX hY ha hb h1 h2 h3 h4 e1 e2 hN;go_wp2
   go_end0
   exact⟨rfl,S2.out⟩
theorem Ktr (A X Y S:List α) (a m b:Nat) (w:World) (R:RowK enc 3 w0 blk off d0) (hN:d0.size=N) (hl:A.length+X.length+Y.length+S.length=N) (ha:a=A.length) (hm:m=A.length+X.length) (hb:b=A.length+X.length+Y.length) (hX:0<X.length) (hY:0<Y.length) (hsz:N<4611686018427387904)
  (S0:SWK enc 3 w0 blk off (A++(X++(Y++S))).toArray w) :
  Calls prog 222 #[.slice (some ⟨blk,off,none⟩) N cap,.int .i64 a,.int .i64 m,.int .i64 b,.func (.func g) #[] cb] w fun e w'=>e = .returned (.tuple #[])/\SWK enc 3 w0 blk off (A++(Y++(X++S))).toArray w':=by
 have S1:Aside (SWK enc 3 w0 blk off (A++(X++(Y++S))).toArray w):=S0;obtain⟨L,hL⟩:=jG (A++(Y++(X++S)));rw[<-hL];have HL:Hid (A++(Y++(X++S))=L):=hL.symm;obtain⟨i0,ah⟩:=jG X.length;obtain⟨j0,ai⟩:=jG Y.length;have w1:wrap64 ((m:Int) - (a:Int))=(i0:Int):=by unfold wrap64;omega
 have w2:wrap64 ((b:Int) - (m:Int))=(j0:Int):=by unfold wrap64;omega
 have hmN:m<=N:=by omega
 have HQ:Hid (d0.size=N/\A.length+X.length+Y.length+S.length=N/\a=A.length/\m=A.length+X.length/\b=A.length+X.length+Y.length/\i0=X.length/\j0=Y.length):=⟨hN,hl,ha,hm,hb,ah,ai⟩;have pi0:0<i0:=by omega
 have pj0:0<j0:=by omega
 clear S0 hL hN hl ha hm hb ah ai hX hY;go_enter func222,ntmps222
 go_wp2
 go_loopg [10,11] (i0+j0) (fun kx s10 s11 wr=>∃(i j:Nat) (A' X' Y' S':List α),s10 = .int .i64 i/\s11 = .int .i64 j/\0<i/\0<j/\i+j<=kx/\i<=m/\m+j<=N/\Hid (X'.length=i/\Y'.length=j/\A'.length+i=m/\A'.length+X'.length+Y'.length+S'.length=N)/\Hid (A'++(Y'++(X'++S'))=L)/\Aside (SWK enc 3 w0 blk off (A'++(X'++(Y'++S'))).toArray wr))
 case atStart=>exact⟨i0,j0,A,X,Y,S,by first | rfl | go_num | (congr 1;omega),by first | rfl | go_num | (congr 1;omega),by omega,by omega,bo _,by have:=HQ.out;omega,by have:=HQ.out;omega,by have q:=HQ.out;refine⟨?_,?_,?_,?_⟩ <;> omega,HL,S1⟩
 case round=>
  clear S1 HL w1 w2;obtain⟨i,j,A',X',Y',S',rfl,rfl,hi,hj,hk,him,hjm,HR,HL,S1⟩:=hrel;have hN:=HQ.out.1;obtain⟨ab,aa,ag,ac⟩:=HR.out;rcases (by omega:i=j\/j<i\/i<j) with he | hgt | hlt
  .subst he;have HS:=Kex (cap:=cap) (g:=g) (cb:=cb) A' X' [] Y' S' (m - i) m i wr R hN (by simp only[bh];omega) ab aa (by omega) (by simp only[bh];omega) hsz S1.out;have HC:=HS;have d1:((i:Int) != (i:Int))=false:=by simp
   rw[show((m - i:Nat):Int)=(m:Int) - (i:Int) by omega]at HC;have ad:Aside _:=HC;clear HS S1 HC hN ab aa ag ac HR;go_wp2_with fail
   refine cU ad.out ?_;rintro _ w3 ⟨rfl,h3⟩;have S2:Aside (SWK enc 3 w0 blk off L.toArray w3):=by rw[<-HL.out];exact h3
   clear h3;go_wp2_with fail
   go_end0
   exact⟨rfl,S2.out⟩
  .obtain ⟨X1,X2,rfl,h1⟩:∃X1 X2,X'=X1++X2/\X1.length=j:=⟨X'.take j,X'.drop j,(bj _ _).symm,by rw[bt];omega⟩;rw[Jd]at ab ac;have HS:=Kex (cap:=cap) (g:=g) (cb:=cb) A' X1 X2 Y' S' (m - i) m j wr R hN (by omega) h1 aa (by omega) (by omega) hsz (by have:=S1.out;rw[bd]at this;exact this);have HC:=HS;have d1:((i:Int) != (j:Int))=true:=by simp;omega
   have d2:decide ((j:Int)<(i:Int))=true:=by simp;omega
   rw[show((m - i:Nat):Int)=(m:Int) - (i:Int) by omega]at HC;have af:Hid (X2.length=i - j/\X1.length=j/\(A'++Y').length+(i - j)=m/\(A'++Y').length+X2.length+X1.length+S'.length=N):=by simp only[Jd];refine⟨?_,?_,?_,?_⟩ <;> omega
   have ad:Aside _:=HC;clear HS S1 HC hN ab aa ag ac HR h1;go_wp2_with fail
   refine cU ad.out ?_;rintro _ w3 ⟨rfl,h3⟩;have S2:Aside (SWK enc 3 w0 blk off ((A'++Y')++(X2++(X1++S'))).toArray w3):=by rw[bd];exact h3
   have ae:Hid ((A'++Y')++(X1++(X2++S'))=L):=by show _=_;rw[<-HL.out];simp
   clear h3 HL;go_wp2_with fail
   go_roundg (i - j+j)
   case measure=>omega
   case rel=>exact⟨i - j,j,A'++Y',X2,X1,S',by first | rfl | go_num | (congr 1;omega),by first | rfl | go_num | (congr 1;omega),by omega,by omega,by omega,by omega,by omega,af,ae,S2⟩
  .obtain ⟨Y1,Y2,rfl,h1⟩:∃Y1 Y2,Y'=Y1++Y2/\Y2.length=i:=⟨Y'.take (j - i),Y'.drop (j - i),(bj _ _).symm,by rw[bz];omega⟩;rw[Jd]at aa ac;have HS:=Kex (cap:=cap) (g:=g) (cb:=cb) A' X' Y1 Y2 S' (m - i) (m+j - i) i wr R hN (by omega) ab h1 (by omega) (by omega) hsz (by have:=S1.out;rw[bd]at this;exact this);have HC:=HS;have d1:((i:Int) != (j:Int))=true:=by simp;omega
   have d2:decide ((j:Int)<(i:Int))=false:=by simp;omega
   rw[show((m - i:Nat):Int)=(m:Int) - (i:Int) by omega]at HC;rw[show((m+j - i:Nat):Int)=(m:Int)+(j:Int) - (i:Int) by omega]at HC;have af:Hid (Y2.length=i/\Y1.length=j - i/\A'.length+i=m/\A'.length+Y2.length+Y1.length+(X'++S').length=N):=by simp only[Jd];refine⟨?_,?_,?_,?_⟩ <;> omega
   have ad:Aside _:=HC;clear HS S1 HC hN ab aa ag ac HR h1;go_wp2_with fail
   refine cU ad.out ?_;rintro _ w4 ⟨rfl,h3⟩;have S2:Aside (SWK enc 3 w0 blk off (A'++(Y2++(Y1++(X'++S')))).toArray w4):=h3;have ae:Hid (A'++(Y1++(Y2++(X'++S')))=L):=by show _=_;rw[<-HL.out];simp
   clear h3 HL;go_wp2_with fail
   go_roundg (i+(j - i))
   case measure=>omega
   case rel=>exact⟨i,j - i,A',Y2,Y1,X'++S',by first | rfl | go_num | (congr 1;omega),by first | rfl | go_num | (congr 1;omega),by omega,by omega,by omega,by omega,by omega,af,ae,S2⟩
theorem Kud (SW:SWO (ltOf cf)) (eg:∀args w,(callFunc g args).run prog w = .ok (.enter g args) w) (hcmp:CmpLays prog g cb enc 3 cf blk off d0.size w0) (R:RowK enc 3 w0 blk off d0) (hN:d0.size=N) (hsz:N<4611686018427387904) (A:List α) (x:α) (Y S:List α) (a m b:Nat) (w:World) (hl:A.length+1+Y.length+S.length=N) (ha:a=A.length) (hm:m=a+1) (hb:b=m+Y.length) (hY0:0<Y.length) (hY:(Y.Pairwise fun a b=>ltOf cf b a=false))
  (S0:SWK enc 3 w0 blk off (A++([x]++(Y++S))).toArray w) :
  Calls prog 178 #[.slice (some ⟨blk,off,none⟩) N cap,.int .i64 a,.int .i64 m,.int .i64 b,.func (.func g) #[] cb] w fun e w'=>e = .returned (.tuple #[])/\SWK enc 3 w0 blk off (A++(mrg (ltOf cf) [x] Y++S)).toArray w':=by
 have mixed:prog.follows .mixedOrders=true:=by kernel_rfl
 have HC:Aside _:=hcmp;have hma:(m:Int) - (a:Int)=1:=by omega
 have hmb:m<b:=by omega
 have hbN:b<=N:=by omega
 have ham:a<m:=by omega
 obtain⟨dk,ab⟩:=jG ((A++([x]++(Y++S))).toArray);have aa:dk.size=N:=by rw[ab];simp only[br,Jd,a8,bh];omega
 have DA:Hid (dk[a]! = x):=by
  show _=_
  rw[ab,Kdp (A:=A) (X:=[x]) (T:=Y++S) (i:=0) (by simp) (by omega)];rfl
 have DY:Hid (∀t,m<=t->t<b->dk[t]! = Y[t - m]!):=by intro t h1 h2;rw[ab,Kds (A:=A) (X:=[x]) (Y:=Y) (T:=S) (i:=t - m) (by omega) (by simp only[a8,bh];omega)]
 have HQ:Hid (dk=(A++([x]++(Y++S))).toArray/\d0.size=N/\A.length+1+Y.length+S.length=N/\a=A.length/\m=a+1/\b=m+Y.length/\(Y.Pairwise fun a b=>ltOf cf b a=false)):=⟨ab,hN,hl,ha,hm,hb,hY⟩;have aq:Hid (d0.size=N):=hN;rw[<-ab]at S0;have S1:Aside (SWK enc 3 w0 blk off dk w):=S0;clear S0 ab hl ha hm hb hY hcmp hN;have aD:Hid (dk.size=N):=aa;clear aa;go_enter func178,ntmps178
 go_wp2
 go_loopg [10,11] (b - m) (fun kx s10 s11 wr=>∃(i j:Nat),s10 = .int .i64 i/\s11 = .int .i64 j/\m<=i/\i<=j/\j<=b/\j - i<=kx/\Hid ((i=m\/ltOf cf Y[i - m - 1]! x=true)/\(j=b\/ltOf cf Y[j - m]! x=false))/\Aside (SWK enc 3 w0 blk off dk wr))
 case atStart=>exact⟨m,b,rfl,rfl,by omega,by omega,by omega,by omega,⟨.inl rfl,.inl rfl⟩,S1⟩
 case round=>
  clear S1;obtain⟨i,j,rfl,rfl,ay,aw,aA,hk,HB,S1⟩:=hrel;rcases bq i j with hlt | hge
  .have hlz:(i:Int)<(j:Int):=by omega
   obtain⟨h,hh⟩:=jG ((i+j) / 2);have hm2:(((i:Int)+(j:Int)) / 2)=(h:Int):=by omega
   have hih:i<=h:=by omega
   have hjh:h<j:=by omega
   clear hh;obtain⟨y,hy⟩:=jG (Y[h - m]!);have ak:dk[a]! = x:=DA.out;have aj:dk[h]! = y:=by rw[hy];exact DY.out h (by omega) (by omega)
   have aa:=aD.out;have hN:=aq.out;obtain⟨L,hL⟩:=jF (ltOf cf y x);have HL:=cF hL;have HY:=cF hy;clear hy;obtain⟨eac,pac,bac,rac⟩:=ixf (i:=h) (N:=N) (by omega) (by omega);obtain⟨ecc,pcc,bcc,rcc⟩:=ixf (i:=a) (N:=N) (by omega) (by omega);have ag:∀n os,c4 prog (loadCells ⟨blk,off+(h)*3,none⟩ 3) (grow (wr.drewN n) os) = .ok (enc dk[h]!).toArray (grow (wr.drewN n) os):=S1.out.ld R (by omega) prog (h) (by omega);have ap:∀n os,c4 prog (loadCells ⟨blk,off+(a)*3,none⟩ 3) (grow (wr.drewN n) os) = .ok (enc dk[a]!).toArray (grow (wr.drewN n) os):=S1.out.ld R (by omega) prog (a) (by omega);rw[aj]at ag;rw[ak]at ap;have al:=S1.out.cmp HC.out (by omega) y x;have hdc:decide (cf y x<0)=L:=hL;go_wp2_with fail
   go_quiet_grown (first | (go_at_fn g;refine cV (al _ _)))
   have S2:Aside (SWK enc 3 w0 blk off dk (grow (wr.drewN nq) osq)):=S1.out.grown nq osq;clear aa hN ak aj hL ag ap al S1;generalize grow (wr.drewN nq) osq=w2 at S2 |-;clear nq osq
   cases L with
   | true=>
    have ac:Hid ((h+1=m\/ltOf cf Y[h+1 - m - 1]! x=true)/\(j=b\/ltOf cf Y[j - m]! x=false)):=⟨.inr (by rw[show h+1 - m - 1=h - m by omega,<-HY.out];exact HL.out),HB.out.2⟩;clear HB HY HL;go_wp2_with fail
    go_roundg (j - (h+1))
    case measure=>omega
    case rel=>exact⟨h+1,j,by first | rfl | go_num,rfl,by omega,by omega,aA,by omega,ac,S2⟩
   | false=>
    have ac:Hid ((i=m\/ltOf cf Y[i - m - 1]! x=true)/\(h=b\/ltOf cf Y[h - m]! x=false)):=⟨HB.out.1,.inr (by rw[<-HY.out];exact HL.out)⟩;clear HB HY HL;go_wp2_with fail
    go_roundg (h - i)
    case measure=>omega
    case rel=>exact⟨i,h,rfl,rfl,ay,by omega,by omega,by omega,ac,S2⟩
  .have he:j=i:=by omega
   subst he;have ar:¬(j:Int)<(j:Int):=by omega
   obtain⟨p,hp⟩:=jG (j - m)
   have HE:Hid (mrg (ltOf cf) [x] Y=Y.take p++x :: Y.drop p):=by obtain⟨q1,q2,q3,q4,q5,q6,q7⟩:=HQ.out;refine Khn SW q7 p (by omega) (HB.out.2.imp (fun h=>by omega) fun h=>by rw[hp];exact h) (HB.out.1.imp (fun h=>by omega) fun h=>by rw[hp];exact h)
   have HP:Hid (j=a+1+p/\p<=Y.length):=by obtain⟨q1,q2,q3,q4,q5,q6,q7⟩:=HQ.out;exact⟨by omega,by omega⟩
   have S2:Aside (SWK enc 3 w0 blk off (A++([]++x :: (Y.take p++(Y.drop p++S)))).toArray wr):=by have e:=S1.out;rw[HQ.out.1]at e;rw[<-bd (Y.take p),bj];exact e
   clear hp HB S1 aw;go_wp2_with fail
   go_loopg [13] p (fun kx s13 wr=>∃(k:Nat) (U V:List α),s13 = .int .i64 k/\a<=k/\k+1<=j/\Hid (V.length<=kx/\U.length+a=k/\k+V.length+1=j/\Y.take p=U++V)/\Aside (SWK enc 3 w0 blk off (A++(U++x :: (V++(Y.drop p++S)))).toArray wr))
   case atStart=>
    have hl:(Y.take p).length=p:=by rw[bt];have:=HP.out.2;omega
    have q:=HP.out.1;exact⟨a,[],Y.take p,rfl,bo _,by omega,⟨by omega,by simp,by omega,rfl⟩,S2⟩
   case round=>
    clear S2;obtain⟨k,U,V,rfl,hak,hkj,HU,S1⟩:=hrel
    cases V with
    | nil=>
     have aC:¬(k:Int)<(j:Int) - 1:=by have:=HU.out.2.2.1;simp only[bh]at this;omega
     have e2:SWK enc 3 w0 blk off (A++(mrg (ltOf cf) [x] Y++S)).toArray wr:=by have e:=S1.out;have q:=HU.out.2.2.2;rw[bi]at q;rw[HE.out,q];simpa using e
     have S2:Aside (SWK enc 3 w0 blk off (A++(mrg (ltOf cf) [x] Y++S)).toArray wr):=e2;clear e2;clear S1;go_wp2_with fail
     (try simp only[Exit.inBlock,Exit.then]);refine bodyPost_ret (results_none rfl _ _ _) rfl ?_
     exact⟨rfl,S2.out⟩
    | cons v V=>
     obtain⟨am,ax,ah,ad⟩:=HU.out;simp only[a8]at am ah;have aC:(k:Int)<(j:Int) - 1:=by omega
     obtain⟨q1,q2,q3,q4,q5,q6,q7⟩:=HQ.out
     have HN:Hid (swp (A++(U++x :: (v :: V++(Y.drop p++S)))).toArray (k) (k+1)=(A++((U ++ [v])++x :: (V++(Y.drop p++S)))).toArray):=by
      show _=_
      rw[show A++(U++x :: (v :: V++(Y.drop p++S)))=(A++U)++x :: ([]++v :: (V++(Y.drop p++S))) by simp,Kej (by simp only[Jd];omega) (by simp only[Jd,bh];omega)];simp
     have av:Hid (V.length<=gk - 1/\(U ++ [v]).length+a=k+1/\k+1+V.length+1=j/\Y.take p=(U ++ [v])++V):=⟨by omega,by simp only[Jd,a8,bh];omega,by omega,by rw[ad];simp⟩;have hgk:0<gk:=by omega
     have aa:(A++(U++x :: (v :: V++(Y.drop p++S)))).toArray.size=N:=by
      have hl:(Y.take p).length=U.length+(V.length+1):=by rw[ad];simp
      have hl2:(Y.take p).length+(Y.drop p).length=Y.length:=by rw[<-Jd,bj]
      simp only[br,Jd,a8];omega
     have hN:=aq.out;obtain⟨dm,ao⟩:=jG ((A++(U++x :: (v :: V++(Y.drop p++S)))).toArray);rw[<-ao]at HN S1 aa;clear ao HU am ax ah ad q1 q2 q3 q4 q5 q6 q7;go_wp2_with fail
     have eat:((k:Int)).toNat=k:=by omega
     have pat:(0:Int)<=(k:Int):=by omega
     have bat:(k:Int)<(N:Int):=by omega
     have rat:cx.wrap ((k:Int))=(k:Int):=by rw[ct];omega
     have ect:((k:Int)+1).toNat=k+1:=by omega
     have pct:(0:Int)<=(k:Int)+1:=by omega
     have bct:(k:Int)+1<(N:Int):=by omega
     have rct:cx.wrap ((k:Int)+1)=(k:Int)+1:=by rw[ct];omega
     have S2:Aside (SWK enc 3 w0 blk off (swp dm (k) (k+1)) ((wr.drew.setCells blk (off+(k)*3) (enc dm[k+1]!)).setCells blk (off+(k+1)*3) (enc dm[k]!))):=S1.out.swapped R (k) (k+1) (by omega) (by omega);have af:c4 prog (loadCells ⟨blk,off+(k)*3,none⟩ 3) wr.drew = .ok (enc dm[k]!).toArray wr.drew:=S1.out.ld1 R (by omega) prog (k) (by omega);have an:c4 prog (loadCells ⟨blk,off+(k+1)*3,none⟩ 3) wr.drew = .ok (enc dm[k+1]!).toArray wr.drew:=S1.out.ld1 R (by omega) prog (k+1) (by omega);have ai:=S1.out.st1 R (by omega) prog (k) (by omega) dm[k+1]!;have ae:=S1.out.st2 R (by omega) prog (k) (k+1) (by omega) (by omega) dm[k+1]! dm[k]!;have az:(enc dm[k]!).length=3:=R.hk _;have aB:(enc dm[k+1]!).length=3:=R.hk _;generalize enc dm[k]! = cIt at S2 af ae az;generalize enc dm[k+1]! = cJt at S2 an ai ae aB;clear S1 aa hN;go_wp2_with fail
     go_big_region_o
     clear af an ai ae;generalize (wr.drew.setCells blk (off+(k)*3) cJt).setCells blk (off+(k+1)*3) cIt=w2 at S2 |-;rw[HN.out]at S2;go_wp2
     go_roundg (gk - 1)
     case measure=>omega
     case rel=>exact⟨k+1,U ++ [v],V,by first | rfl | go_num,by omega,by omega,av,S2⟩
theorem Krg (SW:SWO (ltOf cf)) (eg:∀args w,(callFunc g args).run prog w = .ok (.enter g args) w) (hcmp:CmpLays prog g cb enc 3 cf blk off d0.size w0) (R:RowK enc 3 w0 blk off d0) (hN:d0.size=N) (hsz:N<4611686018427387904) (A:List α) (y:α) (X S:List α) (a m b:Nat) (w:World) (hl:A.length+X.length+1+S.length=N) (ha:a=A.length) (hm:m=a+X.length) (hb:b=m+1) (hX0:1<X.length) (hX:(X.Pairwise fun a b=>ltOf cf b a=false))
  (S0:SWK enc 3 w0 blk off (A++(X++([y]++S))).toArray w) :
  Calls prog 178 #[.slice (some ⟨blk,off,none⟩) N cap,.int .i64 a,.int .i64 m,.int .i64 b,.func (.func g) #[] cb] w fun e w'=>e = .returned (.tuple #[])/\SWK enc 3 w0 blk off (A++(mrg (ltOf cf) X [y]++S)).toArray w':=by
 have mixed:prog.follows .mixedOrders=true:=by kernel_rfl
 have HC:Aside _:=hcmp;have hmb:(b:Int) - (m:Int)=1:=by omega
 have dma:(((m:Int) - (a:Int)) == 1)=false:=by simp;omega
 have hbN:b<=N:=by omega
 have ham:a<m:=by omega
 have aw:m<b:=by omega
 obtain⟨dk,ab⟩:=jG ((A++(X++([y]++S))).toArray);have aa:dk.size=N:=by rw[ab];simp only[br,Jd,a8,bh];omega
 have DA:Hid (dk[m]! = y):=by
  show _=_
  rw[ab,Kds (A:=A) (X:=X) (Y:=[y]) (T:=S) (i:=0) (by simp) (by omega)];rfl
 have DX:Hid (∀t,a<=t->t<m->dk[t]! = X[t - a]!):=by intro t h1 h2;rw[ab,Kdp (A:=A) (X:=X) (T:=[y]++S) (i:=t - a) (by omega) (by omega)]
 have HQ:Hid (dk=(A++(X++([y]++S))).toArray/\d0.size=N/\A.length+X.length+1+S.length=N/\a=A.length/\m=a+X.length/\b=m+1/\(X.Pairwise fun a b=>ltOf cf b a=false)):=⟨ab,hN,hl,ha,hm,hb,hX⟩;have aq:Hid (d0.size=N):=hN;rw[<-ab]at S0;have S1:Aside (SWK enc 3 w0 blk off dk w):=S0;have aE:Hid (dk.size=N):=aa;clear S0 ab hl ha hm hb hX hcmp hN aa;go_enter func178,ntmps178
 go_wp2
 go_loopg [14,15] (m - a) (fun kx s10 s11 wr=>∃(i j:Nat),s10 = .int .i64 i/\s11 = .int .i64 j/\a<=i/\i<=j/\j<=m/\j - i<=kx/\Hid ((i=a\/ltOf cf y X[i - a - 1]! = false)/\(j=m\/ltOf cf y X[j - a]! = true))/\Aside (SWK enc 3 w0 blk off dk wr))
 case atStart=>exact⟨a,m,rfl,rfl,by omega,by omega,by omega,by omega,⟨.inl rfl,.inl rfl⟩,S1⟩
 case round=>
  clear S1;obtain⟨i,j,rfl,rfl,ay,ax,aA,hk,HB,S1⟩:=hrel;rcases bq i j with hlt | hge
  .have hlz:(i:Int)<(j:Int):=by omega
   obtain⟨h,hh⟩:=jG ((i+j) / 2);have hm2:(((i:Int)+(j:Int)) / 2)=(h:Int):=by omega
   have hih:i<=h:=by omega
   have hjh:h<j:=by omega
   clear hh;obtain⟨x,hx⟩:=jG (X[h - a]!);have aj:dk[m]! = y:=DA.out;have ai:dk[h]! = x:=by rw[hx];exact DX.out h (by omega) (by omega)
   have aa:=aE.out;have hN:=aq.out;obtain⟨L,hL⟩:=jF (ltOf cf y x);have HL:=cF hL;have HX:=cF hx;clear hx;obtain⟨eac,pac,bac,rac⟩:=ixf (i:=m) (N:=N) (by omega) (by omega);obtain⟨ecc,pcc,bcc,rcc⟩:=ixf (i:=h) (N:=N) (by omega) (by omega);have ag:∀n os,c4 prog (loadCells ⟨blk,off+(m)*3,none⟩ 3) (grow (wr.drewN n) os) = .ok (enc dk[m]!).toArray (grow (wr.drewN n) os):=S1.out.ld R (by omega) prog (m) (by omega);have ap:∀n os,c4 prog (loadCells ⟨blk,off+(h)*3,none⟩ 3) (grow (wr.drewN n) os) = .ok (enc dk[h]!).toArray (grow (wr.drewN n) os):=S1.out.ld R (by omega) prog (h) (by omega);rw[aj]at ag;rw[ai]at ap;have ak:=S1.out.cmp HC.out (by omega) y x;have hdc:decide (cf y x<0)=L:=hL;go_wp2_with fail
   go_quiet_grown (first | (go_at_fn g;refine cV (ak _ _)))
   have S2:Aside (SWK enc 3 w0 blk off dk (grow (wr.drewN nq) osq)):=S1.out.grown nq osq;clear aa hN ai aj hL ag ap ak S1;generalize grow (wr.drewN nq) osq=w2 at S2 |-;clear nq osq
   cases L with
   | false=>
    have ac:Hid ((h+1=a\/ltOf cf y X[h+1 - a - 1]! = false)/\(j=m\/ltOf cf y X[j - a]! = true)):=⟨.inr (by rw[show h+1 - a - 1=h - a by omega,<-HX.out];exact HL.out),HB.out.2⟩;clear HB HX HL;go_wp2_with fail
    go_roundg (j - (h+1))
    case measure=>omega
    case rel=>exact⟨h+1,j,by first | rfl | go_num,rfl,by omega,by omega,aA,by omega,ac,S2⟩
   | true=>
    have ac:Hid ((i=a\/ltOf cf y X[i - a - 1]! = false)/\(h=m\/ltOf cf y X[h - a]! = true)):=⟨HB.out.1,.inr (by rw[<-HX.out];exact HL.out)⟩;clear HB HX HL;go_wp2_with fail
    go_roundg (h - i)
    case measure=>omega
    case rel=>exact⟨i,h,rfl,rfl,ay,by omega,by omega,by omega,ac,S2⟩
  .have he:j=i:=by omega
   subst he;have ar:¬(j:Int)<(j:Int):=by omega
   obtain⟨p,hp⟩:=jG (j - a)
   have HE:Hid (mrg (ltOf cf) X [y]=X.take p++y :: X.drop p):=by obtain⟨q1,q2,q3,q4,q5,q6,q7⟩:=HQ.out;refine Kgm SW q7 p (by omega) (HB.out.1.imp (fun h=>by omega) fun h=>by rw[hp];exact h) (HB.out.2.imp (fun h=>by omega) fun h=>by rw[hp];exact h)
   have HP:Hid (j=a+p/\p<=X.length):=by obtain⟨q1,q2,q3,q4,q5,q6,q7⟩:=HQ.out;exact⟨by omega,by omega⟩
   have S2:Aside (SWK enc 3 w0 blk off (A++(X.take p++(X.drop p++y :: ([]++S)))).toArray wr):=by have e:=S1.out;rw[HQ.out.1]at e;rw[<-bd (X.take p),bj];exact e
   clear hp HB S1 ax;go_wp2_with fail
   go_loopg [17] (X.length - p) (fun kx s13 wr=>∃(k:Nat) (U V:List α),s13 = .int .i64 k/\j<=k/\k<=m/\Hid (U.length<=kx/\j+U.length=k/\X.drop p=U++V)/\Aside (SWK enc 3 w0 blk off (A++(X.take p++(U++y :: (V++S)))).toArray wr))
   case atStart=>
    have hl:(X.drop p).length=X.length - p:=by rw[bz]
    have q:=HP.out;have q2:=HQ.out.2.2.2.2.1;exact⟨m,X.drop p,[],rfl,by omega,bo _,⟨by omega,by omega,by simp⟩,S2⟩
   case round=>
    clear S2;obtain⟨k,U,V,rfl,hak,hkj,HU,S1⟩:=hrel;rcases List.eq_nil_or_concat U with rfl | ⟨U',u,rfl⟩
    .have aD:¬(j:Int)<(k:Int):=by have:=HU.out.2.1;simp only[bh]at this;omega
     have e2:SWK enc 3 w0 blk off (A++(mrg (ltOf cf) X [y]++S)).toArray wr:=by have e:=S1.out;have q:=HU.out.2.2;rw[bs]at q;rw[HE.out,q];simpa using e
     have S2:Aside (SWK enc 3 w0 blk off (A++(mrg (ltOf cf) X [y]++S)).toArray wr):=e2;clear S1 e2;go_wp2_with fail
     (try simp only[Exit.inBlock,Exit.then]);refine bodyPost_ret (results_none rfl _ _ _) rfl ?_
     exact⟨rfl,S2.out⟩
    .obtain ⟨al,am,ad⟩:=HU.out;simp only[cA,Jd,a8,bh]at al am;obtain⟨kp,rfl⟩:∃kp,k=kp+1:=⟨k - 1,by omega⟩;have aD:(j:Int)<(kp:Int)+1:=by omega
     have hjk:j<=kp:=by omega
     obtain⟨q1,q2,q3,q4,q5,q6,q7⟩:=HQ.out;obtain⟨p1,p2⟩:=HP.out;have aC:(X.take p).length=p:=by rw[bt];omega
     have HN:Hid (swp (A++(X.take p++(U'.concat u++y :: (V++S)))).toArray (kp+1) (kp)=(A++(X.take p++(U'++y :: (u :: V++S)))).toArray):=by
      show _=_
      rw[show A++(X.take p++(U'.concat u++y :: (V++S)))=(A++(X.take p++U'))++u :: ([]++y :: (V++S)) by simp,Kgy (i:=kp) (by simp only[Jd];omega) (by simp only[Jd,bh];omega)];simp
     have av:Hid (U'.length<=gk - 1/\j+U'.length=kp/\X.drop p=U'++(u :: V)):=⟨by omega,by omega,by rw[ad];simp⟩;have hgk:0<gk:=by omega
     have aa:(A++(X.take p++(U'.concat u++y :: (V++S)))).toArray.size=N:=by
      have hl:(X.drop p).length=U'.length+1+V.length:=by rw[ad];simp;omega
      have hl2:(X.take p).length+(X.drop p).length=X.length:=by rw[<-Jd,bj]
      simp only[cA,br,Jd,a8,bh];omega
     have hN:=aq.out;obtain⟨dm,ao⟩:=jG ((A++(X.take p++(U'.concat u++y :: (V++S)))).toArray);rw[<-ao]at HN S1 aa;clear ao HU al am ad q1 q2 q3 q4 q5 q6 q7 p1 p2 aC;go_wp2_with fail
     have eat:((kp:Int)+1).toNat=kp+1:=by omega
     have pat:(0:Int)<=(kp:Int)+1:=by omega
     have bat:(kp:Int)+1<(N:Int):=by omega
     have rat:cx.wrap ((kp:Int)+1)=(kp:Int)+1:=by rw[ct];omega
     have ect:((kp:Int)).toNat=kp:=by omega
     have pct:(0:Int)<=(kp:Int):=by omega
     have bct:(kp:Int)<(N:Int):=by omega
     have rct:cx.wrap ((kp:Int))=(kp:Int):=by rw[ct];omega
     have S2:Aside (SWK enc 3 w0 blk off (swp dm (kp+1) (kp)) ((wr.drew.setCells blk (off+(kp+1)*3) (enc dm[kp]!)).setCells blk (off+(kp)*3) (enc dm[kp+1]!))):=S1.out.swapped R (kp+1) (kp) (by omega) (by omega);have af:c4 prog (loadCells ⟨blk,off+(kp+1)*3,none⟩ 3) wr.drew = .ok (enc dm[kp+1]!).toArray wr.drew:=S1.out.ld1 R (by omega) prog (kp+1) (by omega);have an:c4 prog (loadCells ⟨blk,off+(kp)*3,none⟩ 3) wr.drew = .ok (enc dm[kp]!).toArray wr.drew:=S1.out.ld1 R (by omega) prog (kp) (by omega);have ah:=S1.out.st1 R (by omega) prog (kp+1) (by omega) dm[kp]!;have ae:=S1.out.st2 R (by omega) prog (kp+1) (kp) (by omega) (by omega) dm[kp]! dm[kp+1]!;have az:(enc dm[kp+1]!).length=3:=R.hk _;have aB:(enc dm[kp]!).length=3:=R.hk _;generalize enc dm[kp+1]! = cIt at S2 af ae az;generalize enc dm[kp]! = cJt at S2 an ah ae aB;clear S1 aa hN;go_wp2_with fail
     go_big_region_o
     clear af an ah ae;generalize (wr.drew.setCells blk (off+(kp+1)*3) cJt).setCells blk (off+(kp)*3) cIt=w2 at S2 |-;rw[HN.out]at S2;go_wp2
     go_roundg (gk - 1)
     case measure=>omega
     case rel=>exact⟨kp,U',u :: V,by first | rfl | go_num,by omega,by omega,av,S2⟩
theorem Krj (SW:SWO (ltOf cf)) (eg:∀args w,(callFunc g args).run prog w = .ok (.enter g args) w) (hcmp:CmpLays prog g cb enc 3 cf blk off d0.size w0) (R:RowK enc 3 w0 blk off d0) (hN:d0.size=N) (hsz:N<4611686018427387904) (nn:Nat) (IH:∀(A X Y S:List α) (a m b:Nat) (w:World),X.length+Y.length<=nn->A.length+X.length+Y.length+S.length=N->a=A.length->m=a+X.length->b=m+Y.length->0<X.length->0<Y.length->(X.Pairwise fun a b=>ltOf cf b a=false)->(Y.Pairwise fun a b=>ltOf cf b a=false)->SWK enc 3 w0 blk off (A++(X++(Y++S))).toArray w->Calls prog 178 #[.slice (some ⟨blk,off,none⟩) N cap,.int .i64 a,.int .i64 m,.int .i64 b,.func (.func g) #[] cb] w fun e w'=>e = .returned (.tuple #[])/\SWK enc 3 w0 blk off (A++(mrg (ltOf cf) X Y++S)).toArray w')
  (A X Y S:List α) (a m b:Nat) (w:World) (hnn:X.length+Y.length<=nn+1) (hl:A.length+X.length+Y.length+S.length=N) (ha:a=A.length) (hm:m=a+X.length) (hb:b=m+Y.length) (X2:1<X.length) (Y2:1<Y.length) (hX:(X.Pairwise fun a b=>ltOf cf b a=false)) (hY:(Y.Pairwise fun a b=>ltOf cf b a=false))
  (S0:SWK enc 3 w0 blk off (A++(X++(Y++S))).toArray w) :
  Calls prog 178 #[.slice (some ⟨blk,off,none⟩) N cap,.int .i64 a,.int .i64 m,.int .i64 b,.func (.func g) #[] cb] w fun e w'=>e = .returned (.tuple #[])/\SWK enc 3 w0 blk off (A++(mrg (ltOf cf) X Y++S)).toArray w':=by
 have mixed:prog.follows .mixedOrders=true:=by kernel_rfl
 have HC:Aside _:=hcmp;have ap:Aside _:=IH;have dma:(((m:Int) - (a:Int)) == 1)=false:=by simp;omega
 have dbm:(((b:Int) - (m:Int)) == 1)=false:=by simp;omega
 have hbN:b<=N:=by omega
 have ham:a+2<=m:=by omega
 have hmb:m+2<=b:=by omega
 obtain⟨mid,av⟩:=jG ((a+b) / 2);have aC:((a:Int)+(b:Int)) / 2=(mid:Int):=by omega
 have ak:2*mid<=a+b:=by omega
 have ah:a+b<=2*mid+1:=by omega
 obtain⟨dk,al⟩:=jG ((A++(X++(Y++S))).toArray);have ac:dk.size=N:=by rw[al];simp only[br,Jd];omega
 have aw:Hid (d0.size=N):=hN;rw[<-al]at S0;have S1:Aside (SWK enc 3 w0 blk off dk w):=S0;have aD:Hid (dk.size=N):=ac
 have ag:∃lo hi:Nat,lo<=hi/\a<=lo/\hi<=m/\hi<=mid/\mid+m<=lo+b/\((mid<m/\lo+b=mid+m/\hi=mid)\/(m<=mid/\lo=a/\hi=m)):=by
  rcases bq mid m with h | h
  .exact ⟨mid+m - b,mid,by omega,by omega,by omega,by omega,by omega,.inl ⟨h,by omega,rfl⟩⟩
  .exact ⟨a,m,by omega,by omega,by omega,by omega,by omega,.inr ⟨h,rfl,rfl⟩⟩
 obtain⟨lo,hi,az,aB,aE,ae,ai,ab⟩:=ag;have ad:Hid ((mid<m/\lo+b=mid+m/\hi=mid)\/(m<=mid/\lo=a/\hi=m)):=ab;have af:Hid _:=fun (e j:Nat)=>@Kmc _ _ (ltOf cf) A X Y S dk a m b mid lo hi e j nn N SW al hl ha hm hb hX hY hnn X2 Y2 ak ah ab
 clear S0 al hl ha hm hb hX hY hnn hcmp hN ac av IH X2 Y2 ab;go_enter func178,ntmps178
 go_upto_if 140 with fail
 go_cut [20,21] from 138 to 146 (fun s20 s21 wz=>∃l h:Int,s20 = .int .i64 l/\s21 = .int .i64 h/\l=(lo:Int)/\h=(hi:Int)/\wz=w)
 case first=>
  rcases ad.out with ⟨hc1,hc2,hc3⟩ | ⟨hc1,hc2,hc3⟩
  .have aI:(mid:Int)<(m:Int):=by omega
   have aj:Hid (lo+b=mid+m/\hi=mid):=⟨hc2,hc3⟩;clear hc2 hc3;go_wp2_with fail
   go_meet
   exact⟨_,_,rfl,rfl,by have:=aj.out;omega,by have:=aj.out;omega,rfl⟩
  .have aI:¬(mid:Int)<(m:Int):=by omega
   have aj:Hid (lo=a/\hi=m):=⟨hc2,hc3⟩;clear hc2 hc3;go_wp2_with fail
   go_meet
   exact⟨_,_,rfl,rfl,by have:=aj.out;omega,by have:=aj.out;omega,rfl⟩
 case rest=>
  obtain⟨l0,h0,rfl,rfl,aF,aH,aa⟩:=hcut;have aa:=aa.symm;subst aa;subst aF;subst aH;go_wp2_with fail
  go_loopg [20,21] (hi - lo) (fun kx s10 s11 wr=>∃(i j:Nat),s10 = .int .i64 i/\s11 = .int .i64 j/\lo<=i/\i<=j/\j<=hi/\j - i<=kx/\Hid ((i=lo\/ltOf cf dk[mid+m - i]! dk[i - 1]! = false)/\(j=hi\/ltOf cf dk[mid+m - 1 - j]! dk[j]! = true))/\Aside (SWK enc 3 w0 blk off dk wr))
  case atStart=>exact⟨lo,hi,rfl,rfl,bo _,az,bo _,bo _,⟨.inl rfl,.inl rfl⟩,S1⟩
  case round=>
   clear S1;obtain⟨i,j,rfl,rfl,aq,aJ,ar,hk,HB,S1⟩:=hrel;rcases bq i j with hlt | hge
   .have hlz:(i:Int)<(j:Int):=by omega
    obtain⟨h,hh⟩:=jG ((i+j) / 2);have hm2:(((i:Int)+(j:Int)) / 2)=(h:Int):=by omega
    have hih:i<=h:=by omega
    have hjh:h<j:=by omega
    clear hh;obtain⟨q,hq⟩:=jG (mid+m - 1 - h);have aL:(mid:Int)+(m:Int) - 1 - (h:Int)=(q:Int):=by omega
    have aN:q<N:=by omega
    have aM:h<N:=by omega
    obtain⟨y,hy⟩:=jG (dk[q]!);obtain⟨x,hx⟩:=jG (dk[h]!);have ao:dk[q]! = y:=hy.symm;have an:dk[h]! = x:=hx.symm;have ac:=aD.out;have hN:=aw.out;obtain⟨L,hL⟩:=jF (ltOf cf y x);have HL:Hid (ltOf cf y x=L/\q=mid+m - 1 - h/\dk[q]! = y/\dk[h]! = x):=⟨hL,hq,ao,an⟩;clear hy hx hq;obtain⟨eac,pac,bac,rac⟩:=ixf (i:=q) (N:=N) (by omega) (by omega);obtain⟨ecc,pcc,bcc,rcc⟩:=ixf (i:=h) (N:=N) (by omega) (by omega);have ax:∀n os,c4 prog (loadCells ⟨blk,off+(q)*3,none⟩ 3) (grow (wr.drewN n) os) = .ok (enc dk[q]!).toArray (grow (wr.drewN n) os):=S1.out.ld R (by omega) prog (q) (by omega);have aA:∀n os,c4 prog (loadCells ⟨blk,off+(h)*3,none⟩ 3) (grow (wr.drewN n) os) = .ok (enc dk[h]!).toArray (grow (wr.drewN n) os):=S1.out.ld R (by omega) prog (h) (by omega);rw[ao]at ax;rw[an]at aA;have ay:=S1.out.cmp HC.out (by omega) y x;have hdc:decide (cf y x<0)=L:=hL;go_wp2_with fail
    go_quiet_grown (first | (go_at_fn g;refine cV (ay _ _)))
    have S2:Aside (SWK enc 3 w0 blk off dk (grow (wr.drewN nq) osq)):=S1.out.grown nq osq;clear ac hN an ao hL aN aM aL ax aA ay S1;generalize grow (wr.drewN nq) osq=w2 at S2 |-;clear nq osq
    cases L with
    | false=>
     have am:Hid ((h+1=lo\/ltOf cf dk[mid+m - (h+1)]! dk[h+1 - 1]! = false)/\(j=hi\/ltOf cf dk[mid+m - 1 - j]! dk[j]! = true)):=⟨.inr (by obtain⟨h1,h2,h3,h4⟩:=HL.out;rw[show mid+m - (h+1)=q by omega,b8,h3,h4];exact h1),HB.out.2⟩;clear HB HL;go_wp2_with fail
     go_roundg (j - (h+1))
     case measure=>omega
     case rel=>exact⟨h+1,j,by first | rfl | go_num,rfl,by omega,by omega,ar,by omega,am,S2⟩
    | true=>
     have am:Hid ((i=lo\/ltOf cf dk[mid+m - i]! dk[i - 1]! = false)/\(h=hi\/ltOf cf dk[mid+m - 1 - h]! dk[h]! = true)):=⟨HB.out.1,.inr (by obtain⟨h1,h2,h3,h4⟩:=HL.out;rw[<-h2,h3,h4];exact h1)⟩;clear HB HL;go_wp2_with fail
     go_roundg (h - i)
     case measure=>omega
     case rel=>exact⟨i,h,rfl,rfl,aq,by omega,by omega,by omega,am,S2⟩
   .have he:j=i:=by omega
    subst he;have aG:¬(j:Int)<(j:Int):=by omega
    obtain⟨e,he⟩:=jG (mid+m - j);have he2:(mid:Int)+(m:Int) - (j:Int)=(e:Int):=by omega
    have hN:=aw.out;obtain⟨X1,X2,Y1,Y2,m1,m2,m3,m4,m5,m6,m7,m8,m9,mA,mB,mC,mD,mE,mF⟩:=af.out e j he aq ar aB aE ae ai HB.out.1 HB.out.2;have aK:=Kml (ltOf cf) X1 Y1;have T0:Aside (SWK enc 3 w0 blk off (A++(X1++(X2++(Y1++(Y2++S))))).toArray wr):=by have:=S1.out;rw[m1]at this;exact this
    have C1:Aside (j<m->m<e->∀W,SWK enc 3 w0 blk off (A++(X1++(X2++(Y1++(Y2++S))))).toArray W->Calls prog 222 #[.slice (some ⟨blk,off,none⟩) N cap,.int .i64 j,.int .i64 m,.int .i64 e,.func (.func g) #[] cb] W fun e w'=>e = .returned (.tuple #[])/\SWK enc 3 w0 blk off (A++(X1++(Y1++(X2++(Y2++S))))).toArray w'):=fun g1 g2 W h=>by have:=Ktr (cap:=cap) (g:=g) (cb:=cb) (A++X1) X2 Y1 (Y2++S) j m e W R hN (by simp only[Jd];omega) (by simp only[Jd];omega) (by simp only[Jd];omega) (by simp only[Jd];omega) (by omega) (by omega) hsz (by rw[bd];exact h);rw[bd]at this;exact this
    have C2:Aside (a<j->j<mid->∀W,SWK enc 3 w0 blk off (A++(X1++(Y1++(X2++(Y2++S))))).toArray W->Calls prog 178 #[.slice (some ⟨blk,off,none⟩) N cap,.int .i64 a,.int .i64 j,.int .i64 mid,.func (.func g) #[] cb] W fun e w'=>e = .returned (.tuple #[])/\SWK enc 3 w0 blk off (A++(mrg (ltOf cf) X1 Y1++(X2++(Y2++S)))).toArray w'):=fun g1 g2 W h=>
     ap.out A X1 Y1 (X2++(Y2++S)) a j mid W (by omega) (by simp only[Jd];omega) (by omega) (by omega) (by omega) (by omega) (by omega) mC mE h
    have C3:Aside (mid<e->e<b->∀W,SWK enc 3 w0 blk off (A++(mrg (ltOf cf) X1 Y1++(X2++(Y2++S)))).toArray W->Calls prog 178 #[.slice (some ⟨blk,off,none⟩) N cap,.int .i64 mid,.int .i64 e,.int .i64 b,.func (.func g) #[] cb] W fun e w'=>e = .returned (.tuple #[])/\SWK enc 3 w0 blk off (A++(mrg (ltOf cf) X Y++S)).toArray w'):=fun g1 g2 W h=>by have:=ap.out (A++mrg (ltOf cf) X1 Y1) X2 Y2 S mid e b W (by omega) (by simp only[Jd];omega) (by simp only[Jd];omega) (by omega) (by omega) (by omega) (by omega) mD mF (by rw[bd];exact h);rw[m2];rw[bd]at this |-;exact this
    have N1:Aside (¬(j<m/\m<e)->A++(X1++(X2++(Y1++(Y2++S))))=A++(X1++(Y1++(X2++(Y2++S))))):=fun h=>Kre (by omega)
    have N2:Aside (¬(a<j/\j<mid)->A++(X1++(Y1++(X2++(Y2++S))))=A++(mrg (ltOf cf) X1 Y1++(X2++(Y2++S)))):=fun h=>Khb _ (by omega)
    have N3:Aside (¬(mid<e/\e<b)->A++(mrg (ltOf cf) X1 Y1++(X2++(Y2++S)))=A++(mrg (ltOf cf) X Y++S)):=fun h=>by rw[m2,bd,<-Khb (A:=mrg (ltOf cf) X1 Y1) _ (by omega)]
    have hjN:j<=N:=by omega
    have heN:e<=N:=by omega
    clear m1 m2 m3 m4 m5 m6 m7 m8 m9 mA mB mC mD mE mF aK hN he HB ad af S1 aJ hk hge ap HC aq ar az aB aE ae ai aD aw;obtain⟨q,hq⟩:∃q:Bool,q=decide (j<m/\m<e):=⟨_,rfl⟩;have HQ:Hid _:=hq;clear hq;go_upto_region 39 with fail
    go_cut [185] from 178 to 184 (fun s wz=>s = .bool q/\wz=wr)
    case first=>
     have hq:=HQ.out
     by_cases g1:j<m
     .have d1:(j:Int)<(m:Int):=by omega
      by_cases g2:m<e
      .have d2:(m:Int)<(e:Int):=by omega
       rw[jL ⟨g1,g2⟩]at hq;subst hq;go_wp2_with fail
       go_meet
       exact⟨rfl,rfl⟩
      .have d2:¬(m:Int)<(e:Int):=by omega
       rw[jJ (fun h=>g2 h.2)]at hq;subst hq;go_wp2_with fail
       go_meet
       exact⟨rfl,rfl⟩
     .have d1:¬(j:Int)<(m:Int):=by omega
      rw[jJ (fun h=>g1 h.1)]at hq;subst hq;go_wp2_with fail
      go_meet
      exact⟨rfl,rfl⟩
    case rest=>
     obtain⟨rfl,aa⟩:=hcut;have aa:=aa.symm;subst aa;go_upto_if 185 with fail
     go_cut [] from 186 to 191 (fun wz=>Aside (SWK enc 3 w0 blk off (A++(X1++(Y1++(X2++(Y2++S))))).toArray wz))
     case first=>
      cases q with
      | true=>
       obtain⟨g1,g2⟩:=jP HQ.out.symm;have D:Aside _:=C1.out g1 g2;clear g1 g2 HQ;go_wp2_with fail
       refine cU (D.out _ T0.out) ?_;rintro _ w9 ⟨rfl,h1⟩;have T9:Aside _:=h1;clear h1;go_wp2_with fail
       go_meet
       exact T9
      | false=>
       have T9:Aside (SWK enc 3 w0 blk off (A++(X1++(Y1++(X2++(Y2++S))))).toArray wr):=by rw[<-N1.out (jQ HQ.out.symm)];exact T0.out
       clear HQ;go_wp2_with fail
       go_meet
       exact T9
     case rest=>
      have T1:Aside _:=hcut.out;clear hcut HQ T0;obtain⟨w3,rfl⟩:=jG wc;obtain⟨q,hq⟩:∃q:Bool,q=decide (a<j/\j<mid):=⟨_,rfl⟩;have HQ:Hid _:=hq;clear hq;go_upto_region 41 with fail
      go_cut [199] from 192 to 198 (fun s wz=>s = .bool q/\wz=w3)
      case first=>
       have hq:=HQ.out
       by_cases g1:a<j
       .have d1:(a:Int)<(j:Int):=by omega
        by_cases g2:j<mid
        .have d2:(j:Int)<(mid:Int):=by omega
         rw[jL ⟨g1,g2⟩]at hq;subst hq;go_wp2_with fail
         go_meet
         exact⟨rfl,rfl⟩
        .have d2:¬(j:Int)<(mid:Int):=by omega
         rw[jJ (fun h=>g2 h.2)]at hq;subst hq;go_wp2_with fail
         go_meet
         exact⟨rfl,rfl⟩
       .have d1:¬(a:Int)<(j:Int):=by omega
        rw[jJ (fun h=>g1 h.1)]at hq;subst hq;go_wp2_with fail
        go_meet
        exact⟨rfl,rfl⟩
      case rest=>
       obtain⟨rfl,aa⟩:=hcut;have aa:=aa.symm;subst aa;go_upto_if 199 with fail
       go_cut [] from 200 to 205 (fun wz=>Aside (SWK enc 3 w0 blk off (A++(mrg (ltOf cf) X1 Y1++(X2++(Y2++S)))).toArray wz))
       case first=>
        cases q with
        | true=>
         obtain⟨g1,g2⟩:=jP HQ.out.symm;have D:Aside _:=C2.out g1 g2;clear g1 g2 HQ;go_wp2_with fail
         refine cU (D.out _ T1.out) ?_;rintro _ w9 ⟨rfl,h1⟩;have T9:Aside _:=h1;clear h1;go_wp2_with fail
         go_meet
         exact T9
        | false=>
         have T9:Aside (SWK enc 3 w0 blk off (A++(mrg (ltOf cf) X1 Y1++(X2++(Y2++S)))).toArray w3):=by rw[<-N2.out (jQ HQ.out.symm)];exact T1.out
         clear HQ;go_wp2_with fail
         go_meet
         exact T9
       case rest=>
        have T2:Aside _:=hcut.out;clear hcut HQ T1;obtain⟨w4,rfl⟩:=jG wc;obtain⟨q,hq⟩:∃q:Bool,q=decide (mid<e/\e<b):=⟨_,rfl⟩;have HQ:Hid _:=hq;clear hq;go_upto_region 43 with fail
        go_cut [213] from 206 to 212 (fun s wz=>s = .bool q/\wz=w4)
        case first=>
         have hq:=HQ.out
         by_cases g1:mid<e
         .have d1:(mid:Int)<(e:Int):=by omega
          by_cases g2:e<b
          .have d2:(e:Int)<(b:Int):=by omega
           rw[jL ⟨g1,g2⟩]at hq;subst hq;go_wp2_with fail
           go_meet
           exact⟨rfl,rfl⟩
          .have d2:¬(e:Int)<(b:Int):=by omega
           rw[jJ (fun h=>g2 h.2)]at hq;subst hq;go_wp2_with fail
           go_meet
           exact⟨rfl,rfl⟩
         .have d1:¬(mid:Int)<(e:Int):=by omega
          rw[jJ (fun h=>g1 h.1)]at hq;subst hq;go_wp2_with fail
          go_meet
          exact⟨rfl,rfl⟩
        case rest=>
         obtain⟨rfl,aa⟩:=hcut;have aa:=aa.symm;subst aa
         cases q with
         | true=>
          obtain⟨g1,g2⟩:=jP HQ.out.symm;have D:Aside _:=C3.out g1 g2;clear g1 g2 HQ;go_wp2_with fail
          refine cU (D.out _ T2.out) ?_;rintro _ w9 ⟨rfl,h1⟩;have T9:Aside _:=h1;clear h1;go_wp2_with fail
          go_end0
          exact⟨rfl,T9.out⟩
         | false=>
          have T9:Aside (SWK enc 3 w0 blk off (A++(mrg (ltOf cf) X Y++S)).toArray w4):=by rw[<-N3.out (jQ HQ.out.symm)];exact T2.out
          clear HQ;go_wp2_with fail
          go_end0
          exact⟨rfl,T9.out⟩
theorem Kim (SW:SWO (ltOf cf)) (eg:∀args w,(callFunc g args).run prog w = .ok (.enter g args) w) (hcmp:CmpLays prog g cb enc 3 cf blk off d0.size w0) (R:RowK enc 3 w0 blk off d0) (hN:d0.size=N) (hsz:N<4611686018427387904):∀(nn:Nat) (A X Y S:List α) (a m b:Nat) (w:World),X.length+Y.length<=nn->A.length+X.length+Y.length+S.length=N->a=A.length->m=a+X.length->b=m+Y.length->0<X.length->0<Y.length->(X.Pairwise fun a b=>ltOf cf b a=false)->(Y.Pairwise fun a b=>ltOf cf b a=false)->SWK enc 3 w0 blk off (A++(X++(Y++S))).toArray w->Calls prog 178 #[.slice (some ⟨blk,off,none⟩) N cap,.int .i64 a,.int .i64 m,.int .i64 b,.func (.func g) #[] cb] w fun e w'=>e = .returned (.tuple #[])/\SWK enc 3 w0 blk off (A++(mrg (ltOf cf) X Y++S)).toArray w'
 | 0,A,X,Y,S,a,m,b,w,h,_,_,_,_,hx,_,_,_,_=>jS h (by omega)
 | nn+1,A,X,Y,S,a,m,b,w,h,hl,ha,hm,hb,hx,hy,hX,hY,S0=>by
  rcases bq 1 X.length with h1 | h1
  .rcases bq 1 Y.length with h2 | h2
   .exact Krj SW eg hcmp R hN hsz nn (Kim SW eg hcmp R hN hsz nn) A X Y S a m b w h hl ha hm hb h1 h2 hX hY S0
   .obtain ⟨y,rfl⟩:∃y,Y = [y]:=ch.1 (by omega);exact Krg SW eg hcmp R hN hsz A y X S a m b w (by simpa using hl) ha hm (by simpa using hb) h1 hX S0
  .obtain ⟨x,rfl⟩:∃x,X = [x]:=ch.1 (by omega);exact Kud SW eg hcmp R hN hsz A x Y S a m b w (by simpa using hl) ha (by simpa using hm) hb hy hY S0
end
attribute [-go_sem] loadCells
open Go.Shelf Go.RowKit Go.Lib Go.Sort
section
variable {α : Type}[Inhabited α] {enc : α -> List Value}{cf : α -> α -> Int}{d0 : Array α}{w0 : World}{blk off cap g N : Nat}{cb : Array Value}
def Kvx:Go.Shelf.Ren:=⟨fun | 20=>177 | n=>n,fun | 0=>0 | 3=>3 | 4=>4 | 22=>26 | 24=>58 | 25=>143 | n=>n,fun | n=>n⟩
theorem Qgj:SlLaysF0.n20 prog Kvx:={
 mixed:=by kernel_rfl
 f20:=⟨Tryz.f177.name,by decide,func177.trans (jR some (by kernel_rfl))⟩
 t0:=underlying0
 a0:=isAgg0
 z0:=sizeOf0
 v0:=zeroValue0
 t3:=underlying3
 a3:=isAgg3
 z3:=sizeOf3
 v3:=zeroValue3
 t4:=underlying4
 a4:=isAgg4
 z4:=sizeOf4
 v4:=zeroValue4
 t22:=underlying26
 a22:=isAgg26
 z22:=sizeOf26
 v22:=zeroValue26
 t25:=underlying143
 a25:=isAgg143
 z25:=sizeOf143
 v25:=zeroValue143 }
theorem Ktm (SW:SWO (ltOf cf)) (eg:∀args w,(callFunc g args).run prog w = .ok (.enter g args) w) (hcmp:CmpLays prog g cb enc 3 cf blk off d0.size w0) (R:RowK enc 3 w0 blk off d0) (hN:d0.size=N) (hsz:N<1152921504606846976) (A Y S:List α) (a b:Nat) (w:World) (hl:A.length+Y.length+S.length=N) (ha:a=A.length) (hb:b=a+Y.length) (S0:SWK enc 3 w0 blk off (A++(Y++S)).toArray w) :
  Calls prog 177 #[.slice (some ⟨blk,off,none⟩) N cap,.int .i64 a,.int .i64 b,.func (.func g) #[] cb] w fun e w'=>e = .returned (.tuple #[])/\∃Z,Stab (ltOf cf) Y Z/\SWK enc 3 w0 blk off (A++(Z++S)).toArray w':=by
 have aa:(A++(Y++S)).toArray.size=N:=by simp only[br,Jd];omega
 have h:=AnyQ.insertionSortCmpFunc Qgj 3 isAgg58 sizeOf58 enc R.hk R.h1 cf g cb blk off cap a b (A++(Y++S)).toArray w eg ?_ (S0.holds R.hblk R.hH (by rw[aa,hN])) (S0.lt R.hblk) (by omega) (by rw[aa];omega) (by rw[aa];omega)
 .rw[aa]at h;refine cU h ?_;rintro _ w' ⟨rfl,n,os,rfl⟩;refine⟨rfl,?_⟩;rcases bC Y.length with h0 | h0
  .have:Y = []:=bc h0;subst this;refine⟨[],Stab.nil,?_⟩;have e:=Kfq (lt:=ltOf cf) A S;rw[show b=A.length by simpa[ha]using hb,ha,show A++([]++S)=A++S from rfl,e];exact S0.on R.hblk _ _ _ rfl
  .obtain ⟨Z,hz,e⟩:=Kfh SW A Y S h0;refine⟨Z,hz,?_⟩;rw[hb,ha,e];exact S0.on R.hblk _ _ _ (by simp only[br,Jd,hz.len])
 .intro m os dk hdk x y;obtain⟨m2,ab,hw⟩:=S0.on R.hblk m dk os (by rw[hdk]);rw[hw];exact hcmp m2 ab dk (by rw[hdk,aa,hN]) x y
theorem Ktz (SW:SWO (ltOf cf)) (eg:∀args w,(callFunc g args).run prog w = .ok (.enter g args) w) (hcmp:CmpLays prog g cb enc 3 cf blk off d0.size w0) (R:RowK enc 3 w0 blk off d0) (hN:d0.size=N) (hsz:N<1152921504606846976) (xs:List α) (w:World) (hl:xs.length=N) (S0:SWK enc 3 w0 blk off xs.toArray w) :
  Calls prog 126 #[.slice (some ⟨blk,off,none⟩) N cap,.int .i64 N,.func (.func g) #[] cb] w fun e w'=>e = .returned (.tuple #[])/\∃ys,Stab (ltOf cf) xs ys/\SWK enc 3 w0 blk off ys.toArray w':=by
 have mixed:prog.follows .mixedOrders=true:=by kernel_rfl
 have S1:Aside (SWK enc 3 w0 blk off ([]++xs).toArray w):=S0;have HN:Hid (d0.size=N/\xs.length=N):=⟨hN,hl⟩;have hb:=R.hblk;have ag:=Ktm (cap:=cap) SW eg hcmp R hN hsz;have ah:=Kim (cap:=cap) SW eg hcmp R hN (by omega);have HI:Aside _:=ag;have HS:Aside _:=ah;clear S0 hl hN hb ag ah hcmp;go_enter func126,ntmps126
 go_wp2
 go_loopg [7,8] (N+1) (fun kx s7 s8 wr=>∃(a b:Nat) (xZ xR Z:List α),s7 = .int .i64 a/\s8 = .int .i64 b/\a<=N/\a<b/\b<=N+20/\N+1<=a+kx/\Hid (b=a+20/\xs=xZ++xR/\xZ.length=a/\Whole (ltOf cf) 20 xZ Z)/\Aside (SWK enc 3 w0 blk off (Z++xR).toArray wr))
 case atStart=>exact⟨0,20,[],xs,[],rfl,rfl,by omega,by omega,by omega,by omega,⟨rfl,rfl,rfl,.nil⟩,S1⟩
 case round=>
  clear S1;obtain⟨a,b,xZ,xR,Z,rfl,rfl,an,ao,ap,hk,HB,S1⟩:=hrel;have hZ:Z.length=a:=by rw[HB.out.2.2.2.len];exact HB.out.2.2.1
  have hR:a+xR.length=N:=by have q:=HB.out;have q2:=HN.out.2;rw[q.2.1,Jd]at q2;omega
  rcases bq N b with hlt | hge
  .have ai:¬(b:Int)<=(N:Int):=by omega
   have hc:=HI.out Z xR [] a N wr (by simp only[bh];omega) (by omega) (by omega) (by rw[bi];exact S1.out);have HC:Aside _:=hc;clear hc S1 hZ hR;go_wp2_with fail
   refine cU HC.out ?_;rintro _ w3 ⟨rfl,z1,ae,h3⟩
   have aj:Hid (Blks (ltOf cf) 20 xs (Z++z1)):=by
    have q:=HB.out;have q2:=HN.out;have q4:xZ.length+xR.length=N:=by rw[<-Jd,<-q.2.1];exact q2.2
    show Blks _ _ _ _
    rw[q.2.1];exact q.2.2.2.close (.last (by omega) ae)
   rw[bi]at h3;have S1:Aside (SWK enc 3 w0 blk off (Z++z1).toArray w3):=h3;clear h3 ae HB HC hk ao ap an hlt ai;generalize Z++z1=ys0 at S1 aj;clear Z z1 xZ xR;go_wp2_with fail
   go_loopg [6] (N+1) (fun kx s6 wr=>∃(c:Nat) (ys:List α),s6 = .int .i64 c/\0<c/\c<=2*N+20/\N+1<=c+kx/\Hid (Blks (ltOf cf) c xs ys)/\Aside (SWK enc 3 w0 blk off ys.toArray wr))
   case atStart=>exact⟨20,ys0,rfl,by omega,by omega,by omega,aj,S1⟩
   case round=>
    clear S1 aj;obtain⟨c,ys,rfl,al,hcN,hk,HB,S1⟩:=hrel;rcases bq c N with hlt | hge
    .have ai:(c:Int)<(N:Int):=by omega
     obtain⟨gk0,ad⟩:=jG gk;rw[<-ad]at hk;have am:Hid (gk0=gk):=ad;clear ad;go_wp2_with fail
     have S2:Aside (SWK enc 3 w0 blk off ([]++ys).toArray wr):=S1;clear S1;go_loopg [7,8] (N+1) (fun kx s7 s8 wr=>∃(a b:Nat) (xZ xR Z R:List α),s7 = .int .i64 a/\s8 = .int .i64 b/\a<=N/\a+c<b/\b<=N+2*c/\N+1<=a+kx/\Hid (b=a+2*c/\xs=xZ++xR/\xZ.length=a/\Whole (ltOf cf) (2*c) xZ Z/\Blks (ltOf cf) c xR R)/\Aside (SWK enc 3 w0 blk off (Z++R).toArray wr))
     case atStart=>exact⟨0,2*c,[],xs,[],ys,rfl,by first | rfl | go_num,by omega,by omega,by omega,by omega,⟨by omega,rfl,rfl,.nil,HB.out⟩,S2⟩
     case round=>
      clear S2 HB;obtain⟨a,b,xZ,xR,Z,R',rfl,rfl,an,ao,ap,hk2,HB,S1⟩:=hrel
      have aa:Hid (xZ.length+xR.length=N/\Z.length=a/\R'.length=xR.length/\b=a+2*c/\xZ.length=a):=by
       have q:=HB.out;have q2:=HN.out;have q4:xZ.length+xR.length=N:=by rw[<-Jd,<-q.2.1];exact q2.2
       exact⟨q4,by rw[q.2.2.2.1.len];exact q.2.2.1,q.2.2.2.2.len,q.1,q.2.2.1⟩
      rcases bq N b with hlt2 | hge2
      .have ak:¬(b:Int)<=(N:Int):=by omega
       rcases bq (a+c) N with hm | hm
       .have aq:(a:Int)+(c:Int)<(N:Int):=by omega
        have af:∃x1 x2 r1 r2,xR=x1++x2/\R'=r1++r2/\x1.length=c/\Stab (ltOf cf) x1 r1/\Stab (ltOf cf) x2 r2/\x2.length+(a+c)=N:=by
         have q:=HB.out;have ql:=aa.out;obtain⟨x1,x2,r1,r2,e1,e2,e3,e4,e5⟩:=q.2.2.2.2.first (by omega)
         have e6:x1.length+x2.length=xR.length:=by rw[e1,Jd]
         exact⟨x1,x2,r1,r2,e1,e2,e3,e4,e5.short (by omega) al,by omega⟩
        obtain⟨x1,x2,r1,r2,e1,e2,e3,e4,e5,e6⟩:=af;have ab:=HS.out (r1.length+r2.length) Z r1 r2 [] a (a+c) N wr (bo _) (by have ql:=aa.out;have:=e4.len;have:=e5.len;simp only[bh];omega) (by have ql:=aa.out;omega) (by have:=e4.len;omega) (by have:=e4.len;have:=e5.len;omega) (by have:=e4.len;omega) (by have:=e5.len;omega) e4.asc e5.asc (by rw[bi,<-e2];exact S1.out)
        have ac:Hid (Blks (ltOf cf) (2*c) xs (Z++(mrg (ltOf cf) r1 r2 ++ []))):=by
         have q:=HB.out;have ql:=aa.out;show Blks _ _ _ _
         rw[q.2.1,e1,bi];exact q.2.2.2.1.close (.last (by simp only[Jd];omega) (e4.mrg SW e5))
        push_cast at ab
        have HC:Aside _:=ab;clear ab S1 e1 e2 e3 e4 e5 e6 HB aa;go_wp2_with fail
        refine cU HC.out ?_;rintro _ w3 ⟨rfl,h3⟩;have S1:Aside (SWK enc 3 w0 blk off (Z++(mrg (ltOf cf) r1 r2 ++ [])).toArray w3):=h3;clear h3 HC;generalize Z++(mrg (ltOf cf) r1 r2 ++ [])=ys2 at S1 ac;go_wp2_with fail
        go_roundg (gk0 - 1)
        case measure=>have:=am.out;omega
        case rel=>exact⟨c*2,ys2,by first | rfl | go_num,by omega,by omega,by omega,by rw[bX];exact ac,S1⟩
       .have aq:¬(a:Int)+(c:Int)<(N:Int):=by omega
        have ac:Hid (Blks (ltOf cf) (2*c) xs (Z++R')):=by
         have q:=HB.out;have ql:=aa.out;show Blks _ _ _ _
         rw[q.2.1];exact q.2.2.2.1.close (.last (by omega) (q.2.2.2.2.short (by omega) al))
        clear HB aa;generalize Z++R'=ys2 at S1 ac;go_wp2_with fail
        go_roundg (gk0 - 1)
        case measure=>have:=am.out;omega
        case rel=>exact⟨c*2,ys2,by first | rfl | go_num,by omega,by omega,by omega,by rw[bX];exact ac,S1⟩
      .have ak:(b:Int)<=(N:Int):=by omega
       have af:∃x1 x2 x3 r1 r2 r3,xR=(x1++x2)++x3/\R'=r1++(r2++r3)/\x1.length=c/\x2.length=c/\Stab (ltOf cf) x1 r1/\Stab (ltOf cf) x2 r2/\Blks (ltOf cf) c x3 r3:=by
        have q:=HB.out;have ql:=aa.out;obtain⟨x1,x2,r1,r2,e1,e2,e3,e4,e5⟩:=q.2.2.2.2.first (by omega)
        have e6:x1.length+x2.length=xR.length:=by rw[e1,Jd]
        obtain⟨y1,y2,s1,s2,f1,f2,f3,f4,f5⟩:=e5.first (by omega)
        exact⟨x1,y1,y2,r1,s1,s2,by rw[e1,f1,bd],by rw[e2,f2],e3,f3,e4,f4,f5⟩
       obtain⟨x1,x2,x3,r1,r2,r3,e1,e2,e3,e4,e5,e6,e7⟩:=af;have e8:R'.length=r1.length+(r2.length+r3.length):=by rw[e2];simp
       have ab:=HS.out (r1.length+r2.length) Z r1 r2 r3 a (a+c) b wr (bo _) (by have ql:=aa.out;have:=e5.len;have:=e6.len;omega) (by have ql:=aa.out;omega) (by have:=e5.len;omega) (by have ql:=aa.out;have:=e6.len;omega) (by have:=e5.len;omega) (by have:=e6.len;omega) e5.asc e6.asc (by rw[<-e2];exact S1.out)
       have ac:Hid (xs=(xZ++(x1++x2))++x3/\(xZ++(x1++x2)).length=b/\Whole (ltOf cf) (2*c) (xZ++(x1++x2)) (Z++mrg (ltOf cf) r1 r2)/\Blks (ltOf cf) c x3 r3):=by have q:=HB.out;have ql:=aa.out;exact⟨by rw[q.2.1,e1];simp only[bd],by simp only[Jd];omega,q.2.2.2.1.snoc (by simp only[Jd];omega) (e5.mrg SW e6),e7⟩
       push_cast at ab
       have HC:Aside _:=ab;clear ab S1 e1 e2 e3 e4 e5 e6 e7 e8 HB aa;go_wp2_with fail
       refine cU HC.out ?_;rintro _ w3 ⟨rfl,h3⟩;have S1:Aside (SWK enc 3 w0 blk off ((Z++mrg (ltOf cf) r1 r2)++r3).toArray w3):=by rw[bd];exact h3
       clear h3 HC;go_wp2_with fail
       go_roundg (N+1 - b)
       case measure=>omega
       case rel=>exact⟨b,b+2*c,_,_,_,_,by first | rfl | go_num,by first | rfl | go_num,by omega,by omega,by omega,by omega,⟨rfl,ac.out⟩,S1⟩
    .have ai:¬(c:Int)<(N:Int):=by omega
     go_wp2_with fail
     go_end0
     exact⟨rfl,ys,HB.out.short (by rw[HN.out.2];exact hge) al,S1.out⟩
  .have ai:(b:Int)<=(N:Int):=by omega
   have af:∃x1 x2,xR=x1++x2/\x1.length=20/\xZ.length+xR.length=N:=by
    have q:=HB.out;have q2:=HN.out;have q4:xZ.length+xR.length=N:=by rw[<-Jd,<-q.2.1];exact q2.2
    exact⟨xR.take 20,xR.drop 20,(bj _ _).symm,by rw[bt];omega,q4⟩
   obtain⟨x1,x2,e1,e2,e3⟩:=af;have e4:xR.length=x1.length+x2.length:=by rw[e1,Jd]
   have e5:=HB.out.1;have hc:=HI.out Z x1 x2 a b wr (by omega) (by omega) (by omega) (by rw[<-e1];exact S1.out);have HC:Aside _:=hc;have HX:Hid (xR=x1++x2/\x1.length=20):=⟨e1,e2⟩;clear hc S1 e1 e2 e3 e4 e5 hZ hR;go_wp2_with fail
   refine cU HC.out ?_;rintro _ w3 ⟨rfl,z1,ae,h3⟩
   have ac:Hid (xs=(xZ++x1)++x2/\(xZ++x1).length=b/\Whole (ltOf cf) 20 (xZ++x1) (Z++z1)):=by have q:=HB.out;have q2:=HX.out;exact⟨by rw[q.2.1,q2.1,bd],by simp only[Jd];omega,q.2.2.2.snoc q2.2 ae⟩
   have S1:Aside (SWK enc 3 w0 blk off ((Z++z1)++x2).toArray w3):=by rw[bd];exact h3
   clear h3 ae HC HB HX;go_wp2_with fail
   go_roundg (N+1 - b)
   case measure=>omega
   case rel=>exact⟨b,b+20,_,_,_,by first | rfl | go_num,by first | rfl | go_num,by omega,by omega,by omega,by omega,⟨rfl,ac.out⟩,S1⟩
theorem Kms (SW:SWO (ltOf cf)) (eg:∀args w,(callFunc g args).run prog w = .ok (.enter g args) w) (hcmp:CmpLays prog g cb enc 3 cf blk off d0.size w0) (R:RowK enc 3 w0 blk off d0) (hN:d0.size=N) (hsz:N<1152921504606846976) (xs:List α) (w:World) (hl:xs.length=N) (S0:SWK enc 3 w0 blk off xs.toArray w) :
  Calls prog 58 #[.slice (some ⟨blk,off,none⟩) N cap,.func (.func g) #[] cb] w fun e w'=>e = .returned (.tuple #[])/\∃ys,Stab (ltOf cf) xs ys/\SWK enc 3 w0 blk off ys.toArray w':=by
 have HC:Aside _:=Ktz (cap:=cap) SW eg hcmp R hN hsz xs w hl S0;clear S0 hl hN hcmp;go_enter func58,ntmps58
 go_wp2_with fail
 refine cU HC.out ?_;rintro _ w3 ⟨rfl,h3⟩;have H3:Aside _:=h3;clear h3;go_wp2_with fail
 go_end0
 exact⟨rfl,H3.out⟩
end
end
section
open Go.RowKit Go.Shelf Go.Sort
theorem Kdg {α : Type}{enc:α->List Value}{k:Nat}(hk:∀x,(enc x).length=k) (l:List α):(l.flatMap enc).length=l.length*k:=by
 induction l with
 | nil=>simp
 | cons x l ih=>rw[cg,bn,ih,hk,a8,cM];omega
theorem Kcw {α : Type}{enc:α->List Value}{k:Nat}(hk:∀x,(enc x).length=k):∀(l:List α) (i j:Nat) (x:α),l[i]? = some x->j<k->(l.flatMap enc)[i*k+j]? = (enc x)[j]?
 | [],_,_,_,h,_=>by simp at h
 | y :: l,0,j,x,h,hj=>by simp only[List.getElem?_cons_zero,c6]at h;subst h;rw[cg,bO (by rw[hk];omega),Nat.zero_mul,Nat.zero_add]
 | y :: l,i+1,j,x,h,hj=>by rw[cg,bN (by rw[hk,cM];omega),hk,show(i+1)*k+j - k=i*k+j by rw[cM];omega];exact Kcw hk l i j x (by simpa using h) hj
theorem Kky {α : Type}[Inhabited α] {enc:α->List Value}{k:Nat}(hk:∀x,(enc x).length=k) (h0:0<k) {l:List α}{t:Nat}(h:t<l.length*k):(l.flatMap enc)[t]? = some ((enc l[t / k]!)[t % k]!):=by
 have hl:t / k<l.length:=cD (by rw[bX];exact h);have h1:l[t / k]? = some l[t / k]!:=by rw[jI l _ hl,bk hl]
 have h2:=Kcw hk l (t / k) (t % k) _ h1 (cI _ h0);rw[show t / k*k+t % k=t by rw[bX];exact Nat.div_add_mod t k]at h2;have h3:t % k<(enc l[t / k]!).length:=by rw[hk];exact cI _ h0
 rw[h2,bk h3,jI (enc l[t / k]!) _ h3]
section
variable {α : Type}[Inhabited α] {enc : α -> List Value}{k : Nat}{w : World}{B g n cap : Nat}{T : TypeId}{l : List α}
theorem Kfg (hk:∀x,(enc x).length=k) (h0:0<k) (hown:w.ownsRow B T k (.slice (some ⟨g,0,none⟩) n cap) n (l.flatMap enc)) (hl:l.length=n):HoldsK enc k w g 0 l.toArray:=by
 rcases hown.2 with ⟨he,_⟩ | ⟨g',cap',cur,he,h1,h2,h3,h4,h5,h6⟩
 .cases he
 .injection he with he _ hcc;injection he with he;injection he with he _ _;subst he hcc;intro t ht;rw[size_flatK]at ht;have aa:t<l.length*k:=by simpa using ht
  refine⟨?_,by simp[World.frozen?,h2]⟩;rw[get_flatK _ _ _ _ ht,Nat.zero_add,cell_of_row w g t cur _ (0,0) h2]
  have e1:cur[t]? = (l.flatMap enc)[t]?:=by rw[<-h6,b9 (by rw[hl]at aa;exact aa)];simp
  rw[e1,Kky hk h0 aa];simp only[List.getElem!_toArray,id]
theorem Kya (enc:α->List Value) (k:Nat) (w:World) (blk off n:Nat) (d:Array α) (os:Array Obj):w.grownBy (sortWorldK enc k w blk off n d os) (some blk):=by
 refine⟨rfl,rfl,rfl,?_,?_⟩
 .simp[sortWorldK,grow,putRowK,putRow,mapBlock,Sort.ahead]
 .intro j hj hne;have hb:¬blk=j:=fun e=>hne (by rw[e])
  simp only[sortWorldK,grow,putRowK,putRow,mapBlock,Sort.ahead];rw[cq (by simpa using hj),cs,jM hb]
theorem Kfj (hk:∀x,(enc x).length=k) (h0:0<k) (hown:w.ownsRow B T k (.slice (some ⟨g,0,none⟩) n cap) n (l.flatMap enc)) (hl:l.length=n) (d:Array α) (hd:d.size=n) (m:Nat) (os:Array Obj) :
  (sortWorldK enc k w g 0 m d os).ownsRow B T k (.slice (some ⟨g,0,none⟩) n cap) n (d.toList.flatMap enc):=by
 have aa:=World.ownsRow.lt hown g rfl;rcases hown.2 with ⟨he,_⟩ | ⟨g',cap',cur,he,h1,h2,h3,h4,h5,h6⟩
 .cases he
 .injection he with he _ hcc;injection he with he;injection he with he _ _;subst he hcc;refine⟨by rw[Kdg hk];simp[hd],.inr ⟨g,cap,putCells id 0 (flatK enc k d) cur,rfl,h1,?_,h3,h4,by simp[putCells,h5],?_⟩⟩
  .simp only[sortWorldK,grow,putRowK,putRow,mapBlock,Sort.ahead];rw[cq (by simpa using aa.2),cs,jN rfl,h2];rfl
  .apply List.ext_getElem?;intro t
   by_cases ht:t<n*k
   .rw[b9 ht,Kky hk h0 (by simpa[hd]using ht)];have ac:t<cur.size:=by rw[h5];exact Nat.lt_of_lt_of_le ht (Nat.mul_le_mul_right k h3)
    have ab:t<(flatK enc k d).size:=by rw[size_flatK,hd];exact ht
    simp only[putCells,Array.getElem?_toList,Array.getElem?_mapIdx,Array.getElem?_eq_getElem ac,Option.map_some];rw[jN ⟨ce _,by simpa using ab⟩,Nat.sub_zero,get_flatK _ _ _ _ (by rw[hd];exact ht)];congr 2;have hq:t / k<d.size:=cD (by rw[bX,hd];exact ht);rw[jI d _ hq,jI d.toList _ (by simpa using hq)];simp
   .rw[bA (by rw[bt];omega),bA (by rw[Kdg hk];simp[hd];omega)]
theorem Qbx {d:Array α}(hl:l.length=n) (h:PermIn 0 n l.toArray d):d.size=n/\d.toList.Perm l:=by
 obtain⟨ac,_,ab⟩:=h;have aa:d.size=n:=by rw[ac];simpa using hl
 refine⟨aa,?_⟩;have e1:(d.extract 0 n)=d:=by rw[<-aa];simp
 have e2:(l.toArray.extract 0 n)=l.toArray:=by rw[<-hl];simp
 rw[e1,e2]at ab;simpa using ab
theorem Qbv {d:Array α}{lt:α->α->Bool}(hd:d.size=n) (h:SortedIn lt 0 n d):d.toList.Pairwise fun a b=>lt b a=false:=by
 rw[b5];intro i j hi hj hij;have aa:i<d.size:=by simpa using hi
 have ab:j<d.size:=by simpa using hj
 have:=h i j (ce _) hij (by omega);rw[jI d j ab,jI d i aa]at this;exact this
end
end
section
theorem Qfq {t:List Txt}(ha:Asc t) {x:Txt}(hx:x∈t):t[below t x]? = some x:=by
 obtain⟨i,hi,e⟩:=List.getElem_of_mem hx;have h1:t[i]? = some x:=by rw[bk hi,e]
 rw[Qfp ha h1];exact h1
theorem Kyo {t:List Txt}(ha:Asc t) {x:Txt}(hx:x∈t):numR t x=(below t x,0):=by rw[numR,jN (Qfq ha hx)]
def pkS (t:List Txt) (xs:List Txt):List UInt8:=xs.flatMap fun x=>uintT (below t x)
def pk (t:List Txt) (l:List Lb):List UInt8:=uintT l.length++pkS t (texts l)
theorem Kwh (t:List Txt) (x:Txt) (r:List Txt):pkS t (x :: r)=uintT (below t x)++pkS t r:=rfl
theorem Ksm {t:List Txt}(ha:Asc t):∀xs:List Txt,(∀x∈xs,x∈t)->packS t xs=some (pkS t xs)
 | [],_=>rfl
 | x :: r,h=>by rw[packS,Kyo ha (h x (by simp)),Ksm ha r (fun y hy=>h y (by simp[hy]))];simp[Kwh]
theorem Qer {t:List Txt}(ha:Asc t) {l:List Lb}(he:Kdn l=0) (h:∀x∈texts l,x∈t):packR t l=(pk t l,0):=by rw[packR,he,Ksm ha _ h];simp[pk]
theorem Qah (t:List Txt):∀xs:List Txt,(pkS t xs).length<=11*xs.length
 | []=>by simp[pkS]
 | x :: r=>by have h1:=Qah t r;have h2:=Kab (below t x);rw[Kwh,bn,a8];omega
theorem Qes (t:List Txt) (l:List Lb):(pk t l).length<=11+22*l.length:=by
 have h1:=Qah t (texts l);have h2:=Kab l.length
 have h3:(texts l).length=2*l.length:=by
  clear h1 h2
  induction l with
  | nil=>rfl
  | cons x l ih=>rw[Kka,a8,a8,ih,a8];omega
 unfold pk;rw[bn];omega
end
section
open Go.RowKit Go.Sort
open Lib renaming hid -> Jh
attribute [local go_sem ↓] Go.wp_at_zero Go.wp_at_succ
attribute [local go_sem] Later.cell
theorem Kjl:∀a b:Txt,cy a b=if a<b then -1 else if b<a then 1 else 0
 | [],[]=>by simp[cy]
 | [],_ :: _=>by simp[cy]
 | _ :: _,[]=>by simp[cy]
 | x :: a,y :: b=>by
  have ih:=Kjl a b;rw[cy]
  by_cases h1:x<y
  .have:x :: a<y :: b:=cj.2 (.inl h1);rw[jN h1,jN this]
  .by_cases h2:y<x
   .have h3:y :: b<x :: a:=cj.2 (.inl h2);have h4:¬x :: a<y :: b:=fun h=>cH h h3
    rw[jM h1,jN h2,jM h4,jN h3]
   .have e:x=y:=UInt8.le_antisymm (cT.1 h2) (cT.1 h1);subst e;rw[jM h1,jM h1,ih];have e1:(x :: a<x :: b)↔a<b:=by rw[cB];simp
    have e2:(x :: b<x :: a)↔b<a:=by rw[cB];simp
    by_cases h3:a<b
    .rw[jN h3,jN (e1.2 h3)]
    .rw[jM h3,jM (fun h=>h3 (e1.1 h))]
     by_cases h4:b<a
     .rw[jN h4,jN (e2.2 h4)]
     .rw[jM h4,jM (fun h=>h4 (e2.1 h))]
def cmp1 (x y:Lb):Int:=if cy x.n y.n≠0 then cy x.n y.n else cy x.v y.v
theorem Krx (x y:Lb) (a b:List Lb):cmpL (x :: a) (y :: b)=if cmp1 x y≠0 then cmp1 x y else cmpL a b:=by
 rw[cmpL];unfold cmp1;rw[Kjl x.n y.n,Kjl x.v y.v]
 by_cases h1:x.n<y.n
 .simp[h1]
 .by_cases h2:y.n<x.n
  .simp[h1,h2]
  .by_cases h3:x.v<y.v
   .simp[h1,h2,h3]
   .by_cases h4:y.v<x.v
    .simp[h1,h2,h3,h4]
    .simp[h1,h2,h3,h4]
theorem Ksl (g:Nat) (a b:Int) (w:World) (hq:Blk w g 3 #[.int .i64 a,.int .i64 b]) :
  Calls prog 129 #[.slice (some ⟨g,0,none⟩) 2 2] w fun e w'=>e = .returned (.int .i64 (if a≠0 then a else b))/\w=w':=by
 have q0:w.cell? ⟨g,0,none⟩=some (cX .i64 a):=hq.cell 0;have q1:w.cell? ⟨g,1,none⟩=some (cX .i64 b):=hq.cell 1;clear hq
 by_cases h0:a=0
 .subst h0;rw[jM (by simp)]
  by_cases h1:b=0
  .subst h1;go_enter func129,ntmps129
   go_wp2_with fail
   refine wp_loop_rounds 3 ?_;rw[rounds_succ];go_wp2_with fail
   rw[rounds_succ];go_wp2_with fail
   rw[rounds_succ];go_wp2_with fail
   go_ret
   exact⟨rfl,rfl⟩
  .have e1:(b != 0)=true:=by simp[h1]
   go_enter func129,ntmps129
   go_wp2_with fail
   refine wp_loop_rounds 3 ?_;rw[rounds_succ];go_wp2_with fail
   rw[rounds_succ];go_wp2_with fail
   go_ret
   exact⟨rfl,rfl⟩
 .rw[jN h0];have e1:(a != 0)=true:=by simp[h0]
  go_enter func129,ntmps129
  go_wp2_with fail
  refine wp_loop_rounds 3 ?_;rw[rounds_succ];go_wp2_with fail
  go_ret
  exact⟨rfl,rfl⟩
theorem Kqo (x y:Lb) (w:World) :
  Calls prog 128 #[.agg #[.string ⟨x.n.toArray⟩,.string ⟨x.v.toArray⟩],.agg #[.string ⟨y.n.toArray⟩,.string ⟨y.v.toArray⟩]] w fun e w'=>e = .returned (.int .i64 (cmp1 x y))/\Below w.heap.size w w':=by
 obtain⟨ca,ac⟩:=jF (cy x.n y.n);obtain⟨cb,ag⟩:=jF (cy x.v y.v)
 have ad:∀W:World,Calls prog 130 #[.agg #[.string ⟨x.n.toArray⟩,.string ⟨x.v.toArray⟩],.agg #[.string ⟨y.n.toArray⟩,.string ⟨y.v.toArray⟩]] W fun e w'=>e = .returned (.int .i64 ca)/\Below W.heap.size W w':=fun W=>by have:=Kkn x y W;rwa[ac]at this
 have ah:∀W:World,Calls prog 131 #[.string ⟨x.v.toArray⟩,.string ⟨y.v.toArray⟩] W fun e w'=>e = .returned (.int .i64 cb)/\W=w':=fun W=>by refine(Tryz.strings_Compare ⟨x.v.toArray⟩ ⟨y.v.toArray⟩ W).mono ?_;rintro e w' ⟨rfl,rfl⟩;exact⟨by rw[<-ag],rfl⟩
 have hr:cmp1 x y=if ca≠0 then ca else cb:=by unfold cmp1;rw[ac,ag]
 obtain⟨rr,ae⟩:=jF (if ca≠0 then ca else cb);rw[hr,ae];have al:=Jh ae;clear ac ag hr ae;obtain⟨N,hN⟩:∃N:ByteArray,(⟨x.n.toArray⟩:ByteArray)=N:=⟨_,rfl⟩;obtain⟨V,hV⟩:∃N:ByteArray,(⟨x.v.toArray⟩:ByteArray)=N:=⟨_,rfl⟩;obtain⟨N2,ai⟩:∃N:ByteArray,(⟨y.n.toArray⟩:ByteArray)=N:=⟨_,rfl⟩;obtain⟨V2,af⟩:∃N:ByteArray,(⟨y.v.toArray⟩:ByteArray)=N:=⟨_,rfl⟩;rw[hN,hV,ai,af]at ad |-;rw[hV,af]at ah;have aj:=Jh ad;have an:=Jh ah;clear hN hV ai af ad ah;go_enter func128,ntmps128
 go_upto_region 1 with fail
 obtain⟨w1,aa⟩:=jF ((w.alloc (.cells #[.string N,.string V] 99)).alloc (.cells #[.string N2,.string V2] 99));have ak:Below w.heap.size w w1:=by rw[<-aa];exact((Below.refl _ _).alloc (bo _) _).alloc (by simp) _
 have hq:Blk w1 w.heap.size 99 #[.string N,.string V]:=by rw[<-aa];exact(c8 _ _ _).alloc _
 have hp:Blk w1 (w.heap.size+1) 99 #[.string N2,.string V2]:=by rw[<-aa];exact Blk.newAt (by simp)
 rw[aa];obtain⟨a,hA⟩:=jF w.heap.size;rw[hA]at hq hp |-;clear aa;have q0:_=some (cW N):=hq.cell 0;have q1:_=some (cW V):=hq.cell 1;have p0:_=some (cW N2):=hp.cell 0;have p1:_=some (cW V2):=hp.cell 1;have hql:=hq.lt;have hpl:=hp.lt;refine Kal 8 (by kernel_rfl) (by kernel_rfl) ?_;simp only[List.take_succ_cons,bP,List.drop_succ_cons,bQ]
 repeat (go_big_quiet_step ((first | (go_at_call 130;exact Kaj _ (aj.out _)) | (go_at_call 131;exact Kps _ (an.out _)))))
 refine wpQuiet_nil ?_;rintro w2 ⟨⟨_,am⟩,rfl⟩;have ab:Below w.heap.size w w2:=then_ ak am;go_wp2_with fail
 have hg:Blk (w2.alloc (.cells #[.int .i64 ca,.int .i64 cb] 3)) w2.heap.size 3 #[.int .i64 ca,.int .i64 cb]:=c8 _ _ _;refine(Ksl _ ca cb _ hg).mono ?_;rintro _ w3 ⟨rfl,rfl⟩;rw[al.out];go_wp2_with fail
 go_ret
 exact⟨rfl,by first | exact ab.alloc ab.size _ | (rw[<-hA];exact ab.alloc ab.size _)⟩
theorem Kkr (l m:List Lb) (A B:Option Addr) (n k ca cb:Nat) (w:World) (r:Int) (hr:cmpL l m=r) (hA:Elems w w.heap.size 2 encLb A n l) (hB:Elems w w.heap.size 2 encLb B k m) (hn:n<=140737488351232) (hk:k<=140737488351232) :
  Calls prog 127 #[.slice A n ca,.slice B k cb,.func (.func 128) #[] #[]] w fun e w'=>e = .returned (.int .i64 r)/\Below w.heap.size w w':=by
 have hl:=hA.len;have hm:=hB.len;have HL:=Jh hl;have HM:=Jh hm;have HR:=Jh hr;clear hl hm hr;go_enter func127,ntmps127
 go_wp2_with fail
 go_loopg [13] n (fun g s13 wr=>∃i:Nat,i+g=n/\s13 = .int .i64 (i:Int)/\Below w.heap.size w wr/\i<=k/\cmpL (l.drop i) (m.drop i)=r)
 case atStart=>exact⟨0,by omega,rfl,Below.refl _ _,ce _,HR.out⟩
 case round=>
  obtain⟨i,aA,rfl,ac,hik,aa⟩:=hrel;have aq:=Jh aA;have aj:=Jh aa;clear aA aa
  by_cases hi:i<n
  .have el:decide ((i:Int)<(n:Int))=true:=by simp;omega
   have el':decide (i<n)=true:=by simp;omega
   have ak:i<l.length:=by have:=HL.out;omega
   have ae:l.drop i=l[i]! :: l.drop (i+1):=by rw[jI l i ak];exact bv ak
   obtain⟨ba,oa,rfl,_,_⟩:=hA.2 (by omega);obtain⟨hba,a0,a1⟩:=Kbk hA (by omega) ac i ak;obtain⟨X,hX⟩:∃N:ByteArray,(⟨l[i]!.n.toArray⟩:ByteArray)=N:=⟨_,rfl⟩;obtain⟨Y,hY⟩:∃N:ByteArray,(⟨l[i]!.v.toArray⟩:ByteArray)=N:=⟨_,rfl⟩;have HX:=Jh hX;have HY:=Jh hY;have az:=Jh ae;rw[hX]at a0;rw[hY]at a1;clear hX hY ae
   by_cases hk2:i<k
   .have eg:decide ((k:Int)<=(i:Int))=false:=by simp;omega
    have ao:decide (k<=i)=false:=by simp;omega
    have ag:i<m.length:=by have:=HM.out;omega
    have ab:m.drop i=m[i]! :: m.drop (i+1):=by rw[jI m i ag];exact bv ag
    obtain⟨bb,ob,rfl,_,_⟩:=hB.2 (by omega);have ad:=fun W=>Kqo l[i]! m[i]! W
    obtain⟨X2,al⟩:∃N:ByteArray,(⟨m[i]!.n.toArray⟩:ByteArray)=N:=⟨_,rfl⟩;obtain⟨Y2,ar⟩:∃N:ByteArray,(⟨m[i]!.v.toArray⟩:ByteArray)=N:=⟨_,rfl⟩;have aD:=Jh al;have aE:=Jh ar;have aa:=aj.out;rw[az.out,ab,Krx]at aa;obtain⟨c,hc⟩:∃c,cmp1 l[i]! m[i]! = c:=⟨_,rfl⟩;simp only[HX.out,HY.out,al,ar,hc]at ad;rw[hc]at aa;have an:=Jh ad;have ax:=Jh aa;clear al ar ad aa hc ab;go_upto_region 4 with fail
    obtain⟨w1,ai⟩:=jF (wr.alloc (.cells #[.string X,.string Y] 99));have ah:Below w.heap.size w w1:=by rw[<-ai];exact ac.alloc ac.size _
    have hq:Blk w1 wr.heap.size 99 #[.string X,.string Y]:=by rw[<-ai];exact c8 _ _ _
    rw[ai];obtain⟨p,hp⟩:=jF wr.heap.size;rw[hp]at hq |-;obtain⟨hbb,b0,b1⟩:=Kbk hB (by omega) ah i ag;rw[aD.out]at b0;rw[aE.out]at b1;clear ai hp a0 a1 ac;go_upto_region 7 with fail
    obtain⟨w2,af⟩:=jF (w1.alloc (.cells #[.string X2,.string Y2] 99));have aF:Below w.heap.size w w2:=by rw[<-af];exact ah.alloc ah.size _
    have ay:Blk w2 p 99 #[.string X,.string Y]:=by rw[<-af];exact hq.alloc _
    have am:Blk w2 w1.heap.size 99 #[.string X2,.string Y2]:=by rw[<-af];exact c8 _ _ _
    rw[af];obtain⟨p2,aw⟩:=jF w1.heap.size;rw[aw]at am |-;clear af aw b0 b1 ah hq;have q0:_=some (cW X):=ay.cell 0;have q1:_=some (cW Y):=ay.cell 1;have r0:_=some (cW X2):=am.cell 0;have r1:_=some (cW Y2):=am.cell 1;go_wp2_with fail
    refine(an.out w2).mono ?_;rintro _ w3 ⟨rfl,aC⟩;have av:=then_ aF aC
    by_cases h0:c=0
    .subst h0;have h1:=ax.out;rw[jM (by simp)]at h1;have ap:=Jh h1;clear h1;go_wp2_with fail
     go_roundg (gk - 1)
     case measure=>have:=aq.out;omega
     case rel=>exact⟨i+1,by have:=aq.out;omega,by go_num,av,by omega,ap.out⟩
    .have e0:(c != 0)=true:=by simp[h0]
     have h1:=ax.out;rw[jN h0]at h1;have ap:=Jh h1;clear h1;go_wp2_with fail
     go_ret
     exact⟨by rw[<-ap.out];rfl,av⟩
   .have eg:decide ((k:Int)<=(i:Int))=true:=by simp;omega
    have ao:decide (k<=i)=true:=by simp;omega
    have ab:m.drop i = []:=bR (by have:=HM.out;omega);have aa:=aj.out;rw[az.out,ab]at aa;have h1:(1:Int)=r:=aa;have H1:=Jh h1;clear ab aa h1;go_wp2_with fail
    go_ret
    exact⟨by rw[<-H1.out];rfl,ac.alloc ac.size _⟩
  .have aB:i=n:=by have:=aq.out;omega
   subst aB;have ae:l.drop i = []:=bR (by have:=HL.out;omega);have aa:=aj.out;rw[ae]at aa;have el:decide ((i:Int)<(i:Int))=false:=by simp
   by_cases hk2:i<k
   .have eg:decide ((i:Int)<(k:Int))=true:=by simp;omega
    have ao:decide (i<k)=true:=by simp;omega
    have ag:i<m.length:=by have:=HM.out;omega
    have ab:m.drop i=m[i] :: m.drop (i+1):=bv ag;rw[ab]at aa;have h1:(-1:Int)=r:=aa;have H1:=Jh h1;clear ab aa h1 ae;go_wp2_with fail
    go_ret
    exact⟨by rw[<-H1.out];rfl,ac⟩
   .have eg:decide ((i:Int)<(k:Int))=false:=by simp;omega
    have ao:decide (i<k)=false:=by simp;omega
    have ab:m.drop i = []:=bR (by have:=HM.out;omega);rw[ab]at aa;have h1:(0:Int)=r:=aa;have H1:=Jh h1;clear ab aa h1 ae;go_wp2_with fail
    go_ret
    exact⟨by rw[<-H1.out];rfl,ac⟩
theorem Kqw (l m:List Lb) (A B:Option Addr) (n k ca cb:Nat) (w:World) (r:Int) (hr:cmpL l m=r) (hA:Elems w w.heap.size 2 encLb A n l) (hB:Elems w w.heap.size 2 encLb B k m) (hn:n<=140737488351232) (hk:k<=140737488351232) :
  Calls prog 60 #[.slice A n ca,.slice B k cb] w fun e w'=>e = .returned (.int .i64 r)/\Below w.heap.size w w':=by
 have HC:=Jh (Kkr l m A B n k ca cb w r hr hA hB hn hk);clear hr;go_enter func60,ntmps60
 go_wp2_with fail
 refine HC.out.mono ?_;rintro _ w1 ⟨rfl,hb⟩;go_wp2_with fail
 go_ret
 exact⟨rfl,hb⟩
end
end Go.Proofs.YtdoiekknhnbepaaGreatDoor
