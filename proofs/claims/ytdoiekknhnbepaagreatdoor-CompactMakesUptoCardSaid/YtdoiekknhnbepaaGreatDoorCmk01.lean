/- Merged (what the claim wants of): Words, EncPlain, SymPlain, LabPlain, Builder, Region, EncWalksA, EncWalksB, EncWalksC, LabWalksA, Shelf, LabWalksB, LabWalksC, Texts, SymWalksA, SymWalksB, SymWalksC, SymWalksE, RLabWalksA, RLabWalksB, Iter. -/
import Derived.Handy
import Derived.Lib.Hide
import Derived.Deep.AppendLies
import Derived.Shelf.Spec.SearchS
import Derived.Shelf.Strings.BuilderK
import Derived.Test.YtdoiekknhnbepaaGreatDoorProg
import Derived.StillTail
import Derived.Deep.RegionHeld3
import Derived.Deep.DrawnRows
import Derived.Deep.DeepCutAuto
import Derived.WalkSpells
import Derived.WalkLawsBesides
import Derived.Deep.CutBlock
import Derived.Shelf.SlicesE.Clone
import Derived.Shelf.SlicesQ.IndexFunc
import Derived.Shelf.SlSortCmp.SmallK
import Derived.Shelf.Small.Strs
import Derived.Shelf.SortM.Plain
import Derived.Shelf.SortM.SortNone
import Derived.Laws.AppendOwnNone
import Derived.Lib.RowBridge
import Derived.Shelf.SlIter.Nil
set_option linter.unusedVariables false
set_option linter.unusedSimpArgs false
set_option maxRecDepth 1000000
set_option maxHeartbeats 8000000
namespace Go.Proofs.YtdoiekknhnbepaaGreatDoor
open Go renaming wpQuiet_nil->dF
open Go renaming wpList_append_own_at->dE
open List renaming getElem?_eq_getElem->b2,getElem?_eq_some_iff->b3,pairwise_iff_getElem->b4,mem_cons->b5,pairwise_cons->b6,mem_singleton->b7,not_lt->b9,getElem?_append_right->ca,getElem?_append_left->cb,getElem?_take->cc,getElem?_drop->cf,mem_append->ch,nodup_cons->cj,length->ck
open Lib renaming byteCells->cl,compareBytes->cm,compactUpTo->cn,hid->cp,bsGo->cq,BuilderAtF->ct,strCells->cv,compact->cx,keeps->cy
open UInt8 renaming ofNat->cF,toNat_ofNat'->cS,toNat_lt->cV,ofNat_toNat->cW,not_lt->cX
open Region renaming ready->cY,lexTailB->c6,lexHead->c7,chainB->c8,sinkB->c9,binds->dd,Mode->de
open _root_.ByteArray renaming toList_eq->df,mk->dh,size->di,data_append->dj,size_append->dk
open _root_.Array renaming getElem?_eq_none->dl,getElem?_modify->dm
open Nat renaming add_assoc->dn,succ_mul->dp,le_trans->dq
open Value renaming string->dr,int->ds
open Classical renaming byContradiction->dt
open Op renaming bytesLess->dv
open Go.Proofs.Lays renaming n166->dw,n167->dx,n169->dy,n240->dz
open Ending renaming returned->dA
open Instr renaming index->dB
open World.ownsRow renaming alloc->dC
open IntWalk renaming i64_in->dD
open Tryz
open List renaming take_succ_eq_append_getElem->bY,length_append->b8,flatMap_cons->cd,drop_of_length_le->ce,length_cons->ci,drop_eq_getElem_cons->co,flatMap_append->cw,eq_nil_of_length_eq_zero->cz,lt_irrefl->cA,getElem_mem->cB,lt_asymm->cD,getElem_cons_succ->cE,take_of_length_le->cH,length_set->cI,set_append_right->cJ,lt_trans->cK,size_toArray->cP,le_antisymm->cQ,any_eq_true->cR,getElem_map->cU,append_nil->cZ,nil_append->da,le_trans->dc
open Bool renaming and_eq_true->bZ,eq_iff_iff->cr,not_eq_true->cC,true_and->cL,false_eq_true->cN,and_assoc->db
open Nat renaming le_refl->cg,zero_add->cG,add_sub_cancel->cM,lt_or_ge->cO,lt_of_not_le->cT
set_option linter.defProp false
theorem jF.{u}{α:Sort u}(a:α):∃x,a=x:=⟨a,rfl⟩
theorem jG.{u}{α:Sort u}(a:α):∃x,x=a:=⟨a,rfl⟩
def jH:=@decide_eq_true_eq
def jI:=@getElem!_pos
def jJ:=@decide_eq_false
def jK:=@decide_eq_false_iff_not
def jL:=@decide_eq_true
def jM:=@if_neg
def jN:=@if_pos
def jO:=@beq_eq_false_iff_ne
def jP:=@of_decide_eq_true
def jQ:=@of_decide_eq_false
def jR:=@congrArg
def jS:=@absurd
section
open Go.RowKit
theorem Qip {k:IntKind}{a b:Int}(h:a=b):dA (.int k a) = .returned (.int k b):=by rw[h]
theorem vi {k:IntKind}{a b:Int}(h:a=b):ds k a=ds k b:=by rw[h]
theorem ret2 {a b c d:Value}(h:a=c) (h':b=d):dA (.tuple #[a,b]) = .returned (.tuple #[c,d]):=by rw[h,h']
theorem Qgx {a b:Bool}(h:a=b):dA (.bool a) = .returned (.bool b):=by rw[h]
section
variable {B : Nat}{ex : List Nat}{a w w' : World}
end
theorem Kdt {w:World}{a:Addr}{v:Value}(h:w.cell? a=some v):a.block<w.heap.size:=by
 rcases cO a.block w.heap.size with hlt | hge
 .exact hlt
 .unfold World.cell? at h;rw[dl hge]at h;cases h
theorem later {w w':World}(hb:Below w.heap.size w w') {a:Addr}{v:Value}(h:w.cell? a=some v):w'.cell? a=some v:=(hb.cell (Kdt h)).trans h
theorem then_ {w w1 w2:World}(h:Below w.heap.size w w1) (h':Below w1.heap.size w1 w2):Below w.heap.size w w2:=h.trans (h'.mono h.size)
def Blk (w:World) (g:Nat) (t:TypeId) (cs:Array Value):Prop:=w.heap[g]? = some (.cells cs t (0,0))
section
variable {w w' : World}{g : Nat}{t : TypeId}{cs : Array Value}
theorem Blk.lt (h:Blk w g t cs):g<w.heap.size:=by
 rcases cO g w.heap.size with hlt | hge
 .exact hlt
 .unfold Blk at h;rw[dl hge]at h;cases h
theorem Blk.cell (h:Blk w g t cs) (i:Nat):w.cell? ⟨g,i,none⟩=cs[i]?:=cell_of_row w g i cs t (0,0) h
theorem Blk.frozen (h:Blk w g t cs) (i:Nat):w.frozen? ⟨g,i,none⟩=false:=by unfold Blk at h;simp[World.frozen?,h]
theorem Blk.new (w:World) (t:TypeId) (cs:Array Value):Blk (w.alloc (.cells cs t)) w.heap.size t cs:=heap_alloc_new w _
theorem Blk.newAt (h:g=w.heap.size):Blk (w.alloc (.cells cs t)) g t cs:=by subst h;exact Blk.new w t cs
theorem Blk.alloc (h:Blk w g t cs) (o:Obj):Blk (w.alloc o) g t cs:=(Below.heap_alloc w o g h.lt).trans h
theorem Blk.set_ (h:Blk w g t cs) (i:Nat) (u:Value):Blk (w.setCell ⟨g,i,none⟩ u) g t (cs.setIfInBounds i u):=by unfold Blk at h |-;simp[World.setCell,dm,h]
theorem Blk.far (h:Blk w g t cs) {p:Addr}(hp:g≠p.block) (u:Value):Blk (w.setCell p u) g t cs:=(Below.heap_setCell w p u g hp).trans h
theorem Blk.below {B:Nat}(h:Blk w g t cs) (hb:Below B w w') (hg:g<B):Blk w' g t cs:=(hb.block g hg).trans h
theorem Blk.grown {row:Option Nat}(h:Blk w g t cs) (hb:w.grownBy w' row) (hg:some g≠row):Blk w' g t cs:=(hb.block g h.lt hg).trans h
theorem Blk.ne_ {g':Nat}{t':TypeId}{cs':Array Value}(h:Blk w g t cs) (h':Blk w g' t' cs') (hne:t≠t'):g≠g':=by rintro rfl;unfold Blk at h h';rw[h]at h';injection h' with h';injection h' with _ ht;exact hne ht
end
theorem Kam {w:World}{g:Nat}{t:TypeId}{l:List Value}(h:Blk w g t l.toArray):∀j u,l[j]? = some u->w.cell? ((⟨g,0,none⟩:Addr).add j)=some u:=by
 intro j u hu;have e:(⟨g,0,none⟩:Addr).add j=⟨g,j,none⟩:=by unfold Addr.add;split <;> simp_all
 rw[e,h.cell];simpa using hu
def Elems {α : Type}(w:World) (B sz:Nat) (enc:α->List Value) (A:Option Addr) (n:Nat) (xs:List α):Prop:=
 xs.length=n/\(0<n->∃b off,A=some ⟨b,off,none⟩/\b<B/\∀i x,xs[i]? = some x->∀j v,(enc x)[j]? = some v->w.cell? ⟨b,off+i*sz+j,none⟩=some v)
section
variable {α : Type}{w w' : World}{B B' sz n : Nat}{enc : α -> List Value}{A : Option Addr}{xs : List α}
theorem Elems.keep (h:Elems w B sz enc A n xs) (hk:∀p:Addr,p.block<B->w'.cell? p=w.cell? p):Elems w' B sz enc A n xs:=
 ⟨h.1,fun hn=>by
  obtain⟨b,aa,e,hb,hc⟩:=h.2 hn
  exact⟨b,aa,e,hb,fun i x hx j v hv=>(hk _ hb).trans (hc i x hx j v hv)⟩⟩
theorem Elems.more (h:Elems w B sz enc A n xs) (hB:B<=B'):Elems w B' sz enc A n xs:=
 ⟨h.1,fun hn=>by
  obtain⟨b,aa,e,hb,hc⟩:=h.2 hn
  exact⟨b,aa,e,by omega,hc⟩⟩
theorem Elems.below (h:Elems w B sz enc A n xs) (hb:Below B w w'):Elems w' B sz enc A n xs:=h.keep fun _ hp=>hb.cell hp
theorem Elems.nil_:Elems w B sz enc A 0 []:=⟨rfl,fun h=>jS h (by omega)⟩
theorem Elems.of_own {base:Nat}{e:TypeId}{v:Value}{ys:List Value}(hsz:∀x∈xs,(enc x).length=sz) (hys:ys=xs.flatMap enc) (h:w.ownsRow base e sz v n ys) (hn:xs.length=n) :
  ∃A c,v = .slice A n c/\Elems w w.heap.size sz enc A n xs/\(∀a,A=some a->base<=a.block)/\n<=c:=by
 rcases h.2 with ⟨rfl,rfl⟩ | ⟨g,cap,cur,rfl,hb,hh,hnc,_,hsize,htk⟩
 .exact ⟨none,0,rfl,⟨hn,fun h=>jS h (by omega)⟩,(fun a h=>by cases h),cg _⟩
 .refine ⟨_,cap,rfl,⟨hn,fun _=>⟨g,0,rfl,?_,fun i x hx j v hv=>?_⟩⟩,(fun a h=>by injection h with h;subst h;exact hb),hnc⟩
  .rcases cO g w.heap.size with hlt | hge
   .exact hlt
   .rw[dl hge]at hh;cases hh
  .have aa:w.cell? ⟨g,0+i*sz+j,none⟩=cur[0+i*sz+j]?:=cell_of_row w g _ cur e (0,0) hh;rw[aa]
   have ab:∀(l:List α) (i:Nat),(∀x∈l,(enc x).length=sz)->l[i]? = some x->(l.flatMap enc)[i*sz+j]? = some v:=by
    intro l
    induction l with
    | nil=>intro i _ h;simp at h
    | cons y l ih=>
     intro i hl hi
     cases i with
     | zero=>
      simp only[List.getElem?_cons_zero,Option.some.injEq]at hi;subst hi;have hj:j<(enc y).length:=(b3.1 hv).1;rw[cd,cb (by omega)];simpa using hv
     | succ i=>
      rw[cd,ca (by rw[hl y (by simp),dp];omega),hl y (by simp),show(i+1)*sz+j - sz=i*sz+j by rw[dp];omega];exact ih i (fun z hz=>hl z (by simp[hz])) (by simpa using hi)
   have h1:=ab xs i hsz hx;rw[<-hys,<-htk,cc]at h1
   split at h1
   .simpa using h1
   .cases h1
theorem Elems.cut (h:Elems w B sz enc A n xs) {k cap:Nat}(hk:k<=n) (hc:n<=cap) :
  Elems w B sz enc (if cap=k then A else A.map (·.add (k*sz))) (n - k) (xs.drop k):=by
 refine⟨by rw[List.length_drop,h.1],fun hn=>?_⟩;obtain⟨b,ab,rfl,hb,aa⟩:=h.2 (by omega);rw[jM (by omega)];refine⟨b,ab+k*sz,by simp only[Option.map_some,Addr.add];split <;> simp_all,hb,fun i x hx j v hv=>?_⟩;rw[cf]at hx;have:=aa (k+i) x hx j v hv;rw[Nat.add_mul]at this;rw[<-this];congr 2;omega
theorem Elems.len (h:Elems w B sz enc A n xs):xs.length=n:=h.1
end
end
section
def uintF:Nat->Nat->List UInt8
 | 0,v=>[cF v]
 | f+1,v=>if 127<v then cF (v % 128+128) :: uintF f (v / 128) else [cF v]
def uintT (v:Nat):List UInt8:=uintF 10 v
theorem Kqe:∀(f v:Nat),v<128 ^ (f+1)->uintF f v=uintF (f+1) v
 | 0,v,h=>by rw[uintF,uintF,jM (by omega)]
 | f+1,v,h=>by
  rw[uintF,uintF]
  split
  .rw[Kqe f (v / 128) (by rw[Nat.pow_succ]at h;omega)]
  .rfl
theorem Qcp {v:Nat}(h:v<2 ^ 64) (h1:127<v):uintT v=cF (v % 128+128) :: uintT (v / 128):=by
 unfold uintT
 conv=>lhs;rw[uintF,jN h1]
 rw[Kqe 9 (v / 128) (by
  have:(2:Nat) ^ 64<=128 ^ (9+1)*128:=by decide
  omega)]
theorem Qfi {v:Nat}(h1:v<=127):uintT v = [cF v]:=by rw[uintT,uintF,jM (by omega)]
theorem Ksy:∀(f v:Nat),1<=(uintF f v).length/\(uintF f v).length<=f+1
 | 0,v=>by simp[uintF]
 | f+1,v=>by
  rw[uintF]
  split
  .have:=Ksy f (v / 128);simp only[ci];omega
  .simp
theorem Kab (v:Nat):1<=(uintT v).length/\(uintT v).length<=11:=Ksy 10 v
def textT (s:List UInt8):List UInt8:=uintT s.length++s
abbrev Txt:=List UInt8
def Asc (t:List Txt):Prop:=t.Pairwise (· < ·)
def IsTab (l t:List Txt):Prop:=Asc t/\∀x,x∈t↔x∈l
theorem Krl {a b:Txt}(h:¬a<b) (h':¬b<a):a=b:=cQ (b9.1 h') (b9.1 h)
theorem Qfh {a b c:Txt}(h:a<=b) (h':b<c):a<c:=by
 by_cases e:a<c
 .exact e
 .have:=b9.1 e;exact jS h' (b9.2 (dc this h))
theorem Ksx {a b:Txt}(h:a<=b) (h':b≠a):a<b:=by
 by_cases e:a<b
 .exact e
 .exact jS (cQ (b9.1 e) h) h'
theorem Kzr:∀{t t':List Txt},Asc t->Asc t'->(∀x,x∈t↔x∈t')->t=t'
 | [],[],_,_,_=>rfl
 | [],b :: s',_,_,h=>by have:=(h b).2 (by simp);simp at this
 | a :: s,[],_,_,h=>by have:=(h a).1 (by simp);simp at this
 | a :: s,b :: s',h1,h2,h=>by
  have ha:=b6.1 h1;have hb:=b6.1 h2
  have aa:a=b:=by
   apply Krl
   .intro hlt;rcases b5.1 ((h a).1 (by simp)) with e | e
    .exact cA a (by rw[e]at hlt |-;exact hlt)
    .exact cD hlt (hb.1 a e)
   .intro hlt;rcases b5.1 ((h b).2 (by simp)) with e | e
    .exact cA b (by rw[e]at hlt |-;exact hlt)
    .exact cD hlt (ha.1 b e)
  subst aa;rw[Kzr ha.2 hb.2 fun x=>?_];constructor
  .intro hx;rcases b5.1 ((h x).1 (by simp[hx])) with e | e
   .subst e;exact jS (ha.1 x hx) (cA x)
   .exact e
  .intro hx;rcases b5.1 ((h x).2 (by simp[hx])) with e | e
   .subst e;exact jS (hb.1 x hx) (cA x)
   .exact e
theorem IsTab.one {l t t':List Txt}(h:IsTab l t) (h':IsTab l t'):t=t':=Kzr h.1 h'.1 fun x=>(h.2 x).trans (h'.2 x).symm
theorem Kkp (d:Array Txt) (hs:∀j,j+1<d.size->d[j]!<=d[j+1]!):∀m,m<=d.size->
  Asc (cn d m)/\(∀x,x∈cn d m↔∃j,j<m/\d[j]! = x)/\(0<m->∀x∈cn d m,x<=d[m - 1]!)
 | 0,_=>⟨List.Pairwise.nil,fun x=>by simp[cn],fun h=>by omega⟩
 | m+1,hm=>by
  obtain⟨h1,h2,h3⟩:=Kkp d hs m (by omega);rw[Lib.compactUpTo_succ]
  by_cases hk:m=0\/d[m]!≠d[m - 1]!
  .have ab:cy d m=true:=by
    rcases hk with rfl | h
    .simp[cy]
    .exact Lib.keeps_pos h
   rw[ab,jN rfl]
   have aa:∀x∈cn d m,x<d[m]!:=by
    intro x hx;rcases Nat.eq_zero_or_pos m with rfl | hp
    .simp[cn]at hx
    .have h4:=h3 hp x hx;have h5:=hs (m - 1) (by omega);rw[show m - 1+1=m by omega]at h5;exact Qfh h4 (Ksx h5 (by rcases hk with h | h;omega;exact h))
   refine⟨?_,fun x=>?_,fun _ x hx=>?_⟩
   .rw[Asc,List.pairwise_append];exact⟨h1,List.pairwise_singleton _ _,fun a ha b hb=>by rw[b7.1 hb];exact aa a ha⟩
   .rw[ch,h2,b7];constructor
    .rintro (⟨j,hj,e⟩ | e)
     .exact ⟨j,by omega,e⟩
     .exact ⟨m,by omega,e.symm⟩
    .rintro ⟨j,hj,e⟩
     by_cases hjm:j=m
     .subst hjm;exact .inr e.symm
     .exact .inl ⟨j,by omega,e⟩
   .rw[cM];rcases ch.1 hx with h | h
    .exact List.le_of_lt (aa x h)
    .rw[b7.1 h];exact List.le_refl _
  .have hm0:m≠0:=fun h=>hk (.inl h)
   have he:d[m]! = d[m - 1]!:=by apply dt;intro h;exact hk (.inr h)
   rw[Lib.keeps_neg (by omega) he];simp only[cN,if_false,cZ];refine⟨h1,fun x=>?_,fun _ x hx=>?_⟩
   .rw[h2];constructor
    .rintro ⟨j,hj,e⟩;exact⟨j,by omega,e⟩
    .rintro ⟨j,hj,e⟩
     by_cases hjm:j=m
     .subst hjm;exact⟨j - 1,by omega,by rw[<-he];exact e⟩
     .exact ⟨j,by omega,e⟩
   .rw[cM,he];exact h3 (by omega) x hx
theorem Qhi (l:List Txt):IsTab l (cx (l.mergeSort fun x y=>decide (x<=y))):=by
 obtain⟨z,hz⟩:=jF (l.mergeSort (fun x y=>decide (x<=y)))
 have aa:z.Pairwise (fun a b=>a<=b):=by have:=List.pairwise_mergeSort (le:=fun x y:Txt=>decide (x<=y)) (by intro a b c;simp;exact dc) (by intro a b;simp;exact List.le_total a b) l;rw[hz]at this;simpa using this
 have ac:∀x,x∈z↔x∈l:=by intro x;rw[<-hz];exact List.mem_mergeSort
 rw[hz];have ab:∀j,j<z.length->z.toArray[j]! = z[j]!:=fun j _=>by simp
 have hs:∀j,j+1<z.toArray.size->z.toArray[j]!<=z.toArray[j+1]!:=by
  intro j hj;have ad:j+1<z.length:=by simpa using hj
  rw[ab j (by omega),ab (j+1) ad,jI z j (by omega),jI z (j+1) ad];exact b4.1 aa j (j+1) (by omega) ad (by omega)
 obtain⟨h1,h2,_⟩:=Kkp z.toArray hs z.length (by simp);refine⟨h1,fun x=>?_⟩;rw[cx,h2,<-ac];constructor
 .rintro ⟨j,hj,e⟩;rw[ab j hj,jI z j hj]at e;rw[<-e];exact cB hj
 .intro hx;obtain⟨j,hj,e⟩:=List.getElem_of_mem hx;exact⟨j,hj,by rw[ab j hj,jI z j hj];exact e⟩
def below (t:List Txt) (s:Txt):Nat:=t.countP fun x=>decide (x<s)
theorem Knm (t:List Txt) (s:Txt):below t s<=t.length:=List.countP_le_length
theorem Keq:∀{t:List Txt}(_:Asc t) (s:Txt) (i:Nat) (h:i<t.length),(t[i]<s↔i<below t s)
 | a :: t,h,s,i,hi=>by
  have ha:=b6.1 h;unfold below;rw[List.countP_cons]
  by_cases has:a<s
  .simp only[has,decide_true,if_true]
   cases i with
   | zero=>simp[has]
   | succ i=>
    have ih:=Keq ha.2 s i (by simpa using hi);unfold below at ih;simp only[cE];rw[ih];omega
  .have hz:t.countP (fun x=>decide (x<s))=0:=by
    rw[List.countP_eq_zero];intro x hx;have:=ha.1 x hx;simp only[jH];intro hxs;exact has (cK this hxs)
   rw[hz];simp only[has,decide_false,cN,if_false,cG,Nat.not_lt_zero,iff_false]
   cases i with
   | zero=>exact has
   | succ i=>
    simp only[cE];intro hxs;exact has (cK (ha.1 _ (cB _)) hxs)
theorem Qfp {t:List Txt}(h:Asc t) {s:Txt}{i:Nat}(hi:t[i]? = some s):below t s=i:=by
 obtain⟨hl,e⟩:=b3.1 hi;have h1:=Keq h s i hl;rw[e]at h1;have h2:¬i<below t s:=fun hh=>cA s (h1.2 hh)
 apply Nat.le_antisymm (by
  apply dt
  intro hgt;exact h2 (by omega))
 apply dt;intro hlt;have hb:below t s<i:=by omega
 have h3:=Keq h s (below t s) (by omega)
 have h4:t[below t s]<s:=by have:=b4.1 h (below t s) i (by omega) hl hb;rw[e]at this;exact this
 have:=h3.1 h4;omega
def numR (t:List Txt) (s:Txt):Nat×Nat:=if t[below t s]? = some s then (below t s,0) else (0,50)
theorem Qft {t:List Txt}(h:Asc t) (s:Txt) (lt:Nat->Bool) (hlt:∀i (hi:i<t.length),lt i=decide (t[i]<s)) (hout:∀i,t.length<=i->lt i=false):cq lt t.length 0 t.length=below t s:=by
 apply Lib.bsGo_spec lt (below t s)
 .intro i hi;have hl:i<t.length:=Nat.lt_of_lt_of_le hi (Knm t s);rw[hlt i hl,jH];exact(Keq h s i hl).2 hi
 .intro i hi
  by_cases hl:i<t.length
  .rw[hlt i hl,jK];intro hh;have:=(Keq h s i hl).1 hh;omega
  .exact hout i (by omega)
 .omega
 .omega
 .exact Knm t s
def Qjf (b:UInt8):Bool:=decide (48<=b.toNat) && decide (b.toNat<=57)
def Qig (b:UInt8):Bool:=(decide (97<=b.toNat) && decide (b.toNat<=122)) || (decide (65<=b.toNat) && decide (b.toNat<=90))
def okB (d:Bool) (b:UInt8):Bool:=(d && Qjf b) || (b.toNat == 95) || Qig b
def allOk:Bool->List UInt8->Bool
 | _,[]=>true
 | d,b :: l=>okB d b && allOk true l
def fitN (s:Txt):Bool:=allOk false s && decide (1<=s.length) && decide (s.length<=32)
def fitV (s:Txt):Bool:=decide (1<=s.length) && decide (s.length<=64)
structure Lb where
 n:Txt
 v:Txt
instance:Inhabited Lb:=⟨⟨[],[]⟩⟩
def names (l:List Lb):List Txt:=l.map Lb.n
def Kcj:List Lb->List Lb->Nat
 | _,[]=>0
 | pre,x :: r=>if fitN x.n=false then 40 else if fitV x.v=false then 41 else if pre.any (fun y=>y.n == x.n) then 42 else Kcj (pre ++ [x]) r
def Kaw (l:List Lb):Nat:=if l.length=0 then 43 else if 8<l.length then 44 else Kcj [] l
def Kdn (l:List Lb):Nat:=if Kaw l≠0 then Kaw l else if (names l).Pairwise (· < ·) then 0 else 42
def labT (x:Lb):List UInt8:=textT x.n++textT x.v
def encL (l:List Lb):List UInt8:=uintT l.length++l.flatMap labT
def Kgd (l:List Lb):List UInt8:=if Kdn l=0 then encL l else []
theorem Kju:∀{pre l:List Lb},Kcj pre l=0->(∀x∈l,fitN x.n=true/\fitV x.v=true)
 | _,[],_=>by simp
 | pre,x :: r,h=>by
  rw[Kcj]at h
  split at h
  .omega
  .split at h
   .omega
   .split at h
    .omega
    .rename_i h1 h2 _
     have ih:=Kju h;intro y hy;rcases b5.1 hy with rfl | hy
     .exact ⟨by simpa using h1,by simpa using h2⟩
     .exact ih y hy
theorem Kki:∀{pre l:List Lb},Kcj pre l=0->(names l).Nodup/\∀x∈l,∀y∈pre,y.n≠x.n
 | _,[],_=>by simp[names]
 | pre,x :: r,h=>by
  rw[Kcj]at h
  split at h
  .omega
  .split at h
   .omega
   .split at h
    .omega
    .rename_i hany
     obtain⟨h1,h2⟩:=Kki h
     have hx:∀y∈pre,y.n≠x.n:=by intro y hy e;apply hany;rw[cR];exact⟨y,hy,by simp[e]⟩
     refine⟨?_,?_⟩
     .rw[names,List.map_cons,cj];refine⟨?_,h1⟩;intro hm;obtain⟨z,hz,e⟩:=List.mem_map.1 hm;exact h2 z hz x (by simp) e.symm
     .intro z hz y hy;rcases b5.1 hz with rfl | hz
      .exact hx y hy
      .exact h2 z hz y (by simp[hy])
theorem Kep {l:List Lb}(h:Kaw l=0):l.length≠0/\l.length<=8/\(∀x∈l,fitN x.n=true/\fitV x.v=true)/\(names l).Nodup:=by
 unfold Kaw at h
 split at h
 .omega
 .split at h
  .omega
  .exact ⟨by omega,by omega,Kju h,(Kki h).1⟩
theorem Qje (a b:Txt):cm a b<0↔a<b:=by
 induction a generalizing b with
 | nil=>
  cases b with
  | nil=>simp[cm]
  | cons y b=>simp[cm]
 | cons x a ih=>
  cases b with
  | nil=>simp[cm]
  | cons y b=>
   rw[cm,List.cons_lt_cons_iff]
   by_cases h1:x<y
   .simp[h1]
   .by_cases h2:y<x
    .simp only[h1,h2,if_true,if_false,false_or];constructor
     .intro h;omega
     .rintro ⟨rfl,_⟩;exact jS h2 h1
    .have e:x=y:=by
      apply UInt8.le_antisymm
      .exact cX.1 h2
      .exact cX.1 h1
     simp only[h1,h2,if_false,false_or];rw[ih];simp[e]
end
section
open Go.Shelf Go.RowKit
def bren:Go.Shelf.Ren:=⟨fun | 166=>40 | 167=>113 | 169=>48 | 240=>109 | 276=>168 | n=>n,fun | 0=>0 | 3=>3 | 4=>4 | 5=>5 | 9=>9 | 20=>20 | 37=>76 | 70=>107 | 72=>109 | 75=>111 | 76=>112 | 80=>114 | 127=>215 | 164=>263 | n=>n,fun n=>n⟩
theorem Qfr:dw prog bren:={
 mixed:=by kernel_rfl
 f166:=func40.trans (jR some (by kernel_rfl))
 f240:=func109.trans (jR some (by kernel_rfl))
 f276:=func168.trans (jR some (by kernel_rfl))
 t0:=underlying0
 a0:=isAgg0
 z0:=sizeOf0
 v0:=zeroValue0
 t3:=underlying3
 a3:=isAgg3
 z3:=sizeOf3
 v3:=zeroValue3
 t4:=underlying4
 a4:=isAgg4
 z4:=sizeOf4
 v4:=zeroValue4
 t9:=underlying9
 a9:=isAgg9
 z9:=sizeOf9
 v9:=zeroValue9
 t20:=underlying20
 a20:=isAgg20
 z20:=sizeOf20
 v20:=zeroValue20
 t37:=underlying76
 a37:=isAgg76
 z37:=sizeOf76
 v37:=zeroValue76
 t70:=underlying107
 a70:=isAgg107
 z70:=sizeOf107
 v70:=zeroValue107
 t72:=underlying109
 a72:=isAgg109
 z72:=sizeOf109
 v72:=zeroValue109
 t75:=underlying111
 a75:=isAgg111
 z75:=sizeOf111
 v75:=zeroValue111
 t164:=underlying263
 a164:=isAgg263
 z164:=sizeOf263
 v164:=zeroValue263 }
theorem Qfs:dx prog bren:={
 mixed:=by kernel_rfl
 f167:=func113.trans (jR some (by kernel_rfl))
 f240:=func109.trans (jR some (by kernel_rfl))
 f276:=func168.trans (jR some (by kernel_rfl))
 t0:=underlying0
 a0:=isAgg0
 z0:=sizeOf0
 v0:=zeroValue0
 t4:=underlying4
 a4:=isAgg4
 z4:=sizeOf4
 v4:=zeroValue4
 t5:=underlying5
 a5:=isAgg5
 z5:=sizeOf5
 v5:=zeroValue5
 t9:=underlying9
 a9:=isAgg9
 z9:=sizeOf9
 v9:=zeroValue9
 t20:=underlying20
 a20:=isAgg20
 z20:=sizeOf20
 v20:=zeroValue20
 t37:=underlying76
 a37:=isAgg76
 z37:=sizeOf76
 v37:=zeroValue76
 t70:=underlying107
 a70:=isAgg107
 z70:=sizeOf107
 v70:=zeroValue107
 t72:=underlying109
 a72:=isAgg109
 z72:=sizeOf109
 v72:=zeroValue109
 t75:=underlying111
 a75:=isAgg111
 z75:=sizeOf111
 v75:=zeroValue111
 t164:=underlying263
 a164:=isAgg263
 z164:=sizeOf263
 v164:=zeroValue263 }
theorem Knn:dy prog bren:={
 mixed:=by kernel_rfl
 f169:=func48.trans (jR some (by kernel_rfl))
 t0:=underlying0
 a0:=isAgg0
 z0:=sizeOf0
 v0:=zeroValue0
 t3:=underlying3
 a3:=isAgg3
 z3:=sizeOf3
 v3:=zeroValue3
 t9:=underlying9
 a9:=isAgg9
 z9:=sizeOf9
 v9:=zeroValue9
 t37:=underlying76
 a37:=isAgg76
 z37:=sizeOf76
 v37:=zeroValue76
 t70:=underlying107
 a70:=isAgg107
 z70:=sizeOf107
 v70:=zeroValue107
 t72:=underlying109
 a72:=isAgg109
 z72:=sizeOf109
 v72:=zeroValue109
 t127:=underlying215
 a127:=isAgg215
 z127:=sizeOf215
 v127:=zeroValue215 }
theorem Kum:dz prog bren:={
 mixed:=by kernel_rfl
 f240:=func109.trans (jR some (by kernel_rfl))
 f276:=func168.trans (jR some (by kernel_rfl))
 t0:=underlying0
 a0:=isAgg0
 z0:=sizeOf0
 v0:=zeroValue0
 t4:=underlying4
 a4:=isAgg4
 z4:=sizeOf4
 v4:=zeroValue4
 t9:=underlying9
 a9:=isAgg9
 z9:=sizeOf9
 v9:=zeroValue9
 t20:=underlying20
 a20:=isAgg20
 z20:=sizeOf20
 v20:=zeroValue20
 t70:=underlying107
 a70:=isAgg107
 z70:=sizeOf107
 v70:=zeroValue107
 t72:=underlying109
 a72:=isAgg109
 z72:=sizeOf109
 v72:=zeroValue109
 t164:=underlying263
 a164:=isAgg263
 z164:=sizeOf263
 v164:=zeroValue263 }
theorem Kgc:Builder.Extra prog bren:={
 sizeBuilder:=by kernel_rfl
 liesBuilder:=by kernel_rfl
 t5:=underlying5
 a5:=isAgg5
 z5:=sizeOf5
 v5:=zeroValue5
 infoByte:=by kernel_rfl
 cellsByte:=by kernel_rfl
 sizeByte:=by kernel_rfl
 neB5:=by decide }
def Bld (B b:Nat) (l:List UInt8) (w:World):Prop:=Lib.IsBuilderF 109 5 B b (cl l) w
def Kui (b:Nat) (w w':World):Prop:=Lib.OthersKept 5 (some b) w w'
theorem Kui.blk {b g:Nat}{t:TypeId}{cs:Array Value}{w w':World}(h:Kui b w w') (hg:Blk w g t cs) (hne:g≠b) (ht:t≠5):Blk w' g t cs:=
 h g _ hg (fun e=>hne (by injection e)) (fun c fz e=>by injection e with _ e2 _;exact ht e2)
theorem Bld.new {B:Nat}(w:World) (hB:B<=w.heap.size):Bld B w.heap.size [] (w.alloc (.cells #[.pointer none,.slice none 0 0] 109)):=
 .inl ⟨hB,.slice none 0 0,heap_alloc_new w _,World.ownsRowF_nil _ _ _ _,by simp[Value.ownBlock]⟩
theorem Bld.lt {B b:Nat}{l:List UInt8}{w:World}(h:Bld B b l w):b<w.heap.size:=by rcases h with ⟨_,v,hb,_⟩ | ⟨_,v,hb,_⟩ <;> exact Blk.lt hb
theorem Bld.below {B b:Nat}{l:List UInt8}{w w':World}(h:Bld B b l w) (hb:Below w.heap.size w w'):Bld B b l w':=by
 have aa:∀p,ct 109 5 B b p (cl l) w->ct 109 5 B b p (cl l) w':=by rintro p ⟨h1,v,h2,h3,h4⟩;refine⟨h1,v,(hb.block b (Blk.lt h2)).trans h2,h3.kept (row:=none) ⟨hb.os,hb.tape,hb.output,hb.size,fun k hk _=>hb.block k hk⟩ (by cases v.ownBlock <;> simp),h4⟩
 rcases h with h | h
 .exact .inl (aa _ h)
 .exact .inr (aa _ h)
theorem Knj (B b:Nat) (l:List UInt8) (c:UInt8) (w:World) (h:Bld B b l w) (hlen:l.length+1<=140737488355328) (hBw:B<=w.heap.size) :
  Calls prog 113 #[.pointer (some ⟨b,0,none⟩),.int .u8 c.toNat] w fun e w'=>e = .returned .nilIface/\Bld B b (l ++ [c]) w'/\Below B w w':=by
 refine(Any.Builder_WriteByte_k Qfs Kgc B b (cl l) c.toNat w h (by simpa[cl]using hlen) hBw).mono ?_;rintro e w' ⟨he,hb,hw,_⟩;refine⟨he,?_,hw⟩;have:cl (l ++ [c])=cl l ++ [.int .u8 c.toNat]:=by simp[cl]
 unfold Bld;rw[this];exact .inr hb
theorem Kaz (B b:Nat) (l:List UInt8) (s:ByteArray) (w:World) (h:Bld B b l w) (hlen:l.length+s.size<=140737488355328) (hBw:B<=w.heap.size) :
  Calls prog 40 #[.pointer (some ⟨b,0,none⟩),.string s] w fun e w'=>e = .returned (.tuple #[.int .i64 s.size,.nilIface])/\Bld B b (l++s.data.toList) w'/\Below B w w'/\Kui b w w':=by
 refine(Any.Builder_WriteString_k Qfr Kgc B b (cl l) s w h (by simpa[cl]using hlen) hBw).mono ?_;rintro e w' ⟨he,hb,hw,ho⟩;refine⟨he,?_,hw,ho⟩;have:cl (l++s.data.toList)=cl l++cv s:=by simp[cl,cv]
 unfold Bld;rw[this];exact .inr hb
theorem Kdv (B b:Nat) (l:List UInt8) (w:World) (h:Bld B b l w) (hBw:B<=w.heap.size) :
  Calls prog 48 #[.pointer (some ⟨b,0,none⟩)] w fun e w'=>e = .returned (.string ⟨l.toArray⟩)/\Below B w w':=
 (Any.Builder_String_any_k Knn Kgc B b l w h hBw).mono fun _ _ h=>⟨h.1,h.2.2.1⟩
end
section
open Go.RowKit
structure Later (w0:World) where
 w:World
 h:Below w0.heap.size w0 w
instance Later.some {w:World}:Nonempty (Later w):=⟨⟨w,Below.refl _ _⟩⟩
theorem Later.cell {w:World}(x:Later w) (b o:Nat) (hb:b<w.heap.size):x.w.cell? ⟨b,o,none⟩=w.cell? ⟨b,o,none⟩:=x.h.cell (p:=⟨b,o,none⟩) hb
theorem Kaj {P:Program}{f:FuncId}{args:Array Value}{w:World}(x:Later w) {v:Value}(h:Calls P f args x.w fun e w'=>e = .returned v/\Below x.w.heap.size x.w w') :
  Calls P f args x.w fun e w''=>e = .returned v/\∃y:Later w,w''=y.w:=
 h.mono fun _ w' ⟨he,hb⟩=>⟨he,⟨w',then_ x.h hb⟩,rfl⟩
theorem Kps {P:Program}{f:FuncId}{args:Array Value}{w:World}(x:Later w) {v:Value}(h:Calls P f args x.w fun e w'=>e = .returned v/\x.w=w') :
  Calls P f args x.w fun e w''=>e = .returned v/\∃y:Later w,w''=y.w:=
 h.mono fun _ _ ⟨he,hb⟩=>⟨he,x,hb.symm⟩
section
variable {P : Program}{ops : Array Oper}{md : de}{C : World -> Prop}
def Kmg (P:Program) (md:de) (ops:Array Oper) (C:World->Prop) (n:Nat) (L:Array Bool->Act->Prop):Nat->Array Bool->Act->Prop
 | 0,listed,a=>L listed a
 | f+1,listed,a=>
  cY md ops listed≠[]/\∀i∈cY md ops listed,i<n/\qOp P ops C i (Kmg P md ops C n L f (listed.setIfInBounds i true)) a
theorem Kqi {n g:Nat}{L:Array Bool->Act->Prop}{Q':Exit->Act->World->Prop}(hL:∀listed a w,C w->L listed a->wpAny P md ops Q' g listed a w) :
  ∀(f:Nat) (listed:Array Bool) (a:Act) (w:World),C w->Kmg P md ops C n L f listed a->wpAny P md ops Q' (f+g) listed a w
 | 0,listed,a,w,hw,h=>by rw[cG];exact hL _ _ _ hw h
 | f+1,listed,a,w,hw,h=>by rw[show f+1+g=(f+g)+1 by omega];exact⟨fun h0=>jS h0 h.1,fun i hi=>wpOp_of_qOp hw (fun a' w' hw' h'=>Kqi hL f _ a' w' hw' h') (h.2 i hi).2⟩
theorem Kxi {n i:Nat}{oi:Oper}{v:Value}{L:Array Bool->Act->Prop}(hi:ops[i]? = some oi) (hsel:∀(j:Nat) (o:Oper) cs b,ops[j]? = some o->o.op≠.select cs b)
  (hs:c9 md ops n=true) (hc:c8 md ops n=true) (hn:n<ops.size) (hin:i<n)
  (hdone:∀listed a,L listed a->∀j∈cY md ops listed,n<=j) :
  ∀(f:Nat) (listed:Array Bool) (a:Act),HeadInv md ops n listed->
   (∀j oj,ops[j]? = some oj->j≠i->listed.getD j true=false->(∀e∈oj.after,dd md e=true->e.on≠i)->oi.apart ops oj=true)->
   i∈cY md ops listed->YieldsIn P ops C oi v a->
   Kmg P md ops C n L f (listed.setIfInBounds i true) (a.put oi.dst v)->Kmg P md ops C n L (f+1) listed a:=by
 intro f
 induction f with
 | zero=>
  intro listed a inv _ hr hy H;refine⟨fun h=>(by rw[h]at hr;cases hr),fun j hj=>?_⟩;have ab:j<n:=cT fun h=>tail_waits hs hc hn inv _ i rfl hin (mem_ready.1 hr).1 j h hj
  refine⟨ab,?_⟩
  by_cases hji:j=i
  .subst hji;exact hy.qOp hi H
  .exact jS (hdone _ _ H j (ready_mono hj hji)) (by omega)
 | succ f ih=>
  intro listed a inv hfree hr hy H;refine⟨fun h=>(by rw[h]at hr;cases hr),fun j hj=>?_⟩;have ab:j<n:=cT fun h=>tail_waits hs hc hn inv _ i rfl hin (mem_ready.1 hr).1 j h hj
  refine⟨ab,?_⟩
  by_cases hji:j=i
  .subst hji;exact hy.qOp hi H
  obtain⟨aa,oj,ae,ad⟩:=mem_ready.1 hj
  have ac:∀e∈oj.after,dd md e=true->e.on≠i:=fun e he hb heq=>by have h1:=ad e he hb;rw[heq,getD_both (mem_ready.1 hr).1]at h1;cases h1
  have h2:=qOp_put ae (hfree j oj ae hji aa ac) (fun cs b=>hsel i oi cs b hi) (fun cs b=>hsel j oj cs b ae) hy (H.2 j (ready_mono hj hji)).2;refine qOp_mono (fun a' h3=>ih (listed.setIfInBounds j true) a' (inv.set hj ab) (fun k ok hk hki hun hno=>hfree k ok hk hki ?_ hno) (ready_mono hr (Ne.symm hji)) h3.1 ?_) h2
  .by_cases hjk:j=k
   .subst hjk;exact aa
   .rw[getD_set_ne true hjk]at hun;exact hun
  .rw[Array.setIfInBounds_comm _ _ hji];exact h3.2
theorem Kqg {n g:Nat}{Lq:Act->Prop}(hsel:Region.noSelect ops=true) (hs:c9 md ops n=true) (hc:c8 md ops n=true) (hn:n<ops.size) :
  ∀(l:List Oper) (k:Nat) (listed:Array Bool) (a:Act),(∀j,j<l.length->l[j]? = ops[k+j]?)->k+l.length=n->HeadInv md ops n listed->
  c7 md ops g l.length k listed=true->wpQuiet P ops C Lq l a->
  Kmg P md ops C n (fun listed' a'=>Region.seqB md ops g n listed'=true/\Lq a') l.length listed a
 | [],k,listed,a,_,hk,_,hB,h=>by
  have:k=n:=by simpa using hk
  subst this;exact⟨by simpa[c7]using hB,h⟩
 | o :: l,k,listed,a,hl,hk,inv,hB,h=>by
  have h0:ops[k]? = some o:=by simpa using (hl 0 (by simp)).symm
  simp only[ci,c7,bZ]at hB;obtain⟨⟨hr,hf⟩,ac⟩:=hB;have ab:k<n:=by simp only[ci]at hk;omega
  have aa:k∈cY md ops listed:=by simpa using hr
  have ad:qOp P ops C k (wpQuiet P ops C Lq l) a:=by unfold qOp;simp only[h0];exact h
  obtain⟨v,hy,hK⟩:=yieldsIn_of_qOp h0 ad
  exact Kxi h0 (Region.noSelect_spec hsel) hs hc hn ab (fun listed' a' hL=>seqB_ready hL.1) l.length listed a inv (Region.free_spec h0 hf) aa hy
   (Kqg hsel hs hc hn l (k+1) _ _ (fun j hj=>by have:=hl (j+1) (by simp;omega);simpa[dn,Nat.add_comm 1 j]using this) (by simp only[ci]at hk;omega) (inv.set aa ab) ac hK)
theorem Kfm {id:Nat}{Q:Exit->Act->World->Prop}{a:Act}{w:World}{l:List Oper}(n:Nat) (hm:P.follows .mixedOrders=true) (hB:c6 .any l.toArray n=true)
  (hC:C { w with drawn:=w.drawn+1 })
  (h:wpQuiet P l.toArray C (fun a'=>∀w',C w'->wpList P l.toArray Q (l.drop n) a' w') (l.take n) a):(Code.region id l.toArray true).wp P Q a w:=by
 simp only[c6,bZ,jH]at hB;obtain⟨⟨⟨⟨ab,hn⟩,hs⟩,hc⟩,ad⟩:=hB;have hn':n<l.length:=by simpa using hn
 have aa:(l.take n).length=n:=by simp;omega
 have ae:(l.drop n).length=l.toArray.size - n:=by simp
 have ac:HeadInv .any l.toArray n (Array.replicate l.toArray.size false):=
  ⟨by simp,fun j oj _ hl=>(by rw[getD_replicate_false]at hl;cases hl),fun t _ ht=>getD_in (by simpa using ht) (getD_replicate_false _ _)⟩
 have H:=Kqg (md:=.any) (g:=l.toArray.size - n) ab hs hc hn (l.take n) 0 _ a (fun j hj=>by
  have af:j<n:=by rw[aa]at hj;exact hj
  simp[af]) (by simpa using aa) ac (by rw[aa];exact ad) h
 refine wp_region_any hm ?_
 have:=Kqi (Q':=Q) (g:=l.toArray.size - n) (fun listed a' w' hw' hL=>by
  have:=wpAny_of_seq (md:=.any) (Q':=Q) (l.drop n) n listed a' w' (fun j=>by simp[cf]) (by rw[ae];exact hL.1) (hL.2 w' hw')
  rwa[ae]at this) _ _ _ _ hC H
 rw[aa,show n+(l.toArray.size - n)=l.toArray.size by omega]at this;exact this
theorem Kaa {id:Nat}{Q:Exit->Act->World->Prop}{a:Act}{w:World}{l:List Oper}(hm:P.follows .mixedOrders=true) (hB:Region.lexB .any l.toArray=true)
  (h:wpQuiet P l.toArray (fun w'=>∃x:Later w,w'=x.w) (fun a'=>∀w',(∃x:Later w,w'=x.w)->Q .normal a' w') l a):(Code.region id l.toArray true).wp P Q a w:=
 wp_region_quiet (C:=fun w'=>∃x:Later w,w'=x.w) hm hB ⟨⟨w.drew,(Below.refl _ _).drew⟩,rfl⟩ (by simpa using h)
theorem Kal {id:Nat}{Q:Exit->Act->World->Prop}{a:Act}{w:World}{l:List Oper}(n:Nat) (hm:P.follows .mixedOrders=true) (hB:c6 .any l.toArray n=true)
  (h:wpQuiet P l.toArray (fun w'=>∃x:Later w,w'=x.w) (fun a'=>∀w',(∃x:Later w,w'=x.w)->wpList P l.toArray Q (l.drop n) a' w') (l.take n) a):(Code.region id l.toArray true).wp P Q a w:=
 Kfm (C:=fun w'=>∃x:Later w,w'=x.w) n hm hB ⟨⟨w.drew,(Below.refl _ _).drew⟩,rfl⟩ h
end
end
section
open Go.RowKit
attribute [local go_sem ↓] Go.wp_at_zero Go.wp_at_succ
attribute [local go_sem] Later.cell
theorem or128 (g:Nat):bits .or .u8 ((g:Int) % 256) 128=((cF (g % 128+128)).toNat:Int):=by
 have aa:∀x:Fin 256,bits .or .u8 ((x.val:Nat):Int) 128=((x.val % 128+128:Nat):Int):=by decide +kernel
 have h:=aa ⟨g % 256,Nat.mod_lt _ (by omega)⟩;simp only at h;rw[show((g:Int) % 256)=((g % 256:Nat):Int) by omega,h];have:(cF (g % 128+128)).toNat=g % 128+128:=by simp[cS];omega
 rw[this];omega
theorem Kxe (B b:Nat) (l:List UInt8) (n:Nat) (w:World) (h:Bld B b l w) (hn:n<256) (hlen:l.length+1<=140737488355328) (hBw:B<=w.heap.size) :
  Calls prog 113 #[.pointer (some ⟨b,0,none⟩),.int .u8 n] w fun e w'=>e = .returned .nilIface/\Bld B b (l ++ [cF n]) w'/\Below B w w':=by
 have:=Knj B b l (cF n) w h hlen hBw;rw[show(cF n).toNat=n by simp[cS];omega]at this;exact this
theorem Kxc {l:List UInt8}{g v:Nat}(h:l++uintT g=uintT v) (hg:¬127<g):l ++ [cF g]=uintT v:=by rw[<-h,Qfi (by omega)]
theorem Ksz {l:List UInt8}{g v:Nat}(h:l++uintT g=uintT v) (hl:g<2 ^ 64) (hg:127<g):(l ++ [cF (g % 128+128)])++uintT (g / 128)=uintT v:=by rw[<-h,Qcp hl hg];simp
theorem Kav (v:Nat) (hv:v<2 ^ 64) (w:World) :
  Calls prog 42 #[.int .u64 v] w fun e w'=>e = .returned (.string ⟨(uintT v).toArray⟩)/\Below w.heap.size w w':=by
 go_enter func42,ntmps42
 go_upto_block 0 with fail
 have ab:Bld w.heap.size w.heap.size [] (w.alloc (.cells #[.pointer none,.slice none 0 0] 109)):=Bld.new w (cg _);have ae:Below w.heap.size w (w.alloc (.cells #[.pointer none,.slice none 0 0] 109)):=(Below.refl _ _).alloc (cg _) _;obtain⟨w0,hw⟩:=jF (w.alloc (.cells #[.pointer none,.slice none 0 0] 109));rw[hw]at ab ae |-;clear hw;obtain⟨b,hb⟩:=jF w.heap.size;rw[hb]at ab ae |-;have HB:=cp hb;clear hb;go_wp2_with fail
 go_loopg [0] v (fun g s0 wr=>∃l,s0 = .int .u64 (g:Nat)/\g<2 ^ 64/\l++uintT g=uintT v/\Bld b b l wr/\Below b w wr/\b<=wr.heap.size)
 case atStart=>exact⟨[],rfl,hv,rfl,ab,ae,by have:=ab.lt;omega⟩
 case round=>
  obtain⟨l,rfl,hg,hl,ag,af,ad⟩:=hrel
  have ah:l.length<=11:=by have:=jR ck hl;have h2:=Kab v;rw[b8]at this;omega
  have HL:=cp hl;clear hl
  by_cases h127:127<gk
  .go_wp2_with fail
   rw[or128];refine(Knj b b l _ _ ag (by omega) ad).mono ?_;rintro e w1 ⟨rfl,ac,aa⟩;go_wp2_with fail
   go_roundg (gk / 128)
   case measure=>omega
   case rel=>exact⟨_,by go_num,by omega,Ksz HL.out hg h127,ac,af.trans aa,dq ad aa.size⟩
  .go_wp2_with fail
   refine(Kxe b b l gk _ ag (by omega) (by omega) ad).mono ?_;rintro e w1 ⟨rfl,ac,aa⟩;rw[Kxc HL.out h127]at ac;go_wp2_with fail
   refine(Kdv b b _ _ ac (dq ad aa.size)).mono ?_;rintro e w2 ⟨rfl,ai⟩;go_wp2_with fail
   go_ret
   refine⟨rfl,?_⟩;rw[HB.out];exact(af.trans aa).trans ai
theorem Kai (s:ByteArray):s.data.toList.length=s.size:=rfl
theorem Qfa {a b:ByteArray}(h:a.data.toList=b.data.toList):a=b:=by
 cases a;cases b
 exact jR dh (Array.toList_inj.1 h)
theorem Kfk (s:ByteArray) (hs:s.size<=140737488351232) (w:World) :
  Calls prog 112 #[.string s] w fun e w'=>e = .returned (.string ⟨(textT s.data.toList).toArray⟩)/\Below w.heap.size w w':=by
 have hu:=Kav s.size (by omega) w;have hl:=Kab s.size;obtain⟨U,hU⟩:∃U:ByteArray,(⟨(uintT s.size).toArray⟩:ByteArray)=U:=⟨_,rfl⟩;have hUz:U.size<=11:=by rw[<-hU];simp only[di,cP];exact hl.2
 rw[hU]at hu;have HU:=cp hu;have aa:=cp hU;clear hu hU hl;go_enter func112,ntmps112
 go_wp2_with fail
 refine HU.out.mono ?_;rintro e w1 ⟨rfl,ab⟩;go_wp2_with fail
 go_ret
 refine⟨jR (fun s=>dA (dr s)) (Qfa ?_),ab⟩;rw[<-aa.out];simp[textT]
theorem Qid:(prog.info? 5).map (fun i=>(i.zero,i.size,i.bytes))=some (some (.int .u8 0),1,1):=by kernel_rfl
def Kcf (base:Nat) (w:World) (v:Value) (l:List UInt8):Prop:=w.ownsRow base 5 1 v l.length (cl l)
theorem Kcf.new (w:World):Kcf w.heap.size (w.alloc (.cells #[] 5)) (.slice (some ⟨w.heap.size,0,none⟩) 0 0) []:=
 ⟨rfl,.inr ⟨w.heap.size,0,#[],rfl,cg _,heap_alloc_new w _,cg _,by decide,rfl,rfl⟩⟩
theorem Kcf.push {base:Nat}{w:World}{v:Value}{l:List UInt8}{c:UInt8}{x:Int}(h:w.ownsRow base 5 1 v (l.length+1) (cl l ++ [.int .u8 x])) (hx:x=c.toNat):Kcf base w v (l ++ [c]):=by unfold Kcf;rw[b8,show cl (l ++ [c])=cl l ++ [.int .u8 x] by rw[hx];simp[cl]];exact h
theorem Kii {base e sz n:Nat}{w0 wr w1:World}{v:Value}{xs:List Value}{o:Obj}(hwr:Below base w0 wr) (hbs:base<=wr.heap.size) (hown:wr.ownsRow base e sz v n xs) (hg:(wr.alloc o).grownBy w1 v.ownBlock):Below base w0 w1:=
 hwr.trans ⟨hg.os,hg.tape,hg.output,by have:=hg.size;simp at this;omega,fun k hk=>(hg.block k (by simp;omega) (fun e=>by have:=(hown.lt k e.symm).1;omega)).trans (Below.heap_alloc _ _ _ (by omega))⟩
theorem Kcf.text {base:Nat}{w:World}{v:Value}{l:List UInt8}(h:Kcf base w v l) (h0:l≠[]):∃a cap,v = .slice (some a) l.length cap/\(convert 76 9 (.slice (some a) l.length cap)).run prog w = .ok (.string ⟨l.toArray⟩) w:=by
 rcases h.2 with ⟨_,hn⟩ | ⟨g,cap,cur,rfl,hb,hh,hnc,_,hsize,htk⟩
 .exact jS (cz hn) h0
 .refine ⟨⟨g,0,none⟩,cap,rfl,run_convert_bytes_back w _ _ 5 _ cap l underlying76 underlying5 underlying9 (fun j hj=>?_)⟩;rw[Addr.add_lit,cG,cell_of_row w g j cur 5 (0,0) hh];have e:(cl l)[j]? = some (.int .u8 (l[j].toNat:Int)):=by simp[cl,hj]
  rw[<-htk,cc]at e
  split at e
  .simpa using e
  .cases e
theorem Kdk (v:Nat) (hv:v<2 ^ 64) (w:World) :
  Calls prog 143 #[.int .u64 v] w fun e w'=>e = .returned (.string ⟨(uintT v).toArray⟩)/\Below w.heap.size w w':=by
 obtain⟨i0,ak,al,ah,aj⟩:=info_parts Qid;go_enter func143,ntmps143
 go_upto_block 0 with fail
 have ae:Kcf w.heap.size (w.alloc (.cells #[] 5)) (.slice (some ⟨w.heap.size,0,none⟩) 0 0) []:=Kcf.new w;have ac:Below w.heap.size w (w.alloc (.cells #[] 5)):=(Below.refl _ _).alloc (cg _) _;obtain⟨w0,hw⟩:=jF (w.alloc (.cells #[] 5));rw[hw]at ae ac |-;clear hw;obtain⟨b,hb⟩:=jF w.heap.size;rw[hb]at ae ac |-;have HB:=cp hb;have af:b<=w0.heap.size:=by rw[<-hb];exact ac.size
 clear hb;go_wp2_with fail
 go_loopg [0,3] v (fun g s0 s3 wr=>∃l,s0 = .int .u64 (g:Nat)/\g<2 ^ 64/\l++uintT g=uintT v/\Kcf b wr s3 l/\Below b w wr/\b<=wr.heap.size)
 case atStart=>exact⟨[],rfl,hv,rfl,ae,ac,af⟩
 case round=>
  obtain⟨l,rfl,hg,hl,ad,ai,am⟩:=hrel
  have ao:l.length<=11:=by have:=jR ck hl;have h2:=Kab v;rw[b8]at this;omega
  have HL:=cp hl;clear hl
  by_cases h127:127<gk
  .go_wp2_with (at_builtin;refine dE _ rfl _ _ 76 rfl b 5 i0 (.int .u8 0) 1 1 underlying76 ak al ah aj rfl (by decide) _ _ _ rfl (dC ad _) ⟨wr.heap.size,0,none⟩ 1 1 [.int .u8 ((gk:Int) % 128+128)] rfl rfl ?c1 ?c2 ?c3 ?c4 ?c5 ?_)
   case c1=>exact Kam (l:=[.int .u8 ((gk:Int) % 128+128)]) (Blk.new wr _ _)
   case c2=>intro u hu;rw[b7.1 hu];rfl
   case c3=>unfold maxLen;omega
   case c4=>omega
   case c5=>simp;omega
   intro v' w1 hown' hgrow hx1 hat
   have aa:Kcf b w1 v' (l ++ [cF (gk % 128+128)]):=Kcf.push hown' (by
    have:(cF (gk % 128+128)).toNat=gk % 128+128:=by simp[cS];omega
    rw[this];omega)
   have ag:Below b w w1:=Kii ai am ad hgrow;have ap:b<=w1.heap.size:=by have:=hgrow.size;simp at this;omega
   clear hown' hgrow hat hx1;go_wp2_with fail
   go_roundg (gk / 128)
   case measure=>omega
   case rel=>exact⟨_,by go_num,by omega,Ksz HL.out hg h127,aa,ag,ap⟩
  .go_wp2_with (at_builtin;refine dE _ rfl _ _ 76 rfl b 5 i0 (.int .u8 0) 1 1 underlying76 ak al ah aj rfl (by decide) _ _ _ rfl (dC ad _) ⟨wr.heap.size,0,none⟩ 1 1 [.int .u8 (gk:Int)] rfl rfl ?d1 ?d2 ?d3 ?d4 ?d5 ?_)
   case d1=>exact Kam (l:=[.int .u8 (gk:Int)]) (Blk.new wr _ _)
   case d2=>intro u hu;rw[b7.1 hu];rfl
   case d3=>unfold maxLen;omega
   case d4=>omega
   case d5=>simp;omega
   intro v' w1 hown' hgrow hx1 hat
   have aa:Kcf b w1 v' (l ++ [cF gk]):=Kcf.push hown' (by
    have:(cF gk).toNat=gk:=by simp[cS];omega
    rw[this])
   rw[Kxc HL.out h127]at aa;have ag:Below b w w1:=Kii ai am ad hgrow;obtain⟨a,cap,rfl,ab⟩:=aa.text (by intro e;have:=Kab v;rw[e]at this;simp at this);obtain⟨nu,an⟩:=jF ((uintT v).length);rw[an]at ab |-;clear hown' hgrow hat an aa hx1;go_wp2_with fail
   go_ret
   refine⟨rfl,?_⟩;rw[HB.out];exact ag
theorem Qdl {s:ByteArray}{i:Nat}(h:i<s.size):s.data.toList.drop i=s[i] :: s.data.toList.drop (i+1):=by rw[co (by simpa using h)];rfl
end
section
open Go.RowKit
open Lib renaming hid -> Jh
attribute [local go_sem ↓] Go.wp_at_zero Go.wp_at_succ
attribute [local go_sem] Later.cell
theorem Qio (d:Bool) (b:UInt8):okB d b=((d && (decide ((48:Int)<=(b.toNat:Int)) && decide ((b.toNat:Int)<=57))) || !(((b.toNat:Int) != 95) && (decide (bits .or .u8 (b.toNat:Int) 32<97) || decide (122<bits .or .u8 (b.toNat:Int) 32)))):=by
 have aa:∀(x:Fin 256) (d:Bool),okB d (cF x.val)=((d && (decide ((48:Int)<=(x.val:Int)) && decide ((x.val:Int)<=57))) || !(((x.val:Int) != 95) && (decide (bits .or .u8 (x.val:Int) 32<97) || decide (122<bits .or .u8 (x.val:Int) 32)))):=by decide +kernel
 have h:=aa ⟨b.toNat,cV b⟩ d;simp only[cW]at h;exact h
theorem Qji (d:Bool) (b:UInt8):okB d b=((((decide ((97:Int)<=(b.toNat:Int)) && decide ((b.toNat:Int)<=122)) || (decide ((65:Int)<=(b.toNat:Int)) && decide ((b.toNat:Int)<=90))) || ((b.toNat:Int) == 95)) || ((decide ((48:Int)<=(b.toNat:Int)) && decide ((b.toNat:Int)<=57)) && d)):=by
 have aa:∀(x:Fin 256) (d:Bool),okB d (cF x.val)=((((decide ((97:Int)<=(x.val:Int)) && decide ((x.val:Int)<=122)) || (decide ((65:Int)<=(x.val:Int)) && decide ((x.val:Int)<=90))) || ((x.val:Int) == 95)) || ((decide ((48:Int)<=(x.val:Int)) && decide ((x.val:Int)<=57)) && d)):=by decide +kernel
 have h:=aa ⟨b.toNat,cV b⟩ d;simp only[cW]at h;exact h
theorem Kgs (s:ByteArray):s.toList.isEmpty=decide (s.size=0):=by
 rw[df,cr];simp only[List.isEmpty_iff,jH];rw[<-Kai];constructor
 .intro h;rw[h];rfl
 .intro h;exact cz h
theorem Koj {s:ByteArray}{i:Nat}(h:i<s.size) {R:Bool}(hr:allOk (decide (0<i)) (s.data.toList.drop i)=R):(okB (decide (0<i)) s[i] && allOk (decide (0<i+1)) (s.data.toList.drop (i+1)))=R:=by rw[Qdl h,allOk]at hr;simpa using hr
theorem Ktj (s:ByteArray) (r:Bool) (hr:fitN s.data.toList=r) (hs:s.size<=140737488351232) (w:World) :
  Calls prog 191 #[.string s] w fun e w'=>e = .returned (.bool r)/\w=w':=by
 obtain⟨R,hR⟩:=jF (allOk false s.data.toList);have ad:(R && (decide (1<=s.size) && decide (s.size<=32)))=r:=by rw[<-hr,<-hR,fitN,Kai,db]
 have av:=Jh ad;have HR:=Jh hR;clear hr ad hR;go_enter func191,ntmps191
 go_upto_block 0 with fail
 go_cut [] (fun wz=>wz=w/\R=true)
 case first=>
  go_wp2_with fail
  go_loopg [7] s.size (fun g s7 wr=>wr=w/\∃i:Nat,i+g=s.size/\s7 = .int .i64 (i:Int)/\allOk (decide (0<i)) (s.data.toList.drop i)=R)
  case atStart=>exact⟨rfl,0,by omega,rfl,by simpa using HR.out⟩
  case round=>
   obtain⟨rfl,i,az,rfl,af⟩:=hrel;obtain⟨w,rfl⟩:=jG wr;have am:=Jh az;have ah:=Jh af;clear az af
   by_cases hi:i<s.size
   .have ab:=Koj hi ah.out;obtain⟨b,hb⟩:=jF (s[i]);have hbl:=cV b;rw[hb,Qio]at ab;obtain⟨ao,ay⟩:=jF (decide ((48:Int)<=(b.toNat:Int)));obtain⟨an,aw⟩:=jF (decide ((b.toNat:Int)<=57));obtain⟨x0,h0⟩:=jF (decide (0<i));obtain⟨aq,aB⟩:=jF ((b.toNat:Int) != 95);obtain⟨xa,ha⟩:=jF (decide (bits .or .u8 (b.toNat:Int) 32<97));obtain⟨xz,hz⟩:=jF (decide (122<bits .or .u8 (b.toNat:Int) 32));rw[ay,aw,h0,aB,ha,hz]at ab;have ax:=Jh ab;have H0:=Jh h0;clear ab;have el:decide ((i:Int)<(s.size:Int))=true:=by simp;omega
    have el':decide (i<s.size)=true:=by simp;omega
    go_upto_region 5 with fail
    clear hb;go_cut [13] (fun s13 wz=>s13 = .bool (ao && an)/\wz=w)
    case first=>
     cases ao <;> cases an
     all_goals
      go_wp2_with fail
      go_meet
      exact⟨rfl,rfl⟩
    case rest=>
     obtain⟨rfl,rfl⟩:=hcut;obtain⟨w,rfl⟩:=jG wc;obtain⟨dg,ar⟩:=jF (ao && an);have ab:=ax.out;rw[ar]at ab |-;have ac:=Jh ab;clear ax ab ar ay aw;obtain⟨ap,aa⟩:=jF (x0 && dg)
     cases ap with
     | true=>
      obtain⟨rfl,rfl⟩:x0=true/\dg=true:=by simpa using aa
      clear aa;go_wp2_with fail
      go_roundg (gk - 1)
      case measure=>have:=am.out;omega
      case rel=>exact⟨rfl,i+1,by have:=am.out;omega,by go_num,by have:=ac.out;simpa using this⟩
     | false=>
      have ab:=ac.out;rw[aa]at ab;have ai:=Jh ab;clear ab ac;cases dg <;> cases x0
      case true.true=>simp at aa
      all_goals
       clear aa;go_upto_region 7 with fail
       go_cut [33] (fun s33 wz=>s33 = .bool (aq && (xa || xz))/\wz=w)
       case first=>
        cases aq <;> cases xa <;> cases xz
        all_goals
         go_wp2_with fail
         go_meet
         exact⟨rfl,rfl⟩
       case rest=>
        obtain⟨rfl,rfl⟩:=hcut;obtain⟨w,rfl⟩:=jG wc;obtain⟨aD,al⟩:=jF (aq && (xa || xz));have ab:=ai.out;rw[al]at ab |-;have aj:=Jh ab;clear ab ai al
        cases aD with
        | true=>
         have aA:R=false:=by have:=aj.out;simpa using this.symm
         have ak:r=false:=by rw[<-av.out,aA];rfl
         subst ak;clear aA;go_wp2_with fail
         go_ret
         exact⟨rfl,rfl⟩
        | false=>
         go_wp2_with fail
         go_roundg (gk - 1)
         case measure=>have:=am.out;omega
         case rel=>exact⟨rfl,i+1,by have:=am.out;omega,by go_num,by have:=aj.out;simpa using this⟩
   .have ag:R=true:=by
     have:=ah.out;rw[ce (by rw[Kai];omega),allOk]at this;exact this.symm
    have aC:=Jh ag;clear ag;go_wp2_with fail
    go_meet
    exact⟨rfl,aC.out⟩
 case rest=>
  obtain⟨rfl,ag⟩:=hcut;obtain⟨w,rfl⟩:=jG wc;have ad:=av.out;rw[ag,cL]at ad;have ae:=Jh ad;clear ad ag
  by_cases h0:s.size=0
  .have hE:s.toList.isEmpty=true:=by rw[Kgs];simp[h0]
   have hL:s.toList = []:=by simpa using hE
   have ak:r=false:=by rw[<-ae.out,h0];rfl
   subst ak;clear h0;go_wp2_with fail
   go_ret
   exact⟨rfl,rfl⟩
  .have hE:s.toList.isEmpty=false:=by rw[Kgs];simp[h0]
   obtain⟨x,hx⟩:=jF (decide ((s.size:Int)<=32))
   have ak:r=x:=by rw[<-ae.out,<-hx,cr];simp only[bZ,jH];omega
   subst ak;clear h0;go_wp2_with fail
   go_ret
   exact⟨rfl,rfl⟩
theorem Kqr (s:ByteArray) (r:Bool) (hr:fitV s.data.toList=r) (hs:s.size<=140737488351232) (w:World) :
  Calls prog 192 #[.string s] w fun e w'=>e = .returned (.bool r)/\w=w':=by
 have ac:(decide (1<=s.size) && decide (s.size<=64))=r:=by rw[<-hr,fitV,Kai]
 have aa:=Jh ac;clear hr ac
 by_cases h0:s.size=0
 .have hE:s.toList.isEmpty=true:=by rw[Kgs];simp[h0]
  have hL:s.toList = []:=by simpa using hE
  have ab:r=false:=by rw[<-aa.out,h0];rfl
  subst ab;clear h0;go_enter func192,ntmps192
  go_wp2_with fail
  go_ret
  exact⟨rfl,rfl⟩
 .have hE:s.toList.isEmpty=false:=by rw[Kgs];simp[h0]
  obtain⟨x,hx⟩:=jF (decide ((s.size:Int)<=64))
  have ab:r=x:=by rw[<-aa.out,<-hx,cr];simp only[bZ,jH];omega
  subst ab;clear h0;go_enter func192,ntmps192
  go_wp2_with fail
  go_ret
  exact⟨rfl,rfl⟩
theorem Kpt (s:ByteArray) (r:Bool) (hr:fitV s.data.toList=r) (hs:s.size<=140737488351232) (w:World) :
  Calls prog 184 #[.string s] w fun e w'=>e = .returned (.bool r)/\w=w':=by
 have aa:(decide (1<=s.size) && decide (s.size<=64))=r:=by rw[<-hr,fitV,Kai]
 obtain⟨x1,h1⟩:=jF (decide ((1:Int)<=(s.size:Int)));obtain⟨x2,h2⟩:=jF (decide ((s.size:Int)<=64))
 have ab:(x1 && x2)=r:=by rw[<-aa,<-h1,<-h2,cr];simp only[bZ,jH];omega
 subst ab;have h1':decide (1<=s.size)=x1:=by rw[<-h1,decide_eq_decide];omega
 clear hr aa;cases x1 <;> cases x2
 all_goals
  go_enter func184,ntmps184
  go_wp2_with fail
  go_ret
  exact⟨rfl,rfl⟩
theorem Kra (s:ByteArray) (r:Bool) (hr:fitN s.data.toList=r) (hs:s.size<=140737488351232) (w:World) :
  Calls prog 183 #[.string s] w fun e w'=>e = .returned (.bool r)/\w=w':=by
 obtain⟨R,hR⟩:=jF (allOk false s.data.toList);have ac:(R && (decide (1<=s.size) && decide (s.size<=32)))=r:=by rw[<-hr,<-hR,fitN,Kai,db]
 have az:=Jh ac;have HR:=Jh hR;clear hr ac hR;go_enter func183,ntmps183
 go_upto_block 0 with fail
 go_cut [] (fun wz=>wz=w/\R=true)
 case first=>
  go_wp2_with fail
  go_loopg [3] s.size (fun g s3 wr=>wr=w/\∃i:Nat,i+g=s.size/\s3 = .int .i64 (i:Int)/\allOk (decide (0<i)) (s.data.toList.drop i)=R)
  case atStart=>exact⟨rfl,0,by omega,rfl,by simpa using HR.out⟩
  case round=>
   obtain⟨rfl,i,aG,rfl,af⟩:=hrel;obtain⟨w,rfl⟩:=jG wr;have aE:=Jh aG;have ah:=Jh af;clear aG af
   by_cases hi:i<s.size
   .have aa:=Koj hi ah.out;obtain⟨b,hb⟩:=jF (s[i]);have hbl:=cV b;rw[hb,Qji]at aa;obtain⟨aq,aH⟩:=jF (decide ((97:Int)<=(b.toNat:Int)));obtain⟨ab,ae⟩:=jF (decide ((b.toNat:Int)<=122));obtain⟨al,ay⟩:=jF (decide ((65:Int)<=(b.toNat:Int)));obtain⟨ap,aF⟩:=jF (decide ((b.toNat:Int)<=90));obtain⟨av,aA⟩:=jF ((b.toNat:Int) == 95);obtain⟨an,ar⟩:=jF (decide ((48:Int)<=(b.toNat:Int)));obtain⟨am,ao⟩:=jF (decide ((b.toNat:Int)<=57));obtain⟨x0,h0⟩:=jF (decide (0<i));rw[aH,ae,ay,aF,aA,ar,ao,h0]at aa;have aB:=Jh aa
    have aD:((i:Int) == 0) = !x0:=by rw[<-h0,cr];simp
    have H0:=Jh h0;clear aa;have el:decide ((i:Int)<(s.size:Int))=true:=by simp;omega
    have el':decide (i<s.size)=true:=by simp;omega
    go_upto_region 5 with fail
    clear hb;go_cut [5] (fun s5 wz=>s5 = .bool (((aq && ab) || (al && ap)) || av)/\wz=w)
    case first=>
     clear ar ao h0 aD;cases aq <;> cases ab <;> cases al <;> cases ap <;> cases av
     all_goals
      go_wp2_with fail
      go_meet
      exact⟨rfl,rfl⟩
    case rest=>
     obtain⟨rfl,rfl⟩:=hcut;obtain⟨w,rfl⟩:=jG wc;obtain⟨lt,ax⟩:=jF ((((aq && ab) || (al && ap)) || av));have aa:=aB.out;rw[ax]at aa |-;have ad:=Jh aa;clear aB aa ax aH ae ay aF aA;go_upto_region 6 with fail
     go_cut [6] (fun s6 wz=>s6 = .bool (an && am)/\wz=w)
     case first=>
      cases an <;> cases am
      all_goals
       go_wp2_with fail
       go_meet
       exact⟨rfl,rfl⟩
     case rest=>
      obtain⟨rfl,rfl⟩:=hcut;obtain⟨w,rfl⟩:=jG wc;obtain⟨dg,aw⟩:=jF (an && am);have aa:=ad.out;rw[aw]at aa |-;have ai:=Jh aa;clear ad aa aw ar ao;go_upto_region 7 with fail
      go_cut [49] (fun s49 wz=>s49 = .bool (!(lt || (dg && x0)))/\wz=w)
      case first=>
       cases lt <;> cases dg <;> cases x0
       all_goals
        go_wp2_with fail
        go_meet
        exact⟨rfl,rfl⟩
      case rest=>
       obtain⟨rfl,rfl⟩:=hcut;obtain⟨w,rfl⟩:=jG wc;obtain⟨ok,aC⟩:=jF (lt || (dg && x0));have aa:=ai.out;rw[aC]at aa |-;have aj:=Jh aa;clear ai aa aC h0 aD
       cases ok with
       | false=>
        have aI:R=false:=by have:=aj.out;simpa using this.symm
        have ak:r=false:=by rw[<-az.out,aI];rfl
        subst ak;clear aI;go_wp2_with fail
        go_ret
        exact⟨rfl,rfl⟩
       | true=>
        go_wp2_with fail
        go_roundg (gk - 1)
        case measure=>have:=aE.out;omega
        case rel=>exact⟨rfl,i+1,by have:=aE.out;omega,by go_num,by have:=aj.out;simpa using this⟩
   .have ag:R=true:=by
     have:=ah.out;rw[ce (by rw[Kai];omega),allOk]at this;exact this.symm
    have aJ:=Jh ag;clear ag;go_wp2_with fail
    go_meet
    exact⟨rfl,aJ.out⟩
 case rest=>
  obtain⟨rfl,ag⟩:=hcut;obtain⟨w,rfl⟩:=jG wc;have ac:=az.out;rw[ag,cL]at ac;obtain⟨x1,h1⟩:=jF (decide ((1:Int)<=(s.size:Int)));obtain⟨x2,h2⟩:=jF (decide ((s.size:Int)<=32))
  have ak:r=(x1 && x2):=by rw[<-ac,<-h1,<-h2,cr];simp only[bZ,jH];omega
  have h1':decide (1<=s.size)=x1:=by rw[<-h1,decide_eq_decide];omega
  have aK:=Jh ak;clear ac ag ak;cases x1 <;> cases x2
  all_goals
   go_wp2_with fail
   go_ret
   exact⟨Qgx (by rw[aK.out];rfl),rfl⟩
end
end Go.Proofs.YtdoiekknhnbepaaGreatDoor
namespace Go.Proofs
open Go.Shelf
def Tryz.lays125_ren:Go.Shelf.Ren:=⟨fun | 125=>174 | 128=>211 | 129=>212 | n=>n,fun | 46=>200 | 3=>3 | 51=>74 | 53=>100 | 4=>4 | 5=>5 | 9=>9 | n=>n,fun | n=>n⟩
theorem Tryz.lays125:Go.Proofs.Lays.n125 Tryz.prog Tryz.lays125_ren:={
 mixed:=by kernel_rfl
 f125:=Tryz.func174.trans (congrArg some (by kernel_rfl))
 f128:=Tryz.func211.trans (congrArg some (by kernel_rfl))
 f129:=Tryz.func212.trans (congrArg some (by kernel_rfl))
 t3:=Tryz.underlying3
 a3:=Tryz.isAgg3
 z3:=Tryz.sizeOf3
 v3:=Tryz.zeroValue3
 t4:=Tryz.underlying4
 a4:=Tryz.isAgg4
 z4:=Tryz.sizeOf4
 v4:=Tryz.zeroValue4
 t5:=Tryz.underlying5
 a5:=Tryz.isAgg5
 z5:=Tryz.sizeOf5
 v5:=Tryz.zeroValue5
 t9:=Tryz.underlying9
 a9:=Tryz.isAgg9
 z9:=Tryz.sizeOf9
 v9:=Tryz.zeroValue9
 t46:=Tryz.underlying200
 a46:=Tryz.isAgg200
 z46:=Tryz.sizeOf200
 v46:=Tryz.zeroValue200
 t51:=Tryz.underlying74
 a51:=Tryz.isAgg74
 z51:=Tryz.sizeOf74
 v51:=Tryz.zeroValue74
 t53:=Tryz.underlying100
 a53:=Tryz.isAgg100
 z53:=Tryz.sizeOf100
 v53:=Tryz.zeroValue100 }
theorem Tryz.bits_Len (x:Int) (w:World) (h0:0<=x) (h1:x<=18446744073709551615) :
  Calls Tryz.prog 174 #[.int .u64 x] w fun e w'=>e = .returned (.int .i64 (Lib.bitLen x.toNat))/\w'=w:=Any.bits_Len Tryz.lays125 x w h0 h1
def Tryz.lays134_ren:Go.Shelf.Ren:=⟨fun | 134=>244 | 129=>212 | n=>n,fun | 53=>100 | 3=>3 | 4=>4 | 46=>200 | 5=>5 | 9=>9 | n=>n,fun | n=>n⟩
theorem Tryz.lays134:Go.Proofs.Lays.n134 Tryz.prog Tryz.lays134_ren:={
 mixed:=by kernel_rfl
 f129:=Tryz.func212.trans (congrArg some (by kernel_rfl))
 f134:=Tryz.func244.trans (congrArg some (by kernel_rfl))
 t3:=Tryz.underlying3
 a3:=Tryz.isAgg3
 z3:=Tryz.sizeOf3
 v3:=Tryz.zeroValue3
 t4:=Tryz.underlying4
 a4:=Tryz.isAgg4
 z4:=Tryz.sizeOf4
 v4:=Tryz.zeroValue4
 t5:=Tryz.underlying5
 a5:=Tryz.isAgg5
 z5:=Tryz.sizeOf5
 v5:=Tryz.zeroValue5
 t9:=Tryz.underlying9
 a9:=Tryz.isAgg9
 z9:=Tryz.sizeOf9
 v9:=Tryz.zeroValue9
 t46:=Tryz.underlying200
 a46:=Tryz.isAgg200
 z46:=Tryz.sizeOf200
 v46:=Tryz.zeroValue200
 t53:=Tryz.underlying100
 a53:=Tryz.isAgg100
 z53:=Tryz.sizeOf100
 v53:=Tryz.zeroValue100 }
theorem Tryz.bits_LeadingZeros64 (x:Int) (w:World) (h0:0<=x) (h1:x<=18446744073709551615) :
  Calls Tryz.prog 244 #[.int .u64 x] w fun e w'=>e = .returned (.int .i64 (64 - (Lib.bitLen x.toNat:Int)))/\w'=w:=Any.bits_LeadingZeros64 Tryz.lays134 x w h0 h1
def Tryz.lays213_ren:Go.Shelf.Ren:=⟨fun | 213=>179 | 265=>223 | n=>n,fun | 9=>9 | 3=>3 | n=>n,fun | n=>n⟩
def Tryz.lays106_ren:Go.Shelf.Ren:=⟨fun | 106=>131 | 213=>179 | 265=>223 | n=>n,fun | 9=>9 | 3=>3 | n=>n,fun | n=>n⟩
theorem Tryz.lays106:Go.Proofs.Lays.n106 Tryz.prog Tryz.lays106_ren:={
 mixed:=by kernel_rfl
 f106:=Tryz.func131.trans (congrArg some (by kernel_rfl))
 f213:=Tryz.func179.trans (congrArg some (by kernel_rfl))
 f265:=Tryz.func223.trans (congrArg some (by kernel_rfl))
 t3:=Tryz.underlying3
 a3:=Tryz.isAgg3
 z3:=Tryz.sizeOf3
 v3:=Tryz.zeroValue3
 t9:=Tryz.underlying9
 a9:=Tryz.isAgg9
 z9:=Tryz.sizeOf9
 v9:=Tryz.zeroValue9 }
open Go.RowKit in
theorem Tryz.strings_Compare (a b:ByteArray) (w:World) :
  Calls Tryz.prog 131 #[.string a,.string b] w fun e w'=>e = .returned (.int .i64 (Lib.compareBytes a.data.toList b.data.toList))/\w'=w:=Any.strings_Compare Tryz.lays106 a b w
def Tryz.laysSlM5_f124_ren:Go.Shelf.Ren:=⟨fun | 5=>124 | 8=>174 | 7=>176 | 19=>211 | 20=>212 | 10=>213 | 11=>214 | 12=>215 | 13=>216 | 14=>217 | 15=>218 | 16=>219 | 17=>220 | 18=>221 | 30=>251 | 31=>247 | 32=>248 | 33=>252 | 34=>253 | 35=>181 | 40=>262 | n=>n,fun | 23=>125 | 25=>2 | 3=>3 | 32=>200 | 22=>125 | 0=>0 | 44=>74 | 46=>100 | 4=>4 | 36=>303 | 35=>302 | 41=>265 | 5=>5 | 9=>9 | 53=>337 | 57=>340 | 63=>349 | 64=>350 | n=>n,fun | n=>n⟩
theorem Tryz.laysSlM5_f124:Go.Proofs.SlLaysM.n5 Tryz.prog Tryz.laysSlM5_f124_ren:={
 mixed:=by kernel_rfl
 f5:=⟨Tryz.f124.name,by decide,Tryz.func124.trans (congrArg some (by kernel_rfl))⟩
 f7:=⟨Tryz.f176.name,by decide,Tryz.func176.trans (congrArg some (by kernel_rfl))⟩
 f8:=Tryz.func174.trans (congrArg some (by kernel_rfl))
 f10:=⟨Tryz.f213.name,by decide,Tryz.func213.trans (congrArg some (by kernel_rfl))⟩
 f11:=⟨Tryz.f214.name,by decide,Tryz.func214.trans (congrArg some (by kernel_rfl))⟩
 f12:=⟨Tryz.f215.name,by decide,Tryz.func215.trans (congrArg some (by kernel_rfl))⟩
 f13:=⟨Tryz.f216.name,by decide,Tryz.func216.trans (congrArg some (by kernel_rfl))⟩
 f14:=⟨Tryz.f217.name,by decide,Tryz.func217.trans (congrArg some (by kernel_rfl))⟩
 f15:=⟨Tryz.f218.name,by decide,Tryz.func218.trans (congrArg some (by kernel_rfl))⟩
 f16:=⟨Tryz.f219.name,by decide,Tryz.func219.trans (congrArg some (by kernel_rfl))⟩
 f17:=⟨Tryz.f220.name,by decide,Tryz.func220.trans (congrArg some (by kernel_rfl))⟩
 f18:=⟨Tryz.f221.name,by decide,Tryz.func221.trans (congrArg some (by kernel_rfl))⟩
 f19:=Tryz.func211.trans (congrArg some (by kernel_rfl))
 f20:=Tryz.func212.trans (congrArg some (by kernel_rfl))
 f30:=⟨Tryz.f251.name,by decide,Tryz.func251.trans (congrArg some (by kernel_rfl))⟩
 f31:=Tryz.func247.trans (congrArg some (by kernel_rfl))
 f32:=Tryz.func248.trans (congrArg some (by kernel_rfl))
 f33:=⟨Tryz.f252.name,by decide,Tryz.func252.trans (congrArg some (by kernel_rfl))⟩
 f34:=⟨Tryz.f253.name,by decide,Tryz.func253.trans (congrArg some (by kernel_rfl))⟩
 f35:=⟨Tryz.f181.name,by decide,Tryz.func181.trans (congrArg some (by kernel_rfl))⟩
 f40:=⟨Tryz.f262.name,by decide,Tryz.func262.trans (congrArg some (by kernel_rfl))⟩
 t0:=Tryz.underlying0
 a0:=Tryz.isAgg0
 z0:=Tryz.sizeOf0
 v0:=Tryz.zeroValue0
 t3:=Tryz.underlying3
 a3:=Tryz.isAgg3
 z3:=Tryz.sizeOf3
 v3:=Tryz.zeroValue3
 t4:=Tryz.underlying4
 a4:=Tryz.isAgg4
 z4:=Tryz.sizeOf4
 v4:=Tryz.zeroValue4
 t5:=Tryz.underlying5
 a5:=Tryz.isAgg5
 z5:=Tryz.sizeOf5
 v5:=Tryz.zeroValue5
 t9:=Tryz.underlying9
 a9:=Tryz.isAgg9
 z9:=Tryz.sizeOf9
 v9:=Tryz.zeroValue9
 t22:=Tryz.underlying125
 a22:=Tryz.isAgg125
 z22:=Tryz.sizeOf125
 v22:=Tryz.zeroValue125
 t23:=Tryz.underlying125
 a23:=Tryz.isAgg125
 z23:=Tryz.sizeOf125
 v23:=Tryz.zeroValue125
 t25:=Tryz.underlying2
 a25:=Tryz.isAgg2
 z25:=Tryz.sizeOf2
 v25:=Tryz.zeroValue2
 t32:=Tryz.underlying200
 a32:=Tryz.isAgg200
 z32:=Tryz.sizeOf200
 v32:=Tryz.zeroValue200
 t35:=Tryz.underlying302
 a35:=Tryz.isAgg302
 z35:=Tryz.sizeOf302
 v35:=Tryz.zeroValue302
 t36:=Tryz.underlying303
 a36:=Tryz.isAgg303
 z36:=Tryz.sizeOf303
 v36:=Tryz.zeroValue303
 t41:=Tryz.underlying265
 a41:=Tryz.isAgg265
 z41:=Tryz.sizeOf265
 v41:=Tryz.zeroValue265
 t44:=Tryz.underlying74
 a44:=Tryz.isAgg74
 z44:=Tryz.sizeOf74
 v44:=Tryz.zeroValue74
 t46:=Tryz.underlying100
 a46:=Tryz.isAgg100
 z46:=Tryz.sizeOf100
 v46:=Tryz.zeroValue100
 t53:=Tryz.underlying337
 a53:=Tryz.isAgg337
 z53:=Tryz.sizeOf337
 v53:=Tryz.zeroValue337
 t57:=Tryz.underlying340
 a57:=Tryz.isAgg340
 z57:=Tryz.sizeOf340
 v57:=Tryz.zeroValue340
 t63:=Tryz.underlying349
 a63:=Tryz.isAgg349
 z63:=Tryz.sizeOf349
 v63:=Tryz.zeroValue349
 t64:=Tryz.underlying350
 a64:=Tryz.isAgg350
 z64:=Tryz.sizeOf350
 v64:=Tryz.zeroValue350 }
open Go.Sort Go.RowKit in
theorem Tryz.slices_Sort_int (blk off cap:Nat) (zs:List Int) (w:World) (hH:Holds (Value.int .i64) w blk off zs.toArray) (hblk:blk<w.heap.size) (hsz:zs.length<4611686018427387904) :
  Calls Tryz.prog 124 #[.slice (some ⟨blk,off,none⟩) zs.length cap] w fun e w'=>
   e = .returned (.tuple #[])/\∃n os,w'=grow (putRow (Value.int .i64) (Sort.ahead w n) blk off (zs.mergeSort fun x y=>decide (x<=y)).toArray) os:=AnyM.slices_Sort_int Tryz.laysSlM5_f124 blk off cap zs w hH hblk hsz
open Go.RowKit Go.Sort in
theorem Tryz.slices_Sort_int_none (p:Option Addr) (cap:Nat) (w:World) :
  Calls Tryz.prog 124 #[.slice p 0 cap] w fun e w'=>e = .returned (.tuple #[])/\w'=w:=AnyM.slices_Sort_int_none Tryz.laysSlM5_f124 p cap w
def Tryz.laysBS_ren:Go.Shelf.Ren:=⟨fun | 26=>169 | 33=>197 | 34=>198 | 38=>241 | n=>n,fun | 24=>118 | 9=>9 | 3=>3 | 4=>4 | 40=>200 | 0=>0 | n=>n,fun | n=>n⟩
theorem Tryz.laysBS:Go.Proofs.Lays2.n26 Tryz.prog Tryz.laysBS_ren:={
 mixed:=by kernel_rfl
 f26:=Tryz.func169.trans (congrArg some (by kernel_rfl))
 f33:=Tryz.func197.trans (congrArg some (by kernel_rfl))
 f34:=Tryz.func198.trans (congrArg some (by kernel_rfl))
 f38:=Tryz.func241.trans (congrArg some (by kernel_rfl))
 t0:=Tryz.underlying0
 a0:=Tryz.isAgg0
 z0:=Tryz.sizeOf0
 v0:=Tryz.zeroValue0
 t3:=Tryz.underlying3
 a3:=Tryz.isAgg3
 z3:=Tryz.sizeOf3
 v3:=Tryz.zeroValue3
 t4:=Tryz.underlying4
 a4:=Tryz.isAgg4
 z4:=Tryz.sizeOf4
 v4:=Tryz.zeroValue4
 t9:=Tryz.underlying9
 a9:=Tryz.isAgg9
 z9:=Tryz.sizeOf9
 v9:=Tryz.zeroValue9
 t24:=Tryz.underlying118
 a24:=Tryz.isAgg118
 z24:=Tryz.sizeOf118
 v24:=Tryz.zeroValue118
 t40:=Tryz.underlying200
 a40:=Tryz.isAgg200
 z40:=Tryz.sizeOf200
 v40:=Tryz.zeroValue200 }
def Tryz.laysSFL_ren:Go.Shelf.Ren:=⟨fun | 6=>119 | 15=>174 | 14=>173 | 28=>211 | 29=>212 | 20=>203 | 21=>204 | 22=>205 | 23=>206 | 24=>207 | 25=>208 | 26=>209 | 27=>210 | 46=>246 | 47=>247 | 48=>248 | 49=>249 | 50=>250 | 57=>261 | n=>n,fun | 22=>54 | 24=>99 | 25=>211 | 3=>3 | 39=>200 | 0=>0 | 53=>74 | 55=>100 | 4=>4 | 46=>303 | 45=>302 | 50=>265 | 5=>5 | 9=>9 | 66=>337 | 70=>340 | 76=>349 | 77=>350 | n=>n,fun | n=>n⟩
theorem Tryz.laysSFL:Go.Proofs.SlLaysF0.n6 Tryz.prog Tryz.laysSFL_ren:={
 mixed:=by kernel_rfl
 f6:=⟨Tryz.f119.name,by decide,Tryz.func119.trans (congrArg some (by kernel_rfl))⟩
 f14:=⟨Tryz.f173.name,by decide,Tryz.func173.trans (congrArg some (by kernel_rfl))⟩
 f15:=Tryz.func174.trans (congrArg some (by kernel_rfl))
 f20:=⟨Tryz.f203.name,by decide,Tryz.func203.trans (congrArg some (by kernel_rfl))⟩
 f21:=⟨Tryz.f204.name,by decide,Tryz.func204.trans (congrArg some (by kernel_rfl))⟩
 f22:=⟨Tryz.f205.name,by decide,Tryz.func205.trans (congrArg some (by kernel_rfl))⟩
 f23:=⟨Tryz.f206.name,by decide,Tryz.func206.trans (congrArg some (by kernel_rfl))⟩
 f24:=⟨Tryz.f207.name,by decide,Tryz.func207.trans (congrArg some (by kernel_rfl))⟩
 f25:=⟨Tryz.f208.name,by decide,Tryz.func208.trans (congrArg some (by kernel_rfl))⟩
 f26:=⟨Tryz.f209.name,by decide,Tryz.func209.trans (congrArg some (by kernel_rfl))⟩
 f27:=⟨Tryz.f210.name,by decide,Tryz.func210.trans (congrArg some (by kernel_rfl))⟩
 f28:=Tryz.func211.trans (congrArg some (by kernel_rfl))
 f29:=Tryz.func212.trans (congrArg some (by kernel_rfl))
 f46:=⟨Tryz.f246.name,by decide,Tryz.func246.trans (congrArg some (by kernel_rfl))⟩
 f47:=Tryz.func247.trans (congrArg some (by kernel_rfl))
 f48:=Tryz.func248.trans (congrArg some (by kernel_rfl))
 f49:=⟨Tryz.f249.name,by decide,Tryz.func249.trans (congrArg some (by kernel_rfl))⟩
 f50:=⟨Tryz.f250.name,by decide,Tryz.func250.trans (congrArg some (by kernel_rfl))⟩
 f57:=⟨Tryz.f261.name,by decide,Tryz.func261.trans (congrArg some (by kernel_rfl))⟩
 t0:=Tryz.underlying0
 a0:=Tryz.isAgg0
 z0:=Tryz.sizeOf0
 v0:=Tryz.zeroValue0
 t3:=Tryz.underlying3
 a3:=Tryz.isAgg3
 z3:=Tryz.sizeOf3
 v3:=Tryz.zeroValue3
 t4:=Tryz.underlying4
 a4:=Tryz.isAgg4
 z4:=Tryz.sizeOf4
 v4:=Tryz.zeroValue4
 t5:=Tryz.underlying5
 a5:=Tryz.isAgg5
 z5:=Tryz.sizeOf5
 v5:=Tryz.zeroValue5
 t9:=Tryz.underlying9
 a9:=Tryz.isAgg9
 z9:=Tryz.sizeOf9
 v9:=Tryz.zeroValue9
 t22:=Tryz.underlying54
 a22:=Tryz.isAgg54
 z22:=Tryz.sizeOf54
 v22:=Tryz.zeroValue54
 t25:=Tryz.underlying211
 a25:=Tryz.isAgg211
 z25:=Tryz.sizeOf211
 v25:=Tryz.zeroValue211
 t39:=Tryz.underlying200
 a39:=Tryz.isAgg200
 z39:=Tryz.sizeOf200
 v39:=Tryz.zeroValue200
 t45:=Tryz.underlying302
 a45:=Tryz.isAgg302
 z45:=Tryz.sizeOf302
 v45:=Tryz.zeroValue302
 t46:=Tryz.underlying303
 a46:=Tryz.isAgg303
 z46:=Tryz.sizeOf303
 v46:=Tryz.zeroValue303
 t50:=Tryz.underlying265
 a50:=Tryz.isAgg265
 z50:=Tryz.sizeOf265
 v50:=Tryz.zeroValue265
 t53:=Tryz.underlying74
 a53:=Tryz.isAgg74
 z53:=Tryz.sizeOf74
 v53:=Tryz.zeroValue74
 t55:=Tryz.underlying100
 a55:=Tryz.isAgg100
 z55:=Tryz.sizeOf100
 v55:=Tryz.zeroValue100
 t66:=Tryz.underlying337
 a66:=Tryz.isAgg337
 z66:=Tryz.sizeOf337
 v66:=Tryz.zeroValue337
 t70:=Tryz.underlying340
 a70:=Tryz.isAgg340
 z70:=Tryz.sizeOf340
 v70:=Tryz.zeroValue340
 t76:=Tryz.underlying349
 a76:=Tryz.isAgg349
 z76:=Tryz.sizeOf349
 v76:=Tryz.zeroValue349
 t77:=Tryz.underlying350
 a77:=Tryz.isAgg350
 z77:=Tryz.sizeOf350
 v77:=Tryz.zeroValue350 }
def Tryz.laysCFL_ren:Go.Shelf.Ren:=⟨fun | 8=>193 | 6=>232 | n=>n,fun | 22=>54 | 23=>99 | 25=>294 | 4=>4 | 3=>3 | 0=>0 | n=>n,fun | n=>n⟩
theorem Tryz.laysCFL:Go.Proofs.SlLaysH0.n8 Tryz.prog Tryz.laysCFL_ren:={
 mixed:=by kernel_rfl
 f6:=⟨Tryz.f232.name,by decide,Tryz.func232.trans (congrArg some (by kernel_rfl))⟩
 f8:=⟨Tryz.f193.name,by decide,Tryz.func193.trans (congrArg some (by kernel_rfl))⟩
 t0:=Tryz.underlying0
 a0:=Tryz.isAgg0
 z0:=Tryz.sizeOf0
 v0:=Tryz.zeroValue0
 t3:=Tryz.underlying3
 a3:=Tryz.isAgg3
 z3:=Tryz.sizeOf3
 v3:=Tryz.zeroValue3
 t4:=Tryz.underlying4
 a4:=Tryz.isAgg4
 z4:=Tryz.sizeOf4
 v4:=Tryz.zeroValue4
 t22:=Tryz.underlying54
 a22:=Tryz.isAgg54
 z22:=Tryz.sizeOf54
 v22:=Tryz.zeroValue54
 t25:=Tryz.underlying294
 a25:=Tryz.isAgg294
 z25:=Tryz.sizeOf294
 v25:=Tryz.zeroValue294 }
def Tryz.laysCL_ren:Go.Shelf.Ren:=⟨fun | 41=>61 | n=>n,fun | 22=>54 | 23=>99 | 4=>4 | n=>n,fun | n=>n⟩
theorem Tryz.laysCL:Go.Proofs.SlLaysE0.n41 Tryz.prog Tryz.laysCL_ren:={
 mixed:=by kernel_rfl
 f41:=⟨Tryz.f61.name,by decide,Tryz.func61.trans (congrArg some (by kernel_rfl))⟩
 t4:=Tryz.underlying4
 a4:=Tryz.isAgg4
 z4:=Tryz.sizeOf4
 v4:=Tryz.zeroValue4
 t22:=Tryz.underlying54
 a22:=Tryz.isAgg54
 z22:=Tryz.sizeOf54
 v22:=Tryz.zeroValue54 }
end Go.Proofs
namespace Go.Proofs.YtdoiekknhnbepaaGreatDoor
open Go renaming wpQuiet_nil->dF
open Go renaming wpList_append_own_at->dE
open List renaming getElem?_eq_getElem->b2,getElem?_eq_some_iff->b3,pairwise_iff_getElem->b4,mem_cons->b5,pairwise_cons->b6,mem_singleton->b7,not_lt->b9,getElem?_append_right->ca,getElem?_append_left->cb,getElem?_take->cc,getElem?_drop->cf,mem_append->ch,nodup_cons->cj,length->ck
open Lib renaming byteCells->cl,compareBytes->cm,compactUpTo->cn,hid->cp,bsGo->cq,BuilderAtF->ct,strCells->cv,compact->cx,keeps->cy
open UInt8 renaming ofNat->cF,toNat_ofNat'->cS,toNat_lt->cV,ofNat_toNat->cW,not_lt->cX
open Region renaming ready->cY,lexTailB->c6,lexHead->c7,chainB->c8,sinkB->c9,binds->dd,Mode->de
open _root_.ByteArray renaming toList_eq->df,mk->dh,size->di,data_append->dj,size_append->dk
open _root_.Array renaming getElem?_eq_none->dl,getElem?_modify->dm
open Nat renaming add_assoc->dn,succ_mul->dp,le_trans->dq
open Value renaming string->dr,int->ds
open Classical renaming byContradiction->dt
open Op renaming bytesLess->dv
open Go.Proofs.Lays renaming n166->dw,n167->dx,n169->dy,n240->dz
open Ending renaming returned->dA
open Instr renaming index->dB
open World.ownsRow renaming alloc->dC
open IntWalk renaming i64_in->dD
open Tryz
open List renaming take_succ_eq_append_getElem->bY,length_append->b8,flatMap_cons->cd,drop_of_length_le->ce,length_cons->ci,drop_eq_getElem_cons->co,flatMap_append->cw,eq_nil_of_length_eq_zero->cz,lt_irrefl->cA,getElem_mem->cB,lt_asymm->cD,getElem_cons_succ->cE,take_of_length_le->cH,length_set->cI,set_append_right->cJ,lt_trans->cK,size_toArray->cP,le_antisymm->cQ,any_eq_true->cR,getElem_map->cU,append_nil->cZ,nil_append->da,le_trans->dc
open Bool renaming and_eq_true->bZ,eq_iff_iff->cr,not_eq_true->cC,true_and->cL,false_eq_true->cN,and_assoc->db
open Nat renaming le_refl->cg,zero_add->cG,add_sub_cancel->cM,lt_or_ge->cO,lt_of_not_le->cT
section
open Go.RowKit Go.Sort
open Lib renaming hid -> Jh
attribute [local go_sem ↓] Go.wp_at_zero Go.wp_at_succ
attribute [local go_sem] Later.cell
def encLb (x:Lb):List Value:=[.string ⟨x.n.toArray⟩,.string ⟨x.v.toArray⟩]
theorem Khe (x y:Lb) (W:World) :
  Calls prog 130 #[.agg (encLb x).toArray,.agg (encLb y).toArray] W fun e w'=>e = .returned (.int .i64 (cm x.n y.n))/\∃q os',w'=grow (W.drewN q) os':=by
 obtain⟨xn,xv⟩:=x;obtain⟨yn,yv⟩:=y;have aa:=fun W'=>Tryz.strings_Compare ⟨xn.toArray⟩ ⟨yn.toArray⟩ W'
 simp only[List.toList_toArray]at aa;obtain⟨r,hr⟩:=jF (cm xn yn);simp only[hr]at aa |-;have HC:=Jh aa;clear aa hr;unfold encLb;obtain⟨X,hX⟩:∃X:ByteArray,(⟨xn.toArray⟩:ByteArray)=X:=⟨_,rfl⟩;obtain⟨Y,hY⟩:∃X:ByteArray,(⟨yn.toArray⟩:ByteArray)=X:=⟨_,rfl⟩;simp only[hX,hY]at HC |-;clear hX hY;go_enter func130,ntmps130
 go_wp2_with fail
 refine(HC.out _).mono ?_;rintro e w' ⟨rfl,rfl⟩;go_wp2_with fail
 go_ret
 exact⟨rfl,0,_,by rw[alloc_eq_grow,alloc_eq_grow,grow_grow];rfl⟩
theorem Kym (nm:Txt) (p:Nat) (w:World) (hp:w.cell? ⟨p,0,none⟩=some (.string ⟨nm.toArray⟩)) :
  PredBelow prog 194 #[.pointer (some ⟨p,0,none⟩)] (fun x=>.agg (encLb x).toArray) (fun x=>x.n == nm) w:=by
 intro W x hb;have ab:=later hb hp;obtain⟨xn,xv⟩:=x;have aa:((⟨xn.toArray⟩:ByteArray).toList == (⟨nm.toArray⟩:ByteArray).toList)=(xn == nm):=by rw[df,df]
 obtain⟨r,hr⟩:=jF (xn == nm);rw[hr]at aa;simp only[hr];unfold encLb;obtain⟨X,hX⟩:∃X:ByteArray,(⟨xn.toArray⟩:ByteArray)=X:=⟨_,rfl⟩;obtain⟨Y,hY⟩:∃X:ByteArray,(⟨nm.toArray⟩:ByteArray)=X:=⟨_,rfl⟩;rw[hX,hY]at aa;rw[hY]at ab;simp only[hX];clear hX hY hr hp;have hpl:p<W.heap.size:=Kdt ab;show Calls prog 194 #[.agg #[.string X,.string ⟨xv.toArray⟩],.pointer (some ⟨p,0,none⟩)] W _
 go_enter func194,ntmps194
 go_wp2_with fail
 go_ret
 exact⟨rfl,hb.alloc hb.size _⟩
theorem Kxz {α : Type}[Inhabited α] (enc:α->List Value) (k:Nat) (w:World) (blk off n:Nat) (d:Array α) (os:Array Obj):w.grownBy (sortWorldK enc k w blk off n d os) (some blk):=by
 refine⟨rfl,rfl,rfl,?_,?_⟩
 .simp[sortWorldK,grow,putRowK,putRow,mapBlock,Sort.ahead]
 .intro j hj hne;have hb:¬blk=j:=fun e=>hne (by rw[e])
  simp only[sortWorldK,grow,putRowK,putRow,mapBlock,Sort.ahead];rw[Array.getElem?_append_left (by simpa using hj),dm,jM hb]
theorem Knr:(prog.info? 99).map (fun i=>(i.zero,i.size,i.bytes))=some (some (.agg #[.string ⟨#[]⟩,.string ⟨#[]⟩]),2,32):=by kernel_rfl
theorem Kca (x:Lb):(encLb x).length=2:=rfl
theorem Kib (x:Lb):∀v∈encLb x,v.oneCell'=true:=by intro v hv;simp[encLb]at hv;rcases hv with rfl | rfl <;> rfl
theorem Kjn (l:List Lb):(l.flatMap encLb).length=l.length*2:=by
 induction l with
 | nil=>rfl
 | cons x l ih=>rw[cd,b8,ih,Kca,ci];omega
theorem Kdi:∀(l:List Lb) (t:Nat),t<l.length*2->(l.flatMap encLb)[t]? = (encLb l[t / 2]!)[t % 2]?
 | [],t,h=>by simp at h
 | x :: l,t,h=>by
  rw[cd]
  by_cases h2:t<2
  .rw[cb (by rw[Kca];exact h2),show t / 2=0 by omega,show t % 2=t by omega];simp
  .rw[ca (by rw[Kca];omega),Kca,Kdi l (t - 2) (by simp at h;omega),show(t - 2) / 2=t / 2 - 1 by omega,show(t - 2) % 2=t % 2 by omega];congr 2;obtain⟨m,hm⟩:∃m,t / 2=m+1:=⟨t / 2 - 1,by omega⟩;rw[hm];simp
theorem Kgu {w:World}{B b off n:Nat}{l:List Lb}(h:Elems w B 2 encLb (some ⟨b,off,none⟩) n l) (hn:0<n):∀t,t<l.length*2->w.cell? ⟨b,off+t,none⟩=(l.flatMap encLb)[t]?:=by
 intro t ht;obtain⟨b',aa,e,_,hc⟩:=h.2 hn;injection e with e;injection e with e1 e2;subst e1 e2;rw[Kdi l t ht];have hl:t / 2<l.length:=by omega
 have h1:l[t / 2]? = some l[t / 2]!:=by rw[jI l _ hl,b2 hl]
 have h2:t % 2<(encLb l[t / 2]!).length:=by rw[Kca];omega
 have:=hc (t / 2) _ h1 (t % 2) _ (b2 h2);rw[b2 h2,<-this];congr 2;omega
theorem Kql (l:List Lb) (b off n c:Nat) (w:World) (h:Elems w w.heap.size 2 encLb (some ⟨b,off,none⟩) n l) (hn:0<n) (hn8:n<=8) :
  Calls prog 61 #[.slice (some ⟨b,off,none⟩) n c] w fun e w'=>∃g cap,e = .returned (.slice (some ⟨g,0,none⟩) n cap)/\w'.ownsRow w.heap.size 99 2 (.slice (some ⟨g,0,none⟩) n cap) n (l.flatMap encLb)/\Below w.heap.size w w':=by
 obtain⟨i0,ae,ag,ac,ad⟩:=info_parts Knr;have hl:=h.len
 have ab:=AnyE.slices_Clone Tryz.laysCL i0 _ 2 32 ae ag ac ad rfl (by omega) sizeOf99 b off n c (l.flatMap encLb) w (by rw[Kjn,hl]) (by unfold maxLen;omega) (by omega)
  (fun j u hu=>by
   have hj:=(b3.1 hu).1;rw[Kjn]at hj
   rw[Kgu h hn j hj];exact hu)
  (fun u hu=>by
   obtain⟨x,_,hx⟩:=List.mem_flatMap.1 hu
   exact Kib x u hx)
 refine ab.mono ?_;rintro e w' ⟨v',rfl,aa,af,hb⟩;rcases aa.2 with ⟨rfl,_⟩ | ⟨g,cap,cur,rfl,h1⟩
 .exact jS rfl af
 .exact ⟨g,cap,rfl,aa,hb⟩
theorem Kul (n:Nat) (W:World) (h:n<=12):Calls prog 174 #[.int .u64 n] W fun e w'=>(∃l:Int,e = .returned (.int .i64 l))/\w'=W:=
 (Tryz.bits_Len n W (by omega) (by omega)).mono fun _ _ ⟨he,hw⟩=>⟨⟨_,he⟩,hw⟩
theorem Ktw (l:List Lb) (g cap n B:Nat) (w:World) (hown:w.ownsRow B 99 2 (.slice (some ⟨g,0,none⟩) n cap) n (l.flatMap encLb)) (hl:l.length=n) (hn8:n<=8) :
  Calls prog 119 #[.slice (some ⟨g,0,none⟩) n cap,.func (.func 130) #[] #[]] w fun e w'=>e = .returned (.tuple #[])/\w.grownBy w' (some g):=by
 have ac:=hown.lt g rfl;rcases hown.2 with ⟨he,_⟩ | ⟨g',cap',cur,he,h1,h2,h3,h4,h5,h6⟩
 .cases he
 .injection he with he _ _;injection he with he;injection he with he _ _;subst he
  have hH:HoldsK encLb 2 w g 0 l.toArray:=by
   intro t ht;rw[size_flatK]at ht;have ad:t<l.length*2:=by simpa using ht
   refine⟨?_,by simp[World.frozen?,h2]⟩;rw[get_flatK _ _ _ _ ht,cG,cell_of_row w g t cur _ (0,0) h2]
   have e1:cur[t]? = (l.flatMap encLb)[t]?:=by rw[<-h6,List.getElem?_take_of_lt (by omega)];simp
   rw[e1,Kdi l t ad];have ab:t % 2<(encLb l[t / 2]!).length:=by rw[Kca];omega
   simp only[List.getElem!_toArray,id];rw[jI (encLb l[t / 2]!) (t % 2) ab,b2 ab]
  have eg:∀args w,(callFunc 130 args).run prog w = .ok (.enter 130 args) w:=enters_of func130 (by kernel_rfl) rfl;have aa:=AnyQ.slices_SortFunc_small Tryz.laysSFL 2 isAgg99 sizeOf99 encLb Kca Kib (fun x y=>cm x.n y.n) 130 #[] g 0 cap l.toArray w eg (fun _ _ _ _ x y=>Khe x y _) hH ac.2 (by simp;omega) Kul;simp only[cP,hl]at aa;refine aa.mono ?_;rintro e w' ⟨rfl,m,os,rfl⟩;exact⟨rfl,Kxz _ _ _ _ _ _ _ _⟩
theorem Kmn (l:List Lb) (nm:Txt) (b off i c p:Nat) (w:World) (r:Bool) (hr:(l.take i).any (fun x=>x.n == nm)=r) (hi:i<=l.length) (hl8:l.length<=8) (hb:b<w.heap.size) (hp:w.cell? ⟨p,0,none⟩=some (.string ⟨nm.toArray⟩))
  (hc:∀t,t<l.length*2->w.cell? ⟨b,off+t,none⟩=(l.flatMap encLb)[t]?) :
  Calls prog 193 #[.slice (some ⟨b,off,none⟩) i c,.func (.func 194) #[] #[.pointer (some ⟨p,0,none⟩)]] w fun e w'=>e = .returned (.bool r)/\Below w.heap.size w w':=by
 have eg:∀args w,(callFunc 194 args).run prog w = .ok (.enter 194 args) w:=enters_of func194 (by kernel_rfl) rfl
 have aa:=AnyQ.slices_ContainsFunc Tryz.laysCFL 2 isAgg99 sizeOf99 encLb Kca (fun x=>x.n == nm) 194 #[.pointer (some ⟨p,0,none⟩)] eg b off i c l w (Kym nm p w hp) hi (by omega) hb
  (fun j hj k v hv=>by
   have hk:k<2:=by have:=(b3.1 hv).1;rw[Kca]at this;exact this
   have:=hc (j*2+k) (by omega);rw[Kdi l (j*2+k) (by omega),show(j*2+k) / 2=j by omega,show(j*2+k) % 2=k by omega,hv]at this;rw[<-this];congr 2
   omega)
 rw[hr]at aa;exact aa
def Kzp (w:World) (c:Nat) (e:Ending) (w':World):Prop:=(∃v,e = .returned (.tuple #[v,.int .i64 (c:Nat)]))/\Below w.heap.size w w'
theorem Kpi (l:List Lb) (A:Option Addr) (n c:Nat) (w:World) (hE:Elems w w.heap.size 2 encLb A n l) (hnc:n<=c) (hnm:n<=140737488351232) (hz:∀x∈l,x.n.length<=140737488351232/\x.v.length<=140737488351232) :
  Calls prog 160 #[.slice A n c] w (Kzp w (Kaw l)):=by
 have hl:=hE.len
 by_cases h0:n=0
 .subst h0;have hm:Kaw l=43:=by rw[Kaw,jN hl]
  rw[hm];clear hm;go_enter func160,ntmps160
  go_wp2_with fail
  go_ret2
  exact⟨⟨_,rfl⟩,Below.refl _ _⟩
 .have e0:((n:Int) == 0)=false:=by rw[jO];omega
  by_cases h8:8<n
  .have hm:Kaw l=44:=by rw[Kaw,jM (by omega),jN (by omega)]
   rw[hm];have e8:decide ((8:Int)<(n:Int))=true:=by simp;omega
   clear hm;go_enter func160,ntmps160
   go_wp2_with fail
   go_ret2
   exact⟨⟨_,rfl⟩,Below.refl _ _⟩
  .have e8:decide ((8:Int)<(n:Int))=false:=by simp;omega
   obtain⟨R,hR⟩:=jF (Kcj [] l);have hm:Kaw l=R:=by rw[Kaw,jM (by omega),jM (by omega),hR]
   rw[hm];obtain⟨b,ae,rfl,ap,_⟩:=hE.2 (by omega);have aa:=Kgu hE (by omega);have HC:=Jh aa;have HR:=Jh hR;have HZ:=Jh hz;have ad:=Jh hl;have hn0:0<n:=by omega
   clear hm hR hz aa hl h0;go_enter func160,ntmps160
   go_upto_block 1 with fail
   clear e0 e8;go_cut [] (fun wz=>Below w.heap.size w wz/\R=0)
   case first=>
    go_wp2_with fail
    go_loopg [17] n (fun g s17 wr=>∃i:Nat,i+g=n/\s17 = .int .i64 (i:Int)/\Kcj (l.take i) (l.drop i)=R/\Below w.heap.size w wr)
    case atStart=>exact⟨0,by omega,rfl,by simpa using HR.out,Below.refl _ _⟩
    case round=>
     obtain⟨i,aC,rfl,ab,hB⟩:=hrel;have aB:=Jh aC;have aA:=Jh ab;clear aC ab
     by_cases hi:i<n
     .have el:decide ((i:Int)<(n:Int))=true:=by simp;omega
      have aG:decide (i<n)=true:=by simp;omega
      have ag:i<l.length:=by have:=ad.out;omega
      obtain⟨x,hx⟩:=jF (l[i]);have aw:x∈l:=by rw[<-hx];exact cB ag
      have am:=HZ.out x aw;have ab:=aA.out;rw[co ag,hx,Kcj]at ab
      have az:(l.flatMap encLb)[i*2]? = some (.string ⟨x.n.toArray⟩):=by rw[Kdi l _ (by omega),show i*2 / 2=i by omega,show i*2 % 2=0 by omega,jI l i ag,hx];rfl
      have ay:(l.flatMap encLb)[i*2+1]? = some (.string ⟨x.v.toArray⟩):=by rw[Kdi l _ (by omega),show(i*2+1) / 2=i by omega,show(i*2+1) % 2=1 by omega,jI l i ag,hx];rfl
      have c0:wr.cell? ⟨b,ae+i*2,none⟩=some (.string ⟨x.n.toArray⟩):=((hB.cell (p:=⟨b,ae+i*2,none⟩) ap).trans (HC.out _ (by omega))).trans az;have c1:wr.cell? ⟨b,ae+i*2+1,none⟩=some (.string ⟨x.v.toArray⟩):=((hB.cell (p:=⟨b,ae+i*2+1,none⟩) ap).trans (HC.out (i*2+1) (by omega))).trans ay;obtain⟨N,hN⟩:∃N:ByteArray,(⟨x.n.toArray⟩:ByteArray)=N:=⟨_,rfl⟩;obtain⟨V,hV⟩:∃N:ByteArray,(⟨x.v.toArray⟩:ByteArray)=N:=⟨_,rfl⟩;rw[hN]at c0;rw[hV]at c1;have al:N.data.toList=x.n:=by rw[<-hN]
      have av:V.data.toList=x.v:=by rw[<-hV]
      have aH:N.size<=140737488351232:=by rw[<-Kai,al];exact am.1
      have aM:V.size<=140737488351232:=by rw[<-Kai,av];exact am.2
      have ai:=Jh ab;have HN:=Jh hN;have aI:=Jh al;have aK:=Jh av;have HX:=Jh hx;clear ab az ay hx hN hV al av am aw;go_upto_region 8 with fail
      have hq:Blk (wr.alloc (.cells #[.string N,.string V] 99)) wr.heap.size 99 #[.string N,.string V]:=Blk.new _ _ _;have af:Below w.heap.size w (wr.alloc (.cells #[.string N,.string V] 99)):=hB.alloc hB.size _;obtain⟨w1,aE⟩:=jF (wr.alloc (.cells #[.string N,.string V] 99));obtain⟨p,hp⟩:=jF wr.heap.size;rw[aE]at hq af |-;rw[hp]at hq |-;clear aE hp c0 c1 hB;have q0:_=some (dr N):=hq.cell 0;have q1:_=some (dr V):=hq.cell 1;obtain⟨rn,ar⟩:=jF (fitN x.n);obtain⟨rv,aq⟩:=jF (fitV x.v);obtain⟨ra,ao⟩:=jF ((l.take i).any (fun y=>y.n == x.n));have ab:=ai.out;rw[ar,aq,ao]at ab;have ac:=Jh ab;have aP:=Jh (show fitN N.data.toList=rn by rw[aI.out,ar]);have aJ:=Jh (show fitV V.data.toList=rv by rw[aK.out,aq]);have aO:=Jh ao;clear ab ai ar aq ao;go_wp2_with fail
      refine(Ktj N rn aP.out aH w1).mono ?_;rintro e w2 ⟨rfl,rfl⟩
      cases rn with
      | false=>
       obtain rfl:40=R:=by have:=ac.out;simpa using this
       go_wp2_with fail
       go_ret2
       exact⟨⟨_,rfl⟩,af⟩
      | true=>
       go_wp2_with fail
       refine(Kqr V rv aJ.out aM w1).mono ?_;rintro e w2 ⟨rfl,rfl⟩
       cases rv with
       | false=>
        obtain rfl:41=R:=by have:=ac.out;simpa using this
        go_wp2_with fail
        go_ret2
        exact⟨⟨_,rfl⟩,af⟩
       | true=>
        have hmf:∀(fn:Fn) (first cap:Array Value) (w:World),(Instr.makeFunc fn first cap).run prog w = .ok (.func fn first cap) w:=fun _ _ _ _=>rfl
        have hci:(i:Int)<=(c:Int):=by omega
        go_wp2_with fail
        refine(Kmn l x.n b ae i c p w1 ra aO.out (by omega) (by have:=ad.out;omega) (by have:=af.size;omega) (by rw[HN.out];exact q0) (fun t ht=>(af.cell (p:=⟨b,ae+t,none⟩) ap).trans (HC.out t ht))).mono ?_;rintro e w3 ⟨rfl,aL⟩;have ax:Below w.heap.size w w3:=af.trans (aL.mono af.size)
        cases ra with
        | true=>
         obtain rfl:42=R:=by have:=ac.out;simpa using this
         go_wp2_with fail
         go_ret2
         exact⟨⟨_,rfl⟩,ax⟩
        | false=>
         go_wp2_with fail
         go_roundg (gk - 1)
         case measure=>have:=aB.out;omega
         case rel=>
          refine⟨i+1,by have:=aB.out;omega,by go_num,?_,ax⟩;rw[bY ag,HX.out];have:=ac.out;simpa using this
     .have ak:R=0:=by
       have:=aA.out;rw[ce (by have:=ad.out;omega),Kcj]at this;exact this.symm
      have an:=Jh ak;have el:decide ((i:Int)<(n:Int))=false:=by simp;omega
      have aG:decide (i<n)=false:=by simp;omega
      clear ak;go_wp2_with fail
      go_meet
      exact⟨hB,an.out⟩
   case rest=>
    obtain⟨hB,ak⟩:=hcut;obtain⟨w1,rfl⟩:=jG wc;have aF:Elems w1 w1.heap.size 2 encLb (some ⟨b,ae,none⟩) n l:=(hE.below hB).more hB.size;have an:=Jh ak;clear ak;go_wp2_with fail
    refine(Kql l b ae n c w1 aF (by omega) (by omega)).mono ?_;rintro e w2 ⟨g,cap,rfl,aj,aN⟩;go_wp2_with fail
    refine(Ktw l g cap n _ w2 aj ad.out (by omega)).mono ?_;rintro e w3 ⟨rfl,ah⟩;go_wp2_with fail
    go_ret2
    refine⟨⟨_,by rw[an.out];rfl⟩,?_⟩;have hgl:=aj.lt g rfl;have aD:=hB.trans (aN.mono hB.size);exact aD.trans ⟨ah.os,ah.tape,ah.output,ah.size,fun k hk=>ah.block k (by have:=aD.size;omega) (fun e=>by injection e with e;have:=hB.size;omega)⟩
end
section
open Go.RowKit Go.Sort
open Lib renaming hid -> Jh
open List renaming length_append -> Jd
attribute [local go_sem ↓] Go.wp_at_zero Go.wp_at_succ
attribute [local go_sem] Later.cell
theorem Kkn (x y:Lb) (W:World) :
  Calls prog 130 #[.agg #[.string ⟨x.n.toArray⟩,.string ⟨x.v.toArray⟩],.agg #[.string ⟨y.n.toArray⟩,.string ⟨y.v.toArray⟩]] W fun e w'=>e = .returned (.int .i64 (cm x.n y.n))/\Below W.heap.size W w':=by
 refine(Khe x y W).mono ?_;rintro e w' ⟨he,q,os,rfl⟩;exact⟨he,below_grown W q os⟩
def Khr (l:List Lb):Prop:=∀i,i+1<l.length->¬l[i+1]!.n<l[i]!.n
theorem Kbk {w wr:World}{b off n:Nat}{l:List Lb}(hE:Elems w w.heap.size 2 encLb (some ⟨b,off,none⟩) n l) (hn:0<n) (hB:Below w.heap.size w wr) (i:Nat) (hi:i<l.length) :
  b<w.heap.size/\wr.cell? ⟨b,off+i*2,none⟩=some (.string ⟨l[i]!.n.toArray⟩)/\wr.cell? ⟨b,off+i*2+1,none⟩=some (.string ⟨l[i]!.v.toArray⟩):=by
 have aa:b<w.heap.size:=by obtain⟨b',ab,e,hb,_⟩:=hE.2 hn;injection e with e;injection e with e _;rw[e];exact hb
 have hc:=Kgu hE hn;refine⟨aa,?_,?_⟩
 .rw[hB.cell (p:=⟨b,off+i*2,none⟩) aa,hc (i*2) (by omega),Kdi l _ (by omega),show i*2 / 2=i by omega,show i*2 % 2=0 by omega];rfl
 .rw[hB.cell (p:=⟨b,off+i*2+1,none⟩) aa];have:=hc (i*2+1) (by omega);rw[<-dn]at this;rw[this,Kdi l _ (by omega),show(i*2+1) / 2=i by omega,show(i*2+1) % 2=1 by omega];rfl
theorem Kqv (l:List Lb) (A:Option Addr) (n c:Nat) (w:World) (r:Bool) (hr:r=true↔Khr l) (hE:Elems w w.heap.size 2 encLb A n l) (hn8:n<=8) :
  Calls prog 161 #[.slice A n c,.func (.func 130) #[] #[]] w fun e w'=>e = .returned (.bool r)/\Below w.heap.size w w':=by
 have hl:=hE.len;have HL:=Jh hl;have HR:=Jh hr;clear hl hr;go_enter func161,ntmps161
 go_wp2_with fail
 go_loopg [5] n (fun g s5 wr=>∃m:Int,s5 = .int .i64 m/\m+1<=(g:Int)/\-1<=m/\m<(n:Int)/\Below w.heap.size w wr/\∀j:Nat,m<=(j:Int)->j+1<l.length->¬l[j+1]!.n<l[j]!.n)
 case atStart=>exact⟨(n:Int) - 1,rfl,by omega,by omega,by omega,Below.refl _ _,fun j hj hj2=>by have:=HL.out;omega⟩
 case round=>
  obtain⟨m,rfl,hmg,hm1,hmn,hB,ab⟩:=hrel;have ac:=Jh ab;clear ab
  by_cases hm:0<m
  .obtain ⟨j,rfl⟩:∃j:Nat,m=(j:Int)+1:=⟨(m - 1).toNat,by omega⟩;have am:j+1<l.length:=by have:=HL.out;omega
   obtain⟨b,off,rfl,_,_⟩:=hE.2 (by omega);obtain⟨hbl,a0,a1⟩:=Kbk hE (by omega) hB (j+1) am;obtain⟨_,b0,b1⟩:=Kbk hE (by omega) hB j (by omega);obtain⟨x,hx⟩:∃x,l[j+1]! = x:=⟨_,rfl⟩;obtain⟨y,hy⟩:∃x,l[j]! = x:=⟨_,rfl⟩;rw[hx]at a0 a1;rw[hy]at b0 b1;obtain⟨q,hq⟩:=jF (cm x.n y.n);have aa:∀X:Later wr,Calls prog 130 #[.agg #[.string ⟨x.n.toArray⟩,.string ⟨x.v.toArray⟩],.agg #[.string ⟨y.n.toArray⟩,.string ⟨y.v.toArray⟩]] X.w fun e w'=>e = .returned (.int .i64 q)/\Below X.w.heap.size X.w w':=fun X=>by rw[<-hq];exact Kkn x y X.w
   have ah:(q<0)↔x.n<y.n:=by rw[<-hq];exact Qje _ _
   have aj:=Jh ah;have HX:=Jh hx;have HY:=Jh hy;have HC:=Jh aa;have hbr:b<wr.heap.size:=by have:=hB.size;omega
   have em:decide ((0:Int)<(j:Int)+1)=true:=by rw[jH];omega
   clear hx hy hq ah aa hm;obtain⟨X0,ad⟩:∃N:ByteArray,(⟨x.n.toArray⟩:ByteArray)=N:=⟨_,rfl⟩;obtain⟨X1,ae⟩:∃N:ByteArray,(⟨x.v.toArray⟩:ByteArray)=N:=⟨_,rfl⟩;obtain⟨Y0,ag⟩:∃N:ByteArray,(⟨y.n.toArray⟩:ByteArray)=N:=⟨_,rfl⟩;obtain⟨Y1,af⟩:∃N:ByteArray,(⟨y.v.toArray⟩:ByteArray)=N:=⟨_,rfl⟩;rw[ad]at a0;rw[ae]at a1;rw[ag]at b0;rw[af]at b1;rw[ad,ae,ag,af]at HC;clear ad ae ag af;go_upto_region 4 with fail
   have z1:IntKind.i64.wrap ((j:Int)+1 - 1)=(j:Int):=by rw[show(j:Int)+1 - 1=(j:Int) by omega];exact dD _ (by omega)
   have z2:(0:Int)<=(j:Int)+1:=by omega
   have z3:((j:Int)+1).toNat=j+1:=by omega
   have z4:(j:Int)+1<(n:Int):=by have:=HL.out;omega
   have z5:(j:Int)<(n:Int):=by omega
   refine Kaa (by kernel_rfl) (by kernel_rfl) ?_
   repeat (go_big_quiet_step (first | (go_at_call 130;exact Kaj _ (HC.out _))))
   refine dF ?_;rintro w3 ⟨⟨_,al⟩,rfl⟩;clear z1 z2 z3 z4 z5;have ai:Below w.heap.size w w3:=then_ hB al
   by_cases hq0:q<0
   .have an:r=false:=by
     rw[<-cC];intro h;have:=(HR.out.1 h) j (by omega);rw[HX.out,HY.out]at this;exact this (aj.out.1 hq0)
    subst an;go_wp2_with fail
    go_ret
    exact⟨rfl,ai⟩
   .have eq0:decide (q<0)=false:=by simpa using hq0
    go_wp2_with fail
    go_roundg (gk - 1)
    case measure=>omega
    case rel=>
     refine⟨(j:Int),by go_num,by omega,by omega,by omega,ai,fun j' h1 h2=>?_⟩
     by_cases e:j'=j
     .subst e;rw[HX.out,HY.out];intro h;exact jS (aj.out.2 h) (by omega)
     .exact ac.out j' (by omega) h2
  .have em:decide ((0:Int)<m)=false:=by simpa using hm
   have ak:r=true:=HR.out.2 (fun i hi=>ac.out i (by omega) hi);subst ak;go_wp2_with fail
   go_ret
   exact⟨rfl,hB⟩
def Kcm (l:List Lb):Bool:=decide (Kaw l=0) && decide ((names l).Pairwise (· < ·))
theorem Klp {l:List Lb}(h:(names l).Nodup):Khr l↔(names l).Pairwise (· < ·):=by
 constructor
 .intro hr
  have ae:∀l:List Lb,Khr l->(names l).Nodup->(names l).Pairwise (· < ·):=by
   intro l
   induction l with
   | nil=>intro _ _;exact List.Pairwise.nil
   | cons x l ih=>
    intro hr hn;have ab:=cj.1 hn;have ad:Khr l:=fun i hi=>by have:=hr (i+1) (by simpa using hi);simpa using this
    have ac:=ih ad ab.2;refine b6.2 ⟨?_,ac⟩
    cases l with
    | nil=>intro z hz;simp at hz
    | cons y l=>
     have h0:=hr 0 (by simp)
     have aa:x.n<y.n:=by
      have h1:¬y.n<x.n:=by simpa using h0
      apply dt;intro h2;have:=Krl h2 h1;exact ab.1 (by simp[this,names])
     intro z hz;rcases b5.1 hz with rfl | hz
     .exact aa
     .exact cK aa ((b6.1 ac).1 z hz)
  exact ae l hr h
 .intro hp i hi hlt;have h1:i+1<(names l).length:=by simpa[names]using hi
  have:=b4.1 hp i (i+1) (by omega) h1 (by omega);simp only[names,cU]at this;rw[jI l (i+1) hi,jI l i (by omega)]at hlt;exact cD this hlt
theorem Kgz (l:List Lb):Kcm l=true↔Kaw l=0/\Khr l:=by
 unfold Kcm;rw[bZ,jH,jH];constructor
 .rintro ⟨h1,h2⟩;exact⟨h1,(Klp (Kep h1).2.2.2).2 h2⟩
 .rintro ⟨h1,h2⟩;exact⟨h1,(Klp (Kep h1).2.2.2).1 h2⟩
theorem Kiu (l:List Lb) (A:Option Addr) (n c:Nat) (w:World) (r:Bool) (hr:Kcm l=r) (hE:Elems w w.heap.size 2 encLb A n l) (hnc:n<=c) (hnm:n<=140737488351232) (hz:∀x∈l,x.n.length<=140737488351232/\x.v.length<=140737488351232) :
  Calls prog 105 #[.slice A n c] w fun e w'=>e = .returned (.bool r)/\Below w.heap.size w w':=by
 obtain⟨m,hm⟩:=jF (Kaw l);have ab:=Kpi l A n c w hE hnc hnm hz;rw[hm]at ab;have ac:=Jh ab;have HR:=Jh hr;have HM:=Jh hm;clear ab hr hm hz
 by_cases h0:m=0
 .subst h0;have ah:=Kep HM.out;have aj:n<=8:=by have:=hE.len;omega
  have ad:r=true↔Khr l:=by rw[<-HR.out,Kgz];exact⟨fun h=>h.2,fun h=>⟨HM.out,h⟩⟩
  have ae:=Jh ad;clear ad ah;go_enter func105,ntmps105
  go_wp2_with fail
  refine ac.out.mono ?_;rintro e w1 ⟨⟨v,rfl⟩,aa⟩;have af:Elems w1 w1.heap.size 2 encLb A n l:=(hE.below aa).more aa.size;go_wp2_with fail
  refine(Kqv l A n c w1 r ae.out af aj).mono ?_;rintro e w2 ⟨rfl,ag⟩;go_wp2_with fail
  go_ret
  exact⟨rfl,then_ aa ag⟩
 .have ai:r=false:=by
   rw[<-HR.out,<-cC,Kgz];rintro⟨h,_⟩;exact h0 (by rw[<-HM.out];exact h)
  subst ai;have em:((m:Int) == 0)=false:=by rw[jO];omega
  go_enter func105,ntmps105
  go_wp2_with fail
  refine ac.out.mono ?_;rintro e w1 ⟨⟨v,rfl⟩,aa⟩;go_wp2_with fail
  go_ret
  exact⟨rfl,aa⟩
theorem Kvq {x:Lb}(h1:fitN x.n=true) (h2:fitV x.v=true):(labT x).length<=118:=by have h3:=Kab x.n.length;have h4:=Kab x.v.length;simp only[fitN,fitV,bZ,jH]at h1 h2;simp only[labT,textT,Jd];omega
theorem Kvr {l:List Lb}(h:∀x∈l,fitN x.n=true/\fitV x.v=true):(l.flatMap labT).length<=118*l.length:=by
 induction l with
 | nil=>simp
 | cons x l ih=>
  have h1:=Kvq (h x (by simp)).1 (h x (by simp)).2;have h2:=ih (fun y hy=>h y (by simp[hy]));rw[cd,Jd,ci];omega
theorem Kkv (l:List Lb):(Kaw l≠0/\Kdn l=Kaw l)\/(Kaw l=0/\Kcm l=false/\Kdn l=42)\/(Kaw l=0/\Kcm l=true/\Kdn l=0):=by
 unfold Kdn Kcm
 by_cases h:Kaw l=0
 .by_cases h2:(names l).Pairwise (· < ·)
  .exact .inr (.inr ⟨h,by simp[h,h2],by simp[h,h2]⟩)
  .exact .inr (.inl ⟨h,by simp[h2],by simp[h,h2]⟩)
 .exact .inl ⟨h,by simp[h]⟩
theorem Kvb (l:List Lb) (A:Option Addr) (n c:Nat) (w:World) (hE:Elems w w.heap.size 2 encLb A n l) (hnc:n<=c) (hnm:n<=140737488351232) (hz:∀x∈l,x.n.length<=140737488351232/\x.v.length<=140737488351232) :
  Calls prog 114 #[.slice A n c] w fun e w'=>e = .returned (.tuple #[.string ⟨(Kgd l).toArray⟩,.int .i64 (Kdn l)])/\Below w.heap.size w w':=by
 obtain⟨m,hm⟩:=jF (Kaw l);have aV:=Kpi l A n c w hE hnc hnm hz;rw[hm]at aV;have aT:=Jh aV;have HM:=Jh hm;have HZ:=Jh hz;clear aV hz;rcases Kkv l with ⟨h1,h2⟩ | ⟨h1,h2,h3⟩ | ⟨h1,h2,h3⟩
 .rw[hm]at h1 h2;have ho:Kgd l = []:=by rw[Kgd,h2,jM h1]
  rw[ho,h2];have em:((m:Int) != 0)=true:=by simp;omega
  clear hm h2 ho;go_enter func114,ntmps114
  go_wp2_with fail
  refine aT.out.mono ?_;rintro e w1 ⟨⟨v,rfl⟩,ac⟩;go_wp2_with fail
  go_ret2
  exact⟨rfl,ac⟩
 .have aL:m=0:=by rw[<-hm];exact h1
  have ho:Kgd l = []:=by rw[Kgd,h3,jM (by omega)]
  rw[ho,h3];have HV:=Jh h2;clear hm h1 h2 h3 ho;subst aL;go_enter func114,ntmps114
  go_wp2_with fail
  refine aT.out.mono ?_;rintro e w1 ⟨⟨v,rfl⟩,ac⟩;have aF:Elems w1 w1.heap.size 2 encLb A n l:=(hE.below ac).more ac.size;go_wp2_with fail
  refine(Kiu l A n c w1 false HV.out aF hnc hnm HZ.out).mono ?_;rintro e w2 ⟨rfl,ae⟩;go_wp2_with fail
  go_ret2
  exact⟨rfl,then_ ac ae⟩
 .have aL:m=0:=by rw[<-hm];exact h1
  have ho:Kgd l=encL l:=by rw[Kgd,h3,jN rfl]
  obtain⟨bq,be,aq,_⟩:=Kep h1;have hl:=hE.len;rw[ho,h3];have HV:=Jh h2;have HL:=Jh hl;have ah:=Jh aq;have bj:n<=8:=by omega
  have a3:0<n:=by omega
  clear hm h1 h2 h3 ho aq;subst aL
  have bo:(encL l).length<=1000:=by have h1:=Kab l.length;have h2:=Kvr ah.out;rw[encL,Jd];omega
  obtain⟨b,bl,rfl,_,_⟩:=hE.2 a3;clear hl bq be;go_enter func114,ntmps114
  go_wp2_with fail
  refine aT.out.mono ?_;rintro e w1 ⟨⟨v,rfl⟩,ac⟩;have aF:Elems w1 w1.heap.size 2 encLb (some ⟨b,bl,none⟩) n l:=(hE.below ac).more ac.size;go_wp2_with fail
  refine(Kiu l _ n c w1 true HV.out aF hnc hnm HZ.out).mono ?_;rintro e w2 ⟨rfl,ae⟩;have am:=then_ ac ae;go_upto_region 7 with fail
  have aa:Bld w.heap.size w2.heap.size [] (w2.alloc (.cells #[.pointer none,.slice none 0 0] 109)):=Bld.new w2 am.size;have a4:Below w.heap.size w (w2.alloc (.cells #[.pointer none,.slice none 0 0] 109)):=am.alloc am.size _;obtain⟨w3,aH⟩:=jF (w2.alloc (.cells #[.pointer none,.slice none 0 0] 109));obtain⟨p,hp⟩:=jF w2.heap.size;rw[aH]at aa a4 |-;rw[hp]at aa |-;clear aH hp aF ac ae;have a6:=Kab n;have hu:=Kav n (by omega) w3;obtain⟨U,hU⟩:∃U:ByteArray,(⟨(uintT n).toArray⟩:ByteArray)=U:=⟨_,rfl⟩;have aU:U.data.toList=uintT n:=by rw[<-hU]
  have hUz:U.size<=11:=by rw[<-Kai,aU];exact a6.2
  rw[hU]at hu;have HU:=Jh hu;have bk:=Jh aU;clear hu hU aU a6;go_wp2_with fail
  refine HU.out.mono ?_;rintro e w4 ⟨rfl,al⟩;have ad:=aa.below al;have a0:=then_ a4 al;clear aa HU;go_wp2_with fail
  refine(Kaz _ p [] U w4 ad (by simp;omega) a0.size).mono ?_;rintro e w5 ⟨rfl,aB,aJ,_⟩;rw[da,bk.out]at aB;have bm:=a0.trans aJ;clear ad aJ al;go_upto_block 1 with fail
  go_cut [] (fun wz=>Bld w.heap.size p (encL l) wz/\Below w.heap.size w wz)
  case first=>
   go_wp2_with fail
   go_loopg [29] n (fun g s29 wr=>∃i:Nat,i+g=n/\s29 = .int .i64 (i:Int)/\Bld w.heap.size p (uintT n++(l.take i).flatMap labT) wr/\Below w.heap.size w wr)
   case atStart=>exact⟨0,by omega,rfl,by simpa using aB,bm⟩
   case round=>
    obtain⟨i,ba,rfl,aa,hB⟩:=hrel;have aZ:=Jh ba;clear ba
    by_cases hi:i<n
    .have ai:i<l.length:=by have:=HL.out;omega
     have el:decide ((i:Int)<(n:Int))=true:=by simp;omega
     have bb:decide (i<n)=true:=by simp;omega
     obtain⟨hbl,c0,c1⟩:=Kbk hE a3 hB i ai;obtain⟨x,hx⟩:∃x,l[i]! = x:=⟨_,rfl⟩;have a7:x∈l:=by rw[<-hx,jI l i ai];exact cB ai
     have az:=ah.out x a7;have hlx:=Kvq az.1 az.2;rw[hx]at c0 c1;obtain⟨N,hN⟩:∃N:ByteArray,(⟨x.n.toArray⟩:ByteArray)=N:=⟨_,rfl⟩;obtain⟨V,hV⟩:∃N:ByteArray,(⟨x.v.toArray⟩:ByteArray)=N:=⟨_,rfl⟩;rw[hN]at c0;rw[hV]at c1;have aK:N.data.toList=x.n:=by rw[<-hN]
     have aO:V.data.toList=x.v:=by rw[<-hV]
     have hNz:N.size<=1000:=by rw[<-Kai,aK];have:=az.1;simp only[fitN,bZ,jH]at this;omega
     have hVz:V.size<=1000:=by rw[<-Kai,aO];have:=az.2;simp only[fitV,bZ,jH]at this;omega
     have ag:(uintT n++(l.take i).flatMap labT).length+(labT x).length<=1000:=by
      have e1:l.take (i+1)=l.take i ++ [x]:=by rw[bY ai,<-hx,jI l i ai]
      have h1:=Kab n;have h2:((l.take (i+1)).flatMap labT).length<=118*(l.take (i+1)).length:=Kvr (fun y hy=>ah.out y (List.mem_of_mem_take hy));have h3:(l.take (i+1)).length<=8:=by rw[List.length_take];omega
      rw[e1,cw,Jd]at h2;simp only[cd,List.flatMap_nil,cZ,<-e1]at h2;rw[Jd];omega
     have ab:(uintT n++(l.take i).flatMap labT)++textT x.n++textT x.v=uintT n++(l.take (i+1)).flatMap labT:=by rw[bY ai,<-jI l i ai,hx,cw];simp[labT]
     obtain⟨P0,a1⟩:=jF (uintT n++(l.take i).flatMap labT);rw[a1]at aa ag ab;have ay:(labT x).length=(textT x.n).length+(textT x.v).length:=by simp[labT]
     have av:=Jh ab;have bp:=Jh aK;have bn:=Jh aO;clear hx hN hV aK aO ab a1 a7 az;go_upto_region 11 with fail
     have hq:Blk (wr.alloc (.cells #[.string N,.string V] 99)) wr.heap.size 99 #[.string N,.string V]:=Blk.new _ _ _;have aI:Below wr.heap.size wr (wr.alloc (.cells #[.string N,.string V] 99)):=(Below.refl _ _).alloc (cg _) _;obtain⟨v1,aY⟩:=jF (wr.alloc (.cells #[.string N,.string V] 99));obtain⟨q,aE⟩:=jF wr.heap.size;rw[aY]at hq aI |-;have a2:=aa.lt;have ao:=aa.below aI;have bf:=then_ hB aI;have hqw:w.heap.size<=q:=by rw[<-aE];exact hB.size
     have hqp:p<q:=by rw[<-aE];exact a2
     rw[aE]at hq |-;clear aY aE c0 c1 hB aa aI a2;have q0:_=some (dr N):=hq.cell 0;have aN:=hq.lt;have aD:=Kfk N (by omega) v1;have aG:=fun W=>Kfk V (by omega) W
     rw[bp.out]at aD;simp only[bn.out]at aG;obtain⟨TN,aS⟩:∃T:ByteArray,(⟨(textT x.n).toArray⟩:ByteArray)=T:=⟨_,rfl⟩;obtain⟨TV,aP⟩:∃T:ByteArray,(⟨(textT x.v).toArray⟩:ByteArray)=T:=⟨_,rfl⟩;rw[aS]at aD;simp only[aP]at aG;have ak:TN.data.toList=textT x.n:=by rw[<-aS]
     have aj:TV.data.toList=textT x.v:=by rw[<-aP]
     have an:TN.size=(textT x.n).length:=by rw[<-Kai,ak]
     have aC:TV.size=(textT x.v).length:=by rw[<-Kai,aj]
     have a9:TN.size<=1000:=by omega
     have a8:TV.size<=1000:=by omega
     have bc:=Jh aD;have bg:=Jh aG;have aR:=Jh ak;have aX:=Jh aj;have aW:=Jh an;have aM:=Jh aC;have ap:=Jh ay;clear aD aG aS aP ak aj an aC ay;go_wp2_with fail
     refine bc.out.mono ?_;rintro e v2 ⟨rfl,ae⟩;have ar:=ao.below ae;have am:=then_ bf ae;have a5:=hq.below ae aN;clear ao hq q0;go_wp2_with fail
     refine(Kaz _ p P0 TN v2 ar (by have:=aW.out;have:=ap.out;omega) am.size).mono ?_;rintro e v3 ⟨rfl,ax,aH,bh⟩;rw[aR.out]at ax;have aQ:=am.trans aH;have bi:Blk v3 q 99 #[.string N,.string V]:=bh.blk a5 (by omega) (by decide);clear ar a5;have q1:_=some (dr V):=bi.cell 1;go_wp2_with fail
     refine(bg.out v3).mono ?_;rintro e v4 ⟨rfl,al⟩;have ad:=ax.below al;have aA:=then_ aQ al;go_wp2_with fail
     refine(Kaz _ p (P0++textT x.n) TV v4 ad (by have:=aM.out;have:=ap.out;rw[Jd];omega) aA.size).mono ?_;rintro e v5 ⟨rfl,af,aJ,_⟩;rw[aX.out,av.out]at af;go_wp2_with fail
     go_roundg (gk - 1)
     case measure=>have:=aZ.out;omega
     case rel=>exact⟨i+1,by have:=aZ.out;omega,by go_num,af,aA.trans aJ⟩
    .have el:decide ((i:Int)<(n:Int))=false:=by simp;omega
     have bb:decide (i<n)=false:=by simp;omega
     have aw:uintT n++(l.take i).flatMap labT=encL l:=by have:=HL.out;rw[cH (by omega),encL,this]
     rw[aw]at aa;clear aw;go_wp2_with fail
     go_meet
     exact⟨aa,hB⟩
  case rest=>
   obtain⟨aa,hB⟩:=hcut;obtain⟨w6,rfl⟩:=jG wc;go_wp2_with fail
   refine(Kdv _ p _ w6 aa hB.size).mono ?_;rintro e w7 ⟨rfl,bd⟩;go_wp2_with fail
   go_ret2
   exact⟨rfl,hB.trans bd⟩
end
section
open Go.RowKit Go.Sort
attribute [local go_sem ↓] Go.wp_at_zero Go.wp_at_succ
attribute [local go_sem] Later.cell
def txtV (s:Txt):Value:=.string ⟨s.toArray⟩
def enc1 (s:Txt):List Value:=[txtV s]
def Strs (w:World) (A:Option Addr) (n:Nat) (l:List Txt):Prop:=Elems w w.heap.size 1 enc1 A n l
section
variable {w w' : World}{A : Option Addr}{n : Nat}{l : List Txt}
theorem Strs.below (h:Strs w A n l) (hb:Below w.heap.size w w'):Strs w' A n l:=(Elems.below h hb).more hb.size
theorem Strs.len (h:Strs w A n l):l.length=n:=Elems.len h
theorem Strs.at_ (h:Strs w A n l) {i:Nat}(hi:i<n):∃b off,A=some ⟨b,off,none⟩/\b<w.heap.size/\w.cell? ⟨b,off+i,none⟩=some (txtV l[i]!):=by
 obtain⟨b,off,e,hb,hc⟩:=h.2 (by omega);have hl:i<l.length:=by have:=h.len;omega
 refine⟨b,off,e,hb,?_⟩;have:=hc i l[i]! (by rw[jI l i hl,b2 hl]) 0 _ rfl;simpa using this
end
theorem Strs.of_own {w:World}{base:Nat}{v:Value}{n:Nat}{l:List Txt}(h:w.ownsRow base 9 1 v n (l.map txtV)) (hn:l.length=n):∃A c,v = .slice A n c/\Strs w A n l/\(∀a,A=some a->base<=a.block)/\n<=c:=by
 obtain⟨A,c,h1,h2,h3,h4⟩:=Elems.of_own (enc:=enc1) (xs:=l) (fun _ _=>rfl) (by
  clear h hn
  induction l with
  | nil=>rfl
  | cons x l ih=>simp[enc1,ih]) h hn
 exact⟨A,c,h1,h2,h3,h4⟩
def TabAt (w:World) (v:Value) (t:List Txt):Prop:=
 ∃A n c,((v = .pointer none/\A=none/\n=0/\c=0)\/∃p,v = .pointer (some ⟨p,0,none⟩)/\Blk w p 197 #[.slice A n c])/\Strs w A n t/\n<=c
theorem TabAt.below {w w':World}{v:Value}{t:List Txt}(h:TabAt w v t) (hb:Below w.heap.size w w'):TabAt w' v t:=by
 obtain⟨A,n,c,h1,h2,h3⟩:=h;refine⟨A,n,c,?_,h2.below hb,h3⟩;rcases h1 with h1 | ⟨p,h4,h5⟩
 .exact .inl h1
 .exact .inr ⟨p,h4,h5.below hb h5.lt⟩
def OfOut (w:World) (l:List Txt) (e:Ending) (w':World):Prop:=
 ∃p t,e = .returned (.pointer (some ⟨p,0,none⟩))/\TabAt w' (.pointer (some ⟨p,0,none⟩)) t/\IsTab l t/\t.length<=l.length/\Below w.heap.size w w'/\w.heap.size<=p
end
section
open Go.RowKit Go.Sort
open Lib renaming hid -> Jh
attribute [local go_sem ↓] Go.wp_at_zero Go.wp_at_succ
attribute [local go_sem] Later.cell
theorem Kkm (v:Value) (t:List Txt) (w:World) (h:TabAt w v t) :
  ∃A c,Strs w A t.length t/\t.length<=c/\(∀w',Below w.heap.size w w'->Calls prog 111 #[v] w' fun e w''=>e = .returned (.slice A t.length c)/\w'=w'')/\(0<t.length->∃p,v = .pointer (some ⟨p,0,none⟩)/\Blk w p 197 #[.slice A t.length c]):=by
 obtain⟨A,n,c,h1,h2,h3⟩:=h;have hl:=h2.len;subst hl;refine⟨A,c,h2,h3,fun w' hb=>?_,fun h0=>?_⟩
 .rcases h1 with ⟨rfl,rfl,hn,rfl⟩ | ⟨p,rfl,hp⟩
  .rw[hn];clear h2 h3 hn;go_enter func111,ntmps111
   go_wp2_with fail
   go_ret
   exact⟨rfl,rfl⟩
  .have hc:_=some (Value.slice A t.length c):=(hp.below hb hp.lt).cell 0;obtain⟨n,hn⟩:=jF t.length;rw[hn]at hc |-;clear h2 h3 hn hp;go_enter func111,ntmps111
   go_wp2_with fail
   go_ret
   exact⟨rfl,rfl⟩
 .rcases h1 with ⟨_,_,hn,_⟩ | ⟨p,hp,hb⟩
  .omega
  .exact ⟨p,hp,hb⟩
theorem Qeb (v:Value) (t:List Txt) (w:World) (h:TabAt w v t) :
  Calls prog 110 #[v] w fun e w'=>e = .returned (.int .i64 t.length)/\w=w':=by
 obtain⟨A,c,_,_,aa,_⟩:=Kkm v t w h;have HA:=Jh (aa w (Below.refl _ _));obtain⟨n,hn⟩:=jF t.length;rw[hn]at HA |-;clear aa hn h;go_enter func110,ntmps110
 go_wp2_with fail
 refine HA.out.mono ?_;rintro e w' ⟨rfl,rfl⟩;go_wp2_with fail
 go_ret
 exact⟨rfl,rfl⟩
theorem Ktc (t:List Txt) (A:Option Addr) (c:Nat) (s:ByteArray) (w:World) (hs:Strs w A t.length t) (hasc:Asc t) (hn:t.length*16<=140737488351232) :
  Calls prog 169 #[.slice A t.length c,.string s] w fun e w'=>e = .returned (.tuple #[.int .i64 (below t s.data.toList:Nat),.bool (decide (t[below t s.data.toList]? = some s.data.toList))])/\Below w.heap.size w w':=by
 by_cases h0:t.length=0
 .obtain rfl:t = []:=cz h0;refine(Any2.slices_BinarySearch_string_empty Tryz.laysBS A c s w).mono ?_;rintro e w' ⟨rfl,rfl⟩;exact⟨rfl,Below.refl _ _⟩
 .obtain ⟨b,af,rfl,_,_⟩:=hs.2 (by omega)
  have aa:=Any2.slices_BinarySearch_string Tryz.laysBS b af t.length c (fun j=>(⟨t[j]!.toArray⟩:ByteArray)) s w (by omega) (fun j hj=>by
   obtain⟨b',ad,e,_,hc⟩:=hs.at_ hj;injection e with e;injection e with e1 e2;subst e1 e2
   exact hc)
  have ac:∀i,i<t.length->dv (⟨t[i]!.toArray⟩:ByteArray).toList s.toList=decide (t[i]! < s.data.toList):=by intro i _;rw[bytesLess_eq,df,df]
  have ae:cq (fun i=>dv (⟨t[i]!.toArray⟩:ByteArray).toList s.toList) t.length 0 t.length=below t s.data.toList:=by
   have h1:=Qft hasc s.data.toList (fun i=>decide (i<t.length) && dv (⟨t[i]!.toArray⟩:ByteArray).toList s.toList) (fun i hi=>by rw[ac i hi,jI t i hi];simp[hi]) (fun i hi=>by simp;omega);rw[<-h1]
   have ab:∀f lo hi,hi<=t.length->cq (fun i=>dv (⟨t[i]!.toArray⟩:ByteArray).toList s.toList) f lo hi=cq (fun i=>decide (i<t.length) && dv (⟨t[i]!.toArray⟩:ByteArray).toList s.toList) f lo hi:=by
    intro f
    induction f with
    | zero=>intro lo hi _;rfl
    | succ f ih=>
     intro lo hi hh;unfold cq
     split
     .rename_i hlh
      have hm:(lo+hi) / 2<t.length:=by omega
      simp only[hm,decide_true,cL]
      split
      .exact ih _ _ hh
      .exact ih _ _ (by omega)
     .rfl
   exact ab _ _ _ (cg _)
  rw[ae]at aa;refine aa.mono ?_;rintro e w' ⟨rfl,q,rfl⟩;refine⟨?_,⟨rfl,rfl,rfl,cg _,fun _ _=>rfl⟩⟩
  have hd:decide (below t s.data.toList<t.length/\(⟨t[below t s.data.toList]!.toArray⟩:ByteArray)=s)=decide (t[below t s.data.toList]? = some s.data.toList):=by
   rw[decide_eq_decide];constructor
   .rintro ⟨h1,h2⟩;rw[jI t _ h1]at h2;rw[b2 h1];have h3:=jR (fun x:ByteArray=>x.data.toList) h2;exact jR some h3
   .intro h;obtain⟨h1,h2⟩:=b3.1 h;refine⟨h1,?_⟩;rw[jI t _ h1,h2]
  rw[hd]
theorem Kll (v:Value) (t:List Txt) (s:ByteArray) (w:World) (n e:Nat) (hr:numR t s.data.toList=(n,e)) (h:TabAt w v t) (hasc:Asc t) (hn:t.length*16<=140737488351232) :
  Calls prog 115 #[v,.string s] w fun en w'=>en = .returned (.tuple #[.int .i64 n,.int .i64 e])/\Below w.heap.size w w':=by
 obtain⟨A,c,hs,_,aa,_⟩:=Kkm v t w h;have hb:=Ktc t A c s w hs hasc hn;have HA:=Jh (aa w (Below.refl _ _));obtain⟨m,hm⟩:=jF t.length;obtain⟨q,hq⟩:=jF (below t s.data.toList);rw[numR,hq]at hr;rw[hq]at hb
 by_cases hin:t[q]? = some s.data.toList
 .rw[jN hin]at hr;obtain⟨rfl,rfl⟩:q=n/\0=e:=by simpa using hr
  rw[jL hin,hm]at hb;rw[hm]at HA;have HB:=Jh hb;clear aa hb hr hs hm hin hq h;go_enter func115,ntmps115
  go_wp2_with fail
  refine HA.out.mono ?_;rintro en w' ⟨rfl,rfl⟩;go_wp2_with fail
  refine HB.out.mono ?_;rintro en w1 ⟨rfl,ab⟩;go_wp2_with fail
  go_ret2
  exact⟨rfl,ab⟩
 .rw[jM hin]at hr;obtain⟨rfl,rfl⟩:0=n/\50=e:=by simpa using hr
  rw[jJ hin,hm]at hb;rw[hm]at HA;have HB:=Jh hb;clear aa hb hr hs hm hin hq h;go_enter func115,ntmps115
  go_wp2_with fail
  refine HA.out.mono ?_;rintro en w' ⟨rfl,rfl⟩;go_wp2_with fail
  refine HB.out.mono ?_;rintro en w1 ⟨rfl,ab⟩;go_wp2_with fail
  go_ret2
  exact⟨rfl,ab⟩
def tabT (t:List Txt):List UInt8:=uintT t.length++t.flatMap textT
theorem Kqc (v:Value) (t:List Txt) (w:World) (h:TabAt w v t) (hn:t.length*16<=140737488351232) (hz:(tabT t).length<=140737488351232) :
  Calls prog 41 #[v] w fun e w'=>e = .returned (.string ⟨(tabT t).toArray⟩)/\Below w.heap.size w w':=by
 obtain⟨A,c,hs,hc,am,_⟩:=Kkm v t w h;have an:=Jh am;have HZ:=Jh hz;clear am hz;go_enter func41,ntmps41
 go_upto_region 2 with fail
 have ac:Bld w.heap.size w.heap.size [] (w.alloc (.cells #[.pointer none,.slice none 0 0] 109)):=Bld.new w (cg _);have aw:Below w.heap.size w (w.alloc (.cells #[.pointer none,.slice none 0 0] 109)):=(Below.refl _ _).alloc (cg _) _;obtain⟨w0,aG⟩:=jF (w.alloc (.cells #[.pointer none,.slice none 0 0] 109));obtain⟨p,hp⟩:=jF w.heap.size;rw[aG]at ac aw |-;have al:=Qeb v t w0 (h.below aw);have ao:=Jh al;rw[hp]at ac |-;have HP:=Jh hp;clear aG al hp;have hl:=hs.len;obtain⟨n,av⟩:=jF t.length;rw[av]at ao hs hc hn;have hu:=Kav n (by omega) w0;have aF:=Kab n;obtain⟨U,hU⟩:∃U:ByteArray,(⟨(uintT n).toArray⟩:ByteArray)=U:=⟨_,rfl⟩;have az:U.data.toList=uintT n:=by rw[<-hU]
 have hUz:U.size<=11:=by rw[<-Kai,az];exact aF.2
 rw[hU]at hu;have HU:=Jh hu;have aS:=Jh az;have HN:=Jh av;clear hu hU az aF av hl;go_wp2_with fail
 refine ao.out.mono ?_;rintro e w1 ⟨rfl,rfl⟩;go_wp2_with fail
 refine HU.out.mono ?_;rintro e w1 ⟨rfl,ag⟩;have ab:=ac.below ag;have aj:=then_ aw ag;have aM:p<=w1.heap.size:=by have:=ab.lt;omega
 go_wp2_with fail
 refine(Kaz p p [] U w1 ab (by simp;omega) aM).mono ?_;rintro e w2 ⟨rfl,ah,ap,_⟩;rw[da,aS.out]at ah;have aH:Below w.heap.size w w2:=by rw[HP.out]at aj |-;exact aj.trans ap
 have ad:=an.out w2 aH;rw[HN.out]at ad;have aK:=Jh ad;clear ad ac ab ap ag an;go_wp2_with fail
 refine aK.out.mono ?_;rintro e w3 ⟨rfl,rfl⟩;go_upto_block 0 with fail
 go_cut [] (fun wz=>Bld p p (tabT t) wz/\Below w.heap.size w wz)
 case first=>
  go_wp2_with fail
  go_loopg [14] n (fun g s14 wr=>∃i:Nat,i+g=n/\s14 = .int .i64 (i:Int)/\Bld p p (uintT n++(t.take i).flatMap textT) wr/\Below w.heap.size w wr)
  case atStart=>exact⟨0,by omega,rfl,by simpa using ah,aH⟩
  case round=>
   obtain⟨i,aE,rfl,ac,hB⟩:=hrel;have aD:=Jh aE;clear aE
   by_cases hi:i<n
   .have aC:i<t.length:=by have:=HN.out;omega
    have el:decide ((i:Int)<(n:Int))=true:=by simp;omega
    have aL:decide (i<n)=true:=by simp;omega
    obtain⟨b,aI,rfl,aO,ae⟩:=hs.at_ hi;have ay:wr.cell? ⟨b,aI+i,none⟩=some (txtV t[i]!):=(hB.cell (p:=⟨b,aI+i,none⟩) aO).trans ae;obtain⟨x,hx⟩:∃x,t[i]! = x:=⟨_,rfl⟩;rw[hx]at ay;unfold txtV at ay;obtain⟨X,hX⟩:∃X:ByteArray,(⟨x.toArray⟩:ByteArray)=X:=⟨_,rfl⟩;rw[hX]at ay;have ar:X.data.toList=x:=by rw[<-hX]
    have aa:(uintT n++(t.take i).flatMap textT)++textT x=uintT n++(t.take (i+1)).flatMap textT:=by rw[bY aC,<-jI t i aC,hx,cw];simp
    have ai:(uintT n++(t.take (i+1)).flatMap textT).length<=140737488351232:=by
     have h1:=HZ.out;have h2:t.flatMap textT=(t.take (i+1)).flatMap textT++(t.drop (i+1)).flatMap textT:=by rw[<-cw,List.take_append_drop]
     rw[tabT,HN.out,h2]at h1;simp only[b8]at h1 |-;omega
    rw[<-aa,b8]at ai;have hxl:x.length<=(textT x).length:=by simp[textT]
    have aR:X.size<=140737488351232:=by rw[<-Kai,ar];omega
    have aq:=Kfk X aR wr;rw[ar]at aq;obtain⟨T,hT⟩:∃T:ByteArray,(⟨(textT x).toArray⟩:ByteArray)=T:=⟨_,rfl⟩;have ax:T.data.toList=textT x:=by rw[<-hT]
    have aB:T.size=(textT x).length:=by rw[<-Kai,ax]
    rw[hT]at aq;obtain⟨P0,aA⟩:=jF (uintT n++(t.take i).flatMap textT);rw[aA]at ac aa ai;have aT:=Jh aq;have aJ:=Jh ax;have aP:=Jh aB;have aN:=Jh aa;clear aq ax aB hT aa aA hx hX ar ae;go_wp2_with fail
    refine aT.out.mono ?_;rintro e v1 ⟨rfl,ag⟩;have ab:=ac.below ag;have aj:=then_ hB ag;go_wp2_with fail
    refine(Kaz p p P0 T v1 ab (by have:=aP.out;omega) (by have:=ab.lt;omega)).mono ?_;rintro e v2 ⟨rfl,af,ap,_⟩;rw[aJ.out,aN.out]at af;go_wp2_with fail
    go_roundg (gk - 1)
    case measure=>have:=aD.out;omega
    case rel=>exact⟨i+1,by have:=aD.out;omega,by go_num,af,by rw[HP.out]at aj |-;exact aj.trans ap⟩
   .have el:decide ((i:Int)<(n:Int))=false:=by simp;omega
    have aL:decide (i<n)=false:=by simp;omega
    have ak:uintT n++(t.take i).flatMap textT=tabT t:=by have:=HN.out;rw[cH (by omega),tabT,this]
    rw[ak]at ac;clear ak;go_wp2_with fail
    go_meet
    exact⟨ac,hB⟩
 case rest=>
  obtain⟨ac,hB⟩:=hcut;obtain⟨w6,rfl⟩:=jG wc;go_wp2_with fail
  refine(Kdv p p _ w6 ac (by have:=ac.lt;omega)).mono ?_;rintro e w7 ⟨rfl,aQ⟩;go_wp2_with fail
  go_ret
  refine⟨rfl,?_⟩;rw[HP.out]at hB |-;exact hB.trans aQ
def packS (t:List Txt):List Txt->Option (List UInt8)
 | []=>some []
 | x :: r=>if (numR t x).2≠0 then none else (packS t r).map (uintT (numR t x).1 ++ ·)
def texts (l:List Lb):List Txt:=l.flatMap fun x=>[x.n,x.v]
def packR (t:List Txt) (l:List Lb):List UInt8×Nat:=
 if Kdn l≠0 then ([],Kdn l) else match packS t (texts l) with | none=>([],50) | some b=>(uintT l.length++b,0)
theorem Kjr {t:List Txt}{x:Txt}{r:List Txt}{R:Option (List UInt8)}{D:List UInt8}{k:Nat}(h:R=(packS t (x :: r)).map (D ++ ·)) (hk:numR t x=(k,0)):R=(packS t r).map ((D++uintT k) ++ ·):=by rw[h,packS,jM (by rw[hk];simp),hk,Option.map_map];congr 1;funext b;simp
theorem Ksn {t:List Txt}{x:Txt}{r:List Txt}{R:Option (List UInt8)}{D:List UInt8}{k e:Nat}(h:R=(packS t (x :: r)).map (D ++ ·)) (hk:numR t x=(k,e)) (he:e≠0):R=none:=by rw[h,packS,jN (by rw[hk];exact he)];rfl
theorem Kwd {t:List Txt}{x:Txt}{k e:Nat}(h:numR t x=(k,e)) (he:e≠0):e=50:=by
 unfold numR at h
 split at h
 .injection h with _ h;omega
 .injection h with _ h;exact h.symm
theorem Kpl {t:List Txt}{x:Txt}{k e:Nat}(h:numR t x=(k,e)):k<=t.length:=by
 have:=Knm t x;unfold numR at h
 split at h <;> injection h with h1 h2 <;> omega
theorem Kka (x:Lb) (l:List Lb):texts (x :: l)=x.n :: x.v :: texts l:=rfl
theorem Qja (a b:Value) (w:World):(dB 202 (.agg #[a,b]) (.int .i64 0)).run prog w = .ok a w:=by kernel_rfl
theorem Qjb (a b:Value) (w:World):(dB 202 (.agg #[a,b]) (.int .i64 1)).run prog w = .ok b w:=by kernel_rfl
theorem Qbu (v:Value) (t:List Txt) (l:List Lb) (A:Option Addr) (n c:Nat) (w:World) (s:Txt) (er:Nat) (hr:packR t l=(s,er)) (h:TabAt w v t) (hasc:Asc t) (ht:t.length*16<=140737488351232) (hE:Elems w w.heap.size 2 encLb A n l) (hnc:n<=c) (hnm:n<=140737488351232) (hz:∀x∈l,x.n.length<=140737488351232/\x.v.length<=140737488351232) :
  Calls prog 43 #[v,.slice A n c] w fun e w'=>e = .returned (.tuple #[.string ⟨s.toArray⟩,.int .i64 er])/\Below w.heap.size w w':=by
 have ab:=Kvb l A n c w hE hnc hnm hz;obtain⟨ee,aj⟩:=jF (Kdn l);rw[aj]at ab;rw[packR,aj]at hr;obtain⟨EO,a0⟩:∃S:ByteArray,(⟨(Kgd l).toArray⟩:ByteArray)=S:=⟨_,rfl⟩;rw[a0]at ab;have ag:=Jh ab;clear ab a0 hz
 by_cases h0:ee=0
 .subst h0
  have aY:Kaw l=0:=by
   rcases Kkv l with ⟨h1,h2⟩ | ⟨h1,_⟩ | ⟨h1,_⟩
   .rw[h2]at aj;exact aj
   .exact h1
   .exact h1
  obtain⟨bh,a5,al,_⟩:=Kep aY;have hl:=hE.len;obtain⟨b,off,rfl,_,_⟩:=hE.2 (by omega);obtain⟨R,hR⟩:=jF (packS t (texts l));rw[jM (by simp),hR,hl]at hr;have HR:=Jh hr;have a4:=Jh hR;have HL:=Jh hl;have be:=Jh al;have bc:n<=8:=by omega
  have ba:0<n:=by omega
  have hu:=Kav n (by omega);have aZ:=Kab n;obtain⟨U,hU⟩:∃U:ByteArray,(⟨(uintT n).toArray⟩:ByteArray)=U:=⟨_,rfl⟩;have aG:U.data.toList=uintT n:=by rw[<-hU]
  have hUz:U.size<=11:=by rw[<-Kai,aG];exact aZ.2
  rw[hU]at hu;have HU:=Jh hu;have bd:=Jh aG;clear hr hR hl al aY aj hu hU aG aZ bh a5;go_enter func43,ntmps43
  go_wp2_with fail
  refine ag.out.mono ?_;rintro e w1 ⟨rfl,ay⟩;go_wp2_with fail
  refine(HU.out w1).mono ?_;rintro e w2 ⟨rfl,aw⟩;have bj:=then_ ay aw;clear ag HU ay aw;go_upto_block 0 with fail
  go_cut [8] (fun s8 wz=>∃S:ByteArray,s8 = .string S/\R=some (S.data.toList.drop (uintT n).length)/\S.data.toList=uintT n++S.data.toList.drop (uintT n).length/\Below w.heap.size w wz)
  case first=>
   go_wp2_with fail
   go_loopg [8,29] n (fun g s8 s29 wr=>∃(i:Nat) (S:ByteArray) (D:List UInt8),i+g=n/\s29 = .int .i64 (i:Int)/\s8 = .string S/\S.data.toList=uintT n++D/\S.size<=11+22*i/\R=(packS t (texts (l.drop i))).map (D ++ ·)/\Below w.heap.size w wr)
   case atStart=>exact⟨0,U,[],by omega,rfl,rfl,by rw[bd.out];simp,by omega,by rw[List.drop_zero,a4.out];simp,bj⟩
   case round=>
    obtain⟨i,S,D,a1,rfl,rfl,aW,hSz,aO,hB⟩:=hrel;have aR:=Jh a1;have aE:=Jh aW;have aL:=Jh aO;clear a1 aW aO
    by_cases hi:i<n
    .have aJ:i<l.length:=by have:=HL.out;omega
     have el:decide ((i:Int)<(n:Int))=true:=by simp;omega
     have a2:decide (i<n)=true:=by simp;omega
     obtain⟨hbl,c0,c1⟩:=Kbk hE ba hB i aJ;obtain⟨x,hx⟩:∃x,l[i]! = x:=⟨_,rfl⟩;rw[hx]at c0 c1;obtain⟨N,hN⟩:∃N:ByteArray,(⟨x.n.toArray⟩:ByteArray)=N:=⟨_,rfl⟩;obtain⟨V,hV⟩:∃N:ByteArray,(⟨x.v.toArray⟩:ByteArray)=N:=⟨_,rfl⟩;rw[hN]at c0;rw[hV]at c1;have aN:N.data.toList=x.n:=by rw[<-hN]
     have aQ:V.data.toList=x.v:=by rw[<-hV]
     have aX:l.drop i=x :: l.drop (i+1):=by rw[co aJ,<-hx,jI l i aJ]
     have aM:=aL.out;rw[aX,Kka]at aM;obtain⟨k1,e1,az⟩:∃k e,numR t x.n=(k,e):=⟨_,_,rfl⟩;obtain⟨k2,e2,ax⟩:∃k e,numR t x.v=(k,e):=⟨_,_,rfl⟩;have hs1:=Kpl az;have hs2:=Kpl ax;have a3:=Jh (show numR t N.data.toList=(k1,e1) by rw[aN,az]);have a7:=Jh (show numR t V.data.toList=(k2,e2) by rw[aQ,ax]);have ac:=Jh az;have af:=Jh ax;have ah:=Jh aM;clear hx hN hV aN aQ aX aM az ax aL;have hix:∀(a b:Value) (w:World),(dB 202 (.agg #[a,b]) (.int .i64 0)).run prog w = .ok a w:=Qja;have hiy:∀(a b:Value) (w:World),(dB 202 (.agg #[a,b]) (.int .i64 1)).run prog w = .ok b w:=Qjb;go_upto_region 8 with fail
     have aF:Below w.heap.size w (wr.alloc (.cells #[.string N,.string V] 99)):=hB.alloc hB.size _;have hq:Blk (wr.alloc (.cells #[.string N,.string V] 99)) wr.heap.size 99 #[.string N,.string V]:=Blk.new _ _ _;obtain⟨v1,aP⟩:=jF (wr.alloc (.cells #[.string N,.string V] 99));obtain⟨q,aS⟩:=jF wr.heap.size;rw[aP]at aF hq |-;rw[aS]at hq |-;clear aP aS c0 c1 hB;have q0:_=some (dr N):=hq.cell 0;have q1:_=some (dr V):=hq.cell 1;go_wp2_with fail
     refine wp_loop_rounds 3 ?_;rw[rounds_succ];go_wp2_with fail
     refine(Kll v t N v1 k1 e1 a3.out (h.below aF) hasc ht).mono ?_;rintro e v2 ⟨rfl,aw⟩;have av:=then_ aF aw
     by_cases he1:e1=0
     .subst he1;have aA:=Kav k1 (by omega) v2;have ar:=Kab k1;obtain⟨U1,aI⟩:∃U:ByteArray,(⟨(uintT k1).toArray⟩:ByteArray)=U:=⟨_,rfl⟩;have ae:U1.data.toList=uintT k1:=by rw[<-aI]
      have bi:U1.size<=11:=by rw[<-Kai,ae];exact ar.2
      rw[aI]at aA;have a8:=Jh aA;have aB:=Jh ae;clear aA aI ae ar q0 q1 hq;go_wp2_with fail
      refine a8.out.mono ?_;rintro e v3 ⟨rfl,bg⟩;have am:=then_ av bg;go_wp2_with fail
      rw[rounds_succ];go_wp2_with fail
      refine(Kll v t V v3 k2 e2 a7.out (h.below am) hasc ht).mono ?_;rintro e v4 ⟨rfl,bf⟩;have ap:=then_ am bf
      by_cases he2:e2=0
      .subst he2;have aH:=Kav k2 (by omega) v4;have an:=Kab k2;obtain⟨U2,aC⟩:∃U:ByteArray,(⟨(uintT k2).toArray⟩:ByteArray)=U:=⟨_,rfl⟩;have ai:U2.data.toList=uintT k2:=by rw[<-aC]
       have bb:U2.size<=11:=by rw[<-Kai,ai];exact an.2
       rw[aC]at aH;have a6:=Jh aH;have aK:=Jh ai;clear aH aC ai an;go_wp2_with fail
       refine a6.out.mono ?_;rintro e v5 ⟨rfl,a9⟩;have aD:=then_ ap a9;go_wp2_with fail
       rw[rounds_succ];go_wp2_with fail
       go_roundg (gk - 1)
       case measure=>have:=aR.out;omega
       case rel=>
        refine⟨i+1,_,(D++uintT k1)++uintT k2,by have:=aR.out;omega,by go_num,rfl,?_,?_,Kjr (Kjr ah.out ac.out) af.out,aD⟩
        .simp only[dj,Array.toList_append,aE.out,aB.out,aK.out,List.append_assoc]
        .simp only[dk];omega
      .have ee2:((e2:Int) != 0)=true:=by simp;omega
       have aq:=Ksn (Kjr ah.out ac.out) af.out he2;have aa:=Kwd af.out he2;obtain⟨ak,ad⟩:[]=s/\50=er:=by have:=HR.out;rw[aq]at this;simpa using this
       have HE:=Jh (aa.trans ad);subst ak;clear aq aa ad;go_wp2_with fail
       go_ret2
       exact⟨ret2 rfl (vi (by rw[HE.out])),ap⟩
     .have ee1:((e1:Int) != 0)=true:=by simp;omega
      have aq:=Ksn ah.out ac.out he1;have aa:=Kwd ac.out he1;obtain⟨ak,ad⟩:[]=s/\50=er:=by have:=HR.out;rw[aq]at this;simpa using this
      have HE:=Jh (aa.trans ad);subst ak;clear aq aa ad q0 q1 hq;go_wp2_with fail
      go_ret2
      exact⟨ret2 rfl (vi (by rw[HE.out])),av⟩
    .have el:decide ((i:Int)<(n:Int))=false:=by simp;omega
     have a2:decide (i<n)=false:=by simp;omega
     have ao:R=some D:=by rw[aL.out,ce (by have:=HL.out;omega)];simp[texts,packS]
     have HF:=Jh ao;clear ao;go_wp2_with fail
     go_meet
     refine⟨S,rfl,?_,?_,hB⟩
     .rw[aE.out,HF.out];simp
     .rw[aE.out];simp
  case rest=>
   obtain⟨S,rfl,aV,aT,hB⟩:=hcut;have hr:=HR.out;rw[aV]at hr;obtain⟨ak,ad⟩:uintT n++S.data.toList.drop (uintT n).length=s/\0=er:=by simpa using hr
   have aU:S.data.toList=s:=by rw[<-ak];exact aT
   have HS:=Jh aU;have HE:=Jh ad;clear hr aV aT ak ad aU;go_wp2_with fail
   go_ret2
   exact⟨ret2 (jR dr (Qfa (by rw[HS.out]))) (vi (by rw[<-HE.out];rfl)),hB⟩
 .rw[jN h0]at hr;obtain⟨rfl,rfl⟩:[]=s/\ee=er:=by simpa using hr
  have ee0:((ee:Int) != 0)=true:=by simp;omega
  clear hr aj;go_enter func43,ntmps43
  go_wp2_with fail
  refine ag.out.mono ?_;rintro e w1 ⟨rfl,ay⟩;go_wp2_with fail
  go_ret2
  exact⟨rfl,ay⟩
end
section
open Go.RowKit Go.Sort
attribute [local go_sem ↓] Go.wp_at_zero Go.wp_at_succ
attribute [local go_sem] Later.cell
theorem Knz (x:Txt) (s:ByteArray):dv (⟨x.toArray⟩:ByteArray).toList s.toList=decide (x<s.data.toList):=by rw[bytesLess_eq,df,df]
theorem Kjq {w w1:World}{base:Nat}{e:TypeId}{size:Nat}{v:Value}{n:Nat}{xs:List Value}(h:w.ownsRow base e size v n xs) (hb:Below w.heap.size w w1):w1.ownsRow base e size v n xs:=
 h.kept (row:=none) ⟨hb.os,hb.tape,hb.output,hb.size,fun k hk _=>hb.block k hk⟩ (by cases v.ownBlock <;> simp)
end
section
open Go.RowKit Go.Sort
open Lib renaming hid -> Jh
attribute [local go_sem ↓] Go.wp_at_zero Go.wp_at_succ
attribute [local go_sem] Later.cell
theorem Ksb:(prog.info? 180).map (fun i=>(i.zero,i.size,i.bytes))=some (some (.agg #[.string ⟨#[]⟩,.string ⟨#[]⟩]),2,32):=by kernel_rfl
def RLabs (B:Nat) (w:World) (v:Value) (ys:List Lb):Prop:=w.ownsRow B 180 2 v ys.length (ys.flatMap encLb)
theorem Qhj {l:List Lb}{k i:Nat}(hki:k<i) (hil:i<l.length) {x:Lb}(h:(l.take k).any (fun y=>y.n == x.n)=false) (hk:(l[k]!.n == x.n)=false):(l.take (k+1)).any (fun y=>y.n == x.n)=false:=by rw[bY (by omega),List.any_append,h];rw[jI l k (by omega)]at hk;simp only[List.any_cons,hk,List.any_nil,Bool.or_false]
theorem Kxa {l:List Lb}{k i:Nat}(hki:k<i) (hil:i<l.length) {x:Lb}(hk:(l[k]!.n == x.n)=true):(l.take i).any (fun y=>y.n == x.n)=true:=by rw[cR];refine⟨l[k]!,?_,hk⟩;rw[jI l k (by omega)];exact List.mem_take_iff_getElem.2 ⟨k,by omega,rfl⟩
theorem Kgh {B:Nat}{w:World}{g n cap:Nat}{zs:List Lb}(h:RLabs B w (.slice (some ⟨g,0,none⟩) n cap) zs) (hl:zs.length=n) {k:Nat}(hk:k<n) :
  w.cell? ⟨g,k*2,none⟩=some (.string ⟨zs[k]!.n.toArray⟩)/\w.cell? ⟨g,k*2+1,none⟩=some (.string ⟨zs[k]!.v.toArray⟩):=by
 unfold RLabs at h;rw[hl]at h;refine⟨?_,?_⟩
 .rw[h.cellAt (k*2) (by omega),Kdi zs _ (by omega),show k*2 / 2=k by omega,show k*2 % 2=0 by omega];rfl
 .rw[h.cellAt (k*2+1) (by omega),Kdi zs _ (by omega),show(k*2+1) / 2=k by omega,show(k*2+1) % 2=1 by omega];rfl
theorem Kfw {B:Nat}{w:World}{g n cap:Nat}{zs:List Lb}(h:RLabs B w (.slice (some ⟨g,0,none⟩) n cap) zs) (hl:zs.length=n) (k:Nat):w.frozen? ⟨g,k,none⟩=false:=by unfold RLabs at h;rw[hl]at h;exact h.frozenAt k
theorem Kve:∀(zs:List Lb) (k:Nat) (x:Lb),k<zs.length->((zs.flatMap encLb).set (k*2) (.string ⟨x.n.toArray⟩)).set (k*2+1) (.string ⟨x.v.toArray⟩)=(zs.set k x).flatMap encLb
 | [],_,_,h=>by simp at h
 | z :: zs,0,x,_=>by simp[encLb]
 | z :: zs,k+1,x,h=>by
  have:=Kve zs k x (by simpa using h);rw[cd,List.set_cons_succ,cd,<-this];rw[cJ _ _ (by simp[encLb];omega),cJ _ _ (by simp[encLb];omega)];simp only[encLb,ci,List.length_nil];congr 2
  .congr 1;omega
  .omega
theorem Kwm {B:Nat}{w:World}{g n cap:Nat}{zs:List Lb}(h:RLabs B w (.slice (some ⟨g,0,none⟩) n cap) zs) (hl:zs.length=n) {k:Nat}(hk:k<n) (x:Lb) (hB:B<=g) :
  RLabs B ((w.setCell ⟨g,k*2,none⟩ (.string ⟨x.n.toArray⟩)).setCell ⟨g,k*2+1,none⟩ (.string ⟨x.v.toArray⟩)) (.slice (some ⟨g,0,none⟩) n cap) (zs.set k x)/\
   Below B w ((w.setCell ⟨g,k*2,none⟩ (.string ⟨x.n.toArray⟩)).setCell ⟨g,k*2+1,none⟩ (.string ⟨x.v.toArray⟩))/\
   ∀p,p≠g->∀(e:TypeId) (cs:Array Value),Blk w p e cs->Blk ((w.setCell ⟨g,k*2,none⟩ (.string ⟨x.n.toArray⟩)).setCell ⟨g,k*2+1,none⟩ (.string ⟨x.v.toArray⟩)) p e cs:=by
 unfold RLabs at h |-;rw[hl]at h;obtain⟨h1,g1⟩:=h.stored (k*2) (.string ⟨x.n.toArray⟩);obtain⟨h2,g2⟩:=h1.stored (k*2+1) (.string ⟨x.v.toArray⟩);rw[Kve zs k x (by omega)]at h2;refine⟨by rw[cI,hl];exact h2,?_,?_⟩
 .refine ⟨g2.os.trans g1.os,g2.tape.trans g1.tape,g2.output.trans g1.output,by have:=g1.size;have:=g2.size;omega,fun q hq=>?_⟩;have aa:q<w.heap.size:=by have:=(h.lt g rfl).2;omega
  rw[g2.block q (by have:=g1.size;omega) (fun e=>by injection e with e;omega),g1.block q aa (fun e=>by injection e with e;omega)]
 .intro q hq e cs hb;exact(hb.far (p:=⟨g,k*2,none⟩) hq _).far (p:=⟨g,k*2+1,none⟩) hq _
theorem Kzb (l:List Lb) (A:Option Addr) (n c:Nat) (w:World) (hE:Elems w w.heap.size 2 encLb A n l) (hnm:n<=140737488351232) (hz:∀x∈l,x.n.length<=140737488351232/\x.v.length<=140737488351232) :
  Calls prog 142 #[.slice A n c] w (Kzp w (Kaw l)):=by
 obtain⟨i0,bO,bW,bD,bH⟩:=info_parts Ksb;have hl:=hE.len
 by_cases h0:n=0
 .subst h0;have hm:Kaw l=43:=by rw[Kaw,jN hl]
  rw[hm];clear hm;go_enter func142,ntmps142
  go_wp2_with fail
  go_ret2
  exact⟨⟨_,rfl⟩,Below.refl _ _⟩
 .have e0:((n:Int) == 0)=false:=by rw[jO];omega
  by_cases h8:8<n
  .have hm:Kaw l=44:=by rw[Kaw,jM (by omega),jN (by omega)]
   rw[hm];have e8:decide ((8:Int)<(n:Int))=true:=by simp;omega
   clear hm;go_enter func142,ntmps142
   go_wp2_with fail
   go_ret2
   exact⟨⟨_,rfl⟩,Below.refl _ _⟩
  .have e8:decide ((8:Int)<(n:Int))=false:=by simp;omega
   obtain⟨R,hR⟩:=jF (Kcj [] l);have hm:Kaw l=R:=by rw[Kaw,jM (by omega),jM (by omega),hR]
   rw[hm];obtain⟨b,off,rfl,hbl,_⟩:=hE.2 (by omega);have HR:=Jh hR;have HZ:=Jh hz;have aD:=Jh hl;have aI:0<n:=by omega
   clear hm hR hz hl h0;go_enter func142,ntmps142
   go_wp2_with fail
   clear e0 e8;go_loopg [4,5] n (fun g s4 s5 wr=>∃(i:Nat) (ys:List Lb) (v4:Value),v4=s4/\i+g=n/\s5 = .int .i64 (i:Int)/\ys.length=i/\RLabs w.heap.size wr v4 ys/\Kcj (l.take i) (l.drop i)=R/\Below w.heap.size w wr)
   case atStart=>exact⟨0,[],_,rfl,by omega,rfl,rfl,World.ownsRow_nil _ _ _ _,by simpa using HR.out,Below.refl _ _⟩
   case round=>
    obtain⟨i,ys,v4,rfl,bw,rfl,bo,aC,aw,hB⟩:=hrel;have be:=Jh bw;have a9:=Jh aw;have aO:=Jh bo;clear bw aw bo
    by_cases hi:i<n
    .have el:decide ((i:Int)<(n:Int))=true:=by simp;omega
     have bB:decide (i<n)=true:=by simp;omega
     have ai:i<l.length:=by have:=aD.out;omega
     obtain⟨_,c0,c1⟩:=Kbk hE aI hB i ai;obtain⟨x,hx⟩:∃x,l[i]! = x:=⟨_,rfl⟩;have aG:l[i]=x:=by rw[<-hx,jI l i ai]
     have bq:x∈l:=by rw[<-aG];exact cB ai
     have aW:=HZ.out x bq;have aw:=a9.out;rw[co ai,aG,Kcj]at aw;rw[hx]at c0 c1;obtain⟨N,hN⟩:∃N:ByteArray,(⟨x.n.toArray⟩:ByteArray)=N:=⟨_,rfl⟩;obtain⟨V,hV⟩:∃N:ByteArray,(⟨x.v.toArray⟩:ByteArray)=N:=⟨_,rfl⟩;rw[hN]at c0;rw[hV]at c1;have aK:N.data.toList=x.n:=by rw[<-hN]
     have aQ:V.data.toList=x.v:=by rw[<-hV]
     have bM:N.size<=140737488351232:=by rw[<-Kai,aK];exact aW.1
     have bU:V.size<=140737488351232:=by rw[<-Kai,aQ];exact aW.2
     have hbr:b<wr.heap.size:=by have:=hB.size;omega
     obtain⟨rn,ba⟩:=jF (fitN x.n);obtain⟨rv,aZ⟩:=jF (fitV x.v);obtain⟨ra,aM⟩:=jF ((l.take i).any (fun y=>y.n == x.n));rw[ba,aZ,aM]at aw;have bQ:=Jh (show fitN N.data.toList=rn by rw[aK,ba]);have bC:=Jh (show fitV V.data.toList=rv by rw[aQ,aZ]);have bl:=Jh aM;have an:=Jh aw;have HN:=Jh hN;have HV:=Jh hV;have HX:=Jh aG;clear aw hx aG hN hV aK aQ aW bq ba aZ aM a9
     have af:ra=false->Kcj (l.take (i+1)) (l.drop (i+1))=R\/rn=false\/rv=false:=by
      intro h;have:=an.out;rw[h]at this;rw[bY ai,HX.out];cases rn <;> cases rv <;> simp at this |-
      exact this
     have al:=Jh af;clear af;go_upto_block 1 with fail
     go_cut [4] (fun s4 wz=>∃(zs:List Lb) (v5:Value),v5=s4/\zs.length=i+1/\Below w.heap.size w wz/\RLabs w.heap.size wz v5 zs/\Kcj (l.take (i+1)) (l.drop (i+1))=R)
     case first=>
      go_wp2_with fail
      refine(Kra N rn bQ.out bM wr).mono ?_;rintro e w2 ⟨rfl,rfl⟩;go_wp2_with fail
      refine(Kpt V rv bC.out bU wr).mono ?_;rintro e w2 ⟨rfl,rfl⟩
      cases rn with
      | false=>
       obtain rfl:40=R:=by have:=an.out;simpa using this
       go_wp2_with fail
       go_ret2
       exact⟨⟨_,rfl⟩,hB⟩
      | true=>
       cases rv with
       | false=>
        obtain rfl:41=R:=by have:=an.out;simpa using this
        go_wp2_with fail
        go_ret2
        exact⟨⟨_,rfl⟩,hB⟩
       | true=>
        go_upto_block 2 with fail
        go_cut [] (fun wz=>Below w.heap.size w wz/\RLabs w.heap.size wz v4 ys/\ra=false)
        case first=>
         go_wp2_with fail
         go_loopg [8] i (fun g s8 wz=>∃k:Nat,k+g=i/\s8 = .int .i64 (k:Int)/\Below w.heap.size w wz/\RLabs w.heap.size wz v4 ys/\(l.take k).any (fun y=>y.n == x.n)=false)
         case atStart=>exact⟨0,by omega,rfl,hB,aC,by simp⟩
         case round=>
          obtain⟨k,a6,rfl,aq,ab,aE⟩:=hrel;have aU:=Jh a6;have ay:=Jh aE;clear a6 aE
          by_cases hk:k<i
          .have ek:decide ((k:Int)<(i:Int))=true:=by simp;omega
           have bi:decide (k<i)=true:=by simp;omega
           obtain⟨_,d0,_⟩:=Kbk hE aI aq k (by omega);obtain⟨_,f0,_⟩:=Kbk hE aI aq i ai;rw[jI l i ai,HX.out,HN.out]at f0;obtain⟨q,hq⟩:=jF (l[k]!.n == x.n);obtain⟨K,hK⟩:∃N:ByteArray,(⟨l[k]!.n.toArray⟩:ByteArray)=N:=⟨_,rfl⟩
           have heq:(K.toList == N.toList)=q:=by rw[<-hK,<-HN.out,df,df,<-hq]
           rw[hK]at d0;have HQ:=Jh hq;have hbz:b<wr.heap.size:=by have:=aq.size;omega
           have hkn:(k:Int)<(n:Int):=by omega
           clear hq hK c0 c1;go_upto_region 18 with fail
           refine Kaa (by kernel_rfl) (by kernel_rfl) ?_
           repeat (go_big_quiet_step (fail))
           refine dF ?_;rintro w5 ⟨⟨_,ah⟩,rfl⟩;have ap:=then_ aq ah;have ad:RLabs w.heap.size w5 v4 ys:=Kjq ab ah
           cases q with
           | true=>
            obtain rfl:true=ra:=(Kxa hk ai HQ.out).symm.trans bl.out;obtain rfl:42=R:=by have:=an.out;simpa using this
            go_wp2_with fail
            go_ret2
            exact⟨⟨_,rfl⟩,ap⟩
           | false=>
            go_wp2_with fail
            go_roundg (gk - 1)
            case measure=>have:=aU.out;omega
            case rel=>exact⟨k+1,by have:=aU.out;omega,by go_num,ap,ad,Qhj hk ai ay.out HQ.out⟩
          .have ek:decide ((k:Int)<(i:Int))=false:=by simp;omega
           have bi:decide (k<i)=false:=by simp;omega
           have a5:k=i:=by have:=aU.out;omega
           have ao:ra=false:=by rw[<-bl.out,<-ay.out,a5]
           have bb:=Jh ao;clear a5 ao;go_wp2_with fail
           go_meet
           exact⟨aq,ab,bb.out⟩
        case rest=>
         obtain⟨az,ar,ao⟩:=hcut;obtain⟨w1,rfl⟩:=jG wc;obtain rfl:=ao;have af:Kcj (l.take (i+1)) (l.drop (i+1))=R:=by simpa using al.out rfl
         have av:=Jh af;clear af al;obtain⟨_,d0,d1⟩:=Kbk hE aI az i ai;rw[jI l i ai,HX.out,HN.out]at d0;rw[jI l i ai,HX.out,HV.out]at d1;have hb1:b<w1.heap.size:=by have:=az.size;omega
         have aj:w1.ownsRow w.heap.size 180 2 v4 i (ys.flatMap encLb):=by have:=ar;unfold RLabs at this;rw[aO.out]at this;exact this
         clear c0 c1 hB aC ar;go_wp2_with (at_builtin;refine dE _ rfl _ _ 89 rfl w.heap.size 180 i0 (.agg #[.string ⟨#[]⟩,.string ⟨#[]⟩]) 2 32 underlying89 bO bW bD bH rfl (by decide) _ _ _ rfl (aj.alloc _) ⟨w1.heap.size,0,none⟩ 1 1 [.string N,.string V] rfl rfl ?p1 ?p2 ?p3 ?p4 ?p5 ?_)
         case p1=>exact Kam (l:=[.string N,.string V]) (Blk.new w1 _ _)
         case p2=>intro u hu;simp at hu;rcases hu with rfl | rfl <;> rfl
         case p3=>unfold maxLen;omega
         case p4=>omega
         case p5=>have:=az.size;simp;omega
         intro v' w2 hown' hgrow hx9 hat;have bX:Below w.heap.size w w2:=Kii az az.size aj hgrow
         have ak:RLabs w.heap.size w2 v' (ys ++ [x]):=by
          have e1:(ys ++ [x]).flatMap encLb=ys.flatMap encLb ++ [.string N,.string V]:=by rw[cw];simp[encLb,HN.out,HV.out]
          unfold RLabs;rw[e1,b8,aO.out];exact hown'
         clear hown' hgrow hx9 hat aj;obtain⟨zs,a3⟩:=jF (ys ++ [x]);have ax:zs.length=i+1:=by rw[<-a3,b8,aO.out];rfl
         rw[a3]at ak;have ae:=ak;unfold RLabs at ae;rw[ax]at ae
         obtain⟨g0,cap,rfl,bd⟩:∃g cap,v' = .slice (some ⟨g,0,none⟩) (i+1) cap/\w.heap.size<=g:=by
          rcases ae.2 with ⟨_,h⟩ | ⟨g,cap,cur,rfl,h,_⟩
          .omega
          .exact ⟨g,cap,rfl,h⟩
         have bP:=Jh ax;clear a3 ax ae;go_wp2_with fail
         go_loopg [9] (i+1) (fun g s9 wz=>∃(k:Nat) (zs:List Lb),s9 = .int .i64 (k:Int)/\k<g/\k<=i/\zs.length=i+1/\Below w.heap.size w wz/\RLabs w.heap.size wz (.slice (some ⟨g0,0,none⟩) ((i+1:Nat)) cap) zs)
         case atStart=>exact⟨i,zs,by go_num,by omega,by omega,bP.out,bX,ak⟩
         case round=>
          obtain⟨k,zs,rfl,a6,a5,ax,aq,ab⟩:=hrel;have am:=Jh ax;clear ax
          by_cases hk:0<k
          .obtain ⟨j,rfl⟩:∃j,k=j+1:=⟨k - 1,by omega⟩;obtain⟨a0,a1⟩:=Kgh ab am.out (k:=j+1) (by omega);obtain⟨b0,b1⟩:=Kgh ab am.out (k:=j) (by omega);obtain⟨y,hy⟩:∃x,zs[j+1]! = x:=⟨_,rfl⟩;obtain⟨z,aT⟩:∃x,zs[j]! = x:=⟨_,rfl⟩;rw[hy]at a0 a1;rw[aT]at b0 b1;obtain⟨Y0,a4⟩:∃N:ByteArray,(⟨y.n.toArray⟩:ByteArray)=N:=⟨_,rfl⟩;obtain⟨Y1,aX⟩:∃N:ByteArray,(⟨y.v.toArray⟩:ByteArray)=N:=⟨_,rfl⟩;obtain⟨Z0,aR⟩:∃N:ByteArray,(⟨z.n.toArray⟩:ByteArray)=N:=⟨_,rfl⟩;obtain⟨Z1,aL⟩:∃N:ByteArray,(⟨z.v.toArray⟩:ByteArray)=N:=⟨_,rfl⟩;rw[a4]at a0;rw[aX]at a1;rw[aR]at b0;rw[aL]at b1;obtain⟨q,hls⟩:=jF (dv Y0.toList Z0.toList);have bJ:=Jh a4;have bz:=Jh aX;have bs:=Jh aR;have bj:=Jh aL;have hgz:g0<wr.heap.size:=Kdt a0;have bx:=Jh aT;clear hy aT a4 aX aR aL d0 d1;go_upto_region 22 with fail
           have z0:decide ((0:Int)<((j+1:Nat):Int))=true:=by rw[jH];omega
           have z1:IntKind.i64.wrap (((j+1:Nat):Int) - 1)=(j:Int):=by rw[show((j+1:Nat):Int) - 1=(j:Int) by omega];exact dD _ (by omega)
           have z2:(0:Int)<=((j+1:Nat):Int):=by omega
           have z3:((j+1:Nat):Int).toNat=j+1:=by omega
           have z4:((j+1:Nat):Int)<((i+1:Nat):Int):=by omega
           have z5:(j:Int)<((i+1:Nat):Int):=by omega
           refine Kaa (by kernel_rfl) (by kernel_rfl) ?_
           repeat (go_big_quiet_step (fail))
           refine dF ?_;rintro w5 ⟨⟨_,ah⟩,rfl⟩;have ap:=then_ aq ah;have ad:RLabs w.heap.size w5 _ zs:=Kjq ab ah;have bg:=later ah a0;have bA:=later ah a1;have bS:=later ah b0;have bG:=later ah b1;clear a0 a1 b0 b1 ab ah
           cases q with
           | false=>
            go_wp2_with fail
            go_meet
            exact⟨zs,_,rfl,am.out,ap,ad,av.out⟩
           | true=>
            go_upto_region 25 with fail
            have aJ:Blk (w5.alloc (.cells #[.string Y0,.string Y1] 180)) w5.heap.size 180 #[.string Y0,.string Y1]:=Blk.new _ _ _;have a8:Below w.heap.size w (w5.alloc (.cells #[.string Y0,.string Y1] 180)):=ap.alloc ap.size _;have ac:RLabs w.heap.size (w5.alloc (.cells #[.string Y0,.string Y1] 180)) _ zs:=dC ad _;have aA:w5.heap.size≠g0:=by have:=Kdt bg;simp at this;omega
            obtain⟨w6,bn⟩:=jF (w5.alloc (.cells #[.string Y0,.string Y1] 180));obtain⟨p6,bc⟩:=jF w5.heap.size;rw[bn]at aJ a8 ac |-;rw[bc]at aJ aA |-;clear bn bc bg bA bS bG ad ap;obtain⟨bt,bk⟩:=Kgh ac am.out (k:=j) (by omega);obtain⟨bR,bT⟩:=Kgh ac am.out (k:=j+1) (by omega);rw[bx.out,bs.out]at bt;rw[bx.out,bj.out]at bk;have f0:=Kfw ac am.out ((j+1)*2);have f1:=Kfw ac am.out ((j+1)*2+1);go_upto_region 26 with fail
            obtain⟨aa,aS,aN⟩:=Kwm ac am.out (k:=j+1) (by omega) z bd;rw[bs.out,bj.out]at aa aS aN;have aH:=aN p6 aA _ _ aJ;have aV:=a8.trans aS;obtain⟨w7,bf⟩:=jF ((w6.setCell ⟨g0,(j+1)*2,none⟩ (.string Z0)).setCell ⟨g0,(j+1)*2+1,none⟩ (.string Z1));rw[bf]at aa aH aV |-;clear bf aN aS ac aJ a8 bR bT bt bk f0 f1;obtain⟨us,aY⟩:=jF (zs.set (j+1) z);have bm:us.length=i+1:=by rw[<-aY,cI,am.out]
            rw[aY]at aa;have aB:=Jh bm;clear aY bm;have q0:_=some (dr Y0):=aH.cell 0;have q1:_=some (dr Y1):=aH.cell 1;obtain⟨bK,bI⟩:=Kgh aa aB.out (k:=j) (by omega);have f0:=Kfw aa aB.out (j*2);have f1:=Kfw aa aB.out (j*2+1);go_upto_region 23 with fail
            obtain⟨ag,a7,_⟩:=Kwm aa aB.out (k:=j) (by omega) y bd;rw[bJ.out,bz.out]at ag a7;have bv:=aV.trans a7;obtain⟨w8,bh⟩:=jF ((w7.setCell ⟨g0,j*2,none⟩ (.string Y0)).setCell ⟨g0,j*2+1,none⟩ (.string Y1));rw[bh]at ag bv |-;obtain⟨vs,a2⟩:=jF (us.set j y);have br:vs.length=i+1:=by rw[<-a2,cI,aB.out]
            rw[a2]at ag;have bV:=Jh br;clear a2 br bh a7 aa aH aV q0 q1 bK bI f0 f1;go_wp2_with fail
            go_roundg (gk - 1)
            case measure=>omega
            case rel=>exact⟨j,vs,by go_num,by omega,by omega,bV.out,bv,ag⟩
          .have ek:decide ((0:Int)<(k:Int))=false:=by simp;omega
           have bi:decide (0<k)=false:=by simp;omega
           go_upto_region 22 with fail
           refine Kaa (by kernel_rfl) (by kernel_rfl) ?_
           repeat (go_big_quiet_step (fail))
           refine dF ?_;rintro w5 ⟨⟨_,ah⟩,rfl⟩;have ap:=then_ aq ah;have ad:RLabs w.heap.size w5 _ zs:=Kjq ab ah;go_wp2_with fail
           go_meet
           exact⟨zs,_,rfl,am.out,ap,ad,av.out⟩
     case rest=>
      obtain⟨bE,v5,rfl,aF,bL,ae,bp⟩:=hcut;have aP:=Jh aF;have bN:=Jh bp;clear aF bp;go_wp2_with fail
      go_roundg (gk - 1)
      case measure=>have:=be.out;omega
      case rel=>exact⟨i+1,bE,_,rfl,by have:=be.out;omega,by go_num,aP.out,ae,bN.out,bL⟩
    .have bF:R=0:=by
      have:=a9.out;rw[ce (by have:=aD.out;omega),Kcj]at this;exact this.symm
     subst bF;have el:decide ((i:Int)<(n:Int))=false:=by simp;omega
     have bB:decide (i<n)=false:=by simp;omega
     go_wp2_with fail
     go_ret2
     exact⟨⟨_,rfl⟩,hB⟩
theorem Kwp (l:List Lb) (A:Option Addr) (n c:Nat) (w:World) (r:Bool) (hr:Kcm l=r) (hE:Elems w w.heap.size 2 encLb A n l) (hnm:n<=140737488351232) (hz:∀x∈l,x.n.length<=140737488351232/\x.v.length<=140737488351232) :
  Calls prog 70 #[.slice A n c] w fun e w'=>e = .returned (.bool r)/\Below w.heap.size w w':=by
 obtain⟨m,hm⟩:=jF (Kaw l);have af:=Kzb l A n c w hE hnm hz;rw[hm]at af;have an:=Jh af;have HR:=Jh hr;have HM:=Jh hm;clear af hr hm hz
 by_cases h0:m=0
 .subst h0;have ak:=Kep HM.out;have hl:=hE.len;have hn8:n<=8:=by omega
  have ag:0<n:=by omega
  have ae:r=true↔Khr l:=by rw[<-HR.out,Kgz];exact⟨fun h=>h.2,fun h=>⟨HM.out,h⟩⟩
  have ai:r=true->∀i,i+1<l.length->l[i]!.n<l[i+1]!.n:=by
   intro h i hi;have hp:=(Klp ak.2.2.2).1 (ae.1 h);have h1:i+1<(names l).length:=by simpa[names]using hi
   have:=b4.1 hp i (i+1) (by omega) h1 (by omega);simp only[names,cU]at this;rw[jI l (i+1) hi,jI l i (by omega)];exact this
  have aq:=Jh ae;have aw:=Jh ai;have HL:=Jh hl;obtain⟨b,off,rfl,hbl,_⟩:=hE.2 ag;clear ae ak ai hl;go_enter func70,ntmps70
  go_wp2_with fail
  refine an.out.mono ?_;rintro e w1 ⟨⟨v,rfl⟩,ad⟩;go_wp2_with fail
  go_loopg [5] n (fun g s5 wr=>∃i:Nat,s5 = .int .i64 ((i:Int)+1)/\i+1+g=n+1/\Below w.heap.size w wr/\∀j:Nat,j<i->l[j]!.n<l[j+1]!.n)
  case atStart=>exact⟨0,rfl,by omega,ad,fun j hj=>by omega⟩
  case round=>
   obtain⟨i,rfl,am,hB,aa⟩:=hrel;have al:=Jh am;have ab:=Jh aa;clear aa am
   by_cases hi:i+1<n
   .have el:decide ((i:Int)+1<(n:Int))=true:=by simp;omega
    have aj:i+1<l.length:=by have:=HL.out;omega
    obtain⟨_,c0,_⟩:=Kbk hE ag hB (i+1) aj;obtain⟨_,d0,_⟩:=Kbk hE ag hB i (by omega);obtain⟨x,hx⟩:=jF (l[i+1]!.n);obtain⟨y,hy⟩:=jF (l[i]!.n);rw[hx]at c0;rw[hy]at d0;obtain⟨X,hX⟩:∃N:ByteArray,(⟨x.toArray⟩:ByteArray)=N:=⟨_,rfl⟩;obtain⟨Y,hY⟩:∃N:ByteArray,(⟨y.toArray⟩:ByteArray)=N:=⟨_,rfl⟩;obtain⟨q1,ao⟩:=jF (dv X.toList Y.toList);obtain⟨q2,av⟩:=jF (X.toList == Y.toList)
    have hq:(q1 || q2)=true↔¬y<x:=by
     have h1:q1=decide (x<y):=by rw[<-ao,<-hX,Knz,<-hY]
     have h2:q2=decide (x=y):=by rw[<-av,<-hX,<-hY,df,df,cr];simp
     rw[h1,h2,Bool.or_eq_true,jH,jH];constructor
     .rintro (h | rfl)
      .exact cD h
      .exact cA _
     .intro h
      by_cases h3:x<y
      .exact .inl h3
      .exact .inr (Krl h3 h)
    rw[hX]at c0;rw[hY]at d0;have HQ:=Jh hq;have HX:=Jh hx;have HY:=Jh hy;have hbr:b<wr.heap.size:=by have:=hB.size;omega
    clear hx hy hX hY hq;go_upto_region 5 with fail
    have z1:IntKind.i64.wrap ((i:Int)+1 - 1)=(i:Int):=by rw[show(i:Int)+1 - 1=(i:Int) by omega];exact dD _ (by omega)
    have z2:(0:Int)<=(i:Int)+1:=by omega
    have z3:((i:Int)+1).toNat=i+1:=by omega
    have z4:(i:Int)+1<(n:Int):=by omega
    have z5:(i:Int)<(n:Int):=by omega
    refine Kaa (by kernel_rfl) (by kernel_rfl) ?_
    repeat (go_big_quiet_step (fail))
    refine dF ?_;rintro w3 ⟨⟨_,ar⟩,rfl⟩;clear z1 z2 z3 z4 z5;have ac:Below w.heap.size w w3:=then_ hB ar
    have ah:(q1 || q2)=true->r=false:=by intro h;rw[<-cC];intro hr;have:=aw.out hr i aj;rw[HX.out,HY.out]at this;exact HQ.out.1 h this
    cases q1 with
    | true=>
     obtain rfl:=ah rfl
     cases q2 with
     | true=>
      go_wp2_with fail
      go_ret
      exact⟨rfl,ac⟩
     | false=>
      go_wp2_with fail
      go_ret
      exact⟨rfl,ac⟩
    | false=>
     cases q2 with
     | true=>
      obtain rfl:=ah rfl;go_wp2_with fail
      go_ret
      exact⟨rfl,ac⟩
     | false=>
      clear ah;go_wp2_with fail
      go_roundg (gk - 1)
      case measure=>have:=al.out;omega
      case rel=>
       refine⟨i+1,by go_num,by have:=al.out;omega,ac,fun j hj=>?_⟩
       by_cases e:j=i
       .subst e;rw[HX.out,HY.out];apply dt;intro h;exact jS (HQ.out.2 h) (by simp)
       .exact ab.out j (by omega)
   .have el:decide ((i:Int)+1<(n:Int))=false:=by simp;omega
    have ap:r=true:=aq.out.2 (fun j hj=>cD (ab.out j (by have:=HL.out;omega)));subst ap;go_wp2_with fail
    go_ret
    exact⟨rfl,hB⟩
 .have ax:r=false:=by
   rw[<-HR.out,<-cC,Kgz];rintro⟨h,_⟩;exact h0 (by rw[<-HM.out];exact h)
  subst ax;have em:((m:Int) == 0)=false:=by rw[jO];omega
  clear h0;go_enter func70,ntmps70
  go_wp2_with fail
  refine an.out.mono ?_;rintro e w1 ⟨⟨v,rfl⟩,ad⟩;go_wp2_with fail
  go_loopg [5] 1 (fun g s5 wr=>wr=w1/\s5 = .int .i64 1/\g=1)
  case atStart=>exact⟨rfl,rfl,rfl⟩
  case round=>
   obtain⟨rfl,rfl,_⟩:=hrel
   by_cases hn:1<n
   .have el:decide ((1:Int)<(n:Int))=true:=by simp;omega
    go_wp2_with fail
    go_ret
    exact⟨rfl,ad⟩
   .have el:decide ((1:Int)<(n:Int))=false:=by simp;omega
    go_wp2_with fail
    go_ret
    exact⟨rfl,ad⟩
end
end Go.Proofs.YtdoiekknhnbepaaGreatDoor
namespace Go.Proofs
open Go.Shelf
def Tryz.keys108_ren:Go.Shelf.Ren:=⟨fun | 7=>108 | 10=>167 | n=>n,fun | 23=>191 | 26=>9 | 3=>3 | 28=>194 | 0=>0 | 27=>193 | 33=>262 | 4=>4 | n=>n,fun | n=>n⟩
theorem Tryz.keys108:Go.Proofs.SlLaysZ.n7 Tryz.prog Tryz.keys108_ren:={
 mixed:=by kernel_rfl
 f7:=⟨Tryz.f108.name,by decide,Tryz.func108.trans (congrArg some (by kernel_rfl))⟩
 f10:=⟨Tryz.f167.name,by decide,Tryz.func167.trans (congrArg some (by kernel_rfl))⟩
 t0:=Tryz.underlying0
 a0:=Tryz.isAgg0
 z0:=Tryz.sizeOf0
 v0:=Tryz.zeroValue0
 t4:=Tryz.underlying4
 a4:=Tryz.isAgg4
 z4:=Tryz.sizeOf4
 v4:=Tryz.zeroValue4
 t23:=Tryz.underlying191
 a23:=Tryz.isAgg191
 z23:=Tryz.sizeOf191
 v23:=Tryz.zeroValue191
 t26:=Tryz.underlying9
 a26:=Tryz.isAgg9
 z26:=Tryz.sizeOf9
 v26:=Tryz.zeroValue9
 t27:=Tryz.underlying193
 a27:=Tryz.isAgg193
 z27:=Tryz.sizeOf193
 v27:=Tryz.zeroValue193
 t28:=Tryz.underlying194
 a28:=Tryz.isAgg194
 z28:=Tryz.sizeOf194
 v28:=Tryz.zeroValue194
 t33:=Tryz.underlying262
 a33:=Tryz.isAgg262
 z33:=Tryz.sizeOf262
 v33:=Tryz.zeroValue262 }
def Tryz.sorted107_ren:Go.Shelf.Ren:=⟨fun | 6=>107 | 8=>165 | 9=>166 | 11=>195 | 13=>174 | 12=>196 | 23=>211 | 24=>212 | 14=>233 | 15=>234 | 16=>235 | 17=>236 | 18=>237 | 19=>238 | 20=>197 | 21=>239 | 22=>240 | 25=>258 | 26=>247 | 27=>248 | 28=>259 | 29=>260 | 30=>241 | 31=>266 | n=>n,fun | 26=>9 | 28=>194 | 24=>118 | 0=>0 | 3=>3 | 37=>200 | 48=>74 | 50=>100 | 4=>4 | 40=>303 | 39=>302 | 45=>265 | 5=>5 | 9=>9 | 51=>337 | 55=>340 | 57=>349 | 58=>350 | 33=>262 | n=>n,fun | n=>n⟩
theorem Tryz.sorted107:Go.Proofs.SlLaysZ.n6 Tryz.prog Tryz.sorted107_ren:={
 mixed:=by kernel_rfl
 f6:=⟨Tryz.f107.name,by decide,Tryz.func107.trans (congrArg some (by kernel_rfl))⟩
 f8:=⟨Tryz.f165.name,by decide,Tryz.func165.trans (congrArg some (by kernel_rfl))⟩
 f11:=⟨Tryz.f195.name,by decide,Tryz.func195.trans (congrArg some (by kernel_rfl))⟩
 t0:=Tryz.underlying0
 a0:=Tryz.isAgg0
 z0:=Tryz.sizeOf0
 v0:=Tryz.zeroValue0
 t24:=Tryz.underlying118
 a24:=Tryz.isAgg118
 z24:=Tryz.sizeOf118
 v24:=Tryz.zeroValue118
 t26:=Tryz.underlying9
 a26:=Tryz.isAgg9
 z26:=Tryz.sizeOf9
 v26:=Tryz.zeroValue9
 t28:=Tryz.underlying194
 a28:=Tryz.isAgg194
 z28:=Tryz.sizeOf194
 v28:=Tryz.zeroValue194
 i26:=by kernel_rfl }
def Tryz.sort166_ren:Go.Shelf.Ren:=⟨fun | 6=>166 | 8=>174 | 9=>196 | 19=>211 | 20=>212 | 21=>233 | 22=>234 | 23=>235 | 24=>236 | 25=>237 | 26=>238 | 27=>197 | 28=>239 | 29=>240 | 36=>258 | 31=>247 | 32=>248 | 37=>259 | 38=>260 | 39=>241 | 41=>266 | n=>n,fun | 27=>118 | 29=>9 | 3=>3 | 32=>200 | 26=>118 | 0=>0 | 44=>74 | 46=>100 | 4=>4 | 36=>303 | 35=>302 | 41=>265 | 5=>5 | 9=>9 | 53=>337 | 57=>340 | 63=>349 | 64=>350 | n=>n,fun | n=>n⟩
theorem Tryz.sort166:Go.Proofs.SlLaysM.n6 Tryz.prog Tryz.sort166_ren:={
 mixed:=by kernel_rfl
 f6:=⟨Tryz.f166.name,by decide,Tryz.func166.trans (congrArg some (by kernel_rfl))⟩
 f8:=Tryz.func174.trans (congrArg some (by kernel_rfl))
 f9:=⟨Tryz.f196.name,by decide,Tryz.func196.trans (congrArg some (by kernel_rfl))⟩
 f19:=Tryz.func211.trans (congrArg some (by kernel_rfl))
 f20:=Tryz.func212.trans (congrArg some (by kernel_rfl))
 f21:=⟨Tryz.f233.name,by decide,Tryz.func233.trans (congrArg some (by kernel_rfl))⟩
 f22:=⟨Tryz.f234.name,by decide,Tryz.func234.trans (congrArg some (by kernel_rfl))⟩
 f23:=⟨Tryz.f235.name,by decide,Tryz.func235.trans (congrArg some (by kernel_rfl))⟩
 f24:=⟨Tryz.f236.name,by decide,Tryz.func236.trans (congrArg some (by kernel_rfl))⟩
 f25:=⟨Tryz.f237.name,by decide,Tryz.func237.trans (congrArg some (by kernel_rfl))⟩
 f26:=⟨Tryz.f238.name,by decide,Tryz.func238.trans (congrArg some (by kernel_rfl))⟩
 f27:=⟨Tryz.f197.name,by decide,Tryz.func197.trans (congrArg some (by kernel_rfl))⟩
 f28:=⟨Tryz.f239.name,by decide,Tryz.func239.trans (congrArg some (by kernel_rfl))⟩
 f29:=⟨Tryz.f240.name,by decide,Tryz.func240.trans (congrArg some (by kernel_rfl))⟩
 f31:=Tryz.func247.trans (congrArg some (by kernel_rfl))
 f32:=Tryz.func248.trans (congrArg some (by kernel_rfl))
 f36:=⟨Tryz.f258.name,by decide,Tryz.func258.trans (congrArg some (by kernel_rfl))⟩
 f37:=⟨Tryz.f259.name,by decide,Tryz.func259.trans (congrArg some (by kernel_rfl))⟩
 f38:=⟨Tryz.f260.name,by decide,Tryz.func260.trans (congrArg some (by kernel_rfl))⟩
 f39:=⟨Tryz.f241.name,by decide,Tryz.func241.trans (congrArg some (by kernel_rfl))⟩
 f41:=⟨Tryz.f266.name,by decide,Tryz.func266.trans (congrArg some (by kernel_rfl))⟩
 t0:=Tryz.underlying0
 a0:=Tryz.isAgg0
 z0:=Tryz.sizeOf0
 v0:=Tryz.zeroValue0
 t3:=Tryz.underlying3
 a3:=Tryz.isAgg3
 z3:=Tryz.sizeOf3
 v3:=Tryz.zeroValue3
 t4:=Tryz.underlying4
 a4:=Tryz.isAgg4
 z4:=Tryz.sizeOf4
 v4:=Tryz.zeroValue4
 t5:=Tryz.underlying5
 a5:=Tryz.isAgg5
 z5:=Tryz.sizeOf5
 v5:=Tryz.zeroValue5
 t9:=Tryz.underlying9
 a9:=Tryz.isAgg9
 z9:=Tryz.sizeOf9
 v9:=Tryz.zeroValue9
 t26:=Tryz.underlying118
 a26:=Tryz.isAgg118
 z26:=Tryz.sizeOf118
 v26:=Tryz.zeroValue118
 t27:=Tryz.underlying118
 a27:=Tryz.isAgg118
 z27:=Tryz.sizeOf118
 v27:=Tryz.zeroValue118
 t29:=Tryz.underlying9
 a29:=Tryz.isAgg9
 z29:=Tryz.sizeOf9
 v29:=Tryz.zeroValue9
 t32:=Tryz.underlying200
 a32:=Tryz.isAgg200
 z32:=Tryz.sizeOf200
 v32:=Tryz.zeroValue200
 t35:=Tryz.underlying302
 a35:=Tryz.isAgg302
 z35:=Tryz.sizeOf302
 v35:=Tryz.zeroValue302
 t36:=Tryz.underlying303
 a36:=Tryz.isAgg303
 z36:=Tryz.sizeOf303
 v36:=Tryz.zeroValue303
 t41:=Tryz.underlying265
 a41:=Tryz.isAgg265
 z41:=Tryz.sizeOf265
 v41:=Tryz.zeroValue265
 t44:=Tryz.underlying74
 a44:=Tryz.isAgg74
 z44:=Tryz.sizeOf74
 v44:=Tryz.zeroValue74
 t46:=Tryz.underlying100
 a46:=Tryz.isAgg100
 z46:=Tryz.sizeOf100
 v46:=Tryz.zeroValue100
 t53:=Tryz.underlying337
 a53:=Tryz.isAgg337
 z53:=Tryz.sizeOf337
 v53:=Tryz.zeroValue337
 t57:=Tryz.underlying340
 a57:=Tryz.isAgg340
 z57:=Tryz.sizeOf340
 v57:=Tryz.zeroValue340
 t63:=Tryz.underlying349
 a63:=Tryz.isAgg349
 z63:=Tryz.sizeOf349
 v63:=Tryz.zeroValue349
 t64:=Tryz.underlying350
 a64:=Tryz.isAgg350
 z64:=Tryz.sizeOf350
 v64:=Tryz.zeroValue350 }
open Go.RowKit Go.Maps Go.Sort Go.Shelf
theorem Tryz.sorts107 (m:Nat):AnyZ.SortsIn Tryz.prog Tryz.sorted107_ren Fence.wide m:=
 ⟨fun blk off cap ss W hH hblk hsz=>callsIn_wide.2 (AnyM.slices_Sort_string Tryz.sort166 blk off cap ss W hH hblk hsz),
  fun p cap W=>callsIn_wide.2 (AnyM.slices_Sort_string_none Tryz.sort166 p cap W)⟩
theorem Tryz.maps_Keys_108 (mb:Option Nat) (W:World):CallsIn Fence.wide 5 Tryz.prog 108 #[.map mb] W fun e w'=>e = .returned (.func (.func 167) #[] #[.pointer (some ⟨W.heap.size,0,none⟩)])/\w'=W.alloc (.cells #[.map mb] 191):=
 AnyZ.keys_in Tryz.keys108 Fence.wide 5 trivial rfl mb W
theorem Tryz.slices_Sorted_keys_107_108 {H:Type}(b nn:Nat) (D0:DataW H) (R:Value->Option (DataW H×List MemPlace)) (w:World) (hown:w.ownsMap Tryz.prog 9 R b nn D0) (hmax:Maps.size D0<=maxLen) (hbytes:Maps.size D0*16<=140737488355328) :
  CallsIn Fence.wide 5 Tryz.prog 107 #[.func (.func 167) #[] #[.pointer (some ⟨w.heap.size,0,none⟩)]] (w.alloc (.cells #[.map (some b)] 191)) fun e w'=>∃(v:Value) (ss:List (List UInt8)),e = .returned v/\ss.Perm (strKeys D0)/\
   w'.ownsRow (w.alloc (.cells #[.map (some b)] 191)).heap.size 9 1 v ss.length ((ss.mergeSort (fun x y=>decide (x<=y))).map encStr)/\(v = .slice none 0 0↔ss = [])/\Below (w.alloc (.cells #[.map (some b)] 191)).heap.size (w.alloc (.cells #[.map (some b)] 191)) w':=by
 have ac:=hown.lt
 have ab:SeqGives Fence.wide 2 Tryz.prog 167 #[.pointer (some ⟨w.heap.size,0,none⟩)] encStr (fun ss=>ss.Perm (strKeys D0)) (Maps.size D0) (w.alloc (.cells #[.map (some b)] 191)):=
  AnyZ.keys_gives (ρ:=Tryz.keys108_ren) { Tryz.keys108 with } Fence.wide _ trivial rfl (by omega) w.heap.size b nn D0 _ (by simp) (by simp) (by
   obtain⟨es,aa,hb,Ft,hs,hD⟩:=hown
   exact⟨es,aa,(Below.heap_alloc _ _ b ac).trans hb,Ft,hs,hD⟩)
 exact AnyZ.sorted_in Tryz.sorted107 Fence.wide 5 trivial trivial trivial trivial rfl (by omega) (Tryz.sorts107 _) (enters_of Tryz.func166 (by kernel_rfl) rfl) 167 #[.pointer (some ⟨w.heap.size,0,none⟩)] trivial (enters_of Tryz.func167 (by kernel_rfl) rfl) _ _ hmax hbytes _ ab
end Go.Proofs
