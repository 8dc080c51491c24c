/- Merged (what the claim wants of): Words, EncPlain, SymPlain, LabPlain, Builder, Region, EncWalksA, EncWalksB, EncWalksC, LabWalksA, Shelf, LabWalksB. -/
import Derived.Handy
import Derived.Lib.Hide
import Derived.Deep.AppendLies
import Derived.Lib.SlicesCompact
import Derived.Shelf.Spec.SearchS
import Derived.Shelf.Strings.BuilderK
import Derived.Test.YtdoiekknhnbepaaGreatDoorProg
import Derived.StillTail
import Derived.Deep.RegionHeld3
import Derived.Deep.DrawnRows
import Derived.Deep.DeepCutAuto
import Derived.WalkSpells
import Derived.WalkLawsBesides
import Derived.Deep.CutBlock
import Derived.Shelf.SlicesE.Clone
import Derived.Shelf.SlicesQ.IndexFunc
import Derived.Shelf.SlSortCmp.SmallK
import Derived.Shelf.Small.Strs
import Derived.Shelf.SortM.Plain
import Derived.Shelf.SortM.SortNone
set_option linter.unusedVariables false
set_option linter.unusedSimpArgs false
set_option maxRecDepth 1000000
set_option maxHeartbeats 8000000
namespace Go.Proofs.YtdoiekknhnbepaaGreatDoor
open List renaming getElem?_eq_some_iff->a1,getElem?_eq_getElem->a2,mem_singleton->a6,mem_cons->a7,not_lt->ba,pairwise_cons->bb,getElem?_append_right->be,getElem?_append_left->bk,pairwise_iff_getElem->bl,getElem?_take->bp,getElem?_drop->bt,mem_append->bv,length->bw
open Lib renaming byteCells->bx,compareBytes->bz,compactUpTo->bA,hid->bB,BuilderAtF->bC,strCells->bD,compact->bE,keeps->bF
open UInt8 renaming ofNat->bG,toNat_ofNat'->bH,toNat_lt->bI,ofNat_toNat->bJ,not_lt->bK
open Region renaming ready->bL,lexTailB->bM,lexHead->bN,chainB->bO,sinkB->bP,binds->bQ,Mode->bR
open _root_.Array renaming getElem?_eq_none->bS,getElem?_modify->bT
open _root_.ByteArray renaming toList_eq->bU,mk->bV,size->bW
open Go.Proofs.Lays renaming n166->bX,n167->bY,n169->bZ,n240->b0
open Classical renaming byContradiction->b1
open Value renaming string->b2,int->b3
open Ending renaming returned->b4
open Tryz
open Bool renaming and_eq_true->aQ,eq_iff_iff->aR,false_eq_true->bg,and_assoc->bn,true_and->bs
open List renaming length_cons->aS,length_append->aT,flatMap_cons->aU,lt_irrefl->aV,drop_of_length_le->aW,eq_nil_of_length_eq_zero->aY,drop_eq_getElem_cons->aZ,getElem_mem->a8,getElem_cons_succ->bc,size_toArray->bi,le_antisymm->bj,le_trans->bo,lt_asymm->bq,lt_trans->br
open Nat renaming le_refl->aX,zero_add->bd,add_sub_cancel->bf,lt_or_ge->bh,lt_of_not_le->bm
set_option linter.defProp false
theorem iZ.{u} {α:Sort u} (a:α):∃x,a=x:=⟨a,rfl⟩
theorem i7.{u} {α:Sort u} (a:α):∃x,x=a:=⟨a,rfl⟩
def i8:=@decide_eq_true_eq
def i9:=@getElem!_pos
def ja:=@decide_eq_false
def jb:=@decide_eq_false_iff_not
def jd:=@decide_eq_true
def je:=@if_neg
def jf:=@if_pos
def jg:=@beq_eq_false_iff_ne
def jh:=@of_decide_eq_true
def ji:=@of_decide_eq_false
def jk:=@congrArg
def jl:=@absurd
section
open Go.RowKit
theorem Qie {k:IntKind} {a b:Int} (h:a=b):b4 (.int k a) = .returned (.int k b):=by rw[h]
theorem vi {k:IntKind} {a b:Int} (h:a=b):b3 k a=b3 k b:=by rw[h]
theorem ret2 {a b c d:Value} (h:a=c) (h':b=d):b4 (.tuple #[a,b]) = .returned (.tuple #[c,d]):=by rw[h,h']
theorem Qgm {a b:Bool} (h:a=b):b4 (.bool a) = .returned (.bool b):=by rw[h]
section
variable {B : Nat} {ex : List Nat} {a w w' : World}
end
theorem Kdv {w:World} {a:Addr} {v:Value} (h:w.cell? a=some v):a.block < w.heap.size:=by
 rcases bh a.block w.heap.size with hlt | hge
 .exact hlt
 .unfold World.cell? at h;rw[bS hge] at h;cases h
theorem later {w w':World} (hb:Below w.heap.size w w') {a:Addr} {v:Value} (h:w.cell? a=some v):w'.cell? a=some v:=(hb.cell (Kdv h)).trans h
theorem then_ {w w1 w2:World} (h:Below w.heap.size w w1) (h':Below w1.heap.size w1 w2):Below w.heap.size w w2:=h.trans (h'.mono h.size)
def Blk (w:World) (g:Nat) (t:TypeId) (cs:Array Value):Prop:=w.heap[g]? = some (.cells cs t (0,0))
section
variable {w w' : World} {g : Nat} {t : TypeId} {cs : Array Value}
theorem Blk.lt (h:Blk w g t cs):g < w.heap.size:=by
 rcases bh g w.heap.size with hlt | hge
 .exact hlt
 .unfold Blk at h;rw[bS hge] at h;cases h
theorem Blk.cell (h:Blk w g t cs) (i:Nat):w.cell? ⟨g,i,none⟩=cs[i]?:=cell_of_row w g i cs t (0,0) h
theorem Blk.frozen (h:Blk w g t cs) (i:Nat):w.frozen? ⟨g,i,none⟩=false:=by unfold Blk at h;simp[World.frozen?,h]
theorem Blk.new (w:World) (t:TypeId) (cs:Array Value):Blk (w.alloc (.cells cs t)) w.heap.size t cs:=heap_alloc_new w _
theorem Blk.newAt (h:g=w.heap.size):Blk (w.alloc (.cells cs t)) g t cs:=by subst h;exact Blk.new w t cs
theorem Blk.alloc (h:Blk w g t cs) (o:Obj):Blk (w.alloc o) g t cs:=(Below.heap_alloc w o g h.lt).trans h
theorem Blk.set_ (h:Blk w g t cs) (i:Nat) (u:Value):Blk (w.setCell ⟨g,i,none⟩ u) g t (cs.setIfInBounds i u):=by unfold Blk at h |-;simp[World.setCell,bT,h]
theorem Blk.far (h:Blk w g t cs) {p:Addr} (hp:g≠p.block) (u:Value):Blk (w.setCell p u) g t cs:=(Below.heap_setCell w p u g hp).trans h
theorem Blk.below {B:Nat} (h:Blk w g t cs) (hb:Below B w w') (hg:g < B):Blk w' g t cs:=(hb.block g hg).trans h
theorem Blk.grown {row:Option Nat} (h:Blk w g t cs) (hb:w.grownBy w' row) (hg:some g≠row):Blk w' g t cs:=(hb.block g h.lt hg).trans h
theorem Blk.ne_ {g':Nat} {t':TypeId} {cs':Array Value} (h:Blk w g t cs) (h':Blk w g' t' cs') (hne:t≠t'):g≠g':=by rintro rfl;unfold Blk at h h';rw[h] at h';injection h' with h';injection h' with _ ht;exact hne ht
end
theorem Kao {w:World} {g:Nat} {t:TypeId} {l:List Value} (h:Blk w g t l.toArray):∀j u,l[j]? = some u->w.cell? ((⟨g,0,none⟩:Addr).add j)=some u:=by
 intro j u hu;have e:(⟨g,0,none⟩:Addr).add j=⟨g,j,none⟩:=by unfold Addr.add;split <;> simp_all
 rw[e,h.cell];simpa using hu
def Elems {α : Type} (w:World) (B sz:Nat) (enc:α->List Value) (A:Option Addr) (n:Nat) (xs:List α):Prop:=
 xs.length=n/\(0 < n->∃b off,A=some ⟨b,off,none⟩/\b < B/\∀i x,xs[i]? = some x->∀j v,(enc x)[j]? = some v->w.cell? ⟨b,off+i*sz+j,none⟩=some v)
section
variable {α : Type} {w w' : World} {B B' sz n : Nat} {enc : α -> List Value} {A : Option Addr} {xs : List α}
theorem Elems.keep (h:Elems w B sz enc A n xs) (hk:∀p:Addr,p.block < B->w'.cell? p=w.cell? p):Elems w' B sz enc A n xs:=
 ⟨h.1,fun hn=>by
  obtain ⟨b,aa,e,hb,hc⟩:=h.2 hn
  exact ⟨b,aa,e,hb,fun i x hx j v hv=>(hk _ hb).trans (hc i x hx j v hv)⟩⟩
theorem Elems.more (h:Elems w B sz enc A n xs) (hB:B<=B'):Elems w B' sz enc A n xs:=
 ⟨h.1,fun hn=>by
  obtain ⟨b,aa,e,hb,hc⟩:=h.2 hn
  exact ⟨b,aa,e,by omega,hc⟩⟩
theorem Elems.below (h:Elems w B sz enc A n xs) (hb:Below B w w'):Elems w' B sz enc A n xs:=h.keep fun _ hp=>hb.cell hp
theorem Elems.nil_:Elems w B sz enc A 0 []:=⟨rfl,fun h=>jl h (by omega)⟩
theorem Elems.of_own {base:Nat} {e:TypeId} {v:Value} {ys:List Value} (hsz:∀x∈xs,(enc x).length=sz) (hys:ys=xs.flatMap enc) (h:w.ownsRow base e sz v n ys) (hn:xs.length=n) :
  ∃A c,v = .slice A n c/\Elems w w.heap.size sz enc A n xs/\(∀a,A=some a->base<=a.block)/\n<=c:=by
 rcases h.2 with ⟨rfl,rfl⟩ | ⟨g,cap,cur,rfl,hb,hh,hnc,_,hsize,htk⟩
 .exact ⟨none,0,rfl,⟨hn,fun h=>jl h (by omega)⟩,(fun a h=>by cases h),aX _⟩
 .refine ⟨_,cap,rfl,⟨hn,fun _=>⟨g,0,rfl,?_,fun i x hx j v hv=>?_⟩⟩,(fun a h=>by injection h with h;subst h;exact hb),hnc⟩
  .rcases bh g w.heap.size with hlt | hge
   .exact hlt
   .rw[bS hge] at hh;cases hh
  .have aa:w.cell? ⟨g,0+i*sz+j,none⟩=cur[0+i*sz+j]?:=cell_of_row w g _ cur e (0,0) hh;rw[aa]
   have ab:∀(l:List α) (i:Nat),(∀x∈l,(enc x).length=sz)->l[i]? = some x->(l.flatMap enc)[i*sz+j]? = some v:=by
    intro l
    induction l with
    | nil=>intro i _ h;simp at h
    | cons y l ih=>
     intro i hl hi
     cases i with
     | zero=>
      simp only[List.getElem?_cons_zero,Option.some.injEq] at hi;subst hi;have hj:j < (enc y).length:=(a1.1 hv).1;rw[aU,bk (by omega)];simpa using hv
     | succ i=>
      rw[aU,be (by rw[hl y (by simp),Nat.succ_mul];omega),hl y (by simp),show (i+1)*sz+j - sz=i*sz+j by rw[Nat.succ_mul];omega];exact ih i (fun z hz=>hl z (by simp[hz])) (by simpa using hi)
   have h1:=ab xs i hsz hx;rw[<-hys,<-htk,bp] at h1
   split at h1
   .simpa using h1
   .cases h1
theorem Elems.cut (h:Elems w B sz enc A n xs) {k cap:Nat} (hk:k<=n) (hc:n<=cap) :
  Elems w B sz enc (if cap=k then A else A.map (·.add (k*sz))) (n - k) (xs.drop k):=by
 refine ⟨by rw[List.length_drop,h.1],fun hn=>?_⟩;obtain ⟨b,ab,rfl,hb,aa⟩:=h.2 (by omega);rw[je (by omega)];refine ⟨b,ab+k*sz,by simp only[Option.map_some,Addr.add];split <;> simp_all,hb,fun i x hx j v hv=>?_⟩;rw[bt] at hx;have:=aa (k+i) x hx j v hv;rw[Nat.add_mul] at this;rw[<-this];congr 2;omega
theorem Elems.len (h:Elems w B sz enc A n xs):xs.length=n:=h.1
end
end
section
def uintF:Nat->Nat->List UInt8
 | 0,v=>[bG v]
 | f+1,v=>if 127 < v then bG (v % 128+128) :: uintF f (v / 128) else [bG v]
def uintT (v:Nat):List UInt8:=uintF 10 v
theorem Kps:∀(f v:Nat),v < 128 ^ (f+1)->uintF f v=uintF (f+1) v
 | 0,v,h=>by rw[uintF,uintF,je (by omega)]
 | f+1,v,h=>by
  rw[uintF,uintF]
  split
  .rw[Kps f (v / 128) (by rw[Nat.pow_succ] at h;omega)]
  .rfl
theorem Qch {v:Nat} (h:v < 2 ^ 64) (h1:127 < v):uintT v=bG (v % 128+128) :: uintT (v / 128):=by
 unfold uintT
 conv=>lhs;rw[uintF,jf h1]
 rw[Kps 9 (v / 128) (by
  have:(2:Nat) ^ 64<=128 ^ (9+1)*128:=by decide
  omega)]
theorem Qey {v:Nat} (h1:v<=127):uintT v = [bG v]:=by rw[uintT,uintF,je (by omega)]
theorem Kso:∀(f v:Nat),1<=(uintF f v).length/\(uintF f v).length<=f+1
 | 0,v=>by simp[uintF]
 | f+1,v=>by
  rw[uintF]
  split
  .have:=Kso f (v / 128);simp only[aS];omega
  .simp
theorem Kab (v:Nat):1<=(uintT v).length/\(uintT v).length<=11:=Kso 10 v
def textT (s:List UInt8):List UInt8:=uintT s.length++s
abbrev Txt:=List UInt8
def Asc (t:List Txt):Prop:=t.Pairwise (· < ·)
def IsTab (l t:List Txt):Prop:=Asc t/\∀x,x∈t↔x∈l
theorem Kqz {a b:Txt} (h:¬a < b) (h':¬b < a):a=b:=bj (ba.1 h') (ba.1 h)
theorem Qex {a b c:Txt} (h:a<=b) (h':b < c):a < c:=by
 by_cases e:a < c
 .exact e
 .have:=ba.1 e;exact jl h' (ba.2 (bo this h))
theorem Ksn {a b:Txt} (h:a<=b) (h':b≠a):a < b:=by
 by_cases e:a < b
 .exact e
 .exact jl (bj (ba.1 e) h) h'
theorem Kzh:∀{t t':List Txt},Asc t->Asc t'->(∀x,x∈t↔x∈t')->t=t'
 | [],[],_,_,_=>rfl
 | [],b :: s',_,_,h=>by have:=(h b).2 (by simp);simp at this
 | a :: s,[],_,_,h=>by have:=(h a).1 (by simp);simp at this
 | a :: s,b :: s',h1,h2,h=>by
  have ha:=bb.1 h1;have hb:=bb.1 h2
  have aa:a=b:=by
   apply Kqz
   .intro hlt;rcases a7.1 ((h a).1 (by simp)) with e | e
    .exact aV a (by rw[e] at hlt |-;exact hlt)
    .exact bq hlt (hb.1 a e)
   .intro hlt;rcases a7.1 ((h b).2 (by simp)) with e | e
    .exact aV b (by rw[e] at hlt |-;exact hlt)
    .exact bq hlt (ha.1 b e)
  subst aa;rw[Kzh ha.2 hb.2 fun x=>?_];constructor
  .intro hx;rcases a7.1 ((h x).1 (by simp[hx])) with e | e
   .subst e;exact jl (ha.1 x hx) (aV x)
   .exact e
  .intro hx;rcases a7.1 ((h x).2 (by simp[hx])) with e | e
   .subst e;exact jl (hb.1 x hx) (aV x)
   .exact e
theorem IsTab.one {l t t':List Txt} (h:IsTab l t) (h':IsTab l t'):t=t':=Kzh h.1 h'.1 fun x=>(h.2 x).trans (h'.2 x).symm
theorem Kko (d:Array Txt) (hs:∀j,j+1 < d.size->d[j]!<=d[j+1]!):∀m,m<=d.size->
  Asc (bA d m)/\(∀x,x∈bA d m↔∃j,j < m/\d[j]! = x)/\(0 < m->∀x∈bA d m,x<=d[m - 1]!)
 | 0,_=>⟨List.Pairwise.nil,fun x=>by simp[bA],fun h=>by omega⟩
 | m+1,hm=>by
  obtain ⟨h1,h2,h3⟩:=Kko d hs m (by omega);rw[Lib.compactUpTo_succ]
  by_cases hk:m=0\/d[m]!≠d[m - 1]!
  .have ab:bF d m=true:=by
    rcases hk with rfl | h
    .simp[bF]
    .exact Lib.keeps_pos h
   rw[ab,jf rfl]
   have aa:∀x∈bA d m,x < d[m]!:=by
    intro x hx;rcases Nat.eq_zero_or_pos m with rfl | hp
    .simp[bA] at hx
    .have h4:=h3 hp x hx;have h5:=hs (m - 1) (by omega);rw[show m - 1+1=m by omega] at h5;exact Qex h4 (Ksn h5 (by rcases hk with h | h;omega;exact h))
   refine ⟨?_,fun x=>?_,fun _ x hx=>?_⟩
   .rw[Asc,List.pairwise_append];exact ⟨h1,List.pairwise_singleton _ _,fun a ha b hb=>by rw[a6.1 hb];exact aa a ha⟩
   .rw[bv,h2,a6];constructor
    .rintro (⟨j,hj,e⟩ | e)
     .exact ⟨j,by omega,e⟩
     .exact ⟨m,by omega,e.symm⟩
    .rintro ⟨j,hj,e⟩
     by_cases hjm:j=m
     .subst hjm;exact .inr e.symm
     .exact .inl ⟨j,by omega,e⟩
   .rw[bf];rcases bv.1 hx with h | h
    .exact List.le_of_lt (aa x h)
    .rw[a6.1 h];exact List.le_refl _
  .have hm0:m≠0:=fun h=>hk (.inl h)
   have he:d[m]! = d[m - 1]!:=by apply b1;intro h;exact hk (.inr h)
   rw[Lib.keeps_neg (by omega) he];simp only[bg,if_false,List.append_nil];refine ⟨h1,fun x=>?_,fun _ x hx=>?_⟩
   .rw[h2];constructor
    .rintro ⟨j,hj,e⟩;exact ⟨j,by omega,e⟩
    .rintro ⟨j,hj,e⟩
     by_cases hjm:j=m
     .subst hjm;exact ⟨j - 1,by omega,by rw[<-he];exact e⟩
     .exact ⟨j,by omega,e⟩
   .rw[bf,he];exact h3 (by omega) x hx
theorem Qgx (l:List Txt):IsTab l (bE (l.mergeSort fun x y=>decide (x<=y))):=by
 obtain ⟨z,hz⟩:=iZ (l.mergeSort (fun x y=>decide (x<=y)))
 have ab:z.Pairwise (fun a b=>a<=b):=by have:=List.pairwise_mergeSort (le:=fun x y:Txt=>decide (x<=y)) (by intro a b c;simp;exact bo) (by intro a b;simp;exact List.le_total a b) l;rw[hz] at this;simpa using this
 have ad:∀x,x∈z↔x∈l:=by intro x;rw[<-hz];exact List.mem_mergeSort
 rw[hz];have aa:∀j,j < z.length->z.toArray[j]! = z[j]!:=fun j _=>by simp
 have hs:∀j,j+1 < z.toArray.size->z.toArray[j]!<=z.toArray[j+1]!:=by
  intro j hj;have ac:j+1 < z.length:=by simpa using hj
  rw[aa j (by omega),aa (j+1) ac,i9 z j (by omega),i9 z (j+1) ac];exact bl.1 ab j (j+1) (by omega) ac (by omega)
 obtain ⟨h1,h2,_⟩:=Kko z.toArray hs z.length (by simp);refine ⟨h1,fun x=>?_⟩;rw[bE,h2,<-ad];constructor
 .rintro ⟨j,hj,e⟩;rw[aa j hj,i9 z j hj] at e;rw[<-e];exact a8 hj
 .intro hx;obtain ⟨j,hj,e⟩:=List.getElem_of_mem hx;exact ⟨j,hj,by rw[aa j hj,i9 z j hj];exact e⟩
def below (t:List Txt) (s:Txt):Nat:=t.countP fun x=>decide (x < s)
theorem Knd (t:List Txt) (s:Txt):below t s<=t.length:=List.countP_le_length
theorem Ker:∀{t:List Txt} (_:Asc t) (s:Txt) (i:Nat) (h:i < t.length),(t[i] < s↔i < below t s)
 | a :: t,h,s,i,hi=>by
  have ha:=bb.1 h;unfold below;rw[List.countP_cons]
  by_cases has:a < s
  .simp only[has,decide_true,if_true]
   cases i with
   | zero=>simp[has]
   | succ i=>
    have ih:=Ker ha.2 s i (by simpa using hi);unfold below at ih;simp only[bc];rw[ih];omega
  .have hz:t.countP (fun x=>decide (x < s))=0:=by
    rw[List.countP_eq_zero];intro x hx;have:=ha.1 x hx;simp only[i8];intro hxs;exact has (br this hxs)
   rw[hz];simp only[has,decide_false,bg,if_false,bd,Nat.not_lt_zero,iff_false]
   cases i with
   | zero=>exact has
   | succ i=>
    simp only[bc];intro hxs;exact has (br (ha.1 _ (a8 _)) hxs)
theorem Qfe {t:List Txt} (h:Asc t) {s:Txt} {i:Nat} (hi:t[i]? = some s):below t s=i:=by
 obtain ⟨hl,e⟩:=a1.1 hi;have h1:=Ker h s i hl;rw[e] at h1;have h2:¬i < below t s:=fun hh=>aV s (h1.2 hh)
 apply Nat.le_antisymm (by
  apply b1
  intro hgt;exact h2 (by omega))
 apply b1;intro hlt;have hb:below t s < i:=by omega
 have h3:=Ker h s (below t s) (by omega)
 have h4:t[below t s] < s:=by have:=bl.1 h (below t s) i (by omega) hl hb;rw[e] at this;exact this
 have:=h3.1 h4;omega
def numR (t:List Txt) (s:Txt):Nat×Nat:=if t[below t s]? = some s then (below t s,0) else (0,50)
theorem Qfi {t:List Txt} (h:Asc t) (s:Txt) (lt:Nat->Bool) (hlt:∀i (hi:i < t.length),lt i=decide (t[i] < s)) (hout:∀i,t.length<=i->lt i=false):Lib.bsGo lt t.length 0 t.length=below t s:=by
 apply Lib.bsGo_spec lt (below t s)
 .intro i hi;have hl:i < t.length:=Nat.lt_of_lt_of_le hi (Knd t s);rw[hlt i hl,i8];exact (Ker h s i hl).2 hi
 .intro i hi
  by_cases hl:i < t.length
  .rw[hlt i hl,jb];intro hh;have:=(Ker h s i hl).1 hh;omega
  .exact hout i (by omega)
 .omega
 .omega
 .exact Knd t s
def Qiv (b:UInt8):Bool:=decide (48<=b.toNat) && decide (b.toNat<=57)
def Qhv (b:UInt8):Bool:=(decide (97<=b.toNat) && decide (b.toNat<=122)) || (decide (65<=b.toNat) && decide (b.toNat<=90))
def okB (d:Bool) (b:UInt8):Bool:=(d && Qiv b) || (b.toNat == 95) || Qhv b
def allOk:Bool->List UInt8->Bool
 | _,[]=>true
 | d,b :: l=>okB d b && allOk true l
def fitN (s:Txt):Bool:=allOk false s && decide (1<=s.length) && decide (s.length<=32)
def fitV (s:Txt):Bool:=decide (1<=s.length) && decide (s.length<=64)
structure Lb where
 n:Txt
 v:Txt
instance:Inhabited Lb:=⟨⟨[],[]⟩⟩
def names (l:List Lb):List Txt:=l.map Lb.n
def Kci:List Lb->List Lb->Nat
 | _,[]=>0
 | pre,x :: r=>if fitN x.n=false then 40 else if fitV x.v=false then 41 else if pre.any (fun y=>y.n == x.n) then 42 else Kci (pre ++ [x]) r
def Kaw (l:List Lb):Nat:=if l.length=0 then 43 else if 8 < l.length then 44 else Kci [] l
def Kdo (l:List Lb):Nat:=if Kaw l≠0 then Kaw l else if (names l).Pairwise (· < ·) then 0 else 42
def labT (x:Lb):List UInt8:=textT x.n++textT x.v
def encL (l:List Lb):List UInt8:=uintT l.length++l.flatMap labT
def Kfz (l:List Lb):List UInt8:=if Kdo l=0 then encL l else []
theorem Kjr:∀{pre l:List Lb},Kci pre l=0->(∀x∈l,fitN x.n=true/\fitV x.v=true)
 | _,[],_=>by simp
 | pre,x :: r,h=>by
  rw[Kci] at h
  split at h
  .omega
  .split at h
   .omega
   .split at h
    .omega
    .rename_i h1 h2 _
     have ih:=Kjr h;intro y hy;rcases a7.1 hy with rfl | hy
     .exact ⟨by simpa using h1,by simpa using h2⟩
     .exact ih y hy
theorem Kkf:∀{pre l:List Lb},Kci pre l=0->(names l).Nodup/\∀x∈l,∀y∈pre,y.n≠x.n
 | _,[],_=>by simp[names]
 | pre,x :: r,h=>by
  rw[Kci] at h
  split at h
  .omega
  .split at h
   .omega
   .split at h
    .omega
    .rename_i hany
     obtain ⟨h1,h2⟩:=Kkf h
     have hx:∀y∈pre,y.n≠x.n:=by intro y hy e;apply hany;rw[List.any_eq_true];exact ⟨y,hy,by simp[e]⟩
     refine ⟨?_,?_⟩
     .rw[names,List.map_cons,List.nodup_cons];refine ⟨?_,h1⟩;intro hm;obtain ⟨z,hz,e⟩:=List.mem_map.1 hm;exact h2 z hz x (by simp) e.symm
     .intro z hz y hy;rcases a7.1 hz with rfl | hz
      .exact hx y hy
      .exact h2 z hz y (by simp[hy])
theorem Kep {l:List Lb} (h:Kaw l=0):l.length≠0/\l.length<=8/\(∀x∈l,fitN x.n=true/\fitV x.v=true)/\(names l).Nodup:=by
 unfold Kaw at h
 split at h
 .omega
 .split at h
  .omega
  .exact ⟨by omega,by omega,Kjr h,(Kkf h).1⟩
theorem Qiu (a b:Txt):bz a b < 0↔a < b:=by
 induction a generalizing b with
 | nil=>
  cases b with
  | nil=>simp[bz]
  | cons y b=>simp[bz]
 | cons x a ih=>
  cases b with
  | nil=>simp[bz]
  | cons y b=>
   rw[bz,List.cons_lt_cons_iff]
   by_cases h1:x < y
   .simp[h1]
   .by_cases h2:y < x
    .simp only[h1,h2,if_true,if_false,false_or];constructor
     .intro h;omega
     .rintro ⟨rfl,_⟩;exact jl h2 h1
    .have e:x=y:=by
      apply UInt8.le_antisymm
      .exact bK.1 h2
      .exact bK.1 h1
     simp only[h1,h2,if_false,false_or];rw[ih];simp[e]
end
section
open Go.Shelf Go.RowKit
def bren:Go.Shelf.Ren:=⟨fun | 166=>40 | 167=>113 | 169=>48 | 240=>109 | 276=>168 | n=>n,fun | 0=>0 | 3=>3 | 4=>4 | 5=>5 | 9=>9 | 20=>20 | 37=>76 | 70=>107 | 72=>109 | 75=>111 | 76=>112 | 80=>114 | 127=>215 | 164=>263 | n=>n,fun n=>n⟩
theorem Qfg:bX prog bren:={
 mixed:=by kernel_rfl
 f166:=func40.trans (jk some (by kernel_rfl))
 f240:=func109.trans (jk some (by kernel_rfl))
 f276:=func168.trans (jk some (by kernel_rfl))
 t0:=underlying0
 a0:=isAgg0
 z0:=sizeOf0
 v0:=zeroValue0
 t3:=underlying3
 a3:=isAgg3
 z3:=sizeOf3
 v3:=zeroValue3
 t4:=underlying4
 a4:=isAgg4
 z4:=sizeOf4
 v4:=zeroValue4
 t9:=underlying9
 a9:=isAgg9
 z9:=sizeOf9
 v9:=zeroValue9
 t20:=underlying20
 a20:=isAgg20
 z20:=sizeOf20
 v20:=zeroValue20
 t37:=underlying76
 a37:=isAgg76
 z37:=sizeOf76
 v37:=zeroValue76
 t70:=underlying107
 a70:=isAgg107
 z70:=sizeOf107
 v70:=zeroValue107
 t72:=underlying109
 a72:=isAgg109
 z72:=sizeOf109
 v72:=zeroValue109
 t75:=underlying111
 a75:=isAgg111
 z75:=sizeOf111
 v75:=zeroValue111
 t164:=underlying263
 a164:=isAgg263
 z164:=sizeOf263
 v164:=zeroValue263 }
theorem Qfh:bY prog bren:={
 mixed:=by kernel_rfl
 f167:=func113.trans (jk some (by kernel_rfl))
 f240:=func109.trans (jk some (by kernel_rfl))
 f276:=func168.trans (jk some (by kernel_rfl))
 t0:=underlying0
 a0:=isAgg0
 z0:=sizeOf0
 v0:=zeroValue0
 t4:=underlying4
 a4:=isAgg4
 z4:=sizeOf4
 v4:=zeroValue4
 t5:=underlying5
 a5:=isAgg5
 z5:=sizeOf5
 v5:=zeroValue5
 t9:=underlying9
 a9:=isAgg9
 z9:=sizeOf9
 v9:=zeroValue9
 t20:=underlying20
 a20:=isAgg20
 z20:=sizeOf20
 v20:=zeroValue20
 t37:=underlying76
 a37:=isAgg76
 z37:=sizeOf76
 v37:=zeroValue76
 t70:=underlying107
 a70:=isAgg107
 z70:=sizeOf107
 v70:=zeroValue107
 t72:=underlying109
 a72:=isAgg109
 z72:=sizeOf109
 v72:=zeroValue109
 t75:=underlying111
 a75:=isAgg111
 z75:=sizeOf111
 v75:=zeroValue111
 t164:=underlying263
 a164:=isAgg263
 z164:=sizeOf263
 v164:=zeroValue263 }
theorem Kne:bZ prog bren:={
 mixed:=by kernel_rfl
 f169:=func48.trans (jk some (by kernel_rfl))
 t0:=underlying0
 a0:=isAgg0
 z0:=sizeOf0
 v0:=zeroValue0
 t3:=underlying3
 a3:=isAgg3
 z3:=sizeOf3
 v3:=zeroValue3
 t9:=underlying9
 a9:=isAgg9
 z9:=sizeOf9
 v9:=zeroValue9
 t37:=underlying76
 a37:=isAgg76
 z37:=sizeOf76
 v37:=zeroValue76
 t70:=underlying107
 a70:=isAgg107
 z70:=sizeOf107
 v70:=zeroValue107
 t72:=underlying109
 a72:=isAgg109
 z72:=sizeOf109
 v72:=zeroValue109
 t127:=underlying215
 a127:=isAgg215
 z127:=sizeOf215
 v127:=zeroValue215 }
theorem Kue:b0 prog bren:={
 mixed:=by kernel_rfl
 f240:=func109.trans (jk some (by kernel_rfl))
 f276:=func168.trans (jk some (by kernel_rfl))
 t0:=underlying0
 a0:=isAgg0
 z0:=sizeOf0
 v0:=zeroValue0
 t4:=underlying4
 a4:=isAgg4
 z4:=sizeOf4
 v4:=zeroValue4
 t9:=underlying9
 a9:=isAgg9
 z9:=sizeOf9
 v9:=zeroValue9
 t20:=underlying20
 a20:=isAgg20
 z20:=sizeOf20
 v20:=zeroValue20
 t70:=underlying107
 a70:=isAgg107
 z70:=sizeOf107
 v70:=zeroValue107
 t72:=underlying109
 a72:=isAgg109
 z72:=sizeOf109
 v72:=zeroValue109
 t164:=underlying263
 a164:=isAgg263
 z164:=sizeOf263
 v164:=zeroValue263 }
theorem Kfy:Builder.Extra prog bren:={
 sizeBuilder:=by kernel_rfl
 liesBuilder:=by kernel_rfl
 t5:=underlying5
 a5:=isAgg5
 z5:=sizeOf5
 v5:=zeroValue5
 infoByte:=by kernel_rfl
 cellsByte:=by kernel_rfl
 sizeByte:=by kernel_rfl
 neB5:=by decide }
def Bld (B b:Nat) (l:List UInt8) (w:World):Prop:=Lib.IsBuilderF 109 5 B b (bx l) w
def Kua (b:Nat) (w w':World):Prop:=Lib.OthersKept 5 (some b) w w'
theorem Kua.blk {b g:Nat} {t:TypeId} {cs:Array Value} {w w':World} (h:Kua b w w') (hg:Blk w g t cs) (hne:g≠b) (ht:t≠5):Blk w' g t cs:=
 h g _ hg (fun e=>hne (by injection e)) (fun c fz e=>by injection e with _ e2 _;exact ht e2)
theorem Bld.new {B:Nat} (w:World) (hB:B<=w.heap.size):Bld B w.heap.size [] (w.alloc (.cells #[.pointer none,.slice none 0 0] 109)):=
 .inl ⟨hB,.slice none 0 0,heap_alloc_new w _,World.ownsRowF_nil _ _ _ _,by simp[Value.ownBlock]⟩
theorem Bld.lt {B b:Nat} {l:List UInt8} {w:World} (h:Bld B b l w):b < w.heap.size:=by rcases h with ⟨_,v,hb,_⟩ | ⟨_,v,hb,_⟩ <;> exact Blk.lt hb
theorem Bld.below {B b:Nat} {l:List UInt8} {w w':World} (h:Bld B b l w) (hb:Below w.heap.size w w'):Bld B b l w':=by
 have aa:∀p,bC 109 5 B b p (bx l) w->bC 109 5 B b p (bx l) w':=by rintro p ⟨h1,v,h2,h3,h4⟩;refine ⟨h1,v,(hb.block b (Blk.lt h2)).trans h2,h3.kept (row:=none) ⟨hb.os,hb.tape,hb.output,hb.size,fun k hk _=>hb.block k hk⟩ (by cases v.ownBlock <;> simp),h4⟩
 rcases h with h | h
 .exact .inl (aa _ h)
 .exact .inr (aa _ h)
theorem Kmz (B b:Nat) (l:List UInt8) (c:UInt8) (w:World) (h:Bld B b l w) (hlen:l.length+1<=140737488355328) (hBw:B<=w.heap.size) :
  Calls prog 113 #[.pointer (some ⟨b,0,none⟩),.int .u8 c.toNat] w fun e w'=>e = .returned .nilIface/\Bld B b (l ++ [c]) w'/\Below B w w':=by
 refine (Any.Builder_WriteByte_k Qfh Kfy B b (bx l) c.toNat w h (by simpa[bx] using hlen) hBw).mono ?_;rintro e w' ⟨he,hb,hw,_⟩;refine ⟨he,?_,hw⟩;have:bx (l ++ [c])=bx l ++ [.int .u8 c.toNat]:=by simp[bx]
 unfold Bld;rw[this];exact .inr hb
theorem Kba (B b:Nat) (l:List UInt8) (s:ByteArray) (w:World) (h:Bld B b l w) (hlen:l.length+s.size<=140737488355328) (hBw:B<=w.heap.size) :
  Calls prog 40 #[.pointer (some ⟨b,0,none⟩),.string s] w fun e w'=>e = .returned (.tuple #[.int .i64 s.size,.nilIface])/\Bld B b (l++s.data.toList) w'/\Below B w w'/\Kua b w w':=by
 refine (Any.Builder_WriteString_k Qfg Kfy B b (bx l) s w h (by simpa[bx] using hlen) hBw).mono ?_;rintro e w' ⟨he,hb,hw,ho⟩;refine ⟨he,?_,hw,ho⟩;have:bx (l++s.data.toList)=bx l++bD s:=by simp[bx,bD]
 unfold Bld;rw[this];exact .inr hb
theorem Kdx (B b:Nat) (l:List UInt8) (w:World) (h:Bld B b l w) (hBw:B<=w.heap.size) :
  Calls prog 48 #[.pointer (some ⟨b,0,none⟩)] w fun e w'=>e = .returned (.string ⟨l.toArray⟩)/\Below B w w':=
 (Any.Builder_String_any_k Kne Kfy B b l w h hBw).mono fun _ _ h=>⟨h.1,h.2.2.1⟩
end
section
open Go.RowKit
structure Later (w0:World) where
 w:World
 h:Below w0.heap.size w0 w
instance Later.some {w:World}:Nonempty (Later w):=⟨⟨w,Below.refl _ _⟩⟩
theorem Later.cell {w:World} (x:Later w) (b o:Nat) (hb:b < w.heap.size):x.w.cell? ⟨b,o,none⟩=w.cell? ⟨b,o,none⟩:=x.h.cell (p:=⟨b,o,none⟩) hb
theorem Kaj {P:Program} {f:FuncId} {args:Array Value} {w:World} (x:Later w) {v:Value} (h:Calls P f args x.w fun e w'=>e = .returned v/\Below x.w.heap.size x.w w') :
  Calls P f args x.w fun e w''=>e = .returned v/\∃y:Later w,w''=y.w:=
 h.mono fun _ w' ⟨he,hb⟩=>⟨he,⟨w',then_ x.h hb⟩,rfl⟩
theorem Kpf {P:Program} {f:FuncId} {args:Array Value} {w:World} (x:Later w) {v:Value} (h:Calls P f args x.w fun e w'=>e = .returned v/\x.w=w') :
  Calls P f args x.w fun e w''=>e = .returned v/\∃y:Later w,w''=y.w:=
 h.mono fun _ _ ⟨he,hb⟩=>⟨he,x,hb.symm⟩
section
variable {P : Program} {ops : Array Oper} {md : bR} {C : World -> Prop}
def Kly (P:Program) (md:bR) (ops:Array Oper) (C:World->Prop) (n:Nat) (L:Array Bool->Act->Prop):Nat->Array Bool->Act->Prop
 | 0,listed,a=>L listed a
 | f+1,listed,a=>
  bL md ops listed≠[]/\∀i∈bL md ops listed,i < n/\qOp P ops C i (Kly P md ops C n L f (listed.setIfInBounds i true)) a
theorem Kpw {n g:Nat} {L:Array Bool->Act->Prop} {Q':Exit->Act->World->Prop} (hL:∀listed a w,C w->L listed a->wpAny P md ops Q' g listed a w) :
  ∀(f:Nat) (listed:Array Bool) (a:Act) (w:World),C w->Kly P md ops C n L f listed a->wpAny P md ops Q' (f+g) listed a w
 | 0,listed,a,w,hw,h=>by rw[bd];exact hL _ _ _ hw h
 | f+1,listed,a,w,hw,h=>by rw[show f+1+g=(f+g)+1 by omega];exact ⟨fun h0=>jl h0 h.1,fun i hi=>wpOp_of_qOp hw (fun a' w' hw' h'=>Kpw hL f _ a' w' hw' h') (h.2 i hi).2⟩
theorem Kxf {n i:Nat} {oi:Oper} {v:Value} {L:Array Bool->Act->Prop} (hi:ops[i]? = some oi) (hsel:∀(j:Nat) (o:Oper) cs b,ops[j]? = some o->o.op≠.select cs b)
  (hs:bP md ops n=true) (hc:bO md ops n=true) (hn:n < ops.size) (hin:i < n)
  (hdone:∀listed a,L listed a->∀j∈bL md ops listed,n<=j) :
  ∀(f:Nat) (listed:Array Bool) (a:Act),HeadInv md ops n listed->
   (∀j oj,ops[j]? = some oj->j≠i->listed.getD j true=false->(∀e∈oj.after,bQ md e=true->e.on≠i)->oi.apart ops oj=true)->
   i∈bL md ops listed->YieldsIn P ops C oi v a->
   Kly P md ops C n L f (listed.setIfInBounds i true) (a.put oi.dst v)->Kly P md ops C n L (f+1) listed a:=by
 intro f
 induction f with
 | zero=>
  intro listed a inv _ hr hy H;refine ⟨fun h=>(by rw[h] at hr;cases hr),fun j hj=>?_⟩;have ab:j < n:=bm fun h=>tail_waits hs hc hn inv _ i rfl hin (mem_ready.1 hr).1 j h hj
  refine ⟨ab,?_⟩
  by_cases hji:j=i
  .subst hji;exact hy.qOp hi H
  .exact jl (hdone _ _ H j (ready_mono hj hji)) (by omega)
 | succ f ih=>
  intro listed a inv hfree hr hy H;refine ⟨fun h=>(by rw[h] at hr;cases hr),fun j hj=>?_⟩;have ab:j < n:=bm fun h=>tail_waits hs hc hn inv _ i rfl hin (mem_ready.1 hr).1 j h hj
  refine ⟨ab,?_⟩
  by_cases hji:j=i
  .subst hji;exact hy.qOp hi H
  obtain ⟨aa,oj,ae,ac⟩:=mem_ready.1 hj
  have ad:∀e∈oj.after,bQ md e=true->e.on≠i:=fun e he hb heq=>by have h1:=ac e he hb;rw[heq,getD_both (mem_ready.1 hr).1] at h1;cases h1
  have h2:=qOp_put ae (hfree j oj ae hji aa ad) (fun cs b=>hsel i oi cs b hi) (fun cs b=>hsel j oj cs b ae) hy (H.2 j (ready_mono hj hji)).2;refine qOp_mono (fun a' h3=>ih (listed.setIfInBounds j true) a' (inv.set hj ab) (fun k ok hk hki hun hno=>hfree k ok hk hki ?_ hno) (ready_mono hr (Ne.symm hji)) h3.1 ?_) h2
  .by_cases hjk:j=k
   .subst hjk;exact aa
   .rw[getD_set_ne true hjk] at hun;exact hun
  .rw[Array.setIfInBounds_comm _ _ hji];exact h3.2
theorem Kpu {n g:Nat} {Lq:Act->Prop} (hsel:Region.noSelect ops=true) (hs:bP md ops n=true) (hc:bO md ops n=true) (hn:n < ops.size) :
  ∀(l:List Oper) (k:Nat) (listed:Array Bool) (a:Act),(∀j,j < l.length->l[j]? = ops[k+j]?)->k+l.length=n->HeadInv md ops n listed->
  bN md ops g l.length k listed=true->wpQuiet P ops C Lq l a->
  Kly P md ops C n (fun listed' a'=>Region.seqB md ops g n listed'=true/\Lq a') l.length listed a
 | [],k,listed,a,_,hk,_,hB,h=>by
  have:k=n:=by simpa using hk
  subst this;exact ⟨by simpa[bN] using hB,h⟩
 | o :: l,k,listed,a,hl,hk,inv,hB,h=>by
  have h0:ops[k]? = some o:=by simpa using (hl 0 (by simp)).symm
  simp only[aS,bN,aQ] at hB;obtain ⟨⟨hr,hf⟩,ad⟩:=hB;have aa:k < n:=by simp only[aS] at hk;omega
  have ab:k∈bL md ops listed:=by simpa using hr
  have ac:qOp P ops C k (wpQuiet P ops C Lq l) a:=by unfold qOp;simp only[h0];exact h
  obtain ⟨v,hy,hK⟩:=yieldsIn_of_qOp h0 ac
  exact Kxf h0 (Region.noSelect_spec hsel) hs hc hn aa (fun listed' a' hL=>seqB_ready hL.1) l.length listed a inv (Region.free_spec h0 hf) ab hy
   (Kpu hsel hs hc hn l (k+1) _ _ (fun j hj=>by have:=hl (j+1) (by simp;omega);simpa[Nat.add_assoc,Nat.add_comm 1 j] using this) (by simp only[aS] at hk;omega) (inv.set ab aa) ad hK)
theorem Kfm {id:Nat} {Q:Exit->Act->World->Prop} {a:Act} {w:World} {l:List Oper} (n:Nat) (hm:P.follows .mixedOrders=true) (hB:bM .any l.toArray n=true)
  (hC:C { w with drawn:=w.drawn+1 })
  (h:wpQuiet P l.toArray C (fun a'=>∀w',C w'->wpList P l.toArray Q (l.drop n) a' w') (l.take n) a):(Code.region id l.toArray true).wp P Q a w:=by
 simp only[bM,aQ,i8] at hB;obtain ⟨⟨⟨⟨ad,hn⟩,hs⟩,hc⟩,ab⟩:=hB;have hn':n < l.length:=by simpa using hn
 have aa:(l.take n).length=n:=by simp;omega
 have ae:(l.drop n).length=l.toArray.size - n:=by simp
 have ac:HeadInv .any l.toArray n (Array.replicate l.toArray.size false):=
  ⟨by simp,fun j oj _ hl=>(by rw[getD_replicate_false] at hl;cases hl),fun t _ ht=>getD_in (by simpa using ht) (getD_replicate_false _ _)⟩
 have H:=Kpu (md:=.any) (g:=l.toArray.size - n) ad hs hc hn (l.take n) 0 _ a (fun j hj=>by
  have af:j < n:=by rw[aa] at hj;exact hj
  simp[af]) (by simpa using aa) ac (by rw[aa];exact ab) h
 refine wp_region_any hm ?_
 have:=Kpw (Q':=Q) (g:=l.toArray.size - n) (fun listed a' w' hw' hL=>by
  have:=wpAny_of_seq (md:=.any) (Q':=Q) (l.drop n) n listed a' w' (fun j=>by simp[bt]) (by rw[ae];exact hL.1) (hL.2 w' hw')
  rwa[ae] at this) _ _ _ _ hC H
 rw[aa,show n+(l.toArray.size - n)=l.toArray.size by omega] at this;exact this
theorem Kaa {id:Nat} {Q:Exit->Act->World->Prop} {a:Act} {w:World} {l:List Oper} (hm:P.follows .mixedOrders=true) (hB:Region.lexB .any l.toArray=true)
  (h:wpQuiet P l.toArray (fun w'=>∃x:Later w,w'=x.w) (fun a'=>∀w',(∃x:Later w,w'=x.w)->Q .normal a' w') l a):(Code.region id l.toArray true).wp P Q a w:=
 wp_region_quiet (C:=fun w'=>∃x:Later w,w'=x.w) hm hB ⟨⟨w.drew,(Below.refl _ _).drew⟩,rfl⟩ (by simpa using h)
theorem Kal {id:Nat} {Q:Exit->Act->World->Prop} {a:Act} {w:World} {l:List Oper} (n:Nat) (hm:P.follows .mixedOrders=true) (hB:bM .any l.toArray n=true)
  (h:wpQuiet P l.toArray (fun w'=>∃x:Later w,w'=x.w) (fun a'=>∀w',(∃x:Later w,w'=x.w)->wpList P l.toArray Q (l.drop n) a' w') (l.take n) a):(Code.region id l.toArray true).wp P Q a w:=
 Kfm (C:=fun w'=>∃x:Later w,w'=x.w) n hm hB ⟨⟨w.drew,(Below.refl _ _).drew⟩,rfl⟩ h
end
end
section
open Go.RowKit
attribute [local go_sem ↓] Go.wp_at_zero Go.wp_at_succ
attribute [local go_sem] Later.cell
theorem or128 (g:Nat):bits .or .u8 ((g:Int) % 256) 128=((bG (g % 128+128)).toNat:Int):=by
 have aa:∀x:Fin 256,bits .or .u8 ((x.val:Nat):Int) 128=((x.val % 128+128:Nat):Int):=by decide +kernel
 have h:=aa ⟨g % 256,Nat.mod_lt _ (by omega)⟩;simp only at h;rw[show ((g:Int) % 256)=((g % 256:Nat):Int) by omega,h];have:(bG (g % 128+128)).toNat=g % 128+128:=by simp[bH];omega
 rw[this];omega
theorem Kxb (B b:Nat) (l:List UInt8) (n:Nat) (w:World) (h:Bld B b l w) (hn:n < 256) (hlen:l.length+1<=140737488355328) (hBw:B<=w.heap.size) :
  Calls prog 113 #[.pointer (some ⟨b,0,none⟩),.int .u8 n] w fun e w'=>e = .returned .nilIface/\Bld B b (l ++ [bG n]) w'/\Below B w w':=by
 have:=Kmz B b l (bG n) w h hlen hBw;rw[show (bG n).toNat=n by simp[bH];omega] at this;exact this
theorem Kwz {l:List UInt8} {g v:Nat} (h:l++uintT g=uintT v) (hg:¬127 < g):l ++ [bG g]=uintT v:=by rw[<-h,Qey (by omega)]
theorem Ksp {l:List UInt8} {g v:Nat} (h:l++uintT g=uintT v) (hl:g < 2 ^ 64) (hg:127 < g):(l ++ [bG (g % 128+128)])++uintT (g / 128)=uintT v:=by rw[<-h,Qch hl hg];simp
theorem Kau (v:Nat) (hv:v < 2 ^ 64) (w:World) :
  Calls prog 42 #[.int .u64 v] w fun e w'=>e = .returned (.string ⟨(uintT v).toArray⟩)/\Below w.heap.size w w':=by
 go_enter func42,ntmps42
 go_upto_block 0 with fail
 have ab:Bld w.heap.size w.heap.size [] (w.alloc (.cells #[.pointer none,.slice none 0 0] 109)):=Bld.new w (aX _);have ae:Below w.heap.size w (w.alloc (.cells #[.pointer none,.slice none 0 0] 109)):=(Below.refl _ _).alloc (aX _) _;obtain ⟨w0,hw⟩:=iZ (w.alloc (.cells #[.pointer none,.slice none 0 0] 109));rw[hw] at ab ae |-;clear hw;obtain ⟨b,hb⟩:=iZ w.heap.size;rw[hb] at ab ae |-;have HB:=bB hb;clear hb;go_wp2_with fail
 go_loopg [0] v (fun g s0 wr=>∃l,s0 = .int .u64 (g:Nat)/\g < 2 ^ 64/\l++uintT g=uintT v/\Bld b b l wr/\Below b w wr/\b<=wr.heap.size)
 case atStart=>exact ⟨[],rfl,hv,rfl,ab,ae,by have:=ab.lt;omega⟩
 case round=>
  obtain ⟨l,rfl,hg,hl,af,ag,ac⟩:=hrel
  have ai:l.length<=11:=by have:=jk bw hl;have h2:=Kab v;rw[aT] at this;omega
  have HL:=bB hl;clear hl
  by_cases h127:127 < gk
  .go_wp2_with fail
   rw[or128];refine (Kmz b b l _ _ af (by omega) ac).mono ?_;rintro e w1 ⟨rfl,ad,aa⟩;go_wp2_with fail
   go_roundg (gk / 128)
   case measure=>omega
   case rel=>exact ⟨_,by go_num,by omega,Ksp HL.out hg h127,ad,ag.trans aa,Nat.le_trans ac aa.size⟩
  .go_wp2_with fail
   refine (Kxb b b l gk _ af (by omega) (by omega) ac).mono ?_;rintro e w1 ⟨rfl,ad,aa⟩;rw[Kwz HL.out h127] at ad;go_wp2_with fail
   refine (Kdx b b _ _ ad (Nat.le_trans ac aa.size)).mono ?_;rintro e w2 ⟨rfl,ah⟩;go_wp2_with fail
   go_ret
   refine ⟨rfl,?_⟩;rw[HB.out];exact (ag.trans aa).trans ah
theorem Kai (s:ByteArray):s.data.toList.length=s.size:=rfl
theorem Qep {a b:ByteArray} (h:a.data.toList=b.data.toList):a=b:=by
 cases a;cases b
 exact jk bV (Array.toList_inj.1 h)
theorem Kfl (s:ByteArray) (hs:s.size<=140737488351232) (w:World) :
  Calls prog 112 #[.string s] w fun e w'=>e = .returned (.string ⟨(textT s.data.toList).toArray⟩)/\Below w.heap.size w w':=by
 have hu:=Kau s.size (by omega) w;have hl:=Kab s.size;obtain ⟨U,hU⟩:∃U:ByteArray,(⟨(uintT s.size).toArray⟩:ByteArray)=U:=⟨_,rfl⟩;have hUz:U.size<=11:=by rw[<-hU];simp only[bW,bi];exact hl.2
 rw[hU] at hu;have HU:=bB hu;have aa:=bB hU;clear hu hU hl;go_enter func112,ntmps112
 go_wp2_with fail
 refine HU.out.mono ?_;rintro e w1 ⟨rfl,ab⟩;go_wp2_with fail
 go_ret
 refine ⟨jk (fun s=>b4 (b2 s)) (Qep ?_),ab⟩;rw[<-aa.out];simp[textT]
theorem Qhs:(prog.info? 5).map (fun i=>(i.zero,i.size,i.bytes))=some (some (.int .u8 0),1,1):=by kernel_rfl
def Kcc (base:Nat) (w:World) (v:Value) (l:List UInt8):Prop:=w.ownsRow base 5 1 v l.length (bx l)
theorem Kcc.new (w:World):Kcc w.heap.size (w.alloc (.cells #[] 5)) (.slice (some ⟨w.heap.size,0,none⟩) 0 0) []:=
 ⟨rfl,.inr ⟨w.heap.size,0,#[],rfl,aX _,heap_alloc_new w _,aX _,by decide,rfl,rfl⟩⟩
theorem Kcc.push {base:Nat} {w:World} {v:Value} {l:List UInt8} {c:UInt8} {x:Int} (h:w.ownsRow base 5 1 v (l.length+1) (bx l ++ [.int .u8 x])) (hx:x=c.toNat):Kcc base w v (l ++ [c]):=by unfold Kcc;rw[aT,show bx (l ++ [c])=bx l ++ [.int .u8 x] by rw[hx];simp[bx]];exact h
theorem Kig {base e sz n:Nat} {w0 wr w1:World} {v:Value} {xs:List Value} {o:Obj} (hwr:Below base w0 wr) (hbs:base<=wr.heap.size) (hown:wr.ownsRow base e sz v n xs) (hg:(wr.alloc o).grownBy w1 v.ownBlock):Below base w0 w1:=
 hwr.trans ⟨hg.os,hg.tape,hg.output,by have:=hg.size;simp at this;omega,fun k hk=>(hg.block k (by simp;omega) (fun e=>by have:=(hown.lt k e.symm).1;omega)).trans (Below.heap_alloc _ _ _ (by omega))⟩
theorem Kcc.text {base:Nat} {w:World} {v:Value} {l:List UInt8} (h:Kcc base w v l) (h0:l≠[]):∃a cap,v = .slice (some a) l.length cap/\(convert 76 9 (.slice (some a) l.length cap)).run prog w = .ok (.string ⟨l.toArray⟩) w:=by
 rcases h.2 with ⟨_,hn⟩ | ⟨g,cap,cur,rfl,hb,hh,hnc,_,hsize,htk⟩
 .exact jl (aY hn) h0
 .refine ⟨⟨g,0,none⟩,cap,rfl,run_convert_bytes_back w _ _ 5 _ cap l underlying76 underlying5 underlying9 (fun j hj=>?_)⟩;rw[Addr.add_lit,bd,cell_of_row w g j cur 5 (0,0) hh];have e:(bx l)[j]? = some (.int .u8 (l[j].toNat:Int)):=by simp[bx,hj]
  rw[<-htk,bp] at e
  split at e
  .simpa using e
  .cases e
theorem Kdl (v:Nat) (hv:v < 2 ^ 64) (w:World) :
  Calls prog 143 #[.int .u64 v] w fun e w'=>e = .returned (.string ⟨(uintT v).toArray⟩)/\Below w.heap.size w w':=by
 obtain ⟨i0,ai,an,am,ak⟩:=info_parts Qhs;go_enter func143,ntmps143
 go_upto_block 0 with fail
 have ag:Kcc w.heap.size (w.alloc (.cells #[] 5)) (.slice (some ⟨w.heap.size,0,none⟩) 0 0) []:=Kcc.new w;have ad:Below w.heap.size w (w.alloc (.cells #[] 5)):=(Below.refl _ _).alloc (aX _) _;obtain ⟨w0,hw⟩:=iZ (w.alloc (.cells #[] 5));rw[hw] at ag ad |-;clear hw;obtain ⟨b,hb⟩:=iZ w.heap.size;rw[hb] at ag ad |-;have HB:=bB hb;have af:b<=w0.heap.size:=by rw[<-hb];exact ad.size
 clear hb;go_wp2_with fail
 go_loopg [0,3] v (fun g s0 s3 wr=>∃l,s0 = .int .u64 (g:Nat)/\g < 2 ^ 64/\l++uintT g=uintT v/\Kcc b wr s3 l/\Below b w wr/\b<=wr.heap.size)
 case atStart=>exact ⟨[],rfl,hv,rfl,ag,ad,af⟩
 case round=>
  obtain ⟨l,rfl,hg,hl,ac,al,aj⟩:=hrel
  have ap:l.length<=11:=by have:=jk bw hl;have h2:=Kab v;rw[aT] at this;omega
  have HL:=bB hl;clear hl
  by_cases h127:127 < gk
  .go_wp2_with (at_builtin;refine wpList_append_own_at _ rfl _ _ 76 rfl b 5 i0 (.int .u8 0) 1 1 underlying76 ai an am ak rfl (by decide) _ _ _ rfl (World.ownsRow.alloc ac _) ⟨wr.heap.size,0,none⟩ 1 1 [.int .u8 ((gk:Int) % 128+128)] rfl rfl ?c1 ?c2 ?c3 ?c4 ?c5 ?_)
   case c1=>exact Kao (l:=[.int .u8 ((gk:Int) % 128+128)]) (Blk.new wr _ _)
   case c2=>intro u hu;rw[a6.1 hu];rfl
   case c3=>unfold maxLen;omega
   case c4=>omega
   case c5=>simp;omega
   intro v' w1 hown' hgrow hx1 hat
   have ab:Kcc b w1 v' (l ++ [bG (gk % 128+128)]):=Kcc.push hown' (by
    have:(bG (gk % 128+128)).toNat=gk % 128+128:=by simp[bH];omega
    rw[this];omega)
   have ae:Below b w w1:=Kig al aj ac hgrow;have ao:b<=w1.heap.size:=by have:=hgrow.size;simp at this;omega
   clear hown' hgrow hat hx1;go_wp2_with fail
   go_roundg (gk / 128)
   case measure=>omega
   case rel=>exact ⟨_,by go_num,by omega,Ksp HL.out hg h127,ab,ae,ao⟩
  .go_wp2_with (at_builtin;refine wpList_append_own_at _ rfl _ _ 76 rfl b 5 i0 (.int .u8 0) 1 1 underlying76 ai an am ak rfl (by decide) _ _ _ rfl (World.ownsRow.alloc ac _) ⟨wr.heap.size,0,none⟩ 1 1 [.int .u8 (gk:Int)] rfl rfl ?d1 ?d2 ?d3 ?d4 ?d5 ?_)
   case d1=>exact Kao (l:=[.int .u8 (gk:Int)]) (Blk.new wr _ _)
   case d2=>intro u hu;rw[a6.1 hu];rfl
   case d3=>unfold maxLen;omega
   case d4=>omega
   case d5=>simp;omega
   intro v' w1 hown' hgrow hx1 hat
   have ab:Kcc b w1 v' (l ++ [bG gk]):=Kcc.push hown' (by
    have:(bG gk).toNat=gk:=by simp[bH];omega
    rw[this])
   rw[Kwz HL.out h127] at ab;have ae:Below b w w1:=Kig al aj ac hgrow;obtain ⟨a,cap,rfl,aa⟩:=ab.text (by intro e;have:=Kab v;rw[e] at this;simp at this);obtain ⟨nu,ah⟩:=iZ ((uintT v).length);rw[ah] at aa |-;clear hown' hgrow hat ah ab hx1;go_wp2_with fail
   go_ret
   refine ⟨rfl,?_⟩;rw[HB.out];exact ae
theorem Qda {s:ByteArray} {i:Nat} (h:i < s.size):s.data.toList.drop i=s[i] :: s.data.toList.drop (i+1):=by rw[aZ (by simpa using h)];rfl
end
section
open Go.RowKit
open Lib renaming hid -> Jh
attribute [local go_sem ↓] Go.wp_at_zero Go.wp_at_succ
attribute [local go_sem] Later.cell
theorem Qid (d:Bool) (b:UInt8):okB d b=((d && (decide ((48:Int)<=(b.toNat:Int)) && decide ((b.toNat:Int)<=57))) || !(((b.toNat:Int) != 95) && (decide (bits .or .u8 (b.toNat:Int) 32 < 97) || decide (122 < bits .or .u8 (b.toNat:Int) 32)))):=by
 have aa:∀(x:Fin 256) (d:Bool),okB d (bG x.val)=((d && (decide ((48:Int)<=(x.val:Int)) && decide ((x.val:Int)<=57))) || !(((x.val:Int) != 95) && (decide (bits .or .u8 (x.val:Int) 32 < 97) || decide (122 < bits .or .u8 (x.val:Int) 32)))):=by decide +kernel
 have h:=aa ⟨b.toNat,bI b⟩ d;simp only[bJ] at h;exact h
theorem Qiy (d:Bool) (b:UInt8):okB d b=((((decide ((97:Int)<=(b.toNat:Int)) && decide ((b.toNat:Int)<=122)) || (decide ((65:Int)<=(b.toNat:Int)) && decide ((b.toNat:Int)<=90))) || ((b.toNat:Int) == 95)) || ((decide ((48:Int)<=(b.toNat:Int)) && decide ((b.toNat:Int)<=57)) && d)):=by
 have aa:∀(x:Fin 256) (d:Bool),okB d (bG x.val)=((((decide ((97:Int)<=(x.val:Int)) && decide ((x.val:Int)<=122)) || (decide ((65:Int)<=(x.val:Int)) && decide ((x.val:Int)<=90))) || ((x.val:Int) == 95)) || ((decide ((48:Int)<=(x.val:Int)) && decide ((x.val:Int)<=57)) && d)):=by decide +kernel
 have h:=aa ⟨b.toNat,bI b⟩ d;simp only[bJ] at h;exact h
theorem Kgo (s:ByteArray):s.toList.isEmpty=decide (s.size=0):=by
 rw[bU,aR];simp only[List.isEmpty_iff,i8];rw[<-Kai];constructor
 .intro h;rw[h];rfl
 .intro h;exact aY h
theorem Koa {s:ByteArray} {i:Nat} (h:i < s.size) {R:Bool} (hr:allOk (decide (0 < i)) (s.data.toList.drop i)=R):(okB (decide (0 < i)) s[i] && allOk (decide (0 < i+1)) (s.data.toList.drop (i+1)))=R:=by rw[Qda h,allOk] at hr;simpa using hr
theorem Ktc (s:ByteArray) (r:Bool) (hr:fitN s.data.toList=r) (hs:s.size<=140737488351232) (w:World) :
  Calls prog 191 #[.string s] w fun e w'=>e = .returned (.bool r)/\w=w':=by
 obtain ⟨R,hR⟩:=iZ (allOk false s.data.toList);have ad:(R && (decide (1<=s.size) && decide (s.size<=32)))=r:=by rw[<-hr,<-hR,fitN,Kai,bn]
 have az:=Jh ad;have HR:=Jh hR;clear hr ad hR;go_enter func191,ntmps191
 go_upto_block 0 with fail
 go_cut [] (fun wz=>wz=w/\R=true)
 case first=>
  go_wp2_with fail
  go_loopg [7] s.size (fun g s7 wr=>wr=w/\∃i:Nat,i+g=s.size/\s7 = .int .i64 (i:Int)/\allOk (decide (0 < i)) (s.data.toList.drop i)=R)
  case atStart=>exact ⟨rfl,0,by omega,rfl,by simpa using HR.out⟩
  case round=>
   obtain ⟨rfl,i,ar,rfl,ai⟩:=hrel;obtain ⟨w,rfl⟩:=i7 wr;have am:=Jh ar;have ag:=Jh ai;clear ar ai
   by_cases hi:i < s.size
   .have ab:=Koa hi ag.out;obtain ⟨b,hb⟩:=iZ (s[i]);have hbl:=bI b;rw[hb,Qid] at ab;obtain ⟨ap,ay⟩:=iZ (decide ((48:Int)<=(b.toNat:Int)));obtain ⟨ao,aA⟩:=iZ (decide ((b.toNat:Int)<=57));obtain ⟨x0,h0⟩:=iZ (decide (0 < i));obtain ⟨aq,aD⟩:=iZ ((b.toNat:Int) != 95);obtain ⟨xa,ha⟩:=iZ (decide (bits .or .u8 (b.toNat:Int) 32 < 97));obtain ⟨xz,hz⟩:=iZ (decide (122 < bits .or .u8 (b.toNat:Int) 32));rw[ay,aA,h0,aD,ha,hz] at ab;have ax:=Jh ab;have H0:=Jh h0;clear ab;have el:decide ((i:Int) < (s.size:Int))=true:=by simp;omega
    have el':decide (i < s.size)=true:=by simp;omega
    go_upto_region 5 with fail
    clear hb;go_cut [13] (fun s13 wz=>s13 = .bool (ap && ao)/\wz=w)
    case first=>
     cases ap <;> cases ao
     all_goals
      go_wp2_with fail
      go_meet
      exact ⟨rfl,rfl⟩
    case rest=>
     obtain ⟨rfl,rfl⟩:=hcut;obtain ⟨w,rfl⟩:=i7 wc;obtain ⟨dg,av⟩:=iZ (ap && ao);have ab:=ax.out;rw[av] at ab |-;have ac:=Jh ab;clear ax ab av ay aA;obtain ⟨an,aa⟩:=iZ (x0 && dg)
     cases an with
     | true=>
      obtain ⟨rfl,rfl⟩:x0=true/\dg=true:=by simpa using aa
      clear aa;go_wp2_with fail
      go_roundg (gk - 1)
      case measure=>have:=am.out;omega
      case rel=>exact ⟨rfl,i+1,by have:=am.out;omega,by go_num,by have:=ac.out;simpa using this⟩
     | false=>
      have ab:=ac.out;rw[aa] at ab;have al:=Jh ab;clear ab ac;cases dg <;> cases x0
      case true.true=>simp at aa
      all_goals
       clear aa;go_upto_region 7 with fail
       go_cut [33] (fun s33 wz=>s33 = .bool (aq && (xa || xz))/\wz=w)
       case first=>
        cases aq <;> cases xa <;> cases xz
        all_goals
         go_wp2_with fail
         go_meet
         exact ⟨rfl,rfl⟩
       case rest=>
        obtain ⟨rfl,rfl⟩:=hcut;obtain ⟨w,rfl⟩:=i7 wc;obtain ⟨aB,ae⟩:=iZ (aq && (xa || xz));have ab:=al.out;rw[ae] at ab |-;have aj:=Jh ab;clear ab al ae
        cases aB with
        | true=>
         have aw:R=false:=by have:=aj.out;simpa using this.symm
         have af:r=false:=by rw[<-az.out,aw];rfl
         subst af;clear aw;go_wp2_with fail
         go_ret
         exact ⟨rfl,rfl⟩
        | false=>
         go_wp2_with fail
         go_roundg (gk - 1)
         case measure=>have:=am.out;omega
         case rel=>exact ⟨rfl,i+1,by have:=am.out;omega,by go_num,by have:=aj.out;simpa using this⟩
   .have ak:R=true:=by
     have:=ag.out;rw[aW (by rw[Kai];omega),allOk] at this;exact this.symm
    have aC:=Jh ak;clear ak;go_wp2_with fail
    go_meet
    exact ⟨rfl,aC.out⟩
 case rest=>
  obtain ⟨rfl,ak⟩:=hcut;obtain ⟨w,rfl⟩:=i7 wc;have ad:=az.out;rw[ak,bs] at ad;have ah:=Jh ad;clear ad ak
  by_cases h0:s.size=0
  .have hE:s.toList.isEmpty=true:=by rw[Kgo];simp[h0]
   have hL:s.toList = []:=by simpa using hE
   have af:r=false:=by rw[<-ah.out,h0];rfl
   subst af;clear h0;go_wp2_with fail
   go_ret
   exact ⟨rfl,rfl⟩
  .have hE:s.toList.isEmpty=false:=by rw[Kgo];simp[h0]
   obtain ⟨x,hx⟩:=iZ (decide ((s.size:Int)<=32))
   have af:r=x:=by rw[<-ah.out,<-hx,aR];simp only[aQ,i8];omega
   subst af;clear h0;go_wp2_with fail
   go_ret
   exact ⟨rfl,rfl⟩
theorem Kqg (s:ByteArray) (r:Bool) (hr:fitV s.data.toList=r) (hs:s.size<=140737488351232) (w:World) :
  Calls prog 192 #[.string s] w fun e w'=>e = .returned (.bool r)/\w=w':=by
 have ac:(decide (1<=s.size) && decide (s.size<=64))=r:=by rw[<-hr,fitV,Kai]
 have aa:=Jh ac;clear hr ac
 by_cases h0:s.size=0
 .have hE:s.toList.isEmpty=true:=by rw[Kgo];simp[h0]
  have hL:s.toList = []:=by simpa using hE
  have ab:r=false:=by rw[<-aa.out,h0];rfl
  subst ab;clear h0;go_enter func192,ntmps192
  go_wp2_with fail
  go_ret
  exact ⟨rfl,rfl⟩
 .have hE:s.toList.isEmpty=false:=by rw[Kgo];simp[h0]
  obtain ⟨x,hx⟩:=iZ (decide ((s.size:Int)<=64))
  have ab:r=x:=by rw[<-aa.out,<-hx,aR];simp only[aQ,i8];omega
  subst ab;clear h0;go_enter func192,ntmps192
  go_wp2_with fail
  go_ret
  exact ⟨rfl,rfl⟩
theorem Kpg (s:ByteArray) (r:Bool) (hr:fitV s.data.toList=r) (hs:s.size<=140737488351232) (w:World) :
  Calls prog 184 #[.string s] w fun e w'=>e = .returned (.bool r)/\w=w':=by
 have aa:(decide (1<=s.size) && decide (s.size<=64))=r:=by rw[<-hr,fitV,Kai]
 obtain ⟨x1,h1⟩:=iZ (decide ((1:Int)<=(s.size:Int)));obtain ⟨x2,h2⟩:=iZ (decide ((s.size:Int)<=64))
 have ab:(x1 && x2)=r:=by rw[<-aa,<-h1,<-h2,aR];simp only[aQ,i8];omega
 subst ab;have h1':decide (1<=s.size)=x1:=by rw[<-h1,decide_eq_decide];omega
 clear hr aa;cases x1 <;> cases x2
 all_goals
  go_enter func184,ntmps184
  go_wp2_with fail
  go_ret
  exact ⟨rfl,rfl⟩
theorem Kqo (s:ByteArray) (r:Bool) (hr:fitN s.data.toList=r) (hs:s.size<=140737488351232) (w:World) :
  Calls prog 183 #[.string s] w fun e w'=>e = .returned (.bool r)/\w=w':=by
 obtain ⟨R,hR⟩:=iZ (allOk false s.data.toList);have ac:(R && (decide (1<=s.size) && decide (s.size<=32)))=r:=by rw[<-hr,<-hR,fitN,Kai,bn]
 have aI:=Jh ac;have HR:=Jh hR;clear hr ac hR;go_enter func183,ntmps183
 go_upto_block 0 with fail
 go_cut [] (fun wz=>wz=w/\R=true)
 case first=>
  go_wp2_with fail
  go_loopg [3] s.size (fun g s3 wr=>wr=w/\∃i:Nat,i+g=s.size/\s3 = .int .i64 (i:Int)/\allOk (decide (0 < i)) (s.data.toList.drop i)=R)
  case atStart=>exact ⟨rfl,0,by omega,rfl,by simpa using HR.out⟩
  case round=>
   obtain ⟨rfl,i,ax,rfl,ae⟩:=hrel;obtain ⟨w,rfl⟩:=i7 wr;have aw:=Jh ax;have ad:=Jh ae;clear ax ae
   by_cases hi:i < s.size
   .have aa:=Koa hi ad.out;obtain ⟨b,hb⟩:=iZ (s[i]);have hbl:=bI b;rw[hb,Qiy] at aa;obtain ⟨aq,aA⟩:=iZ (decide ((97:Int)<=(b.toNat:Int)));obtain ⟨ab,ah⟩:=iZ (decide ((b.toNat:Int)<=122));obtain ⟨ap,az⟩:=iZ (decide ((65:Int)<=(b.toNat:Int)));obtain ⟨ar,aC⟩:=iZ (decide ((b.toNat:Int)<=90));obtain ⟨ao,aG⟩:=iZ ((b.toNat:Int) == 95);obtain ⟨am,an⟩:=iZ (decide ((48:Int)<=(b.toNat:Int)));obtain ⟨al,av⟩:=iZ (decide ((b.toNat:Int)<=57));obtain ⟨x0,h0⟩:=iZ (decide (0 < i));rw[aA,ah,az,aC,aG,an,av,h0] at aa;have aE:=Jh aa
    have aF:((i:Int) == 0) = !x0:=by rw[<-h0,aR];simp
    have H0:=Jh h0;clear aa;have el:decide ((i:Int) < (s.size:Int))=true:=by simp;omega
    have el':decide (i < s.size)=true:=by simp;omega
    go_upto_region 5 with fail
    clear hb;go_cut [5] (fun s5 wz=>s5 = .bool (((aq && ab) || (ap && ar)) || ao)/\wz=w)
    case first=>
     clear an av h0 aF;cases aq <;> cases ab <;> cases ap <;> cases ar <;> cases ao
     all_goals
      go_wp2_with fail
      go_meet
      exact ⟨rfl,rfl⟩
    case rest=>
     obtain ⟨rfl,rfl⟩:=hcut;obtain ⟨w,rfl⟩:=i7 wc;obtain ⟨lt,aH⟩:=iZ ((((aq && ab) || (ap && ar)) || ao));have aa:=aE.out;rw[aH] at aa |-;have ai:=Jh aa;clear aE aa aH aA ah az aC aG;go_upto_region 6 with fail
     go_cut [6] (fun s6 wz=>s6 = .bool (am && al)/\wz=w)
     case first=>
      cases am <;> cases al
      all_goals
       go_wp2_with fail
       go_meet
       exact ⟨rfl,rfl⟩
     case rest=>
      obtain ⟨rfl,rfl⟩:=hcut;obtain ⟨w,rfl⟩:=i7 wc;obtain ⟨dg,aB⟩:=iZ (am && al);have aa:=ai.out;rw[aB] at aa |-;have aj:=Jh aa;clear ai aa aB an av;go_upto_region 7 with fail
      go_cut [49] (fun s49 wz=>s49 = .bool (!(lt || (dg && x0)))/\wz=w)
      case first=>
       cases lt <;> cases dg <;> cases x0
       all_goals
        go_wp2_with fail
        go_meet
        exact ⟨rfl,rfl⟩
      case rest=>
       obtain ⟨rfl,rfl⟩:=hcut;obtain ⟨w,rfl⟩:=i7 wc;obtain ⟨ok,ay⟩:=iZ (lt || (dg && x0));have aa:=aj.out;rw[ay] at aa |-;have af:=Jh aa;clear aj aa ay h0 aF
       cases ok with
       | false=>
        have aD:R=false:=by have:=af.out;simpa using this.symm
        have ak:r=false:=by rw[<-aI.out,aD];rfl
        subst ak;clear aD;go_wp2_with fail
        go_ret
        exact ⟨rfl,rfl⟩
       | true=>
        go_wp2_with fail
        go_roundg (gk - 1)
        case measure=>have:=aw.out;omega
        case rel=>exact ⟨rfl,i+1,by have:=aw.out;omega,by go_num,by have:=af.out;simpa using this⟩
   .have ag:R=true:=by
     have:=ad.out;rw[aW (by rw[Kai];omega),allOk] at this;exact this.symm
    have aK:=Jh ag;clear ag;go_wp2_with fail
    go_meet
    exact ⟨rfl,aK.out⟩
 case rest=>
  obtain ⟨rfl,ag⟩:=hcut;obtain ⟨w,rfl⟩:=i7 wc;have ac:=aI.out;rw[ag,bs] at ac;obtain ⟨x1,h1⟩:=iZ (decide ((1:Int)<=(s.size:Int)));obtain ⟨x2,h2⟩:=iZ (decide ((s.size:Int)<=32))
  have ak:r=(x1 && x2):=by rw[<-ac,<-h1,<-h2,aR];simp only[aQ,i8];omega
  have h1':decide (1<=s.size)=x1:=by rw[<-h1,decide_eq_decide];omega
  have aJ:=Jh ak;clear ac ag ak;cases x1 <;> cases x2
  all_goals
   go_wp2_with fail
   go_ret
   exact ⟨Qgm (by rw[aJ.out];rfl),rfl⟩
end
end Go.Proofs.YtdoiekknhnbepaaGreatDoor
namespace Go.Proofs
open Go.Shelf
def Tryz.lays125_ren:Go.Shelf.Ren:=⟨fun | 125=>174 | 128=>211 | 129=>212 | n=>n,fun | 46=>200 | 3=>3 | 51=>74 | 53=>100 | 4=>4 | 5=>5 | 9=>9 | n=>n,fun | n=>n⟩
theorem Tryz.lays125:Go.Proofs.Lays.n125 Tryz.prog Tryz.lays125_ren:={
 mixed:=by kernel_rfl
 f125:=Tryz.func174.trans (congrArg some (by kernel_rfl))
 f128:=Tryz.func211.trans (congrArg some (by kernel_rfl))
 f129:=Tryz.func212.trans (congrArg some (by kernel_rfl))
 t3:=Tryz.underlying3
 a3:=Tryz.isAgg3
 z3:=Tryz.sizeOf3
 v3:=Tryz.zeroValue3
 t4:=Tryz.underlying4
 a4:=Tryz.isAgg4
 z4:=Tryz.sizeOf4
 v4:=Tryz.zeroValue4
 t5:=Tryz.underlying5
 a5:=Tryz.isAgg5
 z5:=Tryz.sizeOf5
 v5:=Tryz.zeroValue5
 t9:=Tryz.underlying9
 a9:=Tryz.isAgg9
 z9:=Tryz.sizeOf9
 v9:=Tryz.zeroValue9
 t46:=Tryz.underlying200
 a46:=Tryz.isAgg200
 z46:=Tryz.sizeOf200
 v46:=Tryz.zeroValue200
 t51:=Tryz.underlying74
 a51:=Tryz.isAgg74
 z51:=Tryz.sizeOf74
 v51:=Tryz.zeroValue74
 t53:=Tryz.underlying100
 a53:=Tryz.isAgg100
 z53:=Tryz.sizeOf100
 v53:=Tryz.zeroValue100 }
theorem Tryz.bits_Len (x:Int) (w:World) (h0:0<=x) (h1:x<=18446744073709551615) :
  Calls Tryz.prog 174 #[.int .u64 x] w fun e w'=>e = .returned (.int .i64 (Lib.bitLen x.toNat))/\w'=w:=Any.bits_Len Tryz.lays125 x w h0 h1
def Tryz.lays134_ren:Go.Shelf.Ren:=⟨fun | 134=>244 | 129=>212 | n=>n,fun | 53=>100 | 3=>3 | 4=>4 | 46=>200 | 5=>5 | 9=>9 | n=>n,fun | n=>n⟩
theorem Tryz.lays134:Go.Proofs.Lays.n134 Tryz.prog Tryz.lays134_ren:={
 mixed:=by kernel_rfl
 f129:=Tryz.func212.trans (congrArg some (by kernel_rfl))
 f134:=Tryz.func244.trans (congrArg some (by kernel_rfl))
 t3:=Tryz.underlying3
 a3:=Tryz.isAgg3
 z3:=Tryz.sizeOf3
 v3:=Tryz.zeroValue3
 t4:=Tryz.underlying4
 a4:=Tryz.isAgg4
 z4:=Tryz.sizeOf4
 v4:=Tryz.zeroValue4
 t5:=Tryz.underlying5
 a5:=Tryz.isAgg5
 z5:=Tryz.sizeOf5
 v5:=Tryz.zeroValue5
 t9:=Tryz.underlying9
 a9:=Tryz.isAgg9
 z9:=Tryz.sizeOf9
 v9:=Tryz.zeroValue9
 t46:=Tryz.underlying200
 a46:=Tryz.isAgg200
 z46:=Tryz.sizeOf200
 v46:=Tryz.zeroValue200
 t53:=Tryz.underlying100
 a53:=Tryz.isAgg100
 z53:=Tryz.sizeOf100
 v53:=Tryz.zeroValue100 }
theorem Tryz.bits_LeadingZeros64 (x:Int) (w:World) (h0:0<=x) (h1:x<=18446744073709551615) :
  Calls Tryz.prog 244 #[.int .u64 x] w fun e w'=>e = .returned (.int .i64 (64 - (Lib.bitLen x.toNat:Int)))/\w'=w:=Any.bits_LeadingZeros64 Tryz.lays134 x w h0 h1
def Tryz.lays213_ren:Go.Shelf.Ren:=⟨fun | 213=>179 | 265=>223 | n=>n,fun | 9=>9 | 3=>3 | n=>n,fun | n=>n⟩
def Tryz.lays106_ren:Go.Shelf.Ren:=⟨fun | 106=>131 | 213=>179 | 265=>223 | n=>n,fun | 9=>9 | 3=>3 | n=>n,fun | n=>n⟩
theorem Tryz.lays106:Go.Proofs.Lays.n106 Tryz.prog Tryz.lays106_ren:={
 mixed:=by kernel_rfl
 f106:=Tryz.func131.trans (congrArg some (by kernel_rfl))
 f213:=Tryz.func179.trans (congrArg some (by kernel_rfl))
 f265:=Tryz.func223.trans (congrArg some (by kernel_rfl))
 t3:=Tryz.underlying3
 a3:=Tryz.isAgg3
 z3:=Tryz.sizeOf3
 v3:=Tryz.zeroValue3
 t9:=Tryz.underlying9
 a9:=Tryz.isAgg9
 z9:=Tryz.sizeOf9
 v9:=Tryz.zeroValue9 }
open Go.RowKit in
theorem Tryz.strings_Compare (a b:ByteArray) (w:World) :
  Calls Tryz.prog 131 #[.string a,.string b] w fun e w'=>e = .returned (.int .i64 (Lib.compareBytes a.data.toList b.data.toList))/\w'=w:=Any.strings_Compare Tryz.lays106 a b w
def Tryz.laysSlM5_f124_ren:Go.Shelf.Ren:=⟨fun | 5=>124 | 8=>174 | 7=>176 | 19=>211 | 20=>212 | 10=>213 | 11=>214 | 12=>215 | 13=>216 | 14=>217 | 15=>218 | 16=>219 | 17=>220 | 18=>221 | 30=>251 | 31=>247 | 32=>248 | 33=>252 | 34=>253 | 35=>181 | 40=>262 | n=>n,fun | 23=>125 | 25=>2 | 3=>3 | 32=>200 | 22=>125 | 0=>0 | 44=>74 | 46=>100 | 4=>4 | 36=>303 | 35=>302 | 41=>265 | 5=>5 | 9=>9 | 53=>337 | 57=>340 | 63=>349 | 64=>350 | n=>n,fun | n=>n⟩
theorem Tryz.laysSlM5_f124:Go.Proofs.SlLaysM.n5 Tryz.prog Tryz.laysSlM5_f124_ren:={
 mixed:=by kernel_rfl
 f5:=⟨Tryz.f124.name,by decide,Tryz.func124.trans (congrArg some (by kernel_rfl))⟩
 f7:=⟨Tryz.f176.name,by decide,Tryz.func176.trans (congrArg some (by kernel_rfl))⟩
 f8:=Tryz.func174.trans (congrArg some (by kernel_rfl))
 f10:=⟨Tryz.f213.name,by decide,Tryz.func213.trans (congrArg some (by kernel_rfl))⟩
 f11:=⟨Tryz.f214.name,by decide,Tryz.func214.trans (congrArg some (by kernel_rfl))⟩
 f12:=⟨Tryz.f215.name,by decide,Tryz.func215.trans (congrArg some (by kernel_rfl))⟩
 f13:=⟨Tryz.f216.name,by decide,Tryz.func216.trans (congrArg some (by kernel_rfl))⟩
 f14:=⟨Tryz.f217.name,by decide,Tryz.func217.trans (congrArg some (by kernel_rfl))⟩
 f15:=⟨Tryz.f218.name,by decide,Tryz.func218.trans (congrArg some (by kernel_rfl))⟩
 f16:=⟨Tryz.f219.name,by decide,Tryz.func219.trans (congrArg some (by kernel_rfl))⟩
 f17:=⟨Tryz.f220.name,by decide,Tryz.func220.trans (congrArg some (by kernel_rfl))⟩
 f18:=⟨Tryz.f221.name,by decide,Tryz.func221.trans (congrArg some (by kernel_rfl))⟩
 f19:=Tryz.func211.trans (congrArg some (by kernel_rfl))
 f20:=Tryz.func212.trans (congrArg some (by kernel_rfl))
 f30:=⟨Tryz.f251.name,by decide,Tryz.func251.trans (congrArg some (by kernel_rfl))⟩
 f31:=Tryz.func247.trans (congrArg some (by kernel_rfl))
 f32:=Tryz.func248.trans (congrArg some (by kernel_rfl))
 f33:=⟨Tryz.f252.name,by decide,Tryz.func252.trans (congrArg some (by kernel_rfl))⟩
 f34:=⟨Tryz.f253.name,by decide,Tryz.func253.trans (congrArg some (by kernel_rfl))⟩
 f35:=⟨Tryz.f181.name,by decide,Tryz.func181.trans (congrArg some (by kernel_rfl))⟩
 f40:=⟨Tryz.f262.name,by decide,Tryz.func262.trans (congrArg some (by kernel_rfl))⟩
 t0:=Tryz.underlying0
 a0:=Tryz.isAgg0
 z0:=Tryz.sizeOf0
 v0:=Tryz.zeroValue0
 t3:=Tryz.underlying3
 a3:=Tryz.isAgg3
 z3:=Tryz.sizeOf3
 v3:=Tryz.zeroValue3
 t4:=Tryz.underlying4
 a4:=Tryz.isAgg4
 z4:=Tryz.sizeOf4
 v4:=Tryz.zeroValue4
 t5:=Tryz.underlying5
 a5:=Tryz.isAgg5
 z5:=Tryz.sizeOf5
 v5:=Tryz.zeroValue5
 t9:=Tryz.underlying9
 a9:=Tryz.isAgg9
 z9:=Tryz.sizeOf9
 v9:=Tryz.zeroValue9
 t22:=Tryz.underlying125
 a22:=Tryz.isAgg125
 z22:=Tryz.sizeOf125
 v22:=Tryz.zeroValue125
 t23:=Tryz.underlying125
 a23:=Tryz.isAgg125
 z23:=Tryz.sizeOf125
 v23:=Tryz.zeroValue125
 t25:=Tryz.underlying2
 a25:=Tryz.isAgg2
 z25:=Tryz.sizeOf2
 v25:=Tryz.zeroValue2
 t32:=Tryz.underlying200
 a32:=Tryz.isAgg200
 z32:=Tryz.sizeOf200
 v32:=Tryz.zeroValue200
 t35:=Tryz.underlying302
 a35:=Tryz.isAgg302
 z35:=Tryz.sizeOf302
 v35:=Tryz.zeroValue302
 t36:=Tryz.underlying303
 a36:=Tryz.isAgg303
 z36:=Tryz.sizeOf303
 v36:=Tryz.zeroValue303
 t41:=Tryz.underlying265
 a41:=Tryz.isAgg265
 z41:=Tryz.sizeOf265
 v41:=Tryz.zeroValue265
 t44:=Tryz.underlying74
 a44:=Tryz.isAgg74
 z44:=Tryz.sizeOf74
 v44:=Tryz.zeroValue74
 t46:=Tryz.underlying100
 a46:=Tryz.isAgg100
 z46:=Tryz.sizeOf100
 v46:=Tryz.zeroValue100
 t53:=Tryz.underlying337
 a53:=Tryz.isAgg337
 z53:=Tryz.sizeOf337
 v53:=Tryz.zeroValue337
 t57:=Tryz.underlying340
 a57:=Tryz.isAgg340
 z57:=Tryz.sizeOf340
 v57:=Tryz.zeroValue340
 t63:=Tryz.underlying349
 a63:=Tryz.isAgg349
 z63:=Tryz.sizeOf349
 v63:=Tryz.zeroValue349
 t64:=Tryz.underlying350
 a64:=Tryz.isAgg350
 z64:=Tryz.sizeOf350
 v64:=Tryz.zeroValue350 }
open Go.Sort Go.RowKit in
theorem Tryz.slices_Sort_int (blk off cap:Nat) (zs:List Int) (w:World) (hH:Holds (Value.int .i64) w blk off zs.toArray) (hblk:blk < w.heap.size) (hsz:zs.length < 4611686018427387904) :
  Calls Tryz.prog 124 #[.slice (some ⟨blk,off,none⟩) zs.length cap] w fun e w'=>
   e = .returned (.tuple #[])/\∃n os,w'=grow (putRow (Value.int .i64) (Sort.ahead w n) blk off (zs.mergeSort fun x y=>decide (x<=y)).toArray) os:=AnyM.slices_Sort_int Tryz.laysSlM5_f124 blk off cap zs w hH hblk hsz
open Go.RowKit Go.Sort in
theorem Tryz.slices_Sort_int_none (p:Option Addr) (cap:Nat) (w:World) :
  Calls Tryz.prog 124 #[.slice p 0 cap] w fun e w'=>e = .returned (.tuple #[])/\w'=w:=AnyM.slices_Sort_int_none Tryz.laysSlM5_f124 p cap w
def Tryz.laysBS_ren:Go.Shelf.Ren:=⟨fun | 26=>169 | 33=>197 | 34=>198 | 38=>241 | n=>n,fun | 24=>118 | 9=>9 | 3=>3 | 4=>4 | 40=>200 | 0=>0 | n=>n,fun | n=>n⟩
theorem Tryz.laysBS:Go.Proofs.Lays2.n26 Tryz.prog Tryz.laysBS_ren:={
 mixed:=by kernel_rfl
 f26:=Tryz.func169.trans (congrArg some (by kernel_rfl))
 f33:=Tryz.func197.trans (congrArg some (by kernel_rfl))
 f34:=Tryz.func198.trans (congrArg some (by kernel_rfl))
 f38:=Tryz.func241.trans (congrArg some (by kernel_rfl))
 t0:=Tryz.underlying0
 a0:=Tryz.isAgg0
 z0:=Tryz.sizeOf0
 v0:=Tryz.zeroValue0
 t3:=Tryz.underlying3
 a3:=Tryz.isAgg3
 z3:=Tryz.sizeOf3
 v3:=Tryz.zeroValue3
 t4:=Tryz.underlying4
 a4:=Tryz.isAgg4
 z4:=Tryz.sizeOf4
 v4:=Tryz.zeroValue4
 t9:=Tryz.underlying9
 a9:=Tryz.isAgg9
 z9:=Tryz.sizeOf9
 v9:=Tryz.zeroValue9
 t24:=Tryz.underlying118
 a24:=Tryz.isAgg118
 z24:=Tryz.sizeOf118
 v24:=Tryz.zeroValue118
 t40:=Tryz.underlying200
 a40:=Tryz.isAgg200
 z40:=Tryz.sizeOf200
 v40:=Tryz.zeroValue200 }
def Tryz.laysSFL_ren:Go.Shelf.Ren:=⟨fun | 6=>119 | 15=>174 | 14=>173 | 28=>211 | 29=>212 | 20=>203 | 21=>204 | 22=>205 | 23=>206 | 24=>207 | 25=>208 | 26=>209 | 27=>210 | 46=>246 | 47=>247 | 48=>248 | 49=>249 | 50=>250 | 57=>261 | n=>n,fun | 22=>54 | 24=>99 | 25=>211 | 3=>3 | 39=>200 | 0=>0 | 53=>74 | 55=>100 | 4=>4 | 46=>303 | 45=>302 | 50=>265 | 5=>5 | 9=>9 | 66=>337 | 70=>340 | 76=>349 | 77=>350 | n=>n,fun | n=>n⟩
theorem Tryz.laysSFL:Go.Proofs.SlLaysF0.n6 Tryz.prog Tryz.laysSFL_ren:={
 mixed:=by kernel_rfl
 f6:=⟨Tryz.f119.name,by decide,Tryz.func119.trans (congrArg some (by kernel_rfl))⟩
 f14:=⟨Tryz.f173.name,by decide,Tryz.func173.trans (congrArg some (by kernel_rfl))⟩
 f15:=Tryz.func174.trans (congrArg some (by kernel_rfl))
 f20:=⟨Tryz.f203.name,by decide,Tryz.func203.trans (congrArg some (by kernel_rfl))⟩
 f21:=⟨Tryz.f204.name,by decide,Tryz.func204.trans (congrArg some (by kernel_rfl))⟩
 f22:=⟨Tryz.f205.name,by decide,Tryz.func205.trans (congrArg some (by kernel_rfl))⟩
 f23:=⟨Tryz.f206.name,by decide,Tryz.func206.trans (congrArg some (by kernel_rfl))⟩
 f24:=⟨Tryz.f207.name,by decide,Tryz.func207.trans (congrArg some (by kernel_rfl))⟩
 f25:=⟨Tryz.f208.name,by decide,Tryz.func208.trans (congrArg some (by kernel_rfl))⟩
 f26:=⟨Tryz.f209.name,by decide,Tryz.func209.trans (congrArg some (by kernel_rfl))⟩
 f27:=⟨Tryz.f210.name,by decide,Tryz.func210.trans (congrArg some (by kernel_rfl))⟩
 f28:=Tryz.func211.trans (congrArg some (by kernel_rfl))
 f29:=Tryz.func212.trans (congrArg some (by kernel_rfl))
 f46:=⟨Tryz.f246.name,by decide,Tryz.func246.trans (congrArg some (by kernel_rfl))⟩
 f47:=Tryz.func247.trans (congrArg some (by kernel_rfl))
 f48:=Tryz.func248.trans (congrArg some (by kernel_rfl))
 f49:=⟨Tryz.f249.name,by decide,Tryz.func249.trans (congrArg some (by kernel_rfl))⟩
 f50:=⟨Tryz.f250.name,by decide,Tryz.func250.trans (congrArg some (by kernel_rfl))⟩
 f57:=⟨Tryz.f261.name,by decide,Tryz.func261.trans (congrArg some (by kernel_rfl))⟩
 t0:=Tryz.underlying0
 a0:=Tryz.isAgg0
 z0:=Tryz.sizeOf0
 v0:=Tryz.zeroValue0
 t3:=Tryz.underlying3
 a3:=Tryz.isAgg3
 z3:=Tryz.sizeOf3
 v3:=Tryz.zeroValue3
 t4:=Tryz.underlying4
 a4:=Tryz.isAgg4
 z4:=Tryz.sizeOf4
 v4:=Tryz.zeroValue4
 t5:=Tryz.underlying5
 a5:=Tryz.isAgg5
 z5:=Tryz.sizeOf5
 v5:=Tryz.zeroValue5
 t9:=Tryz.underlying9
 a9:=Tryz.isAgg9
 z9:=Tryz.sizeOf9
 v9:=Tryz.zeroValue9
 t22:=Tryz.underlying54
 a22:=Tryz.isAgg54
 z22:=Tryz.sizeOf54
 v22:=Tryz.zeroValue54
 t25:=Tryz.underlying211
 a25:=Tryz.isAgg211
 z25:=Tryz.sizeOf211
 v25:=Tryz.zeroValue211
 t39:=Tryz.underlying200
 a39:=Tryz.isAgg200
 z39:=Tryz.sizeOf200
 v39:=Tryz.zeroValue200
 t45:=Tryz.underlying302
 a45:=Tryz.isAgg302
 z45:=Tryz.sizeOf302
 v45:=Tryz.zeroValue302
 t46:=Tryz.underlying303
 a46:=Tryz.isAgg303
 z46:=Tryz.sizeOf303
 v46:=Tryz.zeroValue303
 t50:=Tryz.underlying265
 a50:=Tryz.isAgg265
 z50:=Tryz.sizeOf265
 v50:=Tryz.zeroValue265
 t53:=Tryz.underlying74
 a53:=Tryz.isAgg74
 z53:=Tryz.sizeOf74
 v53:=Tryz.zeroValue74
 t55:=Tryz.underlying100
 a55:=Tryz.isAgg100
 z55:=Tryz.sizeOf100
 v55:=Tryz.zeroValue100
 t66:=Tryz.underlying337
 a66:=Tryz.isAgg337
 z66:=Tryz.sizeOf337
 v66:=Tryz.zeroValue337
 t70:=Tryz.underlying340
 a70:=Tryz.isAgg340
 z70:=Tryz.sizeOf340
 v70:=Tryz.zeroValue340
 t76:=Tryz.underlying349
 a76:=Tryz.isAgg349
 z76:=Tryz.sizeOf349
 v76:=Tryz.zeroValue349
 t77:=Tryz.underlying350
 a77:=Tryz.isAgg350
 z77:=Tryz.sizeOf350
 v77:=Tryz.zeroValue350 }
def Tryz.laysCFL_ren:Go.Shelf.Ren:=⟨fun | 8=>193 | 6=>232 | n=>n,fun | 22=>54 | 23=>99 | 25=>294 | 4=>4 | 3=>3 | 0=>0 | n=>n,fun | n=>n⟩
theorem Tryz.laysCFL:Go.Proofs.SlLaysH0.n8 Tryz.prog Tryz.laysCFL_ren:={
 mixed:=by kernel_rfl
 f6:=⟨Tryz.f232.name,by decide,Tryz.func232.trans (congrArg some (by kernel_rfl))⟩
 f8:=⟨Tryz.f193.name,by decide,Tryz.func193.trans (congrArg some (by kernel_rfl))⟩
 t0:=Tryz.underlying0
 a0:=Tryz.isAgg0
 z0:=Tryz.sizeOf0
 v0:=Tryz.zeroValue0
 t3:=Tryz.underlying3
 a3:=Tryz.isAgg3
 z3:=Tryz.sizeOf3
 v3:=Tryz.zeroValue3
 t4:=Tryz.underlying4
 a4:=Tryz.isAgg4
 z4:=Tryz.sizeOf4
 v4:=Tryz.zeroValue4
 t22:=Tryz.underlying54
 a22:=Tryz.isAgg54
 z22:=Tryz.sizeOf54
 v22:=Tryz.zeroValue54
 t25:=Tryz.underlying294
 a25:=Tryz.isAgg294
 z25:=Tryz.sizeOf294
 v25:=Tryz.zeroValue294 }
def Tryz.laysCL_ren:Go.Shelf.Ren:=⟨fun | 41=>61 | n=>n,fun | 22=>54 | 23=>99 | 4=>4 | n=>n,fun | n=>n⟩
theorem Tryz.laysCL:Go.Proofs.SlLaysE0.n41 Tryz.prog Tryz.laysCL_ren:={
 mixed:=by kernel_rfl
 f41:=⟨Tryz.f61.name,by decide,Tryz.func61.trans (congrArg some (by kernel_rfl))⟩
 t4:=Tryz.underlying4
 a4:=Tryz.isAgg4
 z4:=Tryz.sizeOf4
 v4:=Tryz.zeroValue4
 t22:=Tryz.underlying54
 a22:=Tryz.isAgg54
 z22:=Tryz.sizeOf54
 v22:=Tryz.zeroValue54 }
end Go.Proofs
namespace Go.Proofs.YtdoiekknhnbepaaGreatDoor
open List renaming getElem?_eq_some_iff->a1,getElem?_eq_getElem->a2,mem_singleton->a6,mem_cons->a7,not_lt->ba,pairwise_cons->bb,getElem?_append_right->be,getElem?_append_left->bk,pairwise_iff_getElem->bl,getElem?_take->bp,getElem?_drop->bt,mem_append->bv,length->bw
open Lib renaming byteCells->bx,compareBytes->bz,compactUpTo->bA,hid->bB,BuilderAtF->bC,strCells->bD,compact->bE,keeps->bF
open UInt8 renaming ofNat->bG,toNat_ofNat'->bH,toNat_lt->bI,ofNat_toNat->bJ,not_lt->bK
open Region renaming ready->bL,lexTailB->bM,lexHead->bN,chainB->bO,sinkB->bP,binds->bQ,Mode->bR
open _root_.Array renaming getElem?_eq_none->bS,getElem?_modify->bT
open _root_.ByteArray renaming toList_eq->bU,mk->bV,size->bW
open Go.Proofs.Lays renaming n166->bX,n167->bY,n169->bZ,n240->b0
open Classical renaming byContradiction->b1
open Value renaming string->b2,int->b3
open Ending renaming returned->b4
open Tryz
open Bool renaming and_eq_true->aQ,eq_iff_iff->aR,false_eq_true->bg,and_assoc->bn,true_and->bs
open List renaming length_cons->aS,length_append->aT,flatMap_cons->aU,lt_irrefl->aV,drop_of_length_le->aW,eq_nil_of_length_eq_zero->aY,drop_eq_getElem_cons->aZ,getElem_mem->a8,getElem_cons_succ->bc,size_toArray->bi,le_antisymm->bj,le_trans->bo,lt_asymm->bq,lt_trans->br
open Nat renaming le_refl->aX,zero_add->bd,add_sub_cancel->bf,lt_or_ge->bh,lt_of_not_le->bm
section
open Go.RowKit Go.Sort
open Lib renaming hid -> Jh
attribute [local go_sem ↓] Go.wp_at_zero Go.wp_at_succ
attribute [local go_sem] Later.cell
def encLb (x:Lb):List Value:=[.string ⟨x.n.toArray⟩,.string ⟨x.v.toArray⟩]
theorem Khc (x y:Lb) (W:World) :
  Calls prog 130 #[.agg (encLb x).toArray,.agg (encLb y).toArray] W fun e w'=>e = .returned (.int .i64 (bz x.n y.n))/\∃q os',w'=grow (W.drewN q) os':=by
 obtain ⟨xn,xv⟩:=x;obtain ⟨yn,yv⟩:=y;have aa:=fun W'=>Tryz.strings_Compare ⟨xn.toArray⟩ ⟨yn.toArray⟩ W'
 simp only[List.toList_toArray] at aa;obtain ⟨r,hr⟩:=iZ (bz xn yn);simp only[hr] at aa |-;have HC:=Jh aa;clear aa hr;unfold encLb;obtain ⟨X,hX⟩:∃X:ByteArray,(⟨xn.toArray⟩:ByteArray)=X:=⟨_,rfl⟩;obtain ⟨Y,hY⟩:∃X:ByteArray,(⟨yn.toArray⟩:ByteArray)=X:=⟨_,rfl⟩;simp only[hX,hY] at HC |-;clear hX hY;go_enter func130,ntmps130
 go_wp2_with fail
 refine (HC.out _).mono ?_;rintro e w' ⟨rfl,rfl⟩;go_wp2_with fail
 go_ret
 exact ⟨rfl,0,_,by rw[alloc_eq_grow,alloc_eq_grow,grow_grow];rfl⟩
theorem Kye (nm:Txt) (p:Nat) (w:World) (hp:w.cell? ⟨p,0,none⟩=some (.string ⟨nm.toArray⟩)) :
  PredBelow prog 194 #[.pointer (some ⟨p,0,none⟩)] (fun x=>.agg (encLb x).toArray) (fun x=>x.n == nm) w:=by
 intro W x hb;have ab:=later hb hp;obtain ⟨xn,xv⟩:=x;have aa:((⟨xn.toArray⟩:ByteArray).toList == (⟨nm.toArray⟩:ByteArray).toList)=(xn == nm):=by rw[bU,bU]
 obtain ⟨r,hr⟩:=iZ (xn == nm);rw[hr] at aa;simp only[hr];unfold encLb;obtain ⟨X,hX⟩:∃X:ByteArray,(⟨xn.toArray⟩:ByteArray)=X:=⟨_,rfl⟩;obtain ⟨Y,hY⟩:∃X:ByteArray,(⟨nm.toArray⟩:ByteArray)=X:=⟨_,rfl⟩;rw[hX,hY] at aa;rw[hY] at ab;simp only[hX];clear hX hY hr hp;have hpl:p < W.heap.size:=Kdv ab;show Calls prog 194 #[.agg #[.string X,.string ⟨xv.toArray⟩],.pointer (some ⟨p,0,none⟩)] W _
 go_enter func194,ntmps194
 go_wp2_with fail
 go_ret
 exact ⟨rfl,hb.alloc hb.size _⟩
theorem Kxu {α : Type} [Inhabited α] (enc:α->List Value) (k:Nat) (w:World) (blk off n:Nat) (d:Array α) (os:Array Obj):w.grownBy (sortWorldK enc k w blk off n d os) (some blk):=by
 refine ⟨rfl,rfl,rfl,?_,?_⟩
 .simp[sortWorldK,grow,putRowK,putRow,mapBlock,Sort.ahead]
 .intro j hj hne;have hb:¬blk=j:=fun e=>hne (by rw[e])
  simp only[sortWorldK,grow,putRowK,putRow,mapBlock,Sort.ahead];rw[Array.getElem?_append_left (by simpa using hj),bT,je hb]
theorem Knj:(prog.info? 99).map (fun i=>(i.zero,i.size,i.bytes))=some (some (.agg #[.string ⟨#[]⟩,.string ⟨#[]⟩]),2,32):=by kernel_rfl
theorem Kbx (x:Lb):(encLb x).length=2:=rfl
theorem Khv (x:Lb):∀v∈encLb x,v.oneCell'=true:=by intro v hv;simp[encLb] at hv;rcases hv with rfl | rfl <;> rfl
theorem Kjj (l:List Lb):(l.flatMap encLb).length=l.length*2:=by
 induction l with
 | nil=>rfl
 | cons x l ih=>rw[aU,aT,ih,Kbx,aS];omega
theorem Kdj:∀(l:List Lb) (t:Nat),t < l.length*2->(l.flatMap encLb)[t]? = (encLb l[t / 2]!)[t % 2]?
 | [],t,h=>by simp at h
 | x :: l,t,h=>by
  rw[aU]
  by_cases h2:t < 2
  .rw[bk (by rw[Kbx];exact h2),show t / 2=0 by omega,show t % 2=t by omega];simp
  .rw[be (by rw[Kbx];omega),Kbx,Kdj l (t - 2) (by simp at h;omega),show (t - 2) / 2=t / 2 - 1 by omega,show (t - 2) % 2=t % 2 by omega];congr 2;obtain ⟨m,hm⟩:∃m,t / 2=m+1:=⟨t / 2 - 1,by omega⟩;rw[hm];simp
theorem Kgq {w:World} {B b off n:Nat} {l:List Lb} (h:Elems w B 2 encLb (some ⟨b,off,none⟩) n l) (hn:0 < n):∀t,t < l.length*2->w.cell? ⟨b,off+t,none⟩=(l.flatMap encLb)[t]?:=by
 intro t ht;obtain ⟨b',aa,e,_,hc⟩:=h.2 hn;injection e with e;injection e with e1 e2;subst e1 e2;rw[Kdj l t ht];have hl:t / 2 < l.length:=by omega
 have h1:l[t / 2]? = some l[t / 2]!:=by rw[i9 l _ hl,a2 hl]
 have h2:t % 2 < (encLb l[t / 2]!).length:=by rw[Kbx];omega
 have:=hc (t / 2) _ h1 (t % 2) _ (a2 h2);rw[a2 h2,<-this];congr 2;omega
theorem Kpz (l:List Lb) (b off n c:Nat) (w:World) (h:Elems w w.heap.size 2 encLb (some ⟨b,off,none⟩) n l) (hn:0 < n) (hn8:n<=8) :
  Calls prog 61 #[.slice (some ⟨b,off,none⟩) n c] w fun e w'=>∃g cap,e = .returned (.slice (some ⟨g,0,none⟩) n cap)/\w'.ownsRow w.heap.size 99 2 (.slice (some ⟨g,0,none⟩) n cap) n (l.flatMap encLb)/\Below w.heap.size w w':=by
 obtain ⟨i0,ac,ag,af,ae⟩:=info_parts Knj;have hl:=h.len
 have ab:=AnyE.slices_Clone Tryz.laysCL i0 _ 2 32 ac ag af ae rfl (by omega) sizeOf99 b off n c (l.flatMap encLb) w (by rw[Kjj,hl]) (by unfold maxLen;omega) (by omega)
  (fun j u hu=>by
   have hj:=(a1.1 hu).1;rw[Kjj] at hj
   rw[Kgq h hn j hj];exact hu)
  (fun u hu=>by
   obtain ⟨x,_,hx⟩:=List.mem_flatMap.1 hu
   exact Khv x u hx)
 refine ab.mono ?_;rintro e w' ⟨v',rfl,aa,ad,hb⟩;rcases aa.2 with ⟨rfl,_⟩ | ⟨g,cap,cur,rfl,h1⟩
 .exact jl rfl ad
 .exact ⟨g,cap,rfl,aa,hb⟩
theorem Kud (n:Nat) (W:World) (h:n<=12):Calls prog 174 #[.int .u64 n] W fun e w'=>(∃l:Int,e = .returned (.int .i64 l))/\w'=W:=
 (Tryz.bits_Len n W (by omega) (by omega)).mono fun _ _ ⟨he,hw⟩=>⟨⟨_,he⟩,hw⟩
theorem Ktp (l:List Lb) (g cap n B:Nat) (w:World) (hown:w.ownsRow B 99 2 (.slice (some ⟨g,0,none⟩) n cap) n (l.flatMap encLb)) (hl:l.length=n) (hn8:n<=8) :
  Calls prog 119 #[.slice (some ⟨g,0,none⟩) n cap,.func (.func 130) #[] #[]] w fun e w'=>e = .returned (.tuple #[])/\w.grownBy w' (some g):=by
 have ad:=hown.lt g rfl;rcases hown.2 with ⟨he,_⟩ | ⟨g',cap',cur,he,h1,h2,h3,h4,h5,h6⟩
 .cases he
 .injection he with he _ _;injection he with he;injection he with he _ _;subst he
  have hH:HoldsK encLb 2 w g 0 l.toArray:=by
   intro t ht;rw[size_flatK] at ht;have ac:t < l.length*2:=by simpa using ht
   refine ⟨?_,by simp[World.frozen?,h2]⟩;rw[get_flatK _ _ _ _ ht,bd,cell_of_row w g t cur _ (0,0) h2]
   have e1:cur[t]? = (l.flatMap encLb)[t]?:=by rw[<-h6,List.getElem?_take_of_lt (by omega)];simp
   rw[e1,Kdj l t ac];have ab:t % 2 < (encLb l[t / 2]!).length:=by rw[Kbx];omega
   simp only[List.getElem!_toArray,id];rw[i9 (encLb l[t / 2]!) (t % 2) ab,a2 ab]
  have eg:∀args w,(callFunc 130 args).run prog w = .ok (.enter 130 args) w:=enters_of func130 (by kernel_rfl) rfl;have aa:=AnyQ.slices_SortFunc_small Tryz.laysSFL 2 isAgg99 sizeOf99 encLb Kbx Khv (fun x y=>bz x.n y.n) 130 #[] g 0 cap l.toArray w eg (fun _ _ _ _ x y=>Khc x y _) hH ad.2 (by simp;omega) Kud;simp only[bi,hl] at aa;refine aa.mono ?_;rintro e w' ⟨rfl,m,os,rfl⟩;exact ⟨rfl,Kxu _ _ _ _ _ _ _ _⟩
theorem Kme (l:List Lb) (nm:Txt) (b off i c p:Nat) (w:World) (r:Bool) (hr:(l.take i).any (fun x=>x.n == nm)=r) (hi:i<=l.length) (hl8:l.length<=8) (hb:b < w.heap.size) (hp:w.cell? ⟨p,0,none⟩=some (.string ⟨nm.toArray⟩))
  (hc:∀t,t < l.length*2->w.cell? ⟨b,off+t,none⟩=(l.flatMap encLb)[t]?) :
  Calls prog 193 #[.slice (some ⟨b,off,none⟩) i c,.func (.func 194) #[] #[.pointer (some ⟨p,0,none⟩)]] w fun e w'=>e = .returned (.bool r)/\Below w.heap.size w w':=by
 have eg:∀args w,(callFunc 194 args).run prog w = .ok (.enter 194 args) w:=enters_of func194 (by kernel_rfl) rfl
 have aa:=AnyQ.slices_ContainsFunc Tryz.laysCFL 2 isAgg99 sizeOf99 encLb Kbx (fun x=>x.n == nm) 194 #[.pointer (some ⟨p,0,none⟩)] eg b off i c l w (Kye nm p w hp) hi (by omega) hb
  (fun j hj k v hv=>by
   have hk:k < 2:=by have:=(a1.1 hv).1;rw[Kbx] at this;exact this
   have:=hc (j*2+k) (by omega);rw[Kdj l (j*2+k) (by omega),show (j*2+k) / 2=j by omega,show (j*2+k) % 2=k by omega,hv] at this;rw[<-this];congr 2
   omega)
 rw[hr] at aa;exact aa
def Kze (w:World) (c:Nat) (e:Ending) (w':World):Prop:=(∃v,e = .returned (.tuple #[v,.int .i64 (c:Nat)]))/\Below w.heap.size w w'
theorem Kov (l:List Lb) (A:Option Addr) (n c:Nat) (w:World) (hE:Elems w w.heap.size 2 encLb A n l) (hnc:n<=c) (hnm:n<=140737488351232) (hz:∀x∈l,x.n.length<=140737488351232/\x.v.length<=140737488351232) :
  Calls prog 160 #[.slice A n c] w (Kze w (Kaw l)):=by
 have hl:=hE.len
 by_cases h0:n=0
 .subst h0;have hm:Kaw l=43:=by rw[Kaw,jf hl]
  rw[hm];clear hm;go_enter func160,ntmps160
  go_wp2_with fail
  go_ret2
  exact ⟨⟨_,rfl⟩,Below.refl _ _⟩
 .have e0:((n:Int) == 0)=false:=by rw[jg];omega
  by_cases h8:8 < n
  .have hm:Kaw l=44:=by rw[Kaw,je (by omega),jf (by omega)]
   rw[hm];have e8:decide ((8:Int) < (n:Int))=true:=by simp;omega
   clear hm;go_enter func160,ntmps160
   go_wp2_with fail
   go_ret2
   exact ⟨⟨_,rfl⟩,Below.refl _ _⟩
  .have e8:decide ((8:Int) < (n:Int))=false:=by simp;omega
   obtain ⟨R,hR⟩:=iZ (Kci [] l);have hm:Kaw l=R:=by rw[Kaw,je (by omega),je (by omega),hR]
   rw[hm];obtain ⟨b,ae,rfl,al,_⟩:=hE.2 (by omega);have aa:=Kgq hE (by omega);have HC:=Jh aa;have HR:=Jh hR;have HZ:=Jh hz;have ac:=Jh hl;have hn0:0 < n:=by omega
   clear hm hR hz aa hl h0;go_enter func160,ntmps160
   go_upto_block 1 with fail
   clear e0 e8;go_cut [] (fun wz=>Below w.heap.size w wz/\R=0)
   case first=>
    go_wp2_with fail
    go_loopg [17] n (fun g s17 wr=>∃i:Nat,i+g=n/\s17 = .int .i64 (i:Int)/\Kci (l.take i) (l.drop i)=R/\Below w.heap.size w wr)
    case atStart=>exact ⟨0,by omega,rfl,by simpa using HR.out,Below.refl _ _⟩
    case round=>
     obtain ⟨i,ax,rfl,ab,hB⟩:=hrel;have aw:=Jh ax;have aB:=Jh ab;clear ax ab
     by_cases hi:i < n
     .have el:decide ((i:Int) < (n:Int))=true:=by simp;omega
      have aP:decide (i < n)=true:=by simp;omega
      have ai:i < l.length:=by have:=ac.out;omega
      obtain ⟨x,hx⟩:=iZ (l[i]);have ay:x∈l:=by rw[<-hx];exact a8 ai
      have an:=HZ.out x ay;have ab:=aB.out;rw[aZ ai,hx,Kci] at ab
      have aC:(l.flatMap encLb)[i*2]? = some (.string ⟨x.n.toArray⟩):=by rw[Kdj l _ (by omega),show i*2 / 2=i by omega,show i*2 % 2=0 by omega,i9 l i ai,hx];rfl
      have aA:(l.flatMap encLb)[i*2+1]? = some (.string ⟨x.v.toArray⟩):=by rw[Kdj l _ (by omega),show (i*2+1) / 2=i by omega,show (i*2+1) % 2=1 by omega,i9 l i ai,hx];rfl
      have c0:wr.cell? ⟨b,ae+i*2,none⟩=some (.string ⟨x.n.toArray⟩):=((hB.cell (p:=⟨b,ae+i*2,none⟩) al).trans (HC.out _ (by omega))).trans aC;have c1:wr.cell? ⟨b,ae+i*2+1,none⟩=some (.string ⟨x.v.toArray⟩):=((hB.cell (p:=⟨b,ae+i*2+1,none⟩) al).trans (HC.out (i*2+1) (by omega))).trans aA;obtain ⟨N,hN⟩:∃N:ByteArray,(⟨x.n.toArray⟩:ByteArray)=N:=⟨_,rfl⟩;obtain ⟨V,hV⟩:∃N:ByteArray,(⟨x.v.toArray⟩:ByteArray)=N:=⟨_,rfl⟩;rw[hN] at c0;rw[hV] at c1;have av:N.data.toList=x.n:=by rw[<-hN]
      have aq:V.data.toList=x.v:=by rw[<-hV]
      have aN:N.size<=140737488351232:=by rw[<-Kai,av];exact an.1
      have aK:V.size<=140737488351232:=by rw[<-Kai,aq];exact an.2
      have ah:=Jh ab;have HN:=Jh hN;have aI:=Jh av;have aJ:=Jh aq;have HX:=Jh hx;clear ab aC aA hx hN hV av aq an ay;go_upto_region 8 with fail
      have hq:Blk (wr.alloc (.cells #[.string N,.string V] 99)) wr.heap.size 99 #[.string N,.string V]:=Blk.new _ _ _;have af:Below w.heap.size w (wr.alloc (.cells #[.string N,.string V] 99)):=hB.alloc hB.size _;obtain ⟨w1,az⟩:=iZ (wr.alloc (.cells #[.string N,.string V] 99));obtain ⟨p,hp⟩:=iZ wr.heap.size;rw[az] at hq af |-;rw[hp] at hq |-;clear az hp c0 c1 hB;have q0:_=some (b2 N):=hq.cell 0;have q1:_=some (b2 V):=hq.cell 1;obtain ⟨rn,ap⟩:=iZ (fitN x.n);obtain ⟨rv,ar⟩:=iZ (fitV x.v);obtain ⟨ra,am⟩:=iZ ((l.take i).any (fun y=>y.n == x.n));have ab:=ah.out;rw[ap,ar,am] at ab;have ad:=Jh ab;have aF:=Jh (show fitN N.data.toList=rn by rw[aI.out,ap]);have aH:=Jh (show fitV V.data.toList=rv by rw[aJ.out,ar]);have aG:=Jh am;clear ab ah ap ar am;go_wp2_with fail
      refine (Ktc N rn aF.out aN w1).mono ?_;rintro e w2 ⟨rfl,rfl⟩
      cases rn with
      | false=>
       obtain rfl:40=R:=by have:=ad.out;simpa using this
       go_wp2_with fail
       go_ret2
       exact ⟨⟨_,rfl⟩,af⟩
      | true=>
       go_wp2_with fail
       refine (Kqg V rv aH.out aK w1).mono ?_;rintro e w2 ⟨rfl,rfl⟩
       cases rv with
       | false=>
        obtain rfl:41=R:=by have:=ad.out;simpa using this
        go_wp2_with fail
        go_ret2
        exact ⟨⟨_,rfl⟩,af⟩
       | true=>
        have hmf:∀(fn:Fn) (first cap:Array Value) (w:World),(Instr.makeFunc fn first cap).run prog w = .ok (.func fn first cap) w:=fun _ _ _ _=>rfl
        have hci:(i:Int)<=(c:Int):=by omega
        go_wp2_with fail
        refine (Kme l x.n b ae i c p w1 ra aG.out (by omega) (by have:=ac.out;omega) (by have:=af.size;omega) (by rw[HN.out];exact q0) (fun t ht=>(af.cell (p:=⟨b,ae+t,none⟩) al).trans (HC.out t ht))).mono ?_;rintro e w3 ⟨rfl,aM⟩;have aD:Below w.heap.size w w3:=af.trans (aM.mono af.size)
        cases ra with
        | true=>
         obtain rfl:42=R:=by have:=ad.out;simpa using this
         go_wp2_with fail
         go_ret2
         exact ⟨⟨_,rfl⟩,aD⟩
        | false=>
         go_wp2_with fail
         go_roundg (gk - 1)
         case measure=>have:=aw.out;omega
         case rel=>
          refine ⟨i+1,by have:=aw.out;omega,by go_num,?_,aD⟩;rw[List.take_succ_eq_append_getElem ai,HX.out];have:=ad.out;simpa using this
     .have aj:R=0:=by
       have:=aB.out;rw[aW (by have:=ac.out;omega),Kci] at this;exact this.symm
      have ao:=Jh aj;have el:decide ((i:Int) < (n:Int))=false:=by simp;omega
      have aP:decide (i < n)=false:=by simp;omega
      clear aj;go_wp2_with fail
      go_meet
      exact ⟨hB,ao.out⟩
   case rest=>
    obtain ⟨hB,aj⟩:=hcut;obtain ⟨w1,rfl⟩:=i7 wc;have aL:Elems w1 w1.heap.size 2 encLb (some ⟨b,ae,none⟩) n l:=(hE.below hB).more hB.size;have ao:=Jh aj;clear aj;go_wp2_with fail
    refine (Kpz l b ae n c w1 aL (by omega) (by omega)).mono ?_;rintro e w2 ⟨g,cap,rfl,ak,aO⟩;go_wp2_with fail
    refine (Ktp l g cap n _ w2 ak ac.out (by omega)).mono ?_;rintro e w3 ⟨rfl,ag⟩;go_wp2_with fail
    go_ret2
    refine ⟨⟨_,by rw[ao.out];rfl⟩,?_⟩;have hgl:=ak.lt g rfl;have aE:=hB.trans (aO.mono hB.size);exact aE.trans ⟨ag.os,ag.tape,ag.output,ag.size,fun k hk=>ag.block k (by have:=aE.size;omega) (fun e=>by injection e with e;have:=hB.size;omega)⟩
end
end Go.Proofs.YtdoiekknhnbepaaGreatDoor
