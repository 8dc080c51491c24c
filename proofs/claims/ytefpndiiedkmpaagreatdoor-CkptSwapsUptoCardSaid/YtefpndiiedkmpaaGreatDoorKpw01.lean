/- Merged (what the claim wants of): Words, Region, BitPlain, ChkPlain, ChkPlain2, EncPlain, ChkPlain3, BitWalks, ResRow, ChkWalksA. -/
import Derived.WalkKit
import Derived.Handy
import Derived.Lib.Hide
import Derived.Deep.Draws
import Derived.Deep.AppendLies
import Derived.StillTail
import Derived.Deep.QuietTactic
import Derived.BigQuiet
import Derived.Deep.RegionHeld3
import Derived.Deep.DrawnRows
import Derived.Deep.DeepCutAuto
import Derived.WalkSpells
import Derived.WalkLawsBesides
import Derived.Test.YtefpndiiedkmpaaGreatDoorProg
import Derived.Lib.Bytealg
import Derived.Maps.AppendAt
set_option linter.unusedVariables false
set_option linter.unusedSimpArgs false
set_option maxRecDepth 100000
set_option maxHeartbeats 8000000
namespace Go.Proofs.YtefpndiiedkmpaaGreatDoor
section
open Go.RowKit
theorem Qcu {k:IntKind} {a b:Int} (h:a=b):Ending.returned (.int k a) = .returned (.int k b):=by rw[h]
theorem vi {k:IntKind} {a b:Int} (h:a=b):Value.int k a=Value.int k b:=by rw[h]
theorem vb {a b:Bool} (h:a=b):Value.bool a=Value.bool b:=by rw[h]
theorem ret2 {a b c d:Value} (h:a=c) (h':b=d):Ending.returned (.tuple #[a,b]) = .returned (.tuple #[c,d]):=by rw[h,h']
theorem ret3 {a b c d e f:Value} (h:a=d) (h':b=e) (h'':c=f):Ending.returned (.tuple #[a,b,c]) = .returned (.tuple #[d,e,f]):=by rw[h,h',h'']
structure Kept (B:Nat) (ex:List Nat) (w w':World):Prop where
 os:w'.os=w.os
 tape:w'.tape=w.tape
 output:w'.output=w.output
 size:w.heap.size≤w'.heap.size
 block:∀k,k < B→k∉ex→w'.heap[k]? = w.heap[k]?
section
variable {B : Nat} {ex : List Nat} {a w w' : World}
theorem Kept.refl (B:Nat) (ex:List Nat) (w:World):Kept B ex w w:=⟨rfl,rfl,rfl,Nat.le_refl _,fun _ _ _=>rfl⟩
theorem Kept.trans (h:Kept B ex a w) (k:Kept B ex w w'):Kept B ex a w':=
 ⟨k.os.trans h.os,k.tape.trans h.tape,k.output.trans h.output,Nat.le_trans h.size k.size,fun i hi hx=>(k.block i hi hx).trans (h.block i hi hx)⟩
theorem Kept.mono {B':Nat} {ex':List Nat} (h:Kept B ex w w') (hB:B'≤B) (hx:∀k,k < B'→k∈ex→k∈ex'):Kept B' ex' w w':=
 ⟨h.os,h.tape,h.output,h.size,fun k hk hn=>h.block k (by omega) (fun hm=>hn (hx k hk hm))⟩
theorem Kept.of_below (h:Below B w w'):Kept B ex w w':=⟨h.os,h.tape,h.output,h.size,fun k hk _=>h.block k hk⟩
theorem Kept.below (h:Kept B ex w w') (hx:∀k∈ex,B≤k):Below B w w':=
 ⟨h.os,h.tape,h.output,h.size,fun k hk=>h.block k hk (fun hm=>by have:=hx k hm;omega)⟩
theorem Kept.drew (h:Kept B ex a w):Kept B ex a w.drew:=⟨h.os,h.tape,h.output,h.size,h.block⟩
theorem Kept.setCell (h:Kept B ex a w) {p:Addr} (hp:p.block∈ex∨B≤p.block) (u:Value):Kept B ex a (w.setCell p u):=
 h.trans ⟨rfl,rfl,rfl,by simp[World.setCell],fun k hk hn=>Below.heap_setCell _ _ _ _ (by rintro rfl;rcases hp with hp | hp;exact hn hp;omega)⟩
end
theorem Kaf {w:World} {a:Addr} {v:Value} (h:w.cell? a=some v):a.block < w.heap.size:=by
 rcases Nat.lt_or_ge a.block w.heap.size with hlt | hge
 ·exact hlt
 ·unfold World.cell? at h;rw[Array.getElem?_eq_none hge] at h;cases h
theorem later {w w':World} (hb:Below w.heap.size w w') {a:Addr} {v:Value} (h:w.cell? a=some v):w'.cell? a=some v:=(hb.cell (Kaf h)).trans h
theorem then_ {w w1 w2:World} (h:Below w.heap.size w w1) (h':Below w1.heap.size w1 w2):Below w.heap.size w w2:=h.trans (h'.mono h.size)
theorem Kept.then_ {w w1 w2:World} {ex:List Nat} (h:Kept w.heap.size ex w w1) (h':Below w1.heap.size w1 w2):Kept w.heap.size ex w w2:=h.trans (.of_below (h'.mono h.size))
def Blk (w:World) (g:Nat) (t:TypeId) (cs:Array Value):Prop:=w.heap[g]? = some (.cells cs t (0,0))
section
variable {w w' : World} {g : Nat} {t : TypeId} {cs : Array Value}
theorem Blk.lt (h:Blk w g t cs):g < w.heap.size:=by
 rcases Nat.lt_or_ge g w.heap.size with hlt | hge
 ·exact hlt
 ·unfold Blk at h;rw[Array.getElem?_eq_none hge] at h;cases h
theorem Blk.cell (h:Blk w g t cs) (i:Nat):w.cell? ⟨g,i,none⟩=cs[i]?:=cell_of_row w g i cs t (0,0) h
theorem Blk.frozen (h:Blk w g t cs) (i:Nat):w.frozen? ⟨g,i,none⟩=false:=by
 unfold Blk at h;simp[World.frozen?,h]
theorem Blk.new (w:World) (t:TypeId) (cs:Array Value):Blk (w.alloc (.cells cs t)) w.heap.size t cs:=heap_alloc_new w _
theorem Blk.newAt (h:g=w.heap.size):Blk (w.alloc (.cells cs t)) g t cs:=by subst h;exact Blk.new w t cs
theorem Blk.drew (h:Blk w g t cs):Blk w.drew g t cs:=h
theorem Blk.alloc (h:Blk w g t cs) (o:Obj):Blk (w.alloc o) g t cs:=(Below.heap_alloc w o g h.lt).trans h
theorem Blk.set_ (h:Blk w g t cs) (i:Nat) (u:Value):Blk (w.setCell ⟨g,i,none⟩ u) g t (cs.setIfInBounds i u):=by
 unfold Blk at h ⊢;simp[World.setCell,Array.getElem?_modify,h]
theorem Blk.far (h:Blk w g t cs) {p:Addr} (hp:g≠p.block) (u:Value):Blk (w.setCell p u) g t cs:=(Below.heap_setCell w p u g hp).trans h
theorem Blk.below {B:Nat} (h:Blk w g t cs) (hb:Below B w w') (hg:g < B):Blk w' g t cs:=(hb.block g hg).trans h
theorem Blk.kept {B:Nat} {ex:List Nat} (h:Blk w g t cs) (hb:Kept B ex w w') (hg:g < B) (hn:g∉ex):Blk w' g t cs:=(hb.block g hg hn).trans h
theorem Blk.grown {row:Option Nat} (h:Blk w g t cs) (hb:w.grownBy w' row) (hg:some g≠row):Blk w' g t cs:=(hb.block g h.lt hg).trans h
theorem Blk.ne_ {g':Nat} {t':TypeId} {cs':Array Value} (h:Blk w g t cs) (h':Blk w g' t' cs') (hne:t≠t'):g≠g':=by
 rintro rfl;unfold Blk at h h';rw[h] at h';injection h' with h';injection h' with _ ht;exact hne ht
end
theorem Kav {w:World} {g:Nat} {t:TypeId} {l:List Value} (h:Blk w g t l.toArray):∀j u,l[j]? = some u→w.cell? ((⟨g,0,none⟩:Addr).add j)=some u:=by
 intro j u hu;have e:(⟨g,0,none⟩:Addr).add j=⟨g,j,none⟩:=by unfold Addr.add;split <;> simp_all
 rw[e,h.cell];simpa using hu
def I1 (i:Int):List Value:=[.int .i64 i]
theorem Qdx (l:List Int):l.map (Value.int .i64)=l.flatMap I1:=by
 induction l with
 | nil=>rfl
 | cons x l ih=>simp[I1,ih]
def Elems {α : Type} (w:World) (B sz:Nat) (enc:α→List Value) (A:Option Addr) (n:Nat) (xs:List α):Prop:=
 xs.length=n∧(0 < n→∃b off,A=some ⟨b,off,none⟩∧b < B∧∀i x,xs[i]? = some x→∀j v,(enc x)[j]? = some v→w.cell? ⟨b,off+i*sz+j,none⟩=some v)
section
variable {α : Type} {w w' : World} {B B' sz n : Nat} {enc : α → List Value} {A : Option Addr} {xs : List α}
theorem Elems.keep (h:Elems w B sz enc A n xs) (hk:∀p:Addr,p.block < B→w'.cell? p=w.cell? p):Elems w' B sz enc A n xs:=
 ⟨h.1,fun hn=>by
  obtain ⟨b,off,e,hb,hc⟩:=h.2 hn
  exact ⟨b,off,e,hb,fun i x hx j v hv=>(hk _ hb).trans (hc i x hx j v hv)⟩⟩
theorem Elems.keepAt (h:Elems w B sz enc A n xs) (hk:∀p:Addr,p.block < B→A.map (·.block)=some p.block→w'.cell? p=w.cell? p):Elems w' B sz enc A n xs:=
 ⟨h.1,fun hn=>by
  obtain ⟨b,off,e,hb,hc⟩:=h.2 hn
  exact ⟨b,off,e,hb,fun i x hx j v hv=>(hk _ hb (by rw[e];rfl)).trans (hc i x hx j v hv)⟩⟩
theorem Elems.more (h:Elems w B sz enc A n xs) (hB:B≤B'):Elems w B' sz enc A n xs:=
 ⟨h.1,fun hn=>by
  obtain ⟨b,off,e,hb,hc⟩:=h.2 hn
  exact ⟨b,off,e,by omega,hc⟩⟩
theorem Elems.below (h:Elems w B sz enc A n xs) (hb:Below B w w'):Elems w' B sz enc A n xs:=h.keep fun _ hp=>hb.cell hp
theorem Elems.nil_:Elems w B sz enc A 0 []:=⟨rfl,fun h=>absurd h (by omega)⟩
theorem Elems.of_own {base:Nat} {e:TypeId} {v:Value} {ys:List Value} (hsz:∀x∈xs,(enc x).length=sz) (hys:ys=xs.flatMap enc) (h:w.ownsRow base e sz v n ys) (hn:xs.length=n) :
  ∃A c,v = .slice A n c∧Elems w w.heap.size sz enc A n xs∧(∀a,A=some a→base≤a.block)∧n≤c:=by
 rcases h.2 with ⟨rfl,rfl⟩ | ⟨g,cap,cur,rfl,hb,hh,hnc,_,hsize,htk⟩
 ·exact ⟨none,0,rfl,⟨hn,fun h=>absurd h (by omega)⟩,(fun a h=>by cases h),Nat.le_refl _⟩
 ·refine ⟨_,cap,rfl,⟨hn,fun _=>⟨g,0,rfl,?_,fun i x hx j v hv=>?_⟩⟩,(fun a h=>by injection h with h;subst h;exact hb),hnc⟩
  ·rcases Nat.lt_or_ge g w.heap.size with hlt | hge
   ·exact hlt
   ·rw[Array.getElem?_eq_none hge] at hh;cases hh
  ·have hcell:w.cell? ⟨g,0+i*sz+j,none⟩=cur[0+i*sz+j]?:=cell_of_row w g _ cur e (0,0) hh;rw[hcell]
   have key:∀(l:List α) (i:Nat),(∀x∈l,(enc x).length=sz)→l[i]? = some x→(l.flatMap enc)[i*sz+j]? = some v:=by
    intro l
    induction l with
    | nil=>intro i _ h;simp at h
    | cons y l ih=>
     intro i hl hi
     cases i with
     | zero=>
      simp only[List.getElem?_cons_zero,Option.some.injEq] at hi;subst hi;have hj:j < (enc y).length:=(List.getElem?_eq_some_iff.1 hv).1;rw[List.flatMap_cons,List.getElem?_append_left (by omega)];simpa using hv
     | succ i=>
      rw[List.flatMap_cons,List.getElem?_append_right (by rw[hl y (by simp),Nat.succ_mul];omega),hl y (by simp),show (i+1)*sz+j - sz=i*sz+j by rw[Nat.succ_mul];omega];exact ih i (fun z hz=>hl z (by simp[hz])) (by simpa using hi)
   have h1:=key xs i hsz hx;rw[←hys,←htk,List.getElem?_take] at h1
   split at h1
   ·simpa using h1
   ·cases h1
theorem Elems.cut (h:Elems w B sz enc A n xs) {k cap:Nat} (hk:k≤n) (hc:n≤cap) :
  Elems w B sz enc (if cap=k then A else A.map (·.add (k*sz))) (n - k) (xs.drop k):=by
 refine ⟨by rw[List.length_drop,h.1],fun hn=>?_⟩;obtain ⟨b,off,rfl,hb,hcell⟩:=h.2 (by omega);rw[if_neg (by omega)];refine ⟨b,off+k*sz,by simp only[Option.map_some,Addr.add];split <;> simp_all,hb,fun i x hx j v hv=>?_⟩;rw[List.getElem?_drop] at hx;have:=hcell (k+i) x hx j v hv;rw[Nat.add_mul] at this;rw[←this];congr 2;omega
theorem Elems.len (h:Elems w B sz enc A n xs):xs.length=n:=h.1
end
structure Later (w0:World) where
 w:World
 h:Below w0.heap.size w0 w
instance Later.some {w:World}:Nonempty (Later w):=⟨⟨w,Below.refl _ _⟩⟩
theorem Later.cell {w:World} (x:Later w) (b o:Nat) (hb:b < w.heap.size):x.w.cell? ⟨b,o,none⟩=w.cell? ⟨b,o,none⟩:=x.h.cell (p:=⟨b,o,none⟩) hb
theorem Kbe {P:Program} {f:FuncId} {args:Array Value} {w:World} (x:Later w) {v:Value} (h:Calls P f args x.w fun e w'=>e = .returned v∧Below x.w.heap.size x.w w') :
  Calls P f args x.w fun e w''=>e = .returned v∧∃y:Later w,w''=y.w:=
 h.mono fun _ w' ⟨he,hb⟩=>⟨he,⟨w',then_ x.h hb⟩,rfl⟩
theorem Kqs {P:Program} {f:FuncId} {args:Array Value} {w:World} (x:Later w) {v:Value} (h:Calls P f args x.w fun e w'=>e = .returned v∧x.w=w') :
  Calls P f args x.w fun e w''=>e = .returned v∧∃y:Later w,w''=y.w:=
 h.mono fun _ _ ⟨he,hb⟩=>⟨he,x,hb.symm⟩
section
variable {P : Program} {ops : Array Oper} {md : Region.Mode} {C : World → Prop}
def Kmu (P:Program) (md:Region.Mode) (ops:Array Oper) (C:World→Prop) (n:Nat) (L:Array Bool→Act→Prop):Nat→Array Bool→Act→Prop
 | 0,listed,a=>L listed a
 | f+1,listed,a=>
  Region.ready md ops listed≠[]∧∀i∈Region.ready md ops listed,i < n∧qOp P ops C i (Kmu P md ops C n L f (listed.setIfInBounds i true)) a
theorem Krs {n g:Nat} {L:Array Bool→Act→Prop} {Q':Exit→Act→World→Prop} (hL:∀listed a w,C w→L listed a→wpAny P md ops Q' g listed a w) :
  ∀(f:Nat) (listed:Array Bool) (a:Act) (w:World),C w→Kmu P md ops C n L f listed a→wpAny P md ops Q' (f+g) listed a w
 | 0,listed,a,w,hw,h=>by rw[Nat.zero_add];exact hL _ _ _ hw h
 | f+1,listed,a,w,hw,h=>by
  rw[show f+1+g=(f+g)+1 by omega];exact ⟨fun h0=>absurd h0 h.1,fun i hi=>wpOp_of_qOp hw (fun a' w' hw' h'=>Krs hL f _ a' w' hw' h') (h.2 i hi).2⟩
theorem Kzv {n i:Nat} {oi:Oper} {v:Value} {L:Array Bool→Act→Prop} (hi:ops[i]? = some oi) (hsel:∀(j:Nat) (o:Oper) cs b,ops[j]? = some o→o.op≠.select cs b)
  (hs:Region.sinkB md ops n=true) (hc:Region.chainB md ops n=true) (hn:n < ops.size) (hin:i < n)
  (hdone:∀listed a,L listed a→∀j∈Region.ready md ops listed,n≤j) :
  ∀(f:Nat) (listed:Array Bool) (a:Act),HeadInv md ops n listed→
   (∀j oj,ops[j]? = some oj→j≠i→listed.getD j true=false→(∀e∈oj.after,Region.binds md e=true→e.on≠i)→oi.apart ops oj=true)→
   i∈Region.ready md ops listed→YieldsIn P ops C oi v a→
   Kmu P md ops C n L f (listed.setIfInBounds i true) (a.put oi.dst v)→Kmu P md ops C n L (f+1) listed a:=by
 intro f
 induction f with
 | zero=>
  intro listed a inv _ hr hy H;refine ⟨fun h=>(by rw[h] at hr;cases hr),fun j hj=>?_⟩;have hjn:j < n:=Nat.lt_of_not_le fun h=>tail_waits hs hc hn inv _ i rfl hin (mem_ready.1 hr).1 j h hj
  refine ⟨hjn,?_⟩
  by_cases hji:j=i
  ·subst hji;exact hy.qOp hi H
  ·exact absurd (hdone _ _ H j (ready_mono hj hji)) (by omega)
 | succ f ih=>
  intro listed a inv hfree hr hy H;refine ⟨fun h=>(by rw[h] at hr;cases hr),fun j hj=>?_⟩;have hjn:j < n:=Nat.lt_of_not_le fun h=>tail_waits hs hc hn inv _ i rfl hin (mem_ready.1 hr).1 j h hj
  refine ⟨hjn,?_⟩
  by_cases hji:j=i
  ·subst hji;exact hy.qOp hi H
  obtain ⟨hjun,oj,hoj,hall⟩:=mem_ready.1 hj
  have hnot:∀e∈oj.after,Region.binds md e=true→e.on≠i:=fun e he hb heq=>by
   have h1:=hall e he hb;rw[heq,getD_both (mem_ready.1 hr).1] at h1;cases h1
  have h2:=qOp_put hoj (hfree j oj hoj hji hjun hnot) (fun cs b=>hsel i oi cs b hi) (fun cs b=>hsel j oj cs b hoj) hy (H.2 j (ready_mono hj hji)).2;refine qOp_mono (fun a' h3=>ih (listed.setIfInBounds j true) a' (inv.set hj hjn) (fun k ok hk hki hun hno=>hfree k ok hk hki ?_ hno) (ready_mono hr (Ne.symm hji)) h3.1 ?_) h2
  ·by_cases hjk:j=k
   ·subst hjk;exact hjun
   ·rw[getD_set_ne true hjk] at hun;exact hun
  ·rw[Array.setIfInBounds_comm _ _ hji];exact h3.2
theorem Krq {n g:Nat} {Lq:Act→Prop} (hsel:Region.noSelect ops=true) (hs:Region.sinkB md ops n=true) (hc:Region.chainB md ops n=true) (hn:n < ops.size) :
  ∀(l:List Oper) (k:Nat) (listed:Array Bool) (a:Act),(∀j,j < l.length→l[j]? = ops[k+j]?)→k+l.length=n→HeadInv md ops n listed→
  Region.lexHead md ops g l.length k listed=true→wpQuiet P ops C Lq l a→
  Kmu P md ops C n (fun listed' a'=>Region.seqB md ops g n listed'=true∧Lq a') l.length listed a
 | [],k,listed,a,_,hk,_,hB,h=>by
  have:k=n:=by simpa using hk
  subst this;exact ⟨by simpa[Region.lexHead] using hB,h⟩
 | o :: l,k,listed,a,hl,hk,inv,hB,h=>by
  have h0:ops[k]? = some o:=by simpa using (hl 0 (by simp)).symm
  simp only[List.length_cons,Region.lexHead,Bool.and_eq_true] at hB;obtain ⟨⟨hr,hf⟩,hB'⟩:=hB;have hkn:k < n:=by simp only[List.length_cons] at hk;omega
  have hr':k∈Region.ready md ops listed:=by simpa using hr
  have hst:qOp P ops C k (wpQuiet P ops C Lq l) a:=by unfold qOp;simp only[h0];exact h
  obtain ⟨v,hy,hK⟩:=yieldsIn_of_qOp h0 hst
  exact Kzv h0 (Region.noSelect_spec hsel) hs hc hn hkn (fun listed' a' hL=>seqB_ready hL.1) l.length listed a inv (Region.free_spec h0 hf) hr' hy
   (Krq hsel hs hc hn l (k+1) _ _ (fun j hj=>by have:=hl (j+1) (by simp;omega);simpa[Nat.add_assoc,Nat.add_comm 1 j] using this) (by simp only[List.length_cons] at hk;omega) (inv.set hr' hkn) hB' hK)
theorem Kgb {id:Nat} {Q:Exit→Act→World→Prop} {a:Act} {w:World} {l:List Oper} (n:Nat) (hm:P.follows .mixedOrders=true) (hB:Region.lexTailB .any l.toArray n=true)
  (hC:C { w with drawn:=w.drawn+1 })
  (h:wpQuiet P l.toArray C (fun a'=>∀w',C w'→wpList P l.toArray Q (l.drop n) a' w') (l.take n) a):(Code.region id l.toArray true).wp P Q a w:=by
 simp only[Region.lexTailB,Bool.and_eq_true,decide_eq_true_eq] at hB;obtain ⟨⟨⟨⟨hsel,hn⟩,hs⟩,hc⟩,hlex⟩:=hB;have hn':n < l.length:=by simpa using hn
 have htl:(l.take n).length=n:=by simp;omega
 have hdl:(l.drop n).length=l.toArray.size - n:=by simp
 have inv0:HeadInv .any l.toArray n (Array.replicate l.toArray.size false):=
  ⟨by simp,fun j oj _ hl=>(by rw[getD_replicate_false] at hl;cases hl),fun t _ ht=>getD_in (by simpa using ht) (getD_replicate_false _ _)⟩
 have H:=Krq (md:=.any) (g:=l.toArray.size - n) hsel hs hc hn (l.take n) 0 _ a (fun j hj=>by
  have hj':j < n:=by rw[htl] at hj;exact hj
  simp[hj']) (by simpa using htl) inv0 (by rw[htl];exact hlex) h
 refine wp_region_any hm ?_
 have:=Krs (Q':=Q) (g:=l.toArray.size - n) (fun listed a' w' hw' hL=>by
  have:=wpAny_of_seq (md:=.any) (Q':=Q) (l.drop n) n listed a' w' (fun j=>by simp[List.getElem?_drop]) (by rw[hdl];exact hL.1) (hL.2 w' hw')
  rwa[hdl] at this) _ _ _ _ hC H
 rw[htl,show n+(l.toArray.size - n)=l.toArray.size by omega] at this;exact this
theorem Kab {id:Nat} {Q:Exit→Act→World→Prop} {a:Act} {w:World} {l:List Oper} (hm:P.follows .mixedOrders=true) (hB:Region.lexB .any l.toArray=true)
  (h:wpQuiet P l.toArray (fun w'=>∃x:Later w,w'=x.w) (fun a'=>∀w',(∃x:Later w,w'=x.w)→Q .normal a' w') l a):(Code.region id l.toArray true).wp P Q a w:=
 wp_region_quiet (C:=fun w'=>∃x:Later w,w'=x.w) hm hB ⟨⟨w.drew,(Below.refl _ _).drew⟩,rfl⟩ (by simpa using h)
theorem Kag {id:Nat} {Q:Exit→Act→World→Prop} {a:Act} {w:World} {l:List Oper} (n:Nat) (hm:P.follows .mixedOrders=true) (hB:Region.lexTailB .any l.toArray n=true)
  (h:wpQuiet P l.toArray (fun w'=>∃x:Later w,w'=x.w) (fun a'=>∀w',(∃x:Later w,w'=x.w)→wpList P l.toArray Q (l.drop n) a' w') (l.take n) a):(Code.region id l.toArray true).wp P Q a w:=
 Kgb (C:=fun w'=>∃x:Later w,w'=x.w) n hm hB ⟨⟨w.drew,(Below.refl _ _).drew⟩,rfl⟩ h
end
end
section
def bitAt (s:List UInt8) (i:Nat):Bool:=(s.getD (i / 8) 0).toNat.testBit (7 - i % 8)
def roomB (s:List UInt8) (n:Nat):List UInt8:=if n % 8=0 then s ++ [0] else s
def pushB (s:List UInt8) (n:Nat) (b:Bool):List UInt8:=
 if b then (roomB s n).set (n / 8) ((roomB s n).getD (n / 8) 0 ||| UInt8.ofNat (128 >>> (n % 8))) else roomB s n
structure Kde (s:List UInt8) (l:List Bool):Prop where
 len:s.length=(l.length+7) / 8
 bit:∀i,bitAt s i=l.getD i false
theorem Kde.nil:Kde [] []:=⟨rfl,fun i=>by simp[bitAt]⟩
theorem Kmj {s:List UInt8} {n:Nat} (h:s.length=(n+7) / 8):(roomB s n).length=n / 8+1:=by
 unfold roomB
 split
 ·rw[List.length_append,List.length_singleton];omega
 ·omega
theorem Kmi {s:List UInt8} {n:Nat} (h:s.length=(n+7) / 8) (i:Nat):bitAt (roomB s n) i=bitAt s i:=by
 unfold roomB
 split
 ·unfold bitAt;congr 2;simp only[List.getD_eq_getElem?_getD]
  by_cases hi:i / 8 < s.length
  ·rw[List.getElem?_append_left hi]
  ·rw[List.getElem?_append_right (by omega),List.getElem?_eq_none (l:=s) (by omega)]
   by_cases h0:i / 8 - s.length=0
   ·rw[h0];rfl
   ·rw[List.getElem?_eq_none (by simp;omega)]
 ·rfl
theorem Qop (k j:Nat) (hk:k < 8) (hj:j < 8):(UInt8.ofNat (128 >>> k)).toNat.testBit (7 - j)=decide (j=k):=by
 rcases (by omega:k=0∨k=1∨k=2∨k=3∨k=4∨k=5∨k=6∨k=7) with rfl | rfl | rfl | rfl | rfl | rfl | rfl | rfl <;>
 rcases (by omega:j=0∨j=1∨j=2∨j=3∨j=4∨j=5∨j=6∨j=7) with rfl | rfl | rfl | rfl | rfl | rfl | rfl | rfl <;> rfl
theorem Kde.push {s:List UInt8} {l:List Bool} (h:Kde s l) (b:Bool):Kde (pushB s l.length b) (l ++ [b]):=by
 have hr:=Kmj h.len;refine ⟨?_,fun i=>?_⟩
 ·unfold pushB
  split
  ·rw[List.length_set,hr,List.length_append,List.length_singleton];omega
  ·rw[hr,List.length_append,List.length_singleton];omega
 ·have h0:(l ++ [b]).getD i false=if i=l.length then b else l.getD i false:=by
   simp only[List.getD_eq_getElem?_getD]
   by_cases hi:i < l.length
   ·rw[List.getElem?_append_left hi,if_neg (by omega)]
   ·rw[List.getElem?_append_right (by omega)]
    by_cases he:i=l.length
    ·subst he;simp
    ·rw[if_neg he,List.getElem?_eq_none (by simp;omega),List.getElem?_eq_none (by omega)]
  rw[h0,←h.bit i];unfold pushB
  cases b with
  | false=>
   rw[if_neg (by simp),Kmi h.len]
   split
   ·rename_i he
    rw[he,h.bit];simp
   ·rfl
  | true=>
   rw[if_pos rfl]
   by_cases hq:i / 8=l.length / 8
   ·have e1:bitAt ((roomB s l.length).set (l.length / 8) ((roomB s l.length).getD (l.length / 8) 0 ||| UInt8.ofNat (128 >>> (l.length % 8)))) i=(bitAt (roomB s l.length) i || decide (i % 8=l.length % 8)):=by
     unfold bitAt;rw[hq]
     have e2:((roomB s l.length).set (l.length / 8) ((roomB s l.length).getD (l.length / 8) 0 ||| UInt8.ofNat (128 >>> (l.length % 8)))).getD (l.length / 8) 0=((roomB s l.length).getD (l.length / 8) 0 ||| UInt8.ofNat (128 >>> (l.length % 8))):=by
      simp only[List.getD_eq_getElem?_getD];rw[List.getElem?_set_self (by omega)];rfl
     rw[e2,UInt8.toNat_or,Nat.testBit_or,Qop _ _ (Nat.mod_lt _ (by omega)) (Nat.mod_lt _ (by omega))]
    rw[e1,Kmi h.len]
    by_cases he:i=l.length
    ·rw[if_pos he,he];simp
    ·have:i % 8≠l.length % 8:=by omega
     rw[if_neg he,decide_eq_false this,Bool.or_false]
   ·have e1:bitAt ((roomB s l.length).set (l.length / 8) ((roomB s l.length).getD (l.length / 8) 0 ||| UInt8.ofNat (128 >>> (l.length % 8)))) i=bitAt (roomB s l.length) i:=by
     unfold bitAt;congr 2;simp only[List.getD_eq_getElem?_getD];rw[List.getElem?_set_ne (by omega)]
    rw[e1,Kmi h.len,if_neg (by rintro rfl;exact hq rfl)]
def packFrom (s:List UInt8) (n:Nat):List Bool→List UInt8
 | []=>s
 | b :: l=>packFrom (pushB s n b) (n+1) l
theorem Kde.packFrom {s:List UInt8} {l:List Bool} (h:Kde s l):∀k:List Bool,Kde (packFrom s l.length k) (l++k)
 | []=>by rw[List.append_nil];exact h
 | b :: k=>by
  have:=(h.push b).packFrom k;rw[List.length_append,List.length_singleton,List.append_assoc] at this;exact this
 termination_by k=>k.length
def packB (l:List Bool):List UInt8:=packFrom [] 0 l
theorem Kfo (l:List Bool):Kde (packB l) l:=Kde.nil.packFrom l
theorem Qna {a b:UInt8} (h:∀j,j < 8→a.toNat.testBit (7 - j)=b.toNat.testBit (7 - j)):a=b:=by
 apply UInt8.toNat_inj.1;apply Nat.eq_of_testBit_eq;intro i
 by_cases hi:i < 8
 ·have:=h (7 - i) (by omega);rwa[show 7 - (7 - i)=i by omega] at this
 ·have ha:=UInt8.toNat_lt a;have hb:=UInt8.toNat_lt b;have h2:2 ^ 8≤2 ^ i:=Nat.pow_le_pow_right (by omega) (by omega);rw[Nat.testBit_lt_two_pow (by omega),Nat.testBit_lt_two_pow (by omega)]
theorem Kde.unique {s t:List UInt8} {l:List Bool} (h:Kde s l) (h':Kde t l):s=t:=by
 apply List.ext_getElem (h.len.trans h'.len.symm);intro i h1 h2;apply Qna;intro j hj;have a:=h.bit (8*i+j);have b:=h'.bit (8*i+j);rw[←b] at a;unfold bitAt at a;rw[show (8*i+j) / 8=i by omega,show (8*i+j) % 8=j by omega] at a;simpa[List.getD_eq_getElem?_getD,List.getElem?_eq_getElem h1,List.getElem?_eq_getElem h2] using a
theorem Kqp (l:List Bool) (b:Bool):packB (l ++ [b])=pushB (packB l) l.length b:=(Kfo (l ++ [b])).unique ((Kfo l).push b)
def putN (v:Nat):Nat→List Bool
 | 0=>[]
 | n+1=>v.testBit n :: putN v n
theorem Kaq (v:Nat):∀n,(putN v n).length=n
 | 0=>rfl
 | n+1=>by rw[putN,List.length_cons,Kaq v n]
def valB (l:List Bool):Nat:=l.foldl (fun v b=>2*v+b.toNat) 0
theorem Qjv (l:List Bool):∀v:Nat,l.foldl (fun v b=>2*v+b.toNat) v=v*2 ^ l.length+valB l:=by
 unfold valB
 induction l with
 | nil=>intro v;simp
 | cons b l ih=>
  intro v;rw[List.foldl_cons,List.foldl_cons,ih,ih (2*0+b.toNat),List.length_cons,Nat.pow_succ]
  have:(2*v+b.toNat)*2 ^ l.length=v*(2 ^ l.length*2)+b.toNat*2 ^ l.length:=by
   rw[Nat.add_mul,Nat.mul_comm 2 v,Nat.mul_assoc,Nat.mul_comm 2]
  rw[this];simp only[Nat.mul_zero,Nat.zero_add];omega
theorem Kuo (b:Bool) (l:List Bool):valB (b :: l)=b.toNat*2 ^ l.length+valB l:=by
 have:=Qjv l (2*0+b.toNat);simpa[valB] using this
theorem Kup (v:Nat):∀n,valB (putN v n)=v % 2 ^ n
 | 0=>by simp[putN,valB,Nat.mod_one]
 | n+1=>by
  rw[putN,Kuo,Kaq,Kup v n,Nat.pow_succ,Nat.mod_mul,Nat.testBit_eq_decide_div_mod_eq];rcases Nat.mod_two_eq_zero_or_one (v / 2 ^ n) with h | h <;> rw[h] <;> simp <;> omega
theorem Knd:∀l:List Bool,valB l < 2 ^ l.length
 | []=>by simp[valB]
 | b :: l=>by
  have:=Knd l;rw[Kuo,List.length_cons,Nat.pow_succ];cases b <;> simp <;> omega
theorem Qjw (l:List Bool) (b:Bool):valB (l ++ [b])=2*valB l+b.toNat:=by
 unfold valB;rw[List.foldl_append];rfl
def Kdc (s:List UInt8) (i n:Nat):List Bool:=(List.range n).map fun k=>bitAt s (i+k)
theorem Kfr (s:List UInt8) (i n:Nat):(Kdc s i n).length=n:=by simp[Kdc]
theorem Qgb {s:List UInt8} {a k c:List Bool} (h:Kde s (a++k++c)):Kdc s a.length k.length=k:=by
 apply List.ext_getElem (Kfr _ _ _);intro i h1 h2;have e:(Kdc s a.length k.length)[i]=bitAt s (a.length+i):=by simp[Kdc]
 rw[e,h.bit];rw[List.getD_eq_getElem?_getD,List.append_assoc,List.getElem?_append_right (by omega),Nat.add_sub_cancel_left,List.getElem?_append_left h2,List.getElem?_eq_getElem h2];rfl
def Kan (s:List UInt8) (i:Nat) (k:List Bool):Prop:=Kdc s i k.length=k∧i+k.length≤8*s.length
theorem Kpm (s:List UInt8) (i n m:Nat):Kdc s i (n+m)=Kdc s i n++Kdc s (i+n) m:=by
 unfold Kdc;rw[List.range_add,List.map_append,List.map_map];congr 1;exact List.map_congr_left fun k _=>by simp[Nat.add_assoc]
theorem Kan.app {s:List UInt8} {i:Nat} {a b:List Bool} (h:Kan s i (a++b)):Kan s i a∧Kan s (i+a.length) b:=by
 obtain ⟨h1,h2⟩:=h;rw[List.length_append,Kpm] at h1;rw[List.length_append] at h2;obtain ⟨e1,e2⟩:=List.append_inj h1 (Kfr _ _ _);exact ⟨⟨e1,by omega⟩,e2,by omega⟩
theorem Kde.holds {s:List UInt8} {a k c:List Bool} (h:Kde s (a++k++c)):Kan s a.length k:=by
 refine ⟨Qgb h,?_⟩;have:=h.len;simp only[List.length_append] at this;omega
def readN (s:List UInt8) (i n:Nat):Option (Nat×Nat):=if i+n≤8*s.length then some (valB (Kdc s i n),i+n) else none
theorem Kan.read {s:List UInt8} {i n:Nat} {k:List Bool} (h:Kan s i k) (hn:k.length=n):readN s i n=some (valB k,i+n):=by
 subst hn;unfold readN;rw[if_pos h.2,h.1]
theorem Kan.put {s:List UInt8} {i v n:Nat} (h:Kan s i (putN v n)):readN s i n=some (v % 2 ^ n,i+n):=by
 rw[h.read (Kaq v n),Kup]
structure Smp where
 t:Int
 v:Nat
structure Cst where
 n:Nat
 last:Smp
 step:Int
 lead:Nat
 tail:Nat
 window:Bool
def cst0:Cst:=⟨0,⟨0,0⟩,0,0,0,false⟩
def u64N (c:Int):Nat:=(c % 18446744073709551616).toNat
def Kcm (c:Int):List Bool:=
 if c=0 then [false] else
 if -64≤c∧c < 64 then putN 2 2++putN (u64N c) 7 else
 if -256≤c∧c < 256 then putN 6 3++putN (u64N c) 9 else
 if -2048≤c∧c < 2048 then putN 14 4++putN (u64N c) 12 else putN 15 4++putN (u64N c) 64
def clzN (x:Nat):Nat:=64 - (if x=0 then 0 else x.log2+1)
def ctzF (x:Nat):Nat→Nat
 | 0=>0
 | f+1=>if x % 2=1 then 0 else ctzF (x / 2) f+1
def ctzN (x:Nat):Nat:=ctzF x 64
def Kbl (c:Cst) (x:Nat):List Bool×Cst:=
 if x=0 then ([false],c) else
 if c.window=true∧c.lead≤min (clzN x) 31∧c.tail≤ctzN x then (putN 2 2++putN (x >>> c.tail) (64 - c.lead - c.tail),c) else
 (putN 3 2++putN (min (clzN x) 31) 5++putN (63 - min (clzN x) 31 - ctzN x) 6++putN (x >>> ctzN x) (64 - min (clzN x) 31 - ctzN x),{ c with lead:=min (clzN x) 31,tail:=ctzN x,window:=true })
def Kbn (c:Cst) (s:Smp):List Bool×Cst:=
 if c.n=0 then (putN (u64N s.t) 64++putN s.v 64,{ c with n:=1,last:=s }) else
 (Kcm (s.t - c.last.t - c.step)++(Kbl { c with step:=s.t - c.last.t } (s.v ^^^ c.last.v)).1,{ (Kbl { c with step:=s.t - c.last.t } (s.v ^^^ c.last.v)).2 with last:=s,n:=c.n+1 })
def Kbt:Cst→List Smp→List Bool
 | _,[]=>[]
 | c,s :: l=>(Kbn c s).1++Kbt (Kbn c s).2 l
def Kep (s:List UInt8):Nat→Nat→Option (Nat×Nat)
 | 0,i=>some (0,i)
 | k+1,i=>match readN s i 1 with
  | none=>none
  | some (b,i')=>if b=1 then (match Kep s k i' with | none=>none | some (m,i2)=>some (m+1,i2)) else some (0,i')
def Kdw (m:Nat):Nat:=if m=1 then 7 else if m=2 then 9 else if m=3 then 12 else 64
def signW (w v:Nat):Int:=if v < 2 ^ (w - 1) then (v:Int) else (v:Int) - 2 ^ w
def Kbx (s:List UInt8) (i:Nat):Option (Int×Nat):=match Kep s 4 i with
 | none=>none
 | some (0,i')=>some (0,i')
 | some (m+1,i')=>match readN s i' (Kdw (m+1)) with
  | none=>none
  | some (v,i2)=>some (signW (Kdw (m+1)) v,i2)
def Kbh (c:Cst) (s:List UInt8) (i:Nat):Option (Nat×Cst×Nat):=match readN s i 1 with
 | none=>none
 | some (0,i')=>some (0,c,i')
 | some (_+1,i')=>match readN s i' 1 with
  | none=>none
  | some (0,i2)=>if c.window=true then (match readN s i2 (64 - c.lead - c.tail) with | none=>none | some (v,i3)=>some (v <<< c.tail,c,i3)) else none
  | some (_+1,i2)=>match readN s i2 5 with
   | none=>none
   | some (ld,i3)=>match readN s i3 6 with
    | none=>none
    | some (k,i4)=>if ld+k≤63 then (match readN s i4 (k+1) with | none=>none | some (v,i5)=>some (v <<< (63 - ld - k),{ c with lead:=ld,tail:=63 - ld - k,window:=true },i5)) else none
theorem Kin {w:Nat} {c:Int} (hw:w=7∨w=9∨w=12∨w=64) (h1:-(2 ^ (w - 1):Nat)≤c) (h2:c < (2 ^ (w - 1):Nat)):signW w (u64N c % 2 ^ w)=c:=by
 unfold signW u64N;rcases hw with rfl | rfl | rfl | rfl <;> simp at h1 h2 ⊢ <;> split <;> omega
theorem Qae {s:List UInt8} {i:Nat} {c:Int} (h:Kan s i (Kcm c)) (h1:-9223372036854775808≤c) (h2:c < 9223372036854775808):Kbx s i=some (c,i+(Kcm c).length):=by
 have hb:∀(k:List Bool) (j:Nat),Kan s j (true :: k)→readN s j 1=some (1,j+1)∧Kan s (j+1) k:=fun k j h=>by
  have:=Kan.app (a:=[true]) (b:=k) h;exact ⟨this.1.read rfl,this.2⟩
 have hz:∀(k:List Bool) (j:Nat),Kan s j (false :: k)→readN s j 1=some (0,j+1)∧Kan s (j+1) k:=fun k j h=>by
  have:=Kan.app (a:=[false]) (b:=k) h;exact ⟨this.1.read rfl,this.2⟩
 unfold Kcm at h ⊢;unfold Kbx
 by_cases c0:c=0
 ·rw[if_pos c0] at h ⊢;obtain ⟨e,_⟩:=hz [] i h;subst c0;simp[Kep,e]
 rw[if_neg c0] at h ⊢
 by_cases c1:-64≤c∧c < 64
 ·rw[if_pos c1] at h ⊢;have hp:putN 2 2 = [true,false]:=rfl;rw[hp] at h ⊢;obtain ⟨e1,k1⟩:=hb _ _ h;obtain ⟨e2,k2⟩:=hz _ _ k1;have e3:=Kan.put k2;simp only[Kep,e1,e2,if_pos,if_neg,reduceCtorEq,Kdw,Nat.reduceAdd,Nat.zero_ne_one,if_true,if_false,e3];rw[Kin (.inl rfl) (by simpa using c1.1) (by simpa using c1.2)];simp[Kaq]
 rw[if_neg c1] at h ⊢
 by_cases c2:-256≤c∧c < 256
 ·rw[if_pos c2] at h ⊢;have hp:putN 6 3 = [true,true,false]:=rfl;rw[hp] at h ⊢;obtain ⟨e1,k1⟩:=hb _ _ h;obtain ⟨e2,k2⟩:=hb _ _ k1;obtain ⟨e3,k3⟩:=hz _ _ k2;have e4:=Kan.put k3;simp only[Kep,e1,e2,e3,Kdw,Nat.reduceAdd,Nat.zero_ne_one,if_true,if_false,Nat.reduceEqDiff,e4];rw[Kin (.inr (.inl rfl)) (by simpa using c2.1) (by simpa using c2.2)];simp[Kaq]
 rw[if_neg c2] at h ⊢
 by_cases c3:-2048≤c∧c < 2048
 ·rw[if_pos c3] at h ⊢;have hp:putN 14 4 = [true,true,true,false]:=rfl;rw[hp] at h ⊢;obtain ⟨e1,k1⟩:=hb _ _ h;obtain ⟨e2,k2⟩:=hb _ _ k1;obtain ⟨e3,k3⟩:=hb _ _ k2;obtain ⟨e4,k4⟩:=hz _ _ k3;have e5:=Kan.put k4;simp only[Kep,e1,e2,e3,e4,Kdw,Nat.reduceAdd,Nat.zero_ne_one,if_true,if_false,Nat.reduceEqDiff,e5];rw[Kin (.inr (.inr (.inl rfl))) (by simpa using c3.1) (by simpa using c3.2)];simp[Kaq]
 rw[if_neg c3] at h ⊢;have hp:putN 15 4 = [true,true,true,true]:=rfl;rw[hp] at h ⊢;obtain ⟨e1,k1⟩:=hb _ _ h;obtain ⟨e2,k2⟩:=hb _ _ k1;obtain ⟨e3,k3⟩:=hb _ _ k2;obtain ⟨e4,k4⟩:=hb _ _ k3;have e5:=Kan.put k4;simp only[Kep,e1,e2,e3,e4,Kdw,Nat.reduceAdd,Nat.zero_ne_one,if_true,if_false,Nat.reduceEqDiff,e5];rw[Kin (.inr (.inr (.inr rfl))) (by simpa using h1) (by simpa using h2)];simp[Kaq]
theorem Qgi {x:Nat} (h0:x≠0) (h:x < 2 ^ 64):clzN x≤63∧x < 2 ^ (64 - clzN x):=by
 unfold clzN;rw[if_neg h0];have h1:=(Nat.log2_lt h0).2 h;refine ⟨by omega,?_⟩;rw[show 64 - (64 - (x.log2+1))=x.log2+1 by omega];exact Nat.lt_log2_self
theorem Klv:∀(f x:Nat),x≠0→x < 2 ^ f→2 ^ ctzF x f ∣ x∧ctzF x f < f∧(x >>> ctzF x f) % 2=1
 | 0,x,h0,h=>by simp at h;omega
 | f+1,x,h0,h=>by
  rw[ctzF]
  by_cases hx:x % 2=1
  ·rw[if_pos hx];exact ⟨by simp,by omega,by simpa using hx⟩
  ·rw[if_neg hx];obtain ⟨⟨q,hq⟩,h2,h3⟩:=Klv f (x / 2) (by omega) (by rw[Nat.pow_succ] at h;omega);refine ⟨⟨q,?_⟩,by omega,?_⟩
   ·rw[Nat.pow_succ,Nat.mul_right_comm,←hq];omega
   ·rw[Nat.shiftRight_succ_inside];exact h3
theorem Kwr {x:Nat} (h0:x≠0) (h:x < 2 ^ 64):2 ^ ctzN x ∣ x∧ctzN x < 64:=⟨(Klv 64 x h0 h).1,(Klv 64 x h0 h).2.1⟩
theorem Krz {x:Nat} (h0:x≠0) (h:x < 2 ^ 64):clzN x+ctzN x≤63:=by
 obtain ⟨h1,h2⟩:=Qgi h0 h;obtain ⟨⟨q,hq⟩,h4⟩:=Kwr h0 h;have hle:2 ^ ctzN x≤x:=Nat.le_of_dvd (by omega) ⟨q,hq⟩;have:2 ^ ctzN x < 2 ^ (64 - clzN x):=Nat.lt_of_le_of_lt hle h2;have:=(Nat.pow_lt_pow_iff_right (by omega:1 < 2)).1 this;omega
theorem Krb {x ld tl:Nat} (h0:x < 2 ^ (64 - ld)) (hd:2 ^ tl ∣ x) (hl:ld+tl≤64):((x >>> tl) % 2 ^ (64 - ld - tl)) <<< tl=x:=by
 obtain ⟨q,rfl⟩:=hd;have hp:0 < 2 ^ tl:=Nat.pow_pos (by omega);rw[Nat.shiftRight_eq_div_pow,Nat.mul_div_cancel_left _ hp,Nat.shiftLeft_eq]
 have hq:q < 2 ^ (64 - ld - tl):=by
  have e:2 ^ (64 - ld)=2 ^ tl*2 ^ (64 - ld - tl):=by rw[←Nat.pow_add];congr 1;omega
  rw[e] at h0;exact Nat.lt_of_mul_lt_mul_left h0
 rw[Nat.mod_eq_of_lt hq,Nat.mul_comm]
def Cst.Ok (c:Cst):Prop:=c.lead≤31∧c.lead+c.tail≤63
theorem Cst.ok0:cst0.Ok:=⟨by decide,by decide⟩
theorem Qgt {c:Cst} (h:c.Ok) {x:Nat} (hx:x < 2 ^ 64):(Kbl c x).2.Ok:=by
 unfold Kbl
 split
 ·exact h
 ·rename_i h0
  split
  ·exact h
  ·have:=Krz h0 hx;exact ⟨Nat.min_le_right _ _,by show min (clzN x) 31+ctzN x≤63;omega⟩
theorem Qak {s:List UInt8} {i:Nat} {c:Cst} {x:Nat} (hc:c.Ok) (hx:x < 2 ^ 64) (h:Kan s i (Kbl c x).1):Kbh c s i=some (x,(Kbl c x).2,i+(Kbl c x).1.length):=by
 have hb:∀(k:List Bool) (j:Nat),Kan s j (true :: k)→readN s j 1=some (1,j+1)∧Kan s (j+1) k:=fun k j h=>by
  have:=Kan.app (a:=[true]) (b:=k) h;exact ⟨this.1.read rfl,this.2⟩
 have hz:∀(k:List Bool) (j:Nat),Kan s j (false :: k)→readN s j 1=some (0,j+1)∧Kan s (j+1) k:=fun k j h=>by
  have:=Kan.app (a:=[false]) (b:=k) h;exact ⟨this.1.read rfl,this.2⟩
 unfold Kbl at h ⊢;unfold Kbh
 by_cases x0:x=0
 ·rw[if_pos x0] at h ⊢;obtain ⟨e,_⟩:=hz [] i h;subst x0;simp[e]
 rw[if_neg x0] at h ⊢;have hcl:=Qgi x0 hx;have hct:=Kwr x0 hx;have hcc:=Krz x0 hx
 by_cases w:c.window=true∧c.lead≤min (clzN x) 31∧c.tail≤ctzN x
 ·rw[if_pos w] at h ⊢;have hp:putN 2 2 = [true,false]:=rfl;rw[hp] at h ⊢;obtain ⟨e1,k1⟩:=hb _ _ h;obtain ⟨e2,k2⟩:=hz _ _ k1;have e3:=Kan.put k2;simp only[e1,e2,w.1,if_true,e3];have hd:2 ^ c.tail ∣ x:=Nat.dvd_trans (Nat.pow_dvd_pow 2 w.2.2) hct.1;have hlt:x < 2 ^ (64 - c.lead):=Nat.lt_of_lt_of_le hcl.2 (Nat.pow_le_pow_right (by omega) (by omega));rw[Krb hlt hd (by have:=hc.2;omega)];simp[Kaq];omega
 rw[if_neg w] at h ⊢;have hp:putN 3 2 = [true,true]:=rfl;rw[hp] at h ⊢;obtain ⟨ld,hld⟩:∃ld,min (clzN x) 31=ld:=⟨_,rfl⟩;obtain ⟨tl,htl⟩:∃tl,ctzN x=tl:=⟨_,rfl⟩;rw[hld,htl] at h ⊢;rw[htl] at hct hcc;have hl31:ld≤31:=by omega
 have hlt2:ld+tl≤63:=by omega
 simp only[List.append_assoc,List.cons_append,List.nil_append] at h;obtain ⟨e1,k1⟩:=hb _ _ h;obtain ⟨e2,k2⟩:=hb _ _ k1;obtain ⟨k3,k4⟩:=Kan.app k2;have e3:=Kan.put k3;rw[Kaq] at k4;obtain ⟨k5,k6⟩:=Kan.app k4;have e5:=Kan.put k5;rw[Kaq] at k6;have e6:=Kan.put k6;have m1:ld % 2 ^ 5=ld:=Nat.mod_eq_of_lt (by omega);have m2:(63 - ld - tl) % 2 ^ 6=63 - ld - tl:=Nat.mod_eq_of_lt (by omega);rw[m1] at e3;rw[m2] at e5;have hk:63 - ld - tl+1=64 - ld - tl:=by omega
 have ht2:63 - ld - (63 - ld - tl)=tl:=by omega
 have hle:ld+(63 - ld - tl)≤63:=by omega
 simp only[e1,e2,e3,e5,if_pos hle,hk,e6,ht2];have hlt:x < 2 ^ (64 - ld):=Nat.lt_of_lt_of_le hcl.2 (Nat.pow_le_pow_right (by omega) (by omega));rw[Krb hlt hct.1 (by omega)];simp[Kaq];omega
end
section
open Go.RowKit
def SmpOk (s:Smp):Prop:=0≤s.t∧s.t≤1125899906842624∧s.v < 2 ^ 64
def Rises:List Smp→Prop
 | []=>True
 | [_]=>True
 | a :: b :: l=>a.t < b.t∧Rises (b :: l)
structure Cst.Good (c:Cst):Prop where
 ok:c.Ok
 t0:0≤c.last.t
 t1:c.last.t≤1125899906842624
 v:c.last.v < 2 ^ 64
 s0:-1125899906842624≤c.step
 s1:c.step≤1125899906842624
theorem Cst.good0:cst0.Good:=⟨Cst.ok0,by decide,by decide,by decide,by decide,by decide⟩
theorem Cst.Ok.step {c:Cst} (h:c.Ok) (z:Int):Cst.Ok { c with step:=z }:=h
theorem Qal (c:Cst) (x:Nat):(Kbl c x).2.step=c.step:=by
 unfold Kbl
 split
 ·rfl
 ·split <;> rfl
theorem Knv {c:Cst} (h:c.Good) {s:Smp} (hs:SmpOk s):(Kbn c s).2.Good:=by
 unfold Kbn
 split
 ·exact ⟨h.ok,hs.1,hs.2.1,hs.2.2,h.s0,h.s1⟩
 ·have hx:s.v ^^^ c.last.v < 2 ^ 64:=Nat.xor_lt_two_pow hs.2.2 h.v;have hd:=Qgt (h.ok.step (s.t - c.last.t)) hx;have hst:=Qal { c with step:=s.t - c.last.t } (s.v ^^^ c.last.v);dsimp only at hst;refine ⟨hd,hs.1,hs.2.1,hs.2.2,?_,?_⟩
  ·show _≤(Kbl { c with step:=s.t - c.last.t } (s.v ^^^ c.last.v)).2.step
   rw[hst];have:=hs.1;have:=h.t1;omega
  ·show (Kbl { c with step:=s.t - c.last.t } (s.v ^^^ c.last.v)).2.step≤_
   rw[hst];have:=hs.2.1;have:=h.t0;omega
def Kbj (c:Cst) (s:List UInt8) (i:Nat):Option (Smp×Cst×Nat):=
 if c.n=0 then (match readN s i 64 with
  | none=>none
  | some (tv,i1)=>if 0≤signW 64 tv∧signW 64 tv≤1125899906842624 then (match readN s i1 64 with
   | none=>none
   | some (v,i2)=>some (⟨signW 64 tv,v⟩,{ c with n:=1,last:=⟨signW 64 tv,v⟩ },i2)) else none)
 else (match Kbx s i with
  | none=>none
  | some (ch,i1)=>if 0≤wrap64 (c.last.t+wrap64 (c.step+ch))∧wrap64 (c.last.t+wrap64 (c.step+ch))≤1125899906842624∧c.last.t < wrap64 (c.last.t+wrap64 (c.step+ch)) then (match Kbh { c with step:=wrap64 (c.step+ch) } s i1 with
   | none=>none
   | some (x,c',i2)=>some (⟨wrap64 (c.last.t+wrap64 (c.step+ch)),c.last.v ^^^ x⟩,{ c' with last:=⟨wrap64 (c.last.t+wrap64 (c.step+ch)),c.last.v ^^^ x⟩,n:=c.n+1 },i2)) else none)
theorem Kur {z:Int} (h1:-9223372036854775808≤z) (h2:z < 9223372036854775808):wrap64 z=z:=by
 unfold wrap64;omega
theorem Qbh {s:List UInt8} {i:Nat} {c:Cst} (hc:c.Good) {x:Smp} (hx:SmpOk x) (hr:c.n=0∨c.last.t < x.t) (h:Kan s i (Kbn c x).1):Kbj c s i=some (x,(Kbn c x).2,i+(Kbn c x).1.length):=by
 obtain ⟨t0,t1,v1⟩:=hx;unfold Kbn at h ⊢;unfold Kbj
 by_cases h0:c.n=0
 ·rw[if_pos h0] at h ⊢;rw[if_pos h0];obtain ⟨k1,k2⟩:=Kan.app h;have e1:=Kan.put k1;rw[Kaq] at k2;have e2:=Kan.put k2;have m1:signW 64 (u64N x.t % 2 ^ 64)=x.t:=Kin (.inr (.inr (.inr rfl))) (by simp;omega) (by simp;omega);have m2:x.v % 2 ^ 64=x.v:=Nat.mod_eq_of_lt v1;simp only[e1,m1,e2,m2,if_pos (And.intro t0 t1)];simp[Kaq,Nat.add_assoc]
 ·have hlt:c.last.t < x.t:=hr.resolve_left h0;rw[if_neg h0] at h ⊢;rw[if_neg h0];obtain ⟨k1,k2⟩:=Kan.app h;have:=hc.t0;have:=hc.t1;have:=hc.s0;have:=hc.s1;have e1:=Qae k1 (by omega) (by omega);have w1:wrap64 (c.step+(x.t - c.last.t - c.step))=x.t - c.last.t:=by rw[Kur (by omega) (by omega)];omega
  have w2:wrap64 (c.last.t+(x.t - c.last.t))=x.t:=by rw[Kur (by omega) (by omega)];omega
  have hxv:x.v ^^^ c.last.v < 2 ^ 64:=Nat.xor_lt_two_pow v1 hc.v;have e2:=Qak (hc.ok.step (x.t - c.last.t)) hxv k2;have w3:c.last.v ^^^ (x.v ^^^ c.last.v)=x.v:=by rw[Nat.xor_comm x.v,←Nat.xor_assoc,Nat.xor_self,Nat.zero_xor]
  simp only[e1,w1,w2,e2,w3,if_pos (And.intro t0 (And.intro t1 hlt))];simp[Nat.add_assoc]
def Kcl (s:List UInt8):Nat→Cst→Nat→List Smp×Bool
 | 0,_,_=>([],true)
 | k+1,c,i=>match Kbj c s i with
  | none=>([],false)
  | some (x,c',i')=>(x :: (Kcl s k c' i').1,(Kcl s k c' i').2)
theorem Khc (c:Cst) (s:Smp):(Kbn c s).2.n=c.n+1∧(Kbn c s).2.last=s:=by
 unfold Kbn
 split
 ·rename_i h
  exact ⟨by rw[h],rfl⟩
 ·exact ⟨rfl,rfl⟩
theorem Kml {s:List UInt8}:∀(l:List Smp) {i:Nat} {c:Cst},c.Good→(∀x∈l,SmpOk x)→Rises l→(∀x,l.head? = some x→c.n=0∨c.last.t < x.t)→Kan s i (Kbt c l)→Kcl s l.length c i=(l,true)
 | [],_,_,_,_,_,_,_=>rfl
 | x :: l,i,c,hc,ho,hr,hh,h=>by
  rw[Kbt] at h;obtain ⟨k1,k2⟩:=Kan.app h;have hx:=ho x (List.mem_cons_self ..);have e:=Qbh hc hx (hh x rfl) k1;have hn:=Khc c x
  have ih:=Kml l (Knv hc hx) (fun y hy=>ho y (List.mem_cons_of_mem _ hy)) (by
   cases l with
   | nil=>trivial
   | cons y l=>exact hr.2) (fun y hy=>.inr (by
   cases l with
   | nil=>cases hy
   | cons z l=>
    obtain rfl:=Option.some.inj hy;rw[hn.2]
    exact hr.1)) k2
  rw[List.length_cons,Kcl,e];dsimp only;rw[ih]
theorem Khm {c:Cst} {s:List UInt8} {i:Nat} (hc:c.Ok) {x:Nat} {c':Cst} {j:Nat} (h:Kbh c s i=some (x,c',j)):x < 2 ^ 64∧c'.Ok:=by
 have hrd:∀(n i v j:Nat),readN s i n=some (v,j)→v < 2 ^ n:=fun n i v j h=>by
  unfold readN at h
  split at h
  ·injection h with h;injection h with h1 h2;rw[←h1];have:=Knd (Kdc s i n);rwa[Kfr] at this
  ·cases h
 have hsh:∀(v k t:Nat),v < 2 ^ k→k+t≤64→v <<< t < 2 ^ 64:=fun v k t hv hk=>by
  rw[Nat.shiftLeft_eq];have h1:v*2 ^ t < 2 ^ k*2 ^ t:=Nat.mul_lt_mul_of_pos_right hv (Nat.pow_pos (by omega));rw[←Nat.pow_add] at h1;exact Nat.lt_of_lt_of_le h1 (Nat.pow_le_pow_right (by omega) hk)
 unfold Kbh at h
 split at h
 ·cases h
 ·injection h with h;injection h with h1 h2;injection h2 with h2 h3;subst h1 h2;exact ⟨by decide,hc⟩
 ·split at h
  ·cases h
  ·split at h
   ·split at h
    ·cases h
    ·rename_i v i3 hv
     injection h with h;injection h with h1 h2;injection h2 with h2 h3;subst h1 h2;exact ⟨hsh _ _ _ (hrd _ _ _ _ hv) (by have:=hc.2;omega),hc⟩
   ·cases h
  ·split at h
   ·cases h
   ·rename_i ld i3 hld
    split at h
    ·cases h
    ·rename_i k i4 hk
     split at h
     ·rename_i hle
      split at h
      ·cases h
      ·rename_i v i5 hv
       injection h with h;injection h with h1 h2;injection h2 with h2 h3;subst h1 h2;have:=hrd _ _ _ _ hld;exact ⟨hsh _ _ _ (hrd _ _ _ _ hv) (by omega),⟨by show ld≤31;omega,by show ld+(63 - ld - k)≤63;omega⟩⟩
     ·cases h
end
section
def uintF:Nat→Nat→List UInt8
 | 0,v=>[UInt8.ofNat v]
 | f+1,v=>if 127 < v then UInt8.ofNat (v % 128+128) :: uintF f (v / 128) else [UInt8.ofNat v]
def uintT (v:Nat):List UInt8:=uintF 10 v
theorem Klc:∀(f v:Nat),v < 128 ^ (f+1)→uintF f v=uintF (f+1) v
 | 0,v,h=>by rw[uintF,uintF,if_neg (by omega)]
 | f+1,v,h=>by
  rw[uintF,uintF]
  split
  ·rw[Klc f (v / 128) (by rw[Nat.pow_succ] at h;omega)]
  ·rfl
theorem Qfq {v:Nat} (h:v < 2 ^ 64) (h1:127 < v):uintT v=UInt8.ofNat (v % 128+128) :: uintT (v / 128):=by
 unfold uintT
 conv=>lhs;rw[uintF,if_pos h1]
 rw[Klc 9 (v / 128) (by
  have:(2:Nat) ^ 64≤128 ^ (9+1)*128:=by decide
  omega)]
theorem Qjn {v:Nat} (h1:v≤127):uintT v = [UInt8.ofNat v]:=by
 rw[uintT,uintF,if_neg (by omega)]
theorem Kul:∀(f v:Nat),1≤(uintF f v).length∧(uintF f v).length≤f+1
 | 0,v=>by simp[uintF]
 | f+1,v=>by
  rw[uintF]
  split
  ·have:=Kul f (v / 128);simp only[List.length_cons];omega
  ·simp
theorem Kam (v:Nat):1≤(uintT v).length∧(uintT v).length≤11:=Kul 10 v
def readG:Nat→Nat→List UInt8→Except Nat (Nat×Nat)
 | _,_,[]=>.error 20
 | i,acc,b :: l=>if (i=9∧1 < b.toNat)∨(0 < i∧b.toNat=0) then .error 21 else if b.toNat < 128 then .ok (acc+b.toNat*128 ^ i,i+1) else readG (i+1) (acc+(b.toNat - 128)*128 ^ i) l
def readU (l:List UInt8):Except Nat (Nat×Nat):=readG 0 0 l
def cont:Nat→List UInt8→Nat
 | 0,_=>0
 | _+1,[]=>0
 | n+1,b :: l=>if 127 < b.toNat then cont n l+1 else 0
def valL:List UInt8→Nat
 | []=>0
 | b :: l=>b.toNat % 128+128*valL l
def Kia (i acc j:Nat) (l:List UInt8):Except Nat (Nat×Nat):=
 match l.drop j with
 | []=>.error 20
 | b :: _=>if (i+j=9∧1 < b.toNat)∨(0 < i+j∧b.toNat=0) then .error 21 else .ok (acc+128 ^ i*valL (l.take (j+1)),i+j+1)
theorem Kqt:∀(l:List UInt8) (i acc:Nat),i≤9→readG i acc l=Kia i acc (cont (9 - i) l) l
 | [],i,acc,_=>by simp[readG,Kia]
 | b :: l,i,acc,hi=>by
  rw[readG]
  by_cases h9:i=9
  ·subst h9;have e:cont (9 - 9) (b :: l)=0:=rfl;rw[e,Kia];simp only[List.drop_zero,Nat.add_zero,Nat.zero_add,List.take_succ_cons,List.take_zero,valL,Nat.mul_zero]
   split
   ·rfl
   ·rename_i h
    have hb:b.toNat < 128:=by
     apply Classical.byContradiction;intro hh;exact h (.inl ⟨by trivial,by omega⟩)
    rw[if_pos hb,Nat.mod_eq_of_lt hb,Nat.mul_comm]
  ·obtain ⟨m,hm⟩:∃m,9 - i=m+1:=⟨9 - i - 1,by omega⟩;rw[hm,cont]
   by_cases hb:127 < b.toNat
   ·rw[if_pos hb,if_neg (by omega),if_neg (by omega),Kqt l (i+1) _ (by omega),show 9 - (i+1)=m by omega];unfold Kia;rw[List.drop_succ_cons,List.take_succ_cons,valL];have hbl:=UInt8.toNat_lt b;have e1:b.toNat % 128=b.toNat - 128:=by omega
    rw[e1,show i+1+cont m l=i+(cont m l+1) by omega]
    cases List.drop (cont m l) l with
    | nil=>rfl
    | cons c l'=>
     have e:acc+(b.toNat - 128)*128 ^ i+128 ^ (i+1)*valL (List.take (cont m l+1) l)=acc+128 ^ i*(b.toNat - 128+128*valL (List.take (cont m l+1) l)):=by
      rw[Nat.pow_succ,Nat.mul_add,Nat.mul_assoc,Nat.mul_comm (b.toNat - 128),Nat.add_assoc]
     simp only[e]
   ·rw[if_neg hb];unfold Kia;simp only[List.drop_zero,Nat.add_zero,Nat.zero_add,List.take_succ_cons,List.take_zero,valL,Nat.mul_zero]
    split
    ·rfl
    ·rw[if_pos (by omega),Nat.mod_eq_of_lt (by omega),Nat.mul_comm]
theorem readU_cont (l:List UInt8):readU l=Kia 0 0 (cont 9 l) l:=Kqt l 0 0 (by omega)
theorem Kym:∀(l:List UInt8) (i acc v k:Nat),i≤9→acc < 128 ^ i→readG i acc l = .ok (v,k)→v < 2 ^ 64∧i < k∧k≤i+l.length∧k≤10
 | [],i,acc,v,k,_,_,h=>by simp[readG] at h
 | b :: l,i,acc,v,k,hi,ha,h=>by
  rw[readG] at h
  split at h
  ·cases h
  ·rename_i hn
   split at h
   ·rename_i hb
    injection h with h;injection h with h1 h2;subst h1 h2;refine ⟨?_,by omega,by simp,by omega⟩
    by_cases h9:i=9
    ·subst h9;have hb1:b.toNat≤1:=by omega
     have e:(128:Nat) ^ 9=2 ^ 63:=by decide
     rw[e] at ha ⊢;have e2:(2:Nat) ^ 64=2*2 ^ 63:=by decide
     rw[e2];have:b.toNat*2 ^ 63≤1*2 ^ 63:=Nat.mul_le_mul_right _ hb1;omega
    ·have h1:b.toNat*128 ^ i≤127*128 ^ i:=Nat.mul_le_mul_right _ (by omega);have h2:(128:Nat) ^ (i+1)≤128 ^ 9:=Nat.pow_le_pow_right (by omega) (by omega);rw[Nat.pow_succ] at h2;have e:(128:Nat) ^ 9 < 2 ^ 64:=by decide
     omega
   ·rename_i hb
    have h9:i≠9:=by
     intro e;apply hn;exact .inl ⟨e,by omega⟩
    have hbl:=UInt8.toNat_lt b;have h1:(b.toNat - 128)*128 ^ i≤127*128 ^ i:=Nat.mul_le_mul_right _ (by omega);have:=Kym l (i+1) _ v k (by omega) (by rw[Nat.pow_succ];omega) h;simp only[List.length_cons];omega
theorem Key {l:List UInt8} {v k:Nat} (h:readU l = .ok (v,k)):v < 2 ^ 64∧0 < k∧k≤l.length∧k≤10:=by
 have:=Kym l 0 0 v k (by omega) (by simp) h;omega
theorem Kns:∀(l:List UInt8) (i acc c:Nat),readG i acc l = .error c→c≠0
 | [],i,acc,c,h=>by
  rw[readG] at h;injection h with h;omega
 | b :: l,i,acc,c,h=>by
  rw[readG] at h
  split at h
  ·injection h with h;omega
  ·split at h
   ·cases h
   ·exact Kns l _ _ c h
theorem Kfh {l:List UInt8} {c:Nat} (h:readU l = .error c):c≠0:=Kns l 0 0 c h
theorem Kqu:∀(f i acc v:Nat) (l:List UInt8),i+f=9→v < 128 ^ f*2→(i=0∨0 < v)→readG i acc (uintF f v++l) = .ok (acc+v*128 ^ i,i+(uintF f v).length)
 | 0,i,acc,v,l,hi,hv,h0=>by
  have hv1:v≤1:=by simp at hv;omega
  have e:(UInt8.ofNat v).toNat=v:=by simp[UInt8.toNat_ofNat'];omega
  simp only[uintF,List.singleton_append,readG,e,List.length_singleton];rw[if_neg (by omega),if_pos (by omega)]
 | f+1,i,acc,v,l,hi,hv,h0=>by
  rw[uintF]
  split
  ·rename_i hgt
   have e:(UInt8.ofNat (v % 128+128)).toNat=v % 128+128:=by simp[UInt8.toNat_ofNat'];omega
   simp only[List.cons_append,readG,e,List.length_cons];rw[if_neg (by omega),if_neg (by omega),Kqu f (i+1) _ (v / 128) l (by omega) (by rw[Nat.pow_succ] at hv;omega) (.inr (by omega))];congr 2
   ·rw[Nat.add_sub_cancel,Nat.pow_succ,Nat.add_assoc];congr 1;have:=Nat.mod_add_div v 128
    conv=>rhs;rw[←this]
    rw[Nat.add_mul];congr 1;rw[Nat.mul_comm 128 (v / 128),Nat.mul_assoc];congr 1;rw[Nat.mul_comm]
   ·omega
  ·have e:(UInt8.ofNat v).toNat=v:=by simp[UInt8.toNat_ofNat'];omega
   simp only[List.singleton_append,readG,e,List.length_singleton];rw[if_neg (by omega),if_pos (by omega)]
theorem Qfp {v:Nat} (h:v < 2 ^ 64):uintT v=uintF 9 v:=(Klc 9 v (Nat.lt_of_lt_of_le h (by decide))).symm
theorem Kfd {v:Nat} (h:v < 2 ^ 64) (l:List UInt8):readU (uintT v++l) = .ok (v,(uintT v).length):=by
 rw[Qfp h,readU,Kqu 9 0 0 v l (by omega) (by (have:(128:Nat) ^ 9*2=2 ^ 64:=by decide);omega) (.inl rfl)];simp
def textT (s:List UInt8):List UInt8:=uintT s.length++s
def readT (l:List UInt8):Except Nat (List UInt8×Nat):=
 match readU l with
 | .error e=>.error e
 | .ok (n,k)=>if l.length - k < n then .error 20 else .ok ((l.drop k).take n,k+n)
theorem Qez {s:List UInt8} (hs:s.length < 2 ^ 64) (l:List UInt8):readT (textT s++l) = .ok (s,(textT s).length):=by
 unfold readT textT;rw[List.append_assoc,Kfd hs];simp only[];rw[if_neg (by simp)];simp
def Kgc (l:List Smp):Prop:=(∀x∈l,SmpOk x)∧Rises l∧l.length≤120
def Kbg (l:List Smp):List UInt8:=uintT l.length++packB (Kbt cst0 l)
def readC (s:List UInt8):List Smp×Bool:=match readU s with
 | .error _=>([],false)
 | .ok (n,i)=>if n≤120 then Kcl (s.drop i) n cst0 0 else ([],false)
theorem Qdq {l:List Smp} (h:Kgc l):readC (Kbg l)=(l,true):=by
 have hn:l.length < 2 ^ 64:=Nat.lt_of_le_of_lt h.2.2 (by decide);unfold readC Kbg;rw[Kfd hn];dsimp only;rw[if_pos h.2.2,List.drop_left];have hb:=Kfo (Kbt cst0 l);have hh:Kan (packB (Kbt cst0 l)) 0 (Kbt cst0 l):=Kde.holds (a:=[]) (c:=[]) (by simpa using hb);exact Kml l Cst.good0 h.1 h.2.1 (fun _ _=>.inl rfl) hh
def fitC:Option Smp→Nat→List Smp→Bool
 | _,_,[]=>true
 | prev,n,x :: l=>decide (0≤x.t) && decide (x.t≤1125899906842624) && (match prev with | none=>true | some y=>decide (y.t < x.t)) && decide (n < 120) && fitC (some x) (n+1) l
theorem Qfc {x:Smp}:∀{l:List Smp},Rises (x :: l)↔(∀y,l.head? = some y→x.t < y.t)∧Rises l
 | []=>⟨fun _=>⟨fun y h=>(by cases h),trivial⟩,fun _=>trivial⟩
 | z :: l=>⟨fun h=>⟨fun y hy=>(by obtain rfl:=Option.some.inj hy;exact h.1),h.2⟩,fun h=>⟨h.1 z rfl,h.2⟩⟩
theorem Kow:∀(l:List Smp) (prev:Option Smp) (n:Nat),fitC prev n l=true↔(∀x∈l,0≤x.t∧x.t≤1125899906842624)∧Rises l∧(∀y x,prev=some y→l.head? = some x→y.t < x.t)∧(l = []∨n+l.length≤120)
 | [],prev,n=>by simp[fitC,Rises]
 | x :: l,prev,n=>by
  have ih:=Kow l (some x) (n+1);rw[show fitC prev n (x :: l)=(decide (0≤x.t) && decide (x.t≤1125899906842624) && (match prev with | none=>true | some y=>decide (y.t < x.t)) && decide (n < 120) && fitC (some x) (n+1) l) from by cases prev <;> rfl,Bool.and_eq_true,ih,Qfc];simp only[Bool.and_eq_true,decide_eq_true_eq,List.mem_cons,forall_eq_or_imp,List.length_cons,reduceCtorEq,false_or,List.head?_cons,Option.some.injEq];constructor
  ·rintro ⟨⟨⟨⟨h1,h2⟩,h3⟩,h4⟩,h5,h6,h7,h8⟩;refine ⟨⟨⟨h1,h2⟩,h5⟩,⟨fun y hy=>h7 x y rfl hy,h6⟩,?_,?_⟩
   ·rintro y _ rfl rfl;simpa using h3
   ·rcases h8 with rfl | h8
    ·simp;omega
    ·omega
  ·rintro ⟨⟨⟨h1,h2⟩,h5⟩,⟨h7,h6⟩,h3,h8⟩;refine ⟨⟨⟨⟨h1,h2⟩,?_⟩,by omega⟩,h5,h6,?_,.inr (by omega)⟩
   ·cases prev with
    | none=>rfl
    | some y=>simpa using h3 y x rfl rfl
   ·rintro y z hy hz;exact hy▸h7 z hz
end
section
open Go.RowKit
open Lib renaming hid → Jh
open List renaming length_append → Jd
attribute [local go_sem ↓] Go.wp_at_zero Go.wp_at_succ
attribute [local go_sem] Later.cell
theorem Qkq:(Tryz.prog.info? 5).map (fun i=>(i.zero,i.size,i.bytes))=some (some (.int .u8 0),1,1):=by kernel_rfl
theorem Kjn (n:Nat) (hn:n≤64) (w:World):Calls Tryz.prog 199 #[.int .i64 (n:Int)] w fun e w'=>e = .returned (.int .i64 (n:Int))∧w=w':=by
 go_enter Tryz.func199,Tryz.ntmps199
 go_wp2_with fail
 all_goals go_ret
 all_goals refine ⟨?_,rfl⟩
 all_goals apply Qcu
 all_goals omega
theorem Kud {w:World} {B n:Nat} {T:TypeId} {v:Value} {xs:List Value} (h:w.ownsRow B T 1 v (n+1) xs):∃g c,v = .slice (some ⟨g,0,none⟩) (n+1) c:=by
 rcases h.2 with ⟨_,h2⟩ | ⟨g,cap,cur,rfl,_⟩
 ·omega
 ·exact ⟨g,cap,rfl⟩
theorem Qet {base e sz n:Nat} {w0 wr w1:World} {v:Value} {xs:List Value} {o:Obj} (hwr:Below base w0 wr) (hbs:base≤wr.heap.size) (hown:wr.ownsRow base e sz v n xs) (hg:(wr.alloc o).grownBy w1 v.ownBlock):Below base w0 w1:=
 hwr.trans ⟨hg.os,hg.tape,hg.output,by have:=hg.size;simp at this;omega,fun k hk=>(hg.block k (by simp;omega) (fun e=>by have:=(hown.lt k e.symm).1;omega)).trans (Below.heap_alloc _ _ _ (by omega))⟩
theorem Kgj {w:World} {B g n cap i:Nat} {s:List UInt8} {y:UInt8} (h:w.ownsRow B 5 1 (.slice (some ⟨g,0,none⟩) n cap) n (Lib.byteCells s)) (hy:s.getD i 0=y) (hi:i < s.length) :
  w.cell? ⟨g,i,none⟩=some (.int .u8 (y.toNat:Int))∧w.frozen? ⟨g,i,none⟩=false:=by
 have hl:(Lib.byteCells s).length=n*1:=h.1;have hl2:(Lib.byteCells s).length=s.length:=by simp[Lib.byteCells]
 refine ⟨?_,World.ownsRow.frozenAt h _⟩;rw[World.ownsRow.cellAt h i (by omega)];subst hy;simp[Lib.byteCells,hi]
theorem Kkv {w:World} {B n:Nat} {T:TypeId} {v:Value} {xs:List Value} (h:w.ownsRow B T 1 v n xs) {p:Addr} (hp:v.ownBlock≠some p.block) (u:Value):(w.setCell p u).ownsRow B T 1 v n xs:=
 h.kept (row:=some p.block) ⟨rfl,rfl,rfl,by simp[World.setCell],fun k _ hk=>Below.heap_setCell _ _ _ _ (fun e=>hk (by rw[e]))⟩ (.inr hp)
theorem Kfc {w w':World} {B:Nat} {T:TypeId} {sz n:Nat} {v:Value} {xs:List Value} (h:w.ownsRow B T sz v n xs) (k:Below w.heap.size w w'):w'.ownsRow B T sz v n xs:=
 h.kept (row:=none) ⟨k.os,k.tape,k.output,k.size,fun i hi _=>k.block i hi⟩ (by cases v.ownBlock <;> simp)
theorem Kez (n:Int) (h0:0≤n) (h1:n < 2 ^ 64):IntKind.u64.wrap n=n:=by
 rw[IntKind.wrap_u64];omega
theorem Kzw (n:Int) (h0:0≤n) (h1:n < 2 ^ 8):IntKind.u8.wrap n=n:=by
 rw[IntKind.wrap_u8];omega
theorem Qmq (v:Nat) (h:v < 2 ^ 64):bits .and .u64 (v:Int) 1=((v % 2:Nat):Int):=by
 have:=(bits_nat .u64 64 (by decide) Kez v 1 h (by decide)).1;rw[show ((1:Nat):Int)=1 from rfl] at this;rw[this,show (1:Nat)=2 ^ 1 - 1 from rfl,Nat.and_two_pow_sub_one_eq_mod]
theorem Kjd {x k:Nat} (hx:x < 2 ^ 64):(bits .and .u64 ((x:Int) / 2 ^ k) 1 == 1)=x.testBit k:=by
 have h:(x:Int) / 2 ^ k=((x / 2 ^ k:Nat):Int):=by simp
 rw[h,Nat.testBit_eq_decide_div_mod_eq,Qmq _ (Nat.lt_of_le_of_lt (Nat.div_le_self _ _) hx)];rcases Nat.mod_two_eq_zero_or_one (x / 2 ^ k) with h | h <;> rw[h] <;> rfl
theorem Kqw {w:World} {B n g:Nat} {T:TypeId} {v:Value} {xs:List Value} {cs:Array Value} (h:w.ownsRow B 5 1 v n xs) (hb:Blk w g T cs) (ht:T≠5):v.ownBlock≠some g:=by
 rcases h.2 with ⟨rfl,_⟩ | ⟨g',cap,cur,rfl,_,hh,_⟩
 ·intro e;cases e
 ·intro e;injection e with e;have e:g'=g:=e;subst e;unfold Blk at hb;rw[hh] at hb;injection hb with hb;injection hb with _ hb;exact ht hb.symm
def WrAt (B b:Nat) (T:TypeId) (rest:List Value) (l:List Bool) (w:World):Prop:=
 B≤b∧∃v,Blk w b T (v :: .int .i64 (l.length:Int) :: rest).toArray∧w.ownsRow B 5 1 v ((l.length+7) / 8) (Lib.byteCells (packB l))∧v.ownBlock≠some b
theorem WrAt.lt {B b:Nat} {T:TypeId} {rest:List Value} {l:List Bool} {w:World} (h:WrAt B b T rest l w):b < w.heap.size:=by
 obtain ⟨_,v,h,_⟩:=h;exact h.lt
theorem Qmr (y:UInt8) (k:Nat) (hk:k < 256):bits .or .u8 (y.toNat:Int) (k:Int)=(((y ||| UInt8.ofNat k).toNat:Nat):Int):=by
 rw[(bits_nat .u8 8 (by decide) Kzw y.toNat k (UInt8.toNat_lt y) hk).2,UInt8.toNat_or,UInt8.toNat_ofNat',Nat.mod_eq_of_lt (by omega:k < 2 ^ 8)]
theorem Kuq (y:UInt8) (j:Nat) (z:Int) (hz:z=128 / 2 ^ j):bits .or .u8 (y.toNat:Int) z=(((y ||| UInt8.ofNat (128 >>> j)).toNat:Nat):Int):=by
 have h:z=((128 >>> j:Nat):Int):=by
  rw[hz,Nat.shiftRight_eq_div_pow];simp
 rw[h];exact Qmr y _ (Nat.lt_of_le_of_lt (Nat.shiftRight_le _ _) (by decide))
section
variable {w : World} {B b g m cap : Nat} {T : TypeId} {rest : List Value} {L : List Bool} {s : List UInt8} {y : UInt8}
theorem Qdd (hm:L.length=m) (hs:packB L=s) (hBb:B≤b) (hgb:g≠b) (hblk:Blk w b T (.slice (some ⟨g,0,none⟩) (m / 8+1) cap :: .int .i64 (m:Int) :: rest).toArray)
  (hrow:w.ownsRow B 5 1 (.slice (some ⟨g,0,none⟩) (m / 8+1) cap) (m / 8+1) (Lib.byteCells (roomB s m))) (hl:(roomB s m).length=m / 8+1) :
  WrAt B b T rest (L ++ [false]) (w.setCell ⟨b,1,none⟩ (.int .i64 ((m:Int)+1))):=by
 have hp:packB (L ++ [false])=roomB s m:=by rw[Kqp,hm,hs];rfl
 refine ⟨hBb,.slice (some ⟨g,0,none⟩) (m / 8+1) cap,?_,?_,fun e=>hgb (by injection e)⟩
 ·have:=hblk.set_ 1 (.int .i64 ((m:Int)+1));rw[Jd,hm];simpa using this
 ·rw[hp,Jd,hm,List.length_singleton,show (m+1+7) / 8=m / 8+1 by omega];exact Kkv hrow (fun e=>hgb (by injection e)) _
theorem Qde (hm:L.length=m) (hs:packB L=s) (hBb:B≤b) (hgb:g≠b) (hblk:Blk w b T (.slice (some ⟨g,0,none⟩) (m / 8+1) cap :: .int .i64 (m:Int) :: rest).toArray)
  (hrow:w.ownsRow B 5 1 (.slice (some ⟨g,0,none⟩) (m / 8+1) cap) (m / 8+1) (Lib.byteCells (roomB s m))) (hy:(roomB s m).getD (m / 8) 0=y) (hl:(roomB s m).length=m / 8+1) :
  WrAt B b T rest (L ++ [true]) ((w.setCell ⟨g,m / 8,none⟩ (.int .u8 (((y ||| UInt8.ofNat (128 >>> (m % 8))).toNat:Nat):Int))).setCell ⟨b,1,none⟩ (.int .i64 ((m:Int)+1))):=by
 have hp:packB (L ++ [true])=(roomB s m).set (m / 8) (y ||| UInt8.ofNat (128 >>> (m % 8))):=by rw[Kqp,hm,hs,←hy];rfl
 refine ⟨hBb,.slice (some ⟨g,0,none⟩) (m / 8+1) cap,?_,?_,fun e=>hgb (by injection e)⟩
 ·have:=(hblk.far (p:=⟨g,m / 8,none⟩) (fun e=>hgb e.symm) (.int .u8 (((y ||| UInt8.ofNat (128 >>> (m % 8))).toNat:Nat):Int))).set_ 1 (.int .i64 ((m:Int)+1));rw[Jd,hm];simpa using this
 ·rw[hp,Jd,hm,List.length_singleton,show (m+1+7) / 8=m / 8+1 by omega];have h1:=(World.ownsRow.stored hrow (m / 8) (.int .u8 (((y ||| UInt8.ofNat (128 >>> (m % 8))).toNat:Nat):Int))).1
  have e:(Lib.byteCells (roomB s m)).set (m / 8) (.int .u8 (((y ||| UInt8.ofNat (128 >>> (m % 8))).toNat:Nat):Int))=Lib.byteCells ((roomB s m).set (m / 8) (y ||| UInt8.ofNat (128 >>> (m % 8)))):=by
   unfold Lib.byteCells;rw[List.map_set]
  rw[e] at h1;exact Kkv h1 (fun e=>hgb (by injection e)) _
end
def KeepT (b:Nat) (w w':World):Prop:=∀g T cs,Blk w g T cs→g≠b→T≠5→Blk w' g T cs
theorem KeepT.refl (b:Nat) (w:World):KeepT b w w:=fun _ _ _ h _ _=>h
theorem KeepT.trans {b:Nat} {w w1 w2:World} (h:KeepT b w w1) (k:KeepT b w1 w2):KeepT b w w2:=fun g T cs hg hb ht=>k g T cs (h g T cs hg hb ht) hb ht
theorem KeepT.of_below {b:Nat} {w w1:World} (h:Below w.heap.size w w1):KeepT b w w1:=fun _ _ _ hg _ _=>hg.below h hg.lt
theorem KeepT.grown {b:Nat} {w w1:World} {B n:Nat} {v:Value} {xs:List Value} {o:Obj} (h:w.ownsRow B 5 1 v n xs) (hg:(w.alloc o).grownBy w1 v.ownBlock):KeepT b w w1:=
 fun g T cs hb _ ht=>(hb.alloc o).grown hg (fun e=>Kqw h hb ht e.symm)
theorem KeepT.own {b i:Nat} {w:World} {u:Value}:KeepT b w (w.setCell ⟨b,i,none⟩ u):=fun _ _ _ hb hne _=>hb.far (p:=⟨b,i,none⟩) hne _
theorem KeepT.row {b g cap B n m i:Nat} {w:World} {u:Value} {xs:List Value} (h:w.ownsRow B 5 1 (.slice (some ⟨g,0,none⟩) m cap) n xs):KeepT b w (w.setCell ⟨g,i,none⟩ u):=
 fun k T cs hb _ ht=>hb.far (p:=⟨g,i,none⟩) (fun e=>Kqw h hb ht (by rw[e];rfl)) _
theorem Kbv (B b:Nat) (T:TypeId) (rest:List Value) (l:List Bool) (x n:Nat) (w:World) (h:WrAt B b T rest l w) (hn:n≤64) (hlen:l.length≤1099511627776) (hx:x < 2 ^ 64) (hB:B≤w.heap.size) :
  Calls Tryz.prog 148 #[.pointer (some ⟨b,0,none⟩),.int .u64 (x:Int),.int .i64 (n:Int)] w fun e w'=>e = .returned (.tuple #[])∧WrAt B b T rest (l++putN x n) w'∧Below B w w'∧KeepT b w w':=by
 obtain ⟨i0,hi0,hz0,hz1,hz2⟩:=info_parts Qkq;have H:=Jh h;clear h;go_enter Tryz.func148,Tryz.ntmps148
 go_wp2_with fail
 refine (Kjn n hn w).mono ?_;rintro _ _ ⟨rfl,rfl⟩;go_wp2_with fail
 go_loopg [2] n (fun k s2 wr=>s2 = .int .i64 (k:Int)∧∃d,d++putN x k=putN x n∧WrAt B b T rest (l++d) wr∧Below B w wr∧KeepT b w wr)
 case atStart=>exact ⟨rfl,[],rfl,by simpa using H.out,Below.refl _ _,KeepT.refl _ _⟩
 case round=>
  obtain ⟨rfl,d,hd,hw,hb,hkt⟩:=hrel;have HKT:=Jh hkt;clear hkt;obtain ⟨hBb,v,hblk,hown,hne⟩:=hw
  cases gk with
  | zero=>
   have HD:=Jh hd;clear hd;go_wp2_with fail
   go_end0
   rw[putN,List.append_nil] at HD;refine ⟨rfl,?_,hb,HKT.out⟩;rw[←HD.out];exact ⟨hBb,v,hblk,hown,hne⟩
  | succ k=>
   obtain ⟨m,hm⟩:∃m,(l++d).length=m:=⟨_,rfl⟩;obtain ⟨s,hs⟩:∃s,packB (l++d)=s:=⟨_,rfl⟩;have hde:=congrArg List.length hd;rw[Jd,Kaq,Kaq] at hde
   have hml:m≤1099511627840:=by
    rw[Jd] at hm;omega
   have hk:k < 64:=by omega
   clear hde;have hBw:B≤wr.heap.size:=Nat.le_trans hB hb.size;have hBw':B≤w.heap.size:=hB;have HM:=Jh hm;have HS:=Jh hs;have HD:=Jh hd;have HBE:=Jh hb;have HBK:=Jh hblk;rw[hm,hs] at hown;rw[hm] at hblk;have c0:wr.cell? ⟨b,0,none⟩=some v:=hblk.cell 0;have c1:wr.cell? ⟨b,1,none⟩=some (.int .i64 (m:Int)):=hblk.cell 1;have z0:=hblk.frozen 0;have z1:=hblk.frozen 1;clear hd hm hs hb;have hsl:s.length=(m+7) / 8:=by rw[←HS.out,(Kfo (l++d)).len,HM.out]
   by_cases h8:m % 8=0
   ·have e8:((m:Int) % 8 == 0)=true:=by simp;omega
    go_wp2_with (at_builtin;refine wpList_append_own_at _ rfl _ _ 72 rfl B 5 i0 (.int .u8 0) 1 1 Tryz.underlying72 hi0 hz0 hz1 hz2 rfl (by decide) _ _ _ rfl (World.ownsRow.alloc hown _) ⟨wr.heap.size,0,none⟩ 1 1 [.int .u8 0] rfl rfl ?c1 ?c2 ?c3 ?c4 ?c5 ?_)
    case c1=>exact Kav (l:=[.int .u8 0]) (Blk.new wr _ _)
    case c2=>intro u hu;rw[List.mem_singleton.1 hu];rfl
    case c3=>unfold maxLen;omega
    case c4=>omega
    case c5=>simp;omega
    intro v' w1 hown' hgrow hx1 hat;have hr8:roomB s m=s ++ [0]:=if_pos h8
    have hrow:w1.ownsRow B 5 1 v' (m / 8+1) (Lib.byteCells (roomB s m)):=by
     rw[hr8,show m / 8+1=(m+7) / 8+1 by omega,show Lib.byteCells (s ++ [0])=Lib.byteCells s ++ [.int .u8 0] by simp[Lib.byteCells]];exact hown'
    have hb1:Below B w w1:=Qet HBE.out hBw hown hgrow;have HK1:=Jh (HKT.out.trans (KeepT.grown (b:=b) hown hgrow));have hblk1:Blk w1 b T (v :: .int .i64 (m:Int) :: rest).toArray:=(hblk.alloc _).grown hgrow (fun e=>hne e.symm)
    have hne1:v'.ownBlock≠some b:=by
     rcases hat with e | e
     ·rw[e];exact hne
     ·rw[e];intro e2;injection e2 with e2;have:=hblk.lt;omega
    obtain ⟨g,cap,rfl⟩:=Kud hrow;clear hown' hgrow hat hx1 c0 c1 z0 z1;have c0:w1.cell? ⟨b,0,none⟩=some v:=hblk1.cell 0;have z0:=hblk1.frozen 0;go_upto_region 6 with fail
    have hsl2:(roomB s m).length=m / 8+1:=Kmj hsl;have hblk2:Blk (w1.setCell ⟨b,0,none⟩ (.slice (some ⟨g,0,none⟩) (m / 8+1) cap)) b T (.slice (some ⟨g,0,none⟩) (m / 8+1) cap :: .int .i64 (m:Int) :: rest).toArray:=by simpa using hblk1.set_ 0 (.slice (some ⟨g,0,none⟩) (m / 8+1) cap)
    have hrow2:=Kkv hrow (p:=⟨b,0,none⟩) hne1 (.slice (some ⟨g,0,none⟩) (m / 8+1) cap);have hb2:Below B w (w1.setCell ⟨b,0,none⟩ (.slice (some ⟨g,0,none⟩) (m / 8+1) cap)):=hb1.setCell (p:=⟨b,0,none⟩) hBb _;have hk2:KeepT b w (w1.setCell ⟨b,0,none⟩ (.slice (some ⟨g,0,none⟩) (m / 8+1) cap)):=HK1.out.trans KeepT.own;obtain ⟨w2,hw2⟩:∃w2,w1.setCell ⟨b,0,none⟩ (.slice (some ⟨g,0,none⟩) (m / 8+1) cap)=w2:=⟨_,rfl⟩;rw[hw2] at hblk2 hrow2 hb2 hk2;have HK2:=Jh hk2;clear hk2;rw[hw2];clear hw2 hblk1 hrow hb1 c0 z0 hblk hown;have HB2:=Jh hb2;have HBK2:=Jh hblk2;have HRW2:=Jh hrow2;have hgb:g≠b:=fun e=>hne1 (by rw[e];rfl)
    have hbg:b≠g:=fun e=>hgb e.symm
    obtain ⟨y,hy⟩:∃y:UInt8,(roomB s m).getD (m / 8) 0=y:=⟨_,rfl⟩;have hcl:=Kgj hrow2 hy (by omega);have HY:=Jh hy;clear hy;have c2:=hcl.1;have z2:=hcl.2;clear hcl;have c0:_=some (Value.slice (some ⟨g,0,none⟩) (m / 8+1) cap):=hblk2.cell 0;have c1:_=some (Value.int .i64 (m:Int)):=hblk2.cell 1;have z1:=hblk2.frozen 1;have hbl:=hblk2.lt;have hgl:=(World.ownsRow.lt hrow2 g rfl).2;have hBg:=(World.ownsRow.lt hrow2 g rfl).1;clear hb2 hblk2 hrow2
    cases hbt:x.testBit k with
    | true=>
     have hbit:(bits .and .u64 ((x:Int) / 2 ^ k) 1 == 1)=true:=by rw[Kjd hx,hbt]
     go_upto_region 7 with fail
     refine Kag 19 (by kernel_rfl) (by kernel_rfl) ?_;simp only[List.take_succ_cons,List.take_zero,List.drop_succ_cons,List.drop_zero]
     repeat (go_big_quiet_step (fail))
     refine wpQuiet_nil ?_;rintro w3 ⟨⟨_,hb3⟩,rfl⟩;have HRW3:=Jh (Kfc HRW2.out hb3);have HBK3:=Jh (HBK2.out.below hb3 HBK2.out.lt);have HB3:=Jh (HB2.out.trans (hb3.mono (Nat.le_trans hBw' HB2.out.size)));have HK3:=Jh (HK2.out.trans (KeepT.of_below (b:=b) hb3));have c1:w3.cell? ⟨b,1,none⟩=_:=HBK3.out.cell 1;have z1:=HBK3.out.frozen 1;have c2:=(Kgj HRW3.out HY.out (by omega)).1;have z2:=(Kgj HRW3.out HY.out (by omega)).2;clear hb3 c0;go_wp2_with fail
     go_roundg k
     case measure=>omega
     case rel=>
      have hy8:bits .or .u8 (y.toNat:Int) 128=(((y ||| UInt8.ofNat (128 >>> (m % 8))).toNat:Nat):Int):=Kuq y (m % 8) _ (by rw[h8];rfl);rw[hy8];refine ⟨by go_num,d ++ [true],by rw[List.append_assoc,←HD.out,putN,hbt];rfl,?_,(HB3.out.setCell (p:=⟨g,m / 8,none⟩) hBg _).setCell (p:=⟨b,1,none⟩) hBb _,(HK3.out.trans (KeepT.row HRW3.out)).trans KeepT.own⟩;rw[←List.append_assoc];exact Qde HM.out HS.out hBb hgb HBK3.out HRW3.out HY.out hsl2
    | false=>
     have hbit:(bits .and .u64 ((x:Int) / 2 ^ k) 1 == 1)=false:=by rw[Kjd hx,hbt]
     go_wp2_with fail
     go_roundg k
     case measure=>omega
     case rel=>
      refine ⟨by go_num,d ++ [false],by rw[List.append_assoc,←HD.out,putN,hbt];rfl,?_,HB2.out.setCell (p:=⟨b,1,none⟩) hBb _,HK2.out.trans KeepT.own⟩;rw[←List.append_assoc];exact Qdd HM.out HS.out hBb hgb HBK2.out HRW2.out hsl2
   ·have e8:((m:Int) % 8 == 0)=false:=by simp;omega
    obtain ⟨q,hq⟩:∃q,(m+7) / 8=q+1:=⟨(m+7) / 8 - 1,by omega⟩;obtain rfl:q=m / 8:=by omega
    rw[hq] at hown;obtain ⟨g,cap,rfl⟩:=Kud hown;go_upto_region 6 with fail
    have hr8:roomB s m=s:=if_neg h8;have hsl2:(roomB s m).length=m / 8+1:=Kmj hsl;have HB2:=Jh HBE.out;have HK2:=Jh HKT.out;have HBK2:=Jh hblk;have HRW2:Hid (wr.ownsRow B 5 1 (.slice (some ⟨g,0,none⟩) (m / 8+1) cap) (m / 8+1) (Lib.byteCells (roomB s m))):=Jh (by rw[hr8];exact hown);have hgb:g≠b:=fun e=>hne (by rw[e];rfl)
    have hbg:b≠g:=fun e=>hgb e.symm
    obtain ⟨y,hy⟩:∃y:UInt8,(roomB s m).getD (m / 8) 0=y:=⟨_,rfl⟩;have hcl:=Kgj HRW2.out hy (by omega);have HY:=Jh hy;clear hy;have c2:=hcl.1;have z2:=hcl.2;clear hcl;have hbl:=hblk.lt;have hgl:=(World.ownsRow.lt hown g rfl).2;have hBg:=(World.ownsRow.lt hown g rfl).1;clear hblk hown hr8 hq
    cases hbt:x.testBit k with
    | true=>
     have hbit:(bits .and .u64 ((x:Int) / 2 ^ k) 1 == 1)=true:=by rw[Kjd hx,hbt]
     go_upto_region 7 with fail
     refine Kag 19 (by kernel_rfl) (by kernel_rfl) ?_;simp only[List.take_succ_cons,List.take_zero,List.drop_succ_cons,List.drop_zero]
     repeat (go_big_quiet_step (fail))
     refine wpQuiet_nil ?_;rintro w3 ⟨⟨_,hb3⟩,rfl⟩;have HRW3:=Jh (Kfc HRW2.out hb3);have HBK3:=Jh (HBK2.out.below hb3 HBK2.out.lt);have HB3:=Jh (HB2.out.trans (hb3.mono (Nat.le_trans hBw' HB2.out.size)));have HK3:=Jh (HK2.out.trans (KeepT.of_below (b:=b) hb3));have c1:w3.cell? ⟨b,1,none⟩=_:=HBK3.out.cell 1;have z1:=HBK3.out.frozen 1;have c2:=(Kgj HRW3.out HY.out (by omega)).1;have z2:=(Kgj HRW3.out HY.out (by omega)).2;clear hb3 c0;go_wp2_with fail
     go_roundg k
     case measure=>omega
     case rel=>
      have hy8:bits .or .u8 (y.toNat:Int) (128 / 2 ^ (m % 8))=(((y ||| UInt8.ofNat (128 >>> (m % 8))).toNat:Nat):Int):=Kuq y (m % 8) _ rfl;rw[hy8];refine ⟨by go_num,d ++ [true],by rw[List.append_assoc,←HD.out,putN,hbt];rfl,?_,(HB3.out.setCell (p:=⟨g,m / 8,none⟩) hBg _).setCell (p:=⟨b,1,none⟩) hBb _,(HK3.out.trans (KeepT.row HRW3.out)).trans KeepT.own⟩;rw[←List.append_assoc];exact Qde HM.out HS.out hBb hgb HBK3.out HRW3.out HY.out hsl2
    | false=>
     have hbit:(bits .and .u64 ((x:Int) / 2 ^ k) 1 == 1)=false:=by rw[Kjd hx,hbt]
     go_wp2_with fail
     go_roundg k
     case measure=>omega
     case rel=>
      refine ⟨by go_num,d ++ [false],by rw[List.append_assoc,←HD.out,putN,hbt];rfl,?_,HB2.out.setCell (p:=⟨b,1,none⟩) hBb _,HK2.out.trans KeepT.own⟩;rw[←List.append_assoc];exact Qdd HM.out HS.out hBb hgb HBK2.out HRW2.out hsl2
theorem Kqf (b i:Nat) (S:ByteArray) (w:World) (h:Blk w b 334 #[.string S,.int .i64 (i:Int)]) (hS:S.size≤140737488351232) (hi:i≤8*S.size) :
  Calls Tryz.prog 273 #[.pointer (some ⟨b,0,none⟩)] w fun e w'=>e = .returned (.int .i64 ((8*S.size - i:Nat):Int))∧Below w.heap.size w w':=by
 have c0:w.cell? ⟨b,0,none⟩=_:=h.cell 0;have c1:w.cell? ⟨b,1,none⟩=_:=h.cell 1;clear h;go_enter Tryz.func273,Tryz.ntmps273
 go_wp2_with fail
 go_region
 go_wp2_with fail
 go_ret
 refine ⟨?_,(Below.refl _ _).drew⟩;apply Qcu;go_num
theorem Qmm (V:Nat) (y:UInt8) (j:Nat) (hV:V < 2 ^ 63):bits .or .u64 ((V:Int)*2) (IntKind.u64.wrap (bits .and .u8 ((y.toNat:Int) / 2 ^ j) 1))=((2*V+(y.toNat.testBit j).toNat:Nat):Int):=by
 have h:(y.toNat:Int) / 2 ^ j=((y.toNat / 2 ^ j:Nat):Int):=by simp
 have hy:y.toNat / 2 ^ j < 2 ^ 8:=Nat.lt_of_le_of_lt (Nat.div_le_self _ _) (UInt8.toNat_lt y);have h1:=(bits_nat .u8 8 (by decide) Kzw (y.toNat / 2 ^ j) 1 hy (by decide)).1
 have h2:y.toNat / 2 ^ j &&& 1=(y.toNat.testBit j).toNat:=by
  rw[show (1:Nat)=2 ^ 1 - 1 from rfl,Nat.and_two_pow_sub_one_eq_mod,Nat.testBit_eq_decide_div_mod_eq];rcases Nat.mod_two_eq_zero_or_one (y.toNat / 2 ^ j) with h | h <;> rw[show 2 ^ 1=2 from rfl,h] <;> rfl
 obtain ⟨bt,hbt⟩:∃bt,y.toNat.testBit j=bt:=⟨_,rfl⟩;rw[hbt] at h2 ⊢;rw[h,show (1:Int)=((1:Nat):Int) from rfl,h1,h2];have hb2:bt.toNat < 2:=by cases bt <;> decide
 rw[Kez _ (by omega) (by omega),show (V:Int)*(2:Int)=((V <<< 1:Nat):Int) by rw[Nat.shiftLeft_eq];omega,(bits_nat .u64 64 (by decide) Kez (V <<< 1) bt.toNat (by rw[Nat.shiftLeft_eq];omega) (by omega)).2,←Nat.shiftLeft_add_eq_or_of_lt (by omega) V,Nat.shiftLeft_eq];congr 1;omega
def TakeO (b:Nat) (S:ByteArray) (r:Option (Nat×Nat)) (w:World) (e:Ending) (w':World):Prop:=match r with
 | none=>e = .returned (.tuple #[.int .u64 0,.bool false])∧Below w.heap.size w w'
 | some (v,j)=>e = .returned (.tuple #[.int .u64 (v:Int),.bool true])∧Blk w' b 334 #[.string S,.int .i64 (j:Int)]∧Kept w.heap.size [b] w w'
theorem Qfm (b i n:Nat) (S:ByteArray) (r:Option (Nat×Nat)) (hr:readN S.data.toList i n=r) (w:World) (h:Blk w b 334 #[.string S,.int .i64 (i:Int)]) (hn:n≤64) (hS:S.size≤140737488351232) (hi:i≤8*S.size) :
  Calls Tryz.prog 267 #[.pointer (some ⟨b,0,none⟩),.int .i64 (n:Int)] w (TakeO b S r w):=by
 have hsz:S.data.toList.length=S.size:=rfl;unfold readN at hr;rw[hsz] at hr;have H:=Jh h;clear h
 by_cases hlen:i+n≤8*S.size
 ·rw[if_pos hlen] at hr;subst hr;have d1:decide (((8*S.size - i:Nat):Int) < (n:Int))=false:=by simp;omega
  have d2:¬(((8*S.size - i:Nat):Int) < (n:Int)):=by omega
  obtain ⟨lf,hlf⟩:∃lf,8*S.size - i=lf:=⟨_,rfl⟩;have HL:=Jh (Kqf b i S w H.out hS hi);rw[hlf] at d1 d2 HL;clear hlf;go_enter Tryz.func267,Tryz.ntmps267
  go_wp2_with fail
  refine (Kjn n hn w).mono ?_;rintro _ _ ⟨rfl,rfl⟩;go_wp2_with fail
  refine HL.out.mono ?_;rintro _ w1 ⟨rfl,hb1⟩;have HB1:=Jh hb1;have H1:=Jh (H.out.below hb1 H.out.lt);clear hb1;go_wp2_with fail
  go_loopg [6,14] n (fun g s6 s14 wr=>∃k:Nat,k+g=n∧s6 = .int .u64 ((valB (Kdc S.data.toList i k):Nat):Int)∧s14 = .int .i64 (k:Int)∧Blk wr b 334 #[.string S,.int .i64 ((i+k:Nat):Int)]∧Kept w.heap.size [b] w wr)
  case atStart=>exact ⟨0,by omega,rfl,rfl,H1.out,Kept.of_below HB1.out⟩
  case round=>
   obtain ⟨k,hk,rfl,rfl,hb,hke⟩:=hrel;have HK:=Jh hk;have HB:=Jh hb;have HKE:=Jh hke
   cases gk with
   | zero=>
    obtain rfl:k=n:=by omega
    clear hk hb hke;go_wp2_with fail
    go_ret2
    exact ⟨rfl,HB.out,HKE.out⟩
   | succ g=>
    have c0:wr.cell? ⟨b,0,none⟩=_:=hb.cell 0;have c1:wr.cell? ⟨b,1,none⟩=_:=hb.cell 1;have z1:=hb.frozen 1;obtain ⟨p,hp⟩:∃p,i+k=p:=⟨_,rfl⟩;obtain ⟨q,hq⟩:∃q,p / 8=q:=⟨_,rfl⟩;obtain ⟨t,ht⟩:∃t,p % 8=t:=⟨_,rfl⟩;have hqs:q < S.size:=by omega
    have ht8:t < 8:=by omega
    have hp64:p < 2000000000000000:=by omega
    have hqi:(p:Int) / 8=(q:Int):=by omega
    have hti:(p:Int) % 8=(t:Int):=by omega
    have htj:(7:Int) - (t:Int)=((7 - t:Nat):Int):=by omega
    rw[hp] at c1;have el:decide ((k:Int) < (n:Int))=true:=by simp;omega
    have el2:decide (k < n)=true:=by simp;omega
    obtain ⟨V,hV⟩:∃V,valB (Kdc S.data.toList i k)=V:=⟨_,rfl⟩
    have hVl:V < 2 ^ 63:=by
     rw[←hV];have h1:=Knd (Kdc S.data.toList i k);rw[Kfr] at h1;exact Nat.lt_of_lt_of_le h1 (Nat.pow_le_pow_right (by omega) (by omega))
    rw[hV];have HV:=Jh hV;have HP:=Jh hp;have HQ:=Jh hq;have HT:=Jh ht;clear hq ht;clear hk hb hke hV hp
    have hbq:bitAt S.data.toList p=S[q].toNat.testBit (7 - t):=by
     unfold bitAt;rw[HQ.out,HT.out];congr 2;rw[List.getD_eq_getElem?_getD,List.getElem?_eq_getElem (show q < S.data.toList.length from hqs)];rfl
    have HBQ:=Jh hbq;obtain ⟨y,hy⟩:∃y,S[q]=y:=⟨_,rfl⟩;rw[hy] at HBQ;have HTB:=Jh (Qmm V y (7 - t) hVl);clear hbq;go_upto_region 7 with fail
    go_region
    rw[HTB.out];obtain ⟨V',hV'⟩:∃V',2*V+(y.toNat.testBit (7 - t)).toNat=V':=⟨_,rfl⟩;rw[hV'];have HV':=Jh hV';have HB2:=Jh (Blk.set_ HB.out.drew 1 (.int .i64 ((p:Int)+1)));clear hy hV' hqi hti htj;go_wp2_with fail
    go_roundg g
    case measure=>omega
    case rel=>
     refine ⟨k+1,by have:=HK.out;omega,?_,by apply vi;unfold wrap64;have:=HP.out;omega,?_,?_⟩
     ·rw[show Kdc S.data.toList i (k+1)=Kdc S.data.toList i k ++ [bitAt S.data.toList (i+k)] from Kpm _ _ _ 1,Qjw,HV.out,HP.out,HBQ.out,HV'.out]
     ·have:=HB2.out;rw[HP.out] at this;rw[show ((i+(k+1):Nat):Int)=(p:Int)+1 by have:=HP.out;omega];exact this
     ·exact (HKE.out.drew).setCell (p:=⟨b,1,none⟩) (.inl (by simp)) _
 ·rw[if_neg hlen] at hr;subst hr;have d1:decide (((8*S.size - i:Nat):Int) < (n:Int))=true:=by simp;omega
  have d2:((8*S.size - i:Nat):Int) < (n:Int):=by omega
  obtain ⟨lf,hlf⟩:∃lf,8*S.size - i=lf:=⟨_,rfl⟩;have HL:=Jh (Kqf b i S w H.out hS hi);rw[hlf] at d1 d2 HL;clear hlf;go_enter Tryz.func267,Tryz.ntmps267
  go_wp2_with fail
  refine (Kjn n hn w).mono ?_;rintro _ _ ⟨rfl,rfl⟩;go_wp2_with fail
  refine HL.out.mono ?_;rintro _ w1 ⟨rfl,hb1⟩;go_wp2_with fail
  go_ret2
  exact ⟨rfl,hb1⟩
end
section
open Go.RowKit
theorem Ksm {fn:Func} {p q:Tmp} {t u:TypeId} (h:fn.results = #[.cell p t,.cell q u]) (tmps:Array Value) (w:World) (a b:Addr) (x y:Value)
  (hp:tmps.getD p undef = .pointer (some a)) (hq:tmps.getD q undef = .pointer (some b))
  (hx:(loadVar t a).run Tryz.prog w = .ok x w) (hy:(loadVar u b).run Tryz.prog w = .ok y w) :
  (results fn tmps).run Tryz.prog w = .ok (.tuple #[x,y]) w:=by
 have hp':tmps[p]?.getD undef = .pointer (some a):=by simpa using hp
 have hq':tmps[q]?.getD undef = .pointer (some b):=by simpa using hq
 simp only[results,h];simp[Sem.run_bind,Result.andThen,asAddr,hp',hq',hx,hy]
theorem Keq {fn:Func} {p:Tmp} {t:TypeId} (h:fn.results = #[.cell p t]) (tmps:Array Value) (w:World) (a:Addr) (x:Value)
  (hp:tmps.getD p undef = .pointer (some a)) (hx:(loadVar t a).run Tryz.prog w = .ok x w) :
  (results fn tmps).run Tryz.prog w = .ok x w:=by
 have hp':tmps[p]?.getD undef = .pointer (some a):=by simpa using hp
 simp only[results,h];simp[Sem.run_bind,Result.andThen,asAddr,hp',hx]
end
section
open Go.RowKit
open Lib renaming hid → Jh
attribute [local go_sem ↓] Go.wp_at_zero Go.wp_at_succ
attribute [local go_sem] Later.cell
def restC (c:Cst):List Value:=[.int .i64 (c.n:Int),.int .i64 c.last.t,.int .u64 (c.last.v:Int),.int .i64 c.step,.int .i64 (c.lead:Int),.int .i64 (c.tail:Int),.bool c.window]
def ChAt (B b:Nat) (c:Cst) (l:List Bool) (w:World):Prop:=WrAt B b 181 (restC c) l w
theorem WrAt.far {B b:Nat} {T:TypeId} {rest:List Value} {l:List Bool} {w:World} (h:WrAt B b T rest l w) {w':World} (hb:Below w.heap.size w w'):WrAt B b T rest l w':=by
 obtain ⟨h0,v,h1,h2,h3⟩:=h;exact ⟨h0,v,h1.below hb h1.lt,Kfc h2 hb,h3⟩
theorem WrAt.rest_set {B b:Nat} {T:TypeId} {rest:List Value} {l:List Bool} {w:World} (h:WrAt B b T rest l w) (i:Nat) (u:Value):WrAt B b T (rest.set i u) l (w.setCell ⟨b,i+2,none⟩ u):=by
 obtain ⟨h0,v,h1,h2,h3⟩:=h;refine ⟨h0,v,?_,Kkv h2 h3 _,h3⟩;have:=h1.set_ (i+2) u;simpa using this
theorem ChAt.cells {B b:Nat} {c:Cst} {l:List Bool} {w:World} (h:ChAt B b c l w) :
  w.cell? ⟨b,2,none⟩=some (.int .i64 (c.n:Int))∧w.cell? ⟨b,3,none⟩=some (.int .i64 c.last.t)∧w.cell? ⟨b,4,none⟩=some (.int .u64 (c.last.v:Int))∧w.cell? ⟨b,5,none⟩=some (.int .i64 c.step)∧
  w.cell? ⟨b,6,none⟩=some (.int .i64 (c.lead:Int))∧w.cell? ⟨b,7,none⟩=some (.int .i64 (c.tail:Int))∧w.cell? ⟨b,8,none⟩=some (.bool c.window)∧∀i,w.frozen? ⟨b,i,none⟩=false:=by
 obtain ⟨h0,v,h1,h2,h3⟩:=h;exact ⟨h1.cell 2,h1.cell 3,h1.cell 4,h1.cell 5,h1.cell 6,h1.cell 7,h1.cell 8,h1.frozen⟩
theorem Khe (z:Int):IntKind.u64.wrap z=((u64N z:Nat):Int):=by
 rw[IntKind.wrap_u64];unfold u64N;omega
theorem Kjz (z:Int):u64N z < 2 ^ 64:=by
 unfold u64N;omega
set_option maxHeartbeats 400000 in
theorem Kfi (w:World):Calls Tryz.prog 200 #[] w fun e w'=>e = .returned (.agg #[.int .u64 2,.int .i64 2,.int .i64 7,.int .u64 6,.int .i64 3,.int .i64 9,.int .u64 14,.int .i64 4,.int .i64 12,.int .u64 15,.int .i64 4,.int .i64 64])∧Below w.heap.size w w':=by
 go_enter Tryz.func200,Tryz.ntmps200
 go_wp2_with fail
 refine bodyPost_ret (Keq rfl _ _ ⟨w.heap.size,0,none⟩ _ rfl (run_loadVar_row _ w.heap.size 298 298 _ (0,0) _ (heap_alloc_new w _) Tryz.underlying298 rfl (by kernel_rfl))) rfl ?_;exact ⟨rfl,(Below.refl _ _).alloc (Nat.le_refl _) _⟩
def Kfx:Value:=.agg #[.int .u64 2,.int .i64 2,.int .i64 7,.int .u64 6,.int .i64 3,.int .i64 9,.int .u64 14,.int .i64 4,.int .i64 12,.int .u64 15,.int .i64 4,.int .i64 64]
theorem size0 (w:World):(Instr.index 298 Kfx (.int .i64 0)).run Tryz.prog w = .ok (.agg #[.int .u64 2,.int .i64 2,.int .i64 7]) w:=by kernel_rfl
theorem size1 (w:World):(Instr.index 298 Kfx (.int .i64 1)).run Tryz.prog w = .ok (.agg #[.int .u64 6,.int .i64 3,.int .i64 9]) w:=by kernel_rfl
theorem size2 (w:World):(Instr.index 298 Kfx (.int .i64 2)).run Tryz.prog w = .ok (.agg #[.int .u64 14,.int .i64 4,.int .i64 12]) w:=by kernel_rfl
theorem size3 (w:World):(Instr.index 298 Kfx (.int .i64 3)).run Tryz.prog w = .ok (.agg #[.int .u64 15,.int .i64 4,.int .i64 64]) w:=by kernel_rfl
theorem Qfo (B b:Nat) (c:Cst) (l:List Bool) (st:Int) (w:World) (h:ChAt B b c l w) (h1:-1125899906842624≤c.step) (h2:c.step≤1125899906842624) (h3:-1125899906842624≤st) (h4:st≤1125899906842624) (hlen:l.length≤1099511627000) (hB:B≤w.heap.size) :
  Calls Tryz.prog 149 #[.pointer (some ⟨b,0,none⟩),.int .i64 st] w fun e w'=>e = .returned (.tuple #[])∧ChAt B b { c with step:=st } (l++Kcm (st - c.step)) w'∧Below B w w'∧KeepT b w w':=by
 have hc:=h.cells;have c3:=hc.2.2.2.1;have z3:=hc.2.2.2.2.2.2.2 5;have H:=Jh h;have H0:=Jh h.1;clear h hc;have hw:wrap64 (st - c.step)=st - c.step:=by unfold wrap64;omega
 obtain ⟨ch,hch⟩:∃ch,st - c.step=ch:=⟨_,rfl⟩;rw[hch] at hw ⊢;have b1:-2251799813685248≤ch:=by omega
 have b2:ch≤2251799813685248:=by omega
 have HCH:=Jh hch;go_enter Tryz.func149,Tryz.ntmps149
 go_upto_region 2 with fail
 have H1:Hid (ChAt B b { c with step:=st } l (w.setCell ⟨b,5,none⟩ (.int .i64 st))):=Jh (H.out.rest_set 3 _);have HB1:Hid (Below B w (w.setCell ⟨b,5,none⟩ (.int .i64 st))):=Jh ((Below.refl _ _).setCell (p:=⟨b,5,none⟩) H0.out _);have HK1:Hid (KeepT b w (w.setCell ⟨b,5,none⟩ (.int .i64 st))):=Jh KeepT.own;have hBw:B≤(w.setCell ⟨b,5,none⟩ (.int .i64 st)).heap.size:=by simpa[World.setCell] using hB
 obtain ⟨w1,hw1⟩:∃w1,w.setCell ⟨b,5,none⟩ (.int .i64 st)=w1:=⟨_,rfl⟩;rw[hw1] at H1 HB1 HK1 hBw;rw[hw1];clear hw1 c3 z3 hw
 by_cases h0:ch=0
 ·subst h0;go_wp2_with fail
  refine (Kbv B b _ _ l 0 1 w1 H1.out (by omega) (by omega) (by decide) hBw).mono ?_;rintro _ w2 ⟨rfl,h5,h6,h6k⟩;go_wp2_with fail
  refine bodyPost_ret (results_none rfl _ _ _) rfl ?_;exact ⟨rfl,h5,HB1.out.trans h6,HK1.out.trans h6k⟩
 ·have e0:(ch == 0)=false:=by simp[h0]
  have H0':=Jh h0;go_wp2_with fail
  refine (Kfi w1).mono ?_;rintro _ w2 ⟨rfl,hb2⟩;obtain ⟨vs,hvs⟩:∃vs,Kfx=vs:=⟨_,rfl⟩;have i0:=size0;have i1:=size1;have i2:=size2;have i3:=size3;rw[hvs] at i0 i1 i2 i3;rw[show (Value.agg #[.int .u64 2,.int .i64 2,.int .i64 7,.int .u64 6,.int .i64 3,.int .i64 9,.int .u64 14,.int .i64 4,.int .i64 12,.int .u64 15,.int .i64 4,.int .i64 64])=vs from hvs];clear hvs;have H2:Hid (ChAt B b { c with step:=st } l w2):=Jh (H1.out.far hb2);have HB2:=Jh (HB1.out.trans (hb2.mono hBw));have HK2:=Jh (HK1.out.trans (KeepT.of_below (b:=b) hb2));have hBw2:B≤w2.heap.size:=Nat.le_trans hBw hb2.size;clear hb2;go_wp2_with fail
  go_loopg [25] 4 (fun g s25 wr=>∃i:Nat,i+g=4∧s25 = .int .i64 (i:Int)∧(1≤i→¬(-64≤ch∧ch < 64))∧(2≤i→¬(-256≤ch∧ch < 256))∧(3≤i→¬(-2048≤ch∧ch < 2048))∧i≤3∧ChAt B b { c with step:=st } l wr∧Below B w wr∧KeepT b w wr)
  case atStart=>exact ⟨0,rfl,rfl,by omega,by omega,by omega,by omega,H2.out,HB2.out,HK2.out⟩
  case round=>
   obtain ⟨i,hi,rfl,n1,n2,n3,h3,hcr,hbr,hkr⟩:=hrel;have HKR:=Jh hkr;clear hkr;have N1:=Jh n1;have N2:=Jh n2;have N3:=Jh n3;have HC:=Jh hcr;have HBR:=Jh hbr;have hBr:B≤wr.heap.size:=Nat.le_trans hB hbr.size;clear n1 n2 n3 hcr hbr;rcases (by omega:i=0∨i=1∨i=2∨i=3) with rfl | rfl | rfl | rfl
   ·obtain rfl:gk=4:=by omega
    by_cases hf:-64≤ch∧ch < 64
    ·have f1:decide (-64≤ch)=true:=by simp;omega
     have f2:decide (ch < 64)=true:=by simp;omega
     have f3:=hf.1;have f4:=hf.2;go_upto_region 9 with fail
     have hsb:Blk (wr.alloc (.cells #[.int .u64 2,.int .i64 2,.int .i64 7] 297)) wr.heap.size 297 #[.int .u64 2,.int .i64 2,.int .i64 7]:=Blk.new _ _ _;have ha:Below wr.heap.size wr (wr.alloc (.cells #[.int .u64 2,.int .i64 2,.int .i64 7] 297)):=(Below.refl _ _).alloc (Nat.le_refl _) _;obtain ⟨w3,hw3⟩:∃w3,wr.alloc (.cells #[.int .u64 2,.int .i64 2,.int .i64 7] 297)=w3:=⟨_,rfl⟩;obtain ⟨q,hq⟩:∃q,wr.heap.size=q:=⟨_,rfl⟩;rw[hw3] at hsb ha;rw[hw3];rw[hq] at hsb;have hqb:q≠b:=by have:=HC.out.lt;omega
     rw[hq];have HQ:=Jh hq;have HSB:=Jh hsb;have HA:=Jh ha;clear hw3 hq ha;have s0:w3.cell? ⟨q,0,none⟩=_:=hsb.cell 0;have s1:w3.cell? ⟨q,1,none⟩=_:=hsb.cell 1;have sl:=hsb.lt;clear hsb;refine Kag 7 (by kernel_rfl) (by kernel_rfl) ?_;simp only[List.take_succ_cons,List.take_zero,List.drop_succ_cons,List.drop_zero]
     repeat (go_big_quiet_step (fail))
     refine wpQuiet_nil ?_;rintro w4 ⟨⟨_,hb4⟩,rfl⟩;have HA4:=Jh (then_ HA.out hb4);have HB4:=Jh (HBR.out.trans (HA4.out.mono hBr));have HS4:=Jh (HSB.out.below hb4 sl);have hB4:B≤w4.heap.size:=Nat.le_trans hBr HA4.out.size;have HK4:=Jh (HKR.out.trans (KeepT.of_below (b:=b) HA4.out));clear s0 s1 sl hb4;go_wp2_with fail
     refine (Kbv B b _ _ l 2 2 w4 (HC.out.far HA4.out) (by decide) (by omega) (by decide) hB4).mono ?_;rintro _ w5 ⟨rfl,h5,h6,h6k⟩;have hqB:q < w4.heap.size:=HS4.out.lt;have H5:=Jh h5;have H6:=Jh h6;have HB5:=Jh (HB4.out.trans h6);have hB5:B≤w5.heap.size:=Nat.le_trans hB4 h6.size;have HS5:Hid (Blk w5 q 297 #[.int .u64 2,.int .i64 2,.int .i64 7]):=Jh (h6k _ _ _ HS4.out (fun e=>hqb e) (by decide));have HK5:=Jh (HK4.out.trans h6k);clear h5 h6 h6k;go_upto_region 10 with fail
     have s2:w5.cell? ⟨q,2,none⟩=_:=HS5.out.cell 2;have sl:=HS5.out.lt;refine Kag 7 (by kernel_rfl) (by kernel_rfl) ?_;simp only[List.take_succ_cons,List.take_zero,List.drop_succ_cons,List.drop_zero]
     repeat (go_big_quiet_step (fail))
     refine wpQuiet_nil ?_;rintro w6 ⟨⟨_,hb6⟩,rfl⟩;rw[Khe];have H7:=Jh (WrAt.far H5.out hb6);have HK7:=Jh (HK5.out.trans (KeepT.of_below (b:=b) hb6));have HB7:=Jh (HB5.out.trans (hb6.mono hB5));have hB7:B≤w6.heap.size:=Nat.le_trans hB5 hb6.size;clear s2 sl hb6;go_wp2_with fail
     refine (Kbv B b _ _ (l++putN 2 2) (u64N ch) 7 w6 H7.out (by decide) (by rw[List.length_append,Kaq];omega) (Kjz _) hB7).mono ?_;rintro _ w7 ⟨rfl,h8,h9,h9k⟩;go_wp2_with fail
     refine bodyPost_ret (results_none rfl _ _ _) rfl ?_;refine ⟨rfl,?_,HB7.out.trans h9,HK7.out.trans h9k⟩;rw[List.append_assoc] at h8
     have hcw:Kcm ch=putN 2 2++putN (u64N ch) 7:=by
      unfold Kcm;rw[if_neg H0'.out,if_pos hf]
     rw[hcw];exact h8
    ·by_cases hf1:-64≤ch
     ·have hf2:¬ch < 64:=fun h=>hf ⟨hf1,h⟩
      have f1:decide (-64≤ch)=true:=by simp;omega
      have f2:decide (ch < 64)=false:=by simp;omega
      go_wp2_with fail
      go_roundg 3
      case measure=>omega
      case rel=>exact ⟨1,rfl,rfl,fun _=>hf,by omega,by omega,by omega,HC.out.far ((Below.refl _ _).alloc (Nat.le_refl _) _),HBR.out.trans ((Below.refl _ _).alloc hBr _),HKR.out.trans (KeepT.of_below ((Below.refl _ _).alloc (Nat.le_refl _) _))⟩
     ·have f1:decide (-64≤ch)=false:=by simp;omega
      go_wp2_with fail
      go_roundg 3
      case measure=>omega
      case rel=>exact ⟨1,rfl,rfl,fun _=>hf,by omega,by omega,by omega,HC.out.far ((Below.refl _ _).alloc (Nat.le_refl _) _),HBR.out.trans ((Below.refl _ _).alloc hBr _),HKR.out.trans (KeepT.of_below ((Below.refl _ _).alloc (Nat.le_refl _) _))⟩
   ·obtain rfl:gk=3:=by omega
    by_cases hf:-256≤ch∧ch < 256
    ·have f1:decide (-256≤ch)=true:=by simp;omega
     have f2:decide (ch < 256)=true:=by simp;omega
     have f3:=hf.1;have f4:=hf.2;go_upto_region 9 with fail
     have hsb:Blk (wr.alloc (.cells #[.int .u64 6,.int .i64 3,.int .i64 9] 297)) wr.heap.size 297 #[.int .u64 6,.int .i64 3,.int .i64 9]:=Blk.new _ _ _;have ha:Below wr.heap.size wr (wr.alloc (.cells #[.int .u64 6,.int .i64 3,.int .i64 9] 297)):=(Below.refl _ _).alloc (Nat.le_refl _) _;obtain ⟨w3,hw3⟩:∃w3,wr.alloc (.cells #[.int .u64 6,.int .i64 3,.int .i64 9] 297)=w3:=⟨_,rfl⟩;obtain ⟨q,hq⟩:∃q,wr.heap.size=q:=⟨_,rfl⟩;rw[hw3] at hsb ha;rw[hw3];rw[hq] at hsb;have hqb:q≠b:=by have:=HC.out.lt;omega
     rw[hq];have HQ:=Jh hq;have HSB:=Jh hsb;have HA:=Jh ha;clear hw3 hq ha;have s0:w3.cell? ⟨q,0,none⟩=_:=hsb.cell 0;have s1:w3.cell? ⟨q,1,none⟩=_:=hsb.cell 1;have sl:=hsb.lt;clear hsb;refine Kag 7 (by kernel_rfl) (by kernel_rfl) ?_;simp only[List.take_succ_cons,List.take_zero,List.drop_succ_cons,List.drop_zero]
     repeat (go_big_quiet_step (fail))
     refine wpQuiet_nil ?_;rintro w4 ⟨⟨_,hb4⟩,rfl⟩;have HA4:=Jh (then_ HA.out hb4);have HB4:=Jh (HBR.out.trans (HA4.out.mono hBr));have HS4:=Jh (HSB.out.below hb4 sl);have hB4:B≤w4.heap.size:=Nat.le_trans hBr HA4.out.size;have HK4:=Jh (HKR.out.trans (KeepT.of_below (b:=b) HA4.out));clear s0 s1 sl hb4;go_wp2_with fail
     refine (Kbv B b _ _ l 6 3 w4 (HC.out.far HA4.out) (by decide) (by omega) (by decide) hB4).mono ?_;rintro _ w5 ⟨rfl,h5,h6,h6k⟩;have hqB:q < w4.heap.size:=HS4.out.lt;have H5:=Jh h5;have H6:=Jh h6;have HB5:=Jh (HB4.out.trans h6);have hB5:B≤w5.heap.size:=Nat.le_trans hB4 h6.size;have HS5:Hid (Blk w5 q 297 #[.int .u64 6,.int .i64 3,.int .i64 9]):=Jh (h6k _ _ _ HS4.out (fun e=>hqb e) (by decide));have HK5:=Jh (HK4.out.trans h6k);clear h5 h6 h6k;go_upto_region 10 with fail
     have s2:w5.cell? ⟨q,2,none⟩=_:=HS5.out.cell 2;have sl:=HS5.out.lt;refine Kag 7 (by kernel_rfl) (by kernel_rfl) ?_;simp only[List.take_succ_cons,List.take_zero,List.drop_succ_cons,List.drop_zero]
     repeat (go_big_quiet_step (fail))
     refine wpQuiet_nil ?_;rintro w6 ⟨⟨_,hb6⟩,rfl⟩;rw[Khe];have H7:=Jh (WrAt.far H5.out hb6);have HK7:=Jh (HK5.out.trans (KeepT.of_below (b:=b) hb6));have HB7:=Jh (HB5.out.trans (hb6.mono hB5));have hB7:B≤w6.heap.size:=Nat.le_trans hB5 hb6.size;clear s2 sl hb6;go_wp2_with fail
     refine (Kbv B b _ _ (l++putN 6 3) (u64N ch) 9 w6 H7.out (by decide) (by rw[List.length_append,Kaq];omega) (Kjz _) hB7).mono ?_;rintro _ w7 ⟨rfl,h8,h9,h9k⟩;go_wp2_with fail
     refine bodyPost_ret (results_none rfl _ _ _) rfl ?_;refine ⟨rfl,?_,HB7.out.trans h9,HK7.out.trans h9k⟩;rw[List.append_assoc] at h8
     have hcw:Kcm ch=putN 6 3++putN (u64N ch) 9:=by
      unfold Kcm;rw[if_neg H0'.out,if_neg (N1.out (by decide)),if_pos hf]
     rw[hcw];exact h8
    ·by_cases hf1:-256≤ch
     ·have hf2:¬ch < 256:=fun h=>hf ⟨hf1,h⟩
      have f1:decide (-256≤ch)=true:=by simp;omega
      have f2:decide (ch < 256)=false:=by simp;omega
      go_wp2_with fail
      go_roundg 2
      case measure=>omega
      case rel=>exact ⟨2,rfl,rfl,fun _=>N1.out (by decide),fun _=>hf,by omega,by omega,HC.out.far ((Below.refl _ _).alloc (Nat.le_refl _) _),HBR.out.trans ((Below.refl _ _).alloc hBr _),HKR.out.trans (KeepT.of_below ((Below.refl _ _).alloc (Nat.le_refl _) _))⟩
     ·have f1:decide (-256≤ch)=false:=by simp;omega
      go_wp2_with fail
      go_roundg 2
      case measure=>omega
      case rel=>exact ⟨2,rfl,rfl,fun _=>N1.out (by decide),fun _=>hf,by omega,by omega,HC.out.far ((Below.refl _ _).alloc (Nat.le_refl _) _),HBR.out.trans ((Below.refl _ _).alloc hBr _),HKR.out.trans (KeepT.of_below ((Below.refl _ _).alloc (Nat.le_refl _) _))⟩
   ·obtain rfl:gk=2:=by omega
    by_cases hf:-2048≤ch∧ch < 2048
    ·have f1:decide (-2048≤ch)=true:=by simp;omega
     have f2:decide (ch < 2048)=true:=by simp;omega
     have f3:=hf.1;have f4:=hf.2;go_upto_region 9 with fail
     have hsb:Blk (wr.alloc (.cells #[.int .u64 14,.int .i64 4,.int .i64 12] 297)) wr.heap.size 297 #[.int .u64 14,.int .i64 4,.int .i64 12]:=Blk.new _ _ _;have ha:Below wr.heap.size wr (wr.alloc (.cells #[.int .u64 14,.int .i64 4,.int .i64 12] 297)):=(Below.refl _ _).alloc (Nat.le_refl _) _;obtain ⟨w3,hw3⟩:∃w3,wr.alloc (.cells #[.int .u64 14,.int .i64 4,.int .i64 12] 297)=w3:=⟨_,rfl⟩;obtain ⟨q,hq⟩:∃q,wr.heap.size=q:=⟨_,rfl⟩;rw[hw3] at hsb ha;rw[hw3];rw[hq] at hsb;have hqb:q≠b:=by have:=HC.out.lt;omega
     rw[hq];have HQ:=Jh hq;have HSB:=Jh hsb;have HA:=Jh ha;clear hw3 hq ha;have s0:w3.cell? ⟨q,0,none⟩=_:=hsb.cell 0;have s1:w3.cell? ⟨q,1,none⟩=_:=hsb.cell 1;have sl:=hsb.lt;clear hsb;refine Kag 7 (by kernel_rfl) (by kernel_rfl) ?_;simp only[List.take_succ_cons,List.take_zero,List.drop_succ_cons,List.drop_zero]
     repeat (go_big_quiet_step (fail))
     refine wpQuiet_nil ?_;rintro w4 ⟨⟨_,hb4⟩,rfl⟩;have HA4:=Jh (then_ HA.out hb4);have HB4:=Jh (HBR.out.trans (HA4.out.mono hBr));have HS4:=Jh (HSB.out.below hb4 sl);have hB4:B≤w4.heap.size:=Nat.le_trans hBr HA4.out.size;have HK4:=Jh (HKR.out.trans (KeepT.of_below (b:=b) HA4.out));clear s0 s1 sl hb4;go_wp2_with fail
     refine (Kbv B b _ _ l 14 4 w4 (HC.out.far HA4.out) (by decide) (by omega) (by decide) hB4).mono ?_;rintro _ w5 ⟨rfl,h5,h6,h6k⟩;have hqB:q < w4.heap.size:=HS4.out.lt;have H5:=Jh h5;have H6:=Jh h6;have HB5:=Jh (HB4.out.trans h6);have hB5:B≤w5.heap.size:=Nat.le_trans hB4 h6.size;have HS5:Hid (Blk w5 q 297 #[.int .u64 14,.int .i64 4,.int .i64 12]):=Jh (h6k _ _ _ HS4.out (fun e=>hqb e) (by decide));have HK5:=Jh (HK4.out.trans h6k);clear h5 h6 h6k;go_upto_region 10 with fail
     have s2:w5.cell? ⟨q,2,none⟩=_:=HS5.out.cell 2;have sl:=HS5.out.lt;refine Kag 7 (by kernel_rfl) (by kernel_rfl) ?_;simp only[List.take_succ_cons,List.take_zero,List.drop_succ_cons,List.drop_zero]
     repeat (go_big_quiet_step (fail))
     refine wpQuiet_nil ?_;rintro w6 ⟨⟨_,hb6⟩,rfl⟩;rw[Khe];have H7:=Jh (WrAt.far H5.out hb6);have HK7:=Jh (HK5.out.trans (KeepT.of_below (b:=b) hb6));have HB7:=Jh (HB5.out.trans (hb6.mono hB5));have hB7:B≤w6.heap.size:=Nat.le_trans hB5 hb6.size;clear s2 sl hb6;go_wp2_with fail
     refine (Kbv B b _ _ (l++putN 14 4) (u64N ch) 12 w6 H7.out (by decide) (by rw[List.length_append,Kaq];omega) (Kjz _) hB7).mono ?_;rintro _ w7 ⟨rfl,h8,h9,h9k⟩;go_wp2_with fail
     refine bodyPost_ret (results_none rfl _ _ _) rfl ?_;refine ⟨rfl,?_,HB7.out.trans h9,HK7.out.trans h9k⟩;rw[List.append_assoc] at h8
     have hcw:Kcm ch=putN 14 4++putN (u64N ch) 12:=by
      unfold Kcm;rw[if_neg H0'.out,if_neg (N1.out (by decide)),if_neg (N2.out (by decide)),if_pos hf]
     rw[hcw];exact h8
    ·by_cases hf1:-2048≤ch
     ·have hf2:¬ch < 2048:=fun h=>hf ⟨hf1,h⟩
      have f1:decide (-2048≤ch)=true:=by simp;omega
      have f2:decide (ch < 2048)=false:=by simp;omega
      go_wp2_with fail
      go_roundg 1
      case measure=>omega
      case rel=>exact ⟨3,rfl,rfl,fun _=>N1.out (by decide),fun _=>N2.out (by decide),fun _=>hf,by omega,HC.out.far ((Below.refl _ _).alloc (Nat.le_refl _) _),HBR.out.trans ((Below.refl _ _).alloc hBr _),HKR.out.trans (KeepT.of_below ((Below.refl _ _).alloc (Nat.le_refl _) _))⟩
     ·have f1:decide (-2048≤ch)=false:=by simp;omega
      go_wp2_with fail
      go_roundg 1
      case measure=>omega
      case rel=>exact ⟨3,rfl,rfl,fun _=>N1.out (by decide),fun _=>N2.out (by decide),fun _=>hf,by omega,HC.out.far ((Below.refl _ _).alloc (Nat.le_refl _) _),HBR.out.trans ((Below.refl _ _).alloc hBr _),HKR.out.trans (KeepT.of_below ((Below.refl _ _).alloc (Nat.le_refl _) _))⟩
   ·obtain rfl:gk=1:=by omega
    go_upto_region 9 with fail
    have hsb:Blk (wr.alloc (.cells #[.int .u64 15,.int .i64 4,.int .i64 64] 297)) wr.heap.size 297 #[.int .u64 15,.int .i64 4,.int .i64 64]:=Blk.new _ _ _;have ha:Below wr.heap.size wr (wr.alloc (.cells #[.int .u64 15,.int .i64 4,.int .i64 64] 297)):=(Below.refl _ _).alloc (Nat.le_refl _) _;obtain ⟨w3,hw3⟩:∃w3,wr.alloc (.cells #[.int .u64 15,.int .i64 4,.int .i64 64] 297)=w3:=⟨_,rfl⟩;obtain ⟨q,hq⟩:∃q,wr.heap.size=q:=⟨_,rfl⟩;rw[hw3] at hsb ha;rw[hw3];rw[hq] at hsb;have hqb:q≠b:=by have:=HC.out.lt;omega
    rw[hq];have HQ:=Jh hq;have HSB:=Jh hsb;have HA:=Jh ha;clear hw3 hq ha;have s0:w3.cell? ⟨q,0,none⟩=_:=hsb.cell 0;have s1:w3.cell? ⟨q,1,none⟩=_:=hsb.cell 1;have sl:=hsb.lt;clear hsb;refine Kag 7 (by kernel_rfl) (by kernel_rfl) ?_;simp only[List.take_succ_cons,List.take_zero,List.drop_succ_cons,List.drop_zero]
    repeat (go_big_quiet_step (fail))
    refine wpQuiet_nil ?_;rintro w4 ⟨⟨_,hb4⟩,rfl⟩;have HA4:=Jh (then_ HA.out hb4);have HB4:=Jh (HBR.out.trans (HA4.out.mono hBr));have HS4:=Jh (HSB.out.below hb4 sl);have hB4:B≤w4.heap.size:=Nat.le_trans hBr HA4.out.size;have HK4:=Jh (HKR.out.trans (KeepT.of_below (b:=b) HA4.out));clear s0 s1 sl hb4;go_wp2_with fail
    refine (Kbv B b _ _ l 15 4 w4 (HC.out.far HA4.out) (by decide) (by omega) (by decide) hB4).mono ?_;rintro _ w5 ⟨rfl,h5,h6,h6k⟩;have hqB:q < w4.heap.size:=HS4.out.lt;have H5:=Jh h5;have H6:=Jh h6;have HB5:=Jh (HB4.out.trans h6);have hB5:B≤w5.heap.size:=Nat.le_trans hB4 h6.size;have HS5:Hid (Blk w5 q 297 #[.int .u64 15,.int .i64 4,.int .i64 64]):=Jh (h6k _ _ _ HS4.out (fun e=>hqb e) (by decide));have HK5:=Jh (HK4.out.trans h6k);clear h5 h6 h6k;go_upto_region 10 with fail
    have s2:w5.cell? ⟨q,2,none⟩=_:=HS5.out.cell 2;have sl:=HS5.out.lt;refine Kag 7 (by kernel_rfl) (by kernel_rfl) ?_;simp only[List.take_succ_cons,List.take_zero,List.drop_succ_cons,List.drop_zero]
    repeat (go_big_quiet_step (fail))
    refine wpQuiet_nil ?_;rintro w6 ⟨⟨_,hb6⟩,rfl⟩;rw[Khe];have H7:=Jh (WrAt.far H5.out hb6);have HK7:=Jh (HK5.out.trans (KeepT.of_below (b:=b) hb6));have HB7:=Jh (HB5.out.trans (hb6.mono hB5));have hB7:B≤w6.heap.size:=Nat.le_trans hB5 hb6.size;clear s2 sl hb6;go_wp2_with fail
    refine (Kbv B b _ _ (l++putN 15 4) (u64N ch) 64 w6 H7.out (by decide) (by rw[List.length_append,Kaq];omega) (Kjz _) hB7).mono ?_;rintro _ w7 ⟨rfl,h8,h9,h9k⟩;go_wp2_with fail
    refine bodyPost_ret (results_none rfl _ _ _) rfl ?_;refine ⟨rfl,?_,HB7.out.trans h9,HK7.out.trans h9k⟩;rw[List.append_assoc] at h8
    have hcw:Kcm ch=putN 15 4++putN (u64N ch) 64:=by
     unfold Kcm;rw[if_neg H0'.out,if_neg (N1.out (by decide)),if_neg (N2.out (by decide)),if_neg (N3.out (by decide))]
    rw[hcw];exact h8
end
end Go.Proofs.YtefpndiiedkmpaaGreatDoor
