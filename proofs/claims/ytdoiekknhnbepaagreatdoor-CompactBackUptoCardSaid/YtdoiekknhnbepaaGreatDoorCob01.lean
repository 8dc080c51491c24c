/- Merged (what the claim wants of): Words, EncPlain, SymPlain, LabPlain, Builder, Region, EncWalksA, EncWalksB, EncWalksC, LabWalksA, Shelf, LabWalksB, LabWalksC, Texts, SymWalksA. -/
import Derived.WalkKit
import Derived.Handy
import Derived.Lib.Hide
import Derived.Deep.Draws
import Derived.Deep.AppendLies
import Derived.Lib.SlicesCompact
import Derived.Shelf.Spec.SearchS
import Derived.Lib.Bytealg
import Derived.Shelf.Strings.BuilderK
import Derived.Test.YtdoiekknhnbepaaGreatDoorProg
import Derived.StillTail
import Derived.Deep.QuietTactic
import Derived.BigQuiet
import Derived.Deep.RegionHeld3
import Derived.Deep.DrawnRows
import Derived.Deep.DeepCutAuto
import Derived.WalkSpells
import Derived.WalkLawsBesides
import Derived.Deep.LoopGhost
import Derived.Deep.CutBlock
import Derived.IntWalk
import Derived.Maps.AppendAt
import Derived.Laws.IdiomStrings
import Derived.Shelf.SlicesE.Clone
import Derived.Shelf.SlicesQ.IndexFunc
import Derived.Shelf.SlSortCmp.SmallK
import Derived.Shelf.Strings.Builder1
import Derived.Shelf.Small.Bits
import Derived.Shelf.Small.Strs
import Derived.Shelf.Strings.BuilderF
import Derived.Shelf.Strconv.Itoa0
import Derived.Shelf.SortM.Plain
import Derived.Shelf.SortM.SortNone
import Derived.Laws.AppendOwnNone
import Derived.Sort.OwnSorted
import Derived.Lib.RowBridge
set_option linter.unusedVariables false
set_option linter.unusedSimpArgs false
set_option maxRecDepth 100000
set_option maxHeartbeats 8000000
namespace Go.Proofs.YtdoiekknhnbepaaGreatDoor
section
open Go.RowKit
theorem Qfg {k:IntKind} {a b:Int} (h:a=b):Ending.returned (.int k a) = .returned (.int k b):=by rw[h]
theorem vi {k:IntKind} {a b:Int} (h:a=b):Value.int k a=Value.int k b:=by rw[h]
theorem ret2 {a b c d:Value} (h:a=c) (h':b=d):Ending.returned (.tuple #[a,b]) = .returned (.tuple #[c,d]):=by rw[h,h']
section
variable {B : Nat} {ex : List Nat} {a w w' : World}
end
theorem Kfa {w:World} {a:Addr} {v:Value} (h:w.cell? a=some v):a.block < w.heap.size:=by
 rcases Nat.lt_or_ge a.block w.heap.size with hlt | hge
 ·exact hlt
 ·unfold World.cell? at h;rw[Array.getElem?_eq_none hge] at h;cases h
theorem later {w w':World} (hb:Below w.heap.size w w') {a:Addr} {v:Value} (h:w.cell? a=some v):w'.cell? a=some v:=(hb.cell (Kfa h)).trans h
theorem then_ {w w1 w2:World} (h:Below w.heap.size w w1) (h':Below w1.heap.size w1 w2):Below w.heap.size w w2:=h.trans (h'.mono h.size)
def Blk (w:World) (g:Nat) (t:TypeId) (cs:Array Value):Prop:=w.heap[g]? = some (.cells cs t (0,0))
section
variable {w w' : World} {g : Nat} {t : TypeId} {cs : Array Value}
theorem Blk.lt (h:Blk w g t cs):g < w.heap.size:=by
 rcases Nat.lt_or_ge g w.heap.size with hlt | hge
 ·exact hlt
 ·unfold Blk at h;rw[Array.getElem?_eq_none hge] at h;cases h
theorem Blk.cell (h:Blk w g t cs) (i:Nat):w.cell? ⟨g,i,none⟩=cs[i]?:=cell_of_row w g i cs t (0,0) h
theorem Blk.frozen (h:Blk w g t cs) (i:Nat):w.frozen? ⟨g,i,none⟩=false:=by
 unfold Blk at h;simp[World.frozen?,h]
theorem Blk.new (w:World) (t:TypeId) (cs:Array Value):Blk (w.alloc (.cells cs t)) w.heap.size t cs:=heap_alloc_new w _
theorem Blk.newAt (h:g=w.heap.size):Blk (w.alloc (.cells cs t)) g t cs:=by subst h;exact Blk.new w t cs
theorem Blk.alloc (h:Blk w g t cs) (o:Obj):Blk (w.alloc o) g t cs:=(Below.heap_alloc w o g h.lt).trans h
theorem Blk.set_ (h:Blk w g t cs) (i:Nat) (u:Value):Blk (w.setCell ⟨g,i,none⟩ u) g t (cs.setIfInBounds i u):=by
 unfold Blk at h ⊢;simp[World.setCell,Array.getElem?_modify,h]
theorem Blk.far (h:Blk w g t cs) {p:Addr} (hp:g≠p.block) (u:Value):Blk (w.setCell p u) g t cs:=(Below.heap_setCell w p u g hp).trans h
theorem Blk.below {B:Nat} (h:Blk w g t cs) (hb:Below B w w') (hg:g < B):Blk w' g t cs:=(hb.block g hg).trans h
theorem Blk.grown {row:Option Nat} (h:Blk w g t cs) (hb:w.grownBy w' row) (hg:some g≠row):Blk w' g t cs:=(hb.block g h.lt hg).trans h
theorem Blk.ne_ {g':Nat} {t':TypeId} {cs':Array Value} (h:Blk w g t cs) (h':Blk w g' t' cs') (hne:t≠t'):g≠g':=by
 rintro rfl;unfold Blk at h h';rw[h] at h';injection h' with h';injection h' with _ ht;exact hne ht
end
theorem Kav {w:World} {g:Nat} {t:TypeId} {l:List Value} (h:Blk w g t l.toArray):∀j u,l[j]? = some u→w.cell? ((⟨g,0,none⟩:Addr).add j)=some u:=by
 intro j u hu;have e:(⟨g,0,none⟩:Addr).add j=⟨g,j,none⟩:=by unfold Addr.add;split <;> simp_all
 rw[e,h.cell];simpa using hu
def Elems {α : Type} (w:World) (B sz:Nat) (enc:α→List Value) (A:Option Addr) (n:Nat) (xs:List α):Prop:=
 xs.length=n∧(0 < n→∃b off,A=some ⟨b,off,none⟩∧b < B∧∀i x,xs[i]? = some x→∀j v,(enc x)[j]? = some v→w.cell? ⟨b,off+i*sz+j,none⟩=some v)
section
variable {α : Type} {w w' : World} {B B' sz n : Nat} {enc : α → List Value} {A : Option Addr} {xs : List α}
theorem Elems.keep (h:Elems w B sz enc A n xs) (hk:∀p:Addr,p.block < B→w'.cell? p=w.cell? p):Elems w' B sz enc A n xs:=
 ⟨h.1,fun hn=>by
  obtain ⟨b,off,e,hb,hc⟩:=h.2 hn
  exact ⟨b,off,e,hb,fun i x hx j v hv=>(hk _ hb).trans (hc i x hx j v hv)⟩⟩
theorem Elems.more (h:Elems w B sz enc A n xs) (hB:B≤B'):Elems w B' sz enc A n xs:=
 ⟨h.1,fun hn=>by
  obtain ⟨b,off,e,hb,hc⟩:=h.2 hn
  exact ⟨b,off,e,by omega,hc⟩⟩
theorem Elems.below (h:Elems w B sz enc A n xs) (hb:Below B w w'):Elems w' B sz enc A n xs:=h.keep fun _ hp=>hb.cell hp
theorem Elems.nil_:Elems w B sz enc A 0 []:=⟨rfl,fun h=>absurd h (by omega)⟩
theorem Elems.of_own {base:Nat} {e:TypeId} {v:Value} {ys:List Value} (hsz:∀x∈xs,(enc x).length=sz) (hys:ys=xs.flatMap enc) (h:w.ownsRow base e sz v n ys) (hn:xs.length=n) :
  ∃A c,v = .slice A n c∧Elems w w.heap.size sz enc A n xs∧(∀a,A=some a→base≤a.block)∧n≤c:=by
 rcases h.2 with ⟨rfl,rfl⟩ | ⟨g,cap,cur,rfl,hb,hh,hnc,_,hsize,htk⟩
 ·exact ⟨none,0,rfl,⟨hn,fun h=>absurd h (by omega)⟩,(fun a h=>by cases h),Nat.le_refl _⟩
 ·refine ⟨_,cap,rfl,⟨hn,fun _=>⟨g,0,rfl,?_,fun i x hx j v hv=>?_⟩⟩,(fun a h=>by injection h with h;subst h;exact hb),hnc⟩
  ·rcases Nat.lt_or_ge g w.heap.size with hlt | hge
   ·exact hlt
   ·rw[Array.getElem?_eq_none hge] at hh;cases hh
  ·have hcell:w.cell? ⟨g,0+i*sz+j,none⟩=cur[0+i*sz+j]?:=cell_of_row w g _ cur e (0,0) hh;rw[hcell]
   have key:∀(l:List α) (i:Nat),(∀x∈l,(enc x).length=sz)→l[i]? = some x→(l.flatMap enc)[i*sz+j]? = some v:=by
    intro l
    induction l with
    | nil=>intro i _ h;simp at h
    | cons y l ih=>
     intro i hl hi
     cases i with
     | zero=>
      simp only[List.getElem?_cons_zero,Option.some.injEq] at hi;subst hi;have hj:j < (enc y).length:=(List.getElem?_eq_some_iff.1 hv).1;rw[List.flatMap_cons,List.getElem?_append_left (by omega)];simpa using hv
     | succ i=>
      rw[List.flatMap_cons,List.getElem?_append_right (by rw[hl y (by simp),Nat.succ_mul];omega),hl y (by simp),show (i+1)*sz+j - sz=i*sz+j by rw[Nat.succ_mul];omega];exact ih i (fun z hz=>hl z (by simp[hz])) (by simpa using hi)
   have h1:=key xs i hsz hx;rw[←hys,←htk,List.getElem?_take] at h1
   split at h1
   ·simpa using h1
   ·cases h1
theorem Elems.cut (h:Elems w B sz enc A n xs) {k cap:Nat} (hk:k≤n) (hc:n≤cap) :
  Elems w B sz enc (if cap=k then A else A.map (·.add (k*sz))) (n - k) (xs.drop k):=by
 refine ⟨by rw[List.length_drop,h.1],fun hn=>?_⟩;obtain ⟨b,off,rfl,hb,hcell⟩:=h.2 (by omega);rw[if_neg (by omega)];refine ⟨b,off+k*sz,by simp only[Option.map_some,Addr.add];split <;> simp_all,hb,fun i x hx j v hv=>?_⟩;rw[List.getElem?_drop] at hx;have:=hcell (k+i) x hx j v hv;rw[Nat.add_mul] at this;rw[←this];congr 2;omega
theorem Elems.len (h:Elems w B sz enc A n xs):xs.length=n:=h.1
end
end
section
def uintF:Nat→Nat→List UInt8
 | 0,v=>[UInt8.ofNat v]
 | f+1,v=>if 127 < v then UInt8.ofNat (v % 128+128) :: uintF f (v / 128) else [UInt8.ofNat v]
def uintT (v:Nat):List UInt8:=uintF 10 v
theorem Knz:∀(f v:Nat),v < 128 ^ (f+1)→uintF f v=uintF (f+1) v
 | 0,v,h=>by rw[uintF,uintF,if_neg (by omega)]
 | f+1,v,h=>by
  rw[uintF,uintF]
  split
  ·rw[Knz f (v / 128) (by rw[Nat.pow_succ] at h;omega)]
  ·rfl
theorem Kzc {v:Nat} (h:v < 2 ^ 64) (h1:127 < v):uintT v=UInt8.ofNat (v % 128+128) :: uintT (v / 128):=by
 unfold uintT
 conv=>lhs;rw[uintF,if_pos h1]
 rw[Knz 9 (v / 128) (by
  have:(2:Nat) ^ 64≤128 ^ (9+1)*128:=by decide
  omega)]
theorem Qbv {v:Nat} (h1:v≤127):uintT v = [UInt8.ofNat v]:=by
 rw[uintT,uintF,if_neg (by omega)]
theorem Kqo:∀(f v:Nat),1≤(uintF f v).length∧(uintF f v).length≤f+1
 | 0,v=>by simp[uintF]
 | f+1,v=>by
  rw[uintF]
  split
  ·have:=Kqo f (v / 128);simp only[List.length_cons];omega
  ·simp
theorem Kab (v:Nat):1≤(uintT v).length∧(uintT v).length≤11:=Kqo 10 v
def textT (s:List UInt8):List UInt8:=uintT s.length++s
abbrev Txt:=List UInt8
def Asc (t:List Txt):Prop:=t.Pairwise (· < ·)
def IsTab (l t:List Txt):Prop:=Asc t∧∀x,x∈t↔x∈l
theorem Kxe {a b:Txt} (h:¬a < b) (h':¬b < a):a=b:=List.le_antisymm (List.not_lt.1 h') (List.not_lt.1 h)
theorem Qbu {a b c:Txt} (h:a≤b) (h':b < c):a < c:=by
 by_cases e:a < c
 ·exact e
 ·have:=List.not_lt.1 e;exact absurd h' (List.not_lt.2 (List.le_trans this h))
theorem Kqn {a b:Txt} (h:a≤b) (h':b≠a):a < b:=by
 by_cases e:a < b
 ·exact e
 ·exact absurd (List.le_antisymm (List.not_lt.1 e) h) h'
theorem Kwn:∀{t t':List Txt},Asc t→Asc t'→(∀x,x∈t↔x∈t')→t=t'
 | [],[],_,_,_=>rfl
 | [],b :: s',_,_,h=>by have:=(h b).2 (by simp);simp at this
 | a :: s,[],_,_,h=>by have:=(h a).1 (by simp);simp at this
 | a :: s,b :: s',h1,h2,h=>by
  have ha:=List.pairwise_cons.1 h1;have hb:=List.pairwise_cons.1 h2
  have hab:a=b:=by
   apply Kxe
   ·intro hlt;rcases List.mem_cons.1 ((h a).1 (by simp)) with e | e
    ·exact List.lt_irrefl a (by rw[e] at hlt ⊢;exact hlt)
    ·exact List.lt_asymm hlt (hb.1 a e)
   ·intro hlt;rcases List.mem_cons.1 ((h b).2 (by simp)) with e | e
    ·exact List.lt_irrefl b (by rw[e] at hlt ⊢;exact hlt)
    ·exact List.lt_asymm hlt (ha.1 b e)
  subst hab;rw[Kwn ha.2 hb.2 fun x=>?_];constructor
  ·intro hx;rcases List.mem_cons.1 ((h x).1 (by simp[hx])) with e | e
   ·subst e;exact absurd (ha.1 x hx) (List.lt_irrefl x)
   ·exact e
  ·intro hx;rcases List.mem_cons.1 ((h x).2 (by simp[hx])) with e | e
   ·subst e;exact absurd (hb.1 x hx) (List.lt_irrefl x)
   ·exact e
theorem IsTab.one {l t t':List Txt} (h:IsTab l t) (h':IsTab l t'):t=t':=Kwn h.1 h'.1 fun x=>(h.2 x).trans (h'.2 x).symm
theorem Kjq (d:Array Txt) (hs:∀j,j+1 < d.size→d[j]!≤d[j+1]!):∀m,m≤d.size→
  Asc (Lib.compactUpTo d m)∧(∀x,x∈Lib.compactUpTo d m↔∃j,j < m∧d[j]! = x)∧(0 < m→∀x∈Lib.compactUpTo d m,x≤d[m - 1]!)
 | 0,_=>⟨List.Pairwise.nil,fun x=>by simp[Lib.compactUpTo],fun h=>by omega⟩
 | m+1,hm=>by
  obtain ⟨h1,h2,h3⟩:=Kjq d hs m (by omega);rw[Lib.compactUpTo_succ]
  by_cases hk:m=0∨d[m]!≠d[m - 1]!
  ·have hkk:Lib.keeps d m=true:=by
    rcases hk with rfl | h
    ·simp[Lib.keeps]
    ·exact Lib.keeps_pos h
   rw[hkk,if_pos rfl]
   have hlt:∀x∈Lib.compactUpTo d m,x < d[m]!:=by
    intro x hx;rcases Nat.eq_zero_or_pos m with rfl | hp
    ·simp[Lib.compactUpTo] at hx
    ·have h4:=h3 hp x hx;have h5:=hs (m - 1) (by omega);rw[show m - 1+1=m by omega] at h5;exact Qbu h4 (Kqn h5 (by rcases hk with h | h;omega;exact h))
   refine ⟨?_,fun x=>?_,fun _ x hx=>?_⟩
   ·rw[Asc,List.pairwise_append];exact ⟨h1,List.pairwise_singleton _ _,fun a ha b hb=>by rw[List.mem_singleton.1 hb];exact hlt a ha⟩
   ·rw[List.mem_append,h2,List.mem_singleton];constructor
    ·rintro (⟨j,hj,e⟩ | e)
     ·exact ⟨j,by omega,e⟩
     ·exact ⟨m,by omega,e.symm⟩
    ·rintro ⟨j,hj,e⟩
     by_cases hjm:j=m
     ·subst hjm;exact .inr e.symm
     ·exact .inl ⟨j,by omega,e⟩
   ·rw[Nat.add_sub_cancel];rcases List.mem_append.1 hx with h | h
    ·exact List.le_of_lt (hlt x h)
    ·rw[List.mem_singleton.1 h];exact List.le_refl _
  ·have hm0:m≠0:=fun h=>hk (.inl h)
   have he:d[m]! = d[m - 1]!:=by
    apply Classical.byContradiction;intro h;exact hk (.inr h)
   rw[Lib.keeps_neg (by omega) he];simp only[Bool.false_eq_true,if_false,List.append_nil];refine ⟨h1,fun x=>?_,fun _ x hx=>?_⟩
   ·rw[h2];constructor
    ·rintro ⟨j,hj,e⟩;exact ⟨j,by omega,e⟩
    ·rintro ⟨j,hj,e⟩
     by_cases hjm:j=m
     ·subst hjm;exact ⟨j - 1,by omega,by rw[←he];exact e⟩
     ·exact ⟨j,by omega,e⟩
   ·rw[Nat.add_sub_cancel,he];exact h3 (by omega) x hx
theorem Qea (l:List Txt):IsTab l (Lib.compact (l.mergeSort fun x y=>decide (x≤y))):=by
 obtain ⟨z,hz⟩:∃z,l.mergeSort (fun x y=>decide (x≤y))=z:=⟨_,rfl⟩
 have hsorted:z.Pairwise (fun a b=>a≤b):=by
  have:=List.pairwise_mergeSort (le:=fun x y:Txt=>decide (x≤y)) (by intro a b c;simp;exact List.le_trans) (by intro a b;simp;exact List.le_total a b) l;rw[hz] at this;simpa using this
 have hmem:∀x,x∈z↔x∈l:=by intro x;rw[←hz];exact List.mem_mergeSort
 rw[hz];have hget:∀j,j < z.length→z.toArray[j]! = z[j]!:=fun j _=>by simp
 have hs:∀j,j+1 < z.toArray.size→z.toArray[j]!≤z.toArray[j+1]!:=by
  intro j hj;have hj':j+1 < z.length:=by simpa using hj
  rw[hget j (by omega),hget (j+1) hj',getElem!_pos z j (by omega),getElem!_pos z (j+1) hj'];exact List.pairwise_iff_getElem.1 hsorted j (j+1) (by omega) hj' (by omega)
 obtain ⟨h1,h2,_⟩:=Kjq z.toArray hs z.length (by simp);refine ⟨h1,fun x=>?_⟩;rw[Lib.compact,h2,←hmem];constructor
 ·rintro ⟨j,hj,e⟩;rw[hget j hj,getElem!_pos z j hj] at e;rw[←e];exact List.getElem_mem hj
 ·intro hx;obtain ⟨j,hj,e⟩:=List.getElem_of_mem hx;exact ⟨j,hj,by rw[hget j hj,getElem!_pos z j hj];exact e⟩
def below (t:List Txt) (s:Txt):Nat:=t.countP fun x=>decide (x < s)
theorem Klx (t:List Txt) (s:Txt):below t s≤t.length:=List.countP_le_length
theorem Keh:∀{t:List Txt} (_:Asc t) (s:Txt) (i:Nat) (h:i < t.length),(t[i] < s↔i < below t s)
 | a :: t,h,s,i,hi=>by
  have ha:=List.pairwise_cons.1 h;unfold below;rw[List.countP_cons]
  by_cases has:a < s
  ·simp only[has,decide_true,if_true]
   cases i with
   | zero=>simp[has]
   | succ i=>
    have ih:=Keh ha.2 s i (by simpa using hi);unfold below at ih;simp only[List.getElem_cons_succ];rw[ih];omega
  ·have hz:t.countP (fun x=>decide (x < s))=0:=by
    rw[List.countP_eq_zero];intro x hx;have:=ha.1 x hx;simp only[decide_eq_true_eq];intro hxs;exact has (List.lt_trans this hxs)
   rw[hz];simp only[has,decide_false,Bool.false_eq_true,if_false,Nat.zero_add,Nat.not_lt_zero,iff_false]
   cases i with
   | zero=>exact has
   | succ i=>
    simp only[List.getElem_cons_succ];intro hxs;exact has (List.lt_trans (ha.1 _ (List.getElem_mem _)) hxs)
theorem Qcd {t:List Txt} (h:Asc t) {s:Txt} {i:Nat} (hi:t[i]? = some s):below t s=i:=by
 obtain ⟨hl,e⟩:=List.getElem?_eq_some_iff.1 hi;have h1:=Keh h s i hl;rw[e] at h1;have h2:¬i < below t s:=fun hh=>List.lt_irrefl s (h1.2 hh)
 apply Nat.le_antisymm (by
  apply Classical.byContradiction
  intro hgt;exact h2 (by omega))
 apply Classical.byContradiction;intro hlt;have hb:below t s < i:=by omega
 have h3:=Keh h s (below t s) (by omega)
 have h4:t[below t s] < s:=by
  have:=List.pairwise_iff_getElem.1 h (below t s) i (by omega) hl hb;rw[e] at this;exact this
 have:=h3.1 h4;omega
def numR (t:List Txt) (s:Txt):Nat×Nat:=if t[below t s]? = some s then (below t s,0) else (0,50)
theorem Qch {t:List Txt} (h:Asc t) (s:Txt) (lt:Nat→Bool) (hlt:∀i (hi:i < t.length),lt i=decide (t[i] < s)) (hout:∀i,t.length≤i→lt i=false):Lib.bsGo lt t.length 0 t.length=below t s:=by
 apply Lib.bsGo_spec lt (below t s)
 ·intro i hi;have hl:i < t.length:=Nat.lt_of_lt_of_le hi (Klx t s);rw[hlt i hl,decide_eq_true_eq];exact (Keh h s i hl).2 hi
 ·intro i hi
  by_cases hl:i < t.length
  ·rw[hlt i hl,decide_eq_false_iff_not];intro hh;have:=(Keh h s i hl).1 hh;omega
  ·exact hout i (by omega)
 ·omega
 ·omega
 ·exact Klx t s
def Qfx (b:UInt8):Bool:=decide (48≤b.toNat) && decide (b.toNat≤57)
def Qex (b:UInt8):Bool:=(decide (97≤b.toNat) && decide (b.toNat≤122)) || (decide (65≤b.toNat) && decide (b.toNat≤90))
def okB (d:Bool) (b:UInt8):Bool:=(d && Qfx b) || (b.toNat == 95) || Qex b
def allOk:Bool→List UInt8→Bool
 | _,[]=>true
 | d,b :: l=>okB d b && allOk true l
def fitN (s:Txt):Bool:=allOk false s && decide (1≤s.length) && decide (s.length≤32)
def fitV (s:Txt):Bool:=decide (1≤s.length) && decide (s.length≤64)
structure Lb where
 n:Txt
 v:Txt
instance:Inhabited Lb:=⟨⟨[],[]⟩⟩
def names (l:List Lb):List Txt:=l.map Lb.n
def Kdt:List Lb→List Lb→Nat
 | _,[]=>0
 | pre,x :: r=>if fitN x.n=false then 40 else if fitV x.v=false then 41 else if pre.any (fun y=>y.n == x.n) then 42 else Kdt (pre ++ [x]) r
def Kbm (l:List Lb):Nat:=if l.length=0 then 43 else if 8 < l.length then 44 else Kdt [] l
def Kdi (l:List Lb):Nat:=if Kbm l≠0 then Kbm l else if (names l).Pairwise (· < ·) then 0 else 42
def labT (x:Lb):List UInt8:=textT x.n++textT x.v
def encL (l:List Lb):List UInt8:=uintT l.length++l.flatMap labT
def Kfx (l:List Lb):List UInt8:=if Kdi l=0 then encL l else []
theorem Kir:∀{pre l:List Lb},Kdt pre l=0→(∀x∈l,fitN x.n=true∧fitV x.v=true)
 | _,[],_=>by simp
 | pre,x :: r,h=>by
  rw[Kdt] at h
  split at h
  ·omega
  ·split at h
   ·omega
   ·split at h
    ·omega
    ·rename_i h1 h2 _
     have ih:=Kir h;intro y hy;rcases List.mem_cons.1 hy with rfl | hy
     ·exact ⟨by simpa using h1,by simpa using h2⟩
     ·exact ih y hy
theorem Kjh:∀{pre l:List Lb},Kdt pre l=0→(names l).Nodup∧∀x∈l,∀y∈pre,y.n≠x.n
 | _,[],_=>by simp[names]
 | pre,x :: r,h=>by
  rw[Kdt] at h
  split at h
  ·omega
  ·split at h
   ·omega
   ·split at h
    ·omega
    ·rename_i hany
     obtain ⟨h1,h2⟩:=Kjh h
     have hx:∀y∈pre,y.n≠x.n:=by
      intro y hy e;apply hany;rw[List.any_eq_true];exact ⟨y,hy,by simp[e]⟩
     refine ⟨?_,?_⟩
     ·rw[names,List.map_cons,List.nodup_cons];refine ⟨?_,h1⟩;intro hm;obtain ⟨z,hz,e⟩:=List.mem_map.1 hm;exact h2 z hz x (by simp) e.symm
     ·intro z hz y hy;rcases List.mem_cons.1 hz with rfl | hz
      ·exact hx y hy
      ·exact h2 z hz y (by simp[hy])
theorem Kfb {l:List Lb} (h:Kbm l=0):l.length≠0∧l.length≤8∧(∀x∈l,fitN x.n=true∧fitV x.v=true)∧(names l).Nodup:=by
 unfold Kbm at h
 split at h
 ·omega
 ·split at h
  ·omega
  ·exact ⟨by omega,by omega,Kir h,(Kjh h).1⟩
theorem Qfw (a b:Txt):Lib.compareBytes a b < 0↔a < b:=by
 induction a generalizing b with
 | nil=>
  cases b with
  | nil=>simp[Lib.compareBytes]
  | cons y b=>simp[Lib.compareBytes]
 | cons x a ih=>
  cases b with
  | nil=>simp[Lib.compareBytes]
  | cons y b=>
   rw[Lib.compareBytes,List.cons_lt_cons_iff]
   by_cases h1:x < y
   ·simp[h1]
   ·by_cases h2:y < x
    ·simp only[h1,h2,if_true,if_false,false_or];constructor
     ·intro h;omega
     ·rintro ⟨rfl,_⟩;exact absurd h2 h1
    ·have e:x=y:=by
      apply UInt8.le_antisymm
      ·exact UInt8.not_lt.1 h2
      ·exact UInt8.not_lt.1 h1
     simp only[h1,h2,if_false,false_or];rw[ih];simp[e]
end
section
open Go.Shelf Go.RowKit
def bren:Go.Shelf.Ren:=⟨fun | 166=>40 | 167=>113 | 169=>48 | 240=>109 | 276=>168 | n=>n,fun | 0=>0 | 3=>3 | 4=>4 | 5=>5 | 9=>9 | 20=>20 | 37=>76 | 70=>107 | 72=>109 | 75=>111 | 76=>112 | 80=>114 | 127=>215 | 164=>263 | n=>n,fun n=>n⟩
theorem Qcf:Go.Proofs.Lays.n166 Tryz.prog bren:={
 mixed:=by kernel_rfl
 f166:=Tryz.func40.trans (congrArg some (by kernel_rfl))
 f240:=Tryz.func109.trans (congrArg some (by kernel_rfl))
 f276:=Tryz.func168.trans (congrArg some (by kernel_rfl))
 t0:=Tryz.underlying0
 a0:=Tryz.isAgg0
 z0:=Tryz.sizeOf0
 v0:=Tryz.zeroValue0
 t3:=Tryz.underlying3
 a3:=Tryz.isAgg3
 z3:=Tryz.sizeOf3
 v3:=Tryz.zeroValue3
 t4:=Tryz.underlying4
 a4:=Tryz.isAgg4
 z4:=Tryz.sizeOf4
 v4:=Tryz.zeroValue4
 t9:=Tryz.underlying9
 a9:=Tryz.isAgg9
 z9:=Tryz.sizeOf9
 v9:=Tryz.zeroValue9
 t20:=Tryz.underlying20
 a20:=Tryz.isAgg20
 z20:=Tryz.sizeOf20
 v20:=Tryz.zeroValue20
 t37:=Tryz.underlying76
 a37:=Tryz.isAgg76
 z37:=Tryz.sizeOf76
 v37:=Tryz.zeroValue76
 t70:=Tryz.underlying107
 a70:=Tryz.isAgg107
 z70:=Tryz.sizeOf107
 v70:=Tryz.zeroValue107
 t72:=Tryz.underlying109
 a72:=Tryz.isAgg109
 z72:=Tryz.sizeOf109
 v72:=Tryz.zeroValue109
 t75:=Tryz.underlying111
 a75:=Tryz.isAgg111
 z75:=Tryz.sizeOf111
 v75:=Tryz.zeroValue111
 t164:=Tryz.underlying263
 a164:=Tryz.isAgg263
 z164:=Tryz.sizeOf263
 v164:=Tryz.zeroValue263 }
theorem Qcg:Go.Proofs.Lays.n167 Tryz.prog bren:={
 mixed:=by kernel_rfl
 f167:=Tryz.func113.trans (congrArg some (by kernel_rfl))
 f240:=Tryz.func109.trans (congrArg some (by kernel_rfl))
 f276:=Tryz.func168.trans (congrArg some (by kernel_rfl))
 t0:=Tryz.underlying0
 a0:=Tryz.isAgg0
 z0:=Tryz.sizeOf0
 v0:=Tryz.zeroValue0
 t4:=Tryz.underlying4
 a4:=Tryz.isAgg4
 z4:=Tryz.sizeOf4
 v4:=Tryz.zeroValue4
 t5:=Tryz.underlying5
 a5:=Tryz.isAgg5
 z5:=Tryz.sizeOf5
 v5:=Tryz.zeroValue5
 t9:=Tryz.underlying9
 a9:=Tryz.isAgg9
 z9:=Tryz.sizeOf9
 v9:=Tryz.zeroValue9
 t20:=Tryz.underlying20
 a20:=Tryz.isAgg20
 z20:=Tryz.sizeOf20
 v20:=Tryz.zeroValue20
 t37:=Tryz.underlying76
 a37:=Tryz.isAgg76
 z37:=Tryz.sizeOf76
 v37:=Tryz.zeroValue76
 t70:=Tryz.underlying107
 a70:=Tryz.isAgg107
 z70:=Tryz.sizeOf107
 v70:=Tryz.zeroValue107
 t72:=Tryz.underlying109
 a72:=Tryz.isAgg109
 z72:=Tryz.sizeOf109
 v72:=Tryz.zeroValue109
 t75:=Tryz.underlying111
 a75:=Tryz.isAgg111
 z75:=Tryz.sizeOf111
 v75:=Tryz.zeroValue111
 t164:=Tryz.underlying263
 a164:=Tryz.isAgg263
 z164:=Tryz.sizeOf263
 v164:=Tryz.zeroValue263 }
theorem Kly:Go.Proofs.Lays.n169 Tryz.prog bren:={
 mixed:=by kernel_rfl
 f169:=Tryz.func48.trans (congrArg some (by kernel_rfl))
 t0:=Tryz.underlying0
 a0:=Tryz.isAgg0
 z0:=Tryz.sizeOf0
 v0:=Tryz.zeroValue0
 t3:=Tryz.underlying3
 a3:=Tryz.isAgg3
 z3:=Tryz.sizeOf3
 v3:=Tryz.zeroValue3
 t9:=Tryz.underlying9
 a9:=Tryz.isAgg9
 z9:=Tryz.sizeOf9
 v9:=Tryz.zeroValue9
 t37:=Tryz.underlying76
 a37:=Tryz.isAgg76
 z37:=Tryz.sizeOf76
 v37:=Tryz.zeroValue76
 t70:=Tryz.underlying107
 a70:=Tryz.isAgg107
 z70:=Tryz.sizeOf107
 v70:=Tryz.zeroValue107
 t72:=Tryz.underlying109
 a72:=Tryz.isAgg109
 z72:=Tryz.sizeOf109
 v72:=Tryz.zeroValue109
 t127:=Tryz.underlying215
 a127:=Tryz.isAgg215
 z127:=Tryz.sizeOf215
 v127:=Tryz.zeroValue215 }
theorem Krs:Go.Proofs.Lays.n240 Tryz.prog bren:={
 mixed:=by kernel_rfl
 f240:=Tryz.func109.trans (congrArg some (by kernel_rfl))
 f276:=Tryz.func168.trans (congrArg some (by kernel_rfl))
 t0:=Tryz.underlying0
 a0:=Tryz.isAgg0
 z0:=Tryz.sizeOf0
 v0:=Tryz.zeroValue0
 t4:=Tryz.underlying4
 a4:=Tryz.isAgg4
 z4:=Tryz.sizeOf4
 v4:=Tryz.zeroValue4
 t9:=Tryz.underlying9
 a9:=Tryz.isAgg9
 z9:=Tryz.sizeOf9
 v9:=Tryz.zeroValue9
 t20:=Tryz.underlying20
 a20:=Tryz.isAgg20
 z20:=Tryz.sizeOf20
 v20:=Tryz.zeroValue20
 t70:=Tryz.underlying107
 a70:=Tryz.isAgg107
 z70:=Tryz.sizeOf107
 v70:=Tryz.zeroValue107
 t72:=Tryz.underlying109
 a72:=Tryz.isAgg109
 z72:=Tryz.sizeOf109
 v72:=Tryz.zeroValue109
 t164:=Tryz.underlying263
 a164:=Tryz.isAgg263
 z164:=Tryz.sizeOf263
 v164:=Tryz.zeroValue263 }
theorem Kfw:Builder.Extra Tryz.prog bren:={
 sizeBuilder:=by kernel_rfl
 liesBuilder:=by kernel_rfl
 t5:=Tryz.underlying5
 a5:=Tryz.isAgg5
 z5:=Tryz.sizeOf5
 v5:=Tryz.zeroValue5
 infoByte:=by kernel_rfl
 cellsByte:=by kernel_rfl
 sizeByte:=by kernel_rfl
 neB5:=by decide }
def Bld (B b:Nat) (l:List UInt8) (w:World):Prop:=Lib.IsBuilderF 109 5 B b (Lib.byteCells l) w
def Kro (b:Nat) (w w':World):Prop:=Lib.OthersKept 5 (some b) w w'
theorem Kro.blk {b g:Nat} {t:TypeId} {cs:Array Value} {w w':World} (h:Kro b w w') (hg:Blk w g t cs) (hne:g≠b) (ht:t≠5):Blk w' g t cs:=
 h g _ hg (fun e=>hne (by injection e)) (fun c fz e=>by injection e with _ e2 _;exact ht e2)
theorem Bld.new {B:Nat} (w:World) (hB:B≤w.heap.size):Bld B w.heap.size [] (w.alloc (.cells #[.pointer none,.slice none 0 0] 109)):=
 .inl ⟨hB,.slice none 0 0,heap_alloc_new w _,World.ownsRowF_nil _ _ _ _,by simp[Value.ownBlock]⟩
theorem Bld.lt {B b:Nat} {l:List UInt8} {w:World} (h:Bld B b l w):b < w.heap.size:=by
 rcases h with ⟨_,v,hb,_⟩ | ⟨_,v,hb,_⟩ <;> exact Blk.lt hb
theorem Bld.below {B b:Nat} {l:List UInt8} {w w':World} (h:Bld B b l w) (hb:Below w.heap.size w w'):Bld B b l w':=by
 have key:∀p,Lib.BuilderAtF 109 5 B b p (Lib.byteCells l) w→Lib.BuilderAtF 109 5 B b p (Lib.byteCells l) w':=by
  rintro p ⟨h1,v,h2,h3,h4⟩;refine ⟨h1,v,(hb.block b (Blk.lt h2)).trans h2,h3.kept (row:=none) ⟨hb.os,hb.tape,hb.output,hb.size,fun k hk _=>hb.block k hk⟩ (by cases v.ownBlock <;> simp),h4⟩
 rcases h with h | h
 ·exact .inl (key _ h)
 ·exact .inr (key _ h)
theorem Klt (B b:Nat) (l:List UInt8) (c:UInt8) (w:World) (h:Bld B b l w) (hlen:l.length+1≤140737488355328) (hBw:B≤w.heap.size) :
  Calls Tryz.prog 113 #[.pointer (some ⟨b,0,none⟩),.int .u8 c.toNat] w fun e w'=>e = .returned .nilIface∧Bld B b (l ++ [c]) w'∧Below B w w':=by
 refine (Any.Builder_WriteByte_k Qcg Kfw B b (Lib.byteCells l) c.toNat w h (by simpa[Lib.byteCells] using hlen) hBw).mono ?_;rintro e w' ⟨he,hb,hw,_⟩;refine ⟨he,?_,hw⟩;have:Lib.byteCells (l ++ [c])=Lib.byteCells l ++ [.int .u8 c.toNat]:=by simp[Lib.byteCells]
 unfold Bld;rw[this];exact .inr hb
theorem Kaz (B b:Nat) (l:List UInt8) (s:ByteArray) (w:World) (h:Bld B b l w) (hlen:l.length+s.size≤140737488355328) (hBw:B≤w.heap.size) :
  Calls Tryz.prog 40 #[.pointer (some ⟨b,0,none⟩),.string s] w fun e w'=>e = .returned (.tuple #[.int .i64 s.size,.nilIface])∧Bld B b (l++s.data.toList) w'∧Below B w w'∧Kro b w w':=by
 refine (Any.Builder_WriteString_k Qcf Kfw B b (Lib.byteCells l) s w h (by simpa[Lib.byteCells] using hlen) hBw).mono ?_;rintro e w' ⟨he,hb,hw,ho⟩;refine ⟨he,?_,hw,ho⟩;have:Lib.byteCells (l++s.data.toList)=Lib.byteCells l++Lib.strCells s:=by simp[Lib.byteCells,Lib.strCells]
 unfold Bld;rw[this];exact .inr hb
theorem Kdq (B b:Nat) (l:List UInt8) (w:World) (h:Bld B b l w) (hBw:B≤w.heap.size) :
  Calls Tryz.prog 48 #[.pointer (some ⟨b,0,none⟩)] w fun e w'=>e = .returned (.string ⟨l.toArray⟩)∧Below B w w':=
 (Any.Builder_String_any_k Kly Kfw B b l w h hBw).mono fun _ _ h=>⟨h.1,h.2.2.1⟩
end
section
open Go.RowKit
structure Later (w0:World) where
 w:World
 h:Below w0.heap.size w0 w
instance Later.some {w:World}:Nonempty (Later w):=⟨⟨w,Below.refl _ _⟩⟩
theorem Later.cell {w:World} (x:Later w) (b o:Nat) (hb:b < w.heap.size):x.w.cell? ⟨b,o,none⟩=w.cell? ⟨b,o,none⟩:=x.h.cell (p:=⟨b,o,none⟩) hb
theorem Kal {P:Program} {f:FuncId} {args:Array Value} {w:World} (x:Later w) {v:Value} (h:Calls P f args x.w fun e w'=>e = .returned v∧Below x.w.heap.size x.w w') :
  Calls P f args x.w fun e w''=>e = .returned v∧∃y:Later w,w''=y.w:=
 h.mono fun _ w' ⟨he,hb⟩=>⟨he,⟨w',then_ x.h hb⟩,rfl⟩
theorem Knp {P:Program} {f:FuncId} {args:Array Value} {w:World} (x:Later w) {v:Value} (h:Calls P f args x.w fun e w'=>e = .returned v∧x.w=w') :
  Calls P f args x.w fun e w''=>e = .returned v∧∃y:Later w,w''=y.w:=
 h.mono fun _ _ ⟨he,hb⟩=>⟨he,x,hb.symm⟩
section
variable {P : Program} {ops : Array Oper} {md : Region.Mode} {C : World → Prop}
def Kks (P:Program) (md:Region.Mode) (ops:Array Oper) (C:World→Prop) (n:Nat) (L:Array Bool→Act→Prop):Nat→Array Bool→Act→Prop
 | 0,listed,a=>L listed a
 | f+1,listed,a=>
  Region.ready md ops listed≠[]∧∀i∈Region.ready md ops listed,i < n∧qOp P ops C i (Kks P md ops C n L f (listed.setIfInBounds i true)) a
theorem Koe {n g:Nat} {L:Array Bool→Act→Prop} {Q':Exit→Act→World→Prop} (hL:∀listed a w,C w→L listed a→wpAny P md ops Q' g listed a w) :
  ∀(f:Nat) (listed:Array Bool) (a:Act) (w:World),C w→Kks P md ops C n L f listed a→wpAny P md ops Q' (f+g) listed a w
 | 0,listed,a,w,hw,h=>by rw[Nat.zero_add];exact hL _ _ _ hw h
 | f+1,listed,a,w,hw,h=>by
  rw[show f+1+g=(f+g)+1 by omega];exact ⟨fun h0=>absurd h0 h.1,fun i hi=>wpOp_of_qOp hw (fun a' w' hw' h'=>Koe hL f _ a' w' hw' h') (h.2 i hi).2⟩
theorem Kuj {n i:Nat} {oi:Oper} {v:Value} {L:Array Bool→Act→Prop} (hi:ops[i]? = some oi) (hsel:∀(j:Nat) (o:Oper) cs b,ops[j]? = some o→o.op≠.select cs b)
  (hs:Region.sinkB md ops n=true) (hc:Region.chainB md ops n=true) (hn:n < ops.size) (hin:i < n)
  (hdone:∀listed a,L listed a→∀j∈Region.ready md ops listed,n≤j) :
  ∀(f:Nat) (listed:Array Bool) (a:Act),HeadInv md ops n listed→
   (∀j oj,ops[j]? = some oj→j≠i→listed.getD j true=false→(∀e∈oj.after,Region.binds md e=true→e.on≠i)→oi.apart ops oj=true)→
   i∈Region.ready md ops listed→YieldsIn P ops C oi v a→
   Kks P md ops C n L f (listed.setIfInBounds i true) (a.put oi.dst v)→Kks P md ops C n L (f+1) listed a:=by
 intro f
 induction f with
 | zero=>
  intro listed a inv _ hr hy H;refine ⟨fun h=>(by rw[h] at hr;cases hr),fun j hj=>?_⟩;have hjn:j < n:=Nat.lt_of_not_le fun h=>tail_waits hs hc hn inv _ i rfl hin (mem_ready.1 hr).1 j h hj
  refine ⟨hjn,?_⟩
  by_cases hji:j=i
  ·subst hji;exact hy.qOp hi H
  ·exact absurd (hdone _ _ H j (ready_mono hj hji)) (by omega)
 | succ f ih=>
  intro listed a inv hfree hr hy H;refine ⟨fun h=>(by rw[h] at hr;cases hr),fun j hj=>?_⟩;have hjn:j < n:=Nat.lt_of_not_le fun h=>tail_waits hs hc hn inv _ i rfl hin (mem_ready.1 hr).1 j h hj
  refine ⟨hjn,?_⟩
  by_cases hji:j=i
  ·subst hji;exact hy.qOp hi H
  obtain ⟨hjun,oj,hoj,hall⟩:=mem_ready.1 hj
  have hnot:∀e∈oj.after,Region.binds md e=true→e.on≠i:=fun e he hb heq=>by
   have h1:=hall e he hb;rw[heq,getD_both (mem_ready.1 hr).1] at h1;cases h1
  have h2:=qOp_put hoj (hfree j oj hoj hji hjun hnot) (fun cs b=>hsel i oi cs b hi) (fun cs b=>hsel j oj cs b hoj) hy (H.2 j (ready_mono hj hji)).2;refine qOp_mono (fun a' h3=>ih (listed.setIfInBounds j true) a' (inv.set hj hjn) (fun k ok hk hki hun hno=>hfree k ok hk hki ?_ hno) (ready_mono hr (Ne.symm hji)) h3.1 ?_) h2
  ·by_cases hjk:j=k
   ·subst hjk;exact hjun
   ·rw[getD_set_ne true hjk] at hun;exact hun
  ·rw[Array.setIfInBounds_comm _ _ hji];exact h3.2
theorem Koc {n g:Nat} {Lq:Act→Prop} (hsel:Region.noSelect ops=true) (hs:Region.sinkB md ops n=true) (hc:Region.chainB md ops n=true) (hn:n < ops.size) :
  ∀(l:List Oper) (k:Nat) (listed:Array Bool) (a:Act),(∀j,j < l.length→l[j]? = ops[k+j]?)→k+l.length=n→HeadInv md ops n listed→
  Region.lexHead md ops g l.length k listed=true→wpQuiet P ops C Lq l a→
  Kks P md ops C n (fun listed' a'=>Region.seqB md ops g n listed'=true∧Lq a') l.length listed a
 | [],k,listed,a,_,hk,_,hB,h=>by
  have:k=n:=by simpa using hk
  subst this;exact ⟨by simpa[Region.lexHead] using hB,h⟩
 | o :: l,k,listed,a,hl,hk,inv,hB,h=>by
  have h0:ops[k]? = some o:=by simpa using (hl 0 (by simp)).symm
  simp only[List.length_cons,Region.lexHead,Bool.and_eq_true] at hB;obtain ⟨⟨hr,hf⟩,hB'⟩:=hB;have hkn:k < n:=by simp only[List.length_cons] at hk;omega
  have hr':k∈Region.ready md ops listed:=by simpa using hr
  have hst:qOp P ops C k (wpQuiet P ops C Lq l) a:=by unfold qOp;simp only[h0];exact h
  obtain ⟨v,hy,hK⟩:=yieldsIn_of_qOp h0 hst
  exact Kuj h0 (Region.noSelect_spec hsel) hs hc hn hkn (fun listed' a' hL=>seqB_ready hL.1) l.length listed a inv (Region.free_spec h0 hf) hr' hy
   (Koc hsel hs hc hn l (k+1) _ _ (fun j hj=>by have:=hl (j+1) (by simp;omega);simpa[Nat.add_assoc,Nat.add_comm 1 j] using this) (by simp only[List.length_cons] at hk;omega) (inv.set hr' hkn) hB' hK)
theorem Kfh {id:Nat} {Q:Exit→Act→World→Prop} {a:Act} {w:World} {l:List Oper} (n:Nat) (hm:P.follows .mixedOrders=true) (hB:Region.lexTailB .any l.toArray n=true)
  (hC:C { w with drawn:=w.drawn+1 })
  (h:wpQuiet P l.toArray C (fun a'=>∀w',C w'→wpList P l.toArray Q (l.drop n) a' w') (l.take n) a):(Code.region id l.toArray true).wp P Q a w:=by
 simp only[Region.lexTailB,Bool.and_eq_true,decide_eq_true_eq] at hB;obtain ⟨⟨⟨⟨hsel,hn⟩,hs⟩,hc⟩,hlex⟩:=hB;have hn':n < l.length:=by simpa using hn
 have htl:(l.take n).length=n:=by simp;omega
 have hdl:(l.drop n).length=l.toArray.size - n:=by simp
 have inv0:HeadInv .any l.toArray n (Array.replicate l.toArray.size false):=
  ⟨by simp,fun j oj _ hl=>(by rw[getD_replicate_false] at hl;cases hl),fun t _ ht=>getD_in (by simpa using ht) (getD_replicate_false _ _)⟩
 have H:=Koc (md:=.any) (g:=l.toArray.size - n) hsel hs hc hn (l.take n) 0 _ a (fun j hj=>by
  have hj':j < n:=by rw[htl] at hj;exact hj
  simp[hj']) (by simpa using htl) inv0 (by rw[htl];exact hlex) h
 refine wp_region_any hm ?_
 have:=Koe (Q':=Q) (g:=l.toArray.size - n) (fun listed a' w' hw' hL=>by
  have:=wpAny_of_seq (md:=.any) (Q':=Q) (l.drop n) n listed a' w' (fun j=>by simp[List.getElem?_drop]) (by rw[hdl];exact hL.1) (hL.2 w' hw')
  rwa[hdl] at this) _ _ _ _ hC H
 rw[htl,show n+(l.toArray.size - n)=l.toArray.size by omega] at this;exact this
theorem Kah {id:Nat} {Q:Exit→Act→World→Prop} {a:Act} {w:World} {l:List Oper} (hm:P.follows .mixedOrders=true) (hB:Region.lexB .any l.toArray=true)
  (h:wpQuiet P l.toArray (fun w'=>∃x:Later w,w'=x.w) (fun a'=>∀w',(∃x:Later w,w'=x.w)→Q .normal a' w') l a):(Code.region id l.toArray true).wp P Q a w:=
 wp_region_quiet (C:=fun w'=>∃x:Later w,w'=x.w) hm hB ⟨⟨w.drew,(Below.refl _ _).drew⟩,rfl⟩ (by simpa using h)
theorem Kaj {id:Nat} {Q:Exit→Act→World→Prop} {a:Act} {w:World} {l:List Oper} (n:Nat) (hm:P.follows .mixedOrders=true) (hB:Region.lexTailB .any l.toArray n=true)
  (h:wpQuiet P l.toArray (fun w'=>∃x:Later w,w'=x.w) (fun a'=>∀w',(∃x:Later w,w'=x.w)→wpList P l.toArray Q (l.drop n) a' w') (l.take n) a):(Code.region id l.toArray true).wp P Q a w:=
 Kfh (C:=fun w'=>∃x:Later w,w'=x.w) n hm hB ⟨⟨w.drew,(Below.refl _ _).drew⟩,rfl⟩ h
end
end
section
open Go.RowKit
attribute [local go_sem ↓] Go.wp_at_zero Go.wp_at_succ
attribute [local go_sem] Later.cell
theorem or128 (g:Nat):bits .or .u8 ((g:Int) % 256) 128=((UInt8.ofNat (g % 128+128)).toNat:Int):=by
 have key:∀x:Fin 256,bits .or .u8 ((x.val:Nat):Int) 128=((x.val % 128+128:Nat):Int):=by decide +kernel
 have h:=key ⟨g % 256,Nat.mod_lt _ (by omega)⟩;simp only at h;rw[show ((g:Int) % 256)=((g % 256:Nat):Int) by omega,h];have:(UInt8.ofNat (g % 128+128)).toNat=g % 128+128:=by simp[UInt8.toNat_ofNat'];omega
 rw[this];omega
theorem Kug (B b:Nat) (l:List UInt8) (n:Nat) (w:World) (h:Bld B b l w) (hn:n < 256) (hlen:l.length+1≤140737488355328) (hBw:B≤w.heap.size) :
  Calls Tryz.prog 113 #[.pointer (some ⟨b,0,none⟩),.int .u8 n] w fun e w'=>e = .returned .nilIface∧Bld B b (l ++ [UInt8.ofNat n]) w'∧Below B w w':=by
 have:=Klt B b l (UInt8.ofNat n) w h hlen hBw;rw[show (UInt8.ofNat n).toNat=n by simp[UInt8.toNat_ofNat'];omega] at this;exact this
theorem Qec {l:List UInt8} {g v:Nat} (h:l++uintT g=uintT v) (hg:¬127 < g):l ++ [UInt8.ofNat g]=uintT v:=by
 rw[←h,Qbv (by omega)]
theorem Qbw {l:List UInt8} {g v:Nat} (h:l++uintT g=uintT v) (hl:g < 2 ^ 64) (hg:127 < g):(l ++ [UInt8.ofNat (g % 128+128)])++uintT (g / 128)=uintT v:=by
 rw[←h,Kzc hl hg];simp
set_option maxHeartbeats 400000 in
theorem Kau (v:Nat) (hv:v < 2 ^ 64) (w:World) :
  Calls Tryz.prog 42 #[.int .u64 v] w fun e w'=>e = .returned (.string ⟨(uintT v).toArray⟩)∧Below w.heap.size w w':=by
 go_enter Tryz.func42,Tryz.ntmps42
 go_upto_block 0 with fail
 have hb0:Bld w.heap.size w.heap.size [] (w.alloc (.cells #[.pointer none,.slice none 0 0] 109)):=Bld.new w (Nat.le_refl _);have hw0:Below w.heap.size w (w.alloc (.cells #[.pointer none,.slice none 0 0] 109)):=(Below.refl _ _).alloc (Nat.le_refl _) _;obtain ⟨w0,hw⟩:∃w0,w.alloc (.cells #[.pointer none,.slice none 0 0] 109)=w0:=⟨_,rfl⟩;rw[hw] at hb0 hw0 ⊢;clear hw;obtain ⟨b,hb⟩:∃b,w.heap.size=b:=⟨_,rfl⟩;rw[hb] at hb0 hw0 ⊢;have HB:=Lib.hid hb;clear hb;go_wp2_with fail
 go_loopg [0] v (fun g s0 wr=>∃l,s0 = .int .u64 (g:Nat)∧g < 2 ^ 64∧l++uintT g=uintT v∧Bld b b l wr∧Below b w wr∧b≤wr.heap.size)
 case atStart=>exact ⟨[],rfl,hv,rfl,hb0,hw0,by have:=hb0.lt;omega⟩
 case round=>
  obtain ⟨l,rfl,hg,hl,hbr,hwr,hbs⟩:=hrel
  have hlen:l.length≤11:=by
   have:=congrArg List.length hl;have h2:=Kab v;rw[List.length_append] at this;omega
  have HL:=Lib.hid hl;clear hl
  by_cases h127:127 < gk
  ·go_wp2_with fail
   rw[or128];refine (Klt b b l _ _ hbr (by omega) hbs).mono ?_;rintro e w1 ⟨rfl,hb1,hw1⟩;go_wp2_with fail
   go_roundg (gk / 128)
   case measure=>omega
   case rel=>exact ⟨_,by go_num,by omega,Qbw HL.out hg h127,hb1,hwr.trans hw1,Nat.le_trans hbs hw1.size⟩
  ·go_wp2_with fail
   refine (Kug b b l gk _ hbr (by omega) (by omega) hbs).mono ?_;rintro e w1 ⟨rfl,hb1,hw1⟩;rw[Qec HL.out h127] at hb1;go_wp2_with fail
   refine (Kdq b b _ _ hb1 (Nat.le_trans hbs hw1.size)).mono ?_;rintro e w2 ⟨rfl,hw2⟩;go_wp2_with fail
   go_ret
   refine ⟨rfl,?_⟩;rw[HB.out];exact (hwr.trans hw1).trans hw2
theorem Kak (s:ByteArray):s.data.toList.length=s.size:=rfl
theorem Qbm {a b:ByteArray} (h:a.data.toList=b.data.toList):a=b:=by
 cases a;cases b
 exact congrArg ByteArray.mk (Array.toList_inj.1 h)
set_option maxHeartbeats 400000 in
theorem Kfe (s:ByteArray) (hs:s.size≤140737488351232) (w:World) :
  Calls Tryz.prog 112 #[.string s] w fun e w'=>e = .returned (.string ⟨(textT s.data.toList).toArray⟩)∧Below w.heap.size w w':=by
 have hu:=Kau s.size (by omega) w;have hl:=Kab s.size;obtain ⟨U,hU⟩:∃U:ByteArray,(⟨(uintT s.size).toArray⟩:ByteArray)=U:=⟨_,rfl⟩;have hUz:U.size≤11:=by rw[←hU];simp only[ByteArray.size,List.size_toArray];exact hl.2
 rw[hU] at hu;have HU:=Lib.hid hu;have HUU:=Lib.hid hU;clear hu hU hl;go_enter Tryz.func112,Tryz.ntmps112
 go_wp2_with fail
 refine HU.out.mono ?_;rintro e w1 ⟨rfl,hb1⟩;go_wp2_with fail
 go_ret
 refine ⟨congrArg (fun s=>Ending.returned (Value.string s)) (Qbm ?_),hb1⟩;rw[←HUU.out];simp[textT]
def Klv (base:Nat) (w:World) (v:Value) (l:List UInt8):Prop:=w.ownsRow base 5 1 v l.length (Lib.byteCells l)
theorem Qaz {base e sz n:Nat} {w0 wr w1:World} {v:Value} {xs:List Value} {o:Obj} (hwr:Below base w0 wr) (hbs:base≤wr.heap.size) (hown:wr.ownsRow base e sz v n xs) (hg:(wr.alloc o).grownBy w1 v.ownBlock):Below base w0 w1:=
 hwr.trans ⟨hg.os,hg.tape,hg.output,by have:=hg.size;simp at this;omega,fun k hk=>(hg.block k (by simp;omega) (fun e=>by have:=(hown.lt k e.symm).1;omega)).trans (Below.heap_alloc _ _ _ (by omega))⟩
theorem Klv.text {base:Nat} {w:World} {v:Value} {l:List UInt8} (h:Klv base w v l) (h0:l≠[]):∃a cap,v = .slice (some a) l.length cap∧(convert 76 9 (.slice (some a) l.length cap)).run Tryz.prog w = .ok (.string ⟨l.toArray⟩) w:=by
 rcases h.2 with ⟨_,hn⟩ | ⟨g,cap,cur,rfl,hb,hh,hnc,_,hsize,htk⟩
 ·exact absurd (List.eq_nil_of_length_eq_zero hn) h0
 ·refine ⟨⟨g,0,none⟩,cap,rfl,run_convert_bytes_back w _ _ 5 _ cap l Tryz.underlying76 Tryz.underlying5 Tryz.underlying9 (fun j hj=>?_)⟩;rw[Addr.add_lit,Nat.zero_add,cell_of_row w g j cur 5 (0,0) hh];have e:(Lib.byteCells l)[j]? = some (.int .u8 (l[j].toNat:Int)):=by simp[Lib.byteCells,hj]
  rw[←htk,List.getElem?_take] at e
  split at e
  ·simpa using e
  ·cases e
theorem Kzv {s:ByteArray} {i:Nat} (h:i < s.size):s.data.toList.drop i=s[i] :: s.data.toList.drop (i+1):=by
 rw[List.drop_eq_getElem_cons (by simpa using h)];rfl
end
section
open Go.RowKit
open Lib renaming hid → Jh
attribute [local go_sem ↓] Go.wp_at_zero Go.wp_at_succ
attribute [local go_sem] Later.cell
theorem Qfe (d:Bool) (b:UInt8):okB d b=((d && (decide ((48:Int)≤(b.toNat:Int)) && decide ((b.toNat:Int)≤57))) || !(((b.toNat:Int) != 95) && (decide (bits .or .u8 (b.toNat:Int) 32 < 97) || decide (122 < bits .or .u8 (b.toNat:Int) 32)))):=by
 have key:∀(x:Fin 256) (d:Bool),okB d (UInt8.ofNat x.val)=((d && (decide ((48:Int)≤(x.val:Int)) && decide ((x.val:Int)≤57))) || !(((x.val:Int) != 95) && (decide (bits .or .u8 (x.val:Int) 32 < 97) || decide (122 < bits .or .u8 (x.val:Int) 32)))):=by decide +kernel
 have h:=key ⟨b.toNat,UInt8.toNat_lt b⟩ d;simp only[UInt8.ofNat_toNat] at h;exact h
theorem Kgh (s:ByteArray):s.toList.isEmpty=decide (s.size=0):=by
 rw[ByteArray.toList_eq,Bool.eq_iff_iff];simp only[List.isEmpty_iff,decide_eq_true_eq];rw[←Kak];constructor
 ·intro h;rw[h];rfl
 ·intro h;exact List.eq_nil_of_length_eq_zero h
theorem Kxh {s:ByteArray} {i:Nat} (h:i < s.size) {R:Bool} (hr:allOk (decide (0 < i)) (s.data.toList.drop i)=R):(okB (decide (0 < i)) s[i] && allOk (decide (0 < i+1)) (s.data.toList.drop (i+1)))=R:=by
 rw[Kzv h,allOk] at hr;simpa using hr
theorem Kqw (s:ByteArray) (r:Bool) (hr:fitN s.data.toList=r) (hs:s.size≤140737488351232) (w:World) :
  Calls Tryz.prog 191 #[.string s] w fun e w'=>e = .returned (.bool r)∧w=w':=by
 obtain ⟨R,hR⟩:∃R,allOk false s.data.toList=R:=⟨_,rfl⟩;have hrr:(R && (decide (1≤s.size) && decide (s.size≤32)))=r:=by rw[←hr,←hR,fitN,Kak,Bool.and_assoc]
 have HRR:=Jh hrr;have HR:=Jh hR;clear hr hrr hR;go_enter Tryz.func191,Tryz.ntmps191
 go_upto_block 0 with fail
 go_cut [] (fun wz=>wz=w∧R=true)
 case first=>
  go_wp2_with fail
  go_loopg [7] s.size (fun g s7 wr=>wr=w∧∃i:Nat,i+g=s.size∧s7 = .int .i64 (i:Int)∧allOk (decide (0 < i)) (s.data.toList.drop i)=R)
  case atStart=>exact ⟨rfl,0,by omega,rfl,by simpa using HR.out⟩
  case round=>
   obtain ⟨rfl,i,hig,rfl,hall⟩:=hrel;obtain ⟨w,rfl⟩:∃x,x=wr:=⟨_,rfl⟩;have HIG:=Jh hig;have HALL:=Jh hall;clear hig hall
   by_cases hi:i < s.size
   ·have hst:=Kxh hi HALL.out;obtain ⟨b,hb⟩:∃b,s[i]=b:=⟨_,rfl⟩;have hbl:=UInt8.toNat_lt b;rw[hb,Qfe] at hst;obtain ⟨x48,h48⟩:∃x,decide ((48:Int)≤(b.toNat:Int))=x:=⟨_,rfl⟩;obtain ⟨x57,h57⟩:∃x,decide ((b.toNat:Int)≤57)=x:=⟨_,rfl⟩;obtain ⟨x0,h0⟩:∃x,decide (0 < i)=x:=⟨_,rfl⟩;obtain ⟨x95,h95⟩:∃x,((b.toNat:Int) != 95)=x:=⟨_,rfl⟩;obtain ⟨xa,ha⟩:∃x,decide (bits .or .u8 (b.toNat:Int) 32 < 97)=x:=⟨_,rfl⟩;obtain ⟨xz,hz⟩:∃x,decide (122 < bits .or .u8 (b.toNat:Int) 32)=x:=⟨_,rfl⟩;rw[h48,h57,h0,h95,ha,hz] at hst;have HST:=Jh hst;have H0:=Jh h0;clear hst;have el:decide ((i:Int) < (s.size:Int))=true:=by simp;omega
    have el':decide (i < s.size)=true:=by simp;omega
    go_upto_region 5 with fail
    clear hb;go_cut [13] (fun s13 wz=>s13 = .bool (x48 && x57)∧wz=w)
    case first=>
     cases x48 <;> cases x57
     all_goals
      go_wp2_with fail
      go_meet
      exact ⟨rfl,rfl⟩
    case rest=>
     obtain ⟨rfl,rfl⟩:=hcut;obtain ⟨w,rfl⟩:∃x,x=wc:=⟨_,rfl⟩;obtain ⟨dg,hdg⟩:∃d,(x48 && x57)=d:=⟨_,rfl⟩;have hst:=HST.out;rw[hdg] at hst ⊢;have HST2:=Jh hst;clear HST hst hdg h48 h57;obtain ⟨skip,hskip⟩:∃d,(x0 && dg)=d:=⟨_,rfl⟩
     cases skip with
     | true=>
      obtain ⟨rfl,rfl⟩:x0=true∧dg=true:=by simpa using hskip
      clear hskip;go_wp2_with fail
      go_roundg (gk - 1)
      case measure=>have:=HIG.out;omega
      case rel=>exact ⟨rfl,i+1,by have:=HIG.out;omega,by go_num,by have:=HST2.out;simpa using this⟩
     | false=>
      have hst:=HST2.out;rw[hskip] at hst;have HST3:=Jh hst;clear hst HST2;cases dg <;> cases x0
      case true.true=>simp at hskip
      all_goals
       clear hskip;go_upto_region 7 with fail
       go_cut [33] (fun s33 wz=>s33 = .bool (x95 && (xa || xz))∧wz=w)
       case first=>
        cases x95 <;> cases xa <;> cases xz
        all_goals
         go_wp2_with fail
         go_meet
         exact ⟨rfl,rfl⟩
       case rest=>
        obtain ⟨rfl,rfl⟩:=hcut;obtain ⟨w,rfl⟩:∃x,x=wc:=⟨_,rfl⟩;obtain ⟨bad,hbad⟩:∃d,(x95 && (xa || xz))=d:=⟨_,rfl⟩;have hst:=HST3.out;rw[hbad] at hst ⊢;have HST4:=Jh hst;clear hst HST3 hbad
        cases bad with
        | true=>
         have hRf:R=false:=by have:=HST4.out;simpa using this.symm
         have hrf:r=false:=by rw[←HRR.out,hRf];rfl
         subst hrf;clear hRf;go_wp2_with fail
         go_ret
         exact ⟨rfl,rfl⟩
        | false=>
         go_wp2_with fail
         go_roundg (gk - 1)
         case measure=>have:=HIG.out;omega
         case rel=>exact ⟨rfl,i+1,by have:=HIG.out;omega,by go_num,by have:=HST4.out;simpa using this⟩
   ·have hRt:R=true:=by
     have:=HALL.out;rw[List.drop_of_length_le (by rw[Kak];omega),allOk] at this;exact this.symm
    have HRT:=Jh hRt;clear hRt;go_wp2_with fail
    go_meet
    exact ⟨rfl,HRT.out⟩
 case rest=>
  obtain ⟨rfl,hRt⟩:=hcut;obtain ⟨w,rfl⟩:∃x,x=wc:=⟨_,rfl⟩;have hrr:=HRR.out;rw[hRt,Bool.true_and] at hrr;have HRR2:=Jh hrr;clear hrr hRt
  by_cases h0:s.size=0
  ·have hE:s.toList.isEmpty=true:=by rw[Kgh];simp[h0]
   have hL:s.toList = []:=by simpa using hE
   have hrf:r=false:=by rw[←HRR2.out,h0];rfl
   subst hrf;clear h0;go_wp2_with fail
   go_ret
   exact ⟨rfl,rfl⟩
  ·have hE:s.toList.isEmpty=false:=by rw[Kgh];simp[h0]
   obtain ⟨x,hx⟩:∃x,decide ((s.size:Int)≤32)=x:=⟨_,rfl⟩
   have hrf:r=x:=by
    rw[←HRR2.out,←hx,Bool.eq_iff_iff];simp only[Bool.and_eq_true,decide_eq_true_eq];omega
   subst hrf;clear h0;go_wp2_with fail
   go_ret
   exact ⟨rfl,rfl⟩
set_option maxHeartbeats 400000 in
theorem Kon (s:ByteArray) (r:Bool) (hr:fitV s.data.toList=r) (hs:s.size≤140737488351232) (w:World) :
  Calls Tryz.prog 192 #[.string s] w fun e w'=>e = .returned (.bool r)∧w=w':=by
 have hrr:(decide (1≤s.size) && decide (s.size≤64))=r:=by rw[←hr,fitV,Kak]
 have HRR2:=Jh hrr;clear hr hrr
 by_cases h0:s.size=0
 ·have hE:s.toList.isEmpty=true:=by rw[Kgh];simp[h0]
  have hL:s.toList = []:=by simpa using hE
  have hrf:r=false:=by rw[←HRR2.out,h0];rfl
  subst hrf;clear h0;go_enter Tryz.func192,Tryz.ntmps192
  go_wp2_with fail
  go_ret
  exact ⟨rfl,rfl⟩
 ·have hE:s.toList.isEmpty=false:=by rw[Kgh];simp[h0]
  obtain ⟨x,hx⟩:∃x,decide ((s.size:Int)≤64)=x:=⟨_,rfl⟩
  have hrf:r=x:=by
   rw[←HRR2.out,←hx,Bool.eq_iff_iff];simp only[Bool.and_eq_true,decide_eq_true_eq];omega
  subst hrf;clear h0;go_enter Tryz.func192,Tryz.ntmps192
  go_wp2_with fail
  go_ret
  exact ⟨rfl,rfl⟩
end
end Go.Proofs.YtdoiekknhnbepaaGreatDoor
namespace Go.Proofs
open Go.Shelf
def Tryz.lays125_ren:Go.Shelf.Ren:=⟨fun | 125=>174 | 128=>211 | 129=>212 | n=>n,fun | 46=>200 | 3=>3 | 51=>74 | 53=>100 | 4=>4 | 5=>5 | 9=>9 | n=>n,fun | n=>n⟩
theorem Tryz.lays125:Go.Proofs.Lays.n125 Tryz.prog Tryz.lays125_ren:={
 mixed:=by kernel_rfl
 f125:=Tryz.func174.trans (congrArg some (by kernel_rfl))
 f128:=Tryz.func211.trans (congrArg some (by kernel_rfl))
 f129:=Tryz.func212.trans (congrArg some (by kernel_rfl))
 t3:=Tryz.underlying3
 a3:=Tryz.isAgg3
 z3:=Tryz.sizeOf3
 v3:=Tryz.zeroValue3
 t4:=Tryz.underlying4
 a4:=Tryz.isAgg4
 z4:=Tryz.sizeOf4
 v4:=Tryz.zeroValue4
 t5:=Tryz.underlying5
 a5:=Tryz.isAgg5
 z5:=Tryz.sizeOf5
 v5:=Tryz.zeroValue5
 t9:=Tryz.underlying9
 a9:=Tryz.isAgg9
 z9:=Tryz.sizeOf9
 v9:=Tryz.zeroValue9
 t46:=Tryz.underlying200
 a46:=Tryz.isAgg200
 z46:=Tryz.sizeOf200
 v46:=Tryz.zeroValue200
 t51:=Tryz.underlying74
 a51:=Tryz.isAgg74
 z51:=Tryz.sizeOf74
 v51:=Tryz.zeroValue74
 t53:=Tryz.underlying100
 a53:=Tryz.isAgg100
 z53:=Tryz.sizeOf100
 v53:=Tryz.zeroValue100 }
theorem Tryz.bits_Len (x:Int) (w:World) (h0:0≤x) (h1:x≤18446744073709551615) :
  Calls Tryz.prog 174 #[.int .u64 x] w fun e w'=>e = .returned (.int .i64 (Lib.bitLen x.toNat))∧w'=w:=Any.bits_Len Tryz.lays125 x w h0 h1
def Tryz.lays134_ren:Go.Shelf.Ren:=⟨fun | 134=>244 | 129=>212 | n=>n,fun | 53=>100 | 3=>3 | 4=>4 | 46=>200 | 5=>5 | 9=>9 | n=>n,fun | n=>n⟩
theorem Tryz.lays134:Go.Proofs.Lays.n134 Tryz.prog Tryz.lays134_ren:={
 mixed:=by kernel_rfl
 f129:=Tryz.func212.trans (congrArg some (by kernel_rfl))
 f134:=Tryz.func244.trans (congrArg some (by kernel_rfl))
 t3:=Tryz.underlying3
 a3:=Tryz.isAgg3
 z3:=Tryz.sizeOf3
 v3:=Tryz.zeroValue3
 t4:=Tryz.underlying4
 a4:=Tryz.isAgg4
 z4:=Tryz.sizeOf4
 v4:=Tryz.zeroValue4
 t5:=Tryz.underlying5
 a5:=Tryz.isAgg5
 z5:=Tryz.sizeOf5
 v5:=Tryz.zeroValue5
 t9:=Tryz.underlying9
 a9:=Tryz.isAgg9
 z9:=Tryz.sizeOf9
 v9:=Tryz.zeroValue9
 t46:=Tryz.underlying200
 a46:=Tryz.isAgg200
 z46:=Tryz.sizeOf200
 v46:=Tryz.zeroValue200
 t53:=Tryz.underlying100
 a53:=Tryz.isAgg100
 z53:=Tryz.sizeOf100
 v53:=Tryz.zeroValue100 }
theorem Tryz.bits_LeadingZeros64 (x:Int) (w:World) (h0:0≤x) (h1:x≤18446744073709551615) :
  Calls Tryz.prog 244 #[.int .u64 x] w fun e w'=>e = .returned (.int .i64 (64 - (Lib.bitLen x.toNat:Int)))∧w'=w:=Any.bits_LeadingZeros64 Tryz.lays134 x w h0 h1
def Tryz.lays213_ren:Go.Shelf.Ren:=⟨fun | 213=>179 | 265=>223 | n=>n,fun | 9=>9 | 3=>3 | n=>n,fun | n=>n⟩
def Tryz.lays106_ren:Go.Shelf.Ren:=⟨fun | 106=>131 | 213=>179 | 265=>223 | n=>n,fun | 9=>9 | 3=>3 | n=>n,fun | n=>n⟩
theorem Tryz.lays106:Go.Proofs.Lays.n106 Tryz.prog Tryz.lays106_ren:={
 mixed:=by kernel_rfl
 f106:=Tryz.func131.trans (congrArg some (by kernel_rfl))
 f213:=Tryz.func179.trans (congrArg some (by kernel_rfl))
 f265:=Tryz.func223.trans (congrArg some (by kernel_rfl))
 t3:=Tryz.underlying3
 a3:=Tryz.isAgg3
 z3:=Tryz.sizeOf3
 v3:=Tryz.zeroValue3
 t9:=Tryz.underlying9
 a9:=Tryz.isAgg9
 z9:=Tryz.sizeOf9
 v9:=Tryz.zeroValue9 }
open Go.RowKit in
theorem Tryz.strings_Compare (a b:ByteArray) (w:World) :
  Calls Tryz.prog 131 #[.string a,.string b] w fun e w'=>e = .returned (.int .i64 (Lib.compareBytes a.data.toList b.data.toList))∧w'=w:=Any.strings_Compare Tryz.lays106 a b w
def Tryz.laysSlM5_f124_ren:Go.Shelf.Ren:=⟨fun | 5=>124 | 8=>174 | 7=>176 | 19=>211 | 20=>212 | 10=>213 | 11=>214 | 12=>215 | 13=>216 | 14=>217 | 15=>218 | 16=>219 | 17=>220 | 18=>221 | 30=>251 | 31=>247 | 32=>248 | 33=>252 | 34=>253 | 35=>181 | 40=>262 | n=>n,fun | 23=>125 | 25=>2 | 3=>3 | 32=>200 | 22=>125 | 0=>0 | 44=>74 | 46=>100 | 4=>4 | 36=>303 | 35=>302 | 41=>265 | 5=>5 | 9=>9 | 53=>337 | 57=>340 | 63=>349 | 64=>350 | n=>n,fun | n=>n⟩
theorem Tryz.laysSlM5_f124:Go.Proofs.SlLaysM.n5 Tryz.prog Tryz.laysSlM5_f124_ren:={
 mixed:=by kernel_rfl
 f5:=⟨Tryz.f124.name,by decide,Tryz.func124.trans (congrArg some (by kernel_rfl))⟩
 f7:=⟨Tryz.f176.name,by decide,Tryz.func176.trans (congrArg some (by kernel_rfl))⟩
 f8:=Tryz.func174.trans (congrArg some (by kernel_rfl))
 f10:=⟨Tryz.f213.name,by decide,Tryz.func213.trans (congrArg some (by kernel_rfl))⟩
 f11:=⟨Tryz.f214.name,by decide,Tryz.func214.trans (congrArg some (by kernel_rfl))⟩
 f12:=⟨Tryz.f215.name,by decide,Tryz.func215.trans (congrArg some (by kernel_rfl))⟩
 f13:=⟨Tryz.f216.name,by decide,Tryz.func216.trans (congrArg some (by kernel_rfl))⟩
 f14:=⟨Tryz.f217.name,by decide,Tryz.func217.trans (congrArg some (by kernel_rfl))⟩
 f15:=⟨Tryz.f218.name,by decide,Tryz.func218.trans (congrArg some (by kernel_rfl))⟩
 f16:=⟨Tryz.f219.name,by decide,Tryz.func219.trans (congrArg some (by kernel_rfl))⟩
 f17:=⟨Tryz.f220.name,by decide,Tryz.func220.trans (congrArg some (by kernel_rfl))⟩
 f18:=⟨Tryz.f221.name,by decide,Tryz.func221.trans (congrArg some (by kernel_rfl))⟩
 f19:=Tryz.func211.trans (congrArg some (by kernel_rfl))
 f20:=Tryz.func212.trans (congrArg some (by kernel_rfl))
 f30:=⟨Tryz.f251.name,by decide,Tryz.func251.trans (congrArg some (by kernel_rfl))⟩
 f31:=Tryz.func247.trans (congrArg some (by kernel_rfl))
 f32:=Tryz.func248.trans (congrArg some (by kernel_rfl))
 f33:=⟨Tryz.f252.name,by decide,Tryz.func252.trans (congrArg some (by kernel_rfl))⟩
 f34:=⟨Tryz.f253.name,by decide,Tryz.func253.trans (congrArg some (by kernel_rfl))⟩
 f35:=⟨Tryz.f181.name,by decide,Tryz.func181.trans (congrArg some (by kernel_rfl))⟩
 f40:=⟨Tryz.f262.name,by decide,Tryz.func262.trans (congrArg some (by kernel_rfl))⟩
 t0:=Tryz.underlying0
 a0:=Tryz.isAgg0
 z0:=Tryz.sizeOf0
 v0:=Tryz.zeroValue0
 t3:=Tryz.underlying3
 a3:=Tryz.isAgg3
 z3:=Tryz.sizeOf3
 v3:=Tryz.zeroValue3
 t4:=Tryz.underlying4
 a4:=Tryz.isAgg4
 z4:=Tryz.sizeOf4
 v4:=Tryz.zeroValue4
 t5:=Tryz.underlying5
 a5:=Tryz.isAgg5
 z5:=Tryz.sizeOf5
 v5:=Tryz.zeroValue5
 t9:=Tryz.underlying9
 a9:=Tryz.isAgg9
 z9:=Tryz.sizeOf9
 v9:=Tryz.zeroValue9
 t22:=Tryz.underlying125
 a22:=Tryz.isAgg125
 z22:=Tryz.sizeOf125
 v22:=Tryz.zeroValue125
 t23:=Tryz.underlying125
 a23:=Tryz.isAgg125
 z23:=Tryz.sizeOf125
 v23:=Tryz.zeroValue125
 t25:=Tryz.underlying2
 a25:=Tryz.isAgg2
 z25:=Tryz.sizeOf2
 v25:=Tryz.zeroValue2
 t32:=Tryz.underlying200
 a32:=Tryz.isAgg200
 z32:=Tryz.sizeOf200
 v32:=Tryz.zeroValue200
 t35:=Tryz.underlying302
 a35:=Tryz.isAgg302
 z35:=Tryz.sizeOf302
 v35:=Tryz.zeroValue302
 t36:=Tryz.underlying303
 a36:=Tryz.isAgg303
 z36:=Tryz.sizeOf303
 v36:=Tryz.zeroValue303
 t41:=Tryz.underlying265
 a41:=Tryz.isAgg265
 z41:=Tryz.sizeOf265
 v41:=Tryz.zeroValue265
 t44:=Tryz.underlying74
 a44:=Tryz.isAgg74
 z44:=Tryz.sizeOf74
 v44:=Tryz.zeroValue74
 t46:=Tryz.underlying100
 a46:=Tryz.isAgg100
 z46:=Tryz.sizeOf100
 v46:=Tryz.zeroValue100
 t53:=Tryz.underlying337
 a53:=Tryz.isAgg337
 z53:=Tryz.sizeOf337
 v53:=Tryz.zeroValue337
 t57:=Tryz.underlying340
 a57:=Tryz.isAgg340
 z57:=Tryz.sizeOf340
 v57:=Tryz.zeroValue340
 t63:=Tryz.underlying349
 a63:=Tryz.isAgg349
 z63:=Tryz.sizeOf349
 v63:=Tryz.zeroValue349
 t64:=Tryz.underlying350
 a64:=Tryz.isAgg350
 z64:=Tryz.sizeOf350
 v64:=Tryz.zeroValue350 }
open Go.Sort Go.RowKit in
theorem Tryz.slices_Sort_int (blk off cap:Nat) (zs:List Int) (w:World) (hH:Holds (Value.int .i64) w blk off zs.toArray) (hblk:blk < w.heap.size) (hsz:zs.length < 4611686018427387904) :
  Calls Tryz.prog 124 #[.slice (some ⟨blk,off,none⟩) zs.length cap] w fun e w'=>
   e = .returned (.tuple #[])∧∃n os,w'=grow (putRow (Value.int .i64) (Sort.ahead w n) blk off (zs.mergeSort fun x y=>decide (x≤y)).toArray) os:=AnyM.slices_Sort_int Tryz.laysSlM5_f124 blk off cap zs w hH hblk hsz
open Go.RowKit Go.Sort in
theorem Tryz.slices_Sort_int_none (p:Option Addr) (cap:Nat) (w:World) :
  Calls Tryz.prog 124 #[.slice p 0 cap] w fun e w'=>e = .returned (.tuple #[])∧w'=w:=AnyM.slices_Sort_int_none Tryz.laysSlM5_f124 p cap w
def Tryz.laysBS_ren:Go.Shelf.Ren:=⟨fun | 26=>169 | 33=>197 | 34=>198 | 38=>241 | n=>n,fun | 24=>118 | 9=>9 | 3=>3 | 4=>4 | 40=>200 | 0=>0 | n=>n,fun | n=>n⟩
theorem Tryz.laysBS:Go.Proofs.Lays2.n26 Tryz.prog Tryz.laysBS_ren:={
 mixed:=by kernel_rfl
 f26:=Tryz.func169.trans (congrArg some (by kernel_rfl))
 f33:=Tryz.func197.trans (congrArg some (by kernel_rfl))
 f34:=Tryz.func198.trans (congrArg some (by kernel_rfl))
 f38:=Tryz.func241.trans (congrArg some (by kernel_rfl))
 t0:=Tryz.underlying0
 a0:=Tryz.isAgg0
 z0:=Tryz.sizeOf0
 v0:=Tryz.zeroValue0
 t3:=Tryz.underlying3
 a3:=Tryz.isAgg3
 z3:=Tryz.sizeOf3
 v3:=Tryz.zeroValue3
 t4:=Tryz.underlying4
 a4:=Tryz.isAgg4
 z4:=Tryz.sizeOf4
 v4:=Tryz.zeroValue4
 t9:=Tryz.underlying9
 a9:=Tryz.isAgg9
 z9:=Tryz.sizeOf9
 v9:=Tryz.zeroValue9
 t24:=Tryz.underlying118
 a24:=Tryz.isAgg118
 z24:=Tryz.sizeOf118
 v24:=Tryz.zeroValue118
 t40:=Tryz.underlying200
 a40:=Tryz.isAgg200
 z40:=Tryz.sizeOf200
 v40:=Tryz.zeroValue200 }
def Tryz.laysSFL_ren:Go.Shelf.Ren:=⟨fun | 6=>119 | 15=>174 | 14=>173 | 28=>211 | 29=>212 | 20=>203 | 21=>204 | 22=>205 | 23=>206 | 24=>207 | 25=>208 | 26=>209 | 27=>210 | 46=>246 | 47=>247 | 48=>248 | 49=>249 | 50=>250 | 57=>261 | n=>n,fun | 22=>54 | 24=>99 | 25=>211 | 3=>3 | 39=>200 | 0=>0 | 53=>74 | 55=>100 | 4=>4 | 46=>303 | 45=>302 | 50=>265 | 5=>5 | 9=>9 | 66=>337 | 70=>340 | 76=>349 | 77=>350 | n=>n,fun | n=>n⟩
theorem Tryz.laysSFL:Go.Proofs.SlLaysF0.n6 Tryz.prog Tryz.laysSFL_ren:={
 mixed:=by kernel_rfl
 f6:=⟨Tryz.f119.name,by decide,Tryz.func119.trans (congrArg some (by kernel_rfl))⟩
 f14:=⟨Tryz.f173.name,by decide,Tryz.func173.trans (congrArg some (by kernel_rfl))⟩
 f15:=Tryz.func174.trans (congrArg some (by kernel_rfl))
 f20:=⟨Tryz.f203.name,by decide,Tryz.func203.trans (congrArg some (by kernel_rfl))⟩
 f21:=⟨Tryz.f204.name,by decide,Tryz.func204.trans (congrArg some (by kernel_rfl))⟩
 f22:=⟨Tryz.f205.name,by decide,Tryz.func205.trans (congrArg some (by kernel_rfl))⟩
 f23:=⟨Tryz.f206.name,by decide,Tryz.func206.trans (congrArg some (by kernel_rfl))⟩
 f24:=⟨Tryz.f207.name,by decide,Tryz.func207.trans (congrArg some (by kernel_rfl))⟩
 f25:=⟨Tryz.f208.name,by decide,Tryz.func208.trans (congrArg some (by kernel_rfl))⟩
 f26:=⟨Tryz.f209.name,by decide,Tryz.func209.trans (congrArg some (by kernel_rfl))⟩
 f27:=⟨Tryz.f210.name,by decide,Tryz.func210.trans (congrArg some (by kernel_rfl))⟩
 f28:=Tryz.func211.trans (congrArg some (by kernel_rfl))
 f29:=Tryz.func212.trans (congrArg some (by kernel_rfl))
 f46:=⟨Tryz.f246.name,by decide,Tryz.func246.trans (congrArg some (by kernel_rfl))⟩
 f47:=Tryz.func247.trans (congrArg some (by kernel_rfl))
 f48:=Tryz.func248.trans (congrArg some (by kernel_rfl))
 f49:=⟨Tryz.f249.name,by decide,Tryz.func249.trans (congrArg some (by kernel_rfl))⟩
 f50:=⟨Tryz.f250.name,by decide,Tryz.func250.trans (congrArg some (by kernel_rfl))⟩
 f57:=⟨Tryz.f261.name,by decide,Tryz.func261.trans (congrArg some (by kernel_rfl))⟩
 t0:=Tryz.underlying0
 a0:=Tryz.isAgg0
 z0:=Tryz.sizeOf0
 v0:=Tryz.zeroValue0
 t3:=Tryz.underlying3
 a3:=Tryz.isAgg3
 z3:=Tryz.sizeOf3
 v3:=Tryz.zeroValue3
 t4:=Tryz.underlying4
 a4:=Tryz.isAgg4
 z4:=Tryz.sizeOf4
 v4:=Tryz.zeroValue4
 t5:=Tryz.underlying5
 a5:=Tryz.isAgg5
 z5:=Tryz.sizeOf5
 v5:=Tryz.zeroValue5
 t9:=Tryz.underlying9
 a9:=Tryz.isAgg9
 z9:=Tryz.sizeOf9
 v9:=Tryz.zeroValue9
 t22:=Tryz.underlying54
 a22:=Tryz.isAgg54
 z22:=Tryz.sizeOf54
 v22:=Tryz.zeroValue54
 t25:=Tryz.underlying211
 a25:=Tryz.isAgg211
 z25:=Tryz.sizeOf211
 v25:=Tryz.zeroValue211
 t39:=Tryz.underlying200
 a39:=Tryz.isAgg200
 z39:=Tryz.sizeOf200
 v39:=Tryz.zeroValue200
 t45:=Tryz.underlying302
 a45:=Tryz.isAgg302
 z45:=Tryz.sizeOf302
 v45:=Tryz.zeroValue302
 t46:=Tryz.underlying303
 a46:=Tryz.isAgg303
 z46:=Tryz.sizeOf303
 v46:=Tryz.zeroValue303
 t50:=Tryz.underlying265
 a50:=Tryz.isAgg265
 z50:=Tryz.sizeOf265
 v50:=Tryz.zeroValue265
 t53:=Tryz.underlying74
 a53:=Tryz.isAgg74
 z53:=Tryz.sizeOf74
 v53:=Tryz.zeroValue74
 t55:=Tryz.underlying100
 a55:=Tryz.isAgg100
 z55:=Tryz.sizeOf100
 v55:=Tryz.zeroValue100
 t66:=Tryz.underlying337
 a66:=Tryz.isAgg337
 z66:=Tryz.sizeOf337
 v66:=Tryz.zeroValue337
 t70:=Tryz.underlying340
 a70:=Tryz.isAgg340
 z70:=Tryz.sizeOf340
 v70:=Tryz.zeroValue340
 t76:=Tryz.underlying349
 a76:=Tryz.isAgg349
 z76:=Tryz.sizeOf349
 v76:=Tryz.zeroValue349
 t77:=Tryz.underlying350
 a77:=Tryz.isAgg350
 z77:=Tryz.sizeOf350
 v77:=Tryz.zeroValue350 }
def Tryz.laysCFL_ren:Go.Shelf.Ren:=⟨fun | 8=>193 | 6=>232 | n=>n,fun | 22=>54 | 23=>99 | 25=>294 | 4=>4 | 3=>3 | 0=>0 | n=>n,fun | n=>n⟩
theorem Tryz.laysCFL:Go.Proofs.SlLaysH0.n8 Tryz.prog Tryz.laysCFL_ren:={
 mixed:=by kernel_rfl
 f6:=⟨Tryz.f232.name,by decide,Tryz.func232.trans (congrArg some (by kernel_rfl))⟩
 f8:=⟨Tryz.f193.name,by decide,Tryz.func193.trans (congrArg some (by kernel_rfl))⟩
 t0:=Tryz.underlying0
 a0:=Tryz.isAgg0
 z0:=Tryz.sizeOf0
 v0:=Tryz.zeroValue0
 t3:=Tryz.underlying3
 a3:=Tryz.isAgg3
 z3:=Tryz.sizeOf3
 v3:=Tryz.zeroValue3
 t4:=Tryz.underlying4
 a4:=Tryz.isAgg4
 z4:=Tryz.sizeOf4
 v4:=Tryz.zeroValue4
 t22:=Tryz.underlying54
 a22:=Tryz.isAgg54
 z22:=Tryz.sizeOf54
 v22:=Tryz.zeroValue54
 t25:=Tryz.underlying294
 a25:=Tryz.isAgg294
 z25:=Tryz.sizeOf294
 v25:=Tryz.zeroValue294 }
def Tryz.laysCL_ren:Go.Shelf.Ren:=⟨fun | 41=>61 | n=>n,fun | 22=>54 | 23=>99 | 4=>4 | n=>n,fun | n=>n⟩
theorem Tryz.laysCL:Go.Proofs.SlLaysE0.n41 Tryz.prog Tryz.laysCL_ren:={
 mixed:=by kernel_rfl
 f41:=⟨Tryz.f61.name,by decide,Tryz.func61.trans (congrArg some (by kernel_rfl))⟩
 t4:=Tryz.underlying4
 a4:=Tryz.isAgg4
 z4:=Tryz.sizeOf4
 v4:=Tryz.zeroValue4
 t22:=Tryz.underlying54
 a22:=Tryz.isAgg54
 z22:=Tryz.sizeOf54
 v22:=Tryz.zeroValue54 }
end Go.Proofs
namespace Go.Proofs.YtdoiekknhnbepaaGreatDoor
section
open Go.RowKit Go.Sort
open Lib renaming hid → Jh
attribute [local go_sem ↓] Go.wp_at_zero Go.wp_at_succ
attribute [local go_sem] Later.cell
def encLb (x:Lb):List Value:=[.string ⟨x.n.toArray⟩,.string ⟨x.v.toArray⟩]
set_option maxHeartbeats 400000 in
theorem Kgr (x y:Lb) (W:World) :
  Calls Tryz.prog 130 #[.agg (encLb x).toArray,.agg (encLb y).toArray] W fun e w'=>e = .returned (.int .i64 (Lib.compareBytes x.n y.n))∧∃q os',w'=grow (W.drewN q) os':=by
 obtain ⟨xn,xv⟩:=x;obtain ⟨yn,yv⟩:=y;have hcon:=fun W'=>Tryz.strings_Compare ⟨xn.toArray⟩ ⟨yn.toArray⟩ W'
 simp only[List.toList_toArray] at hcon;obtain ⟨r,hr⟩:∃r,Lib.compareBytes xn yn=r:=⟨_,rfl⟩;simp only[hr] at hcon ⊢;have HC:=Jh hcon;clear hcon hr;unfold encLb;obtain ⟨X,hX⟩:∃X:ByteArray,(⟨xn.toArray⟩:ByteArray)=X:=⟨_,rfl⟩;obtain ⟨Y,hY⟩:∃X:ByteArray,(⟨yn.toArray⟩:ByteArray)=X:=⟨_,rfl⟩;simp only[hX,hY] at HC ⊢;clear hX hY;go_enter Tryz.func130,Tryz.ntmps130
 go_wp2_with fail
 refine (HC.out _).mono ?_;rintro e w' ⟨rfl,rfl⟩;go_wp2_with fail
 go_ret
 exact ⟨rfl,0,_,by rw[alloc_eq_grow,alloc_eq_grow,grow_grow];rfl⟩
set_option maxHeartbeats 400000 in
theorem Kvk (nm:Txt) (p:Nat) (w:World) (hp:w.cell? ⟨p,0,none⟩=some (.string ⟨nm.toArray⟩)) :
  PredBelow Tryz.prog 194 #[.pointer (some ⟨p,0,none⟩)] (fun x=>.agg (encLb x).toArray) (fun x=>x.n == nm) w:=by
 intro W x hb;have hp':=later hb hp;obtain ⟨xn,xv⟩:=x;have hfin:((⟨xn.toArray⟩:ByteArray).toList == (⟨nm.toArray⟩:ByteArray).toList)=(xn == nm):=by rw[ByteArray.toList_eq,ByteArray.toList_eq]
 obtain ⟨r,hr⟩:∃r,(xn == nm)=r:=⟨_,rfl⟩;rw[hr] at hfin;simp only[hr];unfold encLb;obtain ⟨X,hX⟩:∃X:ByteArray,(⟨xn.toArray⟩:ByteArray)=X:=⟨_,rfl⟩;obtain ⟨Y,hY⟩:∃X:ByteArray,(⟨nm.toArray⟩:ByteArray)=X:=⟨_,rfl⟩;rw[hX,hY] at hfin;rw[hY] at hp';simp only[hX];clear hX hY hr hp;have hpl:p < W.heap.size:=Kfa hp';show Calls Tryz.prog 194 #[.agg #[.string X,.string ⟨xv.toArray⟩],.pointer (some ⟨p,0,none⟩)] W _
 go_enter Tryz.func194,Tryz.ntmps194
 go_wp2_with fail
 go_ret
 exact ⟨rfl,hb.alloc hb.size _⟩
theorem Kvb {α : Type} [Inhabited α] (enc:α→List Value) (k:Nat) (w:World) (blk off n:Nat) (d:Array α) (os:Array Obj):w.grownBy (sortWorldK enc k w blk off n d os) (some blk):=by
 refine ⟨rfl,rfl,rfl,?_,?_⟩
 ·simp[sortWorldK,grow,putRowK,putRow,mapBlock,Sort.ahead]
 ·intro j hj hne;have hb:¬blk=j:=fun e=>hne (by rw[e])
  simp only[sortWorldK,grow,putRowK,putRow,mapBlock,Sort.ahead];rw[Array.getElem?_append_left (by simpa using hj),Array.getElem?_modify,if_neg hb]
theorem Kmc:(Tryz.prog.info? 99).map (fun i=>(i.zero,i.size,i.bytes))=some (some (.agg #[.string ⟨#[]⟩,.string ⟨#[]⟩]),2,32):=by kernel_rfl
theorem Kbw (x:Lb):(encLb x).length=2:=rfl
theorem Khd (x:Lb):∀v∈encLb x,v.oneCell'=true:=by
 intro v hv;simp[encLb] at hv;rcases hv with rfl | rfl <;> rfl
theorem Kik (l:List Lb):(l.flatMap encLb).length=l.length*2:=by
 induction l with
 | nil=>rfl
 | cons x l ih=>rw[List.flatMap_cons,List.length_append,ih,Kbw,List.length_cons];omega
theorem Keb:∀(l:List Lb) (t:Nat),t < l.length*2→(l.flatMap encLb)[t]? = (encLb l[t / 2]!)[t % 2]?
 | [],t,h=>by simp at h
 | x :: l,t,h=>by
  rw[List.flatMap_cons]
  by_cases h2:t < 2
  ·rw[List.getElem?_append_left (by rw[Kbw];exact h2),show t / 2=0 by omega,show t % 2=t by omega];simp
  ·rw[List.getElem?_append_right (by rw[Kbw];omega),Kbw,Keb l (t - 2) (by simp at h;omega),show (t - 2) / 2=t / 2 - 1 by omega,show (t - 2) % 2=t % 2 by omega];congr 2;obtain ⟨m,hm⟩:∃m,t / 2=m+1:=⟨t / 2 - 1,by omega⟩;rw[hm];simp
theorem Kgk {w:World} {B b off n:Nat} {l:List Lb} (h:Elems w B 2 encLb (some ⟨b,off,none⟩) n l) (hn:0 < n):∀t,t < l.length*2→w.cell? ⟨b,off+t,none⟩=(l.flatMap encLb)[t]?:=by
 intro t ht;obtain ⟨b',off',e,_,hc⟩:=h.2 hn;injection e with e;injection e with e1 e2;subst e1 e2;rw[Keb l t ht];have hl:t / 2 < l.length:=by omega
 have h1:l[t / 2]? = some l[t / 2]!:=by rw[getElem!_pos l _ hl,List.getElem?_eq_getElem hl]
 have h2:t % 2 < (encLb l[t / 2]!).length:=by rw[Kbw];omega
 have:=hc (t / 2) _ h1 (t % 2) _ (List.getElem?_eq_getElem h2);rw[List.getElem?_eq_getElem h2,←this];congr 2;omega
theorem Koj (l:List Lb) (b off n c:Nat) (w:World) (h:Elems w w.heap.size 2 encLb (some ⟨b,off,none⟩) n l) (hn:0 < n) (hn8:n≤8) :
  Calls Tryz.prog 61 #[.slice (some ⟨b,off,none⟩) n c] w fun e w'=>∃g cap,e = .returned (.slice (some ⟨g,0,none⟩) n cap)∧w'.ownsRow w.heap.size 99 2 (.slice (some ⟨g,0,none⟩) n cap) n (l.flatMap encLb)∧Below w.heap.size w w':=by
 obtain ⟨i0,hi0,hz0,hz1,hz2⟩:=info_parts Kmc;have hl:=h.len
 have hcon:=AnyE.slices_Clone Tryz.laysCL i0 _ 2 32 hi0 hz0 hz1 hz2 rfl (by omega) Tryz.sizeOf99 b off n c (l.flatMap encLb) w (by rw[Kik,hl]) (by unfold maxLen;omega) (by omega)
  (fun j u hu=>by
   have hj:=(List.getElem?_eq_some_iff.1 hu).1;rw[Kik] at hj
   rw[Kgk h hn j hj];exact hu)
  (fun u hu=>by
   obtain ⟨x,_,hx⟩:=List.mem_flatMap.1 hu
   exact Khd x u hx)
 refine hcon.mono ?_;rintro e w' ⟨v',rfl,hown,hne,hb⟩;rcases hown.2 with ⟨rfl,_⟩ | ⟨g,cap,cur,rfl,h1⟩
 ·exact absurd rfl hne
 ·exact ⟨g,cap,rfl,hown,hb⟩
theorem Krr (n:Nat) (W:World) (h:n≤12):Calls Tryz.prog 174 #[.int .u64 n] W fun e w'=>(∃l:Int,e = .returned (.int .i64 l))∧w'=W:=
 (Tryz.bits_Len n W (by omega) (by omega)).mono fun _ _ ⟨he,hw⟩=>⟨⟨_,he⟩,hw⟩
theorem Krd (l:List Lb) (g cap n B:Nat) (w:World) (hown:w.ownsRow B 99 2 (.slice (some ⟨g,0,none⟩) n cap) n (l.flatMap encLb)) (hl:l.length=n) (hn8:n≤8) :
  Calls Tryz.prog 119 #[.slice (some ⟨g,0,none⟩) n cap,.func (.func 130) #[] #[]] w fun e w'=>e = .returned (.tuple #[])∧w.grownBy w' (some g):=by
 have hlt:=hown.lt g rfl;rcases hown.2 with ⟨he,_⟩ | ⟨g',cap',cur,he,h1,h2,h3,h4,h5,h6⟩
 ·cases he
 ·injection he with he _ _;injection he with he;injection he with he _ _;subst he
  have hH:HoldsK encLb 2 w g 0 l.toArray:=by
   intro t ht;rw[size_flatK] at ht;have ht':t < l.length*2:=by simpa using ht
   refine ⟨?_,by simp[World.frozen?,h2]⟩;rw[get_flatK _ _ _ _ ht,Nat.zero_add,cell_of_row w g t cur _ (0,0) h2]
   have e1:cur[t]? = (l.flatMap encLb)[t]?:=by
    rw[←h6,List.getElem?_take_of_lt (by omega)];simp
   rw[e1,Keb l t ht'];have h2':t % 2 < (encLb l[t / 2]!).length:=by rw[Kbw];omega
   simp only[List.getElem!_toArray,id];rw[getElem!_pos (encLb l[t / 2]!) (t % 2) h2',List.getElem?_eq_getElem h2']
  have eg:∀args w,(callFunc 130 args).run Tryz.prog w = .ok (.enter 130 args) w:=enters_of Tryz.func130 (by kernel_rfl) rfl;have hcon:=AnyQ.slices_SortFunc_small Tryz.laysSFL 2 Tryz.isAgg99 Tryz.sizeOf99 encLb Kbw Khd (fun x y=>Lib.compareBytes x.n y.n) 130 #[] g 0 cap l.toArray w eg (fun _ _ _ _ x y=>Kgr x y _) hH hlt.2 (by simp;omega) Krr;simp only[List.size_toArray,hl] at hcon;refine hcon.mono ?_;rintro e w' ⟨rfl,m,os,rfl⟩;exact ⟨rfl,Kvb _ _ _ _ _ _ _ _⟩
theorem Kkz (l:List Lb) (nm:Txt) (b off i c p:Nat) (w:World) (r:Bool) (hr:(l.take i).any (fun x=>x.n == nm)=r) (hi:i≤l.length) (hl8:l.length≤8) (hb:b < w.heap.size) (hp:w.cell? ⟨p,0,none⟩=some (.string ⟨nm.toArray⟩))
  (hc:∀t,t < l.length*2→w.cell? ⟨b,off+t,none⟩=(l.flatMap encLb)[t]?) :
  Calls Tryz.prog 193 #[.slice (some ⟨b,off,none⟩) i c,.func (.func 194) #[] #[.pointer (some ⟨p,0,none⟩)]] w fun e w'=>e = .returned (.bool r)∧Below w.heap.size w w':=by
 have eg:∀args w,(callFunc 194 args).run Tryz.prog w = .ok (.enter 194 args) w:=enters_of Tryz.func194 (by kernel_rfl) rfl
 have hcon:=AnyQ.slices_ContainsFunc Tryz.laysCFL 2 Tryz.isAgg99 Tryz.sizeOf99 encLb Kbw (fun x=>x.n == nm) 194 #[.pointer (some ⟨p,0,none⟩)] eg b off i c l w (Kvk nm p w hp) hi (by omega) hb
  (fun j hj k v hv=>by
   have hk:k < 2:=by have:=(List.getElem?_eq_some_iff.1 hv).1;rw[Kbw] at this;exact this
   have:=hc (j*2+k) (by omega);rw[Keb l (j*2+k) (by omega),show (j*2+k) / 2=j by omega,show (j*2+k) % 2=k by omega,hv] at this;rw[←this];congr 2
   omega)
 rw[hr] at hcon;exact hcon
def Qek (w:World) (c:Nat) (e:Ending) (w':World):Prop:=(∃v,e = .returned (.tuple #[v,.int .i64 (c:Nat)]))∧Below w.heap.size w w'
theorem Knh (l:List Lb) (A:Option Addr) (n c:Nat) (w:World) (hE:Elems w w.heap.size 2 encLb A n l) (hnc:n≤c) (hnm:n≤140737488351232) (hz:∀x∈l,x.n.length≤140737488351232∧x.v.length≤140737488351232) :
  Calls Tryz.prog 160 #[.slice A n c] w (Qek w (Kbm l)):=by
 have hl:=hE.len
 by_cases h0:n=0
 ·subst h0;have hm:Kbm l=43:=by rw[Kbm,if_pos hl]
  rw[hm];clear hm;go_enter Tryz.func160,Tryz.ntmps160
  go_wp2_with fail
  go_ret2
  exact ⟨⟨_,rfl⟩,Below.refl _ _⟩
 ·have e0:((n:Int) == 0)=false:=by rw[beq_eq_false_iff_ne];omega
  by_cases h8:8 < n
  ·have hm:Kbm l=44:=by rw[Kbm,if_neg (by omega),if_pos (by omega)]
   rw[hm];have e8:decide ((8:Int) < (n:Int))=true:=by simp;omega
   clear hm;go_enter Tryz.func160,Tryz.ntmps160
   go_wp2_with fail
   go_ret2
   exact ⟨⟨_,rfl⟩,Below.refl _ _⟩
  ·have e8:decide ((8:Int) < (n:Int))=false:=by simp;omega
   obtain ⟨R,hR⟩:∃R,Kdt [] l=R:=⟨_,rfl⟩;have hm:Kbm l=R:=by rw[Kbm,if_neg (by omega),if_neg (by omega),hR]
   rw[hm];obtain ⟨b,off,rfl,hbl,_⟩:=hE.2 (by omega);have hcells:=Kgk hE (by omega);have HC:=Jh hcells;have HR:=Jh hR;have HZ:=Jh hz;have HLEN:=Jh hl;have hn0:0 < n:=by omega
   clear hm hR hz hcells hl h0;go_enter Tryz.func160,Tryz.ntmps160
   go_upto_block 1 with fail
   clear e0 e8;go_cut [] (fun wz=>Below w.heap.size w wz∧R=0)
   case first=>
    go_wp2_with fail
    go_loopg [17] n (fun g s17 wr=>∃i:Nat,i+g=n∧s17 = .int .i64 (i:Int)∧Kdt (l.take i) (l.drop i)=R∧Below w.heap.size w wr)
    case atStart=>exact ⟨0,by omega,rfl,by simpa using HR.out,Below.refl _ _⟩
    case round=>
     obtain ⟨i,hig,rfl,hsc,hB⟩:=hrel;have HIG:=Jh hig;have HSC:=Jh hsc;clear hig hsc
     by_cases hi:i < n
     ·have el:decide ((i:Int) < (n:Int))=true:=by simp;omega
      have el':decide (i < n)=true:=by simp;omega
      have hil:i < l.length:=by have:=HLEN.out;omega
      obtain ⟨x,hx⟩:∃x,l[i]=x:=⟨_,rfl⟩;have hxm:x∈l:=by rw[←hx];exact List.getElem_mem hil
      have hxz:=HZ.out x hxm;have hsc:=HSC.out;rw[List.drop_eq_getElem_cons hil,hx,Kdt] at hsc
      have hx0:(l.flatMap encLb)[i*2]? = some (.string ⟨x.n.toArray⟩):=by
       rw[Keb l _ (by omega),show i*2 / 2=i by omega,show i*2 % 2=0 by omega,getElem!_pos l i hil,hx];rfl
      have hx1:(l.flatMap encLb)[i*2+1]? = some (.string ⟨x.v.toArray⟩):=by
       rw[Keb l _ (by omega),show (i*2+1) / 2=i by omega,show (i*2+1) % 2=1 by omega,getElem!_pos l i hil,hx];rfl
      have c0:wr.cell? ⟨b,off+i*2,none⟩=some (.string ⟨x.n.toArray⟩):=((hB.cell (p:=⟨b,off+i*2,none⟩) hbl).trans (HC.out _ (by omega))).trans hx0;have c1:wr.cell? ⟨b,off+i*2+1,none⟩=some (.string ⟨x.v.toArray⟩):=((hB.cell (p:=⟨b,off+i*2+1,none⟩) hbl).trans (HC.out (i*2+1) (by omega))).trans hx1;obtain ⟨N,hN⟩:∃N:ByteArray,(⟨x.n.toArray⟩:ByteArray)=N:=⟨_,rfl⟩;obtain ⟨V,hV⟩:∃N:ByteArray,(⟨x.v.toArray⟩:ByteArray)=N:=⟨_,rfl⟩;rw[hN] at c0;rw[hV] at c1;have hNn:N.data.toList=x.n:=by rw[←hN]
      have hVv:V.data.toList=x.v:=by rw[←hV]
      have hNz:N.size≤140737488351232:=by rw[←Kak,hNn];exact hxz.1
      have hVz:V.size≤140737488351232:=by rw[←Kak,hVv];exact hxz.2
      have HSC2:=Jh hsc;have HN:=Jh hN;have HNn:=Jh hNn;have HVv:=Jh hVv;have HX:=Jh hx;clear hsc hx0 hx1 hx hN hV hNn hVv hxz hxm;go_upto_region 8 with fail
      have hq:Blk (wr.alloc (.cells #[.string N,.string V] 99)) wr.heap.size 99 #[.string N,.string V]:=Blk.new _ _ _;have hB1:Below w.heap.size w (wr.alloc (.cells #[.string N,.string V] 99)):=hB.alloc hB.size _;obtain ⟨w1,hw1⟩:∃w1,wr.alloc (.cells #[.string N,.string V] 99)=w1:=⟨_,rfl⟩;obtain ⟨p,hp⟩:∃p,wr.heap.size=p:=⟨_,rfl⟩;rw[hw1] at hq hB1 ⊢;rw[hp] at hq ⊢;clear hw1 hp c0 c1 hB;have q0:_=some (Value.string N):=hq.cell 0;have q1:_=some (Value.string V):=hq.cell 1;obtain ⟨rn,hrn⟩:∃r,fitN x.n=r:=⟨_,rfl⟩;obtain ⟨rv,hrv⟩:∃r,fitV x.v=r:=⟨_,rfl⟩;obtain ⟨ra,hra⟩:∃r,(l.take i).any (fun y=>y.n == x.n)=r:=⟨_,rfl⟩;have hsc:=HSC2.out;rw[hrn,hrv,hra] at hsc;have HSC3:=Jh hsc;have HRN:=Jh (show fitN N.data.toList=rn by rw[HNn.out,hrn]);have HRV:=Jh (show fitV V.data.toList=rv by rw[HVv.out,hrv]);have HRA:=Jh hra;clear hsc HSC2 hrn hrv hra;go_wp2_with fail
      refine (Kqw N rn HRN.out hNz w1).mono ?_;rintro e w2 ⟨rfl,rfl⟩
      cases rn with
      | false=>
       obtain rfl:40=R:=by have:=HSC3.out;simpa using this
       go_wp2_with fail
       go_ret2
       exact ⟨⟨_,rfl⟩,hB1⟩
      | true=>
       go_wp2_with fail
       refine (Kon V rv HRV.out hVz w1).mono ?_;rintro e w2 ⟨rfl,rfl⟩
       cases rv with
       | false=>
        obtain rfl:41=R:=by have:=HSC3.out;simpa using this
        go_wp2_with fail
        go_ret2
        exact ⟨⟨_,rfl⟩,hB1⟩
       | true=>
        have hmf:∀(fn:Fn) (first cap:Array Value) (w:World),(Instr.makeFunc fn first cap).run Tryz.prog w = .ok (.func fn first cap) w:=fun _ _ _ _=>rfl
        have hci:(i:Int)≤(c:Int):=by omega
        go_wp2_with fail
        refine (Kkz l x.n b off i c p w1 ra HRA.out (by omega) (by have:=HLEN.out;omega) (by have:=hB1.size;omega) (by rw[HN.out];exact q0) (fun t ht=>(hB1.cell (p:=⟨b,off+t,none⟩) hbl).trans (HC.out t ht))).mono ?_;rintro e w3 ⟨rfl,hb3⟩;have hB3:Below w.heap.size w w3:=hB1.trans (hb3.mono hB1.size)
        cases ra with
        | true=>
         obtain rfl:42=R:=by have:=HSC3.out;simpa using this
         go_wp2_with fail
         go_ret2
         exact ⟨⟨_,rfl⟩,hB3⟩
        | false=>
         go_wp2_with fail
         go_roundg (gk - 1)
         case measure=>have:=HIG.out;omega
         case rel=>
          refine ⟨i+1,by have:=HIG.out;omega,by go_num,?_,hB3⟩;rw[List.take_succ_eq_append_getElem hil,HX.out];have:=HSC3.out;simpa using this
     ·have hR0:R=0:=by
       have:=HSC.out;rw[List.drop_of_length_le (by have:=HLEN.out;omega),Kdt] at this;exact this.symm
      have HR0:=Jh hR0;have el:decide ((i:Int) < (n:Int))=false:=by simp;omega
      have el':decide (i < n)=false:=by simp;omega
      clear hR0;go_wp2_with fail
      go_meet
      exact ⟨hB,HR0.out⟩
   case rest=>
    obtain ⟨hB,hR0⟩:=hcut;obtain ⟨w1,rfl⟩:∃x,x=wc:=⟨_,rfl⟩;have hE1:Elems w1 w1.heap.size 2 encLb (some ⟨b,off,none⟩) n l:=(hE.below hB).more hB.size;have HR0:=Jh hR0;clear hR0;go_wp2_with fail
    refine (Koj l b off n c w1 hE1 (by omega) (by omega)).mono ?_;rintro e w2 ⟨g,cap,rfl,hown,hb2⟩;go_wp2_with fail
    refine (Krd l g cap n _ w2 hown HLEN.out (by omega)).mono ?_;rintro e w3 ⟨rfl,hg3⟩;go_wp2_with fail
    go_ret2
    refine ⟨⟨_,by rw[HR0.out];rfl⟩,?_⟩;have hgl:=hown.lt g rfl;have hB2:=hB.trans (hb2.mono hB.size);exact hB2.trans ⟨hg3.os,hg3.tape,hg3.output,hg3.size,fun k hk=>hg3.block k (by have:=hB2.size;omega) (fun e=>by injection e with e;have:=hB.size;omega)⟩
end
section
open Go.RowKit Go.Sort
open Lib renaming hid → Jh
open List renaming length_append → Jd
attribute [local go_sem ↓] Go.wp_at_zero Go.wp_at_succ
attribute [local go_sem] Later.cell
theorem Kjn (x y:Lb) (W:World) :
  Calls Tryz.prog 130 #[.agg #[.string ⟨x.n.toArray⟩,.string ⟨x.v.toArray⟩],.agg #[.string ⟨y.n.toArray⟩,.string ⟨y.v.toArray⟩]] W fun e w'=>e = .returned (.int .i64 (Lib.compareBytes x.n y.n))∧Below W.heap.size W w':=by
 refine (Kgr x y W).mono ?_;rintro e w' ⟨he,q,os,rfl⟩;exact ⟨he,below_grown W q os⟩
def Kid (l:List Lb):Prop:=∀i,i+1 < l.length→¬l[i+1]!.n < l[i]!.n
theorem Kbu {w wr:World} {b off n:Nat} {l:List Lb} (hE:Elems w w.heap.size 2 encLb (some ⟨b,off,none⟩) n l) (hn:0 < n) (hB:Below w.heap.size w wr) (i:Nat) (hi:i < l.length) :
  b < w.heap.size∧wr.cell? ⟨b,off+i*2,none⟩=some (.string ⟨l[i]!.n.toArray⟩)∧wr.cell? ⟨b,off+i*2+1,none⟩=some (.string ⟨l[i]!.v.toArray⟩):=by
 have hbl:b < w.heap.size:=by
  obtain ⟨b',off',e,hb,_⟩:=hE.2 hn;injection e with e;injection e with e _;rw[e];exact hb
 have hc:=Kgk hE hn;refine ⟨hbl,?_,?_⟩
 ·rw[hB.cell (p:=⟨b,off+i*2,none⟩) hbl,hc (i*2) (by omega),Keb l _ (by omega),show i*2 / 2=i by omega,show i*2 % 2=0 by omega];rfl
 ·rw[hB.cell (p:=⟨b,off+i*2+1,none⟩) hbl];have:=hc (i*2+1) (by omega);rw[←Nat.add_assoc] at this;rw[this,Keb l _ (by omega),show (i*2+1) / 2=i by omega,show (i*2+1) % 2=1 by omega];rfl
theorem Kor (l:List Lb) (A:Option Addr) (n c:Nat) (w:World) (r:Bool) (hr:r=true↔Kid l) (hE:Elems w w.heap.size 2 encLb A n l) (hn8:n≤8) :
  Calls Tryz.prog 161 #[.slice A n c,.func (.func 130) #[] #[]] w fun e w'=>e = .returned (.bool r)∧Below w.heap.size w w':=by
 have hl:=hE.len;have HL:=Jh hl;have HR:=Jh hr;clear hl hr;go_enter Tryz.func161,Tryz.ntmps161
 go_wp2_with fail
 go_loopg [5] n (fun g s5 wr=>∃m:Int,s5 = .int .i64 m∧m+1≤(g:Int)∧-1≤m∧m < (n:Int)∧Below w.heap.size w wr∧∀j:Nat,m≤(j:Int)→j+1 < l.length→¬l[j+1]!.n < l[j]!.n)
 case atStart=>exact ⟨(n:Int) - 1,rfl,by omega,by omega,by omega,Below.refl _ _,fun j hj hj2=>by have:=HL.out;omega⟩
 case round=>
  obtain ⟨m,rfl,hmg,hm1,hmn,hB,hall⟩:=hrel;have HALL:=Jh hall;clear hall
  by_cases hm:0 < m
  ·obtain ⟨j,rfl⟩:∃j:Nat,m=(j:Int)+1:=⟨(m - 1).toNat,by omega⟩;have hjl:j+1 < l.length:=by have:=HL.out;omega
   obtain ⟨b,off,rfl,_,_⟩:=hE.2 (by omega);obtain ⟨hbl,a0,a1⟩:=Kbu hE (by omega) hB (j+1) hjl;obtain ⟨_,b0,b1⟩:=Kbu hE (by omega) hB j (by omega);obtain ⟨x,hx⟩:∃x,l[j+1]! = x:=⟨_,rfl⟩;obtain ⟨y,hy⟩:∃x,l[j]! = x:=⟨_,rfl⟩;rw[hx] at a0 a1;rw[hy] at b0 b1;obtain ⟨q,hq⟩:∃q,Lib.compareBytes x.n y.n=q:=⟨_,rfl⟩;have hcall:∀X:Later wr,Calls Tryz.prog 130 #[.agg #[.string ⟨x.n.toArray⟩,.string ⟨x.v.toArray⟩],.agg #[.string ⟨y.n.toArray⟩,.string ⟨y.v.toArray⟩]] X.w fun e w'=>e = .returned (.int .i64 q)∧Below X.w.heap.size X.w w':=fun X=>by rw[←hq];exact Kjn x y X.w
   have hlt:(q < 0)↔x.n < y.n:=by rw[←hq];exact Qfw _ _
   have HLT:=Jh hlt;have HX:=Jh hx;have HY:=Jh hy;have HC:=Jh hcall;have hbr:b < wr.heap.size:=by have:=hB.size;omega
   have em:decide ((0:Int) < (j:Int)+1)=true:=by rw[decide_eq_true_eq];omega
   clear hx hy hq hlt hcall hm;obtain ⟨X0,hX0⟩:∃N:ByteArray,(⟨x.n.toArray⟩:ByteArray)=N:=⟨_,rfl⟩;obtain ⟨X1,hX1⟩:∃N:ByteArray,(⟨x.v.toArray⟩:ByteArray)=N:=⟨_,rfl⟩;obtain ⟨Y0,hY0⟩:∃N:ByteArray,(⟨y.n.toArray⟩:ByteArray)=N:=⟨_,rfl⟩;obtain ⟨Y1,hY1⟩:∃N:ByteArray,(⟨y.v.toArray⟩:ByteArray)=N:=⟨_,rfl⟩;rw[hX0] at a0;rw[hX1] at a1;rw[hY0] at b0;rw[hY1] at b1;rw[hX0,hX1,hY0,hY1] at HC;clear hX0 hX1 hY0 hY1;go_upto_region 4 with fail
   have z1:IntKind.i64.wrap ((j:Int)+1 - 1)=(j:Int):=by rw[show (j:Int)+1 - 1=(j:Int) by omega];exact IntWalk.i64_in _ (by omega)
   have z2:(0:Int)≤(j:Int)+1:=by omega
   have z3:((j:Int)+1).toNat=j+1:=by omega
   have z4:(j:Int)+1 < (n:Int):=by have:=HL.out;omega
   have z5:(j:Int) < (n:Int):=by omega
   refine Kah (by kernel_rfl) (by kernel_rfl) ?_
   repeat (go_big_quiet_step (first | (go_at_call 130;exact Kal _ (HC.out _))))
   refine wpQuiet_nil ?_;rintro w3 ⟨⟨_,hb3⟩,rfl⟩;clear z1 z2 z3 z4 z5;have hB3:Below w.heap.size w w3:=then_ hB hb3
   by_cases hq0:q < 0
   ·have hrf:r=false:=by
     rw[←Bool.not_eq_true];intro h;have:=(HR.out.1 h) j (by omega);rw[HX.out,HY.out] at this;exact this (HLT.out.1 hq0)
    subst hrf;go_wp2_with fail
    go_ret
    exact ⟨rfl,hB3⟩
   ·have eq0:decide (q < 0)=false:=by simpa using hq0
    go_wp2_with fail
    go_roundg (gk - 1)
    case measure=>omega
    case rel=>
     refine ⟨(j:Int),by go_num,by omega,by omega,by omega,hB3,fun j' h1 h2=>?_⟩
     by_cases e:j'=j
     ·subst e;rw[HX.out,HY.out];intro h;exact absurd (HLT.out.2 h) (by omega)
     ·exact HALL.out j' (by omega) h2
  ·have em:decide ((0:Int) < m)=false:=by simpa using hm
   have hrt:r=true:=HR.out.2 (fun i hi=>HALL.out i (by omega) hi);subst hrt;go_wp2_with fail
   go_ret
   exact ⟨rfl,hB⟩
def Kdb (l:List Lb):Bool:=decide (Kbm l=0) && decide ((names l).Pairwise (· < ·))
theorem Kqh {l:List Lb} (h:(names l).Nodup):Kid l↔(names l).Pairwise (· < ·):=by
 constructor
 ·intro hr
  have key:∀l:List Lb,Kid l→(names l).Nodup→(names l).Pairwise (· < ·):=by
   intro l
   induction l with
   | nil=>intro _ _;exact List.Pairwise.nil
   | cons x l ih=>
    intro hr hn;have hn':=List.nodup_cons.1 hn;have hrl:Kid l:=fun i hi=>by have:=hr (i+1) (by simpa using hi);simpa using this
    have ihl:=ih hrl hn'.2;refine List.pairwise_cons.2 ⟨?_,ihl⟩
    cases l with
    | nil=>intro z hz;simp at hz
    | cons y l=>
     have h0:=hr 0 (by simp)
     have hxy:x.n < y.n:=by
      have h1:¬y.n < x.n:=by simpa using h0
      apply Classical.byContradiction;intro h2;have:=Kxe h2 h1;exact hn'.1 (by simp[this,names])
     intro z hz;rcases List.mem_cons.1 hz with rfl | hz
     ·exact hxy
     ·exact List.lt_trans hxy ((List.pairwise_cons.1 ihl).1 z hz)
  exact key l hr h
 ·intro hp i hi hlt;have h1:i+1 < (names l).length:=by simpa[names] using hi
  have:=List.pairwise_iff_getElem.1 hp i (i+1) (by omega) h1 (by omega);simp only[names,List.getElem_map] at this;rw[getElem!_pos l (i+1) hi,getElem!_pos l i (by omega)] at hlt;exact List.lt_asymm this hlt
theorem Koa (l:List Lb):Kdb l=true↔Kbm l=0∧Kid l:=by
 unfold Kdb;rw[Bool.and_eq_true,decide_eq_true_eq,decide_eq_true_eq];constructor
 ·rintro ⟨h1,h2⟩;exact ⟨h1,(Kqh (Kfb h1).2.2.2).2 h2⟩
 ·rintro ⟨h1,h2⟩;exact ⟨h1,(Kqh (Kfb h1).2.2.2).1 h2⟩
set_option maxHeartbeats 400000 in
theorem Khx (l:List Lb) (A:Option Addr) (n c:Nat) (w:World) (r:Bool) (hr:Kdb l=r) (hE:Elems w w.heap.size 2 encLb A n l) (hnc:n≤c) (hnm:n≤140737488351232) (hz:∀x∈l,x.n.length≤140737488351232∧x.v.length≤140737488351232) :
  Calls Tryz.prog 105 #[.slice A n c] w fun e w'=>e = .returned (.bool r)∧Below w.heap.size w w':=by
 obtain ⟨m,hm⟩:∃m,Kbm l=m:=⟨_,rfl⟩;have hmk:=Knh l A n c w hE hnc hnm hz;rw[hm] at hmk;have HMK:=Jh hmk;have HR:=Jh hr;have HM:=Jh hm;clear hmk hr hm hz
 by_cases h0:m=0
 ·subst h0;have hok:=Kfb HM.out;have hn8:n≤8:=by have:=hE.len;omega
  have hri:r=true↔Kid l:=by
   rw[←HR.out,Koa];exact ⟨fun h=>h.2,fun h=>⟨HM.out,h⟩⟩
  have HRI:=Jh hri;clear hri hok;go_enter Tryz.func105,Tryz.ntmps105
  go_wp2_with fail
  refine HMK.out.mono ?_;rintro e w1 ⟨⟨v,rfl⟩,hb1⟩;have hE1:Elems w1 w1.heap.size 2 encLb A n l:=(hE.below hb1).more hb1.size;go_wp2_with fail
  refine (Kor l A n c w1 r HRI.out hE1 hn8).mono ?_;rintro e w2 ⟨rfl,hb2⟩;go_wp2_with fail
  go_ret
  exact ⟨rfl,then_ hb1 hb2⟩
 ·have hrf:r=false:=by
   rw[←HR.out,←Bool.not_eq_true,Koa];rintro ⟨h,_⟩;exact h0 (by rw[←HM.out];exact h)
  subst hrf;have em:((m:Int) == 0)=false:=by rw[beq_eq_false_iff_ne];omega
  go_enter Tryz.func105,Tryz.ntmps105
  go_wp2_with fail
  refine HMK.out.mono ?_;rintro e w1 ⟨⟨v,rfl⟩,hb1⟩;go_wp2_with fail
  go_ret
  exact ⟨rfl,hb1⟩
theorem Ksw {x:Lb} (h1:fitN x.n=true) (h2:fitV x.v=true):(labT x).length≤118:=by
 have h3:=Kab x.n.length;have h4:=Kab x.v.length;simp only[fitN,fitV,Bool.and_eq_true,decide_eq_true_eq] at h1 h2;simp only[labT,textT,Jd];omega
theorem Ksx {l:List Lb} (h:∀x∈l,fitN x.n=true∧fitV x.v=true):(l.flatMap labT).length≤118*l.length:=by
 induction l with
 | nil=>simp
 | cons x l ih=>
  have h1:=Ksw (h x (by simp)).1 (h x (by simp)).2;have h2:=ih (fun y hy=>h y (by simp[hy]));rw[List.flatMap_cons,Jd,List.length_cons];omega
theorem Kjv (l:List Lb):(Kbm l≠0∧Kdi l=Kbm l)∨(Kbm l=0∧Kdb l=false∧Kdi l=42)∨(Kbm l=0∧Kdb l=true∧Kdi l=0):=by
 unfold Kdi Kdb
 by_cases h:Kbm l=0
 ·by_cases h2:(names l).Pairwise (· < ·)
  ·exact .inr (.inr ⟨h,by simp[h,h2],by simp[h,h2]⟩)
  ·exact .inr (.inl ⟨h,by simp[h2],by simp[h,h2]⟩)
 ·exact .inl ⟨h,by simp[h]⟩
theorem Ksi (l:List Lb) (A:Option Addr) (n c:Nat) (w:World) (hE:Elems w w.heap.size 2 encLb A n l) (hnc:n≤c) (hnm:n≤140737488351232) (hz:∀x∈l,x.n.length≤140737488351232∧x.v.length≤140737488351232) :
  Calls Tryz.prog 114 #[.slice A n c] w fun e w'=>e = .returned (.tuple #[.string ⟨(Kfx l).toArray⟩,.int .i64 (Kdi l)])∧Below w.heap.size w w':=by
 obtain ⟨m,hm⟩:∃m,Kbm l=m:=⟨_,rfl⟩;have hmk:=Knh l A n c w hE hnc hnm hz;rw[hm] at hmk;have HMK:=Jh hmk;have HM:=Jh hm;have HZ:=Jh hz;clear hmk hz;rcases Kjv l with ⟨h1,h2⟩ | ⟨h1,h2,h3⟩ | ⟨h1,h2,h3⟩
 ·rw[hm] at h1 h2;have ho:Kfx l = []:=by rw[Kfx,h2,if_neg h1]
  rw[ho,h2];have em:((m:Int) != 0)=true:=by simp;omega
  clear hm h2 ho;go_enter Tryz.func114,Tryz.ntmps114
  go_wp2_with fail
  refine HMK.out.mono ?_;rintro e w1 ⟨⟨v,rfl⟩,hb1⟩;go_wp2_with fail
  go_ret2
  exact ⟨rfl,hb1⟩
 ·have hm0:m=0:=by rw[←hm];exact h1
  have ho:Kfx l = []:=by rw[Kfx,h3,if_neg (by omega)]
  rw[ho,h3];have HV:=Jh h2;clear hm h1 h2 h3 ho;subst hm0;go_enter Tryz.func114,Tryz.ntmps114
  go_wp2_with fail
  refine HMK.out.mono ?_;rintro e w1 ⟨⟨v,rfl⟩,hb1⟩;have hE1:Elems w1 w1.heap.size 2 encLb A n l:=(hE.below hb1).more hb1.size;go_wp2_with fail
  refine (Khx l A n c w1 false HV.out hE1 hnc hnm HZ.out).mono ?_;rintro e w2 ⟨rfl,hb2⟩;go_wp2_with fail
  go_ret2
  exact ⟨rfl,then_ hb1 hb2⟩
 ·have hm0:m=0:=by rw[←hm];exact h1
  have ho:Kfx l=encL l:=by rw[Kfx,h3,if_pos rfl]
  obtain ⟨hn0,hn8,hfit,_⟩:=Kfb h1;have hl:=hE.len;rw[ho,h3];have HV:=Jh h2;have HL:=Jh hl;have HFIT:=Jh hfit;have hn8':n≤8:=by omega
  have hnp:0 < n:=by omega
  clear hm h1 h2 h3 ho hfit;subst hm0
  have htot:(encL l).length≤1000:=by
   have h1:=Kab l.length;have h2:=Ksx HFIT.out;rw[encL,Jd];omega
  obtain ⟨b,off,rfl,_,_⟩:=hE.2 hnp;clear hl hn0 hn8;go_enter Tryz.func114,Tryz.ntmps114
  go_wp2_with fail
  refine HMK.out.mono ?_;rintro e w1 ⟨⟨v,rfl⟩,hb1⟩;have hE1:Elems w1 w1.heap.size 2 encLb (some ⟨b,off,none⟩) n l:=(hE.below hb1).more hb1.size;go_wp2_with fail
  refine (Khx l _ n c w1 true HV.out hE1 hnc hnm HZ.out).mono ?_;rintro e w2 ⟨rfl,hb2⟩;have hB2:=then_ hb1 hb2;go_upto_region 7 with fail
  have hbd:Bld w.heap.size w2.heap.size [] (w2.alloc (.cells #[.pointer none,.slice none 0 0] 109)):=Bld.new w2 hB2.size;have hB3:Below w.heap.size w (w2.alloc (.cells #[.pointer none,.slice none 0 0] 109)):=hB2.alloc hB2.size _;obtain ⟨w3,hw3⟩:∃x,w2.alloc (.cells #[.pointer none,.slice none 0 0] 109)=x:=⟨_,rfl⟩;obtain ⟨p,hp⟩:∃p,w2.heap.size=p:=⟨_,rfl⟩;rw[hw3] at hbd hB3 ⊢;rw[hp] at hbd ⊢;clear hw3 hp hE1 hb1 hb2;have hlu:=Kab n;have hu:=Kau n (by omega) w3;obtain ⟨U,hU⟩:∃U:ByteArray,(⟨(uintT n).toArray⟩:ByteArray)=U:=⟨_,rfl⟩;have hUU:U.data.toList=uintT n:=by rw[←hU]
  have hUz:U.size≤11:=by rw[←Kak,hUU];exact hlu.2
  rw[hU] at hu;have HU:=Jh hu;have HUU:=Jh hUU;clear hu hU hUU hlu;go_wp2_with fail
  refine HU.out.mono ?_;rintro e w4 ⟨rfl,hb4⟩;have hbd4:=hbd.below hb4;have hB4:=then_ hB3 hb4;clear hbd HU;go_wp2_with fail
  refine (Kaz _ p [] U w4 hbd4 (by simp;omega) hB4.size).mono ?_;rintro e w5 ⟨rfl,hbd5,hw5,_⟩;rw[List.nil_append,HUU.out] at hbd5;have hB5:=hB4.trans hw5;clear hbd4 hw5 hb4;go_upto_block 1 with fail
  go_cut [] (fun wz=>Bld w.heap.size p (encL l) wz∧Below w.heap.size w wz)
  case first=>
   go_wp2_with fail
   go_loopg [29] n (fun g s29 wr=>∃i:Nat,i+g=n∧s29 = .int .i64 (i:Int)∧Bld w.heap.size p (uintT n++(l.take i).flatMap labT) wr∧Below w.heap.size w wr)
   case atStart=>exact ⟨0,by omega,rfl,by simpa using hbd5,hB5⟩
   case round=>
    obtain ⟨i,hig,rfl,hbd,hB⟩:=hrel;have HIG:=Jh hig;clear hig
    by_cases hi:i < n
    ·have hil:i < l.length:=by have:=HL.out;omega
     have el:decide ((i:Int) < (n:Int))=true:=by simp;omega
     have el':decide (i < n)=true:=by simp;omega
     obtain ⟨hbl,c0,c1⟩:=Kbu hE hnp hB i hil;obtain ⟨x,hx⟩:∃x,l[i]! = x:=⟨_,rfl⟩;have hxm:x∈l:=by rw[←hx,getElem!_pos l i hil];exact List.getElem_mem hil
     have hxf:=HFIT.out x hxm;have hlx:=Ksw hxf.1 hxf.2;rw[hx] at c0 c1;obtain ⟨N,hN⟩:∃N:ByteArray,(⟨x.n.toArray⟩:ByteArray)=N:=⟨_,rfl⟩;obtain ⟨V,hV⟩:∃N:ByteArray,(⟨x.v.toArray⟩:ByteArray)=N:=⟨_,rfl⟩;rw[hN] at c0;rw[hV] at c1;have hNn:N.data.toList=x.n:=by rw[←hN]
     have hVv:V.data.toList=x.v:=by rw[←hV]
     have hNz:N.size≤1000:=by rw[←Kak,hNn];have:=hxf.1;simp only[fitN,Bool.and_eq_true,decide_eq_true_eq] at this;omega
     have hVz:V.size≤1000:=by rw[←Kak,hVv];have:=hxf.2;simp only[fitV,Bool.and_eq_true,decide_eq_true_eq] at this;omega
     have hsofar:(uintT n++(l.take i).flatMap labT).length+(labT x).length≤1000:=by
      have e1:l.take (i+1)=l.take i ++ [x]:=by rw[List.take_succ_eq_append_getElem hil,←hx,getElem!_pos l i hil]
      have h1:=Kab n;have h2:((l.take (i+1)).flatMap labT).length≤118*(l.take (i+1)).length:=Ksx (fun y hy=>HFIT.out y (List.mem_of_mem_take hy));have h3:(l.take (i+1)).length≤8:=by rw[List.length_take];omega
      rw[e1,List.flatMap_append,Jd] at h2;simp only[List.flatMap_cons,List.flatMap_nil,List.append_nil,←e1] at h2;rw[Jd];omega
     have hnext:(uintT n++(l.take i).flatMap labT)++textT x.n++textT x.v=uintT n++(l.take (i+1)).flatMap labT:=by
      rw[List.take_succ_eq_append_getElem hil,←getElem!_pos l i hil,hx,List.flatMap_append];simp[labT]
     obtain ⟨P0,hP0⟩:∃P,uintT n++(l.take i).flatMap labT=P:=⟨_,rfl⟩;rw[hP0] at hbd hsofar hnext;have hlab:(labT x).length=(textT x.n).length+(textT x.v).length:=by simp[labT]
     have HNEXT:=Jh hnext;have HNn:=Jh hNn;have HVv:=Jh hVv;clear hx hN hV hNn hVv hnext hP0 hxm hxf;go_upto_region 11 with fail
     have hq:Blk (wr.alloc (.cells #[.string N,.string V] 99)) wr.heap.size 99 #[.string N,.string V]:=Blk.new _ _ _;have hbq:Below wr.heap.size wr (wr.alloc (.cells #[.string N,.string V] 99)):=(Below.refl _ _).alloc (Nat.le_refl _) _;obtain ⟨v1,hv1⟩:∃w1,wr.alloc (.cells #[.string N,.string V] 99)=w1:=⟨_,rfl⟩;obtain ⟨q,hqq⟩:∃p,wr.heap.size=p:=⟨_,rfl⟩;rw[hv1] at hq hbq ⊢;have hpl:=hbd.lt;have hbd1:=hbd.below hbq;have hB1:=then_ hB hbq;have hqw:w.heap.size≤q:=by rw[←hqq];exact hB.size
     have hqp:p < q:=by rw[←hqq];exact hpl
     rw[hqq] at hq ⊢;clear hv1 hqq c0 c1 hB hbd hbq hpl;have q0:_=some (Value.string N):=hq.cell 0;have hq1l:=hq.lt;have htn:=Kfe N (by omega) v1;have htv:=fun W=>Kfe V (by omega) W
     rw[HNn.out] at htn;simp only[HVv.out] at htv;obtain ⟨TN,hTN⟩:∃T:ByteArray,(⟨(textT x.n).toArray⟩:ByteArray)=T:=⟨_,rfl⟩;obtain ⟨TV,hTV⟩:∃T:ByteArray,(⟨(textT x.v).toArray⟩:ByteArray)=T:=⟨_,rfl⟩;rw[hTN] at htn;simp only[hTV] at htv;have hTNn:TN.data.toList=textT x.n:=by rw[←hTN]
     have hTVv:TV.data.toList=textT x.v:=by rw[←hTV]
     have hTNz:TN.size=(textT x.n).length:=by rw[←Kak,hTNn]
     have hTVz:TV.size=(textT x.v).length:=by rw[←Kak,hTVv]
     have hTNz2:TN.size≤1000:=by omega
     have hTVz2:TV.size≤1000:=by omega
     have HTN:=Jh htn;have HTV:=Jh htv;have HTNn:=Jh hTNn;have HTVv:=Jh hTVv;have HTNz:=Jh hTNz;have HTVz:=Jh hTVz;have HLAB:=Jh hlab;clear htn htv hTN hTV hTNn hTVv hTNz hTVz hlab;go_wp2_with fail
     refine HTN.out.mono ?_;rintro e v2 ⟨rfl,hb2⟩;have hbd2:=hbd1.below hb2;have hB2:=then_ hB1 hb2;have hq2:=hq.below hb2 hq1l;clear hbd1 hq q0;go_wp2_with fail
     refine (Kaz _ p P0 TN v2 hbd2 (by have:=HTNz.out;have:=HLAB.out;omega) hB2.size).mono ?_;rintro e v3 ⟨rfl,hbd3,hw3,ho3⟩;rw[HTNn.out] at hbd3;have hB3':=hB2.trans hw3;have hq3:Blk v3 q 99 #[.string N,.string V]:=ho3.blk hq2 (by omega) (by decide);clear hbd2 hq2;have q1:_=some (Value.string V):=hq3.cell 1;go_wp2_with fail
     refine (HTV.out v3).mono ?_;rintro e v4 ⟨rfl,hb4⟩;have hbd4:=hbd3.below hb4;have hB4':=then_ hB3' hb4;go_wp2_with fail
     refine (Kaz _ p (P0++textT x.n) TV v4 hbd4 (by have:=HTVz.out;have:=HLAB.out;rw[Jd];omega) hB4'.size).mono ?_;rintro e v5 ⟨rfl,hbd5',hw5,_⟩;rw[HTVv.out,HNEXT.out] at hbd5';go_wp2_with fail
     go_roundg (gk - 1)
     case measure=>have:=HIG.out;omega
     case rel=>exact ⟨i+1,by have:=HIG.out;omega,by go_num,hbd5',hB4'.trans hw5⟩
    ·have el:decide ((i:Int) < (n:Int))=false:=by simp;omega
     have el':decide (i < n)=false:=by simp;omega
     have hfin:uintT n++(l.take i).flatMap labT=encL l:=by
      have:=HL.out;rw[List.take_of_length_le (by omega),encL,this]
     rw[hfin] at hbd;clear hfin;go_wp2_with fail
     go_meet
     exact ⟨hbd,hB⟩
  case rest=>
   obtain ⟨hbd,hB⟩:=hcut;obtain ⟨w6,rfl⟩:∃x,x=wc:=⟨_,rfl⟩;go_wp2_with fail
   refine (Kdq _ p _ w6 hbd hB.size).mono ?_;rintro e w7 ⟨rfl,hw7⟩;go_wp2_with fail
   go_ret2
   exact ⟨rfl,hB.trans hw7⟩
end
section
open Go.RowKit Go.Sort
attribute [local go_sem ↓] Go.wp_at_zero Go.wp_at_succ
attribute [local go_sem] Later.cell
def txtV (s:Txt):Value:=.string ⟨s.toArray⟩
def enc1 (s:Txt):List Value:=[txtV s]
def Strs (w:World) (A:Option Addr) (n:Nat) (l:List Txt):Prop:=Elems w w.heap.size 1 enc1 A n l
section
variable {w w' : World} {A : Option Addr} {n : Nat} {l : List Txt}
theorem Strs.below (h:Strs w A n l) (hb:Below w.heap.size w w'):Strs w' A n l:=(Elems.below h hb).more hb.size
theorem Strs.len (h:Strs w A n l):l.length=n:=Elems.len h
theorem Strs.at_ (h:Strs w A n l) {i:Nat} (hi:i < n):∃b off,A=some ⟨b,off,none⟩∧b < w.heap.size∧w.cell? ⟨b,off+i,none⟩=some (txtV l[i]!):=by
 obtain ⟨b,off,e,hb,hc⟩:=h.2 (by omega);have hl:i < l.length:=by have:=h.len;omega
 refine ⟨b,off,e,hb,?_⟩;have:=hc i l[i]! (by rw[getElem!_pos l i hl,List.getElem?_eq_getElem hl]) 0 _ rfl;simpa using this
end
theorem Strs.of_own {w:World} {base:Nat} {v:Value} {n:Nat} {l:List Txt} (h:w.ownsRow base 9 1 v n (l.map txtV)) (hn:l.length=n):∃A c,v = .slice A n c∧Strs w A n l∧(∀a,A=some a→base≤a.block)∧n≤c:=by
 obtain ⟨A,c,h1,h2,h3,h4⟩:=Elems.of_own (enc:=enc1) (xs:=l) (fun _ _=>rfl) (by
  clear h hn
  induction l with
  | nil=>rfl
  | cons x l ih=>simp[enc1,ih]) h hn
 exact ⟨A,c,h1,h2,h3,h4⟩
def TabAt (w:World) (v:Value) (t:List Txt):Prop:=
 ∃A n c,((v = .pointer none∧A=none∧n=0∧c=0)∨∃p,v = .pointer (some ⟨p,0,none⟩)∧Blk w p 197 #[.slice A n c])∧Strs w A n t∧n≤c
theorem TabAt.below {w w':World} {v:Value} {t:List Txt} (h:TabAt w v t) (hb:Below w.heap.size w w'):TabAt w' v t:=by
 obtain ⟨A,n,c,h1,h2,h3⟩:=h;refine ⟨A,n,c,?_,h2.below hb,h3⟩;rcases h1 with h1 | ⟨p,h4,h5⟩
 ·exact .inl h1
 ·exact .inr ⟨p,h4,h5.below hb h5.lt⟩
def OfOut (w:World) (l:List Txt) (e:Ending) (w':World):Prop:=
 ∃p t,e = .returned (.pointer (some ⟨p,0,none⟩))∧TabAt w' (.pointer (some ⟨p,0,none⟩)) t∧IsTab l t∧t.length≤l.length∧Below w.heap.size w w'∧w.heap.size≤p
end
end Go.Proofs.YtdoiekknhnbepaaGreatDoor
