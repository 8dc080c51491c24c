/- Merged (what the claim wants of): SortRow, BackPlain, LabCmpW, LabCmpG, MrgPut, MrgPut2, SpnPlain, PostPlain, CrcPlain, BlkPlain2, BlkPlain3, PostWalksA, KeyMap, KeyMap2, BitWalks, ResRow. -/
import Derived.Test.YtdoiekknhnbepaaGreatDoorCob01
import Derived.Shelf.SlSortCmp.NoneTotal
import Derived.Test.YtdoiekknhnbepaaGreatDoorCob02
import Derived.OneCell
import Derived.Shelf.SlSortCmp.QuietGrown
import Derived.Shelf.SlSortCmp.KitK
import Derived.Lib.SliceRun
import Derived.WideKeyEntry
import Derived.DeepKeys4
import Derived.MapKept
import Derived.Carry
import Derived.Maps.Range
import Derived.Test.YtdoiekknhnbepaaGreatDoorProg
import Derived.Lib.Bytealg
import Derived.Maps.AppendAt
import Derived.WalkKit
set_option linter.unusedVariables false
set_option linter.unusedSimpArgs false
set_option maxRecDepth 100000
set_option maxHeartbeats 8000000
namespace Go.Proofs.YtdoiekknhnbepaaGreatDoor
section
open Go.RowKit Go.Shelf Go.Sort
theorem Kdd {α : Type} {enc:α→List Value} {k:Nat} (hk:∀x,(enc x).length=k) (l:List α):(l.flatMap enc).length=l.length*k:=by
 induction l with
 | nil=>simp
 | cons x l ih=>rw[List.flatMap_cons,List.length_append,ih,hk,List.length_cons,Nat.succ_mul];omega
theorem Kct {α : Type} {enc:α→List Value} {k:Nat} (hk:∀x,(enc x).length=k):∀(l:List α) (i j:Nat) (x:α),l[i]? = some x→j < k→(l.flatMap enc)[i*k+j]? = (enc x)[j]?
 | [],_,_,_,h,_=>by simp at h
 | y :: l,0,j,x,h,hj=>by
  simp only[List.getElem?_cons_zero,Option.some.injEq] at h;subst h;rw[List.flatMap_cons,List.getElem?_append_left (by rw[hk];omega),Nat.zero_mul,Nat.zero_add]
 | y :: l,i+1,j,x,h,hj=>by
  rw[List.flatMap_cons,List.getElem?_append_right (by rw[hk,Nat.succ_mul];omega),hk,show (i+1)*k+j - k=i*k+j by rw[Nat.succ_mul];omega];exact Kct hk l i j x (by simpa using h) hj
theorem Kjy {α : Type} [Inhabited α] {enc:α→List Value} {k:Nat} (hk:∀x,(enc x).length=k) (h0:0 < k) {l:List α} {t:Nat} (h:t < l.length*k):(l.flatMap enc)[t]? = some ((enc l[t / k]!)[t % k]!):=by
 have hl:t / k < l.length:=Nat.div_lt_of_lt_mul (by rw[Nat.mul_comm];exact h);have h1:l[t / k]? = some l[t / k]!:=by rw[getElem!_pos l _ hl,List.getElem?_eq_getElem hl]
 have h2:=Kct hk l (t / k) (t % k) _ h1 (Nat.mod_lt _ h0);rw[show t / k*k+t % k=t by rw[Nat.mul_comm];exact Nat.div_add_mod t k] at h2;have h3:t % k < (enc l[t / k]!).length:=by rw[hk];exact Nat.mod_lt _ h0
 rw[h2,List.getElem?_eq_getElem h3,getElem!_pos (enc l[t / k]!) _ h3]
section
variable {α : Type} [Inhabited α] {enc : α → List Value} {k : Nat} {w : World} {B g n cap : Nat} {T : TypeId} {l : List α}
theorem Key (hk:∀x,(enc x).length=k) (h0:0 < k) (hown:w.ownsRow B T k (.slice (some ⟨g,0,none⟩) n cap) n (l.flatMap enc)) (hl:l.length=n):HoldsK enc k w g 0 l.toArray:=by
 rcases hown.2 with ⟨he,_⟩ | ⟨g',cap',cur,he,h1,h2,h3,h4,h5,h6⟩
 ·cases he
 ·injection he with he _ hcc;injection he with he;injection he with he _ _;subst he hcc;intro t ht;rw[size_flatK] at ht;have ht':t < l.length*k:=by simpa using ht
  refine ⟨?_,by simp[World.frozen?,h2]⟩;rw[get_flatK _ _ _ _ ht,Nat.zero_add,cell_of_row w g t cur _ (0,0) h2]
  have e1:cur[t]? = (l.flatMap enc)[t]?:=by
   rw[←h6,List.getElem?_take_of_lt (by rw[hl] at ht';exact ht')];simp
  rw[e1,Kjy hk h0 ht'];simp only[List.getElem!_toArray,id]
theorem Kvc (enc:α→List Value) (k:Nat) (w:World) (blk off n:Nat) (d:Array α) (os:Array Obj):w.grownBy (sortWorldK enc k w blk off n d os) (some blk):=by
 refine ⟨rfl,rfl,rfl,?_,?_⟩
 ·simp[sortWorldK,grow,putRowK,putRow,mapBlock,Sort.ahead]
 ·intro j hj hne;have hb:¬blk=j:=fun e=>hne (by rw[e])
  simp only[sortWorldK,grow,putRowK,putRow,mapBlock,Sort.ahead];rw[Array.getElem?_append_left (by simpa using hj),Array.getElem?_modify,if_neg hb]
theorem Kfd (hk:∀x,(enc x).length=k) (h0:0 < k) (hown:w.ownsRow B T k (.slice (some ⟨g,0,none⟩) n cap) n (l.flatMap enc)) (hl:l.length=n) (d:Array α) (hd:d.size=n) (m:Nat) (os:Array Obj) :
  (sortWorldK enc k w g 0 m d os).ownsRow B T k (.slice (some ⟨g,0,none⟩) n cap) n (d.toList.flatMap enc):=by
 have hlt:=World.ownsRow.lt hown g rfl;rcases hown.2 with ⟨he,_⟩ | ⟨g',cap',cur,he,h1,h2,h3,h4,h5,h6⟩
 ·cases he
 ·injection he with he _ hcc;injection he with he;injection he with he _ _;subst he hcc;refine ⟨by rw[Kdd hk];simp[hd],.inr ⟨g,cap,putCells id 0 (flatK enc k d) cur,rfl,h1,?_,h3,h4,by simp[putCells,h5],?_⟩⟩
  ·simp only[sortWorldK,grow,putRowK,putRow,mapBlock,Sort.ahead];rw[Array.getElem?_append_left (by simpa using hlt.2),Array.getElem?_modify,if_pos rfl,h2];rfl
  ·apply List.ext_getElem?;intro t
   by_cases ht:t < n*k
   ·rw[List.getElem?_take_of_lt ht,Kjy hk h0 (by simpa[hd] using ht)];have htc:t < cur.size:=by rw[h5];exact Nat.lt_of_lt_of_le ht (Nat.mul_le_mul_right k h3)
    have hts:t < (flatK enc k d).size:=by rw[size_flatK,hd];exact ht
    simp only[putCells,Array.getElem?_toList,Array.getElem?_mapIdx,Array.getElem?_eq_getElem htc,Option.map_some];rw[if_pos ⟨Nat.zero_le _,by simpa using hts⟩,Nat.sub_zero,get_flatK _ _ _ _ (by rw[hd];exact ht)];congr 2;have hq:t / k < d.size:=Nat.div_lt_of_lt_mul (by rw[Nat.mul_comm,hd];exact ht);rw[getElem!_pos d _ hq,getElem!_pos d.toList _ (by simpa using hq)];simp
   ·rw[List.getElem?_eq_none (by rw[List.length_take];omega),List.getElem?_eq_none (by rw[Kdd hk];simp[hd];omega)]
theorem Kyp {d:Array α} (hl:l.length=n) (h:PermIn 0 n l.toArray d):d.size=n∧d.toList.Perm l:=by
 obtain ⟨hsz,_,hpm⟩:=h;have hsz':d.size=n:=by rw[hsz];simpa using hl
 refine ⟨hsz',?_⟩;have e1:(d.extract 0 n)=d:=by rw[←hsz'];simp
 have e2:(l.toArray.extract 0 n)=l.toArray:=by rw[←hl];simp
 rw[e1,e2] at hpm;simpa using hpm
theorem Kym {d:Array α} {lt:α→α→Bool} (hd:d.size=n) (h:SortedIn lt 0 n d):d.toList.Pairwise fun a b=>lt b a=false:=by
 rw[List.pairwise_iff_getElem];intro i j hi hj hij;have hi':i < d.size:=by simpa using hi
 have hj':j < d.size:=by simpa using hj
 have:=h i j (Nat.zero_le _) hij (by omega);rw[getElem!_pos d j hj',getElem!_pos d i hi'] at this;exact this
end
end
section
theorem Qce {t:List Txt} (ha:Asc t) {x:Txt} (hx:x∈t):t[below t x]? = some x:=by
 obtain ⟨i,hi,e⟩:=List.getElem_of_mem hx;have h1:t[i]? = some x:=by rw[List.getElem?_eq_getElem hi,e]
 rw[Qcd ha h1];exact h1
theorem Kvm {t:List Txt} (ha:Asc t) {x:Txt} (hx:x∈t):numR t x=(below t x,0):=by rw[numR,if_pos (Qce ha hx)]
def pkS (t:List Txt) (xs:List Txt):List UInt8:=xs.flatMap fun x=>uintT (below t x)
def pk (t:List Txt) (l:List Lb):List UInt8:=uintT l.length++pkS t (texts l)
theorem Ktq (t:List Txt) (x:Txt) (r:List Txt):pkS t (x :: r)=uintT (below t x)++pkS t r:=rfl
theorem Kqc {t:List Txt} (ha:Asc t):∀xs:List Txt,(∀x∈xs,x∈t)→packS t xs=some (pkS t xs)
 | [],_=>rfl
 | x :: r,h=>by
  rw[packS,Kvm ha (h x (by simp)),Kqc ha r (fun y hy=>h y (by simp[hy]))];simp[Ktq]
theorem Qbb {t:List Txt} (ha:Asc t) {l:List Lb} (he:Kdi l=0) (h:∀x∈texts l,x∈t):packR t l=(pk t l,0):=by
 rw[packR,he,Kqc ha _ h];simp[pk]
theorem Kxb (t:List Txt):∀xs:List Txt,(pkS t xs).length≤11*xs.length
 | []=>by simp[pkS]
 | x :: r=>by
  have h1:=Kxb t r;have h2:=Kab (below t x);rw[Ktq,List.length_append,List.length_cons];omega
theorem Qbf (t:List Txt) (l:List Lb):(pk t l).length≤11+22*l.length:=by
 have h1:=Kxb t (texts l);have h2:=Kab l.length
 have h3:(texts l).length=2*l.length:=by
  clear h1 h2
  induction l with
  | nil=>rfl
  | cons x l ih=>rw[Kix,List.length_cons,List.length_cons,ih,List.length_cons];omega
 unfold pk;rw[List.length_append];omega
end
section
open Go.RowKit Go.Sort
open Lib renaming hid → Jh
attribute [local go_sem ↓] Go.wp_at_zero Go.wp_at_succ
attribute [local go_sem] Later.cell
theorem Kii:∀a b:Txt,Lib.compareBytes a b=if a < b then -1 else if b < a then 1 else 0
 | [],[]=>by simp[Lib.compareBytes]
 | [],_ :: _=>by simp[Lib.compareBytes]
 | _ :: _,[]=>by simp[Lib.compareBytes]
 | x :: a,y :: b=>by
  have ih:=Kii a b;rw[Lib.compareBytes]
  by_cases h1:x < y
  ·have:x :: a < y :: b:=List.cons_lt_cons_iff.2 (.inl h1);rw[if_pos h1,if_pos this]
  ·by_cases h2:y < x
   ·have h3:y :: b < x :: a:=List.cons_lt_cons_iff.2 (.inl h2);have h4:¬x :: a < y :: b:=fun h=>List.lt_asymm h h3
    rw[if_neg h1,if_pos h2,if_neg h4,if_pos h3]
   ·have e:x=y:=UInt8.le_antisymm (UInt8.not_lt.1 h2) (UInt8.not_lt.1 h1);subst e;rw[if_neg h1,if_neg h1,ih];have e1:(x :: a < x :: b)↔a < b:=by rw[List.cons_lt_cons_iff];simp
    have e2:(x :: b < x :: a)↔b < a:=by rw[List.cons_lt_cons_iff];simp
    by_cases h3:a < b
    ·rw[if_pos h3,if_pos (e1.2 h3)]
    ·rw[if_neg h3,if_neg (fun h=>h3 (e1.1 h))]
     by_cases h4:b < a
     ·rw[if_pos h4,if_pos (e2.2 h4)]
     ·rw[if_neg h4,if_neg (fun h=>h4 (e2.1 h))]
def cmp1 (x y:Lb):Int:=if Lib.compareBytes x.n y.n≠0 then Lib.compareBytes x.n y.n else Lib.compareBytes x.v y.v
theorem Kpo (x y:Lb) (a b:List Lb):cmpL (x :: a) (y :: b)=if cmp1 x y≠0 then cmp1 x y else cmpL a b:=by
 rw[cmpL];unfold cmp1;rw[Kii x.n y.n,Kii x.v y.v]
 by_cases h1:x.n < y.n
 ·simp[h1]
 ·by_cases h2:y.n < x.n
  ·simp[h1,h2]
  ·by_cases h3:x.v < y.v
   ·simp[h1,h2,h3]
   ·by_cases h4:y.v < x.v
    ·simp[h1,h2,h3,h4]
    ·simp[h1,h2,h3,h4]
set_option maxHeartbeats 400000 in
theorem Kqb (g:Nat) (a b:Int) (w:World) (hq:Blk w g 3 #[.int .i64 a,.int .i64 b]) :
  Calls Tryz.prog 129 #[.slice (some ⟨g,0,none⟩) 2 2] w fun e w'=>e = .returned (.int .i64 (if a≠0 then a else b))∧w=w':=by
 have q0:w.cell? ⟨g,0,none⟩=some (Value.int .i64 a):=hq.cell 0;have q1:w.cell? ⟨g,1,none⟩=some (Value.int .i64 b):=hq.cell 1;clear hq
 by_cases h0:a=0
 ·subst h0;rw[if_neg (by simp)]
  by_cases h1:b=0
  ·subst h1;go_enter Tryz.func129,Tryz.ntmps129
   go_wp2_with fail
   refine wp_loop_rounds 3 ?_;rw[rounds_succ];go_wp2_with fail
   rw[rounds_succ];go_wp2_with fail
   rw[rounds_succ];go_wp2_with fail
   go_ret
   exact ⟨rfl,rfl⟩
  ·have e1:(b != 0)=true:=by simp[h1]
   go_enter Tryz.func129,Tryz.ntmps129
   go_wp2_with fail
   refine wp_loop_rounds 3 ?_;rw[rounds_succ];go_wp2_with fail
   rw[rounds_succ];go_wp2_with fail
   go_ret
   exact ⟨rfl,rfl⟩
 ·rw[if_pos h0];have e1:(a != 0)=true:=by simp[h0]
  go_enter Tryz.func129,Tryz.ntmps129
  go_wp2_with fail
  refine wp_loop_rounds 3 ?_;rw[rounds_succ];go_wp2_with fail
  go_ret
  exact ⟨rfl,rfl⟩
theorem Kom (x y:Lb) (w:World) :
  Calls Tryz.prog 128 #[.agg #[.string ⟨x.n.toArray⟩,.string ⟨x.v.toArray⟩],.agg #[.string ⟨y.n.toArray⟩,.string ⟨y.v.toArray⟩]] w fun e w'=>e = .returned (.int .i64 (cmp1 x y))∧Below w.heap.size w w':=by
 obtain ⟨ca,hca⟩:∃ca,Lib.compareBytes x.n y.n=ca:=⟨_,rfl⟩;obtain ⟨cb,hcb⟩:∃cb,Lib.compareBytes x.v y.v=cb:=⟨_,rfl⟩
 have hbn:∀W:World,Calls Tryz.prog 130 #[.agg #[.string ⟨x.n.toArray⟩,.string ⟨x.v.toArray⟩],.agg #[.string ⟨y.n.toArray⟩,.string ⟨y.v.toArray⟩]] W fun e w'=>e = .returned (.int .i64 ca)∧Below W.heap.size W w':=fun W=>by
  have:=Kjn x y W;rwa[hca] at this
 have hco:∀W:World,Calls Tryz.prog 131 #[.string ⟨x.v.toArray⟩,.string ⟨y.v.toArray⟩] W fun e w'=>e = .returned (.int .i64 cb)∧W=w':=fun W=>by
  refine (Tryz.strings_Compare ⟨x.v.toArray⟩ ⟨y.v.toArray⟩ W).mono ?_;rintro e w' ⟨rfl,rfl⟩;exact ⟨by rw[←hcb],rfl⟩
 have hr:cmp1 x y=if ca≠0 then ca else cb:=by unfold cmp1;rw[hca,hcb]
 obtain ⟨rr,hrr⟩:∃rr,(if ca≠0 then ca else cb)=rr:=⟨_,rfl⟩;rw[hr,hrr];have HRR:=Jh hrr;clear hca hcb hr hrr;obtain ⟨N,hN⟩:∃N:ByteArray,(⟨x.n.toArray⟩:ByteArray)=N:=⟨_,rfl⟩;obtain ⟨V,hV⟩:∃N:ByteArray,(⟨x.v.toArray⟩:ByteArray)=N:=⟨_,rfl⟩;obtain ⟨N2,hN2⟩:∃N:ByteArray,(⟨y.n.toArray⟩:ByteArray)=N:=⟨_,rfl⟩;obtain ⟨V2,hV2⟩:∃N:ByteArray,(⟨y.v.toArray⟩:ByteArray)=N:=⟨_,rfl⟩;rw[hN,hV,hN2,hV2] at hbn ⊢;rw[hV,hV2] at hco;have HBN:=Jh hbn;have HCO:=Jh hco;clear hN hV hN2 hV2 hbn hco;go_enter Tryz.func128,Tryz.ntmps128
 go_upto_region 1 with fail
 obtain ⟨w1,hw1⟩:∃x,(w.alloc (.cells #[.string N,.string V] 99)).alloc (.cells #[.string N2,.string V2] 99)=x:=⟨_,rfl⟩;have hb1:Below w.heap.size w w1:=by rw[←hw1];exact ((Below.refl _ _).alloc (Nat.le_refl _) _).alloc (by simp) _
 have hq:Blk w1 w.heap.size 99 #[.string N,.string V]:=by rw[←hw1];exact (Blk.new _ _ _).alloc _
 have hp:Blk w1 (w.heap.size+1) 99 #[.string N2,.string V2]:=by rw[←hw1];exact Blk.newAt (by simp)
 rw[hw1];obtain ⟨a,hA⟩:∃a,w.heap.size=a:=⟨_,rfl⟩;rw[hA] at hq hp ⊢;clear hw1;have q0:_=some (Value.string N):=hq.cell 0;have q1:_=some (Value.string V):=hq.cell 1;have p0:_=some (Value.string N2):=hp.cell 0;have p1:_=some (Value.string V2):=hp.cell 1;have hql:=hq.lt;have hpl:=hp.lt;refine Kaj 8 (by kernel_rfl) (by kernel_rfl) ?_;simp only[List.take_succ_cons,List.take_zero,List.drop_succ_cons,List.drop_zero]
 repeat (go_big_quiet_step ((first | (go_at_call 130;exact Kal _ (HBN.out _)) | (go_at_call 131;exact Knp _ (HCO.out _)))))
 refine wpQuiet_nil ?_;rintro w2 ⟨⟨_,hb2⟩,rfl⟩;have hB2:Below w.heap.size w w2:=then_ hb1 hb2;go_wp2_with fail
 have hg:Blk (w2.alloc (.cells #[.int .i64 ca,.int .i64 cb] 3)) w2.heap.size 3 #[.int .i64 ca,.int .i64 cb]:=Blk.new _ _ _;refine (Kqb _ ca cb _ hg).mono ?_;rintro _ w3 ⟨rfl,rfl⟩;rw[HRR.out];go_wp2_with fail
 go_ret
 exact ⟨rfl,by first | exact hB2.alloc hB2.size _ | (rw[←hA];exact hB2.alloc hB2.size _)⟩
theorem Kjr (l m:List Lb) (A B:Option Addr) (n k ca cb:Nat) (w:World) (r:Int) (hr:cmpL l m=r) (hA:Elems w w.heap.size 2 encLb A n l) (hB:Elems w w.heap.size 2 encLb B k m) (hn:n≤140737488351232) (hk:k≤140737488351232) :
  Calls Tryz.prog 127 #[.slice A n ca,.slice B k cb,.func (.func 128) #[] #[]] w fun e w'=>e = .returned (.int .i64 r)∧Below w.heap.size w w':=by
 have hl:=hA.len;have hm:=hB.len;have HL:=Jh hl;have HM:=Jh hm;have HR:=Jh hr;clear hl hm hr;go_enter Tryz.func127,Tryz.ntmps127
 go_wp2_with fail
 go_loopg [13] n (fun g s13 wr=>∃i:Nat,i+g=n∧s13 = .int .i64 (i:Int)∧Below w.heap.size w wr∧i≤k∧cmpL (l.drop i) (m.drop i)=r)
 case atStart=>exact ⟨0,by omega,rfl,Below.refl _ _,Nat.zero_le _,HR.out⟩
 case round=>
  obtain ⟨i,hig,rfl,hBw,hik,hcr⟩:=hrel;have HIG:=Jh hig;have HCR:=Jh hcr;clear hig hcr
  by_cases hi:i < n
  ·have el:decide ((i:Int) < (n:Int))=true:=by simp;omega
   have el':decide (i < n)=true:=by simp;omega
   have hil:i < l.length:=by have:=HL.out;omega
   have hdl:l.drop i=l[i]! :: l.drop (i+1):=by rw[getElem!_pos l i hil];exact List.drop_eq_getElem_cons hil
   obtain ⟨ba,oa,rfl,_,_⟩:=hA.2 (by omega);obtain ⟨hba,a0,a1⟩:=Kbu hA (by omega) hBw i hil;obtain ⟨X,hX⟩:∃N:ByteArray,(⟨l[i]!.n.toArray⟩:ByteArray)=N:=⟨_,rfl⟩;obtain ⟨Y,hY⟩:∃N:ByteArray,(⟨l[i]!.v.toArray⟩:ByteArray)=N:=⟨_,rfl⟩;have HX:=Jh hX;have HY:=Jh hY;have HDL:=Jh hdl;rw[hX] at a0;rw[hY] at a1;clear hX hY hdl
   by_cases hk2:i < k
   ·have eg:decide ((k:Int)≤(i:Int))=false:=by simp;omega
    have eg':decide (k≤i)=false:=by simp;omega
    have him:i < m.length:=by have:=HM.out;omega
    have hdm:m.drop i=m[i]! :: m.drop (i+1):=by rw[getElem!_pos m i him];exact List.drop_eq_getElem_cons him
    obtain ⟨bb,ob,rfl,_,_⟩:=hB.2 (by omega);have hcmp:=fun W=>Kom l[i]! m[i]! W
    obtain ⟨X2,hX2⟩:∃N:ByteArray,(⟨m[i]!.n.toArray⟩:ByteArray)=N:=⟨_,rfl⟩;obtain ⟨Y2,hY2⟩:∃N:ByteArray,(⟨m[i]!.v.toArray⟩:ByteArray)=N:=⟨_,rfl⟩;have HX2:=Jh hX2;have HY2:=Jh hY2;have hcr:=HCR.out;rw[HDL.out,hdm,Kpo] at hcr;obtain ⟨c,hc⟩:∃c,cmp1 l[i]! m[i]! = c:=⟨_,rfl⟩;simp only[HX.out,HY.out,hX2,hY2,hc] at hcmp;rw[hc] at hcr;have HCMP:=Jh hcmp;have HC1:=Jh hcr;clear hX2 hY2 hcmp hcr hc hdm;go_upto_region 4 with fail
    obtain ⟨w1,hw1⟩:∃x,wr.alloc (.cells #[.string X,.string Y] 99)=x:=⟨_,rfl⟩;have hB1:Below w.heap.size w w1:=by rw[←hw1];exact hBw.alloc hBw.size _
    have hq:Blk w1 wr.heap.size 99 #[.string X,.string Y]:=by rw[←hw1];exact Blk.new _ _ _
    rw[hw1];obtain ⟨p,hp⟩:∃p,wr.heap.size=p:=⟨_,rfl⟩;rw[hp] at hq ⊢;obtain ⟨hbb,b0,b1⟩:=Kbu hB (by omega) hB1 i him;rw[HX2.out] at b0;rw[HY2.out] at b1;clear hw1 hp a0 a1 hBw;go_upto_region 7 with fail
    obtain ⟨w2,hw2⟩:∃x,w1.alloc (.cells #[.string X2,.string Y2] 99)=x:=⟨_,rfl⟩;have hB2:Below w.heap.size w w2:=by rw[←hw2];exact hB1.alloc hB1.size _
    have hq2:Blk w2 p 99 #[.string X,.string Y]:=by rw[←hw2];exact hq.alloc _
    have hr2:Blk w2 w1.heap.size 99 #[.string X2,.string Y2]:=by rw[←hw2];exact Blk.new _ _ _
    rw[hw2];obtain ⟨p2,hp2⟩:∃p,w1.heap.size=p:=⟨_,rfl⟩;rw[hp2] at hr2 ⊢;clear hw2 hp2 b0 b1 hB1 hq;have q0:_=some (Value.string X):=hq2.cell 0;have q1:_=some (Value.string Y):=hq2.cell 1;have r0:_=some (Value.string X2):=hr2.cell 0;have r1:_=some (Value.string Y2):=hr2.cell 1;go_wp2_with fail
    refine (HCMP.out w2).mono ?_;rintro _ w3 ⟨rfl,hb3⟩;have hB3:=then_ hB2 hb3
    by_cases h0:c=0
    ·subst h0;have h1:=HC1.out;rw[if_neg (by simp)] at h1;have HC2:=Jh h1;clear h1;go_wp2_with fail
     go_roundg (gk - 1)
     case measure=>have:=HIG.out;omega
     case rel=>exact ⟨i+1,by have:=HIG.out;omega,by go_num,hB3,by omega,HC2.out⟩
    ·have e0:(c != 0)=true:=by simp[h0]
     have h1:=HC1.out;rw[if_pos h0] at h1;have HC2:=Jh h1;clear h1;go_wp2_with fail
     go_ret
     exact ⟨by rw[←HC2.out];rfl,hB3⟩
   ·have eg:decide ((k:Int)≤(i:Int))=true:=by simp;omega
    have eg':decide (k≤i)=true:=by simp;omega
    have hdm:m.drop i = []:=List.drop_eq_nil_of_le (by have:=HM.out;omega);have hcr:=HCR.out;rw[HDL.out,hdm] at hcr;have h1:(1:Int)=r:=hcr;have H1:=Jh h1;clear hdm hcr h1;go_wp2_with fail
    go_ret
    exact ⟨by rw[←H1.out];rfl,hBw.alloc hBw.size _⟩
  ·have hin:i=n:=by have:=HIG.out;omega
   subst hin;have hdl:l.drop i = []:=List.drop_eq_nil_of_le (by have:=HL.out;omega);have hcr:=HCR.out;rw[hdl] at hcr;have el:decide ((i:Int) < (i:Int))=false:=by simp
   by_cases hk2:i < k
   ·have eg:decide ((i:Int) < (k:Int))=true:=by simp;omega
    have eg':decide (i < k)=true:=by simp;omega
    have him:i < m.length:=by have:=HM.out;omega
    have hdm:m.drop i=m[i] :: m.drop (i+1):=List.drop_eq_getElem_cons him;rw[hdm] at hcr;have h1:(-1:Int)=r:=hcr;have H1:=Jh h1;clear hdm hcr h1 hdl;go_wp2_with fail
    go_ret
    exact ⟨by rw[←H1.out];rfl,hBw⟩
   ·have eg:decide ((i:Int) < (k:Int))=false:=by simp;omega
    have eg':decide (i < k)=false:=by simp;omega
    have hdm:m.drop i = []:=List.drop_eq_nil_of_le (by have:=HM.out;omega);rw[hdm] at hcr;have h1:(0:Int)=r:=hcr;have H1:=Jh h1;clear hdm hcr h1 hdl;go_wp2_with fail
    go_ret
    exact ⟨by rw[←H1.out];rfl,hBw⟩
set_option maxHeartbeats 400000 in
theorem Kot (l m:List Lb) (A B:Option Addr) (n k ca cb:Nat) (w:World) (r:Int) (hr:cmpL l m=r) (hA:Elems w w.heap.size 2 encLb A n l) (hB:Elems w w.heap.size 2 encLb B k m) (hn:n≤140737488351232) (hk:k≤140737488351232) :
  Calls Tryz.prog 60 #[.slice A n ca,.slice B k cb] w fun e w'=>e = .returned (.int .i64 r)∧Below w.heap.size w w':=by
 have HC:=Jh (Kjr l m A B n k ca cb w r hr hA hB hn hk);clear hr;go_enter Tryz.func60,Tryz.ntmps60
 go_wp2_with fail
 refine HC.out.mono ?_;rintro _ w1 ⟨rfl,hb⟩;go_wp2_with fail
 go_ret
 exact ⟨rfl,hb⟩
end
section
open Go.RowKit Go.Sort
open Lib renaming hid → Jh
attribute [local go_sem ↓] Go.wp_at_zero Go.wp_at_succ
def Grown (w w':World):Prop:=∃p:GrownBy,w'=grow (w.drewN p.n) p.os
section
variable {w w1 w2 : World}
theorem Grown.of (w:World) (q:Nat) (os:Array Obj):Grown w (grow (w.drewN q) os):=⟨⟨q,os⟩,rfl⟩
theorem Grown.refl (w:World):Grown w w:=⟨⟨0,#[]⟩,by rw[grow_empty];rfl⟩
theorem Grown.trans (h:Grown w w1) (k:Grown w1 w2):Grown w w2:=by
 obtain ⟨p,rfl⟩:=h;obtain ⟨q,rfl⟩:=k;exact ⟨⟨p.n+q.n,p.os++q.os⟩,by show grow (grow ((w.drewN p.n).drewN q.n) p.os) q.os=_;rw[grow_grow,World.drewN_drewN]⟩
theorem Grown.below (h:Grown w w1):Below w.heap.size w w1:=by
 obtain ⟨p,rfl⟩:=h;exact below_grown w p.n p.os
theorem Grown.alloc (h:Grown w w1) (o:Obj):Grown w (w1.alloc o):=h.trans ⟨⟨0,#[o]⟩,by rw[alloc_eq_grow];rfl⟩
theorem Grown.drew (h:Grown w w1):Grown w w1.drew:=h.trans ⟨⟨1,#[]⟩,by rw[grow_empty];rfl⟩
end
structure Kbs (w0:World) where
 w:World
 h:Grown w0 w
instance Kbs.some {w:World}:Nonempty (Kbs w):=⟨⟨w,Grown.refl _⟩⟩
theorem Kbs.cell {w:World} (x:Kbs w) (b o:Nat) (hb:b < w.heap.size):x.w.cell? ⟨b,o,none⟩=w.cell? ⟨b,o,none⟩:=x.h.below.cell (p:=⟨b,o,none⟩) hb
attribute [local go_sem] Kbs.cell
theorem Kat {P:Program} {f:FuncId} {args:Array Value} {w:World} (x:Kbs w) {v:Value} (h:Calls P f args x.w fun e w'=>e = .returned v∧Grown x.w w') :
  Calls P f args x.w fun e w''=>e = .returned v∧∃y:Kbs w,w''=y.w:=
 h.mono fun _ w' ⟨he,hb⟩=>⟨he,⟨w',x.h.trans hb⟩,rfl⟩
theorem Kwa {P:Program} {f:FuncId} {args:Array Value} {w:World} (x:Kbs w) {v:Value} (h:Calls P f args x.w fun e w'=>e = .returned v∧x.w=w') :
  Calls P f args x.w fun e w''=>e = .returned v∧∃y:Kbs w,w''=y.w:=
 h.mono fun _ _ ⟨he,hb⟩=>⟨he,x,hb.symm⟩
theorem Kas {P:Program} {id:Nat} {Q:Exit→Act→World→Prop} {a:Act} {w:World} {l:List Oper} (n:Nat) (hm:P.follows .mixedOrders=true) (hB:Region.lexTailB .any l.toArray n=true)
  (h:wpQuiet P l.toArray (fun w'=>∃x:Kbs w,w'=x.w) (fun a'=>∀w',(∃x:Kbs w,w'=x.w)→wpList P l.toArray Q (l.drop n) a' w') (l.take n) a):(Code.region id l.toArray true).wp P Q a w:=
 Kfh (C:=fun w'=>∃x:Kbs w,w'=x.w) n hm hB ⟨⟨w.drew,(Grown.refl _).drew⟩,rfl⟩ h
theorem Qem (x y:Lb) (W:World) :
  Calls Tryz.prog 130 #[.agg #[.string ⟨x.n.toArray⟩,.string ⟨x.v.toArray⟩],.agg #[.string ⟨y.n.toArray⟩,.string ⟨y.v.toArray⟩]] W fun e w'=>e = .returned (.int .i64 (Lib.compareBytes x.n y.n))∧Grown W w':=by
 refine (Kgr x y W).mono ?_;rintro e w' ⟨he,q,os,rfl⟩;exact ⟨he,Grown.of _ _ _⟩
theorem Kmu (x y:Lb) (w:World) :
  Calls Tryz.prog 128 #[.agg #[.string ⟨x.n.toArray⟩,.string ⟨x.v.toArray⟩],.agg #[.string ⟨y.n.toArray⟩,.string ⟨y.v.toArray⟩]] w fun e w'=>e = .returned (.int .i64 (cmp1 x y))∧Grown w w':=by
 obtain ⟨ca,hca⟩:∃ca,Lib.compareBytes x.n y.n=ca:=⟨_,rfl⟩;obtain ⟨cb,hcb⟩:∃cb,Lib.compareBytes x.v y.v=cb:=⟨_,rfl⟩
 have hbn:∀W:World,Calls Tryz.prog 130 #[.agg #[.string ⟨x.n.toArray⟩,.string ⟨x.v.toArray⟩],.agg #[.string ⟨y.n.toArray⟩,.string ⟨y.v.toArray⟩]] W fun e w'=>e = .returned (.int .i64 ca)∧Grown W w':=fun W=>by
  have:=Qem x y W;rwa[hca] at this
 have hco:∀W:World,Calls Tryz.prog 131 #[.string ⟨x.v.toArray⟩,.string ⟨y.v.toArray⟩] W fun e w'=>e = .returned (.int .i64 cb)∧W=w':=fun W=>by
  refine (Tryz.strings_Compare ⟨x.v.toArray⟩ ⟨y.v.toArray⟩ W).mono ?_;rintro e w' ⟨rfl,rfl⟩;exact ⟨by rw[←hcb],rfl⟩
 have hr:cmp1 x y=if ca≠0 then ca else cb:=by unfold cmp1;rw[hca,hcb]
 obtain ⟨rr,hrr⟩:∃rr,(if ca≠0 then ca else cb)=rr:=⟨_,rfl⟩;rw[hr,hrr];have HRR:=Jh hrr;clear hca hcb hr hrr;obtain ⟨N,hN⟩:∃N:ByteArray,(⟨x.n.toArray⟩:ByteArray)=N:=⟨_,rfl⟩;obtain ⟨V,hV⟩:∃N:ByteArray,(⟨x.v.toArray⟩:ByteArray)=N:=⟨_,rfl⟩;obtain ⟨N2,hN2⟩:∃N:ByteArray,(⟨y.n.toArray⟩:ByteArray)=N:=⟨_,rfl⟩;obtain ⟨V2,hV2⟩:∃N:ByteArray,(⟨y.v.toArray⟩:ByteArray)=N:=⟨_,rfl⟩;rw[hN,hV,hN2,hV2] at hbn ⊢;rw[hV,hV2] at hco;have HBN:=Jh hbn;have HCO:=Jh hco;clear hN hV hN2 hV2 hbn hco;go_enter Tryz.func128,Tryz.ntmps128
 go_upto_region 1 with fail
 obtain ⟨w1,hw1⟩:∃x,(w.alloc (.cells #[.string N,.string V] 99)).alloc (.cells #[.string N2,.string V2] 99)=x:=⟨_,rfl⟩;have hb1:Grown w w1:=by rw[←hw1];exact ((Grown.refl _).alloc _).alloc _
 have hq:Blk w1 w.heap.size 99 #[.string N,.string V]:=by rw[←hw1];exact (Blk.new _ _ _).alloc _
 have hp:Blk w1 (w.heap.size+1) 99 #[.string N2,.string V2]:=by rw[←hw1];exact Blk.newAt (by simp)
 rw[hw1];obtain ⟨a,hA⟩:∃a,w.heap.size=a:=⟨_,rfl⟩;rw[hA] at hq hp ⊢;clear hw1;have q0:_=some (Value.string N):=hq.cell 0;have q1:_=some (Value.string V):=hq.cell 1;have p0:_=some (Value.string N2):=hp.cell 0;have p1:_=some (Value.string V2):=hp.cell 1;have hql:=hq.lt;have hpl:=hp.lt;refine Kas 8 (by kernel_rfl) (by kernel_rfl) ?_;simp only[List.take_succ_cons,List.take_zero,List.drop_succ_cons,List.drop_zero]
 repeat (go_big_quiet_step ((first | (go_at_call 130;exact Kat _ (HBN.out _)) | (go_at_call 131;exact Kwa _ (HCO.out _)))))
 refine wpQuiet_nil ?_;rintro w2 ⟨⟨_,hb2⟩,rfl⟩;have hB2:Grown w w2:=hb1.trans hb2;go_wp2_with fail
 have hg:Blk (w2.alloc (.cells #[.int .i64 ca,.int .i64 cb] 3)) w2.heap.size 3 #[.int .i64 ca,.int .i64 cb]:=Blk.new _ _ _;refine (Kqb _ ca cb _ hg).mono ?_;rintro _ w3 ⟨rfl,rfl⟩;rw[HRR.out];go_wp2_with fail
 go_ret
 exact ⟨rfl,by first | exact hB2.alloc _ | (rw[←hA];exact hB2.alloc _)⟩
theorem Kji (l m:List Lb) (A B:Option Addr) (n k ca cb:Nat) (w:World) (r:Int) (hr:cmpL l m=r) (hA:Elems w w.heap.size 2 encLb A n l) (hB:Elems w w.heap.size 2 encLb B k m) (hn:n≤140737488351232) (hk:k≤140737488351232) :
  Calls Tryz.prog 127 #[.slice A n ca,.slice B k cb,.func (.func 128) #[] #[]] w fun e w'=>e = .returned (.int .i64 r)∧Grown w w':=by
 have hl:=hA.len;have hm:=hB.len;have HL:=Jh hl;have HM:=Jh hm;have HR:=Jh hr;clear hl hm hr;go_enter Tryz.func127,Tryz.ntmps127
 go_wp2_with fail
 go_loopg [13] n (fun g s13 wr=>∃i:Nat,i+g=n∧s13 = .int .i64 (i:Int)∧Grown w wr∧i≤k∧cmpL (l.drop i) (m.drop i)=r)
 case atStart=>exact ⟨0,by omega,rfl,Grown.refl _,Nat.zero_le _,HR.out⟩
 case round=>
  obtain ⟨i,hig,rfl,hBw,hik,hcr⟩:=hrel;have HIG:=Jh hig;have HCR:=Jh hcr;clear hig hcr
  by_cases hi:i < n
  ·have el:decide ((i:Int) < (n:Int))=true:=by simp;omega
   have el':decide (i < n)=true:=by simp;omega
   have hil:i < l.length:=by have:=HL.out;omega
   have hdl:l.drop i=l[i]! :: l.drop (i+1):=by rw[getElem!_pos l i hil];exact List.drop_eq_getElem_cons hil
   obtain ⟨ba,oa,rfl,_,_⟩:=hA.2 (by omega);obtain ⟨hba,a0,a1⟩:=Kbu hA (by omega) hBw.below i hil;obtain ⟨X,hX⟩:∃N:ByteArray,(⟨l[i]!.n.toArray⟩:ByteArray)=N:=⟨_,rfl⟩;obtain ⟨Y,hY⟩:∃N:ByteArray,(⟨l[i]!.v.toArray⟩:ByteArray)=N:=⟨_,rfl⟩;have HX:=Jh hX;have HY:=Jh hY;have HDL:=Jh hdl;rw[hX] at a0;rw[hY] at a1;clear hX hY hdl
   by_cases hk2:i < k
   ·have eg:decide ((k:Int)≤(i:Int))=false:=by simp;omega
    have eg':decide (k≤i)=false:=by simp;omega
    have him:i < m.length:=by have:=HM.out;omega
    have hdm:m.drop i=m[i]! :: m.drop (i+1):=by rw[getElem!_pos m i him];exact List.drop_eq_getElem_cons him
    obtain ⟨bb,ob,rfl,_,_⟩:=hB.2 (by omega);have hcmp:=fun W=>Kmu l[i]! m[i]! W
    obtain ⟨X2,hX2⟩:∃N:ByteArray,(⟨m[i]!.n.toArray⟩:ByteArray)=N:=⟨_,rfl⟩;obtain ⟨Y2,hY2⟩:∃N:ByteArray,(⟨m[i]!.v.toArray⟩:ByteArray)=N:=⟨_,rfl⟩;have HX2:=Jh hX2;have HY2:=Jh hY2;have hcr:=HCR.out;rw[HDL.out,hdm,Kpo] at hcr;obtain ⟨c,hc⟩:∃c,cmp1 l[i]! m[i]! = c:=⟨_,rfl⟩;simp only[HX.out,HY.out,hX2,hY2,hc] at hcmp;rw[hc] at hcr;have HCMP:=Jh hcmp;have HC1:=Jh hcr;clear hX2 hY2 hcmp hcr hc hdm;go_upto_region 4 with fail
    obtain ⟨w1,hw1⟩:∃x,wr.alloc (.cells #[.string X,.string Y] 99)=x:=⟨_,rfl⟩;have hB1:Grown w w1:=by rw[←hw1];exact hBw.alloc _
    have hq:Blk w1 wr.heap.size 99 #[.string X,.string Y]:=by rw[←hw1];exact Blk.new _ _ _
    rw[hw1];obtain ⟨p,hp⟩:∃p,wr.heap.size=p:=⟨_,rfl⟩;rw[hp] at hq ⊢;obtain ⟨hbb,b0,b1⟩:=Kbu hB (by omega) hB1.below i him;rw[HX2.out] at b0;rw[HY2.out] at b1;clear hw1 hp a0 a1 hBw;go_upto_region 7 with fail
    obtain ⟨w2,hw2⟩:∃x,w1.alloc (.cells #[.string X2,.string Y2] 99)=x:=⟨_,rfl⟩;have hB2:Grown w w2:=by rw[←hw2];exact hB1.alloc _
    have hq2:Blk w2 p 99 #[.string X,.string Y]:=by rw[←hw2];exact hq.alloc _
    have hr2:Blk w2 w1.heap.size 99 #[.string X2,.string Y2]:=by rw[←hw2];exact Blk.new _ _ _
    rw[hw2];obtain ⟨p2,hp2⟩:∃p,w1.heap.size=p:=⟨_,rfl⟩;rw[hp2] at hr2 ⊢;clear hw2 hp2 b0 b1 hB1 hq;have q0:_=some (Value.string X):=hq2.cell 0;have q1:_=some (Value.string Y):=hq2.cell 1;have r0:_=some (Value.string X2):=hr2.cell 0;have r1:_=some (Value.string Y2):=hr2.cell 1;go_wp2_with fail
    refine (HCMP.out w2).mono ?_;rintro _ w3 ⟨rfl,hb3⟩;have hB3:=hB2.trans hb3
    by_cases h0:c=0
    ·subst h0;have h1:=HC1.out;rw[if_neg (by simp)] at h1;have HC2:=Jh h1;clear h1;go_wp2_with fail
     go_roundg (gk - 1)
     case measure=>have:=HIG.out;omega
     case rel=>exact ⟨i+1,by have:=HIG.out;omega,by go_num,hB3,by omega,HC2.out⟩
    ·have e0:(c != 0)=true:=by simp[h0]
     have h1:=HC1.out;rw[if_pos h0] at h1;have HC2:=Jh h1;clear h1;go_wp2_with fail
     go_ret
     exact ⟨by rw[←HC2.out];rfl,hB3⟩
   ·have eg:decide ((k:Int)≤(i:Int))=true:=by simp;omega
    have eg':decide (k≤i)=true:=by simp;omega
    have hdm:m.drop i = []:=List.drop_eq_nil_of_le (by have:=HM.out;omega);have hcr:=HCR.out;rw[HDL.out,hdm] at hcr;have h1:(1:Int)=r:=hcr;have H1:=Jh h1;clear hdm hcr h1;go_wp2_with fail
    go_ret
    exact ⟨by rw[←H1.out];rfl,hBw.alloc _⟩
  ·have hin:i=n:=by have:=HIG.out;omega
   subst hin;have hdl:l.drop i = []:=List.drop_eq_nil_of_le (by have:=HL.out;omega);have hcr:=HCR.out;rw[hdl] at hcr;have el:decide ((i:Int) < (i:Int))=false:=by simp
   by_cases hk2:i < k
   ·have eg:decide ((i:Int) < (k:Int))=true:=by simp;omega
    have eg':decide (i < k)=true:=by simp;omega
    have him:i < m.length:=by have:=HM.out;omega
    have hdm:m.drop i=m[i] :: m.drop (i+1):=List.drop_eq_getElem_cons him;rw[hdm] at hcr;have h1:(-1:Int)=r:=hcr;have H1:=Jh h1;clear hdm hcr h1 hdl;go_wp2_with fail
    go_ret
    exact ⟨by rw[←H1.out];rfl,hBw⟩
   ·have eg:decide ((i:Int) < (k:Int))=false:=by simp;omega
    have eg':decide (i < k)=false:=by simp;omega
    have hdm:m.drop i = []:=List.drop_eq_nil_of_le (by have:=HM.out;omega);rw[hdm] at hcr;have h1:(0:Int)=r:=hcr;have H1:=Jh h1;clear hdm hcr h1 hdl;go_wp2_with fail
    go_ret
    exact ⟨by rw[←H1.out];rfl,hBw⟩
set_option maxHeartbeats 400000 in
theorem Kdv (l m:List Lb) (A B:Option Addr) (n k ca cb:Nat) (w:World) (r:Int) (hr:cmpL l m=r) (hA:Elems w w.heap.size 2 encLb A n l) (hB:Elems w w.heap.size 2 encLb B k m) (hn:n≤140737488351232) (hk:k≤140737488351232) :
  Calls Tryz.prog 60 #[.slice A n ca,.slice B k cb] w fun e w'=>e = .returned (.int .i64 r)∧Grown w w':=by
 have HC:=Jh (Kji l m A B n k ca cb w r hr hA hB hn hk);clear hr;go_enter Tryz.func60,Tryz.ntmps60
 go_wp2_with fail
 refine HC.out.mono ?_;rintro _ w1 ⟨rfl,hb⟩;go_wp2_with fail
 go_ret
 exact ⟨rfl,hb⟩
end
section
open Go.Shelf Go.RowKit Go.Lib Go.Sort
section
variable {α : Type} [Inhabited α] {enc : α → List Value} {k : Nat} {w0 W : World} {blk off : Nat} {dk d0 : Array α}
theorem Kwd (hk:∀x,(enc x).length=k) (d:Array α) (i:Nat) (x:α) (hi:i < d.size):setMany (flatK enc k d) (i*k) (enc x)=flatK enc k (d.setIfInBounds i x):=by
 refine ext_get! (by simp) fun t ht=>?_
 have ht':t < d.size*k:=by simpa using ht
 have k0:0 < k:=by
  rcases Nat.eq_zero_or_pos k with h | h
  ·subst h;simp at ht'
  ·exact h
 rw[get_setMany _ _ _ t (by simpa using ht'),get_flatK _ _ _ t ht',get_flatK _ _ _ t (by simpa using ht'),hk]
 by_cases b:t / k=i
 ·rw[if_pos ((blk_iff k i t k0).2 b),b,getElem!_set_same d i x hi];subst b;rw[Nat.mod_eq_sub_div_mul]
 ·rw[if_neg (fun h=>b ((blk_iff k i t k0).1 h)),getElem!_set_other d i _ x b]
theorem SWK.put (h:SWK enc k w0 blk off dk W) (R:RowK enc k w0 blk off d0) (i:Nat) (hi:i < dk.size) (x:α):SWK enc k w0 blk off (dk.setIfInBounds i x) (W.setCells blk (off+i*k) (enc x)):=by
 obtain ⟨m,os,rfl⟩:=h;refine ⟨m,os,?_⟩;unfold sortWorldK;rw[setCells_grow os blk _ _ _ (by show blk < (putRowK enc k _ blk off dk).heap.size;rw[size_putRowK];exact R.hblk)];congr 1;unfold putRowK;rw[setCells_putRow _ _ _ _ _ _ (by rw[R.hk,size_flatK];exact rowK_bnd dk k i hi),Kwd R.hk dk i x hi]
theorem SWK.st (h:SWK enc k w0 blk off dk W) (R:RowK enc k w0 blk off d0) (hs:dk.size=d0.size) (P:Program) (i:Nat) (hi:i < dk.size) (y:α) :
  Sem.run P (storeCells ⟨blk,off+i*k,none⟩ (enc y) 0) W = .ok () (W.setCells blk (off+i*k) (enc y)):=
 stores_of_holds P (h.holds R.hblk R.hH hs) (i*k) _ (by rw[R.hk,size_flatK];exact rowK_bnd dk k i hi) (R.h1 _)
theorem SWK.of_grown (h:SWK enc k w0 blk off dk W) {w':World} (hg:Grown W w'):SWK enc k w0 blk off dk w':=by
 obtain ⟨⟨q,os⟩,rfl⟩:=hg;exact h.grown q os
theorem SWK.by (h:SWK enc k w0 blk off dk W):w0.grownBy W (some blk):=by
 obtain ⟨m,os,rfl⟩:=h;refine ⟨rfl,rfl,rfl,?_,?_⟩
 ·simp[sortWorldK,grow,putRowK,putRow,mapBlock,Sort.ahead]
 ·intro j hj hne;have hb:¬blk=j:=fun e=>hne (by rw[e])
  simp only[sortWorldK,grow,putRowK,putRow,mapBlock,Sort.ahead];rw[Array.getElem?_append_left (by simpa using hj),Array.getElem?_modify,if_neg hb]
omit [Inhabited α] in
theorem Kkj {A B:List α} {x y:α} {i:Nat} (h:i=A.length):(A++x :: B).toArray.setIfInBounds i y=(A++y :: B).toArray:=by
 subst h;apply Array.ext';simp
def Kmo (P:Program) (g:Nat) (cb:Array Value) (enc:α→List Value) (k:Nat) (ef:α→α→Bool) (blk off size:Nat) (w:World):Prop:=
 ∀(W:World) (dk:Array α),dk.size=size→SWK enc k w blk off dk W→∀x y:α,
  Calls P g (#[.agg (enc x).toArray,.agg (enc y).toArray]++cb) W fun e w'=>e = .returned (.bool (ef x y))∧∃q os',w'=grow (W.drewN q) os'
end
section
variable {α : Type}
def ddE (ef:α→α→Bool):α→List α→List α
 | _,[]=>[]
 | p,y :: l=>if ef y p then ddE ef y l else y :: ddE ef y l
def dupE (ef:α→α→Bool):List α→List α
 | []=>[]
 | x :: l=>x :: ddE ef x l
theorem Kma (k:α→Int) (ef:α→α→Bool) (he:∀x y,ef x y=decide (k x=k y)):∀(n:Nat) (x p:α) (l:List α),l.length≤n→k x=k p→compO k (x :: l)=x :: ddE ef p l
 | _,x,p,[],_,_=>by rw[compO,ddE]
 | 0,_,_,y :: l,h,_=>by simp at h
 | n+1,x,p,y :: l,h,hp=>by
  rw[compO,ddE,he]
  by_cases hxy:k x=k y
  ·rw[if_pos hxy,if_pos (by rw[decide_eq_true_eq];omega)];exact Kma k ef he n x y l (by simp only[List.length_cons] at h ⊢;omega) hxy
  ·rw[if_neg hxy,if_neg (by rw[decide_eq_true_eq];omega)];rw[Kma k ef he n y y l (by simp only[List.length_cons] at h ⊢;omega) rfl]
theorem Qfy (k:α→Int) (ef:α→α→Bool) (he:∀x y,ef x y=decide (k x=k y)) (l:List α):dupE ef l=compO k l:=by
 cases l with
 | nil=>rw[dupE,compO]
 | cons x l=>rw[dupE,Kma k ef he l.length x x l (Nat.le_refl _) rfl]
def cfT (k:α→Int) (x y:α):Int:=if k x < k y then -1 else if k y < k x then 1 else 0
theorem ltT (k:α→Int) (x y:α):ltOf (cfT k) x y=decide (k x < k y):=by
 unfold ltOf cfT;rw[decide_eq_decide]
 split
 ·simp_all
 ·split
  ·simp;omega
  ·simp;omega
theorem swoT (k:α→Int):SWO (ltOf (cfT k)) where
 irrefl x:=by rw[ltT];simp
 trans x y z h1 h2:=by
  rw[ltT,decide_eq_true_eq] at h1 h2 ⊢;omega
 ntrans x y z h1 h2:=by
  rw[ltT,decide_eq_false_iff_not] at h1 h2 ⊢;omega
theorem Kqm (k:α→Int) (ef:α→α→Bool) (he:∀x y,ef x y=decide (k x=k y)) {xs ys:List α} (h:Stab (ltOf (cfT k)) xs ys):Kaw k xs (dupE ef ys):=by
 rw[Qfy k ef he];refine Qat k (h.asc.imp fun h=>?_) fun t=>?_
 ·rw[ltT,decide_eq_false_iff_not] at h;omega
 ·by_cases hex:∃z∈xs,k z=t
  ·obtain ⟨z,_,rfl⟩:=hex;have:=h.keep z
   have e:eqv (ltOf (cfT k)) z=fun y=>k y == k z:=by
    funext y;unfold eqv;rw[ltT,ltT];rcases (by omega:k z < k y∨k y < k z∨k y=k z) with h | h | h
    ·rw[decide_eq_true h,show (k y == k z)=false by rw[beq_eq_false_iff_ne];omega];rfl
    ·rw[decide_eq_true h,show (k y == k z)=false by rw[beq_eq_false_iff_ne];omega];simp
    ·rw[h];simp
   rw[e] at this;exact this
  ·have h1:xs.filter (fun y=>k y == t) = []:=by
    rw[List.filter_eq_nil_iff];intro a ha he;exact hex ⟨a,ha,by simpa using he⟩
   have h2:ys.filter (fun y=>k y == t) = []:=by
    rw[List.filter_eq_nil_iff];intro a ha he;exact hex ⟨a,h.perm.mem_iff.1 ha,by simpa using he⟩
   rw[h1,h2]
end
theorem Kki (b:Nat):∀(vs us:List Value) (o:Nat) (w:World),w.setCells b o (vs++us)=(w.setCells b o vs).setCells b (o+vs.length) us
 | [],us,o,w=>rfl
 | v :: vs,us,o,w=>by
  rw[List.cons_append,World.setCells,World.setCells,Kki b vs us (o+1),List.length_cons];congr 1;omega
theorem Kmj {xs:List Value} {B n k g cap i:Nat} {T:TypeId} {w:World} (h:w.ownsRow B T k (.slice (some ⟨g,0,none⟩) n cap) n xs) (hi:i≤n):w.ownsRow B T k (.slice (some ⟨g,0,none⟩) i cap) i (xs.take (i*k)):=by
 rcases h.2 with ⟨h',_⟩ | ⟨g',cap',cur,h',hb,hg,hnc,hcm,hcs,htake⟩
 ·cases h'
 ·injection h' with h1 _ h3;injection h1 with h1;injection h1 with h1 _ _;subst h1 h3;have hik:i*k≤n*k:=Nat.mul_le_mul_right k hi;refine ⟨by rw[List.length_take,h.1];omega,.inr ⟨g,cap,cur,rfl,hb,hg,by omega,hcm,hcs,?_⟩⟩;rw[←htake,List.take_take,Nat.min_eq_left hik]
section
variable {α : Type} [Inhabited α] {enc : α → List Value} {k : Nat} {w0 : World} {blk off : Nat} {d0 : Array α}
theorem Qbz (hk:∀x,(enc x).length=k) (h0:0 < k) (z:α) (n:Nat):(Builtin.zeroCells (enc z).toArray n).toList=(List.replicate n z).flatMap enc:=by
 have hl:(Builtin.zeroCells (enc z).toArray n).toList.length=n*k:=by simp[Builtin.zeroCells,hk]
 have h1:((List.replicate n z).flatMap enc).length=n*k:=by rw[Kdd hk,List.length_replicate]
 apply List.ext_getElem?;intro t
 by_cases ht:t < n*k
 ·rw[Kjy hk h0 (l:=List.replicate n z) (by rw[List.length_replicate];exact ht)];have hd:t / k < (List.replicate n z).length:=by rw[List.length_replicate];exact Nat.div_lt_of_lt_mul (by rw[Nat.mul_comm];exact ht)
  have hzz:(List.replicate n z)[t / k]! = z:=by rw[getElem!_pos (List.replicate n z) (t / k) hd,List.getElem_replicate]
  rw[hzz,List.getElem?_eq_getElem (by rw[hl];exact ht)];simp[Builtin.zeroCells,hk]
 ·rw[List.getElem?_eq_none (by rw[hl];omega),List.getElem?_eq_none (by rw[h1];omega)]
theorem Kub (R:RowK enc k w0 blk off d0) (z:α):∀(n i:Nat) (dk:Array α) (W:World),SWK enc k w0 blk off dk W→i+n≤dk.size→∃dk':Array α,dk'.size=dk.size∧dk'.toList.take i=dk.toList.take i∧SWK enc k w0 blk off dk' (W.setCells blk (off+i*k) ((List.replicate n z).flatMap enc))
 | 0,i,dk,W,h,_=>⟨dk,rfl,rfl,h⟩
 | n+1,i,dk,W,h,hi=>by
  rw[List.replicate_succ,List.flatMap_cons,Kki,R.hk,show off+i*k+k=off+(i+1)*k by rw[Nat.succ_mul];omega];obtain ⟨dk',h1,h2,h3⟩:=Kub R z n (i+1) (dk.setIfInBounds i z) _ (SWK.put h R i (by omega) z) (by simp;omega);refine ⟨dk',by simpa using h1,?_,h3⟩;have h4:=congrArg (List.take i) h2;rw[List.take_take,List.take_take,Nat.min_eq_left (Nat.le_succ i),Array.toList_setIfInBounds,List.take_set_of_le (Nat.le_refl i)] at h4;exact h4
theorem Kkp {P:Program} {S T:TypeId} (hu:P.underlying S=some (.slice T)) (z:α) (hz:∀w,(zeroValue T).run P w = .ok (.agg (enc z).toArray) w) (h0:0 < k) (R:RowK enc k w0 blk off d0) {N:Nat} (hN:d0.size=N) (W:World) (dk:Array α) (i c:Nat) (hdk:dk.size=N) (h:SWK enc k w0 blk off dk W) (hi:i≤N) :
  ∃W',(∀ty,(Builtin.clear_ #[S] ty #[.slice (some ⟨blk,off+i*k,none⟩) (N - i) c]).run P W = .ok (.tuple #[]) W')∧∃dk':Array α,dk'.size=N∧dk'.toList.take i=dk.toList.take i∧SWK enc k w0 blk off dk' W':=by
 rcases Nat.eq_zero_or_pos (N - i) with h1 | h1
 ·refine ⟨W,?_,dk,hdk,rfl,h⟩;intro ty;rw[h1];simp[Builtin.clear_,run_underlying hu]
 ·obtain ⟨dk',e1,e2,e3⟩:=Kub R z (N - i) i dk W h (by omega);refine ⟨W.setCells blk (off+i*k) ((List.replicate (N - i) z).flatMap enc),?_,dk',by omega,e2,e3⟩
  have hst:=stores_of_holds P (h.holds R.hblk R.hH (by omega)) (i*k) ((List.replicate (N - i) z).flatMap enc) (by
   rw[Kdd R.hk,List.length_replicate,size_flatK,hdk,←Nat.add_mul]
   exact Nat.mul_le_mul_right k (by omega)) (fun v hv=>by
    obtain ⟨x,hx,hv⟩:=List.mem_flatMap.1 hv
    exact R.h1 x v hv)
  rw[←Qbz R.hk h0] at hst ⊢;obtain ⟨m,hm⟩:∃m,N - i=m+1:=⟨N - i - 1,by omega⟩;rw[hm] at hst ⊢;intro ty;have hcl:(Value.agg (enc z).toArray).cells=(enc z).toArray:=rfl;simp[Builtin.clear_,run_underlying hu,hz,hcl,hst]
end
end
section
structure Spn where
 frm:Int
 to_:Int
def Kcl:Nat→List Nat→List UInt8
 | _,[]=>[]
 | a,x :: l=>uintT (x - a)++Kcl x l
def postT (l:List Nat):List UInt8:=uintT l.length++Kcl 0 l
def zig (v:Int):Nat:=if 0≤v then (2*v).toNat else (-2*v - 1).toNat
theorem Kuk {v:Int} (h1:-9223372036854775808≤v) (h2:v≤9223372036854775807):zig v < 2 ^ 64:=by
 unfold zig
 split <;> omega
def intT (v:Int):List UInt8:=uintT (zig v)
def nibs:List Nat:=[0x00000000,0x105ec76f,0x20bd8ede,0x30e349b1,0x417b1dbc,0x5125dad3,0x61c69362,0x7198540d,0x82f63b78,0x92a8fc17,0xa24bb5a6,0xb21572c9,0xc38d26c4,0xd3d3e1ab,0xe330a81a,0xf36e6f75]
def nibN (c:Nat):Nat:=nibs.getD (c % 16) 0 ^^^ (c / 16)
def crcB (c:Nat) (b:UInt8):Nat:=nibN (nibN (c ^^^ b.toNat))
def crcF (c:Nat) (l:List UInt8):Nat:=l.foldl crcB c
def crcL (l:List UInt8):Nat:=crcF 4294967295 l ^^^ 4294967295
theorem Kwz:∀i,nibs.getD i 0 < 4294967296:=by
 intro i
 by_cases h:i < 16
 ·revert i
  decide
 ·have:nibs.length≤i:=by simp[nibs];omega
  rw[List.getD_eq_getElem?_getD,List.getElem?_eq_none this];decide
theorem Khb {a b:Nat} (ha:a < 4294967296) (hb:b < 4294967296):a ^^^ b < 4294967296:=Nat.xor_lt_two_pow (n:=32) ha hb
theorem Kkx {c:Nat} (h:c < 4294967296):nibN c < 4294967296:=Khb (Kwz _) (by omega)
theorem Qeq {c:Nat} (h:c < 4294967296) (b:UInt8):crcB c b < 4294967296:=Kkx (Kkx (Khb h (by have:=UInt8.toNat_lt b;omega)))
theorem Kwp:∀(l:List UInt8) {c:Nat},c < 4294967296→crcF c l < 4294967296
 | [],_,h=>h
 | b :: l,_,h=>Kwp l (Qeq h b)
theorem Qer (l:List UInt8):crcL l < 4294967296:=Khb (Kwp l (by decide)) (by decide)
theorem Kuw (c:Nat) (l m:List UInt8):crcF c (l++m)=crcF (crcF c l) m:=by unfold crcF;rw[List.foldl_append]
theorem Kzr (c:Nat) (l:List UInt8) (b:UInt8):crcF c (l ++ [b])=crcB (crcF c l) b:=by rw[Kuw];rfl
def fourT (v:Nat):List UInt8:=[UInt8.ofNat v,UInt8.ofNat (v / 256),UInt8.ofNat (v / 65536),UInt8.ofNat (v / 16777216)]
def sealT (b:List UInt8):List UInt8:=b++fourT (crcL b)
theorem Kqj (b:List UInt8):(sealT b).length=b.length+4:=by simp[sealT,fourT]
end
section
open Go.RowKit
def Kbx:Nat→List Smp→List (List Smp)
 | 0,_=>[]
 | _+1,[]=>[]
 | f+1,x :: l=>(x :: l).take 120 :: Kbx f ((x :: l).drop 120)
theorem Klm:∀(f:Nat) (l p:List Smp),p∈Kbx f l→p≠[]∧p.length≤120∧p.Sublist l
 | 0,_,_,h=>by simp[Kbx] at h
 | _+1,[],_,h=>by simp[Kbx] at h
 | f+1,x :: l,p,h=>by
  rw[Kbx,List.mem_cons] at h;rcases h with rfl | h
  ·exact ⟨by simp,by rw[List.length_take];omega,List.take_sublist _ _⟩
  ·obtain ⟨h1,h2,h3⟩:=Klm f _ p h;exact ⟨h1,h2,h3.trans (List.drop_sublist _ _)⟩
theorem Kge:∀(f:Nat) (l:List Smp),(Kbx f l).length≤f
 | 0,_=>Nat.le_refl _
 | _+1,[]=>Nat.zero_le _
 | f+1,x :: l=>by rw[Kbx,List.length_cons];have:=Kge f ((x :: l).drop 120);omega
def aggsT:List Wnd→List (List UInt8)
 | []=>[]
 | w :: l=>[aggT (w :: l)]
def Kbf (s:Ser):List (List UInt8):=(Kbx s.samples.length s.samples).map Kcz++aggsT s.windows
def lensT (P:List (List UInt8)):List UInt8:=P.flatMap fun p=>uintT p.length
def serT (t:List Txt) (s:Ser):List UInt8:=pk t s.labels++(uintT (Kbf s).length++lensT (Kbf s))
theorem Kgn:∀{l:List Smp},Rises l↔l.Pairwise fun a b=>a.t < b.t
 | []=>⟨fun _=>List.Pairwise.nil,fun _=>trivial⟩
 | [x]=>⟨fun _=>List.pairwise_singleton _ _,fun _=>trivial⟩
 | x :: y :: l=>by
  have ih:=Kgn (l:=y :: l);rw[Rises,List.pairwise_cons,ih];constructor
  ·rintro ⟨h1,h2⟩;refine ⟨fun z hz=>?_,h2⟩;rcases List.mem_cons.1 hz with rfl | hz
   ·exact h1
   ·have:=(List.pairwise_cons.1 h2).1 z hz;omega
  ·rintro ⟨h1,h2⟩;exact ⟨h1 y (by simp),h2⟩
theorem Knq:∀{l:List Int},riseI l=true↔l.Pairwise fun a b=>a < b
 | []=>⟨fun _=>List.Pairwise.nil,fun _=>rfl⟩
 | [x]=>⟨fun _=>List.pairwise_singleton _ _,fun _=>rfl⟩
 | x :: y :: l=>by
  have ih:=Knq (l:=y :: l);rw[riseI,Bool.and_eq_true,List.pairwise_cons,ih,decide_eq_true_eq];constructor
  ·rintro ⟨h1,h2⟩;refine ⟨fun z hz=>?_,h2⟩;rcases List.mem_cons.1 hz with rfl | hz
   ·exact h1
   ·have:=(List.pairwise_cons.1 h2).1 z hz;omega
  ·rintro ⟨h1,h2⟩;exact ⟨h1 y (by simp),h2⟩
theorem Kwk {f t:Int} {l:List Int}:Kdj f t l=true↔l≠[]∧(∀x∈l,f≤x∧x < t)∧l.Pairwise fun a b=>a < b:=by
 unfold Kdj;simp only[Bool.and_eq_true,decide_eq_true_eq,List.all_eq_true,Knq,and_assoc]
theorem Kzf {f t:Int} {l:List Smp}:Kdj f t (l.map Smp.t)=true↔l≠[]∧(∀x∈l,f≤x.t∧x.t < t)∧Rises l:=by
 rw[Kwk,Kgn,List.pairwise_map];simp
theorem Qdq {l:List Smp} (h:∀x∈l,SmpOk x) (hr:Rises l) {f:Nat} {p:List Smp} (hp:p∈Kbx f l):Qej p:=by
 obtain ⟨h1,h2,h3⟩:=Klm f l p hp;exact ⟨fun x hx=>h x (h3.subset hx),Kgn.2 ((Kgn.1 hr).sublist h3),h2⟩
instance lbEq:DecidableEq Lb:=fun a b=>by
 cases a with
 | mk n v=>
  cases b with
  | mk n' v'=>exact if h:n=n'∧v=v' then isTrue (by rw[h.1,h.2]) else isFalse fun e=>h (by injection e with e1 e2;exact ⟨e1,e2⟩)
instance ltBDec:DecidableRel ltB:=fun x y=>by unfold ltB;infer_instance
theorem Kef (x:Lb):¬ltB x x:=by
 rintro (h | ⟨_,h⟩) <;> exact List.lt_irrefl _ h
theorem Kou {x y:Lb} (h1:¬ltB x y) (h2:¬ltB y x):x=y:=by
 unfold ltB at h1 h2;have hn:x.n=y.n:=Ked (fun h=>h1 (.inl h)) (fun h=>h2 (.inl h));have hv:x.v=y.v:=Ked (fun h=>h1 (.inr ⟨hn,h⟩)) (fun h=>h2 (.inr ⟨hn.symm,h⟩));cases x;cases y
 simp_all
def Qfr (S:List (List Lb)) (K:List Lb):Prop:=K.Pairwise ltB∧∀x,x∈K↔∃s∈S,x∈s
theorem Ksu:∀{t t':List Lb},t.Pairwise ltB→t'.Pairwise ltB→(∀x,x∈t↔x∈t')→t=t'
 | [],[],_,_,_=>rfl
 | [],b :: s',_,_,h=>by have:=(h b).2 (by simp);simp at this
 | a :: s,[],_,_,h=>by have:=(h a).1 (by simp);simp at this
 | a :: s,b :: s',h1,h2,h=>by
  have ha:=List.pairwise_cons.1 h1;have hb:=List.pairwise_cons.1 h2
  have hab:a=b:=by
   apply Kou
   ·intro hlt;rcases List.mem_cons.1 ((h a).1 (by simp)) with e | e
    ·exact Kef a (by rw[e] at hlt ⊢;exact hlt)
    ·exact Kef a (Kew hlt (hb.1 a e))
   ·intro hlt;rcases List.mem_cons.1 ((h b).2 (by simp)) with e | e
    ·exact Kef b (by rw[e] at hlt ⊢;exact hlt)
    ·exact Kef b (Kew hlt (ha.1 b e))
  subst hab;rw[Ksu ha.2 hb.2 fun x=>?_];constructor
  ·intro hx;rcases List.mem_cons.1 ((h x).1 (by simp[hx])) with e | e
   ·subst e;exact absurd (ha.1 x hx) (Kef x)
   ·exact e
  ·intro hx;rcases List.mem_cons.1 ((h x).2 (by simp[hx])) with e | e
   ·subst e;exact absurd (hb.1 x hx) (Kef x)
   ·exact e
def insK (x:Lb):List Lb→List Lb
 | []=>[x]
 | y :: l=>if ltB x y then x :: y :: l else if ltB y x then y :: insK x l else y :: l
theorem Kme (x:Lb):∀(l:List Lb) (z:Lb),z∈insK x l↔z=x∨z∈l
 | [],z=>by simp[insK]
 | y :: l,z=>by
  rw[insK]
  split
  ·simp
  ·split
   ·rw[List.mem_cons,Kme x l z,List.mem_cons];constructor
    ·rintro (h | h | h)
     ·exact .inr (.inl h)
     ·exact .inl h
     ·exact .inr (.inr h)
    ·rintro (h | h | h)
     ·exact .inr (.inl h)
     ·exact .inl h
     ·exact .inr (.inr h)
   ·rename_i h1 h2
    have e:=Kou h1 h2;subst e;simp
theorem Kps (x:Lb):∀(l:List Lb),l.Pairwise ltB→(insK x l).Pairwise ltB
 | [],_=>List.pairwise_singleton _ _
 | y :: l,h=>by
  have hc:=List.pairwise_cons.1 h;rw[insK]
  split
  ·rename_i h1
   refine List.pairwise_cons.2 ⟨fun z hz=>?_,h⟩;rcases List.mem_cons.1 hz with rfl | hz
   ·exact h1
   ·exact Kew h1 (hc.1 z hz)
  ·split
   ·rename_i h1 h2
    refine List.pairwise_cons.2 ⟨fun z hz=>?_,Kps x l hc.2⟩;rcases (Kme x l z).1 hz with rfl | hz
    ·exact h2
    ·exact hc.1 z hz
   ·exact h
def keysOf (S:List (List Lb)):List Lb:=S.flatten.foldr insK []
theorem Keu (S:List (List Lb)):Qfr S (keysOf S):=by
 have key:∀l:List Lb,(l.foldr insK []).Pairwise ltB∧∀x,x∈l.foldr insK []↔x∈l:=by
  intro l
  induction l with
  | nil=>exact ⟨List.Pairwise.nil,fun _=>Iff.rfl⟩
  | cons y l ih=>exact ⟨Kps y _ ih.1,fun x=>by rw[List.foldr_cons,Kme,ih.2,List.mem_cons]⟩
 obtain ⟨h1,h2⟩:=key S.flatten;exact ⟨h1,fun x=>(h2 x).trans (by rw[List.mem_flatten])⟩
def Kao (S:List (List Lb)) (x:Lb):List Nat:=(List.range S.length).filter fun i=>decide (x∈S.getD i [])
theorem Kln (S:List (List Lb)) (x:Lb):(Kao S x).length≤S.length:=by
 have:=List.length_filter_le (fun i=>decide (x∈S.getD i [])) (List.range S.length);rwa[List.length_range] at this
def keyT (S:List (List Lb)) (x:Lb):List UInt8:=textT x.n++(textT x.v++postT (Kao S x))
def Kcv (S:List (List Lb)):List UInt8:=uintT (keysOf S).length++(keysOf S).flatMap (keyT S)
structure Fil where
 mt:List UInt8
 ck:List UInt8
 ix:List UInt8
instance filEq:DecidableEq Fil:=fun a b=>by
 cases a with
 | mk m c i=>
  cases b with
  | mk m' c' i'=>exact if h:m=m'∧c=c'∧i=i' then isTrue (by rw[h.1,h.2.1,h.2.2]) else isFalse fun e=>h (by injection e with e1 e2 e3;exact ⟨e1,e2,e3⟩)
def Kap (c:Cont):List (List Lb):=c.series.map Ser.labels
def allS (S:List (List Lb)):List Txt:=S.flatMap texts
def tabOf (S:List (List Lb)):List Txt:=Lib.compact ((allS S).mergeSort fun x y=>decide (x≤y))
theorem Kuc (S:List (List Lb)):IsTab (allS S) (tabOf S):=Qea _
def metaB (c:Cont):List UInt8:=uintT c.res.toNat++(intT c.frm++intT c.to_)
def Kdc (c:Cont):List UInt8:=c.series.flatMap fun s=>(Kbf s).flatten
def Kcj (c:Cont):List UInt8:=tabT (tabOf (Kap c))++(uintT c.series.length++(c.series.flatMap (serT (tabOf (Kap c)))++Kcv (Kap c)))
def Kex (c:Cont):Fil:=⟨sealT (metaB c),sealT (Kdc c),sealT (Kcj c)⟩
def ordS:List Ser→Bool
 | []=>true
 | [_]=>true
 | a :: b :: l=>decide (cmpL a.labels b.labels < 0) && ordS (b :: l)
def fitB (c:Cont):Bool:=decide (0≤c.res) && decide (c.res < 3) && decide (0≤c.frm) && decide (c.frm < c.to_) && decide (c.to_≤1125899906842625) && c.series.all (fun s=>Kdb s.labels && Kek c s) && ordS c.series
theorem Kgu {c:Cont}:fitB c=true↔0≤c.res∧c.res < 3∧0≤c.frm∧c.frm < c.to_∧c.to_≤1125899906842625∧(∀s∈c.series,Kdb s.labels=true∧Kek c s=true)∧ordS c.series=true:=by
 unfold fitB;simp only[Bool.and_eq_true,decide_eq_true_eq,List.all_eq_true,and_assoc]
theorem Kzd {l:List Lb} (h:Kdb l=true):Kdi l=0:=by
 unfold Kdb at h;rw[Bool.and_eq_true,decide_eq_true_eq,decide_eq_true_eq] at h;unfold Kdi;rw[if_neg (by simp[h.1]),if_pos h.2]
end
section
open Go.RowKit
open Lib renaming hid → Jh
attribute [local go_sem ↓] Go.wp_at_zero Go.wp_at_succ
attribute [local go_sem] Later.cell
def encN (x:Nat):List Value:=[.int .i64 (x:Int)]
def lastN:Nat→List Nat→Nat
 | a,[]=>a
 | _,x :: l=>lastN x l
theorem Kim:∀(l:List Nat) (a x:Nat),lastN a (l ++ [x])=x
 | [],_,_=>rfl
 | _ :: l,_,x=>Kim l _ x
theorem Khu:∀(l:List Nat) (a x:Nat),Kcl a (l ++ [x])=Kcl a l++uintT (x - lastN a l)
 | [],a,x=>by simp[Kcl,lastN]
 | w :: l,a,x=>by rw[List.cons_append,Kcl,Kcl,Khu l,lastN,List.append_assoc]
theorem Ksz:∀(l:List Nat) (a x:Nat),(l ++ [x]).Pairwise (· < ·)→l≠[]→lastN a l < x
 | [],_,_,_,h=>absurd rfl h
 | [y],a,x,h,_=>by
  have:=List.pairwise_cons.1 h;exact this.1 x (by simp)
 | y :: z :: l,a,x,h,_=>Ksz (z :: l) y x (List.pairwise_cons.1 h).2 (by simp)
theorem Krb (l:List Nat) (A:Option Addr) (n cap:Nat) (w:World) (hE:Elems w w.heap.size 1 encN A n l) (hn:n≤1099511627776) (hp:l.Pairwise (· < ·)) (hv:∀x∈l,x≤1099511627776) :
  Calls Tryz.prog 121 #[.slice A n cap] w fun e w'=>e = .returned (.tuple #[.string ⟨(postT l).toArray⟩,.int .i64 0])∧Below w.heap.size w w':=by
 have hlen:=hE.len;have HE:=Jh hE;have HV:=Jh hv;have HP:=Jh hp;have HLEN:=Jh hlen;have HUN:=Jh (fun w=>Kau n (by omega) w);have h0:Bld w.heap.size w.heap.size [] (w.alloc (.cells #[.pointer none,.slice none 0 0] 109)):=Bld.new w (Nat.le_refl _);have hb0:Below w.heap.size w (w.alloc (.cells #[.pointer none,.slice none 0 0] 109)):=(Below.refl _ _).alloc (Nat.le_refl _) _;clear hE hv hp hlen;go_enter Tryz.func121,Tryz.ntmps121
 go_upto_region 2 with fail
 obtain ⟨w1,hw1⟩:∃w1,w.alloc (.cells #[.pointer none,.slice none 0 0] 109)=w1:=⟨_,rfl⟩;rw[hw1] at h0 hb0;rw[hw1];obtain ⟨b,hb⟩:∃b,w.heap.size=b:=⟨_,rfl⟩;rw[hb] at h0 hb0 HE ⊢;have HB:=Jh hb;have HL1:=Jh h0;have HB1:=Jh hb0;have hB1:b≤w1.heap.size:=by have:=hb0.size;omega
 clear hw1 h0 hb0 hb;go_wp2_with fail
 refine (HUN.out w1).mono ?_;rintro _ w2 ⟨rfl,hb2⟩;have HL2:=Jh (HL1.out.below hb2);have HB2:=Jh (HB1.out.trans (hb2.mono hB1));have hB2:b≤w2.heap.size:=Nat.le_trans hB1 hb2.size;clear hb2;go_wp2_with fail
 refine (Kaz b b [] ⟨(uintT n).toArray⟩ w2 HL2.out (by show 0+(uintT n).toArray.size≤_;have:=(Kab n).2;simp only[List.size_toArray];omega) hB2).mono ?_;rintro _ w3 ⟨rfl,h5,h6,_⟩;have HL3:Hid (Bld b b (uintT n) w3):=Jh h5;have HB3:=Jh (HB2.out.trans h6);clear h5 h6;go_wp2_with fail
 go_loopg [5,15] n (fun g s5 s15 wr=>∃i:Nat,i+g=n∧s15 = .int .i64 (i:Int)∧s5 = .int .i64 ((lastN 0 (l.take i):Nat):Int)∧Bld b b (uintT n++Kcl 0 (l.take i)) wr∧Below b w wr∧(uintT n++Kcl 0 (l.take i)).length≤11+11*i∧lastN 0 (l.take i)≤1099511627776)
 case atStart=>exact ⟨0,by omega,rfl,rfl,by simpa[Kcl] using HL3.out,HB3.out,by have:=(Kab n).2;simp[Kcl];omega,Nat.zero_le _⟩
 case round=>
  obtain ⟨i,hi,rfl,rfl,hld,hbr,hle,hla⟩:=hrel;have HI:=Jh hi;have HL:=Jh hld;have HR:=Jh hbr;have HLE:=Jh hle;have hBr:b≤wr.heap.size:=Nat.le_trans (by rw[HB.out];exact Nat.le_refl _) hbr.size;clear hld hbr hle
  by_cases hin:i < n
  ·have hil:i < l.length:=by have:=HLEN.out;omega
   obtain ⟨bk,off,rfl,hbk,hcell⟩:=HE.out.2 (by omega);have m0:wr.cell? ⟨bk,off+i,none⟩=some (.int .i64 ((l[i]:Nat):Int)):=(HR.out.cell (p:=⟨bk,off+i,none⟩) hbk).trans (by simpa using hcell i l[i] (List.getElem?_eq_getElem hil) 0 _ rfl);have hvi:=HV.out l[i] (List.getElem_mem hil);have htk:l.take (i+1)=l.take i ++ [l[i]]:=List.take_succ_eq_append_getElem hil
   have hlt:i≠0→lastN 0 (l.take i) < l[i]:=by
    intro h0;refine Ksz _ _ _ ?_ ?_
    ·rw[←htk];exact HP.out.sublist (List.take_sublist _ _)
    ·intro he;have:=congrArg List.length he;rw[List.length_take,List.length_nil] at this;omega
   obtain ⟨x,hxx⟩:∃x,l[i]=x:=⟨_,rfl⟩;rw[hxx] at m0 hvi htk hlt;obtain ⟨a,haa⟩:∃a,lastN 0 (l.take i)=a:=⟨_,rfl⟩;rw[haa] at hlt hla ⊢;obtain ⟨T,hT⟩:∃T,uintT n++Kcl 0 (l.take i)=T:=⟨_,rfl⟩;rw[hT] at HL HLE;have HTK:=Jh htk;have HAA:=Jh haa;have HT:=Jh hT
   have hax:a≤x:=by
    by_cases h0:i=0
    ·subst h0;have:a=0:=by rw[←haa];rfl
     omega
    ·have:=hlt h0;omega
   have el:(i:Int) < (n:Int):=by omega
   have e1:decide ((x:Int) < 0)=false:=by rw[decide_eq_false_iff_not];omega
   obtain ⟨y,hy⟩:∃y,x - a=y:=⟨_,rfl⟩;have hyi:(x:Int) - (a:Int)=(y:Int):=by omega
   have hyw:wrap64 ((x:Int) - (a:Int))=(y:Int):=by unfold wrap64;omega
   have hyu:IntKind.u64.wrap (y:Int)=(y:Int):=by rw[IntKind.wrap_u64];omega
   have HY:=Jh hy;have HU:=Jh (fun w=>Kau y (by omega) w);have HIN:=Jh hin;clear hi htk hxx haa hT hcell hy hil
   by_cases h0:i=0
   ·subst h0;rw[Nat.add_zero] at m0;clear hlt hin;go_wp2_with fail
    refine (HU.out wr).mono ?_;rintro _ w5 ⟨rfl,h5⟩;have HL5:=Jh (HL.out.below h5);have HR5:=Jh (HR.out.trans (h5.mono hBr));have hB5:b≤w5.heap.size:=Nat.le_trans hBr h5.size;clear h5;go_wp2_with fail
    refine (Kaz b b T ⟨(uintT y).toArray⟩ w5 HL5.out (by show _+(uintT y).toArray.size≤_;have:=(Kab y).2;have:=HLE.out;have:=HI.out;simp only[List.size_toArray];omega) hB5).mono ?_;rintro _ w6 ⟨rfl,h6,h7,_⟩;have HL6:=Jh h6;have HR6:=Jh (HR5.out.trans h7);clear h6 h7;go_wp2_with fail
    go_roundg (gk - 1)
    case measure=>have:=HI.out;omega
    case rel=>
     have hlx:lastN 0 (l.take (0+1))=x:=by rw[HTK.out,Kim]
     have hst:uintT n++Kcl 0 (l.take (0+1))=T++uintT y:=by rw[HTK.out,Khu,HAA.out,HY.out,←HT.out,List.append_assoc]
     refine ⟨1,by have:=HI.out;omega,by go_num,by rw[hlx],by rw[hst];exact HL6.out,HR6.out,?_,by rw[hlx];exact hvi⟩;rw[hst,List.length_append];have:=(Kab y).2;have:=HLE.out;omega
   ·have hlt':=hlt h0;have e2:decide ((0:Int) < (i:Int))=true:=by rw[decide_eq_true_eq];omega
    have e2':decide (0 < i)=true:=by rw[decide_eq_true_eq];omega
    have e3:decide ((x:Int)≤(a:Int))=false:=by rw[decide_eq_false_iff_not];omega
    have e3':decide (x≤a)=false:=by rw[decide_eq_false_iff_not];omega
    clear hlt hin;go_wp2_with fail
    refine (HU.out wr).mono ?_;rintro _ w5 ⟨rfl,h5⟩;have HL5:=Jh (HL.out.below h5);have HR5:=Jh (HR.out.trans (h5.mono hBr));have hB5:b≤w5.heap.size:=Nat.le_trans hBr h5.size;clear h5;go_wp2_with fail
    refine (Kaz b b T ⟨(uintT y).toArray⟩ w5 HL5.out (by show _+(uintT y).toArray.size≤_;have:=(Kab y).2;have:=HLE.out;have:=HI.out;simp only[List.size_toArray];omega) hB5).mono ?_;rintro _ w6 ⟨rfl,h6,h7,_⟩;have HL6:=Jh h6;have HR6:=Jh (HR5.out.trans h7);clear h6 h7;go_wp2_with fail
    go_roundg (gk - 1)
    case measure=>have:=HI.out;omega
    case rel=>
     have hlx:lastN 0 (l.take (i+1))=x:=by rw[HTK.out,Kim]
     have hst:uintT n++Kcl 0 (l.take (i+1))=T++uintT y:=by rw[HTK.out,Khu,HAA.out,HY.out,←HT.out,List.append_assoc]
     refine ⟨i+1,by have:=HI.out;omega,by go_num,by rw[hlx],by rw[hst];exact HL6.out,HR6.out,?_,by rw[hlx];exact hvi⟩;rw[hst,List.length_append];have:=(Kab y).2;have:=HLE.out;omega
  ·have hi3:i=n:=by have:=HI.out;omega
   subst hi3;have htk:l.take i=l:=List.take_of_length_le (by have:=HLEN.out;omega);rw[htk] at HL;have HPT:Hid (uintT i++Kcl 0 l=postT l):=Jh (by unfold postT;rw[HLEN.out]);rw[HPT.out] at HL;have HST2:=Jh (Kdq b b _ wr HL.out hBr);obtain ⟨S,hS⟩:∃S:ByteArray,(⟨(postT l).toArray⟩:ByteArray)=S:=⟨_,rfl⟩;rw[hS] at HST2;have HS:=Jh hS;clear htk hS;go_wp2_with fail
   refine HST2.out.mono ?_;rintro _ w3 ⟨rfl,h6⟩;go_wp2_with fail
   go_ret2
   rw[←HS.out];exact ⟨rfl,by rw[HB.out];exact HR.out.trans h6⟩
end
section
open Go.RowKit
open Go.ChangeMaps (setBlock)
open Go.MapKept
open Go.WideMaps (KeyLaw)
def lbV (x:Lb):Value:=.agg #[.string ⟨x.n.toArray⟩,.string ⟨x.v.toArray⟩]
theorem Kev {x y:Lb} (h:lbV x=lbV y):x=y:=by
 obtain ⟨a,b⟩:=x;obtain ⟨c,d⟩:=y;unfold lbV at h;injection h with h;have h1:=congrArg Array.toList h;injection h1 with h2 h3;injection h3 with h4 _;injection h2 with h2;injection h4 with h4;injection h2 with h2;injection h4 with h4;have e1:=congrArg Array.toList h2;have e2:=congrArg Array.toList h4;simp only[List.toList_toArray] at e1 e2;rw[e1,e2]
theorem lbLaw:KeyLaw Tryz.prog 99:=by
 have hm2:Nat.blt 99 Tryz.prog.types.size=true:=by kernel_rfl
 exact deep_law_laid (by kernel_rfl) (m:=2) (by omega) (Nat.blt_eq.mp hm2) (by kernel_rfl) (by kernel_rfl)
theorem Kyb:∃f1 f2,Tryz.prog.underlying 99 = some (.struct #[f1,f2])∧(f1.name != "_")=true∧(f2.name != "_")=true∧f1.offset=0∧f2.offset=1∧f1.type = 9∧f2.type = 9:=⟨_,_,Tryz.underlying99,by decide,by decide,rfl,rfl,rfl,rfl⟩
theorem Kmg (x:Lb) (h1:x.n.length≤maxLen) (h2:x.v.length≤maxLen):∃l,keyOf Tryz.prog 99 (lbV x)=some l:=by
 obtain ⟨f1,f2,hu,n1,n2,o1,o2,t1,t2⟩:=Kyb;have hkt:Tryz.prog.keyType 99 = true:=by kernel_rfl
 have hco:Tryz.prog.cellsOf 99 = 2:=by kernel_rfl
 have hcs:Tryz.prog.cellsOf 9 = 1:=by kernel_rfl
 have hm2:Nat.blt 0 Tryz.prog.types.size=true:=by kernel_rfl
 obtain ⟨m,hm⟩:∃m,Tryz.prog.types.size=m+1:=⟨Tryz.prog.types.size - 1,by have:=Nat.blt_eq.mp hm2;omega⟩;have hs:Tryz.prog.underlying 9 = some .string:=Tryz.underlying9;unfold keyOf lbV;rw[hu];dsimp only;rw[if_pos (by simp[hkt,Value.formed,hu,hco]),hm];unfold Program.keyLits;simp only[hu,Value.cells];rw[if_pos (by simp[hco,n1,n2])]
 have one:∀(d:Nat) (s:ByteArray),s.size≤maxLen→Tryz.prog.keyLits (d+1) 9 [.string s]=some [.string s.data.toList]:=fun d s h=>by
  unfold Program.keyLits;simp only[hs];rw[if_pos h]
 have s1:(⟨x.n.toArray⟩:ByteArray).size≤maxLen:=by show x.n.toArray.size≤_;rw[List.size_toArray];exact h1
 have s2:(⟨x.v.toArray⟩:ByteArray).size≤maxLen:=by show x.v.toArray.size≤_;rw[List.size_toArray];exact h2
 simp[o1,o2,t1,t2,hcs,one m _ s1,one m _ s2]
section
variable {w : World} {b : Nat} {es : Array MapEntry} {clock : Nat}
theorem Kvg (hb:w.heap[b]? = some (.map es clock)) (hst:Stamped es clock) (hk:∀e∈es.toList,∃l,keyOf Tryz.prog 99 e.key=some l) {key:Value} {kl:Lit} (hkey:keyOf Tryz.prog 99 key=some kl) :
  (∃j e0,es.toList[j]? = some e0∧e0.key=key∧(Instr.mapEntry 104 (.map (some b)) key).run Tryz.prog w = .ok (.tuple #[e0.val,goInt e0.born]) (setBlock w b (.map es clock))∧
   ∀(w2:World) (val:Value),w2.heap[b]? = some (.map es clock)→(Instr.entryStore 104 (.map (some b)) (goInt e0.born) val).run Tryz.prog w2 = .ok () (setBlock w2 b (.map (es.modify j fun e=>{ e with val:=val }) clock)))∨
  ((∀e∈es.toList,e.key≠key)∧(Instr.mapEntry 104 (.map (some b)) key).run Tryz.prog w = .ok (.tuple #[.slice none 0 0,goInt clock]) (setBlock w b (.map (es.push ⟨key,.slice none 0 0,clock⟩) (clock+1)))∧
   ∀(w2:World) (val:Value),w2.heap[b]? = some (.map (es.push ⟨key,.slice none 0 0,clock⟩) (clock+1))→(Instr.entryStore 104 (.map (some b)) (goInt clock) val).run Tryz.prog w2 = .ok () (setBlock w2 b (.map (es.push ⟨key,val,clock⟩) (clock+1)))):=by
 have ht:Tryz.prog.underlying 104 = some (.map 99 69):=Tryz.underlying104;have hz:∀u:World,(zeroValue 69).run Tryz.prog u = .ok (.slice none 0 0) u:=fun u=>by kernel_rfl
 obtain ⟨s1,s2,_⟩:=hst;rcases lbLaw.find w hkey es.toList hk with ⟨h1,h2⟩ | ⟨j,e0,h1,h2,h3⟩
 ·refine .inr ⟨h2,?_,fun w2 val hw2=>?_⟩
  ·simp[Instr.mapEntry,run_underlying ht,MapKept.run_getObj_map hb,lbLaw.check w false hkey,h1,hz,MapKept.run_setObj_map _ hb,Result.andThen,setBlock]
  ·have hidx:(es.push ⟨key,.slice none 0 0,clock⟩).findIdx? (fun e=>((e.born:Nat):Int) == ((clock:Nat):Int))=some es.size:=by
    rw[WideElems.findIdx_arr]
    have:=WideElems.findIdx_born (l:=(es.push ⟨key,.slice none 0 0,clock⟩).toList) (j:=es.size) (e0:=⟨key,.slice none 0 0,clock⟩) (by
     simp only[Array.toList_push,List.map_append,List.map_cons,List.map_nil];refine List.nodup_append.2 ⟨s2,by simp,fun a ha c hc e1=>?_⟩;simp only[List.mem_singleton] at hc;obtain ⟨x,hx,rfl⟩:=List.mem_map.1 ha;have:=s1 x hx
     omega) (by simp)
    exact this
   have hmod:(es.push ⟨key,.slice none 0 0,clock⟩).modify es.size (fun e=>{ e with val:=val })=es.push ⟨key,val,clock⟩:=by
    apply Array.ext';rw[Array.toList_modify,Array.toList_push,Array.toList_push,←Array.length_toList,WideElems.modify_last]
   simp[Instr.entryStore,MapKept.run_getObj_map hw2,asInt,asIntOf,goInt,hidx,hmod,MapKept.run_setObj_map _ hw2,Result.andThen,setBlock]
 ·have hj:es[j]? = some e0:=by simpa using h2
  have hsame:es.modify j (fun e=>{ e with key:=key })=es:=by
   apply Array.ext';rw[Array.toList_modify,ChangeMaps.modify_eq_set _ _ _ _ h2];have:({ e0 with key:=key }:MapEntry)=e0:=by rw[←h3]
   rw[this];exact WideElems.set_self _ _ _ h2
  refine .inl ⟨j,e0,h2,h3,?_,fun w2 val hw2=>?_⟩
  ·simp[Instr.mapEntry,run_underlying ht,MapKept.run_getObj_map hb,lbLaw.check w false hkey,h1,hj,h3,lbLaw.stays w hkey,hsame,MapKept.run_setObj_map _ hb,Result.andThen,setBlock]
  ·have hidx:es.findIdx? (fun e=>((e.born:Nat):Int) == ((e0.born:Nat):Int))=some j:=by
    rw[WideElems.findIdx_arr];exact WideElems.findIdx_born s2 h2
   simp[Instr.entryStore,MapKept.run_getObj_map hw2,asInt,asIntOf,goInt,hidx,MapKept.run_setObj_map _ hw2,Result.andThen,setBlock]
theorem Kyf (hb:w.heap[b]? = some (.map es clock)) (hk:∀e∈es.toList,∃l,keyOf Tryz.prog 99 e.key=some l) {key:Value} {kl:Lit} (hkey:keyOf Tryz.prog 99 key=some kl) {e0:MapEntry} (he:e0∈es.toList) (hek:e0.key=key) (hn:(es.toList.map (·.key)).Nodup) :
  (Instr.lookup 104 (.map (some b)) key false).run Tryz.prog w = .ok e0.val w:=by
 have ht:Tryz.prog.underlying 104 = some (.map 99 69):=Tryz.underlying104;rcases lbLaw.find w hkey es.toList hk with ⟨h1,h2⟩ | ⟨j,e1,h1,h2,h3⟩
 ·exact absurd hek (h2 _ he)
 ·have e1e:e1=e0:=by
   have hm:=List.mem_of_getElem? h2;have hp:=List.pairwise_map.1 (show (es.toList.map (·.key)).Pairwise (·≠·) from hn);exact entry_eq_of_key hp hm he (h3.trans hek.symm)
  subst e1e;simp[Instr.lookup,run_underlying ht,MapKept.run_getObj_map hb,lbLaw.check w es.isEmpty hkey,h1,Result.andThen]
end
theorem Qey {es:Array MapEntry} {j:Nat} {e0:MapEntry} (hj:es.toList[j]? = some e0) (hn:(es.toList.map (·.key)).Nodup) (val:Value) (e':MapEntry):e'∈(es.modify j fun e=>{ e with val:=val }).toList↔e' = { e0 with val:=val }∨(e'∈es.toList∧e'.key≠e0.key):=by
 have hj':es[j]? = some e0:=by simpa using hj
 constructor
 ·intro h;obtain ⟨i,hi⟩:=List.mem_iff_getElem?.1 h;rw[Array.getElem?_toList,Array.getElem?_modify] at hi
  by_cases hij:j=i
  ·subst hij;simp[hj'] at hi;exact .inl hi.symm
  ·rw[if_neg hij] at hi;have hi':es.toList[i]? = some e':=by simpa using hi
   refine .inr ⟨List.mem_of_getElem? hi',fun hk=>hij ?_⟩;have h1:(es.toList.map (·.key))[i]? = some e'.key:=by rw[List.getElem?_map,hi'];rfl
   have h2:(es.toList.map (·.key))[j]? = some e0.key:=by rw[List.getElem?_map,hj];rfl
   rw[hk,←h2] at h1
   have hil:i < (es.toList.map (·.key)).length:=by
    have:=(List.getElem?_eq_some_iff.1 hi').1;rwa[List.length_map]
   exact ((List.getElem?_inj hil hn).1 h1).symm
 ·rintro (rfl | ⟨h,hk⟩)
  ·exact List.mem_of_getElem? (i:=j) (by rw[Array.getElem?_toList,Array.getElem?_modify];simp[hj'])
  ·obtain ⟨i,hi⟩:=List.mem_iff_getElem?.1 h
   have hij:j≠i:=by
    rintro rfl;rw[hj] at hi;injection hi with hi;exact hk (by rw[hi])
   exact List.mem_of_getElem? (i:=i) (by rw[Array.getElem?_toList,Array.getElem?_modify,if_neg hij];simpa using hi)
section
variable {w : World} {b : Nat} {es : Array MapEntry} {clock : Nat}
theorem Qdf (hb:w.heap[b]? = some (.map es clock)) (hst:Stamped es clock) (hk:∀e∈es.toList,∃l,keyOf Tryz.prog 99 e.key=some l) {key:Value} {kl:Lit} (hkey:keyOf Tryz.prog 99 key=some kl) :
  ∃(v0:Value) (st:Nat) (es1:Array MapEntry) (clock1:Nat),(Instr.mapEntry 104 (.map (some b)) key).run Tryz.prog w = .ok (.tuple #[v0,.int .i64 (st:Int)]) (setBlock w b (.map es1 clock1))∧
   ((∃e0∈es.toList,e0.key=key∧v0=e0.val)∨((∀e∈es.toList,e.key≠key)∧v0 = .slice none 0 0))∧
   ∀(w2:World) (val:Value),w2.heap[b]? = some (.map es1 clock1)→∃es' clock',(Instr.entryStore 104 (.map (some b)) (.int .i64 (st:Int)) val).run Tryz.prog w2 = .ok () (setBlock w2 b (.map es' clock'))∧Stamped es' clock'∧es'.size≤es.size+1∧
    ∀e',e'∈es'.toList↔e'=⟨key,val,st⟩∨(e'∈es.toList∧e'.key≠key):=by
 rcases Kvg hb hst hk hkey with ⟨j,e0,h1,h2,h3,h4⟩ | ⟨h1,h2,h3⟩
 ·refine ⟨e0.val,e0.born,es,clock,h3,.inl ⟨e0,List.mem_of_getElem? h1,h2,rfl⟩,fun w2 val hw2=>⟨_,_,h4 w2 val hw2,?_,?_,fun e'=>?_⟩⟩
  ·exact stamped_modify hst j _ (fun _ _=>rfl) (fun _ _ _=>rfl)
  ·rw[Array.size_modify];omega
  ·rw[Qey h1 hst.2.2];rw[←h2]
 ·refine ⟨_,clock,_,_,h2,.inr ⟨h1,rfl⟩,fun w2 val hw2=>⟨_,_,h3 w2 val hw2,stamped_push hst h1,by rw[Array.size_push];omega,fun e'=>?_⟩⟩;rw[Array.toList_push,List.mem_append,List.mem_singleton];constructor
  ·rintro (h | h)
   ·exact .inr ⟨h,h1 _ h⟩
   ·exact .inl h
  ·rintro (h | h)
   ·exact .inr h
   ·exact .inl h.1
end
structure LMap (w:World) (B b:Nat) (f:Lb→List Nat) (n:Nat) (es:Array MapEntry) (clock:Nat):Prop where
 h:w.heap[b]? = some (.map es clock)
 st:Stamped es clock
 sz:es.size≤n
 k:∀e∈es.toList,∃x:Lb,(x.n.length≤1099511627776∧x.v.length≤1099511627776)∧e.key=lbV x∧f x≠[]∧w.ownsRow B 3 1 e.val (f x).length ((f x).flatMap encN)
 a:∀x,f x≠[]→∃e∈es.toList,e.key=lbV x
 o:∀e∈es.toList,∀e'∈es.toList,e.key≠e'.key→e.val.ownBlock≠e'.val.ownBlock
theorem Kax {w:World} {B n sz r:Nat} {T:TypeId} {v:Value} {xs:List Value} (h:w.ownsRow B T sz v n xs) (hv:v.ownBlock=some r):∃cur,w.heap[r]? = some (.cells cur T (0,0)):=by
 rcases h.2 with ⟨rfl,_⟩ | ⟨g,cap,cur,rfl,_,hg,_⟩
 ·cases hv
 ·cases hv;exact ⟨cur,hg⟩
theorem Kts {w:World} {B n sz:Nat} {T:TypeId} {v:Value} {xs:List Value} (h:w.ownsRow B T sz v n xs) (hn:n≠0):∃r,v.ownBlock=some r:=by
 rcases h.2 with ⟨rfl,h0⟩ | ⟨g,cap,cur,rfl,_⟩
 ·exact absurd h0 hn
 ·exact ⟨g,rfl⟩
theorem Kee {w:World} {b:Nat} (o':Obj):w.grownBy (setBlock w b o') (some b):=
 ⟨rfl,rfl,rfl,by show _≤(w.heap.setIfInBounds b o').size;simp,fun k hk hne=>by
  show (w.heap.setIfInBounds b o')[k]? = _
  rw[Array.getElem?_setIfInBounds,if_neg];rintro rfl
  exact hne rfl⟩
theorem Kht {w:World} {b:Nat} {o:Obj} (o':Obj) (h:w.heap[b]? = some o):(setBlock w b o').heap[b]? = some o':=by
 show (w.heap.setIfInBounds b o')[b]? = _
 rw[Array.getElem?_setIfInBounds,if_pos rfl,if_pos (Array.getElem?_eq_some_iff.1 h).1]
theorem Klq (w:World) (b:Nat) (o':Obj):(setBlock w b o').heap.size=w.heap.size:=by
 show (w.heap.setIfInBounds b o').size=_
 simp
theorem Kic {w:World} {B n sz b:Nat} {T:TypeId} {v:Value} {xs:List Value} {es:Array MapEntry} {clock:Nat} (h:w.ownsRow B T sz v n xs) (hb:w.heap[b]? = some (.map es clock)):v.ownBlock≠some b:=fun hv=>by
 obtain ⟨cur,hc⟩:=Kax h hv;rw[hb] at hc;cases hc
theorem Kwv {w:World} {B b n:Nat} {f:Lb→List Nat} {es:Array MapEntry} {clock:Nat} (h:LMap w B b f n es clock):∀e∈es.toList,∃l,keyOf Tryz.prog 99 e.key=some l:=fun e he=>by
 obtain ⟨x,hz,hk,_⟩:=h.k e he;rw[hk];exact Kmg x (by unfold maxLen;omega) (by unfold maxLen;omega)
theorem LMap.new (w:World) (B:Nat):LMap (w.alloc (.map #[] 0)) B w.heap.size (fun _=>[]) 0 #[] 0:=
 ⟨World.alloc_heap_new w _,⟨by simp,by simp,by simp⟩,by simp,by simp,fun x hx=>absurd rfl hx,by simp⟩
theorem LMap.kept {w w':World} {B b n:Nat} {f:Lb→List Nat} {es:Array MapEntry} {clock:Nat} (h:LMap w B b f n es clock) {row:Option Nat} (hg:w.grownBy w' row) (hr:∀r,row=some r→∃cur t,w.heap[r]? = some (.cells cur t (0,0))∧t≠3):LMap w' B b f n es clock:=by
 have hlt:=(Array.getElem?_eq_some_iff.1 h.h).1;refine ⟨(hg.block b hlt (fun e=>?_)).trans h.h,h.st,h.sz,fun e he=>?_,h.a,h.o⟩
 ·obtain ⟨cur,t,hc,_⟩:=hr b e.symm;rw[h.h] at hc;cases hc
 ·obtain ⟨x,hz,hk,hf,hw⟩:=h.k e he;refine ⟨x,hz,hk,hf,hw.kept hg (.inr fun e'=>?_)⟩;obtain ⟨r,hr'⟩:=Kts hw (by rw[Ne,List.length_eq_zero_iff];exact hf);obtain ⟨cur,hc⟩:=Kax hw hr';obtain ⟨cur2,t,hc2,ht⟩:=hr r (e'▸hr');rw[hc] at hc2;injection hc2 with hc2;injection hc2 with _ hc2;exact ht hc2.symm
theorem LMap.mono {w:World} {B b n m:Nat} {f:Lb→List Nat} {es:Array MapEntry} {clock:Nat} (h:LMap w B b f n es clock) (hm:n≤m):LMap w B b f m es clock:=⟨h.h,h.st,Nat.le_trans h.sz hm,h.k,h.a,h.o⟩
theorem LMap.below {w w':World} {B b n:Nat} {f:Lb→List Nat} {es:Array MapEntry} {clock:Nat} (h:LMap w B b f n es clock) (hb:Below w.heap.size w w'):LMap w' B b f n es clock:=
 h.kept (row:=none) ⟨hb.os,hb.tape,hb.output,hb.size,fun k hk _=>hb.block k hk⟩ (fun r e=>by cases e)
def addF (f:Lb→List Nat) (x:Lb) (i:Nat):Lb→List Nat:=fun y=>if y=x then f x ++ [i] else f y
theorem LMap.step {w:World} {B b n:Nat} {f:Lb→List Nat} {es:Array MapEntry} {clock:Nat} (h:LMap w B b f n es clock) (x:Lb) (hx:x.n.length≤1099511627776∧x.v.length≤1099511627776) (i:Nat) (hB:B≤w.heap.size) :
  ∃(v0:Value) (st:Nat) (es1:Array MapEntry) (clock1:Nat),(Instr.mapEntry 104 (.map (some b)) (lbV x)).run Tryz.prog w = .ok (.tuple #[v0,.int .i64 (st:Int)]) (setBlock w b (.map es1 clock1))∧
   (setBlock w b (.map es1 clock1)).ownsRow B 3 1 v0 (f x).length ((f x).flatMap encN)∧v0.ownBlock≠some b∧
   ∀(w2:World) (val:Value),(setBlock w b (.map es1 clock1)).grownBy w2 v0.ownBlock→w2.ownsRow B 3 1 val ((f x).length+1) ((f x).flatMap encN++encN i)→(val.ownBlock=v0.ownBlock∨val.ownBlock=some w.heap.size)→
    ∃es' clock',(Instr.entryStore 104 (.map (some b)) (.int .i64 (st:Int)) val).run Tryz.prog w2 = .ok () (setBlock w2 b (.map es' clock'))∧LMap (setBlock w2 b (.map es' clock')) B b (addF f x i) (n+1) es' clock'∧(∀e'∈es'.toList,e'.val=val∨e'∈es.toList)∧(v0.ownBlock=none∨∃e∈es.toList,e.val=v0):=by
 obtain ⟨kl,hkl⟩:=Kmg x (by unfold maxLen;omega) (by unfold maxLen;omega);obtain ⟨v0,st,es1,clock1,h1,h2,h3⟩:=Qdf h.h h.st (Kwv h) hkl;have hg1:w.grownBy (setBlock w b (.map es1 clock1)) (some b):=Kee _
 have hrow:w.ownsRow B 3 1 v0 (f x).length ((f x).flatMap encN):=by
  rcases h2 with ⟨e0,he0,hk0,rfl⟩ | ⟨hno,rfl⟩
  ·obtain ⟨y,_,hy,_,hw⟩:=h.k e0 he0;rw[hk0] at hy;rw[Kev hy];exact hw
  ·have hf:f x = []:=by
    rcases hfx:f x with _ | ⟨a,l⟩
    ·rfl
    ·obtain ⟨e,he,hk⟩:=h.a x (by rw[hfx];simp);exact absurd hk (hno e he)
   rw[hf];exact World.ownsRow_nil _ _ _ _
 have hvb:=Kic hrow h.h;refine ⟨v0,st,es1,clock1,h1,hrow.kept hg1 (.inr hvb),hvb,fun w2 val hg2 hr2 hblk=>?_⟩;have hb2:w2.heap[b]? = some (.map es1 clock1):=(hg2.block b (by rw[Klq];exact (Array.getElem?_eq_some_iff.1 h.h).1) (Ne.symm hvb)).trans (Kht _ h.h);obtain ⟨es',clock',h4,h5,h6,h7⟩:=h3 w2 val hb2;have hg3:w2.grownBy (setBlock w2 b (.map es' clock')) (some b):=Kee _
 have others:∀e∈es.toList,e.key≠lbV x→e.val.ownBlock≠v0.ownBlock∧e.val.ownBlock≠val.ownBlock:=fun e he hk=>by
  obtain ⟨y,_,hy,hf,hw⟩:=h.k e he;obtain ⟨r,hr⟩:=Kts hw (by rw[Ne,List.length_eq_zero_iff];exact hf)
  have q1:e.val.ownBlock≠v0.ownBlock:=by
   rcases h2 with ⟨e0,he0,hk0,rfl⟩ | ⟨_,rfl⟩
   ·exact h.o e he e0 he0 (by rw[hk0];exact hk)
   ·rw[hr];intro h;cases h
  refine ⟨q1,fun hh=>?_⟩;rcases hblk with hv | hv
  ·exact q1 (hh.trans hv)
  ·rw[hr] at hh;rw[hv] at hh;injection hh with hh;have:=(hw.lt r hr).2;omega
 refine ⟨es',clock',h4,⟨Kht _ hb2,h5,by have:=h.sz;omega,fun e he=>?_,fun y hy=>?_,fun e he e' he' hne=>?_⟩,fun e he=>?_,?_⟩
 ·rcases (h7 e).1 he with rfl | ⟨he,hk⟩
  ·refine ⟨x,hx,rfl,by simp[addF],?_⟩;have e1:addF f x i x=f x ++ [i]:=by simp[addF]
   rw[e1,List.length_append,List.flatMap_append];have:=hr2.kept hg3 (.inr (Kic hr2 hb2));simpa using this
  ·obtain ⟨y,hz,hy,hf,hw⟩:=h.k e he
   have hyx:y≠x:=by
    rintro rfl;exact hk hy
   have e1:addF f x i y=f y:=by simp[addF,hyx]
   refine ⟨y,hz,hy,by rw[e1];exact hf,?_⟩;rw[e1];have w1:=hw.kept hg1 (.inr (Kic hw h.h));have w2':=w1.kept hg2 (.inr (others e he hk).1);exact w2'.kept hg3 (.inr (Kic w2' hb2))
 ·by_cases hyx:y=x
  ·subst hyx;exact ⟨_,(h7 _).2 (.inl rfl),rfl⟩
  ·have e1:addF f x i y=f y:=by simp[addF,hyx]
   rw[e1] at hy;obtain ⟨e,he,hk⟩:=h.a y hy;exact ⟨e,(h7 e).2 (.inr ⟨he,by rw[hk];exact fun h=>hyx (Kev h)⟩),hk⟩
 ·rcases (h7 e).1 he with rfl | ⟨he,hk⟩
  ·rcases (h7 e').1 he' with rfl | ⟨he',hk'⟩
   ·exact absurd rfl hne
   ·exact Ne.symm (others e' he' hk').2
  ·rcases (h7 e').1 he' with rfl | ⟨he',hk'⟩
   ·exact (others e he hk).2
   ·exact h.o e he e' he' hne
 ·rcases (h7 e).1 he with rfl | ⟨he,_⟩
  ·exact .inl rfl
  ·exact .inr he
 ·rcases h2 with ⟨e0,he0,_,rfl⟩ | ⟨_,rfl⟩
  ·exact .inr ⟨e0,he0,rfl⟩
  ·exact .inl rfl
end
section
open Go.RowKit
open Lib renaming hid → Jh
open List renaming length_append → Jd
attribute [local go_sem ↓] Go.wp_at_zero Go.wp_at_succ
attribute [local go_sem] Later.cell
theorem Qda:(Tryz.prog.info? 5).map (fun i=>(i.zero,i.size,i.bytes))=some (some (.int .u8 0),1,1):=by kernel_rfl
theorem Kwj (n:Nat) (hn:n≤64) (w:World):Calls Tryz.prog 242 #[.int .i64 (n:Int)] w fun e w'=>e = .returned (.int .i64 (n:Int))∧w=w':=by
 go_enter Tryz.func242,Tryz.ntmps242
 go_wp2_with fail
 all_goals go_ret
 all_goals refine ⟨?_,rfl⟩
 all_goals apply Qfg
 all_goals omega
theorem Kqi {w:World} {B n:Nat} {T:TypeId} {v:Value} {xs:List Value} (h:w.ownsRow B T 1 v (n+1) xs):∃g c,v = .slice (some ⟨g,0,none⟩) (n+1) c:=by
 rcases h.2 with ⟨_,h2⟩ | ⟨g,cap,cur,rfl,_⟩
 ·omega
 ·exact ⟨g,cap,rfl⟩
theorem Kyk {base e sz n:Nat} {w0 wr w1:World} {v:Value} {xs:List Value} {o:Obj} (hwr:Below base w0 wr) (hbs:base≤wr.heap.size) (hown:wr.ownsRow base e sz v n xs) (hg:(wr.alloc o).grownBy w1 v.ownBlock):Below base w0 w1:=
 hwr.trans ⟨hg.os,hg.tape,hg.output,by have:=hg.size;simp at this;omega,fun k hk=>(hg.block k (by simp;omega) (fun e=>by have:=(hown.lt k e.symm).1;omega)).trans (Below.heap_alloc _ _ _ (by omega))⟩
theorem Kfq {w:World} {B g n cap i:Nat} {s:List UInt8} {y:UInt8} (h:w.ownsRow B 5 1 (.slice (some ⟨g,0,none⟩) n cap) n (Lib.byteCells s)) (hy:s.getD i 0=y) (hi:i < s.length) :
  w.cell? ⟨g,i,none⟩=some (.int .u8 (y.toNat:Int))∧w.frozen? ⟨g,i,none⟩=false:=by
 have hl:(Lib.byteCells s).length=n*1:=h.1;have hl2:(Lib.byteCells s).length=s.length:=by simp[Lib.byteCells]
 refine ⟨?_,World.ownsRow.frozenAt h _⟩;rw[World.ownsRow.cellAt h i (by omega)];subst hy;simp[Lib.byteCells,hi]
theorem Kiq {w:World} {B n:Nat} {T:TypeId} {v:Value} {xs:List Value} (h:w.ownsRow B T 1 v n xs) {p:Addr} (hp:v.ownBlock≠some p.block) (u:Value):(w.setCell p u).ownsRow B T 1 v n xs:=
 h.kept (row:=some p.block) ⟨rfl,rfl,rfl,by simp[World.setCell],fun k _ hk=>Below.heap_setCell _ _ _ _ (fun e=>hk (by rw[e]))⟩ (.inr hp)
theorem Kfc {w w':World} {B:Nat} {T:TypeId} {sz n:Nat} {v:Value} {xs:List Value} (h:w.ownsRow B T sz v n xs) (k:Below w.heap.size w w'):w'.ownsRow B T sz v n xs:=
 h.kept (row:=none) ⟨k.os,k.tape,k.output,k.size,fun i hi _=>k.block i hi⟩ (by cases v.ownBlock <;> simp)
theorem Kku (n:Int) (h0:0≤n) (h1:n < 2 ^ 64):IntKind.u64.wrap n=n:=by
 rw[IntKind.wrap_u64];omega
theorem Qef (n:Int) (h0:0≤n) (h1:n < 2 ^ 8):IntKind.u8.wrap n=n:=by
 rw[IntKind.wrap_u8];omega
theorem Qed (v:Nat) (h:v < 2 ^ 64):bits .and .u64 (v:Int) 1=((v % 2:Nat):Int):=by
 have:=(bits_nat .u64 64 (by decide) Kku v 1 h (by decide)).1;rw[show ((1:Nat):Int)=1 from rfl] at this;rw[this,show (1:Nat)=2 ^ 1 - 1 from rfl,Nat.and_two_pow_sub_one_eq_mod]
theorem Khr {x k:Nat} (hx:x < 2 ^ 64):(bits .and .u64 ((x:Int) / 2 ^ k) 1 == 1)=x.testBit k:=by
 have h:(x:Int) / 2 ^ k=((x / 2 ^ k:Nat):Int):=by simp
 rw[h,Nat.testBit_eq_decide_div_mod_eq,Qed _ (Nat.lt_of_le_of_lt (Nat.div_le_self _ _) hx)];rcases Nat.mod_two_eq_zero_or_one (x / 2 ^ k) with h | h <;> rw[h] <;> rfl
theorem Knr {w:World} {B n g:Nat} {T:TypeId} {v:Value} {xs:List Value} {cs:Array Value} (h:w.ownsRow B 5 1 v n xs) (hb:Blk w g T cs) (ht:T≠5):v.ownBlock≠some g:=by
 rcases h.2 with ⟨rfl,_⟩ | ⟨g',cap,cur,rfl,_,hh,_⟩
 ·intro e;cases e
 ·intro e;injection e with e;have e:g'=g:=e;subst e;unfold Blk at hb;rw[hh] at hb;injection hb with hb;injection hb with _ hb;exact ht hb.symm
def WrAt (B b:Nat) (T:TypeId) (rest:List Value) (l:List Bool) (w:World):Prop:=
 B≤b∧∃v,Blk w b T (v :: .int .i64 (l.length:Int) :: rest).toArray∧w.ownsRow B 5 1 v ((l.length+7) / 8) (Lib.byteCells (packB l))∧v.ownBlock≠some b
theorem WrAt.lt {B b:Nat} {T:TypeId} {rest:List Value} {l:List Bool} {w:World} (h:WrAt B b T rest l w):b < w.heap.size:=by
 obtain ⟨_,v,h,_⟩:=h;exact h.lt
theorem Qee (y:UInt8) (k:Nat) (hk:k < 256):bits .or .u8 (y.toNat:Int) (k:Int)=(((y ||| UInt8.ofNat k).toNat:Nat):Int):=by
 rw[(bits_nat .u8 8 (by decide) Qef y.toNat k (UInt8.toNat_lt y) hk).2,UInt8.toNat_or,UInt8.toNat_ofNat',Nat.mod_eq_of_lt (by omega:k < 2 ^ 8)]
theorem Kqq (y:UInt8) (j:Nat) (z:Int) (hz:z=128 / 2 ^ j):bits .or .u8 (y.toNat:Int) z=(((y ||| UInt8.ofNat (128 >>> j)).toNat:Nat):Int):=by
 have h:z=((128 >>> j:Nat):Int):=by
  rw[hz,Nat.shiftRight_eq_div_pow];simp
 rw[h];exact Qee y _ (Nat.lt_of_le_of_lt (Nat.shiftRight_le _ _) (by decide))
section
variable {w : World} {B b g m cap : Nat} {T : TypeId} {rest : List Value} {L : List Bool} {s : List UInt8} {y : UInt8}
theorem Kxf (hm:L.length=m) (hs:packB L=s) (hBb:B≤b) (hgb:g≠b) (hblk:Blk w b T (.slice (some ⟨g,0,none⟩) (m / 8+1) cap :: .int .i64 (m:Int) :: rest).toArray)
  (hrow:w.ownsRow B 5 1 (.slice (some ⟨g,0,none⟩) (m / 8+1) cap) (m / 8+1) (Lib.byteCells (roomB s m))) (hl:(roomB s m).length=m / 8+1) :
  WrAt B b T rest (L ++ [false]) (w.setCell ⟨b,1,none⟩ (.int .i64 ((m:Int)+1))):=by
 have hp:packB (L ++ [false])=roomB s m:=by rw[Knl,hm,hs];rfl
 refine ⟨hBb,.slice (some ⟨g,0,none⟩) (m / 8+1) cap,?_,?_,fun e=>hgb (by injection e)⟩
 ·have:=hblk.set_ 1 (.int .i64 ((m:Int)+1));rw[Jd,hm];simpa using this
 ·rw[hp,Jd,hm,List.length_singleton,show (m+1+7) / 8=m / 8+1 by omega];exact Kiq hrow (fun e=>hgb (by injection e)) _
theorem Kxg (hm:L.length=m) (hs:packB L=s) (hBb:B≤b) (hgb:g≠b) (hblk:Blk w b T (.slice (some ⟨g,0,none⟩) (m / 8+1) cap :: .int .i64 (m:Int) :: rest).toArray)
  (hrow:w.ownsRow B 5 1 (.slice (some ⟨g,0,none⟩) (m / 8+1) cap) (m / 8+1) (Lib.byteCells (roomB s m))) (hy:(roomB s m).getD (m / 8) 0=y) (hl:(roomB s m).length=m / 8+1) :
  WrAt B b T rest (L ++ [true]) ((w.setCell ⟨g,m / 8,none⟩ (.int .u8 (((y ||| UInt8.ofNat (128 >>> (m % 8))).toNat:Nat):Int))).setCell ⟨b,1,none⟩ (.int .i64 ((m:Int)+1))):=by
 have hp:packB (L ++ [true])=(roomB s m).set (m / 8) (y ||| UInt8.ofNat (128 >>> (m % 8))):=by rw[Knl,hm,hs,←hy];rfl
 refine ⟨hBb,.slice (some ⟨g,0,none⟩) (m / 8+1) cap,?_,?_,fun e=>hgb (by injection e)⟩
 ·have:=(hblk.far (p:=⟨g,m / 8,none⟩) (fun e=>hgb e.symm) (.int .u8 (((y ||| UInt8.ofNat (128 >>> (m % 8))).toNat:Nat):Int))).set_ 1 (.int .i64 ((m:Int)+1));rw[Jd,hm];simpa using this
 ·rw[hp,Jd,hm,List.length_singleton,show (m+1+7) / 8=m / 8+1 by omega];have h1:=(World.ownsRow.stored hrow (m / 8) (.int .u8 (((y ||| UInt8.ofNat (128 >>> (m % 8))).toNat:Nat):Int))).1
  have e:(Lib.byteCells (roomB s m)).set (m / 8) (.int .u8 (((y ||| UInt8.ofNat (128 >>> (m % 8))).toNat:Nat):Int))=Lib.byteCells ((roomB s m).set (m / 8) (y ||| UInt8.ofNat (128 >>> (m % 8)))):=by
   unfold Lib.byteCells;rw[List.map_set]
  rw[e] at h1;exact Kiq h1 (fun e=>hgb (by injection e)) _
end
def KeepT (b:Nat) (w w':World):Prop:=∀g T cs,Blk w g T cs→g≠b→T≠5→Blk w' g T cs
theorem KeepT.refl (b:Nat) (w:World):KeepT b w w:=fun _ _ _ h _ _=>h
theorem KeepT.trans {b:Nat} {w w1 w2:World} (h:KeepT b w w1) (k:KeepT b w1 w2):KeepT b w w2:=fun g T cs hg hb ht=>k g T cs (h g T cs hg hb ht) hb ht
theorem KeepT.of_below {b:Nat} {w w1:World} (h:Below w.heap.size w w1):KeepT b w w1:=fun _ _ _ hg _ _=>hg.below h hg.lt
theorem KeepT.grown {b:Nat} {w w1:World} {B n:Nat} {v:Value} {xs:List Value} {o:Obj} (h:w.ownsRow B 5 1 v n xs) (hg:(w.alloc o).grownBy w1 v.ownBlock):KeepT b w w1:=
 fun g T cs hb _ ht=>(hb.alloc o).grown hg (fun e=>Knr h hb ht e.symm)
theorem KeepT.own {b i:Nat} {w:World} {u:Value}:KeepT b w (w.setCell ⟨b,i,none⟩ u):=fun _ _ _ hb hne _=>hb.far (p:=⟨b,i,none⟩) hne _
theorem KeepT.row {b g cap B n m i:Nat} {w:World} {u:Value} {xs:List Value} (h:w.ownsRow B 5 1 (.slice (some ⟨g,0,none⟩) m cap) n xs):KeepT b w (w.setCell ⟨g,i,none⟩ u):=
 fun k T cs hb _ ht=>hb.far (p:=⟨g,i,none⟩) (fun e=>Knr h hb ht (by rw[e];rfl)) _
theorem Kbj (B b:Nat) (T:TypeId) (rest:List Value) (l:List Bool) (x n:Nat) (w:World) (h:WrAt B b T rest l w) (hn:n≤64) (hlen:l.length≤1099511627776) (hx:x < 2 ^ 64) (hB:B≤w.heap.size) :
  Calls Tryz.prog 199 #[.pointer (some ⟨b,0,none⟩),.int .u64 (x:Int),.int .i64 (n:Int)] w fun e w'=>e = .returned (.tuple #[])∧WrAt B b T rest (l++putN x n) w'∧Below B w w'∧KeepT b w w':=by
 obtain ⟨i0,hi0,hz0,hz1,hz2⟩:=info_parts Qda;have H:=Jh h;clear h;go_enter Tryz.func199,Tryz.ntmps199
 go_wp2_with fail
 refine (Kwj n hn w).mono ?_;rintro _ _ ⟨rfl,rfl⟩;go_wp2_with fail
 go_loopg [2] n (fun k s2 wr=>s2 = .int .i64 (k:Int)∧∃d,d++putN x k=putN x n∧WrAt B b T rest (l++d) wr∧Below B w wr∧KeepT b w wr)
 case atStart=>exact ⟨rfl,[],rfl,by simpa using H.out,Below.refl _ _,KeepT.refl _ _⟩
 case round=>
  obtain ⟨rfl,d,hd,hw,hb,hkt⟩:=hrel;have HKT:=Jh hkt;clear hkt;obtain ⟨hBb,v,hblk,hown,hne⟩:=hw
  cases gk with
  | zero=>
   have HD:=Jh hd;clear hd;go_wp2_with fail
   go_end0
   rw[putN,List.append_nil] at HD;refine ⟨rfl,?_,hb,HKT.out⟩;rw[←HD.out];exact ⟨hBb,v,hblk,hown,hne⟩
  | succ k=>
   obtain ⟨m,hm⟩:∃m,(l++d).length=m:=⟨_,rfl⟩;obtain ⟨s,hs⟩:∃s,packB (l++d)=s:=⟨_,rfl⟩;have hde:=congrArg List.length hd;rw[Jd,Kbg,Kbg] at hde
   have hml:m≤1099511627840:=by
    rw[Jd] at hm;omega
   have hk:k < 64:=by omega
   clear hde;have hBw:B≤wr.heap.size:=Nat.le_trans hB hb.size;have hBw':B≤w.heap.size:=hB;have HM:=Jh hm;have HS:=Jh hs;have HD:=Jh hd;have HBE:=Jh hb;have HBK:=Jh hblk;rw[hm,hs] at hown;rw[hm] at hblk;have c0:wr.cell? ⟨b,0,none⟩=some v:=hblk.cell 0;have c1:wr.cell? ⟨b,1,none⟩=some (.int .i64 (m:Int)):=hblk.cell 1;have z0:=hblk.frozen 0;have z1:=hblk.frozen 1;clear hd hm hs hb;have hsl:s.length=(m+7) / 8:=by rw[←HS.out,(Kfp (l++d)).len,HM.out]
   by_cases h8:m % 8=0
   ·have e8:((m:Int) % 8 == 0)=true:=by simp;omega
    go_wp2_with (at_builtin;refine wpList_append_own_at _ rfl _ _ 76 rfl B 5 i0 (.int .u8 0) 1 1 Tryz.underlying76 hi0 hz0 hz1 hz2 rfl (by decide) _ _ _ rfl (World.ownsRow.alloc hown _) ⟨wr.heap.size,0,none⟩ 1 1 [.int .u8 0] rfl rfl ?c1 ?c2 ?c3 ?c4 ?c5 ?_)
    case c1=>exact Kav (l:=[.int .u8 0]) (Blk.new wr _ _)
    case c2=>intro u hu;rw[List.mem_singleton.1 hu];rfl
    case c3=>unfold maxLen;omega
    case c4=>omega
    case c5=>simp;omega
    intro v' w1 hown' hgrow hx1 hat;have hr8:roomB s m=s ++ [0]:=if_pos h8
    have hrow:w1.ownsRow B 5 1 v' (m / 8+1) (Lib.byteCells (roomB s m)):=by
     rw[hr8,show m / 8+1=(m+7) / 8+1 by omega,show Lib.byteCells (s ++ [0])=Lib.byteCells s ++ [.int .u8 0] by simp[Lib.byteCells]];exact hown'
    have hb1:Below B w w1:=Kyk HBE.out hBw hown hgrow;have HK1:=Jh (HKT.out.trans (KeepT.grown (b:=b) hown hgrow));have hblk1:Blk w1 b T (v :: .int .i64 (m:Int) :: rest).toArray:=(hblk.alloc _).grown hgrow (fun e=>hne e.symm)
    have hne1:v'.ownBlock≠some b:=by
     rcases hat with e | e
     ·rw[e];exact hne
     ·rw[e];intro e2;injection e2 with e2;have:=hblk.lt;omega
    obtain ⟨g,cap,rfl⟩:=Kqi hrow;clear hown' hgrow hat hx1 c0 c1 z0 z1;have c0:w1.cell? ⟨b,0,none⟩=some v:=hblk1.cell 0;have z0:=hblk1.frozen 0;go_upto_region 6 with fail
    have hsl2:(roomB s m).length=m / 8+1:=Kkg hsl;have hblk2:Blk (w1.setCell ⟨b,0,none⟩ (.slice (some ⟨g,0,none⟩) (m / 8+1) cap)) b T (.slice (some ⟨g,0,none⟩) (m / 8+1) cap :: .int .i64 (m:Int) :: rest).toArray:=by simpa using hblk1.set_ 0 (.slice (some ⟨g,0,none⟩) (m / 8+1) cap)
    have hrow2:=Kiq hrow (p:=⟨b,0,none⟩) hne1 (.slice (some ⟨g,0,none⟩) (m / 8+1) cap);have hb2:Below B w (w1.setCell ⟨b,0,none⟩ (.slice (some ⟨g,0,none⟩) (m / 8+1) cap)):=hb1.setCell (p:=⟨b,0,none⟩) hBb _;have hk2:KeepT b w (w1.setCell ⟨b,0,none⟩ (.slice (some ⟨g,0,none⟩) (m / 8+1) cap)):=HK1.out.trans KeepT.own;obtain ⟨w2,hw2⟩:∃w2,w1.setCell ⟨b,0,none⟩ (.slice (some ⟨g,0,none⟩) (m / 8+1) cap)=w2:=⟨_,rfl⟩;rw[hw2] at hblk2 hrow2 hb2 hk2;have HK2:=Jh hk2;clear hk2;rw[hw2];clear hw2 hblk1 hrow hb1 c0 z0 hblk hown;have HB2:=Jh hb2;have HBK2:=Jh hblk2;have HRW2:=Jh hrow2;have hgb:g≠b:=fun e=>hne1 (by rw[e];rfl)
    have hbg:b≠g:=fun e=>hgb e.symm
    obtain ⟨y,hy⟩:∃y:UInt8,(roomB s m).getD (m / 8) 0=y:=⟨_,rfl⟩;have hcl:=Kfq hrow2 hy (by omega);have HY:=Jh hy;clear hy;have c2:=hcl.1;have z2:=hcl.2;clear hcl;have c0:_=some (Value.slice (some ⟨g,0,none⟩) (m / 8+1) cap):=hblk2.cell 0;have c1:_=some (Value.int .i64 (m:Int)):=hblk2.cell 1;have z1:=hblk2.frozen 1;have hbl:=hblk2.lt;have hgl:=(World.ownsRow.lt hrow2 g rfl).2;have hBg:=(World.ownsRow.lt hrow2 g rfl).1;clear hb2 hblk2 hrow2
    cases hbt:x.testBit k with
    | true=>
     have hbit:(bits .and .u64 ((x:Int) / 2 ^ k) 1 == 1)=true:=by rw[Khr hx,hbt]
     go_upto_region 7 with fail
     refine Kaj 19 (by kernel_rfl) (by kernel_rfl) ?_;simp only[List.take_succ_cons,List.take_zero,List.drop_succ_cons,List.drop_zero]
     repeat (go_big_quiet_step (fail))
     refine wpQuiet_nil ?_;rintro w3 ⟨⟨_,hb3⟩,rfl⟩;have HRW3:=Jh (Kfc HRW2.out hb3);have HBK3:=Jh (HBK2.out.below hb3 HBK2.out.lt);have HB3:=Jh (HB2.out.trans (hb3.mono (Nat.le_trans hBw' HB2.out.size)));have HK3:=Jh (HK2.out.trans (KeepT.of_below (b:=b) hb3));have c1:w3.cell? ⟨b,1,none⟩=_:=HBK3.out.cell 1;have z1:=HBK3.out.frozen 1;have c2:=(Kfq HRW3.out HY.out (by omega)).1;have z2:=(Kfq HRW3.out HY.out (by omega)).2;clear hb3 c0;go_wp2_with fail
     go_roundg k
     case measure=>omega
     case rel=>
      have hy8:bits .or .u8 (y.toNat:Int) 128=(((y ||| UInt8.ofNat (128 >>> (m % 8))).toNat:Nat):Int):=Kqq y (m % 8) _ (by rw[h8];rfl);rw[hy8];refine ⟨by go_num,d ++ [true],by rw[List.append_assoc,←HD.out,putN,hbt];rfl,?_,(HB3.out.setCell (p:=⟨g,m / 8,none⟩) hBg _).setCell (p:=⟨b,1,none⟩) hBb _,(HK3.out.trans (KeepT.row HRW3.out)).trans KeepT.own⟩;rw[←List.append_assoc];exact Kxg HM.out HS.out hBb hgb HBK3.out HRW3.out HY.out hsl2
    | false=>
     have hbit:(bits .and .u64 ((x:Int) / 2 ^ k) 1 == 1)=false:=by rw[Khr hx,hbt]
     go_wp2_with fail
     go_roundg k
     case measure=>omega
     case rel=>
      refine ⟨by go_num,d ++ [false],by rw[List.append_assoc,←HD.out,putN,hbt];rfl,?_,HB2.out.setCell (p:=⟨b,1,none⟩) hBb _,HK2.out.trans KeepT.own⟩;rw[←List.append_assoc];exact Kxf HM.out HS.out hBb hgb HBK2.out HRW2.out hsl2
   ·have e8:((m:Int) % 8 == 0)=false:=by simp;omega
    obtain ⟨q,hq⟩:∃q,(m+7) / 8=q+1:=⟨(m+7) / 8 - 1,by omega⟩;obtain rfl:q=m / 8:=by omega
    rw[hq] at hown;obtain ⟨g,cap,rfl⟩:=Kqi hown;go_upto_region 6 with fail
    have hr8:roomB s m=s:=if_neg h8;have hsl2:(roomB s m).length=m / 8+1:=Kkg hsl;have HB2:=Jh HBE.out;have HK2:=Jh HKT.out;have HBK2:=Jh hblk;have HRW2:Hid (wr.ownsRow B 5 1 (.slice (some ⟨g,0,none⟩) (m / 8+1) cap) (m / 8+1) (Lib.byteCells (roomB s m))):=Jh (by rw[hr8];exact hown);have hgb:g≠b:=fun e=>hne (by rw[e];rfl)
    have hbg:b≠g:=fun e=>hgb e.symm
    obtain ⟨y,hy⟩:∃y:UInt8,(roomB s m).getD (m / 8) 0=y:=⟨_,rfl⟩;have hcl:=Kfq HRW2.out hy (by omega);have HY:=Jh hy;clear hy;have c2:=hcl.1;have z2:=hcl.2;clear hcl;have hbl:=hblk.lt;have hgl:=(World.ownsRow.lt hown g rfl).2;have hBg:=(World.ownsRow.lt hown g rfl).1;clear hblk hown hr8 hq
    cases hbt:x.testBit k with
    | true=>
     have hbit:(bits .and .u64 ((x:Int) / 2 ^ k) 1 == 1)=true:=by rw[Khr hx,hbt]
     go_upto_region 7 with fail
     refine Kaj 19 (by kernel_rfl) (by kernel_rfl) ?_;simp only[List.take_succ_cons,List.take_zero,List.drop_succ_cons,List.drop_zero]
     repeat (go_big_quiet_step (fail))
     refine wpQuiet_nil ?_;rintro w3 ⟨⟨_,hb3⟩,rfl⟩;have HRW3:=Jh (Kfc HRW2.out hb3);have HBK3:=Jh (HBK2.out.below hb3 HBK2.out.lt);have HB3:=Jh (HB2.out.trans (hb3.mono (Nat.le_trans hBw' HB2.out.size)));have HK3:=Jh (HK2.out.trans (KeepT.of_below (b:=b) hb3));have c1:w3.cell? ⟨b,1,none⟩=_:=HBK3.out.cell 1;have z1:=HBK3.out.frozen 1;have c2:=(Kfq HRW3.out HY.out (by omega)).1;have z2:=(Kfq HRW3.out HY.out (by omega)).2;clear hb3 c0;go_wp2_with fail
     go_roundg k
     case measure=>omega
     case rel=>
      have hy8:bits .or .u8 (y.toNat:Int) (128 / 2 ^ (m % 8))=(((y ||| UInt8.ofNat (128 >>> (m % 8))).toNat:Nat):Int):=Kqq y (m % 8) _ rfl;rw[hy8];refine ⟨by go_num,d ++ [true],by rw[List.append_assoc,←HD.out,putN,hbt];rfl,?_,(HB3.out.setCell (p:=⟨g,m / 8,none⟩) hBg _).setCell (p:=⟨b,1,none⟩) hBb _,(HK3.out.trans (KeepT.row HRW3.out)).trans KeepT.own⟩;rw[←List.append_assoc];exact Kxg HM.out HS.out hBb hgb HBK3.out HRW3.out HY.out hsl2
    | false=>
     have hbit:(bits .and .u64 ((x:Int) / 2 ^ k) 1 == 1)=false:=by rw[Khr hx,hbt]
     go_wp2_with fail
     go_roundg k
     case measure=>omega
     case rel=>
      refine ⟨by go_num,d ++ [false],by rw[List.append_assoc,←HD.out,putN,hbt];rfl,?_,HB2.out.setCell (p:=⟨b,1,none⟩) hBb _,HK2.out.trans KeepT.own⟩;rw[←List.append_assoc];exact Kxf HM.out HS.out hBb hgb HBK2.out HRW2.out hsl2
end
section
open Go.RowKit
theorem Kjg {fn:Func} {p:Tmp} {t:TypeId} (h:fn.results = #[.cell p t]) (tmps:Array Value) (w:World) (a:Addr) (x:Value)
  (hp:tmps.getD p undef = .pointer (some a)) (hx:(loadVar t a).run Tryz.prog w = .ok x w) :
  (results fn tmps).run Tryz.prog w = .ok x w:=by
 have hp':tmps[p]?.getD undef = .pointer (some a):=by simpa using hp
 simp only[results,h];simp[Sem.run_bind,Result.andThen,asAddr,hp',hx]
theorem Kcu {fn:Func} {p q:Tmp} {t:TypeId} (h:fn.results = #[.cell p t,.tmp q]) (tmps:Array Value) (w:World) (a:Addr) (x:Value)
  (hp:tmps.getD p undef = .pointer (some a)) (hx:(loadVar t a).run Tryz.prog w = .ok x w) :
  (results fn tmps).run Tryz.prog w = .ok (.tuple #[x,tmps.getD q undef]) w:=by
 have hp':tmps[p]?.getD undef = .pointer (some a):=by simpa using hp
 simp only[results,h];simp[Sem.run_bind,Result.andThen,asAddr,hp',hx]
end
end Go.Proofs.YtdoiekknhnbepaaGreatDoor
