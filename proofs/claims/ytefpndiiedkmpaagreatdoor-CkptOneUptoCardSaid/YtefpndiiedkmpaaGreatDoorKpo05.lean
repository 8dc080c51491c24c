/- Merged (what the claim wants of): SpnPlain, CrcPlain, SpnPlain2, BlkPlain2, BlkPlain3, BlkPlain5, UnpWalksA, UnpWalksB, UnpWalksC, AggWalksC, PostWalksB, SymDecW, EncSealE, EncSealF, KptTake2, LabCmpW, LabCmpG. -/
import Derived.Test.YtefpndiiedkmpaaGreatDoorKpo01
import Derived.Test.YtefpndiiedkmpaaGreatDoorKpo04
import Derived.Test.YtefpndiiedkmpaaGreatDoorKpo02
import Derived.Laws.Bits64
import Derived.Test.YtefpndiiedkmpaaGreatDoorKpo03
import Derived.OneCell
import Derived.Maps.AppendAt
import Derived.Deep.Onto
import Derived.Shelf.SlSortCmp.QuietGrown
set_option linter.unusedVariables false
set_option linter.unusedSimpArgs false
set_option maxRecDepth 100000
set_option maxHeartbeats 8000000
namespace Go.Proofs.YtefpndiiedkmpaaGreatDoor
section
structure Spn where
 frm:Int
 to_:Int
def stepS (out:List Spn) (s:Spn):List Spn:=match out.getLast? with
 | none=>[s]
 | some o=>if o.to_+1 < s.frm then out ++ [s] else out.dropLast ++ [⟨o.frm,max o.to_ s.to_⟩]
def ofS (l:List Spn):List Spn:=l.foldl stepS []
def Kat (l:List Spn):Prop:=(∀s∈l,s.frm≤s.to_)∧l.Pairwise fun a b=>a.to_+1 < b.frm
theorem Kzf {out:List Spn} (h:Kat out) {s:Spn} (hs:s.frm≤s.to_) (hl:∀o,out.getLast? = some o→o.frm≤s.frm):Kat (stepS out s)∧∀o,(stepS out s).getLast? = some o→o.frm≤s.frm:=by
 unfold stepS;rcases List.eq_nil_or_concat out with rfl | ⟨ini,o,rfl⟩
 ·exact ⟨⟨fun x hx=>(by obtain rfl:=List.mem_singleton.1 hx;exact hs),List.pairwise_singleton _ _⟩,fun o ho=>(by
   have e:s=o:=by simpa using ho
   rw[e]
   exact Int.le_refl _)⟩
 ·simp only[List.concat_eq_append] at h hl ⊢;have ho:=hl o (by simp);obtain ⟨h1,h2⟩:=h;have ho2:=h1 o (by simp);simp only[List.getLast?_append,List.getLast?_singleton,Option.some_or,Option.or_some,Option.getD_some];obtain ⟨p1,p2,p3⟩:=List.pairwise_append.1 h2
  split
  ·rename_i hlt
   refine ⟨⟨fun x hx=>?_,?_⟩,fun q hq=>?_⟩
   ·rcases List.mem_append.1 hx with hx | hx
    ·exact h1 x hx
    ·obtain rfl:=List.mem_singleton.1 hx;exact hs
   ·refine List.pairwise_append.2 ⟨h2,List.pairwise_singleton _ _,fun x hx y hy=>?_⟩;obtain rfl:=List.mem_singleton.1 hy;rcases List.mem_append.1 hx with hx | hx
    ·have:=p3 x hx o (by simp);omega
    ·obtain rfl:=List.mem_singleton.1 hx;exact hlt
   ·have:s=q:=by simpa using hq
    rw[this];exact Int.le_refl _
  ·rw[List.dropLast_concat];refine ⟨⟨fun x hx=>?_,?_⟩,fun q hq=>?_⟩
   ·rcases List.mem_append.1 hx with hx | hx
    ·exact h1 x (List.mem_append_left _ hx)
    ·obtain rfl:=List.mem_singleton.1 hx;dsimp only;omega
   ·refine List.pairwise_append.2 ⟨p1,List.pairwise_singleton _ _,fun x hx y hy=>?_⟩;obtain rfl:=List.mem_singleton.1 hy;exact p3 x hx o (by simp)
   ·have:(⟨o.frm,max o.to_ s.to_⟩:Spn)=q:=by simpa using hq
    rw[←this];exact ho
theorem Kvt:∀(l out:List Spn),Kat out→(∀s∈l,s.frm≤s.to_)→l.Pairwise (fun a b=>a.frm≤b.frm)→(∀o,out.getLast? = some o→∀s∈l,o.frm≤s.frm)→Kat (l.foldl stepS out)
 | [],_,h,_,_,_=>h
 | s :: l,out,h,hs,hp,hl=>by
  obtain ⟨q1,q2⟩:=List.pairwise_cons.1 hp;obtain ⟨c1,c2⟩:=Kzf h (hs s (List.mem_cons_self ..)) (fun o ho=>hl o ho s (List.mem_cons_self ..));rw[List.foldl_cons];exact Kvt l _ c1 (fun x hx=>hs x (List.mem_cons_of_mem _ hx)) q2 fun o ho x hx=>Int.le_trans (c2 o ho) (q1 x hx)
theorem Ksa {l:List Spn} (hs:∀s∈l,s.frm≤s.to_) (hp:l.Pairwise fun a b=>a.frm≤b.frm):Kat (ofS l):=
 Kvt l [] ⟨fun s h=>(by cases h),List.Pairwise.nil⟩ hs hp fun o h=>by cases h
theorem Qae:∀(l out:List Spn),Kat (out++l)→l.foldl stepS out=out++l
 | [],out,_=>by simp
 | s :: l,out,h=>by
  have e:stepS out s=out ++ [s]:=by
   unfold stepS;rcases List.eq_nil_or_concat out with rfl | ⟨ini,o,rfl⟩
   ·rfl
   ·simp only[List.concat_eq_append] at h ⊢;have hlt:o.to_+1 < s.frm:=(List.pairwise_append.1 h.2).2.2 o (by simp) s (List.mem_cons_self ..);simp[hlt]
  rw[List.foldl_cons,e,Qae l (out ++ [s]) (by simpa using h)];simp
theorem Kvu {l:List Spn} (h:Kat l):ofS l=l:=by
 have:=Qae l [] (by simpa using h);simpa[ofS] using this
def zig (v:Int):Nat:=if 0≤v then (2*v).toNat else (-2*v - 1).toNat
def unzig (n:Nat):Int:=if n % 2=0 then ((n / 2:Nat):Int) else -((n / 2:Nat):Int) - 1
theorem Qgz (v:Int):unzig (zig v)=v:=by
 unfold unzig zig
 split <;> split <;> omega
theorem Kqc {v:Int} (h1:-9223372036854775808≤v) (h2:v≤9223372036854775807):zig v < 2 ^ 64:=by
 unfold zig
 split <;> omega
theorem Kzl {n:Nat} (h:n < 2 ^ 64):-9223372036854775808≤unzig n∧unzig n≤9223372036854775807:=by
 unfold unzig
 split <;> omega
def intT (v:Int):List UInt8:=uintT (zig v)
def readI (l:List UInt8):Except Nat (Int×Nat):=match readU l with | .error e=>.error e | .ok (v,k)=>.ok (unzig v,k)
theorem Qga {v:Int} (h1:-9223372036854775808≤v) (h2:v≤9223372036854775807) (l:List UInt8):readI (intT v++l) = .ok (v,(intT v).length):=by
 unfold readI intT;rw[Kev (Kqc h1 h2)];simp only[Qgz]
def nibs:List Nat:=[0x00000000,0x105ec76f,0x20bd8ede,0x30e349b1,0x417b1dbc,0x5125dad3,0x61c69362,0x7198540d,0x82f63b78,0x92a8fc17,0xa24bb5a6,0xb21572c9,0xc38d26c4,0xd3d3e1ab,0xe330a81a,0xf36e6f75]
def nibN (c:Nat):Nat:=nibs.getD (c % 16) 0 ^^^ (c / 16)
def crcB (c:Nat) (b:UInt8):Nat:=nibN (nibN (c ^^^ b.toNat))
def crcF (c:Nat) (l:List UInt8):Nat:=l.foldl crcB c
def crcL (l:List UInt8):Nat:=crcF 4294967295 l ^^^ 4294967295
theorem Qad:∀i,nibs.getD i 0 < 4294967296:=by
 intro i
 by_cases h:i < 16
 ·revert i
  decide
 ·have:nibs.length≤i:=by simp[nibs];omega
  rw[List.getD_eq_getElem?_getD,List.getElem?_eq_none this];decide
theorem Kid {a b:Nat} (ha:a < 4294967296) (hb:b < 4294967296):a ^^^ b < 4294967296:=Nat.xor_lt_two_pow (n:=32) ha hb
theorem Klz {c:Nat} (h:c < 4294967296):nibN c < 4294967296:=Kid (Qad _) (by omega)
theorem Qkd {c:Nat} (h:c < 4294967296) (b:UInt8):crcB c b < 4294967296:=Klz (Klz (Kid h (by have:=UInt8.toNat_lt b;omega)))
theorem Kzs:∀(l:List UInt8) {c:Nat},c < 4294967296→crcF c l < 4294967296
 | [],_,h=>h
 | b :: l,_,h=>Kzs l (Qkd h b)
theorem Kzt (l:List UInt8):crcL l < 4294967296:=Kid (Kzs l (by decide)) (by decide)
theorem Kxw (c:Nat) (l m:List UInt8):crcF c (l++m)=crcF (crcF c l) m:=by unfold crcF;rw[List.foldl_append]
theorem Qed (c:Nat) (l:List UInt8) (b:UInt8):crcF c (l ++ [b])=crcB (crcF c l) b:=by rw[Kxw];rfl
def fourT (v:Nat):List UInt8:=[UInt8.ofNat v,UInt8.ofNat (v / 256),UInt8.ofNat (v / 65536),UInt8.ofNat (v / 16777216)]
def numT (l:List UInt8):Nat:=match l with | a :: b :: c :: d :: _=>a.toNat+256*b.toNat+65536*c.toNat+16777216*d.toNat | _=>0
theorem Qfn {v:Nat} (h:v < 4294967296) (r:List UInt8):numT (fourT v++r)=v:=by
 simp only[fourT,List.cons_append,numT,UInt8.toNat_ofNat'];omega
def sealT (b:List UInt8):List UInt8:=b++fourT (crcL b)
def Kcf (s:List UInt8):Except Nat (List UInt8):=if s.length < 4 then .error 20 else if crcL (s.take (s.length - 4))=numT (s.drop (s.length - 4)) then .ok (s.take (s.length - 4)) else .error 22
theorem Kll (b:List UInt8):(sealT b).length=b.length+4:=by simp[sealT,fourT]
theorem Kzk (b:List UInt8):Kcf (sealT b) = .ok b:=by
 unfold Kcf;have h1:(sealT b).length - 4=b.length:=by rw[Kll];omega
 rw[h1,if_neg (by rw[Kll];omega)];have h2:(sealT b).take b.length=b:=by simp[sealT]
 have h3:(sealT b).drop b.length=fourT (crcL b):=by simp[sealT]
 rw[h2,h3];have h4:=Qfn (Kzt b) [];rw[List.append_nil] at h4;rw[if_pos h4.symm]
def spnT (s:Spn):List UInt8:=intT s.frm++intT s.to_
def Kbk (l:List Spn):List UInt8:=uintT l.length++(l.map spnT).flatten
def riAt (s:List UInt8) (i:Nat):Option (Int×Nat):=match readI (s.drop i) with
 | .ok (v,k)=>some (v,i+k)
 | .error _=>none
theorem ri_of {s r:List UInt8} {i:Nat} {v:Int} (h1:-9223372036854775808≤v) (h2:v≤9223372036854775807) (h:s.drop i=intT v++r):riAt s i=some (v,i+(intT v).length)∧s.drop (i+(intT v).length)=r:=by
 refine ⟨?_,?_⟩
 ·unfold riAt;rw[h,Qga h1 h2]
 ·rw[←List.drop_drop,h,List.drop_left]
def spnsR (s:List UInt8):Nat→Option Spn→Nat→Option (List Spn×Nat)
 | 0,_,i=>some ([],i)
 | n+1,prev,i=>match riAt s i with
  | none=>none
  | some (a,i1)=>match riAt s i1 with
   | none=>none
   | some (b,i2)=>if b < a∨(∃o,prev=some o∧a≤o.to_+1) then none else match spnsR s n (some ⟨a,b⟩) i2 with
    | none=>none
    | some (l,j)=>some (⟨a,b⟩ :: l,j)
def Kda (s:List UInt8) (i:Nat):Option (List Spn×Nat):=match ruAt s i with
 | none=>none
 | some (n,i')=>spnsR s n none i'
def SpnIn (s:Spn):Prop:=-9223372036854775808≤s.frm∧s.frm≤9223372036854775807∧-9223372036854775808≤s.to_∧s.to_≤9223372036854775807
theorem Ksi {s r:List UInt8}:∀(l:List Spn) {i:Nat} {prev:Option Spn},Kat l→(∀x∈l,SpnIn x)→(∀o x,prev=some o→l.head? = some x→o.to_+1 < x.frm)→s.drop i=(l.map spnT).flatten++r→
  spnsR s l.length prev i=some (l,i+((l.map spnT).flatten).length)∧s.drop (i+((l.map spnT).flatten).length)=r
 | [],i,prev,_,_,_,h=>⟨rfl,h⟩
 | x :: l,i,prev,hc,hi,hp,h=>by
  obtain ⟨h1,h2⟩:=hc;obtain ⟨p1,p2⟩:=List.pairwise_cons.1 h2;have hx:=hi x (List.mem_cons_self ..);have hx1:=h1 x (List.mem_cons_self ..);rw[List.map_cons,List.flatten_cons] at h;unfold spnT at h;simp only[List.append_assoc] at h;obtain ⟨e1,k1⟩:=ri_of hx.1 hx.2.1 h;obtain ⟨e2,k2⟩:=ri_of hx.2.2.1 hx.2.2.2 k1
  obtain ⟨e3,k3⟩:=Ksi l (prev:=some x) ⟨fun y hy=>h1 y (List.mem_cons_of_mem _ hy),p2⟩ (fun y hy=>hi y (List.mem_cons_of_mem _ hy)) (fun o y ho hy=>(by
   obtain rfl:=Option.some.inj ho
   exact p1 y (List.mem_of_mem_head? hy))) k2
  have hcn:¬(x.to_ < x.frm∨(∃o,prev=some o∧x.frm≤o.to_+1)):=by
   rintro (h | ⟨o,ho,h⟩)
   ·omega
   ·have:=hp o x ho rfl;omega
  rw[List.length_cons,spnsR,e1];dsimp only;rw[e2];dsimp only;rw[if_neg hcn,show (⟨x.frm,x.to_⟩:Spn)=x from rfl,e3];simp only[List.map_cons,List.flatten_cons,spnT,List.length_append,Nat.add_assoc] at k3 ⊢;exact ⟨trivial,k3⟩
theorem Kka {s r:List UInt8} {i:Nat} {l:List Spn} (hc:Kat l) (hi:∀x∈l,SpnIn x) (hn:l.length < 2 ^ 64) (h:s.drop i=Kbk l++r):Kda s i=some (l,i+(Kbk l).length)∧s.drop (i+(Kbk l).length)=r:=by
 unfold Kbk at h ⊢;rw[List.append_assoc] at h;obtain ⟨e1,k1⟩:=ru_of hn h;obtain ⟨e2,k2⟩:=Ksi l (prev:=none) hc hi (fun o x ho=>by cases ho) k1;unfold Kda;rw[e1];dsimp only;rw[e2];simp only[List.length_append,Nat.add_assoc] at k2 ⊢;exact ⟨trivial,k2⟩
end
section
open Go.RowKit
def Kbd:Nat→List Smp→List (List Smp)
 | 0,_=>[]
 | _+1,[]=>[]
 | f+1,x :: l=>(x :: l).take 120 :: Kbd f ((x :: l).drop 120)
theorem Kle:∀(f:Nat) (l:List Smp),l.length≤f→(Kbd f l).flatten=l
 | 0,l,h=>by
  have h0:l = []:=List.eq_nil_of_length_eq_zero (by omega);rw[h0];rfl
 | _+1,[],_=>rfl
 | f+1,x :: l,h=>by
  have h2:((x :: l).drop 120).length≤f:=by rw[List.length_drop];rw[List.length_cons] at h ⊢;omega
  rw[Kbd,List.flatten_cons,Kle f _ h2,List.take_append_drop]
theorem Kim:∀(f:Nat) (l p:List Smp),p∈Kbd f l→p≠[]∧p.length≤120∧p.Sublist l
 | 0,_,_,h=>by simp[Kbd] at h
 | _+1,[],_,h=>by simp[Kbd] at h
 | f+1,x :: l,p,h=>by
  rw[Kbd,List.mem_cons] at h;rcases h with rfl | h
  ·exact ⟨by simp,by rw[List.length_take];omega,List.take_sublist _ _⟩
  ·obtain ⟨h1,h2,h3⟩:=Kim f _ p h;exact ⟨h1,h2,h3.trans (List.drop_sublist _ _)⟩
theorem Kkk:∀(f:Nat) (l:List Smp),(Kbd f l).length≤f
 | 0,_=>Nat.le_refl _
 | _+1,[]=>Nat.zero_le _
 | f+1,x :: l=>by rw[Kbd,List.length_cons];have:=Kkk f ((x :: l).drop 120);omega
def decC (s:List UInt8):Option (List Smp):=if (readC s).2=true∧fitC none 0 (readC s).1=true∧Kbb (readC s).1=s then some (readC s).1 else none
def lowT (out:List Txt) (x:Txt):Bool:=decide (0 < out.length∧¬out[out.length - 1]! < x)
def Kei (I:List UInt8):Nat→List Txt→Nat→Option (List Txt×Nat)
 | 0,out,i=>some (out,i)
 | g+1,out,i=>if (Kbf I i).2.2≠0 then none else if lowT out (Kbf I i).1=true then none else Kei I g (out ++ [(Kbf I i).1]) (Kbf I i).2.1
def tabR (I:List UInt8) (i:Nat):Option (List Txt×Nat):=if (Kar I i).2.2≠0 then none else Kei I (Kar I i).1 [] (Kar I i).2.1
theorem Kha:∀{l:List Smp},Rises l↔l.Pairwise fun a b=>a.t < b.t
 | []=>⟨fun _=>List.Pairwise.nil,fun _=>trivial⟩
 | [x]=>⟨fun _=>List.pairwise_singleton _ _,fun _=>trivial⟩
 | x :: y :: l=>by
  have ih:=Kha (l:=y :: l);rw[Rises,List.pairwise_cons,ih];constructor
  ·rintro ⟨h1,h2⟩;refine ⟨fun z hz=>?_,h2⟩;rcases List.mem_cons.1 hz with rfl | hz
   ·exact h1
   ·have:=(List.pairwise_cons.1 h2).1 z hz;omega
  ·rintro ⟨h1,h2⟩;exact ⟨h1 y (by simp),h2⟩
theorem Qir {l:List Smp} (h:∀x∈l,SmpOk x) (hr:Rises l) {f:Nat} {p:List Smp} (hp:p∈Kbd f l):Kfw p:=by
 obtain ⟨h1,h2,h3⟩:=Kim f l p hp;exact ⟨fun x hx=>h x (h3.subset hx),Kha.2 ((Kha.1 hr).sublist h3),h2⟩
theorem Qkf {p:List Smp} (h:Kfw p):decC (Kbb p)=some p:=by
 unfold decC;rw[Qbf h];have:fitC none 0 p=true:=(Knp p none 0).2 ⟨fun x hx=>⟨(h.1 x hx).1,(h.1 x hx).2.1⟩,h.2.1,fun y x hy=>(by cases hy),.inr (by have:=h.2.2;omega)⟩;rw[if_pos ⟨rfl,this,rfl⟩]
theorem Qgw {t:List Txt} (ha:Asc t) (ht:t.length < 2 ^ 64) {l:List Lb} (he:Kcz l=0) (hm:∀x∈texts l,x∈t) {I r:List UInt8} {i:Nat} (hi:i≤I.length) (h:I.drop i=pk t l++r) :
  unpR t I (i:Int)=(l,i+(pk t l).length,0)∧I.drop (i+(pk t l).length)=r:=by
 have e:I=I.take i++(pk t l++r):=by rw[←h,List.take_append_drop]
 have hl:(I.take i).length=i:=by rw[List.length_take];omega
 have:=Qgv ha ht he hm (I.take i) r;rw[←e,hl] at this;exact ⟨this,by rw[←List.drop_drop,h,List.drop_left]⟩
theorem Klf {I r:List UInt8} {i:Nat} {s:Txt} (hs:s.length < 2 ^ 64) (h:I.drop i=textT s++r):Kbf I (i:Int)=(s,i+(textT s).length,0)∧I.drop (i+(textT s).length)=r:=by
 refine ⟨?_,by rw[←List.drop_drop,h,List.drop_left]⟩;unfold Kbf;rw[if_neg (by omega),Int.toNat_natCast,h,Qcp hs]
theorem Kyt {I r:List UInt8} {i v:Nat} (hv:v < 2 ^ 64) (h:I.drop i=uintT v++r):Kar I (i:Int)=(v,i+(uintT v).length,0)∧I.drop (i+(uintT v).length)=r:=by
 refine ⟨?_,by rw[←List.drop_drop,h,List.drop_left]⟩;unfold Kar;rw[if_neg (by omega),Int.toNat_natCast,h,Kev hv]
theorem Knd {I:List UInt8}:∀(l out:List Txt) {i:Nat} {r:List UInt8},(out++l).Pairwise (· < ·)→(∀x∈l,x.length < 2 ^ 64)→I.drop i=l.flatMap textT++r→Kei I l.length out i=some (out++l,i+(l.flatMap textT).length)∧I.drop (i+(l.flatMap textT).length)=r
 | [],out,i,r,_,_,h=>⟨by simp[Kei],by simpa using h⟩
 | x :: l,out,i,r,hp,hz,h=>by
  have h':I.drop i=textT x++(l.flatMap textT++r):=by rw[h];simp
  obtain ⟨e1,e2⟩:=Klf (hz x (by simp)) h'
  have hlow:lowT out x=false:=by
   unfold lowT;rw[decide_eq_false_iff_not];rintro ⟨h1,h2⟩;apply h2;rw[getElem!_pos out _ (by omega)];exact (List.pairwise_append.1 hp).2.2 _ (List.getElem_mem _) x (by simp)
  obtain ⟨e3,e4⟩:=Knd l (out ++ [x]) (by simpa using hp) (fun y hy=>hz y (by simp[hy])) e2;rw[List.length_cons,Kei,e1];dsimp only;rw[if_neg (by simp),hlow,if_neg (by simp),e3];refine ⟨?_,?_⟩
  ·simp[Nat.add_assoc]
  ·rw[←e4];congr 1;simp[Nat.add_assoc]
theorem Qgm {t:List Txt} (ha:Asc t) (ht:t.length < 2 ^ 64) (hz:∀x∈t,x.length < 2 ^ 64) {I r:List UInt8} {i:Nat} (h:I.drop i=tabT t++r):tabR I i=some (t,i+(tabT t).length)∧I.drop (i+(tabT t).length)=r:=by
 have h':I.drop i=uintT t.length++(t.flatMap textT++r):=by rw[h];simp[tabT]
 obtain ⟨e1,e2⟩:=Kyt ht h';obtain ⟨e3,e4⟩:=Knd t [] ha hz e2;unfold tabR;rw[e1];dsimp only;rw[if_neg (by simp),e3];refine ⟨?_,?_⟩
 ·simp[tabT,Nat.add_assoc]
 ·rw[←e4];congr 1;simp[tabT,Nat.add_assoc]
instance lbEq:DecidableEq Lb:=fun a b=>by
 cases a with
 | mk n v=>
  cases b with
  | mk n' v'=>exact if h:n=n'∧v=v' then isTrue (by rw[h.1,h.2]) else isFalse fun e=>h (by injection e with e1 e2;exact ⟨e1,e2⟩)
instance ltBDec:DecidableRel ltB:=fun x y=>by unfold ltB;infer_instance
structure Fil where
 mt:List UInt8
 ck:List UInt8
 ix:List UInt8
instance filEq:DecidableEq Fil:=fun a b=>by
 cases a with
 | mk m c i=>
  cases b with
  | mk m' c' i'=>exact if h:m=m'∧c=c'∧i=i' then isTrue (by rw[h.1,h.2.1,h.2.2]) else isFalse fun e=>h (by injection e with e1 e2 e3;exact ⟨e1,e2,e3⟩)
def allS (S:List (List Lb)):List Txt:=S.flatMap texts
def tabOf (S:List (List Lb)):List Txt:=Lib.compact ((allS S).mergeSort fun x y=>decide (x≤y))
theorem Kib (S:List (List Lb)):IsTab (allS S) (tabOf S):=Qjn _
theorem Kpw {l:List Lb} (h:Kdf l=true):Kcz l=0:=by
 unfold Kdf at h;rw[Bool.and_eq_true,decide_eq_true_eq,decide_eq_true_eq] at h;unfold Kcz;rw[if_neg (by simp[h.1]),if_pos h.2]
theorem Knf {l:List Lb} (h:Kdf l=true):l.Nodup∧l≠[]∧l.length≤8∧(∀x∈l,x.n.length≤32∧x.v.length≤64)∧Kcz l=0:=by
 have he:=Kpw h;unfold Kdf at h;rw[Bool.and_eq_true,decide_eq_true_eq,decide_eq_true_eq] at h;obtain ⟨h1,h2⟩:=h;have hm:=h1;unfold Kav at h1
 split at h1
 ·cases h1
 ·split at h1
  ·cases h1
  ·rename_i h3 h4
   refine ⟨?_,fun e=>h3 (by rw[e];rfl),by omega,fun x hx=>?_,he⟩
   ·unfold names at h2;rw[List.pairwise_map] at h2;exact h2.imp fun hab e=>by subst e;exact List.lt_irrefl _ hab
   ·obtain ⟨a,b⟩:=Kjz h1 x hx;unfold fitN at a;unfold fitV at b;simp only[Bool.and_eq_true,decide_eq_true_eq] at a b;omega
end
section
open Go.RowKit Go.Sort
attribute [local go_sem ↓] Go.wp_at_zero Go.wp_at_succ
attribute [local go_sem] Later.cell
theorem Klq (v:Value) (t:List Txt) (s:ByteArray) (k:Int) (w:World) (x:Txt) (n e:Nat) (hr:symR t s.data.toList k=(x,n,e)) (h:TabAt w v t) (hm:t.length*16≤140737488351232) (hs:s.size≤140737488351232) :
  Calls Tryz.prog 155 #[v,.string s,.int .i64 k] w fun en w'=>en = .returned (.tuple #[txtV x,.int .i64 n,.int .i64 e])∧w=w':=by
 obtain ⟨v1,n1,e1,h1⟩:∃v n e,Kar s.data.toList k=(v,n,e):=⟨_,_,_,rfl⟩;have H1:=Lib.hid h1;have hlen:=Krv v t w h;obtain ⟨A,c,hs',hc,_,htab⟩:=Kie v t w h;obtain ⟨m,hm'⟩:∃m,t.length=m:=⟨_,rfl⟩;rw[symR,h1] at hr;dsimp only at hr;rw[hm'] at hr hlen hs' hc htab hm;have HLEN:=Lib.hid hlen;clear hlen h hm'
 by_cases he:e1=0
 ·subst he;rw[if_neg (by simp)] at hr
  by_cases hv:m≤v1
  ·rw[if_pos hv] at hr;obtain ⟨rfl,rfl,rfl⟩:[]=x∧0=n∧50=e:=by simpa using hr
   have ev:decide ((m:Int)≤(v1:Int))=true:=by simp;omega
   clear hr h1 htab;unfold txtV;go_enter Tryz.func155,Tryz.ntmps155
   go_wp2_with fail
   refine (Kao s k v1 n1 0 H1.out hs w).mono ?_;rintro _ w1 ⟨rfl,rfl⟩;go_wp2_with fail
   refine HLEN.out.mono ?_;rintro _ w1 ⟨rfl,rfl⟩;go_wp2_with fail
   go_ret3
   exact ⟨rfl,rfl⟩
  ·rw[if_neg hv] at hr;obtain ⟨hx,rfl,rfl⟩:t[v1]! = x∧n1=n∧0=e:=by simpa using hr
   obtain ⟨p,rfl,hp⟩:=htab (by omega);obtain ⟨b,off,rfl,hbl,hcell⟩:=hs'.at_ (i:=v1) (by omega);have hp0:_=some (Value.slice (some ⟨b,off,none⟩) m c):=hp.cell 0;rw[hx] at hcell;unfold txtV at hcell ⊢;obtain ⟨X,hX⟩:∃X:ByteArray,(⟨x.toArray⟩:ByteArray)=X:=⟨_,rfl⟩;rw[hX] at hcell ⊢;have ev:decide ((m:Int)≤(v1:Int))=false:=by simp;omega
   clear hr h1 hx hX htab hp;go_enter Tryz.func155,Tryz.ntmps155
   go_wp2_with fail
   refine (Kao s k v1 n1 0 H1.out hs w).mono ?_;rintro _ w1 ⟨rfl,rfl⟩;go_wp2_with fail
   refine HLEN.out.mono ?_;rintro _ w1 ⟨rfl,rfl⟩;go_wp2_with fail
   go_ret3
   exact ⟨rfl,rfl⟩
 ·rw[if_pos he] at hr;obtain ⟨rfl,rfl,rfl⟩:[]=x∧0=n∧e1=e:=by simpa using hr
  have ee:((e1:Int) != 0)=true:=by simp;omega
  clear hr h1 htab;unfold txtV;go_enter Tryz.func155,Tryz.ntmps155
  go_wp2_with fail
  refine (Kao s k v1 n1 e1 H1.out hs w).mono ?_;rintro _ w1 ⟨rfl,rfl⟩;go_wp2_with fail
  go_ret3
  exact ⟨rfl,rfl⟩
def Ken (w:World) (R:List Lb×Nat×Nat) (en:Ending) (w':World):Prop:=
 ∃A c,en = .returned (.tuple #[.slice A R.1.length c,.int .i64 (R.2.1:Nat),.int .i64 (R.2.2:Nat)])∧Elems w' w'.heap.size 2 encLb A R.1.length R.1∧R.1.length≤c∧Below w.heap.size w w'∧∀a,A=some a→w.heap.size≤a.block
theorem Ken.bad {w w':World} {e:Nat} {en:Ending} (h:en = .returned (.tuple #[.slice none 0 0,.int .i64 0,.int .i64 (e:Nat)])) (hB:Below w.heap.size w w'):Ken w ([],0,e) en w':=
 ⟨none,0,h,Elems.nil_,Nat.le_refl _,hB,fun a e=>by cases e⟩
theorem Qgu {t:List Txt} {s:List UInt8} {g:Nat} {out:List Lb} {p:Nat} {R:List Lb×Nat×Nat} (h:unpL t s (g+1) out p=R) {x y:Txt} {n1 e1 n2 e2:Nat} (h1:symR t s p=(x,n1,e1)) (h2:symR t s n1=(y,n2,e2)) :
  (if e1≠0 then ([],0,e1) else if e2≠0 then ([],0,e2) else if fitN x=false then ([],0,40) else if fitV y=false then ([],0,41) else if Kfu out x=true then ([],0,42) else unpL t s g (out ++ [⟨x,y⟩]) n2)=R:=by
 rw[unpL,h1] at h;dsimp only at h;rw[h2] at h;exact h
end
section
open Go.RowKit Go.Sort
open Lib renaming hid → Jh
attribute [local go_sem ↓] Go.wp_at_zero Go.wp_at_succ
attribute [local go_sem] Later.cell
def PLabs (B:Nat) (w:World) (v:Value) (ys:List Lb):Prop:=w.ownsRow B 106 2 v ys.length (ys.flatMap encLb)
theorem Qfy {B:Nat} {w:World} {g n cap:Nat} {zs:List Lb} (h:PLabs B w (.slice (some ⟨g,0,none⟩) n cap) zs) (hl:zs.length=n) {k:Nat} (hk:k < n) :
  w.cell? ⟨g,k*2,none⟩=some (.string ⟨zs[k]!.n.toArray⟩)∧w.cell? ⟨g,k*2+1,none⟩=some (.string ⟨zs[k]!.v.toArray⟩):=by
 unfold PLabs at h;rw[hl] at h;refine ⟨?_,?_⟩
 ·rw[h.cellAt (k*2) (by omega),Kdb zs _ (by omega),show k*2 / 2=k by omega,show k*2 % 2=0 by omega];rfl
 ·rw[h.cellAt (k*2+1) (by omega),Kdb zs _ (by omega),show (k*2+1) / 2=k by omega,show (k*2+1) % 2=1 by omega];rfl
theorem Kvz {B:Nat} {w:World} {v:Value} {ys:List Lb} (h:PLabs B w v ys) {p i:Nat} (hp:v.ownBlock≠some p) (u:Value):PLabs B (w.setCell ⟨p,i,none⟩ u) v ys:=
 ownsRow_setCell_other h (a:=⟨p,i,none⟩) hp u
theorem Kkp {B:Nat} {w w':World} (h:Below B w w') {p i:Nat} (hp:B≤p) (u:Value):Below B w (w'.setCell ⟨p,i,none⟩ u):=
 ⟨h.os,h.tape,h.output,by have:=h.size;simpa using this,fun k hk=>(Below.heap_setCell w' ⟨p,i,none⟩ u k (fun e=>by simp at e;omega)).trans (h.block k hk)⟩
theorem Qkz {w:World} {B:Nat} {v:Value} {ys:List Lb} (h:PLabs B w v ys):v.ownBlock≠some w.heap.size:=by
 intro e;have:=(h.lt _ e).2;omega
theorem Kxf (v:Value) (t:List Txt) (s:ByteArray) (k:Int) (w:World) (R:List Lb×Nat×Nat) (hr:unpR t s.data.toList k=R) (h:TabAt w v t) (hm:t.length*16≤140737488351232) (hs:s.size≤140737488351232) (hz:∀x∈t,x.length≤140737488351232) :
  Calls Tryz.prog 100 #[v,.string s,.int .i64 k] w (Ken w R):=by
 obtain ⟨i0,hi0,hz0,hz1,hz2⟩:=info_parts Kvi;obtain ⟨v1,n1,e1,h1⟩:∃v n e,Kar s.data.toList k=(v,n,e):=⟨_,_,_,rfl⟩;have H1:=Jh h1;have HZ:=Jh hz;rw[unpR,h1] at hr;dsimp only at hr;clear h1 hz
 by_cases he:e1=0
 ·subst he;rw[if_neg (by simp)] at hr
  by_cases hv0:v1=0
  ·subst hv0;rw[if_pos rfl] at hr;subst hr;go_enter Tryz.func100,Tryz.ntmps100
   go_wp2_with fail
   refine (Kao s k 0 n1 0 H1.out hs w).mono ?_;rintro _ w1 ⟨rfl,rfl⟩;go_wp2_with fail
   go_ret3
   exact Ken.bad rfl (Below.refl _ _)
  ·rw[if_neg hv0] at hr;have ev0:((v1:Int) == 0)=false:=by rw[beq_eq_false_iff_ne];omega
   by_cases hv8:8 < v1
   ·rw[if_pos hv8] at hr;subst hr;have ev8:decide ((8:Int) < (v1:Int))=true:=by simp;omega
    go_enter Tryz.func100,Tryz.ntmps100
    go_wp2_with fail
    refine (Kao s k v1 n1 0 H1.out hs w).mono ?_;rintro _ w1 ⟨rfl,rfl⟩;go_wp2_with fail
    go_ret3
    exact Ken.bad rfl (Below.refl _ _)
   ·rw[if_neg hv8] at hr;have ev8:decide ((8:Int) < (v1:Int))=false:=by simp;omega
    have HR:=Jh hr;clear hr hv0;go_enter Tryz.func100,Tryz.ntmps100
    go_wp2_with fail
    refine (Kao s k v1 n1 0 H1.out hs w).mono ?_;rintro _ w1 ⟨rfl,rfl⟩;go_wp2_with fail
    go_loopg [2,11,34] v1 (fun g s2 s11 s34 wr=>∃(i p:Nat) (ys:List Lb) (v11:Value),v11=s11∧i+g=v1∧s34 = .int .u64 (i:Int)∧s2 = .int .i64 (p:Int)∧ys.length=i∧PLabs w.heap.size wr v11 ys∧unpL t s.data.toList g ys p=R∧Below w.heap.size w wr)
    case atStart=>exact ⟨0,n1,[],_,rfl,by omega,rfl,rfl,rfl,World.ownsRow_nil _ _ _ _,HR.out,Below.refl _ _⟩
    case round=>
     obtain ⟨i,p,ys,v11,rfl,hig,rfl,rfl,hyl,hown,hU,hB⟩:=hrel;have HYL:=Jh hyl;clear hyl
     by_cases hi:i < v1
     ·have el:decide ((i:Int) < (v1:Int))=true:=by simp;omega
      have el':decide (i < v1)=true:=by simp;omega
      obtain ⟨g,rfl⟩:∃g,gk=g+1:=⟨gk - 1,by omega⟩;obtain ⟨x,n2,e2,h2⟩:∃x n e,symR t s.data.toList p=(x,n,e):=⟨_,_,_,rfl⟩;obtain ⟨y,n3,e3,h3⟩:∃x n e,symR t s.data.toList n2=(x,n,e):=⟨_,_,_,rfl⟩;have hst:=Qgu hU h2 h3
      have hxz:x.length≤140737488351232:=by
       rcases Kww h2 with rfl | h
       ·simp
       ·exact HZ.out x h
      have hyz:y.length≤140737488351232:=by
       rcases Kww h3 with rfl | h
       ·simp
       ·exact HZ.out y h
      have HIG:=Jh hig;have HS2:=Jh h2;have HS3:=Jh h3;have HST:=Jh hst;clear hig hU h2 h3 hst;go_upto_region 12 with fail
      have hq1:Blk (wr.alloc (.cells #[.string ⟨#[]⟩,.string ⟨#[]⟩] 106)) wr.heap.size 106 #[.string ⟨#[]⟩,.string ⟨#[]⟩]:=Blk.new _ _ _;have hB1:Below w.heap.size w (wr.alloc (.cells #[.string ⟨#[]⟩,.string ⟨#[]⟩] 106)):=hB.alloc hB.size _;have hown1:PLabs w.heap.size (wr.alloc (.cells #[.string ⟨#[]⟩,.string ⟨#[]⟩] 106)) v11 ys:=World.ownsRow.alloc hown _;have hne:=Qkz hown;have hpb:=hB.size;obtain ⟨w1,hw1⟩:∃x,wr.alloc (.cells #[.string ⟨#[]⟩,.string ⟨#[]⟩] 106)=x:=⟨_,rfl⟩;obtain ⟨p1,hp1⟩:∃p,wr.heap.size=p:=⟨_,rfl⟩;rw[hw1] at hq1 hB1 hown1 ⊢;rw[hp1] at hq1 hne hpb ⊢;clear hw1 hp1 hB hown;have q0:_=some (Value.string ⟨#[]⟩):=hq1.cell 0;have f0:=hq1.frozen 0;unfold txtV at *;obtain ⟨X,hX⟩:∃N:ByteArray,(⟨x.toArray⟩:ByteArray)=N:=⟨_,rfl⟩;obtain ⟨Y,hY⟩:∃N:ByteArray,(⟨y.toArray⟩:ByteArray)=N:=⟨_,rfl⟩;have hsy1:=fun w0 hw0=>Klq v t s p w0 x n2 e2 HS2.out hw0 hm hs
      have hsy2:=fun w0 hw0=>Klq v t s n2 w0 y n3 e3 HS3.out hw0 hm hs
      unfold txtV at hsy1 hsy2;rw[hX] at hsy1;rw[hY] at hsy2;have SY1:=Jh hsy1;have SY2:=Jh hsy2;have HX:=Jh hX;have HY:=Jh hY;clear hsy1 hsy2 hX hY HS2 HS3;go_wp2_with fail
      refine (SY1.out w1 (h.below hB1)).mono ?_;rintro _ w1' ⟨rfl,rfl⟩;go_upto_region 13 with fail
      have hq2:Blk (w1.setCell ⟨p1,0,none⟩ (.string X)) p1 106 #[.string X,.string ⟨#[]⟩]:=hq1.set_ 0 _;have hB2:=Kkp hB1 hpb (.string X) (i:=0);have hown2:=Kvz hown1 hne (.string X) (i:=0);obtain ⟨w2,hw2⟩:∃x,w1.setCell ⟨p1,0,none⟩ (.string X)=x:=⟨_,rfl⟩;rw[hw2] at hq2 hB2 hown2 ⊢;clear hw2 hq1 hB1 hown1 q0 f0
      by_cases he2:e2=0
      ·subst he2;have q1:_=some (Value.string ⟨#[]⟩):=hq2.cell 1;have f1:=hq2.frozen 1;go_wp2_with fail
       refine (SY2.out w2 (h.below hB2)).mono ?_;rintro _ w2' ⟨rfl,rfl⟩;go_upto_region 16 with fail
       have hq3:Blk (w2.setCell ⟨p1,1,none⟩ (.string Y)) p1 106 #[.string X,.string Y]:=hq2.set_ 1 _;have hB3:=Kkp hB2 hpb (.string Y) (i:=1);have hown3:=Kvz hown2 hne (.string Y) (i:=1);obtain ⟨w3,hw3⟩:∃x,w2.setCell ⟨p1,1,none⟩ (.string Y)=x:=⟨_,rfl⟩;rw[hw3] at hq3 hB3 hown3 ⊢;clear hw3 hq2 hB2 hown2 q1 f1
       by_cases he3:e3=0
       ·subst he3;have q0:_=some (Value.string X):=hq3.cell 0;have q1:_=some (Value.string Y):=hq3.cell 1;have hq4:Blk (w3.alloc (.cells #[.string X,.string Y] 106)) w3.heap.size 106 #[.string X,.string Y]:=Blk.new _ _ _
        have hE4:Elems (w3.alloc (.cells #[.string X,.string Y] 106)) (w3.alloc (.cells #[.string X,.string Y] 106)).heap.size 2 encLb (some ⟨w3.heap.size,0,none⟩) 1 [⟨x,y⟩]:=by
         refine ⟨rfl,fun _=>⟨w3.heap.size,0,rfl,hq4.lt,fun i' x' hx' j v' hv'=>?_⟩⟩;have hi':i'=0:=by have:=(List.getElem?_eq_some_iff.1 hx').1;simpa using this
         subst hi';simp at hx';subst hx';rw[hq4.cell]
         match j,hv' with
         | 0,hv'=>simpa[encLb,HX.out] using hv'
         | 1,hv'=>simpa[encLb,HY.out] using hv'
         | j+2,hv'=>simp[encLb] at hv'
        have hB4:Below w.heap.size w (w3.alloc (.cells #[.string X,.string Y] 106)):=hB3.alloc hB3.size _;have hown4:PLabs w.heap.size (w3.alloc (.cells #[.string X,.string Y] 106)) v11 ys:=World.ownsRow.alloc hown3 _;have hq4':=hq3.alloc (.cells #[.string X,.string Y] 106);have hmk:=Kjp [⟨x,y⟩] _ 1 1 _ hE4 (by omega) (by omega) (by simp[hxz,hyz]);rw[Kyn] at hmk;dsimp only at hmk;have HMK:=Jh hmk;clear hmk hE4 hq4;obtain ⟨rn,hrn⟩:∃r,fitN x=r:=⟨_,rfl⟩;obtain ⟨rv,hrv⟩:∃r,fitV y=r:=⟨_,rfl⟩;have hst:=HST.out;rw[if_neg (by simp),if_neg (by simp),hrn,hrv] at hst;rw[hrn,hrv] at HMK;have HST2:=Jh hst;clear hst HST hrn hrv;go_wp2_with fail
        refine HMK.out.mono ?_;rintro _ w5 ⟨⟨mv,rfl⟩,hb5⟩;have hB5:=then_ hB4 hb5;have hown5:PLabs w.heap.size w5 v11 ys:=Kfn hown4 hb5;have hq5:=hq4'.below hb5 hq4'.lt;clear hB4 hown4 hq4' hb5 hq3 hB3 hown3 q0 q1 HMK
        cases rn with
        | false=>
         obtain rfl:([],0,40)=R:=by have:=HST2.out;simpa using this
         go_wp2_with fail
         go_ret3
         exact Ken.bad rfl hB5
        | true=>
         cases rv with
         | false=>
          obtain rfl:([],0,41)=R:=by have:=HST2.out;simpa using this
          go_wp2_with fail
          go_ret3
          exact Ken.bad rfl hB5
         | true=>
          obtain ⟨q,hq⟩:∃q,Kfu ys x=q:=⟨_,rfl⟩;have hst:=HST2.out;rw[if_neg (by simp),if_neg (by simp),hq] at hst;have HST3:=Jh hst;have HQ:=Jh hq;have hownY:w5.ownsRow w.heap.size 106 2 v11 i (ys.flatMap encLb):=by have:=hown5;unfold PLabs at this;rw[HYL.out] at this;exact this
          obtain ⟨A',c',rfl,hE',_,hc'⟩:=Elems.of_own (enc:=encLb) (fun x _=>Kcu x) rfl hownY HYL.out;have q0:_=some (Value.string X):=hq5.cell 0;have hp5:=hq5.lt;clear hst hq HST2;go_upto_region 22 with fail
          go_cut [15,83] (fun _s15 s83 wz=>s83 = .bool q∧Below w5.heap.size w5 wz)
          case first=>
           by_cases hi0':i=0
           ·subst hi0'
            have hqf:q=false:=by
             rw[←HQ.out,Kfu,HYL.out];simp
            subst hqf;refine Kab (by kernel_rfl) (by kernel_rfl) ?_
            repeat (go_big_quiet_step (fail))
            refine wpQuiet_nil ?_;rintro w6 ⟨⟨_,hb6⟩,rfl⟩;go_wp2_with fail
            go_meet
            exact ⟨rfl,hb6⟩
           ·obtain ⟨j,rfl⟩:∃j,i=j+1:=⟨i - 1,by omega⟩
            obtain ⟨g0,rfl⟩:∃g,A'=some ⟨g,0,none⟩:=by
             rcases hownY.2 with ⟨_,h⟩ | ⟨g,cap,cur,h,_⟩
             ·omega
             ·injection h with h;exact ⟨g,h⟩
            obtain ⟨a0,_⟩:=Qfy hown5 HYL.out (k:=j) (by omega);obtain ⟨z,hz'⟩:∃z,ys[j]! = z:=⟨_,rfl⟩;rw[hz'] at a0;obtain ⟨Z,hZ⟩:∃N:ByteArray,(⟨z.n.toArray⟩:ByteArray)=N:=⟨_,rfl⟩
            have hqq:q=true↔¬z.n < x:=by
             rw[←HQ.out,Kfu,HYL.out,decide_eq_true_eq,show j+1 - 1=j by omega,hz'];constructor
             ·exact fun h=>h.2
             ·exact fun h=>⟨by omega,h⟩
            have hql:(!Op.bytesLess Z.toList X.toList)=q:=by
             rw[Bool.eq_iff_iff,hqq,←hZ,Kht,←HX.out];simp
            rw[hZ] at a0;have HQL:=Jh hql;have hg5:g0 < w5.heap.size:=Kah a0;clear hqq hZ hz' hql;have z1:IntKind.i64.wrap (((j+1:Nat):Int) - 1)=(j:Int):=by rw[show ((j+1:Nat):Int) - 1=(j:Int) by omega];exact IntWalk.i64_in _ (by omega)
            have z5:(j:Int) < ((j+1:Nat):Int):=by omega
            have hj1:((j+1:Nat):Int) - 1=(j:Int):=by omega
            have hj0:decide ((0:Int)≤(j:Int))=true:=by simp
            rw[hj1];refine Kab (by kernel_rfl) (by kernel_rfl) ?_
            repeat (go_big_quiet_step (fail))
            refine wpQuiet_nil ?_;rintro w6 ⟨⟨_,hb6⟩,rfl⟩;go_wp2_with fail
            go_meet
            exact ⟨by rw[HQL.out],hb6⟩
          case rest=>
           obtain ⟨rfl,hb6⟩:=hcut;obtain ⟨w6,rfl⟩:∃x,x=wc:=⟨_,rfl⟩;have hB6:=then_ hB5 hb6;have hownY6:=Kfn hownY hb6;have hq6:=hq5.below hb6 hq5.lt;clear hb6 hownY hq5 hB5 hown5 q0 hE';have q0:_=some (Value.string X):=hq6.cell 0;have q1:_=some (Value.string Y):=hq6.cell 1
           cases q with
           | true=>
            obtain rfl:([],0,42)=R:=by have:=HST3.out;simpa using this
            go_wp2_with fail
            go_ret3
            exact Ken.bad rfl hB6
           | false=>
            go_wp2_with (at_builtin;refine wpList_append_own_at _ rfl _ _ 80 rfl w.heap.size 106 i0 (.agg #[.string ⟨#[]⟩,.string ⟨#[]⟩]) 2 32 Tryz.underlying80 hi0 hz0 hz1 hz2 rfl (by decide) _ _ _ rfl (hownY6.alloc _) ⟨w6.heap.size,0,none⟩ 1 1 [.string X,.string Y] rfl rfl ?p1 ?p2 ?p3 ?p4 ?p5 ?_)
            case p1=>exact Kas (l:=[.string X,.string Y]) (Blk.new w6 _ _)
            case p2=>intro u hu;simp at hu;rcases hu with rfl | rfl <;> rfl
            case p3=>unfold maxLen;omega
            case p4=>omega
            case p5=>have:=hB6.size;simp;omega
            intro v' w7 hown' hgrow hx9 hat;have hB7:Below w.heap.size w w7:=Ksb hB6 hB6.size hownY6 hgrow
            have hown7:PLabs w.heap.size w7 v' (ys ++ [⟨x,y⟩]):=by
             have e1:(ys ++ [(⟨x,y⟩:Lb)]).flatMap encLb=ys.flatMap encLb ++ [.string X,.string Y]:=by rw[List.flatMap_append];simp[encLb,HX.out,HY.out]
             unfold PLabs;rw[e1,List.length_append,HYL.out];exact hown'
            clear hown' hgrow hx9 hat hownY6;go_wp2_with fail
            go_roundg g
            case measure=>omega
            case rel=>exact ⟨i+1,n3,ys ++ [⟨x,y⟩],_,rfl,by have:=HIG.out;omega,by go_num,rfl,by rw[List.length_append,HYL.out];rfl,hown7,by simpa using HST3.out,hB7⟩
       ·have ee:((e3:Int) != 0)=true:=by simp;omega
        obtain rfl:([],0,e3)=R:=by have:=HST.out;rw[if_neg (by simp),if_pos he3] at this;exact this
        go_wp2_with fail
        go_ret3
        exact Ken.bad rfl hB3
      ·have ee:((e2:Int) != 0)=true:=by simp;omega
       obtain rfl:([],0,e2)=R:=by have:=HST.out;rw[if_pos he2] at this;exact this
       go_wp2_with fail
       go_ret3
       exact Ken.bad rfl hB2
     ·have el:decide ((i:Int) < (v1:Int))=false:=by simp;omega
      have el':decide (i < v1)=false:=by simp;omega
      obtain rfl:gk=0:=by omega
      rw[unpL] at hU;obtain rfl:=hU;obtain ⟨A',c',rfl,hE',hbs',hc'⟩:=Elems.of_own (enc:=encLb) (fun x _=>Kcu x) rfl hown rfl;obtain ⟨ln,hln⟩:∃k,ys.length=k:=⟨_,rfl⟩;rw[hln] at hE' hc' ⊢;have HLN:=Jh hln;clear hig hln hown;go_wp2_with fail
      go_ret3
      refine ⟨A',c',?_,?_,?_,hB,hbs'⟩
      ·dsimp only;rw[HLN.out];rfl
      ·dsimp only;rw[HLN.out];exact hE'
      ·dsimp only;rw[HLN.out];exact hc'
 ·rw[if_pos he] at hr;subst hr;have ee:((e1:Int) != 0)=true:=by simp;omega
  go_enter Tryz.func100,Tryz.ntmps100
  go_wp2_with fail
  refine (Kao s k v1 n1 e1 H1.out hs w).mono ?_;rintro _ w1 ⟨rfl,rfl⟩;go_wp2_with fail
  go_ret3
  exact Ken.bad rfl (Below.refl _ _)
end
section
open Go.RowKit
attribute [local go_sem ↓] Go.wp_at_zero Go.wp_at_succ
attribute [local go_sem] Later.cell
theorem Kel {s:List UInt8} {i v j:Nat} (hi:i≤s.length) (h:ruAt s i=some (v,j)):i < j∧j≤s.length:=by
 unfold ruAt at h
 split at h
 ·rename_i v' k hr
  injection h with h;injection h with h1 h2;have:=(Ker hr);rw[List.length_drop] at this;omega
 ·cases h
theorem Kgb (s:List UInt8) (i:Nat):(∃v j,Kar s (i:Int)=(v,j,0)∧ruAt s i=some (v,j)∧v < 2 ^ 64)∨(∃v j e,Kar s (i:Int)=(v,j,e)∧e≠0∧ruAt s i=none):=by
 unfold ruAt;rw[Kfp];unfold outOf
 cases hr:readU (s.drop i) with
 | error c=>exact .inr ⟨0,0,c,rfl,Kfa hr,rfl⟩
 | ok x=>exact .inl ⟨x.1,i+x.2,rfl,rfl,(Ker hr).1⟩
theorem Qag {w:World} {B n sz k:Nat} {T:TypeId} {v:Value} {xs:List Value} (h:w.ownsRow B T sz v n xs) (hk:k < B):v.ownBlock≠some k:=fun e=>by
 have:=(h.lt k e).1;omega
end
section
open Go.RowKit Go.Sort
open Lib renaming hid → Jh
attribute [local go_sem ↓] Go.wp_at_zero Go.wp_at_succ
attribute [local go_sem] Later.cell
theorem Qiw {l:List UInt8} {x:List UInt8} {k:Nat} (h:readT l = .ok (x,k)):0 < k∧k≤l.length∧x.length≤l.length:=by
 unfold readT at h
 cases hr:readU l with
 | error c=>rw[hr] at h;cases h
 | ok y=>
  obtain ⟨v,k1⟩:=y;have hl:=Ker hr;rw[hr] at h;dsimp only at h
  split at h
  ·cases h
  ·rename_i hlen
   injection h with h;injection h with h1 h2;rw[←h1,←h2,List.length_take,List.length_drop];omega
theorem Kyu {l:List UInt8} {c:Nat} (h:readT l = .error c):c≠0:=by
 unfold readT at h
 cases hr:readU l with
 | error c'=>
  rw[hr] at h;injection h with h;rw[←h];exact Kfa hr
 | ok y=>
  rw[hr] at h;dsimp only at h
  split at h
  ·injection h with h;omega
  ·cases h
theorem Kwi {s:List UInt8} {i v j:Nat} (h:ruAt s i=some (v,j)):j≤s.length:=by
 by_cases hi:i≤s.length
 ·exact (Kel hi h).2
 ·unfold ruAt at h
  cases hr:readU (s.drop i) with
  | error c=>rw[hr] at h;cases h
  | ok x=>
   have:=Ker hr;rw[List.length_drop] at this;omega
theorem Kec {I:List UInt8} {i n:Nat} {x:List UInt8} (h:Kbf I (i:Int)=(x,n,0)):i < n∧n≤I.length∧x.length≤I.length:=by
 unfold Kbf at h;rw[if_neg (by omega),Int.toNat_natCast] at h
 cases hr:readT (I.drop i) with
 | error c=>
  rw[hr] at h;injection h with _ h;injection h with _ h;exact absurd h (Kyu hr)
 | ok y=>
  obtain ⟨v,k⟩:=y;have hk:=Qiw hr;rw[List.length_drop] at hk;rw[hr] at h;dsimp only at h;injection h with h1 h;injection h with h2 _;rw[←h1,←h2];omega
def Ket (B:Nat) (w:World) (p:Nat) (t:List Txt):Prop:=B≤p∧∃A n c,Blk w p 168 #[.slice A n c]∧Strs w A n t∧n≤c∧∀a,A=some a→B≤a.block
theorem Ket.at_ {B p:Nat} {w:World} {t:List Txt} (h:Ket B w p t):TabAt w (.pointer (some ⟨p,0,none⟩)) t:=by
 obtain ⟨_,A,n,c,h1,h2,h3,_⟩:=h;exact ⟨A,n,c,.inr ⟨_,rfl,h1⟩,h2,h3⟩
theorem Ket.keep {B p:Nat} {w w':World} {t:List Txt} (h:Ket B w p t) (hs:w.heap.size≤w'.heap.size) (hb:∀k,B≤k→k < w.heap.size→w'.heap[k]? = w.heap[k]?):Ket B w' p t:=by
 obtain ⟨h0,A,n,c,h1,h2,h3,h4⟩:=h;refine ⟨h0,A,n,c,(hb p h0 h1.lt).trans h1,(h2.keepAt fun a ha hA=>?_).more hs,h3,h4⟩
 cases A with
 | none=>cases hA
 | some x=>
  have:x.block=a.block:=by simpa using hA
  exact World.cell?_of_block (w:=w) (hb a.block (by rw[←this];exact h4 x rfl) ha)
def TDecO (w:World) (r:Option (List Txt×Nat)) (en:Ending) (w':World):Prop:=match r with
 | some (t,j)=>∃p,en = .returned (.tuple #[.pointer (some ⟨p,0,none⟩),.int .i64 (j:Int),.int .i64 0])∧Ket w.heap.size w' p t∧Below w.heap.size w w'
 | none=>∃f,f≠0∧en = .returned (.tuple #[.pointer none,.int .i64 0,.int .i64 ((f:Nat):Int)])∧Below w.heap.size w w'
theorem Ktw (S:ByteArray) (at0:Nat) (w:World) (hS:S.size≤1099511627776) :
  Calls Tryz.prog 46 #[.string S,.int .i64 (at0:Int)] w (TDecO w (tabR S.data.toList at0)):=by
 obtain ⟨ib,hib,hz0,hz1,hz2⟩:=info_parts Kmj;have hSz:S.size≤140737488351232:=by omega
 have hlen:S.data.toList.length=S.size:=rfl;obtain ⟨R,hR⟩:∃R,tabR S.data.toList at0=R:=⟨_,rfl⟩;rw[hR];rcases Kgb S.data.toList at0 with ⟨n,i0,h1,h2,h3⟩ | ⟨v,j,e,h1,h2,h3⟩
 rotate_left
 ·have HC2:=Jh (Kao S (at0:Int) v j e h1 hSz w);have hne:((e:Int) != 0)=true:=by simp;omega
  have hre:R=none:=by rw[←hR,tabR,h1];exact if_pos h2
  have HE:=Jh h2;clear h1 h2 h3 hR;go_enter Tryz.func46,Tryz.ntmps46
  go_wp2_with fail
  refine HC2.out.mono ?_;rintro _ w3 ⟨rfl,rfl⟩;go_wp2_with fail
  go_ret3
  rw[hre];exact ⟨e,HE.out,rfl,Below.refl _ _⟩
 have HC:=Jh (Kao S (at0:Int) n i0 0 h1 hSz w)
 have hR0:Kei S.data.toList n [] i0=R:=by
  rw[←hR,tabR,h1];exact (if_neg (by simp)).symm
 have hi0:i0≤S.size:=Kwi h2;have HR:=Jh hR0;obtain ⟨B,hB⟩:∃B,w.heap.size=B:=⟨_,rfl⟩;have HB:=Jh hB;have hq0:Blk (w.alloc (.cells #[.slice none 0 0] 168)) B 168 #[.slice none 0 0]:=Blk.newAt hB.symm;have hb0:Below B w (w.alloc (.cells #[.slice none 0 0] 168)):=(Below.refl _ _).alloc (by omega) _;have HQ0:=Jh hq0;have HB0:=Jh hb0;clear h1 h2 hR hR0 hq0 hb0;go_enter Tryz.func46,Tryz.ntmps46
 go_wp2_with fail
 refine HC.out.mono ?_;rintro _ w1 ⟨rfl,rfl⟩;go_wp2_with fail
 try rw[hB]
 clear hB;go_loopg [1,7] n (fun g s1 s7 wr=>∃(at_:Nat) (L:List Txt) (v:Value),s1 = .int .i64 (at_:Int)∧s7 = .int .u64 (g:Int)∧g < 2 ^ 64∧at_≤S.size∧L.length≤at_∧Blk wr B 168 #[v]∧wr.ownsRow (B+1) 9 1 v L.length (L.map txtV)∧Below B w wr∧Kei S.data.toList g L at_=R)
 case atStart=>exact ⟨i0,[],_,rfl,rfl,h3,hi0,by simp,HQ0.out,World.ownsRow_nil _ _ _ _,HB0.out,HR.out⟩
 case round=>
  obtain ⟨at_,L,v,rfl,rfl,hg,hat,hll,hq,hown,hbr,hRR⟩:=hrel;obtain ⟨i,hi⟩:∃i,L.length=i:=⟨_,rfl⟩;rw[hi] at hll hown;obtain ⟨A,c,rfl,hs,hbase,hc⟩:=Strs.of_own hown hi
  cases gk with
  | zero=>
   have hre:R=some (L,at_):=by rw[←hRR];rfl
   clear hown hRR;go_wp2_with fail
   go_ret3
   rw[hre];exact ⟨_,rfl,⟨by rw[HB.out];exact Nat.le_refl _,A,i,c,hq,hs,hc,fun a e=>by have:=hbase a e;have:=HB.out;omega⟩,by rw[HB.out];exact hbr⟩
  | succ g=>
   have el:decide (0 < g+1)=true:=by rw[decide_eq_true_eq];omega
   obtain ⟨x,k2,e,hr⟩:∃x n e,Kbf S.data.toList (at_:Int)=(x,n,e):=⟨_,_,_,rfl⟩;have HC2:=Jh (Kfz S (at_:Int) x k2 e hr hSz wr);rw[Kei,hr] at hRR;dsimp only at hRR;obtain ⟨X,hX⟩:∃N:ByteArray,(⟨x.toArray⟩:ByteArray)=N:=⟨_,rfl⟩;have HX:=Jh hX;rw[hX] at HC2
   by_cases he:e=0
   rotate_left
   ·have hne:((e:Int) != 0)=true:=by simp;omega
    have hre:R=none:=by rw[←hRR];exact if_pos he
    have HE:=Jh he;clear hr hRR he hown hs hbase hX;go_wp2_with fail
    refine HC2.out.mono ?_;rintro _ w3 ⟨rfl,rfl⟩;go_wp2_with fail
    go_ret3
    rw[hre];exact ⟨e,HE.out,rfl,by rw[HB.out];exact hbr⟩
   subst he;have hk2:=Kec hr;rw[if_neg (by simp)] at hRR;obtain ⟨lw,hlw⟩:∃lw,lowT L x=lw:=⟨_,rfl⟩;rw[hlw] at hRR;have HRR:=Jh hRR;have HHI:=Jh hi;have HBR:=Jh hbr;have HLW:=Jh hlw
   have hpne:some B≠(Value.slice A i c).ownBlock:=by
    intro e;have:=(hown.lt _ e.symm).1;omega
   have hcells:∀j,i=j+1→∃g,A=some ⟨g,0,none⟩∧g < wr.heap.size∧wr.cell? ⟨g,j,none⟩=some (txtV L[j]!):=by
    rintro j rfl
    obtain ⟨g,hg⟩:∃g,A=some ⟨g,0,none⟩:=by
     rcases hown.2 with ⟨h,_⟩ | ⟨g,cap,cur,h,_⟩
     ·injection h;omega
     ·injection h with h;exact ⟨g,h⟩
    obtain ⟨b,off,e,hb,hcell⟩:=hs.at_ (i:=j) (by omega);rw[hg] at e;injection e with e;injection e with e1 e2;subst e1 e2;refine ⟨g,hg,hb,?_⟩;simpa using hcell
   have HC3:=Jh hcells;have HOW:=Jh hown;clear hr hRR hi hbr hlw hown hs hbase hcells hX;have q0:_=some (Value.slice A i c):=hq.cell 0;go_wp2_with fail
   refine HC2.out.mono ?_;rintro _ w1 ⟨rfl,rfl⟩;go_upto_region 12 with fail
   go_cut [11,56] (fun _s11 s56 wz=>s56 = .bool lw∧wr=wz)
   case first=>
    by_cases hi0':i=0
    ·subst hi0'
     obtain rfl:lw=false:=by
      rw[←HLW.out];unfold lowT;rw[decide_eq_false_iff_not];have:=HHI.out;omega
     go_wp2_with fail
     go_meet
     exact ⟨rfl,rfl⟩
    ·obtain ⟨j,rfl⟩:∃j,i=j+1:=⟨i - 1,by omega⟩;obtain ⟨g,rfl,hg,hcell⟩:=HC3.out j rfl;unfold txtV at hcell;obtain ⟨Z,hZ⟩:∃N:ByteArray,(⟨(L[j]!).toArray⟩:ByteArray)=N:=⟨_,rfl⟩
     have hql:Op.bytesLess Z.toList X.toList = !lw:=by
      rw[←hZ,Kht,←HX.out,←HLW.out];unfold lowT;have h1:=HHI.out;rw[h1,show j+1 - 1=j from rfl]
      by_cases h:L[j]! < x
      ·rw[decide_eq_true h,decide_eq_false (fun h'=>h'.2 h)];rfl
      ·rw[decide_eq_false h,decide_eq_true ⟨by omega,h⟩];rfl
     rw[hZ] at hcell;have hj1:((j+1:Nat):Int) - 1=(j:Int):=by omega
     have hj0:decide ((0:Int)≤(j:Int))=true:=by simp
     clear hZ HC3 HLW;rw[hj1];clear hj1
     cases lw with
     | false=>
      go_wp2_with fail
      go_meet
      exact ⟨rfl,rfl⟩
     | true=>
      go_wp2_with fail
      go_meet
      exact ⟨rfl,rfl⟩
   case rest=>
    obtain ⟨rfl,rfl⟩:=hcut
    cases lw with
    | true=>
     have hre:R=none:=by rw[←HRR.out];exact if_pos rfl
     go_wp2_with fail
     go_ret3
     try rw[hre]
     exact ⟨90,by decide,rfl,by rw[HB.out];exact HBR.out⟩
    | false=>
     have hrr:=HRR.out;rw[if_neg (by simp)] at hrr;have HRR2:=Jh hrr;clear hrr;have hsz:B+1≤wr.heap.size:=hq.lt;go_wp2_with (at_builtin;refine wpList_append_own_at _ rfl _ _ 150 rfl (B+1) 9 ib (.string ⟨#[]⟩) 1 16 Tryz.underlying150 hib hz0 hz1 hz2 rfl (by decide) _ _ _ rfl (World.ownsRow.alloc HOW.out _) ⟨wr.heap.size,0,none⟩ 1 1 [.string X] rfl rfl ?p1 ?p2 ?p3 ?p4 ?p5 ?_)
     case p1=>exact Kas (l:=[.string X]) (Blk.new wr _ _)
     case p2=>intro u hu;rw[List.mem_singleton.1 hu];rfl
     case p3=>unfold maxLen;omega
     case p4=>omega
     case p5=>simp;omega
     intro v' w2 hown' hgrow _ _;have hall2:wr.grownBy w2 (Value.slice A i c).ownBlock:=(World.grownBy_alloc wr _ _).trans hgrow;have hq2:=hq.grown hall2 hpne;have hB2:Below B w w2:=HBR.out.trans ⟨hall2.os,hall2.tape,hall2.output,hall2.size,fun k hk=>hall2.block k (by omega) (fun e=>by have:=(HOW.out.lt k e.symm).1;omega)⟩
     have hown2:w2.ownsRow (B+1) 9 1 v' (i+1) ((L ++ [x]).map txtV):=by
      have e1:(L ++ [x]).map txtV=L.map txtV ++ [.string X]:=by rw[List.map_append];simp[txtV,HX.out]
      rw[e1];simpa using hown'
     have hl1:(L ++ [x]).length=i+1:=by rw[List.length_append,HHI.out];rfl
     obtain ⟨A2,c2,rfl,_,_,hc2⟩:=Strs.of_own hown2 hl1
     have hp2:some B≠(Value.slice A2 (i+1) c2).ownBlock:=by
      intro e;have:=(hown2.lt _ e.symm).1;omega
     have hg1:IntKind.u64.wrap (((g+1:Nat):Int) - 1)=(g:Int):=by
      rw[show ((g+1:Nat):Int) - 1=(g:Int) by omega];exact IntWalk.u64_in _ (by omega)
     have HG1:=Jh hg1;have HL1:=Jh hl1;have f2:=hq2.frozen 0;have q2:_=some (Value.slice A i c):=hq2.cell 0;have hl2:=hq2.lt;clear hown' hgrow hall2 hq q0 HC3 hg1 hl1;go_wp2_with fail
     go_roundg g
     case measure=>omega
     case rel=>exact ⟨k2,L ++ [x],_,rfl,by first | rfl | exact vi HG1.out,by omega,by omega,by rw[HL1.out];omega,hq2.set_ 0 _,by rw[HL1.out];exact ownsRow_setCell_other hown2 (a:=⟨B,0,none⟩) (fun e=>hp2 e.symm) _,Kkp hB2 (Nat.le_refl _) _,HRR2.out⟩
end
section
open Go.RowKit
open Lib renaming hid → Jh
attribute [local go_sem ↓] Go.wp_at_zero Go.wp_at_succ
attribute [local go_sem] Later.cell
theorem Qeq {l:List Txt} {i:Nat} (hi:i < l.length):(l.take (i+1)).flatten=(l.take i).flatten++l[i]!:=by
 rw[List.take_succ_eq_append_getElem hi,List.flatten_append,getElem!_pos l i hi];simp
theorem Qjw {n a:Nat} (ha:a < 2 ^ n):a ^^^ (2 ^ n - 1)=2 ^ n - 1 - a:=by
 have h:=BitVec.toNat_not (x:=BitVec.ofNat n a);rw[←BitVec.xor_allOnes,BitVec.toNat_xor,BitVec.toNat_allOnes,BitVec.toNat_ofNat,Nat.mod_eq_of_lt ha] at h;exact h
theorem Kqb {a:Nat} (ha:a < 18446744073709551616):a ^^^ 18446744073709551615=18446744073709551615 - a:=Qjw (n:=64) ha
theorem Qjx {v:Int} (h1:-9223372036854775808≤v) (h2:v≤9223372036854775807) :
  bits .xor .u64 (IntKind.u64.wrap (wrap64 (v*2))) (IntKind.u64.wrap (v / 9223372036854775808))=((zig v:Nat):Int):=by
 rw[IntKind.wrap_u64,IntKind.wrap_u64];unfold wrap64
 by_cases h:0≤v
 ·have e1:((v*2+9223372036854775808) % 18446744073709551616 - 9223372036854775808) % 18446744073709551616=((zig v:Nat):Int):=by unfold zig;rw[if_pos h];omega
  have e2:v / 9223372036854775808 % 18446744073709551616=((0:Nat):Int):=by omega
  rw[e1,e2,bits_xor_u64_nat _ _ (by have:=Kqc h1 h2;omega) (by decide),Nat.xor_zero]
 ·have e1:((v*2+9223372036854775808) % 18446744073709551616 - 9223372036854775808) % 18446744073709551616=((18446744073709551615 - zig v:Nat):Int):=by unfold zig;rw[if_neg h];omega
  have e2:v / 9223372036854775808 % 18446744073709551616=((18446744073709551615:Nat):Int):=by omega
  rw[e1,e2,bits_xor_u64_nat _ _ (by omega) (by decide),Kqb (by omega)];have:=Kqc h1 h2;omega
theorem Qdr (v:Nat):bits .and .u64 (v:Int) 1=((v % 2:Nat):Int):=by
 unfold bits;simp only[BitVec.ofInt_natCast];have e:(BitVec.ofInt 64 1:BitVec 64)=BitVec.ofNat 64 1:=rfl;show IntKind.u64.wrap (((BitVec.ofNat 64 v &&& BitVec.ofInt 64 1).toNat:Nat):Int)=_
 rw[e,BitVec.toNat_and,BitVec.toNat_ofNat,BitVec.toNat_ofNat]
 have h1:(v % 2 ^ 64) &&& (1 % 2 ^ 64)=v % 2:=by
  rw[show (1 % 2 ^ 64:Nat)=2 ^ 1 - 1 by decide,Nat.and_two_pow_sub_one_eq_mod];omega
 rw[h1,IntKind.wrap_u64];omega
theorem Kug (a b:Int):bits .xor .i64 a b=IntKind.i64.wrap (((BitVec.ofInt 64 a ^^^ BitVec.ofInt 64 b).toNat:Nat):Int):=rfl
theorem Qdj {v:Nat} (h:v < 18446744073709551616) :
  bits .xor .i64 (wrap64 ((v:Int) / 2)) (wrap64 (-wrap64 (bits .and .u64 (v:Int) 1)))=unzig v:=by
 rw[Qdr,Kug];unfold wrap64;have e1:((v:Int) / 2+9223372036854775808) % 18446744073709551616 - 9223372036854775808=((v / 2:Nat):Int):=by omega
 rw[e1];rcases Nat.mod_two_eq_zero_or_one v with h2 | h2
 ·have e2:(-((((v % 2:Nat):Int)+9223372036854775808) % 18446744073709551616 - 9223372036854775808)+9223372036854775808) % 18446744073709551616 - 9223372036854775808=((0:Nat):Int):=by omega
  rw[e2,BitVec.ofInt_natCast,BitVec.ofInt_natCast,BitVec.toNat_xor,BitVec.toNat_ofNat,BitVec.toNat_ofNat,Nat.zero_mod,Nat.xor_zero,IntKind.wrap_i64];unfold unzig;rw[if_pos h2];omega
 ·have e2:(-((((v % 2:Nat):Int)+9223372036854775808) % 18446744073709551616 - 9223372036854775808)+9223372036854775808) % 18446744073709551616 - 9223372036854775808 = -1:=by omega
  have e3:(BitVec.ofInt 64 (-1):BitVec 64)=BitVec.ofNat 64 18446744073709551615:=rfl;rw[e2,e3,BitVec.ofInt_natCast,BitVec.toNat_xor,BitVec.toNat_ofNat,BitVec.toNat_ofNat];have e4:(v / 2) % 2 ^ 64=v / 2:=by omega
  have e5:(18446744073709551615:Nat) % 2 ^ 64=18446744073709551615:=by decide
  rw[e4,e5,Kqb (by omega),IntKind.wrap_i64];unfold unzig;rw[if_neg (by omega)];omega
theorem Qfz {s:List UInt8} {k:Int} {v n e:Nat} (h:Kar s k=(v,n,e)):v < 18446744073709551616:=by
 unfold Kar at h
 split at h
 ·injection h with h1 h2;omega
 ·split at h
  ·injection h with h1 h2;omega
  ·rename_i v' n' hr
   injection h with h1 h2;have:=(Ker hr).1;omega
theorem Knz (n:Int) (h0:0≤n) (h1:n < 2 ^ 32):IntKind.u32.wrap n=n:=by
 rw[IntKind.wrap_u32];omega
theorem Kzp {a b:Nat} (ha:a < 4294967296) (hb:b < 4294967296):bits .and .u32 (a:Int) (b:Int)=((a &&& b:Nat):Int):=(bits_nat .u32 32 (by decide) Knz a b ha hb).1
theorem Kvy {a b:Nat} (ha:a < 4294967296) (hb:b < 4294967296):bits .or .u32 (a:Int) (b:Int)=((a ||| b:Nat):Int):=(bits_nat .u32 32 (by decide) Knz a b ha hb).2
theorem Kqy {a b:Nat} (ha:a < 4294967296) (hb:b < 4294967296):bits .xor .u32 (a:Int) (b:Int)=((a ^^^ b:Nat):Int):=by
 have h:bits .xor .u32 (a:Int) (b:Int)=IntKind.u32.wrap (((BitVec.ofInt 32 (a:Int) ^^^ BitVec.ofInt 32 (b:Int)).toNat:Nat):Int):=rfl;rw[h,BitVec.ofInt_natCast,BitVec.ofInt_natCast,BitVec.toNat_xor,BitVec.toNat_ofNat,BitVec.toNat_ofNat,Nat.mod_eq_of_lt (show a < 2 ^ 32 by omega),Nat.mod_eq_of_lt (show b < 2 ^ 32 by omega)];exact Knz _ (Int.natCast_nonneg _) (by have:=Kid ha hb;omega)
theorem Kgk {k x:Nat} (y:Nat) (h:x < 2 ^ k):(y*2 ^ k) ||| x=y*2 ^ k+x:=by
 have:=Nat.shiftLeft_add_eq_or_of_lt h y;rw[Nat.shiftLeft_eq] at this;exact this.symm
theorem Qin {x1 x0 y1 y0:Nat} (hx:x0 < 65536) (hy:y0 < 65536):(x1*65536+x0) ||| (y1*65536+y0)=(x1 ||| y1)*65536+(x0 ||| y0):=by
 have e1:=Kgk (k:=16) x1 (show x0 < 2 ^ 16 from hx);have e2:=Kgk (k:=16) y1 (show y0 < 2 ^ 16 from hy);have e3:=Kgk (k:=16) (x1 ||| y1) (Nat.or_lt_two_pow (show x0 < 2 ^ 16 from hx) (show y0 < 2 ^ 16 from hy))
 have e4:(x1 ||| y1)*2 ^ 16=x1*2 ^ 16 ||| y1*2 ^ 16:=by
  rw[←Nat.shiftLeft_eq,←Nat.shiftLeft_eq,←Nat.shiftLeft_eq,Nat.shiftLeft_or_distrib]
 have e16:(65536:Nat)=2 ^ 16:=by decide
 rw[e16,←e1,←e2,←e3,e4,Nat.or_assoc,Nat.or_assoc];congr 1;rw[←Nat.or_assoc,←Nat.or_assoc,Nat.or_comm x0]
theorem Khm (v:Nat):v &&& 16711935=v / 65536 % 256*65536+v % 256:=by
 have h1:(16711935:Nat)=255 <<< 16 ||| 255:=by decide
 have h2:v &&& 255=v % 256:=Nat.and_two_pow_sub_one_eq_mod v 8
 have h3:v &&& (255 <<< 16)=((v >>> 16) &&& 255) <<< 16:=by
  apply Nat.eq_of_testBit_eq;intro i;simp only[Nat.testBit_and,Nat.testBit_shiftLeft,Nat.testBit_shiftRight]
  by_cases h:16≤i
  ·simp[h,Nat.add_sub_cancel' h]
  ·simp[h]
 have h4:(v >>> 16) &&& 255=v / 65536 % 256:=by
  rw[Nat.shiftRight_eq_div_pow];exact Nat.and_two_pow_sub_one_eq_mod _ 8
 rw[h1,Nat.and_or_distrib_left,h2,h3,h4,Nat.shiftLeft_eq];exact Kgk (k:=16) _ (by omega)
def revN (v:Nat):Nat:=v % 256*16777216+v / 256 % 256*65536+v / 65536 % 256*256+v / 16777216
theorem Qja {v:Nat} (hv:v < 4294967296):((v / 256) &&& 16711935) ||| ((v &&& 16711935)*256)=(v / 65536 % 256*256+v / 16777216)*65536+(v % 256*256+v / 256 % 256):=by
 rw[Khm,Khm];have e1:(v / 65536 % 256*65536+v % 256)*256=(v / 65536 % 256*256)*65536+v % 256*256:=by omega
 have e2:v / 256 / 65536 % 256=v / 16777216:=by omega
 rw[e1,e2,Qin (by omega) (by omega)];have e3:=Kgk (k:=8) (v / 65536 % 256) (show v / 16777216 < 2 ^ 8 by omega);have e4:=Kgk (k:=8) (v % 256) (show v / 256 % 256 < 2 ^ 8 by omega);have e8:(2:Nat) ^ 8=256:=by decide
 rw[e8] at e3 e4;rw[Nat.or_comm (v / 16777216),Nat.or_comm (v / 256 % 256),e3,e4]
set_option maxHeartbeats 400000 in
theorem Kky (v:Int) (h1:-9223372036854775808≤v) (h2:v≤9223372036854775807) (w:World) :
  Calls Tryz.prog 33 #[.int .i64 v] w fun e w'=>e = .returned (.string ⟨(intT v).toArray⟩)∧Below w.heap.size w w':=by
 have HU:=Jh (fun w=>Kcr (zig v) (Kqc h1 h2) w);go_enter Tryz.func33,Tryz.ntmps33
 go_wp2_with fail
 rw[Qjx h1 h2];refine (HU.out w).mono ?_;rintro _ w1 ⟨rfl,hb⟩;go_wp2_with fail
 go_ret
 exact ⟨rfl,hb⟩
set_option maxHeartbeats 400000 in
theorem Kfe (s:ByteArray) (k:Int) (v n e:Nat) (hr:Kar s.data.toList k=(v,n,e)) (hs:s.size≤140737488351232) (w:World) :
  Calls Tryz.prog 102 #[.string s,.int .i64 k] w fun en w'=>en = .returned (.tuple #[.int .i64 (if e=0 then unzig v else 0),.int .i64 (if e=0 then (n:Int) else 0),.int .i64 e])∧w=w':=by
 have HR:=Jh (Kao s k v n e hr hs w);go_enter Tryz.func102,Tryz.ntmps102
 go_wp2_with fail
 refine HR.out.mono ?_;rintro _ w1 ⟨rfl,rfl⟩
 cases e with
 | succ e=>
  go_wp2_with fail
  go_ret3
  exact ⟨by simp,rfl⟩
 | zero=>
  go_wp2_with fail
  rw[Qdj (by have:=Qfz hr;omega)];go_ret3
  exact ⟨rfl,rfl⟩
theorem Qiz {v:Nat} (hv:v < 4294967296):bits .or .u32 (bits .and .u32 ((v:Int) / 256) 16711935) (bits .and .u32 (v:Int) 16711935*256 % 4294967296)=(((v / 65536 % 256*256+v / 16777216)*65536+(v % 256*256+v / 256 % 256):Nat):Int):=by
 have e1:(v:Int) / 256=((v / 256:Nat):Int):=by omega
 have e2:∀x:Nat,x < 4294967296→bits .and .u32 (x:Int) 16711935=((x &&& 16711935:Nat):Int):=fun x hx=>Kzp hx (by decide)
 have e3:((v &&& 16711935:Nat):Int)*256 % 4294967296=(((v &&& 16711935)*256:Nat):Int):=by rw[Khm];omega
 rw[e1,e2 _ (by omega),e2 _ hv,e3,Kvy (by rw[Khm];omega) (by rw[Khm];omega),Qja hv]
theorem Qiy {v:Nat} (hv:v < 4294967296) {T:Int} (hT:T=(((v / 65536 % 256*256+v / 16777216)*65536+(v % 256*256+v / 256 % 256):Nat):Int)) :
  bits .or .u32 (T / 65536) (T*65536 % 4294967296)=((revN v:Nat):Int):=by
 subst hT;have e1:(((v / 65536 % 256*256+v / 16777216)*65536+(v % 256*256+v / 256 % 256):Nat):Int) / 65536=((v / 65536 % 256*256+v / 16777216:Nat):Int):=by omega
 have e2:(((v / 65536 % 256*256+v / 16777216)*65536+(v % 256*256+v / 256 % 256):Nat):Int)*65536 % 4294967296=(((v % 256*256+v / 256 % 256)*65536:Nat):Int):=by omega
 rw[e1,e2,Kvy (by omega) (by omega),Nat.or_comm];have e3:=Kgk (k:=16) (v % 256*256+v / 256 % 256) (show v / 65536 % 256*256+v / 16777216 < 2 ^ 16 by omega);have e16:(2:Nat) ^ 16=65536:=by decide
 rw[e16] at e3;rw[e3];unfold revN;omega
set_option maxHeartbeats 400000 in
theorem Qgb (v:Nat) (hv:v < 4294967296) (w:World) :
  Calls Tryz.prog 152 #[.int .u32 v] w fun e w'=>e = .returned (.int .u32 (revN v:Nat))∧w=w':=by
 go_enter Tryz.func152,Tryz.ntmps152
 go_wp2_with fail
 rw[Qiy hv (Qiz hv)];go_ret
 exact ⟨rfl,rfl⟩
theorem Qbl (a b c d:UInt8) (g:Nat) (w:World) (h0:w.cell? ⟨g,0,none⟩=some (.int .u8 (a.toNat:Int))) (h1:w.cell? ⟨g,1,none⟩=some (.int .u8 (b.toNat:Int))) (h2:w.cell? ⟨g,2,none⟩=some (.int .u8 (c.toNat:Int))) (h3:w.cell? ⟨g,3,none⟩=some (.int .u8 (d.toNat:Int))) :
  (convert 72 9 (.slice (some ⟨g,0,none⟩) 4 4)).run Tryz.prog w = .ok (.string ⟨#[a,b,c,d]⟩) w:=
 run_convert_bytes_back w _ _ 5 ⟨g,0,none⟩ 4 [a,b,c,d] Tryz.underlying72 Tryz.underlying5 Tryz.underlying9 (fun j hj=>by
  match j,hj with
  | 0,_=>exact h0
  | 1,_=>exact h1
  | 2,_=>exact h2
  | 3,_=>exact h3
  | _+4,hj=>simp at hj;omega)
theorem Qgc {a b c d r:Nat} (ha:a < 256) (hb:b < 256) (hc:c < 256) (hd:d < 256) (hr:a*16777216+b*65536+c*256+d=r) :
  (r:Int) / 16777216=(a:Int)∧(r:Int) / 65536 % 256=(b:Int)∧(r:Int) / 256 % 256=(c:Int)∧(r:Int) % 256=(d:Int):=by
 subst hr;refine ⟨?_,?_,?_,?_⟩ <;> omega
set_option maxHeartbeats 400000 in
theorem Qbm (v:Nat) (hv:v < 4294967296) (w:World) :
  Calls Tryz.prog 92 #[.int .u32 v] w fun e w'=>e = .returned (.string ⟨(fourT v).toArray⟩)∧Below w.heap.size w w':=by
 have HR:=Jh (Qgb v hv w);obtain ⟨r,hr⟩:∃r,revN v=r:=⟨_,rfl⟩;rw[hr] at HR;have hr2:r < 4294967296:=by rw[←hr];unfold revN;omega
 obtain ⟨b0,h0⟩:∃b,UInt8.ofNat v=b:=⟨_,rfl⟩;obtain ⟨b1,h1⟩:∃b,UInt8.ofNat (v / 256)=b:=⟨_,rfl⟩;obtain ⟨b2,h2⟩:∃b,UInt8.ofNat (v / 65536)=b:=⟨_,rfl⟩;obtain ⟨b3,h3⟩:∃b,UInt8.ofNat (v / 16777216)=b:=⟨_,rfl⟩;obtain ⟨p0,p1,p2,p3⟩:=Qgc (a:=v % 256) (b:=v / 256 % 256) (c:=v / 65536 % 256) (d:=v / 16777216) (by omega) (by omega) (by omega) (by omega) hr;have k0:(r:Int) / 16777216=(b0.toNat:Int):=by rw[p0,←h0,UInt8.toNat_ofNat']
 have k1:(r:Int) / 65536 % 256=(b1.toNat:Int):=by rw[p1,←h1,UInt8.toNat_ofNat']
 have k2:(r:Int) / 256 % 256=(b2.toNat:Int):=by rw[p2,←h2,UInt8.toNat_ofNat']
 have k3:(r:Int) % 256=(b3.toNat:Int):=by rw[p3,←h3,UInt8.toNat_ofNat'];omega
 have hcv:=Qbl b0 b1 b2 b3 w.heap.size (w.alloc (.cells #[.int .u8 ((r:Int) / 16777216),.int .u8 ((r:Int) / 65536 % 256),.int .u8 ((r:Int) / 256 % 256),.int .u8 ((r:Int) % 256)] 5)) (by rw[k0];simp[go_sem]) (by rw[k1];simp[go_sem]) (by rw[k2];simp[go_sem]) (by rw[k3];simp[go_sem]);have hb:Below w.heap.size w (w.alloc (.cells #[.int .u8 ((r:Int) / 16777216),.int .u8 ((r:Int) / 65536 % 256),.int .u8 ((r:Int) / 256 % 256),.int .u8 ((r:Int) % 256)] 5)):=(Below.refl _ _).alloc (Nat.le_refl _) _;have hfin:(⟨#[b0,b1,b2,b3]⟩:ByteArray)=⟨(fourT v).toArray⟩:=by rw[←h0,←h1,←h2,←h3];rfl
 have HFIN:=Jh hfin;have HB:=Jh hb;clear k0 k1 k2 k3 h0 h1 h2 h3 hr hfin hb p0 p1 p2 p3;go_enter Tryz.func92,Tryz.ntmps92
 go_wp2_with fail
 refine HR.out.mono ?_;rintro _ w1 ⟨rfl,rfl⟩;go_wp2_with fail
 go_ret
 exact ⟨by first | rfl | (rw[HFIN.out];rfl),HB.out⟩
def Kdn (w:World):Prop:=∀i,i < 16→w.cell? ⟨7,i,none⟩=some (.int .u32 (nibs.getD i 0:Nat))
theorem Kdn.below {B:Nat} {w w':World} (h:Kdn w) (hB:7 < B) (hb:Below B w w'):Kdn w':=fun i hi=>(hb.cell (p:=⟨7,i,none⟩) hB).trans (h i hi)
theorem and15 {c:Nat} (h:c < 4294967296):bits .and .u32 (c:Int) 15=((c % 16:Nat):Int):=by
 have h1:bits .and .u32 (c:Int) 15=((c &&& 15:Nat):Int):=Kzp h (by decide);rw[h1];congr 1;exact Nat.and_two_pow_sub_one_eq_mod c 4
theorem Qac {c:Nat} (h:c < 4294967296):bits .xor .u32 ((nibs.getD (c % 16) 0:Nat):Int) ((c:Int) / 16)=((nibN c:Nat):Int):=by
 have e1:(c:Int) / 16=((c / 16:Nat):Int):=by omega
 rw[e1,Kqy (Qad _) (by omega)];rfl
theorem Qee (Ao:Option Addr) (n c:Nat) (l:List Txt) (w:World) (h:Strs w Ao n l) (hn:n≤140737488355328) (hs:∀s∈l,s.length≤140737488355328) (hT:Kdn w) :
  Calls Tryz.prog 93 #[.slice Ao n c] w fun e w'=>e = .returned (.int .u32 (crcL l.flatten:Nat))∧w=w':=by
 have hln:=h.len;have HS:=Jh hs;have HH:=Jh h;have HT:=Jh hT;clear hs h hT;go_enter Tryz.func93,Tryz.ntmps93
 go_wp2_with fail
 go_loopg [3,9] n (fun g s3 s9 wr=>∃i c:Nat,i+g=n∧s9 = .int .i64 (i:Int)∧s3 = .int .u32 (c:Int)∧c < 4294967296∧crcF 4294967295 (l.take i).flatten=c∧wr=w)
 case atStart=>exact ⟨0,4294967295,by omega,rfl,rfl,by decide,rfl,rfl⟩
 case round=>
  obtain ⟨i,c,hig,rfl,rfl,hc,hcr,rfl⟩:=hrel;have HIG:=Jh hig;have HCR:=Jh hcr;clear hig hcr
  by_cases hi:i < n
  ·have el:decide ((i:Int) < (n:Int))=true:=by simp;omega
   have el':decide (i < n)=true:=by simp;omega
   have hiin:(i:Int) < (n:Int):=by omega
   obtain ⟨b,off,hXe,hbl,x0⟩:=HH.out.at_ hi;subst hXe;have hil:i < l.length:=by omega
   obtain ⟨T,hT⟩:∃T:ByteArray,(⟨l[i]!.toArray⟩:ByteArray)=T:=⟨_,rfl⟩;have hTl:T.data.toList=l[i]!:=by rw[←hT]
   have hTs:T.size≤140737488355328:=by
    have:=HS.out l[i]! (by rw[getElem!_pos l i hil];exact List.getElem_mem _);rw[←hTl,Kag] at this;exact this
   unfold txtV at x0;rw[hT] at x0;have hft:=Qeq hil;rw[←hTl] at hft;have HFT:=Jh hft;obtain ⟨og,rfl⟩:∃x,x=gk:=⟨_,rfl⟩;clear hft hT hTl;go_wp2_with fail
   go_loopg [3,15] T.size (fun g s3 s15 wr2=>∃j c:Nat,j+g=T.size∧s15 = .int .i64 (j:Int)∧s3 = .int .u32 (c:Int)∧c < 4294967296∧crcF 4294967295 ((l.take i).flatten++T.data.toList.take j)=c∧wr2=wr)
   case atStart=>exact ⟨0,c,by omega,rfl,rfl,hc,by rw[List.take_zero,List.append_nil];exact HCR.out,rfl⟩
   case round=>
    obtain ⟨j,c',hjg,rfl,rfl,hc',hcr',rfl⟩:=hrel;have HJG:=Jh hjg;have HCR2:=Jh hcr';clear hjg hcr'
    by_cases hj:j < T.size
    ·have fl:decide ((j:Int) < (T.size:Int))=true:=by simp;omega
     have fl':decide (j < T.size)=true:=by simp;omega
     have hjin:(j:Int) < (T.size:Int):=by omega
     have hbt:=UInt8.toNat_lt T[j];obtain ⟨c0,hc0⟩:∃x,c' ^^^ T[j].toNat=x:=⟨_,rfl⟩;have hx0:bits .xor .u32 (c':Int) (T[j].toNat:Int)=(c0:Int):=by rw[←hc0];exact Kqy hc' (by omega)
     have hl0:c0 < 4294967296:=by rw[←hc0];exact Kid hc' (by omega)
     obtain ⟨i0,hi0⟩:∃x,c0 % 16=x:=⟨_,rfl⟩;have ha0:bits .and .u32 (c0:Int) 15=(i0:Int):=by rw[←hi0];exact and15 hl0
     have hi16:i0 < 16:=by omega
     obtain ⟨n0,hn0⟩:∃x,nibs.getD i0 0=x:=⟨_,rfl⟩;have hm0:=HT.out i0 hi16;rw[hn0] at hm0;obtain ⟨c1,hc1⟩:∃x,nibN c0=x:=⟨_,rfl⟩;have hy0:bits .xor .u32 (n0:Int) ((c0:Int) / 16)=(c1:Int):=by rw[←hn0,←hi0,←hc1];exact Qac hl0
     have hl1:c1 < 4294967296:=by rw[←hc1];exact Klz hl0
     obtain ⟨i1,hi1⟩:∃x,c1 % 16=x:=⟨_,rfl⟩;have ha1:bits .and .u32 (c1:Int) 15=(i1:Int):=by rw[←hi1];exact and15 hl1
     have hi17:i1 < 16:=by omega
     obtain ⟨n1,hn1⟩:∃x,nibs.getD i1 0=x:=⟨_,rfl⟩;have hm1:=HT.out i1 hi17;rw[hn1] at hm1;obtain ⟨c2,hc2⟩:∃x,nibN c1=x:=⟨_,rfl⟩;have hy1:bits .xor .u32 (n1:Int) ((c1:Int) / 16)=(c2:Int):=by rw[←hn1,←hi1,←hc2];exact Qac hl1
     have hl2:c2 < 4294967296:=by rw[←hc2];exact Klz hl1
     have hnext:crcF 4294967295 ((l.take i).flatten++T.data.toList.take (j+1))=c2:=by
      have e:T.data.toList.take (j+1)=T.data.toList.take j ++ [T[j]]:=by
       rw[List.take_add_one,List.getElem?_eq_getElem (by simpa using hj)];simp[ByteArray.getElem_eq_getElem_data]
      rw[e,←List.append_assoc,Qed,HCR2.out,←hc2,←hc1,←hc0];rfl
     have HNX:=Jh hnext;clear hnext hc0 hc1 hc2 hn0 hn1 hi0 hi1;go_wp2_with fail
     go_roundg (gk - 1)
     case measure=>have:=HJG.out;omega
     case rel=>exact ⟨j+1,c2,by have:=HJG.out;omega,by go_num,rfl,hl2,HNX.out,rfl⟩
    ·have fl:decide ((j:Int) < (T.size:Int))=false:=by simp;omega
     have fl':decide (j < T.size)=false:=by simp;omega
     have hfull:crcF 4294967295 (l.take (i+1)).flatten=c':=by
      have:=HCR2.out;have e:T.data.toList.take j=T.data.toList:=List.take_of_length_le (by rw[Kag];omega);rw[e,←HFT.out] at this;exact this
     have HF:=Jh hfull;clear hfull;go_wp2_with fail
     go_roundg (og - 1)
     case measure=>have:=HIG.out;omega
     case rel=>exact ⟨i+1,c',by have:=HIG.out;omega,by go_num,rfl,hc',HF.out,rfl⟩
  ·have el:decide ((i:Int) < (n:Int))=false:=by simp;omega
   have el':decide (i < n)=false:=by simp;omega
   have hend:bits .xor .u32 IntKind.u32.max (c:Int)=((crcL l.flatten:Nat):Int):=by
    have h1:bits .xor .u32 IntKind.u32.max (c:Int)=((4294967295 ^^^ c:Nat):Int):=Kqy (a:=4294967295) (by decide) hc;have h2:=HCR.out;rw[List.take_of_length_le (by omega)] at h2;rw[h1];unfold crcL;rw[h2,Nat.xor_comm]
   go_wp2_with fail
   go_ret
   exact ⟨rfl,rfl⟩
def leV:List UInt8→Nat
 | []=>0
 | b :: l=>b.toNat+256*leV l
theorem Qkt {l:List UInt8} (h:4≤l.length):leV (l.take 4)=numT l:=by
 match l,h with
 | a :: b :: c :: d :: r,_=>
  simp only[List.take_succ_cons,List.take_zero,leV,numT];omega
theorem Qfg:∀l:List UInt8,leV l < 256 ^ l.length
 | []=>by simp[leV]
 | b :: l=>by
  have:=Qfg l;have:=UInt8.toNat_lt b;rw[leV,List.length_cons,Nat.pow_succ];omega
theorem Qkx {v b:Nat} (hv:v < 16777216) (hb:b < 256):bits .or .u32 ((v:Int)*256) (b:Int)=((b+256*v:Nat):Int):=by
 have e1:(v:Int)*256=((v*256:Nat):Int):=by omega
 rw[e1,Kvy (by omega) (by omega)];have e3:=Kgk (k:=8) v (show b < 2 ^ 8 from hb);have e8:(2:Nat) ^ 8=256:=by decide
 rw[e8] at e3;rw[e3];congr 1;omega
theorem Kux (s:ByteArray) (hs:4≤s.size) (hz:s.size≤140737488355328) (w:World) :
  Calls Tryz.prog 97 #[.string s] w fun e w'=>e = .returned (.int .u32 (numT s.data.toList:Nat))∧w=w':=by
 have hfin:=Qkt (l:=s.data.toList) (by rw[Kag];exact hs);have HFIN:=Jh hfin;clear hfin;have hl4:(s.data.toList.take 4).length=4:=by rw[List.length_take,Kag];omega
 go_enter Tryz.func97,Tryz.ntmps97
 go_wp2_with fail
 go_loopg [3,4] 4 (fun g s3 s4 wr=>∃v:Nat,g≤4∧s4 = .int .i64 ((g:Int) - 1)∧s3 = .int .u32 (v:Int)∧leV ((s.data.toList.take 4).drop g)=v∧wr=w)
 case atStart=>exact ⟨0,by omega,rfl,rfl,by rw[List.drop_of_length_le (by omega)];rfl,rfl⟩
 case round=>
  obtain ⟨v,hg4,rfl,rfl,hv,rfl⟩:=hrel;have hvl:=Qfg ((s.data.toList.take 4).drop gk);rw[hv,List.length_drop,hl4] at hvl
  by_cases hg:0 < gk
  ·obtain ⟨j,rfl⟩:∃j,gk=j+1:=⟨gk - 1,by omega⟩;have ej:((j+1:Nat):Int) - 1=(j:Int):=by omega
   rw[ej];have el:decide ((0:Int)≤(j:Int))=true:=by simp
   have hj:j < s.size:=by omega
   have hbt:=UInt8.toNat_lt s[j]
   have hv24:v < 16777216:=by
    refine Nat.lt_of_lt_of_le hvl ?_;have:256 ^ (4 - (j+1))≤256 ^ 3:=Nat.pow_le_pow_right (by decide) (by omega);exact this
   have hor:=Qkx hv24 hbt
   have hn:leV ((s.data.toList.take 4).drop j)=s[j].toNat+256*v:=by
    have hjl:j < (s.data.toList.take 4).length:=by omega
    rw[List.drop_eq_getElem_cons hjl,leV,hv];congr 2;rw[List.getElem_take];simp[ByteArray.getElem_eq_getElem_data]
   have HN:=Jh hn;clear hn hv hvl;go_wp2_with fail
   go_roundg j
   case measure=>omega
   case rel=>exact ⟨_,by omega,by go_num,rfl,HN.out,rfl⟩
  ·obtain rfl:gk=0:=by omega
   have el:decide ((0:Int)≤((0:Nat):Int) - 1)=false:=by simp
   rw[List.drop_zero,HFIN.out] at hv;subst hv;go_wp2_with fail
   go_ret
   exact ⟨rfl,rfl⟩
theorem Qlk {w:World} {b:Nat} {l:List Txt} (h:Blk w b 9 (l.map txtV).toArray):Strs w (some ⟨b,0,none⟩) l.length l:=
 ⟨rfl,fun _=>⟨b,0,rfl,h.lt,fun i x hx j v hv=>by
  match j,hv with
  | 0,hv=>
   injection hv with hv;subst hv;have h1:=h.cell i;have h2:(l.map txtV).toArray[i]? = some (txtV x):=by simp[hx]
   simpa[h2] using h1
  | j+1,hv=>simp[enc1] at hv⟩⟩
theorem Qho {a b:ByteArray} (h:a.data.toList=b.data.toList):a=b:=by
 cases a;cases b
 simp at h;rw[h]
theorem Qdc (s:ByteArray) (k:Nat):(s.extract 0 k).data.toList=s.data.toList.take k:=by
 simp only[ByteArray.data_extract,Array.toList_extract];simp
theorem Qbk (s:ByteArray) (k:Nat):(s.extract k s.size).data.toList=s.data.toList.drop k:=by
 simp only[ByteArray.data_extract,Array.toList_extract];rw[←Kag,List.extract_eq_take_drop,List.take_of_length_le];simp
theorem Kdn.lt {w:World} (h:Kdn w):7 < w.heap.size:=Kah (h 0 (by decide))
theorem Kwv {w:World} {b:Nat} {S:ByteArray} (h:Blk w b 9 #[.string S]):Strs w (some ⟨b,0,none⟩) 1 [S.data.toList]:=Qlk (by unfold txtV;exact h)
theorem Kzu {w:World} {b c:Nat} {S:ByteArray} (h:Blk w b 9 #[.string S]) (hS:S.size≤140737488355328) (hT:Kdn w) :
  Calls Tryz.prog 93 #[.slice (some ⟨b,0,none⟩) 1 c] w fun e w'=>e = .returned (.int .u32 (crcL S.data.toList:Nat))∧w=w':=by
 have h1:=Qee (some ⟨b,0,none⟩) 1 c [S.data.toList] w (Kwv h) (by decide) (fun s hs=>by rw[List.mem_singleton.1 hs,Kag];exact hS) hT;have e:[S.data.toList].flatten=S.data.toList:=by simp
 rw[e] at h1;exact h1
theorem Qcw (s:ByteArray) (hs:s.size≤140737488351232) (w:World) (hT:Kdn w) :
  Calls Tryz.prog 38 #[.string s] w fun e w'=>e = .returned (.string ⟨(sealT s.data.toList).toArray⟩)∧Below w.heap.size w w':=by
 obtain ⟨w1,hw1⟩:∃x,w.alloc (.cells #[.string s] 9)=x:=⟨_,rfl⟩;have hb1:Below w.heap.size w w1:=by rw[←hw1];exact (Below.refl _ _).alloc (Nat.le_refl _) _
 have hk1:Blk w1 w.heap.size 9 #[.string s]:=by rw[←hw1];exact Blk.new _ _ _
 have HC:=Jh (Kzu (c:=1) hk1 (by omega) (hT.below hT.lt hb1));have HF:=Jh (fun w=>Qbm (crcL s.data.toList) (Kzt _) w);have HW:=Jh hw1;obtain ⟨F,hF⟩:∃F:ByteArray,(⟨(fourT (crcL s.data.toList)).toArray⟩:ByteArray)=F:=⟨_,rfl⟩;have hF4:F.size=4:=by rw[←hF];rfl
 have hfin:s++F=(⟨(sealT s.data.toList).toArray⟩:ByteArray):=Qho (by rw[←hF];simp[sealT,ByteArray.data_append]);rw[hF] at HF;have HFIN:=Jh hfin;clear hw1 hk1 hfin hF;go_enter Tryz.func38,Tryz.ntmps38
 go_wp2_with fail
 rw[HW.out];refine HC.out.mono ?_;rintro _ w2 ⟨rfl,rfl⟩;go_wp2_with fail
 refine (HF.out w1).mono ?_;rintro _ w2 ⟨rfl,hb2⟩;go_wp2_with fail
 rw[HFIN.out];go_ret
 exact ⟨rfl,then_ hb1 hb2⟩
theorem Kxg (s:ByteArray) (hs:s.size≤140737488351232) (w:World) (hT:Kdn w) :
  Calls Tryz.prog 43 #[.string s] w fun e w'=>e = .returned (match Kcf s.data.toList with | .ok b=>.tuple #[.string ⟨b.toArray⟩,.int .i64 0] | .error c=>.tuple #[.string ⟨#[]⟩,.int .i64 (c:Int)])∧Below w.heap.size w w':=by
 obtain ⟨n,hn⟩:∃n,s.size=n:=⟨_,rfl⟩;have HN:=Jh hn
 by_cases h4:n < 4
 ·have d1:decide ((n:Int) - 4 < 0)=true:=by simp;omega
  have hu:Kcf s.data.toList = .error 20:=by unfold Kcf;rw[if_pos (by rw[Kag];omega)]
  rw[hu];clear hu;go_enter Tryz.func43,Tryz.ntmps43
  go_wp2_with fail
  go_ret2
  exact ⟨rfl,Below.refl _ _⟩
 ·obtain ⟨m,rfl⟩:∃m,n=m+4:=⟨n - 4,by omega⟩;have ej:((m+4:Nat):Int) - 4=(m:Int):=by omega
  have d1:decide ((m:Int) < 0)=false:=by simp
  obtain ⟨X,hX⟩:∃X,s.extract 0 m=X:=⟨_,rfl⟩;obtain ⟨Y,hY⟩:∃Y,s.extract m (m+4)=Y:=⟨_,rfl⟩;have hXl:X.data.toList=s.data.toList.take m:=by rw[←hX];exact Qdc s m
  have hYl:Y.data.toList=s.data.toList.drop m:=by rw[←hY,←hn];exact Qbk s m
  have hXs:X.size=m:=by rw[←Kag,hXl,List.length_take,Kag];omega
  have hYs:Y.size=4:=by rw[←Kag,hYl,List.length_drop,Kag];omega
  have hu:Kcf s.data.toList=if crcL X.data.toList=numT Y.data.toList then .ok X.data.toList else .error 22:=by
   unfold Kcf;rw[Kag,hn,if_neg (by omega),show m+4 - 4=m by omega,←hXl,←hYl]
  have HU:=Jh hu;have HM:=Jh (fun w'=>Kux Y (by omega) (by omega) w');have hb1:Below w.heap.size w (w.alloc (.cells #[.string X] 9)).drew:=((Below.refl _ _).alloc (Nat.le_refl _) _).drew;have hk1:Blk (w.alloc (.cells #[.string X] 9)).drew w.heap.size 9 #[.string X]:=Blk.new _ _ _;have HC:=Jh (Kzu (c:=1) hk1 (by omega) (hT.below hT.lt hb1));have HB:=Jh hb1;clear hk1;have HX:=Jh hX;have HY:=Jh hY;obtain ⟨c1,hc1⟩:∃c,crcL X.data.toList=c:=⟨_,rfl⟩;obtain ⟨c2,hc2⟩:∃c,numT Y.data.toList=c:=⟨_,rfl⟩;rw[hc1] at HC;rw[hc2] at HM;rw[hc1,hc2] at HU;rw[hu,hc1,hc2];clear hb1 hu hc1 hc2 hXl hYl;go_enter Tryz.func43,Tryz.ntmps43
  have b0:(0:Int)≤(m:Int):=by omega
  have b1:(m:Int)≤(s.size:Int):=by omega
  have b2:(m:Int)≤((m+4:Nat):Int):=by omega
  have b3:(m:Int)≤(m:Int)+4:=by omega
  have b4:m≤s.size:=by omega
  have b5:m≤m+4:=by omega
  go_upto_region 4 with fail
  go_region_held3 (fun _=>True) (go_keep) (first | (go_at_call 93;(try rw[HX.out]);with_reducible refine HC.out.mono ?_;rintro e w2 ⟨rfl,rfl⟩) | (go_at_call 97;(try rw[HY.out]);with_reducible refine (HM.out _).mono ?_;rintro e w3 ⟨rfl,rfl⟩))
  by_cases hcc:c1=c2
  ·subst hcc;have e1:((c1:Int) != (c1:Int))=false:=by simp
   have hfin:(match (if c1=c1 then Except.ok X.data.toList else Except.error 22:Except Nat (List UInt8)) with | .ok b=>Value.tuple #[.string ⟨b.toArray⟩,.int .i64 0] | .error c=>.tuple #[.string ⟨#[]⟩,.int .i64 (c:Int)]) = .tuple #[.string X,.int .i64 0]:=by rw[if_pos rfl]
   have HFIN:=Jh hfin;clear hfin;go_wp2_with fail
   go_ret2
   exact ⟨congrArg Ending.returned HFIN.out.symm,HB.out⟩
  ·have e1:((c1:Int) != (c2:Int))=true:=by simp;omega
   go_wp2_with fail
   go_ret2
   exact ⟨by first | rfl | (rw[if_neg hcc];rfl),HB.out⟩
end
section
open Go.RowKit
theorem Qib {w w1:World} {pr:Nat} {v:Value} (h:Below w.heap.size w w1):Kept w.heap.size [pr] w (w1.setCell ⟨pr,1,none⟩ v):=(Kept.of_below h).setCell (p:=⟨pr,1,none⟩) (.inl (by simp)) v
theorem Kcn {w w':World} (h:Below w.drew.heap.size w.drew w'):Below w.heap.size w w':=⟨h.os,h.tape,h.output,h.size,h.block⟩
theorem Rdr.set {pr i j:Nat} {S:ByteArray} {w w1:World} (h:Rdr pr S i w) (hb:Below w.heap.size w w1):Rdr pr S j (w1.setCell ⟨pr,1,none⟩ (.int .i64 ((j:Nat):Int))):=
 (Blk.below (show Blk w _ _ _ from h) hb (Blk.lt (show Blk w _ _ _ from h))).set_ 1 _
theorem Rdr.lt {pr i:Nat} {S:ByteArray} {w:World} (h:Rdr pr S i w):pr < w.heap.size:=Blk.lt (show Blk w _ _ _ from h)
theorem Rdr.below {pr i:Nat} {S:ByteArray} {w w':World} (h:Rdr pr S i w) (hb:Below w.heap.size w w'):Rdr pr S i w':=Blk.below (show Blk w _ _ _ from h) hb h.lt
def TkV (pr:Nat) (S:ByteArray) (w:World) (r:Option (Value×Nat)) (e:Ending) (w':World):Prop:=match r with
 | some (v,j)=>e = .returned v∧Rdr pr S j w'∧Kept w.heap.size [pr] w w'
 | none=>(∃f,f≠0∧e=Kay f)∧Below w.heap.size w w'
theorem Kxc {pr i:Nat} {S:ByteArray} {w w':World} {e:Ending} {v:Value} {j:Nat} (h:Rdr pr S i w) (ht:RdTk pr w (fun v' j' _=>v'=v∧j'=j) False e w'):TkV pr S w (some (v,j)) e w':=by
 rcases ht with ⟨v',j',w1,rfl,⟨rfl,rfl⟩,hb,rfl⟩ | ⟨hno,_⟩
 ·exact ⟨rfl,h.set hb,Qib hb⟩
 ·exact hno.elim
theorem Kxb {pr:Nat} {S:ByteArray} {w w':World} {e:Ending} (ht:RdTk pr w (fun _ _ _=>False) True e w'):TkV pr S w none e w':=by
 rcases ht with ⟨v',j',w1,rfl,hno,_⟩ | ⟨_,f,hf,rfl,hb⟩
 ·exact hno.elim
 ·exact ⟨⟨f,hf,rfl⟩,hb⟩
theorem Kiy (pr i:Nat) (S:ByteArray) (w:World) (h:Rdr pr S i w) (hS:S.size≤1099511627776) :
  Calls Tryz.prog 47 #[.pointer (some ⟨pr,0,none⟩),.func (.func 48) #[] #[]] w (TkV pr S w ((ruAt S.data.toList i).map fun x=>(.int .u64 (x.1:Int),x.2))):=by
 have hS2:S.size≤140737488351232:=by omega
 rcases Kgb S.data.toList i with ⟨v,j,h1,h2,h3⟩ | ⟨v,j,e,h1,h2,h3⟩
 ·rw[h2];refine (Knc pr i S w h (fun v' j' _=>v' = .int .u64 (v:Int)∧j'=j) False ((Kao S (i:Int) v j 0 h1 hS2 w.drew).mono ?_)).mono fun e w' ht=>Kxc h ht
  rintro e w' ⟨rfl,rfl⟩;exact ⟨Kcn (Below.refl _ _),.inl ⟨_,j,rfl,rfl,rfl⟩⟩
 ·rw[h3];refine (Knc pr i S w h (fun _ _ _=>False) True ((Kao S (i:Int) v j e h1 hS2 w.drew).mono ?_)).mono fun e w' ht=>Kxb ht
  rintro en w' ⟨rfl,rfl⟩;exact ⟨Kcn (Below.refl _ _),.inr ⟨trivial,_,_,e,h2,rfl⟩⟩
theorem Knw (s:List UInt8) (i:Nat):(∃v j,Kar s (i:Int)=(v,j,0)∧riAt s i=some (unzig v,j)∧v < 2 ^ 64)∨(∃v j e,Kar s (i:Int)=(v,j,e)∧e≠0∧riAt s i=none):=by
 rw[Kfp];unfold riAt readI outOf
 cases hr:readU (s.drop i) with
 | error c=>exact .inr ⟨0,0,c,rfl,Kfa hr,rfl⟩
 | ok x=>exact .inl ⟨x.1,i+x.2,rfl,rfl,(Ker hr).1⟩
theorem Ktv (pr i:Nat) (S:ByteArray) (w:World) (h:Rdr pr S i w) (hS:S.size≤1099511627776) :
  Calls Tryz.prog 101 #[.pointer (some ⟨pr,0,none⟩),.func (.func 102) #[] #[]] w (TkV pr S w ((riAt S.data.toList i).map fun x=>(.int .i64 x.1,x.2))):=by
 have hS2:S.size≤140737488351232:=by omega
 rcases Knw S.data.toList i with ⟨v,j,h1,h2,h3⟩ | ⟨v,j,e,h1,h2,h3⟩
 ·rw[h2];refine (Kmy pr i S w h (fun v' j' _=>v' = .int .i64 (unzig v)∧j'=j) False ((Kfe S (i:Int) v j 0 h1 hS2 w.drew).mono ?_)).mono fun e w' ht=>Kxc h ht
  rintro e w' ⟨rfl,rfl⟩;exact ⟨Kcn (Below.refl _ _),.inl ⟨_,j,rfl,rfl,rfl⟩⟩
 ·rw[h3];refine (Kmy pr i S w h (fun _ _ _=>False) True ((Kfe S (i:Int) v j e h1 hS2 w.drew).mono ?_)).mono fun e w' ht=>Kxb ht
  rintro en w' ⟨rfl,rfl⟩;exact ⟨Kcn (Below.refl _ _),.inr ⟨trivial,_,_,e,h2,rfl⟩⟩
theorem Kqu (pr i:Nat) (S:ByteArray) (w:World) (h:Rdr pr S i w) (hS:S.size≤1099511627776) :
  Calls Tryz.prog 106 #[.pointer (some ⟨pr,0,none⟩),.func (.func 98) #[] #[]] w (TkV pr S w (if (Kbf S.data.toList i).2.2=0 then some (txtV (Kbf S.data.toList i).1,(Kbf S.data.toList i).2.1) else none)):=by
 have hS2:S.size≤140737488351232:=by omega
 obtain ⟨x,j,e,h1⟩:∃x j e,Kbf S.data.toList (i:Int)=(x,j,e):=⟨_,_,_,rfl⟩;rw[h1];dsimp only
 by_cases he:e=0
 ·subst he;rw[if_pos rfl];refine (Kna pr i S w h (fun v' j' _=>v'=txtV x∧j'=j) False ((Kfz S (i:Int) x j 0 h1 hS2 w.drew).mono ?_)).mono fun e w' ht=>Kxc h ht
  rintro e w' ⟨rfl,rfl⟩;exact ⟨Kcn (Below.refl _ _),.inl ⟨_,j,rfl,rfl,rfl⟩⟩
 ·rw[if_neg he];refine (Kna pr i S w h (fun _ _ _=>False) True ((Kfz S (i:Int) x j e h1 hS2 w.drew).mono ?_)).mono fun e w' ht=>Kxb ht
  rintro en w' ⟨rfl,rfl⟩;exact ⟨Kcn (Below.refl _ _),.inr ⟨trivial,_,_,e,he,rfl⟩⟩
end
section
open Go.RowKit Go.Sort
attribute [local go_sem ↓] Go.wp_at_zero Go.wp_at_succ
attribute [local go_sem] Later.cell
theorem Kjf:∀a b:Txt,Lib.compareBytes a b=if a < b then -1 else if b < a then 1 else 0
 | [],[]=>by simp[Lib.compareBytes]
 | [],_ :: _=>by simp[Lib.compareBytes]
 | _ :: _,[]=>by simp[Lib.compareBytes]
 | x :: a,y :: b=>by
  have ih:=Kjf a b;rw[Lib.compareBytes]
  by_cases h1:x < y
  ·have:x :: a < y :: b:=List.cons_lt_cons_iff.2 (.inl h1);rw[if_pos h1,if_pos this]
  ·by_cases h2:y < x
   ·have h3:y :: b < x :: a:=List.cons_lt_cons_iff.2 (.inl h2);have h4:¬x :: a < y :: b:=fun h=>List.lt_asymm h h3
    rw[if_neg h1,if_pos h2,if_neg h4,if_pos h3]
   ·have e:x=y:=UInt8.le_antisymm (UInt8.not_lt.1 h2) (UInt8.not_lt.1 h1);subst e;rw[if_neg h1,if_neg h1,ih];have e1:(x :: a < x :: b)↔a < b:=by rw[List.cons_lt_cons_iff];simp
    have e2:(x :: b < x :: a)↔b < a:=by rw[List.cons_lt_cons_iff];simp
    by_cases h3:a < b
    ·rw[if_pos h3,if_pos (e1.2 h3)]
    ·rw[if_neg h3,if_neg (fun h=>h3 (e1.1 h))]
     by_cases h4:b < a
     ·rw[if_pos h4,if_pos (e2.2 h4)]
     ·rw[if_neg h4,if_neg (fun h=>h4 (e2.1 h))]
def cmp1 (x y:Lb):Int:=if Lib.compareBytes x.n y.n≠0 then Lib.compareBytes x.n y.n else Lib.compareBytes x.v y.v
theorem Qeb (x y:Lb) (a b:List Lb):cmpL (x :: a) (y :: b)=if cmp1 x y≠0 then cmp1 x y else cmpL a b:=by
 rw[cmpL];unfold cmp1;rw[Kjf x.n y.n,Kjf x.v y.v]
 by_cases h1:x.n < y.n
 ·simp[h1]
 ·by_cases h2:y.n < x.n
  ·simp[h1,h2]
  ·by_cases h3:x.v < y.v
   ·simp[h1,h2,h3]
   ·by_cases h4:y.v < x.v
    ·simp[h1,h2,h3,h4]
    ·simp[h1,h2,h3,h4]
set_option maxHeartbeats 400000 in
theorem Qfu (g:Nat) (a b:Int) (w:World) (hq:Blk w g 3 #[.int .i64 a,.int .i64 b]) :
  Calls Tryz.prog 133 #[.slice (some ⟨g,0,none⟩) 2 2] w fun e w'=>e = .returned (.int .i64 (if a≠0 then a else b))∧w=w':=by
 have q0:w.cell? ⟨g,0,none⟩=some (Value.int .i64 a):=hq.cell 0;have q1:w.cell? ⟨g,1,none⟩=some (Value.int .i64 b):=hq.cell 1;clear hq
 by_cases h0:a=0
 ·subst h0;rw[if_neg (by simp)]
  by_cases h1:b=0
  ·subst h1;go_enter Tryz.func133,Tryz.ntmps133
   go_wp2_with fail
   refine wp_loop_rounds 3 ?_;rw[rounds_succ];go_wp2_with fail
   rw[rounds_succ];go_wp2_with fail
   rw[rounds_succ];go_wp2_with fail
   go_ret
   exact ⟨rfl,rfl⟩
  ·have e1:(b != 0)=true:=by simp[h1]
   go_enter Tryz.func133,Tryz.ntmps133
   go_wp2_with fail
   refine wp_loop_rounds 3 ?_;rw[rounds_succ];go_wp2_with fail
   rw[rounds_succ];go_wp2_with fail
   go_ret
   exact ⟨rfl,rfl⟩
 ·rw[if_pos h0];have e1:(a != 0)=true:=by simp[h0]
  go_enter Tryz.func133,Tryz.ntmps133
  go_wp2_with fail
  refine wp_loop_rounds 3 ?_;rw[rounds_succ];go_wp2_with fail
  go_ret
  exact ⟨rfl,rfl⟩
end
section
open Go.RowKit Go.Sort
open Lib renaming hid → Jh
attribute [local go_sem ↓] Go.wp_at_zero Go.wp_at_succ
def Grown (w w':World):Prop:=∃p:GrownBy,w'=grow (w.drewN p.n) p.os
section
variable {w w1 w2 : World}
theorem Grown.of (w:World) (q:Nat) (os:Array Obj):Grown w (grow (w.drewN q) os):=⟨⟨q,os⟩,rfl⟩
theorem Grown.refl (w:World):Grown w w:=⟨⟨0,#[]⟩,by rw[grow_empty];rfl⟩
theorem Grown.trans (h:Grown w w1) (k:Grown w1 w2):Grown w w2:=by
 obtain ⟨p,rfl⟩:=h;obtain ⟨q,rfl⟩:=k;exact ⟨⟨p.n+q.n,p.os++q.os⟩,by show grow (grow ((w.drewN p.n).drewN q.n) p.os) q.os=_;rw[grow_grow,World.drewN_drewN]⟩
theorem Grown.below (h:Grown w w1):Below w.heap.size w w1:=by
 obtain ⟨p,rfl⟩:=h;exact below_grown w p.n p.os
theorem Grown.alloc (h:Grown w w1) (o:Obj):Grown w (w1.alloc o):=h.trans ⟨⟨0,#[o]⟩,by rw[alloc_eq_grow];rfl⟩
theorem Grown.drew (h:Grown w w1):Grown w w1.drew:=h.trans ⟨⟨1,#[]⟩,by rw[grow_empty];rfl⟩
end
structure Kee (w0:World) where
 w:World
 h:Grown w0 w
instance Kee.some {w:World}:Nonempty (Kee w):=⟨⟨w,Grown.refl _⟩⟩
theorem Kee.cell {w:World} (x:Kee w) (b o:Nat) (hb:b < w.heap.size):x.w.cell? ⟨b,o,none⟩=w.cell? ⟨b,o,none⟩:=x.h.below.cell (p:=⟨b,o,none⟩) hb
attribute [local go_sem] Kee.cell
theorem Kwa {P:Program} {f:FuncId} {args:Array Value} {w:World} (x:Kee w) {v:Value} (h:Calls P f args x.w fun e w'=>e = .returned v∧Grown x.w w') :
  Calls P f args x.w fun e w''=>e = .returned v∧∃y:Kee w,w''=y.w:=
 h.mono fun _ w' ⟨he,hb⟩=>⟨he,⟨w',x.h.trans hb⟩,rfl⟩
theorem Kys {P:Program} {f:FuncId} {args:Array Value} {w:World} (x:Kee w) {v:Value} (h:Calls P f args x.w fun e w'=>e = .returned v∧x.w=w') :
  Calls P f args x.w fun e w''=>e = .returned v∧∃y:Kee w,w''=y.w:=
 h.mono fun _ _ ⟨he,hb⟩=>⟨he,x,hb.symm⟩
theorem Kjd {P:Program} {id:Nat} {Q:Exit→Act→World→Prop} {a:Act} {w:World} {l:List Oper} (n:Nat) (hm:P.follows .mixedOrders=true) (hB:Region.lexTailB .any l.toArray n=true)
  (h:wpQuiet P l.toArray (fun w'=>∃x:Kee w,w'=x.w) (fun a'=>∀w',(∃x:Kee w,w'=x.w)→wpList P l.toArray Q (l.drop n) a' w') (l.take n) a):(Code.region id l.toArray true).wp P Q a w:=
 Kfv (C:=fun w'=>∃x:Kee w,w'=x.w) n hm hB ⟨⟨w.drew,(Grown.refl _).drew⟩,rfl⟩ h
theorem Qjz (x y:Lb) (W:World) :
  Calls Tryz.prog 134 #[.agg #[.string ⟨x.n.toArray⟩,.string ⟨x.v.toArray⟩],.agg #[.string ⟨y.n.toArray⟩,.string ⟨y.v.toArray⟩]] W fun e w'=>e = .returned (.int .i64 (Lib.compareBytes x.n y.n))∧Grown W w':=by
 refine (Khp x y W).mono ?_;rintro e w' ⟨he,q,os,rfl⟩;exact ⟨he,Grown.of _ _ _⟩
theorem Kol (x y:Lb) (w:World) :
  Calls Tryz.prog 132 #[.agg #[.string ⟨x.n.toArray⟩,.string ⟨x.v.toArray⟩],.agg #[.string ⟨y.n.toArray⟩,.string ⟨y.v.toArray⟩]] w fun e w'=>e = .returned (.int .i64 (cmp1 x y))∧Grown w w':=by
 obtain ⟨ca,hca⟩:∃ca,Lib.compareBytes x.n y.n=ca:=⟨_,rfl⟩;obtain ⟨cb,hcb⟩:∃cb,Lib.compareBytes x.v y.v=cb:=⟨_,rfl⟩
 have hbn:∀W:World,Calls Tryz.prog 134 #[.agg #[.string ⟨x.n.toArray⟩,.string ⟨x.v.toArray⟩],.agg #[.string ⟨y.n.toArray⟩,.string ⟨y.v.toArray⟩]] W fun e w'=>e = .returned (.int .i64 ca)∧Grown W w':=fun W=>by
  have:=Qjz x y W;rwa[hca] at this
 have hco:∀W:World,Calls Tryz.prog 71 #[.string ⟨x.v.toArray⟩,.string ⟨y.v.toArray⟩] W fun e w'=>e = .returned (.int .i64 cb)∧W=w':=fun W=>by
  refine (Tryz.strings_Compare ⟨x.v.toArray⟩ ⟨y.v.toArray⟩ W).mono ?_;rintro e w' ⟨rfl,rfl⟩;exact ⟨by rw[←hcb],rfl⟩
 have hr:cmp1 x y=if ca≠0 then ca else cb:=by unfold cmp1;rw[hca,hcb]
 obtain ⟨rr,hrr⟩:∃rr,(if ca≠0 then ca else cb)=rr:=⟨_,rfl⟩;rw[hr,hrr];have HRR:=Jh hrr;clear hca hcb hr hrr;obtain ⟨N,hN⟩:∃N:ByteArray,(⟨x.n.toArray⟩:ByteArray)=N:=⟨_,rfl⟩;obtain ⟨V,hV⟩:∃N:ByteArray,(⟨x.v.toArray⟩:ByteArray)=N:=⟨_,rfl⟩;obtain ⟨N2,hN2⟩:∃N:ByteArray,(⟨y.n.toArray⟩:ByteArray)=N:=⟨_,rfl⟩;obtain ⟨V2,hV2⟩:∃N:ByteArray,(⟨y.v.toArray⟩:ByteArray)=N:=⟨_,rfl⟩;rw[hN,hV,hN2,hV2] at hbn ⊢;rw[hV,hV2] at hco;have HBN:=Jh hbn;have HCO:=Jh hco;clear hN hV hN2 hV2 hbn hco;go_enter Tryz.func132,Tryz.ntmps132
 go_upto_region 1 with fail
 obtain ⟨w1,hw1⟩:∃x,(w.alloc (.cells #[.string N,.string V] 106)).alloc (.cells #[.string N2,.string V2] 106)=x:=⟨_,rfl⟩;have hb1:Grown w w1:=by rw[←hw1];exact ((Grown.refl _).alloc _).alloc _
 have hq:Blk w1 w.heap.size 106 #[.string N,.string V]:=by rw[←hw1];exact (Blk.new _ _ _).alloc _
 have hp:Blk w1 (w.heap.size+1) 106 #[.string N2,.string V2]:=by rw[←hw1];exact Blk.newAt (by simp)
 rw[hw1];obtain ⟨a,hA⟩:∃a,w.heap.size=a:=⟨_,rfl⟩;rw[hA] at hq hp ⊢;clear hw1;have q0:_=some (Value.string N):=hq.cell 0;have q1:_=some (Value.string V):=hq.cell 1;have p0:_=some (Value.string N2):=hp.cell 0;have p1:_=some (Value.string V2):=hp.cell 1;have hql:=hq.lt;have hpl:=hp.lt;refine Kjd 8 (by kernel_rfl) (by kernel_rfl) ?_;simp only[List.take_succ_cons,List.take_zero,List.drop_succ_cons,List.drop_zero]
 repeat (go_big_quiet_step ((first | (go_at_call 134;exact Kwa _ (HBN.out _)) | (go_at_call 71;exact Kys _ (HCO.out _)))))
 refine wpQuiet_nil ?_;rintro w2 ⟨⟨_,hb2⟩,rfl⟩;have hB2:Grown w w2:=hb1.trans hb2;go_wp2_with fail
 have hg:Blk (w2.alloc (.cells #[.int .i64 ca,.int .i64 cb] 3)) w2.heap.size 3 #[.int .i64 ca,.int .i64 cb]:=Blk.new _ _ _;refine (Qfu _ ca cb _ hg).mono ?_;rintro _ w3 ⟨rfl,rfl⟩;rw[HRR.out];go_wp2_with fail
 go_ret
 exact ⟨rfl,by first | exact hB2.alloc _ | (rw[←hA];exact hB2.alloc _)⟩
theorem Kko (l m:List Lb) (A B:Option Addr) (n k ca cb:Nat) (w:World) (r:Int) (hr:cmpL l m=r) (hA:Elems w w.heap.size 2 encLb A n l) (hB:Elems w w.heap.size 2 encLb B k m) (hn:n≤140737488351232) (hk:k≤140737488351232) :
  Calls Tryz.prog 131 #[.slice A n ca,.slice B k cb,.func (.func 132) #[] #[]] w fun e w'=>e = .returned (.int .i64 r)∧Grown w w':=by
 have hl:=hA.len;have hm:=hB.len;have HL:=Jh hl;have HM:=Jh hm;have HR:=Jh hr;clear hl hm hr;go_enter Tryz.func131,Tryz.ntmps131
 go_wp2_with fail
 go_loopg [13] n (fun g s13 wr=>∃i:Nat,i+g=n∧s13 = .int .i64 (i:Int)∧Grown w wr∧i≤k∧cmpL (l.drop i) (m.drop i)=r)
 case atStart=>exact ⟨0,by omega,rfl,Grown.refl _,Nat.zero_le _,HR.out⟩
 case round=>
  obtain ⟨i,hig,rfl,hBw,hik,hcr⟩:=hrel;have HIG:=Jh hig;have HCR:=Jh hcr;clear hig hcr
  by_cases hi:i < n
  ·have el:decide ((i:Int) < (n:Int))=true:=by simp;omega
   have el':decide (i < n)=true:=by simp;omega
   have hil:i < l.length:=by have:=HL.out;omega
   have hdl:l.drop i=l[i]! :: l.drop (i+1):=by rw[getElem!_pos l i hil];exact List.drop_eq_getElem_cons hil
   obtain ⟨ba,oa,rfl,_,_⟩:=hA.2 (by omega);obtain ⟨hba,a0,a1⟩:=Kce hA (by omega) hBw.below i hil;obtain ⟨X,hX⟩:∃N:ByteArray,(⟨l[i]!.n.toArray⟩:ByteArray)=N:=⟨_,rfl⟩;obtain ⟨Y,hY⟩:∃N:ByteArray,(⟨l[i]!.v.toArray⟩:ByteArray)=N:=⟨_,rfl⟩;have HX:=Jh hX;have HY:=Jh hY;have HDL:=Jh hdl;rw[hX] at a0;rw[hY] at a1;clear hX hY hdl
   by_cases hk2:i < k
   ·have eg:decide ((k:Int)≤(i:Int))=false:=by simp;omega
    have eg':decide (k≤i)=false:=by simp;omega
    have him:i < m.length:=by have:=HM.out;omega
    have hdm:m.drop i=m[i]! :: m.drop (i+1):=by rw[getElem!_pos m i him];exact List.drop_eq_getElem_cons him
    obtain ⟨bb,ob,rfl,_,_⟩:=hB.2 (by omega);have hcmp:=fun W=>Kol l[i]! m[i]! W
    obtain ⟨X2,hX2⟩:∃N:ByteArray,(⟨m[i]!.n.toArray⟩:ByteArray)=N:=⟨_,rfl⟩;obtain ⟨Y2,hY2⟩:∃N:ByteArray,(⟨m[i]!.v.toArray⟩:ByteArray)=N:=⟨_,rfl⟩;have HX2:=Jh hX2;have HY2:=Jh hY2;have hcr:=HCR.out;rw[HDL.out,hdm,Qeb] at hcr;obtain ⟨c,hc⟩:∃c,cmp1 l[i]! m[i]! = c:=⟨_,rfl⟩;simp only[HX.out,HY.out,hX2,hY2,hc] at hcmp;rw[hc] at hcr;have HCMP:=Jh hcmp;have HC1:=Jh hcr;clear hX2 hY2 hcmp hcr hc hdm;go_upto_region 4 with fail
    obtain ⟨w1,hw1⟩:∃x,wr.alloc (.cells #[.string X,.string Y] 106)=x:=⟨_,rfl⟩;have hB1:Grown w w1:=by rw[←hw1];exact hBw.alloc _
    have hq:Blk w1 wr.heap.size 106 #[.string X,.string Y]:=by rw[←hw1];exact Blk.new _ _ _
    rw[hw1];obtain ⟨p,hp⟩:∃p,wr.heap.size=p:=⟨_,rfl⟩;rw[hp] at hq ⊢;obtain ⟨hbb,b0,b1⟩:=Kce hB (by omega) hB1.below i him;rw[HX2.out] at b0;rw[HY2.out] at b1;clear hw1 hp a0 a1 hBw;go_upto_region 7 with fail
    obtain ⟨w2,hw2⟩:∃x,w1.alloc (.cells #[.string X2,.string Y2] 106)=x:=⟨_,rfl⟩;have hB2:Grown w w2:=by rw[←hw2];exact hB1.alloc _
    have hq2:Blk w2 p 106 #[.string X,.string Y]:=by rw[←hw2];exact hq.alloc _
    have hr2:Blk w2 w1.heap.size 106 #[.string X2,.string Y2]:=by rw[←hw2];exact Blk.new _ _ _
    rw[hw2];obtain ⟨p2,hp2⟩:∃p,w1.heap.size=p:=⟨_,rfl⟩;rw[hp2] at hr2 ⊢;clear hw2 hp2 b0 b1 hB1 hq;have q0:_=some (Value.string X):=hq2.cell 0;have q1:_=some (Value.string Y):=hq2.cell 1;have r0:_=some (Value.string X2):=hr2.cell 0;have r1:_=some (Value.string Y2):=hr2.cell 1;go_wp2_with fail
    refine (HCMP.out w2).mono ?_;rintro _ w3 ⟨rfl,hb3⟩;have hB3:=hB2.trans hb3
    by_cases h0:c=0
    ·subst h0;have h1:=HC1.out;rw[if_neg (by simp)] at h1;have HC2:=Jh h1;clear h1;go_wp2_with fail
     go_roundg (gk - 1)
     case measure=>have:=HIG.out;omega
     case rel=>exact ⟨i+1,by have:=HIG.out;omega,by go_num,hB3,by omega,HC2.out⟩
    ·have e0:(c != 0)=true:=by simp[h0]
     have h1:=HC1.out;rw[if_pos h0] at h1;have HC2:=Jh h1;clear h1;go_wp2_with fail
     go_ret
     exact ⟨by rw[←HC2.out];rfl,hB3⟩
   ·have eg:decide ((k:Int)≤(i:Int))=true:=by simp;omega
    have eg':decide (k≤i)=true:=by simp;omega
    have hdm:m.drop i = []:=List.drop_eq_nil_of_le (by have:=HM.out;omega);have hcr:=HCR.out;rw[HDL.out,hdm] at hcr;have h1:(1:Int)=r:=hcr;have H1:=Jh h1;clear hdm hcr h1;go_wp2_with fail
    go_ret
    exact ⟨by rw[←H1.out];rfl,hBw.alloc _⟩
  ·have hin:i=n:=by have:=HIG.out;omega
   subst hin;have hdl:l.drop i = []:=List.drop_eq_nil_of_le (by have:=HL.out;omega);have hcr:=HCR.out;rw[hdl] at hcr;have el:decide ((i:Int) < (i:Int))=false:=by simp
   by_cases hk2:i < k
   ·have eg:decide ((i:Int) < (k:Int))=true:=by simp;omega
    have eg':decide (i < k)=true:=by simp;omega
    have him:i < m.length:=by have:=HM.out;omega
    have hdm:m.drop i=m[i] :: m.drop (i+1):=List.drop_eq_getElem_cons him;rw[hdm] at hcr;have h1:(-1:Int)=r:=hcr;have H1:=Jh h1;clear hdm hcr h1 hdl;go_wp2_with fail
    go_ret
    exact ⟨by rw[←H1.out];rfl,hBw⟩
   ·have eg:decide ((i:Int) < (k:Int))=false:=by simp;omega
    have eg':decide (i < k)=false:=by simp;omega
    have hdm:m.drop i = []:=List.drop_eq_nil_of_le (by have:=HM.out;omega);rw[hdm] at hcr;have h1:(0:Int)=r:=hcr;have H1:=Jh h1;clear hdm hcr h1 hdl;go_wp2_with fail
    go_ret
    exact ⟨by rw[←H1.out];rfl,hBw⟩
set_option maxHeartbeats 400000 in
theorem Kii (l m:List Lb) (A B:Option Addr) (n k ca cb:Nat) (w:World) (r:Int) (hr:cmpL l m=r) (hA:Elems w w.heap.size 2 encLb A n l) (hB:Elems w w.heap.size 2 encLb B k m) (hn:n≤140737488351232) (hk:k≤140737488351232) :
  Calls Tryz.prog 77 #[.slice A n ca,.slice B k cb] w fun e w'=>e = .returned (.int .i64 r)∧Grown w w':=by
 have HC:=Jh (Kko l m A B n k ca cb w r hr hA hB hn hk);clear hr;go_enter Tryz.func77,Tryz.ntmps77
 go_wp2_with fail
 refine HC.out.mono ?_;rintro _ w1 ⟨rfl,hb⟩;go_wp2_with fail
 go_ret
 exact ⟨rfl,hb⟩
end
end Go.Proofs.YtefpndiiedkmpaaGreatDoor
