/- Merged (what the claim wants of): ColWalks, AggPlain, LabCmp, BlkPlain, BlkMem, ChkWalksD, ChkWalksE, ChkRdA, RegTake, KptTake, UnpPlain, BackPlain. -/
import Derived.Test.YtefpndiiedkmpaaGreatDoorKpo03
import Derived.StringKeys
import Derived.Maps.OwnOps
import Derived.Maps.Views
import Derived.Test.YtefpndiiedkmpaaGreatDoorKpo01
import Derived.Test.YtefpndiiedkmpaaGreatDoorKpo02
import Derived.Laws.BytesArg
import Derived.OrdersHeld
set_option linter.unusedVariables false
set_option linter.unusedSimpArgs false
set_option maxRecDepth 100000
set_option maxHeartbeats 8000000
namespace Go.Proofs.YtefpndiiedkmpaaGreatDoor
section
open Go.RowKit Go.Sort Go.Maps
open Lib renaming hid → Jh
open List renaming length_append → Jd
attribute [local go_sem ↓] Go.wp_at_zero Go.wp_at_succ
attribute [local go_sem] Later.cell
structure Hd where
 A:Option Addr
 n:Nat
 c:Nat
instance:Inhabited Hd:=⟨⟨none,0,0⟩⟩
def encH (h:Hd):List Value:=[.slice h.A h.n h.c]
def Sets (w:World) (A:Option Addr) (n:Nat) (L:List (List Lb)):Prop:=
 ∃hs:List Hd,Elems w w.heap.size 1 encH A n hs∧L.length=n∧∀(i:Nat) (h:Hd),hs[i]? = some h→Elems w w.heap.size 2 encLb h.A h.n L[i]!∧h.n≤h.c
section
variable {w w' : World} {A : Option Addr} {n : Nat} {L : List (List Lb)}
theorem Sets.len (h:Sets w A n L):L.length=n:=by obtain ⟨_,_,h2,_⟩:=h;exact h2
theorem Sets.at_ (h:Sets w A n L) {i:Nat} (hi:i < n):∃b off B m c,A=some ⟨b,off,none⟩∧b < w.heap.size∧w.cell? ⟨b,off+i,none⟩=some (.slice B m c)∧Elems w w.heap.size 2 encLb B m L[i]!∧m≤c:=by
 obtain ⟨hs,h1,h2,h3⟩:=h;obtain ⟨b,off,e,hb,hc⟩:=h1.2 (by omega);have hl:i < hs.length:=by have:=h1.len;omega
 obtain ⟨a1,a2⟩:=h3 i hs[i] (List.getElem?_eq_getElem hl);have:=hc i hs[i] (List.getElem?_eq_getElem hl) 0 _ rfl;exact ⟨b,off,_,_,_,e,hb,by simpa using this,a1,a2⟩
end
def allT (L:List (List Lb)):List Txt:=L.flatMap texts
theorem Krc (l:List Lb) (L:List (List Lb)):allT (l :: L)=texts l++allT L:=rfl
theorem Knj (L M:List (List Lb)):allT (L++M)=allT L++allT M:=by simp[allT]
theorem Kgp (l:List Lb):(texts l).length=2*l.length:=by
 induction l with
 | nil=>rfl
 | cons x l ih=>rw[Khg,List.length_cons,List.length_cons,ih,List.length_cons];omega
theorem Qgo (l m:List Lb):texts (l++m)=texts l++texts m:=by simp[texts]
theorem Qdp {L:List (List Lb)} {i:Nat} (h:i < L.length):(texts L[i]!).length≤(allT L).length:=by
 rw[getElem!_pos L i h];have hL:L=L.take i++L[i] :: L.drop (i+1):=by rw[←List.drop_eq_getElem_cons h,List.take_append_drop]
 have e:allT L=allT (L.take i)++(texts L[i]++allT (L.drop (i+1))):=by
  conv=>lhs;rw[hL]
  rw[Knj,Krc]
 rw[e,Jd,Jd];omega
theorem Qdq {L:List (List Lb)} {i:Nat} (h:i < L.length):allT (L.take (i+1))=allT (L.take i)++texts L[i]!:=by
 rw[List.take_succ_eq_append_getElem h,Knj,getElem!_pos L i h];simp[allT]
theorem Kkg {L:List (List Lb)} (i:Nat):(allT (L.take i)).length≤(allT L).length:=by
 have:allT L=allT (L.take i)++allT (L.drop i):=by rw[←Knj,List.take_append_drop]
 rw[this];simp
theorem Qhg {L:List (List Lb)} {i k:Nat} (h:i < L.length) (hk:k < L[i]!.length):L[i]![k]!.n∈allT L∧L[i]![k]!.v∈allT L:=by
 rw[getElem!_pos L i h] at hk ⊢;rw[getElem!_pos _ k hk];constructor
 ·refine List.mem_flatMap.2 ⟨L[i],List.getElem_mem h,List.mem_flatMap.2 ⟨L[i][k],List.getElem_mem hk,by simp⟩⟩
 ·refine List.mem_flatMap.2 ⟨L[i],List.getElem_mem h,List.mem_flatMap.2 ⟨L[i][k],List.getElem_mem hk,by simp⟩⟩
theorem Qde {l:List Lb} {k:Nat} (h:k < l.length):texts (l.take (k+1))=texts (l.take k) ++ [l[k]!.n] ++ [l[k]!.v]:=by
 rw[List.take_succ_eq_append_getElem h,Qgo,getElem!_pos l k h];simp[texts]
theorem law5:Keyed Tryz.prog 9:=string_keyed Tryz.underlying9
theorem zero5 (w:World):(zeroValue 3).run Tryz.prog w = .ok (.int .i64 0) w:=by kernel_rfl
def Kem (w:World) (b:Nat) (D:DataW Unit) (l:List Txt):Prop:=w.ownsMap Tryz.prog 9 (plainElem Tryz.prog 3) b l.length D∧∀x:Txt,Maps.has D (.string x)=true↔x∈l
theorem Kem.put {w w':World} {b:Nat} {D:DataW Unit} {l:List Txt} {x:Txt} {d:DataW Unit} (h:Kem w b D l) (hown:w'.ownsMap Tryz.prog 9 (plainElem Tryz.prog 3) b (l.length+1) (D.put (.string x) d)):Kem w' b (D.put (.string x) d) (l ++ [x]):=by
 refine ⟨by rw[Jd];exact hown,fun y=>?_⟩
 by_cases e:y=x
 ·subst e;rw[has_put_same (k:=.string y) (h.1.tidy law5).isMap trivial];simp
 ·rw[has_put_other (by intro h;injection h with h;exact e h),h.2 y];simp[e]
theorem Qiq {D:DataW Unit} {w:World} {b n:Nat} {l ss:List Txt} (hown:w.ownsMap Tryz.prog 9 (plainElem Tryz.prog 3) b n D) (hk:∀x:Txt,Maps.has D (.string x)=true↔x∈l) (hp:ss.Perm (strKeys D)):IsTab l (ss.mergeSort fun x y=>decide (x≤y)):=by
 obtain ⟨es,rfl,hpw⟩:=hown.tidy law5;obtain ⟨es',e',hko⟩:=hown.keysOf;injection e' with e';subst e'
 have hstr:∀p∈es,∃x,p.1 = .string x:=fun p hp=>by
  obtain ⟨v,hv⟩:=hko p hp;obtain ⟨x,_,hx,_⟩:=Maps.keyOf_str Tryz.underlying9 hv;exact ⟨x,hx⟩
 have hnd:(strKeys (.map es)).Nodup:=by
  show (es.map fun p=>strOf p.1).Nodup
  refine List.pairwise_map.2 (hpw.imp_of_mem fun {p q} hp' hq' hne e=>hne ?_);obtain ⟨a,ha⟩:=hstr p hp';obtain ⟨b,hb⟩:=hstr q hq';rw[ha,hb] at e ⊢;exact congrArg _ e
 have hmem:∀x,x∈strKeys (.map es)↔x∈l:=by
  intro x;rw[←hk x,has_eq,List.any_eq_true];show x∈es.map (fun p=>strOf p.1)↔_
  rw[List.mem_map];constructor
  ·rintro ⟨p,hp,rfl⟩;obtain ⟨a,ha⟩:=hstr p hp;exact ⟨p,hp,by rw[ha];simp[strOf,Lit.sameKey]⟩
  ·rintro ⟨p,hp,e⟩;obtain ⟨a,ha⟩:=hstr p hp;rw[ha] at e;exact ⟨p,hp,by rw[ha];simpa[strOf,Lit.sameKey] using e⟩
 have hsorted:(ss.mergeSort fun x y=>decide (x≤y)).Pairwise (fun a b=>a≤b):=by
  have:=List.pairwise_mergeSort (le:=fun x y:Txt=>decide (x≤y)) (by intro a b c;simp;exact List.le_trans) (by intro a b;simp;exact List.le_total a b) ss;simpa using this
 have hperm:=(List.mergeSort_perm ss fun x y=>decide (x≤y)).trans hp;have hnd':=(hperm.nodup_iff).2 hnd;refine ⟨?_,fun x=>?_⟩
 ·unfold Asc;refine (hsorted.and hnd').imp ?_;rintro a b ⟨h1,h2⟩;exact Klr h1 (Ne.symm h2)
 ·rw[←hmem x];exact hperm.mem_iff
theorem Kem.below {w w':World} {b:Nat} {D:DataW Unit} {l:List Txt} (h:Kem w b D l) (hb:Below w.heap.size w w'):Kem w' b D l:=
 ⟨h.1.kept (row:=none) ⟨hb.os,hb.tape,hb.output,hb.size,fun k hk _=>hb.block k hk⟩ (by simp),h.2⟩
theorem Krd {w w0 w':World} {B b:Nat} (h:Below B w w0) (hg:w0.grownBy w' (some b)) (hb:B≤b) (hB:B≤w0.heap.size):Below B w w':=
 h.trans ⟨hg.os,hg.tape,hg.output,hg.size,fun k hk=>hg.block k (by omega) (fun e=>by injection e with e;omega)⟩
theorem Ksy (L:List (List Lb)) (A:Option Addr) (n c:Nat) (w:World) (hS:Sets w A n L) (hn:n≤1099511627776) (hall:(allT L).length≤1099511627776) (hz:∀x∈allT L,x.length≤1099511627776) :
  Calls Tryz.prog 27 #[.slice A n c] w (OfOut w (allT L)):=by
 have hmm:=@run_makeMap Tryz.prog;have hL:=hS.len;have HL:=Jh hL;have HZ:=Jh hz;clear hL hz;go_enter Tryz.func27,Tryz.ntmps27
 go_upto_block 0 with fail
 go_cut [3] (fun s3 wz=>∃D,s3 = .map (some w.heap.size)∧Kem wz w.heap.size D (allT L)∧Below w.heap.size w wz)
 case first=>
  go_wp2_with fail
  go_loopg [11] n (fun g s11 wr=>∃(i:Nat) (D:DataW Unit),i+g=n∧s11 = .int .i64 (i:Int)∧Kem wr w.heap.size D (allT (L.take i))∧Below w.heap.size w wr)
  case atStart=>exact ⟨0,_,by omega,rfl,⟨World.ownsMap_made _ _ _ _,fun x=>by simp[allT,Maps.has]⟩,(Below.refl _ _).alloc (Nat.le_refl _) _⟩
  case round=>
   obtain ⟨i,D,hig,rfl,hkm,hB⟩:=hrel;have HIG:=Jh hig;clear hig
   by_cases hi:i < n
   ·have el:decide ((i:Int) < (n:Int))=true:=by simp;omega
    have el':decide (i < n)=true:=by simp;omega
    have hiL:i < L.length:=by have:=HL.out;omega
    obtain ⟨b,off,C,m,d,rfl,hbl,hcell,hE,hmd⟩:=hS.at_ hi;have hcr:=(hB.cell (p:=⟨b,off+i,none⟩) hbl).trans hcell;have htl:=Kkg (L:=L) i;have htk:=Qdq hiL;have hpart:=Qdp hiL;have hmem:=fun k hk=>Qhg (L:=L) (i:=i) (k:=k) hiL hk
    obtain ⟨l,hl⟩:∃l,L[i]! = l:=⟨_,rfl⟩;rw[hl] at hE htk hpart hmem;have hll:=hE.len;rw[Kgp,hll] at hpart
    have hsum:(allT (L.take i)).length+2*m≤1099511627776:=by
     have h1:=Kkg (L:=L) (i+1);rw[htk,Jd,Kgp,hll] at h1;omega
    obtain ⟨T,hT⟩:∃T,allT (L.take i)=T:=⟨_,rfl⟩;rw[hT] at hkm htk hsum;have HTK:=Jh htk;have HLL:=Jh hll;have HMEM:=Jh hmem;clear hcell htl htk hmem hl hll hT hiL;go_upto_block 1 with fail
    go_cut [] (fun wz=>∃D,Kem wz w.heap.size D (T++texts l)∧Below w.heap.size w wz)
    case first=>
     go_wp2_with fail
     go_loopg [17] m (fun g s17 wz=>∃(k:Nat) (D:DataW Unit),k+g=m∧s17 = .int .i64 (k:Int)∧Kem wz w.heap.size D (T++texts (l.take k))∧Below w.heap.size w wz)
     case atStart=>exact ⟨0,D,by omega,rfl,by simpa[texts] using hkm,hB⟩
     case round=>
      obtain ⟨k,D,hkg,rfl,hkm,hB⟩:=hrel;have HKG:=Jh hkg;clear hkg
      by_cases hk:k < m
      ·have ek:decide ((k:Int) < (m:Int))=true:=by simp;omega
       have ek':decide (k < m)=true:=by simp;omega
       have hkl:k < l.length:=by have:=HLL.out;omega
       obtain ⟨bb,oo,rfl,_,_⟩:=hE.2 (by omega);obtain ⟨hbl2,c0,c1⟩:=Kce hE (by omega) hB k hkl;obtain ⟨hm1,hm2⟩:=HMEM.out k hkl;have z1:=HZ.out _ hm1;have z2:=HZ.out _ hm2;have htk:=Qde hkl;obtain ⟨x,hx⟩:∃x,l[k]! = x:=⟨_,rfl⟩;rw[hx] at c0 c1 z1 z2 htk;obtain ⟨N,hN⟩:∃N:ByteArray,(⟨x.n.toArray⟩:ByteArray)=N:=⟨_,rfl⟩;obtain ⟨V,hV⟩:∃N:ByteArray,(⟨x.v.toArray⟩:ByteArray)=N:=⟨_,rfl⟩;rw[hN] at c0;rw[hV] at c1;have hNn:N.data.toList=x.n:=by rw[←hN]
       have hVv:V.data.toList=x.v:=by rw[←hV]
       have hNz:N.size≤maxLen:=by rw[←Kag,hNn];unfold maxLen;omega
       have hVz:V.size≤maxLen:=by rw[←Kag,hVv];unfold maxLen;omega
       have kN:=Go.WideMaps.keyOf_string_mk (P:=Tryz.prog) Tryz.underlying9 hNz;have kV:=Go.WideMaps.keyOf_string_mk (P:=Tryz.prog) Tryz.underlying9 hVz;rw[hNn] at kN;rw[hVv] at kV
       have hUl:(T++texts (l.take k)).length+2≤1099511627776:=by
        rw[Jd,Kgp,List.length_take];omega
       obtain ⟨U,hU⟩:∃U,T++texts (l.take k)=U:=⟨_,rfl⟩;have hnext:T++texts (l.take (k+1))=U ++ [x.n] ++ [x.v]:=by rw[htk,←hU];simp
       rw[hU] at hkm hUl;have HNEXT:=Jh hnext;have KN:=Jh kN;have KV:=Jh kV;clear hx hN hV hNn hVv hNz hVz kN kV hU hnext htk hm1 hm2 z1 z2;go_upto_region 8 with fail
       have hB1:Below w.heap.size w (wr.alloc (.cells #[.string N,.string V] 106)):=hB.alloc hB.size _;have hq:Blk (wr.alloc (.cells #[.string N,.string V] 106)) wr.heap.size 106 #[.string N,.string V]:=Blk.new _ _ _;have hkm1:Kem (wr.alloc (.cells #[.string N,.string V] 106)) w.heap.size D U:=hkm.below ((Below.refl _ _).alloc (Nat.le_refl _) _);have hqne:w.heap.size≠wr.heap.size:=by have:=hkm.1.lt;omega
       obtain ⟨v1,hv1⟩:∃w1,wr.alloc (.cells #[.string N,.string V] 106)=w1:=⟨_,rfl⟩;obtain ⟨q,hqq⟩:∃p,wr.heap.size=p:=⟨_,rfl⟩;rw[hv1] at hB1 hq hkm1 ⊢;rw[hqq] at hq hqne ⊢;clear hv1 hqq c0 c1 hB hkm;have q0:_=some (Value.string N):=hq.cell 0;have q1:_=some (Value.string V):=hq.cell 1;go_wp2_with (at_lookup;refine wpList_lookup_own_int _ rfl _ _ 124 rfl 9 3 .i64 law5 Tryz.underlying124 Tryz.underlying3 (zero5 _) w.heap.size U.length D rfl hkm1.1 _ _ rfl KN.out ?_)
       intro cn _ hwc;go_wp2_with (at_mapUpdate;refine wpList_mapUpdate_own _ rfl _ _ _ 124 rfl 9 3 law5 Tryz.underlying124 _ w.heap.size U.length D rfl hkm1.1 (by unfold maxLen;omega) _ _ _ rfl rfl KN.out _ [] (plainElem_int Tryz.underlying3 (wrap64_wf _)) ?_)
       intro v2 hown2 hgrow2;have hkm2:=hkm1.put hown2;have hq2:=hq.grown hgrow2 (by simpa using Ne.symm hqne);have hB2:=Krd hB1 hgrow2 (Nat.le_refl _) hB1.size;have q1':_=some (Value.string V):=hq2.cell 1;clear hown2 hgrow2 hkm1 q0 q1 hq hB1;go_wp2_with (at_lookup;refine wpList_lookup_own_int _ rfl _ _ 124 rfl 9 3 .i64 law5 Tryz.underlying124 Tryz.underlying3 (zero5 _) w.heap.size (U ++ [x.n]).length _ rfl hkm2.1 _ _ rfl KV.out ?_)
       intro cv _ hwv;go_wp2_with (at_mapUpdate;refine wpList_mapUpdate_own _ rfl _ _ _ 124 rfl 9 3 law5 Tryz.underlying124 _ w.heap.size (U ++ [x.n]).length _ rfl hkm2.1 (by unfold maxLen;simp;omega) _ _ _ rfl rfl KV.out _ [] (plainElem_int Tryz.underlying3 (wrap64_wf _)) ?_)
       intro v3 hown3 hgrow3;have hkm3:=hkm2.put (by rw[Jd];exact hown3);have hB3:=Krd hB2 hgrow3 (Nat.le_refl _) hB2.size;clear hown3 hgrow3 hkm2 q1' hq2 hB2;go_wp2_with fail
       go_roundg (gk - 1)
       case measure=>have:=HKG.out;omega
       case rel=>exact ⟨k+1,_,by have:=HKG.out;omega,by go_num,by rw[HNEXT.out];exact hkm3,hB3⟩
      ·have ek:decide ((k:Int) < (m:Int))=false:=by simp;omega
       have ek':decide (k < m)=false:=by simp;omega
       have htk:l.take k=l:=List.take_of_length_le (by have:=HLL.out;omega);rw[htk] at hkm;clear htk;go_wp2_with fail
       go_meet
       exact ⟨D,hkm,hB⟩
    case rest=>
     obtain ⟨D',hkm',hB'⟩:=hcut;obtain ⟨wx,rfl⟩:∃x,x=wc:=⟨_,rfl⟩;go_wp2_with fail
     go_roundg (gk - 1)
     case measure=>have:=HIG.out;omega
     case rel=>exact ⟨i+1,D',by have:=HIG.out;omega,by go_num,by rw[HTK.out];exact hkm',hB'⟩
   ·have el:decide ((i:Int) < (n:Int))=false:=by simp;omega
    have el':decide (i < n)=false:=by simp;omega
    have htk:L.take i=L:=List.take_of_length_le (by have:=HL.out;omega);rw[htk] at hkm;clear htk;go_wp2_with fail
    go_meet
    exact ⟨D,rfl,hkm,hB⟩
 case rest=>
  obtain ⟨D,rfl,hkm,hB⟩:=hcut;obtain ⟨w1,rfl⟩:∃x,x=wc:=⟨_,rfl⟩;have hkeys:=callsIn_wide.1 (Tryz.maps_Keys_81 (some w.heap.size) w1)
  have hsz:Maps.size D≤1099511627776:=by
   obtain ⟨es,clock,_,_,hs,hD⟩:=hkm.1;rw[hD,size_eq,length_sorted,List.length_map,Array.length_toList];omega
  have hsorted:=callsIn_wide.1 (Tryz.slices_Sorted_keys_73_81 w.heap.size (allT L).length D _ w1 hkm.1 (by unfold maxLen;omega) (by omega));have HK:=Jh hkeys;have HSO:=Jh hsorted;clear hkeys hsorted;go_wp2_with fail
  refine HK.out.mono ?_;rintro e w2 ⟨rfl,rfl⟩;go_wp2_with fail
  refine HSO.out.mono ?_;rintro e w3 ⟨v,ss,rfl,hP,hrow,_,hb3⟩;have htab:=Qiq hkm.1 hkm.2 hP;have hB2:Below w.heap.size w (w1.alloc (.cells #[.map (some w.heap.size)] 124)):=hB.alloc hB.size _;have hB3:=then_ hB2 hb3
  have hlen:(ss.mergeSort fun x y=>decide (x≤y)).length≤(allT L).length:=by
   rw[List.length_mergeSort,hP.length_eq];obtain ⟨es,clock,_,_,hs,hD⟩:=hkm.1;rw[hD];show (List.map _ _).length≤_
   rw[List.length_map,length_sorted,List.length_map,Array.length_toList];exact hs
  have hml:(ss.mergeSort fun x y=>decide (x≤y)).length=ss.length:=List.length_mergeSort _;obtain ⟨z,hz⟩:∃z,ss.mergeSort (fun x y=>decide (x≤y))=z:=⟨_,rfl⟩;rw[hz] at htab hlen hml hrow;rw[←hml] at hrow;obtain ⟨A',c',rfl,hs3,_,hc3⟩:=Strs.of_own hrow rfl;obtain ⟨q,hq⟩:∃m,z.length=m:=⟨_,rfl⟩;rw[hq] at hs3 hc3 ⊢;have HLEN:=Jh hlen;clear hz hml hrow hkm hB hb3 hB2 hP hsz hq hlen;go_wp2_with fail
  go_ret
  exact ⟨_,z,rfl,⟨_,q,c',.inr ⟨_,rfl,Blk.new _ _ _⟩,hs3.below ((Below.refl _ _).alloc (Nat.le_refl _) _),hc3⟩,htab,HLEN.out,hB3.alloc hB3.size _,hB3.size⟩
end
section
structure Wnd where
 start:Int
 count:Int
 sum:Nat
 min:Nat
 max:Nat
 last:Nat
def wnd0:Wnd:=⟨0,0,0,0,0,0⟩
def ruAt (s:List UInt8) (i:Nat):Option (Nat×Nat):=match readU (s.drop i) with
 | .ok (v,k)=>some (v,i+k)
 | .error _=>none
theorem ru_of {s r:List UInt8} {i v:Nat} (hv:v < 2 ^ 64) (h:s.drop i=uintT v++r):ruAt s i=some (v,i+(uintT v).length)∧s.drop (i+(uintT v).length)=r:=by
 refine ⟨?_,?_⟩
 ·unfold ruAt;rw[h,Kev hv]
 ·rw[←List.drop_drop,h,List.drop_left]
def cmpL:List Lb→List Lb→Int
 | [],[]=>0
 | [],_ :: _=>-1
 | _ :: _,[]=>1
 | x :: a,y :: b=>if x.n < y.n then -1 else if y.n < x.n then 1 else if x.v < y.v then -1 else if y.v < x.v then 1 else cmpL a b
theorem Kgc {a b:Txt} (h1:¬a < b) (h2:¬b < a):a=b:=List.le_antisymm (List.not_lt.1 h2) (List.not_lt.1 h1)
theorem Kif:∀a:List Lb,cmpL a a=0
 | []=>rfl
 | x :: a=>by
  have h1:¬x.n < x.n:=List.lt_irrefl _;have h2:¬x.v < x.v:=List.lt_irrefl _;rw[cmpL,if_neg h1,if_neg h1,if_neg h2,if_neg h2,Kif a]
theorem Kgg:∀{a b:List Lb},cmpL a b=0→a=b
 | [],[],_=>rfl
 | [],_ :: _,h=>by simp[cmpL] at h
 | _ :: _,[],h=>by simp[cmpL] at h
 | x :: a,y :: b,h=>by
  rw[cmpL] at h
  split at h
  ·simp at h
  ·rename_i h1
   split at h
   ·simp at h
   ·rename_i h2
    split at h
    ·simp at h
    ·rename_i h3
     split at h
     ·simp at h
     ·rename_i h4
      have e1:=Kgc h1 h2;have e2:=Kgc h3 h4;rw[Kgg h];cases x;cases y
      simp_all
theorem Kfi:∀a b:List Lb,cmpL a b = -cmpL b a
 | [],[]=>rfl
 | [],_ :: _=>rfl
 | _ :: _,[]=>rfl
 | x :: a,y :: b=>by
  rw[cmpL,cmpL]
  by_cases h1:x.n < y.n
  ·have h2:¬y.n < x.n:=List.lt_asymm h1;rw[if_pos h1,if_neg h2,if_pos h1]
  ·rw[if_neg h1]
   by_cases h2:y.n < x.n
   ·rw[if_pos h2,if_pos h2];rfl
   ·rw[if_neg h2,if_neg h2,if_neg h1]
    by_cases h3:x.v < y.v
    ·have h4:¬y.v < x.v:=List.lt_asymm h3;rw[if_pos h3,if_neg h4,if_pos h3]
    ·rw[if_neg h3]
     by_cases h4:y.v < x.v
     ·rw[if_pos h4,if_pos h4];rfl
     ·rw[if_neg h4,if_neg h4,if_neg h3,Kfi a b]
def ltB (x y:Lb):Prop:=x.n < y.n∨(x.n=y.n∧x.v < y.v)
theorem Qfh {x y z:Lb} (h1:ltB x y) (h2:ltB y z):ltB x z:=by
 rcases h1 with h1 | ⟨e1,h1⟩
 ·rcases h2 with h2 | ⟨e2,_⟩
  ·exact .inl (List.lt_trans h1 h2)
  ·exact .inl (e2▸h1)
 ·rcases h2 with h2 | ⟨e2,h2⟩
  ·exact .inl (e1▸h2)
  ·exact .inr ⟨e1.trans e2,List.lt_trans h1 h2⟩
theorem Qhq {x y:Lb} {a b:List Lb}:cmpL (x :: a) (y :: b) < 0↔ltB x y∨(x=y∧cmpL a b < 0):=by
 rw[cmpL];unfold ltB
 by_cases h1:x.n < y.n
 ·rw[if_pos h1];exact ⟨fun _=>.inl (.inl h1),fun _=>by decide⟩
 ·rw[if_neg h1]
  by_cases h2:y.n < x.n
  ·rw[if_pos h2];refine ⟨fun h=>by simp at h,?_⟩;rintro ((h | ⟨e,_⟩) | ⟨e,_⟩)
   ·exact absurd h h1
   ·rw[e] at h2;exact absurd h2 (List.lt_irrefl _)
   ·rw[e] at h2;exact absurd h2 (List.lt_irrefl _)
  ·rw[if_neg h2];have en:=Kgc h1 h2
   by_cases h3:x.v < y.v
   ·rw[if_pos h3];exact ⟨fun _=>.inl (.inr ⟨en,h3⟩),fun _=>by decide⟩
   ·rw[if_neg h3]
    by_cases h4:y.v < x.v
    ·rw[if_pos h4];refine ⟨fun h=>by simp at h,?_⟩;rintro ((h | ⟨_,h⟩) | ⟨e,_⟩)
     ·exact absurd h h1
     ·exact absurd h h3
     ·rw[e] at h4;exact absurd h4 (List.lt_irrefl _)
    ·rw[if_neg h4];have ev:=Kgc h3 h4;have exy:x=y:=by cases x;cases y;simp_all
     constructor
     ·exact fun h=>.inr ⟨exy,h⟩
     ·rintro ((h | ⟨_,h⟩) | ⟨_,h⟩)
      ·exact absurd h h1
      ·exact absurd h h3
      ·exact h
theorem Kgw:∀{a b c:List Lb},cmpL a b < 0→cmpL b c < 0→cmpL a c < 0
 | [],[],_,h,_=>by simp[cmpL] at h
 | [],_ :: _,[],_,h=>by simp[cmpL] at h
 | [],_ :: _,_ :: _,_,_=>by simp[cmpL]
 | _ :: _,[],_,h,_=>by simp[cmpL] at h
 | _ :: _,_ :: _,[],_,h=>by simp[cmpL] at h
 | x :: a,y :: b,z :: c,h1,h2=>by
  rw[Qhq] at h1 h2 ⊢;rcases h1 with h1 | ⟨e1,h1⟩
  ·rcases h2 with h2 | ⟨e2,_⟩
   ·exact .inl (Qfh h1 h2)
   ·exact .inl (e2▸h1)
  ·rcases h2 with h2 | ⟨e2,h2⟩
   ·exact .inl (e1▸h2)
   ·exact .inr ⟨e1.trans e2,Kgw h1 h2⟩
structure Ser where
 labels:List Lb
 samples:List Smp
 windows:List Wnd
structure Cont where
 res:Int
 frm:Int
 to_:Int
 series:List Ser
end
section
open Go.RowKit
def Kbw (x:Smp):List Value:=[.int .i64 x.t,.int .u64 (x.v:Int)]
instance smpIn:Inhabited Smp:=⟨⟨0,0⟩⟩
instance wndIn:Inhabited Wnd:=⟨wnd0⟩
instance serIn:Inhabited Ser:=⟨⟨[],[],[]⟩⟩
structure Hd3 where
 l:Hd
 s:Hd
 w:Hd
instance hd3In:Inhabited Hd3:=⟨⟨default,default,default⟩⟩
section
variable {w w' : World} {A : Option Addr} {n : Nat} {L : List Ser}
end
end
section
open Go.RowKit
attribute [local go_sem ↓] Go.wp_at_zero Go.wp_at_succ
attribute [local go_sem] Later.cell
theorem Qjd {w:World} {B n:Nat} {v:Value} {s:List UInt8} (h:w.ownsRow B 5 1 v n (Lib.byteCells s)) (hn:s.length=n):(convert 72 9 v).run Tryz.prog w = .ok (.string ⟨s.toArray⟩) w:=by
 subst hn
 by_cases h0:s = []
 ·subst h0;rcases h.2 with ⟨rfl,_⟩ | ⟨g',cap,cur,rfl,_⟩
  ·kernel_rfl
  ·kernel_rfl
 ·obtain ⟨a,cap,rfl,hc⟩:=Kni.text (l:=s) h h0;exact hc
theorem Kxk (B b:Nat) (T:TypeId) (rest:List Value) (l:List Bool) (w:World) (h:WrAt B b T rest l w) :
  Calls Tryz.prog 151 #[.pointer (some ⟨b,0,none⟩)] w fun e w'=>e = .returned (.string ⟨(packB l).toArray⟩)∧w=w':=by
 obtain ⟨h0,v,h1,h2,h3⟩:=h;have hc:=Qjd h2 (Kfh l).len;have c0:w.cell? ⟨b,0,none⟩=some v:=h1.cell 0;obtain ⟨S,hS⟩:∃S:ByteArray,(⟨(packB l).toArray⟩:ByteArray)=S:=⟨_,rfl⟩;rw[hS] at hc ⊢;clear h1 h2 h3 hS;go_enter Tryz.func151,Tryz.ntmps151
 go_wp2_with fail
 go_ret
 exact ⟨rfl,rfl⟩
theorem Kxp (B b:Nat) (c:Cst) (l:List Bool) (w:World) (h:ChAt B b c l w) (hn:c.n≤120) (hlen:l.length≤2000000) (hB:B≤w.heap.size) :
  Calls Tryz.prog 91 #[.pointer (some ⟨b,0,none⟩)] w fun e w'=>e = .returned (.string ⟨(uintT c.n++packB l).toArray⟩)∧Below w.heap.size w w':=by
 have c2:=h.cells.1;have hbl:=h.lt;have H:=Lib.hid h;obtain ⟨n,hn2⟩:∃n,c.n=n:=⟨_,rfl⟩;rw[hn2] at c2 hn ⊢;clear h hn2;have hu:=fun w=>Kcr n (by omega) w
 obtain ⟨U,hU⟩:∃U:ByteArray,(⟨(uintT n).toArray⟩:ByteArray)=U:=⟨_,rfl⟩;obtain ⟨V,hV⟩:∃V:ByteArray,(⟨(packB l).toArray⟩:ByteArray)=V:=⟨_,rfl⟩;have hUz:U.size≤11:=by rw[←hU];simp only[ByteArray.size,List.size_toArray];exact (Kam n).2
 have hVz:V.size≤2000000:=by rw[←hV];simp only[ByteArray.size,List.size_toArray];rw[(Kfh l).len];omega
 have hUV:U++V=(⟨(uintT n++packB l).toArray⟩:ByteArray):=by rw[←hU,←hV];apply ByteArray.ext;simp[ByteArray.data_append]
 have HW:=Lib.hid (fun (w':World) (hb:Below w.heap.size w w')=>Kxk B b _ _ l w' (H.out.far hb));simp only[hU] at hu;rw[hV] at HW;have HU:=Lib.hid hu;have HUV:=Lib.hid hUV;clear hu hU hV hUV;go_enter Tryz.func91,Tryz.ntmps91
 go_upto_region 3 with fail
 refine Kab (by kernel_rfl) (by kernel_rfl) ?_
 repeat (go_big_quiet_step ((first | (go_at_call 31;exact Kbo _ (HU.out _)) | (go_at_call 151;exact Qco _ (HW.out _ (Later.h _))))))
 refine wpQuiet_nil ?_;rintro w2 ⟨⟨_,hb2⟩,rfl⟩;go_wp2_with fail
 go_ret
 rw[HUV.out];exact ⟨rfl,hb2⟩
end
section
open Go.RowKit
open Lib renaming hid → Jh
attribute [local go_sem ↓] Go.wp_at_zero Go.wp_at_succ
attribute [local go_sem] Later.cell
def stW:Cst→List Smp→Cst
 | c,[]=>c
 | c,s :: l=>stW (Kbj c s).2 l
def encE:Cst→List Smp→Nat
 | _,[]=>0
 | c,s :: l=>if stepE c s≠0 then stepE c s else encE (Kbj c s).2 l
theorem Kkb:∀(l:List Smp) (c:Cst) (s:Smp),stW c (l ++ [s])=(Kbj (stW c l) s).2
 | [],_,_=>rfl
 | x :: l,c,s=>Kkb l (Kbj c x).2 s
theorem Kgt:∀(l:List Smp) (c:Cst) (s:Smp),Kbp c (l ++ [s])=Kbp c l++(Kbj (stW c l) s).1
 | [],c,s=>by simp[Kbp,stW]
 | x :: l,c,s=>by rw[List.cons_append,Kbp,Kbp,Kgt l,stW,List.append_assoc]
theorem stW_n:∀(l:List Smp) (c:Cst),(stW c l).n=c.n+l.length
 | [],c=>rfl
 | x :: l,c=>by rw[stW,stW_n l,(Kgo c x).1,List.length_cons];omega
theorem Qbi (c:Cst) (h:c.Ok) (x:Nat):(Kbh c x).1.length≤80:=by
 have:=h.2;unfold Kbh
 repeat' split
 all_goals simp[Kaq]
 all_goals omega
theorem Qcu (c:Cst) (h:c.Ok) (s:Smp):(Kbj c s).1.length≤150:=by
 unfold Kbj
 split
 ·simp[Kaq]
 ·have h1:=Koj (s.t - c.last.t - c.step);have h2:=Qbi { c with step:=s.t - c.last.t } h (s.v ^^^ c.last.v);simp only[List.length_append];omega
theorem Kws {c:Cst} {s:Smp} (h:stepE c s=0):0≤s.t∧s.t≤1125899906842624∧(c.n=0∨c.last.t < s.t)∧c.n≠120:=by
 unfold stepE at h
 split at h
 ·omega
 ·split at h
  ·omega
  ·split at h
   ·omega
   ·exact ⟨by omega,by omega,by omega,by omega⟩
def prevB (prev:Option Smp) (x:Smp):Bool:=match prev with | none=>true | some y=>decide (y.t < x.t)
theorem Krl (prev:Option Smp) (n:Nat) (x:Smp) (l:List Smp):fitC prev n (x :: l)=(decide (0≤x.t) && decide (x.t≤1125899906842624) && prevB prev x && decide (n < 120) && fitC (some x) (n+1) l):=by cases prev <;> rfl
theorem Kuw:∀(l:List Smp) (c:Cst) (prev:Option Smp),c.n≤120→(∀p,prev=some p→c.n≠0∧c.last=p)→(prev=none→c.n=0)→(encE c l=0↔fitC prev c.n l=true)
 | [],c,prev,_,_,_=>by cases prev <;> simp[encE,fitC]
 | x :: l,c,prev,hn,h1,h2=>by
  have ih:=fun h=>Kuw l (Kbj c x).2 (some x) h (fun p hp=>by injection hp with hp;subst hp;exact ⟨by rw[(Kgo c x).1];omega,(Kgo c x).2⟩) (fun h=>by cases h)
  rw[(Kgo c x).1] at ih;rw[encE]
  by_cases h0:stepE c x=0
  ·rw[if_neg (by simp[h0])];obtain ⟨a1,a2,a3,a4⟩:=Kws h0;rw[ih (by omega)]
   have hp:prevB prev x=true:=by
    cases prev with
    | none=>rfl
    | some p=>obtain ⟨q1,q2⟩:=h1 p rfl;subst q2;exact decide_eq_true (by omega)
   rw[Krl,hp,decide_eq_true a1,decide_eq_true a2,decide_eq_true (show c.n < 120 by omega)];simp
  ·rw[if_pos h0];constructor
   ·intro h;exact absurd h h0
   ·intro h;exfalso;apply h0;rw[Krl] at h;simp only[Bool.and_eq_true,decide_eq_true_eq] at h;obtain ⟨⟨⟨⟨a1,a2⟩,a3⟩,a4⟩,_⟩:=h;unfold stepE;rw[if_neg (by omega),if_neg,if_neg (by omega)];rintro ⟨q1,q2⟩
    cases prev with
    | none=>have:=h2 rfl;omega
    | some p=>
     rw[(h1 p rfl).2] at q2;have a3':p.t < x.t:=of_decide_eq_true a3;omega
theorem Kkv (l:List Smp):encE cst0 l=0↔fitC none 0 l=true:=Kuw l cst0 none (by decide) (fun p h=>by cases h) (fun _=>rfl)
def Kdr (l:List Smp):List UInt8×Nat:=if encE cst0 l=0 then (Kbb l,0) else ([],encE cst0 l)
theorem Kki (l:List Smp) (A:Option Addr) (n cap:Nat) (w:World) (hE:Elems w w.heap.size 2 Kbw A n l) (hn:n≤140737488351232) (hv:∀x∈l,x.v < 2 ^ 64) (hT:DbTab w) :
  Calls Tryz.prog 36 #[.slice A n cap] w fun e w'=>e = .returned (.tuple #[.string ⟨(Kdr l).1.toArray⟩,.int .i64 ((Kdr l).2:Nat)])∧Below w.heap.size w w':=by
 have hlen:=hE.len;have HE:=Jh hE;have HV:=Jh hv;have hTB:DbAt w.heap.size w:=⟨hT,Kah (hT 0 (by decide))⟩;have HTB:=Jh hTB;obtain ⟨E,hEE⟩:∃E,encE cst0 l=E:=⟨_,rfl⟩;have HEE:=Jh hEE;have HLEN:=Jh hlen
 have h0:ChAt w.heap.size w.heap.size cst0 [] (w.alloc (.cells #[.slice none 0 0,.int .i64 0,.int .i64 0,.int .i64 0,.int .u64 0,.int .i64 0,.int .i64 0,.int .i64 0,.bool false] 181)):=
  ⟨Nat.le_refl _,.slice none 0 0,Blk.new _ _ _,World.ownsRow_nil _ _ _ _,by simp[Value.ownBlock]⟩
 have hb0:Below w.heap.size w (w.alloc (.cells #[.slice none 0 0,.int .i64 0,.int .i64 0,.int .i64 0,.int .u64 0,.int .i64 0,.int .i64 0,.int .i64 0,.bool false] 181)):=(Below.refl _ _).alloc (Nat.le_refl _) _;clear hE hv hTB hT hEE hlen;go_enter Tryz.func36,Tryz.ntmps36
 go_upto_region 2 with fail
 obtain ⟨w1,hw1⟩:∃w1,w.alloc (.cells #[.slice none 0 0,.int .i64 0,.int .i64 0,.int .i64 0,.int .u64 0,.int .i64 0,.int .i64 0,.int .i64 0,.bool false] 181)=w1:=⟨_,rfl⟩;rw[hw1] at h0 hb0;rw[hw1];obtain ⟨B,hB⟩:∃B,w.heap.size=B:=⟨_,rfl⟩;rw[hB] at h0 hb0 HE HTB ⊢;have HB:=Jh hB;have H1:=Jh h0;have HB1:=Jh hb0;clear hw1 h0 hb0 hB;go_wp2_with fail
 go_loopg [10] n (fun g s10 wr=>∃i:Nat,i+g=n∧s10 = .int .i64 (i:Int)∧i≤120∧encE (stW cst0 (l.take i)) (l.drop i)=E∧(stW cst0 (l.take i)).Good∧(Kbp cst0 (l.take i)).length≤150*i∧ChAt B B (stW cst0 (l.take i)) (Kbp cst0 (l.take i)) wr∧Below B w wr)
 case atStart=>exact ⟨0,by omega,rfl,by omega,HEE.out,Cst.good0,by simp[Kbp],H1.out,HB1.out⟩
 case round=>
  obtain ⟨i,hi,rfl,h120,he,hg,hsl,hch,hb⟩:=hrel;have HI:=Jh hi;have HEI:=Jh he;have HG:=Jh hg;have HSL:=Jh hsl;have HCH:=Jh hch;have HBR:=Jh hb;have hBr:B≤wr.heap.size:=Nat.le_trans (by rw[HB.out];exact Nat.le_refl _) hb.size;clear he hg hsl hch hb
  by_cases hin:i < n
  ·have hil:i < l.length:=by have:=HLEN.out;omega
   obtain ⟨bk,off,rfl,hbk,hcell⟩:=HE.out.2 (by omega);have m0:wr.cell? ⟨bk,off+i*2,none⟩=some (.int .i64 l[i].t):=(HBR.out.cell (p:=⟨bk,off+i*2,none⟩) hbk).trans (by simpa using hcell i l[i] (List.getElem?_eq_getElem hil) 0 _ rfl);have m1:wr.cell? ⟨bk,off+i*2+1,none⟩=some (.int .u64 (l[i].v:Int)):=(HBR.out.cell (p:=⟨bk,off+i*2+1,none⟩) hbk).trans (by simpa using hcell i l[i] (List.getElem?_eq_getElem hil) 1 _ rfl);have hvi:=HV.out l[i] (List.getElem_mem hil);have hdr:l.drop i=l[i] :: l.drop (i+1):=List.drop_eq_getElem_cons hil;have htk:l.take (i+1)=l.take i ++ [l[i]]:=List.take_succ_eq_append_getElem hil;obtain ⟨x,hx⟩:∃x,l[i]=x:=⟨_,rfl⟩;rw[hx] at m0 m1 hvi hdr htk;have HDR:=Jh hdr;have HTK:=Jh htk
   have hnn:(stW cst0 (l.take i)).n=i:=by
    rw[stW_n,List.length_take];show 0+_=i
    omega
   obtain ⟨C,hC⟩:∃C,stW cst0 (l.take i)=C:=⟨_,rfl⟩;obtain ⟨L,hL⟩:∃L,Kbp cst0 (l.take i)=L:=⟨_,rfl⟩;rw[hC] at HEI HG HCH hnn;rw[hL] at HSL HCH;have HCC:=Jh hC;have HLL:=Jh hL;have HX:=Jh hx;have el:decide ((i:Int) < (n:Int))=true:=by simp;omega
   have el2:(i:Int) < (n:Int):=by omega
   clear hi hdr htk hC hL hx hcell;go_upto_region 5 with fail
   have ha:Below wr.heap.size wr (wr.alloc (.cells #[.int .i64 x.t,.int .u64 (x.v:Int)] 93)):=(Below.refl _ _).alloc (Nat.le_refl _) _;have hq:Blk (wr.alloc (.cells #[.int .i64 x.t,.int .u64 (x.v:Int)] 93)) wr.heap.size 93 #[.int .i64 x.t,.int .u64 (x.v:Int)]:=Blk.new _ _ _;obtain ⟨w2,hw2⟩:∃w2,wr.alloc (.cells #[.int .i64 x.t,.int .u64 (x.v:Int)] 93)=w2:=⟨_,rfl⟩;obtain ⟨q,hqq⟩:∃q,wr.heap.size=q:=⟨_,rfl⟩;rw[hw2] at ha hq;rw[hw2];rw[hqq] at hq;rw[hqq];have q0:w2.cell? ⟨q,0,none⟩=_:=hq.cell 0;have q1:w2.cell? ⟨q,1,none⟩=_:=hq.cell 1;have HCH2:=Jh (HCH.out.far ha);have HB2:=Jh (HBR.out.trans (ha.mono hBr));have hB2:B≤w2.heap.size:=Nat.le_trans hBr ha.size;have HAP:=Jh (Kud B B C L x w2 HCH2.out HG.out (by omega) hvi (by have:=HSL.out;omega) hB2 (HTB.out.below HB2.out));obtain ⟨se,hse⟩:∃se,stepE C x=se:=⟨_,rfl⟩;rw[hse] at HAP;have HSE:=Jh hse;have hei:=HEI.out;rw[HDR.out,encE,hse] at hei;have hse92:se≤92:=by (rw[←hse];unfold stepE;repeat' split);all_goals omega
   clear ha hq hw2 hqq hse;go_wp2_with fail
   refine HAP.out.mono ?_;rintro _ w3 ⟨rfl,h5,h6,_⟩;have H5:=Jh h5;have HB3:=Jh (HB2.out.trans h6);have hB3:B≤w3.heap.size:=Nat.le_trans hB2 h6.size;clear h5 h6 q0 q1
   by_cases hs0:se=0
   ·subst hs0;rw[if_neg (by simp)] at hei;have HEN:=Jh hei;clear hei;have hok:=Kws HSE.out;go_wp2_with fail
    go_roundg (gk - 1)
    case measure=>have:=HI.out;omega
    case rel=>
     refine ⟨i+1,by have:=HI.out;omega,by go_num,by have:=hok.2.2.2;omega,?_,?_,?_,?_,HB3.out⟩
     ·rw[HTK.out,Kkb,HCC.out];exact HEN.out
     ·rw[HTK.out,Kkb,HCC.out];exact Kmu HG.out ⟨hok.1,hok.2.1,hvi⟩
     ·rw[HTK.out,Kgt,HCC.out,HLL.out,List.length_append];have:=Qcu C HG.out.ok x;have:=HSL.out;omega
     ·rw[HTK.out,Kkb,Kgt,HCC.out,HLL.out];exact H5.out trivial
   ·rw[if_pos hs0] at hei;have e0:((se:Int) != 0)=true:=by simp;omega
    have HEN:=Jh hei;have HS0:=Jh hs0;clear hei;go_wp2_with fail
    go_ret2
    unfold Kdr;rw[if_neg (by rw[HEE.out,←HEN.out];exact HS0.out),HEE.out,←HEN.out];exact ⟨rfl,by rw[HB.out];exact HB3.out⟩
  ·have el:decide ((i:Int) < (n:Int))=false:=by simp;omega
   have hi3:i=n:=by have:=HI.out;omega
   subst hi3;have htk:l.take i=l:=List.take_of_length_le (by have:=HLEN.out;omega);have hdr:l.drop i = []:=List.drop_eq_nil_of_le (by have:=HLEN.out;omega)
   have hE0:E=0:=by
    have:=HEI.out;rw[hdr] at this;exact this.symm
   rw[htk] at HCH HSL HG
   have hnn:(stW cst0 l).n=i:=by
    rw[stW_n,HLEN.out];show 0+_=i
    omega
   have HBY:=Jh (Kxp B B _ _ wr HCH.out (by omega) (by have:=HSL.out;omega) hBr)
   have ho:Kdr l=(uintT i++packB (Kbp cst0 l),0):=by
    unfold Kdr;rw[if_pos (by rw[HEE.out,hE0]),Kbb,HLEN.out]
   rw[hnn] at HBY;have HO:=Jh ho;obtain ⟨S,hS⟩:∃S:ByteArray,(⟨(uintT i++packB (Kbp cst0 l)).toArray⟩:ByteArray)=S:=⟨_,rfl⟩;rw[hS] at HBY;have HS:=Jh hS;clear hnn ho hS htk hdr hE0;go_wp2_with fail
   refine HBY.out.mono ?_;rintro _ w3 ⟨rfl,h6⟩;go_wp2_with fail
   go_ret2
   rw[HO.out,←HS.out];exact ⟨rfl,by rw[HB.out];exact HBR.out.trans (h6.mono hBr)⟩
end
section
open Go.RowKit
attribute [local go_sem ↓] Go.wp_at_zero Go.wp_at_succ
attribute [local go_sem] Later.cell
def Kay (c:Nat):Ending:=.panicked [{ v:=.iface 23 (.int .i64 (c:Int)),recovered:=false }]
theorem Kae {P:Program} {fn:Func} {R:Ending→World→Prop} {ch:List PanicEntry} {a:Act} {w:World} (hd:a.defers = []) (h:R (.panicked ch) w):bodyPost P fn R (.panic ch) a w:=⟨hd,h⟩
theorem Kff (r:Value) (c:Nat) (w:World) :
  Calls Tryz.prog 246 #[r,.bool true,.int .i64 (c:Int)] w fun e w'=>e = .returned (.tuple #[])∧w=w':=by
 go_enter Tryz.func246,Tryz.ntmps246
 go_wp2
 go_end0
 exact ⟨rfl,rfl⟩
theorem Keo (r:Value) (c:Nat) (w:World) :
  Calls Tryz.prog 246 #[r,.bool false,.int .i64 (c:Int)] w fun e w'=>e=Kay c∧w=w':=by
 go_enter Tryz.func246,Tryz.ntmps246
 go_wp2
 exact Kae rfl ⟨rfl,rfl⟩
structure RdrAt (rd rb:Nat) (S:ByteArray) (i:Nat) (c:Cst) (w:World):Prop where
 r:Blk w rd 305 (.pointer (some ⟨rb,0,none⟩) :: .slice none 0 0 :: .int .i64 0 :: restC c).toArray
 b:Blk w rb 334 #[.string S,.int .i64 (i:Int)]
theorem RdrAt.ne {rd rb:Nat} {S:ByteArray} {i:Nat} {c:Cst} {w:World} (h:RdrAt rd rb S i c w):rd≠rb:=h.r.ne_ h.b (by decide)
theorem RdrAt.below {rd rb:Nat} {S:ByteArray} {i:Nat} {c:Cst} {w w':World} (h:RdrAt rd rb S i c w) (hb:Below w.heap.size w w'):RdrAt rd rb S i c w':=⟨h.r.below hb h.r.lt,h.b.below hb h.b.lt⟩
def RdO {α : Type} (rd rb:Nat) (S:ByteArray) (val:α→Value) (w:World) (r:Option (α×Cst×Nat)) (e:Ending) (w':World):Prop:=match r with
 | some (x,c,j)=>e = .returned (val x)∧RdrAt rd rb S j c w'∧j≤8*S.size∧Kept w.heap.size [rd,rb] w w'
 | none=>(∃f,f≠0∧e=Kay f)∧Kept w.heap.size [rd,rb] w w'
def u64V (v:Nat):Value:=.int .u64 (v:Int)
def bitsR (S:List UInt8) (n:Nat) (c:Cst) (i:Nat):Option (Nat×Cst×Nat):=match readN S i n with
 | none=>none
 | some (v,j)=>some (v,c,j)
theorem Kept.one {w w':World} {a b:Nat} (h:Kept w.heap.size [b] w w'):Kept w.heap.size [a,b] w w':=h.mono (Nat.le_refl _) (fun k _ hk=>by simp at hk ⊢;exact .inr hk)
theorem Qiv {S:ByteArray} {i n v j:Nat} (h:readN S.data.toList i n=some (v,j)):j≤8*S.size∧j=i+n:=by
 unfold readN at h
 split at h
 ·rename_i h1
  injection h with h;injection h with _ h;have:S.data.toList.length=S.size:=rfl;omega
 ·cases h
theorem Kbz (rd rb i n:Nat) (S:ByteArray) (c:Cst) (w:World) (h:RdrAt rd rb S i c w) (hn:n≤64) (hS:S.size≤140737488351232) (hi:i≤8*S.size) :
  Calls Tryz.prog 244 #[.pointer (some ⟨rd,0,none⟩),.int .i64 (n:Int)] w (RdO rd rb S u64V w (bitsR S.data.toList n c i)):=by
 have H:=Lib.hid h;have c0:w.cell? ⟨rd,0,none⟩=some (.pointer (some ⟨rb,0,none⟩)):=h.r.cell 0;obtain ⟨r,hr⟩:∃r,readN S.data.toList i n=r:=⟨_,rfl⟩;have HT:=Lib.hid (Qdd rb i n S r hr w h.b hn hS hi);have HR:=Lib.hid hr;clear h hr;go_enter Tryz.func244,Tryz.ntmps244
 go_wp2_with fail
 refine HT.out.mono ?_;intro e w2 ho
 cases r with
 | none=>
  obtain ⟨rfl,hb⟩:=ho;go_wp2_with fail
  refine (Keo _ 20 w2).mono ?_;rintro _ _ ⟨rfl,rfl⟩;unfold Kay;go_wp2_with fail
  refine Kae rfl ?_;unfold bitsR;rw[HR.out];exact ⟨⟨20,by decide,rfl⟩,Kept.of_below hb⟩
 | some vj=>
  obtain ⟨v,j⟩:=vj;obtain ⟨rfl,hb,hk⟩:=ho;have HB:=Lib.hid hb;have HK:=Lib.hid hk;clear hb hk;go_wp2_with fail
  refine (Kff _ 20 w2).mono ?_;rintro _ _ ⟨rfl,rfl⟩;go_wp2_with fail
  go_ret
  unfold bitsR;rw[HR.out];exact ⟨rfl,⟨H.out.r.kept HK.out H.out.r.lt (by simpa using H.out.ne),HB.out⟩,(Qiv HR.out).1,HK.out.one⟩
end
section
open Go.RowKit
section
variable {P : Program} {ops : Array Oper} {Q : Exit → Act → World → Prop} {md : Region.Mode} {S : World → Prop} {k : Nat}
def Kcs (P:Program) (md:Region.Mode) (ops:Array Oper) (Q:Exit→Act→World→Prop) (S:World→Prop) (k:Nat):Nat→Array Bool→Act→World→Prop
 | 0,L,a,w=>Region.ready md ops L = []∧Q .normal a w
 | f+1,L,a,w=>(Region.ready md ops L = []→Q .normal a w)∧∀i∈Region.ready md ops L,wpOp P ops Q i (fun a' w'=>((L.setIfInBounds i true).getD k false=false→S w')∧Kcs P md ops Q S k f (L.setIfInBounds i true) a' w') a w
theorem Kpz:∀(f:Nat) (L:Array Bool) (a:Act) (w:World),Kcs P md ops Q S k f L a w→wpAny P md ops Q f L a w
 | 0,_,_,_,h=>h
 | f+1,_,_,_,h=>⟨h.1,fun i hi=>wpOp_mono (fun a' w' h'=>Kpz f _ a' w' h'.2) (h.2 i hi)⟩
theorem Kxl {i:Nat} {oi:Oper} {v:Value} (hi:ops[i]? = some oi) (hsel:∀(j:Nat) (o:Oper) cs b,ops[j]? = some o→o.op≠.select cs b)
  (hQ:∀c a w,Q (.panic c) (a.put oi.dst v) w→Q (.panic c) a w) (hki:k≠i) (hkw:∀ok,ops[k]? = some ok→∃e∈ok.after,Region.binds md e=true∧e.on=i) :
  ∀(f:Nat) (L:Array Bool) (a:Act) (w:World),
   (∀j oj,ops[j]? = some oj→j≠i→L.getD j true=false→(∀e∈oj.after,Region.binds md e=true→e.on≠i)→oi.apart ops oj=true)→
   i∈Region.ready md ops L→YieldsIf P ops S oi v a→L.getD k false=false→S w→
   Kcs P md ops Q S k f (L.setIfInBounds i true) (a.put oi.dst v) w→Kcs P md ops Q S k (f+1) L a w:=by
 intro f
 induction f with
 | zero=>
  intro L a w hfree hr hy hl hS H;refine ⟨fun h=>(by rw[h] at hr;cases hr),fun j hj=>?_⟩
  by_cases hji:j=i
  ·subst hji;exact hy.wpOp hi hS ⟨fun _=>hS,H⟩
  ·have:=ready_mono hj hji;rw[H.1] at this;cases this
 | succ f ih=>
  intro L a w hfree hr hy hl hS H;refine ⟨fun h=>(by rw[h] at hr;cases hr),fun j hj=>?_⟩
  by_cases hji:j=i
  ·subst hji;exact hy.wpOp hi hS ⟨fun _=>hS,H⟩
  ·have h1:=H.2 j (ready_mono hj hji);obtain ⟨hjun,oj,hoj,hall⟩:=mem_ready.1 hj
   have hnot:∀e∈oj.after,Region.binds md e=true→e.on≠i:=fun e he hb heq=>by
    have h1:=hall e he hb;have h0:=(mem_ready.1 hr).1;rw[heq] at h1;rcases Nat.lt_or_ge i L.size with h' | h'
    ·simp[h'] at h0 h1;rw[h0] at h1;cases h1
    ·simp[Array.getElem?_eq_none h'] at h1
   have hjk:j≠k:=by
    rintro rfl;obtain ⟨e,he,hb,heq⟩:=hkw oj hoj;exact hnot e he hb heq
   have h2:=wpOp_putIf hoj (hfree j oj hoj hji hjun hnot) (fun cs b=>hsel i oi cs b hi) (fun cs b=>hsel j oj cs b hoj) hQ hy h1
   have hfree':∀k ok,ops[k]? = some ok→k≠i→(L.setIfInBounds j true).getD k true=false→
     (∀e∈ok.after,Region.binds md e=true→e.on≠i)→oi.apart ops ok=true:=fun k ok hk hki hun hno=>by
    refine hfree k ok hk hki ?_ hno
    by_cases hjk:j=k
    ·subst hjk;exact hjun
    ·rw[getD_set_ne true hjk] at hun;exact hun
   have hl1:(L.setIfInBounds j true).getD k false=false:=by rw[getD_set_ne false hjk];exact hl
   have hl2:((L.setIfInBounds i true).setIfInBounds j true).getD k false=false:=by rw[getD_set_ne false hjk,getD_set_ne false (Ne.symm hki)];exact hl
   refine wpOp_mono (fun a' w' h3=>⟨fun _=>h3.2.1 hl2,ih (L.setIfInBounds j true) a' w' hfree' (ready_mono hr (Ne.symm hji)) h3.1 hl1 (h3.2.1 hl2) ?_⟩) h2;rw[Array.setIfInBounds_comm _ _ hji];exact h3.2.2
theorem Kty {i:Nat} {oi:Oper} {v:Value} (hi:ops[i]? = some oi) (hsel:∀(j:Nat) (o:Oper) cs b,ops[j]? = some o→o.op≠.select cs b)
  (hQ:∀c a w,Q (.panic c) (a.put oi.dst v) w→Q (.panic c) a w) (hki:k≠i) :
  ∀(f:Nat) (L:Array Bool) (a:Act) (w:World),
   (∀j oj,ops[j]? = some oj→j≠i→L.getD j true=false→(∀e∈oj.after,Region.binds md e=true→e.on≠i)→oi.apart ops oj=true)→
   i∈Region.ready md ops L→YieldsIf P ops (fun _=>True) oi v a→(L.getD k false=false→S w)→
   Kcs P md ops Q S k f (L.setIfInBounds i true) (a.put oi.dst v) w→Kcs P md ops Q S k (f+1) L a w:=by
 have same:∀L:Array Bool,(L.setIfInBounds i true).getD k false=L.getD k false:=fun L=>getD_set_ne false (Ne.symm hki)
 intro f
 induction f with
 | zero=>
  intro L a w hfree hr hy hS H;refine ⟨fun h=>(by rw[h] at hr;cases hr),fun j hj=>?_⟩
  by_cases hji:j=i
  ·subst hji;exact hy.wpOp hi trivial ⟨fun h=>hS (by rw[same] at h;exact h),H⟩
  ·have:=ready_mono hj hji;rw[H.1] at this;cases this
 | succ f ih=>
  intro L a w hfree hr hy hS H;refine ⟨fun h=>(by rw[h] at hr;cases hr),fun j hj=>?_⟩
  by_cases hji:j=i
  ·subst hji;exact hy.wpOp hi trivial ⟨fun h=>hS (by rw[same] at h;exact h),H⟩
  ·have h1:=H.2 j (ready_mono hj hji);obtain ⟨hjun,oj,hoj,hall⟩:=mem_ready.1 hj
   have hnot:∀e∈oj.after,Region.binds md e=true→e.on≠i:=fun e he hb heq=>by
    have h1:=hall e he hb;have h0:=(mem_ready.1 hr).1;rw[heq] at h1;rcases Nat.lt_or_ge i L.size with h' | h'
    ·simp[h'] at h0 h1;rw[h0] at h1;cases h1
    ·simp[Array.getElem?_eq_none h'] at h1
   have h2:=wpOp_putIf hoj (hfree j oj hoj hji hjun hnot) (fun cs b=>hsel i oi cs b hi) (fun cs b=>hsel j oj cs b hoj) hQ hy h1
   have hfree':∀k ok,ops[k]? = some ok→k≠i→(L.setIfInBounds j true).getD k true=false→
     (∀e∈ok.after,Region.binds md e=true→e.on≠i)→oi.apart ops ok=true:=fun k ok hk hki hun hno=>by
    refine hfree k ok hk hki ?_ hno
    by_cases hjk:j=k
    ·subst hjk;exact hjun
    ·rw[getD_set_ne true hjk] at hun;exact hun
   have hl2:((L.setIfInBounds i true).setIfInBounds j true).getD k false=(L.setIfInBounds j true).getD k false:=by
    rw[Array.setIfInBounds_comm _ _ (Ne.symm hji),same]
   refine wpOp_mono (fun a' w' h3=>⟨fun h=>h3.2.1 (by rw[hl2];exact h),ih (L.setIfInBounds j true) a' w' hfree' (ready_mono hr (Ne.symm hji)) h3.1 (fun h=>h3.2.1 (by rw[hl2];exact h)) ?_⟩) h2;rw[Array.setIfInBounds_comm _ _ hji];exact h3.2.2
def Kxh (md:Region.Mode) (ops:Array Oper) (k i:Nat):Bool:=k != i && match ops[k]? with | some ok=>ok.after.any fun e=>Region.binds md e && e.on == i | none=>true
theorem Kap {i:Nat} {oi:Oper} {v:Value} {f:Nat} {L:Array Bool} {a:Act} {w:World} {d:Option Tmp} (hi:ops[i]? = some oi) (hd:oi.dst=d)
  (hs:Region.noSelect ops=true) (hf:Region.free md ops L i=true) (hr:(Region.ready md ops L).contains i=true) (hkw:Kxh md ops k i=true) (hl:L.getD k false=false)
  (hQ:∀c a w,Q (.panic c) (a.put oi.dst v) w→Q (.panic c) a w) (hy:YieldsIf P ops S oi v a) (hS:S w)
  (h:Kcs P md ops Q S k f (L.setIfInBounds i true) (a.put d v) w):Kcs P md ops Q S k (f+1) L a w:=by
 subst hd;simp only[Kxh,Bool.and_eq_true,bne_iff_ne,ne_eq] at hkw;refine Kxl hi (Region.noSelect_spec hs) hQ hkw.1 (fun ok hok=>?_) f L a w (Region.free_spec hi hf) (by simpa using hr) hy hl hS h;have h2:=hkw.2;rw[hok] at h2;obtain ⟨e,he,hb⟩:=Array.any_eq_true'.1 h2;simp only[Bool.and_eq_true,beq_iff_eq] at hb;exact ⟨e,he,hb.1,hb.2⟩
theorem Kaa {i:Nat} {oi:Oper} {v:Value} {f:Nat} {L:Array Bool} {a:Act} {w:World} {d:Option Tmp} (hi:ops[i]? = some oi) (hd:oi.dst=d)
  (hs:Region.noSelect ops=true) (hf:Region.free md ops L i=true) (hr:(Region.ready md ops L).contains i=true) (hki:(k != i)=true)
  (hQ:∀c a w,Q (.panic c) (a.put oi.dst v) w→Q (.panic c) a w) (hw:Region.wanted oi (yielded ops a.tmps)=true) (hy:∀w,(execOp a.eval oi).run P w = .ok (.value v) w) (hS:L.getD k false=false→S w)
  (h:Kcs P md ops Q S k f (L.setIfInBounds i true) (a.put d v) w):Kcs P md ops Q S k (f+1) L a w:=by
 subst hd;exact Kty hi (Region.noSelect_spec hs) hQ (by simpa using hki) f L a w (Region.free_spec hi hf) (by simpa using hr) (.inl ⟨hw,fun w _=>hy w⟩) hS h
@[irreducible] def OpW (o:Oper) (P:Program) (a:Act) (w:World) (K:Act→World→Prop) (Q:Exit→Act→World→Prop):Prop:=o.wp P a w K Q
theorem OpW.of {o:Oper} {P:Program} {a:Act} {w:World} {K:Act→World→Prop} {Q:Exit→Act→World→Prop} (h:o.wp P a w K Q):OpW o P a w K Q:=by
 unfold OpW;exact h
theorem OpW.out {o:Oper} {P:Program} {a:Act} {w:World} {K:Act→World→Prop} {Q:Exit→Act→World→Prop} (h:OpW o P a w K Q):o.wp P a w K Q:=by
 unfold OpW at h;exact h
theorem Kai {i:Nat} {o:Oper} {f:Nat} {L:Array Bool} {a:Act} {w:World} (hr0:(Region.ready md ops L == [i])=true) (ho:ops[i]? = some o) (hg:o.guard=none)
  (h:OpW o P a w (fun a' w'=>((L.setIfInBounds i true).getD k false=false→S w')∧Kcs P md ops Q S k f (L.setIfInBounds i true) a' w') Q):Kcs P md ops Q S k (f+1) L a w:=by
 have hr:Region.ready md ops L = [i]:=eq_of_beq hr0;refine ⟨fun h0=>absurd (hr.symm.trans h0) (by simp),fun j hj=>?_⟩;rw[hr] at hj;obtain rfl:j=i:=by simpa using hj
 unfold wpOp;simp only[ho];rw[if_pos (by simp[Region.wanted,hg])];exact .inl h.out
theorem Kcm {i:Nat} {o:Oper} {f:Nat} {L:Array Bool} {a:Act} {w:World} (hr:(Region.ready md ops L == [i])=true) (ho:ops[i]? = some o) (hg:o.guard=none) (hL:(L.setIfInBounds i true).getD k false=true)
  (h:OpW o P a w (fun a' w'=>Kcs P md ops Q S k f (L.setIfInBounds i true) a' w') Q):Kcs P md ops Q S k (f+1) L a w:=
 Kai hr ho hg (.of (Oper.wp_mono (fun a' w' h'=>⟨fun e=>absurd (hL.symm.trans e) (by simp),h'⟩) h.out))
theorem Kpx {i j:Nat} {o o':Oper} {f:Nat} {L:Array Bool} {a:Act} {w:World} (hr0:(Region.ready md ops L == [i,j])=true) (ho:ops[i]? = some o) (hg:o.guard=none) (ho':ops[j]? = some o') (hg':o'.guard=none)
  (h:OpW o P a w (fun a' w'=>((L.setIfInBounds i true).getD k false=false→S w')∧Kcs P md ops Q S k f (L.setIfInBounds i true) a' w') Q)
  (h':OpW o' P a w (fun a' w'=>((L.setIfInBounds j true).getD k false=false→S w')∧Kcs P md ops Q S k f (L.setIfInBounds j true) a' w') Q):Kcs P md ops Q S k (f+1) L a w:=by
 have hr:Region.ready md ops L = [i,j]:=eq_of_beq hr0;refine ⟨fun h0=>absurd (hr.symm.trans h0) (by simp),fun l hl=>?_⟩;rw[hr] at hl;rcases (by simpa using hl:l=i∨l=j) with rfl | rfl
 ·unfold wpOp;simp only[ho];rw[if_pos (by simp[Region.wanted,hg])];exact .inl h.out
 ·unfold wpOp;simp only[ho'];rw[if_pos (by simp[Region.wanted,hg'])];exact .inl h'.out
theorem Kau {L:Array Bool} {a:Act} {w:World} (hr:(Region.ready md ops L == [])=true) (h:Q .normal a w):∀f,Kcs P md ops Q S k f L a w
 | 0=>⟨eq_of_beq hr,h⟩
 | _+1=>⟨fun _=>h,by rw[eq_of_beq hr];simp⟩
theorem Kca {id:Nat} {a:Act} {w:World} (S:World→Prop) (k n:Nat) (hm:P.follows .mixedOrders=true) (hn:ops.size=n)
  (h:Kcs P .any ops Q S k n (Array.replicate n false) a w.drew):(Code.region id ops true).wp P Q a w:=by
 subst hn;exact wp_region_any hm (Kpz _ _ _ _ h)
theorem Oper.wp_ran {o:Oper} {a:Act} {w w':World} {v:Value} {d:Option Tmp} {K:Act→World→Prop} (hd:o.dst=d) (h:(execOp a.eval o).run P w = .ok (.value v) w') (hK:K (a.put d v) w'):OpW o P a w K Q:=.of <| by
 subst hd;unfold Oper.wp;rw[h];exact hK
theorem Oper.wp_skipped {o:Oper} {a:Act} {w w':World} {K:Act→World→Prop} (hd:o.dst=none) (h:(execOp a.eval o).run P w = .ok .skip w') (hK:K (a.put none undef) w'):OpW o P a w K Q:=.of <| by
 unfold Oper.wp;rw[h];show K (a.put o.dst undef) w'
 rw[hd];exact hK
theorem Oper.wp_called {o:Oper} {a:Act} {w w1:World} {g:FuncId} {args:Array Value} {d:Option Tmp} {K:Act→World→Prop} (hd:o.dst=d) (h:(execOp a.eval o).run P w = .ok (.enter g args) w1) {N:Value→World→Prop}
  (hc:Calls P g args w1 fun e w'=>∃u,e = .returned u∧N u w') (hK:∀u w',N u w'→K (a.put d u) w'):OpW o P a w K Q:=.of <| by
 subst hd;unfold Oper.wp;rw[h];refine Calls.mono hc ?_;rintro e w' ⟨u,rfl,hn⟩;exact hK u w' hn
end
end
section
open Go.RowKit
open Lib renaming hid → Jh
open List renaming setIfInBounds_toArray → Ja, set_cons_zero → Jb, set_cons_succ → Jc
attribute [local go_sem ↓] Go.wp_at_zero Go.wp_at_succ
attribute [local go_sem] Later.cell
def Rdr (pr:Nat) (S:ByteArray) (i:Nat) (w:World):Prop:=Blk w pr 115 #[.string S,.int .i64 (i:Int)]
def TkO (w:World) (OK:Value→Nat→World→Prop) (BAD:Prop) (e:Ending) (w':World):Prop:=
 Below w.heap.size w w'∧((∃v j,e = .returned (.tuple #[v,.int .i64 ((j:Nat):Int),.int .i64 0])∧OK v j w')∨(BAD∧∃v n f,f≠0∧e = .returned (.tuple #[v,n,.int .i64 ((f:Nat):Int)])))
def RdTk (pr:Nat) (w:World) (OK:Value→Nat→World→Prop) (BAD:Prop) (e:Ending) (w':World):Prop:=
 (∃v j w1,e = .returned v∧OK v j w1∧Below w.heap.size w w1∧w'=w1.setCell ⟨pr,1,none⟩ (.int .i64 ((j:Nat):Int)))∨(BAD∧∃f,f≠0∧e=Kay f∧Below w.heap.size w w')
theorem Knc (pr i:Nat) (S:ByteArray) (w:World) (h:Rdr pr S i w) (OK:Value→Nat→World→Prop) (BAD:Prop) (hc:Calls Tryz.prog 48 #[.string S,.int .i64 (i:Int)] w.drew (TkO w OK BAD)) :
  Calls Tryz.prog 47 #[.pointer (some ⟨pr,0,none⟩),.func (.func 48) #[] #[]] w (RdTk pr w OK BAD):=by
 have H:=Jh h;have HC:=Jh hc;have c0:w.drew.cell? ⟨pr,0,none⟩=some (.string S):=(show Blk w _ _ _ from h).drew.cell 0;have c1:w.drew.cell? ⟨pr,1,none⟩=some (.int .i64 (i:Int)):=(show Blk w _ _ _ from h).drew.cell 1;clear h hc;go_enter Tryz.func47,Tryz.ntmps47
 go_upto_region 1 with fail
 have hS:w.drew.cell? ⟨pr,0,none⟩=some (.string S)∧w.drew.cell? ⟨pr,1,none⟩=some (.int .i64 (i:Int)):=⟨c0,c1⟩;refine Kca (fun w'=>w'.cell? ⟨pr,0,none⟩=some (.string S)∧w'.cell? ⟨pr,1,none⟩=some (.int .i64 (i:Int))) 9 17 (by kernel_rfl) rfl ?_;rw[show Array.replicate 17 false = #[false,false,false,false,false,false,false,false,false,false,false,false,false,false,false,false,false] from rfl];refine Kaa (i:=0) (d:=some 9) rfl rfl (by kernel_rfl) (by kernel_rfl) (by kernel_rfl) rfl (fun _ _ _ h=>h) (by rfl) (fun w=>by go_simp;try rfl) (fun _=>hS) ?_;simp only[Act.put,Ja,Jb,Jc];refine Kaa (i:=1) (d:=some 10) rfl rfl (by kernel_rfl) (by kernel_rfl) (by kernel_rfl) rfl (fun _ _ _ h=>h) (by rfl) (fun w=>by go_simp;try rfl) (fun _=>hS) ?_;simp only[Act.put,Ja,Jb,Jc];refine Kaa (i:=2) (d:=some 11) rfl rfl (by kernel_rfl) (by kernel_rfl) (by kernel_rfl) rfl (fun _ _ _ h=>h) (by rfl) (fun w=>by go_simp;try rfl) (fun _=>hS) ?_;simp only[Act.put,Ja,Jb,Jc];refine Kaa (i:=3) (d:=some 12) rfl rfl (by kernel_rfl) (by kernel_rfl) (by kernel_rfl) rfl (fun _ _ _ h=>h) (by rfl) (fun w=>by go_simp;try rfl) (fun _=>hS) ?_;simp only[Act.put,Ja,Jb,Jc];refine Kap (i:=4) (d:=some 13) rfl rfl (by kernel_rfl) (by kernel_rfl) (by kernel_rfl) (by kernel_rfl) rfl (fun _ _ _ h=>h) (.inl ⟨by rfl,fun w hw=>by (obtain ⟨ha,hb⟩:=hw;go_simp;try rfl)⟩) hS ?_;simp only[Act.put,Ja,Jb,Jc];refine Kaa (i:=5) (d:=some 14) rfl rfl (by kernel_rfl) (by kernel_rfl) (by kernel_rfl) rfl (fun _ _ _ h=>h) (by rfl) (fun w=>by go_simp;try rfl) (fun _=>hS) ?_;simp only[Act.put,Ja,Jb,Jc];refine Kaa (i:=6) (d:=some 15) rfl rfl (by kernel_rfl) (by kernel_rfl) (by kernel_rfl) rfl (fun _ _ _ h=>h) (by rfl) (fun w=>by go_simp;try rfl) (fun _=>hS) ?_;simp only[Act.put,Ja,Jb,Jc];refine Kaa (i:=7) (d:=some 16) rfl rfl (by kernel_rfl) (by kernel_rfl) (by kernel_rfl) rfl (fun _ _ _ h=>h) (by rfl) (fun w=>by go_simp;try rfl) (fun _=>hS) ?_;simp only[Act.put,Ja,Jb,Jc];refine Kap (i:=8) (d:=some 17) rfl rfl (by kernel_rfl) (by kernel_rfl) (by kernel_rfl) (by kernel_rfl) rfl (fun _ _ _ h=>h) (.inl ⟨by rfl,fun w hw=>by (obtain ⟨ha,hb⟩:=hw;go_simp;try rfl)⟩) hS ?_;simp only[Act.put,Ja,Jb,Jc];refine Kai (i:=9) (by kernel_rfl) rfl rfl ?_;refine Oper.wp_called (d:=some 18) (w1:=w.drew) (g:=48) (args:=#[.string S,.int .i64 (i:Int)]) rfl (by go_simp;try rfl) (N:=fun u w'=>Below w.heap.size w w'∧((∃v j,u = .tuple #[v,.int .i64 ((j:Nat):Int),.int .i64 0]∧OK v j w')∨(BAD∧∃v n f,f≠0∧u = .tuple #[v,n,.int .i64 ((f:Nat):Int)]))) (HC.out.mono ?_) ?_
 ·rintro _ w2 ⟨hb,⟨v,j,rfl,hok⟩ | ⟨hbad,v,n,f,hf,rfl⟩⟩
  ·exact ⟨_,rfl,hb,.inl ⟨v,j,rfl,hok⟩⟩
  ·exact ⟨_,rfl,hb,.inr ⟨hbad,v,n,f,hf,rfl⟩⟩
 ·rintro _ w2 ⟨hb,⟨v,j,rfl,hok⟩ | ⟨hbad,v,n,f,hf,rfl⟩⟩
  ·refine ⟨fun h=>absurd h (by decide),?_⟩;simp only[Act.put,Ja,Jb,Jc];refine Kaa (i:=10) (d:=some 8) rfl rfl (by kernel_rfl) (by kernel_rfl) (by kernel_rfl) rfl (fun _ _ _ h=>h) (by rfl) (fun w=>by go_simp;try rfl) (fun h=>absurd h (by decide)) ?_;simp only[Act.put,Ja,Jb,Jc];refine Kaa (i:=11) (d:=some 19) rfl rfl (by kernel_rfl) (by kernel_rfl) (by kernel_rfl) rfl (fun _ _ _ h=>h) (by rfl) (fun w=>by go_simp;try rfl) (fun h=>absurd h (by decide)) ?_;simp only[Act.put,Ja,Jb,Jc];refine Kaa (i:=12) (d:=some 20) rfl rfl (by kernel_rfl) (by kernel_rfl) (by kernel_rfl) rfl (fun _ _ _ h=>h) (by rfl) (fun w=>by go_simp;try rfl) (fun h=>absurd h (by decide)) ?_;simp only[Act.put,Ja,Jb,Jc];refine Kaa (i:=13) (d:=some 21) rfl rfl (by kernel_rfl) (by kernel_rfl) (by kernel_rfl) rfl (fun _ _ _ h=>h) (by rfl) (fun w=>by go_simp;try rfl) (fun h=>absurd h (by decide)) ?_;simp only[Act.put,Ja,Jb,Jc];refine Kaa (i:=14) (d:=some 5) rfl rfl (by kernel_rfl) (by kernel_rfl) (by kernel_rfl) rfl (fun _ _ _ h=>h) (by rfl) (fun w=>by go_simp;try rfl) (fun h=>absurd h (by decide)) ?_;simp only[Act.put,Ja,Jb,Jc];refine Kaa (i:=15) (d:=some 6) rfl rfl (by kernel_rfl) (by kernel_rfl) (by kernel_rfl) rfl (fun _ _ _ h=>h) (by rfl) (fun w=>by go_simp;try rfl) (fun h=>absurd h (by decide)) ?_;simp only[Act.put,Ja,Jb,Jc];refine Kaa (i:=16) (d:=some 7) rfl rfl (by kernel_rfl) (by kernel_rfl) (by kernel_rfl) rfl (fun _ _ _ h=>h) (by rfl) (fun w=>by go_simp;try rfl) (fun h=>absurd h (by decide)) ?_;simp only[Act.put,Ja,Jb,Jc];refine Kau (by kernel_rfl) ?_ _;have HOK:=Jh hok;have HB:=Jh hb;have hq:=(show Blk w _ _ _ from H.out).below hb (show Blk w _ _ _ from H.out).lt;have d0:w2.cell? ⟨pr,0,none⟩=some (.string S):=hq.cell 0;have d1:w2.cell? ⟨pr,1,none⟩=some (.int .i64 (i:Int)):=hq.cell 1;have f1:w2.frozen? ⟨pr,1,none⟩=false:=hq.frozen 1;clear hok hb hq hS c0 c1;go_wp2_with fail
   go_ret
   exact .inl ⟨v,j,w2,rfl,HOK.out,HB.out,rfl⟩
  ·have e0:((f:Int) != 0)=true:=by simp;omega
   refine ⟨fun h=>absurd h (by decide),?_⟩;simp only[Act.put,Ja,Jb,Jc];refine Kaa (i:=10) (d:=some 8) rfl rfl (by kernel_rfl) (by kernel_rfl) (by kernel_rfl) rfl (fun _ _ _ h=>h) (by rfl) (fun w=>by go_simp;try rfl) (fun h=>absurd h (by decide)) ?_;simp only[Act.put,Ja,Jb,Jc];refine Kaa (i:=11) (d:=some 19) rfl rfl (by kernel_rfl) (by kernel_rfl) (by kernel_rfl) rfl (fun _ _ _ h=>h) (by rfl) (fun w=>by go_simp;try rfl) (fun h=>absurd h (by decide)) ?_;simp only[Act.put,Ja,Jb,Jc];refine Kaa (i:=12) (d:=some 20) rfl rfl (by kernel_rfl) (by kernel_rfl) (by kernel_rfl) rfl (fun _ _ _ h=>h) (by rfl) (fun w=>by go_simp;try rfl) (fun h=>absurd h (by decide)) ?_;simp only[Act.put,Ja,Jb,Jc];refine Kaa (i:=13) (d:=some 21) rfl rfl (by kernel_rfl) (by kernel_rfl) (by kernel_rfl) rfl (fun _ _ _ h=>h) (by rfl) (fun w=>by go_simp;try rfl) (fun h=>absurd h (by decide)) ?_;simp only[Act.put,Ja,Jb,Jc];refine Kaa (i:=14) (d:=some 5) rfl rfl (by kernel_rfl) (by kernel_rfl) (by kernel_rfl) rfl (fun _ _ _ h=>h) (by rfl) (fun w=>by go_simp;try rfl) (fun h=>absurd h (by decide)) ?_;simp only[Act.put,Ja,Jb,Jc];refine Kaa (i:=15) (d:=some 6) rfl rfl (by kernel_rfl) (by kernel_rfl) (by kernel_rfl) rfl (fun _ _ _ h=>h) (by rfl) (fun w=>by go_simp;try rfl) (fun h=>absurd h (by decide)) ?_;simp only[Act.put,Ja,Jb,Jc];refine Kaa (i:=16) (d:=some 7) rfl rfl (by kernel_rfl) (by kernel_rfl) (by kernel_rfl) rfl (fun _ _ _ h=>h) (by rfl) (fun w=>by go_simp;try rfl) (fun h=>absurd h (by decide)) ?_;simp only[Act.put,Ja,Jb,Jc];refine Kau (by kernel_rfl) ?_ _;have HB:=Jh hb;clear hb hS c0 c1;go_wp2_with fail
   refine Kae rfl ?_;exact .inr ⟨hbad,f,hf,rfl,HB.out⟩
theorem Kmy (pr i:Nat) (S:ByteArray) (w:World) (h:Rdr pr S i w) (OK:Value→Nat→World→Prop) (BAD:Prop) (hc:Calls Tryz.prog 102 #[.string S,.int .i64 (i:Int)] w.drew (TkO w OK BAD)) :
  Calls Tryz.prog 101 #[.pointer (some ⟨pr,0,none⟩),.func (.func 102) #[] #[]] w (RdTk pr w OK BAD):=by
 have H:=Jh h;have HC:=Jh hc;have c0:w.drew.cell? ⟨pr,0,none⟩=some (.string S):=(show Blk w _ _ _ from h).drew.cell 0;have c1:w.drew.cell? ⟨pr,1,none⟩=some (.int .i64 (i:Int)):=(show Blk w _ _ _ from h).drew.cell 1;clear h hc;go_enter Tryz.func101,Tryz.ntmps101
 go_upto_region 1 with fail
 have hS:w.drew.cell? ⟨pr,0,none⟩=some (.string S)∧w.drew.cell? ⟨pr,1,none⟩=some (.int .i64 (i:Int)):=⟨c0,c1⟩;refine Kca (fun w'=>w'.cell? ⟨pr,0,none⟩=some (.string S)∧w'.cell? ⟨pr,1,none⟩=some (.int .i64 (i:Int))) 9 17 (by kernel_rfl) rfl ?_;rw[show Array.replicate 17 false = #[false,false,false,false,false,false,false,false,false,false,false,false,false,false,false,false,false] from rfl];refine Kaa (i:=0) (d:=some 9) rfl rfl (by kernel_rfl) (by kernel_rfl) (by kernel_rfl) rfl (fun _ _ _ h=>h) (by rfl) (fun w=>by go_simp;try rfl) (fun _=>hS) ?_;simp only[Act.put,Ja,Jb,Jc];refine Kaa (i:=1) (d:=some 10) rfl rfl (by kernel_rfl) (by kernel_rfl) (by kernel_rfl) rfl (fun _ _ _ h=>h) (by rfl) (fun w=>by go_simp;try rfl) (fun _=>hS) ?_;simp only[Act.put,Ja,Jb,Jc];refine Kaa (i:=2) (d:=some 11) rfl rfl (by kernel_rfl) (by kernel_rfl) (by kernel_rfl) rfl (fun _ _ _ h=>h) (by rfl) (fun w=>by go_simp;try rfl) (fun _=>hS) ?_;simp only[Act.put,Ja,Jb,Jc];refine Kaa (i:=3) (d:=some 12) rfl rfl (by kernel_rfl) (by kernel_rfl) (by kernel_rfl) rfl (fun _ _ _ h=>h) (by rfl) (fun w=>by go_simp;try rfl) (fun _=>hS) ?_;simp only[Act.put,Ja,Jb,Jc];refine Kap (i:=4) (d:=some 13) rfl rfl (by kernel_rfl) (by kernel_rfl) (by kernel_rfl) (by kernel_rfl) rfl (fun _ _ _ h=>h) (.inl ⟨by rfl,fun w hw=>by (obtain ⟨ha,hb⟩:=hw;go_simp;try rfl)⟩) hS ?_;simp only[Act.put,Ja,Jb,Jc];refine Kaa (i:=5) (d:=some 14) rfl rfl (by kernel_rfl) (by kernel_rfl) (by kernel_rfl) rfl (fun _ _ _ h=>h) (by rfl) (fun w=>by go_simp;try rfl) (fun _=>hS) ?_;simp only[Act.put,Ja,Jb,Jc];refine Kaa (i:=6) (d:=some 15) rfl rfl (by kernel_rfl) (by kernel_rfl) (by kernel_rfl) rfl (fun _ _ _ h=>h) (by rfl) (fun w=>by go_simp;try rfl) (fun _=>hS) ?_;simp only[Act.put,Ja,Jb,Jc];refine Kaa (i:=7) (d:=some 16) rfl rfl (by kernel_rfl) (by kernel_rfl) (by kernel_rfl) rfl (fun _ _ _ h=>h) (by rfl) (fun w=>by go_simp;try rfl) (fun _=>hS) ?_;simp only[Act.put,Ja,Jb,Jc];refine Kap (i:=8) (d:=some 17) rfl rfl (by kernel_rfl) (by kernel_rfl) (by kernel_rfl) (by kernel_rfl) rfl (fun _ _ _ h=>h) (.inl ⟨by rfl,fun w hw=>by (obtain ⟨ha,hb⟩:=hw;go_simp;try rfl)⟩) hS ?_;simp only[Act.put,Ja,Jb,Jc];refine Kai (i:=9) (by kernel_rfl) rfl rfl ?_;refine Oper.wp_called (d:=some 18) (w1:=w.drew) (g:=102) (args:=#[.string S,.int .i64 (i:Int)]) rfl (by go_simp;try rfl) (N:=fun u w'=>Below w.heap.size w w'∧((∃v j,u = .tuple #[v,.int .i64 ((j:Nat):Int),.int .i64 0]∧OK v j w')∨(BAD∧∃v n f,f≠0∧u = .tuple #[v,n,.int .i64 ((f:Nat):Int)]))) (HC.out.mono ?_) ?_
 ·rintro _ w2 ⟨hb,⟨v,j,rfl,hok⟩ | ⟨hbad,v,n,f,hf,rfl⟩⟩
  ·exact ⟨_,rfl,hb,.inl ⟨v,j,rfl,hok⟩⟩
  ·exact ⟨_,rfl,hb,.inr ⟨hbad,v,n,f,hf,rfl⟩⟩
 ·rintro _ w2 ⟨hb,⟨v,j,rfl,hok⟩ | ⟨hbad,v,n,f,hf,rfl⟩⟩
  ·refine ⟨fun h=>absurd h (by decide),?_⟩;simp only[Act.put,Ja,Jb,Jc];refine Kaa (i:=10) (d:=some 8) rfl rfl (by kernel_rfl) (by kernel_rfl) (by kernel_rfl) rfl (fun _ _ _ h=>h) (by rfl) (fun w=>by go_simp;try rfl) (fun h=>absurd h (by decide)) ?_;simp only[Act.put,Ja,Jb,Jc];refine Kaa (i:=11) (d:=some 19) rfl rfl (by kernel_rfl) (by kernel_rfl) (by kernel_rfl) rfl (fun _ _ _ h=>h) (by rfl) (fun w=>by go_simp;try rfl) (fun h=>absurd h (by decide)) ?_;simp only[Act.put,Ja,Jb,Jc];refine Kaa (i:=12) (d:=some 20) rfl rfl (by kernel_rfl) (by kernel_rfl) (by kernel_rfl) rfl (fun _ _ _ h=>h) (by rfl) (fun w=>by go_simp;try rfl) (fun h=>absurd h (by decide)) ?_;simp only[Act.put,Ja,Jb,Jc];refine Kaa (i:=13) (d:=some 21) rfl rfl (by kernel_rfl) (by kernel_rfl) (by kernel_rfl) rfl (fun _ _ _ h=>h) (by rfl) (fun w=>by go_simp;try rfl) (fun h=>absurd h (by decide)) ?_;simp only[Act.put,Ja,Jb,Jc];refine Kaa (i:=14) (d:=some 5) rfl rfl (by kernel_rfl) (by kernel_rfl) (by kernel_rfl) rfl (fun _ _ _ h=>h) (by rfl) (fun w=>by go_simp;try rfl) (fun h=>absurd h (by decide)) ?_;simp only[Act.put,Ja,Jb,Jc];refine Kaa (i:=15) (d:=some 6) rfl rfl (by kernel_rfl) (by kernel_rfl) (by kernel_rfl) rfl (fun _ _ _ h=>h) (by rfl) (fun w=>by go_simp;try rfl) (fun h=>absurd h (by decide)) ?_;simp only[Act.put,Ja,Jb,Jc];refine Kaa (i:=16) (d:=some 7) rfl rfl (by kernel_rfl) (by kernel_rfl) (by kernel_rfl) rfl (fun _ _ _ h=>h) (by rfl) (fun w=>by go_simp;try rfl) (fun h=>absurd h (by decide)) ?_;simp only[Act.put,Ja,Jb,Jc];refine Kau (by kernel_rfl) ?_ _;have HOK:=Jh hok;have HB:=Jh hb;have hq:=(show Blk w _ _ _ from H.out).below hb (show Blk w _ _ _ from H.out).lt;have d0:w2.cell? ⟨pr,0,none⟩=some (.string S):=hq.cell 0;have d1:w2.cell? ⟨pr,1,none⟩=some (.int .i64 (i:Int)):=hq.cell 1;have f1:w2.frozen? ⟨pr,1,none⟩=false:=hq.frozen 1;clear hok hb hq hS c0 c1;go_wp2_with fail
   go_ret
   exact .inl ⟨v,j,w2,rfl,HOK.out,HB.out,rfl⟩
  ·have e0:((f:Int) != 0)=true:=by simp;omega
   refine ⟨fun h=>absurd h (by decide),?_⟩;simp only[Act.put,Ja,Jb,Jc];refine Kaa (i:=10) (d:=some 8) rfl rfl (by kernel_rfl) (by kernel_rfl) (by kernel_rfl) rfl (fun _ _ _ h=>h) (by rfl) (fun w=>by go_simp;try rfl) (fun h=>absurd h (by decide)) ?_;simp only[Act.put,Ja,Jb,Jc];refine Kaa (i:=11) (d:=some 19) rfl rfl (by kernel_rfl) (by kernel_rfl) (by kernel_rfl) rfl (fun _ _ _ h=>h) (by rfl) (fun w=>by go_simp;try rfl) (fun h=>absurd h (by decide)) ?_;simp only[Act.put,Ja,Jb,Jc];refine Kaa (i:=12) (d:=some 20) rfl rfl (by kernel_rfl) (by kernel_rfl) (by kernel_rfl) rfl (fun _ _ _ h=>h) (by rfl) (fun w=>by go_simp;try rfl) (fun h=>absurd h (by decide)) ?_;simp only[Act.put,Ja,Jb,Jc];refine Kaa (i:=13) (d:=some 21) rfl rfl (by kernel_rfl) (by kernel_rfl) (by kernel_rfl) rfl (fun _ _ _ h=>h) (by rfl) (fun w=>by go_simp;try rfl) (fun h=>absurd h (by decide)) ?_;simp only[Act.put,Ja,Jb,Jc];refine Kaa (i:=14) (d:=some 5) rfl rfl (by kernel_rfl) (by kernel_rfl) (by kernel_rfl) rfl (fun _ _ _ h=>h) (by rfl) (fun w=>by go_simp;try rfl) (fun h=>absurd h (by decide)) ?_;simp only[Act.put,Ja,Jb,Jc];refine Kaa (i:=15) (d:=some 6) rfl rfl (by kernel_rfl) (by kernel_rfl) (by kernel_rfl) rfl (fun _ _ _ h=>h) (by rfl) (fun w=>by go_simp;try rfl) (fun h=>absurd h (by decide)) ?_;simp only[Act.put,Ja,Jb,Jc];refine Kaa (i:=16) (d:=some 7) rfl rfl (by kernel_rfl) (by kernel_rfl) (by kernel_rfl) rfl (fun _ _ _ h=>h) (by rfl) (fun w=>by go_simp;try rfl) (fun h=>absurd h (by decide)) ?_;simp only[Act.put,Ja,Jb,Jc];refine Kau (by kernel_rfl) ?_ _;have HB:=Jh hb;clear hb hS c0 c1;go_wp2_with fail
   refine Kae rfl ?_;exact .inr ⟨hbad,f,hf,rfl,HB.out⟩
theorem Kna (pr i:Nat) (S:ByteArray) (w:World) (h:Rdr pr S i w) (OK:Value→Nat→World→Prop) (BAD:Prop) (hc:Calls Tryz.prog 98 #[.string S,.int .i64 (i:Int)] w.drew (TkO w OK BAD)) :
  Calls Tryz.prog 106 #[.pointer (some ⟨pr,0,none⟩),.func (.func 98) #[] #[]] w (RdTk pr w OK BAD):=by
 have H:=Jh h;have HC:=Jh hc;have c0:w.drew.cell? ⟨pr,0,none⟩=some (.string S):=(show Blk w _ _ _ from h).drew.cell 0;have c1:w.drew.cell? ⟨pr,1,none⟩=some (.int .i64 (i:Int)):=(show Blk w _ _ _ from h).drew.cell 1;clear h hc;go_enter Tryz.func106,Tryz.ntmps106
 go_upto_region 1 with fail
 have hS:w.drew.cell? ⟨pr,0,none⟩=some (.string S)∧w.drew.cell? ⟨pr,1,none⟩=some (.int .i64 (i:Int)):=⟨c0,c1⟩;refine Kca (fun w'=>w'.cell? ⟨pr,0,none⟩=some (.string S)∧w'.cell? ⟨pr,1,none⟩=some (.int .i64 (i:Int))) 9 17 (by kernel_rfl) rfl ?_;rw[show Array.replicate 17 false = #[false,false,false,false,false,false,false,false,false,false,false,false,false,false,false,false,false] from rfl];refine Kaa (i:=0) (d:=some 9) rfl rfl (by kernel_rfl) (by kernel_rfl) (by kernel_rfl) rfl (fun _ _ _ h=>h) (by rfl) (fun w=>by go_simp;try rfl) (fun _=>hS) ?_;simp only[Act.put,Ja,Jb,Jc];refine Kaa (i:=1) (d:=some 10) rfl rfl (by kernel_rfl) (by kernel_rfl) (by kernel_rfl) rfl (fun _ _ _ h=>h) (by rfl) (fun w=>by go_simp;try rfl) (fun _=>hS) ?_;simp only[Act.put,Ja,Jb,Jc];refine Kaa (i:=2) (d:=some 11) rfl rfl (by kernel_rfl) (by kernel_rfl) (by kernel_rfl) rfl (fun _ _ _ h=>h) (by rfl) (fun w=>by go_simp;try rfl) (fun _=>hS) ?_;simp only[Act.put,Ja,Jb,Jc];refine Kaa (i:=3) (d:=some 12) rfl rfl (by kernel_rfl) (by kernel_rfl) (by kernel_rfl) rfl (fun _ _ _ h=>h) (by rfl) (fun w=>by go_simp;try rfl) (fun _=>hS) ?_;simp only[Act.put,Ja,Jb,Jc];refine Kap (i:=4) (d:=some 13) rfl rfl (by kernel_rfl) (by kernel_rfl) (by kernel_rfl) (by kernel_rfl) rfl (fun _ _ _ h=>h) (.inl ⟨by rfl,fun w hw=>by (obtain ⟨ha,hb⟩:=hw;go_simp;try rfl)⟩) hS ?_;simp only[Act.put,Ja,Jb,Jc];refine Kaa (i:=5) (d:=some 14) rfl rfl (by kernel_rfl) (by kernel_rfl) (by kernel_rfl) rfl (fun _ _ _ h=>h) (by rfl) (fun w=>by go_simp;try rfl) (fun _=>hS) ?_;simp only[Act.put,Ja,Jb,Jc];refine Kaa (i:=6) (d:=some 15) rfl rfl (by kernel_rfl) (by kernel_rfl) (by kernel_rfl) rfl (fun _ _ _ h=>h) (by rfl) (fun w=>by go_simp;try rfl) (fun _=>hS) ?_;simp only[Act.put,Ja,Jb,Jc];refine Kaa (i:=7) (d:=some 16) rfl rfl (by kernel_rfl) (by kernel_rfl) (by kernel_rfl) rfl (fun _ _ _ h=>h) (by rfl) (fun w=>by go_simp;try rfl) (fun _=>hS) ?_;simp only[Act.put,Ja,Jb,Jc];refine Kap (i:=8) (d:=some 17) rfl rfl (by kernel_rfl) (by kernel_rfl) (by kernel_rfl) (by kernel_rfl) rfl (fun _ _ _ h=>h) (.inl ⟨by rfl,fun w hw=>by (obtain ⟨ha,hb⟩:=hw;go_simp;try rfl)⟩) hS ?_;simp only[Act.put,Ja,Jb,Jc];refine Kai (i:=9) (by kernel_rfl) rfl rfl ?_;refine Oper.wp_called (d:=some 18) (w1:=w.drew) (g:=98) (args:=#[.string S,.int .i64 (i:Int)]) rfl (by go_simp;try rfl) (N:=fun u w'=>Below w.heap.size w w'∧((∃v j,u = .tuple #[v,.int .i64 ((j:Nat):Int),.int .i64 0]∧OK v j w')∨(BAD∧∃v n f,f≠0∧u = .tuple #[v,n,.int .i64 ((f:Nat):Int)]))) (HC.out.mono ?_) ?_
 ·rintro _ w2 ⟨hb,⟨v,j,rfl,hok⟩ | ⟨hbad,v,n,f,hf,rfl⟩⟩
  ·exact ⟨_,rfl,hb,.inl ⟨v,j,rfl,hok⟩⟩
  ·exact ⟨_,rfl,hb,.inr ⟨hbad,v,n,f,hf,rfl⟩⟩
 ·rintro _ w2 ⟨hb,⟨v,j,rfl,hok⟩ | ⟨hbad,v,n,f,hf,rfl⟩⟩
  ·refine ⟨fun h=>absurd h (by decide),?_⟩;simp only[Act.put,Ja,Jb,Jc];refine Kaa (i:=10) (d:=some 8) rfl rfl (by kernel_rfl) (by kernel_rfl) (by kernel_rfl) rfl (fun _ _ _ h=>h) (by rfl) (fun w=>by go_simp;try rfl) (fun h=>absurd h (by decide)) ?_;simp only[Act.put,Ja,Jb,Jc];refine Kaa (i:=11) (d:=some 19) rfl rfl (by kernel_rfl) (by kernel_rfl) (by kernel_rfl) rfl (fun _ _ _ h=>h) (by rfl) (fun w=>by go_simp;try rfl) (fun h=>absurd h (by decide)) ?_;simp only[Act.put,Ja,Jb,Jc];refine Kaa (i:=12) (d:=some 20) rfl rfl (by kernel_rfl) (by kernel_rfl) (by kernel_rfl) rfl (fun _ _ _ h=>h) (by rfl) (fun w=>by go_simp;try rfl) (fun h=>absurd h (by decide)) ?_;simp only[Act.put,Ja,Jb,Jc];refine Kaa (i:=13) (d:=some 21) rfl rfl (by kernel_rfl) (by kernel_rfl) (by kernel_rfl) rfl (fun _ _ _ h=>h) (by rfl) (fun w=>by go_simp;try rfl) (fun h=>absurd h (by decide)) ?_;simp only[Act.put,Ja,Jb,Jc];refine Kaa (i:=14) (d:=some 5) rfl rfl (by kernel_rfl) (by kernel_rfl) (by kernel_rfl) rfl (fun _ _ _ h=>h) (by rfl) (fun w=>by go_simp;try rfl) (fun h=>absurd h (by decide)) ?_;simp only[Act.put,Ja,Jb,Jc];refine Kaa (i:=15) (d:=some 6) rfl rfl (by kernel_rfl) (by kernel_rfl) (by kernel_rfl) rfl (fun _ _ _ h=>h) (by rfl) (fun w=>by go_simp;try rfl) (fun h=>absurd h (by decide)) ?_;simp only[Act.put,Ja,Jb,Jc];refine Kaa (i:=16) (d:=some 7) rfl rfl (by kernel_rfl) (by kernel_rfl) (by kernel_rfl) rfl (fun _ _ _ h=>h) (by rfl) (fun w=>by go_simp;try rfl) (fun h=>absurd h (by decide)) ?_;simp only[Act.put,Ja,Jb,Jc];refine Kau (by kernel_rfl) ?_ _;have HOK:=Jh hok;have HB:=Jh hb;have hq:=(show Blk w _ _ _ from H.out).below hb (show Blk w _ _ _ from H.out).lt;have d0:w2.cell? ⟨pr,0,none⟩=some (.string S):=hq.cell 0;have d1:w2.cell? ⟨pr,1,none⟩=some (.int .i64 (i:Int)):=hq.cell 1;have f1:w2.frozen? ⟨pr,1,none⟩=false:=hq.frozen 1;clear hok hb hq hS c0 c1;go_wp2_with fail
   go_ret
   exact .inl ⟨v,j,w2,rfl,HOK.out,HB.out,rfl⟩
  ·have e0:((f:Int) != 0)=true:=by simp;omega
   refine ⟨fun h=>absurd h (by decide),?_⟩;simp only[Act.put,Ja,Jb,Jc];refine Kaa (i:=10) (d:=some 8) rfl rfl (by kernel_rfl) (by kernel_rfl) (by kernel_rfl) rfl (fun _ _ _ h=>h) (by rfl) (fun w=>by go_simp;try rfl) (fun h=>absurd h (by decide)) ?_;simp only[Act.put,Ja,Jb,Jc];refine Kaa (i:=11) (d:=some 19) rfl rfl (by kernel_rfl) (by kernel_rfl) (by kernel_rfl) rfl (fun _ _ _ h=>h) (by rfl) (fun w=>by go_simp;try rfl) (fun h=>absurd h (by decide)) ?_;simp only[Act.put,Ja,Jb,Jc];refine Kaa (i:=12) (d:=some 20) rfl rfl (by kernel_rfl) (by kernel_rfl) (by kernel_rfl) rfl (fun _ _ _ h=>h) (by rfl) (fun w=>by go_simp;try rfl) (fun h=>absurd h (by decide)) ?_;simp only[Act.put,Ja,Jb,Jc];refine Kaa (i:=13) (d:=some 21) rfl rfl (by kernel_rfl) (by kernel_rfl) (by kernel_rfl) rfl (fun _ _ _ h=>h) (by rfl) (fun w=>by go_simp;try rfl) (fun h=>absurd h (by decide)) ?_;simp only[Act.put,Ja,Jb,Jc];refine Kaa (i:=14) (d:=some 5) rfl rfl (by kernel_rfl) (by kernel_rfl) (by kernel_rfl) rfl (fun _ _ _ h=>h) (by rfl) (fun w=>by go_simp;try rfl) (fun h=>absurd h (by decide)) ?_;simp only[Act.put,Ja,Jb,Jc];refine Kaa (i:=15) (d:=some 6) rfl rfl (by kernel_rfl) (by kernel_rfl) (by kernel_rfl) rfl (fun _ _ _ h=>h) (by rfl) (fun w=>by go_simp;try rfl) (fun h=>absurd h (by decide)) ?_;simp only[Act.put,Ja,Jb,Jc];refine Kaa (i:=16) (d:=some 7) rfl rfl (by kernel_rfl) (by kernel_rfl) (by kernel_rfl) rfl (fun _ _ _ h=>h) (by rfl) (fun w=>by go_simp;try rfl) (fun h=>absurd h (by decide)) ?_;simp only[Act.put,Ja,Jb,Jc];refine Kau (by kernel_rfl) ?_ _;have HB:=Jh hb;clear hb hS c0 c1;go_wp2_with fail
   refine Kae rfl ?_;exact .inr ⟨hbad,f,hf,rfl,HB.out⟩
theorem Knb (pr i:Nat) (S:ByteArray) (w:World) (h:Rdr pr S i w) (OK:Value→Nat→World→Prop) (BAD:Prop) (hc:Calls Tryz.prog 46 #[.string S,.int .i64 (i:Int)] w.drew (TkO w OK BAD)) :
  Calls Tryz.prog 45 #[.pointer (some ⟨pr,0,none⟩),.func (.func 46) #[] #[]] w (RdTk pr w OK BAD):=by
 have H:=Jh h;have HC:=Jh hc;have c0:w.drew.cell? ⟨pr,0,none⟩=some (.string S):=(show Blk w _ _ _ from h).drew.cell 0;have c1:w.drew.cell? ⟨pr,1,none⟩=some (.int .i64 (i:Int)):=(show Blk w _ _ _ from h).drew.cell 1;clear h hc;go_enter Tryz.func45,Tryz.ntmps45
 go_upto_region 1 with fail
 have hS:w.drew.cell? ⟨pr,0,none⟩=some (.string S)∧w.drew.cell? ⟨pr,1,none⟩=some (.int .i64 (i:Int)):=⟨c0,c1⟩;refine Kca (fun w'=>w'.cell? ⟨pr,0,none⟩=some (.string S)∧w'.cell? ⟨pr,1,none⟩=some (.int .i64 (i:Int))) 9 17 (by kernel_rfl) rfl ?_;rw[show Array.replicate 17 false = #[false,false,false,false,false,false,false,false,false,false,false,false,false,false,false,false,false] from rfl];refine Kaa (i:=0) (d:=some 9) rfl rfl (by kernel_rfl) (by kernel_rfl) (by kernel_rfl) rfl (fun _ _ _ h=>h) (by rfl) (fun w=>by go_simp;try rfl) (fun _=>hS) ?_;simp only[Act.put,Ja,Jb,Jc];refine Kaa (i:=1) (d:=some 10) rfl rfl (by kernel_rfl) (by kernel_rfl) (by kernel_rfl) rfl (fun _ _ _ h=>h) (by rfl) (fun w=>by go_simp;try rfl) (fun _=>hS) ?_;simp only[Act.put,Ja,Jb,Jc];refine Kaa (i:=2) (d:=some 11) rfl rfl (by kernel_rfl) (by kernel_rfl) (by kernel_rfl) rfl (fun _ _ _ h=>h) (by rfl) (fun w=>by go_simp;try rfl) (fun _=>hS) ?_;simp only[Act.put,Ja,Jb,Jc];refine Kaa (i:=3) (d:=some 12) rfl rfl (by kernel_rfl) (by kernel_rfl) (by kernel_rfl) rfl (fun _ _ _ h=>h) (by rfl) (fun w=>by go_simp;try rfl) (fun _=>hS) ?_;simp only[Act.put,Ja,Jb,Jc];refine Kap (i:=4) (d:=some 13) rfl rfl (by kernel_rfl) (by kernel_rfl) (by kernel_rfl) (by kernel_rfl) rfl (fun _ _ _ h=>h) (.inl ⟨by rfl,fun w hw=>by (obtain ⟨ha,hb⟩:=hw;go_simp;try rfl)⟩) hS ?_;simp only[Act.put,Ja,Jb,Jc];refine Kaa (i:=5) (d:=some 14) rfl rfl (by kernel_rfl) (by kernel_rfl) (by kernel_rfl) rfl (fun _ _ _ h=>h) (by rfl) (fun w=>by go_simp;try rfl) (fun _=>hS) ?_;simp only[Act.put,Ja,Jb,Jc];refine Kaa (i:=6) (d:=some 15) rfl rfl (by kernel_rfl) (by kernel_rfl) (by kernel_rfl) rfl (fun _ _ _ h=>h) (by rfl) (fun w=>by go_simp;try rfl) (fun _=>hS) ?_;simp only[Act.put,Ja,Jb,Jc];refine Kaa (i:=7) (d:=some 16) rfl rfl (by kernel_rfl) (by kernel_rfl) (by kernel_rfl) rfl (fun _ _ _ h=>h) (by rfl) (fun w=>by go_simp;try rfl) (fun _=>hS) ?_;simp only[Act.put,Ja,Jb,Jc];refine Kap (i:=8) (d:=some 17) rfl rfl (by kernel_rfl) (by kernel_rfl) (by kernel_rfl) (by kernel_rfl) rfl (fun _ _ _ h=>h) (.inl ⟨by rfl,fun w hw=>by (obtain ⟨ha,hb⟩:=hw;go_simp;try rfl)⟩) hS ?_;simp only[Act.put,Ja,Jb,Jc];refine Kai (i:=9) (by kernel_rfl) rfl rfl ?_;refine Oper.wp_called (d:=some 18) (w1:=w.drew) (g:=46) (args:=#[.string S,.int .i64 (i:Int)]) rfl (by go_simp;try rfl) (N:=fun u w'=>Below w.heap.size w w'∧((∃v j,u = .tuple #[v,.int .i64 ((j:Nat):Int),.int .i64 0]∧OK v j w')∨(BAD∧∃v n f,f≠0∧u = .tuple #[v,n,.int .i64 ((f:Nat):Int)]))) (HC.out.mono ?_) ?_
 ·rintro _ w2 ⟨hb,⟨v,j,rfl,hok⟩ | ⟨hbad,v,n,f,hf,rfl⟩⟩
  ·exact ⟨_,rfl,hb,.inl ⟨v,j,rfl,hok⟩⟩
  ·exact ⟨_,rfl,hb,.inr ⟨hbad,v,n,f,hf,rfl⟩⟩
 ·rintro _ w2 ⟨hb,⟨v,j,rfl,hok⟩ | ⟨hbad,v,n,f,hf,rfl⟩⟩
  ·refine ⟨fun h=>absurd h (by decide),?_⟩;simp only[Act.put,Ja,Jb,Jc];refine Kaa (i:=10) (d:=some 8) rfl rfl (by kernel_rfl) (by kernel_rfl) (by kernel_rfl) rfl (fun _ _ _ h=>h) (by rfl) (fun w=>by go_simp;try rfl) (fun h=>absurd h (by decide)) ?_;simp only[Act.put,Ja,Jb,Jc];refine Kaa (i:=11) (d:=some 19) rfl rfl (by kernel_rfl) (by kernel_rfl) (by kernel_rfl) rfl (fun _ _ _ h=>h) (by rfl) (fun w=>by go_simp;try rfl) (fun h=>absurd h (by decide)) ?_;simp only[Act.put,Ja,Jb,Jc];refine Kaa (i:=12) (d:=some 20) rfl rfl (by kernel_rfl) (by kernel_rfl) (by kernel_rfl) rfl (fun _ _ _ h=>h) (by rfl) (fun w=>by go_simp;try rfl) (fun h=>absurd h (by decide)) ?_;simp only[Act.put,Ja,Jb,Jc];refine Kaa (i:=13) (d:=some 21) rfl rfl (by kernel_rfl) (by kernel_rfl) (by kernel_rfl) rfl (fun _ _ _ h=>h) (by rfl) (fun w=>by go_simp;try rfl) (fun h=>absurd h (by decide)) ?_;simp only[Act.put,Ja,Jb,Jc];refine Kaa (i:=14) (d:=some 5) rfl rfl (by kernel_rfl) (by kernel_rfl) (by kernel_rfl) rfl (fun _ _ _ h=>h) (by rfl) (fun w=>by go_simp;try rfl) (fun h=>absurd h (by decide)) ?_;simp only[Act.put,Ja,Jb,Jc];refine Kaa (i:=15) (d:=some 6) rfl rfl (by kernel_rfl) (by kernel_rfl) (by kernel_rfl) rfl (fun _ _ _ h=>h) (by rfl) (fun w=>by go_simp;try rfl) (fun h=>absurd h (by decide)) ?_;simp only[Act.put,Ja,Jb,Jc];refine Kaa (i:=16) (d:=some 7) rfl rfl (by kernel_rfl) (by kernel_rfl) (by kernel_rfl) rfl (fun _ _ _ h=>h) (by rfl) (fun w=>by go_simp;try rfl) (fun h=>absurd h (by decide)) ?_;simp only[Act.put,Ja,Jb,Jc];refine Kau (by kernel_rfl) ?_ _;have HOK:=Jh hok;have HB:=Jh hb;have hq:=(show Blk w _ _ _ from H.out).below hb (show Blk w _ _ _ from H.out).lt;have d0:w2.cell? ⟨pr,0,none⟩=some (.string S):=hq.cell 0;have d1:w2.cell? ⟨pr,1,none⟩=some (.int .i64 (i:Int)):=hq.cell 1;have f1:w2.frozen? ⟨pr,1,none⟩=false:=hq.frozen 1;clear hok hb hq hS c0 c1;go_wp2_with fail
   go_ret
   exact .inl ⟨v,j,w2,rfl,HOK.out,HB.out,rfl⟩
  ·have e0:((f:Int) != 0)=true:=by simp;omega
   refine ⟨fun h=>absurd h (by decide),?_⟩;simp only[Act.put,Ja,Jb,Jc];refine Kaa (i:=10) (d:=some 8) rfl rfl (by kernel_rfl) (by kernel_rfl) (by kernel_rfl) rfl (fun _ _ _ h=>h) (by rfl) (fun w=>by go_simp;try rfl) (fun h=>absurd h (by decide)) ?_;simp only[Act.put,Ja,Jb,Jc];refine Kaa (i:=11) (d:=some 19) rfl rfl (by kernel_rfl) (by kernel_rfl) (by kernel_rfl) rfl (fun _ _ _ h=>h) (by rfl) (fun w=>by go_simp;try rfl) (fun h=>absurd h (by decide)) ?_;simp only[Act.put,Ja,Jb,Jc];refine Kaa (i:=12) (d:=some 20) rfl rfl (by kernel_rfl) (by kernel_rfl) (by kernel_rfl) rfl (fun _ _ _ h=>h) (by rfl) (fun w=>by go_simp;try rfl) (fun h=>absurd h (by decide)) ?_;simp only[Act.put,Ja,Jb,Jc];refine Kaa (i:=13) (d:=some 21) rfl rfl (by kernel_rfl) (by kernel_rfl) (by kernel_rfl) rfl (fun _ _ _ h=>h) (by rfl) (fun w=>by go_simp;try rfl) (fun h=>absurd h (by decide)) ?_;simp only[Act.put,Ja,Jb,Jc];refine Kaa (i:=14) (d:=some 5) rfl rfl (by kernel_rfl) (by kernel_rfl) (by kernel_rfl) rfl (fun _ _ _ h=>h) (by rfl) (fun w=>by go_simp;try rfl) (fun h=>absurd h (by decide)) ?_;simp only[Act.put,Ja,Jb,Jc];refine Kaa (i:=15) (d:=some 6) rfl rfl (by kernel_rfl) (by kernel_rfl) (by kernel_rfl) rfl (fun _ _ _ h=>h) (by rfl) (fun w=>by go_simp;try rfl) (fun h=>absurd h (by decide)) ?_;simp only[Act.put,Ja,Jb,Jc];refine Kaa (i:=16) (d:=some 7) rfl rfl (by kernel_rfl) (by kernel_rfl) (by kernel_rfl) rfl (fun _ _ _ h=>h) (by rfl) (fun w=>by go_simp;try rfl) (fun h=>absurd h (by decide)) ?_;simp only[Act.put,Ja,Jb,Jc];refine Kau (by kernel_rfl) ?_ _;have HB:=Jh hb;clear hb hS c0 c1;go_wp2_with fail
   refine Kae rfl ?_;exact .inr ⟨hbad,f,hf,rfl,HB.out⟩
theorem Kmx (pr i:Nat) (S:ByteArray) (w:World) (h:Rdr pr S i w) (OK:Value→Nat→World→Prop) (BAD:Prop) (hc:Calls Tryz.prog 104 #[.string S,.int .i64 (i:Int)] w.drew (TkO w OK BAD)) :
  Calls Tryz.prog 103 #[.pointer (some ⟨pr,0,none⟩),.func (.func 104) #[] #[]] w (RdTk pr w OK BAD):=by
 have H:=Jh h;have HC:=Jh hc;have c0:w.drew.cell? ⟨pr,0,none⟩=some (.string S):=(show Blk w _ _ _ from h).drew.cell 0;have c1:w.drew.cell? ⟨pr,1,none⟩=some (.int .i64 (i:Int)):=(show Blk w _ _ _ from h).drew.cell 1;clear h hc;go_enter Tryz.func103,Tryz.ntmps103
 go_upto_region 1 with fail
 have hS:w.drew.cell? ⟨pr,0,none⟩=some (.string S)∧w.drew.cell? ⟨pr,1,none⟩=some (.int .i64 (i:Int)):=⟨c0,c1⟩;refine Kca (fun w'=>w'.cell? ⟨pr,0,none⟩=some (.string S)∧w'.cell? ⟨pr,1,none⟩=some (.int .i64 (i:Int))) 9 17 (by kernel_rfl) rfl ?_;rw[show Array.replicate 17 false = #[false,false,false,false,false,false,false,false,false,false,false,false,false,false,false,false,false] from rfl];refine Kaa (i:=0) (d:=some 9) rfl rfl (by kernel_rfl) (by kernel_rfl) (by kernel_rfl) rfl (fun _ _ _ h=>h) (by rfl) (fun w=>by go_simp;try rfl) (fun _=>hS) ?_;simp only[Act.put,Ja,Jb,Jc];refine Kaa (i:=1) (d:=some 10) rfl rfl (by kernel_rfl) (by kernel_rfl) (by kernel_rfl) rfl (fun _ _ _ h=>h) (by rfl) (fun w=>by go_simp;try rfl) (fun _=>hS) ?_;simp only[Act.put,Ja,Jb,Jc];refine Kaa (i:=2) (d:=some 11) rfl rfl (by kernel_rfl) (by kernel_rfl) (by kernel_rfl) rfl (fun _ _ _ h=>h) (by rfl) (fun w=>by go_simp;try rfl) (fun _=>hS) ?_;simp only[Act.put,Ja,Jb,Jc];refine Kaa (i:=3) (d:=some 12) rfl rfl (by kernel_rfl) (by kernel_rfl) (by kernel_rfl) rfl (fun _ _ _ h=>h) (by rfl) (fun w=>by go_simp;try rfl) (fun _=>hS) ?_;simp only[Act.put,Ja,Jb,Jc];refine Kap (i:=4) (d:=some 13) rfl rfl (by kernel_rfl) (by kernel_rfl) (by kernel_rfl) (by kernel_rfl) rfl (fun _ _ _ h=>h) (.inl ⟨by rfl,fun w hw=>by (obtain ⟨ha,hb⟩:=hw;go_simp;try rfl)⟩) hS ?_;simp only[Act.put,Ja,Jb,Jc];refine Kaa (i:=5) (d:=some 14) rfl rfl (by kernel_rfl) (by kernel_rfl) (by kernel_rfl) rfl (fun _ _ _ h=>h) (by rfl) (fun w=>by go_simp;try rfl) (fun _=>hS) ?_;simp only[Act.put,Ja,Jb,Jc];refine Kaa (i:=6) (d:=some 15) rfl rfl (by kernel_rfl) (by kernel_rfl) (by kernel_rfl) rfl (fun _ _ _ h=>h) (by rfl) (fun w=>by go_simp;try rfl) (fun _=>hS) ?_;simp only[Act.put,Ja,Jb,Jc];refine Kaa (i:=7) (d:=some 16) rfl rfl (by kernel_rfl) (by kernel_rfl) (by kernel_rfl) rfl (fun _ _ _ h=>h) (by rfl) (fun w=>by go_simp;try rfl) (fun _=>hS) ?_;simp only[Act.put,Ja,Jb,Jc];refine Kap (i:=8) (d:=some 17) rfl rfl (by kernel_rfl) (by kernel_rfl) (by kernel_rfl) (by kernel_rfl) rfl (fun _ _ _ h=>h) (.inl ⟨by rfl,fun w hw=>by (obtain ⟨ha,hb⟩:=hw;go_simp;try rfl)⟩) hS ?_;simp only[Act.put,Ja,Jb,Jc];refine Kai (i:=9) (by kernel_rfl) rfl rfl ?_;refine Oper.wp_called (d:=some 18) (w1:=w.drew) (g:=104) (args:=#[.string S,.int .i64 (i:Int)]) rfl (by go_simp;try rfl) (N:=fun u w'=>Below w.heap.size w w'∧((∃v j,u = .tuple #[v,.int .i64 ((j:Nat):Int),.int .i64 0]∧OK v j w')∨(BAD∧∃v n f,f≠0∧u = .tuple #[v,n,.int .i64 ((f:Nat):Int)]))) (HC.out.mono ?_) ?_
 ·rintro _ w2 ⟨hb,⟨v,j,rfl,hok⟩ | ⟨hbad,v,n,f,hf,rfl⟩⟩
  ·exact ⟨_,rfl,hb,.inl ⟨v,j,rfl,hok⟩⟩
  ·exact ⟨_,rfl,hb,.inr ⟨hbad,v,n,f,hf,rfl⟩⟩
 ·rintro _ w2 ⟨hb,⟨v,j,rfl,hok⟩ | ⟨hbad,v,n,f,hf,rfl⟩⟩
  ·refine ⟨fun h=>absurd h (by decide),?_⟩;simp only[Act.put,Ja,Jb,Jc];refine Kaa (i:=10) (d:=some 8) rfl rfl (by kernel_rfl) (by kernel_rfl) (by kernel_rfl) rfl (fun _ _ _ h=>h) (by rfl) (fun w=>by go_simp;try rfl) (fun h=>absurd h (by decide)) ?_;simp only[Act.put,Ja,Jb,Jc];refine Kaa (i:=11) (d:=some 19) rfl rfl (by kernel_rfl) (by kernel_rfl) (by kernel_rfl) rfl (fun _ _ _ h=>h) (by rfl) (fun w=>by go_simp;try rfl) (fun h=>absurd h (by decide)) ?_;simp only[Act.put,Ja,Jb,Jc];refine Kaa (i:=12) (d:=some 20) rfl rfl (by kernel_rfl) (by kernel_rfl) (by kernel_rfl) rfl (fun _ _ _ h=>h) (by rfl) (fun w=>by go_simp;try rfl) (fun h=>absurd h (by decide)) ?_;simp only[Act.put,Ja,Jb,Jc];refine Kaa (i:=13) (d:=some 21) rfl rfl (by kernel_rfl) (by kernel_rfl) (by kernel_rfl) rfl (fun _ _ _ h=>h) (by rfl) (fun w=>by go_simp;try rfl) (fun h=>absurd h (by decide)) ?_;simp only[Act.put,Ja,Jb,Jc];refine Kaa (i:=14) (d:=some 5) rfl rfl (by kernel_rfl) (by kernel_rfl) (by kernel_rfl) rfl (fun _ _ _ h=>h) (by rfl) (fun w=>by go_simp;try rfl) (fun h=>absurd h (by decide)) ?_;simp only[Act.put,Ja,Jb,Jc];refine Kaa (i:=15) (d:=some 6) rfl rfl (by kernel_rfl) (by kernel_rfl) (by kernel_rfl) rfl (fun _ _ _ h=>h) (by rfl) (fun w=>by go_simp;try rfl) (fun h=>absurd h (by decide)) ?_;simp only[Act.put,Ja,Jb,Jc];refine Kaa (i:=16) (d:=some 7) rfl rfl (by kernel_rfl) (by kernel_rfl) (by kernel_rfl) rfl (fun _ _ _ h=>h) (by rfl) (fun w=>by go_simp;try rfl) (fun h=>absurd h (by decide)) ?_;simp only[Act.put,Ja,Jb,Jc];refine Kau (by kernel_rfl) ?_ _;have HOK:=Jh hok;have HB:=Jh hb;have hq:=(show Blk w _ _ _ from H.out).below hb (show Blk w _ _ _ from H.out).lt;have d0:w2.cell? ⟨pr,0,none⟩=some (.string S):=hq.cell 0;have d1:w2.cell? ⟨pr,1,none⟩=some (.int .i64 (i:Int)):=hq.cell 1;have f1:w2.frozen? ⟨pr,1,none⟩=false:=hq.frozen 1;clear hok hb hq hS c0 c1;go_wp2_with fail
   go_ret
   exact .inl ⟨v,j,w2,rfl,HOK.out,HB.out,rfl⟩
  ·have e0:((f:Int) != 0)=true:=by simp;omega
   refine ⟨fun h=>absurd h (by decide),?_⟩;simp only[Act.put,Ja,Jb,Jc];refine Kaa (i:=10) (d:=some 8) rfl rfl (by kernel_rfl) (by kernel_rfl) (by kernel_rfl) rfl (fun _ _ _ h=>h) (by rfl) (fun w=>by go_simp;try rfl) (fun h=>absurd h (by decide)) ?_;simp only[Act.put,Ja,Jb,Jc];refine Kaa (i:=11) (d:=some 19) rfl rfl (by kernel_rfl) (by kernel_rfl) (by kernel_rfl) rfl (fun _ _ _ h=>h) (by rfl) (fun w=>by go_simp;try rfl) (fun h=>absurd h (by decide)) ?_;simp only[Act.put,Ja,Jb,Jc];refine Kaa (i:=12) (d:=some 20) rfl rfl (by kernel_rfl) (by kernel_rfl) (by kernel_rfl) rfl (fun _ _ _ h=>h) (by rfl) (fun w=>by go_simp;try rfl) (fun h=>absurd h (by decide)) ?_;simp only[Act.put,Ja,Jb,Jc];refine Kaa (i:=13) (d:=some 21) rfl rfl (by kernel_rfl) (by kernel_rfl) (by kernel_rfl) rfl (fun _ _ _ h=>h) (by rfl) (fun w=>by go_simp;try rfl) (fun h=>absurd h (by decide)) ?_;simp only[Act.put,Ja,Jb,Jc];refine Kaa (i:=14) (d:=some 5) rfl rfl (by kernel_rfl) (by kernel_rfl) (by kernel_rfl) rfl (fun _ _ _ h=>h) (by rfl) (fun w=>by go_simp;try rfl) (fun h=>absurd h (by decide)) ?_;simp only[Act.put,Ja,Jb,Jc];refine Kaa (i:=15) (d:=some 6) rfl rfl (by kernel_rfl) (by kernel_rfl) (by kernel_rfl) rfl (fun _ _ _ h=>h) (by rfl) (fun w=>by go_simp;try rfl) (fun h=>absurd h (by decide)) ?_;simp only[Act.put,Ja,Jb,Jc];refine Kaa (i:=16) (d:=some 7) rfl rfl (by kernel_rfl) (by kernel_rfl) (by kernel_rfl) rfl (fun _ _ _ h=>h) (by rfl) (fun w=>by go_simp;try rfl) (fun h=>absurd h (by decide)) ?_;simp only[Act.put,Ja,Jb,Jc];refine Kau (by kernel_rfl) ?_ _;have HB:=Jh hb;clear hb hS c0 c1;go_wp2_with fail
   refine Kae rfl ?_;exact .inr ⟨hbad,f,hf,rfl,HB.out⟩
theorem Kmz (pr i:Nat) (S:ByteArray) (tv:Value) (w:World) (h:Rdr pr S i w) (OK:Value→Nat→World→Prop) (BAD:Prop) (hc:Calls Tryz.prog 100 #[tv,.string S,.int .i64 (i:Int)] w.drew (TkO w OK BAD)) :
  Calls Tryz.prog 99 #[.pointer (some ⟨pr,0,none⟩),.func (.func 100) #[tv] #[]] w (RdTk pr w OK BAD):=by
 have H:=Jh h;have HC:=Jh hc;have c0:w.drew.cell? ⟨pr,0,none⟩=some (.string S):=(show Blk w _ _ _ from h).drew.cell 0;have c1:w.drew.cell? ⟨pr,1,none⟩=some (.int .i64 (i:Int)):=(show Blk w _ _ _ from h).drew.cell 1;clear h hc;go_enter Tryz.func99,Tryz.ntmps99
 go_upto_region 1 with fail
 have hS:w.drew.cell? ⟨pr,0,none⟩=some (.string S)∧w.drew.cell? ⟨pr,1,none⟩=some (.int .i64 (i:Int)):=⟨c0,c1⟩;refine Kca (fun w'=>w'.cell? ⟨pr,0,none⟩=some (.string S)∧w'.cell? ⟨pr,1,none⟩=some (.int .i64 (i:Int))) 9 17 (by kernel_rfl) rfl ?_;rw[show Array.replicate 17 false = #[false,false,false,false,false,false,false,false,false,false,false,false,false,false,false,false,false] from rfl];refine Kaa (i:=0) (d:=some 9) rfl rfl (by kernel_rfl) (by kernel_rfl) (by kernel_rfl) rfl (fun _ _ _ h=>h) (by rfl) (fun w=>by go_simp;try rfl) (fun _=>hS) ?_;simp only[Act.put,Ja,Jb,Jc];refine Kaa (i:=1) (d:=some 10) rfl rfl (by kernel_rfl) (by kernel_rfl) (by kernel_rfl) rfl (fun _ _ _ h=>h) (by rfl) (fun w=>by go_simp;try rfl) (fun _=>hS) ?_;simp only[Act.put,Ja,Jb,Jc];refine Kaa (i:=2) (d:=some 11) rfl rfl (by kernel_rfl) (by kernel_rfl) (by kernel_rfl) rfl (fun _ _ _ h=>h) (by rfl) (fun w=>by go_simp;try rfl) (fun _=>hS) ?_;simp only[Act.put,Ja,Jb,Jc];refine Kaa (i:=3) (d:=some 12) rfl rfl (by kernel_rfl) (by kernel_rfl) (by kernel_rfl) rfl (fun _ _ _ h=>h) (by rfl) (fun w=>by go_simp;try rfl) (fun _=>hS) ?_;simp only[Act.put,Ja,Jb,Jc];refine Kap (i:=4) (d:=some 13) rfl rfl (by kernel_rfl) (by kernel_rfl) (by kernel_rfl) (by kernel_rfl) rfl (fun _ _ _ h=>h) (.inl ⟨by rfl,fun w hw=>by (obtain ⟨ha,hb⟩:=hw;go_simp;try rfl)⟩) hS ?_;simp only[Act.put,Ja,Jb,Jc];refine Kaa (i:=5) (d:=some 14) rfl rfl (by kernel_rfl) (by kernel_rfl) (by kernel_rfl) rfl (fun _ _ _ h=>h) (by rfl) (fun w=>by go_simp;try rfl) (fun _=>hS) ?_;simp only[Act.put,Ja,Jb,Jc];refine Kaa (i:=6) (d:=some 15) rfl rfl (by kernel_rfl) (by kernel_rfl) (by kernel_rfl) rfl (fun _ _ _ h=>h) (by rfl) (fun w=>by go_simp;try rfl) (fun _=>hS) ?_;simp only[Act.put,Ja,Jb,Jc];refine Kaa (i:=7) (d:=some 16) rfl rfl (by kernel_rfl) (by kernel_rfl) (by kernel_rfl) rfl (fun _ _ _ h=>h) (by rfl) (fun w=>by go_simp;try rfl) (fun _=>hS) ?_;simp only[Act.put,Ja,Jb,Jc];refine Kap (i:=8) (d:=some 17) rfl rfl (by kernel_rfl) (by kernel_rfl) (by kernel_rfl) (by kernel_rfl) rfl (fun _ _ _ h=>h) (.inl ⟨by rfl,fun w hw=>by (obtain ⟨ha,hb⟩:=hw;go_simp;try rfl)⟩) hS ?_;simp only[Act.put,Ja,Jb,Jc];refine Kai (i:=9) (by kernel_rfl) rfl rfl ?_;refine Oper.wp_called (d:=some 18) (w1:=w.drew) (g:=100) (args:=#[tv,.string S,.int .i64 (i:Int)]) rfl (by go_simp;try rfl) (N:=fun u w'=>Below w.heap.size w w'∧((∃v j,u = .tuple #[v,.int .i64 ((j:Nat):Int),.int .i64 0]∧OK v j w')∨(BAD∧∃v n f,f≠0∧u = .tuple #[v,n,.int .i64 ((f:Nat):Int)]))) (HC.out.mono ?_) ?_
 ·rintro _ w2 ⟨hb,⟨v,j,rfl,hok⟩ | ⟨hbad,v,n,f,hf,rfl⟩⟩
  ·exact ⟨_,rfl,hb,.inl ⟨v,j,rfl,hok⟩⟩
  ·exact ⟨_,rfl,hb,.inr ⟨hbad,v,n,f,hf,rfl⟩⟩
 ·rintro _ w2 ⟨hb,⟨v,j,rfl,hok⟩ | ⟨hbad,v,n,f,hf,rfl⟩⟩
  ·refine ⟨fun h=>absurd h (by decide),?_⟩;simp only[Act.put,Ja,Jb,Jc];refine Kaa (i:=10) (d:=some 8) rfl rfl (by kernel_rfl) (by kernel_rfl) (by kernel_rfl) rfl (fun _ _ _ h=>h) (by rfl) (fun w=>by go_simp;try rfl) (fun h=>absurd h (by decide)) ?_;simp only[Act.put,Ja,Jb,Jc];refine Kaa (i:=11) (d:=some 19) rfl rfl (by kernel_rfl) (by kernel_rfl) (by kernel_rfl) rfl (fun _ _ _ h=>h) (by rfl) (fun w=>by go_simp;try rfl) (fun h=>absurd h (by decide)) ?_;simp only[Act.put,Ja,Jb,Jc];refine Kaa (i:=12) (d:=some 20) rfl rfl (by kernel_rfl) (by kernel_rfl) (by kernel_rfl) rfl (fun _ _ _ h=>h) (by rfl) (fun w=>by go_simp;try rfl) (fun h=>absurd h (by decide)) ?_;simp only[Act.put,Ja,Jb,Jc];refine Kaa (i:=13) (d:=some 21) rfl rfl (by kernel_rfl) (by kernel_rfl) (by kernel_rfl) rfl (fun _ _ _ h=>h) (by rfl) (fun w=>by go_simp;try rfl) (fun h=>absurd h (by decide)) ?_;simp only[Act.put,Ja,Jb,Jc];refine Kaa (i:=14) (d:=some 5) rfl rfl (by kernel_rfl) (by kernel_rfl) (by kernel_rfl) rfl (fun _ _ _ h=>h) (by rfl) (fun w=>by go_simp;try rfl) (fun h=>absurd h (by decide)) ?_;simp only[Act.put,Ja,Jb,Jc];refine Kaa (i:=15) (d:=some 6) rfl rfl (by kernel_rfl) (by kernel_rfl) (by kernel_rfl) rfl (fun _ _ _ h=>h) (by rfl) (fun w=>by go_simp;try rfl) (fun h=>absurd h (by decide)) ?_;simp only[Act.put,Ja,Jb,Jc];refine Kaa (i:=16) (d:=some 7) rfl rfl (by kernel_rfl) (by kernel_rfl) (by kernel_rfl) rfl (fun _ _ _ h=>h) (by rfl) (fun w=>by go_simp;try rfl) (fun h=>absurd h (by decide)) ?_;simp only[Act.put,Ja,Jb,Jc];refine Kau (by kernel_rfl) ?_ _;have HOK:=Jh hok;have HB:=Jh hb;have hq:=(show Blk w _ _ _ from H.out).below hb (show Blk w _ _ _ from H.out).lt;have d0:w2.cell? ⟨pr,0,none⟩=some (.string S):=hq.cell 0;have d1:w2.cell? ⟨pr,1,none⟩=some (.int .i64 (i:Int)):=hq.cell 1;have f1:w2.frozen? ⟨pr,1,none⟩=false:=hq.frozen 1;clear hok hb hq hS c0 c1;go_wp2_with fail
   go_ret
   exact .inl ⟨v,j,w2,rfl,HOK.out,HB.out,rfl⟩
  ·have e0:((f:Int) != 0)=true:=by simp;omega
   refine ⟨fun h=>absurd h (by decide),?_⟩;simp only[Act.put,Ja,Jb,Jc];refine Kaa (i:=10) (d:=some 8) rfl rfl (by kernel_rfl) (by kernel_rfl) (by kernel_rfl) rfl (fun _ _ _ h=>h) (by rfl) (fun w=>by go_simp;try rfl) (fun h=>absurd h (by decide)) ?_;simp only[Act.put,Ja,Jb,Jc];refine Kaa (i:=11) (d:=some 19) rfl rfl (by kernel_rfl) (by kernel_rfl) (by kernel_rfl) rfl (fun _ _ _ h=>h) (by rfl) (fun w=>by go_simp;try rfl) (fun h=>absurd h (by decide)) ?_;simp only[Act.put,Ja,Jb,Jc];refine Kaa (i:=12) (d:=some 20) rfl rfl (by kernel_rfl) (by kernel_rfl) (by kernel_rfl) rfl (fun _ _ _ h=>h) (by rfl) (fun w=>by go_simp;try rfl) (fun h=>absurd h (by decide)) ?_;simp only[Act.put,Ja,Jb,Jc];refine Kaa (i:=13) (d:=some 21) rfl rfl (by kernel_rfl) (by kernel_rfl) (by kernel_rfl) rfl (fun _ _ _ h=>h) (by rfl) (fun w=>by go_simp;try rfl) (fun h=>absurd h (by decide)) ?_;simp only[Act.put,Ja,Jb,Jc];refine Kaa (i:=14) (d:=some 5) rfl rfl (by kernel_rfl) (by kernel_rfl) (by kernel_rfl) rfl (fun _ _ _ h=>h) (by rfl) (fun w=>by go_simp;try rfl) (fun h=>absurd h (by decide)) ?_;simp only[Act.put,Ja,Jb,Jc];refine Kaa (i:=15) (d:=some 6) rfl rfl (by kernel_rfl) (by kernel_rfl) (by kernel_rfl) rfl (fun _ _ _ h=>h) (by rfl) (fun w=>by go_simp;try rfl) (fun h=>absurd h (by decide)) ?_;simp only[Act.put,Ja,Jb,Jc];refine Kaa (i:=16) (d:=some 7) rfl rfl (by kernel_rfl) (by kernel_rfl) (by kernel_rfl) rfl (fun _ _ _ h=>h) (by rfl) (fun w=>by go_simp;try rfl) (fun h=>absurd h (by decide)) ?_;simp only[Act.put,Ja,Jb,Jc];refine Kau (by kernel_rfl) ?_ _;have HB:=Jh hb;clear hb hS c0 c1;go_wp2_with fail
   refine Kae rfl ?_;exact .inr ⟨hbad,f,hf,rfl,HB.out⟩
end
section
def symR (t:List Txt) (s:List UInt8) (k:Int):Txt×Nat×Nat:=
 if (Kar s k).2.2≠0 then ([],0,(Kar s k).2.2) else if t.length≤(Kar s k).1 then ([],0,50) else (t[(Kar s k).1]!,(Kar s k).2.1,0)
def Kfu (out:List Lb) (x:Txt):Bool:=decide (0 < out.length∧¬(out[out.length - 1]!).n < x)
def unpL (t:List Txt) (s:List UInt8):Nat→List Lb→Nat→List Lb×Nat×Nat
 | 0,out,p=>(out,p,0)
 | g+1,out,p=>
  if (symR t s p).2.2≠0 then ([],0,(symR t s p).2.2) else
  if (symR t s (symR t s p).2.1).2.2≠0 then ([],0,(symR t s (symR t s p).2.1).2.2) else
  if fitN (symR t s p).1=false then ([],0,40) else
  if fitV (symR t s (symR t s p).2.1).1=false then ([],0,41) else
  if Kfu out (symR t s p).1=true then ([],0,42) else
  unpL t s g (out ++ [⟨(symR t s p).1,(symR t s (symR t s p).2.1).1⟩]) (symR t s (symR t s p).2.1).2.1
def unpR (t:List Txt) (s:List UInt8) (k:Int):List Lb×Nat×Nat:=
 if (Kar s k).2.2≠0 then ([],0,(Kar s k).2.2) else if (Kar s k).1=0 then ([],0,43) else if 8 < (Kar s k).1 then ([],0,44) else unpL t s (Kar s k).1 [] (Kar s k).2.1
theorem Kww {t:List Txt} {s:List UInt8} {k:Int} {x:Txt} {n e:Nat} (h:symR t s k=(x,n,e)):x = []∨x∈t:=by
 unfold symR at h
 split at h
 ·injection h with h _;exact .inl h.symm
 ·split at h
  ·injection h with h _;exact .inl h.symm
  ·rename_i hlt
   injection h with h _;right;rw[←h,getElem!_pos t _ (by omega)];exact List.getElem_mem _
theorem Kyn (x:Lb):Kav [x]=if fitN x.n=false then 40 else if fitV x.v=false then 41 else 0:=by
 simp[Kav,Kck]
end
section
open List renaming length_append → Jd
theorem Kue {t:List Txt} (ha:Asc t) {x:Txt} (hx:x∈t):t[below t x]? = some x:=by
 obtain ⟨i,hi,e⟩:=List.getElem_of_mem hx;have h1:t[i]? = some x:=by rw[List.getElem?_eq_getElem hi,e]
 rw[Qhi ha h1];exact h1
theorem Kyp {t:List Txt} (ha:Asc t) {x:Txt} (hx:x∈t):numR t x=(below t x,0):=by rw[numR,if_pos (Kue ha hx)]
def pkS (t:List Txt) (xs:List Txt):List UInt8:=xs.flatMap fun x=>uintT (below t x)
def pk (t:List Txt) (l:List Lb):List UInt8:=uintT l.length++pkS t (texts l)
theorem Kju (t:List Txt) (x:Txt) (r:List Txt):pkS t (x :: r)=uintT (below t x)++pkS t r:=rfl
theorem Ksc {t:List Txt} (ha:Asc t):∀xs:List Txt,(∀x∈xs,x∈t)→packS t xs=some (pkS t xs)
 | [],_=>rfl
 | x :: r,h=>by
  rw[packS,Kyp ha (h x (by simp)),Ksc ha r (fun y hy=>h y (by simp[hy]))];simp[Kju]
theorem Qfx {t:List Txt} (ha:Asc t) {l:List Lb} (he:Kcz l=0) (h:∀x∈texts l,x∈t):packR t l=(pk t l,0):=by
 rw[packR,he,Ksc ha _ h];simp[pk]
theorem Kms (pre post:List UInt8) {v:Nat} (hv:v < 2 ^ 64):Kar (pre++(uintT v++post)) (pre.length:Int)=(v,pre.length+(uintT v).length,0):=by
 rw[Kfp,List.drop_left,Kev hv];rfl
theorem Ksj {t:List Txt} (ha:Asc t) (ht:t.length < 2 ^ 64) (pre post:List UInt8) {x:Txt} (hx:x∈t):symR t (pre++(uintT (below t x)++post)) (pre.length:Int)=(x,pre.length+(uintT (below t x)).length,0):=by
 have hb:=Kue ha hx;have hl:below t x < t.length:=(List.getElem?_eq_some_iff.1 hb).1;have hr:=Kms pre post (v:=below t x) (by omega);unfold symR;rw[hr];simp only[ne_eq,not_true_eq_false,if_false];rw[if_neg (by omega),getElem!_pos t _ hl];rw[List.getElem?_eq_getElem hl] at hb;injection hb with hb;rw[hb]
theorem Kzi {out l:List Lb} {x:Lb} (h:(names (out++x :: l)).Pairwise (· < ·)):Kfu out x.n=false:=by
 unfold Kfu;rw[decide_eq_false_iff_not];rintro ⟨h0,h1⟩;apply h1;rw[getElem!_pos out _ (by omega)];unfold names at h;rw[List.map_append,List.pairwise_append] at h;exact h.2.2 _ (List.mem_map_of_mem (List.getElem_mem _)) _ (by simp)
theorem Ksn {t:List Txt} (ha:Asc t) (ht:t.length < 2 ^ 64):∀(l out:List Lb) (pre post:List UInt8),(∀x∈l,fitN x.n=true∧fitV x.v=true)→(names (out++l)).Pairwise (· < ·)→(∀x∈texts l,x∈t)→
  unpL t (pre++(pkS t (texts l)++post)) l.length out pre.length=(out++l,pre.length+(pkS t (texts l)).length,0)
 | [],out,pre,post,_,_,_=>by simp[unpL,texts,pkS]
 | x :: l,out,pre,post,hf,hn,hm=>by
  rw[Khg] at hm ⊢;rw[Kju,Kju,List.length_cons,unpL];have hx1:x.n∈t:=hm _ (by simp);have hx2:x.v∈t:=hm _ (by simp);have e1:pre++((uintT (below t x.n)++(uintT (below t x.v)++pkS t (texts l)))++post)=pre++(uintT (below t x.n)++(uintT (below t x.v)++(pkS t (texts l)++post))):=by simp
  have s1:=Ksj ha ht pre (uintT (below t x.v)++(pkS t (texts l)++post)) hx1;have e2:pre++(uintT (below t x.n)++(uintT (below t x.v)++(pkS t (texts l)++post)))=(pre++uintT (below t x.n))++(uintT (below t x.v)++(pkS t (texts l)++post)):=by simp
  have s2:=Ksj ha ht (pre++uintT (below t x.n)) (pkS t (texts l)++post) hx2;rw[←e2,Jd] at s2;have e3:pre++(uintT (below t x.n)++(uintT (below t x.v)++(pkS t (texts l)++post)))=(pre++uintT (below t x.n)++uintT (below t x.v))++(pkS t (texts l)++post):=by simp
  have ih:=Ksn ha ht l (out ++ [x]) (pre++uintT (below t x.n)++uintT (below t x.v)) post (fun y hy=>hf y (by simp[hy])) (by simpa using hn) (fun y hy=>hm y (by simp[hy]));rw[←e3,Jd,Jd] at ih;obtain ⟨f1,f2⟩:=hf x (by simp);have htl:=Kzi hn;rw[e1,s1];simp only[];rw[s2];simp only[ne_eq,not_true_eq_false,if_false,f1,f2,htl,Bool.false_eq_true,Bool.true_eq_false];rw[ih];simp[Nat.add_assoc]
theorem Qgv {t:List Txt} (ha:Asc t) (ht:t.length < 2 ^ 64) {l:List Lb} (he:Kcz l=0) (hm:∀x∈texts l,x∈t) (pre post:List UInt8) :
  unpR t (pre++(pk t l++post)) (pre.length:Int)=(l,pre.length+(pk t l).length,0):=by
 have hmk:Kav l=0:=by
  rcases Khq l with ⟨h1,h2⟩ | ⟨h1,_⟩ | ⟨h1,_⟩
  ·rw[h2] at he;exact he
  ·exact h1
  ·exact h1
 have hpw:(names l).Pairwise (· < ·):=by
  unfold Kcz at he;rw[if_neg (by simp[hmk])] at he
  split at he
  ·assumption
  ·omega
 obtain ⟨h0,h8,hf,_⟩:=Keb hmk;have hr:=Kms pre (pkS t (texts l)++post) (v:=l.length) (by omega);unfold pk;rw[List.append_assoc,unpR,hr];simp only[ne_eq,not_true_eq_false,if_false];rw[if_neg h0,if_neg (by omega)];have:=Ksn ha ht l [] (pre++uintT l.length) post hf (by simpa using hpw) hm;rw[Jd,List.append_assoc] at this;rw[this];simp[Nat.add_assoc]
theorem Qai (t:List Txt):∀xs:List Txt,(pkS t xs).length≤11*xs.length
 | []=>by simp[pkS]
 | x :: r=>by
  have h1:=Qai t r;have h2:=Kam (below t x);rw[Kju,Jd,List.length_cons];omega
theorem Qmh (t:List Txt) (l:List Lb):(pk t l).length≤11+22*l.length:=by
 have h1:=Qai t (texts l);have h2:=Kam l.length
 have h3:(texts l).length=2*l.length:=by
  clear h1 h2
  induction l with
  | nil=>rfl
  | cons x l ih=>rw[Khg,List.length_cons,List.length_cons,ih,List.length_cons];omega
 unfold pk;rw[Jd];omega
end
end Go.Proofs.YtefpndiiedkmpaaGreatDoor
