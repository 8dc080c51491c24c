/- Merged (what the claim wants of): KptRdP, KptFitA, KptFitB, KptSerie, ShelfD, KptSort, KptFitD. -/
import Derived.Test.YtefpndiiedkmpaaGreatDoorKpw05
import Derived.Test.YtefpndiiedkmpaaGreatDoorKpw06
import Derived.Test.YtefpndiiedkmpaaGreatDoorKpw07
import Derived.Test.YtefpndiiedkmpaaGreatDoorKpw01
import Derived.Shelf.SlSortCmp.NoneTotal
import Derived.Test.YtefpndiiedkmpaaGreatDoorProg
set_option linter.unusedVariables false
set_option linter.unusedSimpArgs false
set_option maxRecDepth 100000
set_option maxHeartbeats 8000000
namespace Go.Proofs.YtefpndiiedkmpaaGreatDoor
section
open Go.RowKit Go.Shelf Go.Sort
theorem Krl {I:List UInt8}:∀(g:Nat) (out:List Txt) (i:Nat) {t:List Txt} {j:Nat},Ker I g out i=some (t,j)→(∀x∈out,x.length≤I.length)→out.length≤i→i≤I.length→(∀x∈t,x.length≤I.length)∧t.length≤I.length
 | 0,out,i,t,j,h,ho,hi,hl=>by
  injection h with h;injection h with h _;subst h;exact ⟨ho,by omega⟩
 | g+1,out,i,t,j,h,ho,hi,hl=>by
  rw[Ker] at h;obtain ⟨x,n,e,hr⟩:∃x n e,Kbk I (i:Int)=(x,n,e):=⟨_,_,_,rfl⟩;rw[hr] at h;dsimp only at h
  by_cases he:e=0
  ·subst he;rw[if_neg (by simp)] at h
   split at h
   ·cases h
   ·obtain ⟨h1,h2,h3⟩:=Kel hr;refine Krl g _ _ h (fun y hy=>?_) (by rw[List.length_append,List.length_singleton];omega) h2;rcases List.mem_append.1 hy with h4 | h4
    ·exact ho y h4
    ·rw[List.mem_singleton.1 h4];exact h3
  ·rw[if_pos he] at h;cases h
theorem Qmk {I:List UInt8} {t:List Txt} {j:Nat} (h:tabR I 0=some (t,j)):(∀x∈t,x.length≤I.length)∧t.length≤I.length:=by
 unfold tabR at h
 split at h
 ·cases h
 ·rename_i he
  obtain ⟨v,n,e,hr⟩:∃v n e,Kar I ((0:Nat):Int)=(v,n,e):=⟨_,_,_,rfl⟩;rw[hr] at h he;have he0:e=0:=by simpa using he
  subst he0
  have hru:ruAt I 0=some (v,n):=by
   rcases Kgk I 0 with ⟨a,b,h1,h2,_⟩ | ⟨a,b,c,h1,h2,_⟩
   ·rw[hr] at h1;injection h1 with h1 h3;injection h3 with h3 _;rw[h2,h1,h3]
   ·rw[hr] at h1;injection h1 with _ h3;injection h3 with _ h3;exact absurd h3.symm h2
  exact Krl _ _ _ h (by simp) (Nat.zero_le _) (Kys hru)
def BadE (e:Ending):Prop:=∃t x,e = .panicked [{ v:=.iface t x,recovered:=false }]
theorem BadE.fault (f:Nat):BadE (Kaz f):=⟨_,_,rfl⟩
theorem Kun (t:List Txt) (s:List UInt8):∀(g:Nat) (out:List Lb) (p:Nat),(unpL t s g out p).1.length≤out.length+g
 | 0,out,p=>by simp[unpL]
 | g+1,out,p=>by
  rw[unpL]
  repeat' split
  all_goals (try simp)
  refine Nat.le_trans (Kun t s g _ _) ?_;simp;omega
theorem Qjs (t:List Txt) (s:List UInt8) (k:Int):(unpR t s k).1.length≤8:=by
 unfold unpR
 repeat' split
 all_goals (try simp)
 have:=Kun t s (Kar s k).1 [] (Kar s k).2.1;simp at this;omega
def LabOk (l:List Lb):Prop:=l.length≤8∧(∀y∈l,y.n.length≤32∧y.v.length≤64)∧(names l).Pairwise (· < ·)
theorem Qlc {out:List Lb} {y:Lb} (h:(names out).Pairwise (· < ·)) (hl:Kga out y.n=false):(names (out ++ [y])).Pairwise (· < ·):=by
 unfold names at *;rw[List.map_append,List.pairwise_append];refine ⟨h,List.pairwise_singleton _ _,fun a ha b hb=>?_⟩;have e:b=y.n:=by simpa using hb
 subst e;unfold Kga at hl;rw[decide_eq_false_iff_not] at hl
 have hne:0 < out.length:=by
  rcases out with _ | ⟨x,l⟩
  ·simp at ha
  ·simp
 have hlast:(out[out.length - 1]!).n < y.n:=Decidable.byContradiction fun hc=>hl ⟨hne,hc⟩
 obtain ⟨x,hx,rfl⟩:=List.mem_map.1 ha;obtain ⟨k,hk,rfl⟩:=List.mem_iff_getElem.1 hx;rw[getElem!_pos _ _ (by omega)] at hlast
 by_cases he:k=out.length - 1
 ·subst he;exact hlast
 ·have hp:=List.pairwise_iff_getElem.1 h k (out.length - 1) (by rw[List.length_map];omega) (by rw[List.length_map];omega) (by omega);rw[List.getElem_map,List.getElem_map] at hp;exact List.lt_trans hp hlast
theorem Qdc (t:List Txt) (s:List UInt8):∀(g:Nat) (out:List Lb) (p:Nat) {l:List Lb} {j:Nat},unpL t s g out p=(l,j,0)→(∀y∈out,y.n.length≤32∧y.v.length≤64)→(names out).Pairwise (· < ·)→(∀y∈l,y.n.length≤32∧y.v.length≤64)∧(names l).Pairwise (· < ·)
 | 0,out,p,l,j,h,ho,hp=>by
  injection h with h _;subst h;exact ⟨ho,hp⟩
 | g+1,out,p,l,j,h,ho,hp=>by
  have bad:∀{e:Nat},e≠0→([],0,e)=((l,j,0):List Lb×Nat×Nat)→False:=fun he h=>by
   injection h with _ h;injection h with _ h;exact he h
  rw[unpL] at h
  split at h
  ·rename_i h1;exact (bad h1 h).elim
  split at h
  ·rename_i h1;exact (bad h1 h).elim
  split at h
  ·exact (bad (by decide) h).elim
  rename_i hf1
  split at h
  ·exact (bad (by decide) h).elim
  rename_i hf2
  split at h
  ·exact (bad (by decide) h).elim
  rename_i hlow
  refine Qdc t s g _ _ h (fun y hy=>?_) (Qlc hp (by simpa using hlow));rcases List.mem_append.1 hy with hy | hy
  ·exact ho y hy
  ·rw[List.mem_singleton.1 hy];have a:=Bool.not_eq_false _▸hf1;have b:=Bool.not_eq_false _▸hf2;unfold fitN at a;unfold fitV at b;simp only[Bool.and_eq_true,decide_eq_true_eq] at a b;dsimp only;omega
theorem Qof {t:List Txt} {s:List UInt8} {k:Int} {l:List Lb} {j:Nat} (h:unpR t s k=(l,j,0)):LabOk l:=by
 have h8:=Qjs t s k;rw[h] at h8
 have bad:∀{e:Nat},e≠0→([],0,e)=((l,j,0):List Lb×Nat×Nat)→False:=fun he h=>by
  injection h with _ h;injection h with _ h;exact he h
 unfold unpR at h
 split at h
 ·rename_i h1;exact (bad h1 h).elim
 split at h
 ·exact (bad (by decide) h).elim
 split at h
 ·exact (bad (by decide) h).elim
 exact ⟨h8,Qdc t s _ _ _ h (by simp) List.Pairwise.nil⟩
theorem Kku {s:List UInt8} {i v n:Nat} (h:Kar s (i:Int)=(v,n,0)) (hi:i≤s.length):i < n∧n≤s.length:=by
 rcases Kgk s i with ⟨a,b,h1,h2,_⟩ | ⟨a,b,c,h1,h2,_⟩
 ·rw[h] at h1;injection h1 with h1 h3;injection h3 with h3 _;rw[h3];exact Ket hi h2
 ·rw[h] at h1;injection h1 with _ h3;injection h3 with _ h3;exact absurd h3.symm h2
theorem Kzh {t:List Txt} {s:List UInt8} {i n:Nat} {x:Txt} (h:symR t s (i:Int)=(x,n,0)) (hi:i≤s.length):i < n∧n≤s.length:=by
 obtain ⟨v,m,e,hr⟩:∃v m e,Kar s (i:Int)=(v,m,e):=⟨_,_,_,rfl⟩;unfold symR at h;rw[hr] at h;dsimp only at h
 by_cases he:e=0
 ·subst he;rw[if_neg (by simp)] at h
  split at h
  ·injection h with _ h;injection h with _ h;cases h
  ·injection h with _ h;injection h with h _;rw[←h];exact Kku hr hi
 ·rw[if_pos he] at h;injection h with _ h;injection h with _ h;exact absurd h he
theorem Kzn {t:List Txt} {s:List UInt8}:∀(g:Nat) (out:List Lb) (p:Nat) {l:List Lb} {j:Nat},unpL t s g out p=(l,j,0)→p≤s.length→p≤j∧j≤s.length
 | 0,out,p,l,j,h,hp=>by
  injection h with _ h;injection h with h _;exact ⟨by omega,by omega⟩
 | g+1,out,p,l,j,h,hp=>by
  rw[unpL] at h;obtain ⟨x,n,e,hr⟩:∃x n e,symR t s (p:Int)=(x,n,e):=⟨_,_,_,rfl⟩;rw[hr] at h;dsimp only at h
  by_cases he:e=0
  ·subst he;rw[if_neg (by simp)] at h;obtain ⟨h1,h2⟩:=Kzh hr hp;obtain ⟨y,m,e2,hr2⟩:∃x' n' e',symR t s (n:Int)=(x',n',e'):=⟨_,_,_,rfl⟩;rw[hr2] at h;dsimp only at h
   by_cases he2:e2=0
   ·subst he2;rw[if_neg (by simp)] at h;obtain ⟨h3,h4⟩:=Kzh hr2 h2
    split at h
    ·injection h with _ h;injection h with _ h;cases h
    ·split at h
     ·injection h with _ h;injection h with _ h;cases h
     ·split at h
      ·injection h with _ h;injection h with _ h;cases h
      ·obtain ⟨h5,h6⟩:=Kzn g _ _ h h4;exact ⟨by omega,h6⟩
   ·rw[if_pos he2] at h;injection h with _ h;injection h with _ h;exact absurd h he2
  ·rw[if_pos he] at h;injection h with _ h;injection h with _ h;exact absurd h he
theorem Kpi {t:List Txt} {s:List UInt8} {i j:Nat} {l:List Lb} (h:unpR t s (i:Int)=(l,j,0)) (hi:i≤s.length):i < j∧j≤s.length:=by
 obtain ⟨v,m,e,hr⟩:∃v m e,Kar s (i:Int)=(v,m,e):=⟨_,_,_,rfl⟩;unfold unpR at h;rw[hr] at h;dsimp only at h
 by_cases he:e=0
 ·subst he;rw[if_neg (by simp)] at h;obtain ⟨h1,h2⟩:=Kku hr hi
  split at h
  ·injection h with _ h;injection h with _ h;cases h
  ·split at h
   ·injection h with _ h;injection h with _ h;cases h
   ·obtain ⟨h3,h4⟩:=Kzn _ _ _ h h2;exact ⟨by omega,h4⟩
 ·rw[if_pos he] at h;injection h with _ h;injection h with _ h;exact absurd h he
theorem Qcx {s:List UInt8} {i v j:Nat} (h:ruAt s i=some (v,j)):v < 2 ^ 64:=by
 rcases Kgk s i with ⟨a,b,_,h2,h3⟩ | ⟨a,b,c,_,_,h2⟩
 ·rw[h] at h2;injection h2 with h2;injection h2 with h2 _;rw[h2];exact h3
 ·rw[h] at h2;cases h2
theorem Kyv (l:List Smp):(l.flatMap Kcb).length=l.length*2:=by
 induction l with
 | nil=>rfl
 | cons x l ih=>rw[List.flatMap_cons,List.length_append,ih,Kfs,List.length_cons];omega
theorem Qgw {α : Type} {enc:α→List Value} {sz:Nat} (l:List α) (hl:∀x∈l,(enc x).length=sz) {j:Nat} {u:Value} (h:(l.flatMap enc)[j]? = some u) :
  ∃i x r,l[i]? = some x∧(enc x)[r]? = some u∧j=i*sz+r:=by
 induction l generalizing j with
 | nil=>simp at h
 | cons y l ih=>
  rw[List.flatMap_cons] at h
  by_cases hj:j < (enc y).length
  ·rw[List.getElem?_append_left hj] at h;exact ⟨0,y,j,rfl,h,by simp⟩
  ·rw[List.getElem?_append_right (by omega)] at h;obtain ⟨i,x,r,h1,h2,h3⟩:=ih (fun z hz=>hl z (by simp[hz])) h;have hy:=hl y (by simp);exact ⟨i+1,x,r,by simpa using h1,h2,by rw[Nat.succ_mul];omega⟩
theorem Elems.cellsB {α : Type} {enc:α→List Value} {sz n B:Nat} {w:World} {ad:Addr} {xs:List α} (hl:∀x∈xs,(enc x).length=sz) (h:Elems w B sz enc (some ad) n xs) :
  ∀j u,(xs.flatMap enc)[j]? = some u→w.cell? (ad.add j)=some u:=by
 intro j u hu;obtain ⟨i,x,r,h1,h2,rfl⟩:=Qgw xs hl hu
 have hi:0 < n:=by
  have:=(List.getElem?_eq_some_iff.1 h1).1;have:=h.1;omega
 obtain ⟨b,off,e,_,hc⟩:=h.2 hi;injection e with e;subst e;have:=hc i x h1 r u h2
 have ea:(⟨b,off,none⟩:Addr).add (i*sz+r)=⟨b,off+i*sz+r,none⟩:=by
  unfold Addr.add
  split
  ·rename_i h0;simp at h0 ⊢;(try omega)
  ·simp;(try omega)
 rw[ea];exact this
def gonR (I:List UInt8):Nat→List (List Spn)→Nat→Option (List (List Spn)×Nat)
 | 0,out,i=>some (out,i)
 | n+1,out,i=>match Kdj I i with
  | none=>none
  | some (x,j)=>gonR I n (out ++ [x]) j
def kTail (I:List UInt8) (l:List Lb) (m:Int):Option (List (List Spn)×Nat)→Option (KSer×Nat)
 | none=>none
 | some (gs,j4)=>match ruAt I j4 with
  | none=>none
  | some (n,j5)=>match smpsR I n (n+1) [] j5 with
   | none=>none
   | some (x,j6)=>some (⟨l,m,gs[0]!,gs[1]!,gs[2]!,x⟩,j6)
theorem Kpb (t:List Txt) (I:List UInt8) (i:Nat):kserR t I i=match unpR t I i with
 | (l,j,e)=>if e≠0 then none else match riAt I j with
  | none=>none
  | some (m,j1)=>kTail I l m (gonR I 3 [] j1):=by
 unfold kserR;obtain ⟨l,j,e,h⟩:∃l j e,unpR t I i=(l,j,e):=⟨_,_,_,rfl⟩;rw[h];dsimp only
 split
 ·rfl
 cases h1:riAt I j with
 | none=>rfl
 | some x=>
  obtain ⟨m,j1⟩:=x;dsimp only
  cases h2:Kdj I j1 with
  | none=>simp[gonR,h2,kTail]
  | some x=>
   obtain ⟨a,j2⟩:=x;dsimp only
   cases h3:Kdj I j2 with
   | none=>simp[gonR,h2,h3,kTail]
   | some x=>
    obtain ⟨b,j3⟩:=x;dsimp only
    cases h4:Kdj I j3 with
    | none=>simp[gonR,h2,h3,h4,kTail]
    | some x=>
     obtain ⟨c,j4⟩:=x;have e:gonR I 3 [] j1=some ([a,b,c],j4):=by simp[gonR,h2,h3,h4]
     rw[e];rfl
theorem Kwu {s:List UInt8} {l:List Smp} (h:decC s=some l):(∀x∈l,x.v < 2 ^ 64)∧l.length≤120:=by
 unfold decC at h
 split at h
 ·injection h with h;subst h;exact Qcs s
 ·cases h
theorem Kza {s:List UInt8}:∀(n:Nat) (prev:Option Spn) (i:Nat) {l:List Spn} {j:Nat},spnsR s n prev i=some (l,j)→i≤s.length→i+l.length≤j∧j≤s.length∧∀x∈l,SpnIn x
 | 0,prev,i,l,j,h,hi=>by
  injection h with h;injection h with h1 h2;subst h1;subst h2;exact ⟨by simp,hi,by simp⟩
 | n+1,prev,i,l,j,h,hi=>by
  rw[spnsR] at h
  split at h
  ·cases h
  ·rename_i a i1 h1
   split at h
   ·cases h
   ·rename_i b i2 h2
    split at h
    ·cases h
    ·split at h
     ·cases h
     ·rename_i l' j' h3
      injection h with h;injection h with e1 e2;subst e1;subst e2;have p1:=Kfe hi h1;have p2:=Kfe p1.2 h2;obtain ⟨q1,q2,q3⟩:=Kza n _ _ h3 p2.2;refine ⟨by rw[List.length_cons];omega,q2,fun x hx=>?_⟩;rcases List.mem_cons.1 hx with rfl | hx
      ·exact ⟨(Kem h1).1,(Kem h1).2,(Kem h2).1,(Kem h2).2⟩
      ·exact q3 x hx
theorem Kmq {s:List UInt8} {i j:Nat} {l:List Spn} (h:Kdj s i=some (l,j)) (hi:i≤s.length):i+l.length < j∧j≤s.length∧∀x∈l,SpnIn x:=by
 unfold Kdj at h
 split at h
 ·cases h
 ·rename_i n i' h1
  have p1:=Ket hi h1;obtain ⟨q1,q2,q3⟩:=Kza _ _ _ h p1.2;exact ⟨by omega,q2,q3⟩
theorem Qcd {I:List UInt8}:∀(n:Nat) (out:List (List Spn)) (i:Nat) {gs:List (List Spn)} {j:Nat},gonR I n out i=some (gs,j)→i≤I.length→(∀g∈out,g.length≤I.length∧∀x∈g,SpnIn x)→i≤j∧j≤I.length∧gs.length=out.length+n∧∀g∈gs,g.length≤I.length∧∀x∈g,SpnIn x
 | 0,out,i,gs,j,h,hi,ho=>by
  injection h with h;injection h with h1 h2;subst h1;subst h2;exact ⟨Nat.le_refl _,hi,rfl,ho⟩
 | n+1,out,i,gs,j,h,hi,ho=>by
  rw[gonR] at h
  split at h
  ·cases h
  ·rename_i x j' h1
   obtain ⟨p1,p2,p3⟩:=Kmq h1 hi
   obtain ⟨q1,q2,q3,q4⟩:=Qcd n _ _ h p2 (fun g hg=>by
    rcases List.mem_append.1 hg with hg | hg
    ·exact ho g hg
    ·rw[List.mem_singleton.1 hg];exact ⟨by omega,p3⟩)
   refine ⟨by omega,q2,?_,q4⟩;rw[q3,List.length_append,List.length_singleton];omega
theorem Kyw {I:List UInt8} {n:Nat}:∀(f:Nat) (out:List Smp) (i:Nat) {x:List Smp} {j:Nat},smpsR I n f out i=some (x,j)→i≤I.length→out.length≤120*i→(∀y∈out,y.v < 2 ^ 64)→i≤j∧j≤I.length∧x.length≤120*j∧∀y∈x,y.v < 2 ^ 64
 | 0,out,i,x,j,h,_,_,_=>by cases h
 | f+1,out,i,x,j,h,hi,ho,hv=>by
  rw[smpsR] at h
  by_cases hn:out.length < n
  ·rw[if_pos hn] at h;obtain ⟨y,k,e,hr⟩:∃y k e,Kbk I (i:Int)=(y,k,e):=⟨_,_,_,rfl⟩;rw[hr] at h;dsimp only at h
   by_cases he:e=0
   ·subst he;rw[if_pos rfl] at h;obtain ⟨r1,r2,r3⟩:=Kel hr
    cases hd:decC y with
    | none=>rw[hd] at h;cases h
    | some l=>
     rw[hd] at h;dsimp only at h
     by_cases hl:l = []
     ·rw[if_pos hl] at h;cases h
     ·rw[if_neg hl] at h;have hdv:=Kwu hd
      obtain ⟨q1,q2,q3,q4⟩:=Kyw f _ _ h r2 (by rw[List.length_append];omega) (fun z hz=>by
       rcases List.mem_append.1 hz with hz | hz
       ·exact hv z hz
       ·exact hdv.1 z hz)
      exact ⟨by omega,q2,q3,q4⟩
   ·rw[if_neg he] at h;cases h
  ·rw[if_neg hn] at h;injection h with h;injection h with h1 h2;subst h1;subst h2;exact ⟨Nat.le_refl _,hi,ho,hv⟩
theorem Kxx {t:List Txt} {I:List UInt8} {i j:Nat} {s:KSer} (h:kserR t I i=some (s,j)) (hi:i≤I.length) (hI:I.length≤8589934592):KSz s∧i < j∧j≤I.length:=by
 rw[Kpb] at h;obtain ⟨l,j0,e,hu⟩:∃l j e,unpR t I i=(l,j,e):=⟨_,_,_,rfl⟩;rw[hu] at h;dsimp only at h
 by_cases he:e=0
 ·subst he;rw[if_neg (by simp)] at h;have hok:=Qof hu;have hpos:=Kpi hu hi
  cases h1:riAt I j0 with
  | none=>rw[h1] at h;cases h
  | some x=>
   obtain ⟨m,j1⟩:=x;rw[h1] at h;dsimp only at h;have p1:=Kfe hpos.2 h1;have r1:=Kem h1
   cases h2:gonR I 3 [] j1 with
   | none=>rw[h2] at h;cases h
   | some x=>
    obtain ⟨gs,j4⟩:=x;rw[h2] at h;unfold kTail at h;dsimp only at h;obtain ⟨q1,q2,q3,q4⟩:=Qcd 3 [] j1 h2 p1.2 (by simp)
    have hg:∀k,k < 3→gs[k]!.length≤I.length∧∀x∈gs[k]!,SpnIn x:=fun k hk=>q4 _ (by
     rw[getElem!_pos gs k (by rw[q3];simpa using hk)]
     exact List.getElem_mem _)
    cases h3:ruAt I j4 with
    | none=>rw[h3] at h;cases h
    | some x=>
     obtain ⟨n,j5⟩:=x;rw[h3] at h;dsimp only at h;have p3:=Ket q2 h3
     cases h4:smpsR I n (n+1) [] j5 with
     | none=>rw[h4] at h;cases h
     | some x=>
      obtain ⟨y,j6⟩:=x;rw[h4] at h;dsimp only at h;injection h with h;injection h with h5 h6;subst h5;subst h6;obtain ⟨s1,s2,s3,s4⟩:=Kyw _ _ _ h4 p3.2 (by simp) (by simp);refine ⟨⟨by have:=hok.1;dsimp only;omega,fun y hy=>by have:=hok.2.1 y hy;omega,by dsimp only;omega,⟨?_,?_,?_⟩,⟨(hg 0 (by omega)).2,(hg 1 (by omega)).2,(hg 2 (by omega)).2⟩,by dsimp only;omega,s4⟩,by omega,s2⟩
      ·have:=(hg 0 (by omega)).1;dsimp only;omega
      ·have:=(hg 1 (by omega)).1;dsimp only;omega
      ·have:=(hg 2 (by omega)).1;dsimp only;omega
 ·rw[if_pos he] at h;cases h
theorem Ktr {t:List Txt} {I:List UInt8} (hI:I.length≤8589934592):∀(n:Nat) (out:List KSer) (i:Nat) {L:List KSer},Ked t I n out i=some L→i≤I.length→out.length≤i→(∀s∈out,KSz s)→(∀s∈L,KSz s)∧L.length≤I.length
 | 0,out,i,L,h,hi,ho,hs=>by
  injection h with h;subst h;exact ⟨hs,by omega⟩
 | n+1,out,i,L,h,hi,ho,hs=>by
  rw[Ked] at h
  split at h
  ·cases h
  ·rename_i s j h1
   obtain ⟨p1,p2,p3⟩:=Kxx h1 hi hI;refine Ktr hI n _ _ h p3 (by rw[List.length_append,List.length_singleton];omega) fun x hx=>?_
   rcases List.mem_append.1 hx with hx | hx
   ·exact hs x hx
   ·rw[List.mem_singleton.1 hx];exact p1
end
section
open Go.RowKit Go.Shelf Go.Sort
open Lib renaming hid → Jh
attribute [local go_sem ↓] Go.wp_at_zero Go.wp_at_succ
attribute [local go_sem] Later.cell
theorem Qdj {l L:List Spn} (h1:Kbf L) (h2:Kbf l→L=l):decide (L=l)=decide (Kbf l):=by
 rw[decide_eq_decide];exact ⟨fun e=>e▸h1,h2⟩
theorem Kxg (s:KSer) (h:KHd) (w:World) (hS:KAt w h s) (hz:KSz s) :
  Calls Tryz.prog 80 #[kserV h s.max] w fun e w'=>e = .returned (.bool (Kdh s))∧Below w.heap.size w w':=by
 obtain ⟨R,hR⟩:∃R,Kdh s=R:=⟨_,rfl⟩;have hat:=@Ktj s;rw[hR] at hat ⊢;obtain ⟨mx,hmx⟩:∃m,s.max=m:=⟨_,rfl⟩;have hmz:=hz.m;rw[hmx] at hat hmz ⊢;have HAT:=Jh hat;have HS:=Jh hS;have HZ:=Jh hz;clear hS hz hR hat hmx;unfold kserV;obtain ⟨sA,hsA⟩:∃x,h.s.A=x:=⟨_,rfl⟩;obtain ⟨sn,hsn⟩:∃x,h.s.n=x:=⟨_,rfl⟩;rw[hsA,hsn];have HSA0:=Jh hsA;have HSN0:=Jh hsn;clear hsA hsn;go_enter Tryz.func80,Tryz.ntmps80
 go_upto_region 1 with fail
 obtain ⟨w1,hw1⟩:∃x,w.alloc (.cells #[.slice h.l.A h.l.n h.l.c,.int .i64 mx,.slice h.g0.A h.g0.n h.g0.c,.slice h.g1.A h.g1.n h.g1.c,.slice h.g2.A h.g2.n h.g2.c,.slice sA sn h.s.c] 85)=x:=⟨_,rfl⟩;have hb1:Below w.heap.size w w1:=by rw[←hw1];exact (Below.refl _ _).alloc (Nat.le_refl _) _
 have hk1:Blk w1 w.heap.size 85 #[.slice h.l.A h.l.n h.l.c,.int .i64 mx,.slice h.g0.A h.g0.n h.g0.c,.slice h.g1.A h.g1.n h.g1.c,.slice h.g2.A h.g2.n h.g2.c,.slice sA sn h.s.c]:=by rw[←hw1];exact Blk.new _ _ _
 obtain ⟨q,hq⟩:∃x,w.heap.size=x:=⟨_,rfl⟩;have HQ:=Jh hq;rw[hq] at hk1;rw[hw1,hq];have HS1:=Jh (HS.out.below hb1);have HK1:=Jh hk1;have HB1:=Jh (show Below q w w1 by rw[←hq];exact hb1);have c0:=hk1.cell 0;have c1:=hk1.cell 1;simp at c0 c1;clear hw1 hb1 hk1 hq;obtain ⟨V,hV⟩:∃V,Kdv s.labels=V:=⟨_,rfl⟩;have HV:=Jh hV;have HVC:=Jh (Kjm s.labels h.l.A h.l.n h.l.c w1 V hV HS1.out.l HS1.out.lc (by have:=HS1.out.l.len;have:=HZ.out.l;omega) (fun x hx=>by have:=HZ.out.z x hx;omega));clear hV;go_wp2_with fail
 refine HVC.out.mono ?_;rintro _ w2 ⟨rfl,hb2⟩;have HS2:=Jh (HS1.out.below hb2);have HK2:=Jh (HK1.out.below hb2 HK1.out.lt);have HB2:=Jh (HB1.out.trans (hb2.mono (by have:=HK1.out.lt;omega)));have c1:w2.cell? ⟨q,1,none⟩=some (.int .i64 mx):=HK2.out.cell 1;clear hb2 c0
 cases V with
 | false=>
  have hre:R=false:=by
   rcases Bool.eq_false_or_eq_true R with e | e
   ·have:=(HAT.out.1 e).1;rw[HV.out] at this;cases this
   ·exact e
  subst hre;go_wp2_with fail
  go_ret
  exact ⟨rfl,by rw[HQ.out];exact HB2.out⟩
 | true=>
  by_cases g1:mx < -1
  ·have d1:decide (mx < -1)=true:=decide_eq_true g1
   have hre:R=false:=by
    rcases Bool.eq_false_or_eq_true R with e | e
    ·have:=(HAT.out.1 e).2.1;omega
    ·exact e
   subst hre;go_wp2_with fail
   go_ret
   exact ⟨rfl,by rw[HQ.out];exact HB2.out⟩
  have d1:decide (mx < -1)=false:=decide_eq_false g1
  by_cases g2:1125899906842624 < mx
  ·have d2:decide (1125899906842624 < mx)=true:=decide_eq_true g2
   have hre:R=false:=by
    rcases Bool.eq_false_or_eq_true R with e | e
    ·have:=(HAT.out.1 e).2.1;omega
    ·exact e
   subst hre;go_wp2_with fail
   go_ret
   exact ⟨rfl,by rw[HQ.out];exact HB2.out⟩
  have d2:decide (1125899906842624 < mx)=false:=decide_eq_false g2;have c2:w2.cell? ⟨q,2,none⟩=some (.slice h.g0.A h.g0.n h.g0.c):=HK2.out.cell 2;have c3:w2.cell? ⟨q,3,none⟩=some (.slice h.g1.A h.g1.n h.g1.c):=HK2.out.cell 3;have c4:w2.cell? ⟨q,4,none⟩=some (.slice h.g2.A h.g2.n h.g2.c):=HK2.out.cell 4;go_wp2_with fail
  go_loopg [4,23] 3 (fun g _ s23 wr=>∃i:Nat,i+g=3∧s23 = .int .i64 (i:Int)∧(∀j,j < i→Kbf (s.g j))∧Below q w wr∧Below w2.heap.size w2 wr)
  case atStart=>exact ⟨0,by omega,rfl,(fun j hj=>by omega),HB2.out,Below.refl _ _⟩
  case round=>
   obtain ⟨i,hig,rfl,hall,hb,hb2⟩:=hrel;have HIG:=Jh hig;have HA:=Jh hall;have HB:=Jh hb;have HB22:=Jh hb2;clear hig hall hb hb2 c1 c2 c3 c4;obtain ⟨wo,rfl⟩:∃x,x=wr:=⟨_,rfl⟩
   by_cases hi:i < 3
   ·have el:decide (i < 3)=true:=by rw[decide_eq_true_eq];exact hi
    have hi2:(i:Int) < 3:=by omega
    have ipt:∀W:World,(Instr.index 82 (.agg #[.slice h.g0.A h.g0.n h.g0.c,.slice h.g1.A h.g1.n h.g1.c,.slice h.g2.A h.g2.n h.g2.c]) (.int .i64 (i:Int))).run Tryz.prog W = .ok (.slice (h.g i).A (h.g i).n (h.g i).c) W:=fun W=>by
     rcases (by omega:i=0∨i=1∨i=2) with rfl | rfl | rfl
     ·kernel_rfl
     ·kernel_rfl
     ·kernel_rfl
    have HSo:=Jh (HS2.out.below HB22.out);have hgz:=HZ.out.gi i;have hgl:=(HSo.out.g i).len;have HSP:=Jh (Kny (s.g i) (h.g i).A (h.g i).n (h.g i).c wo (HSo.out.g i) (by omega) hgz.2);have HNL:Hid ((s.g i).length=(h.g i).n∧(s.g i).length≤1099511627776):=Jh ⟨hgl,hgz.1⟩;clear hgz hgl;go_wp2_with fail
    refine HSP.out.mono ?_;rintro _ w3 ⟨⟨v,L,rfl,hr,hcL,hLl,hLn⟩,hb3⟩;obtain ⟨A2,c2,rfl,hE⟩:=Kko hr rfl;have hsame:=Kvx L (s.g i) A2 L.length c2 (h.g i).A (h.g i).n (h.g i).c w3 hE ((HSo.out.below hb3).g i) (by have:=HNL.out;omega) (by have:=HNL.out;omega);rw[Qdj hcL hLl] at hsame;obtain ⟨C,hC⟩:∃C,decide (Kbf (s.g i))=C:=⟨_,rfl⟩;rw[hC] at hsame;have HSA:=Jh hsame;have HC:=Jh hC;obtain ⟨ln,hln⟩:∃n,L.length=n:=⟨_,rfl⟩;rw[hln] at HSA ⊢;have HB3:=Jh (HB.out.trans (hb3.mono (by have:=HB.out.size;have:=HQ.out;omega)));have HB23:=Jh (then_ HB22.out hb3);clear hr hcL hLl hLn hE hsame hC hb3 hln;go_wp2_with fail
    refine HSA.out.mono ?_;rintro _ w4 ⟨rfl,hb4⟩;have HB4:=Jh (HB3.out.trans (hb4.mono (by have:=HB3.out.size;have:=HQ.out;omega)));have HB24:=Jh (then_ HB23.out hb4);clear hb4
    cases C with
    | false=>
     have hre:R=false:=by
      rcases Bool.eq_false_or_eq_true R with e | e
      ·exact absurd ((HAT.out.1 e).2.2.1 i hi) (of_decide_eq_false HC.out)
      ·exact e
     subst hre;go_wp2_with fail
     go_ret
     exact ⟨rfl,by rw[HQ.out];exact HB4.out⟩
    | true=>
     have HN:=Jh (show ∀j,j < i+1→Kbf (s.g j) from fun j hj=>by
      by_cases hji:j=i
      ·subst hji;exact of_decide_eq_true HC.out
      ·exact HA.out j (by omega))
     go_wp2_with fail
     go_roundg (gk - 1)
     case measure=>have:=HIG.out;omega
     case rel=>exact ⟨i+1,by have:=HIG.out;omega,by first | rfl | go_num,HN.out,HB4.out,HB24.out⟩
   ·have el:decide (i < 3)=false:=by rw[decide_eq_false_iff_not];exact hi
    have hi3:i=3:=by have:=HIG.out;omega
    subst hi3;have HKo:=Jh (HK2.out.below HB22.out HK2.out.lt);have HSo:=Jh (HS2.out.below HB22.out);have c5:wo.cell? ⟨q,5,none⟩=some (.slice sA sn h.s.c):=HKo.out.cell 5;have hnl:=HSo.out.s.len;rw[HSN0.out] at hnl;have HNL:=Jh hnl;have hnz:sn≤1099511627776:=by have:=HZ.out.n;omega
    clear hnl;go_wp2_with fail
    go_loopg [5,6,35] sn (fun g _ _ s35 wr=>∃k:Nat,k+g=sn∧s35 = .int .i64 (k:Int)∧(∀j,j < k→sOk mx s.samples j)∧Below q w wr∧Below wo.heap.size wo wr)
    case atStart=>exact ⟨0,by omega,rfl,(fun j hj=>by omega),HB.out,Below.refl _ _⟩
    case round=>
     obtain ⟨k,hkg,rfl,hallk,hbk,hb2k⟩:=hrel;have HKG:=Jh hkg;have HAk:=Jh hallk;have HBk:=Jh hbk;have HB2k:=Jh hb2k;clear hkg hallk hbk hb2k c5;obtain ⟨wk,rfl⟩:∃x,x=wr:=⟨_,rfl⟩;have HKk:=Jh (HKo.out.below HB2k.out HKo.out.lt);have HSk:=Jh (HSo.out.below HB2k.out)
     by_cases hk:k < sn
     ·have elk:decide (k < sn)=true:=by rw[decide_eq_true_eq];exact hk
      have hk2:(k:Int) < (sn:Int):=by omega
      have hss:=HSk.out.s;rw[HSA0.out,HSN0.out] at hss;obtain ⟨bs,os,rfl,hbk,g1⟩:=hss.getS hk;have p0:wk.cell? ⟨bs,os+k*2,none⟩=some (.int .i64 s.samples[k]!.t):=g1 0 _ rfl;have p1:wk.cell? ⟨bs,os+k*2+1,none⟩=some (.int .u64 (s.samples[k]!.v:Int)):=g1 1 _ rfl;obtain ⟨x,hx⟩:∃x,s.samples[k]! = x:=⟨_,rfl⟩;rw[hx] at p0 p1;have HX:=Jh hx;obtain ⟨xt,xv⟩:=x;dsimp only at p0 p1;have hss2:=hss;clear hx g1 hss
      by_cases g3:xt < 0
      ·have a3:decide (xt < 0)=true:=decide_eq_true g3;go_upto_region 12 with fail
       obtain ⟨w5,hw5⟩:∃y,wk.alloc (.cells #[.int .i64 xt,.int .u64 (xv:Int)] 93)=y:=⟨_,rfl⟩;have hb5:Below wk.heap.size wk w5:=by rw[←hw5];exact (Below.refl _ _).alloc (Nat.le_refl _) _
       have hkq:Blk w5 wk.heap.size 93 #[.int .i64 xt,.int .u64 (xv:Int)]:=by rw[←hw5];exact Blk.new _ _ _
       obtain ⟨qb,hqb⟩:∃y,wk.heap.size=y:=⟨_,rfl⟩;have HB5:=Jh (HBk.out.trans (hb5.mono (by have:=HBk.out.size;have:=HQ.out;omega)));have HB25:=Jh (then_ HB2k.out hb5);have hk5:=HKk.out.below hb5 HKk.out.lt;have e1:w5.cell? ⟨q,1,none⟩=some (.int .i64 mx):=hk5.cell 1;have e5:w5.cell? ⟨q,5,none⟩=some (.slice (some ⟨bs,os,none⟩) sn h.s.c):=hk5.cell 5;have hq5:q < w5.heap.size:=hk5.lt;have hb5s:=hb5.size;have hbs5:bs < w5.heap.size:=by omega
       rw[hqb] at hkq;rw[hw5,hqb];have e0:w5.cell? ⟨qb,0,none⟩=some (.int .i64 xt):=hkq.cell 0;have hqb5:qb < w5.heap.size:=hkq.lt;clear hw5 hb5 hkq hqb hk5 hb5s p0 p1;refine Kab (by kernel_rfl) (by kernel_rfl) ?_
       repeat (go_big_quiet_step (fail))
       refine wpQuiet_nil ?_;rintro wz ⟨⟨_,hbz⟩,rfl⟩;have HBZ:=Jh (HB5.out.trans (hbz.mono (by have:=HB5.out.size;have:=HQ.out;omega)));have HB2Z:=Jh (then_ HB25.out hbz);clear hbz
       have hre:R=false:=by
        rcases Bool.eq_false_or_eq_true R with e | e
        ·have:=(HAT.out.1 e).2.2.2 k (by rw[HNL.out];exact hk);unfold sOk at this;rw[HX.out] at this;dsimp only at this;exact absurd this (fun h=>by have:=h.1;omega)
        ·exact e
       subst hre;go_wp2_with fail
       go_ret
       exact ⟨rfl,by rw[HQ.out];exact HBZ.out⟩
      have a3:decide (xt < 0)=false:=decide_eq_false g3
      by_cases g4:mx < xt
      ·have a4:decide (mx < xt)=true:=decide_eq_true g4;go_upto_region 12 with fail
       obtain ⟨w5,hw5⟩:∃y,wk.alloc (.cells #[.int .i64 xt,.int .u64 (xv:Int)] 93)=y:=⟨_,rfl⟩;have hb5:Below wk.heap.size wk w5:=by rw[←hw5];exact (Below.refl _ _).alloc (Nat.le_refl _) _
       have hkq:Blk w5 wk.heap.size 93 #[.int .i64 xt,.int .u64 (xv:Int)]:=by rw[←hw5];exact Blk.new _ _ _
       obtain ⟨qb,hqb⟩:∃y,wk.heap.size=y:=⟨_,rfl⟩;have HB5:=Jh (HBk.out.trans (hb5.mono (by have:=HBk.out.size;have:=HQ.out;omega)));have HB25:=Jh (then_ HB2k.out hb5);have hk5:=HKk.out.below hb5 HKk.out.lt;have e1:w5.cell? ⟨q,1,none⟩=some (.int .i64 mx):=hk5.cell 1;have e5:w5.cell? ⟨q,5,none⟩=some (.slice (some ⟨bs,os,none⟩) sn h.s.c):=hk5.cell 5;have hq5:q < w5.heap.size:=hk5.lt;have hb5s:=hb5.size;have hbs5:bs < w5.heap.size:=by omega
       rw[hqb] at hkq;rw[hw5,hqb];have e0:w5.cell? ⟨qb,0,none⟩=some (.int .i64 xt):=hkq.cell 0;have hqb5:qb < w5.heap.size:=hkq.lt;clear hw5 hb5 hkq hqb hk5 hb5s p0 p1;refine Kab (by kernel_rfl) (by kernel_rfl) ?_
       repeat (go_big_quiet_step (fail))
       refine wpQuiet_nil ?_;rintro wz ⟨⟨_,hbz⟩,rfl⟩;have HBZ:=Jh (HB5.out.trans (hbz.mono (by have:=HB5.out.size;have:=HQ.out;omega)));have HB2Z:=Jh (then_ HB25.out hbz);clear hbz
       have hre:R=false:=by
        rcases Bool.eq_false_or_eq_true R with e | e
        ·have:=(HAT.out.1 e).2.2.2 k (by rw[HNL.out];exact hk);unfold sOk at this;rw[HX.out] at this;dsimp only at this;exact absurd this (fun h=>by have:=h.2.1;omega)
        ·exact e
       subst hre;go_wp2_with fail
       go_ret
       exact ⟨rfl,by rw[HQ.out];exact HBZ.out⟩
      have a4:decide (mx < xt)=false:=decide_eq_false g4
      by_cases hk0:k=0
      ·have z6:decide (0 < k)=false:=by rw[decide_eq_false_iff_not];omega
       have z5:¬(0:Int) < (k:Int):=by omega
       have HK0:=Jh hk0;clear hk0;go_upto_region 12 with fail
       obtain ⟨w5,hw5⟩:∃y,wk.alloc (.cells #[.int .i64 xt,.int .u64 (xv:Int)] 93)=y:=⟨_,rfl⟩;have hb5:Below wk.heap.size wk w5:=by rw[←hw5];exact (Below.refl _ _).alloc (Nat.le_refl _) _
       have hkq:Blk w5 wk.heap.size 93 #[.int .i64 xt,.int .u64 (xv:Int)]:=by rw[←hw5];exact Blk.new _ _ _
       obtain ⟨qb,hqb⟩:∃y,wk.heap.size=y:=⟨_,rfl⟩;have HB5:=Jh (HBk.out.trans (hb5.mono (by have:=HBk.out.size;have:=HQ.out;omega)));have HB25:=Jh (then_ HB2k.out hb5);have hk5:=HKk.out.below hb5 HKk.out.lt;have e1:w5.cell? ⟨q,1,none⟩=some (.int .i64 mx):=hk5.cell 1;have e5:w5.cell? ⟨q,5,none⟩=some (.slice (some ⟨bs,os,none⟩) sn h.s.c):=hk5.cell 5;have hq5:q < w5.heap.size:=hk5.lt;have hb5s:=hb5.size;have hbs5:bs < w5.heap.size:=by omega
       rw[hqb] at hkq;rw[hw5,hqb];have e0:w5.cell? ⟨qb,0,none⟩=some (.int .i64 xt):=hkq.cell 0;have hqb5:qb < w5.heap.size:=hkq.lt;clear hw5 hb5 hkq hqb hk5 hb5s p0 p1;refine Kab (by kernel_rfl) (by kernel_rfl) ?_
       repeat (go_big_quiet_step (fail))
       refine wpQuiet_nil ?_;rintro wz ⟨⟨_,hbz⟩,rfl⟩;have HBZ:=Jh (HB5.out.trans (hbz.mono (by have:=HB5.out.size;have:=HQ.out;omega)));have HB2Z:=Jh (then_ HB25.out hbz);clear hbz
       have HN:=Jh (show ∀jj,jj < k+1→sOk mx s.samples jj from fun j' hj'=>by
        by_cases hjk:j'=k
        ·rw[hjk];unfold sOk;rw[HX.out];exact ⟨by dsimp only;omega,by dsimp only;omega,fun h=>by have:=HK0.out;omega⟩
        ·exact HAk.out j' (by omega))
       go_wp2_with fail
       go_roundg (gk - 1)
       case measure=>have:=HKG.out;omega
       case rel=>exact ⟨k+1,by have:=HKG.out;omega,by first | rfl | go_num,HN.out,HBZ.out,HB2Z.out⟩
      ·obtain ⟨j,hj⟩:∃j,j+1=k:=⟨k - 1,by omega⟩;obtain ⟨bs',os',hA',_,g1'⟩:=hss2.getS (i:=j) (by omega);injection hA' with hA';injection hA' with hA1 hA2 _;subst hA1 hA2;have r0:wk.cell? ⟨bs,os+j*2,none⟩=some (.int .i64 s.samples[j]!.t):=g1' 0 _ rfl;obtain ⟨y,hy⟩:∃y,s.samples[j]! = y:=⟨_,rfl⟩;rw[hy] at r0;have HY:=Jh hy;obtain ⟨yt,yv⟩:=y;dsimp only at r0;have z1:IntKind.i64.wrap ((k:Int) - 1)=(j:Int):=by rw[show (k:Int) - 1=(j:Int) by omega];exact IntWalk.i64_in _ (by omega)
       have z5:(0:Int) < (k:Int):=by omega
       have z6:decide (0 < k)=true:=by rw[decide_eq_true_eq];omega
       have z7:j < sn:=by omega
       have z8:(j:Int) < (sn:Int):=by omega
       have HJ:=Jh hj;clear g1' hy hss2 hj
       by_cases g5:xt≤yt
       ·have a5:decide (xt≤yt)=true:=decide_eq_true g5;go_upto_region 12 with fail
        obtain ⟨w5,hw5⟩:∃y,wk.alloc (.cells #[.int .i64 xt,.int .u64 (xv:Int)] 93)=y:=⟨_,rfl⟩;have hb5:Below wk.heap.size wk w5:=by rw[←hw5];exact (Below.refl _ _).alloc (Nat.le_refl _) _
        have hkq:Blk w5 wk.heap.size 93 #[.int .i64 xt,.int .u64 (xv:Int)]:=by rw[←hw5];exact Blk.new _ _ _
        obtain ⟨qb,hqb⟩:∃y,wk.heap.size=y:=⟨_,rfl⟩;have HB5:=Jh (HBk.out.trans (hb5.mono (by have:=HBk.out.size;have:=HQ.out;omega)));have HB25:=Jh (then_ HB2k.out hb5);have hk5:=HKk.out.below hb5 HKk.out.lt;have e1:w5.cell? ⟨q,1,none⟩=some (.int .i64 mx):=hk5.cell 1;have e5:w5.cell? ⟨q,5,none⟩=some (.slice (some ⟨bs,os,none⟩) sn h.s.c):=hk5.cell 5;have hq5:q < w5.heap.size:=hk5.lt;have hb5s:=hb5.size;have hbs5:bs < w5.heap.size:=by omega
        have e6:w5.cell? ⟨bs,os+j*2,none⟩=some (.int .i64 yt):=hb5.cell (p:=⟨bs,os+j*2,none⟩) (show bs < wk.heap.size by exact hbk) |>.trans r0;rw[hqb] at hkq;rw[hw5,hqb];have e0:w5.cell? ⟨qb,0,none⟩=some (.int .i64 xt):=hkq.cell 0;have hqb5:qb < w5.heap.size:=hkq.lt;clear hw5 hb5 hkq hqb hk5 hb5s p0 p1;refine Kab (by kernel_rfl) (by kernel_rfl) ?_
        repeat (go_big_quiet_step (fail))
        refine wpQuiet_nil ?_;rintro wz ⟨⟨_,hbz⟩,rfl⟩;have HBZ:=Jh (HB5.out.trans (hbz.mono (by have:=HB5.out.size;have:=HQ.out;omega)));have HB2Z:=Jh (then_ HB25.out hbz);clear hbz
        have hre:R=false:=by
         rcases Bool.eq_false_or_eq_true R with e | e
         ·have:=(HAT.out.1 e).2.2.2 k (by rw[HNL.out];exact hk);unfold sOk at this;rw[HX.out] at this;dsimp only at this;exact absurd this (fun h=>by have h1:=h.2.2 (by omega);rw[show k - 1=j by have:=HJ.out;omega,HY.out] at h1;dsimp only at h1;omega)
         ·exact e
        subst hre;go_wp2_with fail
        go_ret
        exact ⟨rfl,by rw[HQ.out];exact HBZ.out⟩
       ·have a5:decide (xt≤yt)=false:=decide_eq_false g5;go_upto_region 12 with fail
        obtain ⟨w5,hw5⟩:∃y,wk.alloc (.cells #[.int .i64 xt,.int .u64 (xv:Int)] 93)=y:=⟨_,rfl⟩;have hb5:Below wk.heap.size wk w5:=by rw[←hw5];exact (Below.refl _ _).alloc (Nat.le_refl _) _
        have hkq:Blk w5 wk.heap.size 93 #[.int .i64 xt,.int .u64 (xv:Int)]:=by rw[←hw5];exact Blk.new _ _ _
        obtain ⟨qb,hqb⟩:∃y,wk.heap.size=y:=⟨_,rfl⟩;have HB5:=Jh (HBk.out.trans (hb5.mono (by have:=HBk.out.size;have:=HQ.out;omega)));have HB25:=Jh (then_ HB2k.out hb5);have hk5:=HKk.out.below hb5 HKk.out.lt;have e1:w5.cell? ⟨q,1,none⟩=some (.int .i64 mx):=hk5.cell 1;have e5:w5.cell? ⟨q,5,none⟩=some (.slice (some ⟨bs,os,none⟩) sn h.s.c):=hk5.cell 5;have hq5:q < w5.heap.size:=hk5.lt;have hb5s:=hb5.size;have hbs5:bs < w5.heap.size:=by omega
        have e6:w5.cell? ⟨bs,os+j*2,none⟩=some (.int .i64 yt):=hb5.cell (p:=⟨bs,os+j*2,none⟩) (show bs < wk.heap.size by exact hbk) |>.trans r0;rw[hqb] at hkq;rw[hw5,hqb];have e0:w5.cell? ⟨qb,0,none⟩=some (.int .i64 xt):=hkq.cell 0;have hqb5:qb < w5.heap.size:=hkq.lt;clear hw5 hb5 hkq hqb hk5 hb5s p0 p1;refine Kab (by kernel_rfl) (by kernel_rfl) ?_
        repeat (go_big_quiet_step (fail))
        refine wpQuiet_nil ?_;rintro wz ⟨⟨_,hbz⟩,rfl⟩;have HBZ:=Jh (HB5.out.trans (hbz.mono (by have:=HB5.out.size;have:=HQ.out;omega)));have HB2Z:=Jh (then_ HB25.out hbz);clear hbz
        have HN:=Jh (show ∀jj,jj < k+1→sOk mx s.samples jj from fun j' hj'=>by
         by_cases hjk:j'=k
         ·rw[hjk];unfold sOk;rw[HX.out];exact ⟨by dsimp only;omega,by dsimp only;omega,fun _=>by rw[show k - 1=j by have:=HJ.out;omega,HY.out];dsimp only;omega⟩
         ·exact HAk.out j' (by omega))
        go_wp2_with fail
        go_roundg (gk - 1)
        case measure=>have:=HKG.out;omega
        case rel=>exact ⟨k+1,by have:=HKG.out;omega,by first | rfl | go_num,HN.out,HBZ.out,HB2Z.out⟩
     ·have elk:decide (k < sn)=false:=by rw[decide_eq_false_iff_not];exact hk
      have hre:R=true:=HAT.out.2 ⟨HV.out,⟨by omega,by omega⟩,HA.out,fun i hi=>HAk.out i (by rw[HNL.out] at hi;omega)⟩;subst hre;go_wp2_with fail
      go_ret
      exact ⟨rfl,by rw[HQ.out];exact HBk.out⟩
structure KY where
 h:KHd
 m:Int
instance:Inhabited KY:=⟨⟨default,0⟩⟩
def encKY (y:KY):List Value:=[.slice y.h.l.A y.h.l.n y.h.l.c,.int .i64 y.m,.slice y.h.g0.A y.h.g0.n y.h.g0.c,.slice y.h.g1.A y.h.g1.n y.h.g1.c,.slice y.h.g2.A y.h.g2.n y.h.g2.c,.slice y.h.s.A y.h.s.n y.h.s.c]
theorem Ktg (y:KY):(encKY y).length=6:=rfl
def KSers (w:World) (A:Option Addr) (n:Nat) (L:List KSer):Prop:=∃ys:List KY,Elems w w.heap.size 6 encKY A n ys∧L.length=n∧∀i,i < n→ys[i]!.m=L[i]!.max∧KAt w ys[i]!.h L[i]!
theorem KSers.below {w w':World} {A:Option Addr} {n:Nat} {L:List KSer} (h:KSers w A n L) (hb:Below w.heap.size w w'):KSers w' A n L:=by
 obtain ⟨ys,h1,h2,h3⟩:=h;exact ⟨ys,(h1.below hb).more hb.size,h2,fun i hi=>⟨(h3 i hi).1,(h3 i hi).2.below hb⟩⟩
theorem Qee:(Tryz.prog.info? 80).map (fun i=>(i.zero,i.size,i.bytes))=some (some (.slice none 0 0),1,24):=by kernel_rfl
theorem Qgv (h:Hd):(encH h).length=1:=rfl
theorem Knp (L:List KSer) (A:Option Addr) (n c:Nat) (w:World) (hS:KSers w A n L) (hn:n≤1099511627776) :
  Calls Tryz.prog 28 #[.slice A n c] w fun e w'=>(∃(v:Value) (hs:List Hd),e = .returned v∧w'.ownsRow w.heap.size 80 1 v n (hs.flatMap encH)∧hs.length=n∧∀i,i < n→Elems w w.heap.size 2 encLb hs[i]!.A hs[i]!.n L[i]!.labels∧hs[i]!.n≤hs[i]!.c)∧Below w.heap.size w w':=by
 obtain ⟨ib,hib,hib0,hib1,hib2⟩:=info_parts Qee;obtain ⟨ys,hy1,hy2,hy3⟩:=hS;have HY:=Jh hy1;have HYS:=Jh hy3;have HYL:=Jh hy1.len;obtain ⟨B0,hB0⟩:∃x,w.heap.size=x:=⟨_,rfl⟩;have HB0:=Jh hB0;rw[hB0];clear hy1 hy2 hy3 hB0;go_enter Tryz.func28,Tryz.ntmps28
 go_wp2_with fail
 go_loopg [3,5,8] n (fun gg s3 _ s8 wr=>∃(i:Nat) (v:Value),i+gg=n∧s8 = .int .i64 (i:Int)∧s3=v∧wr.ownsRow B0 80 1 v i (((ys.map fun y=>y.h.l).take i).flatMap encH)∧Below B0 w wr)
 case atStart=>exact ⟨0,_,by omega,rfl,rfl,World.ownsRow_nil _ _ _ _,by rw[←HB0.out];exact Below.refl _ _⟩
 case round=>
  obtain ⟨i,v,hig,rfl,hv,hr,hb⟩:=hrel;obtain rfl:=hv.symm;have HIG:=Jh hig;have HR:=Jh hr;have HB:=Jh hb;clear hig hr hb;obtain ⟨wo,rfl⟩:∃x,x=wr:=⟨_,rfl⟩
  by_cases hi:i < n
  ·have el:decide (i < n)=true:=by rw[decide_eq_true_eq];exact hi
   have hi2:(i:Int) < (n:Int):=by omega
   have hBo:B0≤wo.heap.size:=by have:=HB.out.size;rw[HB0.out] at this;exact this
   obtain ⟨b1,o1,rfl,hb1,g1⟩:=((HY.out.below (by rw[HB0.out];exact HB.out)).more (by rw[HB0.out];exact hBo)).getS hi;obtain ⟨y,hy⟩:∃y,ys[i]! = y:=⟨_,rfl⟩;rw[hy] at g1;have p0:wo.cell? ⟨b1,o1+i*6,none⟩=some (.slice y.h.l.A y.h.l.n y.h.l.c):=g1 0 _ rfl;have p1:wo.cell? ⟨b1,o1+i*6+1,none⟩=some (.int .i64 y.m):=g1 1 _ rfl;have p2:wo.cell? ⟨b1,o1+i*6+2,none⟩=some (.slice y.h.g0.A y.h.g0.n y.h.g0.c):=g1 2 _ rfl;have p3:wo.cell? ⟨b1,o1+i*6+3,none⟩=some (.slice y.h.g1.A y.h.g1.n y.h.g1.c):=g1 3 _ rfl;have p4:wo.cell? ⟨b1,o1+i*6+4,none⟩=some (.slice y.h.g2.A y.h.g2.n y.h.g2.c):=g1 4 _ rfl;have p5:wo.cell? ⟨b1,o1+i*6+5,none⟩=some (.slice y.h.s.A y.h.s.n y.h.s.c):=g1 5 _ rfl;have hyl:i < ys.length:=by rw[HYL.out];exact hi
   have htk:((ys.map fun y=>y.h.l).take (i+1)).flatMap encH=((ys.map fun y=>y.h.l).take i).flatMap encH ++ [.slice y.h.l.A y.h.l.n y.h.l.c]:=by
    rw[List.take_succ_eq_append_getElem (by rw[List.length_map];exact hyl),List.flatMap_append,List.getElem_map,←getElem!_pos ys i hyl,hy];rfl
   have HTK:=Jh htk;obtain ⟨⟨⟨lA,ln,lc⟩,⟨g0A,g0n,g0c⟩,⟨g1A,g1n,g1c⟩,⟨g2A,g2n,g2c⟩,⟨sA,sn,sc⟩⟩,ym⟩:=y;dsimp only at p0 p1 p2 p3 p4 p5 HTK;clear g1 hy htk hyl;go_upto_region 5 with fail
   obtain ⟨w5,hw5⟩:∃y,wo.alloc (.cells #[.slice lA ln lc,.int .i64 ym,.slice g0A g0n g0c,.slice g1A g1n g1c,.slice g2A g2n g2c,.slice sA sn sc] 85)=y:=⟨_,rfl⟩;have hb5:Below wo.heap.size wo w5:=by rw[←hw5];exact (Below.refl _ _).alloc (Nat.le_refl _) _
   have hkq:Blk w5 wo.heap.size 85 #[.slice lA ln lc,.int .i64 ym,.slice g0A g0n g0c,.slice g1A g1n g1c,.slice g2A g2n g2c,.slice sA sn sc]:=by rw[←hw5];exact Blk.new _ _ _
   have hr5:=HR.out;have hr5:w5.ownsRow B0 80 1 v i (((ys.map fun y=>y.h.l).take i).flatMap encH):=by rw[←hw5];exact World.ownsRow.alloc hr5 _
   obtain ⟨q,hq⟩:∃y,wo.heap.size=y:=⟨_,rfl⟩;have HB5:=Jh (HB.out.trans (hb5.mono hBo));have HR5:=Jh hr5;rw[hq] at hkq;rw[hw5,hq];have d0:w5.cell? ⟨q,0,none⟩=some (.slice lA ln lc):=hkq.cell 0;have hB5:B0≤w5.heap.size:=Nat.le_trans hBo hb5.size;clear hw5 hb5 hkq hq hr5 p0 p1 p2 p3 p4 p5;go_wp2_with (at_builtin;refine wpList_append_own_at _ rfl _ _ 69 rfl B0 80 ib (.slice none 0 0) 1 24 Tryz.underlying69 hib hib0 hib1 hib2 rfl (by decide) _ _ _ rfl (World.ownsRow.alloc HR5.out _) ⟨w5.heap.size,0,none⟩ 1 1 [.slice lA ln lc] rfl rfl (Kav (l:=[.slice lA ln lc]) (Blk.new w5 _ _)) (fun u hu=>by rw[List.mem_singleton.1 hu];rfl) (by unfold maxLen;omega) (by omega) (by simp;omega) ?_)
   intro v' w6 hown' hgrow hx1 hat';have hstep:Below B0 w5 w6:=⟨hgrow.os,hgrow.tape,hgrow.output,by have:=hgrow.size;simp at this;omega,fun k hk=>(hgrow.block k (by simp;omega) (fun e=>by have e2:=(World.ownsRow.lt HR5.out k e.symm).1;omega)).trans (Below.heap_alloc _ _ _ (by omega))⟩;have how:w6.ownsRow B0 80 1 v' (i+1) (((ys.map fun y=>y.h.l).take (i+1)).flatMap encH):=by rw[HTK.out];exact hown'
   have HB6:=Jh (HB5.out.trans hstep);have HO6:=Jh how;clear hown' hgrow hx1 hat' how hstep d0;go_wp2_with fail
   go_roundg (gk - 1)
   case measure=>have:=HIG.out;omega
   case rel=>exact ⟨i+1,_,by have:=HIG.out;omega,by first | rfl | go_num,rfl,HO6.out,HB6.out⟩
  ·have el:decide (i < n)=false:=by rw[decide_eq_false_iff_not];exact hi
   have hin:i=n:=by have:=HIG.out;omega
   have hrr:=HR.out;rw[hin,List.take_of_length_le (by rw[List.length_map,HYL.out];exact Nat.le_refl _)] at hrr;have HRR:=Jh hrr;clear hrr
   have HF:Hid (∀j,j < n→Elems w B0 2 encLb (ys.map fun y:KY=>y.h.l)[j]!.A (ys.map fun y:KY=>y.h.l)[j]!.n L[j]!.labels∧(ys.map fun y:KY=>y.h.l)[j]!.n≤(ys.map fun y:KY=>y.h.l)[j]!.c):=Jh fun j hj=>by
    rw[getElem!_pos (ys.map fun y:KY=>y.h.l) j (by rw[List.length_map,HYL.out];exact hj),List.getElem_map,←getElem!_pos ys j (by rw[HYL.out];exact hj),←HB0.out];exact ⟨(HYS.out j hj).2.l,(HYS.out j hj).2.lc⟩
   go_wp2_with fail
   go_ret
   exact ⟨⟨_,rfl,ys.map fun y:KY=>y.h.l,HRR.out,by rw[List.length_map,HYL.out],fun i hi=>by simpa using HF.out i hi⟩,HB.out⟩
end
section
open Go.RowKit Go.Shelf Go.Sort
open Lib renaming hid → Jh
open List renaming length_append → Jd
attribute [local go_sem ↓] Go.wp_at_zero Go.wp_at_succ
attribute [local go_sem] Later.cell
def Off (B:Nat) (ex:List Nat) (A:Option Addr) (n:Nat):Prop:=0 < n→∀a,A=some a→B≤a.block∧a.block∉ex
theorem Elems.kx {α : Type} {w w':World} {sz n:Nat} {enc:α→List Value} {A:Option Addr} {xs:List α} {ex:List Nat} {B:Nat} (h:Elems w w.heap.size sz enc A n xs) (ho:Off B ex A n) (hk:Kept w.heap.size ex w w'):Elems w' w'.heap.size sz enc A n xs:=by
 rcases Nat.eq_zero_or_pos n with h0 | h0
 ·exact ⟨h.1,fun hp=>by omega⟩
 refine (h.keepAt fun a hl ha=>?_).more hk.size
 cases A with
 | none=>cases ha
 | some x=>
  have h1:x.block=a.block:=by simpa using ha
  exact World.cell?_of_block (hk.block a.block hl (by rw[←h1];exact (ho h0 x rfl).2))
theorem Kec {ex:List Nat} {w wk w':World} (h:Kept w.heap.size ex w wk) (k:Kept wk.heap.size ex wk w'):Kept w.heap.size ex w w':=h.trans (k.mono h.size (fun _ _ h=>h))
theorem Kept.wide {B:Nat} {ex ex':List Nat} {w w':World} (h:Kept B ex w w') (hx:∀k,k∈ex→k∈ex'):Kept B ex' w w':=h.mono (Nat.le_refl _) (fun k _ hk=>hx k hk)
theorem Kept.wide2 {B a b:Nat} {w w':World} (h:Kept B [a] w w'):Kept B [a,b] w w':=h.wide (fun k hk=>by simp at hk ⊢;exact .inl hk)
structure KRes (w:World) (B:Nat) (h:KHd) (s:KSer):Prop where
 at_:KAt w h s
 l:Off B [] h.l.A h.l.n
 g0:Off B [] h.g0.A h.g0.n
 g1:Off B [] h.g1.A h.g1.n
 g2:Off B [] h.g2.A h.g2.n
 s:Off B [] h.s.A h.s.n
theorem Off.no {B n:Nat} {ex:List Nat} {A:Option Addr} (h:Off B [] A n) (hx:∀k∈ex,k < B):Off B ex A n:=fun hp a ha=>⟨(h hp a ha).1,fun hm=>by have:=hx _ hm;have:=(h hp a ha).1;omega⟩
theorem Off.nil {B n:Nat} {ex:List Nat} {A:Option Addr} (h:Off B ex A n):Off B [] A n:=fun hp a ha=>⟨(h hp a ha).1,by simp⟩
theorem Off.also {B B' n b z:Nat} {a:Nat} {A:Option Addr} (h:Off B [a] A n) (hl:0 < n→∀x,A=some x→x.block < z) (hb:z≤b):Off B [a,b] A n:=fun hp x hx=>⟨(h hp x hx).1,fun hm=>by
 rcases List.mem_cons.1 hm with h2 | h2
 ·exact (h hp x hx).2 (by rw[h2];simp)
 ·have h3:=List.mem_singleton.1 h2;have:=hl hp x hx
  omega⟩
theorem Elems.blt {α : Type} {w:World} {B sz n:Nat} {enc:α→List Value} {A:Option Addr} {xs:List α} (h:Elems w B sz enc A n xs):0 < n→∀x,A=some x→x.block < B:=fun hp x hx=>by
 obtain ⟨b,off,e,hb,_⟩:=h.2 hp;rw[hx] at e;injection e with e;rw[e];exact hb
theorem KRes.kept {w w':World} {B:Nat} {h:KHd} {s:KSer} {ex:List Nat} (hr:KRes w B h s) (hx:∀k∈ex,k < B) (hk:Kept w.heap.size ex w w'):KRes w' B h s:=
 ⟨⟨hr.at_.l.kx (hr.l.no hx) hk,hr.at_.lc,hr.at_.g0.kx (hr.g0.no hx) hk,hr.at_.g1.kx (hr.g1.no hx) hk,hr.at_.g2.kx (hr.g2.no hx) hk,hr.at_.s.kx (hr.s.no hx) hk,hr.at_.sc⟩,hr.l,hr.g0,hr.g1,hr.g2,hr.s⟩
def KSerO (pr:Nat) (S:ByteArray) (w:World) (r:Option (KSer×Nat)) (e:Ending) (w':World):Prop:=match r with
 | some (s,j)=>(∃h:KHd,e = .returned (kserV h s.max)∧KRes w' w.heap.size h s)∧Rdr pr S j w'∧Kept w.heap.size [pr] w w'
 | none=>BadE e∧Kept w.heap.size [pr] w w'
def hdV (h:Hd):Value:=.slice h.A h.n h.c
def boxC (hl:Hd) (m:Int) (hg:Nat→Hd) (sv:Value):Array Value:=#[hdV hl,.int .i64 m,hdV (hg 0),hdV (hg 1),hdV (hg 2),sv]
def updG (hg:Nat→Hd) (m:Nat) (h:Hd):Nat→Hd:=fun k=>if k=m then h else hg k
theorem Qkf {w:World} {p m:Nat} {hl h:Hd} {mx:Int} {hg:Nat→Hd} {sv:Value} (hm:m < 3) (hk:Blk w p 85 (boxC hl mx hg sv)):Blk (w.setCell ⟨p,2+m,none⟩ (hdV h)) p 85 (boxC hl mx (updG hg m h) sv):=by
 rcases (by omega:m=0∨m=1∨m=2) with rfl | rfl | rfl
 ·exact hk.set_ 2 _
 ·exact hk.set_ 3 _
 ·exact hk.set_ 4 _
structure KG (w:World) (pr p2 B:Nat) (hl:Hd) (l:List Lb) (hg:Nat→Hd) (gs:List (List Spn)):Prop where
 lab:Elems w w.heap.size 2 encLb hl.A hl.n l
 lc:hl.n≤hl.c
 lo:Off B [pr,p2] hl.A hl.n
 gon:∀k,k < gs.length→Elems w w.heap.size 2 Kac (hg k).A (hg k).n gs[k]!
 go:∀k,k < gs.length→Off B [pr,p2] (hg k).A (hg k).n
theorem KG.kept {w w':World} {pr p2 B:Nat} {hl:Hd} {l:List Lb} {hg:Nat→Hd} {gs:List (List Spn)} (h:KG w pr p2 B hl l hg gs) (hk:Kept w.heap.size [pr,p2] w w'):KG w' pr p2 B hl l hg gs:=
 ⟨h.lab.kx h.lo hk,h.lc,h.lo,fun k hk'=>(h.gon k hk').kx (h.go k hk') hk,h.go⟩
theorem KG.add {w:World} {pr p2 B m:Nat} {hl h:Hd} {l:List Lb} {hg:Nat→Hd} {gs:List (List Spn)} {x:List Spn} (hk:KG w pr p2 B hl l hg gs) (hm:gs.length=m) (h1:Elems w w.heap.size 2 Kac h.A h.n x) (h2:Off B [pr,p2] h.A h.n):KG w pr p2 B hl l (updG hg m h) (gs ++ [x]):=by
 refine ⟨hk.lab,hk.lc,hk.lo,fun k hk'=>?_,fun k hk'=>?_⟩
 ·by_cases e:k=m
  ·subst e;have e1:(gs ++ [x])[k]! = x:=by rw[getElem!_pos _ k hk',List.getElem_append_right (by omega)];simp[hm]
   rw[e1];unfold updG;rw[if_pos rfl];exact h1
  ·rw[Jd,List.length_singleton] at hk';have hlt:k < gs.length:=by omega
   have e1:(gs ++ [x])[k]! = gs[k]!:=by rw[getElem!_pos _ k (by rw[Jd];omega),getElem!_pos gs k hlt,List.getElem_append_left hlt]
   rw[e1];unfold updG;rw[if_neg e];exact hk.gon k hlt
 ·unfold updG
  by_cases e:k=m
  ·rw[if_pos e];exact h2
  ·rw[Jd,List.length_singleton] at hk';rw[if_neg e];exact hk.go k (by omega)
structure KEnv (w0:World) (pr p:Nat) (T:List Txt) (S:ByteArray):Prop where
 db:DbTab w0
 w0s:w0.heap.size≤pr
 tp:pr < p
 sz:S.size≤8589934592
 tn:T.length*16≤140737488351232
 tz:∀x∈T,x.length≤140737488351232
structure KTab (w:World) (pr p:Nat) (T:List Txt):Prop where
 t:Kfa (pr+1) w p T
theorem KTab.kept {w w':World} {pr p:Nat} {T:List Txt} (h:KTab w pr p T) (hk:Kept w.heap.size [pr] w w'):KTab w' pr p T:=⟨h.t.keep hk.size fun k h1 h2=>hk.block k h2 (by simp;omega)⟩
theorem Qfi {I:List UInt8} {n f i:Nat} {out:List Smp} (h:out.length < n):smpsR I n (f+1) out i=if (Kbk I i).2.2=0 then (match decC (Kbk I i).1 with
   | none=>none
   | some l=>if l = [] then none else smpsR I n f (out++l) (Kbk I i).2.1) else none:=by
 rw[smpsR,if_pos h];rfl
theorem Qje {I:List UInt8} {n f i:Nat} {out:List Smp} (h:¬out.length < n):smpsR I n (f+1) out i=some (out,i):=by
 rw[smpsR,if_neg h]
def kEnd (l:List Lb) (m:Int) (gs:List (List Spn)):Option (List Smp×Nat)→Option (KSer×Nat)
 | none=>none
 | some (x,j)=>some (⟨l,m,gs[0]!,gs[1]!,gs[2]!,x⟩,j)
theorem Qeh {I:List UInt8} {l:List Lb} {m:Int} {gs:List (List Spn)} {j:Nat} (h:ruAt I j=none):kTail I l m (some (gs,j))=none:=by
 unfold kTail;dsimp only;rw[h]
theorem Qei {I:List UInt8} {l:List Lb} {m:Int} {gs:List (List Spn)} {j n j5:Nat} (h:ruAt I j=some (n,j5)):kTail I l m (some (gs,j))=kEnd l m gs (smpsR I n (n+1) [] j5):=by
 unfold kTail;dsimp only;rw[h];dsimp only
 cases smpsR I n (n+1) [] j5 with
 | none=>rfl
 | some x=>obtain ⟨x,k⟩:=x;rfl
theorem Kqc {w0 w w':World} {pr:Nat} (hb:Below w0.heap.size w0 w) (hk:Kept w.heap.size [pr] w w') (h:w0.heap.size≤pr):Below w0.heap.size w0 w':=
 hb.trans ⟨hk.os,hk.tape,hk.output,hk.size,fun k hlt=>hk.block k (by have:=hb.size;omega) (by simp;omega)⟩
theorem Kdp {w:World} {B n sz:Nat} {T:TypeId} {v:Value} {xs:List Value} (h:w.ownsRow B T sz v n xs):∃A c,v = .slice A n c:=by
 rcases h.2 with ⟨h1,h2⟩ | ⟨g,c,cur,h1,_⟩
 ·subst h2;exact ⟨_,_,h1⟩
 ·exact ⟨_,_,h1⟩
theorem Kjb {w w':World} {B n sz pr:Nat} {T:TypeId} {v:Value} {xs:List Value} (h:w.ownsRow B T sz v n xs) (hk:Kept w.heap.size [pr] w w') (hp:pr < B):w'.ownsRow B T sz v n xs:=by
 refine World.ownsRow.kept h (row:=some pr) ⟨hk.os,hk.tape,hk.output,hk.size,fun k hl hne=>hk.block k hl (by simp;intro e;exact hne (by rw[e]))⟩ ?_
 cases hv:v.ownBlock with
 | none=>exact .inl rfl
 | some b=>
  have:=(World.ownsRow.lt h b hv).1;exact .inr (by intro e;injection e with e;omega)
theorem Qge {w:World} {p:Nat} {hl:Hd} {mx:Int} {hg:Nat→Hd} {sv sv':Value} (hk:Blk w p 85 (boxC hl mx hg sv)):Blk (w.setCell ⟨p,5,none⟩ sv') p 85 (boxC hl mx hg sv'):=hk.set_ 5 _
theorem Qhi:(Tryz.prog.info? 93).map (fun i=>(i.zero,i.size,i.bytes))=some (some (.agg #[.int .i64 0,.int .u64 0]),2,16):=by kernel_rfl
theorem Kjr {B pr:Nat} {w w1:World} {v:Value} (h:Kept B [pr] w w1):Kept B [pr] w (w1.setCell ⟨pr,1,none⟩ v):=h.setCell (p:=⟨pr,1,none⟩) (.inl (by simp)) v
theorem Kxy {w0:World} {pr p:Nat} {T:List Txt} {S:ByteArray} (E:KEnv w0 pr p T S) (i:Nat) (w:World) (hr:Rdr pr S i w) (hi:i≤S.size) (hT:KTab w pr p T) (hb0:Below w0.heap.size w0 w) :
  Calls Tryz.prog 49 #[.pointer (some ⟨pr,0,none⟩),.pointer (some ⟨p,0,none⟩)] w (KSerO pr S w (kserR T S.data.toList i)):=by
 obtain ⟨R,hR⟩:∃R,kserR T S.data.toList i=R:=⟨_,rfl⟩;rw[hR];rw[Kpb] at hR;have hsl:S.data.toList.length=S.size:=rfl;have hSz:=E.sz;obtain ⟨B,hB⟩:∃B,w.heap.size=B:=⟨_,rfl⟩;have hpB:pr < B:=by rw[←hB];exact hr.lt
 have hb1:Below B w (w.alloc (.cells #[.slice none 0 0,.int .i64 0,.slice none 0 0,.slice none 0 0,.slice none 0 0,.slice none 0 0] 85)):=(Below.refl _ _).alloc (by omega) _;have hq1:Blk (w.alloc (.cells #[.slice none 0 0,.int .i64 0,.slice none 0 0,.slice none 0 0,.slice none 0 0,.slice none 0 0] 85)) B 85 #[.slice none 0 0,.int .i64 0,.slice none 0 0,.slice none 0 0,.slice none 0 0,.slice none 0 0]:=by rw[←hB];exact Blk.new _ _ _
 have HB:=Jh hB;have HE:=Jh E;have HSL:=Jh hsl;have HRD:=Jh hr;have HTA:=Jh hT;have HB0:=Jh hb0;clear hsl hr hT hb0;go_enter Tryz.func49,Tryz.ntmps49
 go_upto_region 1 with fail
 have hs1:(w.alloc (.cells #[.slice none 0 0,.int .i64 0,.slice none 0 0,.slice none 0 0,.slice none 0 0,.slice none 0 0] 85)).heap.size=B+1:=by simp;omega
 obtain ⟨w1,hw1⟩:∃x,w.alloc (.cells #[.slice none 0 0,.int .i64 0,.slice none 0 0,.slice none 0 0,.slice none 0 0,.slice none 0 0] 85)=x:=⟨_,rfl⟩;rw[hw1] at hb1 hq1 hs1;have HS1:=Jh hs1;rw[hw1]
 try rw[hB]
 have HB1:=Jh hb1;have HQ1:=Jh hq1;have hb1':Below w.heap.size w w1:=by rw[hB];exact hb1
 have HRD1:=Jh (HRD.out.below hb1');have HTA1:=Jh (HTA.out.kept (Kept.of_below hb1'));have HK1:Hid (Kept w.heap.size [pr] w w1):=Jh (Kept.of_below hb1');clear hw1 hb1 hq1 hB hb1' hs1;obtain ⟨l,j,er,hun⟩:∃l j e,unpR T S.data.toList (i:Int)=(l,j,e):=⟨_,_,_,rfl⟩;rw[hun] at hR;dsimp only at hR;have hup:=Kzo (.pointer (some ⟨p,0,none⟩)) T S (i:Int) w1.drew (l,j,er) hun ((HTA1.out.t.at_).below ((Below.refl _ _).drew)) HE.out.tn (by omega) HE.out.tz
 by_cases her:er≠0
 ·rw[if_pos her] at hR;subst hR
  have HL:=Jh (Kod pr i S (.pointer (some ⟨p,0,none⟩)) w1 HRD1.out (fun _ _ _=>False) True (hup.mono (by
   rintro e w' ⟨A,c,rfl,h1,h2,h3,h4⟩
   exact ⟨Kcq h3,.inr ⟨trivial,_,_,er,her,rfl⟩⟩)))
  clear hup hun;go_wp2_with fail
  refine HL.out.mono ?_;rintro e w5 (⟨v,j,w6,rfl,hno,_⟩ | ⟨_,f,hf,rfl,hb⟩)
  ·exact hno.elim
  ·have HB9:=Jh hb;clear hb;unfold Kaz;go_wp2_with fail
   refine Kah rfl ?_;exact ⟨BadE.fault _,Kec HK1.out (Kept.of_below HB9.out)⟩
 have her0:er=0:=by omega
 subst her0;rw[if_neg (by simp)] at hR;have HPOS:=Jh (Kpi hun (by rw[HSL.out];exact hi));have HR:=Jh hR
 have HL:=Jh (Kod pr i S (.pointer (some ⟨p,0,none⟩)) w1 HRD1.out (fun v j' w'=>∃A c,v = .slice A l.length c∧j'=j∧Elems w' w'.heap.size 2 encLb A l.length l∧l.length≤c∧∀a,A=some a→w1.heap.size≤a.block) False (hup.mono (by
  rintro e w' ⟨A,c,rfl,h1,h2,h3,h4⟩
  exact ⟨Kcq h3,.inl ⟨_,j,rfl,A,c,rfl,rfl,h1,h2,h4⟩⟩)))
 clear hup hun hR;go_wp2_with fail
 refine HL.out.mono ?_;rintro e w5 (⟨v,j',w6,rfl,⟨A,c,rfl,rfl,hE,hc,hA⟩,hb6,rfl⟩ | ⟨hno,_⟩)
 rotate_left
 ·exact hno.elim
 have hk7:=Kjr (v:=.int .i64 (j':Int)) (Kec HK1.out (Kept.of_below hb6));have hr7:Rdr pr S j' (w6.setCell ⟨pr,1,none⟩ (.int .i64 (j':Int))):=HRD1.out.set hb6;have ho7:Off (B+1) [pr] A l.length:=fun _ a ha=>⟨by have:=hA a ha;have:=HS1.out;omega,by simp;have:=hA a ha;have:=HS1.out;omega⟩
 have hE7:=hE.kx ho7 (Kjr (v:=.int .i64 (j':Int)) (Kept.refl w6.heap.size [pr] w6));obtain ⟨w7,hw7⟩:∃x,w6.setCell ⟨pr,1,none⟩ (.int .i64 (j':Int))=x:=⟨_,rfl⟩;rw[hw7] at hk7 hr7 hE7;rw[hw7]
 have hq7:Blk w7 B 85 #[.slice none 0 0,.int .i64 0,.slice none 0 0,.slice none 0 0,.slice none 0 0,.slice none 0 0]:=by
  rw[←hw7];exact (HQ1.out.below hb6 HQ1.out.lt).far (p:=⟨pr,1,none⟩) (by show B≠pr;omega) _
 have HQ7:=Jh hq7;have HK7:=Jh hk7;have HR7:=Jh hr7;have HE7:=Jh hE7;have HO7:=Jh ho7;have HC7:=Jh hc;have HI7:=Jh (Kvy pr j' S w7 hr7 (by omega));clear hk7 hr7 hE7 hw7 hE hA hb6 ho7 hq7 hc;go_wp2_with fail
 refine HI7.out.mono ?_;intro e w8 h8
 cases hri:riAt S.data.toList j' with
 | none=>
  rw[hri] at h8;obtain ⟨⟨f,hf,rfl⟩,hb8⟩:=h8;have hre:R=none:=by rw[←HR.out,hri]
  subst hre;have HB8:=Jh hb8;clear hb8 hri;unfold Kaz;go_wp2_with fail
  refine Kah rfl ?_;exact ⟨BadE.fault _,Kec HK7.out (Kept.of_below HB8.out)⟩
 | some x=>
  obtain ⟨mx,j1⟩:=x;rw[hri] at h8;obtain ⟨rfl,hr8,hk8⟩:=h8;have hR8:kTail S.data.toList l mx (gonR S.data.toList 3 [] j1)=R:=by rw[←HR.out,hri]
  have hj1:=Kfe HPOS.out.2 hri;have HJ1:=Jh hj1;have HR8:=Jh hR8;have hq8:Blk w8 B 85 #[.slice none 0 0,.int .i64 0,.slice none 0 0,.slice none 0 0,.slice none 0 0,.slice none 0 0]:=(hk8.block B HQ7.out.lt (by simp;omega)).trans HQ7.out;have HQ8:=Jh hq8;have HRD8:=Jh hr8;have HE8:=Jh (HE7.out.kx HO7.out hk8);have HK8:=Jh (Kec HK7.out hk8);clear hri hr8 hk8 hR8 hj1 hq8;go_upto_block 0 with fail
  obtain ⟨p2,hp2⟩:∃x,w8.heap.size=x:=⟨_,rfl⟩;have hb9:Below w8.heap.size w8 (w8.alloc (.cells #[.slice A l.length c,.int .i64 mx,.slice none 0 0,.slice none 0 0,.slice none 0 0,.slice none 0 0] 85)):=(Below.refl _ _).alloc (Nat.le_refl _) _;have hq9:Blk (w8.alloc (.cells #[.slice A l.length c,.int .i64 mx,.slice none 0 0,.slice none 0 0,.slice none 0 0,.slice none 0 0] 85)) w8.heap.size 85 #[.slice A l.length c,.int .i64 mx,.slice none 0 0,.slice none 0 0,.slice none 0 0,.slice none 0 0]:=Blk.new _ _ _;obtain ⟨w9,hw9⟩:∃x,w8.alloc (.cells #[.slice A l.length c,.int .i64 mx,.slice none 0 0,.slice none 0 0,.slice none 0 0,.slice none 0 0] 85)=x:=⟨_,rfl⟩;rw[hw9] at hb9 hq9;rw[hw9];have hBp:B < p2:=by rw[←hp2];exact HQ8.out.lt
  have hk9:=Kec HK8.out (Kept.of_below hb9);have hrd9:=HRD8.out.below hb9;have hbx:Blk w9 p2 85 (boxC ⟨A,l.length,c⟩ mx (fun _=>default) (.slice none 0 0)):=by rw[←hp2];exact hq9
  have hA2:Off (B+1) [pr,p2] A l.length:=HO7.out.also (B':=0) HE8.out.blt (by omega);have hkg:KG w9 pr p2 (B+1) ⟨A,l.length,c⟩ l (fun _=>default) []:=⟨HE8.out.kx HO7.out (Kept.of_below hb9),HC7.out,hA2,fun k h=>by simp at h,fun k h=>by simp at h⟩;have HP2:=Jh hp2;have HQB9:=Jh (HQ8.out.below hb9 HQ8.out.lt);have HK9:=Jh hk9;have HRD9:=Jh hrd9;have HBX:=Jh hbx;have HKG:=Jh hkg;clear hw9 hb9 hq9 hp2 hk9 hrd9 hbx hA2 hkg;rw[HP2.out];go_wp2_with fail
  go_loopg [17] 3 (fun g s17 wz=>∃(m j:Nat) (hg:Nat→Hd) (gs:List (List Spn)),m+g=3∧s17 = .int .i64 (m:Int)∧gs.length=m∧j≤S.size∧kTail S.data.toList l mx (gonR S.data.toList g gs j)=R∧Rdr pr S j wz∧Blk wz p2 85 (boxC ⟨A,l.length,c⟩ mx hg (.slice none 0 0))∧KG wz pr p2 (B+1) ⟨A,l.length,c⟩ l hg gs∧Kept w.heap.size [pr] w wz∧Blk wz B 85 #[.slice none 0 0,.int .i64 0,.slice none 0 0,.slice none 0 0,.slice none 0 0,.slice none 0 0])
  case atStart=>exact ⟨0,j1,fun _=>default,[],by omega,rfl,rfl,by have:=HJ1.out.2;rw[HSL.out] at this;exact this,HR8.out,HRD9.out,HBX.out,HKG.out,HK9.out,HQB9.out⟩
  case round=>
   obtain ⟨m,j,hg,gs,hmg,rfl,hgl,hj,hRR,hrd,hbx,hkg,hk,hqb⟩:=hrel;have HQBm:=Jh hqb;have HMG:=Jh hmg;have HGL:=Jh hgl;have HRR:=Jh hRR;have HRDm:=Jh hrd;have HBXm:=Jh hbx;have HKGm:=Jh hkg;have HKm:=Jh hk;clear hmg hgl hRR hrd hbx hkg hk hqb;obtain ⟨wk,rfl⟩:∃x,x=wr:=⟨_,rfl⟩;have hBwk:B≤wk.heap.size:=by have:=HKm.out.size;have:=HB.out;omega
   have hp2k:p2 < wk.heap.size:=HBXm.out.lt
   by_cases hm:m < 3
   ·have el:decide (m < 3)=true:=by rw[decide_eq_true_eq];exact hm
    have hm2:(m:Int) < 3:=by omega
    have hgk:gk=(gk - 1)+1:=by have:=HMG.out;omega
    have hrr:=HRR.out;rw[hgk,gonR] at hrr;have hsd:=Kvn S j wk.drew (by omega) hj
    cases hsp:Kdj S.data.toList j with
    | none=>
     rw[hsp] at hsd hrr;have hre:R=none:=hrr.symm
     have HTK:=Jh (Kob pr j S wk HRDm.out (fun _ _ _=>False) True (hsd.mono (by
      rintro e w' ⟨⟨f,hf,rfl⟩,hb⟩
      exact ⟨Kcq hb,.inr ⟨trivial,_,_,f,hf,rfl⟩⟩)))
     clear hsd hsp hrr hgk;subst hre;go_wp2_with fail
     refine HTK.out.mono ?_;rintro e w5 (⟨v,j',w6,rfl,hno,_⟩ | ⟨_,f,hf,rfl,hb⟩)
     ·exact hno.elim
     ·have HB9:=Jh hb;clear hb;unfold Kaz;go_wp2_with fail
      refine Kah rfl ?_;exact ⟨BadE.fault _,Kec HKm.out (Kept.of_below HB9.out)⟩
    | some x=>
     obtain ⟨x,jn⟩:=x;rw[hsp] at hsd hrr;dsimp only at hrr;obtain ⟨hle1,hle2,_⟩:=Kmq hsp (by rw[HSL.out];exact hj);rw[HSL.out] at hle2
     have HTK:=Jh (Kob pr j S wk HRDm.out (fun v j' w'=>∃A c,v = .slice A x.length c∧j'=jn∧Elems w' w'.heap.size 2 Kac A x.length x∧∀a,A=some a→wk.heap.size≤a.block) False (hsd.mono (by
      rintro e w' ⟨⟨v,rfl,hown⟩,hb⟩;obtain ⟨A,c,rfl,h1,h2,_⟩:=Elems.of_own (fun y _=>Kcj y) rfl hown rfl
      exact ⟨Kcq hb,.inl ⟨_,jn,rfl,A,c,rfl,rfl,h1,h2⟩⟩)))
     have HRN:=Jh hrr;clear hsd hsp hrr hgk;have HMI:=Jh hm2;go_wp2_with fail
     refine HTK.out.mono ?_;rintro e w5 (⟨v,j',w6,rfl,⟨A6,c6,rfl,rfl,hE6,hA6⟩,hb6,rfl⟩ | ⟨hno,_⟩)
     rotate_left
     ·exact hno.elim
     have hprk:pr < wk.heap.size:=by omega
     have hbe:Below wk.heap.size wk w6:=hb6;have ho6:Off (B+1) [pr,p2] A6 x.length:=fun _ a ha=>⟨by have:=hA6 a ha;omega,by simp;have:=hA6 a ha;omega⟩
     have hkg6:=HKGm.out.kept (Kept.of_below hb6);have hbx6:=HBXm.out.below hb6 hp2k;have hqb7:=(HQBm.out.below hb6 HQBm.out.lt).far (p:=⟨pr,1,none⟩) (by show B≠pr;omega) (.int .i64 (j':Int));have hkk:Kept w6.heap.size [pr] w6 (w6.setCell ⟨pr,1,none⟩ (.int .i64 (j':Int))):=Kjr (Kept.refl _ _ _);have hkg7:=hkg6.kept hkk.wide2;have hE7:=hE6.kx ho6 hkk.wide2;have hbx7:=hbx6.far (p:=⟨pr,1,none⟩) (by show p2≠pr;omega) (.int .i64 (j':Int));have hrd7:Rdr pr S j' (w6.setCell ⟨pr,1,none⟩ (.int .i64 (j':Int))):=HRDm.out.set hb6;have hk7:Kept w.heap.size [pr] w (w6.setCell ⟨pr,1,none⟩ (.int .i64 (j':Int))):=Kjr (Kec HKm.out (Kept.of_below hb6));obtain ⟨w7,hw7⟩:∃x,w6.setCell ⟨pr,1,none⟩ (.int .i64 (j':Int))=x:=⟨_,rfl⟩;rw[hw7] at hkg7 hE7 hbx7 hrd7 hk7 hqb7;have HQB8:=Jh (hqb7.far (p:=⟨p2,2+m,none⟩) (by show B≠p2;omega) (hdV ⟨A6,x.length,c6⟩));rw[hw7];have hkk2:Kept w7.heap.size [pr,p2] w7 (w7.setCell ⟨p2,2+m,none⟩ (hdV ⟨A6,x.length,c6⟩)):=(Kept.refl _ _ _).setCell (p:=⟨p2,2+m,none⟩) (.inl (by simp)) _;have hkg8:=(hkg7.kept hkk2).add HGL.out (h:=⟨A6,x.length,c6⟩) (hE7.kx ho6 hkk2) ho6;have hbx8:=Qkf (h:=⟨A6,x.length,c6⟩) hm hbx7;have hrd8:Rdr pr S j' (w7.setCell ⟨p2,2+m,none⟩ (hdV ⟨A6,x.length,c6⟩)):=(show Blk w7 _ _ _ from hrd7).far (p:=⟨p2,2+m,none⟩) (by show pr≠p2;omega) _;have hk8:Kept w.heap.size [pr] w (w7.setCell ⟨p2,2+m,none⟩ (hdV ⟨A6,x.length,c6⟩)):=hk7.setCell (p:=⟨p2,2+m,none⟩) (.inr (by show w.heap.size≤p2;have:=HB.out;omega)) _;have HKG8:=Jh hkg8;have HBX8:=Jh hbx8;have HRD8b:=Jh hrd8;have HK8b:=Jh hk8;have fr:=hbx7.frozen (2+m);have hp27:p2 < w7.heap.size:=hbx7.lt
     obtain ⟨cz,hcz⟩:∃v,w7.cell? ⟨p2,2+m,none⟩=some v:=by
      rcases (by omega:m=0∨m=1∨m=2) with rfl | rfl | rfl
      ·exact ⟨_,hbx7.cell 2⟩
      ·exact ⟨_,hbx7.cell 3⟩
      ·exact ⟨_,hbx7.cell 4⟩
     have hm2:=HMI.out;clear hqb7 hw7 hkg6 hbx6 hkk hkg7 hE7 hbx7 hrd7 hk7 hkk2 hkg8 hbx8 hrd8 hk8 hE6 hA6 hb6 hbe ho6;go_wp2_with fail
     go_roundg (gk - 1)
     case measure=>have:=HMG.out;omega
     case rel=>exact ⟨m+1,j',updG hg m ⟨A6,x.length,c6⟩,gs ++ [x],by have:=HMG.out;omega,by first | rfl | go_num,by rw[Jd,HGL.out];rfl,hle2,HRN.out,HRD8b.out,HBX8.out,HKG8.out,HK8b.out,HQB8.out⟩
   ·have el:decide (m < 3)=false:=by rw[decide_eq_false_iff_not];exact hm
    have hm3:m=3:=by have:=HMG.out;omega
    have hg0:gk=0:=by have:=HMG.out;omega
    have hrr:=HRR.out;rw[hg0] at hrr;have hrr2:kTail S.data.toList l mx (some (gs,j))=R:=hrr;have HUK:=Jh (Kjw pr j S wk HRDm.out (by omega));have HRT:=Jh hrr2;clear hrr hrr2 hg0;go_wp2_with fail
    refine HUK.out.mono ?_;intro e w10 h10
    cases hru:ruAt S.data.toList j with
    | none=>
     rw[hru] at h10;obtain ⟨⟨f,hf,rfl⟩,hb10⟩:=h10;have hre:R=none:=by rw[←HRT.out];exact Qeh hru
     subst hre;have HB10:=Jh hb10;clear hb10 hru;unfold Kaz;go_wp2_with fail
     refine Kah rfl ?_;exact ⟨BadE.fault _,Kec HKm.out (Kept.of_below HB10.out)⟩
    | some x=>
     obtain ⟨n,j5⟩:=x;rw[hru] at h10;obtain ⟨rfl,hrd10,hk10⟩:=h10;have HRE:=Jh ((Qei hru).symm.trans HRT.out);have hj5:=Ket (by rw[HSL.out];exact hj) hru;rw[HSL.out] at hj5;have hnlt:=Qcx hru;have HKGa:=Jh (HKGm.out.kept hk10.wide2);have HBXa:=Jh (HBXm.out.kept hk10 HBXm.out.lt (by simp;omega));have HQBa:=Jh (HQBm.out.kept hk10 HQBm.out.lt (by simp;omega));have HKa:=Jh (Kec HKm.out hk10);have HRDa:=Jh hrd10;obtain ⟨Q,hQ⟩:∃x,w10.heap.size=x:=⟨_,rfl⟩;have hp2Q:p2 < Q:=by rw[←hQ];exact HBXa.out.lt
     have HQ:=Jh hQ;obtain ⟨ib,hib,hz0,hz1,hz2⟩:=info_parts Qhi;clear hru hrd10 hk10 hQ;go_wp2_with fail
     go_loopg [] (n+1) (fun gg wz=>∃(j:Nat) (out:List Smp) (sv:Value),0 < gg∧n+1≤out.length+gg∧j≤S.size∧out.length≤120*j∧kEnd l mx gs (smpsR S.data.toList n gg out j)=R∧Rdr pr S j wz∧Blk wz p2 85 (boxC ⟨A,l.length,c⟩ mx hg sv)∧wz.ownsRow Q 93 2 sv out.length (out.flatMap Kcb)∧Kept w10.heap.size [pr,p2] w10 wz)
     case atStart=>exact ⟨j5,[],.slice none 0 0,by omega,by simp,hj5.2,by simp,HRE.out,HRDa.out,HBXa.out,World.ownsRow_nil _ _ _ _,Kept.refl _ _ _⟩
     case round=>
      obtain ⟨jk,out,sv,hgg,hng,hjk,hol,hRk,hrdk,hbxk,hsr,hkk⟩:=hrel;obtain ⟨Ao,co,rfl⟩:=Kdp hsr;have HGG:=Jh hgg;have HNG:=Jh hng;have HOL:=Jh hol;have HRk:=Jh hRk;have HRDk:=Jh hrdk;have HBXk:=Jh hbxk;have HSR:=Jh hsr;have HKk:=Jh hkk;obtain ⟨wo,rfl⟩:∃x,x=wr:=⟨_,rfl⟩;obtain ⟨L,hL⟩:∃L,out.length=L:=⟨_,rfl⟩;have HLL:=Jh hL;have hLb:L≤1099511627776:=by omega
      rw[hL] at hbxk
      try rw[hL]
      have x5:wo.cell? ⟨p2,5,none⟩=some (.slice Ao L co):=hbxk.cell 5;have hp2o:p2 < wo.heap.size:=hbxk.lt;have hQo:Q≤wo.heap.size:=by have:=hkk.size;have:=HQ.out;omega
      have hBo:Below w0.heap.size w0 wo:=by
       have h1:=HB0.out;have h2:=HE.out.w0s;have h3:=HKa.out;refine (Kqc h1 h3 h2).trans ⟨hkk.os,hkk.tape,hkk.output,hkk.size,fun k hlt=>hkk.block k (by have:=h3.size;have:=h1.size;omega) (by have:=HE.out.tp;simp;have:=h1.size;have:=HB.out;omega)⟩
      have HBO:=Jh hBo;clear hgg hng hol hRk hrdk hbxk hsr hkk hBo hL
      by_cases hn:L < n
      ·have hn2:(L:Int) < (n:Int):=by omega
       have el:decide (L < n)=true:=by rw[decide_eq_true_eq];exact hn
       have hrk:=HRk.out;obtain ⟨f,hf⟩:∃f,gk=f+1:=⟨gk - 1,by have:=HGG.out;omega⟩;rw[hf,Qfi (by rw[HLL.out];exact hn)] at hrk;have HF:=Jh hf;have htk:=Ksr pr jk S wo HRDk.out (by omega);obtain ⟨y,k,er,hrt⟩:∃y k e,Kbk S.data.toList (jk:Int)=(y,k,e):=⟨_,_,_,rfl⟩;rw[hrt] at htk hrk;dsimp only at htk hrk
       by_cases her:er=0
       ·subst her;rw[if_pos rfl] at htk hrk;obtain ⟨r1,r2,r3⟩:=Kel hrt;rw[HSL.out] at r2 r3;obtain ⟨Y,hY⟩:∃Y:ByteArray,(⟨y.toArray⟩:ByteArray)=Y:=⟨_,rfl⟩;unfold txtV at htk;rw[hY] at htk;have hYl:Y.data.toList=y:=by rw[←hY]
        have hYs:Y.size≤8589934592:=by rw[←Kaj,hYl];omega
        have HTK:=Jh htk;have HYL:=Jh hYl;have HRK:=Jh hrk;have HJK:=Jh (Kel hrt);clear htk hrt hrk hY hYl hf;go_wp2_with fail
        refine HTK.out.mono ?_;rintro _ w5 ⟨rfl,hrd5,hk5⟩;have hb5:=Kqc HBO.out (hk5.mono (Nat.le_refl _) (fun _ _ h=>h)) HE.out.w0s;have hcd:=Kuv Y w5 (by omega) (HE.out.db.below hb5);rw[HYL.out] at hcd;have HK5:=Jh hk5;have HRD5:=Jh hrd5;obtain ⟨D,hD⟩:∃D,decC y=D:=⟨_,rfl⟩;rw[hD] at hcd;have hrk:=HRK.out;rw[hD] at hrk;have HCD:=Jh hcd;have HDD:=Jh hD;have HRK2:=Jh hrk;clear hb5 hcd hk5 hrd5 hD hrk x5;go_wp2_with fail
        refine HCD.out.mono ?_;intro e w6 h6
        have hbad:∀(W:World),Below w5.heap.size w5 W→R=none→KSerO pr S w R (Kaz 150) W:=fun W hW hre=>by
         subst hre
         have h1:=HKa.out.trans (HKk.out.mono HKa.out.size (fun k hk hx=>by
          rcases List.mem_cons.1 hx with rfl | hx
          ·simp
          ·have:=List.mem_singleton.1 hx;have:=HB.out;omega))
         exact ⟨BadE.fault _,Kec (Kec h1 HK5.out) (Kept.of_below hW)⟩
        have HBAD:=Jh hbad;clear hbad
        cases D with
        | none=>
         obtain ⟨f9,hf9,rfl,hb6⟩:=h6;have hre:R=none:=by rw[←HRK2.out];rfl
         have HB6:=Jh hb6;have hne:((f9:Int) != 0)=true:=by simp;omega
         clear hb6;go_wp2_with fail
         refine Kah rfl ?_;have hfin:=HBAD.out _ HB6.out hre;rw[hre] at hfin;exact hfin
        | some l9=>
         obtain ⟨A9,rfl,hE9,hb6⟩:=h6;have HB6:=Jh hb6;have HE9:=Jh hE9;clear hb6 hE9
         by_cases hl0:l9 = []
         ·subst hl0;have hre:R=none:=by rw[←HRK2.out];rfl
          go_wp2_with fail
          refine Kah rfl ?_;have hfin:=HBAD.out _ HB6.out hre;rw[hre] at hfin;exact hfin
         have hpos:0 < l9.length:=List.length_pos_iff.2 hl0;have hrk:=HRK2.out;dsimp only at hrk;rw[if_neg hl0] at hrk;have HRK3:=Jh hrk;obtain ⟨b9,o9,e9,_,_⟩:=HE9.out.2 hpos;subst e9;have hl120:=(Kwu HDD.out).2;have hk6:Kept w10.heap.size [pr,p2] w10 w6:=(HKk.out.trans ((HK5.out.wide2 (b:=p2)).mono HKk.out.size (fun _ _ h=>h))).trans ((Kept.of_below (ex:=[pr,p2]) HB6.out).mono (by have:=HKk.out.size;have:=HK5.out.size;omega) (fun _ _ h=>h));have hbx6:=(HBXk.out.kept HK5.out HBXk.out.lt (by simp;omega)).below HB6.out (by have:=HBXk.out.lt;have:=HK5.out.size;omega);have hrd6:=HRD5.out.below HB6.out
         have hsr6:w6.ownsRow Q 93 2 (.slice Ao L co) L (out.flatMap Kcb):=by
          have h1:=HSR.out;rw[HLL.out] at h1;exact Kdk (Kjb h1 HK5.out (by omega)) (HB6.out.mono (by have:=HK5.out.size;omega))
         have hbx6c:=hbx6;rw[HLL.out] at hbx6c;have hg6:w6.cell? ⟨p2,5,none⟩=some (.slice Ao L co):=hbx6c.cell 5;have hp26:p2 < w6.heap.size:=hbx6.lt;have hQ6:Q≤w6.heap.size:=by have:=HK5.out.size;have:=HB6.out.size;omega
         have HK6:=Jh hk6;have HBX6:=Jh hbx6;have HRD6:=Jh hrd6;have HSR6:=Jh hsr6;have HL0:=Jh hl0;have hl9b:l9.length≤120:=hl120;clear hrk hk6 hrd6 hsr6 hbx6 hbx6c hl0 hl120;go_wp2_with (at_builtin;refine wpList_append_own_at _ rfl _ _ 83 rfl Q 93 ib (.agg #[.int .i64 0,.int .u64 0]) 2 16 Tryz.underlying83 hib hz0 hz1 hz2 rfl (by decide) (.slice Ao L co) L (out.flatMap Kcb) rfl HSR6.out ⟨b9,o9,none⟩ l9.length l9.length (l9.flatMap Kcb) rfl ?c0 ?c1 ?c2 ?c3 ?c4 ?c5 ?_)
         case c3=>unfold maxLen;omega
         case c4=>omega
         case c5=>exact hQ6
         case c0=>exact Kyv l9
         case c1=>exact HE9.out.cellsB (fun x _=>Kfs x)
         case c2=>
          intro u hu;obtain ⟨x,_,hx⟩:=List.mem_flatMap.1 hu;simp[Kcb] at hx;rcases hx with rfl | rfl <;> rfl
         intro v' w7 hown' hgrow _ hat;obtain ⟨A',c',rfl⟩:=Kdp hown';have hob:∀k,(Value.slice Ao L co).ownBlock=some k→Q≤k:=fun k hk=>(World.ownsRow.lt HSR6.out k hk).1
         have hk7:Kept w10.heap.size [pr,p2] w10 w7:=HK6.out.trans ⟨hgrow.os,hgrow.tape,hgrow.output,hgrow.size,fun k hlt _=>hgrow.block k (by have:=HK6.out.size;omega) (fun e=>by have:=hob k e.symm;have:=HQ.out;omega)⟩
         have hbx7:Blk w7 p2 85 (boxC ⟨A,l.length,c⟩ mx hg (.slice Ao L co)):=by
          have h1:=HBX6.out;rw[HLL.out] at h1;exact (hgrow.block p2 hp26 (fun e=>by have:=hob p2 e.symm;omega)).trans h1
         have hrd7:Rdr pr S k w7:=(hgrow.block pr (by omega) (fun e=>by have:=hob pr e.symm;omega)).trans HRD6.out;have hg7:w7.cell? ⟨p2,5,none⟩=some (.slice Ao L co):=hbx7.cell 5;have hf7:=hbx7.frozen 5;have hp27:p2 < w7.heap.size:=hbx7.lt;have HBX8:=Jh (Qge (sv':=.slice A' (L+l9.length) c') hbx7);have HRD8:Hid (Rdr pr S k (w7.setCell ⟨p2,5,none⟩ (.slice A' (L+l9.length) c'))):=Jh ((show Blk w7 _ _ _ from hrd7).far (p:=⟨p2,5,none⟩) (by show pr≠p2;omega) _);have HK8:=Jh (hk7.setCell (p:=⟨p2,5,none⟩) (.inl (by simp)) (.slice A' (L+l9.length) c'))
         have HSR8:Hid ((w7.setCell ⟨p2,5,none⟩ (.slice A' (L+l9.length) c')).ownsRow Q 93 2 (.slice A' (L+l9.length) c') (out++l9).length ((out++l9).flatMap Kcb)):=Jh (by
          rw[Jd,HLL.out,List.flatMap_append]
          exact Kjb hown' (pr:=p2) ((Kept.refl _ _ _).setCell (p:=⟨p2,5,none⟩) (.inl (by simp)) _) (by omega))
         clear hown' hgrow hat hk7 hbx7 hrd7 hob;go_wp2_with fail
         go_roundg (gk - 1)
         case measure=>have:=HGG.out;omega
         case rel=>exact ⟨k,out++l9,_,by have:=HNG.out;have:=HLL.out;omega,by rw[Jd];have:=HNG.out;omega,r2,by rw[Jd];have:=HOL.out;have:=HJK.out;omega,by rw[show gk - 1=f by have:=HF.out;omega];exact HRK3.out,HRD8.out,HBX8.out,HSR8.out,HK8.out⟩
       ·rw[if_neg her] at htk hrk;obtain ⟨⟨f9,hf9,hfe⟩,hb9⟩:(∃f,f≠0∧True)∧True:=⟨⟨er,her,trivial⟩,trivial⟩;have hre:R=none:=by rw[←hrk];rfl
        have HTK:=Jh htk;clear htk hrt hrk hf;go_wp2_with fail
        refine HTK.out.mono ?_;rintro e w5 ⟨⟨f,hf,rfl⟩,hb5⟩
        have h1:=HKa.out.trans (HKk.out.mono HKa.out.size (fun k hk hx=>by
         rcases List.mem_cons.1 hx with rfl | hx
         ·simp
         ·have:=List.mem_singleton.1 hx;have:=HB.out;omega))
        have HKZ:=Jh (Kec h1 (Kept.of_below hb5));clear hb5 h1;subst hre;unfold Kaz;go_wp2_with fail
        refine Kah rfl ?_;exact ⟨BadE.fault _,HKZ.out⟩
      ·have el:decide (L < n)=false:=by rw[decide_eq_false_iff_not];exact hn
       have hrk:=HRk.out;obtain ⟨f,hf⟩:∃f,gk=f+1:=⟨gk - 1,by have:=HGG.out;omega⟩;rw[hf,Qje (by rw[HLL.out];exact hn)] at hrk;have hre:R=some (⟨l,mx,gs[0]!,gs[1]!,gs[2]!,out⟩,jk):=hrk.symm;subst hre;have hbz:=HBXk.out;rw[HLL.out] at hbz;have y0:wo.cell? ⟨p2,0,none⟩=some (.slice A l.length c):=hbz.cell 0;have y1:wo.cell? ⟨p2,1,none⟩=some (.int .i64 mx):=hbz.cell 1;have y2:wo.cell? ⟨p2,2,none⟩=some (.slice (hg 0).A (hg 0).n (hg 0).c):=hbz.cell 2;have y3:wo.cell? ⟨p2,3,none⟩=some (.slice (hg 1).A (hg 1).n (hg 1).c):=hbz.cell 3;have y4:wo.cell? ⟨p2,4,none⟩=some (.slice (hg 2).A (hg 2).n (hg 2).c):=hbz.cell 4;have hqz:=HQBa.out.kept HKk.out HQBa.out.lt (by simp;omega);have HQZ:=Jh hqz;have v0:wo.cell? ⟨B,0,none⟩=some _:=hqz.cell 0;have v1:wo.cell? ⟨B,1,none⟩=some _:=hqz.cell 1;have v2:wo.cell? ⟨B,2,none⟩=some _:=hqz.cell 2;have v3:wo.cell? ⟨B,3,none⟩=some _:=hqz.cell 3;have v4:wo.cell? ⟨B,4,none⟩=some _:=hqz.cell 4;have v5:wo.cell? ⟨B,5,none⟩=some _:=hqz.cell 5;have z0:=hqz.frozen 0;have z1:=hqz.frozen 1;have z2:=hqz.frozen 2;have z3:=hqz.frozen 3;have z4:=hqz.frozen 4;have z5:=hqz.frozen 5;have hBz:=hqz.lt;clear hrk hf hbz hqz;go_upto_region 13 with fail
       iterate 7 (try (first | go_values | go_skip | go_guarded | go_step | go_upon | go_back))
       have hqf:Blk ((((((wo.setCell ⟨B,0,none⟩ (.slice A l.length c)).setCell ⟨B,1,none⟩ (.int .i64 mx)).setCell ⟨B,2,none⟩ (.slice (hg 0).A (hg 0).n (hg 0).c)).setCell ⟨B,3,none⟩ (.slice (hg 1).A (hg 1).n (hg 1).c)).setCell ⟨B,4,none⟩ (.slice (hg 2).A (hg 2).n (hg 2).c)).setCell ⟨B,5,none⟩ (.slice Ao L co)) B 85 #[.slice A l.length c,.int .i64 mx,.slice (hg 0).A (hg 0).n (hg 0).c,.slice (hg 1).A (hg 1).n (hg 1).c,.slice (hg 2).A (hg 2).n (hg 2).c,.slice Ao L co]:=((((((HQZ.out.set_ 0 (.slice A l.length c)).set_ 1 (.int .i64 mx)).set_ 2 (.slice (hg 0).A (hg 0).n (hg 0).c)).set_ 3 (.slice (hg 1).A (hg 1).n (hg 1).c)).set_ 4 (.slice (hg 2).A (hg 2).n (hg 2).c)).set_ 5 (.slice Ao L co));have hkf:Kept wo.heap.size [B] wo ((((((wo.setCell ⟨B,0,none⟩ (.slice A l.length c)).setCell ⟨B,1,none⟩ (.int .i64 mx)).setCell ⟨B,2,none⟩ (.slice (hg 0).A (hg 0).n (hg 0).c)).setCell ⟨B,3,none⟩ (.slice (hg 1).A (hg 1).n (hg 1).c)).setCell ⟨B,4,none⟩ (.slice (hg 2).A (hg 2).n (hg 2).c)).setCell ⟨B,5,none⟩ (.slice Ao L co)):=(((((((Kept.refl wo.heap.size [B] wo).setCell (p:=⟨B,0,none⟩) (.inl (by simp)) (.slice A l.length c)).setCell (p:=⟨B,1,none⟩) (.inl (by simp)) (.int .i64 mx)).setCell (p:=⟨B,2,none⟩) (.inl (by simp)) (.slice (hg 0).A (hg 0).n (hg 0).c)).setCell (p:=⟨B,3,none⟩) (.inl (by simp)) (.slice (hg 1).A (hg 1).n (hg 1).c)).setCell (p:=⟨B,4,none⟩) (.inl (by simp)) (.slice (hg 2).A (hg 2).n (hg 2).c)).setCell (p:=⟨B,5,none⟩) (.inl (by simp)) (.slice Ao L co));obtain ⟨wf,hwf⟩:∃x,((((((wo.setCell ⟨B,0,none⟩ (.slice A l.length c)).setCell ⟨B,1,none⟩ (.int .i64 mx)).setCell ⟨B,2,none⟩ (.slice (hg 0).A (hg 0).n (hg 0).c)).setCell ⟨B,3,none⟩ (.slice (hg 1).A (hg 1).n (hg 1).c)).setCell ⟨B,4,none⟩ (.slice (hg 2).A (hg 2).n (hg 2).c)).setCell ⟨B,5,none⟩ (.slice Ao L co))=x:=⟨_,rfl⟩;rw[hwf] at hqf hkf;rw[hwf];have HQF:=Jh hqf;have HKF:=Jh hkf;clear hqf hkf hwf y0 y1 y2 y3 y4 v0 v1 v2 v3 v4 v5 z0 z1 z2 z3 z4 z5 x5
       iterate 5 (try (first | go_values | go_skip | go_guarded | go_step | go_upon | go_back))
       refine bodyPost_ret (Keq rfl _ _ ⟨B,0,none⟩ _ rfl (run_loadVar_row _ B 85 85 _ (0,0) _ HQF.out Tryz.underlying85 rfl (by kernel_rfl))) rfl ?_;have hkgo:=HKGa.out.kept HKk.out;have hgl3:gs.length=3:=by have:=HGL.out;omega
       have hown:=HSR.out;obtain ⟨A8,c8,e8,k1,k2,k3⟩:=Elems.of_own (enc:=Kcb) (fun x _=>Kfs x) rfl hown rfl;injection e8 with e1 e2 e3;subst e1 e3;have hob:∀{A:Option Addr} {n:Nat},Off (B+1) [pr,p2] A n→Off (B+1) [B] A n:=fun o=>o.nil.no (fun k hk=>by rw[List.mem_singleton.1 hk];omega)
       have hos:Off (B+1) [B] Ao out.length:=fun _ a ha=>⟨by have:=k2 a ha;omega,by have:=k2 a ha;simp;omega⟩
       have hdn:∀{ex:List Nat} {A:Option Addr} {n:Nat},Off (B+1) ex A n→Off w.heap.size [] A n:=fun o hp a ha=>⟨by have:=(o hp a ha).1;have:=HB.out;omega,by simp⟩
       have hq1:w.heap.size≤B:=by have:=HB.out;omega
       have hkz:=HKa.out.trans (HKk.out.mono HKa.out.size (fun k hk hx=>by
        rcases List.mem_cons.1 hx with rfl | hx
        ·simp
        ·have:=List.mem_singleton.1 hx;omega))
       refine ⟨⟨⟨⟨A,l.length,c⟩,hg 0,hg 1,hg 2,⟨Ao,out.length,co⟩⟩,by rw[HLL.out];rfl,⟨⟨hkgo.lab.kx (hob hkgo.lo) HKF.out,hkgo.lc,(hkgo.gon 0 (by omega)).kx (hob (hkgo.go 0 (by omega))) HKF.out,(hkgo.gon 1 (by omega)).kx (hob (hkgo.go 1 (by omega))) HKF.out,(hkgo.gon 2 (by omega)).kx (hob (hkgo.go 2 (by omega))) HKF.out,k1.kx hos HKF.out,k3⟩,hdn hkgo.lo,hdn (hkgo.go 0 (by omega)),hdn (hkgo.go 1 (by omega)),hdn (hkgo.go 2 (by omega)),hdn hos⟩⟩,Blk.kept (show Blk wo pr _ _ from HRDk.out) HKF.out (Blk.lt (show Blk wo pr _ _ from HRDk.out)) (by simp;omega),hkz.trans (HKF.out.mono hkz.size (fun k hk hx=>by have:=List.mem_singleton.1 hx;omega))⟩
end
end Go.Proofs.YtefpndiiedkmpaaGreatDoor
namespace Go.Proofs
open Go.Shelf
def Tryz.laysSF1_ren:Go.Shelf.Ren:=⟨fun | 6=>76 | 15=>125 | 14=>130 | 28=>172 | 29=>173 | 20=>179 | 21=>180 | 22=>181 | 23=>182 | 24=>183 | 25=>184 | 26=>185 | 27=>186 | 46=>230 | 47=>224 | 48=>225 | 49=>231 | 50=>232 | 57=>255 | n=>n,fun | 22=>69 | 24=>80 | 25=>163 | 3=>3 | 39=>171 | 0=>0 | 53=>184 | 55=>79 | 4=>4 | 46=>271 | 45=>270 | 50=>232 | 5=>5 | 9=>9 | 66=>313 | 70=>317 | 76=>342 | 77=>343 | n=>n,fun | n=>n⟩
theorem Tryz.laysSF1:Go.Proofs.SlLaysF.n6 Tryz.prog Tryz.laysSF1_ren:={
 mixed:=by kernel_rfl
 f6:=⟨Tryz.f76.name,by decide,Tryz.func76.trans (congrArg some (by kernel_rfl))⟩
 f14:=⟨Tryz.f130.name,by decide,Tryz.func130.trans (congrArg some (by kernel_rfl))⟩
 f15:=Tryz.func125.trans (congrArg some (by kernel_rfl))
 f20:=⟨Tryz.f179.name,by decide,Tryz.func179.trans (congrArg some (by kernel_rfl))⟩
 f21:=⟨Tryz.f180.name,by decide,Tryz.func180.trans (congrArg some (by kernel_rfl))⟩
 f22:=⟨Tryz.f181.name,by decide,Tryz.func181.trans (congrArg some (by kernel_rfl))⟩
 f23:=⟨Tryz.f182.name,by decide,Tryz.func182.trans (congrArg some (by kernel_rfl))⟩
 f24:=⟨Tryz.f183.name,by decide,Tryz.func183.trans (congrArg some (by kernel_rfl))⟩
 f25:=⟨Tryz.f184.name,by decide,Tryz.func184.trans (congrArg some (by kernel_rfl))⟩
 f26:=⟨Tryz.f185.name,by decide,Tryz.func185.trans (congrArg some (by kernel_rfl))⟩
 f27:=⟨Tryz.f186.name,by decide,Tryz.func186.trans (congrArg some (by kernel_rfl))⟩
 f28:=Tryz.func172.trans (congrArg some (by kernel_rfl))
 f29:=Tryz.func173.trans (congrArg some (by kernel_rfl))
 f46:=⟨Tryz.f230.name,by decide,Tryz.func230.trans (congrArg some (by kernel_rfl))⟩
 f47:=Tryz.func224.trans (congrArg some (by kernel_rfl))
 f48:=Tryz.func225.trans (congrArg some (by kernel_rfl))
 f49:=⟨Tryz.f231.name,by decide,Tryz.func231.trans (congrArg some (by kernel_rfl))⟩
 f50:=⟨Tryz.f232.name,by decide,Tryz.func232.trans (congrArg some (by kernel_rfl))⟩
 f57:=⟨Tryz.f255.name,by decide,Tryz.func255.trans (congrArg some (by kernel_rfl))⟩
 t0:=Tryz.underlying0
 a0:=Tryz.isAgg0
 z0:=Tryz.sizeOf0
 v0:=Tryz.zeroValue0
 t3:=Tryz.underlying3
 a3:=Tryz.isAgg3
 z3:=Tryz.sizeOf3
 v3:=Tryz.zeroValue3
 t4:=Tryz.underlying4
 a4:=Tryz.isAgg4
 z4:=Tryz.sizeOf4
 v4:=Tryz.zeroValue4
 t5:=Tryz.underlying5
 a5:=Tryz.isAgg5
 z5:=Tryz.sizeOf5
 v5:=Tryz.zeroValue5
 t9:=Tryz.underlying9
 a9:=Tryz.isAgg9
 z9:=Tryz.sizeOf9
 v9:=Tryz.zeroValue9
 t22:=Tryz.underlying69
 a22:=Tryz.isAgg69
 z22:=Tryz.sizeOf69
 v22:=Tryz.zeroValue69
 a24:=Tryz.isAgg80
 z24:=Tryz.sizeOf80
 t25:=Tryz.underlying163
 a25:=Tryz.isAgg163
 z25:=Tryz.sizeOf163
 v25:=Tryz.zeroValue163
 t39:=Tryz.underlying171
 a39:=Tryz.isAgg171
 z39:=Tryz.sizeOf171
 v39:=Tryz.zeroValue171
 t45:=Tryz.underlying270
 a45:=Tryz.isAgg270
 z45:=Tryz.sizeOf270
 v45:=Tryz.zeroValue270
 t46:=Tryz.underlying271
 a46:=Tryz.isAgg271
 z46:=Tryz.sizeOf271
 v46:=Tryz.zeroValue271
 t50:=Tryz.underlying232
 a50:=Tryz.isAgg232
 z50:=Tryz.sizeOf232
 v50:=Tryz.zeroValue232
 t53:=Tryz.underlying184
 a53:=Tryz.isAgg184
 z53:=Tryz.sizeOf184
 v53:=Tryz.zeroValue184
 t55:=Tryz.underlying79
 a55:=Tryz.isAgg79
 z55:=Tryz.sizeOf79
 v55:=Tryz.zeroValue79
 t66:=Tryz.underlying313
 a66:=Tryz.isAgg313
 z66:=Tryz.sizeOf313
 v66:=Tryz.zeroValue313
 t70:=Tryz.underlying317
 a70:=Tryz.isAgg317
 z70:=Tryz.sizeOf317
 v70:=Tryz.zeroValue317
 t76:=Tryz.underlying342
 a76:=Tryz.isAgg342
 z76:=Tryz.sizeOf342
 v76:=Tryz.zeroValue342
 t77:=Tryz.underlying343
 a77:=Tryz.isAgg343
 z77:=Tryz.sizeOf343
 v77:=Tryz.zeroValue343 }
end Go.Proofs
namespace Go.Proofs.YtefpndiiedkmpaaGreatDoor
section
open Go.RowKit Go.Shelf Go.Sort
attribute [local go_sem ↓] Go.wp_at_zero Go.wp_at_succ
attribute [local go_sem] Later.cell
section
variable {α : Type} [Inhabited α] {enc : α → Value}
theorem Ktk (d:Array α) (t:Nat) (ht:t < d.size):(flatK (fun x=>[enc x]) 1 d)[t]! = enc d[t]!:=by
 rw[get_flatK _ _ _ _ (by omega),Nat.div_one,Nat.mod_one];rfl
theorem Klm (w:World) (g m:Nat) (d:Array α) (os:Array Obj):sortWorld enc w g 0 m d os=sortWorldK (fun x=>[enc x]) 1 w g 0 m d os:=by
 unfold sortWorld sortWorldK putRowK putRow;congr 1
 have:putCells enc 0 d=putCells id 0 (flatK (fun x=>[enc x]) 1 d):=by
  funext cur;unfold putCells;apply Array.ext
  ·simp
  ·intro t h1 h2;rw[Array.getElem_mapIdx,Array.getElem_mapIdx];have hs:(flatK (fun x=>[enc x]) 1 d).size=d.size:=by rw[size_flatK];omega
   by_cases ht:0≤t∧t < 0+d.size
   ·rw[if_pos ht,if_pos (by omega),Nat.sub_zero,Ktk d t (by omega)];rfl
   ·rw[if_neg ht,if_neg (by omega)]
 rw[this]
theorem Qha {w:World} {g:Nat} {d:Array α} (h:HoldsK (fun x=>[enc x]) 1 w g 0 d):Holds enc w g 0 d:=by
 intro j hj;have hs:(flatK (fun x=>[enc x]) 1 d).size=d.size:=by rw[size_flatK];omega
 have:=h j (by rw[hs];exact hj);rw[Ktk d j hj] at this;exact this
end
structure LH (w0:World) (B:Nat) where
 h:Hd
 l:List Lb
 ok:Elems w0 B 2 encLb h.A h.n l
 n:h.n≤140737488351232
instance lhIn (w0:World) (B:Nat):Inhabited (LH w0 B):=⟨⟨⟨none,0,0⟩,[],Elems.nil_,Nat.zero_le _⟩⟩
def encLH {w0:World} {B:Nat} (x:LH w0 B):Value:=.slice x.h.A x.h.n x.h.c
def cfL {w0:World} {B:Nat} (x y:LH w0 B):Int:=cmpL x.l y.l
theorem ltL {w0:World} {B:Nat} (x y:LH w0 B):ltOf cfL x y=decide (cmpL x.l y.l < 0):=rfl
theorem Qnc {a b c:List Lb} (h1:0≤cmpL a b) (h2:0≤cmpL b c):0≤cmpL a c:=by
 have a1:=Kfq a b;have a2:=Kfq b c;have a3:=Kfq a c;rcases (by omega:cmpL b a=0∨cmpL b a < 0) with e1 | e1
 ·have:=Kgs e1;subst this;exact h2
 ·rcases (by omega:cmpL c b=0∨cmpL c b < 0) with e2 | e2
  ·have:=Kgs e2;subst this;exact h1
  ·have:=Khl e2 e1;omega
theorem swoL {w0:World} {B:Nat}:SWO (ltOf (cfL (w0:=w0) (B:=B))) where
 irrefl x:=by rw[ltL,Kiu];rfl
 trans x y z h1 h2:=by
  rw[ltL,decide_eq_true_eq] at h1 h2 ⊢;exact Khl h1 h2
 ntrans x y z h1 h2:=by
  rw[ltL,decide_eq_false_iff_not] at h1 h2 ⊢;have:=Qnc (a:=x.l) (b:=y.l) (c:=z.l) (by omega) (by omega);omega
theorem Ksp {w0:World} {B:Nat} (l:List (LH w0 B)) (g cap n:Nat) (w:World) (h:w.ownsRow B 80 1 (.slice (some ⟨g,0,none⟩) n cap) n (l.flatMap fun x=>[encLH x])) (hl:l.length=n) (hn:n≤1099511627776) (hb:Below B w0 w) (hB:B≤w0.heap.size) :
  Calls Tryz.prog 76 #[.slice (some ⟨g,0,none⟩) n cap,.func (.func 77) #[] #[]] w fun e w'=>e = .returned (.tuple #[])∧∃l':List (LH w0 B),l'.Perm l∧(l'.Pairwise fun a b=>¬cmpL b.l a.l < 0)∧w'.ownsRow B 80 1 (.slice (some ⟨g,0,none⟩) n cap) n (l'.flatMap fun x=>[encLH x])∧Below B w w':=by
 have hlt:=World.ownsRow.lt h g rfl;have hk:∀x:LH w0 B,([encLH x]:List Value).length=1:=fun _=>rfl
 have eg:∀args w,(callFunc 77 args).run Tryz.prog w = .ok (.enter 77 args) w:=enters_of Tryz.func77 (by kernel_rfl) rfl
 have hcmp:CmpLays1 Tryz.prog 77 #[] encLH (cfL (w0:=w0) (B:=B)) g 0 l.toArray.size w:=by
  intro m os dk hdk x y
  have hw:Below B w (sortWorld encLH w g 0 m dk os):=by
   rw[Klm];have hg:=Kje (fun x:LH w0 B=>[encLH x]) 1 w g 0 m dk os;exact ⟨hg.os,hg.tape,hg.output,hg.size,fun k hk=>hg.block k (by have:=hb.size;omega) (fun e=>by injection e with e;omega)⟩
  have hbw:=hb.trans hw;have hx:Elems (sortWorld encLH w g 0 m dk os) (sortWorld encLH w g 0 m dk os).heap.size 2 encLb x.h.A x.h.n x.l:=(x.ok.below hbw).more (Nat.le_trans hB hbw.size);have hy:Elems (sortWorld encLH w g 0 m dk os) (sortWorld encLH w g 0 m dk os).heap.size 2 encLb y.h.A y.h.n y.l:=(y.ok.below hbw).more (Nat.le_trans hB hbw.size);refine (Kiy x.l y.l x.h.A y.h.A x.h.n y.h.n x.h.c y.h.c _ (cmpL x.l y.l) rfl hx hy x.n y.n).mono ?_;rintro e w' ⟨he,⟨p,hp⟩⟩;exact ⟨he,p.n,p.os,hp⟩
 have hcon:=Any.slices_SortFunc Tryz.laysSF1 encLH (fun _=>rfl) cfL swoL 77 #[] g 0 cap l.toArray w eg hcmp (Qha (Kpz hk (by decide) h hl)) hlt.2 (by simp;omega);simp only[List.size_toArray,hl] at hcon;refine hcon.mono ?_;rintro e w' ⟨rfl,d',m,os,hp,hs,rfl⟩;obtain ⟨hsz,hpm⟩:=Kqr hl hp;rw[Klm];have hg:=Kje (fun x:LH w0 B=>[encLH x]) 1 w g 0 m d' os;refine ⟨rfl,d'.toList,hpm,?_,Kqn hk (by decide) h hl d' hsz m os,⟨hg.os,hg.tape,hg.output,hg.size,fun k hk=>hg.block k (by have:=hb.size;omega) (fun e=>by injection e with e;omega)⟩⟩;refine (Kqq hsz hs).imp ?_;intro a b hab;rw[ltL,decide_eq_false_iff_not] at hab;exact hab
end
section
open Go.RowKit Go.Shelf Go.Sort
open Lib renaming hid → Jh
attribute [local go_sem ↓] Go.wp_at_zero Go.wp_at_succ
attribute [local go_sem] Later.cell
theorem Qau (s:KSer) (h:KHd) (w:World) (hS:KAt w h s) (hz:KSz s):Calls Tryz.prog 79 #[kserV h s.max] w fun e w'=>e = .returned (.bool (!Kdh s))∧Below w.heap.size w w':=by
 obtain ⟨R,hR⟩:∃R,Kdh s=R:=⟨_,rfl⟩;have hf:=fun (W:World) (hk:KAt W h s)=>Kxg s h W hk hz
 obtain ⟨mx,hmx⟩:∃m,s.max=m:=⟨_,rfl⟩;rw[hR,hmx] at hf;rw[hR,hmx];have HF:=Jh hf;have HS:=Jh hS;clear hf hS hR hmx;unfold kserV at HF ⊢;go_enter Tryz.func79,Tryz.ntmps79
 go_upto_region 1 with fail
 obtain ⟨w1,hw1⟩:∃x,w.alloc (.cells #[.slice h.l.A h.l.n h.l.c,.int .i64 mx,.slice h.g0.A h.g0.n h.g0.c,.slice h.g1.A h.g1.n h.g1.c,.slice h.g2.A h.g2.n h.g2.c,.slice h.s.A h.s.n h.s.c] 85)=x:=⟨_,rfl⟩;have hb1:Below w.heap.size w w1:=by rw[←hw1];exact (Below.refl _ _).alloc (Nat.le_refl _) _
 have hk1:Blk w1 w.heap.size 85 #[.slice h.l.A h.l.n h.l.c,.int .i64 mx,.slice h.g0.A h.g0.n h.g0.c,.slice h.g1.A h.g1.n h.g1.c,.slice h.g2.A h.g2.n h.g2.c,.slice h.s.A h.s.n h.s.c]:=by rw[←hw1];exact Blk.new _ _ _
 obtain ⟨q,hq⟩:∃x,w.heap.size=x:=⟨_,rfl⟩;have HQ:=Jh hq;rw[hq] at hk1;rw[hw1,hq];have HB1:=Jh hb1;have HC:=Jh (HF.out w1 (HS.out.below hb1));have c0:=hk1.cell 0;have c1:=hk1.cell 1;have c2:=hk1.cell 2;have c3:=hk1.cell 3;have c4:=hk1.cell 4;have c5:=hk1.cell 5;simp at c0 c1 c2 c3 c4 c5;clear hw1 hb1 hk1 hq;go_wp2_with fail
 refine HC.out.mono ?_;rintro _ w2 ⟨rfl,hb2⟩;have HB2:=Jh (HB1.out.trans (hb2.mono HB1.out.size));clear hb2 c0 c1 c2 c3 c4 c5;go_wp2_with fail
 go_ret
 exact ⟨rfl,HB2.out⟩
theorem Kxw (L:List KSer) (A:Option Addr) (n c:Nat) (w:World) (hS:KSers w A n L) (hz:∀s∈L,KSz s) (hn:n≤1099511627776) :
  Calls Tryz.prog 135 #[.slice A n c,.func (.func 79) #[] #[]] w fun e w'=>(∃k:Int,e = .returned (.int .i64 k)∧-1≤k∧k≤1099511627776∧(k = -1↔∀s∈L,Kdh s=true))∧Below w.heap.size w w':=by
 obtain ⟨ys,hy1,hy2,hy3⟩:=hS;have HY:=Jh hy1;have HYS:=Jh hy3;have HLN:=Jh hy2;have HZ:=Jh hz;have eg:∀args w,(callFunc 79 args).run Tryz.prog w = .ok (.enter 79 args) w:=enters_of Tryz.func79 (by kernel_rfl) rfl;clear hy1 hy2 hy3 hz;go_enter Tryz.func135,Tryz.ntmps135
 go_wp2_with fail
 go_loopg [8] n (fun gg s8 wr=>∃i:Nat,i+gg=n∧s8 = .int .i64 (i:Int)∧(∀j,j < i→Kdh L[j]! = true)∧Below w.heap.size w wr)
 case atStart=>exact ⟨0,by omega,rfl,(fun j hj=>by omega),Below.refl _ _⟩
 case round=>
  obtain ⟨i,hig,rfl,hall,hb⟩:=hrel;have HIG:=Jh hig;have HA:=Jh hall;have HB:=Jh hb;clear hig hall hb;obtain ⟨wo,rfl⟩:∃x,x=wr:=⟨_,rfl⟩
  by_cases hi:i < n
  ·have el:decide (i < n)=true:=by rw[decide_eq_true_eq];exact hi
   have hi2:(i:Int) < (n:Int):=by omega
   obtain ⟨b1,o1,rfl,hb1,g1⟩:=((HY.out.below HB.out).more HB.out.size).getS hi;have hil:i < L.length:=by rw[HLN.out];exact hi
   have hsm:=HZ.out L[i]! (by rw[getElem!_pos L i hil];exact List.getElem_mem hil);obtain ⟨hm,hka⟩:=HYS.out i hi;have hkc:=Qau L[i]! ys[i]!.h wo (hka.below HB.out) hsm;rw[←hm] at hkc;obtain ⟨y,hy⟩:∃y,ys[i]! = y:=⟨_,rfl⟩;rw[hy] at g1 hkc;have p0:wo.cell? ⟨b1,o1+i*6,none⟩=some (.slice y.h.l.A y.h.l.n y.h.l.c):=g1 0 _ rfl;have p1:wo.cell? ⟨b1,o1+i*6+1,none⟩=some (.int .i64 y.m):=g1 1 _ rfl;have p2:wo.cell? ⟨b1,o1+i*6+2,none⟩=some (.slice y.h.g0.A y.h.g0.n y.h.g0.c):=g1 2 _ rfl;have p3:wo.cell? ⟨b1,o1+i*6+3,none⟩=some (.slice y.h.g1.A y.h.g1.n y.h.g1.c):=g1 3 _ rfl;have p4:wo.cell? ⟨b1,o1+i*6+4,none⟩=some (.slice y.h.g2.A y.h.g2.n y.h.g2.c):=g1 4 _ rfl;have p5:wo.cell? ⟨b1,o1+i*6+5,none⟩=some (.slice y.h.s.A y.h.s.n y.h.s.c):=g1 5 _ rfl;unfold kserV at hkc;have HKC:=Jh hkc;obtain ⟨⟨⟨lA,ln,lc⟩,⟨g0A,g0n,g0c⟩,⟨g1A,g1n,g1c⟩,⟨g2A,g2n,g2c⟩,⟨sA,sn,sc⟩⟩,ym⟩:=y;dsimp only at p0 p1 p2 p3 p4 p5 HKC;obtain ⟨F,hF⟩:∃F,Kdh L[i]! = F:=⟨_,rfl⟩;rw[hF] at HKC;have HFF:=Jh hF;clear g1 hy hka hkc hm hsm hF;go_wp2_with fail
   refine HKC.out.mono ?_;rintro _ w2 ⟨rfl,hb2⟩;have HB2:=Jh (HB.out.trans (hb2.mono HB.out.size));clear hb2 p0 p1 p2 p3 p4 p5
   cases F with
   | false=>
    go_wp2_with fail
    go_ret
    exact ⟨⟨(i:Int),rfl,by omega,by omega,⟨fun h=>by omega,fun h=>by
     have:=h L[i]! (by rw[getElem!_pos L i hil];exact List.getElem_mem hil);rw[HFF.out] at this
     cases this⟩⟩,HB2.out⟩
   | true=>
    have HN:=Jh (show ∀j,j < i+1→Kdh L[j]! = true from fun j hj=>by
     by_cases hji:j=i
     ·rw[hji];exact HFF.out
     ·exact HA.out j (by omega))
    go_wp2_with fail
    go_roundg (gk - 1)
    case measure=>have:=HIG.out;omega
    case rel=>exact ⟨i+1,by have:=HIG.out;omega,by first | rfl | go_num,HN.out,HB2.out⟩
  ·have el:decide (i < n)=false:=by rw[decide_eq_false_iff_not];exact hi
   have hin:i=n:=by have:=HIG.out;omega
   go_wp2_with fail
   go_ret
   exact ⟨⟨-1,rfl,by omega,by omega,⟨fun _ s hs=>by
    obtain ⟨j,hj,rfl⟩:=List.getElem_of_mem hs;have:=HA.out j (by rw[HLN.out] at hj;omega)
    rwa[getElem!_pos L j hj] at this,fun _=>rfl⟩⟩,HB.out⟩
end
end Go.Proofs.YtefpndiiedkmpaaGreatDoor
