/- Merged (what the claim wants of): MrgCompP. -/
import Derived.Test.YtdoiekknhnbepaaGreatDoorCob05
import Derived.Test.YtdoiekknhnbepaaGreatDoorProg
import Derived.Shelf.SlSortCmp.KitK
import Derived.Sort.WalkB2
import Derived.Sort.WalkB12
import Derived.Deep.LoopGhost
import Derived.Lib.SliceRun
import Derived.Lib.BufferOwn
set_option linter.unusedVariables false
set_option linter.unusedSimpArgs false
set_option maxRecDepth 100000
set_option maxHeartbeats 8000000
namespace Go.Proofs.YtdoiekknhnbepaaGreatDoor
section
open List renaming length_append → Jd
attribute [-go_sem] loadCells
open Go.Shelf Go.RowKit Go.Lib Go.Sort
section
variable {α : Type} [Inhabited α] {enc : α → List Value} {ef : α → α → Bool} {d0 : Array α} {w0 : World} {blk off cap g N : Nat} {cb : Array Value}
set_option maxHeartbeats 1500000
set_option maxRecDepth 1000000
theorem Kok (eg:∀args w,(callFunc g args).run Tryz.prog w = .ok (.enter g args) w) (heq:Kmo Tryz.prog g cb enc 2 ef blk off d0.size w0) (R:RowK enc 2 w0 blk off d0) (hN:d0.size=N) (hsz:N < 1152921504606846976) (xs:List α) (w:World) (hl:xs.length=N)
  (hcl:∀(W:World) (dk:Array α) (i:Nat),dk.size=N→SWK enc 2 w0 blk off dk W→i≤N→∃W',(∀ty,(Builtin.clear_ #[55] ty #[.slice (some ⟨blk,off+i*2,none⟩) (N - i) (cap - i)]).run Tryz.prog W = .ok (.tuple #[]) W')∧∃dk':Array α,dk'.size=N∧dk'.toList.take i=dk.toList.take i∧SWK enc 2 w0 blk off dk' W')
  (hcN:N≤cap) (S0:SWK enc 2 w0 blk off xs.toArray w) :
  Calls Tryz.prog 135 #[.slice (some ⟨blk,off,none⟩) N cap,.func (.func g) #[] cb] w fun e w'=>e = .returned (.slice (some ⟨blk,off,none⟩) (dupE ef xs).length cap)∧∃zs:List α,zs.length=N∧zs.take (dupE ef xs).length=dupE ef xs∧SWK enc 2 w0 blk off zs.toArray w':=by
 have mixed:Tryz.prog.follows .mixedOrders=true:=by kernel_rfl
 have HC:Aside _:=heq;have HCL:Aside _:=hcl;have S1:Aside (SWK enc 2 w0 blk off xs.toArray w):=S0;have HQ:Hid (d0.size=N∧xs.length=N):=⟨hN,hl⟩;clear heq hcl S0 hN hl;go_enter Tryz.func135,Tryz.ntmps135
 rcases Nat.lt_or_ge N 2 with h2 | h2
 ·have hz:(N:Int) < 2:=by omega
  have HE:Hid (dupE ef xs=xs):=by
   have q:=HQ.out.2
   match xs,q with
   | [],q=>rfl
   | [x],_=>rfl
   | _ :: _ :: _,q=>simp at q;omega
  go_wp2_with fail
  go_ret
  refine ⟨?_,xs,HQ.out.2,?_,S1.out⟩
  ·show Ending.returned (.slice (some ⟨blk,off,none⟩) N cap)=_
   rw[HE.out,HQ.out.2]
  ·rw[HE.out,List.take_length]
 have hz:¬(N:Int) < 2:=by omega
 have hEx:∃x l,xs=x :: l:=by
  have q:=HQ.out.2
  cases xs with
  | nil=>simp at q;omega
  | cons x l=>exact ⟨x,l,rfl⟩
 obtain ⟨x0,l0,hxl⟩:=hEx;have HB0:Hid (xs = []++x0 :: l0∧dupE ef xs = []++x0 :: ddE ef x0 l0):=⟨hxl,by rw[hxl];rfl⟩;clear hxl;go_wp2_with fail
 go_loopg [5] N (fun kx s5 wr=>∃(k:Nat) (K0 R0:List α) (p:α),s5 = .int .i64 k∧0 < k∧k≤N∧N≤k+kx∧Hid (K0.length+1=k∧xs=K0++p :: R0∧dupE ef xs=K0++p :: ddE ef p R0)∧Aside (SWK enc 2 w0 blk off xs.toArray wr))
 case atStart=>exact ⟨1,[],l0,x0,rfl,by omega,by omega,by omega,⟨rfl,HB0.out.1,HB0.out.2⟩,S1⟩
 case round=>
  clear S1 HB0;obtain ⟨k,K0,R0,p,rfl,hk0,hkN,hkg,HB,S1⟩:=hrel;rcases Nat.lt_or_ge k N with hlt | hge
  ·have hlz:(k:Int) < (N:Int):=by omega
   obtain ⟨b1,b2,b3⟩:=HB.out;obtain ⟨q1,q2⟩:=HQ.out
   have hRx:∃y R1,R0=y :: R1:=by
    cases R0 with
    | nil=>rw[b2] at q2;simp at q2;omega
    | cons y R1=>exact ⟨y,R1,rfl⟩
   obtain ⟨y,R1,hR0⟩:=hRx;have hy1:xs.toArray[k]! = y:=by rw[b2,hR0,show K0++p :: y :: R1=(K0 ++ [p])++y :: R1 by simp];exact Kco (by simp only[Jd,List.length_cons,List.length_nil];omega)
   have hp1:xs.toArray[k - 1]! = p:=by rw[b2];exact Kco (by omega)
   have hszd:xs.toArray.size=N:=by simpa using q2
   obtain ⟨k1,hk1⟩:∃k1,k=k1+1:=⟨k - 1,by omega⟩;have hk2:k - 1=k1:=by omega
   rw[hk2] at hp1;have hk3:(k:Int) - 1=(k1:Int):=by omega
   have la:∀n os,Sem.run Tryz.prog (loadCells ⟨blk,off+k*2,none⟩ 2) (grow (wr.drewN n) os) = .ok (enc y).toArray (grow (wr.drewN n) os):=by rw[←hy1];exact S1.out.ld R (by omega) Tryz.prog k (by omega)
   have lb:∀n os,Sem.run Tryz.prog (loadCells ⟨blk,off+k1*2,none⟩ 2) (grow (wr.drewN n) os) = .ok (enc p).toArray (grow (wr.drewN n) os):=by rw[←hp1];exact S1.out.ld R (by omega) Tryz.prog k1 (by omega)
   have hc:=fun n os=>HC.out (grow (wr.drewN n) os) xs.toArray (by omega) (S1.out.grown n os) y p
   have e2:(k1:Int) < (N:Int):=by omega
   have iak:((k:Int)).toNat=k:=by omega
   have ibk:(0:Int)≤(k:Int):=by omega
   have ick:IntKind.i64.wrap (k:Int)=(k:Int):=by rw[IntKind.wrap_i64];omega
   have idk:((k1:Int)).toNat=k1:=by omega
   have iek:(0:Int)≤(k1:Int):=by omega
   have ifk:IntKind.i64.wrap (k1:Int)=(k1:Int):=by rw[IntKind.wrap_i64];omega
   have hk1N:k1 < N:=by omega
   have HK1:Hid (k=k1+1):=hk1;have HR0:Hid (R0=y :: R1):=hR0
   cases hL:ef y p with
   | true=>
    rw[hL] at hc;have HB2:Hid (K0.length+1=k∧xs=K0++p :: y :: R1∧dupE ef xs=(K0 ++ [p])++ddE ef y R1):=⟨b1,by rw[b2,hR0],by rw[b3,hR0,ddE,if_pos hL];simp⟩;clear b1 b2 b3 q1 q2 hR0 hy1 hp1 hszd HB HR0 hL hk1 hk2;go_wp2_with fail
    go_quiet_grown (first | (go_at_fn g;refine Calls.grown_of (hc _ _)))
    have S2:Aside (SWK enc 2 w0 blk off xs.toArray (grow (wr.drewN nq) osq)):=S1.out.grown nq osq;clear la lb hc S1;generalize grow (wr.drewN nq) osq=w2 at S2 ⊢;clear nq osq;have S3:Aside (SWK enc 2 w0 blk off ((K0 ++ [p])++([]++y :: R1)).toArray w2):=by rw[show (K0 ++ [p])++([]++y :: R1)=K0++p :: y :: R1 by simp,←HB2.out.2.1];exact S2.out
    have hk1:=HK1.out;have hlen0:K0.length=k1:=by have:=HB2.out.1;omega
    have hlR:R1.length+(k+1)=N:=by have q:=HQ.out.2;rw[HB2.out.2.1] at q;simp only[Jd,List.length_cons] at q;omega
    have HL:Hid ((K0 ++ [p]).length=k∧k+1=(K0 ++ [p]).length+([]:List α).length+1∧(K0 ++ [p]).length+([]:List α).length+1+R1.length=N∧dupE ef xs=(K0 ++ [p])++ddE ef y R1):=⟨by simp only[Jd,List.length_cons,List.length_nil];omega,by simp only[Jd,List.length_cons,List.length_nil];omega,by simp only[Jd,List.length_cons,List.length_nil];omega,HB2.out.2.2⟩;clear hlen0 hlR HB2 S2 hk1 HK1;obtain ⟨c0,hc0⟩:∃c0,c0=k:=⟨_,rfl⟩;subst hc0;have hcap:c0≤cap:=by omega
    clear hlz hkg;go_wp2_with fail
    go_loopg [5,7] N (fun kx s5 s7 wr=>∃(k j:Nat) (K1 M R2:List α) (z:α),s5 = .int .i64 k∧s7 = .int .i64 j∧0 < j∧k < c0+j∧c0+j≤N∧N≤c0+j+kx∧Hid (K1.length=k∧c0+j=K1.length+M.length+1∧K1.length+M.length+1+R2.length=N∧dupE ef xs=K1++ddE ef z R2)∧Aside (SWK enc 2 w0 blk off (K1++(M++z :: R2)).toArray wr))
    case atStart=>exact ⟨c0,1,K0 ++ [p],[],R1,y,by first | rfl | go_num,rfl,by omega,by omega,by omega,by omega,HL,S3⟩
    case round=>
     clear HL S3;obtain ⟨k,j,K1,M,R2,z,rfl,rfl,hj0,hkj,hjN,hjg,HB,S1⟩:=hrel;rcases Nat.lt_or_ge (c0+j) N with hlt | hge
     ·have hlz:(j:Int) < (N:Int) - (c0:Int):=by omega
      have hRx:∃v R3,R2=v :: R3:=by
       obtain ⟨b1,b2,b3,b4⟩:=HB.out
       cases R2 with
       | nil=>simp only[List.length_nil] at b3;omega
       | cons v R3=>exact ⟨v,R3,rfl⟩
      obtain ⟨v,R3,hR2⟩:=hRx;obtain ⟨b1,b2,b3,b4⟩:=HB.out;obtain ⟨j1,rfl⟩:∃j1,j=j1+1:=⟨j - 1,by omega⟩;subst hR2;simp only[List.length_cons] at b3;have hv1:(K1++(M++z :: v :: R3)).toArray[c0+(j1+1)]! = v:=by rw[show K1++(M++z :: v :: R3)=(K1++(M ++ [z]))++v :: R3 by simp];exact Kco (by simp only[Jd,List.length_cons,List.length_nil];omega)
      have hz1:(K1++(M++z :: v :: R3)).toArray[c0+j1]! = z:=by rw[show K1++(M++z :: v :: R3)=(K1++M)++z :: v :: R3 by simp];exact Kco (by simp only[Jd];omega)
      have hszd:(K1++(M++z :: v :: R3)).toArray.size=N:=by simp only[List.size_toArray,Jd,List.length_cons];omega
      obtain ⟨dk,hdk⟩:∃dk,dk=(K1++(M++z :: v :: R3)).toArray:=⟨_,rfl⟩;rw[←hdk] at hv1 hz1 hszd S1;have q1:=HQ.out.1
      have la:∀n os,Sem.run Tryz.prog (loadCells ⟨blk,off+c0*2+(j1+1)*2,none⟩ 2) (grow (wr.drewN n) os) = .ok (enc v).toArray (grow (wr.drewN n) os):=by
       rw[show off+c0*2+(j1+1)*2=off+(c0+(j1+1))*2 by omega,←hv1];exact S1.out.ld R (by omega) Tryz.prog (c0+(j1+1)) (by omega)
      have lb:∀n os,Sem.run Tryz.prog (loadCells ⟨blk,off+c0*2+j1*2,none⟩ 2) (grow (wr.drewN n) os) = .ok (enc z).toArray (grow (wr.drewN n) os):=by
       rw[show off+c0*2+j1*2=off+(c0+j1)*2 by omega,←hz1];exact S1.out.ld R (by omega) Tryz.prog (c0+j1) (by omega)
      have hc:=fun n os=>HC.out (grow (wr.drewN n) os) dk (by omega) (S1.out.grown n os) v z
      have e1:(j1:Int)+1 < ((N - c0:Nat):Int):=by omega
      have e2:(j1:Int) < ((N - c0:Nat):Int):=by omega
      have iaj1:(((j1:Int)+1)).toNat=j1+1:=by omega
      have ibj1:(0:Int)≤(j1:Int)+1:=by omega
      have icj1:IntKind.i64.wrap ((j1:Int)+1)=(j1:Int)+1:=by rw[IntKind.wrap_i64];omega
      have idj1:((j1:Int)).toNat=j1:=by omega
      have iej1:(0:Int)≤(j1:Int):=by omega
      have ifj1:IntKind.i64.wrap (j1:Int)=(j1:Int):=by rw[IntKind.wrap_i64];omega
      have HDK:Hid (dk=(K1++(M++z :: v :: R3)).toArray∧dk.size=N):=⟨hdk,hszd⟩
      cases hL:ef v z with
      | true=>
       rw[hL] at hc;have HB2:Hid (K1.length=k∧c0+(j1+1+1)=K1.length+(M ++ [z]).length+1∧K1.length+(M ++ [z]).length+1+R3.length=N∧dupE ef xs=K1++ddE ef v R3):=⟨b1,by simp only[Jd,List.length_cons,List.length_nil];omega,by simp only[Jd,List.length_cons,List.length_nil];omega,by rw[b4,ddE,if_pos hL]⟩;clear b1 b2 b3 b4 hv1 hz1 hszd hdk HB hL q1;go_wp2_with fail
       go_quiet_grown (first | (go_at_fn g;refine Calls.grown_of (hc _ _)))
       have S2:Aside (SWK enc 2 w0 blk off dk (grow (wr.drewN nq) osq)):=S1.out.grown nq osq;clear la lb hc S1;generalize grow (wr.drewN nq) osq=w2 at S2 ⊢;clear nq osq;have S3:Aside (SWK enc 2 w0 blk off (K1++((M ++ [z])++v :: R3)).toArray w2):=by rw[show K1++((M ++ [z])++v :: R3)=K1++(M++z :: v :: R3) by simp,←HDK.out.1];exact S2.out
       clear S2 HDK;go_wp2_with fail
       go_roundg (N - (c0+(j1+2)))
       case measure=>omega
       case rel=>exact ⟨k,j1+2,K1,M ++ [z],R3,v,rfl,by first | rfl | go_num,by omega,by omega,by omega,by omega,HB2,S3⟩
      | false=>
       rw[hL] at hc
       have hMx:∃m M2,M ++ [z]=m :: M2:=by
        cases M with
        | nil=>exact ⟨z,[],rfl⟩
        | cons a M=>exact ⟨a,M ++ [z],rfl⟩
       obtain ⟨m,M2,hM2⟩:=hMx;have hMl:M2.length=M.length:=by have:=congrArg List.length hM2;simp only[Jd,List.length_cons,List.length_nil] at this;omega
       have HB2:Hid ((K1 ++ [v]).length=k+1∧c0+(j1+1+1)=(K1 ++ [v]).length+M2.length+1∧(K1 ++ [v]).length+M2.length+1+R3.length=N∧dupE ef xs=(K1 ++ [v])++ddE ef v R3):=⟨by simp[b1],by simp only[Jd,List.length_cons,List.length_nil];omega,by simp only[Jd,List.length_cons,List.length_nil];omega,by rw[b4,ddE,if_neg (by rw[hL];exact Bool.noConfusion)];simp⟩
       have HN:Hid (dk.setIfInBounds k v=((K1 ++ [v])++(M2++v :: R3)).toArray):=by
        show _=_
        rw[hdk,show K1++(M++z :: v :: R3)=K1++m :: (M2++v :: R3) by rw[show M++z :: v :: R3=(M ++ [z])++v :: R3 by simp,hM2];rfl,Kkj b1.symm];simp
       have hkN2:k < N:=by omega
       have hkc:k < cap:=by omega
       clear b1 b2 b3 b4 hv1 hz1 hszd hdk HB hL hM2 hMl q1;go_wp2_with fail
       go_quiet_grown (first | (go_at_fn g;refine Calls.grown_of (hc _ _)))
       have S2:Aside (SWK enc 2 w0 blk off dk (grow (wr.drewN nq) osq)):=S1.out.grown nq osq;clear la lb hc S1;generalize grow (wr.drewN nq) osq=w2 at S2 ⊢;clear nq osq;have hszd:=HDK.out.2;have q1:=HQ.out.1
       have hv1:dk[c0+(j1+1)]! = v:=by
        rw[HDK.out.1,show K1++(M++z :: v :: R3)=(K1++(M ++ [z]))++v :: R3 by simp];have t1:=HB2.out.1;have t2:=HB2.out.2.1;have t3:=HB2.out.2.2.1;have t4:=congrArg Array.size HDK.out.1;simp only[List.size_toArray,Jd,List.length_cons,List.length_nil] at t1 t2 t3 t4;exact Kco (by simp only[Jd,List.length_cons,List.length_nil];omega)
       have l1:Sem.run Tryz.prog (loadCells ⟨blk,off+c0*2+(j1+1)*2,none⟩ 2) w2 = .ok (enc v).toArray w2:=by
        rw[show off+c0*2+(j1+1)*2=off+(c0+(j1+1))*2 by omega,←hv1];exact S2.out.load R (by omega) Tryz.prog (c0+(j1+1)) (by omega)
       have s1:Sem.run Tryz.prog (storeCells ⟨blk,off+k*2,none⟩ (enc v) 0) w2 = .ok () (w2.setCells blk (off+k*2) (enc v)):=SWK.st S2.out R (by omega) Tryz.prog k (by omega) v;have S3:Aside (SWK enc 2 w0 blk off ((K1 ++ [v])++(M2++v :: R3)).toArray (w2.setCells blk (off+k*2) (enc v))):=by rw[←HN.out];exact SWK.put S2.out R k (by omega) v
       have n1:(enc v).length=2:=R.hk _;clear S2 HDK hszd q1 hv1 HN;generalize enc v=cV at l1 s1 S3 n1;have k1z:(k:Int) < (N:Int):=by omega
       go_wp2_with fail
       clear l1 s1;generalize w2.setCells blk (off+k*2) cV=w3 at S3 ⊢;go_wp2_with fail
       go_roundg (N - (c0+(j1+2)))
       case measure=>omega
       case rel=>exact ⟨k+1,j1+2,K1 ++ [v],M2,R3,v,by first | rfl | go_num,by first | rfl | go_num,by omega,by omega,by omega,by omega,HB2,S3⟩
     ·have hlz:¬(j:Int) < (N:Int) - (c0:Int):=by omega
      obtain ⟨b1,b2,b3,b4⟩:=HB.out;have hR2:R2 = []:=List.eq_nil_of_length_eq_zero (by omega);subst hR2;obtain ⟨W',hcr,dk',d1,d2,d3⟩:=HCL.out wr _ k (by simp only[List.size_toArray,Jd,List.length_cons,List.length_nil] at b3 ⊢;omega) S1.out (by omega)
      have HF:Hid (∃zs:List α,k=(dupE ef xs).length∧zs.length=N∧zs.take (dupE ef xs).length=dupE ef xs∧SWK enc 2 w0 blk off zs.toArray W'):=by
       rw[ddE,List.append_nil] at b4;refine ⟨dk'.toList,by rw[b4];exact b1.symm,by simpa using d1,?_,by simpa using d3⟩;rw[b4,b1,d2];simp only[List.toList_toArray];rw[←b1,List.take_left' rfl]
      have hkN2:k≤N:=by omega
      have hkc:k≤cap:=by omega
      have k1z:(k:Int)≤(N:Int):=by omega
      have k2z:(k:Int)≤(cap:Int):=by omega
      have k3z:(0:Int)≤(k:Int):=by omega
      clear b1 b2 b3 b4 d1 d2 d3 S1 HB;go_wp2_with fail
      go_ret
      obtain ⟨zs,f1,f2,f3,f4⟩:=HF.out;refine ⟨?_,zs,f2,f3,f4⟩;show Ending.returned (.slice (some ⟨blk,off,none⟩) k cap)=_
      rw[f1]
   | false=>
    rw[hL] at hc;have HB2:Hid ((K0 ++ [p]).length+1=k+1∧xs=(K0 ++ [p])++y :: R1∧dupE ef xs=(K0 ++ [p])++y :: ddE ef y R1):=⟨by simp only[Jd,List.length_cons,List.length_nil];omega,by rw[b2,hR0];simp,by rw[b3,hR0,ddE,if_neg (by rw[hL];exact Bool.noConfusion)];simp⟩;clear b1 b2 b3 q1 q2 hR0 hy1 hp1 hszd HB HR0 hL hk1 hk2;go_wp2_with fail
    go_quiet_grown (first | (go_at_fn g;refine Calls.grown_of (hc _ _)))
    have S2:Aside (SWK enc 2 w0 blk off xs.toArray (grow (wr.drewN nq) osq)):=S1.out.grown nq osq;clear la lb hc S1;generalize grow (wr.drewN nq) osq=w2 at S2 ⊢;clear nq osq;go_wp2_with fail
    go_roundg (N - (k+1))
    case measure=>omega
    case rel=>exact ⟨k+1,K0 ++ [p],R1,y,by first | rfl | go_num,by omega,by omega,by omega,HB2,S2⟩
  ·have hlz:¬(k:Int) < (N:Int):=by omega
   obtain ⟨b1,b2,b3⟩:=HB.out;have q2:=HQ.out.2
   have hR0:R0 = []:=by
    refine List.eq_nil_of_length_eq_zero ?_;rw[b2] at q2;simp only[Jd,List.length_cons] at q2;omega
   have HE:Hid (dupE ef xs=xs):=by
    show _=_
    rw[b3,b2,hR0];rfl
   clear b1 b2 b3 q2 hR0 HB;go_wp2_with fail
   go_ret
   refine ⟨?_,xs,HQ.out.2,?_,S1.out⟩
   ·show Ending.returned (.slice (some ⟨blk,off,none⟩) N cap)=_
    rw[HE.out,HQ.out.2]
   ·rw[HE.out,List.take_length]
end
end
end Go.Proofs.YtdoiekknhnbepaaGreatDoor
