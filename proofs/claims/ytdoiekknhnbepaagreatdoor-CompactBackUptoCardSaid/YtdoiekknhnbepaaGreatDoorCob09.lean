/- Merged (what the claim wants of): MrgSortP, MrgStabP. -/
import Derived.Test.YtdoiekknhnbepaaGreatDoorCob02
import Derived.Shelf.SlSortCmp.KitK
import Derived.Shelf.SlLaysF0
import Derived.Sort.WalkB2
import Derived.Sort.WalkB12
import Derived.Deep.LoopGhost
import Derived.Test.YtdoiekknhnbepaaGreatDoorProg
set_option linter.unusedVariables false
set_option linter.unusedSimpArgs false
set_option maxRecDepth 100000
set_option maxHeartbeats 8000000
namespace Go.Proofs.YtdoiekknhnbepaaGreatDoor
section
open List renaming length_append → Jd
attribute [-go_sem] loadCells
open Go.Shelf Go.RowKit Go.Lib Go.Sort
section
variable {α : Type} [Inhabited α] {enc : α → List Value} {cf : α → α → Int} {d0 : Array α} {w0 : World} {blk off cap g N : Nat} {cb : Array Value}
set_option maxHeartbeats 4000000
set_option maxRecDepth 1000000
theorem Keq (A X M Y S:List α) (a b n:Nat) (w:World) (R:RowK enc 2 w0 blk off d0) (hN:d0.size=N) (hl:A.length+X.length+M.length+Y.length+S.length=N) (hX:X.length=n) (hY:Y.length=n) (ha:a=A.length) (hb:b=A.length+n+M.length) (hsz:N < 4611686018427387904)
  (S0:SWK enc 2 w0 blk off (A++(X++(M++(Y++S)))).toArray w) :
  Calls Tryz.prog 263 #[.slice (some ⟨blk,off,none⟩) N cap,.int .i64 a,.int .i64 b,.int .i64 n,.func (.func g) #[] cb] w fun e w'=>e = .returned (.tuple #[])∧SWK enc 2 w0 blk off (A++(Y++(M++(X++S)))).toArray w':=by
 have S1:Aside (SWK enc 2 w0 blk off (A++(X++(M++(Y++S)))).toArray w):=S0;have HQ:Hid (d0.size=N∧A.length+X.length+M.length+Y.length+S.length=N∧X.length=n∧Y.length=n∧a=A.length∧b=A.length+n+M.length):=⟨hN,hl,hX,hY,ha,hb⟩;have ban:a+n≤b:=by omega
 have bbn:b+n≤N:=by omega
 clear hN hl hX hY ha hb;have mixed:Tryz.prog.follows .mixedOrders=true:=by kernel_rfl
 clear S0;go_enter Tryz.func263,Tryz.ntmps263
 go_wp2
 go_loopg [10] n (fun kx s10 wr=>∃(i:Nat) (X1 X2 Y1 Y2:List α),s10 = .int .i64 i∧i+kx=n∧Hid (X1.length=i∧Y1.length=i∧X=X1++X2∧Y=Y1++Y2)∧Aside (SWK enc 2 w0 blk off (A++(Y1++(X2++(M++(X1++(Y2++S)))))).toArray wr))
 case atStart=>exact ⟨0,[],X,[],Y,rfl,by omega,⟨rfl,rfl,rfl,rfl⟩,S1⟩
 case round=>
  clear S1;obtain ⟨i,X1,X2,Y1,Y2,rfl,hk,HXY,S1⟩:=hrel;obtain ⟨hN,hl,hX,hY,ha,hb⟩:=HQ.out;obtain ⟨h1,h2,h3,h4⟩:=HXY.out;have e1:X1.length+X2.length=n:=by rw[←hX,h3,Jd]
  have e2:Y1.length+Y2.length=n:=by rw[←hY,h4,Jd]
  by_cases hlt:i < n
  ·have hlz:(i:Int) < (n:Int):=by omega
   obtain ⟨x,X2,rfl⟩:∃x l,X2=x :: l:=by
    cases X2 with
    | nil=>simp at e1;omega
    | cons x l=>exact ⟨x,l,rfl⟩
   obtain ⟨y,Y2,rfl⟩:∃y l,Y2=y :: l:=by
    cases Y2 with
    | nil=>simp at e2;omega
    | cons y l=>exact ⟨y,l,rfl⟩
   simp only[List.length_cons] at e1 e2
   have HN:Hid (swp (A++(Y1++(x :: X2++(M++(X1++(y :: Y2++S)))))).toArray (a+i) (b+i)=(A++((Y1 ++ [y])++(X2++(M++((X1 ++ [x])++(Y2++S)))))).toArray):=by
    show _=_
    rw[show A++(Y1++(x :: X2++(M++(X1++(y :: Y2++S)))))=(A++Y1)++x :: ((X2++(M++X1))++y :: (Y2++S)) by simp,Kec (by simp only[Jd];omega) (by simp only[Jd];omega)];simp
   have hszd:(A++(Y1++(x :: X2++(M++(X1++(y :: Y2++S)))))).toArray.size=N:=by
    simp only[List.size_toArray,Jd,List.length_cons];omega
   obtain ⟨dk,hdk⟩:∃dk,dk=(A++(Y1++(x :: X2++(M++(X1++(y :: Y2++S)))))).toArray:=⟨_,rfl⟩;rw[←hdk] at HN S1 hszd;have HXY2:Hid ((X1 ++ [x]).length=i+1∧(Y1 ++ [y]).length=i+1∧X=(X1 ++ [x])++X2∧Y=(Y1 ++ [y])++Y2):=⟨by simp[h1],by simp[h2],by rw[h3];simp,by rw[h4];simp⟩;clear hdk HXY hl hX hY ha hb h1 h2 h3 h4 e1 e2;go_wp2_with fail
   have eat:((a:Int)+(i:Int)).toNat=a+i:=by omega
   have pat:(0:Int)≤(a:Int)+(i:Int):=by omega
   have bat:(a:Int)+(i:Int) < (N:Int):=by omega
   have rat:IntKind.i64.wrap ((a:Int)+(i:Int))=(a:Int)+(i:Int):=by rw[IntKind.wrap_i64];omega
   have ect:((b:Int)+(i:Int)).toNat=b+i:=by omega
   have pct:(0:Int)≤(b:Int)+(i:Int):=by omega
   have bct:(b:Int)+(i:Int) < (N:Int):=by omega
   have rct:IntKind.i64.wrap ((b:Int)+(i:Int))=(b:Int)+(i:Int):=by rw[IntKind.wrap_i64];omega
   have S2:Aside (SWK enc 2 w0 blk off (swp dk (a+i) (b+i)) ((wr.drew.setCells blk (off+(a+i)*2) (enc dk[b+i]!)).setCells blk (off+(b+i)*2) (enc dk[a+i]!))):=S1.out.swapped R (a+i) (b+i) (by omega) (by omega);have lta:Sem.run Tryz.prog (loadCells ⟨blk,off+(a+i)*2,none⟩ 2) wr.drew = .ok (enc dk[a+i]!).toArray wr.drew:=S1.out.ld1 R (by omega) Tryz.prog (a+i) (by omega);have ltb:Sem.run Tryz.prog (loadCells ⟨blk,off+(b+i)*2,none⟩ 2) wr.drew = .ok (enc dk[b+i]!).toArray wr.drew:=S1.out.ld1 R (by omega) Tryz.prog (b+i) (by omega);have sta:=S1.out.st1 R (by omega) Tryz.prog (a+i) (by omega) dk[b+i]!;have stb:=S1.out.st2 R (by omega) Tryz.prog (a+i) (b+i) (by omega) (by omega) dk[b+i]! dk[a+i]!;have nta:(enc dk[a+i]!).length=2:=R.hk _;have ntb:(enc dk[b+i]!).length=2:=R.hk _;generalize enc dk[a+i]! = cIt at S2 lta stb nta;generalize enc dk[b+i]! = cJt at S2 ltb sta stb ntb;clear S1 hszd hN;go_wp2_with fail
   go_big_region_o
   clear lta ltb sta stb;generalize (wr.drew.setCells blk (off+(a+i)*2) cJt).setCells blk (off+(b+i)*2) cIt=w2 at S2 ⊢;rw[HN.out] at S2;go_wp2
   go_roundg (n - (i+1))
   case measure=>omega
   case rel=>exact ⟨i+1,X1 ++ [x],X2,Y1 ++ [y],Y2,by first | rfl | go_num,by omega,HXY2,S2⟩
  ·have hX2:X2 = []:=List.eq_nil_of_length_eq_zero (by omega);have hY2:Y2 = []:=List.eq_nil_of_length_eq_zero (by omega);subst hX2 hY2
   have S2:Aside (SWK enc 2 w0 blk off (A++(Y++(M++(X++S)))).toArray wr):=by
    rw[List.append_nil] at h3 h4;rw[h3,h4];exact S1.out
   clear S1 HXY hl hX hY ha hb h1 h2 h3 h4 e1 e2 hN;go_wp2
   go_end0
   exact ⟨rfl,S2.out⟩
theorem Kcg (A X Y S:List α) (a m b:Nat) (w:World) (R:RowK enc 2 w0 blk off d0) (hN:d0.size=N) (hl:A.length+X.length+Y.length+S.length=N) (ha:a=A.length) (hm:m=A.length+X.length) (hb:b=A.length+X.length+Y.length) (hX:0 < X.length) (hY:0 < Y.length) (hsz:N < 4611686018427387904)
  (S0:SWK enc 2 w0 blk off (A++(X++(Y++S))).toArray w) :
  Calls Tryz.prog 255 #[.slice (some ⟨blk,off,none⟩) N cap,.int .i64 a,.int .i64 m,.int .i64 b,.func (.func g) #[] cb] w fun e w'=>e = .returned (.tuple #[])∧SWK enc 2 w0 blk off (A++(Y++(X++S))).toArray w':=by
 have S1:Aside (SWK enc 2 w0 blk off (A++(X++(Y++S))).toArray w):=S0;obtain ⟨L,hL⟩:∃L,L=A++(Y++(X++S)):=⟨_,rfl⟩;rw[←hL];have HL:Hid (A++(Y++(X++S))=L):=hL.symm;obtain ⟨i0,hi0⟩:∃i0,i0=X.length:=⟨_,rfl⟩;obtain ⟨j0,hj0⟩:∃j0,j0=Y.length:=⟨_,rfl⟩;have w1:wrap64 ((m:Int) - (a:Int))=(i0:Int):=by unfold wrap64;omega
 have w2:wrap64 ((b:Int) - (m:Int))=(j0:Int):=by unfold wrap64;omega
 have hmN:m≤N:=by omega
 have HQ:Hid (d0.size=N∧A.length+X.length+Y.length+S.length=N∧a=A.length∧m=A.length+X.length∧b=A.length+X.length+Y.length∧i0=X.length∧j0=Y.length):=⟨hN,hl,ha,hm,hb,hi0,hj0⟩;have pi0:0 < i0:=by omega
 have pj0:0 < j0:=by omega
 clear S0 hL hN hl ha hm hb hi0 hj0 hX hY;go_enter Tryz.func255,Tryz.ntmps255
 go_wp2
 go_loopg [10,11] (i0+j0) (fun kx s10 s11 wr=>∃(i j:Nat) (A' X' Y' S':List α),s10 = .int .i64 i∧s11 = .int .i64 j∧0 < i∧0 < j∧i+j≤kx∧i≤m∧m+j≤N∧Hid (X'.length=i∧Y'.length=j∧A'.length+i=m∧A'.length+X'.length+Y'.length+S'.length=N)∧Hid (A'++(Y'++(X'++S'))=L)∧Aside (SWK enc 2 w0 blk off (A'++(X'++(Y'++S'))).toArray wr))
 case atStart=>exact ⟨i0,j0,A,X,Y,S,by first | rfl | go_num | (congr 1;omega),by first | rfl | go_num | (congr 1;omega),by omega,by omega,Nat.le_refl _,by have:=HQ.out;omega,by have:=HQ.out;omega,by have q:=HQ.out;refine ⟨?_,?_,?_,?_⟩ <;> omega,HL,S1⟩
 case round=>
  clear S1 HL w1 w2;obtain ⟨i,j,A',X',Y',S',rfl,rfl,hi,hj,hk,him,hjm,HR,HL,S1⟩:=hrel;have hN:=HQ.out.1;obtain ⟨hX',hY',hm',hl'⟩:=HR.out;rcases (by omega:i=j∨j < i∨i < j) with he | hgt | hlt
  ·subst he;have HS:=Keq (cap:=cap) (g:=g) (cb:=cb) A' X' [] Y' S' (m - i) m i wr R hN (by simp only[List.length_nil];omega) hX' hY' (by omega) (by simp only[List.length_nil];omega) hsz S1.out;have HC:=HS;have d1:((i:Int) != (i:Int))=false:=by simp
   rw[show ((m - i:Nat):Int)=(m:Int) - (i:Int) by omega] at HC;have HC2:Aside _:=HC;clear HS S1 HC hN hX' hY' hm' hl' HR;go_wp2_with fail
   refine Calls.mono HC2.out ?_;rintro _ w3 ⟨rfl,h3⟩;have S2:Aside (SWK enc 2 w0 blk off L.toArray w3):=by rw[←HL.out];exact h3
   clear h3;go_wp2_with fail
   go_end0
   exact ⟨rfl,S2.out⟩
  ·obtain ⟨X1,X2,rfl,h1⟩:∃X1 X2,X'=X1++X2∧X1.length=j:=⟨X'.take j,X'.drop j,(List.take_append_drop _ _).symm,by rw[List.length_take];omega⟩;rw[Jd] at hX' hl';have HS:=Keq (cap:=cap) (g:=g) (cb:=cb) A' X1 X2 Y' S' (m - i) m j wr R hN (by omega) h1 hY' (by omega) (by omega) hsz (by have:=S1.out;rw[List.append_assoc] at this;exact this);have HC:=HS;have d1:((i:Int) != (j:Int))=true:=by simp;omega
   have d2:decide ((j:Int) < (i:Int))=true:=by simp;omega
   rw[show ((m - i:Nat):Int)=(m:Int) - (i:Int) by omega] at HC;have HR2:Hid (X2.length=i - j∧X1.length=j∧(A'++Y').length+(i - j)=m∧(A'++Y').length+X2.length+X1.length+S'.length=N):=by simp only[Jd];refine ⟨?_,?_,?_,?_⟩ <;> omega
   have HC2:Aside _:=HC;clear HS S1 HC hN hX' hY' hm' hl' HR h1;go_wp2_with fail
   refine Calls.mono HC2.out ?_;rintro _ w3 ⟨rfl,h3⟩;have S2:Aside (SWK enc 2 w0 blk off ((A'++Y')++(X2++(X1++S'))).toArray w3):=by rw[List.append_assoc];exact h3
   have HL2:Hid ((A'++Y')++(X1++(X2++S'))=L):=by show _=_;rw[←HL.out];simp
   clear h3 HL;go_wp2_with fail
   go_roundg (i - j+j)
   case measure=>omega
   case rel=>exact ⟨i - j,j,A'++Y',X2,X1,S',by first | rfl | go_num | (congr 1;omega),by first | rfl | go_num | (congr 1;omega),by omega,by omega,by omega,by omega,by omega,HR2,HL2,S2⟩
  ·obtain ⟨Y1,Y2,rfl,h1⟩:∃Y1 Y2,Y'=Y1++Y2∧Y2.length=i:=⟨Y'.take (j - i),Y'.drop (j - i),(List.take_append_drop _ _).symm,by rw[List.length_drop];omega⟩;rw[Jd] at hY' hl';have HS:=Keq (cap:=cap) (g:=g) (cb:=cb) A' X' Y1 Y2 S' (m - i) (m+j - i) i wr R hN (by omega) hX' h1 (by omega) (by omega) hsz (by have:=S1.out;rw[List.append_assoc] at this;exact this);have HC:=HS;have d1:((i:Int) != (j:Int))=true:=by simp;omega
   have d2:decide ((j:Int) < (i:Int))=false:=by simp;omega
   rw[show ((m - i:Nat):Int)=(m:Int) - (i:Int) by omega] at HC;rw[show ((m+j - i:Nat):Int)=(m:Int)+(j:Int) - (i:Int) by omega] at HC;have HR2:Hid (Y2.length=i∧Y1.length=j - i∧A'.length+i=m∧A'.length+Y2.length+Y1.length+(X'++S').length=N):=by simp only[Jd];refine ⟨?_,?_,?_,?_⟩ <;> omega
   have HC2:Aside _:=HC;clear HS S1 HC hN hX' hY' hm' hl' HR h1;go_wp2_with fail
   refine Calls.mono HC2.out ?_;rintro _ w4 ⟨rfl,h3⟩;have S2:Aside (SWK enc 2 w0 blk off (A'++(Y2++(Y1++(X'++S')))).toArray w4):=h3;have HL2:Hid (A'++(Y1++(Y2++(X'++S')))=L):=by show _=_;rw[←HL.out];simp
   clear h3 HL;go_wp2_with fail
   go_roundg (i+(j - i))
   case measure=>omega
   case rel=>exact ⟨i,j - i,A',Y2,Y1,X'++S',by first | rfl | go_num | (congr 1;omega),by first | rfl | go_num | (congr 1;omega),by omega,by omega,by omega,by omega,by omega,HR2,HL2,S2⟩
theorem Krj (SW:SWO (ltOf cf)) (eg:∀args w,(callFunc g args).run Tryz.prog w = .ok (.enter g args) w) (hcmp:CmpLays Tryz.prog g cb enc 2 cf blk off d0.size w0) (R:RowK enc 2 w0 blk off d0) (hN:d0.size=N) (hsz:N < 4611686018427387904) (A:List α) (x:α) (Y S:List α) (a m b:Nat) (w:World) (hl:A.length+1+Y.length+S.length=N) (ha:a=A.length) (hm:m=a+1) (hb:b=m+Y.length) (hY0:0 < Y.length) (hY:(Y.Pairwise fun a b=>ltOf cf b a=false))
  (S0:SWK enc 2 w0 blk off (A++([x]++(Y++S))).toArray w) :
  Calls Tryz.prog 225 #[.slice (some ⟨blk,off,none⟩) N cap,.int .i64 a,.int .i64 m,.int .i64 b,.func (.func g) #[] cb] w fun e w'=>e = .returned (.tuple #[])∧SWK enc 2 w0 blk off (A++(mrg (ltOf cf) [x] Y++S)).toArray w':=by
 have mixed:Tryz.prog.follows .mixedOrders=true:=by kernel_rfl
 have HC:Aside _:=hcmp;have hma:(m:Int) - (a:Int)=1:=by omega
 have hmb:m < b:=by omega
 have hbN:b≤N:=by omega
 have ham:a < m:=by omega
 obtain ⟨dk,hdk⟩:∃dk,dk=(A++([x]++(Y++S))).toArray:=⟨_,rfl⟩;have hszd:dk.size=N:=by rw[hdk];simp only[List.size_toArray,Jd,List.length_cons,List.length_nil];omega
 have DA:Hid (dk[a]! = x):=by
  show _=_
  rw[hdk,Kcx (A:=A) (X:=[x]) (T:=Y++S) (i:=0) (by simp) (by omega)];rfl
 have DY:Hid (∀t,m≤t→t < b→dk[t]! = Y[t - m]!):=by
  intro t h1 h2;rw[hdk,Kcw (A:=A) (X:=[x]) (Y:=Y) (T:=S) (i:=t - m) (by omega) (by simp only[List.length_cons,List.length_nil];omega)]
 have HQ:Hid (dk=(A++([x]++(Y++S))).toArray∧d0.size=N∧A.length+1+Y.length+S.length=N∧a=A.length∧m=a+1∧b=m+Y.length∧(Y.Pairwise fun a b=>ltOf cf b a=false)):=⟨hdk,hN,hl,ha,hm,hb,hY⟩;have hN2:Hid (d0.size=N):=hN;rw[←hdk] at S0;have S1:Aside (SWK enc 2 w0 blk off dk w):=S0;clear S0 hdk hl ha hm hb hY hcmp hN;have HSD:Hid (dk.size=N):=hszd;clear hszd;go_enter Tryz.func225,Tryz.ntmps225
 go_wp2
 go_loopg [10,11] (b - m) (fun kx s10 s11 wr=>∃(i j:Nat),s10 = .int .i64 i∧s11 = .int .i64 j∧m≤i∧i≤j∧j≤b∧j - i≤kx∧Hid ((i=m∨ltOf cf Y[i - m - 1]! x=true)∧(j=b∨ltOf cf Y[j - m]! x=false))∧Aside (SWK enc 2 w0 blk off dk wr))
 case atStart=>exact ⟨m,b,rfl,rfl,by omega,by omega,by omega,by omega,⟨.inl rfl,.inl rfl⟩,S1⟩
 case round=>
  clear S1;obtain ⟨i,j,rfl,rfl,hmi,hij,hjb,hk,HB,S1⟩:=hrel;rcases Nat.lt_or_ge i j with hlt | hge
  ·have hlz:(i:Int) < (j:Int):=by omega
   obtain ⟨h,hh⟩:∃h,h=(i+j) / 2:=⟨_,rfl⟩;have hm2:(((i:Int)+(j:Int)) / 2)=(h:Int):=by omega
   have hih:i≤h:=by omega
   have hjh:h < j:=by omega
   clear hh;obtain ⟨y,hy⟩:∃y,y=Y[h - m]!:=⟨_,rfl⟩;have hx1:dk[a]! = x:=DA.out;have hy1:dk[h]! = y:=by rw[hy];exact DY.out h (by omega) (by omega)
   have hszd:=HSD.out;have hN:=hN2.out
   cases hL:ltOf cf y x with
   | true=>
    have HB2:Hid ((h+1=m∨ltOf cf Y[h+1 - m - 1]! x=true)∧(j=b∨ltOf cf Y[j - m]! x=false)):=⟨.inr (by rw[show h+1 - m - 1=h - m by omega,←hy];exact hL),HB.out.2⟩;clear HB hy;have eac:((h:Int)).toNat=h:=by omega
    have pac:(0:Int)≤(h:Int):=by omega
    have bac:(h:Int) < (N:Int):=by omega
    have rac:IntKind.i64.wrap ((h:Int))=(h:Int):=by rw[IntKind.wrap_i64];omega
    have ecc:((a:Int)).toNat=a:=by omega
    have pcc:(0:Int)≤(a:Int):=by omega
    have bcc:(a:Int) < (N:Int):=by omega
    have rcc:IntKind.i64.wrap ((a:Int))=(a:Int):=by rw[IntKind.wrap_i64];omega
    have lca:∀n os,Sem.run Tryz.prog (loadCells ⟨blk,off+(h)*2,none⟩ 2) (grow (wr.drewN n) os) = .ok (enc dk[h]!).toArray (grow (wr.drewN n) os):=S1.out.ld R (by omega) Tryz.prog (h) (by omega);have lcb:∀n os,Sem.run Tryz.prog (loadCells ⟨blk,off+(a)*2,none⟩ 2) (grow (wr.drewN n) os) = .ok (enc dk[a]!).toArray (grow (wr.drewN n) os):=S1.out.ld R (by omega) Tryz.prog (a) (by omega);rw[hy1] at lca;rw[hx1] at lcb;have hcc:=S1.out.cmp HC.out (by omega) y x;have hdc:decide (cf y x < 0)=true:=hL;go_wp2_with fail
    go_quiet_grown (first | (go_at_fn g;refine Calls.grown_of (hcc _ _)))
    have S2:Aside (SWK enc 2 w0 blk off dk (grow (wr.drewN nq) osq)):=S1.out.grown nq osq;clear hszd hN hx1 hy1 hL lca lcb hcc S1;generalize grow (wr.drewN nq) osq=w2 at S2 ⊢;clear nq osq;go_wp2_with fail
    go_roundg (j - (h+1))
    case measure=>omega
    case rel=>exact ⟨h+1,j,by first | rfl | go_num,rfl,by omega,by omega,hjb,by omega,HB2,S2⟩
   | false=>
    have HB2:Hid ((i=m∨ltOf cf Y[i - m - 1]! x=true)∧(h=b∨ltOf cf Y[h - m]! x=false)):=⟨HB.out.1,.inr (by rw[←hy];exact hL)⟩;clear HB hy;have eac:((h:Int)).toNat=h:=by omega
    have pac:(0:Int)≤(h:Int):=by omega
    have bac:(h:Int) < (N:Int):=by omega
    have rac:IntKind.i64.wrap ((h:Int))=(h:Int):=by rw[IntKind.wrap_i64];omega
    have ecc:((a:Int)).toNat=a:=by omega
    have pcc:(0:Int)≤(a:Int):=by omega
    have bcc:(a:Int) < (N:Int):=by omega
    have rcc:IntKind.i64.wrap ((a:Int))=(a:Int):=by rw[IntKind.wrap_i64];omega
    have lca:∀n os,Sem.run Tryz.prog (loadCells ⟨blk,off+(h)*2,none⟩ 2) (grow (wr.drewN n) os) = .ok (enc dk[h]!).toArray (grow (wr.drewN n) os):=S1.out.ld R (by omega) Tryz.prog (h) (by omega);have lcb:∀n os,Sem.run Tryz.prog (loadCells ⟨blk,off+(a)*2,none⟩ 2) (grow (wr.drewN n) os) = .ok (enc dk[a]!).toArray (grow (wr.drewN n) os):=S1.out.ld R (by omega) Tryz.prog (a) (by omega);rw[hy1] at lca;rw[hx1] at lcb;have hcc:=S1.out.cmp HC.out (by omega) y x;have hdc:decide (cf y x < 0)=false:=hL;go_wp2_with fail
    go_quiet_grown (first | (go_at_fn g;refine Calls.grown_of (hcc _ _)))
    have S2:Aside (SWK enc 2 w0 blk off dk (grow (wr.drewN nq) osq)):=S1.out.grown nq osq;clear hszd hN hx1 hy1 hL lca lcb hcc S1;generalize grow (wr.drewN nq) osq=w2 at S2 ⊢;clear nq osq;go_wp2_with fail
    go_roundg (h - i)
    case measure=>omega
    case rel=>exact ⟨i,h,rfl,rfl,hmi,by omega,by omega,by omega,HB2,S2⟩
  ·have he:j=i:=by omega
   subst he;have hnlt:¬(j:Int) < (j:Int):=by omega
   obtain ⟨p,hp⟩:∃p,p=j - m:=⟨_,rfl⟩
   have HE:Hid (mrg (ltOf cf) [x] Y=Y.take p++x :: Y.drop p):=by
    obtain ⟨q1,q2,q3,q4,q5,q6,q7⟩:=HQ.out;refine Kgx SW q7 p (by omega) (HB.out.2.imp (fun h=>by omega) fun h=>by rw[hp];exact h) (HB.out.1.imp (fun h=>by omega) fun h=>by rw[hp];exact h)
   have HP:Hid (j=a+1+p∧p≤Y.length):=by
    obtain ⟨q1,q2,q3,q4,q5,q6,q7⟩:=HQ.out;exact ⟨by omega,by omega⟩
   have S2:Aside (SWK enc 2 w0 blk off (A++([]++x :: (Y.take p++(Y.drop p++S)))).toArray wr):=by
    have e:=S1.out;rw[HQ.out.1] at e;rw[←List.append_assoc (Y.take p),List.take_append_drop];exact e
   clear hp HB S1 hij;go_wp2_with fail
   go_loopg [13] p (fun kx s13 wr=>∃(k:Nat) (U V:List α),s13 = .int .i64 k∧a≤k∧k+1≤j∧Hid (V.length≤kx∧U.length+a=k∧k+V.length+1=j∧Y.take p=U++V)∧Aside (SWK enc 2 w0 blk off (A++(U++x :: (V++(Y.drop p++S)))).toArray wr))
   case atStart=>
    have hl:(Y.take p).length=p:=by rw[List.length_take];have:=HP.out.2;omega
    have q:=HP.out.1;exact ⟨a,[],Y.take p,rfl,Nat.le_refl _,by omega,⟨by omega,by simp,by omega,rfl⟩,S2⟩
   case round=>
    clear S2;obtain ⟨k,U,V,rfl,hak,hkj,HU,S1⟩:=hrel
    cases V with
    | nil=>
     have hkz:¬(k:Int) < (j:Int) - 1:=by have:=HU.out.2.2.1;simp only[List.length_nil] at this;omega
     have e2:SWK enc 2 w0 blk off (A++(mrg (ltOf cf) [x] Y++S)).toArray wr:=by
      have e:=S1.out;have q:=HU.out.2.2.2;rw[List.append_nil] at q;rw[HE.out,q];simpa using e
     have S2:Aside (SWK enc 2 w0 blk off (A++(mrg (ltOf cf) [x] Y++S)).toArray wr):=e2;clear e2;clear S1;go_wp2_with fail
     (try simp only[Exit.inBlock,Exit.then]);refine bodyPost_ret (results_none rfl _ _ _) rfl ?_
     exact ⟨rfl,S2.out⟩
    | cons v V=>
     obtain ⟨hv1,hv2,hv3,hv4⟩:=HU.out;simp only[List.length_cons] at hv1 hv3;have hkz:(k:Int) < (j:Int) - 1:=by omega
     obtain ⟨q1,q2,q3,q4,q5,q6,q7⟩:=HQ.out
     have HN:Hid (swp (A++(U++x :: (v :: V++(Y.drop p++S)))).toArray (k) (k+1)=(A++((U ++ [v])++x :: (V++(Y.drop p++S)))).toArray):=by
      show _=_
      rw[show A++(U++x :: (v :: V++(Y.drop p++S)))=(A++U)++x :: ([]++v :: (V++(Y.drop p++S))) by simp,Kec (by simp only[Jd];omega) (by simp only[Jd,List.length_nil];omega)];simp
     have HU2:Hid (V.length≤gk - 1∧(U ++ [v]).length+a=k+1∧k+1+V.length+1=j∧Y.take p=(U ++ [v])++V):=⟨by omega,by simp only[Jd,List.length_cons,List.length_nil];omega,by omega,by rw[hv4];simp⟩;have hgk:0 < gk:=by omega
     have hszd:(A++(U++x :: (v :: V++(Y.drop p++S)))).toArray.size=N:=by
      have hl:(Y.take p).length=U.length+(V.length+1):=by rw[hv4];simp
      have hl2:(Y.take p).length+(Y.drop p).length=Y.length:=by rw[←Jd,List.take_append_drop]
      simp only[List.size_toArray,Jd,List.length_cons];omega
     have hN:=hN2.out;obtain ⟨dm,hdm⟩:∃dm,dm=(A++(U++x :: (v :: V++(Y.drop p++S)))).toArray:=⟨_,rfl⟩;rw[←hdm] at HN S1 hszd;clear hdm HU hv1 hv2 hv3 hv4 q1 q2 q3 q4 q5 q6 q7;go_wp2_with fail
     have eat:((k:Int)).toNat=k:=by omega
     have pat:(0:Int)≤(k:Int):=by omega
     have bat:(k:Int) < (N:Int):=by omega
     have rat:IntKind.i64.wrap ((k:Int))=(k:Int):=by rw[IntKind.wrap_i64];omega
     have ect:((k:Int)+1).toNat=k+1:=by omega
     have pct:(0:Int)≤(k:Int)+1:=by omega
     have bct:(k:Int)+1 < (N:Int):=by omega
     have rct:IntKind.i64.wrap ((k:Int)+1)=(k:Int)+1:=by rw[IntKind.wrap_i64];omega
     have S2:Aside (SWK enc 2 w0 blk off (swp dm (k) (k+1)) ((wr.drew.setCells blk (off+(k)*2) (enc dm[k+1]!)).setCells blk (off+(k+1)*2) (enc dm[k]!))):=S1.out.swapped R (k) (k+1) (by omega) (by omega);have lta:Sem.run Tryz.prog (loadCells ⟨blk,off+(k)*2,none⟩ 2) wr.drew = .ok (enc dm[k]!).toArray wr.drew:=S1.out.ld1 R (by omega) Tryz.prog (k) (by omega);have ltb:Sem.run Tryz.prog (loadCells ⟨blk,off+(k+1)*2,none⟩ 2) wr.drew = .ok (enc dm[k+1]!).toArray wr.drew:=S1.out.ld1 R (by omega) Tryz.prog (k+1) (by omega);have sta:=S1.out.st1 R (by omega) Tryz.prog (k) (by omega) dm[k+1]!;have stb:=S1.out.st2 R (by omega) Tryz.prog (k) (k+1) (by omega) (by omega) dm[k+1]! dm[k]!;have nta:(enc dm[k]!).length=2:=R.hk _;have ntb:(enc dm[k+1]!).length=2:=R.hk _;generalize enc dm[k]! = cIt at S2 lta stb nta;generalize enc dm[k+1]! = cJt at S2 ltb sta stb ntb;clear S1 hszd hN;go_wp2_with fail
     go_big_region_o
     clear lta ltb sta stb;generalize (wr.drew.setCells blk (off+(k)*2) cJt).setCells blk (off+(k+1)*2) cIt=w2 at S2 ⊢;rw[HN.out] at S2;go_wp2
     go_roundg (gk - 1)
     case measure=>omega
     case rel=>exact ⟨k+1,U ++ [v],V,by first | rfl | go_num,by omega,by omega,HU2,S2⟩
theorem Koz (SW:SWO (ltOf cf)) (eg:∀args w,(callFunc g args).run Tryz.prog w = .ok (.enter g args) w) (hcmp:CmpLays Tryz.prog g cb enc 2 cf blk off d0.size w0) (R:RowK enc 2 w0 blk off d0) (hN:d0.size=N) (hsz:N < 4611686018427387904) (A:List α) (y:α) (X S:List α) (a m b:Nat) (w:World) (hl:A.length+X.length+1+S.length=N) (ha:a=A.length) (hm:m=a+X.length) (hb:b=m+1) (hX0:1 < X.length) (hX:(X.Pairwise fun a b=>ltOf cf b a=false))
  (S0:SWK enc 2 w0 blk off (A++(X++([y]++S))).toArray w) :
  Calls Tryz.prog 225 #[.slice (some ⟨blk,off,none⟩) N cap,.int .i64 a,.int .i64 m,.int .i64 b,.func (.func g) #[] cb] w fun e w'=>e = .returned (.tuple #[])∧SWK enc 2 w0 blk off (A++(mrg (ltOf cf) X [y]++S)).toArray w':=by
 have mixed:Tryz.prog.follows .mixedOrders=true:=by kernel_rfl
 have HC:Aside _:=hcmp;have hmb:(b:Int) - (m:Int)=1:=by omega
 have dma:(((m:Int) - (a:Int)) == 1)=false:=by simp;omega
 have hbN:b≤N:=by omega
 have ham:a < m:=by omega
 have hmlb:m < b:=by omega
 obtain ⟨dk,hdk⟩:∃dk,dk=(A++(X++([y]++S))).toArray:=⟨_,rfl⟩;have hszd:dk.size=N:=by rw[hdk];simp only[List.size_toArray,Jd,List.length_cons,List.length_nil];omega
 have DA:Hid (dk[m]! = y):=by
  show _=_
  rw[hdk,Kcw (A:=A) (X:=X) (Y:=[y]) (T:=S) (i:=0) (by simp) (by omega)];rfl
 have DX:Hid (∀t,a≤t→t < m→dk[t]! = X[t - a]!):=by
  intro t h1 h2;rw[hdk,Kcx (A:=A) (X:=X) (T:=[y]++S) (i:=t - a) (by omega) (by omega)]
 have HQ:Hid (dk=(A++(X++([y]++S))).toArray∧d0.size=N∧A.length+X.length+1+S.length=N∧a=A.length∧m=a+X.length∧b=m+1∧(X.Pairwise fun a b=>ltOf cf b a=false)):=⟨hdk,hN,hl,ha,hm,hb,hX⟩;have hN2:Hid (d0.size=N):=hN;rw[←hdk] at S0;have S1:Aside (SWK enc 2 w0 blk off dk w):=S0;have HSD:Hid (dk.size=N):=hszd;clear S0 hdk hl ha hm hb hX hcmp hN hszd;go_enter Tryz.func225,Tryz.ntmps225
 go_wp2
 go_loopg [14,15] (m - a) (fun kx s10 s11 wr=>∃(i j:Nat),s10 = .int .i64 i∧s11 = .int .i64 j∧a≤i∧i≤j∧j≤m∧j - i≤kx∧Hid ((i=a∨ltOf cf y X[i - a - 1]! = false)∧(j=m∨ltOf cf y X[j - a]! = true))∧Aside (SWK enc 2 w0 blk off dk wr))
 case atStart=>exact ⟨a,m,rfl,rfl,by omega,by omega,by omega,by omega,⟨.inl rfl,.inl rfl⟩,S1⟩
 case round=>
  clear S1;obtain ⟨i,j,rfl,rfl,hmi,hij,hjb,hk,HB,S1⟩:=hrel;rcases Nat.lt_or_ge i j with hlt | hge
  ·have hlz:(i:Int) < (j:Int):=by omega
   obtain ⟨h,hh⟩:∃h,h=(i+j) / 2:=⟨_,rfl⟩;have hm2:(((i:Int)+(j:Int)) / 2)=(h:Int):=by omega
   have hih:i≤h:=by omega
   have hjh:h < j:=by omega
   clear hh;obtain ⟨x,hx⟩:∃x,x=X[h - a]!:=⟨_,rfl⟩;have hy1:dk[m]! = y:=DA.out;have hx1:dk[h]! = x:=by rw[hx];exact DX.out h (by omega) (by omega)
   have hszd:=HSD.out;have hN:=hN2.out
   cases hL:ltOf cf y x with
   | false=>
    have HB2:Hid ((h+1=a∨ltOf cf y X[h+1 - a - 1]! = false)∧(j=m∨ltOf cf y X[j - a]! = true)):=⟨.inr (by rw[show h+1 - a - 1=h - a by omega,←hx];exact hL),HB.out.2⟩;clear HB hx;have eac:((m:Int)).toNat=m:=by omega
    have pac:(0:Int)≤(m:Int):=by omega
    have bac:(m:Int) < (N:Int):=by omega
    have rac:IntKind.i64.wrap ((m:Int))=(m:Int):=by rw[IntKind.wrap_i64];omega
    have ecc:((h:Int)).toNat=h:=by omega
    have pcc:(0:Int)≤(h:Int):=by omega
    have bcc:(h:Int) < (N:Int):=by omega
    have rcc:IntKind.i64.wrap ((h:Int))=(h:Int):=by rw[IntKind.wrap_i64];omega
    have lca:∀n os,Sem.run Tryz.prog (loadCells ⟨blk,off+(m)*2,none⟩ 2) (grow (wr.drewN n) os) = .ok (enc dk[m]!).toArray (grow (wr.drewN n) os):=S1.out.ld R (by omega) Tryz.prog (m) (by omega);have lcb:∀n os,Sem.run Tryz.prog (loadCells ⟨blk,off+(h)*2,none⟩ 2) (grow (wr.drewN n) os) = .ok (enc dk[h]!).toArray (grow (wr.drewN n) os):=S1.out.ld R (by omega) Tryz.prog (h) (by omega);rw[hy1] at lca;rw[hx1] at lcb;have hcc:=S1.out.cmp HC.out (by omega) y x;have hdc:decide (cf y x < 0)=false:=hL;go_wp2_with fail
    go_quiet_grown (first | (go_at_fn g;refine Calls.grown_of (hcc _ _)))
    have S2:Aside (SWK enc 2 w0 blk off dk (grow (wr.drewN nq) osq)):=S1.out.grown nq osq;clear hszd hN hx1 hy1 hL lca lcb hcc S1;generalize grow (wr.drewN nq) osq=w2 at S2 ⊢;clear nq osq;go_wp2_with fail
    go_roundg (j - (h+1))
    case measure=>omega
    case rel=>exact ⟨h+1,j,by first | rfl | go_num,rfl,by omega,by omega,hjb,by omega,HB2,S2⟩
   | true=>
    have HB2:Hid ((i=a∨ltOf cf y X[i - a - 1]! = false)∧(h=m∨ltOf cf y X[h - a]! = true)):=⟨HB.out.1,.inr (by rw[←hx];exact hL)⟩;clear HB hx;have eac:((m:Int)).toNat=m:=by omega
    have pac:(0:Int)≤(m:Int):=by omega
    have bac:(m:Int) < (N:Int):=by omega
    have rac:IntKind.i64.wrap ((m:Int))=(m:Int):=by rw[IntKind.wrap_i64];omega
    have ecc:((h:Int)).toNat=h:=by omega
    have pcc:(0:Int)≤(h:Int):=by omega
    have bcc:(h:Int) < (N:Int):=by omega
    have rcc:IntKind.i64.wrap ((h:Int))=(h:Int):=by rw[IntKind.wrap_i64];omega
    have lca:∀n os,Sem.run Tryz.prog (loadCells ⟨blk,off+(m)*2,none⟩ 2) (grow (wr.drewN n) os) = .ok (enc dk[m]!).toArray (grow (wr.drewN n) os):=S1.out.ld R (by omega) Tryz.prog (m) (by omega);have lcb:∀n os,Sem.run Tryz.prog (loadCells ⟨blk,off+(h)*2,none⟩ 2) (grow (wr.drewN n) os) = .ok (enc dk[h]!).toArray (grow (wr.drewN n) os):=S1.out.ld R (by omega) Tryz.prog (h) (by omega);rw[hy1] at lca;rw[hx1] at lcb;have hcc:=S1.out.cmp HC.out (by omega) y x;have hdc:decide (cf y x < 0)=true:=hL;go_wp2_with fail
    go_quiet_grown (first | (go_at_fn g;refine Calls.grown_of (hcc _ _)))
    have S2:Aside (SWK enc 2 w0 blk off dk (grow (wr.drewN nq) osq)):=S1.out.grown nq osq;clear hszd hN hx1 hy1 hL lca lcb hcc S1;generalize grow (wr.drewN nq) osq=w2 at S2 ⊢;clear nq osq;go_wp2_with fail
    go_roundg (h - i)
    case measure=>omega
    case rel=>exact ⟨i,h,rfl,rfl,hmi,by omega,by omega,by omega,HB2,S2⟩
  ·have he:j=i:=by omega
   subst he;have hnlt:¬(j:Int) < (j:Int):=by omega
   obtain ⟨p,hp⟩:∃p,p=j - a:=⟨_,rfl⟩
   have HE:Hid (mrg (ltOf cf) X [y]=X.take p++y :: X.drop p):=by
    obtain ⟨q1,q2,q3,q4,q5,q6,q7⟩:=HQ.out;refine Kgd SW q7 p (by omega) (HB.out.1.imp (fun h=>by omega) fun h=>by rw[hp];exact h) (HB.out.2.imp (fun h=>by omega) fun h=>by rw[hp];exact h)
   have HP:Hid (j=a+p∧p≤X.length):=by
    obtain ⟨q1,q2,q3,q4,q5,q6,q7⟩:=HQ.out;exact ⟨by omega,by omega⟩
   have S2:Aside (SWK enc 2 w0 blk off (A++(X.take p++(X.drop p++y :: ([]++S)))).toArray wr):=by
    have e:=S1.out;rw[HQ.out.1] at e;rw[←List.append_assoc (X.take p),List.take_append_drop];exact e
   clear hp HB S1 hij;go_wp2_with fail
   go_loopg [17] (X.length - p) (fun kx s13 wr=>∃(k:Nat) (U V:List α),s13 = .int .i64 k∧j≤k∧k≤m∧Hid (U.length≤kx∧j+U.length=k∧X.drop p=U++V)∧Aside (SWK enc 2 w0 blk off (A++(X.take p++(U++y :: (V++S)))).toArray wr))
   case atStart=>
    have hl:(X.drop p).length=X.length - p:=by rw[List.length_drop]
    have q:=HP.out;have q2:=HQ.out.2.2.2.2.1;exact ⟨m,X.drop p,[],rfl,by omega,Nat.le_refl _,⟨by omega,by omega,by simp⟩,S2⟩
   case round=>
    clear S2;obtain ⟨k,U,V,rfl,hak,hkj,HU,S1⟩:=hrel;rcases List.eq_nil_or_concat U with rfl | ⟨U',u,rfl⟩
    ·have hkz:¬(j:Int) < (k:Int):=by have:=HU.out.2.1;simp only[List.length_nil] at this;omega
     have e2:SWK enc 2 w0 blk off (A++(mrg (ltOf cf) X [y]++S)).toArray wr:=by
      have e:=S1.out;have q:=HU.out.2.2;rw[List.nil_append] at q;rw[HE.out,q];simpa using e
     have S2:Aside (SWK enc 2 w0 blk off (A++(mrg (ltOf cf) X [y]++S)).toArray wr):=e2;clear S1 e2;go_wp2_with fail
     (try simp only[Exit.inBlock,Exit.then]);refine bodyPost_ret (results_none rfl _ _ _) rfl ?_
     exact ⟨rfl,S2.out⟩
    ·obtain ⟨hv1,hv2,hv3⟩:=HU.out;simp only[List.concat_eq_append,Jd,List.length_cons,List.length_nil] at hv1 hv2;obtain ⟨kp,rfl⟩:∃kp,k=kp+1:=⟨k - 1,by omega⟩;have hkz:(j:Int) < (kp:Int)+1:=by omega
     have hjk:j≤kp:=by omega
     obtain ⟨q1,q2,q3,q4,q5,q6,q7⟩:=HQ.out;obtain ⟨p1,p2⟩:=HP.out;have htl:(X.take p).length=p:=by rw[List.length_take];omega
     have HN:Hid (swp (A++(X.take p++(U'.concat u++y :: (V++S)))).toArray (kp+1) (kp)=(A++(X.take p++(U'++y :: (u :: V++S)))).toArray):=by
      show _=_
      rw[show A++(X.take p++(U'.concat u++y :: (V++S)))=(A++(X.take p++U'))++u :: ([]++y :: (V++S)) by simp,Kgo (i:=kp) (by simp only[Jd];omega) (by simp only[Jd,List.length_nil];omega)];simp
     have HU2:Hid (U'.length≤gk - 1∧j+U'.length=kp∧X.drop p=U'++(u :: V)):=⟨by omega,by omega,by rw[hv3];simp⟩;have hgk:0 < gk:=by omega
     have hszd:(A++(X.take p++(U'.concat u++y :: (V++S)))).toArray.size=N:=by
      have hl:(X.drop p).length=U'.length+1+V.length:=by rw[hv3];simp;omega
      have hl2:(X.take p).length+(X.drop p).length=X.length:=by rw[←Jd,List.take_append_drop]
      simp only[List.concat_eq_append,List.size_toArray,Jd,List.length_cons,List.length_nil];omega
     have hN:=hN2.out;obtain ⟨dm,hdm⟩:∃dm,dm=(A++(X.take p++(U'.concat u++y :: (V++S)))).toArray:=⟨_,rfl⟩;rw[←hdm] at HN S1 hszd;clear hdm HU hv1 hv2 hv3 q1 q2 q3 q4 q5 q6 q7 p1 p2 htl;go_wp2_with fail
     have eat:((kp:Int)+1).toNat=kp+1:=by omega
     have pat:(0:Int)≤(kp:Int)+1:=by omega
     have bat:(kp:Int)+1 < (N:Int):=by omega
     have rat:IntKind.i64.wrap ((kp:Int)+1)=(kp:Int)+1:=by rw[IntKind.wrap_i64];omega
     have ect:((kp:Int)).toNat=kp:=by omega
     have pct:(0:Int)≤(kp:Int):=by omega
     have bct:(kp:Int) < (N:Int):=by omega
     have rct:IntKind.i64.wrap ((kp:Int))=(kp:Int):=by rw[IntKind.wrap_i64];omega
     have S2:Aside (SWK enc 2 w0 blk off (swp dm (kp+1) (kp)) ((wr.drew.setCells blk (off+(kp+1)*2) (enc dm[kp]!)).setCells blk (off+(kp)*2) (enc dm[kp+1]!))):=S1.out.swapped R (kp+1) (kp) (by omega) (by omega);have lta:Sem.run Tryz.prog (loadCells ⟨blk,off+(kp+1)*2,none⟩ 2) wr.drew = .ok (enc dm[kp+1]!).toArray wr.drew:=S1.out.ld1 R (by omega) Tryz.prog (kp+1) (by omega);have ltb:Sem.run Tryz.prog (loadCells ⟨blk,off+(kp)*2,none⟩ 2) wr.drew = .ok (enc dm[kp]!).toArray wr.drew:=S1.out.ld1 R (by omega) Tryz.prog (kp) (by omega);have sta:=S1.out.st1 R (by omega) Tryz.prog (kp+1) (by omega) dm[kp]!;have stb:=S1.out.st2 R (by omega) Tryz.prog (kp+1) (kp) (by omega) (by omega) dm[kp]! dm[kp+1]!;have nta:(enc dm[kp+1]!).length=2:=R.hk _;have ntb:(enc dm[kp]!).length=2:=R.hk _;generalize enc dm[kp+1]! = cIt at S2 lta stb nta;generalize enc dm[kp]! = cJt at S2 ltb sta stb ntb;clear S1 hszd hN;go_wp2_with fail
     go_big_region_o
     clear lta ltb sta stb;generalize (wr.drew.setCells blk (off+(kp+1)*2) cJt).setCells blk (off+(kp)*2) cIt=w2 at S2 ⊢;rw[HN.out] at S2;go_wp2
     go_roundg (gk - 1)
     case measure=>omega
     case rel=>exact ⟨kp,U',u :: V,by first | rfl | go_num,by omega,by omega,HU2,S2⟩
theorem Kpc (SW:SWO (ltOf cf)) (eg:∀args w,(callFunc g args).run Tryz.prog w = .ok (.enter g args) w) (hcmp:CmpLays Tryz.prog g cb enc 2 cf blk off d0.size w0) (R:RowK enc 2 w0 blk off d0) (hN:d0.size=N) (hsz:N < 4611686018427387904) (nn:Nat) (IH:∀(A X Y S:List α) (a m b:Nat) (w:World),X.length+Y.length≤nn→A.length+X.length+Y.length+S.length=N→a=A.length→m=a+X.length→b=m+Y.length→0 < X.length→0 < Y.length→(X.Pairwise fun a b=>ltOf cf b a=false)→(Y.Pairwise fun a b=>ltOf cf b a=false)→SWK enc 2 w0 blk off (A++(X++(Y++S))).toArray w→Calls Tryz.prog 225 #[.slice (some ⟨blk,off,none⟩) N cap,.int .i64 a,.int .i64 m,.int .i64 b,.func (.func g) #[] cb] w fun e w'=>e = .returned (.tuple #[])∧SWK enc 2 w0 blk off (A++(mrg (ltOf cf) X Y++S)).toArray w')
  (A X Y S:List α) (a m b:Nat) (w:World) (hnn:X.length+Y.length≤nn+1) (hl:A.length+X.length+Y.length+S.length=N) (ha:a=A.length) (hm:m=a+X.length) (hb:b=m+Y.length) (X2:1 < X.length) (Y2:1 < Y.length) (hX:(X.Pairwise fun a b=>ltOf cf b a=false)) (hY:(Y.Pairwise fun a b=>ltOf cf b a=false))
  (S0:SWK enc 2 w0 blk off (A++(X++(Y++S))).toArray w) :
  Calls Tryz.prog 225 #[.slice (some ⟨blk,off,none⟩) N cap,.int .i64 a,.int .i64 m,.int .i64 b,.func (.func g) #[] cb] w fun e w'=>e = .returned (.tuple #[])∧SWK enc 2 w0 blk off (A++(mrg (ltOf cf) X Y++S)).toArray w':=by
 have mixed:Tryz.prog.follows .mixedOrders=true:=by kernel_rfl
 have HC:Aside _:=hcmp;have IHA:Aside _:=IH;have dma:(((m:Int) - (a:Int)) == 1)=false:=by simp;omega
 have dbm:(((b:Int) - (m:Int)) == 1)=false:=by simp;omega
 have hbN:b≤N:=by omega
 have ham:a+2≤m:=by omega
 have hmb:m+2≤b:=by omega
 obtain ⟨mid,hmid⟩:∃mid,mid=(a+b) / 2:=⟨_,rfl⟩;have hmid2:((a:Int)+(b:Int)) / 2=(mid:Int):=by omega
 have hmid3:2*mid≤a+b:=by omega
 have hmid4:a+b≤2*mid+1:=by omega
 obtain ⟨dk,hdk⟩:∃dk,dk=(A++(X++(Y++S))).toArray:=⟨_,rfl⟩;have hszd:dk.size=N:=by rw[hdk];simp only[List.size_toArray,Jd];omega
 have DX:Hid (∀t,a≤t→t < m→dk[t]! = X[t - a]!):=by
  intro t h1 h2;rw[hdk,Kcx (A:=A) (X:=X) (T:=Y++S) (i:=t - a) (by omega) (by omega)]
 have DY:Hid (∀t,m≤t→t < b→dk[t]! = Y[t - m]!):=by
  intro t h1 h2;rw[hdk,Kcw (A:=A) (X:=X) (Y:=Y) (T:=S) (i:=t - m) (by omega) (by omega)]
 have HQ:Hid (dk=(A++(X++(Y++S))).toArray∧d0.size=N∧A.length+X.length+Y.length+S.length=N∧a=A.length∧m=a+X.length∧b=m+Y.length∧(X.Pairwise fun a b=>ltOf cf b a=false)∧(Y.Pairwise fun a b=>ltOf cf b a=false)∧X.length+Y.length≤nn+1):=⟨hdk,hN,hl,ha,hm,hb,hX,hY,hnn⟩;have hN2:Hid (d0.size=N):=hN;rw[←hdk] at S0;have S1:Aside (SWK enc 2 w0 blk off dk w):=S0;have HSD:Hid (dk.size=N):=hszd
 have hsplit:∃lo hi:Nat,lo≤hi∧a≤lo∧hi≤m∧hi≤mid∧mid+m≤lo+b∧((mid < m∧lo+b=mid+m∧hi=mid)∨(m≤mid∧lo=a∧hi=m)):=by
  rcases Nat.lt_or_ge mid m with h | h
  ·exact ⟨mid+m - b,mid,by omega,by omega,by omega,by omega,by omega,.inl ⟨h,by omega,rfl⟩⟩
  ·exact ⟨a,m,by omega,by omega,by omega,by omega,by omega,.inr ⟨h,rfl,rfl⟩⟩
 obtain ⟨lo,hi,hlh,hal,him,himid,hlob,hcase⟩:=hsplit;have HCASE:Hid ((mid < m∧lo+b=mid+m∧hi=mid)∨(m≤mid∧lo=a∧hi=m)):=hcase;clear S0 hdk hl ha hm hb hX hY hnn hcmp hN hszd hmid IH X2 Y2;rcases hcase with ⟨hc1,hc2,hc3⟩ | ⟨hc1,hc2,hc3⟩
 ·have hz1:(mid:Int) < (m:Int):=by omega
  have hz2:(mid:Int)+(m:Int) - (b:Int)=(lo:Int):=by omega
  have HCC:Hid _:=And.intro hc2 hc3;clear hc2 hc3;go_enter Tryz.func225,Tryz.ntmps225
  go_wp2
  go_loopg [20,21] (hi - lo) (fun kx s10 s11 wr=>∃(i j:Nat),s10 = .int .i64 i∧s11 = .int .i64 j∧lo≤i∧i≤j∧j≤hi∧j - i≤kx∧Hid ((i=lo∨ltOf cf dk[mid+m - i]! dk[i - 1]! = false)∧(j=hi∨ltOf cf dk[mid+m - 1 - j]! dk[j]! = true))∧Aside (SWK enc 2 w0 blk off dk wr))
  case atStart=>exact ⟨lo,hi,by have:=HCC.out;first | rfl | go_num | (congr 1;omega),by have:=HCC.out;first | rfl | go_num | (congr 1;omega),Nat.le_refl _,hlh,Nat.le_refl _,Nat.le_refl _,⟨.inl rfl,.inl rfl⟩,S1⟩
  case round=>
   clear S1;obtain ⟨i,j,rfl,rfl,hmi,hij,hjb,hk,HB,S1⟩:=hrel;rcases Nat.lt_or_ge i j with hlt | hge
   ·have hlz:(i:Int) < (j:Int):=by omega
    obtain ⟨h,hh⟩:∃h,h=(i+j) / 2:=⟨_,rfl⟩;have hm2:(((i:Int)+(j:Int)) / 2)=(h:Int):=by omega
    have hih:i≤h:=by omega
    have hjh:h < j:=by omega
    clear hh;obtain ⟨q,hq⟩:∃q,q=mid+m - 1 - h:=⟨_,rfl⟩;have hq2:(mid:Int)+(m:Int) - 1 - (h:Int)=(q:Int):=by omega
    have hqN:q < N:=by omega
    have hhN:h < N:=by omega
    obtain ⟨y,hy⟩:∃y,y=dk[q]!:=⟨_,rfl⟩;obtain ⟨x,hx⟩:∃x,x=dk[h]!:=⟨_,rfl⟩;have hy1:dk[q]! = y:=hy.symm;have hx1:dk[h]! = x:=hx.symm;have hszd:=HSD.out;have hN:=hN2.out
    cases hL:ltOf cf y x with
    | false=>
     have HB2:Hid ((h+1=lo∨ltOf cf dk[mid+m - (h+1)]! dk[h+1 - 1]! = false)∧(j=hi∨ltOf cf dk[mid+m - 1 - j]! dk[j]! = true)):=⟨.inr (by rw[show mid+m - (h+1)=q by omega,Nat.add_sub_cancel,hy1,hx1];exact hL),HB.out.2⟩;clear HB hy hx hq;have eac:((q:Int)).toNat=q:=by omega
     have pac:(0:Int)≤(q:Int):=by omega
     have bac:(q:Int) < (N:Int):=by omega
     have rac:IntKind.i64.wrap ((q:Int))=(q:Int):=by rw[IntKind.wrap_i64];omega
     have ecc:((h:Int)).toNat=h:=by omega
     have pcc:(0:Int)≤(h:Int):=by omega
     have bcc:(h:Int) < (N:Int):=by omega
     have rcc:IntKind.i64.wrap ((h:Int))=(h:Int):=by rw[IntKind.wrap_i64];omega
     have lca:∀n os,Sem.run Tryz.prog (loadCells ⟨blk,off+(q)*2,none⟩ 2) (grow (wr.drewN n) os) = .ok (enc dk[q]!).toArray (grow (wr.drewN n) os):=S1.out.ld R (by omega) Tryz.prog (q) (by omega);have lcb:∀n os,Sem.run Tryz.prog (loadCells ⟨blk,off+(h)*2,none⟩ 2) (grow (wr.drewN n) os) = .ok (enc dk[h]!).toArray (grow (wr.drewN n) os):=S1.out.ld R (by omega) Tryz.prog (h) (by omega);rw[hy1] at lca;rw[hx1] at lcb;have hcc:=S1.out.cmp HC.out (by omega) y x;have hdc:decide (cf y x < 0)=false:=hL;go_wp2_with fail
     go_quiet_grown (first | (go_at_fn g;refine Calls.grown_of (hcc _ _)))
     have S2:Aside (SWK enc 2 w0 blk off dk (grow (wr.drewN nq) osq)):=S1.out.grown nq osq;clear hszd hN hx1 hy1 hL hqN hhN hq2 lca lcb hcc S1;generalize grow (wr.drewN nq) osq=w2 at S2 ⊢;clear nq osq;go_wp2_with fail
     go_roundg (j - (h+1))
     case measure=>omega
     case rel=>exact ⟨h+1,j,by first | rfl | go_num,rfl,by omega,by omega,hjb,by omega,HB2,S2⟩
    | true=>
     have HB2:Hid ((i=lo∨ltOf cf dk[mid+m - i]! dk[i - 1]! = false)∧(h=hi∨ltOf cf dk[mid+m - 1 - h]! dk[h]! = true)):=⟨HB.out.1,.inr (by rw[←hq,hy1,hx1];exact hL)⟩;clear HB hy hx hq;have eac:((q:Int)).toNat=q:=by omega
     have pac:(0:Int)≤(q:Int):=by omega
     have bac:(q:Int) < (N:Int):=by omega
     have rac:IntKind.i64.wrap ((q:Int))=(q:Int):=by rw[IntKind.wrap_i64];omega
     have ecc:((h:Int)).toNat=h:=by omega
     have pcc:(0:Int)≤(h:Int):=by omega
     have bcc:(h:Int) < (N:Int):=by omega
     have rcc:IntKind.i64.wrap ((h:Int))=(h:Int):=by rw[IntKind.wrap_i64];omega
     have lca:∀n os,Sem.run Tryz.prog (loadCells ⟨blk,off+(q)*2,none⟩ 2) (grow (wr.drewN n) os) = .ok (enc dk[q]!).toArray (grow (wr.drewN n) os):=S1.out.ld R (by omega) Tryz.prog (q) (by omega);have lcb:∀n os,Sem.run Tryz.prog (loadCells ⟨blk,off+(h)*2,none⟩ 2) (grow (wr.drewN n) os) = .ok (enc dk[h]!).toArray (grow (wr.drewN n) os):=S1.out.ld R (by omega) Tryz.prog (h) (by omega);rw[hy1] at lca;rw[hx1] at lcb;have hcc:=S1.out.cmp HC.out (by omega) y x;have hdc:decide (cf y x < 0)=true:=hL;go_wp2_with fail
     go_quiet_grown (first | (go_at_fn g;refine Calls.grown_of (hcc _ _)))
     have S2:Aside (SWK enc 2 w0 blk off dk (grow (wr.drewN nq) osq)):=S1.out.grown nq osq;clear hszd hN hx1 hy1 hL hqN hhN hq2 lca lcb hcc S1;generalize grow (wr.drewN nq) osq=w2 at S2 ⊢;clear nq osq;go_wp2_with fail
     go_roundg (h - i)
     case measure=>omega
     case rel=>exact ⟨i,h,rfl,rfl,hmi,by omega,by omega,by omega,HB2,S2⟩
   ·have he:j=i:=by omega
    subst he;have hnlt:¬(j:Int) < (j:Int):=by omega
    obtain ⟨e,he⟩:∃e,e=mid+m - j:=⟨_,rfl⟩;have he2:(mid:Int)+(m:Int) - (j:Int)=(e:Int):=by omega
    have hme:m≤e:=by omega
    have heb:e≤b:=by omega
    have haj:a≤j:=by omega
    have hjm:j≤m:=by omega
    have hHM:∃X1 X2 Y1 Y2:List α,X=X1++X2∧Y=Y1++Y2∧X1.length=j - a∧X2.length=m - j∧Y1.length=e - m∧Y2.length=b - e∧mrg (ltOf cf) X Y=mrg (ltOf cf) X1 Y1++mrg (ltOf cf) X2 Y2∧A.length=a∧X.length+Y.length≤nn+1∧b=a+X.length+Y.length∧A.length+X.length+Y.length+S.length=N∧(X1.Pairwise fun a b=>ltOf cf b a=false)∧(X2.Pairwise fun a b=>ltOf cf b a=false)∧(Y1.Pairwise fun a b=>ltOf cf b a=false)∧(Y2.Pairwise fun a b=>ltOf cf b a=false)∧dk=(A++(X1++(X2++(Y1++(Y2++S))))).toArray:=by
     obtain ⟨q1,q2,q3,q4,q5,q6,q7,q8,q9⟩:=HQ.out;have hcut:=Kds SW q7 q8 (j - a) (e - m) (by omega) (by omega) ?_ ?_
     ·refine ⟨X.take (j - a),X.drop (j - a),Y.take (e - m),Y.drop (e - m),(List.take_append_drop _ _).symm,(List.take_append_drop _ _).symm,by rw[List.length_take];omega,by rw[List.length_drop];omega,by rw[List.length_take];omega,by rw[List.length_drop];omega,hcut,q4.symm,q9,by omega,q3,q7.take,q7.drop,q8.take,q8.drop,?_⟩;rw[q1,←List.append_assoc (X.take (j - a)),List.take_append_drop,←List.append_assoc (Y.take (e - m)),List.take_append_drop]
     ·rcases HB.out.1 with h | h
      ·rcases HCASE.out with ⟨_,_,_⟩ | ⟨_,_,_⟩
       ·right;left;omega
       ·left;omega
      ·rcases Nat.lt_or_ge a j with hj1 | hj1
       ·rcases Nat.lt_or_ge e b with hb1 | hb1
        ·right;right;rw[←he,DY.out e (by omega) hb1,DX.out (j - 1) (by omega) (by omega)] at h;rw[show j - a - 1=j - 1 - a by omega];exact h
        ·right;left;omega
       ·left;omega
     ·rcases HB.out.2 with h | h
      ·rcases HCASE.out with ⟨_,_,_⟩ | ⟨_,_,_⟩
       ·right;left;omega
       ·left;omega
      ·rcases Nat.lt_or_ge j m with hj1 | hj1
       ·rcases Nat.lt_or_ge m e with hb1 | hb1
        ·right;right;rw[show mid+m - 1 - j=e - 1 by omega,DY.out (e - 1) (by omega) (by omega),DX.out j (by omega) (by omega)] at h;rw[show e - m - 1=e - 1 - m by omega];exact h
        ·right;left;omega
       ·left;omega
    have hje:j+e=mid+m:=by omega
    have HM:Hid _:=hHM;clear he HB hHM HCASE DX DY hij hk hge;obtain ⟨X1,X2,Y1,Y2,m1,m2,m3,m4,m5,m6,m7,m8,m9,mA,mB,mC,mD,mE,mF,mG⟩:=HM.out;have l1:X1.length+X2.length=X.length:=by rw[m1,Jd]
    have l2:Y1.length+Y2.length=Y.length:=by rw[m2,Jd]
    have HMM:Hid (mrg (ltOf cf) X Y=mrg (ltOf cf) X1 Y1++mrg (ltOf cf) X2 Y2):=m7;have HNN:Hid (d0.size=N):=HQ.out.2.1;have s0:SWK enc 2 w0 blk off (A++(X1++(X2++(Y1++(Y2++S))))).toArray wr:=by have e:=S1.out;rw[mG] at e;exact e
    have ln1:=Kfm (ltOf cf) X1 Y1;have hN:=HNN.out;have hpure:(0 < X2.length↔j < m)∧(0 < Y1.length↔m < e)∧(0 < X1.length↔a < j)∧(0 < Y1.length↔j < mid)∧(0 < X2.length↔mid < e)∧(0 < Y2.length↔e < b):=by refine ⟨?_,?_,?_,?_,?_,?_⟩ <;> omega
    clear S1;rcases Nat.eq_zero_or_pos X1.length with cX1 | cX1
    ·rcases Nat.eq_zero_or_pos X2.length with cX2 | cX2
     ·exfalso;omega
     ·rcases Nat.eq_zero_or_pos Y1.length with cY1 | cY1
      ·exfalso;omega
      ·rcases Nat.eq_zero_or_pos Y2.length with cY2 | cY2
       ·first
        | (exfalso;omega)
        | (
          have g1:(j:Int) < (m:Int):=by omega
          have g2:(m:Int) < (e:Int):=by omega
          have g3:¬(a:Int) < (j:Int):=by omega
          have g4:(j:Int) < (mid:Int):=by omega
          have g5:(mid:Int) < (e:Int):=by omega
          have g6:¬(e:Int) < (b:Int):=by omega
          have e1:∀W,SWK enc 2 w0 blk off (A++(X1++(X2++(Y1++(Y2++S))))).toArray W→Calls Tryz.prog 255 #[.slice (some ⟨blk,off,none⟩) N cap,.int .i64 j,.int .i64 m,.int .i64 e,.func (.func g) #[] cb] W fun e w'=>e = .returned (.tuple #[])∧SWK enc 2 w0 blk off (A++(X1++(Y1++(X2++(Y2++S))))).toArray w':=by
           intro W h;have:=Kcg (cap:=cap) (g:=g) (cb:=cb) (A++X1) X2 Y1 (Y2++S) j m e W R hN (by simp only[Jd];omega) (by simp only[Jd];omega) (by simp only[Jd];omega) (by simp only[Jd];omega) (by omega) (by omega) hsz (by rw[List.append_assoc];exact h);rw[List.append_assoc] at this;exact this
          have e2:∀W,SWK enc 2 w0 blk off (A++(X1++(Y1++(X2++(Y2++S))))).toArray W→SWK enc 2 w0 blk off (A++(mrg (ltOf cf) X1 Y1++(X2++(Y2++S)))).toArray W:=by
           intro W h;have hz:X1 = []:=List.eq_nil_of_length_eq_zero (by omega);rw[hz] at h ⊢;rw[Kaf];simpa using h
          have e3:∀W,SWK enc 2 w0 blk off (A++(mrg (ltOf cf) X1 Y1++(X2++(Y2++S)))).toArray W→SWK enc 2 w0 blk off (A++(mrg (ltOf cf) X Y++S)).toArray W:=by
           intro W h;have hz:Y2 = []:=List.eq_nil_of_length_eq_zero (by omega);rw[m7];rw[hz] at h ⊢;rw[Kae];simpa using h
          have E1:Aside _:=e1;have E2:Aside _:=e2;have E3:Aside _:=e3;have T0:Aside _:=s0;clear m1 m2 m3 m4 m5 m6 m7 m8 m9 mA mB mC mD mE mF mG ln1 hN s0 e1 e2 e3 l1 l2 hpure HM HMM HQ HSD hN2 HNN IHA HC hmi hjb hlh hal him himid hlob;go_wp2_with fail
          refine Calls.mono (E1.out _ T0.out) ?_;rintro _ w3 ⟨rfl,h1⟩;have T1:Aside _:=h1;clear h1;have T2:Aside _:=E2.out _ T1.out;have T3:Aside _:=E3.out _ T2.out;go_wp2_with fail
          go_end0
          exact ⟨rfl,T3.out⟩)
       ·first
        | (exfalso;omega)
        | (
          have g1:(j:Int) < (m:Int):=by omega
          have g2:(m:Int) < (e:Int):=by omega
          have g3:¬(a:Int) < (j:Int):=by omega
          have g4:(j:Int) < (mid:Int):=by omega
          have g5:(mid:Int) < (e:Int):=by omega
          have g6:(e:Int) < (b:Int):=by omega
          have e1:∀W,SWK enc 2 w0 blk off (A++(X1++(X2++(Y1++(Y2++S))))).toArray W→Calls Tryz.prog 255 #[.slice (some ⟨blk,off,none⟩) N cap,.int .i64 j,.int .i64 m,.int .i64 e,.func (.func g) #[] cb] W fun e w'=>e = .returned (.tuple #[])∧SWK enc 2 w0 blk off (A++(X1++(Y1++(X2++(Y2++S))))).toArray w':=by
           intro W h;have:=Kcg (cap:=cap) (g:=g) (cb:=cb) (A++X1) X2 Y1 (Y2++S) j m e W R hN (by simp only[Jd];omega) (by simp only[Jd];omega) (by simp only[Jd];omega) (by simp only[Jd];omega) (by omega) (by omega) hsz (by rw[List.append_assoc];exact h);rw[List.append_assoc] at this;exact this
          have e2:∀W,SWK enc 2 w0 blk off (A++(X1++(Y1++(X2++(Y2++S))))).toArray W→SWK enc 2 w0 blk off (A++(mrg (ltOf cf) X1 Y1++(X2++(Y2++S)))).toArray W:=by
           intro W h;have hz:X1 = []:=List.eq_nil_of_length_eq_zero (by omega);rw[hz] at h ⊢;rw[Kaf];simpa using h
          have e3:∀W,SWK enc 2 w0 blk off (A++(mrg (ltOf cf) X1 Y1++(X2++(Y2++S)))).toArray W→Calls Tryz.prog 225 #[.slice (some ⟨blk,off,none⟩) N cap,.int .i64 mid,.int .i64 e,.int .i64 b,.func (.func g) #[] cb] W fun e w'=>e = .returned (.tuple #[])∧SWK enc 2 w0 blk off (A++(mrg (ltOf cf) X Y++S)).toArray w':=by
           intro W h;have:=IHA.out (A++mrg (ltOf cf) X1 Y1) X2 Y2 S mid e b W (by omega) (by simp only[Jd];omega) (by simp only[Jd];omega) (by omega) (by omega) (by omega) (by omega) mD mF (by rw[List.append_assoc];exact h);rw[m7];rw[List.append_assoc] at this ⊢;exact this
          have E1:Aside _:=e1;have E2:Aside _:=e2;have E3:Aside _:=e3;have T0:Aside _:=s0;clear m1 m2 m3 m4 m5 m6 m7 m8 m9 mA mB mC mD mE mF mG ln1 hN s0 e1 e2 e3 l1 l2 hpure HM HMM HQ HSD hN2 HNN IHA HC hmi hjb hlh hal him himid hlob;go_wp2_with fail
          refine Calls.mono (E1.out _ T0.out) ?_;rintro _ w3 ⟨rfl,h1⟩;have T1:Aside _:=h1;clear h1;have T2:Aside _:=E2.out _ T1.out;go_wp2_with fail
          refine Calls.mono (E3.out _ T2.out) ?_;rintro _ w5 ⟨rfl,h3⟩;have T3:Aside _:=h3;clear h3;go_wp2_with fail
          go_end0
          exact ⟨rfl,T3.out⟩)
    ·rcases Nat.eq_zero_or_pos X2.length with cX2 | cX2
     ·rcases Nat.eq_zero_or_pos Y1.length with cY1 | cY1
      ·rcases Nat.eq_zero_or_pos Y2.length with cY2 | cY2
       ·exfalso;omega
       ·first
        | (exfalso;omega)
        | (
          have g1:¬(j:Int) < (m:Int):=by omega
          have g2:¬(m:Int) < (e:Int):=by omega
          have g3:(a:Int) < (j:Int):=by omega
          have g4:¬(j:Int) < (mid:Int):=by omega
          have g5:¬(mid:Int) < (e:Int):=by omega
          have g6:(e:Int) < (b:Int):=by omega
          have e1:∀W,SWK enc 2 w0 blk off (A++(X1++(X2++(Y1++(Y2++S))))).toArray W→SWK enc 2 w0 blk off (A++(X1++(Y1++(X2++(Y2++S))))).toArray W:=by
           intro W h;have hz:X2 = []:=List.eq_nil_of_length_eq_zero (by omega);rw[hz] at h ⊢;simpa using h
          have e2:∀W,SWK enc 2 w0 blk off (A++(X1++(Y1++(X2++(Y2++S))))).toArray W→SWK enc 2 w0 blk off (A++(mrg (ltOf cf) X1 Y1++(X2++(Y2++S)))).toArray W:=by
           intro W h;have hz:Y1 = []:=List.eq_nil_of_length_eq_zero (by omega);rw[hz] at h ⊢;rw[Kae];simpa using h
          have e3:∀W,SWK enc 2 w0 blk off (A++(mrg (ltOf cf) X1 Y1++(X2++(Y2++S)))).toArray W→SWK enc 2 w0 blk off (A++(mrg (ltOf cf) X Y++S)).toArray W:=by
           intro W h;have hz:X2 = []:=List.eq_nil_of_length_eq_zero (by omega);rw[m7];rw[hz] at h ⊢;rw[Kaf];simpa using h
          have E1:Aside _:=e1;have E2:Aside _:=e2;have E3:Aside _:=e3;have T0:Aside _:=s0;clear m1 m2 m3 m4 m5 m6 m7 m8 m9 mA mB mC mD mE mF mG ln1 hN s0 e1 e2 e3 l1 l2 hpure HM HMM HQ HSD hN2 HNN IHA HC hmi hjb hlh hal him himid hlob;have T1:Aside _:=E1.out _ T0.out;have T2:Aside _:=E2.out _ T1.out;have T3:Aside _:=E3.out _ T2.out;go_wp2_with fail
          go_end0
          exact ⟨rfl,T3.out⟩)
      ·rcases Nat.eq_zero_or_pos Y2.length with cY2 | cY2
       ·exfalso;omega
       ·first
        | (exfalso;omega)
        | (
          have g1:¬(j:Int) < (m:Int):=by omega
          have g2:(m:Int) < (e:Int):=by omega
          have g3:(a:Int) < (j:Int):=by omega
          have g4:(j:Int) < (mid:Int):=by omega
          have g5:¬(mid:Int) < (e:Int):=by omega
          have g6:(e:Int) < (b:Int):=by omega
          have e1:∀W,SWK enc 2 w0 blk off (A++(X1++(X2++(Y1++(Y2++S))))).toArray W→SWK enc 2 w0 blk off (A++(X1++(Y1++(X2++(Y2++S))))).toArray W:=by
           intro W h;have hz:X2 = []:=List.eq_nil_of_length_eq_zero (by omega);rw[hz] at h ⊢;simpa using h
          have e2:∀W,SWK enc 2 w0 blk off (A++(X1++(Y1++(X2++(Y2++S))))).toArray W→Calls Tryz.prog 225 #[.slice (some ⟨blk,off,none⟩) N cap,.int .i64 a,.int .i64 j,.int .i64 mid,.func (.func g) #[] cb] W fun e w'=>e = .returned (.tuple #[])∧SWK enc 2 w0 blk off (A++(mrg (ltOf cf) X1 Y1++(X2++(Y2++S)))).toArray w':=by
           intro W h;exact IHA.out A X1 Y1 (X2++(Y2++S)) a j mid W (by omega) (by simp only[Jd];omega) (by omega) (by omega) (by omega) (by omega) (by omega) mC mE h
          have e3:∀W,SWK enc 2 w0 blk off (A++(mrg (ltOf cf) X1 Y1++(X2++(Y2++S)))).toArray W→SWK enc 2 w0 blk off (A++(mrg (ltOf cf) X Y++S)).toArray W:=by
           intro W h;have hz:X2 = []:=List.eq_nil_of_length_eq_zero (by omega);rw[m7];rw[hz] at h ⊢;rw[Kaf];simpa using h
          have E1:Aside _:=e1;have E2:Aside _:=e2;have E3:Aside _:=e3;have T0:Aside _:=s0;clear m1 m2 m3 m4 m5 m6 m7 m8 m9 mA mB mC mD mE mF mG ln1 hN s0 e1 e2 e3 l1 l2 hpure HM HMM HQ HSD hN2 HNN IHA HC hmi hjb hlh hal him himid hlob;have T1:Aside _:=E1.out _ T0.out;go_wp2_with fail
          refine Calls.mono (E2.out _ T1.out) ?_;rintro _ w4 ⟨rfl,h2⟩;have T2:Aside _:=h2;clear h2;have T3:Aside _:=E3.out _ T2.out;go_wp2_with fail
          go_end0
          exact ⟨rfl,T3.out⟩)
     ·rcases Nat.eq_zero_or_pos Y1.length with cY1 | cY1
      ·rcases Nat.eq_zero_or_pos Y2.length with cY2 | cY2
       ·exfalso;omega
       ·first
        | (exfalso;omega)
        | (
          have g1:(j:Int) < (m:Int):=by omega
          have g2:¬(m:Int) < (e:Int):=by omega
          have g3:(a:Int) < (j:Int):=by omega
          have g4:¬(j:Int) < (mid:Int):=by omega
          have g5:(mid:Int) < (e:Int):=by omega
          have g6:(e:Int) < (b:Int):=by omega
          have e1:∀W,SWK enc 2 w0 blk off (A++(X1++(X2++(Y1++(Y2++S))))).toArray W→SWK enc 2 w0 blk off (A++(X1++(Y1++(X2++(Y2++S))))).toArray W:=by
           intro W h;have hz:Y1 = []:=List.eq_nil_of_length_eq_zero (by omega);rw[hz] at h ⊢;simpa using h
          have e2:∀W,SWK enc 2 w0 blk off (A++(X1++(Y1++(X2++(Y2++S))))).toArray W→SWK enc 2 w0 blk off (A++(mrg (ltOf cf) X1 Y1++(X2++(Y2++S)))).toArray W:=by
           intro W h;have hz:Y1 = []:=List.eq_nil_of_length_eq_zero (by omega);rw[hz] at h ⊢;rw[Kae];simpa using h
          have e3:∀W,SWK enc 2 w0 blk off (A++(mrg (ltOf cf) X1 Y1++(X2++(Y2++S)))).toArray W→Calls Tryz.prog 225 #[.slice (some ⟨blk,off,none⟩) N cap,.int .i64 mid,.int .i64 e,.int .i64 b,.func (.func g) #[] cb] W fun e w'=>e = .returned (.tuple #[])∧SWK enc 2 w0 blk off (A++(mrg (ltOf cf) X Y++S)).toArray w':=by
           intro W h;have:=IHA.out (A++mrg (ltOf cf) X1 Y1) X2 Y2 S mid e b W (by omega) (by simp only[Jd];omega) (by simp only[Jd];omega) (by omega) (by omega) (by omega) (by omega) mD mF (by rw[List.append_assoc];exact h);rw[m7];rw[List.append_assoc] at this ⊢;exact this
          have E1:Aside _:=e1;have E2:Aside _:=e2;have E3:Aside _:=e3;have T0:Aside _:=s0;clear m1 m2 m3 m4 m5 m6 m7 m8 m9 mA mB mC mD mE mF mG ln1 hN s0 e1 e2 e3 l1 l2 hpure HM HMM HQ HSD hN2 HNN IHA HC hmi hjb hlh hal him himid hlob;have T1:Aside _:=E1.out _ T0.out;have T2:Aside _:=E2.out _ T1.out;go_wp2_with fail
          refine Calls.mono (E3.out _ T2.out) ?_;rintro _ w5 ⟨rfl,h3⟩;have T3:Aside _:=h3;clear h3;go_wp2_with fail
          go_end0
          exact ⟨rfl,T3.out⟩)
      ·rcases Nat.eq_zero_or_pos Y2.length with cY2 | cY2
       ·first
        | (exfalso;omega)
        | (
          have g1:(j:Int) < (m:Int):=by omega
          have g2:(m:Int) < (e:Int):=by omega
          have g3:(a:Int) < (j:Int):=by omega
          have g4:(j:Int) < (mid:Int):=by omega
          have g5:(mid:Int) < (e:Int):=by omega
          have g6:¬(e:Int) < (b:Int):=by omega
          have e1:∀W,SWK enc 2 w0 blk off (A++(X1++(X2++(Y1++(Y2++S))))).toArray W→Calls Tryz.prog 255 #[.slice (some ⟨blk,off,none⟩) N cap,.int .i64 j,.int .i64 m,.int .i64 e,.func (.func g) #[] cb] W fun e w'=>e = .returned (.tuple #[])∧SWK enc 2 w0 blk off (A++(X1++(Y1++(X2++(Y2++S))))).toArray w':=by
           intro W h;have:=Kcg (cap:=cap) (g:=g) (cb:=cb) (A++X1) X2 Y1 (Y2++S) j m e W R hN (by simp only[Jd];omega) (by simp only[Jd];omega) (by simp only[Jd];omega) (by simp only[Jd];omega) (by omega) (by omega) hsz (by rw[List.append_assoc];exact h);rw[List.append_assoc] at this;exact this
          have e2:∀W,SWK enc 2 w0 blk off (A++(X1++(Y1++(X2++(Y2++S))))).toArray W→Calls Tryz.prog 225 #[.slice (some ⟨blk,off,none⟩) N cap,.int .i64 a,.int .i64 j,.int .i64 mid,.func (.func g) #[] cb] W fun e w'=>e = .returned (.tuple #[])∧SWK enc 2 w0 blk off (A++(mrg (ltOf cf) X1 Y1++(X2++(Y2++S)))).toArray w':=by
           intro W h;exact IHA.out A X1 Y1 (X2++(Y2++S)) a j mid W (by omega) (by simp only[Jd];omega) (by omega) (by omega) (by omega) (by omega) (by omega) mC mE h
          have e3:∀W,SWK enc 2 w0 blk off (A++(mrg (ltOf cf) X1 Y1++(X2++(Y2++S)))).toArray W→SWK enc 2 w0 blk off (A++(mrg (ltOf cf) X Y++S)).toArray W:=by
           intro W h;have hz:Y2 = []:=List.eq_nil_of_length_eq_zero (by omega);rw[m7];rw[hz] at h ⊢;rw[Kae];simpa using h
          have E1:Aside _:=e1;have E2:Aside _:=e2;have E3:Aside _:=e3;have T0:Aside _:=s0;clear m1 m2 m3 m4 m5 m6 m7 m8 m9 mA mB mC mD mE mF mG ln1 hN s0 e1 e2 e3 l1 l2 hpure HM HMM HQ HSD hN2 HNN IHA HC hmi hjb hlh hal him himid hlob;go_wp2_with fail
          refine Calls.mono (E1.out _ T0.out) ?_;rintro _ w3 ⟨rfl,h1⟩;have T1:Aside _:=h1;clear h1;go_wp2_with fail
          refine Calls.mono (E2.out _ T1.out) ?_;rintro _ w4 ⟨rfl,h2⟩;have T2:Aside _:=h2;clear h2;have T3:Aside _:=E3.out _ T2.out;go_wp2_with fail
          go_end0
          exact ⟨rfl,T3.out⟩)
       ·first
        | (exfalso;omega)
        | (
          have g1:(j:Int) < (m:Int):=by omega
          have g2:(m:Int) < (e:Int):=by omega
          have g3:(a:Int) < (j:Int):=by omega
          have g4:(j:Int) < (mid:Int):=by omega
          have g5:(mid:Int) < (e:Int):=by omega
          have g6:(e:Int) < (b:Int):=by omega
          have e1:∀W,SWK enc 2 w0 blk off (A++(X1++(X2++(Y1++(Y2++S))))).toArray W→Calls Tryz.prog 255 #[.slice (some ⟨blk,off,none⟩) N cap,.int .i64 j,.int .i64 m,.int .i64 e,.func (.func g) #[] cb] W fun e w'=>e = .returned (.tuple #[])∧SWK enc 2 w0 blk off (A++(X1++(Y1++(X2++(Y2++S))))).toArray w':=by
           intro W h;have:=Kcg (cap:=cap) (g:=g) (cb:=cb) (A++X1) X2 Y1 (Y2++S) j m e W R hN (by simp only[Jd];omega) (by simp only[Jd];omega) (by simp only[Jd];omega) (by simp only[Jd];omega) (by omega) (by omega) hsz (by rw[List.append_assoc];exact h);rw[List.append_assoc] at this;exact this
          have e2:∀W,SWK enc 2 w0 blk off (A++(X1++(Y1++(X2++(Y2++S))))).toArray W→Calls Tryz.prog 225 #[.slice (some ⟨blk,off,none⟩) N cap,.int .i64 a,.int .i64 j,.int .i64 mid,.func (.func g) #[] cb] W fun e w'=>e = .returned (.tuple #[])∧SWK enc 2 w0 blk off (A++(mrg (ltOf cf) X1 Y1++(X2++(Y2++S)))).toArray w':=by
           intro W h;exact IHA.out A X1 Y1 (X2++(Y2++S)) a j mid W (by omega) (by simp only[Jd];omega) (by omega) (by omega) (by omega) (by omega) (by omega) mC mE h
          have e3:∀W,SWK enc 2 w0 blk off (A++(mrg (ltOf cf) X1 Y1++(X2++(Y2++S)))).toArray W→Calls Tryz.prog 225 #[.slice (some ⟨blk,off,none⟩) N cap,.int .i64 mid,.int .i64 e,.int .i64 b,.func (.func g) #[] cb] W fun e w'=>e = .returned (.tuple #[])∧SWK enc 2 w0 blk off (A++(mrg (ltOf cf) X Y++S)).toArray w':=by
           intro W h;have:=IHA.out (A++mrg (ltOf cf) X1 Y1) X2 Y2 S mid e b W (by omega) (by simp only[Jd];omega) (by simp only[Jd];omega) (by omega) (by omega) (by omega) (by omega) mD mF (by rw[List.append_assoc];exact h);rw[m7];rw[List.append_assoc] at this ⊢;exact this
          have E1:Aside _:=e1;have E2:Aside _:=e2;have E3:Aside _:=e3;have T0:Aside _:=s0;clear m1 m2 m3 m4 m5 m6 m7 m8 m9 mA mB mC mD mE mF mG ln1 hN s0 e1 e2 e3 l1 l2 hpure HM HMM HQ HSD hN2 HNN IHA HC hmi hjb hlh hal him himid hlob;go_wp2_with fail
          refine Calls.mono (E1.out _ T0.out) ?_;rintro _ w3 ⟨rfl,h1⟩;have T1:Aside _:=h1;clear h1;go_wp2_with fail
          refine Calls.mono (E2.out _ T1.out) ?_;rintro _ w4 ⟨rfl,h2⟩;have T2:Aside _:=h2;clear h2;go_wp2_with fail
          refine Calls.mono (E3.out _ T2.out) ?_;rintro _ w5 ⟨rfl,h3⟩;have T3:Aside _:=h3;clear h3;go_wp2_with fail
          go_end0
          exact ⟨rfl,T3.out⟩)
 ·have hz1:¬(mid:Int) < (m:Int):=by omega
  have HCC:Hid _:=And.intro hc2 hc3;clear hc2 hc3;go_enter Tryz.func225,Tryz.ntmps225
  go_wp2
  go_loopg [20,21] (hi - lo) (fun kx s10 s11 wr=>∃(i j:Nat),s10 = .int .i64 i∧s11 = .int .i64 j∧lo≤i∧i≤j∧j≤hi∧j - i≤kx∧Hid ((i=lo∨ltOf cf dk[mid+m - i]! dk[i - 1]! = false)∧(j=hi∨ltOf cf dk[mid+m - 1 - j]! dk[j]! = true))∧Aside (SWK enc 2 w0 blk off dk wr))
  case atStart=>exact ⟨lo,hi,by have:=HCC.out;first | rfl | go_num | (congr 1;omega),by have:=HCC.out;first | rfl | go_num | (congr 1;omega),Nat.le_refl _,hlh,Nat.le_refl _,Nat.le_refl _,⟨.inl rfl,.inl rfl⟩,S1⟩
  case round=>
   clear S1;obtain ⟨i,j,rfl,rfl,hmi,hij,hjb,hk,HB,S1⟩:=hrel;rcases Nat.lt_or_ge i j with hlt | hge
   ·have hlz:(i:Int) < (j:Int):=by omega
    obtain ⟨h,hh⟩:∃h,h=(i+j) / 2:=⟨_,rfl⟩;have hm2:(((i:Int)+(j:Int)) / 2)=(h:Int):=by omega
    have hih:i≤h:=by omega
    have hjh:h < j:=by omega
    clear hh;obtain ⟨q,hq⟩:∃q,q=mid+m - 1 - h:=⟨_,rfl⟩;have hq2:(mid:Int)+(m:Int) - 1 - (h:Int)=(q:Int):=by omega
    have hqN:q < N:=by omega
    have hhN:h < N:=by omega
    obtain ⟨y,hy⟩:∃y,y=dk[q]!:=⟨_,rfl⟩;obtain ⟨x,hx⟩:∃x,x=dk[h]!:=⟨_,rfl⟩;have hy1:dk[q]! = y:=hy.symm;have hx1:dk[h]! = x:=hx.symm;have hszd:=HSD.out;have hN:=hN2.out
    cases hL:ltOf cf y x with
    | false=>
     have HB2:Hid ((h+1=lo∨ltOf cf dk[mid+m - (h+1)]! dk[h+1 - 1]! = false)∧(j=hi∨ltOf cf dk[mid+m - 1 - j]! dk[j]! = true)):=⟨.inr (by rw[show mid+m - (h+1)=q by omega,Nat.add_sub_cancel,hy1,hx1];exact hL),HB.out.2⟩;clear HB hy hx hq;have eac:((q:Int)).toNat=q:=by omega
     have pac:(0:Int)≤(q:Int):=by omega
     have bac:(q:Int) < (N:Int):=by omega
     have rac:IntKind.i64.wrap ((q:Int))=(q:Int):=by rw[IntKind.wrap_i64];omega
     have ecc:((h:Int)).toNat=h:=by omega
     have pcc:(0:Int)≤(h:Int):=by omega
     have bcc:(h:Int) < (N:Int):=by omega
     have rcc:IntKind.i64.wrap ((h:Int))=(h:Int):=by rw[IntKind.wrap_i64];omega
     have lca:∀n os,Sem.run Tryz.prog (loadCells ⟨blk,off+(q)*2,none⟩ 2) (grow (wr.drewN n) os) = .ok (enc dk[q]!).toArray (grow (wr.drewN n) os):=S1.out.ld R (by omega) Tryz.prog (q) (by omega);have lcb:∀n os,Sem.run Tryz.prog (loadCells ⟨blk,off+(h)*2,none⟩ 2) (grow (wr.drewN n) os) = .ok (enc dk[h]!).toArray (grow (wr.drewN n) os):=S1.out.ld R (by omega) Tryz.prog (h) (by omega);rw[hy1] at lca;rw[hx1] at lcb;have hcc:=S1.out.cmp HC.out (by omega) y x;have hdc:decide (cf y x < 0)=false:=hL;go_wp2_with fail
     go_quiet_grown (first | (go_at_fn g;refine Calls.grown_of (hcc _ _)))
     have S2:Aside (SWK enc 2 w0 blk off dk (grow (wr.drewN nq) osq)):=S1.out.grown nq osq;clear hszd hN hx1 hy1 hL hqN hhN hq2 lca lcb hcc S1;generalize grow (wr.drewN nq) osq=w2 at S2 ⊢;clear nq osq;go_wp2_with fail
     go_roundg (j - (h+1))
     case measure=>omega
     case rel=>exact ⟨h+1,j,by first | rfl | go_num,rfl,by omega,by omega,hjb,by omega,HB2,S2⟩
    | true=>
     have HB2:Hid ((i=lo∨ltOf cf dk[mid+m - i]! dk[i - 1]! = false)∧(h=hi∨ltOf cf dk[mid+m - 1 - h]! dk[h]! = true)):=⟨HB.out.1,.inr (by rw[←hq,hy1,hx1];exact hL)⟩;clear HB hy hx hq;have eac:((q:Int)).toNat=q:=by omega
     have pac:(0:Int)≤(q:Int):=by omega
     have bac:(q:Int) < (N:Int):=by omega
     have rac:IntKind.i64.wrap ((q:Int))=(q:Int):=by rw[IntKind.wrap_i64];omega
     have ecc:((h:Int)).toNat=h:=by omega
     have pcc:(0:Int)≤(h:Int):=by omega
     have bcc:(h:Int) < (N:Int):=by omega
     have rcc:IntKind.i64.wrap ((h:Int))=(h:Int):=by rw[IntKind.wrap_i64];omega
     have lca:∀n os,Sem.run Tryz.prog (loadCells ⟨blk,off+(q)*2,none⟩ 2) (grow (wr.drewN n) os) = .ok (enc dk[q]!).toArray (grow (wr.drewN n) os):=S1.out.ld R (by omega) Tryz.prog (q) (by omega);have lcb:∀n os,Sem.run Tryz.prog (loadCells ⟨blk,off+(h)*2,none⟩ 2) (grow (wr.drewN n) os) = .ok (enc dk[h]!).toArray (grow (wr.drewN n) os):=S1.out.ld R (by omega) Tryz.prog (h) (by omega);rw[hy1] at lca;rw[hx1] at lcb;have hcc:=S1.out.cmp HC.out (by omega) y x;have hdc:decide (cf y x < 0)=true:=hL;go_wp2_with fail
     go_quiet_grown (first | (go_at_fn g;refine Calls.grown_of (hcc _ _)))
     have S2:Aside (SWK enc 2 w0 blk off dk (grow (wr.drewN nq) osq)):=S1.out.grown nq osq;clear hszd hN hx1 hy1 hL hqN hhN hq2 lca lcb hcc S1;generalize grow (wr.drewN nq) osq=w2 at S2 ⊢;clear nq osq;go_wp2_with fail
     go_roundg (h - i)
     case measure=>omega
     case rel=>exact ⟨i,h,rfl,rfl,hmi,by omega,by omega,by omega,HB2,S2⟩
   ·have he:j=i:=by omega
    subst he;have hnlt:¬(j:Int) < (j:Int):=by omega
    obtain ⟨e,he⟩:∃e,e=mid+m - j:=⟨_,rfl⟩;have he2:(mid:Int)+(m:Int) - (j:Int)=(e:Int):=by omega
    have hme:m≤e:=by omega
    have heb:e≤b:=by omega
    have haj:a≤j:=by omega
    have hjm:j≤m:=by omega
    have hHM:∃X1 X2 Y1 Y2:List α,X=X1++X2∧Y=Y1++Y2∧X1.length=j - a∧X2.length=m - j∧Y1.length=e - m∧Y2.length=b - e∧mrg (ltOf cf) X Y=mrg (ltOf cf) X1 Y1++mrg (ltOf cf) X2 Y2∧A.length=a∧X.length+Y.length≤nn+1∧b=a+X.length+Y.length∧A.length+X.length+Y.length+S.length=N∧(X1.Pairwise fun a b=>ltOf cf b a=false)∧(X2.Pairwise fun a b=>ltOf cf b a=false)∧(Y1.Pairwise fun a b=>ltOf cf b a=false)∧(Y2.Pairwise fun a b=>ltOf cf b a=false)∧dk=(A++(X1++(X2++(Y1++(Y2++S))))).toArray:=by
     obtain ⟨q1,q2,q3,q4,q5,q6,q7,q8,q9⟩:=HQ.out;have hcut:=Kds SW q7 q8 (j - a) (e - m) (by omega) (by omega) ?_ ?_
     ·refine ⟨X.take (j - a),X.drop (j - a),Y.take (e - m),Y.drop (e - m),(List.take_append_drop _ _).symm,(List.take_append_drop _ _).symm,by rw[List.length_take];omega,by rw[List.length_drop];omega,by rw[List.length_take];omega,by rw[List.length_drop];omega,hcut,q4.symm,q9,by omega,q3,q7.take,q7.drop,q8.take,q8.drop,?_⟩;rw[q1,←List.append_assoc (X.take (j - a)),List.take_append_drop,←List.append_assoc (Y.take (e - m)),List.take_append_drop]
     ·rcases HB.out.1 with h | h
      ·rcases HCASE.out with ⟨_,_,_⟩ | ⟨_,_,_⟩
       ·right;left;omega
       ·left;omega
      ·rcases Nat.lt_or_ge a j with hj1 | hj1
       ·rcases Nat.lt_or_ge e b with hb1 | hb1
        ·right;right;rw[←he,DY.out e (by omega) hb1,DX.out (j - 1) (by omega) (by omega)] at h;rw[show j - a - 1=j - 1 - a by omega];exact h
        ·right;left;omega
       ·left;omega
     ·rcases HB.out.2 with h | h
      ·rcases HCASE.out with ⟨_,_,_⟩ | ⟨_,_,_⟩
       ·right;left;omega
       ·left;omega
      ·rcases Nat.lt_or_ge j m with hj1 | hj1
       ·rcases Nat.lt_or_ge m e with hb1 | hb1
        ·right;right;rw[show mid+m - 1 - j=e - 1 by omega,DY.out (e - 1) (by omega) (by omega),DX.out j (by omega) (by omega)] at h;rw[show e - m - 1=e - 1 - m by omega];exact h
        ·right;left;omega
       ·left;omega
    have hje:j+e=mid+m:=by omega
    have HM:Hid _:=hHM;clear he HB hHM HCASE DX DY hij hk hge;obtain ⟨X1,X2,Y1,Y2,m1,m2,m3,m4,m5,m6,m7,m8,m9,mA,mB,mC,mD,mE,mF,mG⟩:=HM.out;have l1:X1.length+X2.length=X.length:=by rw[m1,Jd]
    have l2:Y1.length+Y2.length=Y.length:=by rw[m2,Jd]
    have HMM:Hid (mrg (ltOf cf) X Y=mrg (ltOf cf) X1 Y1++mrg (ltOf cf) X2 Y2):=m7;have HNN:Hid (d0.size=N):=HQ.out.2.1;have s0:SWK enc 2 w0 blk off (A++(X1++(X2++(Y1++(Y2++S))))).toArray wr:=by have e:=S1.out;rw[mG] at e;exact e
    have ln1:=Kfm (ltOf cf) X1 Y1;have hN:=HNN.out;have hpure:(0 < X2.length↔j < m)∧(0 < Y1.length↔m < e)∧(0 < X1.length↔a < j)∧(0 < Y1.length↔j < mid)∧(0 < X2.length↔mid < e)∧(0 < Y2.length↔e < b):=by refine ⟨?_,?_,?_,?_,?_,?_⟩ <;> omega
    clear S1;rcases Nat.eq_zero_or_pos X1.length with cX1 | cX1
    ·rcases Nat.eq_zero_or_pos X2.length with cX2 | cX2
     ·exfalso;omega
     ·rcases Nat.eq_zero_or_pos Y1.length with cY1 | cY1
      ·exfalso;omega
      ·rcases Nat.eq_zero_or_pos Y2.length with cY2 | cY2
       ·first
        | (exfalso;omega)
        | (
          have g1:(j:Int) < (m:Int):=by omega
          have g2:(m:Int) < (e:Int):=by omega
          have g3:¬(a:Int) < (j:Int):=by omega
          have g4:(j:Int) < (mid:Int):=by omega
          have g5:(mid:Int) < (e:Int):=by omega
          have g6:¬(e:Int) < (b:Int):=by omega
          have e1:∀W,SWK enc 2 w0 blk off (A++(X1++(X2++(Y1++(Y2++S))))).toArray W→Calls Tryz.prog 255 #[.slice (some ⟨blk,off,none⟩) N cap,.int .i64 j,.int .i64 m,.int .i64 e,.func (.func g) #[] cb] W fun e w'=>e = .returned (.tuple #[])∧SWK enc 2 w0 blk off (A++(X1++(Y1++(X2++(Y2++S))))).toArray w':=by
           intro W h;have:=Kcg (cap:=cap) (g:=g) (cb:=cb) (A++X1) X2 Y1 (Y2++S) j m e W R hN (by simp only[Jd];omega) (by simp only[Jd];omega) (by simp only[Jd];omega) (by simp only[Jd];omega) (by omega) (by omega) hsz (by rw[List.append_assoc];exact h);rw[List.append_assoc] at this;exact this
          have e2:∀W,SWK enc 2 w0 blk off (A++(X1++(Y1++(X2++(Y2++S))))).toArray W→SWK enc 2 w0 blk off (A++(mrg (ltOf cf) X1 Y1++(X2++(Y2++S)))).toArray W:=by
           intro W h;have hz:X1 = []:=List.eq_nil_of_length_eq_zero (by omega);rw[hz] at h ⊢;rw[Kaf];simpa using h
          have e3:∀W,SWK enc 2 w0 blk off (A++(mrg (ltOf cf) X1 Y1++(X2++(Y2++S)))).toArray W→SWK enc 2 w0 blk off (A++(mrg (ltOf cf) X Y++S)).toArray W:=by
           intro W h;have hz:Y2 = []:=List.eq_nil_of_length_eq_zero (by omega);rw[m7];rw[hz] at h ⊢;rw[Kae];simpa using h
          have E1:Aside _:=e1;have E2:Aside _:=e2;have E3:Aside _:=e3;have T0:Aside _:=s0;clear m1 m2 m3 m4 m5 m6 m7 m8 m9 mA mB mC mD mE mF mG ln1 hN s0 e1 e2 e3 l1 l2 hpure HM HMM HQ HSD hN2 HNN IHA HC hmi hjb hlh hal him himid hlob;go_wp2_with fail
          refine Calls.mono (E1.out _ T0.out) ?_;rintro _ w3 ⟨rfl,h1⟩;have T1:Aside _:=h1;clear h1;have T2:Aside _:=E2.out _ T1.out;have T3:Aside _:=E3.out _ T2.out;go_wp2_with fail
          go_end0
          exact ⟨rfl,T3.out⟩)
       ·first
        | (exfalso;omega)
        | (
          have g1:(j:Int) < (m:Int):=by omega
          have g2:(m:Int) < (e:Int):=by omega
          have g3:¬(a:Int) < (j:Int):=by omega
          have g4:(j:Int) < (mid:Int):=by omega
          have g5:(mid:Int) < (e:Int):=by omega
          have g6:(e:Int) < (b:Int):=by omega
          have e1:∀W,SWK enc 2 w0 blk off (A++(X1++(X2++(Y1++(Y2++S))))).toArray W→Calls Tryz.prog 255 #[.slice (some ⟨blk,off,none⟩) N cap,.int .i64 j,.int .i64 m,.int .i64 e,.func (.func g) #[] cb] W fun e w'=>e = .returned (.tuple #[])∧SWK enc 2 w0 blk off (A++(X1++(Y1++(X2++(Y2++S))))).toArray w':=by
           intro W h;have:=Kcg (cap:=cap) (g:=g) (cb:=cb) (A++X1) X2 Y1 (Y2++S) j m e W R hN (by simp only[Jd];omega) (by simp only[Jd];omega) (by simp only[Jd];omega) (by simp only[Jd];omega) (by omega) (by omega) hsz (by rw[List.append_assoc];exact h);rw[List.append_assoc] at this;exact this
          have e2:∀W,SWK enc 2 w0 blk off (A++(X1++(Y1++(X2++(Y2++S))))).toArray W→SWK enc 2 w0 blk off (A++(mrg (ltOf cf) X1 Y1++(X2++(Y2++S)))).toArray W:=by
           intro W h;have hz:X1 = []:=List.eq_nil_of_length_eq_zero (by omega);rw[hz] at h ⊢;rw[Kaf];simpa using h
          have e3:∀W,SWK enc 2 w0 blk off (A++(mrg (ltOf cf) X1 Y1++(X2++(Y2++S)))).toArray W→Calls Tryz.prog 225 #[.slice (some ⟨blk,off,none⟩) N cap,.int .i64 mid,.int .i64 e,.int .i64 b,.func (.func g) #[] cb] W fun e w'=>e = .returned (.tuple #[])∧SWK enc 2 w0 blk off (A++(mrg (ltOf cf) X Y++S)).toArray w':=by
           intro W h;have:=IHA.out (A++mrg (ltOf cf) X1 Y1) X2 Y2 S mid e b W (by omega) (by simp only[Jd];omega) (by simp only[Jd];omega) (by omega) (by omega) (by omega) (by omega) mD mF (by rw[List.append_assoc];exact h);rw[m7];rw[List.append_assoc] at this ⊢;exact this
          have E1:Aside _:=e1;have E2:Aside _:=e2;have E3:Aside _:=e3;have T0:Aside _:=s0;clear m1 m2 m3 m4 m5 m6 m7 m8 m9 mA mB mC mD mE mF mG ln1 hN s0 e1 e2 e3 l1 l2 hpure HM HMM HQ HSD hN2 HNN IHA HC hmi hjb hlh hal him himid hlob;go_wp2_with fail
          refine Calls.mono (E1.out _ T0.out) ?_;rintro _ w3 ⟨rfl,h1⟩;have T1:Aside _:=h1;clear h1;have T2:Aside _:=E2.out _ T1.out;go_wp2_with fail
          refine Calls.mono (E3.out _ T2.out) ?_;rintro _ w5 ⟨rfl,h3⟩;have T3:Aside _:=h3;clear h3;go_wp2_with fail
          go_end0
          exact ⟨rfl,T3.out⟩)
    ·rcases Nat.eq_zero_or_pos X2.length with cX2 | cX2
     ·rcases Nat.eq_zero_or_pos Y1.length with cY1 | cY1
      ·rcases Nat.eq_zero_or_pos Y2.length with cY2 | cY2
       ·exfalso;omega
       ·first
        | (exfalso;omega)
        | (
          have g1:¬(j:Int) < (m:Int):=by omega
          have g2:¬(m:Int) < (e:Int):=by omega
          have g3:(a:Int) < (j:Int):=by omega
          have g4:¬(j:Int) < (mid:Int):=by omega
          have g5:¬(mid:Int) < (e:Int):=by omega
          have g6:(e:Int) < (b:Int):=by omega
          have e1:∀W,SWK enc 2 w0 blk off (A++(X1++(X2++(Y1++(Y2++S))))).toArray W→SWK enc 2 w0 blk off (A++(X1++(Y1++(X2++(Y2++S))))).toArray W:=by
           intro W h;have hz:X2 = []:=List.eq_nil_of_length_eq_zero (by omega);rw[hz] at h ⊢;simpa using h
          have e2:∀W,SWK enc 2 w0 blk off (A++(X1++(Y1++(X2++(Y2++S))))).toArray W→SWK enc 2 w0 blk off (A++(mrg (ltOf cf) X1 Y1++(X2++(Y2++S)))).toArray W:=by
           intro W h;have hz:Y1 = []:=List.eq_nil_of_length_eq_zero (by omega);rw[hz] at h ⊢;rw[Kae];simpa using h
          have e3:∀W,SWK enc 2 w0 blk off (A++(mrg (ltOf cf) X1 Y1++(X2++(Y2++S)))).toArray W→SWK enc 2 w0 blk off (A++(mrg (ltOf cf) X Y++S)).toArray W:=by
           intro W h;have hz:X2 = []:=List.eq_nil_of_length_eq_zero (by omega);rw[m7];rw[hz] at h ⊢;rw[Kaf];simpa using h
          have E1:Aside _:=e1;have E2:Aside _:=e2;have E3:Aside _:=e3;have T0:Aside _:=s0;clear m1 m2 m3 m4 m5 m6 m7 m8 m9 mA mB mC mD mE mF mG ln1 hN s0 e1 e2 e3 l1 l2 hpure HM HMM HQ HSD hN2 HNN IHA HC hmi hjb hlh hal him himid hlob;have T1:Aside _:=E1.out _ T0.out;have T2:Aside _:=E2.out _ T1.out;have T3:Aside _:=E3.out _ T2.out;go_wp2_with fail
          go_end0
          exact ⟨rfl,T3.out⟩)
      ·rcases Nat.eq_zero_or_pos Y2.length with cY2 | cY2
       ·exfalso;omega
       ·first
        | (exfalso;omega)
        | (
          have g1:¬(j:Int) < (m:Int):=by omega
          have g2:(m:Int) < (e:Int):=by omega
          have g3:(a:Int) < (j:Int):=by omega
          have g4:(j:Int) < (mid:Int):=by omega
          have g5:¬(mid:Int) < (e:Int):=by omega
          have g6:(e:Int) < (b:Int):=by omega
          have e1:∀W,SWK enc 2 w0 blk off (A++(X1++(X2++(Y1++(Y2++S))))).toArray W→SWK enc 2 w0 blk off (A++(X1++(Y1++(X2++(Y2++S))))).toArray W:=by
           intro W h;have hz:X2 = []:=List.eq_nil_of_length_eq_zero (by omega);rw[hz] at h ⊢;simpa using h
          have e2:∀W,SWK enc 2 w0 blk off (A++(X1++(Y1++(X2++(Y2++S))))).toArray W→Calls Tryz.prog 225 #[.slice (some ⟨blk,off,none⟩) N cap,.int .i64 a,.int .i64 j,.int .i64 mid,.func (.func g) #[] cb] W fun e w'=>e = .returned (.tuple #[])∧SWK enc 2 w0 blk off (A++(mrg (ltOf cf) X1 Y1++(X2++(Y2++S)))).toArray w':=by
           intro W h;exact IHA.out A X1 Y1 (X2++(Y2++S)) a j mid W (by omega) (by simp only[Jd];omega) (by omega) (by omega) (by omega) (by omega) (by omega) mC mE h
          have e3:∀W,SWK enc 2 w0 blk off (A++(mrg (ltOf cf) X1 Y1++(X2++(Y2++S)))).toArray W→SWK enc 2 w0 blk off (A++(mrg (ltOf cf) X Y++S)).toArray W:=by
           intro W h;have hz:X2 = []:=List.eq_nil_of_length_eq_zero (by omega);rw[m7];rw[hz] at h ⊢;rw[Kaf];simpa using h
          have E1:Aside _:=e1;have E2:Aside _:=e2;have E3:Aside _:=e3;have T0:Aside _:=s0;clear m1 m2 m3 m4 m5 m6 m7 m8 m9 mA mB mC mD mE mF mG ln1 hN s0 e1 e2 e3 l1 l2 hpure HM HMM HQ HSD hN2 HNN IHA HC hmi hjb hlh hal him himid hlob;have T1:Aside _:=E1.out _ T0.out;go_wp2_with fail
          refine Calls.mono (E2.out _ T1.out) ?_;rintro _ w4 ⟨rfl,h2⟩;have T2:Aside _:=h2;clear h2;have T3:Aside _:=E3.out _ T2.out;go_wp2_with fail
          go_end0
          exact ⟨rfl,T3.out⟩)
     ·rcases Nat.eq_zero_or_pos Y1.length with cY1 | cY1
      ·rcases Nat.eq_zero_or_pos Y2.length with cY2 | cY2
       ·exfalso;omega
       ·first
        | (exfalso;omega)
        | (
          have g1:(j:Int) < (m:Int):=by omega
          have g2:¬(m:Int) < (e:Int):=by omega
          have g3:(a:Int) < (j:Int):=by omega
          have g4:¬(j:Int) < (mid:Int):=by omega
          have g5:(mid:Int) < (e:Int):=by omega
          have g6:(e:Int) < (b:Int):=by omega
          have e1:∀W,SWK enc 2 w0 blk off (A++(X1++(X2++(Y1++(Y2++S))))).toArray W→SWK enc 2 w0 blk off (A++(X1++(Y1++(X2++(Y2++S))))).toArray W:=by
           intro W h;have hz:Y1 = []:=List.eq_nil_of_length_eq_zero (by omega);rw[hz] at h ⊢;simpa using h
          have e2:∀W,SWK enc 2 w0 blk off (A++(X1++(Y1++(X2++(Y2++S))))).toArray W→SWK enc 2 w0 blk off (A++(mrg (ltOf cf) X1 Y1++(X2++(Y2++S)))).toArray W:=by
           intro W h;have hz:Y1 = []:=List.eq_nil_of_length_eq_zero (by omega);rw[hz] at h ⊢;rw[Kae];simpa using h
          have e3:∀W,SWK enc 2 w0 blk off (A++(mrg (ltOf cf) X1 Y1++(X2++(Y2++S)))).toArray W→Calls Tryz.prog 225 #[.slice (some ⟨blk,off,none⟩) N cap,.int .i64 mid,.int .i64 e,.int .i64 b,.func (.func g) #[] cb] W fun e w'=>e = .returned (.tuple #[])∧SWK enc 2 w0 blk off (A++(mrg (ltOf cf) X Y++S)).toArray w':=by
           intro W h;have:=IHA.out (A++mrg (ltOf cf) X1 Y1) X2 Y2 S mid e b W (by omega) (by simp only[Jd];omega) (by simp only[Jd];omega) (by omega) (by omega) (by omega) (by omega) mD mF (by rw[List.append_assoc];exact h);rw[m7];rw[List.append_assoc] at this ⊢;exact this
          have E1:Aside _:=e1;have E2:Aside _:=e2;have E3:Aside _:=e3;have T0:Aside _:=s0;clear m1 m2 m3 m4 m5 m6 m7 m8 m9 mA mB mC mD mE mF mG ln1 hN s0 e1 e2 e3 l1 l2 hpure HM HMM HQ HSD hN2 HNN IHA HC hmi hjb hlh hal him himid hlob;have T1:Aside _:=E1.out _ T0.out;have T2:Aside _:=E2.out _ T1.out;go_wp2_with fail
          refine Calls.mono (E3.out _ T2.out) ?_;rintro _ w5 ⟨rfl,h3⟩;have T3:Aside _:=h3;clear h3;go_wp2_with fail
          go_end0
          exact ⟨rfl,T3.out⟩)
      ·rcases Nat.eq_zero_or_pos Y2.length with cY2 | cY2
       ·first
        | (exfalso;omega)
        | (
          have g1:(j:Int) < (m:Int):=by omega
          have g2:(m:Int) < (e:Int):=by omega
          have g3:(a:Int) < (j:Int):=by omega
          have g4:(j:Int) < (mid:Int):=by omega
          have g5:(mid:Int) < (e:Int):=by omega
          have g6:¬(e:Int) < (b:Int):=by omega
          have e1:∀W,SWK enc 2 w0 blk off (A++(X1++(X2++(Y1++(Y2++S))))).toArray W→Calls Tryz.prog 255 #[.slice (some ⟨blk,off,none⟩) N cap,.int .i64 j,.int .i64 m,.int .i64 e,.func (.func g) #[] cb] W fun e w'=>e = .returned (.tuple #[])∧SWK enc 2 w0 blk off (A++(X1++(Y1++(X2++(Y2++S))))).toArray w':=by
           intro W h;have:=Kcg (cap:=cap) (g:=g) (cb:=cb) (A++X1) X2 Y1 (Y2++S) j m e W R hN (by simp only[Jd];omega) (by simp only[Jd];omega) (by simp only[Jd];omega) (by simp only[Jd];omega) (by omega) (by omega) hsz (by rw[List.append_assoc];exact h);rw[List.append_assoc] at this;exact this
          have e2:∀W,SWK enc 2 w0 blk off (A++(X1++(Y1++(X2++(Y2++S))))).toArray W→Calls Tryz.prog 225 #[.slice (some ⟨blk,off,none⟩) N cap,.int .i64 a,.int .i64 j,.int .i64 mid,.func (.func g) #[] cb] W fun e w'=>e = .returned (.tuple #[])∧SWK enc 2 w0 blk off (A++(mrg (ltOf cf) X1 Y1++(X2++(Y2++S)))).toArray w':=by
           intro W h;exact IHA.out A X1 Y1 (X2++(Y2++S)) a j mid W (by omega) (by simp only[Jd];omega) (by omega) (by omega) (by omega) (by omega) (by omega) mC mE h
          have e3:∀W,SWK enc 2 w0 blk off (A++(mrg (ltOf cf) X1 Y1++(X2++(Y2++S)))).toArray W→SWK enc 2 w0 blk off (A++(mrg (ltOf cf) X Y++S)).toArray W:=by
           intro W h;have hz:Y2 = []:=List.eq_nil_of_length_eq_zero (by omega);rw[m7];rw[hz] at h ⊢;rw[Kae];simpa using h
          have E1:Aside _:=e1;have E2:Aside _:=e2;have E3:Aside _:=e3;have T0:Aside _:=s0;clear m1 m2 m3 m4 m5 m6 m7 m8 m9 mA mB mC mD mE mF mG ln1 hN s0 e1 e2 e3 l1 l2 hpure HM HMM HQ HSD hN2 HNN IHA HC hmi hjb hlh hal him himid hlob;go_wp2_with fail
          refine Calls.mono (E1.out _ T0.out) ?_;rintro _ w3 ⟨rfl,h1⟩;have T1:Aside _:=h1;clear h1;go_wp2_with fail
          refine Calls.mono (E2.out _ T1.out) ?_;rintro _ w4 ⟨rfl,h2⟩;have T2:Aside _:=h2;clear h2;have T3:Aside _:=E3.out _ T2.out;go_wp2_with fail
          go_end0
          exact ⟨rfl,T3.out⟩)
       ·first
        | (exfalso;omega)
        | (
          have g1:(j:Int) < (m:Int):=by omega
          have g2:(m:Int) < (e:Int):=by omega
          have g3:(a:Int) < (j:Int):=by omega
          have g4:(j:Int) < (mid:Int):=by omega
          have g5:(mid:Int) < (e:Int):=by omega
          have g6:(e:Int) < (b:Int):=by omega
          have e1:∀W,SWK enc 2 w0 blk off (A++(X1++(X2++(Y1++(Y2++S))))).toArray W→Calls Tryz.prog 255 #[.slice (some ⟨blk,off,none⟩) N cap,.int .i64 j,.int .i64 m,.int .i64 e,.func (.func g) #[] cb] W fun e w'=>e = .returned (.tuple #[])∧SWK enc 2 w0 blk off (A++(X1++(Y1++(X2++(Y2++S))))).toArray w':=by
           intro W h;have:=Kcg (cap:=cap) (g:=g) (cb:=cb) (A++X1) X2 Y1 (Y2++S) j m e W R hN (by simp only[Jd];omega) (by simp only[Jd];omega) (by simp only[Jd];omega) (by simp only[Jd];omega) (by omega) (by omega) hsz (by rw[List.append_assoc];exact h);rw[List.append_assoc] at this;exact this
          have e2:∀W,SWK enc 2 w0 blk off (A++(X1++(Y1++(X2++(Y2++S))))).toArray W→Calls Tryz.prog 225 #[.slice (some ⟨blk,off,none⟩) N cap,.int .i64 a,.int .i64 j,.int .i64 mid,.func (.func g) #[] cb] W fun e w'=>e = .returned (.tuple #[])∧SWK enc 2 w0 blk off (A++(mrg (ltOf cf) X1 Y1++(X2++(Y2++S)))).toArray w':=by
           intro W h;exact IHA.out A X1 Y1 (X2++(Y2++S)) a j mid W (by omega) (by simp only[Jd];omega) (by omega) (by omega) (by omega) (by omega) (by omega) mC mE h
          have e3:∀W,SWK enc 2 w0 blk off (A++(mrg (ltOf cf) X1 Y1++(X2++(Y2++S)))).toArray W→Calls Tryz.prog 225 #[.slice (some ⟨blk,off,none⟩) N cap,.int .i64 mid,.int .i64 e,.int .i64 b,.func (.func g) #[] cb] W fun e w'=>e = .returned (.tuple #[])∧SWK enc 2 w0 blk off (A++(mrg (ltOf cf) X Y++S)).toArray w':=by
           intro W h;have:=IHA.out (A++mrg (ltOf cf) X1 Y1) X2 Y2 S mid e b W (by omega) (by simp only[Jd];omega) (by simp only[Jd];omega) (by omega) (by omega) (by omega) (by omega) mD mF (by rw[List.append_assoc];exact h);rw[m7];rw[List.append_assoc] at this ⊢;exact this
          have E1:Aside _:=e1;have E2:Aside _:=e2;have E3:Aside _:=e3;have T0:Aside _:=s0;clear m1 m2 m3 m4 m5 m6 m7 m8 m9 mA mB mC mD mE mF mG ln1 hN s0 e1 e2 e3 l1 l2 hpure HM HMM HQ HSD hN2 HNN IHA HC hmi hjb hlh hal him himid hlob;go_wp2_with fail
          refine Calls.mono (E1.out _ T0.out) ?_;rintro _ w3 ⟨rfl,h1⟩;have T1:Aside _:=h1;clear h1;go_wp2_with fail
          refine Calls.mono (E2.out _ T1.out) ?_;rintro _ w4 ⟨rfl,h2⟩;have T2:Aside _:=h2;clear h2;go_wp2_with fail
          refine Calls.mono (E3.out _ T2.out) ?_;rintro _ w5 ⟨rfl,h3⟩;have T3:Aside _:=h3;clear h3;go_wp2_with fail
          go_end0
          exact ⟨rfl,T3.out⟩)
theorem Kho (SW:SWO (ltOf cf)) (eg:∀args w,(callFunc g args).run Tryz.prog w = .ok (.enter g args) w) (hcmp:CmpLays Tryz.prog g cb enc 2 cf blk off d0.size w0) (R:RowK enc 2 w0 blk off d0) (hN:d0.size=N) (hsz:N < 4611686018427387904):∀(nn:Nat) (A X Y S:List α) (a m b:Nat) (w:World),X.length+Y.length≤nn→A.length+X.length+Y.length+S.length=N→a=A.length→m=a+X.length→b=m+Y.length→0 < X.length→0 < Y.length→(X.Pairwise fun a b=>ltOf cf b a=false)→(Y.Pairwise fun a b=>ltOf cf b a=false)→SWK enc 2 w0 blk off (A++(X++(Y++S))).toArray w→Calls Tryz.prog 225 #[.slice (some ⟨blk,off,none⟩) N cap,.int .i64 a,.int .i64 m,.int .i64 b,.func (.func g) #[] cb] w fun e w'=>e = .returned (.tuple #[])∧SWK enc 2 w0 blk off (A++(mrg (ltOf cf) X Y++S)).toArray w'
 | 0,A,X,Y,S,a,m,b,w,h,_,_,_,_,hx,_,_,_,_=>absurd h (by omega)
 | nn+1,A,X,Y,S,a,m,b,w,h,hl,ha,hm,hb,hx,hy,hX,hY,S0=>by
  rcases Nat.lt_or_ge 1 X.length with h1 | h1
  ·rcases Nat.lt_or_ge 1 Y.length with h2 | h2
   ·exact Kpc SW eg hcmp R hN hsz nn (Kho SW eg hcmp R hN hsz nn) A X Y S a m b w h hl ha hm hb h1 h2 hX hY S0
   ·obtain ⟨y,rfl⟩:∃y,Y = [y]:=List.length_eq_one_iff.1 (by omega);exact Koz SW eg hcmp R hN hsz A y X S a m b w (by simpa using hl) ha hm (by simpa using hb) h1 hX S0
  ·obtain ⟨x,rfl⟩:∃x,X = [x]:=List.length_eq_one_iff.1 (by omega);exact Krj SW eg hcmp R hN hsz A x Y S a m b w (by simpa using hl) ha (by simpa using hm) hb hy hY S0
end
attribute [-go_sem] loadCells
open Go.Shelf Go.RowKit Go.Lib Go.Sort
section
variable {α : Type} [Inhabited α] {enc : α → List Value} {cf : α → α → Int} {d0 : Array α} {w0 : World} {blk off cap g N : Nat} {cb : Array Value}
set_option maxHeartbeats 4000000
set_option maxRecDepth 1000000
def Ktc:Go.Shelf.Ren:=⟨fun | 20=>224 | n=>n,fun | 0=>0 | 3=>3 | 4=>4 | 22=>55 | 24=>102 | 25=>225 | n=>n,fun | n=>n⟩
theorem Qdc:SlLaysF0.n20 Tryz.prog Ktc:={
 mixed:=by kernel_rfl
 f20:=⟨Tryz.f224.name,by decide,Tryz.func224.trans (congrArg some (by kernel_rfl))⟩
 t0:=Tryz.underlying0
 a0:=Tryz.isAgg0
 z0:=Tryz.sizeOf0
 v0:=Tryz.zeroValue0
 t3:=Tryz.underlying3
 a3:=Tryz.isAgg3
 z3:=Tryz.sizeOf3
 v3:=Tryz.zeroValue3
 t4:=Tryz.underlying4
 a4:=Tryz.isAgg4
 z4:=Tryz.sizeOf4
 v4:=Tryz.zeroValue4
 t22:=Tryz.underlying55
 a22:=Tryz.isAgg55
 z22:=Tryz.sizeOf55
 v22:=Tryz.zeroValue55
 t25:=Tryz.underlying225
 a25:=Tryz.isAgg225
 z25:=Tryz.sizeOf225
 v25:=Tryz.zeroValue225 }
theorem Kqy (SW:SWO (ltOf cf)) (eg:∀args w,(callFunc g args).run Tryz.prog w = .ok (.enter g args) w) (hcmp:CmpLays Tryz.prog g cb enc 2 cf blk off d0.size w0) (R:RowK enc 2 w0 blk off d0) (hN:d0.size=N) (hsz:N < 1152921504606846976) (A Y S:List α) (a b:Nat) (w:World) (hl:A.length+Y.length+S.length=N) (ha:a=A.length) (hb:b=a+Y.length) (S0:SWK enc 2 w0 blk off (A++(Y++S)).toArray w) :
  Calls Tryz.prog 224 #[.slice (some ⟨blk,off,none⟩) N cap,.int .i64 a,.int .i64 b,.func (.func g) #[] cb] w fun e w'=>e = .returned (.tuple #[])∧∃Z,Stab (ltOf cf) Y Z∧SWK enc 2 w0 blk off (A++(Z++S)).toArray w':=by
 have hsd:(A++(Y++S)).toArray.size=N:=by simp only[List.size_toArray,Jd];omega
 have h:=AnyQ.insertionSortCmpFunc Qdc 2 Tryz.isAgg102 Tryz.sizeOf102 enc R.hk R.h1 cf g cb blk off cap a b (A++(Y++S)).toArray w eg ?_ (S0.holds R.hblk R.hH (by rw[hsd,hN])) (S0.lt R.hblk) (by omega) (by rw[hsd];omega) (by rw[hsd];omega)
 ·rw[hsd] at h;refine Calls.mono h ?_;rintro _ w' ⟨rfl,n,os,rfl⟩;refine ⟨rfl,?_⟩;rcases Nat.eq_zero_or_pos Y.length with h0 | h0
  ·have:Y = []:=List.eq_nil_of_length_eq_zero h0;subst this;refine ⟨[],Stab.nil,?_⟩;have e:=Kfk (lt:=ltOf cf) A S;rw[show b=A.length by simpa[ha] using hb,ha,show A++([]++S)=A++S from rfl,e];exact S0.on R.hblk _ _ _ rfl
  ·obtain ⟨Z,hz,e⟩:=Kez SW A Y S h0;refine ⟨Z,hz,?_⟩;rw[hb,ha,e];exact S0.on R.hblk _ _ _ (by simp only[List.size_toArray,Jd,hz.len])
 ·intro m os dk hdk x y;obtain ⟨m2,os2,hw⟩:=S0.on R.hblk m dk os (by rw[hdk]);rw[hw];exact hcmp m2 os2 dk (by rw[hdk,hsd,hN]) x y
theorem Krf (SW:SWO (ltOf cf)) (eg:∀args w,(callFunc g args).run Tryz.prog w = .ok (.enter g args) w) (hcmp:CmpLays Tryz.prog g cb enc 2 cf blk off d0.size w0) (R:RowK enc 2 w0 blk off d0) (hN:d0.size=N) (hsz:N < 1152921504606846976) (xs:List α) (w:World) (hl:xs.length=N) (S0:SWK enc 2 w0 blk off xs.toArray w) :
  Calls Tryz.prog 180 #[.slice (some ⟨blk,off,none⟩) N cap,.int .i64 N,.func (.func g) #[] cb] w fun e w'=>e = .returned (.tuple #[])∧∃ys,Stab (ltOf cf) xs ys∧SWK enc 2 w0 blk off ys.toArray w':=by
 have mixed:Tryz.prog.follows .mixedOrders=true:=by kernel_rfl
 have S1:Aside (SWK enc 2 w0 blk off ([]++xs).toArray w):=S0;have HN:Hid (d0.size=N∧xs.length=N):=⟨hN,hl⟩;have hb:=R.hblk;have hIns:=Kqy (cap:=cap) SW eg hcmp R hN hsz;have hSym:=Kho (cap:=cap) SW eg hcmp R hN (by omega);have HI:Aside _:=hIns;have HS:Aside _:=hSym;clear S0 hl hN hb hIns hSym hcmp;go_enter Tryz.func180,Tryz.ntmps180
 go_wp2
 go_loopg [7,8] (N+1) (fun kx s7 s8 wr=>∃(a b:Nat) (xZ xR Z:List α),s7 = .int .i64 a∧s8 = .int .i64 b∧a≤N∧a < b∧b≤N+20∧N+1≤a+kx∧Hid (b=a+20∧xs=xZ++xR∧xZ.length=a∧Whole (ltOf cf) 20 xZ Z)∧Aside (SWK enc 2 w0 blk off (Z++xR).toArray wr))
 case atStart=>exact ⟨0,20,[],xs,[],rfl,rfl,by omega,by omega,by omega,by omega,⟨rfl,rfl,rfl,.nil⟩,S1⟩
 case round=>
  clear S1;obtain ⟨a,b,xZ,xR,Z,rfl,rfl,haN,hab,hbN,hk,HB,S1⟩:=hrel;have hZ:Z.length=a:=by rw[HB.out.2.2.2.len];exact HB.out.2.2.1
  have hR:a+xR.length=N:=by have q:=HB.out;have q2:=HN.out.2;rw[q.2.1,Jd] at q2;omega
  rcases Nat.lt_or_ge N b with hlt | hge
  ·have hlz:¬(b:Int)≤(N:Int):=by omega
   have hc:=HI.out Z xR [] a N wr (by simp only[List.length_nil];omega) (by omega) (by omega) (by rw[List.append_nil];exact S1.out);have HC:Aside _:=hc;clear hc S1 hZ hR;go_wp2_with fail
   refine Calls.mono HC.out ?_;rintro _ w3 ⟨rfl,z1,hz1,h3⟩
   have HB0:Hid (Blks (ltOf cf) 20 xs (Z++z1)):=by
    have q:=HB.out;have q2:=HN.out;have q4:xZ.length+xR.length=N:=by rw[←Jd,←q.2.1];exact q2.2
    show Blks _ _ _ _
    rw[q.2.1];exact q.2.2.2.close (.last (by omega) hz1)
   rw[List.append_nil] at h3;have S1:Aside (SWK enc 2 w0 blk off (Z++z1).toArray w3):=h3;clear h3 hz1 HB HC hk hab hbN haN hlt hlz;generalize Z++z1=ys0 at S1 HB0;clear Z z1 xZ xR;go_wp2_with fail
   go_loopg [6] (N+1) (fun kx s6 wr=>∃(c:Nat) (ys:List α),s6 = .int .i64 c∧0 < c∧c≤2*N+20∧N+1≤c+kx∧Hid (Blks (ltOf cf) c xs ys)∧Aside (SWK enc 2 w0 blk off ys.toArray wr))
   case atStart=>exact ⟨20,ys0,rfl,by omega,by omega,by omega,HB0,S1⟩
   case round=>
    clear S1 HB0;obtain ⟨c,ys,rfl,hc0,hcN,hk,HB,S1⟩:=hrel;rcases Nat.lt_or_ge c N with hlt | hge
    ·have hlz:(c:Int) < (N:Int):=by omega
     obtain ⟨gk0,hgk0⟩:∃gk0,gk0=gk:=⟨_,rfl⟩;rw[←hgk0] at hk;have HGK:Hid (gk0=gk):=hgk0;clear hgk0;go_wp2_with fail
     have S2:Aside (SWK enc 2 w0 blk off ([]++ys).toArray wr):=S1;clear S1;go_loopg [7,8] (N+1) (fun kx s7 s8 wr=>∃(a b:Nat) (xZ xR Z R:List α),s7 = .int .i64 a∧s8 = .int .i64 b∧a≤N∧a+c < b∧b≤N+2*c∧N+1≤a+kx∧Hid (b=a+2*c∧xs=xZ++xR∧xZ.length=a∧Whole (ltOf cf) (2*c) xZ Z∧Blks (ltOf cf) c xR R)∧Aside (SWK enc 2 w0 blk off (Z++R).toArray wr))
     case atStart=>exact ⟨0,2*c,[],xs,[],ys,rfl,by first | rfl | go_num,by omega,by omega,by omega,by omega,⟨by omega,rfl,rfl,.nil,HB.out⟩,S2⟩
     case round=>
      clear S2 HB;obtain ⟨a,b,xZ,xR,Z,R',rfl,rfl,haN,hab,hbN,hk2,HB,S1⟩:=hrel
      have hlen:Hid (xZ.length+xR.length=N∧Z.length=a∧R'.length=xR.length∧b=a+2*c∧xZ.length=a):=by
       have q:=HB.out;have q2:=HN.out;have q4:xZ.length+xR.length=N:=by rw[←Jd,←q.2.1];exact q2.2
       exact ⟨q4,by rw[q.2.2.2.1.len];exact q.2.2.1,q.2.2.2.2.len,q.1,q.2.2.1⟩
      rcases Nat.lt_or_ge N b with hlt2 | hge2
      ·have hlz2:¬(b:Int)≤(N:Int):=by omega
       rcases Nat.lt_or_ge (a+c) N with hm | hm
       ·have hmz:(a:Int)+(c:Int) < (N:Int):=by omega
        have hex:∃x1 x2 r1 r2,xR=x1++x2∧R'=r1++r2∧x1.length=c∧Stab (ltOf cf) x1 r1∧Stab (ltOf cf) x2 r2∧x2.length+(a+c)=N:=by
         have q:=HB.out;have ql:=hlen.out;obtain ⟨x1,x2,r1,r2,e1,e2,e3,e4,e5⟩:=q.2.2.2.2.first (by omega)
         have e6:x1.length+x2.length=xR.length:=by rw[e1,Jd]
         exact ⟨x1,x2,r1,r2,e1,e2,e3,e4,e5.short (by omega) hc0,by omega⟩
        obtain ⟨x1,x2,r1,r2,e1,e2,e3,e4,e5,e6⟩:=hex;have hcall:=HS.out (r1.length+r2.length) Z r1 r2 [] a (a+c) N wr (Nat.le_refl _) (by have ql:=hlen.out;have:=e4.len;have:=e5.len;simp only[List.length_nil];omega) (by have ql:=hlen.out;omega) (by have:=e4.len;omega) (by have:=e4.len;have:=e5.len;omega) (by have:=e4.len;omega) (by have:=e5.len;omega) e4.asc e5.asc (by rw[List.append_nil,←e2];exact S1.out)
        have HB2:Hid (Blks (ltOf cf) (2*c) xs (Z++(mrg (ltOf cf) r1 r2 ++ []))):=by
         have q:=HB.out;have ql:=hlen.out;show Blks _ _ _ _
         rw[q.2.1,e1,List.append_nil];exact q.2.2.2.1.close (.last (by simp only[Jd];omega) (e4.mrg SW e5))
        push_cast at hcall
        have HC:Aside _:=hcall;clear hcall S1 e1 e2 e3 e4 e5 e6 HB hlen;go_wp2_with fail
        refine Calls.mono HC.out ?_;rintro _ w3 ⟨rfl,h3⟩;have S1:Aside (SWK enc 2 w0 blk off (Z++(mrg (ltOf cf) r1 r2 ++ [])).toArray w3):=h3;clear h3 HC;generalize Z++(mrg (ltOf cf) r1 r2 ++ [])=ys2 at S1 HB2;go_wp2_with fail
        go_roundg (gk0 - 1)
        case measure=>have:=HGK.out;omega
        case rel=>exact ⟨c*2,ys2,by first | rfl | go_num,by omega,by omega,by omega,by rw[Nat.mul_comm];exact HB2,S1⟩
       ·have hmz:¬(a:Int)+(c:Int) < (N:Int):=by omega
        have HB2:Hid (Blks (ltOf cf) (2*c) xs (Z++R')):=by
         have q:=HB.out;have ql:=hlen.out;show Blks _ _ _ _
         rw[q.2.1];exact q.2.2.2.1.close (.last (by omega) (q.2.2.2.2.short (by omega) hc0))
        clear HB hlen;generalize Z++R'=ys2 at S1 HB2;go_wp2_with fail
        go_roundg (gk0 - 1)
        case measure=>have:=HGK.out;omega
        case rel=>exact ⟨c*2,ys2,by first | rfl | go_num,by omega,by omega,by omega,by rw[Nat.mul_comm];exact HB2,S1⟩
      ·have hlz2:(b:Int)≤(N:Int):=by omega
       have hex:∃x1 x2 x3 r1 r2 r3,xR=(x1++x2)++x3∧R'=r1++(r2++r3)∧x1.length=c∧x2.length=c∧Stab (ltOf cf) x1 r1∧Stab (ltOf cf) x2 r2∧Blks (ltOf cf) c x3 r3:=by
        have q:=HB.out;have ql:=hlen.out;obtain ⟨x1,x2,r1,r2,e1,e2,e3,e4,e5⟩:=q.2.2.2.2.first (by omega)
        have e6:x1.length+x2.length=xR.length:=by rw[e1,Jd]
        obtain ⟨y1,y2,s1,s2,f1,f2,f3,f4,f5⟩:=e5.first (by omega)
        exact ⟨x1,y1,y2,r1,s1,s2,by rw[e1,f1,List.append_assoc],by rw[e2,f2],e3,f3,e4,f4,f5⟩
       obtain ⟨x1,x2,x3,r1,r2,r3,e1,e2,e3,e4,e5,e6,e7⟩:=hex;have e8:R'.length=r1.length+(r2.length+r3.length):=by rw[e2];simp
       have hcall:=HS.out (r1.length+r2.length) Z r1 r2 r3 a (a+c) b wr (Nat.le_refl _) (by have ql:=hlen.out;have:=e5.len;have:=e6.len;omega) (by have ql:=hlen.out;omega) (by have:=e5.len;omega) (by have ql:=hlen.out;have:=e6.len;omega) (by have:=e5.len;omega) (by have:=e6.len;omega) e5.asc e6.asc (by rw[←e2];exact S1.out)
       have HB2:Hid (xs=(xZ++(x1++x2))++x3∧(xZ++(x1++x2)).length=b∧Whole (ltOf cf) (2*c) (xZ++(x1++x2)) (Z++mrg (ltOf cf) r1 r2)∧Blks (ltOf cf) c x3 r3):=by
        have q:=HB.out;have ql:=hlen.out;exact ⟨by rw[q.2.1,e1];simp only[List.append_assoc],by simp only[Jd];omega,q.2.2.2.1.snoc (by simp only[Jd];omega) (e5.mrg SW e6),e7⟩
       push_cast at hcall
       have HC:Aside _:=hcall;clear hcall S1 e1 e2 e3 e4 e5 e6 e7 e8 HB hlen;go_wp2_with fail
       refine Calls.mono HC.out ?_;rintro _ w3 ⟨rfl,h3⟩;have S1:Aside (SWK enc 2 w0 blk off ((Z++mrg (ltOf cf) r1 r2)++r3).toArray w3):=by rw[List.append_assoc];exact h3
       clear h3 HC;go_wp2_with fail
       go_roundg (N+1 - b)
       case measure=>omega
       case rel=>exact ⟨b,b+2*c,_,_,_,_,by first | rfl | go_num,by first | rfl | go_num,by omega,by omega,by omega,by omega,⟨rfl,HB2.out⟩,S1⟩
    ·have hlz:¬(c:Int) < (N:Int):=by omega
     go_wp2_with fail
     go_end0
     exact ⟨rfl,ys,HB.out.short (by rw[HN.out.2];exact hge) hc0,S1.out⟩
  ·have hlz:(b:Int)≤(N:Int):=by omega
   have hex:∃x1 x2,xR=x1++x2∧x1.length=20∧xZ.length+xR.length=N:=by
    have q:=HB.out;have q2:=HN.out;have q4:xZ.length+xR.length=N:=by rw[←Jd,←q.2.1];exact q2.2
    exact ⟨xR.take 20,xR.drop 20,(List.take_append_drop _ _).symm,by rw[List.length_take];omega,q4⟩
   obtain ⟨x1,x2,e1,e2,e3⟩:=hex;have e4:xR.length=x1.length+x2.length:=by rw[e1,Jd]
   have e5:=HB.out.1;have hc:=HI.out Z x1 x2 a b wr (by omega) (by omega) (by omega) (by rw[←e1];exact S1.out);have HC:Aside _:=hc;have HX:Hid (xR=x1++x2∧x1.length=20):=⟨e1,e2⟩;clear hc S1 e1 e2 e3 e4 e5 hZ hR;go_wp2_with fail
   refine Calls.mono HC.out ?_;rintro _ w3 ⟨rfl,z1,hz1,h3⟩
   have HB2:Hid (xs=(xZ++x1)++x2∧(xZ++x1).length=b∧Whole (ltOf cf) 20 (xZ++x1) (Z++z1)):=by
    have q:=HB.out;have q2:=HX.out;exact ⟨by rw[q.2.1,q2.1,List.append_assoc],by simp only[Jd];omega,q.2.2.2.snoc q2.2 hz1⟩
   have S1:Aside (SWK enc 2 w0 blk off ((Z++z1)++x2).toArray w3):=by rw[List.append_assoc];exact h3
   clear h3 hz1 HC HB HX;go_wp2_with fail
   go_roundg (N+1 - b)
   case measure=>omega
   case rel=>exact ⟨b,b+20,_,_,_,by first | rfl | go_num,by first | rfl | go_num,by omega,by omega,by omega,by omega,⟨rfl,HB2.out⟩,S1⟩
theorem Klc (SW:SWO (ltOf cf)) (eg:∀args w,(callFunc g args).run Tryz.prog w = .ok (.enter g args) w) (hcmp:CmpLays Tryz.prog g cb enc 2 cf blk off d0.size w0) (R:RowK enc 2 w0 blk off d0) (hN:d0.size=N) (hsz:N < 1152921504606846976) (xs:List α) (w:World) (hl:xs.length=N) (S0:SWK enc 2 w0 blk off xs.toArray w) :
  Calls Tryz.prog 132 #[.slice (some ⟨blk,off,none⟩) N cap,.func (.func g) #[] cb] w fun e w'=>e = .returned (.tuple #[])∧∃ys,Stab (ltOf cf) xs ys∧SWK enc 2 w0 blk off ys.toArray w':=by
 have HC:Aside _:=Krf (cap:=cap) SW eg hcmp R hN hsz xs w hl S0;clear S0 hl hN hcmp;go_enter Tryz.func132,Tryz.ntmps132
 go_wp2_with fail
 refine Calls.mono HC.out ?_;rintro _ w3 ⟨rfl,h3⟩;have H3:Aside _:=h3;clear h3;go_wp2_with fail
 go_end0
 exact ⟨rfl,H3.out⟩
end
end
end Go.Proofs.YtdoiekknhnbepaaGreatDoor
