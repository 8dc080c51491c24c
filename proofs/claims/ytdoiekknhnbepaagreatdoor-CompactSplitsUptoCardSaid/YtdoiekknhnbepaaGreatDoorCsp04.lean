/- Merged (what the claim wants of): MrgSortS, MrgStabS, SortRow, BackPlain, LabCmpW, LabCmpG, MrgPut. -/
import Derived.Test.YtdoiekknhnbepaaGreatDoorCsp03
import Derived.Shelf.SlSortCmp.NoneTotal
set_option linter.unusedVariables false
set_option linter.unusedSimpArgs false
set_option maxRecDepth 1000000
set_option maxHeartbeats 8000000
namespace Go.Proofs.YtdoiekknhnbepaaGreatDoor
open List renaming getElem?_eq_getElem->a2,getElem?_take_of_lt->a5,length_eq_one_iff->a6,getElem?_eq_none->a7,cons_lt_cons_iff->a9
open Lib renaming compareBytes->be,hid->bk
open _root_.Array renaming getElem?_append_left->bl,getElem?_modify->bp
open Value renaming string->bv,int->bw
open IntKind renaming wrap_i64->bx,i64->bz
open Calls renaming mono->bA,grown_of->bB
open Sem renaming run->bC
open Blk renaming new->bD,newAt->bE
open Tryz
open List renaming length_cons->aO,append_assoc->aP,length_nil->aQ,drop_eq_getElem_cons->aR,take_append_drop->aS,size_toArray->aT,drop_eq_nil_of_le->aU,eq_nil_of_length_eq_zero->aX,append_nil->aY,length_take->aZ,length_append->bc,flatMap_cons->bd,filter_eq_nil_iff->bf,concat_eq_append->bg,cons_lt_cons_iff->bh,take_succ_cons->bm,drop_succ_cons->bn,length_drop->br,take_zero->bs,drop_zero->bt
open Nat renaming lt_or_ge->aV,le_refl->aW,mul_comm->a8,div_lt_of_lt_mul->bi,zero_le->bj,eq_zero_or_pos->bo,succ_mul->bq
section
open List renaming length_append -> Jd
attribute [-go_sem] loadCells
open Go.Shelf Go.RowKit Go.Lib Go.Sort
section
variable {α : Type} [Inhabited α] {enc : α -> List Value} {cf : α -> α -> Int} {d0 : Array α} {w0 : World} {blk off cap g N : Nat} {cb : Array Value}
theorem Kex (A X M Y S:List α) (a b n:Nat) (w:World) (R:RowK enc 3 w0 blk off d0) (hN:d0.size=N) (hl:A.length+X.length+M.length+Y.length+S.length=N) (hX:X.length=n) (hY:Y.length=n) (ha:a=A.length) (hb:b=A.length+n+M.length) (hsz:N < 4611686018427387904)
  (S0:SWK enc 3 w0 blk off (A++(X++(M++(Y++S)))).toArray w) :
  Calls prog 254 #[.slice (some ⟨blk,off,none⟩) N cap,.int .i64 a,.int .i64 b,.int .i64 n,.func (.func g) #[] cb] w fun e w'=>e = .returned (.tuple #[])/\SWK enc 3 w0 blk off (A++(Y++(M++(X++S)))).toArray w':=by
 have S1:Aside (SWK enc 3 w0 blk off (A++(X++(M++(Y++S)))).toArray w):=S0;have HQ:Hid (d0.size=N/\A.length+X.length+M.length+Y.length+S.length=N/\X.length=n/\Y.length=n/\a=A.length/\b=A.length+n+M.length):=⟨hN,hl,hX,hY,ha,hb⟩;have ban:a+n<=b:=by omega
 have bbn:b+n<=N:=by omega
 clear hN hl hX hY ha hb;have mixed:prog.follows .mixedOrders=true:=by kernel_rfl
 clear S0;go_enter func254,ntmps254
 go_wp2
 go_loopg [10] n (fun kx s10 wr=>∃(i:Nat) (X1 X2 Y1 Y2:List α),s10 = .int .i64 i/\i+kx=n/\Hid (X1.length=i/\Y1.length=i/\X=X1++X2/\Y=Y1++Y2)/\Aside (SWK enc 3 w0 blk off (A++(Y1++(X2++(M++(X1++(Y2++S)))))).toArray wr))
 case atStart=>exact ⟨0,[],X,[],Y,rfl,by omega,⟨rfl,rfl,rfl,rfl⟩,S1⟩
 case round=>
  clear S1;obtain ⟨i,X1,X2,Y1,Y2,rfl,hk,ac,S1⟩:=hrel;obtain ⟨hN,hl,hX,hY,ha,hb⟩:=HQ.out;obtain ⟨h1,h2,h3,h4⟩:=ac.out;have e1:X1.length+X2.length=n:=by rw[<-hX,h3,Jd]
  have e2:Y1.length+Y2.length=n:=by rw[<-hY,h4,Jd]
  by_cases hlt:i < n
  .have hlz:(i:Int) < (n:Int):=by omega
   obtain ⟨x,X2,rfl⟩:∃x l,X2=x :: l:=by
    cases X2 with
    | nil=>simp at e1;omega
    | cons x l=>exact ⟨x,l,rfl⟩
   obtain ⟨y,Y2,rfl⟩:∃y l,Y2=y :: l:=by
    cases Y2 with
    | nil=>simp at e2;omega
    | cons y l=>exact ⟨y,l,rfl⟩
   simp only[aO] at e1 e2
   have HN:Hid (swp (A++(Y1++(x :: X2++(M++(X1++(y :: Y2++S)))))).toArray (a+i) (b+i)=(A++((Y1 ++ [y])++(X2++(M++((X1 ++ [x])++(Y2++S)))))).toArray):=by
    show _=_
    rw[show A++(Y1++(x :: X2++(M++(X1++(y :: Y2++S)))))=(A++Y1)++x :: ((X2++(M++X1))++y :: (Y2++S)) by simp,Kek (by simp only[Jd];omega) (by simp only[Jd];omega)];simp
   have aa:(A++(Y1++(x :: X2++(M++(X1++(y :: Y2++S)))))).toArray.size=N:=by simp only[aT,Jd,aO];omega
   obtain ⟨dk,ag⟩:=i7 ((A++(Y1++(x :: X2++(M++(X1++(y :: Y2++S)))))).toArray);rw[<-ag] at HN S1 aa;have ad:Hid ((X1 ++ [x]).length=i+1/\(Y1 ++ [y]).length=i+1/\X=(X1 ++ [x])++X2/\Y=(Y1 ++ [y])++Y2):=⟨by simp[h1],by simp[h2],by rw[h3];simp,by rw[h4];simp⟩;clear ag ac hl hX hY ha hb h1 h2 h3 h4 e1 e2;go_wp2_with fail
   have eat:((a:Int)+(i:Int)).toNat=a+i:=by omega
   have pat:(0:Int)<=(a:Int)+(i:Int):=by omega
   have bat:(a:Int)+(i:Int) < (N:Int):=by omega
   have rat:bz.wrap ((a:Int)+(i:Int))=(a:Int)+(i:Int):=by rw[bx];omega
   have ect:((b:Int)+(i:Int)).toNat=b+i:=by omega
   have pct:(0:Int)<=(b:Int)+(i:Int):=by omega
   have bct:(b:Int)+(i:Int) < (N:Int):=by omega
   have rct:bz.wrap ((b:Int)+(i:Int))=(b:Int)+(i:Int):=by rw[bx];omega
   have S2:Aside (SWK enc 3 w0 blk off (swp dk (a+i) (b+i)) ((wr.drew.setCells blk (off+(a+i)*3) (enc dk[b+i]!)).setCells blk (off+(b+i)*3) (enc dk[a+i]!))):=S1.out.swapped R (a+i) (b+i) (by omega) (by omega);have af:bC prog (loadCells ⟨blk,off+(a+i)*3,none⟩ 3) wr.drew = .ok (enc dk[a+i]!).toArray wr.drew:=S1.out.ld1 R (by omega) prog (a+i) (by omega);have ae:bC prog (loadCells ⟨blk,off+(b+i)*3,none⟩ 3) wr.drew = .ok (enc dk[b+i]!).toArray wr.drew:=S1.out.ld1 R (by omega) prog (b+i) (by omega);have ah:=S1.out.st1 R (by omega) prog (a+i) (by omega) dk[b+i]!;have ab:=S1.out.st2 R (by omega) prog (a+i) (b+i) (by omega) (by omega) dk[b+i]! dk[a+i]!;have aj:(enc dk[a+i]!).length=3:=R.hk _;have ai:(enc dk[b+i]!).length=3:=R.hk _;generalize enc dk[a+i]! = cIt at S2 af ab aj;generalize enc dk[b+i]! = cJt at S2 ae ah ab ai;clear S1 aa hN;go_wp2_with fail
   go_big_region_o
   clear af ae ah ab;generalize (wr.drew.setCells blk (off+(a+i)*3) cJt).setCells blk (off+(b+i)*3) cIt=w2 at S2 |-;rw[HN.out] at S2;go_wp2
   go_roundg (n - (i+1))
   case measure=>omega
   case rel=>exact ⟨i+1,X1 ++ [x],X2,Y1 ++ [y],Y2,by first | rfl | go_num,by omega,ad,S2⟩
  .have al:X2 = []:=aX (by omega);have ak:Y2 = []:=aX (by omega);subst al ak
   have S2:Aside (SWK enc 3 w0 blk off (A++(Y++(M++(X++S)))).toArray wr):=by rw[aY] at h3 h4;rw[h3,h4];exact S1.out
   clear S1 ac hl hX hY ha hb h1 h2 h3 h4 e1 e2 hN;go_wp2
   go_end0
   exact ⟨rfl,S2.out⟩
theorem Ktk (A X Y S:List α) (a m b:Nat) (w:World) (R:RowK enc 3 w0 blk off d0) (hN:d0.size=N) (hl:A.length+X.length+Y.length+S.length=N) (ha:a=A.length) (hm:m=A.length+X.length) (hb:b=A.length+X.length+Y.length) (hX:0 < X.length) (hY:0 < Y.length) (hsz:N < 4611686018427387904)
  (S0:SWK enc 3 w0 blk off (A++(X++(Y++S))).toArray w) :
  Calls prog 222 #[.slice (some ⟨blk,off,none⟩) N cap,.int .i64 a,.int .i64 m,.int .i64 b,.func (.func g) #[] cb] w fun e w'=>e = .returned (.tuple #[])/\SWK enc 3 w0 blk off (A++(Y++(X++S))).toArray w':=by
 have S1:Aside (SWK enc 3 w0 blk off (A++(X++(Y++S))).toArray w):=S0;obtain ⟨L,hL⟩:=i7 (A++(Y++(X++S)));rw[<-hL];have HL:Hid (A++(Y++(X++S))=L):=hL.symm;obtain ⟨i0,ah⟩:=i7 X.length;obtain ⟨j0,ai⟩:=i7 Y.length;have w1:wrap64 ((m:Int) - (a:Int))=(i0:Int):=by unfold wrap64;omega
 have w2:wrap64 ((b:Int) - (m:Int))=(j0:Int):=by unfold wrap64;omega
 have hmN:m<=N:=by omega
 have HQ:Hid (d0.size=N/\A.length+X.length+Y.length+S.length=N/\a=A.length/\m=A.length+X.length/\b=A.length+X.length+Y.length/\i0=X.length/\j0=Y.length):=⟨hN,hl,ha,hm,hb,ah,ai⟩;have pi0:0 < i0:=by omega
 have pj0:0 < j0:=by omega
 clear S0 hL hN hl ha hm hb ah ai hX hY;go_enter func222,ntmps222
 go_wp2
 go_loopg [10,11] (i0+j0) (fun kx s10 s11 wr=>∃(i j:Nat) (A' X' Y' S':List α),s10 = .int .i64 i/\s11 = .int .i64 j/\0 < i/\0 < j/\i+j<=kx/\i<=m/\m+j<=N/\Hid (X'.length=i/\Y'.length=j/\A'.length+i=m/\A'.length+X'.length+Y'.length+S'.length=N)/\Hid (A'++(Y'++(X'++S'))=L)/\Aside (SWK enc 3 w0 blk off (A'++(X'++(Y'++S'))).toArray wr))
 case atStart=>exact ⟨i0,j0,A,X,Y,S,by first | rfl | go_num | (congr 1;omega),by first | rfl | go_num | (congr 1;omega),by omega,by omega,aW _,by have:=HQ.out;omega,by have:=HQ.out;omega,by have q:=HQ.out;refine ⟨?_,?_,?_,?_⟩ <;> omega,HL,S1⟩
 case round=>
  clear S1 HL w1 w2;obtain ⟨i,j,A',X',Y',S',rfl,rfl,hi,hj,hk,him,hjm,HR,HL,S1⟩:=hrel;have hN:=HQ.out.1;obtain ⟨ab,aa,ag,ad⟩:=HR.out;rcases (by omega:i=j\/j < i\/i < j) with he | hgt | hlt
  .subst he;have HS:=Kex (cap:=cap) (g:=g) (cb:=cb) A' X' [] Y' S' (m - i) m i wr R hN (by simp only[aQ];omega) ab aa (by omega) (by simp only[aQ];omega) hsz S1.out;have HC:=HS;have d1:((i:Int) != (i:Int))=false:=by simp
   rw[show ((m - i:Nat):Int)=(m:Int) - (i:Int) by omega] at HC;have ac:Aside _:=HC;clear HS S1 HC hN ab aa ag ad HR;go_wp2_with fail
   refine bA ac.out ?_;rintro _ w3 ⟨rfl,h3⟩;have S2:Aside (SWK enc 3 w0 blk off L.toArray w3):=by rw[<-HL.out];exact h3
   clear h3;go_wp2_with fail
   go_end0
   exact ⟨rfl,S2.out⟩
  .obtain ⟨X1,X2,rfl,h1⟩:∃X1 X2,X'=X1++X2/\X1.length=j:=⟨X'.take j,X'.drop j,(aS _ _).symm,by rw[aZ];omega⟩;rw[Jd] at ab ad;have HS:=Kex (cap:=cap) (g:=g) (cb:=cb) A' X1 X2 Y' S' (m - i) m j wr R hN (by omega) h1 aa (by omega) (by omega) hsz (by have:=S1.out;rw[aP] at this;exact this);have HC:=HS;have d1:((i:Int) != (j:Int))=true:=by simp;omega
   have d2:decide ((j:Int) < (i:Int))=true:=by simp;omega
   rw[show ((m - i:Nat):Int)=(m:Int) - (i:Int) by omega] at HC;have af:Hid (X2.length=i - j/\X1.length=j/\(A'++Y').length+(i - j)=m/\(A'++Y').length+X2.length+X1.length+S'.length=N):=by simp only[Jd];refine ⟨?_,?_,?_,?_⟩ <;> omega
   have ac:Aside _:=HC;clear HS S1 HC hN ab aa ag ad HR h1;go_wp2_with fail
   refine bA ac.out ?_;rintro _ w3 ⟨rfl,h3⟩;have S2:Aside (SWK enc 3 w0 blk off ((A'++Y')++(X2++(X1++S'))).toArray w3):=by rw[aP];exact h3
   have ae:Hid ((A'++Y')++(X1++(X2++S'))=L):=by show _=_;rw[<-HL.out];simp
   clear h3 HL;go_wp2_with fail
   go_roundg (i - j+j)
   case measure=>omega
   case rel=>exact ⟨i - j,j,A'++Y',X2,X1,S',by first | rfl | go_num | (congr 1;omega),by first | rfl | go_num | (congr 1;omega),by omega,by omega,by omega,by omega,by omega,af,ae,S2⟩
  .obtain ⟨Y1,Y2,rfl,h1⟩:∃Y1 Y2,Y'=Y1++Y2/\Y2.length=i:=⟨Y'.take (j - i),Y'.drop (j - i),(aS _ _).symm,by rw[br];omega⟩;rw[Jd] at aa ad;have HS:=Kex (cap:=cap) (g:=g) (cb:=cb) A' X' Y1 Y2 S' (m - i) (m+j - i) i wr R hN (by omega) ab h1 (by omega) (by omega) hsz (by have:=S1.out;rw[aP] at this;exact this);have HC:=HS;have d1:((i:Int) != (j:Int))=true:=by simp;omega
   have d2:decide ((j:Int) < (i:Int))=false:=by simp;omega
   rw[show ((m - i:Nat):Int)=(m:Int) - (i:Int) by omega] at HC;rw[show ((m+j - i:Nat):Int)=(m:Int)+(j:Int) - (i:Int) by omega] at HC;have af:Hid (Y2.length=i/\Y1.length=j - i/\A'.length+i=m/\A'.length+Y2.length+Y1.length+(X'++S').length=N):=by simp only[Jd];refine ⟨?_,?_,?_,?_⟩ <;> omega
   have ac:Aside _:=HC;clear HS S1 HC hN ab aa ag ad HR h1;go_wp2_with fail
   refine bA ac.out ?_;rintro _ w4 ⟨rfl,h3⟩;have S2:Aside (SWK enc 3 w0 blk off (A'++(Y2++(Y1++(X'++S')))).toArray w4):=h3;have ae:Hid (A'++(Y1++(Y2++(X'++S')))=L):=by show _=_;rw[<-HL.out];simp
   clear h3 HL;go_wp2_with fail
   go_roundg (i+(j - i))
   case measure=>omega
   case rel=>exact ⟨i,j - i,A',Y2,Y1,X'++S',by first | rfl | go_num | (congr 1;omega),by first | rfl | go_num | (congr 1;omega),by omega,by omega,by omega,by omega,by omega,af,ae,S2⟩
theorem Ktw (SW:SWO (ltOf cf)) (eg:∀args w,(callFunc g args).run prog w = .ok (.enter g args) w) (hcmp:CmpLays prog g cb enc 3 cf blk off d0.size w0) (R:RowK enc 3 w0 blk off d0) (hN:d0.size=N) (hsz:N < 4611686018427387904) (A:List α) (x:α) (Y S:List α) (a m b:Nat) (w:World) (hl:A.length+1+Y.length+S.length=N) (ha:a=A.length) (hm:m=a+1) (hb:b=m+Y.length) (hY0:0 < Y.length) (hY:(Y.Pairwise fun a b=>ltOf cf b a=false))
  (S0:SWK enc 3 w0 blk off (A++([x]++(Y++S))).toArray w) :
  Calls prog 178 #[.slice (some ⟨blk,off,none⟩) N cap,.int .i64 a,.int .i64 m,.int .i64 b,.func (.func g) #[] cb] w fun e w'=>e = .returned (.tuple #[])/\SWK enc 3 w0 blk off (A++(mrg (ltOf cf) [x] Y++S)).toArray w':=by
 have mixed:prog.follows .mixedOrders=true:=by kernel_rfl
 have HC:Aside _:=hcmp;have hma:(m:Int) - (a:Int)=1:=by omega
 have hmb:m < b:=by omega
 have hbN:b<=N:=by omega
 have ham:a < m:=by omega
 obtain ⟨dk,ab⟩:=i7 ((A++([x]++(Y++S))).toArray);have aa:dk.size=N:=by rw[ab];simp only[aT,Jd,aO,aQ];omega
 have DA:Hid (dk[a]! = x):=by
  show _=_
  rw[ab,Kdr (A:=A) (X:=[x]) (T:=Y++S) (i:=0) (by simp) (by omega)];rfl
 have DY:Hid (∀t,m<=t->t < b->dk[t]! = Y[t - m]!):=by intro t h1 h2;rw[ab,Kdu (A:=A) (X:=[x]) (Y:=Y) (T:=S) (i:=t - m) (by omega) (by simp only[aO,aQ];omega)]
 have HQ:Hid (dk=(A++([x]++(Y++S))).toArray/\d0.size=N/\A.length+1+Y.length+S.length=N/\a=A.length/\m=a+1/\b=m+Y.length/\(Y.Pairwise fun a b=>ltOf cf b a=false)):=⟨ab,hN,hl,ha,hm,hb,hY⟩;have aj:Hid (d0.size=N):=hN;rw[<-ab] at S0;have S1:Aside (SWK enc 3 w0 blk off dk w):=S0;clear S0 ab hl ha hm hb hY hcmp hN;have ax:Hid (dk.size=N):=aa;clear aa;go_enter func178,ntmps178
 go_wp2
 go_loopg [10,11] (b - m) (fun kx s10 s11 wr=>∃(i j:Nat),s10 = .int .i64 i/\s11 = .int .i64 j/\m<=i/\i<=j/\j<=b/\j - i<=kx/\Hid ((i=m\/ltOf cf Y[i - m - 1]! x=true)/\(j=b\/ltOf cf Y[j - m]! x=false))/\Aside (SWK enc 3 w0 blk off dk wr))
 case atStart=>exact ⟨m,b,rfl,rfl,by omega,by omega,by omega,by omega,⟨.inl rfl,.inl rfl⟩,S1⟩
 case round=>
  clear S1;obtain ⟨i,j,rfl,rfl,aB,aC,aw,hk,HB,S1⟩:=hrel;rcases aV i j with hlt | hge
  .have hlz:(i:Int) < (j:Int):=by omega
   obtain ⟨h,hh⟩:=i7 ((i+j) / 2);have hm2:(((i:Int)+(j:Int)) / 2)=(h:Int):=by omega
   have hih:i<=h:=by omega
   have hjh:h < j:=by omega
   clear hh;obtain ⟨y,hy⟩:=i7 (Y[h - m]!);have ai:dk[a]! = x:=DA.out;have aq:dk[h]! = y:=by rw[hy];exact DY.out h (by omega) (by omega)
   have aa:=ax.out;have hN:=aj.out;obtain ⟨L,hL⟩:=iZ (ltOf cf y x);have HL:=bk hL;have HY:=bk hy;clear hy;obtain ⟨eac,pac,bac,rac⟩:=ixf (i:=h) (N:=N) (by omega) (by omega);obtain ⟨ecc,pcc,bcc,rcc⟩:=ixf (i:=a) (N:=N) (by omega) (by omega);have am:∀n os,bC prog (loadCells ⟨blk,off+(h)*3,none⟩ 3) (grow (wr.drewN n) os) = .ok (enc dk[h]!).toArray (grow (wr.drewN n) os):=S1.out.ld R (by omega) prog (h) (by omega);have al:∀n os,bC prog (loadCells ⟨blk,off+(a)*3,none⟩ 3) (grow (wr.drewN n) os) = .ok (enc dk[a]!).toArray (grow (wr.drewN n) os):=S1.out.ld R (by omega) prog (a) (by omega);rw[aq] at am;rw[ai] at al;have ap:=S1.out.cmp HC.out (by omega) y x;have hdc:decide (cf y x < 0)=L:=hL;go_wp2_with fail
   go_quiet_grown (first | (go_at_fn g;refine bB (ap _ _)))
   have S2:Aside (SWK enc 3 w0 blk off dk (grow (wr.drewN nq) osq)):=S1.out.grown nq osq;clear aa hN ai aq hL am al ap S1;generalize grow (wr.drewN nq) osq=w2 at S2 |-;clear nq osq
   cases L with
   | true=>
    have ac:Hid ((h+1=m\/ltOf cf Y[h+1 - m - 1]! x=true)/\(j=b\/ltOf cf Y[j - m]! x=false)):=⟨.inr (by rw[show h+1 - m - 1=h - m by omega,<-HY.out];exact HL.out),HB.out.2⟩;clear HB HY HL;go_wp2_with fail
    go_roundg (j - (h+1))
    case measure=>omega
    case rel=>exact ⟨h+1,j,by first | rfl | go_num,rfl,by omega,by omega,aw,by omega,ac,S2⟩
   | false=>
    have ac:Hid ((i=m\/ltOf cf Y[i - m - 1]! x=true)/\(h=b\/ltOf cf Y[h - m]! x=false)):=⟨HB.out.1,.inr (by rw[<-HY.out];exact HL.out)⟩;clear HB HY HL;go_wp2_with fail
    go_roundg (h - i)
    case measure=>omega
    case rel=>exact ⟨i,h,rfl,rfl,aB,by omega,by omega,by omega,ac,S2⟩
  .have he:j=i:=by omega
   subst he;have aD:¬(j:Int) < (j:Int):=by omega
   obtain ⟨p,hp⟩:=i7 (j - m)
   have HE:Hid (mrg (ltOf cf) [x] Y=Y.take p++x :: Y.drop p):=by obtain ⟨q1,q2,q3,q4,q5,q6,q7⟩:=HQ.out;refine Khj SW q7 p (by omega) (HB.out.2.imp (fun h=>by omega) fun h=>by rw[hp];exact h) (HB.out.1.imp (fun h=>by omega) fun h=>by rw[hp];exact h)
   have HP:Hid (j=a+1+p/\p<=Y.length):=by obtain ⟨q1,q2,q3,q4,q5,q6,q7⟩:=HQ.out;exact ⟨by omega,by omega⟩
   have S2:Aside (SWK enc 3 w0 blk off (A++([]++x :: (Y.take p++(Y.drop p++S)))).toArray wr):=by have e:=S1.out;rw[HQ.out.1] at e;rw[<-aP (Y.take p),aS];exact e
   clear hp HB S1 aC;go_wp2_with fail
   go_loopg [13] p (fun kx s13 wr=>∃(k:Nat) (U V:List α),s13 = .int .i64 k/\a<=k/\k+1<=j/\Hid (V.length<=kx/\U.length+a=k/\k+V.length+1=j/\Y.take p=U++V)/\Aside (SWK enc 3 w0 blk off (A++(U++x :: (V++(Y.drop p++S)))).toArray wr))
   case atStart=>
    have hl:(Y.take p).length=p:=by rw[aZ];have:=HP.out.2;omega
    have q:=HP.out.1;exact ⟨a,[],Y.take p,rfl,aW _,by omega,⟨by omega,by simp,by omega,rfl⟩,S2⟩
   case round=>
    clear S2;obtain ⟨k,U,V,rfl,hak,hkj,HU,S1⟩:=hrel
    cases V with
    | nil=>
     have aA:¬(k:Int) < (j:Int) - 1:=by have:=HU.out.2.2.1;simp only[aQ] at this;omega
     have e2:SWK enc 3 w0 blk off (A++(mrg (ltOf cf) [x] Y++S)).toArray wr:=by have e:=S1.out;have q:=HU.out.2.2.2;rw[aY] at q;rw[HE.out,q];simpa using e
     have S2:Aside (SWK enc 3 w0 blk off (A++(mrg (ltOf cf) [x] Y++S)).toArray wr):=e2;clear e2;clear S1;go_wp2_with fail
     (try simp only[Exit.inBlock,Exit.then]);refine bodyPost_ret (results_none rfl _ _ _) rfl ?_
     exact ⟨rfl,S2.out⟩
    | cons v V=>
     obtain ⟨ao,av,af,ae⟩:=HU.out;simp only[aO] at ao af;have aA:(k:Int) < (j:Int) - 1:=by omega
     obtain ⟨q1,q2,q3,q4,q5,q6,q7⟩:=HQ.out
     have HN:Hid (swp (A++(U++x :: (v :: V++(Y.drop p++S)))).toArray (k) (k+1)=(A++((U ++ [v])++x :: (V++(Y.drop p++S)))).toArray):=by
      show _=_
      rw[show A++(U++x :: (v :: V++(Y.drop p++S)))=(A++U)++x :: ([]++v :: (V++(Y.drop p++S))) by simp,Kek (by simp only[Jd];omega) (by simp only[Jd,aQ];omega)];simp
     have ar:Hid (V.length<=gk - 1/\(U ++ [v]).length+a=k+1/\k+1+V.length+1=j/\Y.take p=(U ++ [v])++V):=⟨by omega,by simp only[Jd,aO,aQ];omega,by omega,by rw[ae];simp⟩;have hgk:0 < gk:=by omega
     have aa:(A++(U++x :: (v :: V++(Y.drop p++S)))).toArray.size=N:=by
      have hl:(Y.take p).length=U.length+(V.length+1):=by rw[ae];simp
      have hl2:(Y.take p).length+(Y.drop p).length=Y.length:=by rw[<-Jd,aS]
      simp only[aT,Jd,aO];omega
     have hN:=aj.out;obtain ⟨dm,an⟩:=i7 ((A++(U++x :: (v :: V++(Y.drop p++S)))).toArray);rw[<-an] at HN S1 aa;clear an HU ao av af ae q1 q2 q3 q4 q5 q6 q7;go_wp2_with fail
     have eat:((k:Int)).toNat=k:=by omega
     have pat:(0:Int)<=(k:Int):=by omega
     have bat:(k:Int) < (N:Int):=by omega
     have rat:bz.wrap ((k:Int))=(k:Int):=by rw[bx];omega
     have ect:((k:Int)+1).toNat=k+1:=by omega
     have pct:(0:Int)<=(k:Int)+1:=by omega
     have bct:(k:Int)+1 < (N:Int):=by omega
     have rct:bz.wrap ((k:Int)+1)=(k:Int)+1:=by rw[bx];omega
     have S2:Aside (SWK enc 3 w0 blk off (swp dm (k) (k+1)) ((wr.drew.setCells blk (off+(k)*3) (enc dm[k+1]!)).setCells blk (off+(k+1)*3) (enc dm[k]!))):=S1.out.swapped R (k) (k+1) (by omega) (by omega);have ah:bC prog (loadCells ⟨blk,off+(k)*3,none⟩ 3) wr.drew = .ok (enc dm[k]!).toArray wr.drew:=S1.out.ld1 R (by omega) prog (k) (by omega);have ag:bC prog (loadCells ⟨blk,off+(k+1)*3,none⟩ 3) wr.drew = .ok (enc dm[k+1]!).toArray wr.drew:=S1.out.ld1 R (by omega) prog (k+1) (by omega);have ak:=S1.out.st1 R (by omega) prog (k) (by omega) dm[k+1]!;have ad:=S1.out.st2 R (by omega) prog (k) (k+1) (by omega) (by omega) dm[k+1]! dm[k]!;have az:(enc dm[k]!).length=3:=R.hk _;have ay:(enc dm[k+1]!).length=3:=R.hk _;generalize enc dm[k]! = cIt at S2 ah ad az;generalize enc dm[k+1]! = cJt at S2 ag ak ad ay;clear S1 aa hN;go_wp2_with fail
     go_big_region_o
     clear ah ag ak ad;generalize (wr.drew.setCells blk (off+(k)*3) cJt).setCells blk (off+(k+1)*3) cIt=w2 at S2 |-;rw[HN.out] at S2;go_wp2
     go_roundg (gk - 1)
     case measure=>omega
     case rel=>exact ⟨k+1,U ++ [v],V,by first | rfl | go_num,by omega,by omega,ar,S2⟩
theorem Kqu (SW:SWO (ltOf cf)) (eg:∀args w,(callFunc g args).run prog w = .ok (.enter g args) w) (hcmp:CmpLays prog g cb enc 3 cf blk off d0.size w0) (R:RowK enc 3 w0 blk off d0) (hN:d0.size=N) (hsz:N < 4611686018427387904) (A:List α) (y:α) (X S:List α) (a m b:Nat) (w:World) (hl:A.length+X.length+1+S.length=N) (ha:a=A.length) (hm:m=a+X.length) (hb:b=m+1) (hX0:1 < X.length) (hX:(X.Pairwise fun a b=>ltOf cf b a=false))
  (S0:SWK enc 3 w0 blk off (A++(X++([y]++S))).toArray w) :
  Calls prog 178 #[.slice (some ⟨blk,off,none⟩) N cap,.int .i64 a,.int .i64 m,.int .i64 b,.func (.func g) #[] cb] w fun e w'=>e = .returned (.tuple #[])/\SWK enc 3 w0 blk off (A++(mrg (ltOf cf) X [y]++S)).toArray w':=by
 have mixed:prog.follows .mixedOrders=true:=by kernel_rfl
 have HC:Aside _:=hcmp;have hmb:(b:Int) - (m:Int)=1:=by omega
 have dma:(((m:Int) - (a:Int)) == 1)=false:=by simp;omega
 have hbN:b<=N:=by omega
 have ham:a < m:=by omega
 have az:m < b:=by omega
 obtain ⟨dk,ab⟩:=i7 ((A++(X++([y]++S))).toArray);have aa:dk.size=N:=by rw[ab];simp only[aT,Jd,aO,aQ];omega
 have DA:Hid (dk[m]! = y):=by
  show _=_
  rw[ab,Kdu (A:=A) (X:=X) (Y:=[y]) (T:=S) (i:=0) (by simp) (by omega)];rfl
 have DX:Hid (∀t,a<=t->t < m->dk[t]! = X[t - a]!):=by intro t h1 h2;rw[ab,Kdr (A:=A) (X:=X) (T:=[y]++S) (i:=t - a) (by omega) (by omega)]
 have HQ:Hid (dk=(A++(X++([y]++S))).toArray/\d0.size=N/\A.length+X.length+1+S.length=N/\a=A.length/\m=a+X.length/\b=m+1/\(X.Pairwise fun a b=>ltOf cf b a=false)):=⟨ab,hN,hl,ha,hm,hb,hX⟩;have aj:Hid (d0.size=N):=hN;rw[<-ab] at S0;have S1:Aside (SWK enc 3 w0 blk off dk w):=S0;have aw:Hid (dk.size=N):=aa;clear S0 ab hl ha hm hb hX hcmp hN aa;go_enter func178,ntmps178
 go_wp2
 go_loopg [14,15] (m - a) (fun kx s10 s11 wr=>∃(i j:Nat),s10 = .int .i64 i/\s11 = .int .i64 j/\a<=i/\i<=j/\j<=m/\j - i<=kx/\Hid ((i=a\/ltOf cf y X[i - a - 1]! = false)/\(j=m\/ltOf cf y X[j - a]! = true))/\Aside (SWK enc 3 w0 blk off dk wr))
 case atStart=>exact ⟨a,m,rfl,rfl,by omega,by omega,by omega,by omega,⟨.inl rfl,.inl rfl⟩,S1⟩
 case round=>
  clear S1;obtain ⟨i,j,rfl,rfl,aB,aC,av,hk,HB,S1⟩:=hrel;rcases aV i j with hlt | hge
  .have hlz:(i:Int) < (j:Int):=by omega
   obtain ⟨h,hh⟩:=i7 ((i+j) / 2);have hm2:(((i:Int)+(j:Int)) / 2)=(h:Int):=by omega
   have hih:i<=h:=by omega
   have hjh:h < j:=by omega
   clear hh;obtain ⟨x,hx⟩:=i7 (X[h - a]!);have aq:dk[m]! = y:=DA.out;have ai:dk[h]! = x:=by rw[hx];exact DX.out h (by omega) (by omega)
   have aa:=aw.out;have hN:=aj.out;obtain ⟨L,hL⟩:=iZ (ltOf cf y x);have HL:=bk hL;have HX:=bk hx;clear hx;obtain ⟨eac,pac,bac,rac⟩:=ixf (i:=m) (N:=N) (by omega) (by omega);obtain ⟨ecc,pcc,bcc,rcc⟩:=ixf (i:=h) (N:=N) (by omega) (by omega);have am:∀n os,bC prog (loadCells ⟨blk,off+(m)*3,none⟩ 3) (grow (wr.drewN n) os) = .ok (enc dk[m]!).toArray (grow (wr.drewN n) os):=S1.out.ld R (by omega) prog (m) (by omega);have al:∀n os,bC prog (loadCells ⟨blk,off+(h)*3,none⟩ 3) (grow (wr.drewN n) os) = .ok (enc dk[h]!).toArray (grow (wr.drewN n) os):=S1.out.ld R (by omega) prog (h) (by omega);rw[aq] at am;rw[ai] at al;have ap:=S1.out.cmp HC.out (by omega) y x;have hdc:decide (cf y x < 0)=L:=hL;go_wp2_with fail
   go_quiet_grown (first | (go_at_fn g;refine bB (ap _ _)))
   have S2:Aside (SWK enc 3 w0 blk off dk (grow (wr.drewN nq) osq)):=S1.out.grown nq osq;clear aa hN ai aq hL am al ap S1;generalize grow (wr.drewN nq) osq=w2 at S2 |-;clear nq osq
   cases L with
   | false=>
    have ad:Hid ((h+1=a\/ltOf cf y X[h+1 - a - 1]! = false)/\(j=m\/ltOf cf y X[j - a]! = true)):=⟨.inr (by rw[show h+1 - a - 1=h - a by omega,<-HX.out];exact HL.out),HB.out.2⟩;clear HB HX HL;go_wp2_with fail
    go_roundg (j - (h+1))
    case measure=>omega
    case rel=>exact ⟨h+1,j,by first | rfl | go_num,rfl,by omega,by omega,av,by omega,ad,S2⟩
   | true=>
    have ad:Hid ((i=a\/ltOf cf y X[i - a - 1]! = false)/\(h=m\/ltOf cf y X[h - a]! = true)):=⟨HB.out.1,.inr (by rw[<-HX.out];exact HL.out)⟩;clear HB HX HL;go_wp2_with fail
    go_roundg (h - i)
    case measure=>omega
    case rel=>exact ⟨i,h,rfl,rfl,aB,by omega,by omega,by omega,ad,S2⟩
  .have he:j=i:=by omega
   subst he;have aE:¬(j:Int) < (j:Int):=by omega
   obtain ⟨p,hp⟩:=i7 (j - a)
   have HE:Hid (mrg (ltOf cf) X [y]=X.take p++y :: X.drop p):=by obtain ⟨q1,q2,q3,q4,q5,q6,q7⟩:=HQ.out;refine Kgi SW q7 p (by omega) (HB.out.1.imp (fun h=>by omega) fun h=>by rw[hp];exact h) (HB.out.2.imp (fun h=>by omega) fun h=>by rw[hp];exact h)
   have HP:Hid (j=a+p/\p<=X.length):=by obtain ⟨q1,q2,q3,q4,q5,q6,q7⟩:=HQ.out;exact ⟨by omega,by omega⟩
   have S2:Aside (SWK enc 3 w0 blk off (A++(X.take p++(X.drop p++y :: ([]++S)))).toArray wr):=by have e:=S1.out;rw[HQ.out.1] at e;rw[<-aP (X.take p),aS];exact e
   clear hp HB S1 aC;go_wp2_with fail
   go_loopg [17] (X.length - p) (fun kx s13 wr=>∃(k:Nat) (U V:List α),s13 = .int .i64 k/\j<=k/\k<=m/\Hid (U.length<=kx/\j+U.length=k/\X.drop p=U++V)/\Aside (SWK enc 3 w0 blk off (A++(X.take p++(U++y :: (V++S)))).toArray wr))
   case atStart=>
    have hl:(X.drop p).length=X.length - p:=by rw[br]
    have q:=HP.out;have q2:=HQ.out.2.2.2.2.1;exact ⟨m,X.drop p,[],rfl,by omega,aW _,⟨by omega,by omega,by simp⟩,S2⟩
   case round=>
    clear S2;obtain ⟨k,U,V,rfl,hak,hkj,HU,S1⟩:=hrel;rcases List.eq_nil_or_concat U with rfl | ⟨U',u,rfl⟩
    .have aA:¬(j:Int) < (k:Int):=by have:=HU.out.2.1;simp only[aQ] at this;omega
     have e2:SWK enc 3 w0 blk off (A++(mrg (ltOf cf) X [y]++S)).toArray wr:=by have e:=S1.out;have q:=HU.out.2.2;rw[List.nil_append] at q;rw[HE.out,q];simpa using e
     have S2:Aside (SWK enc 3 w0 blk off (A++(mrg (ltOf cf) X [y]++S)).toArray wr):=e2;clear S1 e2;go_wp2_with fail
     (try simp only[Exit.inBlock,Exit.then]);refine bodyPost_ret (results_none rfl _ _ _) rfl ?_
     exact ⟨rfl,S2.out⟩
    .obtain ⟨ao,ah,ac⟩:=HU.out;simp only[bg,Jd,aO,aQ] at ao ah;obtain ⟨kp,rfl⟩:∃kp,k=kp+1:=⟨k - 1,by omega⟩;have aA:(j:Int) < (kp:Int)+1:=by omega
     have hjk:j<=kp:=by omega
     obtain ⟨q1,q2,q3,q4,q5,q6,q7⟩:=HQ.out;obtain ⟨p1,p2⟩:=HP.out;have aD:(X.take p).length=p:=by rw[aZ];omega
     have HN:Hid (swp (A++(X.take p++(U'.concat u++y :: (V++S)))).toArray (kp+1) (kp)=(A++(X.take p++(U'++y :: (u :: V++S)))).toArray):=by
      show _=_
      rw[show A++(X.take p++(U'.concat u++y :: (V++S)))=(A++(X.take p++U'))++u :: ([]++y :: (V++S)) by simp,Kgu (i:=kp) (by simp only[Jd];omega) (by simp only[Jd,aQ];omega)];simp
     have ar:Hid (U'.length<=gk - 1/\j+U'.length=kp/\X.drop p=U'++(u :: V)):=⟨by omega,by omega,by rw[ac];simp⟩;have hgk:0 < gk:=by omega
     have aa:(A++(X.take p++(U'.concat u++y :: (V++S)))).toArray.size=N:=by
      have hl:(X.drop p).length=U'.length+1+V.length:=by rw[ac];simp;omega
      have hl2:(X.take p).length+(X.drop p).length=X.length:=by rw[<-Jd,aS]
      simp only[bg,aT,Jd,aO,aQ];omega
     have hN:=aj.out;obtain ⟨dm,an⟩:=i7 ((A++(X.take p++(U'.concat u++y :: (V++S)))).toArray);rw[<-an] at HN S1 aa;clear an HU ao ah ac q1 q2 q3 q4 q5 q6 q7 p1 p2 aD;go_wp2_with fail
     have eat:((kp:Int)+1).toNat=kp+1:=by omega
     have pat:(0:Int)<=(kp:Int)+1:=by omega
     have bat:(kp:Int)+1 < (N:Int):=by omega
     have rat:bz.wrap ((kp:Int)+1)=(kp:Int)+1:=by rw[bx];omega
     have ect:((kp:Int)).toNat=kp:=by omega
     have pct:(0:Int)<=(kp:Int):=by omega
     have bct:(kp:Int) < (N:Int):=by omega
     have rct:bz.wrap ((kp:Int))=(kp:Int):=by rw[bx];omega
     have S2:Aside (SWK enc 3 w0 blk off (swp dm (kp+1) (kp)) ((wr.drew.setCells blk (off+(kp+1)*3) (enc dm[kp]!)).setCells blk (off+(kp)*3) (enc dm[kp+1]!))):=S1.out.swapped R (kp+1) (kp) (by omega) (by omega);have ag:bC prog (loadCells ⟨blk,off+(kp+1)*3,none⟩ 3) wr.drew = .ok (enc dm[kp+1]!).toArray wr.drew:=S1.out.ld1 R (by omega) prog (kp+1) (by omega);have af:bC prog (loadCells ⟨blk,off+(kp)*3,none⟩ 3) wr.drew = .ok (enc dm[kp]!).toArray wr.drew:=S1.out.ld1 R (by omega) prog (kp) (by omega);have ak:=S1.out.st1 R (by omega) prog (kp+1) (by omega) dm[kp]!;have ae:=S1.out.st2 R (by omega) prog (kp+1) (kp) (by omega) (by omega) dm[kp]! dm[kp+1]!;have ay:(enc dm[kp+1]!).length=3:=R.hk _;have ax:(enc dm[kp]!).length=3:=R.hk _;generalize enc dm[kp+1]! = cIt at S2 ag ae ay;generalize enc dm[kp]! = cJt at S2 af ak ae ax;clear S1 aa hN;go_wp2_with fail
     go_big_region_o
     clear ag af ak ae;generalize (wr.drew.setCells blk (off+(kp+1)*3) cJt).setCells blk (off+(kp)*3) cIt=w2 at S2 |-;rw[HN.out] at S2;go_wp2
     go_roundg (gk - 1)
     case measure=>omega
     case rel=>exact ⟨kp,U',u :: V,by first | rfl | go_num,by omega,by omega,ar,S2⟩
theorem Kqx (SW:SWO (ltOf cf)) (eg:∀args w,(callFunc g args).run prog w = .ok (.enter g args) w) (hcmp:CmpLays prog g cb enc 3 cf blk off d0.size w0) (R:RowK enc 3 w0 blk off d0) (hN:d0.size=N) (hsz:N < 4611686018427387904) (nn:Nat) (IH:∀(A X Y S:List α) (a m b:Nat) (w:World),X.length+Y.length<=nn->A.length+X.length+Y.length+S.length=N->a=A.length->m=a+X.length->b=m+Y.length->0 < X.length->0 < Y.length->(X.Pairwise fun a b=>ltOf cf b a=false)->(Y.Pairwise fun a b=>ltOf cf b a=false)->SWK enc 3 w0 blk off (A++(X++(Y++S))).toArray w->Calls prog 178 #[.slice (some ⟨blk,off,none⟩) N cap,.int .i64 a,.int .i64 m,.int .i64 b,.func (.func g) #[] cb] w fun e w'=>e = .returned (.tuple #[])/\SWK enc 3 w0 blk off (A++(mrg (ltOf cf) X Y++S)).toArray w')
  (A X Y S:List α) (a m b:Nat) (w:World) (hnn:X.length+Y.length<=nn+1) (hl:A.length+X.length+Y.length+S.length=N) (ha:a=A.length) (hm:m=a+X.length) (hb:b=m+Y.length) (X2:1 < X.length) (Y2:1 < Y.length) (hX:(X.Pairwise fun a b=>ltOf cf b a=false)) (hY:(Y.Pairwise fun a b=>ltOf cf b a=false))
  (S0:SWK enc 3 w0 blk off (A++(X++(Y++S))).toArray w) :
  Calls prog 178 #[.slice (some ⟨blk,off,none⟩) N cap,.int .i64 a,.int .i64 m,.int .i64 b,.func (.func g) #[] cb] w fun e w'=>e = .returned (.tuple #[])/\SWK enc 3 w0 blk off (A++(mrg (ltOf cf) X Y++S)).toArray w':=by
 have mixed:prog.follows .mixedOrders=true:=by kernel_rfl
 have HC:Aside _:=hcmp;have ar:Aside _:=IH;have dma:(((m:Int) - (a:Int)) == 1)=false:=by simp;omega
 have dbm:(((b:Int) - (m:Int)) == 1)=false:=by simp;omega
 have hbN:b<=N:=by omega
 have ham:a+2<=m:=by omega
 have hmb:m+2<=b:=by omega
 obtain ⟨mid,av⟩:=i7 ((a+b) / 2);have aE:((a:Int)+(b:Int)) / 2=(mid:Int):=by omega
 have aj:2*mid<=a+b:=by omega
 have ak:a+b<=2*mid+1:=by omega
 obtain ⟨dk,al⟩:=i7 ((A++(X++(Y++S))).toArray);have ac:dk.size=N:=by rw[al];simp only[aT,Jd];omega
 have ao:Hid (d0.size=N):=hN;rw[<-al] at S0;have S1:Aside (SWK enc 3 w0 blk off dk w):=S0;have aA:Hid (dk.size=N):=ac
 have ag:∃lo hi:Nat,lo<=hi/\a<=lo/\hi<=m/\hi<=mid/\mid+m<=lo+b/\((mid < m/\lo+b=mid+m/\hi=mid)\/(m<=mid/\lo=a/\hi=m)):=by
  rcases aV mid m with h | h
  .exact ⟨mid+m - b,mid,by omega,by omega,by omega,by omega,by omega,.inl ⟨h,by omega,rfl⟩⟩
  .exact ⟨a,m,by omega,by omega,by omega,by omega,by omega,.inr ⟨h,rfl,rfl⟩⟩
 obtain ⟨lo,hi,ax,aC,aD,ae,ah,ab⟩:=ag;have af:Hid ((mid < m/\lo+b=mid+m/\hi=mid)\/(m<=mid/\lo=a/\hi=m)):=ab;have ad:Hid _:=fun (e j:Nat)=>@Klt _ _ (ltOf cf) A X Y S dk a m b mid lo hi e j nn N SW al hl ha hm hb hX hY hnn X2 Y2 aj ak ab
 clear S0 al hl ha hm hb hX hY hnn hcmp hN ac av IH X2 Y2 ab;go_enter func178,ntmps178
 go_upto_if 140 with fail
 go_cut [20,21] from 138 to 146 (fun s20 s21 wz=>∃l h:Int,s20 = .int .i64 l/\s21 = .int .i64 h/\l=(lo:Int)/\h=(hi:Int)/\wz=w)
 case first=>
  rcases af.out with ⟨hc1,hc2,hc3⟩ | ⟨hc1,hc2,hc3⟩
  .have aI:(mid:Int) < (m:Int):=by omega
   have ai:Hid (lo+b=mid+m/\hi=mid):=⟨hc2,hc3⟩;clear hc2 hc3;go_wp2_with fail
   go_meet
   exact ⟨_,_,rfl,rfl,by have:=ai.out;omega,by have:=ai.out;omega,rfl⟩
  .have aI:¬(mid:Int) < (m:Int):=by omega
   have ai:Hid (lo=a/\hi=m):=⟨hc2,hc3⟩;clear hc2 hc3;go_wp2_with fail
   go_meet
   exact ⟨_,_,rfl,rfl,by have:=ai.out;omega,by have:=ai.out;omega,rfl⟩
 case rest=>
  obtain ⟨l0,h0,rfl,rfl,aK,aG,aa⟩:=hcut;have aa:=aa.symm;subst aa;subst aK;subst aG;go_wp2_with fail
  go_loopg [20,21] (hi - lo) (fun kx s10 s11 wr=>∃(i j:Nat),s10 = .int .i64 i/\s11 = .int .i64 j/\lo<=i/\i<=j/\j<=hi/\j - i<=kx/\Hid ((i=lo\/ltOf cf dk[mid+m - i]! dk[i - 1]! = false)/\(j=hi\/ltOf cf dk[mid+m - 1 - j]! dk[j]! = true))/\Aside (SWK enc 3 w0 blk off dk wr))
  case atStart=>exact ⟨lo,hi,rfl,rfl,aW _,ax,aW _,aW _,⟨.inl rfl,.inl rfl⟩,S1⟩
  case round=>
   clear S1;obtain ⟨i,j,rfl,rfl,aq,aL,ap,hk,HB,S1⟩:=hrel;rcases aV i j with hlt | hge
   .have hlz:(i:Int) < (j:Int):=by omega
    obtain ⟨h,hh⟩:=i7 ((i+j) / 2);have hm2:(((i:Int)+(j:Int)) / 2)=(h:Int):=by omega
    have hih:i<=h:=by omega
    have hjh:h < j:=by omega
    clear hh;obtain ⟨q,hq⟩:=i7 (mid+m - 1 - h);have aH:(mid:Int)+(m:Int) - 1 - (h:Int)=(q:Int):=by omega
    have aN:q < N:=by omega
    have aF:h < N:=by omega
    obtain ⟨y,hy⟩:=i7 (dk[q]!);obtain ⟨x,hx⟩:=i7 (dk[h]!);have aw:dk[q]! = y:=hy.symm;have an:dk[h]! = x:=hx.symm;have ac:=aA.out;have hN:=ao.out;obtain ⟨L,hL⟩:=iZ (ltOf cf y x);have HL:Hid (ltOf cf y x=L/\q=mid+m - 1 - h/\dk[q]! = y/\dk[h]! = x):=⟨hL,hq,aw,an⟩;clear hy hx hq;obtain ⟨eac,pac,bac,rac⟩:=ixf (i:=q) (N:=N) (by omega) (by omega);obtain ⟨ecc,pcc,bcc,rcc⟩:=ixf (i:=h) (N:=N) (by omega) (by omega);have az:∀n os,bC prog (loadCells ⟨blk,off+(q)*3,none⟩ 3) (grow (wr.drewN n) os) = .ok (enc dk[q]!).toArray (grow (wr.drewN n) os):=S1.out.ld R (by omega) prog (q) (by omega);have ay:∀n os,bC prog (loadCells ⟨blk,off+(h)*3,none⟩ 3) (grow (wr.drewN n) os) = .ok (enc dk[h]!).toArray (grow (wr.drewN n) os):=S1.out.ld R (by omega) prog (h) (by omega);rw[aw] at az;rw[an] at ay;have aB:=S1.out.cmp HC.out (by omega) y x;have hdc:decide (cf y x < 0)=L:=hL;go_wp2_with fail
    go_quiet_grown (first | (go_at_fn g;refine bB (aB _ _)))
    have S2:Aside (SWK enc 3 w0 blk off dk (grow (wr.drewN nq) osq)):=S1.out.grown nq osq;clear ac hN an aw hL aN aF aH az ay aB S1;generalize grow (wr.drewN nq) osq=w2 at S2 |-;clear nq osq
    cases L with
    | false=>
     have am:Hid ((h+1=lo\/ltOf cf dk[mid+m - (h+1)]! dk[h+1 - 1]! = false)/\(j=hi\/ltOf cf dk[mid+m - 1 - j]! dk[j]! = true)):=⟨.inr (by obtain ⟨h1,h2,h3,h4⟩:=HL.out;rw[show mid+m - (h+1)=q by omega,Nat.add_sub_cancel,h3,h4];exact h1),HB.out.2⟩;clear HB HL;go_wp2_with fail
     go_roundg (j - (h+1))
     case measure=>omega
     case rel=>exact ⟨h+1,j,by first | rfl | go_num,rfl,by omega,by omega,ap,by omega,am,S2⟩
    | true=>
     have am:Hid ((i=lo\/ltOf cf dk[mid+m - i]! dk[i - 1]! = false)/\(h=hi\/ltOf cf dk[mid+m - 1 - h]! dk[h]! = true)):=⟨HB.out.1,.inr (by obtain ⟨h1,h2,h3,h4⟩:=HL.out;rw[<-h2,h3,h4];exact h1)⟩;clear HB HL;go_wp2_with fail
     go_roundg (h - i)
     case measure=>omega
     case rel=>exact ⟨i,h,rfl,rfl,aq,by omega,by omega,by omega,am,S2⟩
   .have he:j=i:=by omega
    subst he;have aM:¬(j:Int) < (j:Int):=by omega
    obtain ⟨e,he⟩:=i7 (mid+m - j);have he2:(mid:Int)+(m:Int) - (j:Int)=(e:Int):=by omega
    have hN:=ao.out;obtain ⟨X1,X2,Y1,Y2,m1,m2,m3,m4,m5,m6,m7,m8,m9,mA,mB,mC,mD,mE,mF⟩:=ad.out e j he aq ap aC aD ae ah HB.out.1 HB.out.2;have aJ:=Kmc (ltOf cf) X1 Y1;have T0:Aside (SWK enc 3 w0 blk off (A++(X1++(X2++(Y1++(Y2++S))))).toArray wr):=by have:=S1.out;rw[m1] at this;exact this
    have C1:Aside (j < m->m < e->∀W,SWK enc 3 w0 blk off (A++(X1++(X2++(Y1++(Y2++S))))).toArray W->Calls prog 222 #[.slice (some ⟨blk,off,none⟩) N cap,.int .i64 j,.int .i64 m,.int .i64 e,.func (.func g) #[] cb] W fun e w'=>e = .returned (.tuple #[])/\SWK enc 3 w0 blk off (A++(X1++(Y1++(X2++(Y2++S))))).toArray w'):=fun g1 g2 W h=>by have:=Ktk (cap:=cap) (g:=g) (cb:=cb) (A++X1) X2 Y1 (Y2++S) j m e W R hN (by simp only[Jd];omega) (by simp only[Jd];omega) (by simp only[Jd];omega) (by simp only[Jd];omega) (by omega) (by omega) hsz (by rw[aP];exact h);rw[aP] at this;exact this
    have C2:Aside (a < j->j < mid->∀W,SWK enc 3 w0 blk off (A++(X1++(Y1++(X2++(Y2++S))))).toArray W->Calls prog 178 #[.slice (some ⟨blk,off,none⟩) N cap,.int .i64 a,.int .i64 j,.int .i64 mid,.func (.func g) #[] cb] W fun e w'=>e = .returned (.tuple #[])/\SWK enc 3 w0 blk off (A++(mrg (ltOf cf) X1 Y1++(X2++(Y2++S)))).toArray w'):=fun g1 g2 W h=>
     ar.out A X1 Y1 (X2++(Y2++S)) a j mid W (by omega) (by simp only[Jd];omega) (by omega) (by omega) (by omega) (by omega) (by omega) mC mE h
    have C3:Aside (mid < e->e < b->∀W,SWK enc 3 w0 blk off (A++(mrg (ltOf cf) X1 Y1++(X2++(Y2++S)))).toArray W->Calls prog 178 #[.slice (some ⟨blk,off,none⟩) N cap,.int .i64 mid,.int .i64 e,.int .i64 b,.func (.func g) #[] cb] W fun e w'=>e = .returned (.tuple #[])/\SWK enc 3 w0 blk off (A++(mrg (ltOf cf) X Y++S)).toArray w'):=fun g1 g2 W h=>by have:=ar.out (A++mrg (ltOf cf) X1 Y1) X2 Y2 S mid e b W (by omega) (by simp only[Jd];omega) (by simp only[Jd];omega) (by omega) (by omega) (by omega) (by omega) mD mF (by rw[aP];exact h);rw[m2];rw[aP] at this |-;exact this
    have N1:Aside (¬(j < m/\m < e)->A++(X1++(X2++(Y1++(Y2++S))))=A++(X1++(Y1++(X2++(Y2++S))))):=fun h=>Kqs (by omega)
    have N2:Aside (¬(a < j/\j < mid)->A++(X1++(Y1++(X2++(Y2++S))))=A++(mrg (ltOf cf) X1 Y1++(X2++(Y2++S)))):=fun h=>Kgx _ (by omega)
    have N3:Aside (¬(mid < e/\e < b)->A++(mrg (ltOf cf) X1 Y1++(X2++(Y2++S)))=A++(mrg (ltOf cf) X Y++S)):=fun h=>by rw[m2,aP,<-Kgx (A:=mrg (ltOf cf) X1 Y1) _ (by omega)]
    have hjN:j<=N:=by omega
    have heN:e<=N:=by omega
    clear m1 m2 m3 m4 m5 m6 m7 m8 m9 mA mB mC mD mE mF aJ hN he HB af ad S1 aL hk hge ar HC aq ap ax aC aD ae ah aA ao;obtain ⟨q,hq⟩:∃q:Bool,q=decide (j < m/\m < e):=⟨_,rfl⟩;have HQ:Hid _:=hq;clear hq;go_upto_region 39 with fail
    go_cut [185] from 178 to 184 (fun s wz=>s = .bool q/\wz=wr)
    case first=>
     have hq:=HQ.out
     by_cases g1:j < m
     .have d1:(j:Int) < (m:Int):=by omega
      by_cases g2:m < e
      .have d2:(m:Int) < (e:Int):=by omega
       rw[jd ⟨g1,g2⟩] at hq;subst hq;go_wp2_with fail
       go_meet
       exact ⟨rfl,rfl⟩
      .have d2:¬(m:Int) < (e:Int):=by omega
       rw[ja (fun h=>g2 h.2)] at hq;subst hq;go_wp2_with fail
       go_meet
       exact ⟨rfl,rfl⟩
     .have d1:¬(j:Int) < (m:Int):=by omega
      rw[ja (fun h=>g1 h.1)] at hq;subst hq;go_wp2_with fail
      go_meet
      exact ⟨rfl,rfl⟩
    case rest=>
     obtain ⟨rfl,aa⟩:=hcut;have aa:=aa.symm;subst aa;go_upto_if 185 with fail
     go_cut [] from 186 to 191 (fun wz=>Aside (SWK enc 3 w0 blk off (A++(X1++(Y1++(X2++(Y2++S))))).toArray wz))
     case first=>
      cases q with
      | true=>
       obtain ⟨g1,g2⟩:=jh HQ.out.symm;have D:Aside _:=C1.out g1 g2;clear g1 g2 HQ;go_wp2_with fail
       refine bA (D.out _ T0.out) ?_;rintro _ w9 ⟨rfl,h1⟩;have T9:Aside _:=h1;clear h1;go_wp2_with fail
       go_meet
       exact T9
      | false=>
       have T9:Aside (SWK enc 3 w0 blk off (A++(X1++(Y1++(X2++(Y2++S))))).toArray wr):=by rw[<-N1.out (ji HQ.out.symm)];exact T0.out
       clear HQ;go_wp2_with fail
       go_meet
       exact T9
     case rest=>
      have T1:Aside _:=hcut.out;clear hcut HQ T0;obtain ⟨w3,rfl⟩:=i7 wc;obtain ⟨q,hq⟩:∃q:Bool,q=decide (a < j/\j < mid):=⟨_,rfl⟩;have HQ:Hid _:=hq;clear hq;go_upto_region 41 with fail
      go_cut [199] from 192 to 198 (fun s wz=>s = .bool q/\wz=w3)
      case first=>
       have hq:=HQ.out
       by_cases g1:a < j
       .have d1:(a:Int) < (j:Int):=by omega
        by_cases g2:j < mid
        .have d2:(j:Int) < (mid:Int):=by omega
         rw[jd ⟨g1,g2⟩] at hq;subst hq;go_wp2_with fail
         go_meet
         exact ⟨rfl,rfl⟩
        .have d2:¬(j:Int) < (mid:Int):=by omega
         rw[ja (fun h=>g2 h.2)] at hq;subst hq;go_wp2_with fail
         go_meet
         exact ⟨rfl,rfl⟩
       .have d1:¬(a:Int) < (j:Int):=by omega
        rw[ja (fun h=>g1 h.1)] at hq;subst hq;go_wp2_with fail
        go_meet
        exact ⟨rfl,rfl⟩
      case rest=>
       obtain ⟨rfl,aa⟩:=hcut;have aa:=aa.symm;subst aa;go_upto_if 199 with fail
       go_cut [] from 200 to 205 (fun wz=>Aside (SWK enc 3 w0 blk off (A++(mrg (ltOf cf) X1 Y1++(X2++(Y2++S)))).toArray wz))
       case first=>
        cases q with
        | true=>
         obtain ⟨g1,g2⟩:=jh HQ.out.symm;have D:Aside _:=C2.out g1 g2;clear g1 g2 HQ;go_wp2_with fail
         refine bA (D.out _ T1.out) ?_;rintro _ w9 ⟨rfl,h1⟩;have T9:Aside _:=h1;clear h1;go_wp2_with fail
         go_meet
         exact T9
        | false=>
         have T9:Aside (SWK enc 3 w0 blk off (A++(mrg (ltOf cf) X1 Y1++(X2++(Y2++S)))).toArray w3):=by rw[<-N2.out (ji HQ.out.symm)];exact T1.out
         clear HQ;go_wp2_with fail
         go_meet
         exact T9
       case rest=>
        have T2:Aside _:=hcut.out;clear hcut HQ T1;obtain ⟨w4,rfl⟩:=i7 wc;obtain ⟨q,hq⟩:∃q:Bool,q=decide (mid < e/\e < b):=⟨_,rfl⟩;have HQ:Hid _:=hq;clear hq;go_upto_region 43 with fail
        go_cut [213] from 206 to 212 (fun s wz=>s = .bool q/\wz=w4)
        case first=>
         have hq:=HQ.out
         by_cases g1:mid < e
         .have d1:(mid:Int) < (e:Int):=by omega
          by_cases g2:e < b
          .have d2:(e:Int) < (b:Int):=by omega
           rw[jd ⟨g1,g2⟩] at hq;subst hq;go_wp2_with fail
           go_meet
           exact ⟨rfl,rfl⟩
          .have d2:¬(e:Int) < (b:Int):=by omega
           rw[ja (fun h=>g2 h.2)] at hq;subst hq;go_wp2_with fail
           go_meet
           exact ⟨rfl,rfl⟩
         .have d1:¬(mid:Int) < (e:Int):=by omega
          rw[ja (fun h=>g1 h.1)] at hq;subst hq;go_wp2_with fail
          go_meet
          exact ⟨rfl,rfl⟩
        case rest=>
         obtain ⟨rfl,aa⟩:=hcut;have aa:=aa.symm;subst aa
         cases q with
         | true=>
          obtain ⟨g1,g2⟩:=jh HQ.out.symm;have D:Aside _:=C3.out g1 g2;clear g1 g2 HQ;go_wp2_with fail
          refine bA (D.out _ T2.out) ?_;rintro _ w9 ⟨rfl,h1⟩;have T9:Aside _:=h1;clear h1;go_wp2_with fail
          go_end0
          exact ⟨rfl,T9.out⟩
         | false=>
          have T9:Aside (SWK enc 3 w0 blk off (A++(mrg (ltOf cf) X Y++S)).toArray w4):=by rw[<-N3.out (ji HQ.out.symm)];exact T2.out
          clear HQ;go_wp2_with fail
          go_end0
          exact ⟨rfl,T9.out⟩
theorem Kik (SW:SWO (ltOf cf)) (eg:∀args w,(callFunc g args).run prog w = .ok (.enter g args) w) (hcmp:CmpLays prog g cb enc 3 cf blk off d0.size w0) (R:RowK enc 3 w0 blk off d0) (hN:d0.size=N) (hsz:N < 4611686018427387904):∀(nn:Nat) (A X Y S:List α) (a m b:Nat) (w:World),X.length+Y.length<=nn->A.length+X.length+Y.length+S.length=N->a=A.length->m=a+X.length->b=m+Y.length->0 < X.length->0 < Y.length->(X.Pairwise fun a b=>ltOf cf b a=false)->(Y.Pairwise fun a b=>ltOf cf b a=false)->SWK enc 3 w0 blk off (A++(X++(Y++S))).toArray w->Calls prog 178 #[.slice (some ⟨blk,off,none⟩) N cap,.int .i64 a,.int .i64 m,.int .i64 b,.func (.func g) #[] cb] w fun e w'=>e = .returned (.tuple #[])/\SWK enc 3 w0 blk off (A++(mrg (ltOf cf) X Y++S)).toArray w'
 | 0,A,X,Y,S,a,m,b,w,h,_,_,_,_,hx,_,_,_,_=>jl h (by omega)
 | nn+1,A,X,Y,S,a,m,b,w,h,hl,ha,hm,hb,hx,hy,hX,hY,S0=>by
  rcases aV 1 X.length with h1 | h1
  .rcases aV 1 Y.length with h2 | h2
   .exact Kqx SW eg hcmp R hN hsz nn (Kik SW eg hcmp R hN hsz nn) A X Y S a m b w h hl ha hm hb h1 h2 hX hY S0
   .obtain ⟨y,rfl⟩:∃y,Y = [y]:=a6.1 (by omega);exact Kqu SW eg hcmp R hN hsz A y X S a m b w (by simpa using hl) ha hm (by simpa using hb) h1 hX S0
  .obtain ⟨x,rfl⟩:∃x,X = [x]:=a6.1 (by omega);exact Ktw SW eg hcmp R hN hsz A x Y S a m b w (by simpa using hl) ha (by simpa using hm) hb hy hY S0
end
attribute [-go_sem] loadCells
open Go.Shelf Go.RowKit Go.Lib Go.Sort
section
variable {α : Type} [Inhabited α] {enc : α -> List Value} {cf : α -> α -> Int} {d0 : Array α} {w0 : World} {blk off cap g N : Nat} {cb : Array Value}
def Kvo:Go.Shelf.Ren:=⟨fun | 20=>177 | n=>n,fun | 0=>0 | 3=>3 | 4=>4 | 22=>26 | 24=>58 | 25=>143 | n=>n,fun | n=>n⟩
theorem Qfy:SlLaysF0.n20 prog Kvo:={
 mixed:=by kernel_rfl
 f20:=⟨Tryz.f177.name,by decide,func177.trans (jk some (by kernel_rfl))⟩
 t0:=underlying0
 a0:=isAgg0
 z0:=sizeOf0
 v0:=zeroValue0
 t3:=underlying3
 a3:=isAgg3
 z3:=sizeOf3
 v3:=zeroValue3
 t4:=underlying4
 a4:=isAgg4
 z4:=sizeOf4
 v4:=zeroValue4
 t22:=underlying26
 a22:=isAgg26
 z22:=sizeOf26
 v22:=zeroValue26
 t25:=underlying143
 a25:=isAgg143
 z25:=sizeOf143
 v25:=zeroValue143 }
theorem Ktf (SW:SWO (ltOf cf)) (eg:∀args w,(callFunc g args).run prog w = .ok (.enter g args) w) (hcmp:CmpLays prog g cb enc 3 cf blk off d0.size w0) (R:RowK enc 3 w0 blk off d0) (hN:d0.size=N) (hsz:N < 1152921504606846976) (A Y S:List α) (a b:Nat) (w:World) (hl:A.length+Y.length+S.length=N) (ha:a=A.length) (hb:b=a+Y.length) (S0:SWK enc 3 w0 blk off (A++(Y++S)).toArray w) :
  Calls prog 177 #[.slice (some ⟨blk,off,none⟩) N cap,.int .i64 a,.int .i64 b,.func (.func g) #[] cb] w fun e w'=>e = .returned (.tuple #[])/\∃Z,Stab (ltOf cf) Y Z/\SWK enc 3 w0 blk off (A++(Z++S)).toArray w':=by
 have aa:(A++(Y++S)).toArray.size=N:=by simp only[aT,Jd];omega
 have h:=AnyQ.insertionSortCmpFunc Qfy 3 isAgg58 sizeOf58 enc R.hk R.h1 cf g cb blk off cap a b (A++(Y++S)).toArray w eg ?_ (S0.holds R.hblk R.hH (by rw[aa,hN])) (S0.lt R.hblk) (by omega) (by rw[aa];omega) (by rw[aa];omega)
 .rw[aa] at h;refine bA h ?_;rintro _ w' ⟨rfl,n,os,rfl⟩;refine ⟨rfl,?_⟩;rcases bo Y.length with h0 | h0
  .have:Y = []:=aX h0;subst this;refine ⟨[],Stab.nil,?_⟩;have e:=Kfo (lt:=ltOf cf) A S;rw[show b=A.length by simpa[ha] using hb,ha,show A++([]++S)=A++S from rfl,e];exact S0.on R.hblk _ _ _ rfl
  .obtain ⟨Z,hz,e⟩:=Kfi SW A Y S h0;refine ⟨Z,hz,?_⟩;rw[hb,ha,e];exact S0.on R.hblk _ _ _ (by simp only[aT,Jd,hz.len])
 .intro m os dk hdk x y;obtain ⟨m2,ab,hw⟩:=S0.on R.hblk m dk os (by rw[hdk]);rw[hw];exact hcmp m2 ab dk (by rw[hdk,aa,hN]) x y
theorem Kts (SW:SWO (ltOf cf)) (eg:∀args w,(callFunc g args).run prog w = .ok (.enter g args) w) (hcmp:CmpLays prog g cb enc 3 cf blk off d0.size w0) (R:RowK enc 3 w0 blk off d0) (hN:d0.size=N) (hsz:N < 1152921504606846976) (xs:List α) (w:World) (hl:xs.length=N) (S0:SWK enc 3 w0 blk off xs.toArray w) :
  Calls prog 126 #[.slice (some ⟨blk,off,none⟩) N cap,.int .i64 N,.func (.func g) #[] cb] w fun e w'=>e = .returned (.tuple #[])/\∃ys,Stab (ltOf cf) xs ys/\SWK enc 3 w0 blk off ys.toArray w':=by
 have mixed:prog.follows .mixedOrders=true:=by kernel_rfl
 have S1:Aside (SWK enc 3 w0 blk off ([]++xs).toArray w):=S0;have HN:Hid (d0.size=N/\xs.length=N):=⟨hN,hl⟩;have hb:=R.hblk;have ag:=Ktf (cap:=cap) SW eg hcmp R hN hsz;have ah:=Kik (cap:=cap) SW eg hcmp R hN (by omega);have HI:Aside _:=ag;have HS:Aside _:=ah;clear S0 hl hN hb ag ah hcmp;go_enter func126,ntmps126
 go_wp2
 go_loopg [7,8] (N+1) (fun kx s7 s8 wr=>∃(a b:Nat) (xZ xR Z:List α),s7 = .int .i64 a/\s8 = .int .i64 b/\a<=N/\a < b/\b<=N+20/\N+1<=a+kx/\Hid (b=a+20/\xs=xZ++xR/\xZ.length=a/\Whole (ltOf cf) 20 xZ Z)/\Aside (SWK enc 3 w0 blk off (Z++xR).toArray wr))
 case atStart=>exact ⟨0,20,[],xs,[],rfl,rfl,by omega,by omega,by omega,by omega,⟨rfl,rfl,rfl,.nil⟩,S1⟩
 case round=>
  clear S1;obtain ⟨a,b,xZ,xR,Z,rfl,rfl,an,am,ao,hk,HB,S1⟩:=hrel;have hZ:Z.length=a:=by rw[HB.out.2.2.2.len];exact HB.out.2.2.1
  have hR:a+xR.length=N:=by have q:=HB.out;have q2:=HN.out.2;rw[q.2.1,Jd] at q2;omega
  rcases aV N b with hlt | hge
  .have ai:¬(b:Int)<=(N:Int):=by omega
   have hc:=HI.out Z xR [] a N wr (by simp only[aQ];omega) (by omega) (by omega) (by rw[aY];exact S1.out);have HC:Aside _:=hc;clear hc S1 hZ hR;go_wp2_with fail
   refine bA HC.out ?_;rintro _ w3 ⟨rfl,z1,ae,h3⟩
   have al:Hid (Blks (ltOf cf) 20 xs (Z++z1)):=by
    have q:=HB.out;have q2:=HN.out;have q4:xZ.length+xR.length=N:=by rw[<-Jd,<-q.2.1];exact q2.2
    show Blks _ _ _ _
    rw[q.2.1];exact q.2.2.2.close (.last (by omega) ae)
   rw[aY] at h3;have S1:Aside (SWK enc 3 w0 blk off (Z++z1).toArray w3):=h3;clear h3 ae HB HC hk am ao an hlt ai;generalize Z++z1=ys0 at S1 al;clear Z z1 xZ xR;go_wp2_with fail
   go_loopg [6] (N+1) (fun kx s6 wr=>∃(c:Nat) (ys:List α),s6 = .int .i64 c/\0 < c/\c<=2*N+20/\N+1<=c+kx/\Hid (Blks (ltOf cf) c xs ys)/\Aside (SWK enc 3 w0 blk off ys.toArray wr))
   case atStart=>exact ⟨20,ys0,rfl,by omega,by omega,by omega,al,S1⟩
   case round=>
    clear S1 al;obtain ⟨c,ys,rfl,ak,hcN,hk,HB,S1⟩:=hrel;rcases aV c N with hlt | hge
    .have ai:(c:Int) < (N:Int):=by omega
     obtain ⟨gk0,ad⟩:=i7 gk;rw[<-ad] at hk;have ap:Hid (gk0=gk):=ad;clear ad;go_wp2_with fail
     have S2:Aside (SWK enc 3 w0 blk off ([]++ys).toArray wr):=S1;clear S1;go_loopg [7,8] (N+1) (fun kx s7 s8 wr=>∃(a b:Nat) (xZ xR Z R:List α),s7 = .int .i64 a/\s8 = .int .i64 b/\a<=N/\a+c < b/\b<=N+2*c/\N+1<=a+kx/\Hid (b=a+2*c/\xs=xZ++xR/\xZ.length=a/\Whole (ltOf cf) (2*c) xZ Z/\Blks (ltOf cf) c xR R)/\Aside (SWK enc 3 w0 blk off (Z++R).toArray wr))
     case atStart=>exact ⟨0,2*c,[],xs,[],ys,rfl,by first | rfl | go_num,by omega,by omega,by omega,by omega,⟨by omega,rfl,rfl,.nil,HB.out⟩,S2⟩
     case round=>
      clear S2 HB;obtain ⟨a,b,xZ,xR,Z,R',rfl,rfl,an,am,ao,hk2,HB,S1⟩:=hrel
      have aa:Hid (xZ.length+xR.length=N/\Z.length=a/\R'.length=xR.length/\b=a+2*c/\xZ.length=a):=by
       have q:=HB.out;have q2:=HN.out;have q4:xZ.length+xR.length=N:=by rw[<-Jd,<-q.2.1];exact q2.2
       exact ⟨q4,by rw[q.2.2.2.1.len];exact q.2.2.1,q.2.2.2.2.len,q.1,q.2.2.1⟩
      rcases aV N b with hlt2 | hge2
      .have aj:¬(b:Int)<=(N:Int):=by omega
       rcases aV (a+c) N with hm | hm
       .have aq:(a:Int)+(c:Int) < (N:Int):=by omega
        have af:∃x1 x2 r1 r2,xR=x1++x2/\R'=r1++r2/\x1.length=c/\Stab (ltOf cf) x1 r1/\Stab (ltOf cf) x2 r2/\x2.length+(a+c)=N:=by
         have q:=HB.out;have ql:=aa.out;obtain ⟨x1,x2,r1,r2,e1,e2,e3,e4,e5⟩:=q.2.2.2.2.first (by omega)
         have e6:x1.length+x2.length=xR.length:=by rw[e1,Jd]
         exact ⟨x1,x2,r1,r2,e1,e2,e3,e4,e5.short (by omega) ak,by omega⟩
        obtain ⟨x1,x2,r1,r2,e1,e2,e3,e4,e5,e6⟩:=af;have ab:=HS.out (r1.length+r2.length) Z r1 r2 [] a (a+c) N wr (aW _) (by have ql:=aa.out;have:=e4.len;have:=e5.len;simp only[aQ];omega) (by have ql:=aa.out;omega) (by have:=e4.len;omega) (by have:=e4.len;have:=e5.len;omega) (by have:=e4.len;omega) (by have:=e5.len;omega) e4.asc e5.asc (by rw[aY,<-e2];exact S1.out)
        have ac:Hid (Blks (ltOf cf) (2*c) xs (Z++(mrg (ltOf cf) r1 r2 ++ []))):=by
         have q:=HB.out;have ql:=aa.out;show Blks _ _ _ _
         rw[q.2.1,e1,aY];exact q.2.2.2.1.close (.last (by simp only[Jd];omega) (e4.mrg SW e5))
        push_cast at ab
        have HC:Aside _:=ab;clear ab S1 e1 e2 e3 e4 e5 e6 HB aa;go_wp2_with fail
        refine bA HC.out ?_;rintro _ w3 ⟨rfl,h3⟩;have S1:Aside (SWK enc 3 w0 blk off (Z++(mrg (ltOf cf) r1 r2 ++ [])).toArray w3):=h3;clear h3 HC;generalize Z++(mrg (ltOf cf) r1 r2 ++ [])=ys2 at S1 ac;go_wp2_with fail
        go_roundg (gk0 - 1)
        case measure=>have:=ap.out;omega
        case rel=>exact ⟨c*2,ys2,by first | rfl | go_num,by omega,by omega,by omega,by rw[a8];exact ac,S1⟩
       .have aq:¬(a:Int)+(c:Int) < (N:Int):=by omega
        have ac:Hid (Blks (ltOf cf) (2*c) xs (Z++R')):=by
         have q:=HB.out;have ql:=aa.out;show Blks _ _ _ _
         rw[q.2.1];exact q.2.2.2.1.close (.last (by omega) (q.2.2.2.2.short (by omega) ak))
        clear HB aa;generalize Z++R'=ys2 at S1 ac;go_wp2_with fail
        go_roundg (gk0 - 1)
        case measure=>have:=ap.out;omega
        case rel=>exact ⟨c*2,ys2,by first | rfl | go_num,by omega,by omega,by omega,by rw[a8];exact ac,S1⟩
      .have aj:(b:Int)<=(N:Int):=by omega
       have af:∃x1 x2 x3 r1 r2 r3,xR=(x1++x2)++x3/\R'=r1++(r2++r3)/\x1.length=c/\x2.length=c/\Stab (ltOf cf) x1 r1/\Stab (ltOf cf) x2 r2/\Blks (ltOf cf) c x3 r3:=by
        have q:=HB.out;have ql:=aa.out;obtain ⟨x1,x2,r1,r2,e1,e2,e3,e4,e5⟩:=q.2.2.2.2.first (by omega)
        have e6:x1.length+x2.length=xR.length:=by rw[e1,Jd]
        obtain ⟨y1,y2,s1,s2,f1,f2,f3,f4,f5⟩:=e5.first (by omega)
        exact ⟨x1,y1,y2,r1,s1,s2,by rw[e1,f1,aP],by rw[e2,f2],e3,f3,e4,f4,f5⟩
       obtain ⟨x1,x2,x3,r1,r2,r3,e1,e2,e3,e4,e5,e6,e7⟩:=af;have e8:R'.length=r1.length+(r2.length+r3.length):=by rw[e2];simp
       have ab:=HS.out (r1.length+r2.length) Z r1 r2 r3 a (a+c) b wr (aW _) (by have ql:=aa.out;have:=e5.len;have:=e6.len;omega) (by have ql:=aa.out;omega) (by have:=e5.len;omega) (by have ql:=aa.out;have:=e6.len;omega) (by have:=e5.len;omega) (by have:=e6.len;omega) e5.asc e6.asc (by rw[<-e2];exact S1.out)
       have ac:Hid (xs=(xZ++(x1++x2))++x3/\(xZ++(x1++x2)).length=b/\Whole (ltOf cf) (2*c) (xZ++(x1++x2)) (Z++mrg (ltOf cf) r1 r2)/\Blks (ltOf cf) c x3 r3):=by have q:=HB.out;have ql:=aa.out;exact ⟨by rw[q.2.1,e1];simp only[aP],by simp only[Jd];omega,q.2.2.2.1.snoc (by simp only[Jd];omega) (e5.mrg SW e6),e7⟩
       push_cast at ab
       have HC:Aside _:=ab;clear ab S1 e1 e2 e3 e4 e5 e6 e7 e8 HB aa;go_wp2_with fail
       refine bA HC.out ?_;rintro _ w3 ⟨rfl,h3⟩;have S1:Aside (SWK enc 3 w0 blk off ((Z++mrg (ltOf cf) r1 r2)++r3).toArray w3):=by rw[aP];exact h3
       clear h3 HC;go_wp2_with fail
       go_roundg (N+1 - b)
       case measure=>omega
       case rel=>exact ⟨b,b+2*c,_,_,_,_,by first | rfl | go_num,by first | rfl | go_num,by omega,by omega,by omega,by omega,⟨rfl,ac.out⟩,S1⟩
    .have ai:¬(c:Int) < (N:Int):=by omega
     go_wp2_with fail
     go_end0
     exact ⟨rfl,ys,HB.out.short (by rw[HN.out.2];exact hge) ak,S1.out⟩
  .have ai:(b:Int)<=(N:Int):=by omega
   have af:∃x1 x2,xR=x1++x2/\x1.length=20/\xZ.length+xR.length=N:=by
    have q:=HB.out;have q2:=HN.out;have q4:xZ.length+xR.length=N:=by rw[<-Jd,<-q.2.1];exact q2.2
    exact ⟨xR.take 20,xR.drop 20,(aS _ _).symm,by rw[aZ];omega,q4⟩
   obtain ⟨x1,x2,e1,e2,e3⟩:=af;have e4:xR.length=x1.length+x2.length:=by rw[e1,Jd]
   have e5:=HB.out.1;have hc:=HI.out Z x1 x2 a b wr (by omega) (by omega) (by omega) (by rw[<-e1];exact S1.out);have HC:Aside _:=hc;have HX:Hid (xR=x1++x2/\x1.length=20):=⟨e1,e2⟩;clear hc S1 e1 e2 e3 e4 e5 hZ hR;go_wp2_with fail
   refine bA HC.out ?_;rintro _ w3 ⟨rfl,z1,ae,h3⟩
   have ac:Hid (xs=(xZ++x1)++x2/\(xZ++x1).length=b/\Whole (ltOf cf) 20 (xZ++x1) (Z++z1)):=by have q:=HB.out;have q2:=HX.out;exact ⟨by rw[q.2.1,q2.1,aP],by simp only[Jd];omega,q.2.2.2.snoc q2.2 ae⟩
   have S1:Aside (SWK enc 3 w0 blk off ((Z++z1)++x2).toArray w3):=by rw[aP];exact h3
   clear h3 ae HC HB HX;go_wp2_with fail
   go_roundg (N+1 - b)
   case measure=>omega
   case rel=>exact ⟨b,b+20,_,_,_,by first | rfl | go_num,by first | rfl | go_num,by omega,by omega,by omega,by omega,⟨rfl,ac.out⟩,S1⟩
theorem Kmh (SW:SWO (ltOf cf)) (eg:∀args w,(callFunc g args).run prog w = .ok (.enter g args) w) (hcmp:CmpLays prog g cb enc 3 cf blk off d0.size w0) (R:RowK enc 3 w0 blk off d0) (hN:d0.size=N) (hsz:N < 1152921504606846976) (xs:List α) (w:World) (hl:xs.length=N) (S0:SWK enc 3 w0 blk off xs.toArray w) :
  Calls prog 58 #[.slice (some ⟨blk,off,none⟩) N cap,.func (.func g) #[] cb] w fun e w'=>e = .returned (.tuple #[])/\∃ys,Stab (ltOf cf) xs ys/\SWK enc 3 w0 blk off ys.toArray w':=by
 have HC:Aside _:=Kts (cap:=cap) SW eg hcmp R hN hsz xs w hl S0;clear S0 hl hN hcmp;go_enter func58,ntmps58
 go_wp2_with fail
 refine bA HC.out ?_;rintro _ w3 ⟨rfl,h3⟩;have H3:Aside _:=h3;clear h3;go_wp2_with fail
 go_end0
 exact ⟨rfl,H3.out⟩
end
end
section
open Go.RowKit Go.Shelf Go.Sort
theorem Kdh {α : Type} {enc:α->List Value} {k:Nat} (hk:∀x,(enc x).length=k) (l:List α):(l.flatMap enc).length=l.length*k:=by
 induction l with
 | nil=>simp
 | cons x l ih=>rw[bd,bc,ih,hk,aO,bq];omega
theorem Kcw {α : Type} {enc:α->List Value} {k:Nat} (hk:∀x,(enc x).length=k):∀(l:List α) (i j:Nat) (x:α),l[i]? = some x->j < k->(l.flatMap enc)[i*k+j]? = (enc x)[j]?
 | [],_,_,_,h,_=>by simp at h
 | y :: l,0,j,x,h,hj=>by simp only[List.getElem?_cons_zero,Option.some.injEq] at h;subst h;rw[bd,List.getElem?_append_left (by rw[hk];omega),Nat.zero_mul,Nat.zero_add]
 | y :: l,i+1,j,x,h,hj=>by rw[bd,List.getElem?_append_right (by rw[hk,bq];omega),hk,show (i+1)*k+j - k=i*k+j by rw[bq];omega];exact Kcw hk l i j x (by simpa using h) hj
theorem Kkw {α : Type} [Inhabited α] {enc:α->List Value} {k:Nat} (hk:∀x,(enc x).length=k) (h0:0 < k) {l:List α} {t:Nat} (h:t < l.length*k):(l.flatMap enc)[t]? = some ((enc l[t / k]!)[t % k]!):=by
 have hl:t / k < l.length:=bi (by rw[a8];exact h);have h1:l[t / k]? = some l[t / k]!:=by rw[i9 l _ hl,a2 hl]
 have h2:=Kcw hk l (t / k) (t % k) _ h1 (Nat.mod_lt _ h0);rw[show t / k*k+t % k=t by rw[a8];exact Nat.div_add_mod t k] at h2;have h3:t % k < (enc l[t / k]!).length:=by rw[hk];exact Nat.mod_lt _ h0
 rw[h2,a2 h3,i9 (enc l[t / k]!) _ h3]
section
variable {α : Type} [Inhabited α] {enc : α -> List Value} {k : Nat} {w : World} {B g n cap : Nat} {T : TypeId} {l : List α}
theorem Kfh (hk:∀x,(enc x).length=k) (h0:0 < k) (hown:w.ownsRow B T k (.slice (some ⟨g,0,none⟩) n cap) n (l.flatMap enc)) (hl:l.length=n):HoldsK enc k w g 0 l.toArray:=by
 rcases hown.2 with ⟨he,_⟩ | ⟨g',cap',cur,he,h1,h2,h3,h4,h5,h6⟩
 .cases he
 .injection he with he _ hcc;injection he with he;injection he with he _ _;subst he hcc;intro t ht;rw[size_flatK] at ht;have aa:t < l.length*k:=by simpa using ht
  refine ⟨?_,by simp[World.frozen?,h2]⟩;rw[get_flatK _ _ _ _ ht,Nat.zero_add,cell_of_row w g t cur _ (0,0) h2]
  have e1:cur[t]? = (l.flatMap enc)[t]?:=by rw[<-h6,a5 (by rw[hl] at aa;exact aa)];simp
  rw[e1,Kkw hk h0 aa];simp only[List.getElem!_toArray,id]
theorem Kxv (enc:α->List Value) (k:Nat) (w:World) (blk off n:Nat) (d:Array α) (os:Array Obj):w.grownBy (sortWorldK enc k w blk off n d os) (some blk):=by
 refine ⟨rfl,rfl,rfl,?_,?_⟩
 .simp[sortWorldK,grow,putRowK,putRow,mapBlock,Sort.ahead]
 .intro j hj hne;have hb:¬blk=j:=fun e=>hne (by rw[e])
  simp only[sortWorldK,grow,putRowK,putRow,mapBlock,Sort.ahead];rw[bl (by simpa using hj),bp,je hb]
theorem Kfk (hk:∀x,(enc x).length=k) (h0:0 < k) (hown:w.ownsRow B T k (.slice (some ⟨g,0,none⟩) n cap) n (l.flatMap enc)) (hl:l.length=n) (d:Array α) (hd:d.size=n) (m:Nat) (os:Array Obj) :
  (sortWorldK enc k w g 0 m d os).ownsRow B T k (.slice (some ⟨g,0,none⟩) n cap) n (d.toList.flatMap enc):=by
 have aa:=World.ownsRow.lt hown g rfl;rcases hown.2 with ⟨he,_⟩ | ⟨g',cap',cur,he,h1,h2,h3,h4,h5,h6⟩
 .cases he
 .injection he with he _ hcc;injection he with he;injection he with he _ _;subst he hcc;refine ⟨by rw[Kdh hk];simp[hd],.inr ⟨g,cap,putCells id 0 (flatK enc k d) cur,rfl,h1,?_,h3,h4,by simp[putCells,h5],?_⟩⟩
  .simp only[sortWorldK,grow,putRowK,putRow,mapBlock,Sort.ahead];rw[bl (by simpa using aa.2),bp,jf rfl,h2];rfl
  .apply List.ext_getElem?;intro t
   by_cases ht:t < n*k
   .rw[a5 ht,Kkw hk h0 (by simpa[hd] using ht)];have ac:t < cur.size:=by rw[h5];exact Nat.lt_of_lt_of_le ht (Nat.mul_le_mul_right k h3)
    have ab:t < (flatK enc k d).size:=by rw[size_flatK,hd];exact ht
    simp only[putCells,Array.getElem?_toList,Array.getElem?_mapIdx,Array.getElem?_eq_getElem ac,Option.map_some];rw[jf ⟨bj _,by simpa using ab⟩,Nat.sub_zero,get_flatK _ _ _ _ (by rw[hd];exact ht)];congr 2;have hq:t / k < d.size:=bi (by rw[a8,hd];exact ht);rw[i9 d _ hq,i9 d.toList _ (by simpa using hq)];simp
   .rw[a7 (by rw[aZ];omega),a7 (by rw[Kdh hk];simp[hd];omega)]
theorem Qbp {d:Array α} (hl:l.length=n) (h:PermIn 0 n l.toArray d):d.size=n/\d.toList.Perm l:=by
 obtain ⟨ac,_,ab⟩:=h;have aa:d.size=n:=by rw[ac];simpa using hl
 refine ⟨aa,?_⟩;have e1:(d.extract 0 n)=d:=by rw[<-aa];simp
 have e2:(l.toArray.extract 0 n)=l.toArray:=by rw[<-hl];simp
 rw[e1,e2] at ab;simpa using ab
theorem Qbn {d:Array α} {lt:α->α->Bool} (hd:d.size=n) (h:SortedIn lt 0 n d):d.toList.Pairwise fun a b=>lt b a=false:=by
 rw[List.pairwise_iff_getElem];intro i j hi hj hij;have ab:i < d.size:=by simpa using hi
 have aa:j < d.size:=by simpa using hj
 have:=h i j (bj _) hij (by omega);rw[i9 d j aa,i9 d i ab] at this;exact this
end
end
section
theorem Qff {t:List Txt} (ha:Asc t) {x:Txt} (hx:x∈t):t[below t x]? = some x:=by
 obtain ⟨i,hi,e⟩:=List.getElem_of_mem hx;have h1:t[i]? = some x:=by rw[a2 hi,e]
 rw[Qfe ha h1];exact h1
theorem Kyg {t:List Txt} (ha:Asc t) {x:Txt} (hx:x∈t):numR t x=(below t x,0):=by rw[numR,jf (Qff ha hx)]
def pkS (t:List Txt) (xs:List Txt):List UInt8:=xs.flatMap fun x=>uintT (below t x)
def pk (t:List Txt) (l:List Lb):List UInt8:=uintT l.length++pkS t (texts l)
theorem Kwa (t:List Txt) (x:Txt) (r:List Txt):pkS t (x :: r)=uintT (below t x)++pkS t r:=rfl
theorem Ksb {t:List Txt} (ha:Asc t):∀xs:List Txt,(∀x∈xs,x∈t)->packS t xs=some (pkS t xs)
 | [],_=>rfl
 | x :: r,h=>by rw[packS,Kyg ha (h x (by simp)),Ksb ha r (fun y hy=>h y (by simp[hy]))];simp[Kwa]
theorem Qeh {t:List Txt} (ha:Asc t) {l:List Lb} (he:Kdo l=0) (h:∀x∈texts l,x∈t):packR t l=(pk t l,0):=by rw[packR,he,Ksb ha _ h];simp[pk]
theorem Kzw (t:List Txt):∀xs:List Txt,(pkS t xs).length<=11*xs.length
 | []=>by simp[pkS]
 | x :: r=>by have h1:=Kzw t r;have h2:=Kab (below t x);rw[Kwa,bc,aO];omega
theorem Qei (t:List Txt) (l:List Lb):(pk t l).length<=11+22*l.length:=by
 have h1:=Kzw t (texts l);have h2:=Kab l.length
 have h3:(texts l).length=2*l.length:=by
  clear h1 h2
  induction l with
  | nil=>rfl
  | cons x l ih=>rw[Kjy,aO,aO,ih,aO];omega
 unfold pk;rw[bc];omega
end
section
open Go.RowKit Go.Sort
open Lib renaming hid -> Jh
attribute [local go_sem ↓] Go.wp_at_zero Go.wp_at_succ
attribute [local go_sem] Later.cell
theorem Kjh:∀a b:Txt,be a b=if a < b then -1 else if b < a then 1 else 0
 | [],[]=>by simp[be]
 | [],_ :: _=>by simp[be]
 | _ :: _,[]=>by simp[be]
 | x :: a,y :: b=>by
  have ih:=Kjh a b;rw[be]
  by_cases h1:x < y
  .have:x :: a < y :: b:=a9.2 (.inl h1);rw[jf h1,jf this]
  .by_cases h2:y < x
   .have h3:y :: b < x :: a:=a9.2 (.inl h2);have h4:¬x :: a < y :: b:=fun h=>List.lt_asymm h h3
    rw[je h1,jf h2,je h4,jf h3]
   .have e:x=y:=UInt8.le_antisymm (UInt8.not_lt.1 h2) (UInt8.not_lt.1 h1);subst e;rw[je h1,je h1,ih];have e1:(x :: a < x :: b)↔a < b:=by rw[bh];simp
    have e2:(x :: b < x :: a)↔b < a:=by rw[bh];simp
    by_cases h3:a < b
    .rw[jf h3,jf (e1.2 h3)]
    .rw[je h3,je (fun h=>h3 (e1.1 h))]
     by_cases h4:b < a
     .rw[jf h4,jf (e2.2 h4)]
     .rw[je h4,je (fun h=>h4 (e2.1 h))]
def cmp1 (x y:Lb):Int:=if be x.n y.n≠0 then be x.n y.n else be x.v y.v
theorem Krk (x y:Lb) (a b:List Lb):cmpL (x :: a) (y :: b)=if cmp1 x y≠0 then cmp1 x y else cmpL a b:=by
 rw[cmpL];unfold cmp1;rw[Kjh x.n y.n,Kjh x.v y.v]
 by_cases h1:x.n < y.n
 .simp[h1]
 .by_cases h2:y.n < x.n
  .simp[h1,h2]
  .by_cases h3:x.v < y.v
   .simp[h1,h2,h3]
   .by_cases h4:y.v < x.v
    .simp[h1,h2,h3,h4]
    .simp[h1,h2,h3,h4]
theorem Ksa (g:Nat) (a b:Int) (w:World) (hq:Blk w g 3 #[.int .i64 a,.int .i64 b]) :
  Calls prog 129 #[.slice (some ⟨g,0,none⟩) 2 2] w fun e w'=>e = .returned (.int .i64 (if a≠0 then a else b))/\w=w':=by
 have q0:w.cell? ⟨g,0,none⟩=some (bw .i64 a):=hq.cell 0;have q1:w.cell? ⟨g,1,none⟩=some (bw .i64 b):=hq.cell 1;clear hq
 by_cases h0:a=0
 .subst h0;rw[je (by simp)]
  by_cases h1:b=0
  .subst h1;go_enter func129,ntmps129
   go_wp2_with fail
   refine wp_loop_rounds 3 ?_;rw[rounds_succ];go_wp2_with fail
   rw[rounds_succ];go_wp2_with fail
   rw[rounds_succ];go_wp2_with fail
   go_ret
   exact ⟨rfl,rfl⟩
  .have e1:(b != 0)=true:=by simp[h1]
   go_enter func129,ntmps129
   go_wp2_with fail
   refine wp_loop_rounds 3 ?_;rw[rounds_succ];go_wp2_with fail
   rw[rounds_succ];go_wp2_with fail
   go_ret
   exact ⟨rfl,rfl⟩
 .rw[jf h0];have e1:(a != 0)=true:=by simp[h0]
  go_enter func129,ntmps129
  go_wp2_with fail
  refine wp_loop_rounds 3 ?_;rw[rounds_succ];go_wp2_with fail
  go_ret
  exact ⟨rfl,rfl⟩
theorem Kqc (x y:Lb) (w:World) :
  Calls prog 128 #[.agg #[.string ⟨x.n.toArray⟩,.string ⟨x.v.toArray⟩],.agg #[.string ⟨y.n.toArray⟩,.string ⟨y.v.toArray⟩]] w fun e w'=>e = .returned (.int .i64 (cmp1 x y))/\Below w.heap.size w w':=by
 obtain ⟨ca,ah⟩:=iZ (be x.n y.n);obtain ⟨cb,ag⟩:=iZ (be x.v y.v)
 have ac:∀W:World,Calls prog 130 #[.agg #[.string ⟨x.n.toArray⟩,.string ⟨x.v.toArray⟩],.agg #[.string ⟨y.n.toArray⟩,.string ⟨y.v.toArray⟩]] W fun e w'=>e = .returned (.int .i64 ca)/\Below W.heap.size W w':=fun W=>by have:=Kkm x y W;rwa[ah] at this
 have ae:∀W:World,Calls prog 131 #[.string ⟨x.v.toArray⟩,.string ⟨y.v.toArray⟩] W fun e w'=>e = .returned (.int .i64 cb)/\W=w':=fun W=>by refine (Tryz.strings_Compare ⟨x.v.toArray⟩ ⟨y.v.toArray⟩ W).mono ?_;rintro e w' ⟨rfl,rfl⟩;exact ⟨by rw[<-ag],rfl⟩
 have hr:cmp1 x y=if ca≠0 then ca else cb:=by unfold cmp1;rw[ah,ag]
 obtain ⟨rr,af⟩:=iZ (if ca≠0 then ca else cb);rw[hr,af];have am:=Jh af;clear ah ag hr af;obtain ⟨N,hN⟩:∃N:ByteArray,(⟨x.n.toArray⟩:ByteArray)=N:=⟨_,rfl⟩;obtain ⟨V,hV⟩:∃N:ByteArray,(⟨x.v.toArray⟩:ByteArray)=N:=⟨_,rfl⟩;obtain ⟨N2,ai⟩:∃N:ByteArray,(⟨y.n.toArray⟩:ByteArray)=N:=⟨_,rfl⟩;obtain ⟨V2,ad⟩:∃N:ByteArray,(⟨y.v.toArray⟩:ByteArray)=N:=⟨_,rfl⟩;rw[hN,hV,ai,ad] at ac |-;rw[hV,ad] at ae;have aj:=Jh ac;have an:=Jh ae;clear hN hV ai ad ac ae;go_enter func128,ntmps128
 go_upto_region 1 with fail
 obtain ⟨w1,aa⟩:=iZ ((w.alloc (.cells #[.string N,.string V] 99)).alloc (.cells #[.string N2,.string V2] 99));have al:Below w.heap.size w w1:=by rw[<-aa];exact ((Below.refl _ _).alloc (aW _) _).alloc (by simp) _
 have hq:Blk w1 w.heap.size 99 #[.string N,.string V]:=by rw[<-aa];exact (bD _ _ _).alloc _
 have hp:Blk w1 (w.heap.size+1) 99 #[.string N2,.string V2]:=by rw[<-aa];exact bE (by simp)
 rw[aa];obtain ⟨a,hA⟩:=iZ w.heap.size;rw[hA] at hq hp |-;clear aa;have q0:_=some (bv N):=hq.cell 0;have q1:_=some (bv V):=hq.cell 1;have p0:_=some (bv N2):=hp.cell 0;have p1:_=some (bv V2):=hp.cell 1;have hql:=hq.lt;have hpl:=hp.lt;refine Kal 8 (by kernel_rfl) (by kernel_rfl) ?_;simp only[bm,bs,bn,bt]
 repeat (go_big_quiet_step ((first | (go_at_call 130;exact Kaj _ (aj.out _)) | (go_at_call 131;exact Kpf _ (an.out _)))))
 refine wpQuiet_nil ?_;rintro w2 ⟨⟨_,ak⟩,rfl⟩;have ab:Below w.heap.size w w2:=then_ al ak;go_wp2_with fail
 have hg:Blk (w2.alloc (.cells #[.int .i64 ca,.int .i64 cb] 3)) w2.heap.size 3 #[.int .i64 ca,.int .i64 cb]:=bD _ _ _;refine (Ksa _ ca cb _ hg).mono ?_;rintro _ w3 ⟨rfl,rfl⟩;rw[am.out];go_wp2_with fail
 go_ret
 exact ⟨rfl,by first | exact ab.alloc ab.size _ | (rw[<-hA];exact ab.alloc ab.size _)⟩
theorem Kkp (l m:List Lb) (A B:Option Addr) (n k ca cb:Nat) (w:World) (r:Int) (hr:cmpL l m=r) (hA:Elems w w.heap.size 2 encLb A n l) (hB:Elems w w.heap.size 2 encLb B k m) (hn:n<=140737488351232) (hk:k<=140737488351232) :
  Calls prog 127 #[.slice A n ca,.slice B k cb,.func (.func 128) #[] #[]] w fun e w'=>e = .returned (.int .i64 r)/\Below w.heap.size w w':=by
 have hl:=hA.len;have hm:=hB.len;have HL:=Jh hl;have HM:=Jh hm;have HR:=Jh hr;clear hl hm hr;go_enter func127,ntmps127
 go_wp2_with fail
 go_loopg [13] n (fun g s13 wr=>∃i:Nat,i+g=n/\s13 = .int .i64 (i:Int)/\Below w.heap.size w wr/\i<=k/\cmpL (l.drop i) (m.drop i)=r)
 case atStart=>exact ⟨0,by omega,rfl,Below.refl _ _,bj _,HR.out⟩
 case round=>
  obtain ⟨i,av,rfl,ac,hik,aa⟩:=hrel;have ak:=Jh av;have am:=Jh aa;clear av aa
  by_cases hi:i < n
  .have el:decide ((i:Int) < (n:Int))=true:=by simp;omega
   have el':decide (i < n)=true:=by simp;omega
   have al:i < l.length:=by have:=HL.out;omega
   have ae:l.drop i=l[i]! :: l.drop (i+1):=by rw[i9 l i al];exact aR al
   obtain ⟨ba,oa,rfl,_,_⟩:=hA.2 (by omega);obtain ⟨hba,a0,a1⟩:=Kbi hA (by omega) ac i al;obtain ⟨X,hX⟩:∃N:ByteArray,(⟨l[i]!.n.toArray⟩:ByteArray)=N:=⟨_,rfl⟩;obtain ⟨Y,hY⟩:∃N:ByteArray,(⟨l[i]!.v.toArray⟩:ByteArray)=N:=⟨_,rfl⟩;have HX:=Jh hX;have HY:=Jh hY;have az:=Jh ae;rw[hX] at a0;rw[hY] at a1;clear hX hY ae
   by_cases hk2:i < k
   .have eg:decide ((k:Int)<=(i:Int))=false:=by simp;omega
    have ao:decide (k<=i)=false:=by simp;omega
    have ag:i < m.length:=by have:=HM.out;omega
    have ab:m.drop i=m[i]! :: m.drop (i+1):=by rw[i9 m i ag];exact aR ag
    obtain ⟨bb,ob,rfl,_,_⟩:=hB.2 (by omega);have ad:=fun W=>Kqc l[i]! m[i]! W
    obtain ⟨X2,ar⟩:∃N:ByteArray,(⟨m[i]!.n.toArray⟩:ByteArray)=N:=⟨_,rfl⟩;obtain ⟨Y2,aq⟩:∃N:ByteArray,(⟨m[i]!.v.toArray⟩:ByteArray)=N:=⟨_,rfl⟩;have aF:=Jh ar;have aB:=Jh aq;have aa:=am.out;rw[az.out,ab,Krk] at aa;obtain ⟨c,hc⟩:∃c,cmp1 l[i]! m[i]! = c:=⟨_,rfl⟩;simp only[HX.out,HY.out,ar,aq,hc] at ad;rw[hc] at aa;have aj:=Jh ad;have aA:=Jh aa;clear ar aq ad aa hc ab;go_upto_region 4 with fail
    obtain ⟨w1,ah⟩:=iZ (wr.alloc (.cells #[.string X,.string Y] 99));have ai:Below w.heap.size w w1:=by rw[<-ah];exact ac.alloc ac.size _
    have hq:Blk w1 wr.heap.size 99 #[.string X,.string Y]:=by rw[<-ah];exact bD _ _ _
    rw[ah];obtain ⟨p,hp⟩:=iZ wr.heap.size;rw[hp] at hq |-;obtain ⟨hbb,b0,b1⟩:=Kbi hB (by omega) ai i ag;rw[aF.out] at b0;rw[aB.out] at b1;clear ah hp a0 a1 ac;go_upto_region 7 with fail
    obtain ⟨w2,af⟩:=iZ (w1.alloc (.cells #[.string X2,.string Y2] 99));have aE:Below w.heap.size w w2:=by rw[<-af];exact ai.alloc ai.size _
    have aw:Blk w2 p 99 #[.string X,.string Y]:=by rw[<-af];exact hq.alloc _
    have an:Blk w2 w1.heap.size 99 #[.string X2,.string Y2]:=by rw[<-af];exact bD _ _ _
    rw[af];obtain ⟨p2,ax⟩:=iZ w1.heap.size;rw[ax] at an |-;clear af ax b0 b1 ai hq;have q0:_=some (bv X):=aw.cell 0;have q1:_=some (bv Y):=aw.cell 1;have r0:_=some (bv X2):=an.cell 0;have r1:_=some (bv Y2):=an.cell 1;go_wp2_with fail
    refine (aj.out w2).mono ?_;rintro _ w3 ⟨rfl,aC⟩;have ay:=then_ aE aC
    by_cases h0:c=0
    .subst h0;have h1:=aA.out;rw[je (by simp)] at h1;have ap:=Jh h1;clear h1;go_wp2_with fail
     go_roundg (gk - 1)
     case measure=>have:=ak.out;omega
     case rel=>exact ⟨i+1,by have:=ak.out;omega,by go_num,ay,by omega,ap.out⟩
    .have e0:(c != 0)=true:=by simp[h0]
     have h1:=aA.out;rw[jf h0] at h1;have ap:=Jh h1;clear h1;go_wp2_with fail
     go_ret
     exact ⟨by rw[<-ap.out];rfl,ay⟩
   .have eg:decide ((k:Int)<=(i:Int))=true:=by simp;omega
    have ao:decide (k<=i)=true:=by simp;omega
    have ab:m.drop i = []:=aU (by have:=HM.out;omega);have aa:=am.out;rw[az.out,ab] at aa;have h1:(1:Int)=r:=aa;have H1:=Jh h1;clear ab aa h1;go_wp2_with fail
    go_ret
    exact ⟨by rw[<-H1.out];rfl,ac.alloc ac.size _⟩
  .have aD:i=n:=by have:=ak.out;omega
   subst aD;have ae:l.drop i = []:=aU (by have:=HL.out;omega);have aa:=am.out;rw[ae] at aa;have el:decide ((i:Int) < (i:Int))=false:=by simp
   by_cases hk2:i < k
   .have eg:decide ((i:Int) < (k:Int))=true:=by simp;omega
    have ao:decide (i < k)=true:=by simp;omega
    have ag:i < m.length:=by have:=HM.out;omega
    have ab:m.drop i=m[i] :: m.drop (i+1):=aR ag;rw[ab] at aa;have h1:(-1:Int)=r:=aa;have H1:=Jh h1;clear ab aa h1 ae;go_wp2_with fail
    go_ret
    exact ⟨by rw[<-H1.out];rfl,ac⟩
   .have eg:decide ((i:Int) < (k:Int))=false:=by simp;omega
    have ao:decide (i < k)=false:=by simp;omega
    have ab:m.drop i = []:=aU (by have:=HM.out;omega);rw[ab] at aa;have h1:(0:Int)=r:=aa;have H1:=Jh h1;clear ab aa h1 ae;go_wp2_with fail
    go_ret
    exact ⟨by rw[<-H1.out];rfl,ac⟩
theorem Kql (l m:List Lb) (A B:Option Addr) (n k ca cb:Nat) (w:World) (r:Int) (hr:cmpL l m=r) (hA:Elems w w.heap.size 2 encLb A n l) (hB:Elems w w.heap.size 2 encLb B k m) (hn:n<=140737488351232) (hk:k<=140737488351232) :
  Calls prog 60 #[.slice A n ca,.slice B k cb] w fun e w'=>e = .returned (.int .i64 r)/\Below w.heap.size w w':=by
 have HC:=Jh (Kkp l m A B n k ca cb w r hr hA hB hn hk);clear hr;go_enter func60,ntmps60
 go_wp2_with fail
 refine HC.out.mono ?_;rintro _ w1 ⟨rfl,hb⟩;go_wp2_with fail
 go_ret
 exact ⟨rfl,hb⟩
end
section
open Go.RowKit Go.Sort
open Lib renaming hid -> Jh
attribute [local go_sem ↓] Go.wp_at_zero Go.wp_at_succ
def Grown (w w':World):Prop:=∃p:GrownBy,w'=grow (w.drewN p.n) p.os
section
variable {w w1 w2 : World}
theorem Grown.of (w:World) (q:Nat) (os:Array Obj):Grown w (grow (w.drewN q) os):=⟨⟨q,os⟩,rfl⟩
theorem Grown.refl (w:World):Grown w w:=⟨⟨0,#[]⟩,by rw[grow_empty];rfl⟩
theorem Grown.trans (h:Grown w w1) (k:Grown w1 w2):Grown w w2:=by obtain ⟨p,rfl⟩:=h;obtain ⟨q,rfl⟩:=k;exact ⟨⟨p.n+q.n,p.os++q.os⟩,by show grow (grow ((w.drewN p.n).drewN q.n) p.os) q.os=_;rw[grow_grow,World.drewN_drewN]⟩
theorem Grown.below (h:Grown w w1):Below w.heap.size w w1:=by obtain ⟨p,rfl⟩:=h;exact below_grown w p.n p.os
theorem Grown.alloc (h:Grown w w1) (o:Obj):Grown w (w1.alloc o):=h.trans ⟨⟨0,#[o]⟩,by rw[alloc_eq_grow];rfl⟩
theorem Grown.drew (h:Grown w w1):Grown w w1.drew:=h.trans ⟨⟨1,#[]⟩,by rw[grow_empty];rfl⟩
end
structure Kbu (w0:World) where
 w:World
 h:Grown w0 w
instance Kbu.some {w:World}:Nonempty (Kbu w):=⟨⟨w,Grown.refl _⟩⟩
theorem Kbu.cell {w:World} (x:Kbu w) (b o:Nat) (hb:b < w.heap.size):x.w.cell? ⟨b,o,none⟩=w.cell? ⟨b,o,none⟩:=x.h.below.cell (p:=⟨b,o,none⟩) hb
attribute [local go_sem] Kbu.cell
theorem Kas {P:Program} {f:FuncId} {args:Array Value} {w:World} (x:Kbu w) {v:Value} (h:Calls P f args x.w fun e w'=>e = .returned v/\Grown x.w w') :
  Calls P f args x.w fun e w''=>e = .returned v/\∃y:Kbu w,w''=y.w:=
 h.mono fun _ w' ⟨he,hb⟩=>⟨he,⟨w',x.h.trans hb⟩,rfl⟩
theorem Kys {P:Program} {f:FuncId} {args:Array Value} {w:World} (x:Kbu w) {v:Value} (h:Calls P f args x.w fun e w'=>e = .returned v/\x.w=w') :
  Calls P f args x.w fun e w''=>e = .returned v/\∃y:Kbu w,w''=y.w:=
 h.mono fun _ _ ⟨he,hb⟩=>⟨he,x,hb.symm⟩
theorem Kar {P:Program} {id:Nat} {Q:Exit->Act->World->Prop} {a:Act} {w:World} {l:List Oper} (n:Nat) (hm:P.follows .mixedOrders=true) (hB:Region.lexTailB .any l.toArray n=true)
  (h:wpQuiet P l.toArray (fun w'=>∃x:Kbu w,w'=x.w) (fun a'=>∀w',(∃x:Kbu w,w'=x.w)->wpList P l.toArray Q (l.drop n) a' w') (l.take n) a):(Code.region id l.toArray true).wp P Q a w:=
 Kfm (C:=fun w'=>∃x:Kbu w,w'=x.w) n hm hB ⟨⟨w.drew,(Grown.refl _).drew⟩,rfl⟩ h
theorem Qhk (x y:Lb) (W:World) :
  Calls prog 130 #[.agg #[.string ⟨x.n.toArray⟩,.string ⟨x.v.toArray⟩],.agg #[.string ⟨y.n.toArray⟩,.string ⟨y.v.toArray⟩]] W fun e w'=>e = .returned (.int .i64 (be x.n y.n))/\Grown W w':=by
 refine (Khc x y W).mono ?_;rintro e w' ⟨he,q,os,rfl⟩;exact ⟨he,Grown.of _ _ _⟩
theorem Koh (x y:Lb) (w:World) :
  Calls prog 128 #[.agg #[.string ⟨x.n.toArray⟩,.string ⟨x.v.toArray⟩],.agg #[.string ⟨y.n.toArray⟩,.string ⟨y.v.toArray⟩]] w fun e w'=>e = .returned (.int .i64 (cmp1 x y))/\Grown w w':=by
 obtain ⟨ca,ag⟩:=iZ (be x.n y.n);obtain ⟨cb,af⟩:=iZ (be x.v y.v)
 have ab:∀W:World,Calls prog 130 #[.agg #[.string ⟨x.n.toArray⟩,.string ⟨x.v.toArray⟩],.agg #[.string ⟨y.n.toArray⟩,.string ⟨y.v.toArray⟩]] W fun e w'=>e = .returned (.int .i64 ca)/\Grown W w':=fun W=>by have:=Qhk x y W;rwa[ag] at this
 have ad:∀W:World,Calls prog 131 #[.string ⟨x.v.toArray⟩,.string ⟨y.v.toArray⟩] W fun e w'=>e = .returned (.int .i64 cb)/\W=w':=fun W=>by refine (Tryz.strings_Compare ⟨x.v.toArray⟩ ⟨y.v.toArray⟩ W).mono ?_;rintro e w' ⟨rfl,rfl⟩;exact ⟨by rw[<-af],rfl⟩
 have hr:cmp1 x y=if ca≠0 then ca else cb:=by unfold cmp1;rw[ag,af]
 obtain ⟨rr,ae⟩:=iZ (if ca≠0 then ca else cb);rw[hr,ae];have am:=Jh ae;clear ag af hr ae;obtain ⟨N,hN⟩:∃N:ByteArray,(⟨x.n.toArray⟩:ByteArray)=N:=⟨_,rfl⟩;obtain ⟨V,hV⟩:∃N:ByteArray,(⟨x.v.toArray⟩:ByteArray)=N:=⟨_,rfl⟩;obtain ⟨N2,ah⟩:∃N:ByteArray,(⟨y.n.toArray⟩:ByteArray)=N:=⟨_,rfl⟩;obtain ⟨V2,ac⟩:∃N:ByteArray,(⟨y.v.toArray⟩:ByteArray)=N:=⟨_,rfl⟩;rw[hN,hV,ah,ac] at ab |-;rw[hV,ac] at ad;have aj:=Jh ab;have an:=Jh ad;clear hN hV ah ac ab ad;go_enter func128,ntmps128
 go_upto_region 1 with fail
 obtain ⟨w1,aa⟩:=iZ ((w.alloc (.cells #[.string N,.string V] 99)).alloc (.cells #[.string N2,.string V2] 99));have al:Grown w w1:=by rw[<-aa];exact ((Grown.refl _).alloc _).alloc _
 have hq:Blk w1 w.heap.size 99 #[.string N,.string V]:=by rw[<-aa];exact (bD _ _ _).alloc _
 have hp:Blk w1 (w.heap.size+1) 99 #[.string N2,.string V2]:=by rw[<-aa];exact bE (by simp)
 rw[aa];obtain ⟨a,hA⟩:=iZ w.heap.size;rw[hA] at hq hp |-;clear aa;have q0:_=some (bv N):=hq.cell 0;have q1:_=some (bv V):=hq.cell 1;have p0:_=some (bv N2):=hp.cell 0;have p1:_=some (bv V2):=hp.cell 1;have hql:=hq.lt;have hpl:=hp.lt;refine Kar 8 (by kernel_rfl) (by kernel_rfl) ?_;simp only[bm,bs,bn,bt]
 repeat (go_big_quiet_step ((first | (go_at_call 130;exact Kas _ (aj.out _)) | (go_at_call 131;exact Kys _ (an.out _)))))
 refine wpQuiet_nil ?_;rintro w2 ⟨⟨_,ak⟩,rfl⟩;have ai:Grown w w2:=al.trans ak;go_wp2_with fail
 have hg:Blk (w2.alloc (.cells #[.int .i64 ca,.int .i64 cb] 3)) w2.heap.size 3 #[.int .i64 ca,.int .i64 cb]:=bD _ _ _;refine (Ksa _ ca cb _ hg).mono ?_;rintro _ w3 ⟨rfl,rfl⟩;rw[am.out];go_wp2_with fail
 go_ret
 exact ⟨rfl,by first | exact ai.alloc _ | (rw[<-hA];exact ai.alloc _)⟩
theorem Kkh (l m:List Lb) (A B:Option Addr) (n k ca cb:Nat) (w:World) (r:Int) (hr:cmpL l m=r) (hA:Elems w w.heap.size 2 encLb A n l) (hB:Elems w w.heap.size 2 encLb B k m) (hn:n<=140737488351232) (hk:k<=140737488351232) :
  Calls prog 127 #[.slice A n ca,.slice B k cb,.func (.func 128) #[] #[]] w fun e w'=>e = .returned (.int .i64 r)/\Grown w w':=by
 have hl:=hA.len;have hm:=hB.len;have HL:=Jh hl;have HM:=Jh hm;have HR:=Jh hr;clear hl hm hr;go_enter func127,ntmps127
 go_wp2_with fail
 go_loopg [13] n (fun g s13 wr=>∃i:Nat,i+g=n/\s13 = .int .i64 (i:Int)/\Grown w wr/\i<=k/\cmpL (l.drop i) (m.drop i)=r)
 case atStart=>exact ⟨0,by omega,rfl,Grown.refl _,bj _,HR.out⟩
 case round=>
  obtain ⟨i,av,rfl,ae,hik,aa⟩:=hrel;have aj:=Jh av;have am:=Jh aa;clear av aa
  by_cases hi:i < n
  .have el:decide ((i:Int) < (n:Int))=true:=by simp;omega
   have el':decide (i < n)=true:=by simp;omega
   have al:i < l.length:=by have:=HL.out;omega
   have ad:l.drop i=l[i]! :: l.drop (i+1):=by rw[i9 l i al];exact aR al
   obtain ⟨ba,oa,rfl,_,_⟩:=hA.2 (by omega);obtain ⟨hba,a0,a1⟩:=Kbi hA (by omega) ae.below i al;obtain ⟨X,hX⟩:∃N:ByteArray,(⟨l[i]!.n.toArray⟩:ByteArray)=N:=⟨_,rfl⟩;obtain ⟨Y,hY⟩:∃N:ByteArray,(⟨l[i]!.v.toArray⟩:ByteArray)=N:=⟨_,rfl⟩;have HX:=Jh hX;have HY:=Jh hY;have az:=Jh ad;rw[hX] at a0;rw[hY] at a1;clear hX hY ad
   by_cases hk2:i < k
   .have eg:decide ((k:Int)<=(i:Int))=false:=by simp;omega
    have ao:decide (k<=i)=false:=by simp;omega
    have ag:i < m.length:=by have:=HM.out;omega
    have ab:m.drop i=m[i]! :: m.drop (i+1):=by rw[i9 m i ag];exact aR ag
    obtain ⟨bb,ob,rfl,_,_⟩:=hB.2 (by omega);have ac:=fun W=>Koh l[i]! m[i]! W
    obtain ⟨X2,ar⟩:∃N:ByteArray,(⟨m[i]!.n.toArray⟩:ByteArray)=N:=⟨_,rfl⟩;obtain ⟨Y2,aq⟩:∃N:ByteArray,(⟨m[i]!.v.toArray⟩:ByteArray)=N:=⟨_,rfl⟩;have aF:=Jh ar;have aB:=Jh aq;have aa:=am.out;rw[az.out,ab,Krk] at aa;obtain ⟨c,hc⟩:∃c,cmp1 l[i]! m[i]! = c:=⟨_,rfl⟩;simp only[HX.out,HY.out,ar,aq,hc] at ac;rw[hc] at aa;have ai:=Jh ac;have aA:=Jh aa;clear ar aq ac aa hc ab;go_upto_region 4 with fail
    obtain ⟨w1,ah⟩:=iZ (wr.alloc (.cells #[.string X,.string Y] 99));have ak:Grown w w1:=by rw[<-ah];exact ae.alloc _
    have hq:Blk w1 wr.heap.size 99 #[.string X,.string Y]:=by rw[<-ah];exact bD _ _ _
    rw[ah];obtain ⟨p,hp⟩:=iZ wr.heap.size;rw[hp] at hq |-;obtain ⟨hbb,b0,b1⟩:=Kbi hB (by omega) ak.below i ag;rw[aF.out] at b0;rw[aB.out] at b1;clear ah hp a0 a1 ae;go_upto_region 7 with fail
    obtain ⟨w2,af⟩:=iZ (w1.alloc (.cells #[.string X2,.string Y2] 99));have aE:Grown w w2:=by rw[<-af];exact ak.alloc _
    have aw:Blk w2 p 99 #[.string X,.string Y]:=by rw[<-af];exact hq.alloc _
    have an:Blk w2 w1.heap.size 99 #[.string X2,.string Y2]:=by rw[<-af];exact bD _ _ _
    rw[af];obtain ⟨p2,ax⟩:=iZ w1.heap.size;rw[ax] at an |-;clear af ax b0 b1 ak hq;have q0:_=some (bv X):=aw.cell 0;have q1:_=some (bv Y):=aw.cell 1;have r0:_=some (bv X2):=an.cell 0;have r1:_=some (bv Y2):=an.cell 1;go_wp2_with fail
    refine (ai.out w2).mono ?_;rintro _ w3 ⟨rfl,aC⟩;have ay:=aE.trans aC
    by_cases h0:c=0
    .subst h0;have h1:=aA.out;rw[je (by simp)] at h1;have ap:=Jh h1;clear h1;go_wp2_with fail
     go_roundg (gk - 1)
     case measure=>have:=aj.out;omega
     case rel=>exact ⟨i+1,by have:=aj.out;omega,by go_num,ay,by omega,ap.out⟩
    .have e0:(c != 0)=true:=by simp[h0]
     have h1:=aA.out;rw[jf h0] at h1;have ap:=Jh h1;clear h1;go_wp2_with fail
     go_ret
     exact ⟨by rw[<-ap.out];rfl,ay⟩
   .have eg:decide ((k:Int)<=(i:Int))=true:=by simp;omega
    have ao:decide (k<=i)=true:=by simp;omega
    have ab:m.drop i = []:=aU (by have:=HM.out;omega);have aa:=am.out;rw[az.out,ab] at aa;have h1:(1:Int)=r:=aa;have H1:=Jh h1;clear ab aa h1;go_wp2_with fail
    go_ret
    exact ⟨by rw[<-H1.out];rfl,ae.alloc _⟩
  .have aD:i=n:=by have:=aj.out;omega
   subst aD;have ad:l.drop i = []:=aU (by have:=HL.out;omega);have aa:=am.out;rw[ad] at aa;have el:decide ((i:Int) < (i:Int))=false:=by simp
   by_cases hk2:i < k
   .have eg:decide ((i:Int) < (k:Int))=true:=by simp;omega
    have ao:decide (i < k)=true:=by simp;omega
    have ag:i < m.length:=by have:=HM.out;omega
    have ab:m.drop i=m[i] :: m.drop (i+1):=aR ag;rw[ab] at aa;have h1:(-1:Int)=r:=aa;have H1:=Jh h1;clear ab aa h1 ad;go_wp2_with fail
    go_ret
    exact ⟨by rw[<-H1.out];rfl,ae⟩
   .have eg:decide ((i:Int) < (k:Int))=false:=by simp;omega
    have ao:decide (i < k)=false:=by simp;omega
    have ab:m.drop i = []:=aU (by have:=HM.out;omega);rw[ab] at aa;have h1:(0:Int)=r:=aa;have H1:=Jh h1;clear ab aa h1 ad;go_wp2_with fail
    go_ret
    exact ⟨by rw[<-H1.out];rfl,ae⟩
theorem Kea (l m:List Lb) (A B:Option Addr) (n k ca cb:Nat) (w:World) (r:Int) (hr:cmpL l m=r) (hA:Elems w w.heap.size 2 encLb A n l) (hB:Elems w w.heap.size 2 encLb B k m) (hn:n<=140737488351232) (hk:k<=140737488351232) :
  Calls prog 60 #[.slice A n ca,.slice B k cb] w fun e w'=>e = .returned (.int .i64 r)/\Grown w w':=by
 have HC:=Jh (Kkh l m A B n k ca cb w r hr hA hB hn hk);clear hr;go_enter func60,ntmps60
 go_wp2_with fail
 refine HC.out.mono ?_;rintro _ w1 ⟨rfl,hb⟩;go_wp2_with fail
 go_ret
 exact ⟨rfl,hb⟩
end
section
open Go.Shelf Go.RowKit Go.Lib Go.Sort
section
variable {α : Type} [Inhabited α] {enc : α -> List Value} {k : Nat} {w0 W : World} {blk off : Nat} {dk d0 : Array α}
theorem Kyw (hk:∀x,(enc x).length=k) (d:Array α) (i:Nat) (x:α) (hi:i < d.size):setMany (flatK enc k d) (i*k) (enc x)=flatK enc k (d.setIfInBounds i x):=by
 refine ext_get! (by simp) fun t ht=>?_
 have aa:t < d.size*k:=by simpa using ht
 have k0:0 < k:=by
  rcases bo k with h | h
  .subst h;simp at aa
  .exact h
 rw[get_setMany _ _ _ t (by simpa using aa),get_flatK _ _ _ t aa,get_flatK _ _ _ t (by simpa using aa),hk]
 by_cases b:t / k=i
 .rw[jf ((blk_iff k i t k0).2 b),b,getElem!_set_same d i x hi];subst b;rw[Nat.mod_eq_sub_div_mul]
 .rw[je (fun h=>b ((blk_iff k i t k0).1 h)),getElem!_set_other d i _ x b]
theorem SWK.put (h:SWK enc k w0 blk off dk W) (R:RowK enc k w0 blk off d0) (i:Nat) (hi:i < dk.size) (x:α):SWK enc k w0 blk off (dk.setIfInBounds i x) (W.setCells blk (off+i*k) (enc x)):=by obtain ⟨m,os,rfl⟩:=h;refine ⟨m,os,?_⟩;unfold sortWorldK;rw[setCells_grow os blk _ _ _ (by show blk < (putRowK enc k _ blk off dk).heap.size;rw[size_putRowK];exact R.hblk)];congr 1;unfold putRowK;rw[setCells_putRow _ _ _ _ _ _ (by rw[R.hk,size_flatK];exact rowK_bnd dk k i hi),Kyw R.hk dk i x hi]
theorem SWK.st (h:SWK enc k w0 blk off dk W) (R:RowK enc k w0 blk off d0) (hs:dk.size=d0.size) (P:Program) (i:Nat) (hi:i < dk.size) (y:α) :
  bC P (storeCells ⟨blk,off+i*k,none⟩ (enc y) 0) W = .ok () (W.setCells blk (off+i*k) (enc y)):=
 stores_of_holds P (h.holds R.hblk R.hH hs) (i*k) _ (by rw[R.hk,size_flatK];exact rowK_bnd dk k i hi) (R.h1 _)
theorem SWK.of_grown (h:SWK enc k w0 blk off dk W) {w':World} (hg:Grown W w'):SWK enc k w0 blk off dk w':=by obtain ⟨⟨q,os⟩,rfl⟩:=hg;exact h.grown q os
theorem SWK.by (h:SWK enc k w0 blk off dk W):w0.grownBy W (some blk):=by
 obtain ⟨m,os,rfl⟩:=h;refine ⟨rfl,rfl,rfl,?_,?_⟩
 .simp[sortWorldK,grow,putRowK,putRow,mapBlock,Sort.ahead]
 .intro j hj hne;have hb:¬blk=j:=fun e=>hne (by rw[e])
  simp only[sortWorldK,grow,putRowK,putRow,mapBlock,Sort.ahead];rw[bl (by simpa using hj),bp,je hb]
omit [Inhabited α] in
theorem Klm {A B:List α} {x y:α} {i:Nat} (h:i=A.length):(A++x :: B).toArray.setIfInBounds i y=(A++y :: B).toArray:=by subst h;apply Array.ext';simp
def Kny (P:Program) (g:Nat) (cb:Array Value) (enc:α->List Value) (k:Nat) (ef:α->α->Bool) (blk off size:Nat) (w:World):Prop:=
 ∀(W:World) (dk:Array α),dk.size=size->SWK enc k w blk off dk W->∀x y:α,
  Calls P g (#[.agg (enc x).toArray,.agg (enc y).toArray]++cb) W fun e w'=>e = .returned (.bool (ef x y))/\∃q os',w'=grow (W.drewN q) os'
end
section
variable {α : Type}
def ddE (ef:α->α->Bool):α->List α->List α
 | _,[]=>[]
 | p,y :: l=>if ef y p then ddE ef y l else y :: ddE ef y l
def dupE (ef:α->α->Bool):List α->List α
 | []=>[]
 | x :: l=>x :: ddE ef x l
theorem Knh (k:α->Int) (ef:α->α->Bool) (he:∀x y,ef x y=decide (k x=k y)):∀(n:Nat) (x p:α) (l:List α),l.length<=n->k x=k p->compO k (x :: l)=x :: ddE ef p l
 | _,x,p,[],_,_=>by rw[compO,ddE]
 | 0,_,_,y :: l,h,_=>by simp at h
 | n+1,x,p,y :: l,h,hp=>by
  rw[compO,ddE,he]
  by_cases hxy:k x=k y
  .rw[jf hxy,jf (by rw[i8];omega)];exact Knh k ef he n x y l (by simp only[aO] at h |-;omega) hxy
  .rw[je hxy,je (by rw[i8];omega)];rw[Knh k ef he n y y l (by simp only[aO] at h |-;omega) rfl]
theorem Qiw (k:α->Int) (ef:α->α->Bool) (he:∀x y,ef x y=decide (k x=k y)) (l:List α):dupE ef l=compO k l:=by
 cases l with
 | nil=>rw[dupE,compO]
 | cons x l=>rw[dupE,Knh k ef he l.length x x l (aW _) rfl]
def cfT (k:α->Int) (x y:α):Int:=if k x < k y then -1 else if k y < k x then 1 else 0
theorem ltT (k:α->Int) (x y:α):ltOf (cfT k) x y=decide (k x < k y):=by
 unfold ltOf cfT;rw[decide_eq_decide]
 split
 .simp_all
 .split
  .simp;omega
  .simp;omega
theorem swoT (k:α->Int):SWO (ltOf (cfT k)) where
 irrefl x:=by rw[ltT];simp
 trans x y z h1 h2:=by rw[ltT,i8] at h1 h2 |-;omega
 ntrans x y z h1 h2:=by rw[ltT,jb] at h1 h2 |-;omega
theorem Ksl (k:α->Int) (ef:α->α->Bool) (he:∀x y,ef x y=decide (k x=k y)) {xs ys:List α} (h:Stab (ltOf (cfT k)) xs ys):Kbe k xs (dupE ef ys):=by
 rw[Qiw k ef he];refine Qea k (h.asc.imp fun h=>?_) fun t=>?_
 .rw[ltT,jb] at h;omega
 .by_cases hex:∃z∈xs,k z=t
  .obtain ⟨z,_,rfl⟩:=hex;have:=h.keep z
   have e:eqv (ltOf (cfT k)) z=fun y=>k y == k z:=by
    funext y;unfold eqv;rw[ltT,ltT];rcases (by omega:k z < k y\/k y < k z\/k y=k z) with h | h | h
    .rw[jd h,show (k y == k z)=false by rw[jg];omega];rfl
    .rw[jd h,show (k y == k z)=false by rw[jg];omega];simp
    .rw[h];simp
   rw[e] at this;exact this
  .have h1:xs.filter (fun y=>k y == t) = []:=by
    rw[bf];intro a ha he;exact hex ⟨a,ha,by simpa using he⟩
   have h2:ys.filter (fun y=>k y == t) = []:=by rw[bf];intro a ha he;exact hex ⟨a,h.perm.mem_iff.1 ha,by simpa using he⟩
   rw[h1,h2]
end
end
end Go.Proofs.YtdoiekknhnbepaaGreatDoor
