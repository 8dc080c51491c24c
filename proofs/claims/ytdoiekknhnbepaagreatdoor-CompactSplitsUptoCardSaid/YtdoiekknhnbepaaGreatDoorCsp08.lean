/- Merged (what the claim wants of): MrgStabP, MrgOnceP, MrgCompW, MrgSortW. -/
import Derived.Test.YtdoiekknhnbepaaGreatDoorCsp07
set_option linter.unusedVariables false
set_option linter.unusedSimpArgs false
set_option maxRecDepth 1000000
set_option maxHeartbeats 8000000
namespace Go.Proofs.YtdoiekknhnbepaaGreatDoor
open IntKind renaming wrap_i64->a1,i64->a5
open Calls renaming mono->a6,grown_of->a7
open List renaming length_eq_one_iff->a9,length->ba
open Sem renaming run->bb
open Value renaming int->be,func->bk
open World.ownsRow renaming alloc->bl,lt->bm
open Ending renaming returned->bn
open Tryz
open List renaming length_cons->aP,length_nil->aQ,append_assoc->aR,size_toArray->aS,eq_nil_of_length_eq_zero->aT,take_append_drop->aU,append_nil->aW,length_take->aY,concat_eq_append->aZ,take_succ_cons->a8,drop_succ_cons->bc,take_length->bd,length_drop->bg,take_left'->bh,take_zero->bi,drop_zero->bj
open Nat renaming lt_or_ge->aV,le_refl->aX
open Bool renaming noConfusion->bf
section
open List renaming length_append -> Jd
attribute [-go_sem] loadCells
open Go.Shelf Go.RowKit Go.Lib Go.Sort
section
variable {α : Type} [Inhabited α] {enc : α -> List Value} {cf : α -> α -> Int} {d0 : Array α} {w0 : World} {blk off cap g N : Nat} {cb : Array Value}
def Kvn:Go.Shelf.Ren:=⟨fun | 20=>224 | n=>n,fun | 0=>0 | 3=>3 | 4=>4 | 22=>55 | 24=>102 | 25=>225 | n=>n,fun | n=>n⟩
theorem Qfx:SlLaysF0.n20 prog Kvn:={
 mixed:=by kernel_rfl
 f20:=⟨Tryz.f224.name,by decide,func224.trans (jk some (by kernel_rfl))⟩
 t0:=underlying0
 a0:=isAgg0
 z0:=sizeOf0
 v0:=zeroValue0
 t3:=underlying3
 a3:=isAgg3
 z3:=sizeOf3
 v3:=zeroValue3
 t4:=underlying4
 a4:=isAgg4
 z4:=sizeOf4
 v4:=zeroValue4
 t22:=underlying55
 a22:=isAgg55
 z22:=sizeOf55
 v22:=zeroValue55
 t25:=underlying225
 a25:=isAgg225
 z25:=sizeOf225
 v25:=zeroValue225 }
theorem Kte (SW:SWO (ltOf cf)) (eg:∀args w,(callFunc g args).run prog w = .ok (.enter g args) w) (hcmp:CmpLays prog g cb enc 2 cf blk off d0.size w0) (R:RowK enc 2 w0 blk off d0) (hN:d0.size=N) (hsz:N < 1152921504606846976) (A Y S:List α) (a b:Nat) (w:World) (hl:A.length+Y.length+S.length=N) (ha:a=A.length) (hb:b=a+Y.length) (S0:SWK enc 2 w0 blk off (A++(Y++S)).toArray w) :
  Calls prog 224 #[.slice (some ⟨blk,off,none⟩) N cap,.int .i64 a,.int .i64 b,.func (.func g) #[] cb] w fun e w'=>e = .returned (.tuple #[])/\∃Z,Stab (ltOf cf) Y Z/\SWK enc 2 w0 blk off (A++(Z++S)).toArray w':=by
 have aa:(A++(Y++S)).toArray.size=N:=by simp only[aS,Jd];omega
 have h:=AnyQ.insertionSortCmpFunc Qfx 2 isAgg102 sizeOf102 enc R.hk R.h1 cf g cb blk off cap a b (A++(Y++S)).toArray w eg ?_ (S0.holds R.hblk R.hH (by rw[aa,hN])) (S0.lt R.hblk) (by omega) (by rw[aa];omega) (by rw[aa];omega)
 .rw[aa] at h;refine a6 h ?_;rintro _ w' ⟨rfl,n,os,rfl⟩;refine ⟨rfl,?_⟩;rcases Nat.eq_zero_or_pos Y.length with h0 | h0
  .have:Y = []:=aT h0;subst this;refine ⟨[],Stab.nil,?_⟩;have e:=Kfo (lt:=ltOf cf) A S;rw[show b=A.length by simpa[ha] using hb,ha,show A++([]++S)=A++S from rfl,e];exact S0.on R.hblk _ _ _ rfl
  .obtain ⟨Z,hz,e⟩:=Kfi SW A Y S h0;refine ⟨Z,hz,?_⟩;rw[hb,ha,e];exact S0.on R.hblk _ _ _ (by simp only[aS,Jd,hz.len])
 .intro m os dk hdk x y;obtain ⟨m2,ab,hw⟩:=S0.on R.hblk m dk os (by rw[hdk]);rw[hw];exact hcmp m2 ab dk (by rw[hdk,aa,hN]) x y
theorem Ktr (SW:SWO (ltOf cf)) (eg:∀args w,(callFunc g args).run prog w = .ok (.enter g args) w) (hcmp:CmpLays prog g cb enc 2 cf blk off d0.size w0) (R:RowK enc 2 w0 blk off d0) (hN:d0.size=N) (hsz:N < 1152921504606846976) (xs:List α) (w:World) (hl:xs.length=N) (S0:SWK enc 2 w0 blk off xs.toArray w) :
  Calls prog 180 #[.slice (some ⟨blk,off,none⟩) N cap,.int .i64 N,.func (.func g) #[] cb] w fun e w'=>e = .returned (.tuple #[])/\∃ys,Stab (ltOf cf) xs ys/\SWK enc 2 w0 blk off ys.toArray w':=by
 have mixed:prog.follows .mixedOrders=true:=by kernel_rfl
 have S1:Aside (SWK enc 2 w0 blk off ([]++xs).toArray w):=S0;have HN:Hid (d0.size=N/\xs.length=N):=⟨hN,hl⟩;have hb:=R.hblk;have ag:=Kte (cap:=cap) SW eg hcmp R hN hsz;have ah:=Kij (cap:=cap) SW eg hcmp R hN (by omega);have HI:Aside _:=ag;have HS:Aside _:=ah;clear S0 hl hN hb ag ah hcmp;go_enter func180,ntmps180
 go_wp2
 go_loopg [7,8] (N+1) (fun kx s7 s8 wr=>∃(a b:Nat) (xZ xR Z:List α),s7 = .int .i64 a/\s8 = .int .i64 b/\a<=N/\a < b/\b<=N+20/\N+1<=a+kx/\Hid (b=a+20/\xs=xZ++xR/\xZ.length=a/\Whole (ltOf cf) 20 xZ Z)/\Aside (SWK enc 2 w0 blk off (Z++xR).toArray wr))
 case atStart=>exact ⟨0,20,[],xs,[],rfl,rfl,by omega,by omega,by omega,by omega,⟨rfl,rfl,rfl,.nil⟩,S1⟩
 case round=>
  clear S1;obtain ⟨a,b,xZ,xR,Z,rfl,rfl,an,am,ao,hk,HB,S1⟩:=hrel;have hZ:Z.length=a:=by rw[HB.out.2.2.2.len];exact HB.out.2.2.1
  have hR:a+xR.length=N:=by have q:=HB.out;have q2:=HN.out.2;rw[q.2.1,Jd] at q2;omega
  rcases aV N b with hlt | hge
  .have ai:¬(b:Int)<=(N:Int):=by omega
   have hc:=HI.out Z xR [] a N wr (by simp only[aQ];omega) (by omega) (by omega) (by rw[aW];exact S1.out);have HC:Aside _:=hc;clear hc S1 hZ hR;go_wp2_with fail
   refine a6 HC.out ?_;rintro _ w3 ⟨rfl,z1,ae,h3⟩
   have al:Hid (Blks (ltOf cf) 20 xs (Z++z1)):=by
    have q:=HB.out;have q2:=HN.out;have q4:xZ.length+xR.length=N:=by rw[<-Jd,<-q.2.1];exact q2.2
    show Blks _ _ _ _
    rw[q.2.1];exact q.2.2.2.close (.last (by omega) ae)
   rw[aW] at h3;have S1:Aside (SWK enc 2 w0 blk off (Z++z1).toArray w3):=h3;clear h3 ae HB HC hk am ao an hlt ai;generalize Z++z1=ys0 at S1 al;clear Z z1 xZ xR;go_wp2_with fail
   go_loopg [6] (N+1) (fun kx s6 wr=>∃(c:Nat) (ys:List α),s6 = .int .i64 c/\0 < c/\c<=2*N+20/\N+1<=c+kx/\Hid (Blks (ltOf cf) c xs ys)/\Aside (SWK enc 2 w0 blk off ys.toArray wr))
   case atStart=>exact ⟨20,ys0,rfl,by omega,by omega,by omega,al,S1⟩
   case round=>
    clear S1 al;obtain ⟨c,ys,rfl,ak,hcN,hk,HB,S1⟩:=hrel;rcases aV c N with hlt | hge
    .have ai:(c:Int) < (N:Int):=by omega
     obtain ⟨gk0,ad⟩:=i7 gk;rw[<-ad] at hk;have ap:Hid (gk0=gk):=ad;clear ad;go_wp2_with fail
     have S2:Aside (SWK enc 2 w0 blk off ([]++ys).toArray wr):=S1;clear S1;go_loopg [7,8] (N+1) (fun kx s7 s8 wr=>∃(a b:Nat) (xZ xR Z R:List α),s7 = .int .i64 a/\s8 = .int .i64 b/\a<=N/\a+c < b/\b<=N+2*c/\N+1<=a+kx/\Hid (b=a+2*c/\xs=xZ++xR/\xZ.length=a/\Whole (ltOf cf) (2*c) xZ Z/\Blks (ltOf cf) c xR R)/\Aside (SWK enc 2 w0 blk off (Z++R).toArray wr))
     case atStart=>exact ⟨0,2*c,[],xs,[],ys,rfl,by first | rfl | go_num,by omega,by omega,by omega,by omega,⟨by omega,rfl,rfl,.nil,HB.out⟩,S2⟩
     case round=>
      clear S2 HB;obtain ⟨a,b,xZ,xR,Z,R',rfl,rfl,an,am,ao,hk2,HB,S1⟩:=hrel
      have aa:Hid (xZ.length+xR.length=N/\Z.length=a/\R'.length=xR.length/\b=a+2*c/\xZ.length=a):=by
       have q:=HB.out;have q2:=HN.out;have q4:xZ.length+xR.length=N:=by rw[<-Jd,<-q.2.1];exact q2.2
       exact ⟨q4,by rw[q.2.2.2.1.len];exact q.2.2.1,q.2.2.2.2.len,q.1,q.2.2.1⟩
      rcases aV N b with hlt2 | hge2
      .have aj:¬(b:Int)<=(N:Int):=by omega
       rcases aV (a+c) N with hm | hm
       .have aq:(a:Int)+(c:Int) < (N:Int):=by omega
        have af:∃x1 x2 r1 r2,xR=x1++x2/\R'=r1++r2/\x1.length=c/\Stab (ltOf cf) x1 r1/\Stab (ltOf cf) x2 r2/\x2.length+(a+c)=N:=by
         have q:=HB.out;have ql:=aa.out;obtain ⟨x1,x2,r1,r2,e1,e2,e3,e4,e5⟩:=q.2.2.2.2.first (by omega)
         have e6:x1.length+x2.length=xR.length:=by rw[e1,Jd]
         exact ⟨x1,x2,r1,r2,e1,e2,e3,e4,e5.short (by omega) ak,by omega⟩
        obtain ⟨x1,x2,r1,r2,e1,e2,e3,e4,e5,e6⟩:=af;have ab:=HS.out (r1.length+r2.length) Z r1 r2 [] a (a+c) N wr (aX _) (by have ql:=aa.out;have:=e4.len;have:=e5.len;simp only[aQ];omega) (by have ql:=aa.out;omega) (by have:=e4.len;omega) (by have:=e4.len;have:=e5.len;omega) (by have:=e4.len;omega) (by have:=e5.len;omega) e4.asc e5.asc (by rw[aW,<-e2];exact S1.out)
        have ac:Hid (Blks (ltOf cf) (2*c) xs (Z++(mrg (ltOf cf) r1 r2 ++ []))):=by
         have q:=HB.out;have ql:=aa.out;show Blks _ _ _ _
         rw[q.2.1,e1,aW];exact q.2.2.2.1.close (.last (by simp only[Jd];omega) (e4.mrg SW e5))
        push_cast at ab
        have HC:Aside _:=ab;clear ab S1 e1 e2 e3 e4 e5 e6 HB aa;go_wp2_with fail
        refine a6 HC.out ?_;rintro _ w3 ⟨rfl,h3⟩;have S1:Aside (SWK enc 2 w0 blk off (Z++(mrg (ltOf cf) r1 r2 ++ [])).toArray w3):=h3;clear h3 HC;generalize Z++(mrg (ltOf cf) r1 r2 ++ [])=ys2 at S1 ac;go_wp2_with fail
        go_roundg (gk0 - 1)
        case measure=>have:=ap.out;omega
        case rel=>exact ⟨c*2,ys2,by first | rfl | go_num,by omega,by omega,by omega,by rw[Nat.mul_comm];exact ac,S1⟩
       .have aq:¬(a:Int)+(c:Int) < (N:Int):=by omega
        have ac:Hid (Blks (ltOf cf) (2*c) xs (Z++R')):=by
         have q:=HB.out;have ql:=aa.out;show Blks _ _ _ _
         rw[q.2.1];exact q.2.2.2.1.close (.last (by omega) (q.2.2.2.2.short (by omega) ak))
        clear HB aa;generalize Z++R'=ys2 at S1 ac;go_wp2_with fail
        go_roundg (gk0 - 1)
        case measure=>have:=ap.out;omega
        case rel=>exact ⟨c*2,ys2,by first | rfl | go_num,by omega,by omega,by omega,by rw[Nat.mul_comm];exact ac,S1⟩
      .have aj:(b:Int)<=(N:Int):=by omega
       have af:∃x1 x2 x3 r1 r2 r3,xR=(x1++x2)++x3/\R'=r1++(r2++r3)/\x1.length=c/\x2.length=c/\Stab (ltOf cf) x1 r1/\Stab (ltOf cf) x2 r2/\Blks (ltOf cf) c x3 r3:=by
        have q:=HB.out;have ql:=aa.out;obtain ⟨x1,x2,r1,r2,e1,e2,e3,e4,e5⟩:=q.2.2.2.2.first (by omega)
        have e6:x1.length+x2.length=xR.length:=by rw[e1,Jd]
        obtain ⟨y1,y2,s1,s2,f1,f2,f3,f4,f5⟩:=e5.first (by omega)
        exact ⟨x1,y1,y2,r1,s1,s2,by rw[e1,f1,aR],by rw[e2,f2],e3,f3,e4,f4,f5⟩
       obtain ⟨x1,x2,x3,r1,r2,r3,e1,e2,e3,e4,e5,e6,e7⟩:=af;have e8:R'.length=r1.length+(r2.length+r3.length):=by rw[e2];simp
       have ab:=HS.out (r1.length+r2.length) Z r1 r2 r3 a (a+c) b wr (aX _) (by have ql:=aa.out;have:=e5.len;have:=e6.len;omega) (by have ql:=aa.out;omega) (by have:=e5.len;omega) (by have ql:=aa.out;have:=e6.len;omega) (by have:=e5.len;omega) (by have:=e6.len;omega) e5.asc e6.asc (by rw[<-e2];exact S1.out)
       have ac:Hid (xs=(xZ++(x1++x2))++x3/\(xZ++(x1++x2)).length=b/\Whole (ltOf cf) (2*c) (xZ++(x1++x2)) (Z++mrg (ltOf cf) r1 r2)/\Blks (ltOf cf) c x3 r3):=by have q:=HB.out;have ql:=aa.out;exact ⟨by rw[q.2.1,e1];simp only[aR],by simp only[Jd];omega,q.2.2.2.1.snoc (by simp only[Jd];omega) (e5.mrg SW e6),e7⟩
       push_cast at ab
       have HC:Aside _:=ab;clear ab S1 e1 e2 e3 e4 e5 e6 e7 e8 HB aa;go_wp2_with fail
       refine a6 HC.out ?_;rintro _ w3 ⟨rfl,h3⟩;have S1:Aside (SWK enc 2 w0 blk off ((Z++mrg (ltOf cf) r1 r2)++r3).toArray w3):=by rw[aR];exact h3
       clear h3 HC;go_wp2_with fail
       go_roundg (N+1 - b)
       case measure=>omega
       case rel=>exact ⟨b,b+2*c,_,_,_,_,by first | rfl | go_num,by first | rfl | go_num,by omega,by omega,by omega,by omega,⟨rfl,ac.out⟩,S1⟩
    .have ai:¬(c:Int) < (N:Int):=by omega
     go_wp2_with fail
     go_end0
     exact ⟨rfl,ys,HB.out.short (by rw[HN.out.2];exact hge) ak,S1.out⟩
  .have ai:(b:Int)<=(N:Int):=by omega
   have af:∃x1 x2,xR=x1++x2/\x1.length=20/\xZ.length+xR.length=N:=by
    have q:=HB.out;have q2:=HN.out;have q4:xZ.length+xR.length=N:=by rw[<-Jd,<-q.2.1];exact q2.2
    exact ⟨xR.take 20,xR.drop 20,(aU _ _).symm,by rw[aY];omega,q4⟩
   obtain ⟨x1,x2,e1,e2,e3⟩:=af;have e4:xR.length=x1.length+x2.length:=by rw[e1,Jd]
   have e5:=HB.out.1;have hc:=HI.out Z x1 x2 a b wr (by omega) (by omega) (by omega) (by rw[<-e1];exact S1.out);have HC:Aside _:=hc;have HX:Hid (xR=x1++x2/\x1.length=20):=⟨e1,e2⟩;clear hc S1 e1 e2 e3 e4 e5 hZ hR;go_wp2_with fail
   refine a6 HC.out ?_;rintro _ w3 ⟨rfl,z1,ae,h3⟩
   have ac:Hid (xs=(xZ++x1)++x2/\(xZ++x1).length=b/\Whole (ltOf cf) 20 (xZ++x1) (Z++z1)):=by have q:=HB.out;have q2:=HX.out;exact ⟨by rw[q.2.1,q2.1,aR],by simp only[Jd];omega,q.2.2.2.snoc q2.2 ae⟩
   have S1:Aside (SWK enc 2 w0 blk off ((Z++z1)++x2).toArray w3):=by rw[aR];exact h3
   clear h3 ae HC HB HX;go_wp2_with fail
   go_roundg (N+1 - b)
   case measure=>omega
   case rel=>exact ⟨b,b+20,_,_,_,by first | rfl | go_num,by first | rfl | go_num,by omega,by omega,by omega,by omega,⟨rfl,ac.out⟩,S1⟩
theorem Kmg (SW:SWO (ltOf cf)) (eg:∀args w,(callFunc g args).run prog w = .ok (.enter g args) w) (hcmp:CmpLays prog g cb enc 2 cf blk off d0.size w0) (R:RowK enc 2 w0 blk off d0) (hN:d0.size=N) (hsz:N < 1152921504606846976) (xs:List α) (w:World) (hl:xs.length=N) (S0:SWK enc 2 w0 blk off xs.toArray w) :
  Calls prog 132 #[.slice (some ⟨blk,off,none⟩) N cap,.func (.func g) #[] cb] w fun e w'=>e = .returned (.tuple #[])/\∃ys,Stab (ltOf cf) xs ys/\SWK enc 2 w0 blk off ys.toArray w':=by
 have HC:Aside _:=Ktr (cap:=cap) SW eg hcmp R hN hsz xs w hl S0;clear S0 hl hN hcmp;go_enter func132,ntmps132
 go_wp2_with fail
 refine a6 HC.out ?_;rintro _ w3 ⟨rfl,h3⟩;have H3:Aside _:=h3;clear h3;go_wp2_with fail
 go_end0
 exact ⟨rfl,H3.out⟩
end
end
section
open Go.Shelf Go.RowKit Go.Lib Go.Sort
open Lib renaming hid -> Jh
section
theorem Kip (x:Smp) (w:World):Calls prog 63 #[.agg (Kac x).toArray] w fun e w'=>e = .returned (.int .i64 x.t)/\Grown w w':=by
 obtain ⟨a,b⟩:=x;unfold Kac;go_enter func63,ntmps63
 go_wp2_with fail
 go_ret
 exact ⟨rfl,(Grown.refl _).alloc _⟩
theorem Kxn (a b:Int) (w:World):Calls prog 134 #[.int .i64 a,.int .i64 b] w fun e w'=>e = .returned (.int .i64 (if a < b then -1 else if b < a then 1 else 0))/\w=w':=by
 have aa:∀(a:Int) (w:World),Calls prog 181 #[.int .i64 a] w fun e w'=>e = .returned (.bool false)/\w=w':=by
  intro a w;have n1:(a != a)=false:=by simp
  go_enter func181,ntmps181
  go_wp2
  go_ret
  exact ⟨by simp,rfl⟩
 have h1:=fun W=>aa a W
 have h2:=fun W=>aa b W
 rcases (by omega:a < b\/b < a\/a=b) with h | h | h
 .rw[jf h];have d1:decide (a < b)=true:=jd h;clear aa;go_enter func134,ntmps134
  go_wp2_with fail
  refine (h1 _).mono ?_;rintro _ w1 ⟨rfl,rfl⟩;go_wp2_with fail
  refine (h2 _).mono ?_;rintro _ w1 ⟨rfl,rfl⟩;go_wp2_with fail
  go_ret
  exact ⟨rfl,rfl⟩
 .have hn:¬a < b:=by omega
  rw[je hn,jf h];have d1:decide (a < b)=false:=ja hn;have d2:decide (b < a)=true:=jd h;have hle:b<=a:=by omega
  have hne:¬a=b:=by omega
  clear aa;go_enter func134,ntmps134
  go_wp2_with fail
  refine (h1 _).mono ?_;rintro _ w1 ⟨rfl,rfl⟩;go_wp2_with fail
  refine (h2 _).mono ?_;rintro _ w1 ⟨rfl,rfl⟩;go_wp2_with fail
  go_ret
  exact ⟨rfl,rfl⟩
 .subst h;have hn:¬a < a:=by omega
  rw[je hn,je hn];have d1:decide (a < a)=false:=ja hn;clear aa;go_enter func134,ntmps134
  go_wp2_with fail
  refine (h1 _).mono ?_;rintro _ w1 ⟨rfl,rfl⟩;go_wp2_with fail
  refine (h2 _).mono ?_;rintro _ w1 ⟨rfl,rfl⟩;go_wp2_with fail
  go_ret
  exact ⟨rfl,rfl⟩
attribute [local go_sem] Kbu.cell
theorem Kuj (x y:Smp) (p:Nat) (W:World) (hp:Blk W p 146 #[.func (.func 63) #[] #[]]) :
  Calls prog 133 #[.agg (Kac x).toArray,.agg (Kac y).toArray,.pointer (some ⟨p,0,none⟩)] W fun e w'=>e = .returned (.int .i64 (cfT Smp.t x y))/\Grown W w':=by
 have HT:=Jh (fun (x:Smp) (w:World)=>Kip x w);have ag:=Jh (fun (w:World)=>Kxn x.t y.t w);have ah:cfT Smp.t x y=if x.t < y.t then -1 else if y.t < x.t then 1 else 0:=rfl
 rw[ah];obtain ⟨r,hr⟩:∃r:Int,(if x.t < y.t then -1 else if y.t < x.t then 1 else 0:Int)=r:=⟨_,rfl⟩;rw[hr] at ag |-;obtain ⟨cx,ak⟩:=i7 ((Kac x).toArray);obtain ⟨cy,ai⟩:=i7 ((Kac y).toArray);have egT:∀args w,(callFunc 63 args).run prog w = .ok (.enter 63 args) w:=enters_of func63 (by kernel_rfl) rfl;have ad:=Jh (fun w=>HT.out x w);have ab:=Jh (fun w=>HT.out y w);obtain ⟨tx,ae⟩:=i7 x.t;obtain ⟨tz,af⟩:=i7 y.t;rw[<-ae,<-af] at ag;rw[<-ae] at ad;rw[<-af] at ab;clear ah hr HT;obtain ⟨a,b⟩:=x;obtain ⟨a2,b2⟩:=y;unfold Kac at ak ai ad ab |-;dsimp only at ad ab |-;clear ak ai ae af cx cy;go_enter func133,ntmps133
 go_upto_region 1 with fail
 obtain ⟨w1,aa⟩:=iZ ((W.alloc (.cells #[.int .i64 a,.int .u64 b] 102)).alloc (.cells #[.int .i64 a2,.int .u64 b2] 102));have aj:Grown W w1:=by rw[<-aa];exact ((Grown.refl _).alloc _).alloc _
 have hq:Blk w1 W.heap.size 102 #[.int .i64 a,.int .u64 b]:=by rw[<-aa];exact (Blk.new _ _ _).alloc _
 have ac:Blk w1 (W.heap.size+1) 102 #[.int .i64 a2,.int .u64 b2]:=by rw[<-aa];exact Blk.newAt (by simp)
 have al:Blk w1 p 146 #[.func (.func 63) #[] #[]]:=hp.below aj.below hp.lt;rw[aa];obtain ⟨a0,hA⟩:=iZ W.heap.size;rw[hA] at hq ac |-;clear aa hp;have q0:_=some (be .i64 a):=hq.cell 0;have q1:_=some (be .u64 b):=hq.cell 1;have r0:_=some (be .i64 a2):=ac.cell 0;have r1:_=some (be .u64 b2):=ac.cell 1;have p0:_=some (bk (.func 63) #[] #[]):=al.cell 0;have hql:=hq.lt;have hpl:=ac.lt;have hpp:=al.lt;refine Kar 6 (by kernel_rfl) (by kernel_rfl) ?_;simp only[a8,bi,bc,bj]
 repeat (go_big_quiet_step ((go_at_fn 63;first | exact Kas _ (ad.out _) | exact Kas _ (ab.out _))))
 refine wpQuiet_nil ?_;rintro w2 ⟨⟨_,am⟩,rfl⟩;have an:Grown W w2:=aj.trans am;go_wp2_with fail
 refine (ag.out _).mono ?_;rintro _ w3 ⟨rfl,rfl⟩;go_wp2_with fail
 go_ret
 exact ⟨rfl,an⟩
theorem Kul (x y:Smp) (p:Nat) (W:World) (hp:Blk W p 146 #[.func (.func 63) #[] #[]]) :
  Calls prog 136 #[.agg (Kac x).toArray,.agg (Kac y).toArray,.pointer (some ⟨p,0,none⟩)] W fun e w'=>e = .returned (.bool (x.t == y.t))/\Grown W w':=by
 have egT:∀args w,(callFunc 63 args).run prog w = .ok (.enter 63 args) w:=enters_of func63 (by kernel_rfl) rfl;have ad:=Jh (fun w=>Kip x w);have ab:=Jh (fun w=>Kip y w);obtain ⟨tx,ae⟩:=i7 x.t;obtain ⟨tz,ah⟩:=i7 y.t;rw[<-ae] at ad |-;rw[<-ah] at ab |-;clear ae ah;obtain ⟨a,b⟩:=x;obtain ⟨a2,b2⟩:=y;unfold Kac at ad ab |-;dsimp only at ad ab |-;go_enter func136,ntmps136
 go_upto_region 1 with fail
 obtain ⟨w1,aa⟩:=iZ ((W.alloc (.cells #[.int .i64 a,.int .u64 b] 102)).alloc (.cells #[.int .i64 a2,.int .u64 b2] 102));have af:Grown W w1:=by rw[<-aa];exact ((Grown.refl _).alloc _).alloc _
 have hq:Blk w1 W.heap.size 102 #[.int .i64 a,.int .u64 b]:=by rw[<-aa];exact (Blk.new _ _ _).alloc _
 have ac:Blk w1 (W.heap.size+1) 102 #[.int .i64 a2,.int .u64 b2]:=by rw[<-aa];exact Blk.newAt (by simp)
 have ag:Blk w1 p 146 #[.func (.func 63) #[] #[]]:=hp.below af.below hp.lt;rw[aa];obtain ⟨a0,hA⟩:=iZ W.heap.size;rw[hA] at hq ac |-;clear aa hp;have q0:_=some (be .i64 a):=hq.cell 0;have q1:_=some (be .u64 b):=hq.cell 1;have r0:_=some (be .i64 a2):=ac.cell 0;have r1:_=some (be .u64 b2):=ac.cell 1;have p0:_=some (bk (.func 63) #[] #[]):=ag.cell 0;have hql:=hq.lt;have hpl:=ac.lt;have hpp:=ag.lt;refine Kar 6 (by kernel_rfl) (by kernel_rfl) ?_;simp only[a8,bi,bc,bj]
 repeat (go_big_quiet_step ((go_at_fn 63;first | exact Kas _ (ad.out _) | exact Kas _ (ab.out _))))
 refine wpQuiet_nil ?_;rintro w2 ⟨⟨_,ai⟩,rfl⟩;have aj:Grown W w2:=af.trans ai;go_wp2_with fail
 go_ret
 exact ⟨rfl,aj⟩
theorem Kpm (cmp:Value) (w:World):Calls prog 132 #[.slice none 0 0,cmp] w fun e w'=>e = .returned (.tuple #[])/\w=w':=by
 have aa:∀W:World,Calls prog 224 #[.slice none 0 0,.int .i64 0,.int .i64 0,cmp] W fun e w'=>e = .returned (.tuple #[])/\W=w':=by
  intro W;go_enter func224,ntmps224
  go_wp2
  go_loopg [8] 0 (fun kx s8 wr=>s8 = .int .i64 1/\wr=W)
  case atStart=>exact ⟨rfl,rfl⟩
  case round=>
   obtain ⟨rfl,rfl⟩:=hrel;go_wp2_with fail
   go_end0
   exact ⟨rfl,rfl⟩
 have ab:∀W:World,Calls prog 180 #[.slice none 0 0,.int .i64 0,cmp] W fun e w'=>e = .returned (.tuple #[])/\W=w':=by
  intro W;have HI:=Jh aa;clear aa;go_enter func180,ntmps180
  go_wp2
  go_loopg [7,8] 0 (fun kx s7 s8 wr=>s7 = .int .i64 0/\s8 = .int .i64 20/\wr=W)
  case atStart=>exact ⟨rfl,rfl,rfl⟩
  case round=>
   obtain ⟨rfl,rfl,rfl⟩:=hrel;go_wp2_with fail
   refine (HI.out _).mono ?_;rintro _ w1 ⟨rfl,rfl⟩;go_wp2_with fail
   go_loopg [6] 0 (fun kx s6 wr2=>s6 = .int .i64 20/\wr2=wr)
   case atStart=>exact ⟨rfl,rfl⟩
   case round=>
    obtain ⟨rfl,rfl⟩:=hrel;go_wp2_with fail
    go_end0
    exact ⟨rfl,rfl⟩
 have HS:=Jh ab;clear aa ab;go_enter func132,ntmps132
 go_wp2_with fail
 refine (HS.out _).mono ?_;rintro _ w1 ⟨rfl,rfl⟩;go_wp2_with fail
 go_end0
 exact ⟨rfl,rfl⟩
theorem Koi (eq_:Value) (w:World):Calls prog 135 #[.slice none 0 0,eq_] w fun e w'=>e = .returned (.slice none 0 0)/\w=w':=by
 go_enter func135,ntmps135
 go_wp2_with fail
 go_ret
 exact ⟨rfl,rfl⟩
theorem Kyh (xs:List Smp) (B n:Nat) (v:Value) (w:World) (h:w.ownsRow B 102 2 v n (xs.flatMap Kac)) (hl:xs.length=n) (hn:n<=1099511627776) :
  Calls prog 62 #[v,.func (.func 63) #[] #[]] w fun e w'=>∃v' zs,e = .returned v'/\Kbe Smp.t xs zs/\w'.ownsRow B 102 2 v' zs.length (zs.flatMap Kac)/\v'.ownBlock=v.ownBlock/\w.grownBy w' v.ownBlock:=by
 have al:(xs = []/\v = .slice none 0 0)\/∃g c,v = .slice (some ⟨g,0,none⟩) n c:=by
  rcases h.2 with ⟨h1,h0⟩ | ⟨g,cap,cur,h1,_⟩
  .exact .inl ⟨aT (by omega),h1⟩
  .exact .inr ⟨g,cap,h1⟩
 rcases al with ⟨rfl,rfl⟩ | ⟨g,cap,rfl⟩
 .have an:n=0:=by simpa using hl.symm
  subst an;have hS:=Jh (fun (c:Value) (W:World)=>Kpm c W);have hC:=Jh (fun (c:Value) (W:World)=>Koi c W);have H:=Jh h;clear h;go_enter func62,ntmps62
  go_wp2_with fail
  refine (hS.out _ _).mono ?_;rintro _ w1 ⟨rfl,rfl⟩;go_wp2_with fail
  refine (hC.out _ _).mono ?_;rintro _ w1 ⟨rfl,rfl⟩;go_wp2_with fail
  go_ret
  have hb:w.grownBy (w.alloc (.cells #[.func (.func 63) #[] #[]] 146)) none:=World.grownBy_alloc w _ none;exact ⟨_,[],rfl,Kbe.nil _,by simpa using (bl H.out _),rfl,hb⟩
 .have av:=bm h g rfl;obtain ⟨w1,ac⟩:=iZ (w.alloc (.cells #[.func (.func 63) #[] #[]] 146));obtain ⟨p,hp⟩:=i7 w.heap.size;have hb:Blk w1 p 146 #[.func (.func 63) #[] #[]]:=by rw[hp,<-ac];exact Blk.new _ _ _
  have aj:p≠g:=by omega
  have hpz:p < w1.heap.size:=hb.lt;have h1:w1.ownsRow B 102 2 (.slice (some ⟨g,0,none⟩) n cap) n (xs.flatMap Kac):=by rw[<-ac];exact bl h _
  have af:w.grownBy w1 (some g):=by rw[<-ac];exact World.grownBy_alloc w _ _
  have R:RowK Kac 2 w1 g 0 xs.toArray:=⟨Khq,Kwo,Kfh Khq (by decide) h1 hl,(bm h1 g rfl).2⟩;have hN:xs.toArray.size=n:=by simpa using hl
  have aa:n<=cap:=by
   rcases h.2 with ⟨he,_⟩ | ⟨g',cap',cur,he,_,_,h3,_⟩
   .cases he
   .injection he with _ _ hcc;subst hcc;exact h3
  have am:∀args w,(callFunc 133 args).run prog w = .ok (.enter 133 args) w:=enters_of func133 (by kernel_rfl) rfl;have ak:∀args w,(callFunc 136 args).run prog w = .ok (.enter 136 args) w:=enters_of func136 (by kernel_rfl) rfl;have ab:∀(dk:Array Smp) (W:World),SWK Kac 2 w1 g 0 dk W->Blk W p 146 #[.func (.func 63) #[] #[]]:=fun dk W hS=>hb.grown (SWK.by hS) (by intro e;injection e with e;exact aj e)
  have ad:CmpLays prog 133 #[.pointer (some ⟨p,0,none⟩)] Kac 2 (cfT Smp.t) g 0 xs.toArray.size w1:=by intro m os dk hdk x y;refine (Kuj x y p _ (ab dk _ ⟨m,os,rfl⟩)).mono ?_;rintro e w' ⟨he,⟨q,hq⟩⟩;exact ⟨he,q.n,q.os,hq⟩
  have ai:Kny prog 136 #[.pointer (some ⟨p,0,none⟩)] Kac 2 (fun x y=>x.t == y.t) g 0 xs.toArray.size w1:=by intro W dk hdk hS x y;refine (Kul x y p _ (ab dk _ hS)).mono ?_;rintro e w' ⟨he,⟨q,hq⟩⟩;exact ⟨he,q.n,q.os,hq⟩
  have HS:=Jh (Kmg (cap:=cap) (swoT Smp.t) am ad R hN (by omega) xs w1 hl (SWK.start R.hH));have HC:=Jh (fun (ys:List Smp) (W:World) (hy:ys.length=n) (hS:SWK Kac 2 w1 g 0 ys.toArray W)=>Kqa (cap:=cap) ak ai R hN (by omega) ys W hy (fun W dk i a b c=>Kls (P:=prog) underlying55 (⟨0,0⟩:Smp) (fun w=>zeroValue102 w) (by decide) R hN W dk i (cap - i) a b c) aa hS);have HG:=Jh af;have H1:=Jh h1;have HL:=Jh hl;clear h h1 hl hN af ad ai ab hb aa R av;go_enter func62,ntmps62
  go_upto_region 1 with fail
  try rw[ac]
  try rw[<-hp]
  clear ac hp;go_wp2_with fail
  refine a6 HS.out ?_;rintro _ w2 ⟨rfl,ys,ae,ag⟩;have ap:=Jh ae;have ah:ys.length=n:=by rw[ae.len];exact HL.out
  have ao:=Jh (HC.out ys w2 ah ag);clear ae ag ah;go_wp2_with fail
  refine a6 ao.out ?_;rintro _ w3 ⟨rfl,zs,z1,z2,z3⟩;have HZ:=Jh (And.intro z1 (And.intro z2 z3));clear z1 z2 z3;go_wp2_with fail
  go_ret
  obtain ⟨z1,z2,z3⟩:=HZ.out;refine ⟨_,dupE (fun x y:Smp=>x.t == y.t) ys,rfl,Ksl Smp.t _ (fun x y=>by rw[Bool.eq_iff_iff];simp) ap.out,?_,rfl,?_⟩
  .obtain ⟨m,os,rfl⟩:=z3;have ho:=Kfk Khq (by decide) H1.out HL.out zs.toArray (by simpa using z1) m os
   have ar:(dupE (fun x y:Smp=>x.t == y.t) ys).length<=n:=by have:=jk ba z2;rw[aY] at this;omega
   have:=Knt ho ar
   rw[show (zs.toArray.toList.flatMap Kac).take ((dupE (fun x y:Smp=>x.t == y.t) ys).length*2)=(dupE (fun x y:Smp=>x.t == y.t) ys).flatMap Kac by
    have aq:zs=zs.take (dupE (fun x y:Smp=>x.t == y.t) ys).length++zs.drop (dupE (fun x y:Smp=>x.t == y.t) ys).length:=(aU _ _).symm;rw[show zs.toArray.toList=zs by simp]
    conv=>lhs;rw[aq]
    rw[List.flatMap_append,bh (by rw[Kdh Khq,z2]),z2]] at this
   exact this
  .exact Lib.grownBy_trans HG.out (SWK.by z3)
end
end
section
open List renaming length_append -> Jd
attribute [-go_sem] loadCells
open Go.Shelf Go.RowKit Go.Lib Go.Sort
section
variable {α : Type} [Inhabited α] {enc : α -> List Value} {ef : α -> α -> Bool} {d0 : Array α} {w0 : World} {blk off cap g N : Nat} {cb : Array Value}
theorem Kqb (eg:∀args w,(callFunc g args).run prog w = .ok (.enter g args) w) (heq:Kny prog g cb enc 6 ef blk off d0.size w0) (R:RowK enc 6 w0 blk off d0) (hN:d0.size=N) (hsz:N < 1152921504606846976) (xs:List α) (w:World) (hl:xs.length=N)
  (hcl:∀(W:World) (dk:Array α) (i:Nat),dk.size=N->SWK enc 6 w0 blk off dk W->i<=N->∃W',(∀ty,(Builtin.clear_ #[56] ty #[.slice (some ⟨blk,off+i*6,none⟩) (N - i) (cap - i)]).run prog W = .ok (.tuple #[]) W')/\∃dk':Array α,dk'.size=N/\dk'.toList.take i=dk.toList.take i/\SWK enc 6 w0 blk off dk' W')
  (hcN:N<=cap) (S0:SWK enc 6 w0 blk off xs.toArray w) :
  Calls prog 139 #[.slice (some ⟨blk,off,none⟩) N cap,.func (.func g) #[] cb] w fun e w'=>e = .returned (.slice (some ⟨blk,off,none⟩) (dupE ef xs).length cap)/\∃zs:List α,zs.length=N/\zs.take (dupE ef xs).length=dupE ef xs/\SWK enc 6 w0 blk off zs.toArray w':=by
 have mixed:prog.follows .mixedOrders=true:=by kernel_rfl
 have HC:Aside _:=heq;have aC:Aside _:=hcl;have S1:Aside (SWK enc 6 w0 blk off xs.toArray w):=S0;have HQ:Hid (d0.size=N/\xs.length=N):=⟨hN,hl⟩;clear heq hcl S0 hN hl;go_enter func139,ntmps139
 rcases aV N 2 with h2 | h2
 .have hz:(N:Int) < 2:=by omega
  have HE:Hid (dupE ef xs=xs):=by
   have q:=HQ.out.2
   match xs,q with
   | [],q=>rfl
   | [x],_=>rfl
   | _ :: _ :: _,q=>simp at q;omega
  go_wp2_with fail
  go_ret
  refine ⟨?_,xs,HQ.out.2,?_,S1.out⟩
  .show bn (.slice (some ⟨blk,off,none⟩) N cap)=_
   rw[HE.out,HQ.out.2]
  .rw[HE.out,bd]
 have hz:¬(N:Int) < 2:=by omega
 have aK:∃x l,xs=x :: l:=by
  have q:=HQ.out.2
  cases xs with
  | nil=>simp at q;omega
  | cons x l=>exact ⟨x,l,rfl⟩
 obtain ⟨x0,l0,al⟩:=aK;have ar:Hid (xs = []++x0 :: l0/\dupE ef xs = []++x0 :: ddE ef x0 l0):=⟨al,by rw[al];rfl⟩;clear al;go_wp2_with fail
 go_loopg [5] N (fun kx s5 wr=>∃(k:Nat) (K0 R0:List α) (p:α),s5 = .int .i64 k/\0 < k/\k<=N/\N<=k+kx/\Hid (K0.length+1=k/\xs=K0++p :: R0/\dupE ef xs=K0++p :: ddE ef p R0)/\Aside (SWK enc 6 w0 blk off xs.toArray wr))
 case atStart=>exact ⟨1,[],l0,x0,rfl,by omega,by omega,by omega,⟨rfl,ar.out.1,ar.out.2⟩,S1⟩
 case round=>
  clear S1 ar;obtain ⟨k,K0,R0,p,rfl,hk0,hkN,ay,HB,S1⟩:=hrel;rcases aV k N with hlt | hge
  .have ak:(k:Int) < (N:Int):=by omega
   obtain ⟨b1,b2,b3⟩:=HB.out;obtain ⟨q1,q2⟩:=HQ.out
   have am:∃y R1,R0=y :: R1:=by
    cases R0 with
    | nil=>rw[b2] at q2;simp at q2;omega
    | cons y R1=>exact ⟨y,R1,rfl⟩
   obtain ⟨y,R1,ac⟩:=am;have av:xs.toArray[k]! = y:=by rw[b2,ac,show K0++p :: y :: R1=(K0 ++ [p])++y :: R1 by simp];exact Kct (by simp only[Jd,aP,aQ];omega)
   have aj:xs.toArray[k - 1]! = p:=by rw[b2];exact Kct (by omega)
   have aa:xs.toArray.size=N:=by simpa using q2
   obtain ⟨k1,ah⟩:∃k1,k=k1+1:=⟨k - 1,by omega⟩;have ao:k - 1=k1:=by omega
   rw[ao] at aj;have hk3:(k:Int) - 1=(k1:Int):=by omega
   have la:∀n os,bb prog (loadCells ⟨blk,off+k*6,none⟩ 6) (grow (wr.drewN n) os) = .ok (enc y).toArray (grow (wr.drewN n) os):=by rw[<-av];exact S1.out.ld R (by omega) prog k (by omega)
   have lb:∀n os,bb prog (loadCells ⟨blk,off+k1*6,none⟩ 6) (grow (wr.drewN n) os) = .ok (enc p).toArray (grow (wr.drewN n) os):=by rw[<-aj];exact S1.out.ld R (by omega) prog k1 (by omega)
   have hc:=fun n os=>HC.out (grow (wr.drewN n) os) xs.toArray (by omega) (S1.out.grown n os) y p
   have e2:(k1:Int) < (N:Int):=by omega
   have iak:((k:Int)).toNat=k:=by omega
   have ibk:(0:Int)<=(k:Int):=by omega
   have ick:a5.wrap (k:Int)=(k:Int):=by rw[a1];omega
   have idk:((k1:Int)).toNat=k1:=by omega
   have iek:(0:Int)<=(k1:Int):=by omega
   have ifk:a5.wrap (k1:Int)=(k1:Int):=by rw[a1];omega
   have aB:k1 < N:=by omega
   have aw:Hid (k=k1+1):=ah;have ax:Hid (R0=y :: R1):=ac
   cases hL:ef y p with
   | true=>
    rw[hL] at hc;have ab:Hid (K0.length+1=k/\xs=K0++p :: y :: R1/\dupE ef xs=(K0 ++ [p])++ddE ef y R1):=⟨b1,by rw[b2,ac],by rw[b3,ac,ddE,jf hL];simp⟩;clear b1 b2 b3 q1 q2 ac av aj aa HB ax hL ah ao;go_wp2_with fail
    go_quiet_grown (first | (go_at_fn g;refine a7 (hc _ _)))
    have S2:Aside (SWK enc 6 w0 blk off xs.toArray (grow (wr.drewN nq) osq)):=S1.out.grown nq osq;clear la lb hc S1;generalize grow (wr.drewN nq) osq=w2 at S2 |-;clear nq osq;have S3:Aside (SWK enc 6 w0 blk off ((K0 ++ [p])++([]++y :: R1)).toArray w2):=by rw[show (K0 ++ [p])++([]++y :: R1)=K0++p :: y :: R1 by simp,<-ab.out.2.1];exact S2.out
    have ah:=aw.out;have ag:K0.length=k1:=by have:=ab.out.1;omega
    have aI:R1.length+(k+1)=N:=by have q:=HQ.out.2;rw[ab.out.2.1] at q;simp only[Jd,aP] at q;omega
    have HL:Hid ((K0 ++ [p]).length=k/\k+1=(K0 ++ [p]).length+([]:List α).length+1/\(K0 ++ [p]).length+([]:List α).length+1+R1.length=N/\dupE ef xs=(K0 ++ [p])++ddE ef y R1):=⟨by simp only[Jd,aP,aQ];omega,by simp only[Jd,aP,aQ];omega,by simp only[Jd,aP,aQ];omega,ab.out.2.2⟩;clear ag aI ab S2 ah aw;obtain ⟨c0,aG⟩:=i7 k;subst aG;have aF:c0<=cap:=by omega
    clear ak ay;go_wp2_with fail
    go_loopg [5,7] N (fun kx s5 s7 wr=>∃(k j:Nat) (K1 M R2:List α) (z:α),s5 = .int .i64 k/\s7 = .int .i64 j/\0 < j/\k < c0+j/\c0+j<=N/\N<=c0+j+kx/\Hid (K1.length=k/\c0+j=K1.length+M.length+1/\K1.length+M.length+1+R2.length=N/\dupE ef xs=K1++ddE ef z R2)/\Aside (SWK enc 6 w0 blk off (K1++(M++z :: R2)).toArray wr))
    case atStart=>exact ⟨c0,1,K0 ++ [p],[],R1,y,by first | rfl | go_num,rfl,by omega,by omega,by omega,by omega,HL,S3⟩
    case round=>
     clear HL S3;obtain ⟨k,j,K1,M,R2,z,rfl,rfl,hj0,hkj,hjN,hjg,HB,S1⟩:=hrel;rcases aV (c0+j) N with hlt | hge
     .have ak:(j:Int) < (N:Int) - (c0:Int):=by omega
      have am:∃v R3,R2=v :: R3:=by
       obtain ⟨b1,b2,b3,b4⟩:=HB.out
       cases R2 with
       | nil=>simp only[aQ] at b3;omega
       | cons v R3=>exact ⟨v,R3,rfl⟩
      obtain ⟨v,R3,aq⟩:=am;obtain ⟨b1,b2,b3,b4⟩:=HB.out;obtain ⟨j1,rfl⟩:∃j1,j=j1+1:=⟨j - 1,by omega⟩;subst aq;simp only[aP] at b3;have ad:(K1++(M++z :: v :: R3)).toArray[c0+(j1+1)]! = v:=by rw[show K1++(M++z :: v :: R3)=(K1++(M ++ [z]))++v :: R3 by simp];exact Kct (by simp only[Jd,aP,aQ];omega)
      have ai:(K1++(M++z :: v :: R3)).toArray[c0+j1]! = z:=by rw[show K1++(M++z :: v :: R3)=(K1++M)++z :: v :: R3 by simp];exact Kct (by simp only[Jd];omega)
      have aa:(K1++(M++z :: v :: R3)).toArray.size=N:=by simp only[aS,Jd,aP];omega
      obtain ⟨dk,af⟩:=i7 ((K1++(M++z :: v :: R3)).toArray);rw[<-af] at ad ai aa S1;have q1:=HQ.out.1
      have la:∀n os,bb prog (loadCells ⟨blk,off+c0*6+(j1+1)*6,none⟩ 6) (grow (wr.drewN n) os) = .ok (enc v).toArray (grow (wr.drewN n) os):=by rw[show off+c0*6+(j1+1)*6=off+(c0+(j1+1))*6 by omega,<-ad];exact S1.out.ld R (by omega) prog (c0+(j1+1)) (by omega)
      have lb:∀n os,bb prog (loadCells ⟨blk,off+c0*6+j1*6,none⟩ 6) (grow (wr.drewN n) os) = .ok (enc z).toArray (grow (wr.drewN n) os):=by rw[show off+c0*6+j1*6=off+(c0+j1)*6 by omega,<-ai];exact S1.out.ld R (by omega) prog (c0+j1) (by omega)
      have hc:=fun n os=>HC.out (grow (wr.drewN n) os) dk (by omega) (S1.out.grown n os) v z
      have e1:(j1:Int)+1 < ((N - c0:Nat):Int):=by omega
      have e2:(j1:Int) < ((N - c0:Nat):Int):=by omega
      have aN:(((j1:Int)+1)).toNat=j1+1:=by omega
      have az:(0:Int)<=(j1:Int)+1:=by omega
      have aA:a5.wrap ((j1:Int)+1)=(j1:Int)+1:=by rw[a1];omega
      have aD:((j1:Int)).toNat=j1:=by omega
      have aE:(0:Int)<=(j1:Int):=by omega
      have aL:a5.wrap (j1:Int)=(j1:Int):=by rw[a1];omega
      have ae:Hid (dk=(K1++(M++z :: v :: R3)).toArray/\dk.size=N):=⟨af,aa⟩
      cases hL:ef v z with
      | true=>
       rw[hL] at hc;have ab:Hid (K1.length=k/\c0+(j1+1+1)=K1.length+(M ++ [z]).length+1/\K1.length+(M ++ [z]).length+1+R3.length=N/\dupE ef xs=K1++ddE ef v R3):=⟨b1,by simp only[Jd,aP,aQ];omega,by simp only[Jd,aP,aQ];omega,by rw[b4,ddE,jf hL]⟩;clear b1 b2 b3 b4 ad ai aa af HB hL q1;go_wp2_with fail
       go_quiet_grown (first | (go_at_fn g;refine a7 (hc _ _)))
       have S2:Aside (SWK enc 6 w0 blk off dk (grow (wr.drewN nq) osq)):=S1.out.grown nq osq;clear la lb hc S1;generalize grow (wr.drewN nq) osq=w2 at S2 |-;clear nq osq;have S3:Aside (SWK enc 6 w0 blk off (K1++((M ++ [z])++v :: R3)).toArray w2):=by rw[show K1++((M ++ [z])++v :: R3)=K1++(M++z :: v :: R3) by simp,<-ae.out.1];exact S2.out
       clear S2 ae;go_wp2_with fail
       go_roundg (N - (c0+(j1+2)))
       case measure=>omega
       case rel=>exact ⟨k,j1+2,K1,M ++ [z],R3,v,rfl,by first | rfl | go_num,by omega,by omega,by omega,by omega,ab,S3⟩
      | false=>
       rw[hL] at hc
       have aO:∃m M2,M ++ [z]=m :: M2:=by
        cases M with
        | nil=>exact ⟨z,[],rfl⟩
        | cons a M=>exact ⟨a,M ++ [z],rfl⟩
       obtain ⟨m,M2,an⟩:=aO;have aM:M2.length=M.length:=by have:=jk ba an;simp only[Jd,aP,aQ] at this;omega
       have ab:Hid ((K1 ++ [v]).length=k+1/\c0+(j1+1+1)=(K1 ++ [v]).length+M2.length+1/\(K1 ++ [v]).length+M2.length+1+R3.length=N/\dupE ef xs=(K1 ++ [v])++ddE ef v R3):=⟨by simp[b1],by simp only[Jd,aP,aQ];omega,by simp only[Jd,aP,aQ];omega,by rw[b4,ddE,je (by rw[hL];exact bf)];simp⟩
       have HN:Hid (dk.setIfInBounds k v=((K1 ++ [v])++(M2++v :: R3)).toArray):=by
        show _=_
        rw[af,show K1++(M++z :: v :: R3)=K1++m :: (M2++v :: R3) by rw[show M++z :: v :: R3=(M ++ [z])++v :: R3 by simp,an];rfl,Klm b1.symm];simp
       have ap:k < N:=by omega
       have aJ:k < cap:=by omega
       clear b1 b2 b3 b4 ad ai aa af HB hL an aM q1;go_wp2_with fail
       go_quiet_grown (first | (go_at_fn g;refine a7 (hc _ _)))
       have S2:Aside (SWK enc 6 w0 blk off dk (grow (wr.drewN nq) osq)):=S1.out.grown nq osq;clear la lb hc S1;generalize grow (wr.drewN nq) osq=w2 at S2 |-;clear nq osq;have aa:=ae.out.2;have q1:=HQ.out.1
       have ad:dk[c0+(j1+1)]! = v:=by rw[ae.out.1,show K1++(M++z :: v :: R3)=(K1++(M ++ [z]))++v :: R3 by simp];have t1:=ab.out.1;have t2:=ab.out.2.1;have t3:=ab.out.2.2.1;have t4:=jk Array.size ae.out.1;simp only[aS,Jd,aP,aQ] at t1 t2 t3 t4;exact Kct (by simp only[Jd,aP,aQ];omega)
       have l1:bb prog (loadCells ⟨blk,off+c0*6+(j1+1)*6,none⟩ 6) w2 = .ok (enc v).toArray w2:=by rw[show off+c0*6+(j1+1)*6=off+(c0+(j1+1))*6 by omega,<-ad];exact S2.out.load R (by omega) prog (c0+(j1+1)) (by omega)
       have s1:bb prog (storeCells ⟨blk,off+k*6,none⟩ (enc v) 0) w2 = .ok () (w2.setCells blk (off+k*6) (enc v)):=SWK.st S2.out R (by omega) prog k (by omega) v;have S3:Aside (SWK enc 6 w0 blk off ((K1 ++ [v])++(M2++v :: R3)).toArray (w2.setCells blk (off+k*6) (enc v))):=by rw[<-HN.out];exact SWK.put S2.out R k (by omega) v
       have n1:(enc v).length=6:=R.hk _;clear S2 ae aa q1 ad HN;generalize enc v=cV at l1 s1 S3 n1;have aH:(k:Int) < (N:Int):=by omega
       go_wp2_with fail
       clear l1 s1;generalize w2.setCells blk (off+k*6) cV=w3 at S3 |-;go_wp2_with fail
       go_roundg (N - (c0+(j1+2)))
       case measure=>omega
       case rel=>exact ⟨k+1,j1+2,K1 ++ [v],M2,R3,v,by first | rfl | go_num,by first | rfl | go_num,by omega,by omega,by omega,by omega,ab,S3⟩
     .have ak:¬(j:Int) < (N:Int) - (c0:Int):=by omega
      obtain ⟨b1,b2,b3,b4⟩:=HB.out;have aq:R2 = []:=aT (by omega);subst aq;obtain ⟨W',hcr,dk',d1,d2,d3⟩:=aC.out wr _ k (by simp only[aS,Jd,aP,aQ] at b3 |-;omega) S1.out (by omega)
      have HF:Hid (∃zs:List α,k=(dupE ef xs).length/\zs.length=N/\zs.take (dupE ef xs).length=dupE ef xs/\SWK enc 6 w0 blk off zs.toArray W'):=by rw[ddE,aW] at b4;refine ⟨dk'.toList,by rw[b4];exact b1.symm,by simpa using d1,?_,by simpa using d3⟩;rw[b4,b1,d2];simp only[List.toList_toArray];rw[<-b1,bh rfl]
      have ap:k<=N:=by omega
      have aJ:k<=cap:=by omega
      have aH:(k:Int)<=(N:Int):=by omega
      have k2z:(k:Int)<=(cap:Int):=by omega
      have k3z:(0:Int)<=(k:Int):=by omega
      clear b1 b2 b3 b4 d1 d2 d3 S1 HB;go_wp2_with fail
      go_ret
      obtain ⟨zs,f1,f2,f3,f4⟩:=HF.out;refine ⟨?_,zs,f2,f3,f4⟩;show bn (.slice (some ⟨blk,off,none⟩) k cap)=_
      rw[f1]
   | false=>
    rw[hL] at hc;have ab:Hid ((K0 ++ [p]).length+1=k+1/\xs=(K0 ++ [p])++y :: R1/\dupE ef xs=(K0 ++ [p])++y :: ddE ef y R1):=⟨by simp only[Jd,aP,aQ];omega,by rw[b2,ac];simp,by rw[b3,ac,ddE,je (by rw[hL];exact bf)];simp⟩;clear b1 b2 b3 q1 q2 ac av aj aa HB ax hL ah ao;go_wp2_with fail
    go_quiet_grown (first | (go_at_fn g;refine a7 (hc _ _)))
    have S2:Aside (SWK enc 6 w0 blk off xs.toArray (grow (wr.drewN nq) osq)):=S1.out.grown nq osq;clear la lb hc S1;generalize grow (wr.drewN nq) osq=w2 at S2 |-;clear nq osq;go_wp2_with fail
    go_roundg (N - (k+1))
    case measure=>omega
    case rel=>exact ⟨k+1,K0 ++ [p],R1,y,by first | rfl | go_num,by omega,by omega,by omega,ab,S2⟩
  .have ak:¬(k:Int) < (N:Int):=by omega
   obtain ⟨b1,b2,b3⟩:=HB.out;have q2:=HQ.out.2
   have ac:R0 = []:=by refine aT ?_;rw[b2] at q2;simp only[Jd,aP] at q2;omega
   have HE:Hid (dupE ef xs=xs):=by
    show _=_
    rw[b3,b2,ac];rfl
   clear b1 b2 b3 q2 ac HB;go_wp2_with fail
   go_ret
   refine ⟨?_,xs,HQ.out.2,?_,S1.out⟩
   .show bn (.slice (some ⟨blk,off,none⟩) N cap)=_
    rw[HE.out,HQ.out.2]
   .rw[HE.out,bd]
end
attribute [-go_sem] loadCells
open Go.Shelf Go.RowKit Go.Lib Go.Sort
section
variable {α : Type} [Inhabited α] {enc : α -> List Value} {cf : α -> α -> Int} {d0 : Array α} {w0 : World} {blk off cap g N : Nat} {cb : Array Value}
theorem Key (A X M Y S:List α) (a b n:Nat) (w:World) (R:RowK enc 6 w0 blk off d0) (hN:d0.size=N) (hl:A.length+X.length+M.length+Y.length+S.length=N) (hX:X.length=n) (hY:Y.length=n) (ha:a=A.length) (hb:b=A.length+n+M.length) (hsz:N < 4611686018427387904)
  (S0:SWK enc 6 w0 blk off (A++(X++(M++(Y++S)))).toArray w) :
  Calls prog 264 #[.slice (some ⟨blk,off,none⟩) N cap,.int .i64 a,.int .i64 b,.int .i64 n,.func (.func g) #[] cb] w fun e w'=>e = .returned (.tuple #[])/\SWK enc 6 w0 blk off (A++(Y++(M++(X++S)))).toArray w':=by
 have S1:Aside (SWK enc 6 w0 blk off (A++(X++(M++(Y++S)))).toArray w):=S0;have HQ:Hid (d0.size=N/\A.length+X.length+M.length+Y.length+S.length=N/\X.length=n/\Y.length=n/\a=A.length/\b=A.length+n+M.length):=⟨hN,hl,hX,hY,ha,hb⟩;have ban:a+n<=b:=by omega
 have bbn:b+n<=N:=by omega
 clear hN hl hX hY ha hb;have mixed:prog.follows .mixedOrders=true:=by kernel_rfl
 clear S0;go_enter func264,ntmps264
 go_wp2
 go_loopg [10] n (fun kx s10 wr=>∃(i:Nat) (X1 X2 Y1 Y2:List α),s10 = .int .i64 i/\i+kx=n/\Hid (X1.length=i/\Y1.length=i/\X=X1++X2/\Y=Y1++Y2)/\Aside (SWK enc 6 w0 blk off (A++(Y1++(X2++(M++(X1++(Y2++S)))))).toArray wr))
 case atStart=>exact ⟨0,[],X,[],Y,rfl,by omega,⟨rfl,rfl,rfl,rfl⟩,S1⟩
 case round=>
  clear S1;obtain ⟨i,X1,X2,Y1,Y2,rfl,hk,ac,S1⟩:=hrel;obtain ⟨hN,hl,hX,hY,ha,hb⟩:=HQ.out;obtain ⟨h1,h2,h3,h4⟩:=ac.out;have e1:X1.length+X2.length=n:=by rw[<-hX,h3,Jd]
  have e2:Y1.length+Y2.length=n:=by rw[<-hY,h4,Jd]
  by_cases hlt:i < n
  .have hlz:(i:Int) < (n:Int):=by omega
   obtain ⟨x,X2,rfl⟩:∃x l,X2=x :: l:=by
    cases X2 with
    | nil=>simp at e1;omega
    | cons x l=>exact ⟨x,l,rfl⟩
   obtain ⟨y,Y2,rfl⟩:∃y l,Y2=y :: l:=by
    cases Y2 with
    | nil=>simp at e2;omega
    | cons y l=>exact ⟨y,l,rfl⟩
   simp only[aP] at e1 e2
   have HN:Hid (swp (A++(Y1++(x :: X2++(M++(X1++(y :: Y2++S)))))).toArray (a+i) (b+i)=(A++((Y1 ++ [y])++(X2++(M++((X1 ++ [x])++(Y2++S)))))).toArray):=by
    show _=_
    rw[show A++(Y1++(x :: X2++(M++(X1++(y :: Y2++S)))))=(A++Y1)++x :: ((X2++(M++X1))++y :: (Y2++S)) by simp,Kek (by simp only[Jd];omega) (by simp only[Jd];omega)];simp
   have aa:(A++(Y1++(x :: X2++(M++(X1++(y :: Y2++S)))))).toArray.size=N:=by simp only[aS,Jd,aP];omega
   obtain ⟨dk,ag⟩:=i7 ((A++(Y1++(x :: X2++(M++(X1++(y :: Y2++S)))))).toArray);rw[<-ag] at HN S1 aa;have ad:Hid ((X1 ++ [x]).length=i+1/\(Y1 ++ [y]).length=i+1/\X=(X1 ++ [x])++X2/\Y=(Y1 ++ [y])++Y2):=⟨by simp[h1],by simp[h2],by rw[h3];simp,by rw[h4];simp⟩;clear ag ac hl hX hY ha hb h1 h2 h3 h4 e1 e2;go_wp2_with fail
   have eat:((a:Int)+(i:Int)).toNat=a+i:=by omega
   have pat:(0:Int)<=(a:Int)+(i:Int):=by omega
   have bat:(a:Int)+(i:Int) < (N:Int):=by omega
   have rat:a5.wrap ((a:Int)+(i:Int))=(a:Int)+(i:Int):=by rw[a1];omega
   have ect:((b:Int)+(i:Int)).toNat=b+i:=by omega
   have pct:(0:Int)<=(b:Int)+(i:Int):=by omega
   have bct:(b:Int)+(i:Int) < (N:Int):=by omega
   have rct:a5.wrap ((b:Int)+(i:Int))=(b:Int)+(i:Int):=by rw[a1];omega
   have S2:Aside (SWK enc 6 w0 blk off (swp dk (a+i) (b+i)) ((wr.drew.setCells blk (off+(a+i)*6) (enc dk[b+i]!)).setCells blk (off+(b+i)*6) (enc dk[a+i]!))):=S1.out.swapped R (a+i) (b+i) (by omega) (by omega);have af:bb prog (loadCells ⟨blk,off+(a+i)*6,none⟩ 6) wr.drew = .ok (enc dk[a+i]!).toArray wr.drew:=S1.out.ld1 R (by omega) prog (a+i) (by omega);have ae:bb prog (loadCells ⟨blk,off+(b+i)*6,none⟩ 6) wr.drew = .ok (enc dk[b+i]!).toArray wr.drew:=S1.out.ld1 R (by omega) prog (b+i) (by omega);have ah:=S1.out.st1 R (by omega) prog (a+i) (by omega) dk[b+i]!;have ab:=S1.out.st2 R (by omega) prog (a+i) (b+i) (by omega) (by omega) dk[b+i]! dk[a+i]!;have aj:(enc dk[a+i]!).length=6:=R.hk _;have ai:(enc dk[b+i]!).length=6:=R.hk _;generalize enc dk[a+i]! = cIt at S2 af ab aj;generalize enc dk[b+i]! = cJt at S2 ae ah ab ai;clear S1 aa hN;go_wp2_with fail
   go_big_region_o
   clear af ae ah ab;generalize (wr.drew.setCells blk (off+(a+i)*6) cJt).setCells blk (off+(b+i)*6) cIt=w2 at S2 |-;rw[HN.out] at S2;go_wp2
   go_roundg (n - (i+1))
   case measure=>omega
   case rel=>exact ⟨i+1,X1 ++ [x],X2,Y1 ++ [y],Y2,by first | rfl | go_num,by omega,ad,S2⟩
  .have al:X2 = []:=aT (by omega);have ak:Y2 = []:=aT (by omega);subst al ak
   have S2:Aside (SWK enc 6 w0 blk off (A++(Y++(M++(X++S)))).toArray wr):=by rw[aW] at h3 h4;rw[h3,h4];exact S1.out
   clear S1 ac hl hX hY ha hb h1 h2 h3 h4 e1 e2 hN;go_wp2
   go_end0
   exact ⟨rfl,S2.out⟩
theorem Ktl (A X Y S:List α) (a m b:Nat) (w:World) (R:RowK enc 6 w0 blk off d0) (hN:d0.size=N) (hl:A.length+X.length+Y.length+S.length=N) (ha:a=A.length) (hm:m=A.length+X.length) (hb:b=A.length+X.length+Y.length) (hX:0 < X.length) (hY:0 < Y.length) (hsz:N < 4611686018427387904)
  (S0:SWK enc 6 w0 blk off (A++(X++(Y++S))).toArray w) :
  Calls prog 256 #[.slice (some ⟨blk,off,none⟩) N cap,.int .i64 a,.int .i64 m,.int .i64 b,.func (.func g) #[] cb] w fun e w'=>e = .returned (.tuple #[])/\SWK enc 6 w0 blk off (A++(Y++(X++S))).toArray w':=by
 have S1:Aside (SWK enc 6 w0 blk off (A++(X++(Y++S))).toArray w):=S0;obtain ⟨L,hL⟩:=i7 (A++(Y++(X++S)));rw[<-hL];have HL:Hid (A++(Y++(X++S))=L):=hL.symm;obtain ⟨i0,ah⟩:=i7 X.length;obtain ⟨j0,ai⟩:=i7 Y.length;have w1:wrap64 ((m:Int) - (a:Int))=(i0:Int):=by unfold wrap64;omega
 have w2:wrap64 ((b:Int) - (m:Int))=(j0:Int):=by unfold wrap64;omega
 have hmN:m<=N:=by omega
 have HQ:Hid (d0.size=N/\A.length+X.length+Y.length+S.length=N/\a=A.length/\m=A.length+X.length/\b=A.length+X.length+Y.length/\i0=X.length/\j0=Y.length):=⟨hN,hl,ha,hm,hb,ah,ai⟩;have pi0:0 < i0:=by omega
 have pj0:0 < j0:=by omega
 clear S0 hL hN hl ha hm hb ah ai hX hY;go_enter func256,ntmps256
 go_wp2
 go_loopg [10,11] (i0+j0) (fun kx s10 s11 wr=>∃(i j:Nat) (A' X' Y' S':List α),s10 = .int .i64 i/\s11 = .int .i64 j/\0 < i/\0 < j/\i+j<=kx/\i<=m/\m+j<=N/\Hid (X'.length=i/\Y'.length=j/\A'.length+i=m/\A'.length+X'.length+Y'.length+S'.length=N)/\Hid (A'++(Y'++(X'++S'))=L)/\Aside (SWK enc 6 w0 blk off (A'++(X'++(Y'++S'))).toArray wr))
 case atStart=>exact ⟨i0,j0,A,X,Y,S,by first | rfl | go_num | (congr 1;omega),by first | rfl | go_num | (congr 1;omega),by omega,by omega,aX _,by have:=HQ.out;omega,by have:=HQ.out;omega,by have q:=HQ.out;refine ⟨?_,?_,?_,?_⟩ <;> omega,HL,S1⟩
 case round=>
  clear S1 HL w1 w2;obtain ⟨i,j,A',X',Y',S',rfl,rfl,hi,hj,hk,him,hjm,HR,HL,S1⟩:=hrel;have hN:=HQ.out.1;obtain ⟨ab,aa,ag,ad⟩:=HR.out;rcases (by omega:i=j\/j < i\/i < j) with he | hgt | hlt
  .subst he;have HS:=Key (cap:=cap) (g:=g) (cb:=cb) A' X' [] Y' S' (m - i) m i wr R hN (by simp only[aQ];omega) ab aa (by omega) (by simp only[aQ];omega) hsz S1.out;have HC:=HS;have d1:((i:Int) != (i:Int))=false:=by simp
   rw[show ((m - i:Nat):Int)=(m:Int) - (i:Int) by omega] at HC;have ac:Aside _:=HC;clear HS S1 HC hN ab aa ag ad HR;go_wp2_with fail
   refine a6 ac.out ?_;rintro _ w3 ⟨rfl,h3⟩;have S2:Aside (SWK enc 6 w0 blk off L.toArray w3):=by rw[<-HL.out];exact h3
   clear h3;go_wp2_with fail
   go_end0
   exact ⟨rfl,S2.out⟩
  .obtain ⟨X1,X2,rfl,h1⟩:∃X1 X2,X'=X1++X2/\X1.length=j:=⟨X'.take j,X'.drop j,(aU _ _).symm,by rw[aY];omega⟩;rw[Jd] at ab ad;have HS:=Key (cap:=cap) (g:=g) (cb:=cb) A' X1 X2 Y' S' (m - i) m j wr R hN (by omega) h1 aa (by omega) (by omega) hsz (by have:=S1.out;rw[aR] at this;exact this);have HC:=HS;have d1:((i:Int) != (j:Int))=true:=by simp;omega
   have d2:decide ((j:Int) < (i:Int))=true:=by simp;omega
   rw[show ((m - i:Nat):Int)=(m:Int) - (i:Int) by omega] at HC;have af:Hid (X2.length=i - j/\X1.length=j/\(A'++Y').length+(i - j)=m/\(A'++Y').length+X2.length+X1.length+S'.length=N):=by simp only[Jd];refine ⟨?_,?_,?_,?_⟩ <;> omega
   have ac:Aside _:=HC;clear HS S1 HC hN ab aa ag ad HR h1;go_wp2_with fail
   refine a6 ac.out ?_;rintro _ w3 ⟨rfl,h3⟩;have S2:Aside (SWK enc 6 w0 blk off ((A'++Y')++(X2++(X1++S'))).toArray w3):=by rw[aR];exact h3
   have ae:Hid ((A'++Y')++(X1++(X2++S'))=L):=by show _=_;rw[<-HL.out];simp
   clear h3 HL;go_wp2_with fail
   go_roundg (i - j+j)
   case measure=>omega
   case rel=>exact ⟨i - j,j,A'++Y',X2,X1,S',by first | rfl | go_num | (congr 1;omega),by first | rfl | go_num | (congr 1;omega),by omega,by omega,by omega,by omega,by omega,af,ae,S2⟩
  .obtain ⟨Y1,Y2,rfl,h1⟩:∃Y1 Y2,Y'=Y1++Y2/\Y2.length=i:=⟨Y'.take (j - i),Y'.drop (j - i),(aU _ _).symm,by rw[bg];omega⟩;rw[Jd] at aa ad;have HS:=Key (cap:=cap) (g:=g) (cb:=cb) A' X' Y1 Y2 S' (m - i) (m+j - i) i wr R hN (by omega) ab h1 (by omega) (by omega) hsz (by have:=S1.out;rw[aR] at this;exact this);have HC:=HS;have d1:((i:Int) != (j:Int))=true:=by simp;omega
   have d2:decide ((j:Int) < (i:Int))=false:=by simp;omega
   rw[show ((m - i:Nat):Int)=(m:Int) - (i:Int) by omega] at HC;rw[show ((m+j - i:Nat):Int)=(m:Int)+(j:Int) - (i:Int) by omega] at HC;have af:Hid (Y2.length=i/\Y1.length=j - i/\A'.length+i=m/\A'.length+Y2.length+Y1.length+(X'++S').length=N):=by simp only[Jd];refine ⟨?_,?_,?_,?_⟩ <;> omega
   have ac:Aside _:=HC;clear HS S1 HC hN ab aa ag ad HR h1;go_wp2_with fail
   refine a6 ac.out ?_;rintro _ w4 ⟨rfl,h3⟩;have S2:Aside (SWK enc 6 w0 blk off (A'++(Y2++(Y1++(X'++S')))).toArray w4):=h3;have ae:Hid (A'++(Y1++(Y2++(X'++S')))=L):=by show _=_;rw[<-HL.out];simp
   clear h3 HL;go_wp2_with fail
   go_roundg (i+(j - i))
   case measure=>omega
   case rel=>exact ⟨i,j - i,A',Y2,Y1,X'++S',by first | rfl | go_num | (congr 1;omega),by first | rfl | go_num | (congr 1;omega),by omega,by omega,by omega,by omega,by omega,af,ae,S2⟩
theorem Ktx (SW:SWO (ltOf cf)) (eg:∀args w,(callFunc g args).run prog w = .ok (.enter g args) w) (hcmp:CmpLays prog g cb enc 6 cf blk off d0.size w0) (R:RowK enc 6 w0 blk off d0) (hN:d0.size=N) (hsz:N < 4611686018427387904) (A:List α) (x:α) (Y S:List α) (a m b:Nat) (w:World) (hl:A.length+1+Y.length+S.length=N) (ha:a=A.length) (hm:m=a+1) (hb:b=m+Y.length) (hY0:0 < Y.length) (hY:(Y.Pairwise fun a b=>ltOf cf b a=false))
  (S0:SWK enc 6 w0 blk off (A++([x]++(Y++S))).toArray w) :
  Calls prog 227 #[.slice (some ⟨blk,off,none⟩) N cap,.int .i64 a,.int .i64 m,.int .i64 b,.func (.func g) #[] cb] w fun e w'=>e = .returned (.tuple #[])/\SWK enc 6 w0 blk off (A++(mrg (ltOf cf) [x] Y++S)).toArray w':=by
 have mixed:prog.follows .mixedOrders=true:=by kernel_rfl
 have HC:Aside _:=hcmp;have hma:(m:Int) - (a:Int)=1:=by omega
 have hmb:m < b:=by omega
 have hbN:b<=N:=by omega
 have ham:a < m:=by omega
 obtain ⟨dk,ab⟩:=i7 ((A++([x]++(Y++S))).toArray);have aa:dk.size=N:=by rw[ab];simp only[aS,Jd,aP,aQ];omega
 have DA:Hid (dk[a]! = x):=by
  show _=_
  rw[ab,Kdr (A:=A) (X:=[x]) (T:=Y++S) (i:=0) (by simp) (by omega)];rfl
 have DY:Hid (∀t,m<=t->t < b->dk[t]! = Y[t - m]!):=by intro t h1 h2;rw[ab,Kdu (A:=A) (X:=[x]) (Y:=Y) (T:=S) (i:=t - m) (by omega) (by simp only[aP,aQ];omega)]
 have HQ:Hid (dk=(A++([x]++(Y++S))).toArray/\d0.size=N/\A.length+1+Y.length+S.length=N/\a=A.length/\m=a+1/\b=m+Y.length/\(Y.Pairwise fun a b=>ltOf cf b a=false)):=⟨ab,hN,hl,ha,hm,hb,hY⟩;have aj:Hid (d0.size=N):=hN;rw[<-ab] at S0;have S1:Aside (SWK enc 6 w0 blk off dk w):=S0;clear S0 ab hl ha hm hb hY hcmp hN;have ax:Hid (dk.size=N):=aa;clear aa;go_enter func227,ntmps227
 go_wp2
 go_loopg [10,11] (b - m) (fun kx s10 s11 wr=>∃(i j:Nat),s10 = .int .i64 i/\s11 = .int .i64 j/\m<=i/\i<=j/\j<=b/\j - i<=kx/\Hid ((i=m\/ltOf cf Y[i - m - 1]! x=true)/\(j=b\/ltOf cf Y[j - m]! x=false))/\Aside (SWK enc 6 w0 blk off dk wr))
 case atStart=>exact ⟨m,b,rfl,rfl,by omega,by omega,by omega,by omega,⟨.inl rfl,.inl rfl⟩,S1⟩
 case round=>
  clear S1;obtain ⟨i,j,rfl,rfl,aB,aC,aw,hk,HB,S1⟩:=hrel;rcases aV i j with hlt | hge
  .have hlz:(i:Int) < (j:Int):=by omega
   obtain ⟨h,hh⟩:=i7 ((i+j) / 2);have hm2:(((i:Int)+(j:Int)) / 2)=(h:Int):=by omega
   have hih:i<=h:=by omega
   have hjh:h < j:=by omega
   clear hh;obtain ⟨y,hy⟩:=i7 (Y[h - m]!);have ai:dk[a]! = x:=DA.out;have aq:dk[h]! = y:=by rw[hy];exact DY.out h (by omega) (by omega)
   have aa:=ax.out;have hN:=aj.out;obtain ⟨L,hL⟩:=iZ (ltOf cf y x);have HL:=Lib.hid hL;have HY:=Lib.hid hy;clear hy;obtain ⟨eac,pac,bac,rac⟩:=ixf (i:=h) (N:=N) (by omega) (by omega);obtain ⟨ecc,pcc,bcc,rcc⟩:=ixf (i:=a) (N:=N) (by omega) (by omega);have am:∀n os,bb prog (loadCells ⟨blk,off+(h)*6,none⟩ 6) (grow (wr.drewN n) os) = .ok (enc dk[h]!).toArray (grow (wr.drewN n) os):=S1.out.ld R (by omega) prog (h) (by omega);have al:∀n os,bb prog (loadCells ⟨blk,off+(a)*6,none⟩ 6) (grow (wr.drewN n) os) = .ok (enc dk[a]!).toArray (grow (wr.drewN n) os):=S1.out.ld R (by omega) prog (a) (by omega);rw[aq] at am;rw[ai] at al;have ap:=S1.out.cmp HC.out (by omega) y x;have hdc:decide (cf y x < 0)=L:=hL;go_wp2_with fail
   go_quiet_grown (first | (go_at_fn g;refine a7 (ap _ _)))
   have S2:Aside (SWK enc 6 w0 blk off dk (grow (wr.drewN nq) osq)):=S1.out.grown nq osq;clear aa hN ai aq hL am al ap S1;generalize grow (wr.drewN nq) osq=w2 at S2 |-;clear nq osq
   cases L with
   | true=>
    have ac:Hid ((h+1=m\/ltOf cf Y[h+1 - m - 1]! x=true)/\(j=b\/ltOf cf Y[j - m]! x=false)):=⟨.inr (by rw[show h+1 - m - 1=h - m by omega,<-HY.out];exact HL.out),HB.out.2⟩;clear HB HY HL;go_wp2_with fail
    go_roundg (j - (h+1))
    case measure=>omega
    case rel=>exact ⟨h+1,j,by first | rfl | go_num,rfl,by omega,by omega,aw,by omega,ac,S2⟩
   | false=>
    have ac:Hid ((i=m\/ltOf cf Y[i - m - 1]! x=true)/\(h=b\/ltOf cf Y[h - m]! x=false)):=⟨HB.out.1,.inr (by rw[<-HY.out];exact HL.out)⟩;clear HB HY HL;go_wp2_with fail
    go_roundg (h - i)
    case measure=>omega
    case rel=>exact ⟨i,h,rfl,rfl,aB,by omega,by omega,by omega,ac,S2⟩
  .have he:j=i:=by omega
   subst he;have aD:¬(j:Int) < (j:Int):=by omega
   obtain ⟨p,hp⟩:=i7 (j - m)
   have HE:Hid (mrg (ltOf cf) [x] Y=Y.take p++x :: Y.drop p):=by obtain ⟨q1,q2,q3,q4,q5,q6,q7⟩:=HQ.out;refine Khj SW q7 p (by omega) (HB.out.2.imp (fun h=>by omega) fun h=>by rw[hp];exact h) (HB.out.1.imp (fun h=>by omega) fun h=>by rw[hp];exact h)
   have HP:Hid (j=a+1+p/\p<=Y.length):=by obtain ⟨q1,q2,q3,q4,q5,q6,q7⟩:=HQ.out;exact ⟨by omega,by omega⟩
   have S2:Aside (SWK enc 6 w0 blk off (A++([]++x :: (Y.take p++(Y.drop p++S)))).toArray wr):=by have e:=S1.out;rw[HQ.out.1] at e;rw[<-aR (Y.take p),aU];exact e
   clear hp HB S1 aC;go_wp2_with fail
   go_loopg [13] p (fun kx s13 wr=>∃(k:Nat) (U V:List α),s13 = .int .i64 k/\a<=k/\k+1<=j/\Hid (V.length<=kx/\U.length+a=k/\k+V.length+1=j/\Y.take p=U++V)/\Aside (SWK enc 6 w0 blk off (A++(U++x :: (V++(Y.drop p++S)))).toArray wr))
   case atStart=>
    have hl:(Y.take p).length=p:=by rw[aY];have:=HP.out.2;omega
    have q:=HP.out.1;exact ⟨a,[],Y.take p,rfl,aX _,by omega,⟨by omega,by simp,by omega,rfl⟩,S2⟩
   case round=>
    clear S2;obtain ⟨k,U,V,rfl,hak,hkj,HU,S1⟩:=hrel
    cases V with
    | nil=>
     have aA:¬(k:Int) < (j:Int) - 1:=by have:=HU.out.2.2.1;simp only[aQ] at this;omega
     have e2:SWK enc 6 w0 blk off (A++(mrg (ltOf cf) [x] Y++S)).toArray wr:=by have e:=S1.out;have q:=HU.out.2.2.2;rw[aW] at q;rw[HE.out,q];simpa using e
     have S2:Aside (SWK enc 6 w0 blk off (A++(mrg (ltOf cf) [x] Y++S)).toArray wr):=e2;clear e2;clear S1;go_wp2_with fail
     (try simp only[Exit.inBlock,Exit.then]);refine bodyPost_ret (results_none rfl _ _ _) rfl ?_
     exact ⟨rfl,S2.out⟩
    | cons v V=>
     obtain ⟨ao,av,af,ae⟩:=HU.out;simp only[aP] at ao af;have aA:(k:Int) < (j:Int) - 1:=by omega
     obtain ⟨q1,q2,q3,q4,q5,q6,q7⟩:=HQ.out
     have HN:Hid (swp (A++(U++x :: (v :: V++(Y.drop p++S)))).toArray (k) (k+1)=(A++((U ++ [v])++x :: (V++(Y.drop p++S)))).toArray):=by
      show _=_
      rw[show A++(U++x :: (v :: V++(Y.drop p++S)))=(A++U)++x :: ([]++v :: (V++(Y.drop p++S))) by simp,Kek (by simp only[Jd];omega) (by simp only[Jd,aQ];omega)];simp
     have ar:Hid (V.length<=gk - 1/\(U ++ [v]).length+a=k+1/\k+1+V.length+1=j/\Y.take p=(U ++ [v])++V):=⟨by omega,by simp only[Jd,aP,aQ];omega,by omega,by rw[ae];simp⟩;have hgk:0 < gk:=by omega
     have aa:(A++(U++x :: (v :: V++(Y.drop p++S)))).toArray.size=N:=by
      have hl:(Y.take p).length=U.length+(V.length+1):=by rw[ae];simp
      have hl2:(Y.take p).length+(Y.drop p).length=Y.length:=by rw[<-Jd,aU]
      simp only[aS,Jd,aP];omega
     have hN:=aj.out;obtain ⟨dm,an⟩:=i7 ((A++(U++x :: (v :: V++(Y.drop p++S)))).toArray);rw[<-an] at HN S1 aa;clear an HU ao av af ae q1 q2 q3 q4 q5 q6 q7;go_wp2_with fail
     have eat:((k:Int)).toNat=k:=by omega
     have pat:(0:Int)<=(k:Int):=by omega
     have bat:(k:Int) < (N:Int):=by omega
     have rat:a5.wrap ((k:Int))=(k:Int):=by rw[a1];omega
     have ect:((k:Int)+1).toNat=k+1:=by omega
     have pct:(0:Int)<=(k:Int)+1:=by omega
     have bct:(k:Int)+1 < (N:Int):=by omega
     have rct:a5.wrap ((k:Int)+1)=(k:Int)+1:=by rw[a1];omega
     have S2:Aside (SWK enc 6 w0 blk off (swp dm (k) (k+1)) ((wr.drew.setCells blk (off+(k)*6) (enc dm[k+1]!)).setCells blk (off+(k+1)*6) (enc dm[k]!))):=S1.out.swapped R (k) (k+1) (by omega) (by omega);have ah:bb prog (loadCells ⟨blk,off+(k)*6,none⟩ 6) wr.drew = .ok (enc dm[k]!).toArray wr.drew:=S1.out.ld1 R (by omega) prog (k) (by omega);have ag:bb prog (loadCells ⟨blk,off+(k+1)*6,none⟩ 6) wr.drew = .ok (enc dm[k+1]!).toArray wr.drew:=S1.out.ld1 R (by omega) prog (k+1) (by omega);have ak:=S1.out.st1 R (by omega) prog (k) (by omega) dm[k+1]!;have ad:=S1.out.st2 R (by omega) prog (k) (k+1) (by omega) (by omega) dm[k+1]! dm[k]!;have az:(enc dm[k]!).length=6:=R.hk _;have ay:(enc dm[k+1]!).length=6:=R.hk _;generalize enc dm[k]! = cIt at S2 ah ad az;generalize enc dm[k+1]! = cJt at S2 ag ak ad ay;clear S1 aa hN;go_wp2_with fail
     go_big_region_o
     clear ah ag ak ad;generalize (wr.drew.setCells blk (off+(k)*6) cJt).setCells blk (off+(k+1)*6) cIt=w2 at S2 |-;rw[HN.out] at S2;go_wp2
     go_roundg (gk - 1)
     case measure=>omega
     case rel=>exact ⟨k+1,U ++ [v],V,by first | rfl | go_num,by omega,by omega,ar,S2⟩
theorem Kqv (SW:SWO (ltOf cf)) (eg:∀args w,(callFunc g args).run prog w = .ok (.enter g args) w) (hcmp:CmpLays prog g cb enc 6 cf blk off d0.size w0) (R:RowK enc 6 w0 blk off d0) (hN:d0.size=N) (hsz:N < 4611686018427387904) (A:List α) (y:α) (X S:List α) (a m b:Nat) (w:World) (hl:A.length+X.length+1+S.length=N) (ha:a=A.length) (hm:m=a+X.length) (hb:b=m+1) (hX0:1 < X.length) (hX:(X.Pairwise fun a b=>ltOf cf b a=false))
  (S0:SWK enc 6 w0 blk off (A++(X++([y]++S))).toArray w) :
  Calls prog 227 #[.slice (some ⟨blk,off,none⟩) N cap,.int .i64 a,.int .i64 m,.int .i64 b,.func (.func g) #[] cb] w fun e w'=>e = .returned (.tuple #[])/\SWK enc 6 w0 blk off (A++(mrg (ltOf cf) X [y]++S)).toArray w':=by
 have mixed:prog.follows .mixedOrders=true:=by kernel_rfl
 have HC:Aside _:=hcmp;have hmb:(b:Int) - (m:Int)=1:=by omega
 have dma:(((m:Int) - (a:Int)) == 1)=false:=by simp;omega
 have hbN:b<=N:=by omega
 have ham:a < m:=by omega
 have az:m < b:=by omega
 obtain ⟨dk,ab⟩:=i7 ((A++(X++([y]++S))).toArray);have aa:dk.size=N:=by rw[ab];simp only[aS,Jd,aP,aQ];omega
 have DA:Hid (dk[m]! = y):=by
  show _=_
  rw[ab,Kdu (A:=A) (X:=X) (Y:=[y]) (T:=S) (i:=0) (by simp) (by omega)];rfl
 have DX:Hid (∀t,a<=t->t < m->dk[t]! = X[t - a]!):=by intro t h1 h2;rw[ab,Kdr (A:=A) (X:=X) (T:=[y]++S) (i:=t - a) (by omega) (by omega)]
 have HQ:Hid (dk=(A++(X++([y]++S))).toArray/\d0.size=N/\A.length+X.length+1+S.length=N/\a=A.length/\m=a+X.length/\b=m+1/\(X.Pairwise fun a b=>ltOf cf b a=false)):=⟨ab,hN,hl,ha,hm,hb,hX⟩;have aj:Hid (d0.size=N):=hN;rw[<-ab] at S0;have S1:Aside (SWK enc 6 w0 blk off dk w):=S0;have aw:Hid (dk.size=N):=aa;clear S0 ab hl ha hm hb hX hcmp hN aa;go_enter func227,ntmps227
 go_wp2
 go_loopg [14,15] (m - a) (fun kx s10 s11 wr=>∃(i j:Nat),s10 = .int .i64 i/\s11 = .int .i64 j/\a<=i/\i<=j/\j<=m/\j - i<=kx/\Hid ((i=a\/ltOf cf y X[i - a - 1]! = false)/\(j=m\/ltOf cf y X[j - a]! = true))/\Aside (SWK enc 6 w0 blk off dk wr))
 case atStart=>exact ⟨a,m,rfl,rfl,by omega,by omega,by omega,by omega,⟨.inl rfl,.inl rfl⟩,S1⟩
 case round=>
  clear S1;obtain ⟨i,j,rfl,rfl,aB,aC,av,hk,HB,S1⟩:=hrel;rcases aV i j with hlt | hge
  .have hlz:(i:Int) < (j:Int):=by omega
   obtain ⟨h,hh⟩:=i7 ((i+j) / 2);have hm2:(((i:Int)+(j:Int)) / 2)=(h:Int):=by omega
   have hih:i<=h:=by omega
   have hjh:h < j:=by omega
   clear hh;obtain ⟨x,hx⟩:=i7 (X[h - a]!);have aq:dk[m]! = y:=DA.out;have ai:dk[h]! = x:=by rw[hx];exact DX.out h (by omega) (by omega)
   have aa:=aw.out;have hN:=aj.out;obtain ⟨L,hL⟩:=iZ (ltOf cf y x);have HL:=Lib.hid hL;have HX:=Lib.hid hx;clear hx;obtain ⟨eac,pac,bac,rac⟩:=ixf (i:=m) (N:=N) (by omega) (by omega);obtain ⟨ecc,pcc,bcc,rcc⟩:=ixf (i:=h) (N:=N) (by omega) (by omega);have am:∀n os,bb prog (loadCells ⟨blk,off+(m)*6,none⟩ 6) (grow (wr.drewN n) os) = .ok (enc dk[m]!).toArray (grow (wr.drewN n) os):=S1.out.ld R (by omega) prog (m) (by omega);have al:∀n os,bb prog (loadCells ⟨blk,off+(h)*6,none⟩ 6) (grow (wr.drewN n) os) = .ok (enc dk[h]!).toArray (grow (wr.drewN n) os):=S1.out.ld R (by omega) prog (h) (by omega);rw[aq] at am;rw[ai] at al;have ap:=S1.out.cmp HC.out (by omega) y x;have hdc:decide (cf y x < 0)=L:=hL;go_wp2_with fail
   go_quiet_grown (first | (go_at_fn g;refine a7 (ap _ _)))
   have S2:Aside (SWK enc 6 w0 blk off dk (grow (wr.drewN nq) osq)):=S1.out.grown nq osq;clear aa hN ai aq hL am al ap S1;generalize grow (wr.drewN nq) osq=w2 at S2 |-;clear nq osq
   cases L with
   | false=>
    have ad:Hid ((h+1=a\/ltOf cf y X[h+1 - a - 1]! = false)/\(j=m\/ltOf cf y X[j - a]! = true)):=⟨.inr (by rw[show h+1 - a - 1=h - a by omega,<-HX.out];exact HL.out),HB.out.2⟩;clear HB HX HL;go_wp2_with fail
    go_roundg (j - (h+1))
    case measure=>omega
    case rel=>exact ⟨h+1,j,by first | rfl | go_num,rfl,by omega,by omega,av,by omega,ad,S2⟩
   | true=>
    have ad:Hid ((i=a\/ltOf cf y X[i - a - 1]! = false)/\(h=m\/ltOf cf y X[h - a]! = true)):=⟨HB.out.1,.inr (by rw[<-HX.out];exact HL.out)⟩;clear HB HX HL;go_wp2_with fail
    go_roundg (h - i)
    case measure=>omega
    case rel=>exact ⟨i,h,rfl,rfl,aB,by omega,by omega,by omega,ad,S2⟩
  .have he:j=i:=by omega
   subst he;have aE:¬(j:Int) < (j:Int):=by omega
   obtain ⟨p,hp⟩:=i7 (j - a)
   have HE:Hid (mrg (ltOf cf) X [y]=X.take p++y :: X.drop p):=by obtain ⟨q1,q2,q3,q4,q5,q6,q7⟩:=HQ.out;refine Kgi SW q7 p (by omega) (HB.out.1.imp (fun h=>by omega) fun h=>by rw[hp];exact h) (HB.out.2.imp (fun h=>by omega) fun h=>by rw[hp];exact h)
   have HP:Hid (j=a+p/\p<=X.length):=by obtain ⟨q1,q2,q3,q4,q5,q6,q7⟩:=HQ.out;exact ⟨by omega,by omega⟩
   have S2:Aside (SWK enc 6 w0 blk off (A++(X.take p++(X.drop p++y :: ([]++S)))).toArray wr):=by have e:=S1.out;rw[HQ.out.1] at e;rw[<-aR (X.take p),aU];exact e
   clear hp HB S1 aC;go_wp2_with fail
   go_loopg [17] (X.length - p) (fun kx s13 wr=>∃(k:Nat) (U V:List α),s13 = .int .i64 k/\j<=k/\k<=m/\Hid (U.length<=kx/\j+U.length=k/\X.drop p=U++V)/\Aside (SWK enc 6 w0 blk off (A++(X.take p++(U++y :: (V++S)))).toArray wr))
   case atStart=>
    have hl:(X.drop p).length=X.length - p:=by rw[bg]
    have q:=HP.out;have q2:=HQ.out.2.2.2.2.1;exact ⟨m,X.drop p,[],rfl,by omega,aX _,⟨by omega,by omega,by simp⟩,S2⟩
   case round=>
    clear S2;obtain ⟨k,U,V,rfl,hak,hkj,HU,S1⟩:=hrel;rcases List.eq_nil_or_concat U with rfl | ⟨U',u,rfl⟩
    .have aA:¬(j:Int) < (k:Int):=by have:=HU.out.2.1;simp only[aQ] at this;omega
     have e2:SWK enc 6 w0 blk off (A++(mrg (ltOf cf) X [y]++S)).toArray wr:=by have e:=S1.out;have q:=HU.out.2.2;rw[List.nil_append] at q;rw[HE.out,q];simpa using e
     have S2:Aside (SWK enc 6 w0 blk off (A++(mrg (ltOf cf) X [y]++S)).toArray wr):=e2;clear S1 e2;go_wp2_with fail
     (try simp only[Exit.inBlock,Exit.then]);refine bodyPost_ret (results_none rfl _ _ _) rfl ?_
     exact ⟨rfl,S2.out⟩
    .obtain ⟨ao,ah,ac⟩:=HU.out;simp only[aZ,Jd,aP,aQ] at ao ah;obtain ⟨kp,rfl⟩:∃kp,k=kp+1:=⟨k - 1,by omega⟩;have aA:(j:Int) < (kp:Int)+1:=by omega
     have hjk:j<=kp:=by omega
     obtain ⟨q1,q2,q3,q4,q5,q6,q7⟩:=HQ.out;obtain ⟨p1,p2⟩:=HP.out;have aD:(X.take p).length=p:=by rw[aY];omega
     have HN:Hid (swp (A++(X.take p++(U'.concat u++y :: (V++S)))).toArray (kp+1) (kp)=(A++(X.take p++(U'++y :: (u :: V++S)))).toArray):=by
      show _=_
      rw[show A++(X.take p++(U'.concat u++y :: (V++S)))=(A++(X.take p++U'))++u :: ([]++y :: (V++S)) by simp,Kgu (i:=kp) (by simp only[Jd];omega) (by simp only[Jd,aQ];omega)];simp
     have ar:Hid (U'.length<=gk - 1/\j+U'.length=kp/\X.drop p=U'++(u :: V)):=⟨by omega,by omega,by rw[ac];simp⟩;have hgk:0 < gk:=by omega
     have aa:(A++(X.take p++(U'.concat u++y :: (V++S)))).toArray.size=N:=by
      have hl:(X.drop p).length=U'.length+1+V.length:=by rw[ac];simp;omega
      have hl2:(X.take p).length+(X.drop p).length=X.length:=by rw[<-Jd,aU]
      simp only[aZ,aS,Jd,aP,aQ];omega
     have hN:=aj.out;obtain ⟨dm,an⟩:=i7 ((A++(X.take p++(U'.concat u++y :: (V++S)))).toArray);rw[<-an] at HN S1 aa;clear an HU ao ah ac q1 q2 q3 q4 q5 q6 q7 p1 p2 aD;go_wp2_with fail
     have eat:((kp:Int)+1).toNat=kp+1:=by omega
     have pat:(0:Int)<=(kp:Int)+1:=by omega
     have bat:(kp:Int)+1 < (N:Int):=by omega
     have rat:a5.wrap ((kp:Int)+1)=(kp:Int)+1:=by rw[a1];omega
     have ect:((kp:Int)).toNat=kp:=by omega
     have pct:(0:Int)<=(kp:Int):=by omega
     have bct:(kp:Int) < (N:Int):=by omega
     have rct:a5.wrap ((kp:Int))=(kp:Int):=by rw[a1];omega
     have S2:Aside (SWK enc 6 w0 blk off (swp dm (kp+1) (kp)) ((wr.drew.setCells blk (off+(kp+1)*6) (enc dm[kp]!)).setCells blk (off+(kp)*6) (enc dm[kp+1]!))):=S1.out.swapped R (kp+1) (kp) (by omega) (by omega);have ag:bb prog (loadCells ⟨blk,off+(kp+1)*6,none⟩ 6) wr.drew = .ok (enc dm[kp+1]!).toArray wr.drew:=S1.out.ld1 R (by omega) prog (kp+1) (by omega);have af:bb prog (loadCells ⟨blk,off+(kp)*6,none⟩ 6) wr.drew = .ok (enc dm[kp]!).toArray wr.drew:=S1.out.ld1 R (by omega) prog (kp) (by omega);have ak:=S1.out.st1 R (by omega) prog (kp+1) (by omega) dm[kp]!;have ae:=S1.out.st2 R (by omega) prog (kp+1) (kp) (by omega) (by omega) dm[kp]! dm[kp+1]!;have ay:(enc dm[kp+1]!).length=6:=R.hk _;have ax:(enc dm[kp]!).length=6:=R.hk _;generalize enc dm[kp+1]! = cIt at S2 ag ae ay;generalize enc dm[kp]! = cJt at S2 af ak ae ax;clear S1 aa hN;go_wp2_with fail
     go_big_region_o
     clear ag af ak ae;generalize (wr.drew.setCells blk (off+(kp+1)*6) cJt).setCells blk (off+(kp)*6) cIt=w2 at S2 |-;rw[HN.out] at S2;go_wp2
     go_roundg (gk - 1)
     case measure=>omega
     case rel=>exact ⟨kp,U',u :: V,by first | rfl | go_num,by omega,by omega,ar,S2⟩
theorem Kqy (SW:SWO (ltOf cf)) (eg:∀args w,(callFunc g args).run prog w = .ok (.enter g args) w) (hcmp:CmpLays prog g cb enc 6 cf blk off d0.size w0) (R:RowK enc 6 w0 blk off d0) (hN:d0.size=N) (hsz:N < 4611686018427387904) (nn:Nat) (IH:∀(A X Y S:List α) (a m b:Nat) (w:World),X.length+Y.length<=nn->A.length+X.length+Y.length+S.length=N->a=A.length->m=a+X.length->b=m+Y.length->0 < X.length->0 < Y.length->(X.Pairwise fun a b=>ltOf cf b a=false)->(Y.Pairwise fun a b=>ltOf cf b a=false)->SWK enc 6 w0 blk off (A++(X++(Y++S))).toArray w->Calls prog 227 #[.slice (some ⟨blk,off,none⟩) N cap,.int .i64 a,.int .i64 m,.int .i64 b,.func (.func g) #[] cb] w fun e w'=>e = .returned (.tuple #[])/\SWK enc 6 w0 blk off (A++(mrg (ltOf cf) X Y++S)).toArray w')
  (A X Y S:List α) (a m b:Nat) (w:World) (hnn:X.length+Y.length<=nn+1) (hl:A.length+X.length+Y.length+S.length=N) (ha:a=A.length) (hm:m=a+X.length) (hb:b=m+Y.length) (X2:1 < X.length) (Y2:1 < Y.length) (hX:(X.Pairwise fun a b=>ltOf cf b a=false)) (hY:(Y.Pairwise fun a b=>ltOf cf b a=false))
  (S0:SWK enc 6 w0 blk off (A++(X++(Y++S))).toArray w) :
  Calls prog 227 #[.slice (some ⟨blk,off,none⟩) N cap,.int .i64 a,.int .i64 m,.int .i64 b,.func (.func g) #[] cb] w fun e w'=>e = .returned (.tuple #[])/\SWK enc 6 w0 blk off (A++(mrg (ltOf cf) X Y++S)).toArray w':=by
 have mixed:prog.follows .mixedOrders=true:=by kernel_rfl
 have HC:Aside _:=hcmp;have ar:Aside _:=IH;have dma:(((m:Int) - (a:Int)) == 1)=false:=by simp;omega
 have dbm:(((b:Int) - (m:Int)) == 1)=false:=by simp;omega
 have hbN:b<=N:=by omega
 have ham:a+2<=m:=by omega
 have hmb:m+2<=b:=by omega
 obtain ⟨mid,av⟩:=i7 ((a+b) / 2);have aE:((a:Int)+(b:Int)) / 2=(mid:Int):=by omega
 have aj:2*mid<=a+b:=by omega
 have ak:a+b<=2*mid+1:=by omega
 obtain ⟨dk,al⟩:=i7 ((A++(X++(Y++S))).toArray);have ac:dk.size=N:=by rw[al];simp only[aS,Jd];omega
 have ao:Hid (d0.size=N):=hN;rw[<-al] at S0;have S1:Aside (SWK enc 6 w0 blk off dk w):=S0;have aA:Hid (dk.size=N):=ac
 have ag:∃lo hi:Nat,lo<=hi/\a<=lo/\hi<=m/\hi<=mid/\mid+m<=lo+b/\((mid < m/\lo+b=mid+m/\hi=mid)\/(m<=mid/\lo=a/\hi=m)):=by
  rcases aV mid m with h | h
  .exact ⟨mid+m - b,mid,by omega,by omega,by omega,by omega,by omega,.inl ⟨h,by omega,rfl⟩⟩
  .exact ⟨a,m,by omega,by omega,by omega,by omega,by omega,.inr ⟨h,rfl,rfl⟩⟩
 obtain ⟨lo,hi,ax,aC,aD,ae,ah,ab⟩:=ag;have af:Hid ((mid < m/\lo+b=mid+m/\hi=mid)\/(m<=mid/\lo=a/\hi=m)):=ab;have ad:Hid _:=fun (e j:Nat)=>@Klt _ _ (ltOf cf) A X Y S dk a m b mid lo hi e j nn N SW al hl ha hm hb hX hY hnn X2 Y2 aj ak ab
 clear S0 al hl ha hm hb hX hY hnn hcmp hN ac av IH X2 Y2 ab;go_enter func227,ntmps227
 go_upto_if 140 with fail
 go_cut [20,21] from 138 to 146 (fun s20 s21 wz=>∃l h:Int,s20 = .int .i64 l/\s21 = .int .i64 h/\l=(lo:Int)/\h=(hi:Int)/\wz=w)
 case first=>
  rcases af.out with ⟨hc1,hc2,hc3⟩ | ⟨hc1,hc2,hc3⟩
  .have aI:(mid:Int) < (m:Int):=by omega
   have ai:Hid (lo+b=mid+m/\hi=mid):=⟨hc2,hc3⟩;clear hc2 hc3;go_wp2_with fail
   go_meet
   exact ⟨_,_,rfl,rfl,by have:=ai.out;omega,by have:=ai.out;omega,rfl⟩
  .have aI:¬(mid:Int) < (m:Int):=by omega
   have ai:Hid (lo=a/\hi=m):=⟨hc2,hc3⟩;clear hc2 hc3;go_wp2_with fail
   go_meet
   exact ⟨_,_,rfl,rfl,by have:=ai.out;omega,by have:=ai.out;omega,rfl⟩
 case rest=>
  obtain ⟨l0,h0,rfl,rfl,aK,aG,aa⟩:=hcut;have aa:=aa.symm;subst aa;subst aK;subst aG;go_wp2_with fail
  go_loopg [20,21] (hi - lo) (fun kx s10 s11 wr=>∃(i j:Nat),s10 = .int .i64 i/\s11 = .int .i64 j/\lo<=i/\i<=j/\j<=hi/\j - i<=kx/\Hid ((i=lo\/ltOf cf dk[mid+m - i]! dk[i - 1]! = false)/\(j=hi\/ltOf cf dk[mid+m - 1 - j]! dk[j]! = true))/\Aside (SWK enc 6 w0 blk off dk wr))
  case atStart=>exact ⟨lo,hi,rfl,rfl,aX _,ax,aX _,aX _,⟨.inl rfl,.inl rfl⟩,S1⟩
  case round=>
   clear S1;obtain ⟨i,j,rfl,rfl,aq,aL,ap,hk,HB,S1⟩:=hrel;rcases aV i j with hlt | hge
   .have hlz:(i:Int) < (j:Int):=by omega
    obtain ⟨h,hh⟩:=i7 ((i+j) / 2);have hm2:(((i:Int)+(j:Int)) / 2)=(h:Int):=by omega
    have hih:i<=h:=by omega
    have hjh:h < j:=by omega
    clear hh;obtain ⟨q,hq⟩:=i7 (mid+m - 1 - h);have aH:(mid:Int)+(m:Int) - 1 - (h:Int)=(q:Int):=by omega
    have aN:q < N:=by omega
    have aF:h < N:=by omega
    obtain ⟨y,hy⟩:=i7 (dk[q]!);obtain ⟨x,hx⟩:=i7 (dk[h]!);have aw:dk[q]! = y:=hy.symm;have an:dk[h]! = x:=hx.symm;have ac:=aA.out;have hN:=ao.out;obtain ⟨L,hL⟩:=iZ (ltOf cf y x);have HL:Hid (ltOf cf y x=L/\q=mid+m - 1 - h/\dk[q]! = y/\dk[h]! = x):=⟨hL,hq,aw,an⟩;clear hy hx hq;obtain ⟨eac,pac,bac,rac⟩:=ixf (i:=q) (N:=N) (by omega) (by omega);obtain ⟨ecc,pcc,bcc,rcc⟩:=ixf (i:=h) (N:=N) (by omega) (by omega);have az:∀n os,bb prog (loadCells ⟨blk,off+(q)*6,none⟩ 6) (grow (wr.drewN n) os) = .ok (enc dk[q]!).toArray (grow (wr.drewN n) os):=S1.out.ld R (by omega) prog (q) (by omega);have ay:∀n os,bb prog (loadCells ⟨blk,off+(h)*6,none⟩ 6) (grow (wr.drewN n) os) = .ok (enc dk[h]!).toArray (grow (wr.drewN n) os):=S1.out.ld R (by omega) prog (h) (by omega);rw[aw] at az;rw[an] at ay;have aB:=S1.out.cmp HC.out (by omega) y x;have hdc:decide (cf y x < 0)=L:=hL;go_wp2_with fail
    go_quiet_grown (first | (go_at_fn g;refine a7 (aB _ _)))
    have S2:Aside (SWK enc 6 w0 blk off dk (grow (wr.drewN nq) osq)):=S1.out.grown nq osq;clear ac hN an aw hL aN aF aH az ay aB S1;generalize grow (wr.drewN nq) osq=w2 at S2 |-;clear nq osq
    cases L with
    | false=>
     have am:Hid ((h+1=lo\/ltOf cf dk[mid+m - (h+1)]! dk[h+1 - 1]! = false)/\(j=hi\/ltOf cf dk[mid+m - 1 - j]! dk[j]! = true)):=⟨.inr (by obtain ⟨h1,h2,h3,h4⟩:=HL.out;rw[show mid+m - (h+1)=q by omega,Nat.add_sub_cancel,h3,h4];exact h1),HB.out.2⟩;clear HB HL;go_wp2_with fail
     go_roundg (j - (h+1))
     case measure=>omega
     case rel=>exact ⟨h+1,j,by first | rfl | go_num,rfl,by omega,by omega,ap,by omega,am,S2⟩
    | true=>
     have am:Hid ((i=lo\/ltOf cf dk[mid+m - i]! dk[i - 1]! = false)/\(h=hi\/ltOf cf dk[mid+m - 1 - h]! dk[h]! = true)):=⟨HB.out.1,.inr (by obtain ⟨h1,h2,h3,h4⟩:=HL.out;rw[<-h2,h3,h4];exact h1)⟩;clear HB HL;go_wp2_with fail
     go_roundg (h - i)
     case measure=>omega
     case rel=>exact ⟨i,h,rfl,rfl,aq,by omega,by omega,by omega,am,S2⟩
   .have he:j=i:=by omega
    subst he;have aM:¬(j:Int) < (j:Int):=by omega
    obtain ⟨e,he⟩:=i7 (mid+m - j);have he2:(mid:Int)+(m:Int) - (j:Int)=(e:Int):=by omega
    have hN:=ao.out;obtain ⟨X1,X2,Y1,Y2,m1,m2,m3,m4,m5,m6,m7,m8,m9,mA,mB,mC,mD,mE,mF⟩:=ad.out e j he aq ap aC aD ae ah HB.out.1 HB.out.2;have aJ:=Kmc (ltOf cf) X1 Y1;have T0:Aside (SWK enc 6 w0 blk off (A++(X1++(X2++(Y1++(Y2++S))))).toArray wr):=by have:=S1.out;rw[m1] at this;exact this
    have C1:Aside (j < m->m < e->∀W,SWK enc 6 w0 blk off (A++(X1++(X2++(Y1++(Y2++S))))).toArray W->Calls prog 256 #[.slice (some ⟨blk,off,none⟩) N cap,.int .i64 j,.int .i64 m,.int .i64 e,.func (.func g) #[] cb] W fun e w'=>e = .returned (.tuple #[])/\SWK enc 6 w0 blk off (A++(X1++(Y1++(X2++(Y2++S))))).toArray w'):=fun g1 g2 W h=>by have:=Ktl (cap:=cap) (g:=g) (cb:=cb) (A++X1) X2 Y1 (Y2++S) j m e W R hN (by simp only[Jd];omega) (by simp only[Jd];omega) (by simp only[Jd];omega) (by simp only[Jd];omega) (by omega) (by omega) hsz (by rw[aR];exact h);rw[aR] at this;exact this
    have C2:Aside (a < j->j < mid->∀W,SWK enc 6 w0 blk off (A++(X1++(Y1++(X2++(Y2++S))))).toArray W->Calls prog 227 #[.slice (some ⟨blk,off,none⟩) N cap,.int .i64 a,.int .i64 j,.int .i64 mid,.func (.func g) #[] cb] W fun e w'=>e = .returned (.tuple #[])/\SWK enc 6 w0 blk off (A++(mrg (ltOf cf) X1 Y1++(X2++(Y2++S)))).toArray w'):=fun g1 g2 W h=>
     ar.out A X1 Y1 (X2++(Y2++S)) a j mid W (by omega) (by simp only[Jd];omega) (by omega) (by omega) (by omega) (by omega) (by omega) mC mE h
    have C3:Aside (mid < e->e < b->∀W,SWK enc 6 w0 blk off (A++(mrg (ltOf cf) X1 Y1++(X2++(Y2++S)))).toArray W->Calls prog 227 #[.slice (some ⟨blk,off,none⟩) N cap,.int .i64 mid,.int .i64 e,.int .i64 b,.func (.func g) #[] cb] W fun e w'=>e = .returned (.tuple #[])/\SWK enc 6 w0 blk off (A++(mrg (ltOf cf) X Y++S)).toArray w'):=fun g1 g2 W h=>by have:=ar.out (A++mrg (ltOf cf) X1 Y1) X2 Y2 S mid e b W (by omega) (by simp only[Jd];omega) (by simp only[Jd];omega) (by omega) (by omega) (by omega) (by omega) mD mF (by rw[aR];exact h);rw[m2];rw[aR] at this |-;exact this
    have N1:Aside (¬(j < m/\m < e)->A++(X1++(X2++(Y1++(Y2++S))))=A++(X1++(Y1++(X2++(Y2++S))))):=fun h=>Kqs (by omega)
    have N2:Aside (¬(a < j/\j < mid)->A++(X1++(Y1++(X2++(Y2++S))))=A++(mrg (ltOf cf) X1 Y1++(X2++(Y2++S)))):=fun h=>Kgx _ (by omega)
    have N3:Aside (¬(mid < e/\e < b)->A++(mrg (ltOf cf) X1 Y1++(X2++(Y2++S)))=A++(mrg (ltOf cf) X Y++S)):=fun h=>by rw[m2,aR,<-Kgx (A:=mrg (ltOf cf) X1 Y1) _ (by omega)]
    have hjN:j<=N:=by omega
    have heN:e<=N:=by omega
    clear m1 m2 m3 m4 m5 m6 m7 m8 m9 mA mB mC mD mE mF aJ hN he HB af ad S1 aL hk hge ar HC aq ap ax aC aD ae ah aA ao;obtain ⟨q,hq⟩:∃q:Bool,q=decide (j < m/\m < e):=⟨_,rfl⟩;have HQ:Hid _:=hq;clear hq;go_upto_region 39 with fail
    go_cut [185] from 178 to 184 (fun s wz=>s = .bool q/\wz=wr)
    case first=>
     have hq:=HQ.out
     by_cases g1:j < m
     .have d1:(j:Int) < (m:Int):=by omega
      by_cases g2:m < e
      .have d2:(m:Int) < (e:Int):=by omega
       rw[jd ⟨g1,g2⟩] at hq;subst hq;go_wp2_with fail
       go_meet
       exact ⟨rfl,rfl⟩
      .have d2:¬(m:Int) < (e:Int):=by omega
       rw[ja (fun h=>g2 h.2)] at hq;subst hq;go_wp2_with fail
       go_meet
       exact ⟨rfl,rfl⟩
     .have d1:¬(j:Int) < (m:Int):=by omega
      rw[ja (fun h=>g1 h.1)] at hq;subst hq;go_wp2_with fail
      go_meet
      exact ⟨rfl,rfl⟩
    case rest=>
     obtain ⟨rfl,aa⟩:=hcut;have aa:=aa.symm;subst aa;go_upto_if 185 with fail
     go_cut [] from 186 to 191 (fun wz=>Aside (SWK enc 6 w0 blk off (A++(X1++(Y1++(X2++(Y2++S))))).toArray wz))
     case first=>
      cases q with
      | true=>
       obtain ⟨g1,g2⟩:=jh HQ.out.symm;have D:Aside _:=C1.out g1 g2;clear g1 g2 HQ;go_wp2_with fail
       refine a6 (D.out _ T0.out) ?_;rintro _ w9 ⟨rfl,h1⟩;have T9:Aside _:=h1;clear h1;go_wp2_with fail
       go_meet
       exact T9
      | false=>
       have T9:Aside (SWK enc 6 w0 blk off (A++(X1++(Y1++(X2++(Y2++S))))).toArray wr):=by rw[<-N1.out (ji HQ.out.symm)];exact T0.out
       clear HQ;go_wp2_with fail
       go_meet
       exact T9
     case rest=>
      have T1:Aside _:=hcut.out;clear hcut HQ T0;obtain ⟨w3,rfl⟩:=i7 wc;obtain ⟨q,hq⟩:∃q:Bool,q=decide (a < j/\j < mid):=⟨_,rfl⟩;have HQ:Hid _:=hq;clear hq;go_upto_region 41 with fail
      go_cut [199] from 192 to 198 (fun s wz=>s = .bool q/\wz=w3)
      case first=>
       have hq:=HQ.out
       by_cases g1:a < j
       .have d1:(a:Int) < (j:Int):=by omega
        by_cases g2:j < mid
        .have d2:(j:Int) < (mid:Int):=by omega
         rw[jd ⟨g1,g2⟩] at hq;subst hq;go_wp2_with fail
         go_meet
         exact ⟨rfl,rfl⟩
        .have d2:¬(j:Int) < (mid:Int):=by omega
         rw[ja (fun h=>g2 h.2)] at hq;subst hq;go_wp2_with fail
         go_meet
         exact ⟨rfl,rfl⟩
       .have d1:¬(a:Int) < (j:Int):=by omega
        rw[ja (fun h=>g1 h.1)] at hq;subst hq;go_wp2_with fail
        go_meet
        exact ⟨rfl,rfl⟩
      case rest=>
       obtain ⟨rfl,aa⟩:=hcut;have aa:=aa.symm;subst aa;go_upto_if 199 with fail
       go_cut [] from 200 to 205 (fun wz=>Aside (SWK enc 6 w0 blk off (A++(mrg (ltOf cf) X1 Y1++(X2++(Y2++S)))).toArray wz))
       case first=>
        cases q with
        | true=>
         obtain ⟨g1,g2⟩:=jh HQ.out.symm;have D:Aside _:=C2.out g1 g2;clear g1 g2 HQ;go_wp2_with fail
         refine a6 (D.out _ T1.out) ?_;rintro _ w9 ⟨rfl,h1⟩;have T9:Aside _:=h1;clear h1;go_wp2_with fail
         go_meet
         exact T9
        | false=>
         have T9:Aside (SWK enc 6 w0 blk off (A++(mrg (ltOf cf) X1 Y1++(X2++(Y2++S)))).toArray w3):=by rw[<-N2.out (ji HQ.out.symm)];exact T1.out
         clear HQ;go_wp2_with fail
         go_meet
         exact T9
       case rest=>
        have T2:Aside _:=hcut.out;clear hcut HQ T1;obtain ⟨w4,rfl⟩:=i7 wc;obtain ⟨q,hq⟩:∃q:Bool,q=decide (mid < e/\e < b):=⟨_,rfl⟩;have HQ:Hid _:=hq;clear hq;go_upto_region 43 with fail
        go_cut [213] from 206 to 212 (fun s wz=>s = .bool q/\wz=w4)
        case first=>
         have hq:=HQ.out
         by_cases g1:mid < e
         .have d1:(mid:Int) < (e:Int):=by omega
          by_cases g2:e < b
          .have d2:(e:Int) < (b:Int):=by omega
           rw[jd ⟨g1,g2⟩] at hq;subst hq;go_wp2_with fail
           go_meet
           exact ⟨rfl,rfl⟩
          .have d2:¬(e:Int) < (b:Int):=by omega
           rw[ja (fun h=>g2 h.2)] at hq;subst hq;go_wp2_with fail
           go_meet
           exact ⟨rfl,rfl⟩
         .have d1:¬(mid:Int) < (e:Int):=by omega
          rw[ja (fun h=>g1 h.1)] at hq;subst hq;go_wp2_with fail
          go_meet
          exact ⟨rfl,rfl⟩
        case rest=>
         obtain ⟨rfl,aa⟩:=hcut;have aa:=aa.symm;subst aa
         cases q with
         | true=>
          obtain ⟨g1,g2⟩:=jh HQ.out.symm;have D:Aside _:=C3.out g1 g2;clear g1 g2 HQ;go_wp2_with fail
          refine a6 (D.out _ T2.out) ?_;rintro _ w9 ⟨rfl,h1⟩;have T9:Aside _:=h1;clear h1;go_wp2_with fail
          go_end0
          exact ⟨rfl,T9.out⟩
         | false=>
          have T9:Aside (SWK enc 6 w0 blk off (A++(mrg (ltOf cf) X Y++S)).toArray w4):=by rw[<-N3.out (ji HQ.out.symm)];exact T2.out
          clear HQ;go_wp2_with fail
          go_end0
          exact ⟨rfl,T9.out⟩
theorem Kil (SW:SWO (ltOf cf)) (eg:∀args w,(callFunc g args).run prog w = .ok (.enter g args) w) (hcmp:CmpLays prog g cb enc 6 cf blk off d0.size w0) (R:RowK enc 6 w0 blk off d0) (hN:d0.size=N) (hsz:N < 4611686018427387904):∀(nn:Nat) (A X Y S:List α) (a m b:Nat) (w:World),X.length+Y.length<=nn->A.length+X.length+Y.length+S.length=N->a=A.length->m=a+X.length->b=m+Y.length->0 < X.length->0 < Y.length->(X.Pairwise fun a b=>ltOf cf b a=false)->(Y.Pairwise fun a b=>ltOf cf b a=false)->SWK enc 6 w0 blk off (A++(X++(Y++S))).toArray w->Calls prog 227 #[.slice (some ⟨blk,off,none⟩) N cap,.int .i64 a,.int .i64 m,.int .i64 b,.func (.func g) #[] cb] w fun e w'=>e = .returned (.tuple #[])/\SWK enc 6 w0 blk off (A++(mrg (ltOf cf) X Y++S)).toArray w'
 | 0,A,X,Y,S,a,m,b,w,h,_,_,_,_,hx,_,_,_,_=>jl h (by omega)
 | nn+1,A,X,Y,S,a,m,b,w,h,hl,ha,hm,hb,hx,hy,hX,hY,S0=>by
  rcases aV 1 X.length with h1 | h1
  .rcases aV 1 Y.length with h2 | h2
   .exact Kqy SW eg hcmp R hN hsz nn (Kil SW eg hcmp R hN hsz nn) A X Y S a m b w h hl ha hm hb h1 h2 hX hY S0
   .obtain ⟨y,rfl⟩:∃y,Y = [y]:=a9.1 (by omega);exact Kqv SW eg hcmp R hN hsz A y X S a m b w (by simpa using hl) ha hm (by simpa using hb) h1 hX S0
  .obtain ⟨x,rfl⟩:∃x,X = [x]:=a9.1 (by omega);exact Ktx SW eg hcmp R hN hsz A x Y S a m b w (by simpa using hl) ha (by simpa using hm) hb hy hY S0
end
end
end Go.Proofs.YtdoiekknhnbepaaGreatDoor
