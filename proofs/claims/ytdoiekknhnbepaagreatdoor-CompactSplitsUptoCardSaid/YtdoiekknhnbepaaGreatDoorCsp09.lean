/- Merged (what the claim wants of): MrgStabW, MrgOnceW, MrgMerge. -/
import Derived.Test.YtdoiekknhnbepaaGreatDoorCsp08
set_option linter.unusedVariables false
set_option linter.unusedSimpArgs false
set_option maxRecDepth 1000000
set_option linter.ambiguousOpen false
set_option maxHeartbeats 8000000
namespace Go.Proofs.YtdoiekknhnbepaaGreatDoor
open Go renaming wpQuiet_nil->eZ
open Value renaming int->ee,slice->ef,func->ej
open List renaming getElem?_eq_getElem->ek
open Act renaming put->el
open World renaming ownsRow_nil->en,cell?_of_block->er,grownBy_alloc->es
open Oper renaming wp_called->ev,wp_ran->ex,wp_skipped->ey
open MS renaming s->eR
open Calls renaming mono->eS
open World.ownsRow renaming alloc->eT,lt->eU
open Blk renaming new->eV,newAt->eW
open Wnd renaming start->eX
open Addr renaming add->eY
open Tryz
open List renaming eq_nil_of_length_eq_zero->ZZ,length_set->eb,take_append_drop->ec,append_assoc->ed,append_nil->ei,length_append->eo,length_take->eq,length_nil->et,take_succ_cons->ew,drop_succ_cons->ez,not_mem_nil->eB,take_of_length_le->eC,length_map->eD,getElem_set_self->eF,length_filter_le->eG,take_zero->eH,drop_zero->eI,flatMap_append->eJ,size_toArray->eM,getElem_map->eN,take_left'->eO,map_append->eP,mem_cons->eQ
open Nat renaming le_refl->eh,lt_or_ge->ep,le_trans->eA,eq_zero_or_pos->eK,lt_of_lt_of_le->eL
open _root_.Array renaming replicate->eE
section
open List renaming length_append -> Jd
attribute [-go_sem] loadCells
open Go.Shelf Go.RowKit Go.Lib Go.Sort
section
variable {α : Type} [Inhabited α] {enc : α -> List Value} {cf : α -> α -> Int} {d0 : Array α} {w0 : World} {blk off cap g N : Nat} {cb : Array Value}
def Kvp:Go.Shelf.Ren:=⟨fun | 20=>226 | n=>n,fun | 0=>0 | 3=>3 | 4=>4 | 22=>56 | 24=>135 | 25=>229 | n=>n,fun | n=>n⟩
theorem Qfz:SlLaysF0.n20 prog Kvp:={
 mixed:=by kernel_rfl
 f20:=⟨Tryz.f226.name,by decide,func226.trans (jk some (by kernel_rfl))⟩
 t0:=underlying0
 a0:=isAgg0
 z0:=sizeOf0
 v0:=zeroValue0
 t3:=underlying3
 a3:=isAgg3
 z3:=sizeOf3
 v3:=zeroValue3
 t4:=underlying4
 a4:=isAgg4
 z4:=sizeOf4
 v4:=zeroValue4
 t22:=underlying56
 a22:=isAgg56
 z22:=sizeOf56
 v22:=zeroValue56
 t25:=underlying229
 a25:=isAgg229
 z25:=sizeOf229
 v25:=zeroValue229 }
theorem Ktg (SW:SWO (ltOf cf)) (eg:∀args w,(callFunc g args).run prog w = .ok (.enter g args) w) (hcmp:CmpLays prog g cb enc 6 cf blk off d0.size w0) (R:RowK enc 6 w0 blk off d0) (hN:d0.size=N) (hsz:N < 1152921504606846976) (A Y S:List α) (a b:Nat) (w:World) (hl:A.length+Y.length+S.length=N) (ha:a=A.length) (hb:b=a+Y.length) (S0:SWK enc 6 w0 blk off (A++(Y++S)).toArray w) :
  Calls prog 226 #[.slice (some ⟨blk,off,none⟩) N cap,.int .i64 a,.int .i64 b,.func (.func g) #[] cb] w fun e w'=>e = .returned (.tuple #[])/\∃Z,Stab (ltOf cf) Y Z/\SWK enc 6 w0 blk off (A++(Z++S)).toArray w':=by
 have aa:(A++(Y++S)).toArray.size=N:=by simp only[eM,Jd];omega
 have h:=AnyQ.insertionSortCmpFunc Qfz 6 isAgg135 sizeOf135 enc R.hk R.h1 cf g cb blk off cap a b (A++(Y++S)).toArray w eg ?_ (S0.holds R.hblk R.hH (by rw[aa,hN])) (S0.lt R.hblk) (by omega) (by rw[aa];omega) (by rw[aa];omega)
 .rw[aa] at h;refine eS h ?_;rintro _ w' ⟨rfl,n,os,rfl⟩;refine ⟨rfl,?_⟩;rcases eK Y.length with h0 | h0
  .have:Y = []:=ZZ h0;subst this;refine ⟨[],Stab.nil,?_⟩;have e:=Kfo (lt:=ltOf cf) A S;rw[show b=A.length by simpa[ha] using hb,ha,show A++([]++S)=A++S from rfl,e];exact S0.on R.hblk _ _ _ rfl
  .obtain ⟨Z,hz,e⟩:=Kfi SW A Y S h0;refine ⟨Z,hz,?_⟩;rw[hb,ha,e];exact S0.on R.hblk _ _ _ (by simp only[eM,Jd,hz.len])
 .intro m os dk hdk x y;obtain ⟨m2,ab,hw⟩:=S0.on R.hblk m dk os (by rw[hdk]);rw[hw];exact hcmp m2 ab dk (by rw[hdk,aa,hN]) x y
theorem Ktt (SW:SWO (ltOf cf)) (eg:∀args w,(callFunc g args).run prog w = .ok (.enter g args) w) (hcmp:CmpLays prog g cb enc 6 cf blk off d0.size w0) (R:RowK enc 6 w0 blk off d0) (hN:d0.size=N) (hsz:N < 1152921504606846976) (xs:List α) (w:World) (hl:xs.length=N) (S0:SWK enc 6 w0 blk off xs.toArray w) :
  Calls prog 182 #[.slice (some ⟨blk,off,none⟩) N cap,.int .i64 N,.func (.func g) #[] cb] w fun e w'=>e = .returned (.tuple #[])/\∃ys,Stab (ltOf cf) xs ys/\SWK enc 6 w0 blk off ys.toArray w':=by
 have mixed:prog.follows .mixedOrders=true:=by kernel_rfl
 have S1:Aside (SWK enc 6 w0 blk off ([]++xs).toArray w):=S0;have HN:Hid (d0.size=N/\xs.length=N):=⟨hN,hl⟩;have hb:=R.hblk;have ag:=Ktg (cap:=cap) SW eg hcmp R hN hsz;have ah:=Kil (cap:=cap) SW eg hcmp R hN (by omega);have HI:Aside _:=ag;have HS:Aside _:=ah;clear S0 hl hN hb ag ah hcmp;go_enter func182,ntmps182
 go_wp2
 go_loopg [7,8] (N+1) (fun kx s7 s8 wr=>∃(a b:Nat) (xZ xR Z:List α),s7 = .int .i64 a/\s8 = .int .i64 b/\a<=N/\a < b/\b<=N+20/\N+1<=a+kx/\Hid (b=a+20/\xs=xZ++xR/\xZ.length=a/\Whole (ltOf cf) 20 xZ Z)/\Aside (SWK enc 6 w0 blk off (Z++xR).toArray wr))
 case atStart=>exact ⟨0,20,[],xs,[],rfl,rfl,by omega,by omega,by omega,by omega,⟨rfl,rfl,rfl,.nil⟩,S1⟩
 case round=>
  clear S1;obtain ⟨a,b,xZ,xR,Z,rfl,rfl,an,am,ao,hk,HB,S1⟩:=hrel;have hZ:Z.length=a:=by rw[HB.out.2.2.2.len];exact HB.out.2.2.1
  have hR:a+xR.length=N:=by have q:=HB.out;have q2:=HN.out.2;rw[q.2.1,Jd] at q2;omega
  rcases ep N b with hlt | hge
  .have ai:¬(b:Int)<=(N:Int):=by omega
   have hc:=HI.out Z xR [] a N wr (by simp only[et];omega) (by omega) (by omega) (by rw[ei];exact S1.out);have HC:Aside _:=hc;clear hc S1 hZ hR;go_wp2_with fail
   refine eS HC.out ?_;rintro _ w3 ⟨rfl,z1,ae,h3⟩
   have al:Hid (Blks (ltOf cf) 20 xs (Z++z1)):=by
    have q:=HB.out;have q2:=HN.out;have q4:xZ.length+xR.length=N:=by rw[<-Jd,<-q.2.1];exact q2.2
    show Blks _ _ _ _
    rw[q.2.1];exact q.2.2.2.close (.last (by omega) ae)
   rw[ei] at h3;have S1:Aside (SWK enc 6 w0 blk off (Z++z1).toArray w3):=h3;clear h3 ae HB HC hk am ao an hlt ai;generalize Z++z1=ys0 at S1 al;clear Z z1 xZ xR;go_wp2_with fail
   go_loopg [6] (N+1) (fun kx s6 wr=>∃(c:Nat) (ys:List α),s6 = .int .i64 c/\0 < c/\c<=2*N+20/\N+1<=c+kx/\Hid (Blks (ltOf cf) c xs ys)/\Aside (SWK enc 6 w0 blk off ys.toArray wr))
   case atStart=>exact ⟨20,ys0,rfl,by omega,by omega,by omega,al,S1⟩
   case round=>
    clear S1 al;obtain ⟨c,ys,rfl,ak,hcN,hk,HB,S1⟩:=hrel;rcases ep c N with hlt | hge
    .have ai:(c:Int) < (N:Int):=by omega
     obtain ⟨gk0,ad⟩:=i7 gk;rw[<-ad] at hk;have ap:Hid (gk0=gk):=ad;clear ad;go_wp2_with fail
     have S2:Aside (SWK enc 6 w0 blk off ([]++ys).toArray wr):=S1;clear S1;go_loopg [7,8] (N+1) (fun kx s7 s8 wr=>∃(a b:Nat) (xZ xR Z R:List α),s7 = .int .i64 a/\s8 = .int .i64 b/\a<=N/\a+c < b/\b<=N+2*c/\N+1<=a+kx/\Hid (b=a+2*c/\xs=xZ++xR/\xZ.length=a/\Whole (ltOf cf) (2*c) xZ Z/\Blks (ltOf cf) c xR R)/\Aside (SWK enc 6 w0 blk off (Z++R).toArray wr))
     case atStart=>exact ⟨0,2*c,[],xs,[],ys,rfl,by first | rfl | go_num,by omega,by omega,by omega,by omega,⟨by omega,rfl,rfl,.nil,HB.out⟩,S2⟩
     case round=>
      clear S2 HB;obtain ⟨a,b,xZ,xR,Z,R',rfl,rfl,an,am,ao,hk2,HB,S1⟩:=hrel
      have aa:Hid (xZ.length+xR.length=N/\Z.length=a/\R'.length=xR.length/\b=a+2*c/\xZ.length=a):=by
       have q:=HB.out;have q2:=HN.out;have q4:xZ.length+xR.length=N:=by rw[<-Jd,<-q.2.1];exact q2.2
       exact ⟨q4,by rw[q.2.2.2.1.len];exact q.2.2.1,q.2.2.2.2.len,q.1,q.2.2.1⟩
      rcases ep N b with hlt2 | hge2
      .have aj:¬(b:Int)<=(N:Int):=by omega
       rcases ep (a+c) N with hm | hm
       .have aq:(a:Int)+(c:Int) < (N:Int):=by omega
        have af:∃x1 x2 r1 r2,xR=x1++x2/\R'=r1++r2/\x1.length=c/\Stab (ltOf cf) x1 r1/\Stab (ltOf cf) x2 r2/\x2.length+(a+c)=N:=by
         have q:=HB.out;have ql:=aa.out;obtain ⟨x1,x2,r1,r2,e1,e2,e3,e4,e5⟩:=q.2.2.2.2.first (by omega)
         have e6:x1.length+x2.length=xR.length:=by rw[e1,Jd]
         exact ⟨x1,x2,r1,r2,e1,e2,e3,e4,e5.short (by omega) ak,by omega⟩
        obtain ⟨x1,x2,r1,r2,e1,e2,e3,e4,e5,e6⟩:=af;have ab:=HS.out (r1.length+r2.length) Z r1 r2 [] a (a+c) N wr (eh _) (by have ql:=aa.out;have:=e4.len;have:=e5.len;simp only[et];omega) (by have ql:=aa.out;omega) (by have:=e4.len;omega) (by have:=e4.len;have:=e5.len;omega) (by have:=e4.len;omega) (by have:=e5.len;omega) e4.asc e5.asc (by rw[ei,<-e2];exact S1.out)
        have ac:Hid (Blks (ltOf cf) (2*c) xs (Z++(mrg (ltOf cf) r1 r2 ++ []))):=by
         have q:=HB.out;have ql:=aa.out;show Blks _ _ _ _
         rw[q.2.1,e1,ei];exact q.2.2.2.1.close (.last (by simp only[Jd];omega) (e4.mrg SW e5))
        push_cast at ab
        have HC:Aside _:=ab;clear ab S1 e1 e2 e3 e4 e5 e6 HB aa;go_wp2_with fail
        refine eS HC.out ?_;rintro _ w3 ⟨rfl,h3⟩;have S1:Aside (SWK enc 6 w0 blk off (Z++(mrg (ltOf cf) r1 r2 ++ [])).toArray w3):=h3;clear h3 HC;generalize Z++(mrg (ltOf cf) r1 r2 ++ [])=ys2 at S1 ac;go_wp2_with fail
        go_roundg (gk0 - 1)
        case measure=>have:=ap.out;omega
        case rel=>exact ⟨c*2,ys2,by first | rfl | go_num,by omega,by omega,by omega,by rw[Nat.mul_comm];exact ac,S1⟩
       .have aq:¬(a:Int)+(c:Int) < (N:Int):=by omega
        have ac:Hid (Blks (ltOf cf) (2*c) xs (Z++R')):=by
         have q:=HB.out;have ql:=aa.out;show Blks _ _ _ _
         rw[q.2.1];exact q.2.2.2.1.close (.last (by omega) (q.2.2.2.2.short (by omega) ak))
        clear HB aa;generalize Z++R'=ys2 at S1 ac;go_wp2_with fail
        go_roundg (gk0 - 1)
        case measure=>have:=ap.out;omega
        case rel=>exact ⟨c*2,ys2,by first | rfl | go_num,by omega,by omega,by omega,by rw[Nat.mul_comm];exact ac,S1⟩
      .have aj:(b:Int)<=(N:Int):=by omega
       have af:∃x1 x2 x3 r1 r2 r3,xR=(x1++x2)++x3/\R'=r1++(r2++r3)/\x1.length=c/\x2.length=c/\Stab (ltOf cf) x1 r1/\Stab (ltOf cf) x2 r2/\Blks (ltOf cf) c x3 r3:=by
        have q:=HB.out;have ql:=aa.out;obtain ⟨x1,x2,r1,r2,e1,e2,e3,e4,e5⟩:=q.2.2.2.2.first (by omega)
        have e6:x1.length+x2.length=xR.length:=by rw[e1,Jd]
        obtain ⟨y1,y2,s1,s2,f1,f2,f3,f4,f5⟩:=e5.first (by omega)
        exact ⟨x1,y1,y2,r1,s1,s2,by rw[e1,f1,ed],by rw[e2,f2],e3,f3,e4,f4,f5⟩
       obtain ⟨x1,x2,x3,r1,r2,r3,e1,e2,e3,e4,e5,e6,e7⟩:=af;have e8:R'.length=r1.length+(r2.length+r3.length):=by rw[e2];simp
       have ab:=HS.out (r1.length+r2.length) Z r1 r2 r3 a (a+c) b wr (eh _) (by have ql:=aa.out;have:=e5.len;have:=e6.len;omega) (by have ql:=aa.out;omega) (by have:=e5.len;omega) (by have ql:=aa.out;have:=e6.len;omega) (by have:=e5.len;omega) (by have:=e6.len;omega) e5.asc e6.asc (by rw[<-e2];exact S1.out)
       have ac:Hid (xs=(xZ++(x1++x2))++x3/\(xZ++(x1++x2)).length=b/\Whole (ltOf cf) (2*c) (xZ++(x1++x2)) (Z++mrg (ltOf cf) r1 r2)/\Blks (ltOf cf) c x3 r3):=by have q:=HB.out;have ql:=aa.out;exact ⟨by rw[q.2.1,e1];simp only[ed],by simp only[Jd];omega,q.2.2.2.1.snoc (by simp only[Jd];omega) (e5.mrg SW e6),e7⟩
       push_cast at ab
       have HC:Aside _:=ab;clear ab S1 e1 e2 e3 e4 e5 e6 e7 e8 HB aa;go_wp2_with fail
       refine eS HC.out ?_;rintro _ w3 ⟨rfl,h3⟩;have S1:Aside (SWK enc 6 w0 blk off ((Z++mrg (ltOf cf) r1 r2)++r3).toArray w3):=by rw[ed];exact h3
       clear h3 HC;go_wp2_with fail
       go_roundg (N+1 - b)
       case measure=>omega
       case rel=>exact ⟨b,b+2*c,_,_,_,_,by first | rfl | go_num,by first | rfl | go_num,by omega,by omega,by omega,by omega,⟨rfl,ac.out⟩,S1⟩
    .have ai:¬(c:Int) < (N:Int):=by omega
     go_wp2_with fail
     go_end0
     exact ⟨rfl,ys,HB.out.short (by rw[HN.out.2];exact hge) ak,S1.out⟩
  .have ai:(b:Int)<=(N:Int):=by omega
   have af:∃x1 x2,xR=x1++x2/\x1.length=20/\xZ.length+xR.length=N:=by
    have q:=HB.out;have q2:=HN.out;have q4:xZ.length+xR.length=N:=by rw[<-Jd,<-q.2.1];exact q2.2
    exact ⟨xR.take 20,xR.drop 20,(ec _ _).symm,by rw[eq];omega,q4⟩
   obtain ⟨x1,x2,e1,e2,e3⟩:=af;have e4:xR.length=x1.length+x2.length:=by rw[e1,Jd]
   have e5:=HB.out.1;have hc:=HI.out Z x1 x2 a b wr (by omega) (by omega) (by omega) (by rw[<-e1];exact S1.out);have HC:Aside _:=hc;have HX:Hid (xR=x1++x2/\x1.length=20):=⟨e1,e2⟩;clear hc S1 e1 e2 e3 e4 e5 hZ hR;go_wp2_with fail
   refine eS HC.out ?_;rintro _ w3 ⟨rfl,z1,ae,h3⟩
   have ac:Hid (xs=(xZ++x1)++x2/\(xZ++x1).length=b/\Whole (ltOf cf) 20 (xZ++x1) (Z++z1)):=by have q:=HB.out;have q2:=HX.out;exact ⟨by rw[q.2.1,q2.1,ed],by simp only[Jd];omega,q.2.2.2.snoc q2.2 ae⟩
   have S1:Aside (SWK enc 6 w0 blk off ((Z++z1)++x2).toArray w3):=by rw[ed];exact h3
   clear h3 ae HC HB HX;go_wp2_with fail
   go_roundg (N+1 - b)
   case measure=>omega
   case rel=>exact ⟨b,b+20,_,_,_,by first | rfl | go_num,by first | rfl | go_num,by omega,by omega,by omega,by omega,⟨rfl,ac.out⟩,S1⟩
theorem Kmi (SW:SWO (ltOf cf)) (eg:∀args w,(callFunc g args).run prog w = .ok (.enter g args) w) (hcmp:CmpLays prog g cb enc 6 cf blk off d0.size w0) (R:RowK enc 6 w0 blk off d0) (hN:d0.size=N) (hsz:N < 1152921504606846976) (xs:List α) (w:World) (hl:xs.length=N) (S0:SWK enc 6 w0 blk off xs.toArray w) :
  Calls prog 137 #[.slice (some ⟨blk,off,none⟩) N cap,.func (.func g) #[] cb] w fun e w'=>e = .returned (.tuple #[])/\∃ys,Stab (ltOf cf) xs ys/\SWK enc 6 w0 blk off ys.toArray w':=by
 have HC:Aside _:=Ktt (cap:=cap) SW eg hcmp R hN hsz xs w hl S0;clear S0 hl hN hcmp;go_enter func137,ntmps137
 go_wp2_with fail
 refine eS HC.out ?_;rintro _ w3 ⟨rfl,h3⟩;have H3:Aside _:=h3;clear h3;go_wp2_with fail
 go_end0
 exact ⟨rfl,H3.out⟩
end
end
section
open Go.Shelf Go.RowKit Go.Lib Go.Sort
open Lib renaming hid -> Jh
section
theorem Kiq (x:Wnd) (w:World):Calls prog 65 #[.agg (Kad x).toArray] w fun e w'=>e = .returned (.int .i64 x.start)/\Grown w w':=by
 obtain ⟨a,b,c,d,e,f⟩:=x;unfold Kad;go_enter func65,ntmps65
 go_wp2_with fail
 go_ret
 exact ⟨rfl,(Grown.refl _).alloc _⟩
theorem Kxo (a b:Int) (w:World):Calls prog 134 #[.int .i64 a,.int .i64 b] w fun e w'=>e = .returned (.int .i64 (if a < b then -1 else if b < a then 1 else 0))/\w=w':=by
 have aa:∀(a:Int) (w:World),Calls prog 181 #[.int .i64 a] w fun e w'=>e = .returned (.bool false)/\w=w':=by
  intro a w;have n1:(a != a)=false:=by simp
  go_enter func181,ntmps181
  go_wp2
  go_ret
  exact ⟨by simp,rfl⟩
 have h1:=fun W=>aa a W
 have h2:=fun W=>aa b W
 rcases (by omega:a < b\/b < a\/a=b) with h | h | h
 .rw[jf h];have d1:decide (a < b)=true:=jd h;clear aa;go_enter func134,ntmps134
  go_wp2_with fail
  refine (h1 _).mono ?_;rintro _ w1 ⟨rfl,rfl⟩;go_wp2_with fail
  refine (h2 _).mono ?_;rintro _ w1 ⟨rfl,rfl⟩;go_wp2_with fail
  go_ret
  exact ⟨rfl,rfl⟩
 .have hn:¬a < b:=by omega
  rw[je hn,jf h];have d1:decide (a < b)=false:=ja hn;have d2:decide (b < a)=true:=jd h;have hle:b<=a:=by omega
  have hne:¬a=b:=by omega
  clear aa;go_enter func134,ntmps134
  go_wp2_with fail
  refine (h1 _).mono ?_;rintro _ w1 ⟨rfl,rfl⟩;go_wp2_with fail
  refine (h2 _).mono ?_;rintro _ w1 ⟨rfl,rfl⟩;go_wp2_with fail
  go_ret
  exact ⟨rfl,rfl⟩
 .subst h;have hn:¬a < a:=by omega
  rw[je hn,je hn];have d1:decide (a < a)=false:=ja hn;clear aa;go_enter func134,ntmps134
  go_wp2_with fail
  refine (h1 _).mono ?_;rintro _ w1 ⟨rfl,rfl⟩;go_wp2_with fail
  refine (h2 _).mono ?_;rintro _ w1 ⟨rfl,rfl⟩;go_wp2_with fail
  go_ret
  exact ⟨rfl,rfl⟩
attribute [local go_sem] Kbu.cell
theorem Kuk (x y:Wnd) (p:Nat) (W:World) (hp:Blk W p 148 #[.func (.func 65) #[] #[]]) :
  Calls prog 138 #[.agg (Kad x).toArray,.agg (Kad y).toArray,.pointer (some ⟨p,0,none⟩)] W fun e w'=>e = .returned (.int .i64 (cfT eX x y))/\Grown W w':=by
 have HT:=Jh (fun (x:Wnd) (w:World)=>Kiq x w);have ag:=Jh (fun (w:World)=>Kxo x.start y.start w);have ah:cfT eX x y=if x.start < y.start then -1 else if y.start < x.start then 1 else 0:=rfl
 rw[ah];obtain ⟨r,hr⟩:∃r:Int,(if x.start < y.start then -1 else if y.start < x.start then 1 else 0:Int)=r:=⟨_,rfl⟩;rw[hr] at ag |-;obtain ⟨cx,ak⟩:=i7 ((Kad x).toArray);obtain ⟨cy,ai⟩:=i7 ((Kad y).toArray);have egT:∀args w,(callFunc 65 args).run prog w = .ok (.enter 65 args) w:=enters_of func65 (by kernel_rfl) rfl;have ad:=Jh (fun w=>HT.out x w);have ac:=Jh (fun w=>HT.out y w);obtain ⟨tx,ae⟩:=i7 x.start;obtain ⟨tz,af⟩:=i7 y.start;rw[<-ae,<-af] at ag;rw[<-ae] at ad;rw[<-af] at ac;clear ah hr HT;obtain ⟨a,b,c,d,e,f⟩:=x;obtain ⟨a2,b2,c2,d2,e2,f2⟩:=y;unfold Kad at ak ai ad ac |-;dsimp only at ad ac |-;clear ak ai ae af cx cy;go_enter func138,ntmps138
 go_upto_region 1 with fail
 obtain ⟨w1,ab⟩:=iZ ((W.alloc (.cells #[.int .i64 a,.int .i64 b,.int .u64 c,.int .u64 d,.int .u64 e,.int .u64 f] 135)).alloc (.cells #[.int .i64 a2,.int .i64 b2,.int .u64 c2,.int .u64 d2,.int .u64 e2,.int .u64 f2] 135));have aj:Grown W w1:=by rw[<-ab];exact ((Grown.refl _).alloc _).alloc _
 have hq:Blk w1 W.heap.size 135 #[.int .i64 a,.int .i64 b,.int .u64 c,.int .u64 d,.int .u64 e,.int .u64 f]:=by rw[<-ab];exact (eV _ _ _).alloc _
 have aa:Blk w1 (W.heap.size+1) 135 #[.int .i64 a2,.int .i64 b2,.int .u64 c2,.int .u64 d2,.int .u64 e2,.int .u64 f2]:=by rw[<-ab];exact eW (by simp)
 have al:Blk w1 p 148 #[.func (.func 65) #[] #[]]:=hp.below aj.below hp.lt;rw[ab];obtain ⟨a0,hA⟩:=iZ W.heap.size;rw[hA] at hq aa |-;clear ab hp;have q0:_=some (ee .i64 a):=hq.cell 0;have q1:_=some (ee .i64 b):=hq.cell 1;have q2:_=some (ee .u64 c):=hq.cell 2;have q3:_=some (ee .u64 d):=hq.cell 3;have q4:_=some (ee .u64 e):=hq.cell 4;have q5:_=some (ee .u64 f):=hq.cell 5;have r0:_=some (ee .i64 a2):=aa.cell 0;have r1:_=some (ee .i64 b2):=aa.cell 1;have r2:_=some (ee .u64 c2):=aa.cell 2;have r3:_=some (ee .u64 d2):=aa.cell 3;have r4:_=some (ee .u64 e2):=aa.cell 4;have r5:_=some (ee .u64 f2):=aa.cell 5;have p0:_=some (ej (.func 65) #[] #[]):=al.cell 0;have hql:=hq.lt;have hpl:=aa.lt;have hpp:=al.lt;refine Kar 6 (by kernel_rfl) (by kernel_rfl) ?_;simp only[ew,eH,ez,eI]
 repeat (go_big_quiet_step ((go_at_fn 65;first | exact Kas _ (ad.out _) | exact Kas _ (ac.out _))))
 refine eZ ?_;rintro w2 ⟨⟨_,am⟩,rfl⟩;have an:Grown W w2:=aj.trans am;go_wp2_with fail
 refine (ag.out _).mono ?_;rintro _ w3 ⟨rfl,rfl⟩;go_wp2_with fail
 go_ret
 exact ⟨rfl,an⟩
theorem Kum (x y:Wnd) (p:Nat) (W:World) (hp:Blk W p 148 #[.func (.func 65) #[] #[]]) :
  Calls prog 140 #[.agg (Kad x).toArray,.agg (Kad y).toArray,.pointer (some ⟨p,0,none⟩)] W fun e w'=>e = .returned (.bool (x.start == y.start))/\Grown W w':=by
 have egT:∀args w,(callFunc 65 args).run prog w = .ok (.enter 65 args) w:=enters_of func65 (by kernel_rfl) rfl;have ad:=Jh (fun w=>Kiq x w);have ac:=Jh (fun w=>Kiq y w);obtain ⟨tx,ae⟩:=i7 x.start;obtain ⟨tz,ah⟩:=i7 y.start;rw[<-ae] at ad |-;rw[<-ah] at ac |-;clear ae ah;obtain ⟨a,b,c,d,e,f⟩:=x;obtain ⟨a2,b2,c2,d2,e2,f2⟩:=y;unfold Kad at ad ac |-;dsimp only at ad ac |-;go_enter func140,ntmps140
 go_upto_region 1 with fail
 obtain ⟨w1,ab⟩:=iZ ((W.alloc (.cells #[.int .i64 a,.int .i64 b,.int .u64 c,.int .u64 d,.int .u64 e,.int .u64 f] 135)).alloc (.cells #[.int .i64 a2,.int .i64 b2,.int .u64 c2,.int .u64 d2,.int .u64 e2,.int .u64 f2] 135));have af:Grown W w1:=by rw[<-ab];exact ((Grown.refl _).alloc _).alloc _
 have hq:Blk w1 W.heap.size 135 #[.int .i64 a,.int .i64 b,.int .u64 c,.int .u64 d,.int .u64 e,.int .u64 f]:=by rw[<-ab];exact (eV _ _ _).alloc _
 have aa:Blk w1 (W.heap.size+1) 135 #[.int .i64 a2,.int .i64 b2,.int .u64 c2,.int .u64 d2,.int .u64 e2,.int .u64 f2]:=by rw[<-ab];exact eW (by simp)
 have ag:Blk w1 p 148 #[.func (.func 65) #[] #[]]:=hp.below af.below hp.lt;rw[ab];obtain ⟨a0,hA⟩:=iZ W.heap.size;rw[hA] at hq aa |-;clear ab hp;have q0:_=some (ee .i64 a):=hq.cell 0;have q1:_=some (ee .i64 b):=hq.cell 1;have q2:_=some (ee .u64 c):=hq.cell 2;have q3:_=some (ee .u64 d):=hq.cell 3;have q4:_=some (ee .u64 e):=hq.cell 4;have q5:_=some (ee .u64 f):=hq.cell 5;have r0:_=some (ee .i64 a2):=aa.cell 0;have r1:_=some (ee .i64 b2):=aa.cell 1;have r2:_=some (ee .u64 c2):=aa.cell 2;have r3:_=some (ee .u64 d2):=aa.cell 3;have r4:_=some (ee .u64 e2):=aa.cell 4;have r5:_=some (ee .u64 f2):=aa.cell 5;have p0:_=some (ej (.func 65) #[] #[]):=ag.cell 0;have hql:=hq.lt;have hpl:=aa.lt;have hpp:=ag.lt;refine Kar 6 (by kernel_rfl) (by kernel_rfl) ?_;simp only[ew,eH,ez,eI]
 repeat (go_big_quiet_step ((go_at_fn 65;first | exact Kas _ (ad.out _) | exact Kas _ (ac.out _))))
 refine eZ ?_;rintro w2 ⟨⟨_,ai⟩,rfl⟩;have aj:Grown W w2:=af.trans ai;go_wp2_with fail
 go_ret
 exact ⟨rfl,aj⟩
theorem Kpn (cmp:Value) (w:World):Calls prog 137 #[.slice none 0 0,cmp] w fun e w'=>e = .returned (.tuple #[])/\w=w':=by
 have aa:∀W:World,Calls prog 226 #[.slice none 0 0,.int .i64 0,.int .i64 0,cmp] W fun e w'=>e = .returned (.tuple #[])/\W=w':=by
  intro W;go_enter func226,ntmps226
  go_wp2
  go_loopg [8] 0 (fun kx s8 wr=>s8 = .int .i64 1/\wr=W)
  case atStart=>exact ⟨rfl,rfl⟩
  case round=>
   obtain ⟨rfl,rfl⟩:=hrel;go_wp2_with fail
   go_end0
   exact ⟨rfl,rfl⟩
 have ab:∀W:World,Calls prog 182 #[.slice none 0 0,.int .i64 0,cmp] W fun e w'=>e = .returned (.tuple #[])/\W=w':=by
  intro W;have HI:=Jh aa;clear aa;go_enter func182,ntmps182
  go_wp2
  go_loopg [7,8] 0 (fun kx s7 s8 wr=>s7 = .int .i64 0/\s8 = .int .i64 20/\wr=W)
  case atStart=>exact ⟨rfl,rfl,rfl⟩
  case round=>
   obtain ⟨rfl,rfl,rfl⟩:=hrel;go_wp2_with fail
   refine (HI.out _).mono ?_;rintro _ w1 ⟨rfl,rfl⟩;go_wp2_with fail
   go_loopg [6] 0 (fun kx s6 wr2=>s6 = .int .i64 20/\wr2=wr)
   case atStart=>exact ⟨rfl,rfl⟩
   case round=>
    obtain ⟨rfl,rfl⟩:=hrel;go_wp2_with fail
    go_end0
    exact ⟨rfl,rfl⟩
 have HS:=Jh ab;clear aa ab;go_enter func137,ntmps137
 go_wp2_with fail
 refine (HS.out _).mono ?_;rintro _ w1 ⟨rfl,rfl⟩;go_wp2_with fail
 go_end0
 exact ⟨rfl,rfl⟩
theorem Koj (eq_:Value) (w:World):Calls prog 139 #[.slice none 0 0,eq_] w fun e w'=>e = .returned (.slice none 0 0)/\w=w':=by
 go_enter func139,ntmps139
 go_wp2_with fail
 go_ret
 exact ⟨rfl,rfl⟩
theorem Kyl (xs:List Wnd) (B n:Nat) (v:Value) (w:World) (h:w.ownsRow B 135 6 v n (xs.flatMap Kad)) (hl:xs.length=n) (hn:n<=1099511627776) :
  Calls prog 64 #[v,.func (.func 65) #[] #[]] w fun e w'=>∃v' zs,e = .returned v'/\Kbe eX xs zs/\w'.ownsRow B 135 6 v' zs.length (zs.flatMap Kad)/\v'.ownBlock=v.ownBlock/\w.grownBy w' v.ownBlock:=by
 have al:(xs = []/\v = .slice none 0 0)\/∃g c,v = .slice (some ⟨g,0,none⟩) n c:=by
  rcases h.2 with ⟨h1,h0⟩ | ⟨g,cap,cur,h1,_⟩
  .exact .inl ⟨ZZ (by omega),h1⟩
  .exact .inr ⟨g,cap,h1⟩
 rcases al with ⟨rfl,rfl⟩ | ⟨g,cap,rfl⟩
 .have an:n=0:=by simpa using hl.symm
  subst an;have hS:=Jh (fun (c:Value) (W:World)=>Kpn c W);have hC:=Jh (fun (c:Value) (W:World)=>Koj c W);have H:=Jh h;clear h;go_enter func64,ntmps64
  go_wp2_with fail
  refine (hS.out _ _).mono ?_;rintro _ w1 ⟨rfl,rfl⟩;go_wp2_with fail
  refine (hC.out _ _).mono ?_;rintro _ w1 ⟨rfl,rfl⟩;go_wp2_with fail
  go_ret
  have hb:w.grownBy (w.alloc (.cells #[.func (.func 65) #[] #[]] 148)) none:=es w _ none;exact ⟨_,[],rfl,Kbe.nil _,by simpa using (eT H.out _),rfl,hb⟩
 .have av:=eU h g rfl;obtain ⟨w1,ac⟩:=iZ (w.alloc (.cells #[.func (.func 65) #[] #[]] 148));obtain ⟨p,hp⟩:=i7 w.heap.size;have hb:Blk w1 p 148 #[.func (.func 65) #[] #[]]:=by rw[hp,<-ac];exact eV _ _ _
  have aj:p≠g:=by omega
  have hpz:p < w1.heap.size:=hb.lt;have h1:w1.ownsRow B 135 6 (.slice (some ⟨g,0,none⟩) n cap) n (xs.flatMap Kad):=by rw[<-ac];exact eT h _
  have af:w.grownBy w1 (some g):=by rw[<-ac];exact es w _ _
  have R:RowK Kad 6 w1 g 0 xs.toArray:=⟨Khs,Kxd,Kfh Khs (by decide) h1 hl,(eU h1 g rfl).2⟩;have hN:xs.toArray.size=n:=by simpa using hl
  have aa:n<=cap:=by
   rcases h.2 with ⟨he,_⟩ | ⟨g',cap',cur,he,_,_,h3,_⟩
   .cases he
   .injection he with _ _ hcc;subst hcc;exact h3
  have am:∀args w,(callFunc 138 args).run prog w = .ok (.enter 138 args) w:=enters_of func138 (by kernel_rfl) rfl;have ak:∀args w,(callFunc 140 args).run prog w = .ok (.enter 140 args) w:=enters_of func140 (by kernel_rfl) rfl;have ab:∀(dk:Array Wnd) (W:World),SWK Kad 6 w1 g 0 dk W->Blk W p 148 #[.func (.func 65) #[] #[]]:=fun dk W hS=>hb.grown (SWK.by hS) (by intro e;injection e with e;exact aj e)
  have ad:CmpLays prog 138 #[.pointer (some ⟨p,0,none⟩)] Kad 6 (cfT eX) g 0 xs.toArray.size w1:=by intro m os dk hdk x y;refine (Kuk x y p _ (ab dk _ ⟨m,os,rfl⟩)).mono ?_;rintro e w' ⟨he,⟨q,hq⟩⟩;exact ⟨he,q.n,q.os,hq⟩
  have ai:Kny prog 140 #[.pointer (some ⟨p,0,none⟩)] Kad 6 (fun x y=>x.start == y.start) g 0 xs.toArray.size w1:=by intro W dk hdk hS x y;refine (Kum x y p _ (ab dk _ hS)).mono ?_;rintro e w' ⟨he,⟨q,hq⟩⟩;exact ⟨he,q.n,q.os,hq⟩
  have HS:=Jh (Kmi (cap:=cap) (swoT eX) am ad R hN (by omega) xs w1 hl (SWK.start R.hH));have HC:=Jh (fun (ys:List Wnd) (W:World) (hy:ys.length=n) (hS:SWK Kad 6 w1 g 0 ys.toArray W)=>Kqb (cap:=cap) ak ai R hN (by omega) ys W hy (fun W dk i a b c=>Kls (P:=prog) underlying56 (⟨0,0,0,0,0,0⟩:Wnd) (fun w=>zeroValue135 w) (by decide) R hN W dk i (cap - i) a b c) aa hS);have HG:=Jh af;have H1:=Jh h1;have HL:=Jh hl;clear h h1 hl hN af ad ai ab hb aa R av;go_enter func64,ntmps64
  go_upto_region 1 with fail
  try rw[ac]
  try rw[<-hp]
  clear ac hp;go_wp2_with fail
  refine eS HS.out ?_;rintro _ w2 ⟨rfl,ys,ae,ag⟩;have ap:=Jh ae;have ah:ys.length=n:=by rw[ae.len];exact HL.out
  have ao:=Jh (HC.out ys w2 ah ag);clear ae ag ah;go_wp2_with fail
  refine eS ao.out ?_;rintro _ w3 ⟨rfl,zs,z1,z2,z3⟩;have HZ:=Jh (And.intro z1 (And.intro z2 z3));clear z1 z2 z3;go_wp2_with fail
  go_ret
  obtain ⟨z1,z2,z3⟩:=HZ.out;refine ⟨_,dupE (fun x y:Wnd=>x.start == y.start) ys,rfl,Ksl eX _ (fun x y=>by rw[Bool.eq_iff_iff];simp) ap.out,?_,rfl,?_⟩
  .obtain ⟨m,os,rfl⟩:=z3;have ho:=Kfk Khs (by decide) H1.out HL.out zs.toArray (by simpa using z1) m os
   have ar:(dupE (fun x y:Wnd=>x.start == y.start) ys).length<=n:=by have:=jk List.length z2;rw[eq] at this;omega
   have:=Knt ho ar
   rw[show (zs.toArray.toList.flatMap Kad).take ((dupE (fun x y:Wnd=>x.start == y.start) ys).length*6)=(dupE (fun x y:Wnd=>x.start == y.start) ys).flatMap Kad by
    have aq:zs=zs.take (dupE (fun x y:Wnd=>x.start == y.start) ys).length++zs.drop (dupE (fun x y:Wnd=>x.start == y.start) ys).length:=(ec _ _).symm;rw[show zs.toArray.toList=zs by simp]
    conv=>lhs;rw[aq]
    rw[eJ,eO (by rw[Kdh Khs,z2]),z2]] at this
   exact this
  .exact Lib.grownBy_trans HG.out (SWK.by z3)
end
end
section
open Go.Shelf Go.RowKit Go.Lib Go.Sort
open Lib renaming hid -> Jh
open List renaming setIfInBounds_toArray -> Ja, set_cons_zero -> Jb, set_cons_succ -> Jc
attribute [local go_sem ↓] Go.wp_at_zero Go.wp_at_succ
attribute [local go_sem] Later.cell
section
theorem Krp:(prog.info? 102).map (fun i=>(i.zero,i.size,i.bytes))=some (some (.agg #[.int .i64 0,.int .u64 0]),2,16):=by kernel_rfl
theorem Krq:(prog.info? 135).map (fun i=>(i.zero,i.size,i.bytes))=some (some (.agg #[.int .i64 0,.int .i64 0,.int .u64 0,.int .u64 0,.int .u64 0,.int .u64 0]),6,48):=by kernel_rfl
theorem Qft {w0:World} (ys:List (MS w0)) {i:Nat} (hi:i < ys.length):grpG ((ys.take (i+1)).map eR)=addG (openG (grpG ((ys.take i).map eR)) ys[i]!.s) ys[i]!.s:=by rw[List.take_add_one,ek hi,eP,i9 ys i hi];unfold grpG;rw[List.foldl_append];rfl
theorem Kzn (l:List Ser):∀gs:List Ser,(l.foldl stepG gs).length<=gs.length+l.length:=by
 induction l with
 | nil=>intro gs;simp
 | cons s l ih=>
  intro gs;have h1:=ih (stepG gs s)
  have h2:(stepG gs s).length<=gs.length+1:=by
   unfold stepG;rw[Qhu];unfold openG
   split <;> simp
  rw[List.foldl_cons,List.length_cons];omega
theorem Qgw {w0:World} (ys:List (MS w0)) (i:Nat):sumS (grpG ((ys.take i).map eR))<=sumS (ys.map eR):=by
 unfold grpG;rw[Kwt]
 conv=>rhs;rw[<-ec i ys,eP,Kjv]
 simp[sumS]
theorem Kce {w:World} {B B' n sz:Nat} {T:TypeId} {v:Value} {xs:List Value} (h:w.ownsRow B T sz v n xs) (hB:B'<=B):w.ownsRow B' T sz v n xs:=
 ⟨h.1,h.2.imp id fun ⟨g,cap,cur,e,h1,h2⟩=>⟨g,cap,cur,e,eA hB h1,h2⟩⟩
theorem Kbb {w w':World} {B n sz:Nat} {T:TypeId} {v:Value} {xs:List Value} (h:w.ownsRow B T sz v n xs) (hb:Below w.heap.size w w'):w'.ownsRow B T sz v n xs:=
 Kcq h hb.size fun k hk=>hb.block k (h.lt k hk).2
theorem Qik {w0:World} (ys:List (MS w0)) {i:Nat} (hi:i < ys.length):ys[i]!.s.samples.length+ys[i]!.s.windows.length<=sumS (ys.map eR):=by have:=Kjb (gs:=ys.map eR) (k:=i) (by simpa using hi);rw[show (ys.map eR)[i]! = ys[i]!.s by rw[i9 _ i (by simpa using hi),i9 ys i hi,eN]] at this;exact this
theorem Qgv {a b:List Ser} (h:a.Perm b):sumS a=sumS b:=(h.map _).sum_nat
attribute [local go_sem] Kbu.cell
theorem Kyf {w0:World} (xs:List (MS w0)) (A:Option Addr) (n c:Nat) (hs0:List Hd) (Ks:List (List Hd3)) (hF:Ks.flatten=xs.map MS.h) (h:CatIn w0 A n hs0 Ks) (hN:xs.length<=274877906944) (hn:n<=140737488355328) (hsum:sumS (xs.map eR)<=137438953472) :
  Calls prog 24 #[.slice A n c] w0 fun e w'=>∃(ys:List (MS w0)) (A':Option Addr) (n' c':Nat),e = .returned (.slice A' n' c')/\Stab (ltOf cfM) xs ys/\Sers w' A' n' (Kev (ys.map eR))/\n'<=c'/\Below w0.heap.size w0 w':=by
 obtain ⟨ib,dI,dP,dC,dw⟩:=info_parts Kib;have b9:=Jh (Kuo A n c hs0 Ks (xs.map MS.h) hF w0 h (by simpa using hN) hn);have cl:=Jh hsum;have dq:=Jh hN;clear h hF hsum hn hN;go_enter func24,ntmps24
 go_wp2_with fail
 refine b9.out.mono ?_;rintro e1 w1 ⟨va,rfl,dk,ce⟩
 have ax:w1.ownsRow w0.heap.size 58 3 va xs.length (xs.flatMap encMS):=by rw[eD,List.flatMap_map] at dk;exact dk
 have bA:Calls prog 58 #[va,.func (.func 59) #[] #[]] w1 fun e w'=>e = .returned (.tuple #[])/\∃ys:List (MS w0),Stab (ltOf cfM) xs ys/\w'.ownsRow w0.heap.size 58 3 va xs.length (ys.flatMap encMS)/\Below w0.heap.size w0 w':=by
  rcases ax.2 with ⟨e0,h0⟩ | ⟨g,cap,ay,e0,_⟩
  .subst e0;refine (Kqr _ w1).mono ?_;rintro e w' ⟨rfl,rfl⟩;exact ⟨rfl,xs,by rw[ZZ h0];exact Stab.nil,ax,ce⟩
  .subst e0;refine (Ktq xs w0.heap.size xs.length g cap w1 ce (eh _) ax rfl (by have:=dq.out;omega)).mono ?_;rintro e w' ⟨rfl,ys,h1,h2,h3⟩;exact ⟨rfl,ys,h1,h2,ce.grown h3 ce.size (fun k hk=>by injection hk with hk;have:=(ax.lt g rfl).1;omega)⟩
 obtain ⟨AV,dS,rfl⟩:=Kag ax;have br:=Jh bA;clear dk ce ax bA;go_wp2_with fail
 refine br.out.mono ?_;rintro e2 w2 ⟨rfl,ys,cF,aU,co⟩;have dT:=Jh cF;have aF:=Jh aU;have HB2:=Jh co;have aX:Hid (w0.heap.size<=w2.heap.size):=co.size;obtain ⟨N,hN⟩:=i7 xs.length;have dr:Hid (ys.length=N):=by show _=_;rw[hN];exact cF.len
 have bb:Hid (sumS (ys.map eR)<=137438953472):=by show _<=_;rw[Qgv (cF.perm.map _)];exact cl.out
 rw[<-hN] at aU |-;have aF:Hid (w2.ownsRow w0.heap.size 58 3 (.slice AV N dS) N (ys.flatMap encMS)):=aU;have hNz:N<=274877906944:=by rw[hN];exact dq.out
 have M0:Hid (MSt w0 w2 w2 (.slice none 0 0) [] (grpG ((ys.take 0).map eR))):=⟨co,Below.refl _ _,en _ _ _ _,⟨rfl,fun i h hi=>by simp at hi,fun i j h h' hi=>by simp at hi⟩⟩;clear cF aU co br b9 hN;go_wp2_with fail
 go_loopg [4,16] N (fun kx s4 s16 wr=>∃(i:Nat) (hs:List Hd3),s16 = .int .i64 (i:Int)/\i+kx=N/\Hid (MSt w0 w2 wr s4 hs (grpG ((ys.take i).map eR))))
 case atStart=>exact ⟨0,[],rfl,by omega,M0⟩
 case round=>
  clear M0;obtain ⟨i,hs,rfl,hi,HM⟩:=hrel;rcases ep i N with cx | hge
  .have da:(i:Int) < (N:Int):=by omega
   obtain ⟨A4,cV,bU⟩:=Kag HM.out.row;obtain ⟨m,hm⟩:=i7 hs.length;rw[<-hm] at bU;subst bU;have am:Hid (hs.length=m):=hm.symm
   have d1:m<=274877906944:=by have h1:=HM.out.rows.len;have h2:=Kzn ((ys.take i).map eR) [];rw[eD,eq,et] at h2;unfold grpG at h1;omega
   obtain ⟨af,aW⟩:=i7 (grpG ((ys.take i).map eR));rw[<-aW] at HM;have cT:=Jh aW;clear aW hm;have cC:i < ys.length:=by rw[dr.out];exact cx
   obtain ⟨gA,d2⟩:∃gA,AV=some ⟨gA,0,none⟩:=by
    rcases aF.out.2 with ⟨e0,h0⟩ | ⟨g,cap,ay,e0,_⟩
    .omega
    .injection e0 with e0;exact ⟨g,e0⟩
   subst d2;obtain ⟨y,hy⟩:=i7 (ys[i]!);have dz:ys[i]? = some y:=by rw[hy,i9 ys i cC];exact ek cC
   have aa:∀j v,j < 3->(encMS y)[j]? = some v->wr.cell? ⟨gA,i*3+j,none⟩=some v:=fun j v hj hv=>by
    have h1:=aF.out.cells (g:=gA) rfl (i*3+j) v (by rw[Kcw Khw ys i j y dz hj];exact hv)
    have ea:(⟨gA,0,none⟩:Addr).add (i*3+j)=⟨gA,i*3+j,none⟩:=by
     unfold eY
     split
     .rename_i h0;simp at h0 |-;(try omega)
     .simp
    rw[ea] at h1;exact (HM.out.b2.cell (p:=⟨gA,i*3+j,none⟩) (aF.out.lt gA rfl).2).trans h1
   have bJ:grpG ((ys.take (i+1)).map eR)=addG (openG af y.s) y.s:=by rw[Qft ys cC,<-cT.out,hy]
   have dM:y.s.samples.length+y.s.windows.length<=137438953472:=by rw[hy];exact eA (Qik ys cC) bb.out
   have dJ:sumS af<=137438953472:=by rw[cT.out];exact eA (Qgw ys i) bb.out
   clear hy dz;obtain ⟨⟨⟨lA,ln,lc⟩,⟨sA,sn,sc⟩,⟨wA,wn,wc⟩⟩,s,bO,sz⟩:=y;have c0:=aa 0 (.slice lA ln lc) (by decide) rfl;have c1:=aa 1 (.slice sA sn sc) (by decide) rfl;have c2:=aa 2 (.slice wA wn wc) (by decide) rfl;rw[Nat.add_zero] at c0;dsimp only at bJ dM sz;have HS:Hid (Elems w0 w0.heap.size 2 Kac sA sn s.samples):=bO.s;have HW:Hid (Elems w0 w0.heap.size 6 Kad wA wn s.windows):=bO.w;have HL:Hid (Elems w0 w0.heap.size 2 encLb lA ln s.labels):=bO.l;have HLC:Hid (ln<=lc):=bO.lc
   have dH:Hid (sn<=1099511627776/\wn<=1099511627776):=by have h1:=bO.s.len;have h2:=bO.w.len;dsimp only at h1 h2;exact ⟨by omega,by omega⟩
   have dX:Hid (s.samples.length<=137438953472/\s.windows.length<=137438953472):=⟨by omega,by omega⟩;have ar:Hid (addG (openG af s) s=grpG ((ys.take (i+1)).map eR)):=bJ.symm;have bT:Hid (sumS af<=137438953472):=dJ;clear bO bJ dM dJ aa;have cP:gA < wr.heap.size:=eL (aF.out.lt gA rfl).2 HM.out.b2.size;go_upto_region 7 with fail
   obtain ⟨wb,a8⟩:=i7 (wr.alloc (.cells #[.slice lA ln lc,.slice sA sn sc,.slice wA wn wc] 58));obtain ⟨p,hp⟩:=i7 wr.heap.size;have aN:Hid (Blk wb p 58 #[.slice lA ln lc,.slice sA sn sc,.slice wA wn wc]):=by show Blk _ _ _ _;rw[a8,hp];exact eV _ _ _
   have aS:Hid (MSt w0 w2 wb (.slice A4 m cV) hs af):=by show MSt _ _ _ _ _ _;rw[a8];exact HM.out.below ((Below.refl _ _).alloc (eh _) _)
   have aM:Hid (Below w0.heap.size w0 wb):=aS.out.b0;have bC:Hid (∀k,(ef A4 m cV).ownBlock=some k->k≠p):=fun k hk=>by have:=(HM.out.row.lt k hk).2;omega
   rw[<-a8,<-hp];clear a8 hp HM c0 c1 c2 cP
   have ca:Hid (∀W,Below w0.heap.size w0 W->Calls prog 61 #[.slice lA ln lc] W fun e w'=>(∃A' c',e = .returned (.slice A' ln c')/\ln<=c'/\(ln=0\/w'.ownsRow W.heap.size 99 2 (.slice A' ln c') ln (s.labels.flatMap encLb)))/\Below W.heap.size W w'):=fun W hb=>
    Khu s.labels lA ln lc W ((HL.out.below hb).more hb.size) (by omega)
   have cn:wb.cell? ⟨p,0,none⟩=some (.slice lA ln lc):=aN.out.cell 0;have dQ:p < wb.heap.size:=aN.out.lt;refine (eK m).elim (fun h0=>?ga) (fun h0=>?gb)
   case' ga=>
    have aW:af = []:=ZZ (by rw[<-aS.out.rows.len,am.out,h0]);have bw:Hid (openG af s=af ++ [⟨s.labels,[],[]⟩]):=by show _=_;unfold openG;rw[jf (.inl aW)]
    obtain ⟨last,hla⟩:∃last:Int,(m:Int) - 1=last:=⟨_,rfl⟩;have d6:last < 0:=by omega
    have c5:last+1=(m:Int):=by omega
    clear aW h0;go_upto_region 8 with fail
    refine Kaa (by kernel_rfl) (by kernel_rfl) ?_
    repeat (go_big_quiet_step (fail))
    refine eZ ?_;rintro wq ⟨⟨_,bQ⟩,rfl⟩;have ad:Hid (Blk wq p 58 #[.slice lA ln lc,.slice sA sn sc,.slice wA wn wc]):=aN.out.below bQ aN.out.lt;have ag:Hid (MSt w0 w2 wq (.slice A4 m cV) hs af):=aS.out.below bQ;clear aN aS aM cn dQ bQ;have a6:Below w0.heap.size w0 wq:=ag.out.b0;have bP:wq.cell? ⟨p,0,none⟩=some (.slice lA ln lc):=ad.out.cell 0;have bD:=ad.out.lt;go_wp2_with fail
    refine (ca.out wq a6).mono ?_;rintro _ w4 ⟨⟨A6,c6,rfl,c3,aI⟩,bk⟩;have b8:MSt w0 w2 w4 (.slice A4 m cV) hs af:=ag.out.below bk;obtain ⟨w5,aG⟩:=i7 (w4.alloc (.cells #[.slice A6 ln c6,.slice none 0 0,.slice none 0 0] 58));have bi:Below w4.heap.size w4 w5:=by rw[aG];exact (Below.refl _ _).alloc (eh _) _
    have bm:MSt w0 w2 w5 (.slice A4 m cV) hs af:=b8.below bi;have aO:Blk w5 p 58 #[.slice lA ln lc,.slice sA sn sc,.slice wA wn wc]:=(ad.out.below bk ad.out.lt).below bi (ad.out.below bk ad.out.lt).lt;have aJ:Blk w5 w4.heap.size 58 #[.slice A6 ln c6,.slice none 0 0,.slice none 0 0]:=by rw[aG];exact eV _ _ _
    have aB:w5.ownsRow w2.heap.size 58 3 (.slice A4 m cV) m (hs.flatMap encH3):=by have:=bm.row;rw[am.out] at this;exact this
    have aE:ln=0\/w5.ownsRow w2.heap.size 99 2 (.slice A6 ln c6) ln (s.labels.flatMap encLb):=aI.imp id fun y=>Kce (Kbb y bi) ag.out.b2.size
    have ck:=Jh bm;have a0:=Jh aO;have aK:=Jh aE;have aP:Hid (∀k,(ef A4 m cV).ownBlock=some k->k≠p):=bC.out;have cw:Hid (p < w5.heap.size):=aO.lt;have cf:=bm.b2.size;have cp:Hid (ln<=c6):=c3;clear bP bD a6 aI b8 bm aO aE ag ad bk bi;go_wp2_with (at_builtin;(try rw[<-aG]);refine wpList_append_own_at _ rfl _ _ 26 rfl w2.heap.size 58 ib (.agg #[.slice none 0 0,.slice none 0 0,.slice none 0 0]) 3 72 underlying26 dI dP dC dw rfl (by decide) (.slice A4 m cV) m _ rfl aB ⟨w4.heap.size,0,none⟩ 1 1 [.slice A6 ln c6,.slice none 0 0,.slice none 0 0] rfl rfl (Kao (l:=[.slice A6 ln c6,.slice none 0 0,.slice none 0 0]) aJ) ?p2 ?p3 ?p4 ?p5 ?_)
    case p2=>intro u hu;simp only[eQ,eB,or_false] at hu;rcases hu with rfl | rfl | rfl <;> rfl
    case p3=>unfold maxLen;omega
    case p4=>omega
    case p5=>exact cf
    intro v6 wb hown' hgrow _ hat;rw[<-aG] at hgrow;obtain ⟨A7,cV,rfl⟩:=Kag hown'
    have ac:MSt w0 w2 wb (.slice A7 (m+1) cV) (hs ++ [⟨⟨A6,ln,c6⟩,⟨none,0,0⟩,⟨none,0,0⟩⟩]) (af ++ [⟨s.labels,[],[]⟩]):=by
     refine ck.out.more aX.out hgrow (by rw[am.out];exact hown') ⟨?_,HL.out.len,cp.out,en _ _ _ _,en _ _ _ _⟩ rfl rfl;rcases aK.out with e | e
     .exact .inl ⟨e,ZZ (by rw[HL.out.len];exact e)⟩
     .refine .inr ?_;rw[HL.out.len];exact e
    have a9:Blk wb p 58 #[.slice lA ln lc,.slice sA sn sc,.slice wA wn wc]:=a0.out.grown hgrow (fun e=>aP.out p e.symm rfl)
    obtain ⟨g,cS⟩:∃g,A7=some ⟨g,0,none⟩:=by
     rcases hown'.2 with ⟨e0,h1⟩ | ⟨g,cap,ay,e0,_⟩
     .omega
     .injection e0 with e0;exact ⟨g,e0⟩
    subst cS
    have be:g≠p:=by
     rcases hat with e | e
     .exact aP.out g (by rw[<-e];rfl)
     .have e2:g=w5.heap.size:=by
       first
       | (have e3:some g=some w5.heap.size:=e;injection e3)
       | (have e3:some g=some (w4.heap.size+1):=e;injection e3 with e4;rw[e4,aG];simp)
       | (rw[<-aG] at e;injection e)
       | (rw[aG];injection e)
      have:=cw.out;omega
    have bM:(hs ++ [(⟨⟨A6,ln,c6⟩,⟨none,0,0⟩,⟨none,0,0⟩⟩:Hd3)]).length=m+1:=by rw[eo,am.out];rfl
    rw[<-bw.out] at ac;generalize hs ++ [(⟨⟨A6,ln,c6⟩,⟨none,0,0⟩,⟨none,0,0⟩⟩:Hd3)]=hs at ac bM;obtain ⟨gs,az⟩:=i7 (openG af s);rw[<-az] at ac;have bt:Hid (MSt w0 w2 wb (.slice (some ⟨g,0,none⟩) (m+1) cV) hs gs):=ac;have av:Hid (hs.length=m+1):=bM;have aN:Hid (Blk wb p 58 #[.slice lA ln lc,.slice sA sn sc,.slice wA wn wc]):=a9;have aM:Hid (Below w0.heap.size w0 wb):=ac.b0;have cb:Hid (g≠p):=be;have bo:Hid (addG gs s=grpG ((ys.take (i+1)).map eR)):=by show _=_;rw[az];exact ar.out
    have ak:Hid (sumS gs<=137438953472):=by show _<=_;rw[az,Klr];exact bT.out
    have dK:m < m+1:=by omega
    have bZ:(m:Int) < (m:Int)+1:=by omega
    clear hown' hgrow hat ac a9 be bM az aB aJ cf ck a0 aK cp aP cw bw ar bT am aG;clear bC ca;obtain ⟨K,rfl⟩:=i7 m
   case' gb=>
    obtain ⟨k,hk⟩:∃k,m=k+1:=⟨m - 1,by omega⟩;have hkz:¬(k:Int) < 0:=by omega
    have dV:(m:Int) - 1=(k:Int):=by omega
    have d8:(k:Int) < (m:Int):=by omega
    have d5:k < m:=by omega
    have cL:Hid (m=k+1):=hk;have aH:Hid (hs.length=k+1):=by show _=_;rw[am.out,hk]
    obtain ⟨g,db⟩:∃g,A4=some ⟨g,0,none⟩:=by
     rcases aS.out.row.2 with ⟨e0,h1⟩ | ⟨g,cap,ay,e0,_⟩
     .rw[aH.out] at h1;omega
     .injection e0 with e0;exact ⟨g,e0⟩
    subst db;obtain ⟨x,hx⟩:∃x,hs[k]? = some x:=⟨hs[k]'(by have:=aH.out;omega),ek _⟩;have aL:af[k]! = lastS af:=by unfold lastS;rw[show af.length - 1=k by have:=aH.out;have:=aS.out.rows.len;omega]
    have dx:wb.cell? ⟨g,k*3,none⟩=some (.slice x.l.A x.l.n x.l.c):=by
     have h1:=aS.out.row.cells (g:=g) rfl (k*3+0) (.slice x.l.A x.l.n x.l.c) (by rw[Kcw Kda hs k 0 x hx (by decide)];rfl)
     have ea:(⟨g,0,none⟩:Addr).add (k*3+0)=⟨g,k*3,none⟩:=by
      unfold eY
      split
      .rename_i h0;simp at h0 |-;(try omega)
      .simp
     rw[ea] at h1;exact h1
    have bL:g < wb.heap.size:=(aS.out.row.lt g rfl).2;have cJ:=(aS.out.rows.sers k x hx).l;rw[aL] at cJ
    have bG:x.l.n<=1099511627776:=by
     have h1:=(aS.out.rows.at_ k x hx).ln;rw[<-h1]
     have h2:=Qaw (fun l=>l.length<=1099511627776) ((ys.take i).map eR) [] (fun _ h=>jl h eB) (fun s hs=>by
      obtain ⟨y,_,rfl⟩:=List.mem_map.1 hs;have h3:=y.a.l.len;rw[h3]
      exact y.z)
     have h4:grpG ((ys.take i).map eR)=af:=cT.out.symm;unfold grpG at h4;rw[h4] at h2;have dW:k < af.length:=by have:=aH.out;have:=aS.out.rows.len;omega
     rw[i9 af k dW];exact h2 _ (List.getElem_mem _)
    obtain ⟨cc,hcc⟩:=i7 (cmpL (lastS af).labels s.labels)
    have bB:Hid (∀X:Kbu wb,Calls prog 60 #[.slice x.l.A x.l.n x.l.c,.slice lA ln lc] X.w fun e w'=>e = .returned (.int .i64 cc)/\Grown X.w w'):=fun X=>
     Kea (lastS af).labels s.labels x.l.A lA x.l.n ln _ _ X.w cc hcc.symm ((cJ.below X.h.below).more X.h.below.size) ((HL.out.below (aM.out.trans (X.h.below.mono aM.out.size))).more (aM.out.trans (X.h.below.mono aM.out.size)).size) (by omega) (by omega)
    have cD:Hid (cc=cmpL (lastS af).labels s.labels):=hcc;obtain ⟨xA,bz⟩:=i7 x.l.A;obtain ⟨xn,bW⟩:=i7 x.l.n;obtain ⟨xc,bq⟩:=i7 x.l.c;rw[<-bz,<-bW,<-bq] at bB dx;have cb:Hid (g≠p):=bC.out g rfl;clear hx aL cJ bG hcc bz bW bq hk h0;go_upto_region 8 with fail
    refine Kar 10 (by kernel_rfl) (by kernel_rfl) ?_;simp only[ew,eH,ez,eI]
    repeat (go_big_quiet_step (fail))
    refine eZ ?_;rintro wq0 ⟨X,rfl⟩;go_wp2_with fail
    refine (bB.out X).mono ?_;rintro _ wq ⟨rfl,dA⟩;have bQ:Below wb.heap.size wb wq:=X.h.below.trans (dA.below.mono X.h.below.size);have ad:Hid (Blk wq p 58 #[.slice lA ln lc,.slice sA sn sc,.slice wA wn wc]):=aN.out.below bQ aN.out.lt;have ag:Hid (MSt w0 w2 wq (.slice (some ⟨g,0,none⟩) m cV) hs af):=aS.out.below bQ
    have dh:Hid (af≠[]):=fun e=>by have h1:=aS.out.rows.len;rw[e,aH.out] at h1;simp at h1
    clear aN aS aM cn dQ bQ dA bB dx bL;refine (Decidable.em (cc=0)).symm.elim (fun hcc=>?gc) (fun hcc=>?gd)
    case' gc=>
     have bw:Hid (openG af s=af ++ [⟨s.labels,[],[]⟩]):=by show _=_;unfold openG;rw[jf (.inr (by rw[<-cD.out];exact hcc))]
     have hc1:(cc == 0)=false:=jg.2 hcc;have hc2:(cc != 0)=true:=bne_iff_ne.2 hcc;have hc3:decide (cc=0)=false:=ja hcc;have c5:(k:Int)+1=(m:Int):=by have:=cL.out;omega
     clear cD cL aH dh cb;obtain ⟨A4,dG⟩:∃q:Option Addr,q=some ⟨g,0,none⟩:=⟨_,rfl⟩;rw[<-dG] at ag bC |-;clear dG;have a6:Below w0.heap.size w0 wq:=ag.out.b0;have bP:wq.cell? ⟨p,0,none⟩=some (.slice lA ln lc):=ad.out.cell 0;have bD:=ad.out.lt;go_wp2_with fail
     refine (ca.out wq a6).mono ?_;rintro _ w4 ⟨⟨A6,c6,rfl,c3,aI⟩,bk⟩;have b8:MSt w0 w2 w4 (.slice A4 m cV) hs af:=ag.out.below bk;obtain ⟨w5,aG⟩:=i7 (w4.alloc (.cells #[.slice A6 ln c6,.slice none 0 0,.slice none 0 0] 58));have bi:Below w4.heap.size w4 w5:=by rw[aG];exact (Below.refl _ _).alloc (eh _) _
     have bm:MSt w0 w2 w5 (.slice A4 m cV) hs af:=b8.below bi;have aO:Blk w5 p 58 #[.slice lA ln lc,.slice sA sn sc,.slice wA wn wc]:=(ad.out.below bk ad.out.lt).below bi (ad.out.below bk ad.out.lt).lt;have aJ:Blk w5 w4.heap.size 58 #[.slice A6 ln c6,.slice none 0 0,.slice none 0 0]:=by rw[aG];exact eV _ _ _
     have aB:w5.ownsRow w2.heap.size 58 3 (.slice A4 m cV) m (hs.flatMap encH3):=by have:=bm.row;rw[am.out] at this;exact this
     have aE:ln=0\/w5.ownsRow w2.heap.size 99 2 (.slice A6 ln c6) ln (s.labels.flatMap encLb):=aI.imp id fun y=>Kce (Kbb y bi) ag.out.b2.size
     have ck:=Jh bm;have a0:=Jh aO;have aK:=Jh aE;have aP:Hid (∀k,(ef A4 m cV).ownBlock=some k->k≠p):=bC.out;have cw:Hid (p < w5.heap.size):=aO.lt;have cf:=bm.b2.size;have cp:Hid (ln<=c6):=c3;clear bP bD a6 aI b8 bm aO aE ag ad bk bi;go_wp2_with (at_builtin;(try rw[<-aG]);refine wpList_append_own_at _ rfl _ _ 26 rfl w2.heap.size 58 ib (.agg #[.slice none 0 0,.slice none 0 0,.slice none 0 0]) 3 72 underlying26 dI dP dC dw rfl (by decide) (.slice A4 m cV) m _ rfl aB ⟨w4.heap.size,0,none⟩ 1 1 [.slice A6 ln c6,.slice none 0 0,.slice none 0 0] rfl rfl (Kao (l:=[.slice A6 ln c6,.slice none 0 0,.slice none 0 0]) aJ) ?p2 ?p3 ?p4 ?p5 ?_)
     case p2=>intro u hu;simp only[eQ,eB,or_false] at hu;rcases hu with rfl | rfl | rfl <;> rfl
     case p3=>unfold maxLen;omega
     case p4=>omega
     case p5=>exact cf
     intro v6 wb hown' hgrow _ hat;rw[<-aG] at hgrow;obtain ⟨A7,cV,rfl⟩:=Kag hown'
     have ac:MSt w0 w2 wb (.slice A7 (m+1) cV) (hs ++ [⟨⟨A6,ln,c6⟩,⟨none,0,0⟩,⟨none,0,0⟩⟩]) (af ++ [⟨s.labels,[],[]⟩]):=by
      refine ck.out.more aX.out hgrow (by rw[am.out];exact hown') ⟨?_,HL.out.len,cp.out,en _ _ _ _,en _ _ _ _⟩ rfl rfl;rcases aK.out with e | e
      .exact .inl ⟨e,ZZ (by rw[HL.out.len];exact e)⟩
      .refine .inr ?_;rw[HL.out.len];exact e
     have a9:Blk wb p 58 #[.slice lA ln lc,.slice sA sn sc,.slice wA wn wc]:=a0.out.grown hgrow (fun e=>aP.out p e.symm rfl)
     obtain ⟨g,cS⟩:∃g,A7=some ⟨g,0,none⟩:=by
      rcases hown'.2 with ⟨e0,h1⟩ | ⟨g,cap,ay,e0,_⟩
      .omega
      .injection e0 with e0;exact ⟨g,e0⟩
     subst cS
     have be:g≠p:=by
      rcases hat with e | e
      .exact aP.out g (by rw[<-e];rfl)
      .have e2:g=w5.heap.size:=by
        first
        | (have e3:some g=some w5.heap.size:=e;injection e3)
        | (have e3:some g=some (w4.heap.size+1):=e;injection e3 with e4;rw[e4,aG];simp)
        | (rw[<-aG] at e;injection e)
        | (rw[aG];injection e)
       have:=cw.out;omega
     have bM:(hs ++ [(⟨⟨A6,ln,c6⟩,⟨none,0,0⟩,⟨none,0,0⟩⟩:Hd3)]).length=m+1:=by rw[eo,am.out];rfl
     rw[<-bw.out] at ac;generalize hs ++ [(⟨⟨A6,ln,c6⟩,⟨none,0,0⟩,⟨none,0,0⟩⟩:Hd3)]=hs at ac bM;obtain ⟨gs,az⟩:=i7 (openG af s);rw[<-az] at ac;have bt:Hid (MSt w0 w2 wb (.slice (some ⟨g,0,none⟩) (m+1) cV) hs gs):=ac;have av:Hid (hs.length=m+1):=bM;have aN:Hid (Blk wb p 58 #[.slice lA ln lc,.slice sA sn sc,.slice wA wn wc]):=a9;have aM:Hid (Below w0.heap.size w0 wb):=ac.b0;have cb:Hid (g≠p):=be;have bo:Hid (addG gs s=grpG ((ys.take (i+1)).map eR)):=by show _=_;rw[az];exact ar.out
     have ak:Hid (sumS gs<=137438953472):=by show _<=_;rw[az,Klr];exact bT.out
     have dK:m < m+1:=by omega
     have bZ:(m:Int) < (m:Int)+1:=by omega
     clear hown' hgrow hat ac a9 be bM az aB aJ cf ck a0 aK cp aP cw bw ar bT am aG;clear bC ca;obtain ⟨K,rfl⟩:=i7 m
    case' gd=>
     subst hcc;have bw:Hid (openG af s=af):=by show _=_;unfold openG;rw[je (fun h=>h.elim dh.out fun h=>h cD.out.symm)]
     obtain ⟨gs,az⟩:=i7 af;rw[<-az] at ag;have bt:Hid (MSt w0 w2 wq (.slice (some ⟨g,0,none⟩) m cV) hs gs):=ag.out;have av:Hid (hs.length=k+1):=aH.out;have aN:Hid (Blk wq p 58 #[.slice lA ln lc,.slice sA sn sc,.slice wA wn wc]):=ad.out;have aM:Hid (Below w0.heap.size w0 wq):=ag.out.b0;have bo:Hid (addG gs s=grpG ((ys.take (i+1)).map eR)):=by show _=_;rw[az,<-bw.out];exact ar.out
     have ak:Hid (sumS gs<=137438953472):=by show _<=_;rw[az];exact bT.out
     clear ag ad cD dh bw az bC ca ar bT am aH cL;obtain ⟨wb,a8⟩:=i7 wq;subst a8;obtain rfl:m=k+1:=by omega
     obtain ⟨K,rfl⟩:=i7 k;have dK:K < K+1:=by omega
     have bZ:(K:Int) < (K:Int)+1:=by omega
   all_goals
    go_wp2_with fail
    obtain ⟨x,hx⟩:∃x,hs[K]? = some x:=⟨hs[K]'(by have:=av.out;omega),ek _⟩;have ae:MSt w0 w2 wb.drew (.slice (some ⟨g,0,none⟩) (K+1) cV) hs gs:=bt.out.below (Below.refl _ _).drew;have ah:=ae.rows.at_ K x hx;have aL:gs[K]! = lastS gs:=by unfold lastS;rw[show gs.length - 1=K by have:=av.out;have:=ae.rows.len;omega]
    rw[aL] at ah;have df:wb.drew.heap.size=wb.heap.size:=rfl;obtain ⟨i1,bY,cq,cd,ci⟩:=info_parts Krp;have b6:Elems wb.drew wb.drew.heap.size 2 Kac sA sn s.samples:=(HS.out.below aM.out.drew).more aM.out.size;have bR:(lastS gs).samples.length<=1099511627776:=by have:=ak.out;have h3:=Kjb (gs:=gs) (k:=K) (by have:=av.out;have:=ae.rows.len;omega);rw[aL] at h3;omega
    have di:sn<=1099511627776:=dH.out.1;obtain ⟨v9,w9,ba,bh,an,bI⟩:=Kiz (P:=prog) w2.heap.size 55 55 102 i1 (.agg #[.int .i64 0,.int .u64 0]) 2 16 underlying55 bY cq cd ci rfl (by decide) Khq Kwo (spM x) (lastS gs).samples ah.sm sA sn sc s.samples b6 (by unfold maxLen;omega) (by omega) ae.b2.size;obtain ⟨A9,c9,rfl⟩:=Kag bh;obtain ⟨n9,bH⟩:=i7 (((lastS gs).samples++s.samples).length);rw[<-bH] at ba bh bI;have aq:=(ae.put aX.out (k:=K) (x:=x) (x':=⟨x.l,⟨A9,n9,c9⟩,x.w⟩) (s':=⟨(lastS gs).labels,(lastS gs).samples++s.samples,(lastS gs).windows⟩) (w4:=w9) hx an.os an.tape an.output an.size (fun j hj h1 h2=>an.block j hj h1) rfl (by rw[aL]) (by show w9.ownsRow _ _ _ (.slice A9 n9 c9) ((lastS gs).samples++s.samples).length _;rw[<-bH];exact bh) (Kcq (v:=wpM x) ah.wd an.size (fun j hj=>an.block j (ah.wd.lt j hj).2 (fun e=>(Kav ah.wd ah.sm (by decide)).elim (fun q=>by rw[q] at hj;cases hj) (fun q=>q (hj.trans e))))) bI (.inl rfl)).1 rfl
    have aa:wb.drew.cell? ⟨g,K*3+1,none⟩=some (.slice x.s.A x.s.n x.s.c):=by
     have h1:=ae.row.cells (g:=g) rfl (K*3+1) (.slice x.s.A x.s.n x.s.c) (by rw[Kcw Kda hs K 1 x hx (by decide)];rfl);have ea:(⟨g,0,none⟩:Addr).add (K*3+1)=⟨g,K*3+1,none⟩:=by unfold eY;simp
     rw[ea] at h1;exact h1
    have aZ:Blk wb.drew p 58 #[.slice lA ln lc,.slice sA sn sc,.slice wA wn wc]:=aN.out;have b5:wb.drew.cell? ⟨p,1,none⟩=some (.slice sA sn sc):=aZ.cell 1;have cA:g < wb.drew.heap.size:=(ae.row.lt g rfl).2;have cg:g≠p:=cb.out
    have ai:w9.cell? ⟨g,K*3+1,none⟩=some (.slice x.s.A x.s.n x.s.c):=by obtain ⟨ay,ap⟩:=Kax ae.row (r:=g) rfl;have aV:Blk wb.drew g 58 ay:=ap;exact (er (w:=wb.drew) (an.block g cA (Kan aV ah.sm (by decide)))).trans aa
    have bS:w9.frozen? ⟨g,K*3+1,none⟩=false:=by obtain ⟨ay,ap⟩:=Kax ae.row (r:=g) rfl;have aV:Blk wb.drew g 58 ay:=ap;exact (aV.grown an (Kan aV ah.sm (by decide))).frozen _
    have bd:Blk w9 p 58 #[.slice lA ln lc,.slice sA sn sc,.slice wA wn wc]:=aZ.grown an (Kan aZ ah.sm (by decide));have aC:Blk (w9.setCell ⟨g,K*3+1,none⟩ (.slice A9 n9 c9)) p 58 #[.slice lA ln lc,.slice sA sn sc,.slice wA wn wc]:=bd.far (fun e=>cg e.symm) _;have de:Below wb.heap.size wb (w9.setCell ⟨g,K*3+1,none⟩ (.slice A9 n9 c9))\/True:=.inr trivial;have bN:Below w0.heap.size w0 (w9.setCell ⟨g,K*3+1,none⟩ (.slice A9 n9 c9)):=aq.b0
    have aD:sumS (gs.set K ⟨(lastS gs).labels,(lastS gs).samples++s.samples,(lastS gs).windows⟩)=sumS gs+s.samples.length:=by have h3:=Khr gs K ⟨(lastS gs).labels,(lastS gs).samples++s.samples,(lastS gs).windows⟩ (by have:=av.out;have:=ae.rows.len;omega);rw[aL] at h3;simp only[eo] at h3;omega
    have aj:lastS (gs.set K ⟨(lastS gs).labels,(lastS gs).samples++s.samples,(lastS gs).windows⟩)=⟨(lastS gs).labels,(lastS gs).samples++s.samples,(lastS gs).windows⟩:=by unfold lastS;rw[eb,show gs.length - 1=K by have:=av.out;have:=ae.rows.len;omega,i9 _ K (by rw[eb];have:=av.out;have:=ae.rows.len;omega),eF]
    have hS:wb.drew.cell? ⟨g,K*3+1,none⟩=some (.slice x.s.A x.s.n x.s.c)/\wb.drew.cell? ⟨p,1,none⟩=some (.slice sA sn sc):=⟨aa,b5⟩;have cv:spM x = .slice x.s.A x.s.n x.s.c:=rfl;rw[cv] at ba;obtain ⟨xA,bz⟩:=i7 x.s.A;obtain ⟨xn,bG⟩:=i7 x.s.n;obtain ⟨xc,bq⟩:=i7 x.s.c;rw[<-bz,<-bG,<-bq] at hS ba ai;have a7:=Jh aq;have bc:=Jh aC;have aR:=Jh aD;have aA:=Jh aj;have dg:=Jh aL;have c4:=Jh hx;clear ae ah aL df b6 bR di bh an bI aq aa aZ b5 bd aC de bN aD aj cv bz bG bq bH hx bY cq cd ci;refine Kcv (fun w'=>w'.cell? ⟨g,K*3+1,none⟩=some (.slice xA xn xc)/\w'.cell? ⟨p,1,none⟩=some (.slice sA sn sc)) 9 13 (by kernel_rfl) rfl ?_;rw[show eE 13 false = #[false,false,false,false,false,false,false,false,false,false,false,false,false] from rfl];refine kP (i:=0) (d:=some 45) hS ?_;simp only[el,Ja,Jb,Jc];refine kP (i:=1) (d:=some 46) hS ?_;simp only[el,Ja,Jb,Jc];refine kP (i:=2) (d:=some 47) hS ?_;simp only[el,Ja,Jb,Jc];refine kP (i:=3) (d:=some 48) hS ?_;simp only[el,Ja,Jb,Jc];refine kP (i:=4) (d:=some 49) hS ?_;simp only[el,Ja,Jb,Jc];refine kP (i:=5) (d:=some 50) hS ?_;simp only[el,Ja,Jb,Jc];refine kP (i:=7) (d:=some 52) hS ?_;simp only[el,Ja,Jb,Jc];refine Kbm (i:=6) (d:=some 51) rfl rfl (by kernel_rfl) (by kernel_rfl) (by kernel_rfl) (by kernel_rfl) rfl (fun _ _ _ h=>h) (.inl ⟨by rfl,fun w hw=>by (obtain ⟨ha,hb⟩:=hw;go_simp;try rfl)⟩) hS ?_;simp only[el,Ja,Jb,Jc];refine Kbm (i:=8) (d:=some 53) rfl rfl (by kernel_rfl) (by kernel_rfl) (by kernel_rfl) (by kernel_rfl) rfl (fun _ _ _ h=>h) (.inl ⟨by rfl,fun w hw=>by (obtain ⟨ha,hb⟩:=hw;go_simp;try rfl)⟩) hS ?_;simp only[el,Ja,Jb,Jc];refine Kah (i:=9) (by kernel_rfl) rfl rfl ?_;refine ex (d:=some 54) (w':=w9) (v:=.slice A9 n9 c9) rfl (Kmm _ _ _ rfl rfl rfl ba) ?_;refine ⟨fun h=>jl h (by decide),?_⟩;simp only[el,Ja,Jb,Jc];refine Kcu (i:=10) (d:=some 55) rfl rfl (by kernel_rfl) (by kernel_rfl) (by kernel_rfl) rfl (fun _ _ _ h=>h) (by rfl) (fun w=>by go_simp;try rfl) (fun h=>jl h (by decide)) ?_;simp only[el,Ja,Jb,Jc];refine Kcu (i:=11) (d:=some 56) rfl rfl (by kernel_rfl) (by kernel_rfl) (by kernel_rfl) rfl (fun _ _ _ h=>h) (by rfl) (fun w=>by go_simp;try rfl) (fun h=>jl h (by decide)) ?_;simp only[el,Ja,Jb,Jc];refine Kah (i:=12) (by kernel_rfl) rfl rfl ?_;refine ey (w':=w9.setCell ⟨g,K*3+1,none⟩ (.slice A9 n9 c9)) rfl (by go_simp;try rfl) ?_;refine ⟨fun h=>jl h (by decide),?_⟩;refine Kcb (by kernel_rfl) ?_ _;obtain ⟨al,bn⟩:=i7 (w9.setCell ⟨g,K*3+1,none⟩ (.slice A9 n9 c9));have aw:Hid (MSt w0 w2 al (.slice (some ⟨g,0,none⟩) (K+1) cV) (hs.set K ⟨x.l,⟨A9,n9,c9⟩,x.w⟩) (gs.set K ⟨(lastS gs).labels,(lastS gs).samples++s.samples,(lastS gs).windows⟩)):=by show MSt _ _ _ _ _ _;rw[bn];exact a7.out
    have aQ:Hid (Blk al p 58 #[.slice lA ln lc,.slice sA sn sc,.slice wA wn wc]):=by show Blk _ _ _ _;rw[bn];exact bc.out
    have bl:Hid ((hs.set K ⟨x.l,⟨A9,n9,c9⟩,x.w⟩).length=K+1):=by show _=_;rw[eb];exact av.out
    rw[<-bn];clear bn hS ba ai bS a7 bc cA cg;have cz:Hid (Below w0.heap.size w0 al):=aw.out.b0
    have bp:Hid (sumS (gs.set K ⟨(lastS gs).labels,(lastS gs).samples++s.samples,(lastS gs).windows⟩)<=274877906944):=by
     show _<=_
     rw[aR.out];have:=ak.out;have:=dX.out.1;omega
    obtain ⟨aY,bE⟩:=i7 (hs.set K ⟨x.l,⟨A9,n9,c9⟩,x.w⟩);obtain ⟨ab,bf⟩:=i7 (gs.set K ⟨(lastS gs).labels,(lastS gs).samples++s.samples,(lastS gs).windows⟩);have bs:Hid (MSt w0 w2 al (.slice (some ⟨g,0,none⟩) (K+1) cV) aY ab):=by show MSt _ _ _ _ _ _;rw[bE,bf];exact aw.out
    have cs:Hid (aY.length=K+1):=by show _=_;rw[bE];exact bl.out
    have bv:Hid (sumS ab<=274877906944):=by show _<=_;rw[bf];exact bp.out
    have b7:Hid (ab.set K ⟨(lastS ab).labels,(lastS ab).samples,(lastS ab).windows++s.windows⟩=addG gs s):=by
     show _=_
     rw[bf,aA.out,List.set_set];unfold addG;rw[show gs.length - 1=K by have h1:=bt.out.rows.len;have:=av.out;omega]
    clear bE bf aw bl bp aR aA dg c4 bt av ak aN aM;have bt:Hid (MSt w0 w2 al (.slice (some ⟨g,0,none⟩) (K+1) cV) aY ab):=bs.out;have av:Hid (aY.length=K+1):=cs.out;have ak:Hid (sumS ab<=274877906944):=bv.out;have aN:Hid (Blk al p 58 #[.slice lA ln lc,.slice sA sn sc,.slice wA wn wc]):=aQ.out;have aM:Hid (Below w0.heap.size w0 al):=cz.out;clear bs cs bv aQ cz;go_wp2_with fail
    obtain ⟨x,hx⟩:∃x,aY[K]? = some x:=⟨aY[K]'(by have:=av.out;omega),ek _⟩;have ae:MSt w0 w2 al.drew (.slice (some ⟨g,0,none⟩) (K+1) cV) aY ab:=bt.out.below (Below.refl _ _).drew;have ah:=ae.rows.at_ K x hx;have aL:ab[K]! = lastS ab:=by unfold lastS;rw[show ab.length - 1=K by have:=av.out;have:=ae.rows.len;omega]
    rw[aL] at ah;have df:al.drew.heap.size=al.heap.size:=rfl;obtain ⟨i1,bY,cq,cd,ci⟩:=info_parts Krq;have b6:Elems al.drew al.drew.heap.size 6 Kad wA wn s.windows:=(HW.out.below aM.out.drew).more aM.out.size;have bR:(lastS ab).windows.length<=1099511627776:=by have:=ak.out;have h3:=Kjb (gs:=ab) (k:=K) (by have:=av.out;have:=ae.rows.len;omega);rw[aL] at h3;omega
    have di:wn<=1099511627776:=dH.out.2;obtain ⟨v9,w9,ba,bh,an,bI⟩:=Kiz (P:=prog) w2.heap.size 56 56 135 i1 (.agg #[.int .i64 0,.int .i64 0,.int .u64 0,.int .u64 0,.int .u64 0,.int .u64 0]) 6 48 underlying56 bY cq cd ci rfl (by decide) Khs Kxd (wpM x) (lastS ab).windows ah.wd wA wn wc s.windows b6 (by unfold maxLen;omega) (by omega) ae.b2.size;obtain ⟨A9,c9,rfl⟩:=Kag bh;obtain ⟨n9,bH⟩:=i7 (((lastS ab).windows++s.windows).length);rw[<-bH] at ba bh bI;have aq:=(ae.put aX.out (k:=K) (x:=x) (x':=⟨x.l,x.s,⟨A9,n9,c9⟩⟩) (s':=⟨(lastS ab).labels,(lastS ab).samples,(lastS ab).windows++s.windows⟩) (w4:=w9) hx an.os an.tape an.output an.size (fun j hj h1 h2=>an.block j hj h2) rfl (by rw[aL]) (Kcq (v:=spM x) ah.sm an.size (fun j hj=>an.block j (ah.sm.lt j hj).2 (fun e=>(Kav ah.sm ah.wd (by decide)).elim (fun q=>by rw[q] at hj;cases hj) (fun q=>q (hj.trans e))))) (by show w9.ownsRow _ _ _ (.slice A9 n9 c9) ((lastS ab).windows++s.windows).length _;rw[<-bH];exact bh) (.inl rfl) bI).2.1 rfl
    have aa:al.drew.cell? ⟨g,K*3+2,none⟩=some (.slice x.w.A x.w.n x.w.c):=by
     have h1:=ae.row.cells (g:=g) rfl (K*3+2) (.slice x.w.A x.w.n x.w.c) (by rw[Kcw Kda aY K 2 x hx (by decide)];rfl);have ea:(⟨g,0,none⟩:Addr).add (K*3+2)=⟨g,K*3+2,none⟩:=by unfold eY;simp
     rw[ea] at h1;exact h1
    have aZ:Blk al.drew p 58 #[.slice lA ln lc,.slice sA sn sc,.slice wA wn wc]:=aN.out;have b5:al.drew.cell? ⟨p,2,none⟩=some (.slice wA wn wc):=aZ.cell 2;have cA:g < al.drew.heap.size:=(ae.row.lt g rfl).2;have cg:g≠p:=cb.out
    have ai:w9.cell? ⟨g,K*3+2,none⟩=some (.slice x.w.A x.w.n x.w.c):=by obtain ⟨ay,ap⟩:=Kax ae.row (r:=g) rfl;have aV:Blk al.drew g 58 ay:=ap;exact (er (w:=al.drew) (an.block g cA (Kan aV ah.wd (by decide)))).trans aa
    have bS:w9.frozen? ⟨g,K*3+2,none⟩=false:=by obtain ⟨ay,ap⟩:=Kax ae.row (r:=g) rfl;have aV:Blk al.drew g 58 ay:=ap;exact (aV.grown an (Kan aV ah.wd (by decide))).frozen _
    have bd:Blk w9 p 58 #[.slice lA ln lc,.slice sA sn sc,.slice wA wn wc]:=aZ.grown an (Kan aZ ah.wd (by decide));have aC:Blk (w9.setCell ⟨g,K*3+2,none⟩ (.slice A9 n9 c9)) p 58 #[.slice lA ln lc,.slice sA sn sc,.slice wA wn wc]:=bd.far (fun e=>cg e.symm) _;have de:Below al.heap.size al (w9.setCell ⟨g,K*3+2,none⟩ (.slice A9 n9 c9))\/True:=.inr trivial;have bN:Below w0.heap.size w0 (w9.setCell ⟨g,K*3+2,none⟩ (.slice A9 n9 c9)):=aq.b0
    have aD:sumS (ab.set K ⟨(lastS ab).labels,(lastS ab).samples,(lastS ab).windows++s.windows⟩)=sumS ab+s.windows.length:=by have h3:=Khr ab K ⟨(lastS ab).labels,(lastS ab).samples,(lastS ab).windows++s.windows⟩ (by have:=av.out;have:=ae.rows.len;omega);rw[aL] at h3;simp only[eo] at h3;omega
    have aj:lastS (ab.set K ⟨(lastS ab).labels,(lastS ab).samples,(lastS ab).windows++s.windows⟩)=⟨(lastS ab).labels,(lastS ab).samples,(lastS ab).windows++s.windows⟩:=by unfold lastS;rw[eb,show ab.length - 1=K by have:=av.out;have:=ae.rows.len;omega,i9 _ K (by rw[eb];have:=av.out;have:=ae.rows.len;omega),eF]
    have hS:al.drew.cell? ⟨g,K*3+2,none⟩=some (.slice x.w.A x.w.n x.w.c)/\al.drew.cell? ⟨p,2,none⟩=some (.slice wA wn wc):=⟨aa,b5⟩;have cv:wpM x = .slice x.w.A x.w.n x.w.c:=rfl;rw[cv] at ba;obtain ⟨xA,bz⟩:=i7 x.w.A;obtain ⟨xn,bG⟩:=i7 x.w.n;obtain ⟨xc,bq⟩:=i7 x.w.c;rw[<-bz,<-bG,<-bq] at hS ba ai;have a7:=Jh aq;have bc:=Jh aC;have aR:=Jh aD;have aA:=Jh aj;have dg:=Jh aL;have c4:=Jh hx;clear ae ah aL df b6 bR di bh an bI aq aa aZ b5 bd aC de bN aD aj cv bz bG bq bH hx bY cq cd ci;refine Kcv (fun w'=>w'.cell? ⟨g,K*3+2,none⟩=some (.slice xA xn xc)/\w'.cell? ⟨p,2,none⟩=some (.slice wA wn wc)) 9 13 (by kernel_rfl) rfl ?_;rw[show eE 13 false = #[false,false,false,false,false,false,false,false,false,false,false,false,false] from rfl];refine kP (i:=0) (d:=some 57) hS ?_;simp only[el,Ja,Jb,Jc];refine kP (i:=1) (d:=some 58) hS ?_;simp only[el,Ja,Jb,Jc];refine kP (i:=2) (d:=some 59) hS ?_;simp only[el,Ja,Jb,Jc];refine kP (i:=3) (d:=some 60) hS ?_;simp only[el,Ja,Jb,Jc];refine kP (i:=4) (d:=some 61) hS ?_;simp only[el,Ja,Jb,Jc];refine kP (i:=5) (d:=some 62) hS ?_;simp only[el,Ja,Jb,Jc];refine kP (i:=7) (d:=some 64) hS ?_;simp only[el,Ja,Jb,Jc];refine Kbm (i:=6) (d:=some 63) rfl rfl (by kernel_rfl) (by kernel_rfl) (by kernel_rfl) (by kernel_rfl) rfl (fun _ _ _ h=>h) (.inl ⟨by rfl,fun w hw=>by (obtain ⟨ha,hb⟩:=hw;go_simp;try rfl)⟩) hS ?_;simp only[el,Ja,Jb,Jc];refine Kbm (i:=8) (d:=some 65) rfl rfl (by kernel_rfl) (by kernel_rfl) (by kernel_rfl) (by kernel_rfl) rfl (fun _ _ _ h=>h) (.inl ⟨by rfl,fun w hw=>by (obtain ⟨ha,hb⟩:=hw;go_simp;try rfl)⟩) hS ?_;simp only[el,Ja,Jb,Jc];refine Kah (i:=9) (by kernel_rfl) rfl rfl ?_;refine ex (d:=some 66) (w':=w9) (v:=.slice A9 n9 c9) rfl (Kmm _ _ _ rfl rfl rfl ba) ?_;refine ⟨fun h=>jl h (by decide),?_⟩;simp only[el,Ja,Jb,Jc];refine Kcu (i:=10) (d:=some 67) rfl rfl (by kernel_rfl) (by kernel_rfl) (by kernel_rfl) rfl (fun _ _ _ h=>h) (by rfl) (fun w=>by go_simp;try rfl) (fun h=>jl h (by decide)) ?_;simp only[el,Ja,Jb,Jc];refine Kcu (i:=11) (d:=some 68) rfl rfl (by kernel_rfl) (by kernel_rfl) (by kernel_rfl) rfl (fun _ _ _ h=>h) (by rfl) (fun w=>by go_simp;try rfl) (fun h=>jl h (by decide)) ?_;simp only[el,Ja,Jb,Jc];refine Kah (i:=12) (by kernel_rfl) rfl rfl ?_;refine ey (w':=w9.setCell ⟨g,K*3+2,none⟩ (.slice A9 n9 c9)) rfl (by go_simp;try rfl) ?_;refine ⟨fun h=>jl h (by decide),?_⟩;refine Kcb (by kernel_rfl) ?_ _;obtain ⟨cR,bj⟩:=i7 (w9.setCell ⟨g,K*3+2,none⟩ (.slice A9 n9 c9));have aw:Hid (MSt w0 w2 cR (.slice (some ⟨g,0,none⟩) (K+1) cV) (aY.set K ⟨x.l,x.s,⟨A9,n9,c9⟩⟩) (ab.set K ⟨(lastS ab).labels,(lastS ab).samples,(lastS ab).windows++s.windows⟩)):=by show MSt _ _ _ _ _ _;rw[bj];exact a7.out
    have aQ:Hid (Blk cR p 58 #[.slice lA ln lc,.slice sA sn sc,.slice wA wn wc]):=by show Blk _ _ _ _;rw[bj];exact bc.out
    have bl:Hid ((aY.set K ⟨x.l,x.s,⟨A9,n9,c9⟩⟩).length=K+1):=by show _=_;rw[eb];exact av.out
    rw[<-bj];clear bj hS ba ai bS a7 bc cA cg
    have dE:Hid (MSt w0 w2 cR (.slice (some ⟨g,0,none⟩) (K+1) cV) (aY.set K ⟨x.l,x.s,⟨A9,n9,c9⟩⟩) ((ys.take (i+1)).map eR |> grpG)):=by
     show MSt _ _ _ _ _ _
     rw[<-bo.out,<-b7.out];exact aw.out
    generalize aY.set K ⟨x.l,x.s,⟨A9,n9,c9⟩⟩=hs3 at dE bl;clear aw aR aA dg c4 b7 bo bt av ak aN aM aQ;go_wp2_with fail
    go_roundg (N - (i+1))
    case measure=>omega
    case rel=>exact ⟨i+1,hs3,by first | rfl | go_num,by omega,dE⟩
  .have da:¬(i:Int) < (N:Int):=by omega
   have dZ:i=N:=by omega
   obtain ⟨gs,az⟩:=i7 (grpG (ys.map eR));have cN:grpG ((ys.take i).map eR)=gs:=by rw[az,eC (by rw[dr.out];omega)]
   rw[cN] at HM;have d3:Hid (gs=grpG (ys.map eR)):=az
   have ak:Hid (sumS gs<=137438953472):=by
    show _<=_
    rw[az];unfold grpG;rw[Kwt];have:=bb.out;simpa[sumS] using this
   obtain ⟨A4,cV,bU⟩:=Kag HM.out.row;obtain ⟨m,hm⟩:=i7 hs.length;rw[<-hm] at bU
   have d1:m<=274877906944:=by have h1:=HM.out.rows.len;have h2:=Kzn ((ys.take i).map eR) [];rw[eD,eq,et] at h2;have h3:grpG ((ys.take i).map eR)=gs:=cN;unfold grpG at h3;rw[h3] at h2;omega
   have cU:Hid (gs.length=m):=by show _=_;rw[hm];exact HM.out.rows.len.symm
   have M1:Hid (MSt w0 w2 wr (.slice A4 m cV) hs ((gs.take 0).map Kaz++gs.drop 0)):=by
    show MSt _ _ _ _ _ _
    rw[<-bU];simpa using HM.out
   subst bU;clear az cN hm HM dZ hi;go_wp2_with fail
   go_loopg [72] m (fun kx s72 wr=>∃(i:Nat) (hs:List Hd3),s72 = .int .i64 (i:Int)/\i+kx=m/\Hid (MSt w0 w2 wr (.slice A4 m cV) hs ((gs.take i).map Kaz++gs.drop i)))
   case atStart=>exact ⟨0,hs,rfl,by omega,M1⟩
   case round=>
    clear M1;clear hs;obtain ⟨i,hs,rfl,hi,HM⟩:=hrel;rcases ep i m with cx | hge
    .have da:(i:Int) < (m:Int):=by omega
     obtain ⟨g,db⟩:∃g,A4=some ⟨g,0,none⟩:=by
      rcases HM.out.row.2 with ⟨e0,h1⟩ | ⟨g,cap,ay,e0,_⟩
      .injection e0 with _ e1;omega
      .injection e0 with e0;exact ⟨g,e0⟩
     subst db;have cW:i < gs.length:=by rw[cU.out];exact cx
     obtain ⟨cB,cG⟩:=Qeb gs cW
     have bx:hs.length=m:=by
      rcases HM.out.row.2 with ⟨e0,_⟩ | ⟨g',cap,ay,e0,_⟩
      .cases e0
      .injection e0 with _ e1;exact e1.symm
     obtain ⟨x,hx⟩:∃x,hs[i]? = some x:=⟨hs[i]'(by omega),ek _⟩
     have aa:∀j v,j < 3->(encH3 x)[j]? = some v->wr.cell? ⟨g,i*3+j,none⟩=some v:=fun j v hj hv=>by
      have h1:=HM.out.row.cells (g:=g) rfl (i*3+j) v (by rw[Kcw Kda hs i j x hx hj];exact hv)
      have ea:(⟨g,0,none⟩:Addr).add (i*3+j)=⟨g,i*3+j,none⟩:=by
       unfold eY
       split
       .rename_i h0;simp at h0 |-;(try omega)
       .simp
      rw[ea] at h1;exact h1
     have cZ:=Kjb cW;have dj:gs[i]!.samples.length<=137438953472/\gs[i]!.windows.length<=137438953472:=by have:=ak.out;omega
     obtain ⟨si,dv⟩:=i7 (gs[i]!);obtain ⟨ay,ap⟩:=i7 ((gs.take i).map Kaz++gs.drop i);rw[<-dv] at cB cG dj;rw[<-ap] at cB cG HM;have cO:Hid (ay.set i (Kaz si)=(gs.take (i+1)).map Kaz++gs.drop (i+1)):=cB;have cy:Hid (ay[i]! = si):=cG;have dD:Hid (si.samples.length<=137438953472/\si.windows.length<=137438953472):=dj;have bL:g < wr.heap.size:=(HM.out.row.lt g rfl).2;obtain ⟨⟨xA,xn,xc⟩,⟨sA,sn,sc⟩,⟨wA,wn,wc⟩⟩:=x;have c0:=aa 0 (.slice xA xn xc) (by decide) rfl;have c1:=aa 1 (.slice sA sn sc) (by decide) rfl;have c2:=aa 2 (.slice wA wn wc) (by decide) rfl;rw[Nat.add_zero] at c0;have HX:Hid (hs[i]? = some ⟨⟨xA,xn,xc⟩,⟨sA,sn,sc⟩,⟨wA,wn,wc⟩⟩):=hx;clear cB cG dj cZ aa hx ap dv;go_upto_region 17 with fail
     obtain ⟨wb,a8⟩:=i7 (wr.alloc (.cells #[.slice xA xn xc,.slice sA sn sc,.slice wA wn wc] 58));obtain ⟨p,hp⟩:=i7 wr.heap.size;have aZ:Blk wb p 58 #[.slice xA xn xc,.slice sA sn sc,.slice wA wn wc]:=by rw[a8,hp];exact eV _ _ _
     have ae:MSt w0 w2 wb.drew (.slice (some ⟨g,0,none⟩) m cV) hs ay:=by
      have:MSt w0 w2 wb (.slice (some ⟨g,0,none⟩) m cV) hs ay:=by rw[a8];exact HM.out.below ((Below.refl _ _).alloc (eh _) _)
      exact this.below (Below.refl _ _).drew
     rw[<-a8,<-hp];have a5:Blk wb.drew p 58 #[.slice xA xn xc,.slice sA sn sc,.slice wA wn wc]:=aZ;obtain ⟨xl,dy⟩:∃q:Hd,q=⟨xA,xn,xc⟩:=⟨_,rfl⟩;have ah:=ae.rows.at_ i _ HX.out;rw[cy.out] at ah;have ao:Hid (∃N1:Value->World->Prop,(∀u w',N1 u w'↔∃zs,Kbe Smp.t si.samples zs/\w'.ownsRow w2.heap.size 102 2 u zs.length (zs.flatMap Kac)/\u.ownBlock=(ef sA sn sc).ownBlock/\wb.drew.grownBy w' (ef sA sn sc).ownBlock)):=⟨fun u w'=>_,fun u w'=>Iff.rfl⟩;obtain ⟨N1,ao⟩:=ao.out;have aT:Hid (∃N2:World->Value->World->Prop,(∀w6 u w',N2 w6 u w'↔∃zs,Kbe eX si.windows zs/\w'.ownsRow w2.heap.size 135 6 u zs.length (zs.flatMap Kad)/\u.ownBlock=(ef wA wn wc).ownBlock/\w6.grownBy w' (ef wA wn wc).ownBlock)):=⟨fun w6 u w'=>_,fun w6 u w'=>Iff.rfl⟩;obtain ⟨N2,aT⟩:=aT.out;have ct:wb.drew.ownsRow w2.heap.size 102 2 (.slice sA sn sc) si.samples.length (si.samples.flatMap Kac):=ah.sm;have bV:wb.drew.ownsRow w2.heap.size 135 6 (.slice wA wn wc) si.windows.length (si.windows.flatMap Kad):=ah.wd;have dF:∀j,(ef wA wn wc).ownBlock=some j->some j≠(ef sA sn sc).ownBlock:=fun j hj e=>(Kav bV ct (by decide)).elim (fun q=>by rw[q] at hj;cases hj) (fun q=>q (hj.trans e))
     have cH:Hid (Calls prog 62 #[.slice sA sn sc,.func (.func 63) #[] #[]] wb.drew fun e w'=>∃u,e = .returned u/\N1 u w'):=by refine (Kyh si.samples w2.heap.size si.samples.length _ wb.drew ct rfl (by have:=dD.out;omega)).mono ?_;rintro e w' ⟨v',zs,rfl,h1,h2,h3,h4⟩;exact ⟨_,rfl,(ao _ _).2 ⟨zs,h1,h2,h3,h4⟩⟩
     have bF:∀u1 w6,N1 u1 w6->w6.ownsRow w2.heap.size 135 6 (.slice wA wn wc) si.windows.length (si.windows.flatMap Kad):=fun u1 w6 h=>by obtain ⟨zs,_,_,_,h4⟩:=(ao _ _).1 h;exact Kcq bV h4.size fun j hj=>h4.block j (bV.lt j hj).2 (dF j hj)
     have cE:Hid (∀u1 w6,N1 u1 w6->Calls prog 64 #[.slice wA wn wc,.func (.func 65) #[] #[]] w6 fun e w'=>∃u,e = .returned u/\N2 w6 u w'):=fun u1 w6 h=>by refine (Kyl si.windows w2.heap.size si.windows.length _ w6 (bF u1 w6 h) rfl (by have:=dD.out;omega)).mono ?_;rintro e w' ⟨v',zs,rfl,h1,h2,h3,h4⟩;exact ⟨_,rfl,(aT _ _ _).2 ⟨zs,h1,h2,h3,h4⟩⟩
     have cI:Hid (∀u1 w6,N1 u1 w6->w6.cell? ⟨p,2,none⟩=some (.slice wA wn wc)):=fun u1 w6 h=>by obtain ⟨zs,_,_,_,h4⟩:=(ao _ _).1 h;have hb:Blk w6 p 58 #[.slice xA xn xc,.slice sA sn sc,.slice wA wn wc]:=a5.grown h4 (Kan a5 ct (by decide));exact hb.cell 2
     have dl:Hid (∀u w',N1 u w'->∃A n c,u = .slice A n c):=fun u w' h=>by obtain ⟨zs,_,h2,_⟩:=(ao _ _).1 h;obtain ⟨A1,c1,e⟩:=Kag h2;exact ⟨A1,_,c1,e⟩
     have dm:Hid (∀w6 u w',N2 w6 u w'->∃A n c,u = .slice A n c):=fun w6 u w' h=>by obtain ⟨zs,_,h2,_⟩:=(aT _ _ _).1 h;obtain ⟨A1,c1,e⟩:=Kag h2;exact ⟨A1,_,c1,e⟩
     have bK:∀{u1 w6 u2 w7},N1 u1 w6->N2 w6 u2 w7->∀j,j < wb.drew.heap.size->some j≠(ef sA sn sc).ownBlock->some j≠(ef wA wn wc).ownBlock->w7.heap[j]? = wb.drew.heap[j]?:=fun {u1 w6 u2 w7} h h' j hj n1 n2=>by obtain ⟨_,_,_,_,h4⟩:=(ao _ _).1 h;obtain ⟨_,_,_,_,k4⟩:=(aT _ _ _).1 h';exact (k4.block j (eL hj h4.size) n2).trans (h4.block j hj n1)
     have ch:Hid (∀A1 n1 c1 w6 A2 n2 c2 w7,N1 (.slice A1 n1 c1) w6->N2 w6 (.slice A2 n2 c2) w7->MSt w0 w2 ((w7.setCell ⟨g,i*3+1,none⟩ (.slice A1 n1 c1)).setCell ⟨g,i*3+2,none⟩ (.slice A2 n2 c2)) (.slice (some ⟨g,0,none⟩) m cV) (hs.set i ⟨xl,⟨A1,n1,c1⟩,⟨A2,n2,c2⟩⟩) ((gs.take (i+1)).map Kaz++gs.drop (i+1))):=fun A1 n1 c1 w6 A2 n2 c2 w7 h h'=>by
      obtain ⟨zs,a1,a2,a3,a4⟩:=(ao _ _).1 h;obtain ⟨ws,b1,b2,b3,b4⟩:=(aT _ _ _).1 h';have e1:=Kyj a1;have e2:=Kyk b1;rw[<-cO.out]
      have d0:w7.ownsRow w2.heap.size 102 2 (.slice A1 n1 c1) (Kaz si).samples.length ((Kaz si).samples.flatMap Kac):=by
       rw[e1];refine Kcq a2 b4.size fun j hj=>b4.block j (a2.lt j hj).2 fun e=>?_
       have h6:=bF _ _ h;exact (Kav h6 a2 (by decide)).elim (fun q=>by rw[q] at e;cases e) (fun q=>q (e.symm.trans hj.symm))
      have dR:w7.ownsRow w2.heap.size 135 6 (.slice A2 n2 c2) (Kaz si).windows.length ((Kaz si).windows.flatMap Kad):=by rw[e2];exact b2
      exact (ae.put aX.out (k:=i) (x:=⟨⟨xA,xn,xc⟩,⟨sA,sn,sc⟩,⟨wA,wn,wc⟩⟩) (x':=⟨xl,⟨A1,n1,c1⟩,⟨A2,n2,c2⟩⟩) (s':=Kaz si) (w4:=w7) HX.out (b4.os.trans a4.os) (b4.tape.trans a4.tape) (b4.output.trans a4.output) (eA a4.size b4.size) (bK h h') dy (by rw[cy.out];rfl) d0 dR (.inl a3) (.inl b3)).2.2
     have dn:Hid (∀u1 w6 u2 w7,N1 u1 w6->N2 w6 u2 w7->w7.cell? ⟨g,i*3+1,none⟩=some (.slice sA sn sc)/\w7.cell? ⟨g,i*3+2,none⟩=some (.slice wA wn wc)/\w7.frozen? ⟨g,i*3+1,none⟩=false/\w7.frozen? ⟨g,i*3+2,none⟩=false):=fun u1 w6 u2 w7 h h'=>by
      obtain ⟨cu,c7⟩:=Kax ae.row (r:=g) rfl;have aV:Blk wb.drew g 58 cu:=c7;have dc:=bK h h' g (ae.row.lt g rfl).2 (Kan aV ct (by decide)) (Kan aV bV (by decide));have cr:Blk w7 g 58 cu:=dc.trans aV
      have hcc:∀j v,j < 3->(encH3 ⟨⟨xA,xn,xc⟩,⟨sA,sn,sc⟩,⟨wA,wn,wc⟩⟩)[j]? = some v->wb.drew.cell? ⟨g,i*3+j,none⟩=some v:=fun j v hj hv=>by
       have h1:=ae.row.cells (g:=g) rfl (i*3+j) v (by rw[Kcw Kda hs i j _ HX.out hj];exact hv)
       have ea:(⟨g,0,none⟩:Addr).add (i*3+j)=⟨g,i*3+j,none⟩:=by
        unfold eY
        split
        .rename_i h0;simp at h0 |-;(try omega)
        .simp
       rw[ea] at h1;exact h1
      exact ⟨(er dc).trans (hcc 1 _ (by decide) rfl),(er dc).trans (hcc 2 _ (by decide) rfl),cr.frozen _,cr.frozen _⟩
     have hb1:wb.drew.cell? ⟨p,1,none⟩=some (.slice sA sn sc):=a5.cell 1;have co:wb.drew.cell? ⟨p,2,none⟩=some (.slice wA wn wc):=a5.cell 2;clear a8 hp aZ ae a5 ah ao aT ct bV dF bF bK c0 c1 c2 bL bx cW HM dy;refine Kcv (fun _=>True) 6 16 (by kernel_rfl) rfl ?_;rw[show eE 16 false = #[false,false,false,false,false,false,false,false,false,false,false,false,false,false,false,false] from rfl];refine kP (i:=0) (d:=some 77) trivial ?_;simp only[el,Ja,Jb,Jc];refine kP (i:=1) (d:=some 78) trivial ?_;simp only[el,Ja,Jb,Jc];refine kP (i:=2) (d:=some 79) trivial ?_;simp only[el,Ja,Jb,Jc];refine kP (i:=3) (d:=some 80) trivial ?_;simp only[el,Ja,Jb,Jc];refine kP (i:=4) (d:=some 81) trivial ?_;simp only[el,Ja,Jb,Jc];refine kP (i:=7) (d:=some 84) trivial ?_;simp only[el,Ja,Jb,Jc];refine Kgw (i:=5) (j:=8) (by kernel_rfl) rfl rfl rfl rfl ?gA ?gB
     case' gA=>
      refine ex (d:=some 82) (w':=wb.drew) (v:=.slice sA sn sc) rfl (by go_simp;try rfl) ?_;refine ⟨fun _=>trivial,?_⟩;simp only[el,Ja,Jb,Jc];refine Kgw (i:=6) (j:=8) (by kernel_rfl) rfl rfl rfl rfl ?gC ?gD
      case' gC=>
       refine ev (d:=some 83) (g:=62) (args:=#[.slice sA sn sc,.func (.func 63) #[] #[]]) rfl (by go_simp;try rfl) cH.out ?_;rintro u1 w6 ao;refine ⟨fun _=>trivial,?_⟩;simp only[el,Ja,Jb,Jc];have ds:=cI.out u1 w6 ao;refine Kah (i:=8) (by kernel_rfl) rfl rfl ?_;refine ex (d:=some 85) (w':=w6) (v:=.slice wA wn wc) rfl (by go_simp;try rfl) ?_;refine ⟨fun _=>trivial,?_⟩;simp only[el,Ja,Jb,Jc];refine Kah (i:=9) (by kernel_rfl) rfl rfl ?_;refine ev (d:=some 86) (g:=64) (args:=#[.slice wA wn wc,.func (.func 65) #[] #[]]) rfl (by go_simp;try rfl) (cE.out u1 w6 ao) ?_;rintro u2 w7 aT;refine ⟨fun _=>trivial,?_⟩;simp only[el,Ja,Jb,Jc]
      case' gD=>
       refine ex (d:=some 85) (w':=wb.drew) (v:=.slice wA wn wc) rfl (by go_simp;try rfl) ?_;refine ⟨fun _=>trivial,?_⟩;simp only[el,Ja,Jb,Jc];refine Kah (i:=6) (by kernel_rfl) rfl rfl ?_;refine ev (d:=some 83) (g:=62) (args:=#[.slice sA sn sc,.func (.func 63) #[] #[]]) rfl (by go_simp;try rfl) cH.out ?_;rintro u1 w6 ao;refine ⟨fun _=>trivial,?_⟩;simp only[el,Ja,Jb,Jc];have ds:=cI.out u1 w6 ao;refine Kah (i:=9) (by kernel_rfl) rfl rfl ?_;refine ev (d:=some 86) (g:=64) (args:=#[.slice wA wn wc,.func (.func 65) #[] #[]]) rfl (by go_simp;try rfl) (cE.out u1 w6 ao) ?_;rintro u2 w7 aT;refine ⟨fun _=>trivial,?_⟩;simp only[el,Ja,Jb,Jc]
     case' gB=>
      refine ex (d:=some 85) (w':=wb.drew) (v:=.slice wA wn wc) rfl (by go_simp;try rfl) ?_;refine ⟨fun _=>trivial,?_⟩;simp only[el,Ja,Jb,Jc];refine Kah (i:=5) (by kernel_rfl) rfl rfl ?_;refine ex (d:=some 82) (w':=wb.drew) (v:=.slice sA sn sc) rfl (by go_simp;try rfl) ?_;refine ⟨fun _=>trivial,?_⟩;simp only[el,Ja,Jb,Jc];refine Kah (i:=6) (by kernel_rfl) rfl rfl ?_;refine ev (d:=some 83) (g:=62) (args:=#[.slice sA sn sc,.func (.func 63) #[] #[]]) rfl (by go_simp;try rfl) cH.out ?_;rintro u1 w6 ao;refine ⟨fun _=>trivial,?_⟩;simp only[el,Ja,Jb,Jc];have ds:=cI.out u1 w6 ao;refine Kah (i:=9) (by kernel_rfl) rfl rfl ?_;refine ev (d:=some 86) (g:=64) (args:=#[.slice wA wn wc,.func (.func 65) #[] #[]]) rfl (by go_simp;try rfl) (cE.out u1 w6 ao) ?_;rintro u2 w7 aT;refine ⟨fun _=>trivial,?_⟩;simp only[el,Ja,Jb,Jc]
     all_goals
      obtain ⟨A1,n1,c1,rfl⟩:=dl.out u1 w6 ao;obtain ⟨A2,n2,c2,rfl⟩:=dm.out w6 u2 w7 aT;have aq:=ch.out A1 n1 c1 w6 A2 n2 c2 w7 ao aT;obtain ⟨cY,bX,c8,cm⟩:=dn.out _ w6 _ w7 ao aT;have dN:=Jh aq;clear aq ao aT;refine kP (i:=10) (d:=some 87) trivial ?_;simp only[el,Ja,Jb,Jc];refine kP (i:=11) (d:=some 88) trivial ?_;simp only[el,Ja,Jb,Jc];refine Kah (i:=12) (by kernel_rfl) rfl rfl ?_;refine ey (w':=w7.setCell ⟨g,i*3+1,none⟩ (.slice A1 n1 c1)) rfl (by go_simp;try rfl) ?_;refine ⟨fun _=>trivial,?_⟩;simp only[el,Ja,Jb,Jc];refine kP (i:=13) (d:=some 89) trivial ?_;simp only[el,Ja,Jb,Jc];refine kP (i:=14) (d:=some 90) trivial ?_;simp only[el,Ja,Jb,Jc];refine Kah (i:=15) (by kernel_rfl) rfl rfl ?_;have cM:(w7.setCell ⟨g,i*3+1,none⟩ (.slice A1 n1 c1)).cell? ⟨g,i*3+2,none⟩=some (.slice wA wn wc):=by rw[World.cell?_setCell_other _ _ _ _ (by simp)];exact bX
      have cK:(w7.setCell ⟨g,i*3+1,none⟩ (.slice A1 n1 c1)).frozen? ⟨g,i*3+2,none⟩=false:=by rw[World.frozen?_setCell];exact cm
      refine ey (w':=(w7.setCell ⟨g,i*3+1,none⟩ (.slice A1 n1 c1)).setCell ⟨g,i*3+2,none⟩ (.slice A2 n2 c2)) rfl (by go_simp;try rfl) ?_;refine ⟨fun _=>trivial,?_⟩;refine Kcb (by kernel_rfl) ?_ _;clear cY bX c8 cm cM cK;generalize hs.set i ⟨xl,⟨A1,n1,c1⟩,⟨A2,n2,c2⟩⟩=hsn at dN;clear cH cE cI dl dm ch dn;go_wp2_with fail
      go_roundg (m - (i+1))
      case measure=>omega
      case rel=>exact ⟨i+1,hsn,by first | rfl | go_num,by omega,dN⟩
    .have da:¬(i:Int) < (m:Int):=by omega
     have hM:MSt w0 w2 wr (.slice A4 m cV) hs (gs.map Kaz):=by have h:=HM.out;rw[eC (by rw[cU.out];exact hge),List.drop_of_length_le (by rw[cU.out];exact hge),ei] at h;exact h
     have cX:Hid (Calls prog 66 #[.slice A4 m cV,.func (.func 67) #[] #[]] wr fun e w'=>∃A' n' c',e = .returned (.slice A' n' c')/\Sers w' A' n' (Kev (ys.map eR))/\n'<=c'/\Below w0.heap.size w0 w'):=by
      have dB:Kev (ys.map eR)=(gs.map Kaz).filter Kam:=by unfold Kev;rw[d3.out]
      rcases hM.row.2 with ⟨e0,h0⟩ | ⟨g,cap,ay,e0,_⟩
      .injection e0 with e1 e2 e3;subst e1 e2 e3;refine (Ksz wr).mono ?_;rintro e w' ⟨rfl,rfl⟩;have dU:gs.map Kaz = []:=ZZ (by rw[<-hM.rows.len,h0]);refine ⟨none,0,0,rfl,?_,eh _,hM.b0⟩;rw[dB,dU];exact Sers.nil _
      .injection e0 with e1 e2 e3;subst e1 e3;have cx:=hM.row.lt g rfl;have bg:wr.ownsRow w2.heap.size 58 3 (.slice (some ⟨g,0,none⟩) m cV) m (hs.flatMap encH3):=by have:=hM.row;rw[<-e2] at this;exact this
       have bx:hs.length=m:=e2.symm;have R:RowK encH3 3 wr g 0 hs.toArray:=⟨Kda,Kqh,Kfh Kda (by decide) bg bx,cx.2⟩
       have hP:=Pairs.of (R:=fun (h:Hd3) (s:Ser)=>SerAt wr h s/\h.s.n=s.samples.length/\h.w.n=s.windows.length) hM.rows.len (fun i h hi=>by
        have a:=hM.rows.at_ i h hi;have b:=hM.rows.sers i h hi
        exact ⟨b,b.s.len.symm,b.w.len.symm⟩)
       have dd:∀i,i < (gs.map Kaz).length->(gs.map Kaz)[i]!.samples.length<=137438953472/\(gs.map Kaz)[i]!.windows.length<=137438953472:=fun i hi=>by
        have dt:i < gs.length:=by simpa using hi
        rw[i9 _ i hi,eN,<-i9 gs i dt];have h1:=Kyi gs[i]!;have h2:=Kjb dt;have:=ak.out;omega
       have hx:∀h∈hs,szH h:=fun h hh=>by obtain ⟨i,hi⟩:=List.mem_iff_getElem?.1 hh;obtain ⟨_,h1,h2⟩:=hP.at_ i h hi;have h3:=dd i (by rw[<-hM.rows.len];exact (List.getElem?_eq_some_iff.1 hi).1);unfold szH;omega
       have cj:m<=cV:=by
        rcases bg.2 with ⟨e,_⟩ | ⟨g',cap',cur',e,_,_,h3,_⟩
        .cases e
        .injection e with _ _ e4;subst e4;exact h3
       refine (Kur (cap:=cV) R (by simpa using bx) (by omega) hs hx wr bx cj (SWK.start R.hH)).mono ?_;rintro e w' ⟨rfl,zs,z1,z2,z3⟩;have dp:=SWK.by z3
       refine ⟨_,_,_,rfl,?_,?_,hM.b0.grown dp hM.b0.size (fun k hk=>by injection hk with hk;have:=aX.out;omega)⟩
       .have d7:(hs.filter goodH).length<=m:=by rw[<-bx];exact eG _ _
        obtain ⟨mm,os,rfl⟩:=z3;have ho:=Kfk Kda (by decide) bg bx zs.toArray (by simpa using z1) mm os;have h4:=Knt ho d7
        rw[show (zs.toArray.toList.flatMap encH3).take ((hs.filter goodH).length*3)=(hs.filter goodH).flatMap encH3 by
         have dY:zs=zs.take (hs.filter goodH).length++zs.drop (hs.filter goodH).length:=(ec _ _).symm;rw[show zs.toArray.toList=zs by simp]
         conv=>lhs;rw[dY]
         rw[eJ,eO (by rw[Kdh Kda,z2]),z2]] at h4
        obtain ⟨A9,c9,e9,hE,_,_⟩:=Elems.of_own (xs:=hs.filter goodH) (fun x _=>Kda x) rfl h4 rfl;injection e9 with e9 _ _;rw[<-e9] at hE
        have dL:=hM.rows.frame dp (fun r e=>by
         injection e with e;subst e;obtain ⟨cu,c7⟩:=Kax bg (r:=g) rfl
         exact ⟨_,cu,c7,by decide,by decide,by decide⟩)
        have d4:=Pairs.of (R:=fun (h:Hd3) (s:Ser)=>SerAt (sortWorldK encH3 3 wr g 0 mm zs.toArray os) h s/\h.s.n=s.samples.length/\h.w.n=s.windows.length) dL.len (fun i h hi=>by
         have b:=dL.sers i h hi
         exact ⟨b,b.s.len.symm,b.w.len.symm⟩)
        have dO:=d4.filter (f:=goodH) (g:=Kam) (fun h s ⟨_,h1,h2⟩=>by unfold goodH Kam;rw[h1,h2]);rw[dB];exact ⟨hs.filter goodH,hE,dO.len.symm,fun i h hi=>(dO.at_ i h hi).1⟩
       .exact eA (by rw[<-bx];exact eG _ _) cj
     have cQ:Hid (Stab (ltOf cfM) xs ys):=dT.out;clear hM HM;go_wp2_with fail
     refine cX.out.mono ?_;rintro e9 w9 ⟨A',n',c',rfl,h1,h2,h3⟩;have HR:=Jh (And.intro h1 (And.intro h2 h3));clear h1 h2 h3;go_wp2_with fail
     go_ret
     exact ⟨ys,A',n',c',rfl,cQ.out,HR.out.1,HR.out.2.1,HR.out.2.2⟩
end
end
end Go.Proofs.YtdoiekknhnbepaaGreatDoor
