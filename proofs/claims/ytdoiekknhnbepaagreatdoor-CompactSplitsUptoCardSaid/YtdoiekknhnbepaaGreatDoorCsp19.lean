/- Merged (what the claim wants of): CLawS, BlkD, CProofSF, CProofS. -/
import Derived.Test.YtdoiekknhnbepaaGreatDoorCsp18
import Derived.Test.YtdoiekknhnbepaaGreatDoorCsp20
import Derived.Test.YtdoiekknhnbepaaGreatDoorCards
import Derived.Test.YtdoiekknhnbepaaGreatDoorTie
import Derived.Deep.DeepWitnessRowRef
import Derived.Lib.LaidTab
import Derived.Stop.LaidTwo
set_option linter.unusedVariables false
set_option linter.unusedSimpArgs false
set_option maxRecDepth 1000000
set_option linter.ambiguousOpen false
set_option maxHeartbeats 8000000
namespace Go.Proofs.YtdoiekknhnbepaaGreatDoor
open List renaming getElem?_eq_getElem->a4,mem_cons->a5,nodup_append->a6,getD_eq_getElem?_getD->a7,pairwise_cons->a9
open Act renaming put->ba
open Ending renaming returned->bb
open Go.Proofs.Tryz
open List renaming mem_cons_self->aX,mem_cons_of_mem->aY,append_nil->a8
open Nat renaming lt_of_lt_of_le->aZ
section
open Go.Shelf Go.RowKit Go.Lib Go.Sort
open Lib renaming hid -> Jh
open List renaming setIfInBounds_toArray -> Ja, set_cons_zero -> Jb, set_cons_succ -> Jc
attribute [local go_sem ↓] Go.wp_at_zero Go.wp_at_succ
attribute [local go_sem] Later.cell
section
theorem Qih {L:List Ser} (hb:∀s∈L,(∀x∈s.samples,x.v < 2 ^ 64)/\∀x∈s.windows,Kcm x) (hm:(L.map Ser.mass).sum<=1048576):SSz L:=by have h:=Krv L;have h2:=Kjw L;exact ⟨by omega,by omega,by omega,Qiz hb hm⟩
theorem Qcc {width:Int} {ts L L':List Int} (h:Kcd width ts L) (h':Kcd width ts L'):L=L':=by
 have ac:∀{A B:List Int},(A.Pairwise fun a b=>a < b)->(B.Pairwise fun a b=>a < b)->(∀x,x∈A↔x∈B)->A=B:=by
  intro A
  induction A with
  | nil=>intro B _ _ hm;exact (List.eq_nil_iff_forall_not_mem.2 fun x hx=>by simpa using (hm x).2 hx).symm
  | cons a A ih=>
   intro B hA hB hm
   cases B with
   | nil=>exact jl ((hm a).1 (aX ..)) (by simp)
   | cons b B=>
    have aa:=a9.1 hA;have ab:=a9.1 hB
    have e:a=b:=by
     rcases a5.1 ((hm a).1 (aX ..)) with h1 | h1
     .exact h1
     .rcases a5.1 ((hm b).2 (aX ..)) with h2 | h2
      .exact h2.symm
      .have:=ab.1 a h1;have:=aa.1 b h2;omega
    subst e;refine jk _ (ih aa.2 ab.2 fun x=>⟨fun hx=>?_,fun hx=>?_⟩)
    .rcases a5.1 ((hm x).1 (aY _ hx)) with h1 | h1
     .have:=aa.1 x hx;omega
     .exact h1
    .rcases a5.1 ((hm x).2 (aY _ hx)) with h1 | h1
     .have:=ab.1 x hx;omega
     .exact h1
 exact ac h.asc h'.asc fun x=>(h.mem x).trans (h'.mem x).symm
theorem Ksk {res width:Int} {all:List Ser} {w w':World} {e:Ending} (h:Kha res width all w e w'):∃(A:Option Addr) (n c:Nat) (er:Int),e = .returned (.tuple #[.slice A n c,.int .i64 er]):=by
 rcases h.1 with ⟨_,h⟩ | ⟨_,_,h⟩ | ⟨_,_,L,_,⟨_,h⟩ | ⟨_,A,n,c,xs,h,_⟩⟩
 .exact ⟨none,0,0,100,h⟩
 .exact ⟨none,0,0,190,h⟩
 .exact ⟨none,0,0,190,h⟩
 .exact ⟨A,n,c,0,h⟩
theorem Qbz {res width:Int} {all:List Ser} {w1 w1' w2 w2':World} {A1 A2:Option Addr} {n1 n2 c1 c2:Nat} {er1 er2:Int} (h1:Kha res width all w1 (.returned (.tuple #[.slice A1 n1 c1,.int .i64 er1])) w1') (h2:Kha res width all w2 (.returned (.tuple #[.slice A2 n2 c2,.int .i64 er2])) w2') :
  er2=er1/\n2=n1/\n1<=1048576/\∃(cs:List Cont) (xs ys:List CH),Kbz w1' A1 n1 xs cs/\Kbz w2' A2 n1 ys cs:=by
 have ac:∀w,Kbz w none 0 [] []:=fun w=>⟨Elems.nil_,rfl,fun i x h=>by simp at h,fun c h=>by simp at h,by omega⟩
 have aa:∀{A A':Option Addr} {n n' c c':Nat} {e e':Int},bb (.tuple #[.slice A n c,.int .i64 e]) = .returned (.tuple #[.slice A' n' c',.int .i64 e'])->A=A'/\n=n'/\c=c'/\e=e':=fun h=>by have h:=h;simp at h;exact ⟨h.1.1,h.1.2.1,h.1.2.2,h.2⟩
 have ab:∀{A A':Option Addr} {n n' c c':Nat} {e e':Int} {er:Int},bb (.tuple #[.slice A n c,.int .i64 e]) = .returned (.tuple #[.slice none 0 0,.int .i64 er])->bb (.tuple #[.slice A' n' c',.int .i64 e']) = .returned (.tuple #[.slice none 0 0,.int .i64 er])->
   e'=e/\n'=n/\n<=1048576/\∃(cs:List Cont) (xs ys:List CH),Kbz w1' A n xs cs/\Kbz w2' A' n ys cs:=fun h h'=>by
  obtain ⟨rfl,rfl,rfl,rfl⟩:=aa h;obtain ⟨rfl,rfl,rfl,rfl⟩:=aa h';exact ⟨rfl,rfl,by omega,[],[],[],ac _,ac _⟩
 rcases h1.1 with ⟨a1,g1⟩ | ⟨a1,a2,g1⟩ | ⟨a1,a2,L,hL,k1⟩
 .rcases h2.1 with ⟨b1,g2⟩ | ⟨b1,b2,g2⟩ | ⟨b1,b2,L',hL',k2⟩
  .exact ab g1 g2
  .exact jl b1 a1
  .exact jl b1 a1
 .rcases h2.1 with ⟨b1,g2⟩ | ⟨b1,b2,g2⟩ | ⟨b1,b2,L',hL',k2⟩
  .exact jl a1 b1
  .exact ab g1 g2
  .exact jl b2 a2
 .rcases h2.1 with ⟨b1,g2⟩ | ⟨b1,b2,g2⟩ | ⟨b1,b2,L',hL',k2⟩
  .exact jl a1 b1
  .exact jl a2 b2
  .obtain rfl:=Qcc hL hL';rcases k1 with ⟨f1,g1⟩ | ⟨f1,B1,m1,d1,xs,g1,hx,_⟩
   .rcases k2 with ⟨f2,g2⟩ | ⟨f2,B2,m2,d2,ys,g2,hy,_⟩
    .exact ab g1 g2
    .rw[f1] at f2;cases f2
   .rcases k2 with ⟨f2,g2⟩ | ⟨f2,B2,m2,d2,ys,g2,hy,_⟩
    .rw[f1] at f2;cases f2
    .obtain ⟨rfl,rfl,rfl,rfl⟩:=aa g1;obtain ⟨rfl,rfl,rfl,rfl⟩:=aa g2;have hn:n2=n1:=by rw[<-hx.l,<-hy.l]
     subst hn;exact ⟨rfl,rfl,hx.n,_,xs,ys,hx,hy⟩
theorem Kkg (res width:Int) (A:Option Addr) (n c:Nat) (ss:List Ser) (w:World) (hS:Sers w A n ss) (hc:n<=c) (hz:SSz ss) (hE:BEnv w) :
  Calls prog 5 #[.int .i64 res,.int .i64 width,.slice A n c] w fun e w'=>e = .returned (.bool true)/\Below w.heap.size w w':=by
 have HS:=Jh hS;have HZ:=Jh hz;have HE:=Jh hE;have ao:=Jh (Kmw res width A n c ss w hS hc hz hE);clear hS hc hz hE;go_enter func5,ntmps5
 go_wp2_with fail
 refine ao.out.mono ?_;rintro e1 w1 aa;obtain ⟨A1,n1,cX,er,rfl⟩:=Ksk aa;have aG:=Jh aa;have aA:Hid (Below w.heap.size w w1):=aa.2;have ae:=HZ.out.ok (HS.out.below aa.2);have aV:Hid (ss.length=n):=ae.s.len;have aK:=Jh (Kgm ss A n c w1 ae.s (by have:=ae.n;have:=ae.s.len;omega) ae.sz);clear aa ae ao;go_wp2_with fail
 refine aK.out.mono ?_;rintro _ w2 ⟨A2,c2,hs,rfl,hl,am,an,ai⟩;have az:=Ksh hl aV.out am an;have aw:Hid (Below w.heap.size w w2):=aA.out.trans (ai.mono aA.out.size);have ac:=Jh ai;have ao:=Jh (Kwk res width A2 n c2 ss w2 az.1 az.2 HZ.out);clear hl am an az ai aK;go_wp2_with fail
 refine ao.out.mono ?_;rintro e2 w3 ab;obtain ⟨A3,n3,cY,er3,rfl⟩:=Ksk ab;obtain ⟨he,hn,hN,cs,xs,ys,hx,hy⟩:=Qbz aG.out ab;have he:=he.symm;subst he;have hn:=hn.symm;subst hn;have av:Hid (Below w.heap.size w w3):=aw.out.trans (ab.2.mono aw.out.size);have aB:Hid (Kbz w3 A1 n1 xs cs):=hx.below (ac.out.trans (ab.2.mono ac.out.size));have ax:Hid (Kbz w3 A3 n1 ys cs):=hy;have aF:=Jh (Kty w3 (HE.out.below av.out));have aW:(er != er)=false:=by simp
 clear ab hx hy ao aG aA aw ac;obtain ⟨N,aJ⟩:=i7 n1;rw[<-aJ] at aB ax hN |-;clear aJ;have aP:((N:Int) != (N:Int))=false:=by simp
 go_wp2_with fail
 refine aF.out.mono ?_;rintro _ wb ⟨rfl,ar⟩;have aM:Hid (Below w.heap.size w wb):=av.out.trans (ar.mono av.out.size);have HX:Hid (Kbz wb A1 N xs cs):=aB.out.below ar;have HY:Hid (Kbz wb A3 N ys cs):=ax.out.below ar;have aL:Hid (Below wb.heap.size wb wb):=Below.refl _ _;clear ar aB ax aF av;go_wp2_with fail
 clear aW aP;go_loopg [43] N (fun kx s43 wr=>∃i:Nat,s43 = .int .i64 (i:Int)/\i+kx=N/\Hid (Below wb.heap.size wb wr))
 case atStart=>exact ⟨0,rfl,by omega,aL⟩
 case round=>
  clear aL;obtain ⟨i,rfl,hi,HB⟩:=hrel;rcases Nat.lt_or_ge i N with hlt | hge
  .have aT:(i:Int) < (N:Int):=by omega
   have hX:=HX.out.below HB.out;have hY:=HY.out.below HB.out;obtain ⟨b1,o1,aR,aE,al⟩:=hX.e.2 (by omega);obtain ⟨b2,o2,aQ,ai,ak⟩:=hY.e.2 (by omega);obtain ⟨x,hx⟩:∃x,xs[i]? = some x:=⟨xs[i]'(by rw[hX.e.len];exact hlt),a4 _⟩;obtain ⟨y,hy⟩:∃y,ys[i]? = some y:=⟨ys[i]'(by rw[hY.e.len];exact hlt),a4 _⟩;obtain ⟨x1,x2,x3,x4,x5⟩:=hX.k i x hx;obtain ⟨y1,y2,y3,y4,y5⟩:=hY.k i y hy;obtain ⟨cc,aH⟩:=i7 (cs[i]!);rw[<-aH] at x1 x2 x3 x4 y1 y2 y3 y4;obtain ⟨xr,xf,xt,⟨hA,af,ap⟩⟩:=x;obtain ⟨yr,yf,yt,⟨ah,ag,aj⟩⟩:=y;dsimp only at x1 x2 x3 x4 y1 y2 y3 y4;obtain rfl:xr=yr:=by rw[<-x1,y1]
   obtain rfl:xf=yf:=by rw[<-x2,y2]
   obtain rfl:xt=yt:=by rw[<-x3,y3]
   have a0:wr.cell? ⟨b1,o1+i*4,none⟩=some (.int .i64 xr):=al i _ hx 0 _ rfl;have a1:wr.cell? ⟨b1,o1+i*4+1,none⟩=some (.int .i64 xf):=al i _ hx 1 _ rfl;have a2:wr.cell? ⟨b1,o1+i*4+2,none⟩=some (.int .i64 xt):=al i _ hx 2 _ rfl;have a3:wr.cell? ⟨b1,o1+i*4+3,none⟩=some (.slice hA af ap):=al i _ hx 3 _ rfl;have c0:wr.cell? ⟨b2,o2+i*4,none⟩=some (.int .i64 xr):=ak i _ hy 0 _ rfl;have c1:wr.cell? ⟨b2,o2+i*4+1,none⟩=some (.int .i64 xf):=ak i _ hy 1 _ rfl;have c2:wr.cell? ⟨b2,o2+i*4+2,none⟩=some (.int .i64 xt):=ak i _ hy 2 _ rfl;have c3:wr.cell? ⟨b2,o2+i*4+3,none⟩=some (.slice ah ag aj):=ak i _ hy 3 _ rfl;have l1:b1 < wr.heap.size:=aE;have l2:b2 < wr.heap.size:=ai;have ay:Hid (Kcg wr hA af cc.series/\Kcg wr ah ag cc.series):=⟨x4,y4⟩
   have aN:Hid (∀W,Below wr.heap.size wr W->Calls prog 18 #[.agg #[.int .i64 xr,.int .i64 xf,.int .i64 xt,.slice hA af ap]] W fun e w'=>∃u,e = .returned u/\∃h':Hd,u = .agg #[.int .i64 xr,.int .i64 xf,.int .i64 xt,.slice h'.A h'.n h'.c]/\Kcg w' h'.A h'.n cc.series/\Below W.heap.size W w'):=fun W hw=>by have hs:=ay.out.1.below hw;have:=Kup cc ⟨hA,af,ap⟩ W hs;rw[x1,x2,x3] at this;refine this.mono ?_;rintro e w' ⟨⟨h',rfl,hr⟩,hb⟩;exact ⟨_,rfl,h',rfl,⟨hr.sers.1,hs.n,hs.z⟩,hb⟩
   have aI:Hid (∀(h':Hd) W,Below wr.heap.size wr W->Kcg W h'.A h'.n cc.series->Calls prog 17 #[.agg #[.int .i64 xr,.int .i64 xf,.int .i64 xt,.slice h'.A h'.n h'.c],.agg #[.int .i64 xr,.int .i64 xf,.int .i64 xt,.slice ah ag aj]] W fun e w'=>∃u,e = .returned u/\u = .bool true/\Below W.heap.size W w'):=fun h' W hw hs=>by have aO:=ay.out.2.below hw;have:=Kwc cc cc h' ⟨ah,ag,aj⟩ W hs aO;rw[jd rfl,x1,x2,x3] at this;refine this.mono ?_;rintro e w' ⟨rfl,hb⟩;exact ⟨_,rfl,rfl,hb⟩
   subst aR;subst aQ;clear hX hY al ak hx hy x1 x2 x3 x4 x5 y1 y2 y3 y4 y5 aH aE ai;go_upto_region 8 with fail
   refine Kcv (fun w'=>Below wr.heap.size wr w') 11 11 (by kernel_rfl) rfl ?_;rw[show Array.replicate 11 false = #[false,false,false,false,false,false,false,false,false,false,false] from rfl];have HS:Hid (Below wr.heap.size wr wr.drew):=(Below.refl _ _).drew;refine kP (i:=0) (v:=.slice (some ⟨b1,o1,none⟩) N cX) (d:=some 46) HS.out ?_;simp only[ba,Ja,Jb,Jc];refine kP (i:=1) (v:=.int .i64 (i:Int)) (d:=some 47) HS.out ?_;simp only[ba,Ja,Jb,Jc];refine kP (i:=5) (v:=.slice (some ⟨b2,o2,none⟩) N cY) (d:=some 51) HS.out ?_;simp only[ba,Ja,Jb,Jc];refine kP (i:=6) (v:=.int .i64 (i:Int)) (d:=some 52) HS.out ?_;simp only[ba,Ja,Jb,Jc];refine kP (i:=2) (v:=.pointer (some ⟨b1,o1+i*4,none⟩)) (d:=some 48) HS.out ?_;simp only[ba,Ja,Jb,Jc];refine kP (i:=7) (v:=.pointer (some ⟨b2,o2+i*4,none⟩)) (d:=some 53) HS.out ?_;simp only[ba,Ja,Jb,Jc]
   refine Kbm (i:=3) (v:=.agg #[.int .i64 xr,.int .i64 xf,.int .i64 xt,.slice hA af ap]) (d:=some 49) rfl rfl (by kernel_rfl) (by kernel_rfl) (by kernel_rfl) (by kernel_rfl) rfl (fun _ _ _ h=>h) (.inl ⟨by rfl,fun w' hw=>by
    have q0:=(hw.cell (p:=⟨b1,o1+i*4,none⟩) l1).trans a0;have q1:=(hw.cell (p:=⟨b1,o1+i*4+1,none⟩) l1).trans a1;have q2:=(hw.cell (p:=⟨b1,o1+i*4+2,none⟩) l1).trans a2;have q3:=(hw.cell (p:=⟨b1,o1+i*4+3,none⟩) l1).trans a3;have ql:=aZ l1 hw.size;go_simp
    try rfl⟩) HS.out ?_
   simp only[ba,Ja,Jb,Jc]
   refine Kbm (i:=8) (v:=.agg #[.int .i64 xr,.int .i64 xf,.int .i64 xt,.slice ah ag aj]) (d:=some 54) rfl rfl (by kernel_rfl) (by kernel_rfl) (by kernel_rfl) (by kernel_rfl) rfl (fun _ _ _ h=>h) (.inl ⟨by rfl,fun w' hw=>by
    have q0:=(hw.cell (p:=⟨b2,o2+i*4,none⟩) l2).trans c0;have q1:=(hw.cell (p:=⟨b2,o2+i*4+1,none⟩) l2).trans c1;have q2:=(hw.cell (p:=⟨b2,o2+i*4+2,none⟩) l2).trans c2;have q3:=(hw.cell (p:=⟨b2,o2+i*4+3,none⟩) l2).trans c3;have ql:=aZ l2 hw.size;go_simp
    try rfl⟩) HS.out ?_
   simp only[ba,Ja,Jb,Jc];refine Klx (i:=4) (by kernel_rfl) rfl (by rfl) ?_;refine Oper.wp_called (d:=some 50) (g:=18) (args:=#[.agg #[.int .i64 xr,.int .i64 xf,.int .i64 xt,.slice hA af ap]]) rfl (by go_simp;try rfl) (Jh (aN.out _ HS.out)).out ?_;rintro u w8 ⟨h',rfl,aD,aq⟩;have ad:=HS.out.trans (aq.mono HS.out.size);refine ⟨fun _=>ad,?_⟩;simp only[ba,Ja,Jb,Jc];clear HS;have HS:=Jh ad;clear ad;have aC:Hid (Kcg w8 h'.A h'.n cc.series):=aD;clear aD aq;obtain ⟨rA,rn,rc⟩:=h';refine Klx (i:=9) (by kernel_rfl) rfl (by rfl) ?_;refine Oper.wp_called (d:=some 55) (g:=17) (args:=#[.agg #[.int .i64 xr,.int .i64 xf,.int .i64 xt,.slice rA rn rc],.agg #[.int .i64 xr,.int .i64 xf,.int .i64 xt,.slice ah ag aj]]) rfl (by go_simp;try rfl) (Jh (aI.out ⟨rA,rn,rc⟩ _ HS.out aC.out)).out ?_;rintro u w9 ⟨rfl,aq⟩;have ad:=HS.out.trans (aq.mono HS.out.size);refine ⟨fun _=>ad,?_⟩;simp only[ba,Ja,Jb,Jc];clear HS;have HS:=Jh ad;clear ad;clear aq;refine kP (i:=10) (v:=.bool false) (d:=some 56) HS.out ?_;simp only[ba,Ja,Jb,Jc];refine Kcb (by kernel_rfl) ?_ _;have aS:Hid (Below wb.heap.size wb w9):=HB.out.trans (HS.out.mono HB.out.size);clear HS HB aC aN aI ay a0 a1 a2 a3 c0 c1 c2 c3 l1 l2;go_wp2_with fail
   go_roundg (N - (i+1))
   case measure=>omega
   case rel=>exact ⟨i+1,by first | rfl | go_num,by omega,aS⟩
  .have aT:¬(i:Int) < (N:Int):=by omega
   have aU:Hid (Below w.heap.size w wr):=aM.out.trans (HB.out.mono aM.out.size);clear HB;go_wp2_with fail
   go_ret
   exact ⟨rfl,aU.out⟩
end
end
section
open Go.ChangeShapes Go.WideShapes Go.ChangeAt Go.RowKit Go.ChangeMaps
theorem Kvj {P:Program} {W:World} {x:String×DataW Unit} {r:List (String×DataW Unit)} (h:laidMet P (x :: r) W):laidMet P r W:=by
 obtain ⟨ps,⟨g,t,cs,f,p,q,hg,ht,hv,hd,hr,e⟩,ab,aa⟩:=h;subst e;refine ⟨q,hr,?_,fun b off hm=>aa b off (by simp[hm])⟩
 first | exact (a6.1 ab).2.1 | exact (a6.1 (a6.1 ab).2.1).2.1
theorem Qcq {W:World} (h:laidMet prog Rows.blockBackRow.laid W):BEnv W:=by
 have h1:=Kvj h;have ab:Lib.TabIs prog W "math/bits.deBruijn64tab" .u8 (Lib.deBruijn64tab.map fun n:Nat=>(n:Int)):=Lib.tabIs_of_head (g:=2) (t:=348) (e:=5) (n:=64) (by kernel_rfl) (by kernel_rfl) (by kernel_rfl) (by kernel_rfl) (by kernel_rfl) (by kernel_rfl) h;have aa:Lib.TabIs prog W "almanac/enc.nibbles" .u32 [0,274646895,549293790,820201905,1098587580,1361435347,1640403810,1905808397,2197175160,2460548119,2722870694,2987750089,3280807620,3553878443,3811616794,4084100981]:=Lib.tabIs_of_head (g:=0) (t:=276) (e:=74) (n:=16) (by kernel_rfl) (by kernel_rfl) (by kernel_rfl) (by kernel_rfl) (by kernel_rfl) (by kernel_rfl) h1;refine ⟨fun i hi=>?_,fun i hi=>?_⟩
 .rw[aa.cell (by kernel_rfl) i hi];rcases (by omega:i=0\/i=1\/i=2\/i=3\/i=4\/i=5\/i=6\/i=7\/i=8\/i=9\/i=10\/i=11\/i=12\/i=13\/i=14\/i=15) with rfl | rfl | rfl | rfl | rfl | rfl | rfl | rfl | rfl | rfl | rfl | rfl | rfl | rfl | rfl | rfl <;> rfl
 .rw[ab.cell (by kernel_rfl) i (by rw[List.length_map];exact hi)];congr 2;rw[a7,List.getElem?_map,a7,a4 hi];rfl
def Qgb:DataW Unit->Array Value
 | .agg l=>(l.map fun | .lit (.int k v)=>Value.int k v | _=>undef).toArray
 | _=>#[]
noncomputable def Knf (os:Os):World:=
 let w0:=World.settled prog os
 let tab (h:Array Obj) (g:Nat) (d:DataW Unit):Array Obj:=h.modify g fun
  | .cells _ t frozen=>.cells (Qgb d) t frozen
  | o=>o
 { w0 with heap:=tab (tab w0.heap 2 Rows.laid_math_bits_deBruijn64tab) 0 Rows.laid_almanac_enc_nibbles }
theorem Qhj (os:Os) (args:Array Value):laidMet prog Rows.blockBackRow.laid ((Knf os).forCall (fun _ _=>0) ⟨#[],args,[]⟩).memory:=
 laidMet_of_run' 8 (by kernel_rfl) (by kernel_rfl)
theorem Qal:(Rows.compactSplitsUptoRow.inPlace == Tryz.pinned.checked.prog.inPlace 5)=true:=by kernel_rfl
theorem Qam:(Rows.compactSplitsUptoRow.unfollowed == Tryz.pinned.checked.prog.unfollowed 5)=true:=by kernel_rfl
theorem Qan:(Rows.compactSplitsUptoRow.recurses == Tryz.pinned.checked.prog.recurses 5)=true:=by kernel_rfl
theorem Qao:(Rows.compactSplitsUptoRow.named == Tryz.pinned.checked.prog.varsNamed 5)=true:=by kernel_rfl
theorem Ksw:joinedFacts Tryz.pinned.checked.prog 5 Tryz.f5 (Rows.OpenSpec.upto Rows.compactSplitsSpec).bare Rows.compactSplitsUptoRow=true:=by
 unfold joinedFacts;simp only[Bool.and_eq_true]
 repeat' apply And.intro
 all_goals first | with_reducible exact Qal | with_reducible exact Qam | with_reducible exact Qan | with_reducible exact Qao | kernel_rfl
theorem Ksy (os:Os) {H:Type} (enc:TypeId×Value->H):∃places,DataW.whole enc prog ((Knf os).forCall (fun _ _=>0) ⟨#[],#[.int .i64 0,.int .i64 0,.slice none 0 0],[]⟩).memory Tryz.f5.params.toList Rows.compactSplitsSpec.vars false #[Value.int .i64 0,.int .i64 0,.slice none 0 0].toList 8=some ([.lit (.int .i64 0),.lit (.int .i64 0),.nil],[],places):=
 ⟨[],by kernel_rfl⟩
theorem Kng (H:Type) (enc:TypeId×Value->H) (W:World) (base:Nat) (args:Array Value) (ds gs:List (DataW H)) (before:List MemPlace)
  (hval0:∀(j:Nat) t v,Tryz.f5.params[j]? = some t->args[j]? = some v->Value.okWide prog W .any base t v)
  (hW:DataW.Whole enc prog Tryz.f5.params.toList Rows.compactSplitsSpec.vars false W args.toList ds gs before) (hsz0:(DataW.weightsEach prog (Tryz.f5.params.toList++Rows.compactSplitsSpec.plain.varTypes prog) (ds++gs)).all (·<=reachBytes)=true) (hk0:Rows.uptoSmall H (ds++gs)=true) (hL:laidMetH prog Rows.compactSplitsRow.laid W) :
  Calls prog 5 args W fun e W'=>∃v,e = .returned v/\Rows.compactSplitsSpec.post enc prog Tryz.f5 false true false false W args v W':=by
 have aa:=hval0;have ad:=hW;have ai:=hsz0;obtain ⟨p,q,af,hV,rfl,_,_⟩:=hW;have hA:DataW.TrodAll enc prog W 0 (fun _=>true) true Tryz.f5.params.toList args.toList ds p:=af;rw[Tryz.params5] at hA aa ai;obtain ⟨v0,v1,v2,d0,d1,d2,p0,p1,p2,rfl,rfl,rfl,h0,h1,h2⟩:=trodAll_three hA;obtain ⟨rfl,rfl⟩:=trodVars_none hV;clear af hval0 hsz0;simp only[a8] at ad;simp only[a8] at hk0;have ac:=Qfj hk0;simp only[Rows.uptoBulkAll,Nat.add_zero] at ac;have ae:∀x∈p0++(p1++p2),x.block < W.heap.size:=fun x hx=>by simpa using ad.lt x (by simpa using hx)
 have ab:∀(W':World),Below W.heap.size W W'->DataW.TrodAll enc prog W' 0 (fun b=>decide (b < W.heap.size)) true [3,2,26] [v0,v1,v2] [d0,d1,d2] (p0++(p1++p2)):=
  fun W' hn=>trodAll_mk3 (Below.trod Tryz.laidOut (by kernel_rfl) (jh (by kernel_rfl)) h0 hn (fun x hx=>ae x (by simp[hx]))) (Below.trod Tryz.laidOut (by kernel_rfl) (jh (by kernel_rfl)) h1 hn (fun x hx=>ae x (by simp[hx]))) (Below.trod Tryz.laidOut (by kernel_rfl) (jh (by kernel_rfl)) h2 hn (fun x hx=>ae x (by simp[hx])))
 obtain ⟨z0,rfl,rfl,rfl,hz0⟩:=open_int underlying3 (aa 0 3 v0 rfl rfl) h0;obtain ⟨z1,rfl,rfl,rfl,hz1⟩:=open_int underlying2 (aa 1 2 v1 rfl rfl) h1;obtain ⟨fu2,aj⟩:=id h2;obtain ⟨x2,y2,z2,rfl⟩:=okWide_slice underlying26 (aa 2 26 v2 rfl rfl);obtain ⟨A2,n2,c2,L2,ag,ak,ah,al,hb2⟩:=Qbk aj;injection ag with x2e y2e z2e;subst x2e y2e z2e;have hE:=Qcq hL;refine (Kkg z0 z1 x2 y2 z2 L2 W ah ak (Qih al (by dsimp only at *;omega)) hE).mono fun e W' ⟨he,hb⟩=>?_
 subst he;exact ⟨_,rfl,_,_,_,[],_,[],ad,trodAll_mk1 (shut_bool underlying4 true),ab _ hb,rfl,hb.frame _,fun h=>by cases h⟩
theorem Kqd (os:Os) (started:os.Started) (H:Type) (enc:TypeId×Value->H) (F:Stop.Interp) :
  ReturnsInHanded {} Tryz.checked os 5 .any ((Rows.OpenSpec.upto Rows.compactSplitsSpec).preRow enc prog Tryz.f5 Rows.compactSplitsUptoRow.domain false Rows.compactSplitsUptoRow.laid) (((Rows.OpenSpec.upto Rows.compactSplitsSpec).at F).post enc prog Tryz.f5 false true false false):=by
 obtain ⟨aa,hx⟩:=Ksy os enc
 refine returnsInHanded_of_row (C:=Tryz.checked) (s:=Rows.OpenSpec.upto Rows.compactSplitsSpec) Tryz.own started (by kernel_rfl) func5
  (witness_row_atRef (enc:=enc) (C:=Tryz.checked) false (Knf os) #[.int .i64 0,.int .i64 0,.slice none 0 0] rfl (by kernel_rfl) (by kernel_rfl) (by kernel_rfl)
   (OpenSpec.preRow_of_cond 8 hx (by kernel_rfl) (fun k hk=>by cases hk;kernel_rfl) (by kernel_rfl) (Qhj os _))) ?_
 intro W base args ds gs before hval hW _ hcond hsz hL _ _;exact Kng H enc W base args ds gs before hval hW hsz (hcond _ rfl) hL
theorem Kuq:Rows.CompactSplitsUptoSaid:=
 OpenClaim.holds_of_cond 5 Tryz.f5 rfl rfl rfl rfl rfl rfl rfl ⟨rfl,rfl,rfl,rfl,rfl⟩ rfl rfl rfl rfl rfl (by kernel_rfl) func5 Ksw
  (jh (by kernel_rfl)) (by unfold Func.isWrapper;first | (rw[jf (by decide +kernel)];kernel_rfl) | (rw[je (by decide +kernel)];exact ⟨rfl,rfl⟩))
  (fun os started H enc _ F=>by rw[OpenClaim.pre_eq_preRow];exact Kqd os started H enc F)
theorem Ksx (f:FuncId) (fn:Func) (hf:Tryz.pinned.checked.prog.funcNamed "almanac/almanaclaw23.CompactSplits" = some f) (hfn:Tryz.pinned.checked.prog.funcs[f]? = some fn) :
  true = Tryz.pinned.checked.prog.looks []/\∀(j:Nat) t,fn.params[j]? = some t->Tryz.pinned.checked.prog.wantsStandIn t=false:=by
 obtain rfl:f = 5:=Option.some.inj ((show prog.funcNamed "almanac/almanaclaw23.CompactSplits" = some 5 by kernel_rfl).symm.trans hf) |>.symm;obtain rfl:fn = Tryz.f5:=(Option.some.inj (func5.symm.trans hfn)).symm;refine ⟨by kernel_rfl,fun j t ht=>?_⟩;rw[Tryz.params5] at ht;have hm:t = 3\/t = 2\/t = 26:=by simpa using Array.mem_of_getElem? ht
 rcases hm with rfl | rfl | rfl
 .exact (show prog.wantsStandIn 3 = false by kernel_rfl)
 .exact (show prog.wantsStandIn 2 = false by kernel_rfl)
 .exact (show prog.wantsStandIn 26 = false by kernel_rfl)
theorem compactSplits_holds:Rows.CompactSplitsUptoCardSaid:=
 Claim7.holds_tied_plain_at .later [] _ _ _ _ Kuq (fun _ h=>by cases h) (by kernel_rfl) (fun _ h=>by cases h) compactSplitsUpto_row_tie rfl ⟨rfl,rfl⟩ (by kernel_rfl) rfl Ksx (by kernel_rfl)
end
end Go.Proofs.YtdoiekknhnbepaaGreatDoor
