/- Merged (what the claim wants of): CSplit, CmpOpen, CmpBox, CompactW, CLawA, CBackP, RFstP, RFirst, RTaken. -/
import Derived.Test.YtdoiekknhnbepaaGreatDoorCsp14
set_option linter.unusedVariables false
set_option linter.unusedSimpArgs false
set_option maxRecDepth 1000000
set_option linter.ambiguousOpen false
set_option maxHeartbeats 8000000
namespace Go.Proofs.YtdoiekknhnbepaaGreatDoor
open List renaming getElem?_eq_getElem->cf,getElem?_eq_some_iff->ch,getElem?_cons_zero->cj,mem_map->ck,mem_append->cl,mem_singleton->cm,mem_filter->cn,mem_cons->cp,all_eq_false->cq,range->ct
open Act renaming put->cv
open Oper renaming wp_skipped->cx,wp_ran->cy,wp_called->cF
open Cont renaming series->cS
open World renaming setCell->cV,ownsRow_nil->cW
open Option.some renaming injEq->cX
open Smp renaming t->cY
open Blk renaming new->cZ,newAt->c0
open Wnd renaming start->c6
open Ser renaming mass->c8
open Exit renaming inBlock->c9
open Go.Proofs.Tryz
open Nat renaming le_refl->ce,le_trans->cz,lt_or_ge->cA,lt_of_lt_of_le->cB,le_succ->cC,eq_zero_or_pos->cE
open List renaming take_of_length_le->cg,mem_of_getElem?->ci,take_add_one->cr,map_append->cD,drop_eq_getElem_cons->cG,flatMap_singleton->cH,flatMap_append->cJ,mem_singleton->cK,mem_cons_self->cL,append_assoc->cM,length_take->cN,any_eq_true->cO,all_append->cP,any_append->cR
open Int renaming emod_add_mul_ediv->co,mul_le_mul_of_nonneg_left->cw,le_refl->cI
open _root_.Array renaming replicate->cQ
open Bool renaming and_false->cT,false_and->cU
section
open Go.Shelf Go.RowKit Go.Lib Go.Sort
open Lib renaming hid -> Jh
open List renaming length_append -> Jd
attribute [local go_sem ↓] Go.wp_at_zero Go.wp_at_succ
attribute [local go_sem] Later.cell
section
structure SSz (l:List Ser):Prop where
 n:l.length<=1048576
 m:sumS l<=1048576
 k:labsN l<=349525
 z:∀s∈l,SerSz s
theorem SSz.sub {l out:List Ser} (h:SSz l) (hs:SubS l out):SSz out:=by refine ⟨cz hs.n h.n,cz hs.m h.m,cz hs.k h.k,?_⟩;exact (CSz.of_sub (r:=0) (f:=0) (t:=0) hs h.z h.n h.m h.k).z
theorem SSz.csz {l:List Ser} (h:SSz l) (r f t:Int):CSz ⟨r,f,t,l⟩:=⟨h.n,by have h1:=h.m;rw[Kjw] at h1;exact h1,h.k,h.z⟩
theorem SSz.sersz {w:World} {A:Option Addr} {n:Nat} {l:List Ser} (h:SSz l) (hs:Sers w A n l):SersZ w A n l:=by have hn:=h.n;refine ⟨hs,fun s hm=>?_,by rw[<-hs.len];omega⟩;have h1:=Khi hm;have h2:=h.m;exact ⟨(h.z s hm).l,by omega,by omega⟩
theorem SSz.ok {w:World} {A:Option Addr} {n:Nat} {l:List Ser} (h:SSz l) (hs:Sers w A n l):Kcg w A n l:=⟨hs,by have:=h.n;omega,h.z⟩
def allF (res:Int) (ss:List Ser):List Ser:=Kck res [] (Kaf ss)
def clipF (a b:Int) (l:List Ser):List Ser:=keptF (fun _ x=>inR a b x.t) (fun _ x=>inR a b x.start) l
def Kay (res width:Int) (l:List Ser) (f:Int):Cont:=⟨res,f,min (f+width) 1125899906842625,clipF f (min (f+width) 1125899906842625 - 1) l⟩
theorem Kzf (res:Int) (ss:List Ser):SubS ss (allF res ss):=(Khe ss).trans (Qeq res [] _)
theorem Kvw {T:TypeId} {w:World} {A:Option Addr} {n c:Nat} {ss:List Ser} (h:Sers w A n ss) (hc:n<=c) (hz:∀s∈ss,s.labels.length<=1099511627776) {w1:World} (hw1:w1=w.alloc (.cells #[.slice A n c] T)) :
  Lists w1 (some ⟨w.heap.size,0,none⟩) 1 [⟨A,n,c⟩] [ss]:=by
 have hb:Below w.heap.size w w1:=by rw[hw1];exact (Below.refl _ _).alloc (ce _) _
 have hB:Blk w1 w.heap.size T #[.slice A n c]:=by rw[hw1];exact cZ _ _ _
 refine ⟨⟨rfl,fun _=>⟨w.heap.size,0,rfl,hB.lt,fun i x hx j v hv=>?_⟩⟩,rfl,fun i hd hi=>?_,fun L hL s hs=>?_⟩
 .cases i with
  | zero=>
   simp only[cj,cX] at hx;subst hx;rw[hB.cell];simpa[Kfe] using hv
  | succ i=>simp at hx
 .cases i with
  | zero=>
   simp only[cj,cX] at hi;subst hi;exact ⟨h.below hb,hc⟩
  | succ i=>simp at hi
 .rw[cK] at hL;subst hL;exact hz s hs
theorem Ksm {width:Int} (hw:1<=width) {ts L:List Int} (h:Kcd width ts L) {x:Int} (hx:x∈L):0<=x/\x<=1125899906842624:=by obtain ⟨t,ht,rfl⟩:=ck.1 ((h.mem x).1 hx);have:=Kdp.1 (cn.1 ht).2;have:=Kiw t width this.1 hw;omega
theorem Kpo {width:Int} {ts L:List Int} (h:Kcd width ts L):L.length<=ts.length:=by refine cz (Kid L (Kbv width ts) ?_ fun x hx=>(h.mem x).1 hx) (Keu width ts);exact h.asc.imp fun hab e=>by omega
theorem Qaz:(prog.info? 28).map (fun i=>(i.zero,i.size,i.bytes))=some (some (.agg #[.int .i64 0,.int .i64 0,.int .i64 0,.slice none 0 0]),4,48):=by kernel_rfl
structure Gath (w:World) (q:Nat) (v:Value) (xs:List CH) (cs:List Cont):Prop where
 row:w.ownsRow q 28 4 v xs.length (xs.flatMap encCH)
 l:cs.length=xs.length
 k:∀(i:Nat) (x:CH),xs[i]? = some x->(cs[i]!.res=x.r/\cs[i]!.frm=x.f/\cs[i]!.to_=x.t)/\SSz cs[i]!.series/\∃B,Kbk w B x.h.A x.h.n x.h.c cs[i]!.series
theorem Gath.nil (w:World) (q:Nat):Gath w q (.slice none 0 0) [] []:=⟨cW _ _ _ _,rfl,fun i x h=>by simp at h⟩
theorem Gath.below {w w':World} {q:Nat} {v:Value} {xs:List CH} {cs:List Cont} (h:Gath w q v xs cs) (hb:Below w.heap.size w w'):Gath w' q v xs cs:=
 ⟨Kbb h.row hb,h.l,fun i x hi=>⟨(h.k i x hi).1,(h.k i x hi).2.1,by obtain ⟨B,h1⟩:=(h.k i x hi).2.2;exact ⟨B,h1.below hb⟩⟩⟩
theorem Gath.more {w w':World} {q:Nat} {v v':Value} {xs:List CH} {cs:List Cont} (h:Gath w q v xs cs) (hg:w.grownBy w' v.ownBlock) {x:CH} {c:Cont} (hrow:w'.ownsRow q 28 4 v' (xs.length+1) (xs.flatMap encCH++encCH x))
  (h1:c.res=x.r/\c.frm=x.f/\c.to_=x.t) (h2:SSz c.series) {B:Nat} (h3:Kbk w B x.h.A x.h.n x.h.c c.series):Gath w' q v' (xs ++ [x]) (cs ++ [c]):=by
 have aa:∀{B:Nat} {A:Option Addr} {n k:Nat} {L:List Ser},Kbk w B A n k L->Kbk w' B A n k L:=fun {B A n k L} h0=>h0.grown hg fun r e=>by obtain ⟨ab,hc⟩:=Kax h.row e;exact ⟨_,ab,hc,by decide,by decide,by decide,by decide⟩
 refine ⟨by rw[Jd,cJ,cH];exact hrow,by rw[Jd,Jd,h.l];rfl,fun i y hi=>?_⟩
 by_cases hl:i < xs.length
 .rw[List.getElem?_append_left hl] at hi
  have e:(cs ++ [c])[i]! = cs[i]!:=by rw[i9 _ _ (by rw[Jd,h.l];omega),i9 cs i (by rw[h.l];exact hl),List.getElem_append_left]
  rw[e];obtain ⟨a1,a2,B2,a3⟩:=h.k i y hi;exact ⟨a1,a2,B2,aa a3⟩
 .have ac:i=xs.length:=by
   have:=(ch.1 hi).1;rw[Jd,List.length_singleton] at this;omega
  subst ac;rw[List.getElem?_append_right (ce _),Nat.sub_self] at hi;simp only[cj,cX] at hi;subst hi
  have e:(cs ++ [c])[xs.length]! = c:=by rw[<-h.l,i9 _ _ (by rw[Jd];simp),List.getElem_append_right (ce _)];simp
  rw[e];exact ⟨h1,h2,B,aa h3⟩
theorem Gath.conts {w:World} {q n c:Nat} {A:Option Addr} {xs:List CH} {cs:List Cont} (h:Gath w q (.slice A n c) xs cs) (hn:xs.length=n) (hz:n<=1048576):Kbz w A n xs cs/\n<=c:=by
 obtain ⟨A1,c1,e1,hE,_,hc⟩:=Elems.of_own (xs:=xs) (enc:=encCH) (fun _ _=>rfl) rfl h.row rfl;injection e1 with e1 e2 e3;subst e1 e3;rw[hn] at hE hc;refine ⟨⟨hE,by rw[h.l,hn],fun i x hi=>?_,fun c hc=>?_,hz⟩,hc⟩
 .obtain ⟨a1,a2,B,a3⟩:=h.k i x hi;exact ⟨a1.1,a1.2.1,a1.2.2,a2.ok a3.sers.1,a3.sers.2⟩
 .obtain ⟨i,hi,rfl⟩:=List.getElem_of_mem hc;obtain ⟨x,hx⟩:∃x,xs[i]? = some x:=⟨xs[i]'(by rw[<-h.l];exact hi),cf _⟩;have:=(h.k i x hx).2.1;rw[i9 cs i hi] at this;exact this.csz _ _ _
def Kha (res width:Int) (all:List Ser) (w:World) (e:Ending) (w':World):Prop:=
   ((¬(1<=width/\width<=1099511627776)/\e = .returned (.tuple #[.slice none 0 0,.int .i64 100]))\/
    ((1<=width/\width<=1099511627776)/\¬(0<=res/\res < 3)/\e = .returned (.tuple #[.slice none 0 0,.int .i64 190]))\/
    ((1<=width/\width<=1099511627776)/\(0<=res/\res < 3)/\∃L,Kcd width (Kak all) L/\
     ((((L.map (Kay res width all)).all fitB=false)/\e = .returned (.tuple #[.slice none 0 0,.int .i64 190]))\/
     (((L.map (Kay res width all)).all fitB=true)/\∃(A':Option Addr) (n' c':Nat) (xs:List CH),e = .returned (.tuple #[.slice A' n' c',.int .i64 0])/\Kbz w' A' n' xs (L.map (Kay res width all))/\n'<=c'))))/\Below w.heap.size w w'
theorem Kmw (res width:Int) (A:Option Addr) (n c:Nat) (ss:List Ser) (w:World) (hS:Sers w A n ss) (hc:n<=c) (hz:SSz ss) (hE:BEnv w) :
  Calls prog 20 #[.int .i64 res,.int .i64 width,.slice A n c] w (Kha res width (allF res ss) w):=by
 by_cases hw:1<=width/\width<=1099511627776
 .have am:Kbn 0 width=(0,0):=by rw[Kbn,je (by omega),je (by omega)];simp
  have ac:Hid (∀W,Calls prog 49 #[.int .i64 0,.int .i64 width] W fun e w'=>e = .returned (.tuple #[.int .i64 0,.int .i64 0])/\w'=W):=fun W=>by have:=Kfv 0 width W;rw[am] at this;exact this
  have HW:=Jh hw;clear am
  by_cases hr:0<=res/\res < 3
  .obtain ⟨aE,aN⟩:=hr;have bn:=hw.1;have aQ:=hw.2;have HR:Hid (0<=res/\res < 3):=⟨aE,aN⟩;have HS:=Jh hS;have HZ:=Jh hz;have HE:=Jh hE;obtain ⟨all,ae⟩:=i7 (allF res ss);have aX:Hid (all=Kck res [] (Kaf ss)):=ae;have ao:Hid (SSz all):=by show SSz _;rw[ae];exact hz.sub (Kzf res ss)
   rw[<-ae]
   have bd:Hid (Calls prog 24 #[.slice (some ⟨w.heap.size,0,none⟩) 1 1] (w.alloc (.cells #[.slice A n c] 26)) fun e w'=>∃(A':Option Addr) (n' c':Nat),e = .returned (.slice A' n' c')/\Sers w' A' n' (Kaf ss)/\n'<=c'/\Below (w.alloc (.cells #[.slice A n c] 26)).heap.size (w.alloc (.cells #[.slice A n c] 26)) w'):=by
    have:=Krw (some ⟨w.heap.size,0,none⟩) 1 1 [⟨A,n,c⟩] [ss] (Kvw (T:=26) hS hc (fun s hs=>(hz.z s hs).l) rfl) (by decide) (by simp;have:=hz.n;omega) (by simp;have:=hz.m;omega);show Calls _ _ _ _ _
    simpa using this
   have aR:Hid (Below w.heap.size w (w.alloc (.cells #[.slice A n c] 26))):=(Below.refl _ _).alloc (ce _) _;clear hS hz hE ae hw;go_enter func20,ntmps20
   go_wp2_with fail
   refine (ac.out _).mono ?_;rintro _ w1 ⟨rfl,aa⟩;have aa:=aa.symm;subst aa;clear ac;go_wp2_with fail
   refine bd.out.mono ?_;rintro _ w2 ⟨A2,n2,c2,rfl,bb,bN,bo⟩;have be:Hid (SersZ w2 A2 n2 (Kaf ss)):=(HZ.out.sub (Khe ss)).sersz bb;have aV:Hid (Below w.heap.size w w2):=aR.out.trans (bo.mono aR.out.size);clear bb bN bo aR bd;go_wp2_with fail
   refine (Kmx res A2 n2 c2 (Kaf ss) none 0 0 [] w2 be.out ⟨Elems.nil_,fun x hx=>by simp at hx,by omega⟩).mono ?_;rintro _ w3 ⟨A3,n3,c3,rfl,aY,bC,bg⟩;rw[<-aX.out] at aY;have a3:Hid (Sers w3 A3 n3 all):=aY;have a0:Hid (Below w.heap.size w w3):=aV.out.trans (bg.mono aV.out.size);clear aY bC bg aV be;go_wp2_with fail
   refine (Kwp width HW.out A3 n3 c3 all w3 (ao.out.sersz a3.out) (by have:=ao.out.m;omega)).mono ?_;rintro _ w4 ⟨A4,n4,c4,L,rfl,hL,bm,bx,_,aW⟩;have HL:=Jh hL;have a9:=Jh bm;have bG:=Jh bx;have bF:Hid (Sers w4 A3 n3 all):=a3.out.below aW;have al:Hid (Below w.heap.size w w4):=a0.out.trans (aW.mono a0.out.size)
   have hn4:n4<=1048576:=by have h1:=Kpo hL;have h2:=ao.out.m;rw[Keq] at h1;omega
   have HG:Hid (Gath w4 w4.heap.size (.slice none 0 0) [] ((L.take 0).map (Kay res width all))):=Gath.nil _ _;have ai:Hid (((L.take 0).map (Kay res width all)).all fitB=true):=rfl;have bz:Hid (Below w4.heap.size w4 w4):=Below.refl _ _;clear hL bm bx aW a3 a0;go_wp2_with fail
   go_loopg [11,41] n4 (fun kx s11 s41 wr=>∃(i:Nat) (xs:List CH),s41 = .int .i64 (i:Int)/\i+kx=n4/\Hid (xs.length=i)/\Hid (Below w4.heap.size w4 wr)/\Hid (Gath wr w4.heap.size s11 xs ((L.take i).map (Kay res width all)))/\Hid (((L.take i).map (Kay res width all)).all fitB=true))
   case atStart=>exact ⟨0,[],rfl,by omega,rfl,bz,HG,ai⟩
   case round=>
    clear bz HG ai;obtain ⟨i,xs,rfl,hi,aA,HB,HG,ai⟩:=hrel;obtain ⟨A7,c7,bi⟩:=Kag HG.out.row;rw[aA.out] at bi;subst bi;rcases cA i n4 with hlt | hge
    .have bH:(i:Int) < (n4:Int):=by omega
     obtain ⟨b0,ax,bE,aM,bf⟩:=bG.out.2 (by omega);obtain ⟨f,hf⟩:∃f,L[i]? = some f:=⟨L[i]'(by rw[a9.out];exact hlt),cf _⟩;have aP:f∈L:=ci hf;obtain ⟨hf1,hf2⟩:=Ksm bn HL.out aP
     have k0:wr.cell? ⟨b0,ax+i,none⟩=some (.int .i64 f):=by have:=(HB.out.cell (p:=⟨b0,ax+i*1+0,none⟩) aM).trans (bf i f hf 0 _ rfl);simpa using this
     have bL:b0 < wr.heap.size:=cB aM HB.out.size;obtain ⟨cc,aC⟩:=i7 (Kay res width all f)
     have a8:Hid ((L.take (i+1)).map (Kay res width all)=(L.take i).map (Kay res width all) ++ [cc]):=by
      show _=_
      rw[cr,hf,cD,aC];rfl
     obtain ⟨to_,aL⟩:=i7 (min (f+width) 1125899906842625);have ad:Hid (cc.res=res/\cc.frm=f/\cc.to_=to_/\cc.series=clipF f (to_ - 1) all):=by show _/\_;rw[aC,aL];exact ⟨rfl,rfl,rfl,rfl⟩
     have bD:f < to_/\to_<=1125899906842625:=by omega
     have bA:Hid (cc∈L.map (Kay res width all)):=by show _∈_;rw[aC];exact List.mem_map_of_mem aP
     have aH:Hid (SSz cc.series):=by show SSz _;rw[ad.out.2.2.2];exact ao.out.sub (Kjl _ _ all)
     have bv:Hid (∀W,Below wr.heap.size wr W->Calls prog 23 #[.slice A3 n3 c3,.int .i64 f,.int .i64 (to_ - 1)] W fun e w'=>∃(A':Option Addr) (n' c':Nat),e = .returned (.slice A' n' c')/\Kbk w' W.heap.size A' n' c' cc.series/\n'<=c'/\Below W.heap.size W w'):=fun W hW=>by rw[ad.out.2.2.2];exact Kvs f (to_ - 1) A3 n3 c3 all W (ao.out.sersz ((bF.out.below HB.out).below hW))
     have bk:Hid (BEnv wr):=HE.out.below (al.out.trans (HB.out.mono al.out.size));subst bE;clear bf aM hf aP aC;go_upto_region 11 with fail
     clear k0 bL;have bB:Hid (min (f+width) 1125899906842625=to_):=aL.symm;clear aL;go_upto_region 12 with fail
     try rw[bB.out]
     go_wp2_with fail
     refine (bv.out wr (Below.refl _ _)).mono ?_;rintro _ w5 ⟨A5,n5,c5,rfl,aB,bI,aF⟩;have a1:Hid (Below w4.heap.size w4 w5):=HB.out.trans (aF.mono HB.out.size);have bs:Hid (Gath w5 w4.heap.size (.slice A7 i c7) xs ((L.take i).map (Kay res width all))):=HG.out.below aF;have aw:Hid (BEnv w5):=bk.out.below aF;obtain ⟨w6,aI⟩:=i7 (w5.alloc (.cells #[.int .i64 res,.int .i64 f,.int .i64 to_,.slice A5 n5 c5] 28));obtain ⟨p6,a4⟩:=i7 w5.heap.size;have ap:Below w5.heap.size w5 w6:=by rw[aI];exact (Below.refl _ _).alloc (ce _) _
     have ag:Hid (Blk w6 p6 28 #[.int .i64 res,.int .i64 f,.int .i64 to_,.slice A5 n5 c5]):=by show Blk _ _ _ _;rw[aI,a4];exact cZ _ _ _
     have aO:Hid (Below w4.heap.size w4 w6):=a1.out.trans (ap.mono a1.out.size);have bh:Hid (Gath w6 w4.heap.size (.slice A7 i c7) xs ((L.take i).map (Kay res width all))):=bs.out.below ap;have aj:Hid (Kbk w6 wr.heap.size A5 n5 c5 cc.series):=aB.below ap;obtain ⟨er,a7⟩:∃er:Int,er=(if fitB cc=true then (0:Int) else 190):=⟨_,rfl⟩
     have bq:Hid (Calls prog 19 #[.agg #[.int .i64 res,.int .i64 f,.int .i64 to_,.slice A5 n5 c5]] w6 fun e w'=>(∃S0 S1 S2,e = .returned (.tuple #[.agg #[.string S0,.string S1,.string S2],.int .i64 er]))/\Below w6.heap.size w6 w'):=by have:=Kuf cc A5 n5 c5 w6 (aH.out.ok aj.out.sers.1) (aH.out.csz cc.res cc.frm cc.to_) (aw.out.below ap);rw[ad.out.1,ad.out.2.1,ad.out.2.2.1,<-a7] at this;refine this.mono ?_;rintro e w' ⟨⟨S0,S1,S2,he,_⟩,hb⟩;exact ⟨⟨S0,S1,S2,he⟩,hb⟩
     have aK:Hid (w6=w5.alloc (.cells #[.int .i64 res,.int .i64 f,.int .i64 to_,.slice A5 n5 c5] 28)/\p6=w5.heap.size):=⟨aI,a4⟩;have aJ:=Jh a7;clear aB bI aF aI a4 ap a7 HB HG bk bv a1 bs aw;go_upto_region 13 with fail
     try rw[<-aK.out.1]
     try rw[<-aK.out.2]
     clear aK;have z0:=ag.out.cell 0;have z1:=ag.out.cell 1;have z2:=ag.out.cell 2;have z3:=ag.out.cell 3;simp at z0 z1 z2 z3;have zl:=ag.out.lt;go_wp2_with fail
     refine bq.out.mono ?_;rintro _ w7 ⟨⟨S0,S1,S2,rfl⟩,a6⟩;clear z0 z1 z2 z3 zl bq;obtain ⟨w8,aS⟩:=i7 (w7.alloc (.cells #[.string S0,.string S1,.string S2] 44));have ay:Below w6.heap.size w6 w8:=by rw[aS];exact a6.alloc a6.size _
     have ak:Hid (Blk w8 p6 28 #[.int .i64 res,.int .i64 f,.int .i64 to_,.slice A5 n5 c5]):=ag.out.below ay ag.out.lt;have aG:Hid (Below w4.heap.size w4 w8):=aO.out.trans (ay.mono aO.out.size);have bw:Hid (Gath w8 w4.heap.size (.slice A7 i c7) xs ((L.take i).map (Kay res width all))):=bh.out.below ay;have aq:Hid (Kbk w8 wr.heap.size A5 n5 c5 cc.series):=aj.out.below ay;have bc:=Jh aS;clear a6 aS ay ag aO bh aj;go_upto_region 14 with fail
     try rw[<-bc.out]
     clear bc
     cases hfit:fitB cc with
     | false=>
      obtain rfl:er=190:=by rw[aJ.out,hfit];rfl
      have an:Hid ((L.map (Kay res width all)).all fitB=false):=cq.2 ⟨cc,bA.out,by rw[hfit];simp⟩;clear hfit aJ;go_wp2_with fail
      go_ret2
      exact ⟨.inr (.inr ⟨HW.out,HR.out,L,HL.out,.inl ⟨an.out,rfl⟩⟩),al.out.trans (aG.out.mono al.out.size)⟩
     | true=>
      obtain rfl:er=0:=by rw[aJ.out,hfit];rfl
      have aT:Hid (((L.take (i+1)).map (Kay res width all)).all fitB=true):=by
       show _=_
       rw[a8.out,cP,ai.out];simp[hfit]
      clear hfit aJ ai;have z0:=ak.out.cell 0;have z1:=ak.out.cell 1;have z2:=ak.out.cell 2;have z3:=ak.out.cell 3;simp at z0 z1 z2 z3;have zl:=ak.out.lt;obtain ⟨i1,ba,br,bj,bl⟩:=info_parts Qaz;obtain ⟨wa,ar⟩:=i7 (w8.alloc (.cells #[.int .i64 res,.int .i64 f,.int .i64 to_,.slice A5 n5 c5] 28));have aD:Below w8.heap.size w8 wa:=by rw[ar];exact (Below.refl _ _).alloc (ce _) _
      have af:Blk wa w8.heap.size 28 #[.int .i64 res,.int .i64 f,.int .i64 to_,.slice A5 n5 c5]:=by rw[ar];exact cZ _ _ _
      have aZ:Hid (Gath wa w4.heap.size (.slice A7 i c7) xs ((L.take i).map (Kay res width all))):=bw.out.below aD;have ab:wa.ownsRow w4.heap.size 28 4 (.slice A7 i c7) i (xs.flatMap encCH):=by have:=aZ.out.row;rw[aA.out] at this;exact this
      have av:Hid (Kbk wa wr.heap.size A5 n5 c5 cc.series):=aq.out.below aD;have aU:Hid (Below w4.heap.size w4 wa):=aG.out.trans (aD.mono aG.out.size);have a5:w4.heap.size<=wa.heap.size:=aU.out.size;have ah:=Jh ab;clear aD ak bw aq aG;go_wp2_with (at_builtin;(try rw[<-ar]);refine wpList_append_own_at _ rfl _ _ 23 rfl w4.heap.size 28 i1 (.agg #[.int .i64 0,.int .i64 0,.int .i64 0,.slice none 0 0]) 4 48 underlying23 ba br bj bl rfl (by decide) (.slice A7 i c7) i _ rfl ab ⟨w8.heap.size,0,none⟩ 1 1 [.int .i64 res,.int .i64 f,.int .i64 to_,.slice A5 n5 c5] rfl rfl (Kao (l:=[.int .i64 res,.int .i64 f,.int .i64 to_,.slice A5 n5 c5]) af) ?p2 ?p3 ?p4 ?p5 ?_)
      case p2=>intro u hu;simp only[cp,List.not_mem_nil,or_false] at hu;rcases hu with rfl | rfl | rfl | rfl <;> rfl
      case p3=>unfold maxLen;omega
      case p4=>omega
      case p5=>exact a5
      intro v9 w9 hown' hgrow _ _;rw[<-ar] at hgrow;have bM:Hid (Below w4.heap.size w4 w9):=aU.out.grown hgrow a5 (fun k hk=>(ah.out.lt k hk).1)
      have bt:Hid (Gath w9 w4.heap.size v9 (xs ++ [⟨res,f,to_,⟨A5,n5,c5⟩⟩]) ((L.take (i+1)).map (Kay res width all))):=by
       show Gath _ _ _ _ _
       rw[a8.out];exact aZ.out.more hgrow (x:=⟨res,f,to_,⟨A5,n5,c5⟩⟩) (by rw[aA.out];exact hown') ⟨ad.out.1,ad.out.2.1,ad.out.2.2.1⟩ aH.out av.out
      have az:Hid ((xs ++ [(⟨res,f,to_,⟨A5,n5,c5⟩⟩:CH)]).length=i+1):=by show _=_;rw[Jd,aA.out];rfl
      generalize xs ++ [(⟨res,f,to_,⟨A5,n5,c5⟩⟩:CH)]=xs9 at bt az;clear hown' hgrow ab af ah aU av aZ ar a5 z0 z1 z2 z3 zl ba br bj bl a8 ad bA aH;go_wp2_with fail
      go_roundg (n4 - (i+1))
      case measure=>omega
      case rel=>exact ⟨i+1,xs9,by first | rfl | go_num,by omega,az,bM,bt,aT⟩
    .have bH:¬(i:Int) < (n4:Int):=by omega
     have bJ:i=n4:=by omega
     have bp:L.take i=L:=cg (by rw[a9.out];omega);rw[bp] at HG ai;have HF:Hid (Kbz wr A7 n4 xs (L.map (Kay res width all))/\n4<=c7):=by have h0:=HG.out.conts aA.out (by omega);rw[bJ] at h0;exact h0
     clear bp HG bn aQ aE aN;go_wp2_with fail
     go_ret2
     exact ⟨.inr (.inr ⟨HW.out,HR.out,L,HL.out,.inr ⟨ai.out,A7,n4,c7,xs,rfl,HF.out.1,HF.out.2⟩⟩),al.out.trans (HB.out.mono al.out.size)⟩
  .have a2:=Jh hr;clear hS hz hE hw;rcases (by omega:res < 0\/0<=res) with aE | aE
   .go_enter func20,ntmps20
    go_wp2_with fail
    refine (ac.out _).mono ?_;rintro _ w1 ⟨rfl,aa⟩;have aa:=aa.symm;subst aa;clear ac;go_wp2_with fail
    go_ret2
    exact ⟨.inr (.inl ⟨HW.out,a2.out,rfl⟩),Below.refl _ _⟩
   .have aN:3<=res:=by have:=a2.out;omega
    clear hr;go_enter func20,ntmps20
    go_wp2_with fail
    refine (ac.out _).mono ?_;rintro _ w1 ⟨rfl,aa⟩;have aa:=aa.symm;subst aa;clear ac;go_wp2_with fail
    go_ret2
    exact ⟨.inr (.inl ⟨HW.out,a2.out,rfl⟩),Below.refl _ _⟩
 .have am:Kbn 0 width=(0,100):=by rw[Kbn,jf (by omega)]
  have ac:Hid (∀W,Calls prog 49 #[.int .i64 0,.int .i64 width] W fun e w'=>e = .returned (.tuple #[.int .i64 0,.int .i64 100])/\w'=W):=fun W=>by have:=Kfv 0 width W;rw[am] at this;exact this
  have bK:=Jh hw;clear am hS hz hE hw;go_enter func20,ntmps20
  go_wp2_with fail
  refine (ac.out _).mono ?_;rintro _ w1 ⟨rfl,aa⟩;have aa:=aa.symm;subst aa;clear ac;go_wp2_with fail
  go_ret2
  exact ⟨.inl ⟨bK.out,rfl⟩,Below.refl _ _⟩
end
end
section
open Go.ChangeShapes Go.WideShapes Go.ChangeAt Go.RowKit Go.Deep
instance gonePI:Inhabited (Hd4×GoneP):=⟨(⟨⟨none,0,0⟩,⟨none,0,0⟩,⟨none,0,0⟩,⟨none,0,0⟩⟩,⟨[],fun _=>[]⟩)⟩
instance spnI:Inhabited Spn:=⟨⟨0,0⟩⟩
instance chCI:Inhabited (CH×Cont):=⟨(⟨0,0,0,⟨none,0,0⟩⟩,⟨0,0,0,[]⟩)⟩
section
variable {H : Type} {enc : TypeId × Value -> H} {w : World} {base : Nat} {spare : Nat -> Bool} {held : Bool}
theorem Qbk {fuel:Nat} {v:Value} {x:DataW H×List MemPlace} (h:DataW.trod enc prog w base spare held fuel 26 [v]=some x) :
  ∃A n c L,v = .slice A n c/\n<=c/\Sers w A n L/\(∀s∈L,(∀x∈s.samples,x.v < 2 ^ 64)/\∀x∈s.windows,Kcm x)/\(L.map c8).sum+1<=Rows.uptoBulk x.1:=by
 obtain ⟨A,n,c,hs,rfl,_,h2,h3,ds,sp,hx,hl,hQ⟩:=Kif (ea:=encH3) (Q:=fun d y=>∃s,SerIn w y s/\c8 s<=Rows.uptoBulk d) underlying26 Krh (by omega) (fun _=>rfl) (fun _ _ _ h=>Qge h) h;have hn:=h3.len
 obtain ⟨f,hf⟩:=choose_lt (α:=Ser) (n:=n) (p:=fun i s=>∀d y,ds[i]? = some d->hs[i]? = some y->SerIn w y s/\c8 s<=Rows.uptoBulk d) (by
  intro i hi;have h1:i < hs.length:=by omega
  have h4:i < ds.length:=by omega
  obtain ⟨l,hl'⟩:=hQ i ds[i] hs[i] (cf h4) (cf h1);refine ⟨l,fun d y hd hy=>?_⟩;rw[cf h4] at hd;rw[cf h1] at hy;injection hd with hd;injection hy with hy;subst hd hy
  exact hl')
 have hS:Sers w A n ((ct n).map f):=⟨hs,h3,by simp,fun i y hy=>by
  have hi:i < n:=by have:=(ch.1 hy).1;omega
  have h4:i < ds.length:=by omega
  obtain ⟨a1,a2⟩:=hf i hi ds[i] y (cf h4) hy;rw[i9 _ i (by simpa using hi)]
  simpa using a1.at_⟩
 refine ⟨A,n,c,(ct n).map f,rfl,h2,hS,fun s hs9=>?_,?_⟩
 .obtain ⟨i,hi,rfl⟩:=ck.1 hs9;have hi:i < n:=List.mem_range.1 hi;have h1:i < hs.length:=by omega
  have h4:i < ds.length:=by omega
  obtain ⟨a1,a2⟩:=hf i hi ds[i] hs[i] (cf h4) (cf h1);exact ⟨a1.v,a1.b⟩
 .refine Kjg c8 hx (by simp;omega) fun i d l hd hl'=>?_
  have hi:i < n:=by have:=(ch.1 hl').1;simpa using this
  have e:f i=l:=by simpa[hi] using hl'
  have h1:i < hs.length:=by omega
  rw[<-e];exact (hf i hi d hs[i] hd (cf h1)).2
theorem Qiz {L:List Ser} (hb:∀s∈L,(∀x∈s.samples,x.v < 2 ^ 64)/\∀x∈s.windows,Kcm x) (hm:(L.map c8).sum<=1048576):∀s∈L,SerSz s:=fun s hs=>by have h5:=Qaa c8 hs;have h7:massL s.labels+s.samples.length+s.windows.length+2<=(L.map c8).sum:=h5;have h6:=Kru s.labels;refine ⟨by omega,by omega,by omega,(hb s hs).1,(hb s hs).2,fun y hy=>?_⟩;have:=Qdu hy;omega
end
end
section
open Go.Shelf Go.RowKit Go.Lib Go.Sort
section
variable {T E : TypeId} {q : Nat} {w wr w' : World} {v v' : Value} {hs : List Hd} {r f t : Int}
structure RC (T E:TypeId) (q:Nat) (w wr:World) (v:Value) (hs:List Hd) (r f t:Int):Prop where
 b:Below q w wr
 qb:Blk wr q T #[.int .i64 0,.int .i64 0,.int .i64 0,.slice none 0 0]
 o:Blk wr (q+1) T #[.int .i64 r,.int .i64 f,.int .i64 t,.slice none 0 0]
 r:wr.ownsRow (q+2) E 1 v hs.length (hs.flatMap Kfe)
 z:q+2<=wr.heap.size
theorem RC.below (h:RC T E q w wr v hs r f t) (hb:Below wr.heap.size wr w'):RC T E q w w' v hs r f t:=
 ⟨h.b.trans (hb.mono (by have:=h.z;omega)),h.qb.below hb h.qb.lt,h.o.below hb h.o.lt,Kbb h.r hb,cz h.z hb.size⟩
theorem RC.setF (hT:T≠E) (h:RC T E q w wr v hs r f t) (x:Int):RC T E q w (wr.setCell ⟨q+1,1,none⟩ (.int .i64 x)) v hs r x t:=
 ⟨h.b.setCell (p:=⟨q+1,1,none⟩) (cC q) _,h.qb.far (p:=⟨q+1,1,none⟩) (by show q≠q+1;omega) _,h.o.set_ 1 _,Kbt h.r h.o hT,by simpa[cV] using h.z⟩
theorem RC.setT (hT:T≠E) (h:RC T E q w wr v hs r f t) (x:Int):RC T E q w (wr.setCell ⟨q+1,2,none⟩ (.int .i64 x)) v hs r f x:=
 ⟨h.b.setCell (p:=⟨q+1,2,none⟩) (cC q) _,h.qb.far (p:=⟨q+1,2,none⟩) (by show q≠q+1;omega) _,h.o.set_ 2 _,Kbt h.r h.o hT,by simpa[cV] using h.z⟩
theorem RC.setR (hT:T≠E) (h:RC T E q w wr v hs r f t) (x:Int):RC T E q w (wr.setCell ⟨q+1,0,none⟩ (.int .i64 x)) v hs x f t:=
 ⟨h.b.setCell (p:=⟨q+1,0,none⟩) (cC q) _,h.qb.far (p:=⟨q+1,0,none⟩) (by show q≠q+1;omega) _,h.o.set_ 0 _,Kbt h.r h.o hT,by simpa[cV] using h.z⟩
theorem RC.more (hT:T≠E) (h:RC T E q w wr v hs r f t) {x:Hd} (hg:wr.grownBy w' v.ownBlock) (hrow:w'.ownsRow (q+2) E 1 v' (hs.length+1) (hs.flatMap Kfe++Kfe x)):RC T E q w w' v' (hs ++ [x]) r f t:=
 ⟨h.b.grown hg (by have:=h.z;omega) (fun k hk=>by have:=(h.r.lt k hk).1;omega),h.qb.grown hg (Kan h.qb h.r hT),h.o.grown hg (Kan h.o h.r hT),by rw[List.length_append,cJ,cH];exact hrow,cz h.z hg.size⟩
theorem RC.setN (hT:T≠E) (h:RC T E q w wr v hs r f t):RC T E q w (wr.setCell ⟨q+1,3,none⟩ (.slice none 0 0)) v hs r f t:=
 ⟨h.b.setCell (p:=⟨q+1,3,none⟩) (cC q) _,h.qb.far (p:=⟨q+1,3,none⟩) (by show q≠q+1;omega) _,h.o.set_ 3 _,Kbt h.r h.o hT,by simpa[cV] using h.z⟩
theorem Koc (h:Below q w wr) (a b c d:Value):Below q w ((((wr.setCell ⟨q,0,none⟩ a).setCell ⟨q,1,none⟩ b).setCell ⟨q,2,none⟩ c).setCell ⟨q,3,none⟩ d):=
 (((h.setCell (p:=⟨q,0,none⟩) (ce _) _).setCell (p:=⟨q,1,none⟩) (ce _) _).setCell (p:=⟨q,2,none⟩) (ce _) _).setCell (p:=⟨q,3,none⟩) (ce _) _
end
end
section
theorem Qdy {t width:Int} (hw:1<=width):(t - t % width) % width=0:=by
 have h1:=co t width;have e:t - t % width=width*(t / width):=by omega
 rw[e];exact Int.mul_emod_right _ _
theorem Qgc {t width:Int} (hw:1<=width):t < t - t % width+width:=by have:=Int.emod_lt_of_pos t (show 0 < width by omega);omega
theorem Qcb {width:Int} (hw:1<=width) {ts L:List Int} (hL:Kcd width ts L) {f g:Int} (hf:f∈L) (hg:g∈L) (h:f < g):f+width<=g:=by
 have aa:∀{f:Int},f∈L->f % width=0:=fun {f} hf=>by obtain ⟨t,ht,rfl⟩:=ck.1 ((hL.mem f).1 hf);exact Qdy hw
 have h1:=aa hf;have h2:=aa hg;have e1:f=width*(f / width):=by have:=co f width;omega
 have e2:g=width*(g / width):=by have:=co g width;omega
 have h3:f / width < g / width:=by
  refine Int.not_le.1 fun hle=>?_
  have:=cw hle (show 0<=width by omega);omega
 have h4:width*(f / width+1)<=width*(g / width):=cw (by omega) (by omega);rw[Int.mul_add,Int.mul_one] at h4;omega
def Kat (ts:List Int) (a r:Int):Prop:=
 (r = -1/\∀t∈ts,¬(a<=t/\t<=1125899906842624))\/(r∈ts/\(a<=r/\r<=1125899906842624)/\∀t∈ts,a<=t->t<=1125899906842624->r<=t)
theorem Kat.nil (a:Int):Kat [] a (-1):=.inl ⟨rfl,fun t h=>by simp at h⟩
theorem Kat.take {ts:List Int} {a r t:Int} (h:Kat ts a r) (h1:a<=t) (h2:t<=1125899906842624) (h3:r < 0\/t < r) (ha:0<=a):Kat (ts ++ [t]) a t:=by
 refine .inr ⟨by simp,⟨h1,h2⟩,fun u hu hu1 hu2=>?_⟩;rcases cl.1 hu with hu | hu
 .rcases h with ⟨_,h⟩ | ⟨_,h4,h⟩
  .exact jl ⟨hu1,hu2⟩ (h u hu)
  .have:=h u hu hu1 hu2;omega
 .rw[cm.1 hu];exact cI _
theorem Kat.skip {ts:List Int} {a r t:Int} (h:Kat ts a r) (h1:¬(a<=t/\t<=1125899906842624)\/(¬r < 0/\¬t < r)):Kat (ts ++ [t]) a r:=by
 rcases h with ⟨rfl,h⟩ | ⟨hm,h4,h⟩
 .refine .inl ⟨rfl,fun u hu=>?_⟩;rcases cl.1 hu with hu | hu
  .exact h u hu
  .rw[cm.1 hu];omega
 .refine .inr ⟨List.mem_append_left _ hm,h4,fun u hu hu1 hu2=>?_⟩;rcases cl.1 hu with hu | hu
  .exact h u hu hu1 hu2
  .rw[cm.1 hu] at hu1 hu2 |-;omega
theorem Qca {s t width:Int} (hw:1<=width) (h:s<=t):s - s % width<=t - t % width:=by have h1:=co s width;have h2:=co t width;have h3:s / width<=t / width:=Int.ediv_le_ediv (by omega) h;have h4:width*(s / width)<=width*(t / width):=cw h3 (by omega);omega
theorem Klp {width:Int} {ts L:List Int} (hL:Kcd width ts L) {t:Int} (ht:t∈ts) (hi:inT t=true):t - t % width∈L:=
 (hL.mem _).2 (ck.2 ⟨t,cn.2 ⟨ht,hi⟩,rfl⟩)
theorem Knc {L:List Int} (h:L.Pairwise fun a b=>a < b) {i:Nat} {f x:Int} (hf:L[i]? = some f) (hx:x∈L):(f < x↔x∈L.drop (i+1))/\(f<=x↔x∈L.drop i):=by
 have hl:=(ch.1 hf).1;have ac:=(ch.1 hf).2
 have e:L=L.take i++f :: L.drop (i+1):=by conv=>lhs;rw[<-List.take_append_drop i L,cG hl,ac]
 have e2:L.drop i=f :: L.drop (i+1):=by rw[cG hl,ac]
 rw[e] at h hx;obtain ⟨h1,h2,h3⟩:=List.pairwise_append.1 h;have h4:=List.pairwise_cons.1 h2;rw[e2];have ab:x∈L.take i->x < f:=fun hm=>h3 x hm f (cL ..)
 have aa:x∈L.drop (i+1)->f < x:=fun hm=>h4.1 x hm
 rcases cl.1 hx with hx | hx
 .have:=ab hx;refine ⟨⟨fun h=>by omega,aa⟩,⟨fun h=>by omega,fun hm=>?_⟩⟩;rcases cp.1 hm with rfl | hm
  .exact cI _
  .exact Int.le_of_lt (aa hm)
 .rcases cp.1 hx with rfl | hx
  .exact ⟨⟨fun h=>by omega,aa⟩,⟨fun _=>cL ..,fun _=>cI _⟩⟩
  .have:=aa hx;exact ⟨⟨fun _=>hx,fun _=>this⟩,⟨fun _=>List.mem_cons_of_mem _ hx,fun _=>Int.le_of_lt this⟩⟩
def Kgz (width:Int) (ts L:List Int) (i:Nat) (a:Int):Prop:=∀t∈ts,inT t=true->(a<=t↔t - t % width∈L.drop i)
theorem Qat {width:Int} {ts L:List Int} (hL:Kcd width ts L):Kgz width ts L 0 0:=fun t ht hi=>
 ⟨fun _=>Klp hL ht hi,fun _=>(Kdp.1 hi).1⟩
theorem Qdj {width:Int} (hw:1<=width) {ts L:List Int} (hL:Kcd width ts L) {i:Nat} {f:Int} (hf:L[i]? = some f):Kgz width ts L (i+1) (min (f+width) 1125899906842625):=fun t ht hi=>by
 have hM:=(Kdp.1 hi).2;have hs:=Klp hL ht hi;have h1:=Qgc (t:=t) hw;have h2:=Kiw t width (Kdp.1 hi).1 hw;rw[<-(Knc hL.asc hf hs).1];refine ⟨fun h=>?_,fun h=>?_⟩
 .omega
 .have:=Qcb hw hL (ci hf) hs h;omega
theorem Qhi {width:Int} (hw:1<=width) {ts L:List Int} (hL:Kcd width ts L) {i:Nat} {a r:Int} (ha:0<=a) (hfrom:Kgz width ts L i a) (hr:Kat ts a r) :
  (∃f,L[i]? = some f/\0<=r/\r<=1125899906842624/\f=r - r % width)\/(L.length<=i/\r = -1):=by
 rcases cA i L.length with hi | hi
 .obtain ⟨f,hf⟩:∃f,L[i]? = some f:=⟨L[i],cf hi⟩;obtain ⟨t,ht,ad⟩:=ck.1 ((hL.mem f).1 (ci hf));obtain ⟨ab,ac⟩:=cn.1 ht;have ag:f∈L.drop i:=(Knc hL.asc hf (ci hf)).2.1 (cI _);have af:a<=t:=(hfrom t ab ac).2 (by rw[show t - t % width=f from ad];exact ag);have ae:=(Kdp.1 ac).2;rcases hr with ⟨_,h⟩ | ⟨hm,h4,h⟩
  .exact jl ⟨af,ae⟩ (h t ab)
  .have aa:inT r=true:=Kdp.2 ⟨by omega,h4.2⟩;have h5:=(hfrom r hm aa).1 h4.1;have h6:=(Knc hL.asc hf (Klp hL hm aa)).2.2 h5;have h7:=Qca hw (h t ab af ae);have h8:t - t % width=f:=ad;exact .inl ⟨f,hf,by omega,h4.2,by omega⟩
 .rcases hr with ⟨rfl,_⟩ | ⟨hm,h4,_⟩
  .exact .inr ⟨hi,rfl⟩
  .have aa:inT r=true:=Kdp.2 ⟨by omega,h4.2⟩;have h5:=(hfrom r hm aa).1 h4.1;rw[List.drop_eq_nil_of_le hi] at h5;simp at h5
end
section
open Go.Shelf Go.RowKit Go.Lib Go.Sort
attribute [local go_sem ↓] Go.wp_at_zero Go.wp_at_succ
attribute [local go_sem] Later.cell
section
theorem Kwg (width a:Int) (ha:0<=a) (hw1:1<=width) (hw2:width<=1099511627776) (A:Option Addr) (n c:Nat) (ss:List Ser) (w0:World) (h:SersZ w0 A n ss) :
  Calls prog 51 #[.slice A n c,.int .i64 width,.int .i64 a] w0 fun e w'=>(∃r,e = .returned (.int .i64 (if r < 0 then -1 else r - r % width))/\Kat (Kak ss) a r)/\w'=w0:=by
 obtain ⟨aq,hE,ao,ar⟩:=h.s;have HE:=Lib.hid hE;have ap:=Lib.hid ao;have aA:=Lib.hid ar;have HZ:=Lib.hid h.z;have hn:=h.n;have HI:Hid (Kat (Kak (ss.take 0)) a (-1)):=Kat.nil a;clear hE ao ar h;go_enter func51,ntmps51
 go_wp2_with fail
 go_loopg [7,8] n (fun kx s7 s8 wr=>∃(i:Nat) (b:Int),s8 = .int .i64 (i:Int)/\s7 = .int .i64 b/\i+kx=n/\Hid (Kat (Kak (ss.take i)) a b)/\wr=w0)
 case atStart=>exact ⟨0,-1,rfl,rfl,by omega,HI,rfl⟩
 case round=>
  clear HI;obtain ⟨i,b,rfl,rfl,hi,HI,hw⟩:=hrel;have hw:=hw.symm;subst hw;rcases cA i n with hlt | hge
  .have az:(i:Int) < (n:Int):=by omega
   obtain ⟨b0,ae,aE,hb0,aj⟩:=HE.out.2 (by omega);obtain ⟨hd,hh⟩:∃h,aq[i]? = some h:=⟨aq[i]'(by rw[HE.out.len];exact hlt),cf _⟩;obtain ⟨s,ai⟩:∃s,ss[i]! = s:=⟨_,rfl⟩;have ac:=aA.out i hd hh;rw[ai] at ac;have al:ss[i]? = some s:=by rw[<-ai,i9 ss i (by rw[ap.out];exact hlt)];exact cf _
   have ax:=HZ.out s (ci al);obtain ⟨⟨lA,ln,lc⟩,⟨sA,sn,sc⟩,⟨wA,wn,wc⟩⟩:=hd;have ah:Hid (Elems w0 w0.heap.size 2 Kac sA sn s.samples):=ac.s;have ag:Hid (Elems w0 w0.heap.size 6 Kad wA wn s.windows):=ac.w;have av:sn<=137438953472:=by have:=ah.out.len;omega
   have an:wn<=137438953472:=by have:=ag.out.len;omega
   have aB:Hid (Kak (ss.take (i+1))=Kak (ss.take i)++s.samples.map cY++s.windows.map c6):=by show _=_;rw[cr,al];exact Kmy _ _
   have k1:w0.cell? ⟨b0,ae+i*3+1,none⟩=some (.slice sA sn sc):=aj i _ hh 1 _ rfl;have k2:w0.cell? ⟨b0,ae+i*3+2,none⟩=some (.slice wA wn wc):=aj i _ hh 2 _ rfl;subst aE;clear aj hh ai ac al ax;go_wp2_with fail
   go_loopg [7,9] sn (fun kx s7 s9 wr=>∃(k:Nat) (b:Int),s9 = .int .i64 (k:Int)/\s7 = .int .i64 b/\k+kx=sn/\Hid (Kat (Kak (ss.take i)++(s.samples.take k).map cY) a b)/\wr=w0)
   case atStart=>exact ⟨0,_,rfl,rfl,by omega,(by simpa using HI.out:Kat _ _ _),rfl⟩
   case round=>
    clear HI;obtain ⟨k,b,rfl,rfl,hk,HI,hw⟩:=hrel;have hw:=hw.symm;subst hw;rcases cA k sn with hlt2 | hge2
    .have ad:(k:Int) < (sn:Int):=by omega
     obtain ⟨bx,ox,ak,aD,af⟩:=ah.out.2 (by omega);obtain ⟨y,hy⟩:∃y,s.samples[k]? = some y:=⟨s.samples[k]'(by rw[ah.out.len];exact hlt2),cf _⟩;obtain ⟨t,ht⟩:=i7 y.t;have e0:w0.cell? ⟨bx,ox+k*2,none⟩=some (.int .i64 t):=by rw[ht];exact af k y hy 0 _ rfl
     have aa:Hid (Kak (ss.take i)++(s.samples.take (k+1)).map cY=Kak (ss.take i)++(s.samples.take k).map cY ++ [t]):=by show _=_;rw[cr,hy,cD,<-cM,ht];rfl
     subst ak;clear af hy ht
     by_cases h1:a<=t
     .by_cases h2:t<=1125899906842624
      .by_cases h3:b < 0
       .have d1:=jd h1;have HN:Hid (Kat (Kak (ss.take i)++(s.samples.take (k+1)).map cY) a t):=by show Kat _ _ _;rw[aa.out];exact HI.out.take h1 h2 (.inl h3) ha
        clear HI aa;go_wp2_with fail
        go_roundg (sn - (k+1))
        case measure=>omega
        case rel=>exact ⟨k+1,_,by first | rfl | go_num,rfl,by omega,HN,rfl⟩
       .by_cases h4:t < b
        .have d1:=jd h1;have HN:Hid (Kat (Kak (ss.take i)++(s.samples.take (k+1)).map cY) a t):=by show Kat _ _ _;rw[aa.out];exact HI.out.take h1 h2 (.inr h4) ha
         clear HI aa;go_wp2_with fail
         go_roundg (sn - (k+1))
         case measure=>omega
         case rel=>exact ⟨k+1,_,by first | rfl | go_num,rfl,by omega,HN,rfl⟩
        .have d1:=jd h1;have HN:Hid (Kat (Kak (ss.take i)++(s.samples.take (k+1)).map cY) a b):=by show Kat _ _ _;rw[aa.out];exact HI.out.skip (.inr ⟨h3,h4⟩)
         clear HI aa;go_wp2_with fail
         go_roundg (sn - (k+1))
         case measure=>omega
         case rel=>exact ⟨k+1,_,by first | rfl | go_num,rfl,by omega,HN,rfl⟩
      .have d1:=jd h1;have HN:Hid (Kat (Kak (ss.take i)++(s.samples.take (k+1)).map cY) a b):=by show Kat _ _ _;rw[aa.out];exact HI.out.skip (.inl fun h=>h2 h.2)
       clear HI aa;go_wp2_with fail
       go_roundg (sn - (k+1))
       case measure=>omega
       case rel=>exact ⟨k+1,_,by first | rfl | go_num,rfl,by omega,HN,rfl⟩
     .have d1:=ja h1;have HN:Hid (Kat (Kak (ss.take i)++(s.samples.take (k+1)).map cY) a b):=by show Kat _ _ _;rw[aa.out];exact HI.out.skip (.inl fun h=>h1 h.1)
      clear HI aa;go_wp2_with fail
      go_roundg (sn - (k+1))
      case measure=>omega
      case rel=>exact ⟨k+1,_,by first | rfl | go_num,rfl,by omega,HN,rfl⟩
    .have ad:¬(k:Int) < (sn:Int):=by omega
     have ab:s.samples.take k=s.samples:=cg (by rw[ah.out.len];exact hge2);rw[ab] at HI;clear ab;go_wp2_with fail
     go_loopg [7,11] wn (fun kx s7 s11 wr=>∃(k:Nat) (b:Int),s11 = .int .i64 (k:Int)/\s7 = .int .i64 b/\k+kx=wn/\Hid (Kat (Kak (ss.take i)++s.samples.map cY++(s.windows.take k).map c6) a b)/\wr=w0)
     case atStart=>exact ⟨0,_,rfl,rfl,by omega,(by simpa using HI.out:Kat _ _ _),rfl⟩
     case round=>
      clear HI;obtain ⟨k,b,rfl,rfl,hk,HI,hw⟩:=hrel;have hw:=hw.symm;subst hw;rcases cA k wn with hlt2 | hge2
      .have ad:(k:Int) < (wn:Int):=by omega
       obtain ⟨bx,ox,ak,aD,af⟩:=ag.out.2 (by omega);obtain ⟨y,hy⟩:∃y,s.windows[k]? = some y:=⟨s.windows[k]'(by rw[ag.out.len];exact hlt2),cf _⟩;obtain ⟨t,ht⟩:=i7 y.start;have e0:w0.cell? ⟨bx,ox+k*6,none⟩=some (.int .i64 t):=by rw[ht];exact af k y hy 0 _ rfl
       have aa:Hid (Kak (ss.take i)++s.samples.map cY++(s.windows.take (k+1)).map c6=Kak (ss.take i)++s.samples.map cY++(s.windows.take k).map c6 ++ [t]):=by show _=_;rw[cr,hy,cD,<-cM,ht];rfl
       subst ak;clear af hy ht
       by_cases h1:a<=t
       .by_cases h2:t<=1125899906842624
        .by_cases h3:b < 0
         .have d1:=jd h1;have HN:Hid (Kat (Kak (ss.take i)++s.samples.map cY++(s.windows.take (k+1)).map c6) a t):=by show Kat _ _ _;rw[aa.out];exact HI.out.take h1 h2 (.inl h3) ha
          clear HI aa;go_wp2_with fail
          go_roundg (wn - (k+1))
          case measure=>omega
          case rel=>exact ⟨k+1,_,by first | rfl | go_num,rfl,by omega,HN,rfl⟩
         .by_cases h4:t < b
          .have d1:=jd h1;have HN:Hid (Kat (Kak (ss.take i)++s.samples.map cY++(s.windows.take (k+1)).map c6) a t):=by show Kat _ _ _;rw[aa.out];exact HI.out.take h1 h2 (.inr h4) ha
           clear HI aa;go_wp2_with fail
           go_roundg (wn - (k+1))
           case measure=>omega
           case rel=>exact ⟨k+1,_,by first | rfl | go_num,rfl,by omega,HN,rfl⟩
          .have d1:=jd h1;have HN:Hid (Kat (Kak (ss.take i)++s.samples.map cY++(s.windows.take (k+1)).map c6) a b):=by show Kat _ _ _;rw[aa.out];exact HI.out.skip (.inr ⟨h3,h4⟩)
           clear HI aa;go_wp2_with fail
           go_roundg (wn - (k+1))
           case measure=>omega
           case rel=>exact ⟨k+1,_,by first | rfl | go_num,rfl,by omega,HN,rfl⟩
        .have d1:=jd h1;have HN:Hid (Kat (Kak (ss.take i)++s.samples.map cY++(s.windows.take (k+1)).map c6) a b):=by show Kat _ _ _;rw[aa.out];exact HI.out.skip (.inl fun h=>h2 h.2)
         clear HI aa;go_wp2_with fail
         go_roundg (wn - (k+1))
         case measure=>omega
         case rel=>exact ⟨k+1,_,by first | rfl | go_num,rfl,by omega,HN,rfl⟩
       .have d1:=ja h1;have HN:Hid (Kat (Kak (ss.take i)++s.samples.map cY++(s.windows.take (k+1)).map c6) a b):=by show Kat _ _ _;rw[aa.out];exact HI.out.skip (.inl fun h=>h1 h.1)
        clear HI aa;go_wp2_with fail
        go_roundg (wn - (k+1))
        case measure=>omega
        case rel=>exact ⟨k+1,_,by first | rfl | go_num,rfl,by omega,HN,rfl⟩
      .have ad:¬(k:Int) < (wn:Int):=by omega
       have ab:s.windows.take k=s.windows:=cg (by rw[ag.out.len];exact hge2);rw[ab] at HI;clear ab;have HN:Hid (Kat (Kak (ss.take (i+1))) a b):=by show Kat _ _ _;rw[aB.out];exact HI.out
       clear HI;go_wp2_with fail
       go_roundg (n - (i+1))
       case measure=>omega
       case rel=>exact ⟨i+1,_,by first | rfl | go_num,rfl,by omega,HN,rfl⟩
  .have az:¬(i:Int) < (n:Int):=by omega
   rw[cg (by rw[ap.out];exact hge)] at HI
   by_cases hb:b < 0
   .have HF:Hid ((if b < 0 then (-1:Int) else b - b % width) = -1):=jf hb;go_wp2_with fail
    go_ret
    exact ⟨⟨b,by rw[HF.out];rfl,HI.out⟩,rfl⟩
   .have HF:Hid ((if b < 0 then (-1:Int) else b - b % width)=b / width*width):=by
     show _=_
     rw[je hb];have:=co b width;rw[Int.mul_comm];omega
    have am:0<=b/\b<=1125899906842624:=by
     rcases HI.out with ⟨h,_⟩ | ⟨_,h,_⟩
     .omega
     .omega
    have aw:0<=b / width:=Int.ediv_nonneg am.1 (by omega);have hdw:b / width*width<=b:=by have:=co b width;have:=Int.emod_nonneg b (show width≠0 by omega);rw[Int.mul_comm];omega
    have hdu:0<=b / width*width:=Int.mul_nonneg aw (by omega);have hdx:b / width<=b:=Int.ediv_le_self _ am.1;obtain ⟨ay,aC⟩:=am;go_wp2_with fail
    go_ret
    exact ⟨⟨b,by rw[HF.out];rfl,HI.out⟩,rfl⟩
end
end
section
open Go.Shelf Go.RowKit Go.Lib Go.Sort
open Lib renaming hid -> Jh
attribute [local go_sem ↓] Go.wp_at_zero Go.wp_at_succ
attribute [local go_sem] Later.cell
section
theorem Qbs (l:List Spn) (A:Option Addr) (n c:Nat) (t:Int) (w:World) (hE:Elems w w.heap.size 2 Kee A n l) (hn:n<=1099511627776) :
  Calls prog 159 #[.slice A n c,.int .i64 t] w fun e w'=>e = .returned (.bool (hasF l t))/\w'=w:=by
 have HE:=Jh hE;have aa:Hid (hasF (l.take 0) t=false):=rfl;obtain ⟨R,hR⟩:=i7 (hasF l t);have ae:=Jh hR;rw[<-hR];clear hE hR;go_enter func159,ntmps159
 go_wp2_with fail
 go_loopg [5] n (fun kx s5 wr=>∃i:Nat,s5 = .int .i64 (i:Int)/\i+kx=n/\wr=w/\Hid (hasF (l.take i) t=false))
 case atStart=>exact ⟨0,rfl,by omega,rfl,aa⟩
 case round=>
  clear aa;obtain ⟨i,rfl,hi,hw,aa⟩:=hrel;have hw:=hw.symm;subst hw;rcases cA i n with hlt | hge
  .have af:(i:Int) < (n:Int):=by omega
   have ah:=HE.out.len;obtain ⟨y,hy⟩:∃y,l[i]? = some y:=⟨l[i]'(by omega),cf _⟩;obtain ⟨b,ad,hA,hb,hc⟩:=HE.out.2 (by omega);have k0:w.cell? ⟨b,ad+i*2,none⟩=some (.int .i64 y.frm):=hc i y hy 0 _ rfl;have k1:w.cell? ⟨b,ad+i*2+1,none⟩=some (.int .i64 y.to_):=hc i y hy 1 _ rfl;obtain ⟨f,hf⟩:=i7 y.frm;obtain ⟨e,he⟩:=i7 y.to_
   have ac:Hid (hasF (l.take (i+1)) t=(decide (f<=t) && decide (t<=e))):=by
    show _=_
    have h0:=aa.out;unfold hasF at h0 |-;rw[cr,hy,cR,h0,hf,he];simp[inS]
   rw[<-hf] at k0;rw[<-he] at k1
   have ag:Hid (f<=t/\t<=e->hasF l t=true):=fun hh=>by unfold hasF;rw[cO];exact ⟨y,ci hy,by unfold inS;rw[<-hf,<-he];simp[hh.1,hh.2]⟩
   subst hA;clear hy hc hf he ah
   by_cases h1:f<=t
   .have d1:decide (f<=t)=true:=jd h1
    by_cases h2:t<=e
    .have d2:decide (t<=e)=true:=jd h2;have HT:Hid (R=true):=by show _=_;rw[ae.out];exact ag.out ⟨h1,h2⟩
     go_wp2_with fail
     go_ret
     exact ⟨by rw[HT.out];rfl,rfl⟩
    .have d2:decide (t<=e)=false:=ja h2;have ab:Hid (hasF (l.take (i+1)) t=false):=by show _=_;rw[ac.out,d2,cT]
     go_wp2_with fail
     go_roundg (n - (i+1))
     case measure=>omega
     case rel=>exact ⟨i+1,by first | rfl | go_num,by omega,rfl,ab⟩
   .have d1:decide (f<=t)=false:=ja h1;have ab:Hid (hasF (l.take (i+1)) t=false):=by show _=_;rw[ac.out,d1,cU]
    go_wp2_with fail
    go_roundg (n - (i+1))
    case measure=>omega
    case rel=>exact ⟨i+1,by first | rfl | go_num,by omega,rfl,ab⟩
  .have af:¬(i:Int) < (n:Int):=by omega
   have HF:Hid (R=false):=by
    show _=_
    have h0:=aa.out;rw[cg (by rw[HE.out.len];exact hge)] at h0;rw[ae.out,h0]
   go_wp2_with fail
   go_ret
   exact ⟨by rw[HF.out];rfl,rfl⟩
theorem Klj (hs:List (Hd4×GoneP)) (A B:Option Addr) (n c k d r:Nat) (hr:r < 3) (l:List Lb) (t:Int) (w:World) (hG:Gones w A n hs) (hB:Elems w w.heap.size 2 encLb B k l) (hk:k<=1099511627776) :
  Calls prog 104 #[.slice A n c,.slice B k d,.int .i64 (r:Int),.int .i64 t] w fun e w'=>e = .returned (.bool (Kbl hs r l t))/\Below w.heap.size w w':=by
 have HG:=Jh hG;have HB:=Jh hB;have aa:Hid (Below w.heap.size w w):=Below.refl _ _;have ae:Hid (Kbl (hs.take 0) r l t=false):=rfl;obtain ⟨R,hR⟩:=i7 (Kbl hs r l t);have az:=Jh hR;have hr3:(r:Int) < 3:=by omega
 have hn:=hG.n;rw[<-hR];clear hG hB hR;go_enter func104,ntmps104
 go_wp2_with fail
 go_loopg [9] n (fun kx s9 wr=>∃i:Nat,s9 = .int .i64 (i:Int)/\i+kx=n/\Hid (Below w.heap.size w wr)/\Hid (Kbl (hs.take i) r l t=false))
 case atStart=>exact ⟨0,rfl,by omega,aa,ae⟩
 case round=>
  clear aa ae;obtain ⟨i,rfl,hi,aa,ae⟩:=hrel;rcases cA i n with hlt | hge
  .have aB:(i:Int) < (n:Int):=by omega
   have aD:=HG.out.e.len;obtain ⟨y,hy⟩:∃y,hs[i]? = some y:=⟨hs[i]'(by omega),cf _⟩;obtain ⟨b,ac,hA,hb,hc⟩:=HG.out.e.2 (by omega);have ha:=(HG.out.a y (ci hy)).below aa.out;have ab:∀j v,(encHG y)[j]? = some v->wr.cell? ⟨b,ac+i*4+j,none⟩=some v:=fun j v hv=>(aa.out.cell (p:=⟨b,ac+i*4+j,none⟩) hb).trans (hc i y hy j v hv)
   have k0:wr.cell? ⟨b,ac+i*4,none⟩=some (.slice y.1.l.A y.1.l.n y.1.l.c):=ab 0 _ rfl
   have k1:wr.cell? ⟨b,ac+i*4+1+r,none⟩=some (.slice (y.1.sp r).A (y.1.sp r).n (y.1.sp r).c):=by
    rw[show ac+i*4+1+r=ac+i*4+(1+r) by omega];refine ab (1+r) _ ?_
    match r,hr with
    | 0,_=>rfl
    | 1,_=>rfl
    | 2,_=>rfl
   have ak:b < wr.heap.size:=cB hb aa.out.size;obtain ⟨cc,ah⟩:=iZ (cmpL y.2.labels l);have ao:=Jh (Kdq y.2.labels l y.1.l.A B y.1.l.n k y.1.l.c d wr cc ah ha.l ((HB.out.below aa.out).more aa.out.size) (by have:=ha.z;omega) (by omega));have aC:=Jh ha;obtain ⟨R2,aj⟩:=i7 (hasF (y.2.sp r) t)
   have al:Hid (∀W,Below wr.heap.size wr W->Calls prog 159 #[.slice (y.1.sp r).A (y.1.sp r).n (y.1.sp r).c,.int .i64 t] W fun e w'=>e = .returned (.bool R2)/\w'=W):=fun W hW=>by rw[aj];have h1:=(aC.out.below hW).s r hr;exact Qbs (y.2.sp r) _ _ _ t W h1.1 h1.2
   have ay:Hid (Kbl (hs.take (i+1)) r l t=(decide (cc=0) && R2)):=by
    show _=_
    have h0:=ae.out;unfold Kbl at h0 |-;rw[cr,hy,cR,h0,<-ah,aj];simp[goneF]
   have aE:Hid (cc=0->R2=true->Kbl hs r l t=true):=fun h1 h2=>by unfold Kbl;rw[cO];refine ⟨y,ci hy,?_⟩;unfold goneF;rw[ah,h1,<-aj,h2];rfl
   obtain ⟨lA,ax⟩:=i7 y.1.l.A;obtain ⟨ln,ap⟩:=i7 y.1.l.n;obtain ⟨lc,aw⟩:=i7 y.1.l.c;obtain ⟨sA,av⟩:=i7 ((y.1.sp r).A);obtain ⟨sn,ar⟩:=i7 ((y.1.sp r).n);obtain ⟨sc,aq⟩:=i7 ((y.1.sp r).c);rw[<-ax,<-ap,<-aw] at k0 ao;rw[<-av,<-ar,<-aq] at k1 al;have HB0:Hid (b < w.heap.size):=hb;subst hA;clear hy hc ab ha ah aj ax ap aw av ar aq aD hb;go_wp2_with fail
   refine ao.out.mono ?_;rintro _ w2 ⟨rfl,ad⟩;have ag:Hid (Below w.heap.size w w2):=aa.out.trans (ad.mono aa.out.size);have af:=Jh (al.out w2 ad);have aA:w2.cell? ⟨b,ac+i*4+1+r,none⟩=some (.slice sA sn sc):=(ad.cell (p:=⟨b,ac+i*4+1+r,none⟩) ak).trans k1;have an:b < w2.heap.size:=cB ak ad.size;clear ad k0 k1 ak ao aa al;go_wp2_with fail
   refine af.out.mono ?_;rintro _ w3 ⟨rfl,am⟩;have am:=am.symm;subst am;clear af aA an
   cases R2 with
   | false=>
    have ai:Hid (Kbl (hs.take (i+1)) r l t=false):=by show _=_;rw[ay.out,cT]
    by_cases h0:cc=0
    .subst h0;go_wp2_with fail
     go_roundg (n - (i+1))
     case measure=>omega
     case rel=>exact ⟨i+1,by first | rfl | go_num,by omega,ag,ai⟩
    .have h1:(cc == 0)=false:=by rw[jg];exact h0
     go_wp2_with fail
     go_roundg (n - (i+1))
     case measure=>omega
     case rel=>exact ⟨i+1,by first | rfl | go_num,by omega,ag,ai⟩
   | true=>
    by_cases h0:cc=0
    .have HT:Hid (R=true):=by show _=_;rw[az.out];exact aE.out h0 rfl
     subst h0;go_wp2_with fail
     go_ret
     exact ⟨by rw[HT.out];rfl,ag.out⟩
    .have h1:(cc == 0)=false:=by rw[jg];exact h0
     have ai:Hid (Kbl (hs.take (i+1)) r l t=false):=by show _=_;rw[ay.out,ja h0,cU]
     go_wp2_with fail
     go_roundg (n - (i+1))
     case measure=>omega
     case rel=>exact ⟨i+1,by first | rfl | go_num,by omega,ag,ai⟩
  .have aB:¬(i:Int) < (n:Int):=by omega
   have HF:Hid (R=false):=by
    show _=_
    have h0:=ae.out;rw[cg (by rw[HG.out.e.len];exact hge)] at h0;rw[az.out,h0]
   go_wp2_with fail
   go_ret
   exact ⟨by rw[HF.out];rfl,aa.out⟩
end
end
end Go.Proofs.YtdoiekknhnbepaaGreatDoor
