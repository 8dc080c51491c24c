/- Merged (what the claim wants of): CRefG, CLawM, BlkD, CProofMF, CProofM. -/
import Derived.Test.YtdoiekknhnbepaaGreatDoorCmk10
import Derived.Test.YtdoiekknhnbepaaGreatDoorCards
import Derived.Test.YtdoiekknhnbepaaGreatDoorTie
import Derived.Deep.DeepWitnessRowRef
import Derived.Lib.LaidTab
import Derived.Stop.LaidTwo
set_option linter.unusedVariables false
set_option linter.unusedSimpArgs false
set_option maxRecDepth 1000000
set_option linter.ambiguousOpen false
set_option maxHeartbeats 8000000
namespace Go.Proofs.YtdoiekknhnbepaaGreatDoor
open List renaming getElem?_eq_getElem->bL,nodup_append->bN,getD_eq_getElem?_getD->bO
open Act renaming put->bS
open Prod renaming snd->bT
open Value renaming slice->bU
open World renaming grownBy_alloc->bV,ownsRow_nil->bW
open Blk renaming new->bX
open Oper renaming wp_called->bY
open Cont renaming series->bZ
open World.ownsRow renaming alloc->b3
open Go.Proofs.Tryz
open Nat renaming lt_of_lt_of_le->bD,le_refl->bE,lt_or_ge->bI,lt_irrefl->bK
open List renaming length_append->bF,flatMap_singleton->bG,flatMap_append->bH,take_of_length_le->bJ,take_add_one->bM,map_append->bP,append_nil->bR
open _root_.Array renaming replicate->bQ
section
open Go.Shelf Go.RowKit Go.Lib Go.Sort
open Lib renaming hid -> Jh
attribute [local go_sem ↓] Go.wp_at_zero Go.wp_at_succ
attribute [local go_sem] Later.cell
section
theorem Kye:(prog.info? 97).map (fun i=>(i.zero,i.size,i.bytes))=some (some (.agg #[.int .i64 0,.int .i64 0]),2,16):=by kernel_rfl
theorem Kyd:(prog.info? 94).map (fun i=>(i.zero,i.size,i.bytes))=some (some (.agg #[.slice none 0 0,.slice none 0 0,.slice none 0 0,.slice none 0 0]),4,96):=by kernel_rfl
theorem Kob {w:World}{B n c k sz:Nat}{A:Option Addr}{T:TypeId}{xs:List Value}(h:w.ownsRow B T sz (.slice A n c) k xs):n=k:=by obtain⟨_,_,e⟩:=Kah h;injection e
def hdV (h:Hd):Value:=.slice h.A h.n h.c
def Hd4.put (h:Hd4) (r:Nat) (x:Hd):Hd4:=⟨h.l,if r=0 then x else h.s0,if r=1 then x else h.s1,if r=2 then x else h.s2⟩
theorem Hd4.put_at (h:Hd4) {r:Nat}(hr:r<3) (x:Hd):(h.put r x).sp r=x:=by rcases (by omega:r=0\/r=1\/r=2) with rfl | rfl | rfl <;> rfl
theorem Hd4.put_off (h:Hd4) {r j:Nat}(hr:r<3) (hj:j<3) (hne:j≠r) (x:Hd):(h.put r x).sp j=h.sp j:=by rcases (by omega:r=0\/r=1\/r=2) with rfl | rfl | rfl <;> rcases (by omega:j=0\/j=1\/j=2) with rfl | rfl | rfl <;> first | rfl | exact jS rfl hne
structure GRw (B:Nat) (w:World) (h:Hd4) (labs:List Lb) (sp:Nat->List Spn):Prop where
 l:w.ownsRow B 180 2 (hdV h.l) labs.length (labs.flatMap encLb)
 s:∀r,r<3->w.ownsRow B 97 2 (hdV (h.sp r)) (sp r).length ((sp r).flatMap Kbo)
theorem GRw.below {B:Nat}{w w':World}{h:Hd4}{labs:List Lb}{sp:Nat->List Spn}(x:GRw B w h labs sp) (hb:Below w.heap.size w w'):GRw B w' h labs sp:=
 ⟨Kat x.l hb,fun r hr=>Kat (x.s r hr) hb⟩
theorem GRw.mono {B B':Nat}{w:World}{h:Hd4}{labs:List Lb}{sp:Nat->List Spn}(x:GRw B w h labs sp) (hb:B'<=B):GRw B' w h labs sp:=
 ⟨Kcg x.l hb,fun r hr=>Kcg (x.s r hr) hb⟩
theorem GRw.grown {B B' n sz:Nat}{w w':World}{v:Value}{xs:List Value}{h:Hd4}{labs:List Lb}{sp:Nat->List Spn}(x:GRw B w h labs sp) (hv:w.ownsRow B' 94 sz v n xs) (hg:w.grownBy w' v.ownBlock):GRw B w' h labs sp:=
 ⟨x.l.kept hg (Kas x.l hv (by decide)),fun r hr=>(x.s r hr).kept hg (Kas (x.s r hr) hv (by decide))⟩
structure GNw (wo w:World) (p:Nat) (h:Hd4) (labs:List Lb) (sp:Nat->List Spn):Prop where
 b:Below wo.heap.size wo w
 x:Blk w p 94 #[hdV h.l,hdV h.s0,hdV h.s1,hdV h.s2]
 p:wo.heap.size<=p
 g:GRw wo.heap.size w h labs sp
 d:∀r r',r<3->r'<3->r≠r'->∀k,(hdV (h.sp r)).ownBlock=some k->(hdV (h.sp r')).ownBlock≠some k
theorem GNw.below {wo w w':World}{p:Nat}{h:Hd4}{labs:List Lb}{sp:Nat->List Spn}(x:GNw wo w p h labs sp) (hb:Below w.heap.size w w'):GNw wo w' p h labs sp:=
 ⟨x.b.trans (hb.mono x.b.size),x.x.below hb x.x.lt,x.p,x.g.below hb,x.d⟩
theorem GNw.put {wo w w':World}{p r:Nat}{h:Hd4}{labs:List Lb}{sp:Nat->List Spn}{l':List Spn}{y:Hd}(x:GNw wo w p h labs sp) (hr:r<3) (hg:w.grownBy w' (hdV (h.sp r)).ownBlock) (hrow:w'.ownsRow wo.heap.size 97 2 (hdV y) l'.length (l'.flatMap Kbo))
  (hat:∀k,(hdV y).ownBlock=some k->(hdV (h.sp r)).ownBlock=some k\/w.heap.size<=k):GNw wo (w'.setCell ⟨p,1+r,none⟩ (hdV y)) p (h.put r y) labs (fun j=>if j=r then l' else sp j):=by
 have aa:=x.g.s r hr;have hB:=x.b.grown hg x.b.size (fun k hk=>(aa.lt k hk).1);have hx:=x.x.grown hg (Kak x.x aa (by decide));refine⟨hB.setCell (p:=⟨p,1+r,none⟩) x.p _,?_,x.p,⟨?_,fun j hj=>?_⟩,fun j j' hj hj' hne k hk=>?_⟩
 .have h2:=hx.set_ (1+r) (hdV y);rcases (by omega:r=0\/r=1\/r=2) with rfl | rfl | rfl <;> exact h2
 .exact Kbj (x.g.l.kept hg (Kas x.g.l aa (by decide))) hx (by decide)
 .by_cases e:j=r
  .subst e;rw[Hd4.put_at h hr]
   (try dsimp only)
   rw[jN rfl];exact Kbj hrow hx (by decide)
  .rw[Hd4.put_off h hr hj e]
   (try dsimp only)
   rw[jM e];refine Kbj ((x.g.s j hj).kept hg ?_) hx (by decide)
   cases hc:(hdV (h.sp j)).ownBlock with
   | none=>exact .inl rfl
   | some k=>exact .inr fun e2=>x.d j r hj hr e k hc e2.symm
 .have ab:∀j,j<3->∀k,(hdV (h.sp j)).ownBlock=some k->k<w.heap.size:=fun j hj k hk=>((x.g.s j hj).lt k hk).2
  by_cases e:j=r
  .subst e;rw[Hd4.put_at h hr]at hk;rw[Hd4.put_off h hr hj' (Ne.symm hne)];intro h2;rcases hat k hk with h3 | h3
   .exact x.d j j' hj hj' hne k h3 h2
   .have:=ab j' hj' k h2;omega
  .rw[Hd4.put_off h hr hj e]at hk
   by_cases e2:j'=r
   .subst e2;rw[Hd4.put_at h hr];intro h2;rcases hat k h2 with h3 | h3
    .exact x.d j j' hj hj' hne k hk h3
    .have:=ab j hj k hk;omega
   .rw[Hd4.put_off h hr hj' e2];exact x.d j j' hj hj' hne k hk
structure GOut (w0 w:World) (v:Value) (xs:List (Hd4×GoneP)):Prop where
 b:Below w0.heap.size w0 w
 row:w.ownsRow w0.heap.size 94 4 v xs.length (xs.flatMap encHG)
 r:∀x∈xs,GRw w0.heap.size w x.1 x.2.labels x.2.sp
theorem GOut.below {w0 w w':World}{v:Value}{xs:List (Hd4×GoneP)}(x:GOut w0 w v xs) (hb:Below w.heap.size w w'):GOut w0 w' v xs:=
 ⟨x.b.trans (hb.mono x.b.size),Kat x.row hb,fun y hy=>(x.r y hy).below hb⟩
theorem GOut.snoc {w0 w w':World}{v v':Value}{xs:List (Hd4×GoneP)}(x:GOut w0 w v xs) {h:Hd4}{g:GoneP}(hg:w.grownBy w' v.ownBlock) (hrow:w'.ownsRow w0.heap.size 94 4 v' (xs.length+1) (xs.flatMap encHG++encH4 h)) (hx:GRw w0.heap.size w h g.labels g.sp) :
  GOut w0 w' v' (xs ++ [(h,g)]):=by
 refine⟨x.b.grown hg x.b.size (fun k hk=>(x.row.lt k hk).1),by rw[bF,bH,bG];exact hrow,fun y hy=>?_⟩;rcases List.mem_append.1 hy with hy | hy
 .exact (x.r y hy).grown x.row hg
 .rw[List.mem_singleton.1 hy];exact hx.grown x.row hg
theorem GOut.gones {w0 w:World}{A:Option Addr}{n c:Nat}{xs:List (Hd4×GoneP)}(x:GOut w0 w (.slice A n c) xs) (hl:xs.length=n) (hn:n<=1099511627776) (hz:∀y∈xs,y.2.labels.length<=1099511627776/\∀r,r<3->(y.2.sp r).length<=1099511627776):Gones w A n xs:=by obtain⟨A1,c1,e1,hE,_,_⟩:=Elems.of_own (xs:=xs) (enc:=encHG) (fun _ _=>rfl) rfl x.row rfl;injection e1 with e1 _ _;rw[<-e1,hl]at hE;refine⟨hE,fun y hy=>?_,hn⟩;have hr:=x.r y hy;have ac:=hz y hy;obtain⟨A2,c2,e2,ab,_,_⟩:=Elems.of_own (xs:=y.2.labels) (enc:=encLb) (fun _ _=>rfl) rfl hr.l rfl;unfold hdV at e2;injection e2 with e2 e3 _;rw[<-e2,<-e3]at ab;refine⟨ab,by rw[e3];exact ac.1,fun r h3=>?_⟩;obtain⟨A4,c4,e4,aa,_,_⟩:=Elems.of_own (xs:=y.2.sp r) (enc:=Kbo) (fun _ _=>rfl) rfl (hr.s r h3) rfl;unfold hdV at e4;injection e4 with e4 e5 _;rw[<-e4,<-e5]at aa;exact⟨aa,by rw[e5];exact ac.2 r h3⟩
def spAt (sp:Nat->List Spn) (r k:Nat):Nat->List Spn:=fun j=>if j<r then sp j else if j=r then (sp r).take k else []
theorem Kly (sp:Nat->List Spn) (r k:Nat) {y:Spn}(h:(sp r)[k]? = some y):(fun j=>if j=r then spAt sp r k r ++ [y] else spAt sp r k j)=spAt sp r (k+1):=by
 funext j;unfold spAt
 by_cases h1:j=r
 .subst h1;rw[jN rfl,jM (bK _),jN rfl,jM (bK _),jN rfl,bM,h];rfl
 .rw[jM h1,jM h1,jM h1]
theorem Kod (sp:Nat->List Spn) (r k:Nat) (h:(sp r).length<=k):spAt sp r k=spAt sp (r+1) 0:=by
 funext j;unfold spAt
 by_cases h1:j<r
 .rw[jN h1,jN (by omega)]
 .by_cases h2:j=r
  .subst h2;rw[jM (bK _),jN rfl,jN (by omega),bJ h]
  .rw[jM h1,jM h2,jM (by omega)]
   split <;> simp
theorem Qch (sp:Nat->List Spn) {j:Nat}(h:j<3):spAt sp 3 0 j=sp j:=by unfold spAt;rw[jN h]
theorem Kqs (ghs:List (Hd4×GoneP)) (A:Option Addr) (n c:Nat) (w:World) (hG:Gones w A n ghs) :
  Calls prog 15 #[.slice A n c] w fun e w'=>∃(A':Option Addr) (c':Nat) (ghs':List (Hd4×GoneP)),e = .returned (.slice A' n c')/\Gones w' A' n ghs'/\ghs'.map bT=ghs.map bT/\Below w.heap.size w w':=by
 obtain⟨i4,bv,bC,bq,bs⟩:=info_parts Kyd;obtain⟨i2,a8,a7,a5,a6⟩:=info_parts Kye;have HG:=Jh hG;have hn:=hG.n;have bo:Hid (GOut w w (.slice none 0 0) []):=⟨Below.refl _ _,bW _ _ _ _,fun x hx=>by simp at hx⟩;clear hG;go_enter func15,ntmps15
 go_wp2_with fail
 go_loopg [3,13] n (fun kx s3 s13 wr=>∃(i:Nat) (xs:List (Hd4×GoneP)),s13 = .int .i64 (i:Int)/\i+kx=n/\Hid (xs.length=i/\xs.map bT=(ghs.take i).map bT)/\Hid (GOut w wr s3 xs))
 case atStart=>exact⟨0,[],rfl,by omega,⟨rfl,rfl⟩,bo⟩
 case round=>
  clear bo;obtain⟨i,xs,rfl,hi,HX,HO⟩:=hrel;have a9:=HO.out.row;rw[HX.out.1]at a9;obtain⟨A3,c3,bp⟩:=Kah a9;subst bp;clear a9;rcases bI i n with hlt | hge
  .have bA:(i:Int)<(n:Int):=by omega
   obtain⟨b0,ao,bB,a4,bc⟩:=HG.out.e.2 (by omega);obtain⟨gx,aF⟩:∃gx,ghs[i]? = some gx:=⟨ghs[i]'(by rw[HG.out.e.len];exact hlt),bL _⟩;have ay:Hid (Kfz w gx.1 gx.2):=HG.out.a gx (List.mem_of_getElem? aF);have bw:Hid ((ghs.take (i+1)).map bT=(ghs.take i).map bT ++ [gx.2]):=by show _=_;rw[bM,aF,bP];rfl
   obtain⟨wo,rfl⟩:=jG wr;have ag:∀r v,r<4->(encHG gx)[r]? = some v->wo.cell? ⟨b0,ao+i*4+r,none⟩=some v:=fun r v _ hv=>(HO.out.b.cell (p:=⟨b0,ao+i*4+r,none⟩) a4).trans (bc i gx aF r v hv)
   have bt:b0<wo.heap.size:=bD a4 HO.out.b.size;obtain⟨⟨⟨lA,ln,lc⟩,⟨A0,n0,c0⟩,⟨A1,n1,c1⟩,⟨A2,n2,c2⟩⟩,gp⟩:=gx;have k0:wo.cell? ⟨b0,ao+i*4,none⟩=some (.slice lA ln lc):=ag 0 _ (by decide) rfl;have k1:wo.cell? ⟨b0,ao+i*4+1,none⟩=some (.slice A0 n0 c0):=ag 1 _ (by decide) rfl;have k2:wo.cell? ⟨b0,ao+i*4+2,none⟩=some (.slice A1 n1 c1):=ag 2 _ (by decide) rfl;have k3:wo.cell? ⟨b0,ao+i*4+3,none⟩=some (.slice A2 n2 c2):=ag 3 _ (by decide) rfl;have bf:Hid (Elems w w.heap.size 2 encLb lA ln gp.labels/\ln<=1099511627776):=⟨ay.out.l,ay.out.z⟩;have aZ:Hid (Elems w w.heap.size 2 Kbo A0 n0 (gp.sp 0)):=(ay.out.s 0 (by decide)).1;have a3:Hid (Elems w w.heap.size 2 Kbo A1 n1 (gp.sp 1)):=(ay.out.s 1 (by decide)).1;have aX:Hid (Elems w w.heap.size 2 Kbo A2 n2 (gp.sp 2)):=(ay.out.s 2 (by decide)).1;have hn0:n0<=1099511627776:=(ay.out.s 0 (by decide)).2;have hn1:n1<=1099511627776:=(ay.out.s 1 (by decide)).2;have hn2:n2<=1099511627776:=(ay.out.s 2 (by decide)).2;have ax:Hid (Below w.heap.size w wo):=HO.out.b;subst bB;clear bc aF ag a4 ay;go_upto_region 5 with fail
   obtain⟨wa,aW⟩:=jG (wo.alloc (.cells #[.slice lA ln lc,.slice A0 n0 c0,.slice A1 n1 c1,.slice A2 n2 c2] 88));obtain⟨pa,aU⟩:=jG wo.heap.size;have bn:Below wo.heap.size wo wa:=by rw[aW];exact(Below.refl _ _).alloc (bE _) _
   have aK:=Jh bn;have aG:Hid (Blk wa pa 88 #[.slice lA ln lc,.slice A0 n0 c0,.slice A1 n1 c1,.slice A2 n2 c2]):=by show Blk _ _ _ _;rw[aW,aU];exact bX _ _ _
   have HPW:Hid (pa=wo.heap.size):=aU;rw[<-aW,<-aU];have z0:=aG.out.cell 0;simp at z0;have zl:=aG.out.lt;have bg:=Jh (Kja gp.labels lA ln lc wa ((bf.out.1.below (ax.out.trans (aK.out.mono ax.out.size))).more (Nat.le_trans ax.out.size aK.out.size)) (by have:=bf.out.2;omega));clear aW aU bn k0 k1 k2 k3 bt;go_wp2_with fail
   refine bg.out.mono ?_;rintro _ wb ⟨LA,Lc,rfl,aE,aS⟩;obtain⟨m,hm⟩:=jG gp.labels.length;rw[<-hm]at aE |-;have HM:=Jh hm;obtain⟨wd,aM⟩:=jG (wb.alloc (.cells #[.slice LA m Lc,.slice none 0 0,.slice none 0 0,.slice none 0 0] 94));obtain⟨p,hp⟩:=jG wb.heap.size
   have bj:Hid (GNw wo wd p ⟨⟨LA,m,Lc⟩,⟨none,0,0⟩,⟨none,0,0⟩,⟨none,0,0⟩⟩ gp.labels (spAt gp.sp 0 0)):=by
    have h1:Below wo.heap.size wo wb:=aK.out.trans (aS.mono aK.out.size);have h2:Below wb.heap.size wb wd:=by rw[aM];exact(Below.refl _ _).alloc (bE _) _
    refine⟨h1.trans (h2.mono h1.size),by rw[aM,hp];exact bX _ _ _,by rw[hp];exact h1.size,⟨?_,fun r hr=>?_⟩,fun r r' _ _ _ k hk=>?_⟩
    .have h3:=Kat (Kcg aE aK.out.size) h2;rw[<-hm];exact h3
    .rcases (by omega:r=0\/r=1\/r=2) with rfl | rfl | rfl <;> exact bW _ _ _ _
    .have:(hdV (Hd4.sp ⟨⟨LA,m,Lc⟩,⟨none,0,0⟩,⟨none,0,0⟩,⟨none,0,0⟩⟩ r)).ownBlock=none:=by unfold Hd4.sp;split <;> (try split) <;> rfl
     rw[this]at hk;cases hk
   have aV:Hid (Blk wd pa 88 #[.slice lA ln lc,.slice A0 n0 c0,.slice A1 n1 c1,.slice A2 n2 c2]):=by show Blk _ _ _ _;rw[aM];exact(aG.out.below aS aG.out.lt).alloc _
   have bz:Hid (pa≠p):=by have h1:=aG.out.lt;have h2:=aS.size;show pa≠p;rw[hp];omega
   clear aE aS hm bg z0 zl aG;go_upto_region 6 with fail
   try rw[<-aM]
   try rw[<-hp]
   clear aM hp;have z1:=aV.out.cell 1;have z2:=aV.out.cell 2;have z3:=aV.out.cell 3;simp at z1 z2 z3;have zl:=aV.out.lt;go_wp2_with fail
   clear z1 z2 z3 zl;have i0:∀w,(Instr.index 86 (.agg #[.slice A0 n0 c0,.slice A1 n1 c1,.slice A2 n2 c2]) (.int .i64 0)).run prog w = .ok (.slice A0 n0 c0) w:=fun _=>by kernel_rfl
   have i1:∀w,(Instr.index 86 (.agg #[.slice A0 n0 c0,.slice A1 n1 c1,.slice A2 n2 c2]) (.int .i64 1)).run prog w = .ok (.slice A1 n1 c1) w:=fun _=>by kernel_rfl
   have i2_:∀w,(Instr.index 86 (.agg #[.slice A0 n0 c0,.slice A1 n1 c1,.slice A2 n2 c2]) (.int .i64 2)).run prog w = .ok (.slice A2 n2 c2) w:=fun _=>by kernel_rfl
   refine wp_loop_rounds 4 ?_;rw[rounds_succ];go_wp2_with fail
   go_loopg [29] n0 (fun kx s29 wr=>∃(k:Nat) (h:Hd4),s29 = .int .i64 (k:Int)/\k+kx=n0/\Hid (GNw wo wr p h gp.labels (spAt gp.sp 0 k)))
   case atStart=>exact⟨0,_,rfl,by omega,bj⟩
   case round=>
    clear bj;obtain⟨k,h,rfl,hk,HN⟩:=hrel;rcases bI k n0 with hlt2 | hge2
    .have av:(k:Int)<(n0:Int):=by omega
     obtain⟨bx,ox,aO,aj,ar⟩:=aZ.out.2 (by omega);obtain⟨y,hy⟩:∃y,(gp.sp 0)[k]? = some y:=⟨(gp.sp 0)[k]'(by rw[aZ.out.len];exact hlt2),bL _⟩;have am:Below w.heap.size w wr:=ax.out.trans (HN.out.b.mono ax.out.size);have e0:wr.cell? ⟨bx,ox+k*2,none⟩=some (.int .i64 y.frm):=(am.cell (p:=⟨bx,ox+k*2,none⟩) aj).trans (ar k y hy 0 _ rfl);have e1:wr.cell? ⟨bx,ox+k*2+1,none⟩=some (.int .i64 y.to_):=(am.cell (p:=⟨bx,ox+k*2+1,none⟩) aj).trans (ar k y hy 1 _ rfl);have ah:bx<wr.heap.size:=bD aj am.size;have aL:Hid ((fun j=>if j=0 then spAt gp.sp 0 k 0 ++ [y] else spAt gp.sp 0 k j)=spAt gp.sp 0 (k+1)):=Kly gp.sp 0 k hy;obtain⟨f,hf⟩:=jG y.frm;obtain⟨t,ht⟩:=jG y.to_;have HY:Hid (Kbo y = [.int .i64 f,.int .i64 t]):=by show _=_;rw[hf,ht];rfl
     rw[<-hf]at e0;rw[<-ht]at e1;subst aO;clear ar hy hf ht am aj;go_upto_block 5 with fail
     go_cut [10] from 31 to 46 (fun s10 wz=>∃(v10:Value) (h':Hd4),v10=s10/\Hid (GNw wo wz p h' gp.labels (spAt gp.sp 0 (k+1))))
     case first=>
      go_upto_region 12 with fail
      obtain⟨w1,al⟩:=jG (wr.alloc (.cells #[.int .i64 f,.int .i64 t] 96));obtain⟨p1,ap⟩:=jG wr.heap.size;have aB:Below wr.heap.size wr w1:=by rw[al];exact(Below.refl _ _).alloc (bE _) _
      have ab:Hid (GNw wo w1 p h gp.labels (spAt gp.sp 0 k)):=HN.out.below aB;have an:Blk w1 p1 96 #[.int .i64 f,.int .i64 t]:=by rw[al,ap];exact bX _ _ _
      have s0:w1.cell? ⟨p1,0,none⟩=some (.int .i64 f):=an.cell 0;have s1:w1.cell? ⟨p1,1,none⟩=some (.int .i64 t):=an.cell 1;have sl:=an.lt
      try rw[<-al,<-ap]
      clear al ap aB an e0 e1 ah HN;have aa:=ab.out.g.s 0 (by decide);obtain⟨m2,ak⟩:=jF ((spAt gp.sp 0 k 0).length);have bl:m2<=k:=by rw[<-ak];unfold spAt;simp;omega
      have aI:=Jh ak;rw[ak]at aa;obtain⟨⟨af,ad,ac⟩,h0,h1,h2⟩:=h;obtain⟨VA,vn,vc⟩:=h0;have aJ:vn=m2:=Kob aa;subst aJ;have ai:Hid (w1.ownsRow wo.heap.size 97 2 (.slice VA vn vc) vn ((spAt gp.sp 0 k 0).flatMap Kbo)):=aa;have aq:=ab.out.x;have d1:w1.cell? ⟨p,1,none⟩=some (.slice VA vn vc):=aq.cell 1;have bi:=aq.lt;have bd:wo.heap.size<=w1.heap.size:=ab.out.b.size
      have aN:Hid (∀w5:World,(w1.drew.alloc (.cells #[.int .i64 f,.int .i64 t] 97)).grownBy w5 (bU VA vn vc).ownBlock->w5.cell? ⟨p,1,none⟩=some (.slice VA vn vc)/\w5.frozen? ⟨p,1,none⟩=false/\p<w5.heap.size/\w1.grownBy w5 (bU VA vn vc).ownBlock):=fun w5 hg=>by have h1:Blk w1.drew p 94 _:=ab.out.x;have h2:=(h1.alloc (.cells #[.int .i64 f,.int .i64 t] 97)).grown hg (Kak ab.out.x ai.out (by decide));have h3:w1.drew.grownBy w5 (bU VA vn vc).ownBlock:=(bV w1.drew _ _).trans hg;exact⟨h2.cell 1,h2.frozen 1,h2.lt,⟨h3.os,h3.tape,h3.output,h3.size,h3.block⟩⟩
      have ae:Hid (∀j u,([.int .i64 f,.int .i64 t]:List Value)[j]? = some u->(w1.drew.alloc (.cells #[.int .i64 f,.int .i64 t] 97)).cell? ((⟨w1.heap.size,0,none⟩:Addr).add j)=some u):=Kam (l:=[.int .i64 f,.int .i64 t]) (bX w1.drew _ _);have aP:Hid (∀u∈([.int .i64 f,.int .i64 t]:List Value),u.oneCell'=true):=by show ∀u∈_,_;intro u hu;simp at hu;rcases hu with rfl | rfl <;> rfl
      clear aa aq ak;go_region_law ((refine step_append_lies _ (by rfl) _ _ _ (by rfl) wo.heap.size 97 i2 (.agg #[.int .i64 0,.int .i64 0]) 2 16 underlying91 a8 a7 a5 a6 rfl (by omega) (.slice VA vn vc) vn _ (by rfl) (b3 (w:=w1.drew) ai.out _) ⟨w1.heap.size,0,none⟩ 1 1 [.int .i64 f,.int .i64 t] (by rfl) (by rfl) ae.out aP.out (by omega) (by simp only[maxLen];omega) (by omega) (by simp;omega) (w1.heap.size+1) (by simp) ?_;intro g cap w5 hown5 hgrow hat hlt5;obtain⟨kz,fz,pz,aC⟩:=aN.out _ hgrow))
      all_goals
       have aw:Hid (GNw wo (w5.setCell ⟨p,1,none⟩ (.slice (some ⟨g,0,none⟩) (vn+1) cap)) p (Hd4.put ⟨⟨af,ad,ac⟩,⟨VA,vn,vc⟩,h1,h2⟩ 0 ⟨some ⟨g,0,none⟩,vn+1,cap⟩) gp.labels (spAt gp.sp 0 (k+1))):=by
        show GNw _ _ _ _ _ _
        rw[<-aL.out];refine ab.out.put (r:=0) (by decide) aC (y:=⟨some ⟨g,0,none⟩,vn+1,cap⟩) (by rw[bF,bH,aI.out,bG,HY.out];exact hown5) fun j hj=>?_
        have aR:g=j:=by injection hj
        subst aR;exact hat.imp (fun e=>e) fun e=>by omega
       clear hat hgrow hown5 aC;go_wp2_with fail
       go_meet
       exact⟨_,_,rfl,aw⟩
     case rest=>
      obtain⟨v10,h',rfl,aw⟩:=hcut;clear HN e0 e1 ah;go_wp2_with fail
      go_roundg (n0 - (k+1))
      case measure=>omega
      case rel=>exact⟨k+1,_,by first | rfl | go_num,by omega,aw⟩
    .have av:¬(k:Int)<(n0:Int):=by omega
     have az:Hid (GNw wo wr p h gp.labels (spAt gp.sp 1 0)):=by show GNw _ _ _ _ _ _;rw[<-Kod gp.sp 0 k (by rw[aZ.out.len];exact hge2)];exact HN.out
     clear HN;have HN:=az;clear az;go_wp2_with fail
     rw[rounds_succ];go_wp2_with fail
     go_loopg [29] n1 (fun kx s29 wr=>∃(k:Nat) (h:Hd4),s29 = .int .i64 (k:Int)/\k+kx=n1/\Hid (GNw wo wr p h gp.labels (spAt gp.sp 1 k)))
     case atStart=>exact⟨0,_,rfl,by omega,HN⟩
     case round=>
      clear HN;obtain⟨k,h,rfl,hk,HN⟩:=hrel;rcases bI k n1 with hlt2 | hge2
      .have av:(k:Int)<(n1:Int):=by omega
       obtain⟨bx,ox,aO,aj,ar⟩:=a3.out.2 (by omega);obtain⟨y,hy⟩:∃y,(gp.sp 1)[k]? = some y:=⟨(gp.sp 1)[k]'(by rw[a3.out.len];exact hlt2),bL _⟩;have am:Below w.heap.size w wr:=ax.out.trans (HN.out.b.mono ax.out.size);have e0:wr.cell? ⟨bx,ox+k*2,none⟩=some (.int .i64 y.frm):=(am.cell (p:=⟨bx,ox+k*2,none⟩) aj).trans (ar k y hy 0 _ rfl);have e1:wr.cell? ⟨bx,ox+k*2+1,none⟩=some (.int .i64 y.to_):=(am.cell (p:=⟨bx,ox+k*2+1,none⟩) aj).trans (ar k y hy 1 _ rfl);have ah:bx<wr.heap.size:=bD aj am.size;have aL:Hid ((fun j=>if j=1 then spAt gp.sp 1 k 1 ++ [y] else spAt gp.sp 1 k j)=spAt gp.sp 1 (k+1)):=Kly gp.sp 1 k hy;obtain⟨f,hf⟩:=jG y.frm;obtain⟨t,ht⟩:=jG y.to_;have HY:Hid (Kbo y = [.int .i64 f,.int .i64 t]):=by show _=_;rw[hf,ht];rfl
       rw[<-hf]at e0;rw[<-ht]at e1;subst aO;clear ar hy hf ht am aj;go_upto_block 5 with fail
       go_cut [10] from 31 to 46 (fun s10 wz=>∃(v10:Value) (h':Hd4),v10=s10/\Hid (GNw wo wz p h' gp.labels (spAt gp.sp 1 (k+1))))
       case first=>
        go_upto_region 12 with fail
        obtain⟨w1,al⟩:=jG (wr.alloc (.cells #[.int .i64 f,.int .i64 t] 96));obtain⟨p1,ap⟩:=jG wr.heap.size;have aB:Below wr.heap.size wr w1:=by rw[al];exact(Below.refl _ _).alloc (bE _) _
        have ab:Hid (GNw wo w1 p h gp.labels (spAt gp.sp 1 k)):=HN.out.below aB;have an:Blk w1 p1 96 #[.int .i64 f,.int .i64 t]:=by rw[al,ap];exact bX _ _ _
        have s0:w1.cell? ⟨p1,0,none⟩=some (.int .i64 f):=an.cell 0;have s1:w1.cell? ⟨p1,1,none⟩=some (.int .i64 t):=an.cell 1;have sl:=an.lt
        try rw[<-al,<-ap]
        clear al ap aB an e0 e1 ah HN;have aa:=ab.out.g.s 1 (by decide);obtain⟨m2,ak⟩:=jF ((spAt gp.sp 1 k 1).length);have bl:m2<=k:=by rw[<-ak];unfold spAt;simp;omega
        have aI:=Jh ak;rw[ak]at aa;obtain⟨⟨af,ad,ac⟩,h0,h1,h2⟩:=h;obtain⟨VA,vn,vc⟩:=h1;have aJ:vn=m2:=Kob aa;subst aJ;have ai:Hid (w1.ownsRow wo.heap.size 97 2 (.slice VA vn vc) vn ((spAt gp.sp 1 k 1).flatMap Kbo)):=aa;have aq:=ab.out.x;have d1:w1.cell? ⟨p,2,none⟩=some (.slice VA vn vc):=aq.cell 2;have bi:=aq.lt;have bd:wo.heap.size<=w1.heap.size:=ab.out.b.size
        have aN:Hid (∀w5:World,(w1.drew.alloc (.cells #[.int .i64 f,.int .i64 t] 97)).grownBy w5 (bU VA vn vc).ownBlock->w5.cell? ⟨p,2,none⟩=some (.slice VA vn vc)/\w5.frozen? ⟨p,2,none⟩=false/\p<w5.heap.size/\w1.grownBy w5 (bU VA vn vc).ownBlock):=fun w5 hg=>by have h1:Blk w1.drew p 94 _:=ab.out.x;have h2:=(h1.alloc (.cells #[.int .i64 f,.int .i64 t] 97)).grown hg (Kak ab.out.x ai.out (by decide));have h3:w1.drew.grownBy w5 (bU VA vn vc).ownBlock:=(bV w1.drew _ _).trans hg;exact⟨h2.cell 2,h2.frozen 2,h2.lt,⟨h3.os,h3.tape,h3.output,h3.size,h3.block⟩⟩
        have ae:Hid (∀j u,([.int .i64 f,.int .i64 t]:List Value)[j]? = some u->(w1.drew.alloc (.cells #[.int .i64 f,.int .i64 t] 97)).cell? ((⟨w1.heap.size,0,none⟩:Addr).add j)=some u):=Kam (l:=[.int .i64 f,.int .i64 t]) (bX w1.drew _ _);have aP:Hid (∀u∈([.int .i64 f,.int .i64 t]:List Value),u.oneCell'=true):=by show ∀u∈_,_;intro u hu;simp at hu;rcases hu with rfl | rfl <;> rfl
        clear aa aq ak;go_region_law ((refine step_append_lies _ (by rfl) _ _ _ (by rfl) wo.heap.size 97 i2 (.agg #[.int .i64 0,.int .i64 0]) 2 16 underlying91 a8 a7 a5 a6 rfl (by omega) (.slice VA vn vc) vn _ (by rfl) (b3 (w:=w1.drew) ai.out _) ⟨w1.heap.size,0,none⟩ 1 1 [.int .i64 f,.int .i64 t] (by rfl) (by rfl) ae.out aP.out (by omega) (by simp only[maxLen];omega) (by omega) (by simp;omega) (w1.heap.size+1) (by simp) ?_;intro g cap w5 hown5 hgrow hat hlt5;obtain⟨kz,fz,pz,aC⟩:=aN.out _ hgrow))
        all_goals
         have aw:Hid (GNw wo (w5.setCell ⟨p,2,none⟩ (.slice (some ⟨g,0,none⟩) (vn+1) cap)) p (Hd4.put ⟨⟨af,ad,ac⟩,h0,⟨VA,vn,vc⟩,h2⟩ 1 ⟨some ⟨g,0,none⟩,vn+1,cap⟩) gp.labels (spAt gp.sp 1 (k+1))):=by
          show GNw _ _ _ _ _ _
          rw[<-aL.out];refine ab.out.put (r:=1) (by decide) aC (y:=⟨some ⟨g,0,none⟩,vn+1,cap⟩) (by rw[bF,bH,aI.out,bG,HY.out];exact hown5) fun j hj=>?_
          have aR:g=j:=by injection hj
          subst aR;exact hat.imp (fun e=>e) fun e=>by omega
         clear hat hgrow hown5 aC;go_wp2_with fail
         go_meet
         exact⟨_,_,rfl,aw⟩
       case rest=>
        obtain⟨v10,h',rfl,aw⟩:=hcut;clear HN e0 e1 ah;go_wp2_with fail
        go_roundg (n1 - (k+1))
        case measure=>omega
        case rel=>exact⟨k+1,_,by first | rfl | go_num,by omega,aw⟩
      .have av:¬(k:Int)<(n1:Int):=by omega
       have az:Hid (GNw wo wr p h gp.labels (spAt gp.sp 2 0)):=by show GNw _ _ _ _ _ _;rw[<-Kod gp.sp 1 k (by rw[a3.out.len];exact hge2)];exact HN.out
       clear HN;have HN:=az;clear az;go_wp2_with fail
       rw[rounds_succ];go_wp2_with fail
       go_loopg [29] n2 (fun kx s29 wr=>∃(k:Nat) (h:Hd4),s29 = .int .i64 (k:Int)/\k+kx=n2/\Hid (GNw wo wr p h gp.labels (spAt gp.sp 2 k)))
       case atStart=>exact⟨0,_,rfl,by omega,HN⟩
       case round=>
        clear HN;obtain⟨k,h,rfl,hk,HN⟩:=hrel;rcases bI k n2 with hlt2 | hge2
        .have av:(k:Int)<(n2:Int):=by omega
         obtain⟨bx,ox,aO,aj,ar⟩:=aX.out.2 (by omega);obtain⟨y,hy⟩:∃y,(gp.sp 2)[k]? = some y:=⟨(gp.sp 2)[k]'(by rw[aX.out.len];exact hlt2),bL _⟩;have am:Below w.heap.size w wr:=ax.out.trans (HN.out.b.mono ax.out.size);have e0:wr.cell? ⟨bx,ox+k*2,none⟩=some (.int .i64 y.frm):=(am.cell (p:=⟨bx,ox+k*2,none⟩) aj).trans (ar k y hy 0 _ rfl);have e1:wr.cell? ⟨bx,ox+k*2+1,none⟩=some (.int .i64 y.to_):=(am.cell (p:=⟨bx,ox+k*2+1,none⟩) aj).trans (ar k y hy 1 _ rfl);have ah:bx<wr.heap.size:=bD aj am.size;have aL:Hid ((fun j=>if j=2 then spAt gp.sp 2 k 2 ++ [y] else spAt gp.sp 2 k j)=spAt gp.sp 2 (k+1)):=Kly gp.sp 2 k hy;obtain⟨f,hf⟩:=jG y.frm;obtain⟨t,ht⟩:=jG y.to_;have HY:Hid (Kbo y = [.int .i64 f,.int .i64 t]):=by show _=_;rw[hf,ht];rfl
         rw[<-hf]at e0;rw[<-ht]at e1;subst aO;clear ar hy hf ht am aj;go_upto_block 5 with fail
         go_cut [10] from 31 to 46 (fun s10 wz=>∃(v10:Value) (h':Hd4),v10=s10/\Hid (GNw wo wz p h' gp.labels (spAt gp.sp 2 (k+1))))
         case first=>
          go_upto_region 12 with fail
          obtain⟨w1,al⟩:=jG (wr.alloc (.cells #[.int .i64 f,.int .i64 t] 96));obtain⟨p1,ap⟩:=jG wr.heap.size;have aB:Below wr.heap.size wr w1:=by rw[al];exact(Below.refl _ _).alloc (bE _) _
          have ab:Hid (GNw wo w1 p h gp.labels (spAt gp.sp 2 k)):=HN.out.below aB;have an:Blk w1 p1 96 #[.int .i64 f,.int .i64 t]:=by rw[al,ap];exact bX _ _ _
          have s0:w1.cell? ⟨p1,0,none⟩=some (.int .i64 f):=an.cell 0;have s1:w1.cell? ⟨p1,1,none⟩=some (.int .i64 t):=an.cell 1;have sl:=an.lt
          try rw[<-al,<-ap]
          clear al ap aB an e0 e1 ah HN;have aa:=ab.out.g.s 2 (by decide);obtain⟨m2,ak⟩:=jF ((spAt gp.sp 2 k 2).length);have bl:m2<=k:=by rw[<-ak];unfold spAt;simp;omega
          have aI:=Jh ak;rw[ak]at aa;obtain⟨⟨af,ad,ac⟩,h0,h1,h2⟩:=h;obtain⟨VA,vn,vc⟩:=h2;have aJ:vn=m2:=Kob aa;subst aJ;have ai:Hid (w1.ownsRow wo.heap.size 97 2 (.slice VA vn vc) vn ((spAt gp.sp 2 k 2).flatMap Kbo)):=aa;have aq:=ab.out.x;have d1:w1.cell? ⟨p,3,none⟩=some (.slice VA vn vc):=aq.cell 3;have bi:=aq.lt;have bd:wo.heap.size<=w1.heap.size:=ab.out.b.size
          have aN:Hid (∀w5:World,(w1.drew.alloc (.cells #[.int .i64 f,.int .i64 t] 97)).grownBy w5 (bU VA vn vc).ownBlock->w5.cell? ⟨p,3,none⟩=some (.slice VA vn vc)/\w5.frozen? ⟨p,3,none⟩=false/\p<w5.heap.size/\w1.grownBy w5 (bU VA vn vc).ownBlock):=fun w5 hg=>by have h1:Blk w1.drew p 94 _:=ab.out.x;have h2:=(h1.alloc (.cells #[.int .i64 f,.int .i64 t] 97)).grown hg (Kak ab.out.x ai.out (by decide));have h3:w1.drew.grownBy w5 (bU VA vn vc).ownBlock:=(bV w1.drew _ _).trans hg;exact⟨h2.cell 3,h2.frozen 3,h2.lt,⟨h3.os,h3.tape,h3.output,h3.size,h3.block⟩⟩
          have ae:Hid (∀j u,([.int .i64 f,.int .i64 t]:List Value)[j]? = some u->(w1.drew.alloc (.cells #[.int .i64 f,.int .i64 t] 97)).cell? ((⟨w1.heap.size,0,none⟩:Addr).add j)=some u):=Kam (l:=[.int .i64 f,.int .i64 t]) (bX w1.drew _ _);have aP:Hid (∀u∈([.int .i64 f,.int .i64 t]:List Value),u.oneCell'=true):=by show ∀u∈_,_;intro u hu;simp at hu;rcases hu with rfl | rfl <;> rfl
          clear aa aq ak;go_region_law ((refine step_append_lies _ (by rfl) _ _ _ (by rfl) wo.heap.size 97 i2 (.agg #[.int .i64 0,.int .i64 0]) 2 16 underlying91 a8 a7 a5 a6 rfl (by omega) (.slice VA vn vc) vn _ (by rfl) (b3 (w:=w1.drew) ai.out _) ⟨w1.heap.size,0,none⟩ 1 1 [.int .i64 f,.int .i64 t] (by rfl) (by rfl) ae.out aP.out (by omega) (by simp only[maxLen];omega) (by omega) (by simp;omega) (w1.heap.size+1) (by simp) ?_;intro g cap w5 hown5 hgrow hat hlt5;obtain⟨kz,fz,pz,aC⟩:=aN.out _ hgrow))
          all_goals
           have aw:Hid (GNw wo (w5.setCell ⟨p,3,none⟩ (.slice (some ⟨g,0,none⟩) (vn+1) cap)) p (Hd4.put ⟨⟨af,ad,ac⟩,h0,h1,⟨VA,vn,vc⟩⟩ 2 ⟨some ⟨g,0,none⟩,vn+1,cap⟩) gp.labels (spAt gp.sp 2 (k+1))):=by
            show GNw _ _ _ _ _ _
            rw[<-aL.out];refine ab.out.put (r:=2) (by decide) aC (y:=⟨some ⟨g,0,none⟩,vn+1,cap⟩) (by rw[bF,bH,aI.out,bG,HY.out];exact hown5) fun j hj=>?_
            have aR:g=j:=by injection hj
            subst aR;exact hat.imp (fun e=>e) fun e=>by omega
           clear hat hgrow hown5 aC;go_wp2_with fail
           go_meet
           exact⟨_,_,rfl,aw⟩
         case rest=>
          obtain⟨v10,h',rfl,aw⟩:=hcut;clear HN e0 e1 ah;go_wp2_with fail
          go_roundg (n2 - (k+1))
          case measure=>omega
          case rel=>exact⟨k+1,_,by first | rfl | go_num,by omega,aw⟩
        .have av:¬(k:Int)<(n2:Int):=by omega
         have az:Hid (GNw wo wr p h gp.labels (spAt gp.sp 3 0)):=by show GNw _ _ _ _ _ _;rw[<-Kod gp.sp 2 k (by rw[aX.out.len];exact hge2)];exact HN.out
         clear HN;have HN:=az;clear az;go_wp2_with fail
         have aF:=HN.out.g;have aH:=HN.out.x;have aj:=HN.out.b;obtain⟨⟨af,ad,ac⟩,⟨a0,m0,d0⟩,⟨a1,m1,d1⟩,⟨a2,m2,d2⟩⟩:=h
         have bm:Hid (GRw w.heap.size wr ⟨⟨af,ad,ac⟩,⟨a0,m0,d0⟩,⟨a1,m1,d1⟩,⟨a2,m2,d2⟩⟩ gp.labels gp.sp):=by have h1:=aF.mono ax.out.size;exact⟨h1.l,fun r hr=>by have h2:=h1.s r hr;rw[Qch gp.sp hr]at h2;exact h2⟩
         have ba:Hid (GOut w wr (.slice A3 i c3) xs):=HO.out.below aj;have x0:wr.cell? ⟨p,0,none⟩=some (.slice af ad ac):=aH.cell 0;have x1:wr.cell? ⟨p,1,none⟩=some (.slice a0 m0 d0):=aH.cell 1;have x2:wr.cell? ⟨p,2,none⟩=some (.slice a1 m1 d1):=aH.cell 2;have x3:wr.cell? ⟨p,3,none⟩=some (.slice a2 m2 d2):=aH.cell 3;have xl:=aH.lt;obtain⟨w6,aQ⟩:=jG (wr.alloc (.cells #[.slice af ad ac,.slice a0 m0 d0,.slice a1 m1 d1,.slice a2 m2 d2] 94));have aY:Below wr.heap.size wr w6:=by rw[aQ];exact(Below.refl _ _).alloc (bE _) _
         have aD:Blk w6 wr.heap.size 94 #[.slice af ad ac,.slice a0 m0 d0,.slice a1 m1 d1,.slice a2 m2 d2]:=by rw[aQ];exact bX _ _ _
         have aT:Hid (GOut w w6 (.slice A3 i c3) xs):=ba.out.below aY;have bb:Hid (GRw w.heap.size w6 ⟨⟨af,ad,ac⟩,⟨a0,m0,d0⟩,⟨a1,m1,d1⟩,⟨a2,m2,d2⟩⟩ gp.labels gp.sp):=bm.out.below aY;have aA:w6.ownsRow w.heap.size 94 4 (.slice A3 i c3) i (xs.flatMap encHG):=by have:=aT.out.row;rw[HX.out.1]at this;exact this
         have bk:w.heap.size<=w6.heap.size:=aT.out.b.size;clear aF aH aj aY ba bm HO HN;rw[rounds_succ];go_wp2_with (at_builtin;(try rw[<-aQ]);refine wpList_append_own_at _ rfl _ _ 37 rfl w.heap.size 94 i4 (.agg #[.slice none 0 0,.slice none 0 0,.slice none 0 0,.slice none 0 0]) 4 96 underlying37 bv bC bq bs rfl (by decide) (.slice A3 i c3) i _ rfl aA ⟨wr.heap.size,0,none⟩ 1 1 [.slice af ad ac,.slice a0 m0 d0,.slice a1 m1 d1,.slice a2 m2 d2] rfl rfl (Kam (l:=[.slice af ad ac,.slice a0 m0 d0,.slice a1 m1 d1,.slice a2 m2 d2]) aD) ?p2 ?p3 ?p4 ?p5 ?_)
         case p2=>intro u hu;simp only[List.mem_cons,List.not_mem_nil,or_false]at hu;rcases hu with rfl | rfl | rfl | rfl <;> rfl
         case p3=>unfold maxLen;omega
         case p4=>omega
         case p5=>exact bk
         intro v9 w9 hown' hgrow _ _;rw[<-aQ]at hgrow;have bh:Hid (GOut w w9 v9 (xs ++ [(⟨⟨af,ad,ac⟩,⟨a0,m0,d0⟩,⟨a1,m1,d1⟩,⟨a2,m2,d2⟩⟩,gp)])):=aT.out.snoc hgrow (by rw[HX.out.1];exact hown') bb.out
         have be:Hid ((xs ++ [((⟨⟨af,ad,ac⟩,⟨a0,m0,d0⟩,⟨a1,m1,d1⟩,⟨a2,m2,d2⟩⟩:Hd4),gp)]).length=i+1/\(xs ++ [((⟨⟨af,ad,ac⟩,⟨a0,m0,d0⟩,⟨a1,m1,d1⟩,⟨a2,m2,d2⟩⟩:Hd4),gp)]).map bT=(ghs.take (i+1)).map bT):=by refine⟨by rw[bF,HX.out.1];rfl,?_⟩;rw[bw.out,bP,HX.out.2];rfl
         generalize xs ++ [((⟨⟨af,ad,ac⟩,⟨a0,m0,d0⟩,⟨a1,m1,d1⟩,⟨a2,m2,d2⟩⟩:Hd4),gp)]=xs9 at bh be;clear hown' hgrow aA aD aQ bk aT bb x0 x1 x2 x3 xl;go_wp2_with fail
         go_roundg (n - (i+1))
         case measure=>omega
         case rel=>exact⟨i+1,xs9,by first | rfl | go_num,by omega,be,bh⟩
  .have bA:¬(i:Int)<(n:Int):=by omega
   have br:i=n:=by omega
   subst br
   have HF:Hid (Gones wr A3 i xs/\xs.map bT=ghs.map bT/\Below w.heap.size w wr):=by
    have h1:=HX.out.2;rw[bJ (by rw[HG.out.e.len];exact bE _)]at h1;refine⟨HO.out.gones HX.out.1 hn fun y hy=>?_,h1,HO.out.b⟩;have h2:y.2∈ghs.map bT:=by rw[<-h1];exact List.mem_map_of_mem hy
    obtain⟨x,hx,e⟩:=List.mem_map.1 h2;have h3:=HG.out.a x hx;rw[<-e];exact⟨by rw[h3.l.len];exact h3.z,fun r hr=>by rw[(h3.s r hr).1.len];exact(h3.s r hr).2⟩
   clear HO HX;go_wp2_with fail
   go_ret
   first | exact⟨A3,c3,xs,rfl,HF.out.1,HF.out.2.1,HF.out.2.2⟩ | exact⟨A3,⟨c3,rfl⟩,xs,HF.out.1,HF.out.2.1,HF.out.2.2⟩
end
end
section
open Go.Shelf Go.RowKit Go.Lib Go.Sort
open Lib renaming hid -> Jh
open List renaming setIfInBounds_toArray -> Ja, set_cons_zero -> Jb, set_cons_succ -> Jc
attribute [local go_sem ↓] Go.wp_at_zero Go.wp_at_succ
attribute [local go_sem] Later.cell
section
theorem Qcm {hs hs':List (Hd4×GoneP)}(h:hs'.map bT=hs.map bT) (r:Nat) (l:List Lb) (t:Int):Kbb hs' r l t=Kbb hs r l t:=by
 have e:∀hs:List (Hd4×GoneP),Kbb hs r l t=(hs.map bT).any (goneF r l t):=fun hs=>by unfold Kbb;rw[List.any_map];rfl
 rw[e,e,h]
theorem Qcj {hs hs':List (Hd4×GoneP)}(h:hs'.map bT=hs.map bT) (r:Int) (ss:List Ser):Kbn r hs' ss=Kbn r hs ss:=by unfold Kbn;simp only[Qcm h]
def Khl (n:Nat) (cs:List Cont) (ghs:List (Hd4×GoneP)):Int×Cont:=
 if n=0\/okAll cs=false then (190,⟨0,0,0,[]⟩) else (0,⟨(outC cs).1,(outC cs).2.1,(outC cs).2.2,Kbn (outC cs).1 ghs (Kae (cs.map bZ).flatten)⟩)
theorem Qac {e:Ending}{w':World}{n:Nat}{cs:List Cont}{ghs ghs':List (Hd4×GoneP)}(hsn:ghs'.map bT=ghs.map bT) (hz:SSz (Kbn (outC cs).1 ghs (Kae (cs.map bZ).flatten)))
  (h:(n=0\/okAll cs=false)/\e = .returned (.tuple #[.agg #[.int .i64 0,.int .i64 0,.int .i64 0,.slice none 0 0],.int .i64 190])\/
    (n≠0/\okAll cs=true)/\∃(A':Option Addr) (n' c':Nat),e = .returned (.tuple #[.agg #[.int .i64 (outC cs).1,.int .i64 (outC cs).2.1,.int .i64 (outC cs).2.2,.slice A' n' c'],.int .i64 0])/\Sers w' A' n' (Kbn (outC cs).1 ghs' (Kae (cs.map bZ).flatten))/\n'<=c') :
  ∃(A':Option Addr) (n' c':Nat),e = .returned (.tuple #[.agg #[.int .i64 (Khl n cs ghs).2.res,.int .i64 (Khl n cs ghs).2.frm,.int .i64 (Khl n cs ghs).2.to_,.slice A' n' c'],.int .i64 (Khl n cs ghs).1])/\Kbe w' A' n' (Khl n cs ghs).2.series:=by
 unfold Khl;rcases h with ⟨h1,rfl⟩ | ⟨⟨h1,h2⟩,A',n',c',rfl,hs,_⟩
 .rw[jN h1];exact⟨none,0,0,rfl,Sers.nil _,by simp,fun s hs=>by simp at hs⟩
 .rw[jM (by rw[h2];simp[h1])];rw[Qcj hsn]at hs;exact⟨A',n',c',rfl,hz.ok hs⟩
theorem Kkq (gB:Option Addr) (gN gC:Nat) (ghs:List (Hd4×GoneP)) (A:Option Addr) (n c:Nat) (xs:List CH) (cs:List Cont) (w:World) (h:Kzo w A n xs cs) (hG:Gones w gB gN ghs) (hE:BEnv w) :
  Calls prog 3 #[.slice gB gN gC,.slice A n c] w fun e w'=>e = .returned (.bool true)/\Below w.heap.size w w':=by
 have a9:Hid (SSz (Kbn (outC cs).1 ghs (Kae (cs.map bZ).flatten))):=(SSz.mk h.n h.m h.k h.z).sub ((Khh _).trans (Ksv _ _ _));have ac:Hid ((cs.map bZ).flatten.length<=1073741824/\sumS (cs.map bZ).flatten<=1073741824):=⟨by have:=h.n;omega,by have:=h.m;omega⟩;have aE:=Jh (Kmo A n c xs cs w h.c);have aD:=Jh h.c;have HG:=Jh hG;have HE:=Jh hE;have hn:=h.c.n;obtain⟨N,hN⟩:=jG n;obtain⟨cX,bi⟩:=jG c;rw[<-hN]at aE aD hn |-;rw[<-bi]at aE |-;clear h hG hE hN bi;go_enter func3,ntmps3
 go_wp2_with fail
 refine aE.out.mono ?_;rintro _ w1 ⟨A1,cY,ys,rfl,bg,_,ae⟩;have a5:=Jh bg;have aR:=Jh ae;have HC:=Jh (Kke gB gN gC ghs A N cX xs cs w1 (aD.out.below ae) (HG.out.below ae) (HE.out.below ae) ac.out.1 ac.out.2);clear bg ae aE;go_wp2_with fail
 refine HC.out.mono ?_;rintro e2 w2 ⟨aA,al⟩;have ad:=Qac rfl a9.out aA;obtain⟨mk,aW⟩:=jG (Khl N cs ghs);rw[<-aW]at ad;have bb:=Jh aW;obtain⟨er,cc⟩:=mk;obtain⟨r,hr⟩:=jF cc.res;obtain⟨f,hf⟩:=jF cc.frm;obtain⟨t,ht⟩:=jF cc.to_;dsimp only at ad;rw[hr,hf,ht]at ad;have ao:Hid (cc.res=r/\cc.frm=f/\cc.to_=t):=⟨hr,hf,ht⟩;obtain⟨A2,n2,c2,rfl,am⟩:=ad;have aU:Hid (Below w.heap.size w w2):=aR.out.trans (al.mono aR.out.size);have bp:Hid (Kbv w2 A1 N ys cs):=a5.out.below al;have bf:=Jh am;clear aA aW hr hf ht am al HC aR a5;obtain⟨w3,aG⟩:=jG (w2.alloc (.cells #[.int .i64 r,.int .i64 f,.int .i64 t,.slice A2 n2 c2] 28));obtain⟨p6,aM⟩:=jG w2.heap.size;have aI:Below w2.heap.size w2 w3:=by rw[aG];exact(Below.refl _ _).alloc (bE _) _
 have aQ:Hid (Blk w3 p6 28 #[.int .i64 r,.int .i64 f,.int .i64 t,.slice A2 n2 c2]):=by show Blk _ _ _ _;rw[aG,aM];exact bX _ _ _
 have aF:Hid (Below w.heap.size w w3):=aU.out.trans (aI.mono aU.out.size);have bl:Hid (Kbv w3 A1 N ys cs):=bp.out.below aI;have be:Hid (Kbe w3 A2 n2 cc.series):=bf.out.below aI;have bo:=Jh (Kqs ghs gB gN gC w3 (HG.out.below aF.out));have aS:Hid (w3=w2.alloc (.cells #[.int .i64 r,.int .i64 f,.int .i64 t,.slice A2 n2 c2] 28)/\p6=w2.heap.size):=⟨aG,aM⟩;clear aG aM aI aU bp bf;go_upto_region 3 with fail
 try rw[<-aS.out.1]
 try rw[<-aS.out.2]
 clear aS;go_wp2_with fail
 refine bo.out.mono ?_;rintro _ w4 ⟨G4,g4,aN,rfl,bc,bn,ay⟩;have aL:Hid (Below w.heap.size w w4):=aF.out.trans (ay.mono aF.out.size);have ah:Hid (Blk w4 p6 28 #[.int .i64 r,.int .i64 f,.int .i64 t,.slice A2 n2 c2]):=aQ.out.below ay aQ.out.lt;have aP:Hid (Kbv w4 A1 N ys cs):=bl.out.below ay;have bk:Hid (Kbe w4 A2 n2 cc.series):=be.out.below ay;have a6:=Jh bn;have ba:=Jh (Kqz G4 gN g4 aN A1 N cY ys cs w4 aP.out bc ac.out.1 ac.out.2);clear bc bn ay bo aF aQ bl be;go_wp2_with fail
 refine ba.out.mono ?_;rintro e5 w5 ⟨aA,aw⟩;have ad:=Qac a6.out a9.out aA;rw[<-bb.out]at ad;dsimp only at ad;rw[ao.out.1,ao.out.2.1,ao.out.2.2]at ad;obtain⟨A5,n5,c5,rfl,bm⟩:=ad;have aT:Hid (Below w.heap.size w w5):=aL.out.trans (aw.mono aL.out.size);have ag:Hid (Blk w5 p6 28 #[.int .i64 r,.int .i64 f,.int .i64 t,.slice A2 n2 c2]):=ah.out.below aw ah.out.lt;have bh:Hid (Kbv w5 A1 N ys cs):=aP.out.below aw;have aV:Hid (Kbe w5 A2 n2 cc.series/\Kbe w5 A5 n5 cc.series):=⟨bk.out.below aw,bm⟩;clear aA bm aw ba aL ah aP bk bb a6;obtain⟨w6,aH⟩:=jG (w5.alloc (.cells #[.int .i64 r,.int .i64 f,.int .i64 t,.slice A5 n5 c5] 34));obtain⟨p8,aY⟩:=jG w5.heap.size;have ai:Below w5.heap.size w5 w6:=by rw[aH];exact(Below.refl _ _).alloc (bE _) _
 have aX:Hid (Blk w6 p8 34 #[.int .i64 r,.int .i64 f,.int .i64 t,.slice A5 n5 c5]):=by show Blk _ _ _ _;rw[aH,aY];exact bX _ _ _
 have af:Hid (Blk w6 p6 28 #[.int .i64 r,.int .i64 f,.int .i64 t,.slice A2 n2 c2]):=ag.out.below ai ag.out.lt;have aJ:Hid (Below w.heap.size w w6):=aT.out.trans (ai.mono aT.out.size);have a7:Hid (Kbv w6 A1 N ys cs):=bh.out.below ai;have aZ:Hid (Kbe w6 A2 n2 cc.series/\Kbe w6 A5 n5 cc.series):=⟨aV.out.1.below ai,aV.out.2.below ai⟩;have aK:Hid (w6=w5.alloc (.cells #[.int .i64 r,.int .i64 f,.int .i64 t,.slice A5 n5 c5] 34)/\p8=w5.heap.size):=⟨aH,aY⟩;clear aH aY ai aT ag bh aV;go_upto_region 4 with fail
 try rw[<-aK.out.1]
 try rw[<-aK.out.2]
 clear aK;have bv:(er != er)=false:=by simp
 have x1:=ao.out.1;have x2:=ao.out.2.1;have x3:=ao.out.2.2
 have av:Hid (∀W,Below w6.heap.size w6 W->Calls prog 18 #[.agg #[.int .i64 r,.int .i64 f,.int .i64 t,.slice A2 n2 c2]] W fun e w'=>∃u,e = .returned u/\∃h':Hd,u = .agg #[.int .i64 r,.int .i64 f,.int .i64 t,.slice h'.A h'.n h'.c]/\Kbe w' h'.A h'.n cc.series/\Below W.heap.size W w'):=fun W hw=>by have hs:=aZ.out.1.below hw;have:=Khf cc ⟨A2,n2,c2⟩ W hs;rw[x1,x2,x3]at this;refine this.mono ?_;rintro e w' ⟨⟨h',rfl,hr⟩,hb⟩;exact⟨_,rfl,h',rfl,⟨hr.sers.1,hs.n,hs.z⟩,hb⟩
 have aB:Hid (∀(h':Hd) W,Below w6.heap.size w6 W->Kbe W h'.A h'.n cc.series->Calls prog 17 #[.agg #[.int .i64 r,.int .i64 f,.int .i64 t,.slice h'.A h'.n h'.c],.agg #[.int .i64 r,.int .i64 f,.int .i64 t,.slice A5 n5 c5]] W fun e w'=>∃u,e = .returned u/\u = .bool true/\Below W.heap.size W w'):=fun h' W hw hs=>by have am:=aZ.out.2.below hw;have:=Klo cc cc h' ⟨A5,n5,c5⟩ W hs am;rw[jL rfl,x1,x2,x3]at this;refine this.mono ?_;rintro e w' ⟨rfl,hb⟩;exact⟨_,rfl,rfl,hb⟩
 refine Kck (fun w'=>Below w6.heap.size w6 w') 14 14 (by kernel_rfl) rfl ?_;rw[show bQ 14 false = #[false,false,false,false,false,false,false,false,false,false,false,false,false,false] from rfl];have HS:Hid (Below w6.heap.size w6 w6.drew):=(Below.refl _ _).drew
 have bj:Hid (Calls prog 16 #[] w6.drew fun e w'=>∃u,e = .returned u/\u = .bool true/\Below w6.drew.heap.size w6.drew w'):=by refine(Kuf w6.drew (HE.out.below aJ.out.drew)).mono ?_;rintro e w' ⟨rfl,hb⟩;exact⟨_,rfl,rfl,hb⟩
 clear x1 x2 x3;refine Kel (i:=0) (by kernel_rfl) rfl (by rfl) ?_;refine bY (d:=some 26) (g:=16) (args:=#[]) rfl (by go_simp;try rfl) (bj).out ?_;rintro u w7 ⟨rfl,ab⟩;have aa:=HS.out.trans (ab.mono HS.out.size);refine⟨fun _=>aa,?_⟩;simp only[bS,Ja,Jb,Jc];clear HS;have HS:=Jh aa;clear aa;clear ab bj;refine kP (i:=1) (v:=.bool false) (d:=some 27) HS.out ?_;simp only[bS,Ja,Jb,Jc];refine kP (i:=2) (v:=.bool false) (d:=some 28) HS.out ?_;simp only[bS,Ja,Jb,Jc];refine kP (i:=3) (v:=.int .i64 er) (d:=some 29) HS.out ?_;simp only[bS,Ja,Jb,Jc];refine kP (i:=4) (v:=.int .i64 er) (d:=some 30) HS.out ?_;simp only[bS,Ja,Jb,Jc];refine kP (i:=5) (v:=.bool false) (d:=some 31) HS.out ?_;simp only[bS,Ja,Jb,Jc];refine kP (i:=6) (v:=.bool false) (d:=some 32) HS.out ?_;simp only[bS,Ja,Jb,Jc];refine kP (i:=7) (v:=.bool false) (d:=some 33) HS.out ?_;simp only[bS,Ja,Jb,Jc]
 refine Kbc (i:=8) (v:=.agg #[.int .i64 r,.int .i64 f,.int .i64 t,.slice A2 n2 c2]) (d:=some 34) rfl rfl (by kernel_rfl) (by kernel_rfl) (by kernel_rfl) (by kernel_rfl) rfl (fun _ _ _ h=>h) (.inl ⟨by rfl,fun w' hw=>by
  have hk:=af.out.below hw af.out.lt;have q0:=hk.cell 0;have q1:=hk.cell 1;have q2:=hk.cell 2;have q3:=hk.cell 3;simp at q0 q1 q2 q3;have ql:=hk.lt;go_simp
  try rfl⟩) HS.out ?_
 simp only[bS,Ja,Jb,Jc]
 refine Kbc (i:=10) (v:=.agg #[.int .i64 r,.int .i64 f,.int .i64 t,.slice A5 n5 c5]) (d:=some 36) rfl rfl (by kernel_rfl) (by kernel_rfl) (by kernel_rfl) (by kernel_rfl) rfl (fun _ _ _ h=>h) (.inl ⟨by rfl,fun w' hw=>by
  have hk:=aX.out.below hw aX.out.lt;have q0:=hk.cell 0;have q1:=hk.cell 1;have q2:=hk.cell 2;have q3:=hk.cell 3;simp at q0 q1 q2 q3;have ql:=hk.lt;go_simp
  try rfl⟩) HS.out ?_
 simp only[bS,Ja,Jb,Jc];refine Kel (i:=9) (by kernel_rfl) rfl (by rfl) ?_;refine bY (d:=some 35) (g:=18) (args:=#[.agg #[.int .i64 r,.int .i64 f,.int .i64 t,.slice A2 n2 c2]]) rfl (by go_simp;try rfl) (Jh (av.out _ HS.out)).out ?_;rintro u w8 ⟨h',rfl,az,ab⟩;have aa:=HS.out.trans (ab.mono HS.out.size);refine⟨fun _=>aa,?_⟩;simp only[bS,Ja,Jb,Jc];clear HS;have HS:=Jh aa;clear aa;have ar:Hid (Kbe w8 h'.A h'.n cc.series):=az;clear az ab;obtain⟨rA,rn,rc⟩:=h';refine Kel (i:=11) (by kernel_rfl) rfl (by rfl) ?_;refine bY (d:=some 37) (g:=17) (args:=#[.agg #[.int .i64 r,.int .i64 f,.int .i64 t,.slice rA rn rc],.agg #[.int .i64 r,.int .i64 f,.int .i64 t,.slice A5 n5 c5]]) rfl (by go_simp;try rfl) (Jh (aB.out ⟨rA,rn,rc⟩ _ HS.out ar.out)).out ?_;rintro u wb ⟨rfl,ab⟩;have aa:=HS.out.trans (ab.mono HS.out.size);refine⟨fun _=>aa,?_⟩;simp only[bS,Ja,Jb,Jc];clear HS;have HS:=Jh aa;clear aa;clear ab;refine kP (i:=12) (v:=.bool false) (d:=some 38) HS.out ?_;simp only[bS,Ja,Jb,Jc];refine kP (i:=13) (v:=.bool false) (d:=some 39) HS.out ?_;simp only[bS,Ja,Jb,Jc];refine Kby (by kernel_rfl) ?_ _;have a4:Hid (Below w.heap.size w wb):=aJ.out.trans (HS.out.mono aJ.out.size);have HX:Hid (Kbv wb A N xs cs):=aD.out.below a4.out;have HY:Hid (Kbv wb A1 N ys cs):=a7.out.below HS.out;have bd:Hid (Below wb.heap.size wb wb):=Below.refl _ _;clear HS ar av aB aJ af aX a7 aZ bv aD;go_wp2_with fail
 go_loopg [42] N (fun kx s42 wr=>∃i:Nat,s42 = .int .i64 (i:Int)/\i+kx=N/\Hid (Below wb.heap.size wb wr))
 case atStart=>exact⟨0,rfl,by omega,bd⟩
 case round=>
  clear bd;obtain⟨i,rfl,hi,HB⟩:=hrel;rcases bI i N with hlt | hge
  .have bw:(i:Int)<(N:Int):=by omega
   have hX:=HX.out.below HB.out;have hY:=HY.out.below HB.out;obtain⟨b1,o1,bt,ae,ax⟩:=hX.e.2 (by omega);obtain⟨b2,o2,bq,al,aq⟩:=hY.e.2 (by omega);obtain⟨x,hx⟩:∃x,xs[i]? = some x:=⟨xs[i]'(by rw[hX.e.len];exact hlt),bL _⟩;obtain⟨y,hy⟩:∃y,ys[i]? = some y:=⟨ys[i]'(by rw[hY.e.len];exact hlt),bL _⟩;obtain⟨x1,x2,x3,x4,x5⟩:=hX.k i x hx;obtain⟨y1,y2,y3,y4,y5⟩:=hY.k i y hy;obtain⟨cc,a8⟩:=jG (cs[i]!);rw[<-a8]at x1 x2 x3 x4 y1 y2 y3 y4;obtain⟨xr,xf,xt,⟨hA,ak,aC⟩⟩:=x;obtain⟨yr,yf,yt,⟨aj,an,ap⟩⟩:=y;dsimp only at x1 x2 x3 x4 y1 y2 y3 y4;obtain rfl:xr=yr:=by rw[<-x1,y1]
   obtain rfl:xf=yf:=by rw[<-x2,y2]
   obtain rfl:xt=yt:=by rw[<-x3,y3]
   have a0:wr.cell? ⟨b1,o1+i*4,none⟩=some (.int .i64 xr):=ax i _ hx 0 _ rfl;have a1:wr.cell? ⟨b1,o1+i*4+1,none⟩=some (.int .i64 xf):=ax i _ hx 1 _ rfl;have a2:wr.cell? ⟨b1,o1+i*4+2,none⟩=some (.int .i64 xt):=ax i _ hx 2 _ rfl;have a3:wr.cell? ⟨b1,o1+i*4+3,none⟩=some (.slice hA ak aC):=ax i _ hx 3 _ rfl;have c0:wr.cell? ⟨b2,o2+i*4,none⟩=some (.int .i64 xr):=aq i _ hy 0 _ rfl;have c1:wr.cell? ⟨b2,o2+i*4+1,none⟩=some (.int .i64 xf):=aq i _ hy 1 _ rfl;have c2:wr.cell? ⟨b2,o2+i*4+2,none⟩=some (.int .i64 xt):=aq i _ hy 2 _ rfl;have c3:wr.cell? ⟨b2,o2+i*4+3,none⟩=some (.slice aj an ap):=aq i _ hy 3 _ rfl;have l1:b1<wr.heap.size:=ae;have l2:b2<wr.heap.size:=al;have aO:Hid (Kbe wr hA ak cc.series/\Kbe wr aj an cc.series):=⟨x4,y4⟩
   have av:Hid (∀W,Below wr.heap.size wr W->Calls prog 18 #[.agg #[.int .i64 xr,.int .i64 xf,.int .i64 xt,.slice hA ak aC]] W fun e w'=>∃u,e = .returned u/\∃h':Hd,u = .agg #[.int .i64 xr,.int .i64 xf,.int .i64 xt,.slice h'.A h'.n h'.c]/\Kbe w' h'.A h'.n cc.series/\Below W.heap.size W w'):=fun W hw=>by have hs:=aO.out.1.below hw;have:=Khf cc ⟨hA,ak,aC⟩ W hs;rw[x1,x2,x3]at this;refine this.mono ?_;rintro e w' ⟨⟨h',rfl,hr⟩,hb⟩;exact⟨_,rfl,h',rfl,⟨hr.sers.1,hs.n,hs.z⟩,hb⟩
   have aB:Hid (∀(h':Hd) W,Below wr.heap.size wr W->Kbe W h'.A h'.n cc.series->Calls prog 17 #[.agg #[.int .i64 xr,.int .i64 xf,.int .i64 xt,.slice h'.A h'.n h'.c],.agg #[.int .i64 xr,.int .i64 xf,.int .i64 xt,.slice aj an ap]] W fun e w'=>∃u,e = .returned u/\u = .bool true/\Below W.heap.size W w'):=fun h' W hw hs=>by have am:=aO.out.2.below hw;have:=Klo cc cc h' ⟨aj,an,ap⟩ W hs am;rw[jL rfl,x1,x2,x3]at this;refine this.mono ?_;rintro e w' ⟨rfl,hb⟩;exact⟨_,rfl,rfl,hb⟩
   subst bt;subst bq;clear hX hY ax aq hx hy x1 x2 x3 x4 x5 y1 y2 y3 y4 y5 a8 ae al;go_upto_region 9 with fail
   refine Kck (fun w'=>Below wr.heap.size wr w') 11 11 (by kernel_rfl) rfl ?_;rw[show bQ 11 false = #[false,false,false,false,false,false,false,false,false,false,false] from rfl];have HS:Hid (Below wr.heap.size wr wr.drew):=(Below.refl _ _).drew;refine kP (i:=0) (v:=.slice (some ⟨b1,o1,none⟩) N cX) (d:=some 45) HS.out ?_;simp only[bS,Ja,Jb,Jc];refine kP (i:=1) (v:=.int .i64 (i:Int)) (d:=some 46) HS.out ?_;simp only[bS,Ja,Jb,Jc];refine kP (i:=5) (v:=.slice (some ⟨b2,o2,none⟩) N cY) (d:=some 50) HS.out ?_;simp only[bS,Ja,Jb,Jc];refine kP (i:=6) (v:=.int .i64 (i:Int)) (d:=some 51) HS.out ?_;simp only[bS,Ja,Jb,Jc];refine kP (i:=2) (v:=.pointer (some ⟨b1,o1+i*4,none⟩)) (d:=some 47) HS.out ?_;simp only[bS,Ja,Jb,Jc];refine kP (i:=7) (v:=.pointer (some ⟨b2,o2+i*4,none⟩)) (d:=some 52) HS.out ?_;simp only[bS,Ja,Jb,Jc]
   refine Kbc (i:=3) (v:=.agg #[.int .i64 xr,.int .i64 xf,.int .i64 xt,.slice hA ak aC]) (d:=some 48) rfl rfl (by kernel_rfl) (by kernel_rfl) (by kernel_rfl) (by kernel_rfl) rfl (fun _ _ _ h=>h) (.inl ⟨by rfl,fun w' hw=>by
    have q0:=(hw.cell (p:=⟨b1,o1+i*4,none⟩) l1).trans a0;have q1:=(hw.cell (p:=⟨b1,o1+i*4+1,none⟩) l1).trans a1;have q2:=(hw.cell (p:=⟨b1,o1+i*4+2,none⟩) l1).trans a2;have q3:=(hw.cell (p:=⟨b1,o1+i*4+3,none⟩) l1).trans a3;have ql:=bD l1 hw.size;go_simp
    try rfl⟩) HS.out ?_
   simp only[bS,Ja,Jb,Jc]
   refine Kbc (i:=8) (v:=.agg #[.int .i64 xr,.int .i64 xf,.int .i64 xt,.slice aj an ap]) (d:=some 53) rfl rfl (by kernel_rfl) (by kernel_rfl) (by kernel_rfl) (by kernel_rfl) rfl (fun _ _ _ h=>h) (.inl ⟨by rfl,fun w' hw=>by
    have q0:=(hw.cell (p:=⟨b2,o2+i*4,none⟩) l2).trans c0;have q1:=(hw.cell (p:=⟨b2,o2+i*4+1,none⟩) l2).trans c1;have q2:=(hw.cell (p:=⟨b2,o2+i*4+2,none⟩) l2).trans c2;have q3:=(hw.cell (p:=⟨b2,o2+i*4+3,none⟩) l2).trans c3;have ql:=bD l2 hw.size;go_simp
    try rfl⟩) HS.out ?_
   simp only[bS,Ja,Jb,Jc];refine Kel (i:=4) (by kernel_rfl) rfl (by rfl) ?_;refine bY (d:=some 49) (g:=18) (args:=#[.agg #[.int .i64 xr,.int .i64 xf,.int .i64 xt,.slice hA ak aC]]) rfl (by go_simp;try rfl) (Jh (av.out _ HS.out)).out ?_;rintro u w8 ⟨h',rfl,az,ab⟩;have aa:=HS.out.trans (ab.mono HS.out.size);refine⟨fun _=>aa,?_⟩;simp only[bS,Ja,Jb,Jc];clear HS;have HS:=Jh aa;clear aa;have ar:Hid (Kbe w8 h'.A h'.n cc.series):=az;clear az ab;obtain⟨rA,rn,rc⟩:=h';refine Kel (i:=9) (by kernel_rfl) rfl (by rfl) ?_;refine bY (d:=some 54) (g:=17) (args:=#[.agg #[.int .i64 xr,.int .i64 xf,.int .i64 xt,.slice rA rn rc],.agg #[.int .i64 xr,.int .i64 xf,.int .i64 xt,.slice aj an ap]]) rfl (by go_simp;try rfl) (Jh (aB.out ⟨rA,rn,rc⟩ _ HS.out ar.out)).out ?_;rintro u w9 ⟨rfl,ab⟩;have aa:=HS.out.trans (ab.mono HS.out.size);refine⟨fun _=>aa,?_⟩;simp only[bS,Ja,Jb,Jc];clear HS;have HS:=Jh aa;clear aa;clear ab;refine kP (i:=10) (v:=.bool false) (d:=some 55) HS.out ?_;simp only[bS,Ja,Jb,Jc];refine Kby (by kernel_rfl) ?_ _;have br:Hid (Below wb.heap.size wb w9):=HB.out.trans (HS.out.mono HB.out.size);clear HS HB ar av aB aO a0 a1 a2 a3 c0 c1 c2 c3 l1 l2;go_wp2_with fail
   go_roundg (N - (i+1))
   case measure=>omega
   case rel=>exact⟨i+1,by first | rfl | go_num,by omega,br⟩
  .have bw:¬(i:Int)<(N:Int):=by omega
   have bs:Hid (Below w.heap.size w wr):=a4.out.trans (HB.out.mono a4.out.size);clear HB;go_wp2_with fail
   go_ret
   exact⟨rfl,bs.out⟩
end
end
section
open Go.ChangeShapes Go.WideShapes Go.ChangeAt Go.RowKit Go.ChangeMaps
theorem Kvs {P:Program}{W:World}{x:String×DataW Unit}{r:List (String×DataW Unit)}(h:laidMet P (x :: r) W):laidMet P r W:=by
 obtain⟨ps,⟨g,t,cs,f,p,q,hg,ht,hv,hd,hr,e⟩,ab,aa⟩:=h;subst e;refine⟨q,hr,?_,fun b off hm=>aa b off (by simp[hm])⟩
 first | exact(bN.1 ab).2.1 | exact(bN.1 (bN.1 ab).2.1).2.1
theorem Qcx {W:World}(h:laidMet prog Rows.blockBackRow.laid W):BEnv W:=by
 have h1:=Kvs h;have ab:Lib.TabIs prog W "math/bits.deBruijn64tab" .u8 (Lib.deBruijn64tab.map fun n:Nat=>(n:Int)):=Lib.tabIs_of_head (g:=2) (t:=348) (e:=5) (n:=64) (by kernel_rfl) (by kernel_rfl) (by kernel_rfl) (by kernel_rfl) (by kernel_rfl) (by kernel_rfl) h;have aa:Lib.TabIs prog W "almanac/enc.nibbles" .u32 [0,274646895,549293790,820201905,1098587580,1361435347,1640403810,1905808397,2197175160,2460548119,2722870694,2987750089,3280807620,3553878443,3811616794,4084100981]:=Lib.tabIs_of_head (g:=0) (t:=276) (e:=74) (n:=16) (by kernel_rfl) (by kernel_rfl) (by kernel_rfl) (by kernel_rfl) (by kernel_rfl) (by kernel_rfl) h1;refine⟨fun i hi=>?_,fun i hi=>?_⟩
 .rw[aa.cell (by kernel_rfl) i hi];rcases (by omega:i=0\/i=1\/i=2\/i=3\/i=4\/i=5\/i=6\/i=7\/i=8\/i=9\/i=10\/i=11\/i=12\/i=13\/i=14\/i=15) with rfl | rfl | rfl | rfl | rfl | rfl | rfl | rfl | rfl | rfl | rfl | rfl | rfl | rfl | rfl | rfl <;> rfl
 .rw[ab.cell (by kernel_rfl) i (by rw[List.length_map];exact hi)];congr 2;rw[bO,List.getElem?_map,bO,bL hi];rfl
def Qgm:DataW Unit->Array Value
 | .agg l=>(l.map fun | .lit (.int k v)=>Value.int k v | _=>undef).toArray
 | _=>#[]
noncomputable def Kno (os:Os):World:=
 let w0:=World.settled prog os
 let tab (h:Array Obj) (g:Nat) (d:DataW Unit):Array Obj:=h.modify g fun
  | .cells _ t frozen=>.cells (Qgm d) t frozen
  | o=>o
 { w0 with heap:=tab (tab w0.heap 2 Rows.laid_math_bits_deBruijn64tab) 0 Rows.laid_almanac_enc_nibbles }
theorem Qhu (os:Os) (args:Array Value):laidMet prog Rows.blockBackRow.laid ((Kno os).forCall (fun _ _=>0) ⟨#[],args,[]⟩).memory:=
 laidMet_of_run' 8 (by kernel_rfl) (by kernel_rfl)
theorem Qdc:(Rows.compactMakesUptoRow.inPlace == Tryz.pinned.checked.prog.inPlace 3)=true:=by kernel_rfl
theorem Qdd:(Rows.compactMakesUptoRow.unfollowed == Tryz.pinned.checked.prog.unfollowed 3)=true:=by kernel_rfl
theorem Qde:(Rows.compactMakesUptoRow.recurses == Tryz.pinned.checked.prog.recurses 3)=true:=by kernel_rfl
theorem Qdf:(Rows.compactMakesUptoRow.named == Tryz.pinned.checked.prog.varsNamed 3)=true:=by kernel_rfl
theorem Kuu:joinedFacts Tryz.pinned.checked.prog 3 Tryz.f3 (Rows.OpenSpec.upto Rows.compactMakesSpec).bare Rows.compactMakesUptoRow=true:=by
 unfold joinedFacts;simp only[Bool.and_eq_true]
 repeat' apply And.intro
 all_goals first | with_reducible exact Qdc | with_reducible exact Qdd | with_reducible exact Qde | with_reducible exact Qdf | kernel_rfl
theorem Kuw (os:Os) {H:Type}(enc:TypeId×Value->H):∃places,DataW.whole enc prog ((Kno os).forCall (fun _ _=>0) ⟨#[],#[.slice none 0 0,.slice none 0 0],[]⟩).memory Tryz.f3.params.toList Rows.compactMakesSpec.vars false #[bU none 0 0,.slice none 0 0].toList 8=some ([.nil,.nil],[],places):=
 ⟨[],by kernel_rfl⟩
theorem Kor (H:Type) (enc:TypeId×Value->H) (W:World) (base:Nat) (args:Array Value) (ds gs:List (DataW H)) (before:List MemPlace)
  (hval0:∀(j:Nat) t v,Tryz.f3.params[j]? = some t->args[j]? = some v->Value.okWide prog W .any base t v)
  (hW:DataW.Whole enc prog Tryz.f3.params.toList Rows.compactMakesSpec.vars false W args.toList ds gs before) (hsz0:(DataW.weightsEach prog (Tryz.f3.params.toList++Rows.compactMakesSpec.plain.varTypes prog) (ds++gs)).all (·<=reachBytes)=true) (hk0:Rows.uptoSmall H (ds++gs)=true) (hL:laidMetH prog Rows.compactMakesRow.laid W) :
  Calls prog 3 args W fun e W'=>∃v,e = .returned v/\Rows.compactMakesSpec.post enc prog Tryz.f3 false true false false W args v W':=by
 have aa:=hval0;have ae:=hW;have aj:=hsz0;obtain⟨p,q,ad,hV,rfl,_,_⟩:=hW;have hA:DataW.TrodAll enc prog W 0 (fun _=>true) true Tryz.f3.params.toList args.toList ds p:=ad;rw[Tryz.params3]at hA aa aj;obtain⟨v0,v1,d0,d1,p0,p1,rfl,rfl,rfl,h0,h1⟩:=trodAll_two hA;obtain⟨rfl,rfl⟩:=trodVars_none hV;clear ad hval0 hsz0;simp only[bR]at ae;simp only[bR]at hk0;have ab:=Qfu hk0;simp only[Rows.uptoBulkAll,Nat.add_zero]at ab;have af:∀x∈p0++p1,x.block<W.heap.size:=fun x hx=>by simpa using ae.lt x (by simpa using hx)
 have ac:∀(W':World),Below W.heap.size W W'->DataW.TrodAll enc prog W' 0 (fun b=>decide (b<W.heap.size)) true [22,23] [v0,v1] [d0,d1] (p0++p1):=
  fun W' hn=>trodAll_mk2 (Below.trod Tryz.laidOut (by kernel_rfl) (jP (by kernel_rfl)) h0 hn (fun x hx=>af x (by simp[hx]))) (Below.trod Tryz.laidOut (by kernel_rfl) (jP (by kernel_rfl)) h1 hn (fun x hx=>af x (by simp[hx])))
 obtain⟨fu0,an⟩:=id h0;obtain⟨x0,y0,z0,rfl⟩:=okWide_slice underlying22 (aa 0 22 v0 rfl rfl);obtain⟨A0,n0,c0,g0,al,ad,ag⟩:=Qbq an;injection al with x0e y0e z0e;subst x0e y0e z0e;obtain⟨fu1,ao⟩:=id h1;obtain⟨x1,y1,z1,rfl⟩:=okWide_slice underlying23 (aa 1 23 v1 rfl rfl);obtain⟨A1,n1,c1,ai,ah,ak,hA1,am⟩:=Qbp ao;injection ak with x1e y1e z1e;subst x1e y1e z1e;have hU0:=Kfo d0;have hU1:=Kfo d1;have hE:=Qcx hL;refine(Kkq x0 y0 z0 g0 x1 y1 z1 ai ah W (am (by dsimp only at *;omega)) (ag (by dsimp only at *;omega)) hE).mono fun e W' ⟨he,hb⟩=>?_
 subst he;exact⟨_,rfl,_,_,_,[],_,[],ae,trodAll_mk1 (shut_bool underlying4 true),ac _ hb,rfl,hb.frame _,fun h=>by cases h⟩
theorem Kte (os:Os) (started:os.Started) (H:Type) (enc:TypeId×Value->H) (F:Stop.Interp) :
  ReturnsInHanded {} Tryz.checked os 3 .any ((Rows.OpenSpec.upto Rows.compactMakesSpec).preRow enc prog Tryz.f3 Rows.compactMakesUptoRow.domain false Rows.compactMakesUptoRow.laid) (((Rows.OpenSpec.upto Rows.compactMakesSpec).at F).post enc prog Tryz.f3 false true false false):=by
 obtain⟨aa,hx⟩:=Kuw os enc
 refine returnsInHanded_of_row (C:=Tryz.checked) (s:=Rows.OpenSpec.upto Rows.compactMakesSpec) Tryz.own started (by kernel_rfl) func3
  (witness_row_atRef (enc:=enc) (C:=Tryz.checked) false (Kno os) #[.slice none 0 0,.slice none 0 0] rfl (by kernel_rfl) (by kernel_rfl) (by kernel_rfl)
   (OpenSpec.preRow_of_cond 8 hx (by kernel_rfl) (fun k hk=>by cases hk;kernel_rfl) (by kernel_rfl) (Qhu os _))) ?_
 intro W base args ds gs before hval hW _ hcond hsz hL _ _;exact Kor H enc W base args ds gs before hval hW hsz (hcond _ rfl) hL
theorem Kxr:Rows.CompactMakesUptoSaid:=
 OpenClaim.holds_of_cond 3 Tryz.f3 rfl rfl rfl rfl rfl rfl rfl ⟨rfl,rfl,rfl,rfl,rfl⟩ rfl rfl rfl rfl rfl (by kernel_rfl) func3 Kuu
  (jP (by kernel_rfl)) (by unfold Func.isWrapper;first | (rw[jN (by decide +kernel)];kernel_rfl) | (rw[jM (by decide +kernel)];exact⟨rfl,rfl⟩))
  (fun os started H enc _ F=>by rw[OpenClaim.pre_eq_preRow];exact Kte os started H enc F)
theorem Kuv (f:FuncId) (fn:Func) (hf:Tryz.pinned.checked.prog.funcNamed "almanac/almanaclaw23.CompactMakes" = some f) (hfn:Tryz.pinned.checked.prog.funcs[f]? = some fn) :
  true = Tryz.pinned.checked.prog.looks []/\∀(j:Nat) t,fn.params[j]? = some t->Tryz.pinned.checked.prog.wantsStandIn t=false:=by
 obtain rfl:f = 3:=Option.some.inj ((show prog.funcNamed "almanac/almanaclaw23.CompactMakes" = some 3 by kernel_rfl).symm.trans hf) |>.symm;obtain rfl:fn = Tryz.f3:=(Option.some.inj (func3.symm.trans hfn)).symm;refine⟨by kernel_rfl,fun j t ht=>?_⟩;rw[Tryz.params3]at ht;have hm:t = 22\/t = 23:=by simpa using Array.mem_of_getElem? ht
 rcases hm with rfl | rfl
 .exact (show prog.wantsStandIn 22 = false by kernel_rfl)
 .exact (show prog.wantsStandIn 23 = false by kernel_rfl)
theorem compactMakes_holds:Rows.CompactMakesUptoCardSaid:=
 Claim7.holds_tied_plain_at .later [] _ _ _ _ Kxr (fun _ h=>by cases h) (by kernel_rfl) (fun _ h=>by cases h) compactMakesUpto_row_tie rfl ⟨rfl,rfl⟩ (by kernel_rfl) rfl Kuv (by kernel_rfl)
end
end Go.Proofs.YtdoiekknhnbepaaGreatDoor
