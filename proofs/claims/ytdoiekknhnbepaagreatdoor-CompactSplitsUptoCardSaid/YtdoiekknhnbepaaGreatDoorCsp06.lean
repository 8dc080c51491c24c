/- Merged (what the claim wants of): ChkWalksD, ChkWalksE, RegTake, ChkRdE, AggWalksA, AggWalksB, PostWalksB, RowTwo, MrgRows, MrgApp, MrgSt, MrgSer. -/
import Derived.Test.YtdoiekknhnbepaaGreatDoorCsp05
import Derived.Deep.Onto
set_option linter.unusedVariables false
set_option linter.unusedSimpArgs false
set_option maxRecDepth 1000000
set_option maxHeartbeats 8000000
namespace Go.Proofs.YtdoiekknhnbepaaGreatDoor
open Go renaming wpQuiet_nil->dV
open List renaming getElem?_eq_some_iff->c3,getElem?_eq_getElem->c4,getElem?_append_right->c5,getElem?_append_left->c6,getElem?_set_self->c7
open Region renaming ready->c8,binds->c9,wanted->dg,noSelect->di,Mode->dm,free->dq,noSelect_spec->ds,free_spec->dF
open Lib renaming hid->dG,byteCells->dH,BuilderAtF->dI
open Builtin renaming append_->dJ,firstCells->dK,lenOf->dL
open World.ownsRow renaming stored->dM
open World renaming setCell->dN
open Value renaming slice->dO
open IntKind renaming wrap_u64->dP,u64->dQ
open Elems renaming nil_->dR
open Blk renaming new->dS
open Ne renaming symm->dT
open Instr renaming index->dU
open Tryz
open Nat renaming le_trans->da,le_refl->db,xor_lt_two_pow->dl,lt_or_ge->dz,eq_zero_or_pos->dB,zero_le->dE
open List renaming size_toArray->dc,append_assoc->dd,take_succ_cons->de,drop_succ_cons->df,flatMap_cons->dh,take_succ_eq_append_getElem->dn,take_zero->dp,drop_zero->dr,length_append->dv,drop_eq_getElem_cons->dw,take_of_length_le->dx,drop_eq_nil_of_le->dy,length_set->dA,cons_append->dC,getElem_mem->dD
open _root_.Array renaming setIfInBounds_comm->dj
open Bool renaming and_eq_true->dt
section
open Go.RowKit
attribute [local go_sem ↓] Go.wp_at_zero Go.wp_at_succ
attribute [local go_sem] Later.cell
theorem Qgq {w:World} {B n:Nat} {v:Value} {s:List UInt8} (h:w.ownsRow B 5 1 v n (dH s)) (hn:s.length=n):(convert 76 9 v).run prog w = .ok (.string ⟨s.toArray⟩) w:=by
 subst hn
 by_cases h0:s = []
 .subst h0;rcases h.2 with ⟨rfl,_⟩ | ⟨g',aa,cur,rfl,_⟩
  .kernel_rfl
  .kernel_rfl
 .obtain ⟨a,aa,rfl,hc⟩:=Kcc.text (l:=s) h h0;exact hc
theorem Kxc (B b:Nat) (T:TypeId) (rest:List Value) (l:List Bool) (w:World) (h:WrAt B b T rest l w) :
  Calls prog 202 #[.pointer (some ⟨b,0,none⟩)] w fun e w'=>e = .returned (.string ⟨(packB l).toArray⟩)/\w=w':=by
 obtain ⟨h0,v,h1,h2,h3⟩:=h;have hc:=Qgq h2 (Kfp l).len;have c0:w.cell? ⟨b,0,none⟩=some v:=h1.cell 0;obtain ⟨S,hS⟩:∃S:ByteArray,(⟨(packB l).toArray⟩:ByteArray)=S:=⟨_,rfl⟩;rw[hS] at hc |-;clear h1 h2 h3 hS;go_enter func202,ntmps202
 go_wp2_with fail
 go_ret
 exact ⟨rfl,rfl⟩
theorem Kxi (B b:Nat) (c:Cst) (l:List Bool) (w:World) (h:ChAt B b c l w) (hn:c.n<=120) (hlen:l.length<=2000000) (hB:B<=w.heap.size) :
  Calls prog 172 #[.pointer (some ⟨b,0,none⟩)] w fun e w'=>e = .returned (.string ⟨(uintT c.n++packB l).toArray⟩)/\Below w.heap.size w w':=by
 have c2:=h.cells.1;have hbl:=h.lt;have H:=dG h;obtain ⟨n,ab⟩:=iZ c.n;rw[ab] at c2 hn |-;clear h ab;have hu:=fun w=>Kau n (by omega) w
 obtain ⟨U,hU⟩:∃U:ByteArray,(⟨(uintT n).toArray⟩:ByteArray)=U:=⟨_,rfl⟩;obtain ⟨V,hV⟩:∃V:ByteArray,(⟨(packB l).toArray⟩:ByteArray)=V:=⟨_,rfl⟩;have hUz:U.size<=11:=by rw[<-hU];simp only[ByteArray.size,dc];exact (Kab n).2
 have hVz:V.size<=2000000:=by rw[<-hV];simp only[ByteArray.size,dc];rw[(Kfp l).len];omega
 have aa:U++V=(⟨(uintT n++packB l).toArray⟩:ByteArray):=by rw[<-hU,<-hV];apply ByteArray.ext;simp[ByteArray.data_append]
 have HW:=dG (fun (w':World) (hb:Below w.heap.size w w')=>Kxc B b _ _ l w' (H.out.far hb));simp only[hU] at hu;rw[hV] at HW;have HU:=dG hu;have ad:=dG aa;clear hu hU hV aa;go_enter func172,ntmps172
 go_upto_region 3 with fail
 refine Kaa (by kernel_rfl) (by kernel_rfl) ?_
 repeat (go_big_quiet_step ((first | (go_at_call 42;exact Kaj _ (HU.out _)) | (go_at_call 202;exact Kpf _ (HW.out _ (Later.h _))))))
 refine dV ?_;rintro w2 ⟨⟨_,ac⟩,rfl⟩;go_wp2_with fail
 go_ret
 rw[ad.out];exact ⟨rfl,ac⟩
end
section
open Go.RowKit
open Lib renaming hid -> Jh
attribute [local go_sem ↓] Go.wp_at_zero Go.wp_at_succ
attribute [local go_sem] Later.cell
def stW:Cst->List Smp->Cst
 | c,[]=>c
 | c,s :: l=>stW (Kbq c s).2 l
def encE:Cst->List Smp->Nat
 | _,[]=>0
 | c,s :: l=>if stepE c s≠0 then stepE c s else encE (Kbq c s).2 l
theorem Kju:∀(l:List Smp) (c:Cst) (s:Smp),stW c (l ++ [s])=(Kbq (stW c l) s).2
 | [],_,_=>rfl
 | x :: l,c,s=>Kju l (Kbq c x).2 s
theorem Kgl:∀(l:List Smp) (c:Cst) (s:Smp),Kbw c (l ++ [s])=Kbw c l++(Kbq (stW c l) s).1
 | [],c,s=>by simp[Kbw,stW]
 | x :: l,c,s=>by rw[dC,Kbw,Kbw,Kgl l,stW,dd]
theorem stW_n:∀(l:List Smp) (c:Cst),(stW c l).n=c.n+l.length
 | [],c=>rfl
 | x :: l,c=>by rw[stW,stW_n l,(Kii c x).1,List.length_cons];omega
theorem Qap (c:Cst) (h:c.Ok) (x:Nat):(Kbp c x).1.length<=80:=by
 have:=h.2;unfold Kbp
 repeat' split
 all_goals simp[Kbh]
 all_goals omega
theorem Qbu (c:Cst) (h:c.Ok) (s:Smp):(Kbq c s).1.length<=150:=by
 unfold Kbq
 split
 .simp[Kbh]
 .have h1:=Kof (s.t - c.last.t - c.step);have h2:=Qap { c with step:=s.t - c.last.t } h (s.v ^^^ c.last.v);simp only[dv];omega
theorem Kwq {c:Cst} {s:Smp} (h:stepE c s=0):0<=s.t/\s.t<=1125899906842624/\(c.n=0\/c.last.t < s.t)/\c.n≠120:=by
 unfold stepE at h
 split at h
 .omega
 .split at h
  .omega
  .split at h
   .omega
   .exact ⟨by omega,by omega,by omega,by omega⟩
def prevB (prev:Option Smp) (x:Smp):Bool:=match prev with | none=>true | some y=>decide (y.t < x.t)
theorem Krl (prev:Option Smp) (n:Nat) (x:Smp) (l:List Smp):fitC prev n (x :: l)=(decide (0<=x.t) && decide (x.t<=1125899906842624) && prevB prev x && decide (n < 120) && fitC (some x) (n+1) l):=by cases prev <;> rfl
theorem Kus:∀(l:List Smp) (c:Cst) (prev:Option Smp),c.n<=120->(∀p,prev=some p->c.n≠0/\c.last=p)->(prev=none->c.n=0)->(encE c l=0↔fitC prev c.n l=true)
 | [],c,prev,_,_,_=>by cases prev <;> simp[encE,fitC]
 | x :: l,c,prev,hn,h1,h2=>by
  have ih:=fun h=>Kus l (Kbq c x).2 (some x) h (fun p hp=>by injection hp with hp;subst hp;exact ⟨by rw[(Kii c x).1];omega,(Kii c x).2⟩) (fun h=>by cases h)
  rw[(Kii c x).1] at ih;rw[encE]
  by_cases h0:stepE c x=0
  .rw[je (by simp[h0])];obtain ⟨a1,a2,a3,a4⟩:=Kwq h0;rw[ih (by omega)]
   have hp:prevB prev x=true:=by
    cases prev with
    | none=>rfl
    | some p=>obtain ⟨q1,q2⟩:=h1 p rfl;subst q2;exact jd (by omega)
   rw[Krl,hp,jd a1,jd a2,jd (show c.n < 120 by omega)];simp
  .rw[jf h0];constructor
   .intro h;exact jl h h0
   .intro h;exfalso;apply h0;rw[Krl] at h;simp only[dt,i8] at h;obtain ⟨⟨⟨⟨a1,a2⟩,a3⟩,a4⟩,_⟩:=h;unfold stepE;rw[je (by omega),je,je (by omega)];rintro ⟨q1,q2⟩
    cases prev with
    | none=>have:=h2 rfl;omega
    | some p=>
     rw[(h1 p rfl).2] at q2;have a3':p.t < x.t:=jh a3;omega
theorem Qdb (l:List Smp):encE cst0 l=0↔fitC none 0 l=true:=Kus l cst0 none (by decide) (fun p h=>by cases h) (fun _=>rfl)
def Kes (l:List Smp):List UInt8×Nat:=if encE cst0 l=0 then (Kdb l,0) else ([],encE cst0 l)
theorem Kst (l:List Smp) (A:Option Addr) (n cap:Nat) (w:World) (hE:Elems w w.heap.size 2 Kac A n l) (hn:n<=140737488351232) (hv:∀x∈l,x.v < 2 ^ 64) (hT:DbTab w) :
  Calls prog 117 #[.slice A n cap] w fun e w'=>e = .returned (.tuple #[.string ⟨(Kes l).1.toArray⟩,.int .i64 ((Kes l).2:Nat)])/\Below w.heap.size w w':=by
 have ag:=hE.len;have HE:=Jh hE;have HV:=Jh hv;have aM:DbAt w.heap.size w:=⟨hT,Kdv (hT 0 (by decide))⟩;have aE:=Jh aM;obtain ⟨E,aI⟩:=iZ (encE cst0 l);have ak:=Jh aI;have aa:=Jh ag
 have h0:ChAt w.heap.size w.heap.size cst0 [] (w.alloc (.cells #[.slice none 0 0,.int .i64 0,.int .i64 0,.int .i64 0,.int .u64 0,.int .i64 0,.int .i64 0,.int .i64 0,.bool false] 271)):=
  ⟨db _,.slice none 0 0,dS _ _ _,World.ownsRow_nil _ _ _ _,by simp[Value.ownBlock]⟩
 have ao:Below w.heap.size w (w.alloc (.cells #[.slice none 0 0,.int .i64 0,.int .i64 0,.int .i64 0,.int .u64 0,.int .i64 0,.int .i64 0,.int .i64 0,.bool false] 271)):=(Below.refl _ _).alloc (db _) _;clear hE hv aM hT aI ag;go_enter func117,ntmps117
 go_upto_region 2 with fail
 obtain ⟨w1,ax⟩:=iZ (w.alloc (.cells #[.slice none 0 0,.int .i64 0,.int .i64 0,.int .i64 0,.int .u64 0,.int .i64 0,.int .i64 0,.int .i64 0,.bool false] 271));rw[ax] at h0 ao;rw[ax];obtain ⟨B,hB⟩:=iZ w.heap.size;rw[hB] at h0 ao HE aE |-;have HB:=Jh hB;have H1:=Jh h0;have aV:=Jh ao;clear ax h0 ao hB;go_wp2_with fail
 go_loopg [10] n (fun g s10 wr=>∃i:Nat,i+g=n/\s10 = .int .i64 (i:Int)/\i<=120/\encE (stW cst0 (l.take i)) (l.drop i)=E/\(stW cst0 (l.take i)).Good/\(Kbw cst0 (l.take i)).length<=150*i/\ChAt B B (stW cst0 (l.take i)) (Kbw cst0 (l.take i)) wr/\Below B w wr)
 case atStart=>exact ⟨0,by omega,rfl,by omega,ak.out,Cst.good0,by simp[Kbw],H1.out,aV.out⟩
 case round=>
  obtain ⟨i,hi,rfl,aW,he,hg,aK,aG,hb⟩:=hrel;have HI:=Jh hi;have aD:=Jh he;have HG:=Jh hg;have ai:=Jh aK;have ah:=Jh aG;have am:=Jh hb;have ap:B<=wr.heap.size:=da (by rw[HB.out];exact db _) hb.size;clear he hg aK aG hb
  by_cases hin:i < n
  .have af:i < l.length:=by have:=aa.out;omega
   obtain ⟨bk,al,rfl,aJ,ab⟩:=HE.out.2 (by omega);have m0:wr.cell? ⟨bk,al+i*2,none⟩=some (.int .i64 l[i].t):=(am.out.cell (p:=⟨bk,al+i*2,none⟩) aJ).trans (by simpa using ab i l[i] (c4 af) 0 _ rfl);have m1:wr.cell? ⟨bk,al+i*2+1,none⟩=some (.int .u64 (l[i].v:Int)):=(am.out.cell (p:=⟨bk,al+i*2+1,none⟩) aJ).trans (by simpa using ab i l[i] (c4 af) 1 _ rfl);have aC:=HV.out l[i] (dD af);have ad:l.drop i=l[i] :: l.drop (i+1):=dw af;have ae:l.take (i+1)=l.take i ++ [l[i]]:=dn af;obtain ⟨x,hx⟩:=iZ (l[i]);rw[hx] at m0 m1 aC ad ae;have aS:=Jh ad;have av:=Jh ae
   have an:(stW cst0 (l.take i)).n=i:=by
    rw[stW_n,List.length_take];show 0+_=i
    omega
   obtain ⟨C,hC⟩:=iZ (stW cst0 (l.take i));obtain ⟨L,hL⟩:=iZ (Kbw cst0 (l.take i));rw[hC] at aD HG ah an;rw[hL] at ai ah;have ar:=Jh hC;have aH:=Jh hL;have HX:=Jh hx;have el:decide ((i:Int) < (n:Int))=true:=by simp;omega
   have el2:(i:Int) < (n:Int):=by omega
   clear hi ad ae hC hL hx ab;go_upto_region 5 with fail
   have ha:Below wr.heap.size wr (wr.alloc (.cells #[.int .i64 x.t,.int .u64 (x.v:Int)] 102)):=(Below.refl _ _).alloc (db _) _;have hq:Blk (wr.alloc (.cells #[.int .i64 x.t,.int .u64 (x.v:Int)] 102)) wr.heap.size 102 #[.int .i64 x.t,.int .u64 (x.v:Int)]:=dS _ _ _;obtain ⟨w2,ay⟩:=iZ (wr.alloc (.cells #[.int .i64 x.t,.int .u64 (x.v:Int)] 102));obtain ⟨q,aB⟩:=iZ wr.heap.size;rw[ay] at ha hq;rw[ay];rw[aB] at hq;rw[aB];have q0:w2.cell? ⟨q,0,none⟩=_:=hq.cell 0;have q1:w2.cell? ⟨q,1,none⟩=_:=hq.cell 1;have az:=Jh (ah.out.far ha);have aF:=Jh (am.out.trans (ha.mono ap));have aQ:B<=w2.heap.size:=da ap ha.size;have aN:=Jh (Kuc B B C L x w2 az.out HG.out (by omega) aC (by have:=ai.out;omega) aQ (aE.out.below aF.out));obtain ⟨se,aj⟩:=iZ (stepE C x);rw[aj] at aN;have aU:=Jh aj;have ac:=aD.out;rw[aS.out,encE,aj] at ac;have aP:se<=92:=by (rw[<-aj];unfold stepE;repeat' split);all_goals omega
   clear ha hq ay aB aj;go_wp2_with fail
   refine aN.out.mono ?_;rintro _ w3 ⟨rfl,h5,h6,_⟩;have H5:=Jh h5;have aL:=Jh (aF.out.trans h6);have hB3:B<=w3.heap.size:=da aQ h6.size;clear h5 h6 q0 q1
   by_cases hs0:se=0
   .subst hs0;rw[je (by simp)] at ac;have aq:=Jh ac;clear ac;have aw:=Kwq aU.out;go_wp2_with fail
    go_roundg (gk - 1)
    case measure=>have:=HI.out;omega
    case rel=>
     refine ⟨i+1,by have:=HI.out;omega,by go_num,by have:=aw.2.2.2;omega,?_,?_,?_,?_,aL.out⟩
     .rw[av.out,Kju,ar.out];exact aq.out
     .rw[av.out,Kju,ar.out];exact Kyv HG.out ⟨aw.1,aw.2.1,aC⟩
     .rw[av.out,Kgl,ar.out,aH.out,dv];have:=Qbu C HG.out.ok x;have:=ai.out;omega
     .rw[av.out,Kju,Kgl,ar.out,aH.out];exact H5.out trivial
   .rw[jf hs0] at ac;have e0:((se:Int) != 0)=true:=by simp;omega
    have aq:=Jh ac;have aT:=Jh hs0;clear ac;go_wp2_with fail
    go_ret2
    unfold Kes;rw[je (by rw[ak.out,<-aq.out];exact aT.out),ak.out,<-aq.out];exact ⟨rfl,by rw[HB.out];exact aL.out⟩
  .have el:decide ((i:Int) < (n:Int))=false:=by simp;omega
   have aR:i=n:=by have:=HI.out;omega
   subst aR;have ae:l.take i=l:=dx (by have:=aa.out;omega);have ad:l.drop i = []:=dy (by have:=aa.out;omega)
   have aO:E=0:=by have:=aD.out;rw[ad] at this;exact this.symm
   rw[ae] at ah ai HG
   have an:(stW cst0 l).n=i:=by
    rw[stW_n,aa.out];show 0+_=i
    omega
   have aA:=Jh (Kxi B B _ _ wr ah.out (by omega) (by have:=ai.out;omega) ap)
   have ho:Kes l=(uintT i++packB (Kbw cst0 l),0):=by unfold Kes;rw[jf (by rw[ak.out,aO]),Kdb,aa.out]
   rw[an] at aA;have HO:=Jh ho;obtain ⟨S,hS⟩:∃S:ByteArray,(⟨(uintT i++packB (Kbw cst0 l)).toArray⟩:ByteArray)=S:=⟨_,rfl⟩;rw[hS] at aA;have HS:=Jh hS;clear an ho hS ae ad aO;go_wp2_with fail
   refine aA.out.mono ?_;rintro _ w3 ⟨rfl,h6⟩;go_wp2_with fail
   go_ret2
   rw[HO.out,<-HS.out];exact ⟨rfl,by rw[HB.out];exact am.out.trans (h6.mono ap)⟩
end
section
open Go.RowKit
section
variable {P : Program} {ops : Array Oper} {Q : Exit -> Act -> World -> Prop} {md : dm} {S : World -> Prop} {k : Nat}
def Kca (P:Program) (md:dm) (ops:Array Oper) (Q:Exit->Act->World->Prop) (S:World->Prop) (k:Nat):Nat->Array Bool->Act->World->Prop
 | 0,L,a,w=>c8 md ops L = []/\Q .normal a w
 | f+1,L,a,w=>(c8 md ops L = []->Q .normal a w)/\∀i∈c8 md ops L,wpOp P ops Q i (fun a' w'=>((L.setIfInBounds i true).getD k false=false->S w')/\Kca P md ops Q S k f (L.setIfInBounds i true) a' w') a w
theorem Kpv:∀(f:Nat) (L:Array Bool) (a:Act) (w:World),Kca P md ops Q S k f L a w->wpAny P md ops Q f L a w
 | 0,_,_,_,h=>h
 | f+1,_,_,_,h=>⟨h.1,fun i hi=>wpOp_mono (fun a' w' h'=>Kpv f _ a' w' h'.2) (h.2 i hi)⟩
theorem Kxe {i:Nat} {oi:Oper} {v:Value} (hi:ops[i]? = some oi) (hsel:∀(j:Nat) (o:Oper) cs b,ops[j]? = some o->o.op≠.select cs b)
  (hQ:∀c a w,Q (.panic c) (a.put oi.dst v) w->Q (.panic c) a w) (hki:k≠i) (hkw:∀ok,ops[k]? = some ok->∃e∈ok.after,c9 md e=true/\e.on=i) :
  ∀(f:Nat) (L:Array Bool) (a:Act) (w:World),
   (∀j oj,ops[j]? = some oj->j≠i->L.getD j true=false->(∀e∈oj.after,c9 md e=true->e.on≠i)->oi.apart ops oj=true)->
   i∈c8 md ops L->YieldsIf P ops S oi v a->L.getD k false=false->S w->
   Kca P md ops Q S k f (L.setIfInBounds i true) (a.put oi.dst v) w->Kca P md ops Q S k (f+1) L a w:=by
 intro f
 induction f with
 | zero=>
  intro L a w hfree hr hy hl hS H;refine ⟨fun h=>(by rw[h] at hr;cases hr),fun j hj=>?_⟩
  by_cases hji:j=i
  .subst hji;exact hy.wpOp hi hS ⟨fun _=>hS,H⟩
  .have:=ready_mono hj hji;rw[H.1] at this;cases this
 | succ f ih=>
  intro L a w hfree hr hy hl hS H;refine ⟨fun h=>(by rw[h] at hr;cases hr),fun j hj=>?_⟩
  by_cases hji:j=i
  .subst hji;exact hy.wpOp hi hS ⟨fun _=>hS,H⟩
  .have h1:=H.2 j (ready_mono hj hji);obtain ⟨ac,oj,ae,af⟩:=mem_ready.1 hj
   have ab:∀e∈oj.after,c9 md e=true->e.on≠i:=fun e he hb heq=>by
    have h1:=af e he hb;have h0:=(mem_ready.1 hr).1;rw[heq] at h1;rcases dz i L.size with h' | h'
    .simp[h'] at h0 h1;rw[h0] at h1;cases h1
    .simp[Array.getElem?_eq_none h'] at h1
   have ad:j≠k:=by rintro rfl;obtain ⟨e,he,hb,heq⟩:=hkw oj ae;exact ab e he hb heq
   have h2:=wpOp_putIf ae (hfree j oj ae hji ac ab) (fun cs b=>hsel i oi cs b hi) (fun cs b=>hsel j oj cs b ae) hQ hy h1
   have aa:∀k ok,ops[k]? = some ok->k≠i->(L.setIfInBounds j true).getD k true=false->
     (∀e∈ok.after,c9 md e=true->e.on≠i)->oi.apart ops ok=true:=fun k ok hk hki hun hno=>by
    refine hfree k ok hk hki ?_ hno
    by_cases ad:j=k
    .subst ad;exact ac
    .rw[getD_set_ne true ad] at hun;exact hun
   have ah:(L.setIfInBounds j true).getD k false=false:=by rw[getD_set_ne false ad];exact hl
   have ag:((L.setIfInBounds i true).setIfInBounds j true).getD k false=false:=by rw[getD_set_ne false ad,getD_set_ne false (dT hki)];exact hl
   refine wpOp_mono (fun a' w' h3=>⟨fun _=>h3.2.1 ag,ih (L.setIfInBounds j true) a' w' aa (ready_mono hr (dT hji)) h3.1 ah (h3.2.1 ag) ?_⟩) h2;rw[dj _ _ hji];exact h3.2.2
theorem Ktz {i:Nat} {oi:Oper} {v:Value} (hi:ops[i]? = some oi) (hsel:∀(j:Nat) (o:Oper) cs b,ops[j]? = some o->o.op≠.select cs b)
  (hQ:∀c a w,Q (.panic c) (a.put oi.dst v) w->Q (.panic c) a w) (hki:k≠i) :
  ∀(f:Nat) (L:Array Bool) (a:Act) (w:World),
   (∀j oj,ops[j]? = some oj->j≠i->L.getD j true=false->(∀e∈oj.after,c9 md e=true->e.on≠i)->oi.apart ops oj=true)->
   i∈c8 md ops L->YieldsIf P ops (fun _=>True) oi v a->(L.getD k false=false->S w)->
   Kca P md ops Q S k f (L.setIfInBounds i true) (a.put oi.dst v) w->Kca P md ops Q S k (f+1) L a w:=by
 have ab:∀L:Array Bool,(L.setIfInBounds i true).getD k false=L.getD k false:=fun L=>getD_set_ne false (dT hki)
 intro f
 induction f with
 | zero=>
  intro L a w hfree hr hy hS H;refine ⟨fun h=>(by rw[h] at hr;cases hr),fun j hj=>?_⟩
  by_cases hji:j=i
  .subst hji;exact hy.wpOp hi trivial ⟨fun h=>hS (by rw[ab] at h;exact h),H⟩
  .have:=ready_mono hj hji;rw[H.1] at this;cases this
 | succ f ih=>
  intro L a w hfree hr hy hS H;refine ⟨fun h=>(by rw[h] at hr;cases hr),fun j hj=>?_⟩
  by_cases hji:j=i
  .subst hji;exact hy.wpOp hi trivial ⟨fun h=>hS (by rw[ab] at h;exact h),H⟩
  .have h1:=H.2 j (ready_mono hj hji);obtain ⟨ac,oj,af,ad⟩:=mem_ready.1 hj
   have ae:∀e∈oj.after,c9 md e=true->e.on≠i:=fun e he hb heq=>by
    have h1:=ad e he hb;have h0:=(mem_ready.1 hr).1;rw[heq] at h1;rcases dz i L.size with h' | h'
    .simp[h'] at h0 h1;rw[h0] at h1;cases h1
    .simp[Array.getElem?_eq_none h'] at h1
   have h2:=wpOp_putIf af (hfree j oj af hji ac ae) (fun cs b=>hsel i oi cs b hi) (fun cs b=>hsel j oj cs b af) hQ hy h1
   have aa:∀k ok,ops[k]? = some ok->k≠i->(L.setIfInBounds j true).getD k true=false->
     (∀e∈ok.after,c9 md e=true->e.on≠i)->oi.apart ops ok=true:=fun k ok hk hki hun hno=>by
    refine hfree k ok hk hki ?_ hno
    by_cases hjk:j=k
    .subst hjk;exact ac
    .rw[getD_set_ne true hjk] at hun;exact hun
   have ag:((L.setIfInBounds i true).setIfInBounds j true).getD k false=(L.setIfInBounds j true).getD k false:=by rw[dj _ _ (dT hji),ab]
   refine wpOp_mono (fun a' w' h3=>⟨fun h=>h3.2.1 (by rw[ag];exact h),ih (L.setIfInBounds j true) a' w' aa (ready_mono hr (dT hji)) h3.1 (fun h=>h3.2.1 (by rw[ag];exact h)) ?_⟩) h2;rw[dj _ _ hji];exact h3.2.2
def Kxa (md:dm) (ops:Array Oper) (k i:Nat):Bool:=k != i && match ops[k]? with | some ok=>ok.after.any fun e=>c9 md e && e.on == i | none=>true
theorem Kbm {i:Nat} {oi:Oper} {v:Value} {f:Nat} {L:Array Bool} {a:Act} {w:World} {d:Option Tmp} (hi:ops[i]? = some oi) (hd:oi.dst=d)
  (hs:di ops=true) (hf:dq md ops L i=true) (hr:(c8 md ops L).contains i=true) (hkw:Kxa md ops k i=true) (hl:L.getD k false=false)
  (hQ:∀c a w,Q (.panic c) (a.put oi.dst v) w->Q (.panic c) a w) (hy:YieldsIf P ops S oi v a) (hS:S w)
  (h:Kca P md ops Q S k f (L.setIfInBounds i true) (a.put d v) w):Kca P md ops Q S k (f+1) L a w:=by
 subst hd;simp only[Kxa,dt,bne_iff_ne,ne_eq] at hkw;refine Kxe hi (ds hs) hQ hkw.1 (fun ok hok=>?_) f L a w (dF hi hf) (by simpa using hr) hy hl hS h;have h2:=hkw.2;rw[hok] at h2;obtain ⟨e,he,hb⟩:=Array.any_eq_true'.1 h2;simp only[dt,beq_iff_eq] at hb;exact ⟨e,he,hb.1,hb.2⟩
theorem Kcu {i:Nat} {oi:Oper} {v:Value} {f:Nat} {L:Array Bool} {a:Act} {w:World} {d:Option Tmp} (hi:ops[i]? = some oi) (hd:oi.dst=d)
  (hs:di ops=true) (hf:dq md ops L i=true) (hr:(c8 md ops L).contains i=true) (hki:(k != i)=true)
  (hQ:∀c a w,Q (.panic c) (a.put oi.dst v) w->Q (.panic c) a w) (hw:dg oi (yielded ops a.tmps)=true) (hy:∀w,(execOp a.eval oi).run P w = .ok (.value v) w) (hS:L.getD k false=false->S w)
  (h:Kca P md ops Q S k f (L.setIfInBounds i true) (a.put d v) w):Kca P md ops Q S k (f+1) L a w:=by
 subst hd;exact Ktz hi (ds hs) hQ (by simpa using hki) f L a w (dF hi hf) (by simpa using hr) (.inl ⟨hw,fun w _=>hy w⟩) hS h
@[irreducible] def OpW (o:Oper) (P:Program) (a:Act) (w:World) (K:Act->World->Prop) (Q:Exit->Act->World->Prop):Prop:=o.wp P a w K Q
theorem OpW.of {o:Oper} {P:Program} {a:Act} {w:World} {K:Act->World->Prop} {Q:Exit->Act->World->Prop} (h:o.wp P a w K Q):OpW o P a w K Q:=by unfold OpW;exact h
theorem OpW.out {o:Oper} {P:Program} {a:Act} {w:World} {K:Act->World->Prop} {Q:Exit->Act->World->Prop} (h:OpW o P a w K Q):o.wp P a w K Q:=by unfold OpW at h;exact h
theorem Kah {i:Nat} {o:Oper} {f:Nat} {L:Array Bool} {a:Act} {w:World} (hr0:(c8 md ops L == [i])=true) (ho:ops[i]? = some o) (hg:o.guard=none)
  (h:OpW o P a w (fun a' w'=>((L.setIfInBounds i true).getD k false=false->S w')/\Kca P md ops Q S k f (L.setIfInBounds i true) a' w') Q):Kca P md ops Q S k (f+1) L a w:=by
 have hr:c8 md ops L = [i]:=eq_of_beq hr0;refine ⟨fun h0=>jl (hr.symm.trans h0) (by simp),fun j hj=>?_⟩;rw[hr] at hj;obtain rfl:j=i:=by simpa using hj
 unfold wpOp;simp only[ho];rw[jf (by simp[dg,hg])];exact .inl h.out
theorem Kgw {i j:Nat} {o o':Oper} {f:Nat} {L:Array Bool} {a:Act} {w:World} (hr0:(c8 md ops L == [i,j])=true) (ho:ops[i]? = some o) (hg:o.guard=none) (ho':ops[j]? = some o') (hg':o'.guard=none)
  (h:OpW o P a w (fun a' w'=>((L.setIfInBounds i true).getD k false=false->S w')/\Kca P md ops Q S k f (L.setIfInBounds i true) a' w') Q)
  (h':OpW o' P a w (fun a' w'=>((L.setIfInBounds j true).getD k false=false->S w')/\Kca P md ops Q S k f (L.setIfInBounds j true) a' w') Q):Kca P md ops Q S k (f+1) L a w:=by
 have hr:c8 md ops L = [i,j]:=eq_of_beq hr0;refine ⟨fun h0=>jl (hr.symm.trans h0) (by simp),fun l hl=>?_⟩;rw[hr] at hl;rcases (by simpa using hl:l=i\/l=j) with rfl | rfl
 .unfold wpOp;simp only[ho];rw[jf (by simp[dg,hg])];exact .inl h.out
 .unfold wpOp;simp only[ho'];rw[jf (by simp[dg,hg'])];exact .inl h'.out
theorem Kcb {L:Array Bool} {a:Act} {w:World} (hr:(c8 md ops L == [])=true) (h:Q .normal a w):∀f,Kca P md ops Q S k f L a w
 | 0=>⟨eq_of_beq hr,h⟩
 | _+1=>⟨fun _=>h,by rw[eq_of_beq hr];simp⟩
theorem Kcv {id:Nat} {a:Act} {w:World} (S:World->Prop) (k n:Nat) (hm:P.follows .mixedOrders=true) (hn:ops.size=n)
  (h:Kca P .any ops Q S k n (Array.replicate n false) a w.drew):(Code.region id ops true).wp P Q a w:=by
 subst hn;exact wp_region_any hm (Kpv _ _ _ _ h)
theorem Oper.wp_ran {o:Oper} {a:Act} {w w':World} {v:Value} {d:Option Tmp} {K:Act->World->Prop} (hd:o.dst=d) (h:(execOp a.eval o).run P w = .ok (.value v) w') (hK:K (a.put d v) w'):OpW o P a w K Q:=.of <| by subst hd;unfold Oper.wp;rw[h];exact hK
theorem Oper.wp_skipped {o:Oper} {a:Act} {w w':World} {K:Act->World->Prop} (hd:o.dst=none) (h:(execOp a.eval o).run P w = .ok .skip w') (hK:K (a.put none undef) w'):OpW o P a w K Q:=.of <| by
 unfold Oper.wp;rw[h];show K (a.put o.dst undef) w'
 rw[hd];exact hK
theorem Oper.wp_called {o:Oper} {a:Act} {w w1:World} {g:FuncId} {args:Array Value} {d:Option Tmp} {K:Act->World->Prop} (hd:o.dst=d) (h:(execOp a.eval o).run P w = .ok (.enter g args) w1) {N:Value->World->Prop}
  (hc:Calls P g args w1 fun e w'=>∃u,e = .returned u/\N u w') (hK:∀u w',N u w'->K (a.put d u) w'):OpW o P a w K Q:=.of <| by
 subst hd;unfold Oper.wp;rw[h];refine Calls.mono hc ?_;rintro e w' ⟨u,rfl,hn⟩;exact hK u w' hn
theorem kP {i:Nat} {oi:Oper} {v:Value} {f:Nat} {L:Array Bool} {a:Act} {w:World} {d:Option Tmp} (hS:S w)
  (h:Kca P md ops Q S k f (L.setIfInBounds i true) (a.put d v) w) (hi:ops[i]? = some oi:=by rfl) (hd:oi.dst=d:=by rfl)
  (hs:di ops=true:=by kernel_rfl) (hf:dq md ops L i=true:=by kernel_rfl) (hr:(c8 md ops L).contains i=true:=by kernel_rfl) (hki:(k != i)=true:=by rfl)
  (hQ:∀c a w,Q (.panic c) (a.put oi.dst v) w->Q (.panic c) a w:=by exact fun _ _ _ h=>h) (hw:dg oi (yielded ops a.tmps)=true:=by rfl) (hy:∀w,(execOp a.eval oi).run P w = .ok (.value v) w:=by (intro w;go_simp;try rfl)):Kca P md ops Q S k (f+1) L a w:=
 Kcu hi hd hs hf hr hki hQ hw hy (fun _=>hS) h
end
end
section
open Go.RowKit
attribute [local go_sem ↓] Go.wp_at_zero Go.wp_at_succ
attribute [local go_sem] Later.cell
theorem Kej {w:World} {B n sz:Nat} {T:TypeId} {v:Value} {xs:List Value} (h:w.ownsRow B T sz v n xs) {p:Addr} (hp:v.ownBlock≠some p.block) (u:Value):(w.setCell p u).ownsRow B T sz v n xs:=
 h.kept (row:=some p.block) ⟨rfl,rfl,rfl,by simp[dN],fun k _ hk=>Below.heap_setCell _ _ _ _ (fun e=>hk (by rw[e]))⟩ (.inr hp)
theorem Khl {w:World} {B n sz k:Nat} {T:TypeId} {v:Value} {xs:List Value} (h:w.ownsRow B T sz v n xs) (hk:k < B):v.ownBlock≠some k:=fun e=>by have:=(h.lt k e).1;omega
theorem Qgi {w w':World} {base:Nat} {T:TypeId} {sz n:Nat} {v:Value} {xs:List Value} (h:w.ownsRow base T sz v n xs) (hb:∀g,v.ownBlock=some g->w'.heap[g]? = w.heap[g]?):w'.ownsRow base T sz v n xs:=by
 refine ⟨h.1,?_⟩;rcases h.2 with h2 | ⟨g,cap,cur,rfl,h3,h4,h5⟩
 .exact .inl h2
 .exact .inr ⟨g,cap,cur,rfl,h3,(hb g rfl).trans h4,h5⟩
def wndV (w:Wnd):Value:=.agg #[.int .i64 w.start,.int .i64 w.count,.int .u64 (w.sum:Int),.int .u64 (w.min:Int),.int .u64 (w.max:Int),.int .u64 (w.last:Int)]
def Kdk (w a:Wnd) (first:Bool):Nat:=
 if w.start < 0\/1125899906842624 < w.start then 91 else if first=false/\w.start<=a.start then 90 else if w.count < 1\/4611686018427387904 < w.count then 110 else 0
theorem Kkd (w a:Wnd) (first:Bool):Kdk w a first=0↔Keg w a first=0:=by
 unfold Kdk Keg
 split
 .simp
 .split
  .simp
  .split <;> simp
theorem Ktd (x a:Wnd) (first:Bool) (w:World) :
  Calls prog 155 #[wndV x,wndV a,.bool first] w fun e w'=>e = .returned (.int .i64 (Kdk x a first:Nat))/\Below w.heap.size w w':=by
 obtain ⟨r,hr⟩:=iZ (Kdk x a first)
 rw[hr];unfold Kdk at hr
 have hb:Below w.heap.size w ((w.alloc (.cells #[.int .i64 x.start,.int .i64 x.count,.int .u64 (x.sum:Int),.int .u64 (x.min:Int),.int .u64 (x.max:Int),.int .u64 (x.last:Int)] 135)).alloc (.cells #[.int .i64 a.start,.int .i64 a.count,.int .u64 (a.sum:Int),.int .u64 (a.min:Int),.int .u64 (a.max:Int),.int .u64 (a.last:Int)] 135)):=
  ((Below.refl _ _).alloc (db _) _).alloc (by simp) _
 have HB:=dG hb;unfold wndV
 by_cases b1:x.start < 0
 .rw[jf (.inl b1)] at hr;subst hr;have d1:decide (x.start < 0)=true:=jd b1;go_enter func155,ntmps155
  go_wp2_with fail
  go_ret
  exact ⟨rfl,HB.out⟩
 have d1:decide (x.start < 0)=false:=ja b1
 by_cases b2:1125899906842624 < x.start
 .rw[jf (.inr b2)] at hr;subst hr;have d2:decide (1125899906842624 < x.start)=true:=jd b2;go_enter func155,ntmps155
  go_wp2_with fail
  go_ret
  exact ⟨rfl,HB.out⟩
 have d2:decide (1125899906842624 < x.start)=false:=ja b2;rw[je (by omega)] at hr
 by_cases b3:first=false/\x.start<=a.start
 .obtain ⟨rfl,b3⟩:=b3;rw[jf ⟨rfl,b3⟩] at hr;subst hr;have d3:decide (x.start<=a.start)=true:=jd b3;go_enter func155,ntmps155
  go_wp2_with fail
  go_ret
  exact ⟨rfl,HB.out⟩
 rw[je b3] at hr;have HF:Hid (first=true\/(first=false/\¬x.start<=a.start)):=dG (by cases first <;> simp_all);clear b3
 by_cases b4:x.count < 1
 .rw[jf (.inl b4)] at hr;subst hr;have d4:decide (x.count < 1)=true:=jd b4;rcases HF.out with rfl | ⟨rfl,b3⟩
  .go_enter func155,ntmps155
   go_wp2_with fail
   go_ret
   exact ⟨rfl,HB.out⟩
  .have d3:decide (x.start<=a.start)=false:=ja b3;go_enter func155,ntmps155
   go_wp2_with fail
   go_ret
   exact ⟨rfl,HB.out⟩
 have d4:decide (x.count < 1)=false:=ja b4
 by_cases b5:4611686018427387904 < x.count
 .rw[jf (.inr b5)] at hr;subst hr;have d5:decide (4611686018427387904 < x.count)=true:=jd b5;rcases HF.out with rfl | ⟨rfl,b3⟩
  .go_enter func155,ntmps155
   go_wp2_with fail
   go_ret
   exact ⟨rfl,HB.out⟩
  .have d3:decide (x.start<=a.start)=false:=ja b3;go_enter func155,ntmps155
   go_wp2_with fail
   go_ret
   exact ⟨rfl,HB.out⟩
 have d5:decide (4611686018427387904 < x.count)=false:=ja b5;rw[je (by omega)] at hr;subst hr;rcases HF.out with rfl | ⟨rfl,b3⟩
 .go_enter func155,ntmps155
  go_wp2_with fail
  go_ret
  exact ⟨rfl,HB.out⟩
 .have d3:decide (x.start<=a.start)=false:=ja b3;go_enter func155,ntmps155
  go_wp2_with fail
  go_ret
  exact ⟨rfl,HB.out⟩
def fldsV (q:Nat):Value:=.agg #[.pointer (some ⟨q,2,none⟩),.pointer (some ⟨q,3,none⟩),.pointer (some ⟨q,4,none⟩),.pointer (some ⟨q,5,none⟩)]
theorem Kku (q:Nat) (w:World):Calls prog 154 #[.pointer (some ⟨q,0,none⟩)] w fun e w'=>e = .returned (fldsV q)/\Below w.heap.size w w':=by
 go_enter func154,ntmps154
 go_upto_region 1 with fail
 have hb:Below w.heap.size w (w.alloc (.cells #[.pointer none,.pointer none,.pointer none,.pointer none] 246)):=(Below.refl _ _).alloc (db _) _;have hq:Blk (w.alloc (.cells #[.pointer none,.pointer none,.pointer none,.pointer none] 246)) w.heap.size 246 #[.pointer none,.pointer none,.pointer none,.pointer none]:=dS _ _ _;obtain ⟨w1,ab⟩:=iZ (w.alloc (.cells #[.pointer none,.pointer none,.pointer none,.pointer none] 246));obtain ⟨p,hp⟩:=iZ w.heap.size;rw[ab,hp] at hb hq;rw[ab];rw[hp];clear ab;refine Kal 13 (by kernel_rfl) (by kernel_rfl) ?_;simp only[de,dp,df,dr]
 repeat (go_big_quiet_step (fail))
 refine dV ?_;rintro w2 ⟨⟨_,ac⟩,rfl⟩;have aa:=hq.below ac hq.lt;have p0:w2.cell? ⟨p,0,none⟩=some (.pointer none):=aa.cell 0;have p1:w2.cell? ⟨p,1,none⟩=some (.pointer none):=aa.cell 1;have p2:w2.cell? ⟨p,2,none⟩=some (.pointer none):=aa.cell 2;have p3:w2.cell? ⟨p,3,none⟩=some (.pointer none):=aa.cell 3;have z:=aa.frozen;have z0:=z 0;have z1:=z 1;have z2:=z 2;have z3:=z 3;clear z;go_wp2_with fail
 have ae:=(((aa.set_ 0 (.pointer (some ⟨q,2,none⟩))).set_ 1 (.pointer (some ⟨q,3,none⟩))).set_ 2 (.pointer (some ⟨q,4,none⟩))).set_ 3 (.pointer (some ⟨q,5,none⟩));have ad:=((((hb.trans (ac.mono (by have:=hb.size;omega))).setCell (p:=⟨p,0,none⟩) (db _) (.pointer (some ⟨q,2,none⟩))).setCell (p:=⟨p,1,none⟩) (db _) (.pointer (some ⟨q,3,none⟩))).setCell (p:=⟨p,2,none⟩) (db _) (.pointer (some ⟨q,4,none⟩))).setCell (p:=⟨p,3,none⟩) (db _) (.pointer (some ⟨q,5,none⟩));refine bodyPost_ret (Kgk rfl _ _ ⟨p,0,none⟩ _ rfl (run_loadVar_row _ p 246 246 _ (0,0) _ ae underlying246 rfl (by kernel_rfl))) rfl ?_;exact ⟨rfl,by rw[hp];exact ad⟩
end
section
open Go.RowKit
open Lib renaming hid -> Jh
open List renaming length_append -> Jd
attribute [local go_sem ↓] Go.wp_at_zero Go.wp_at_succ
attribute [local go_sem] Later.cell
def aggE:Wnd->Bool->List Wnd->Nat
 | _,_,[]=>0
 | a,first,w :: l=>if Kdk w a first≠0 then Kdk w a first else aggE w false l
theorem Kkk:∀(l:List Wnd) (a:Wnd) (first:Bool),aggE a first l=0↔Kch a first l=true
 | [],_,_=>by simp[aggE,Kch]
 | w :: l,a,first=>by
  have ih:=Kkk l w false;have h:=Kkd w a first
  rw[aggE,Kch,dt,i8,<-h,<-ih]
  by_cases h0:Kdk w a first=0
  .rw[je (by simp[h0])];simp[h0]
  .rw[jf h0];simp[h0]
def aggO (l:List Wnd):List UInt8×Nat:=if aggE wnd0 true l=0 then (aggT l,0) else ([],aggE wnd0 true l)
def fldsT (a x:Wnd) (k:Nat):List UInt8:=([uintT (x.sum ^^^ a.sum),uintT (x.min ^^^ a.min),uintT (x.max ^^^ a.max),uintT (x.last ^^^ a.last)].take k).flatten
theorem Kom (a x:Wnd):fldsT a x 1=fldsT a x 0++uintT (x.sum ^^^ a.sum):=by simp[fldsT]
theorem Kon (a x:Wnd):fldsT a x 2=fldsT a x 1++uintT (x.min ^^^ a.min):=by simp[fldsT]
theorem Koo (a x:Wnd):fldsT a x 3=fldsT a x 2++uintT (x.max ^^^ a.max):=by simp[fldsT]
theorem Kop (a x:Wnd):fldsT a x 4=fldsT a x 3++uintT (x.last ^^^ a.last):=by simp[fldsT]
theorem Qez (a x:Wnd):wndT a x=uintT (x.start - a.start).toNat++(uintT x.count.toNat++fldsT a x 4):=by simp[wndT,fldsT]
theorem Bld.set {B b p i:Nat} {l:List UInt8} {T:TypeId} {cs:Array Value} {w:World} (h:Bld B b l w) (hp:Blk w p T cs) (hT:T≠5) (hpb:b≠p) (u:Value):Bld B b l (w.setCell ⟨p,i,none⟩ u):=by
 have aa:∀x,dI 109 5 B b x (dH l) w->dI 109 5 B b x (dH l) (w.setCell ⟨p,i,none⟩ u):=by
  rintro x ⟨h1,v,h2,h3,h4⟩
  have ab:v.ownBlock≠some p:=by
   intro e;rcases h3.2 with ⟨rfl,_⟩ | ⟨g,cap,cur,fz,rfl,_,hg,_⟩
   .cases e
   .injection e with e;have e:g=p:=e;subst e;unfold Blk at hp;rw[hg] at hp;injection hp with hp;injection hp with _ hp;exact hT hp.symm
  exact ⟨h1,v,Blk.far h2 (p:=⟨p,i,none⟩) hpb u,h3.kept (row:=some p) ⟨rfl,rfl,rfl,by simp[dN],fun k _ hk=>Below.heap_setCell _ _ _ _ (fun e=>hk (by rw[e]))⟩ (.inr ab),h4⟩
 rcases h with h | h
 .exact .inl (aa _ h)
 .exact .inr (aa _ h)
theorem Qab:0<=wnd0.start/\wnd0.start<=1125899906842624/\Kcm wnd0:=⟨by decide,by decide,by decide,by decide,by decide,by decide⟩
def lastW:Wnd->List Wnd->Wnd
 | a,[]=>a
 | _,w :: l=>lastW w l
theorem Kou:∀(l:List Wnd) (a x:Wnd),lastW a (l ++ [x])=x
 | [],_,_=>rfl
 | _ :: l,_,x=>Kou l _ x
theorem Kpt:∀(l:List Wnd) (a x:Wnd),wndsT a (l ++ [x])=wndsT a l++wndT (lastW a l) x
 | [],a,x=>by simp[wndsT,lastW]
 | w :: l,a,x=>by rw[dC,wndsT,wndsT,Kpt l,lastW,dd]
theorem Kka (l:List Wnd) (A:Option Addr) (n cap:Nat) (w:World) (hE:Elems w w.heap.size 6 Kad A n l) (hn:n<=1099511627776) (hv:∀x∈l,Kcm x) :
  Calls prog 118 #[.slice A n cap] w fun e w'=>e = .returned (.tuple #[.string ⟨(aggO l).1.toArray⟩,.int .i64 ((aggO l).2:Nat)])/\Below w.heap.size w w':=by
 have bb:=hE.len;have HE:=Jh hE;have HV:=Jh hv;have az:=Jh bb;obtain ⟨E,cb⟩:=iZ (aggE wnd0 true l);have bs:=Jh cb;have c0:=Jh (fun w=>Kau n (by omega) w);have h0:Bld w.heap.size w.heap.size [] (w.alloc (.cells #[.pointer none,.slice none 0 0] 109)):=Bld.new w (db _);have bn:Below w.heap.size w (w.alloc (.cells #[.pointer none,.slice none 0 0] 109)):=(Below.refl _ _).alloc (db _) _;have aQ:(w.alloc (.cells #[.pointer none,.slice none 0 0] 109)).heap.size=w.heap.size+1:=by simp
 clear hE hv cb bb;go_enter func118,ntmps118
 go_upto_region 2 with fail
 obtain ⟨w1,bw⟩:=iZ (w.alloc (.cells #[.pointer none,.slice none 0 0] 109));rw[bw] at h0 bn aQ;rw[bw];obtain ⟨b,hb⟩:=iZ w.heap.size;rw[hb] at h0 bn aQ HE |-;have HB:=Jh hb;have cS:=Jh h0;have cH:=Jh bn;clear bw h0 bn hb;go_wp2_with fail
 refine (c0.out w1).mono ?_;rintro _ w2 ⟨rfl,bv⟩;have aJ:=Jh (cS.out.below bv);have cJ:=Jh (cH.out.trans (bv.mono (by omega)));have ca:b<=w2.heap.size:=by have:=bv.size;omega
 go_wp2_with fail
 refine (Kba b b [] ⟨(uintT n).toArray⟩ w2 aJ.out (by show 0+(uintT n).toArray.size<=_;have:=(Kab n).2;simp only[dc];omega) ca).mono ?_;rintro _ w3 ⟨rfl,h5,h6,_⟩;have h5:Bld b b (uintT n) w3:=h5;have cx:b<=w3.heap.size:=da ca h6.size;have cT:=h5.lt;have hc:Below w3.heap.size w3 (w3.alloc (.cells #[.int .i64 wnd0.start,.int .i64 wnd0.count,.int .u64 (wnd0.sum:Int),.int .u64 (wnd0.min:Int),.int .u64 (wnd0.max:Int),.int .u64 (wnd0.last:Int)] 135)):=(Below.refl _ _).alloc (db _) _;have ha:Blk (w3.alloc (.cells #[.int .i64 wnd0.start,.int .i64 wnd0.count,.int .u64 (wnd0.sum:Int),.int .u64 (wnd0.min:Int),.int .u64 (wnd0.max:Int),.int .u64 (wnd0.last:Int)] 135)) w3.heap.size 135 #[.int .i64 wnd0.start,.int .i64 wnd0.count,.int .u64 (wnd0.sum:Int),.int .u64 (wnd0.min:Int),.int .u64 (wnd0.max:Int),.int .u64 (wnd0.last:Int)]:=dS _ _ _;obtain ⟨w4,bO⟩:=iZ (w3.alloc (.cells #[.int .i64 wnd0.start,.int .i64 wnd0.count,.int .u64 (wnd0.sum:Int),.int .u64 (wnd0.min:Int),.int .u64 (wnd0.max:Int),.int .u64 (wnd0.last:Int)] 135));have aZ:w3.alloc (.cells #[.int .i64 0,.int .i64 0,.int .u64 0,.int .u64 0,.int .u64 0,.int .u64 0] 135)=w4:=bO;obtain ⟨ba,bo⟩:=iZ w3.heap.size;rw[bO] at hc ha;rw[bo] at ha;have hbb:b < ba:=by omega
 have aq:=Jh (h5.below hc);have cW:=Jh ((cJ.out.trans h6).trans (hc.mono cx));have aw:=Jh ha;have HBA:=Jh bo;clear h5 h6 bv hc ha bO cT;go_upto_region 4 with fail
 try rw[aZ]
 try rw[bo]
 clear aZ bo;go_wp2_with fail
 go_loopg [19] n (fun g s19 wr=>∃i:Nat,i+g=n/\s19 = .int .i64 (i:Int)/\aggE (lastW wnd0 (l.take i)) (decide (i=0)) (l.drop i)=E/\Bld b b (uintT n++wndsT wnd0 (l.take i)) wr/\Below b w wr/\Blk wr ba 135 #[.int .i64 (lastW wnd0 (l.take i)).start,.int .i64 (lastW wnd0 (l.take i)).count,.int .u64 ((lastW wnd0 (l.take i)).sum:Int),.int .u64 ((lastW wnd0 (l.take i)).min:Int),.int .u64 ((lastW wnd0 (l.take i)).max:Int),.int .u64 ((lastW wnd0 (l.take i)).last:Int)]/\(0<=(lastW wnd0 (l.take i)).start/\(lastW wnd0 (l.take i)).start<=1125899906842624/\Kcm (lastW wnd0 (l.take i)))/\(uintT n++wndsT wnd0 (l.take i)).length<=11+66*i)
 case atStart=>exact ⟨0,by omega,rfl,bs.out,by simpa[wndsT] using aq.out,cW.out,aw.out,Qab,by have:=(Kab n).2;simp[wndsT];omega⟩
 case round=>
  obtain ⟨i,hi,rfl,he,b4,bL,b2,b7,cr⟩:=hrel;have HI:=Jh hi;have br:=Jh he;have HL:=Jh b4;have HR:=Jh bL;have bx:=Jh b2;have bG:=Jh b7;have bp:=Jh cr;have bD:b<=wr.heap.size:=da (by rw[HB.out];exact db _) bL.size;clear he b4 bL b2 b7 cr
  by_cases hin:i < n
  .have bm:i < l.length:=by have:=az.out;omega
   obtain ⟨bk,aD,rfl,cD,aA⟩:=HE.out.2 (by omega);have hx:∀j v,(Kad l[i])[j]? = some v->wr.cell? ⟨bk,aD+i*6+j,none⟩=some v:=fun j v hv=>(HR.out.cell (p:=⟨bk,aD+i*6+j,none⟩) cD).trans (aA i l[i] (c4 bm) j v hv)
   have bN:=HV.out l[i] (dD bm);have aS:l.drop i=l[i] :: l.drop (i+1):=dw bm;have aR:l.take (i+1)=l.take i ++ [l[i]]:=dn bm;obtain ⟨x,b9⟩:=iZ (l[i]);rw[b9] at hx bN aS aR;have m0:wr.cell? ⟨bk,aD+i*6,none⟩=some (.int .i64 x.start):=hx 0 _ rfl;have m1:wr.cell? ⟨bk,aD+i*6+1,none⟩=some (.int .i64 x.count):=hx 1 _ rfl;have m2:wr.cell? ⟨bk,aD+i*6+2,none⟩=some (.int .u64 (x.sum:Int)):=hx 2 _ rfl;have m3:wr.cell? ⟨bk,aD+i*6+3,none⟩=some (.int .u64 (x.min:Int)):=hx 3 _ rfl;have m4:wr.cell? ⟨bk,aD+i*6+4,none⟩=some (.int .u64 (x.max:Int)):=hx 4 _ rfl;have m5:wr.cell? ⟨bk,aD+i*6+5,none⟩=some (.int .u64 (x.last:Int)):=hx 5 _ rfl;have cV:=Jh aS;have cq:=Jh aR;have ay:=Jh bN;obtain ⟨a,bE⟩:=iZ (lastW wnd0 (l.take i));rw[bE] at br bx bG;have ch:=Jh bE;obtain ⟨L,hL⟩:=iZ (uintT n++wndsT wnd0 (l.take i));rw[hL] at HL bp;have cw:=Jh hL;have af:Hid (Kcm a):=Jh bG.out.2.2;have el2:(i:Int) < (n:Int):=by omega
   clear hi aS aR b9 bE hL aA hx bN;have aT:Below wr.heap.size wr (wr.alloc (.cells #[.int .i64 x.start,.int .i64 x.count,.int .u64 (x.sum:Int),.int .u64 (x.min:Int),.int .u64 (x.max:Int),.int .u64 (x.last:Int)] 135)):=(Below.refl _ _).alloc (db _) _;have ao:Blk (wr.alloc (.cells #[.int .i64 x.start,.int .i64 x.count,.int .u64 (x.sum:Int),.int .u64 (x.min:Int),.int .u64 (x.max:Int),.int .u64 (x.last:Int)] 135)) wr.heap.size 135 #[.int .i64 x.start,.int .i64 x.count,.int .u64 (x.sum:Int),.int .u64 (x.min:Int),.int .u64 (x.max:Int),.int .u64 (x.last:Int)]:=dS _ _ _;go_upto_region 7 with fail
   obtain ⟨w5,bQ⟩:=iZ (wr.alloc (.cells #[.int .i64 x.start,.int .i64 x.count,.int .u64 (x.sum:Int),.int .u64 (x.min:Int),.int .u64 (x.max:Int),.int .u64 (x.last:Int)] 135));obtain ⟨qw,b1⟩:=iZ wr.heap.size;rw[bQ] at aT ao
   try rw[bQ]
   rw[b1] at ao
   try rw[b1]
   have hqb:ba < qw:=by have:=bx.out.lt;omega
   have av:=Jh (HL.out.below aT);have ar:=Jh (HR.out.trans (aT.mono bD));have ah:=Jh (bx.out.below aT bx.out.lt);have ap:=Jh ao;have co:b<=w5.heap.size:=da bD aT.size;have x0:w5.cell? ⟨qw,0,none⟩=some (.int .i64 x.start):=ao.cell 0;have x1:w5.cell? ⟨qw,1,none⟩=some (.int .i64 x.count):=ao.cell 1;have x2:w5.cell? ⟨qw,2,none⟩=some (.int .u64 (x.sum:Int)):=ao.cell 2;have x3:w5.cell? ⟨qw,3,none⟩=some (.int .u64 (x.min:Int)):=ao.cell 3;have x4:w5.cell? ⟨qw,4,none⟩=some (.int .u64 (x.max:Int)):=ao.cell 4;have x5:w5.cell? ⟨qw,5,none⟩=some (.int .u64 (x.last:Int)):=ao.cell 5;have a0:w5.cell? ⟨ba,0,none⟩=some (.int .i64 a.start):=ah.out.cell 0;have a1:w5.cell? ⟨ba,1,none⟩=some (.int .i64 a.count):=ah.out.cell 1;have a2:w5.cell? ⟨ba,2,none⟩=some (.int .u64 (a.sum:Int)):=ah.out.cell 2;have a3:w5.cell? ⟨ba,3,none⟩=some (.int .u64 (a.min:Int)):=ah.out.cell 3;have a4:w5.cell? ⟨ba,4,none⟩=some (.int .u64 (a.max:Int)):=ah.out.cell 4;have a5:w5.cell? ⟨ba,5,none⟩=some (.int .u64 (a.last:Int)):=ah.out.cell 5;clear aT ao bQ b1 m0 m1 m2 m3 m4 m5;obtain ⟨fst,ax⟩:=iZ (decide (i=0));have hf2:((i:Int) == 0)=fst:=by rw[<-ax];cases i <;> simp <;> omega
   rw[ax] at br;have bK:=Jh ax;obtain ⟨se,bj⟩:=iZ (Kdk x a fst);have bH:=Jh (Ktd x a fst w5);unfold wndV at bH;rw[bj] at bH;have cN:=Jh bj;have aK:=br.out;rw[cV.out,aggE,bj] at aK;have cX:se<=110:=by (rw[<-bj];unfold Kdk;repeat' split);all_goals omega
   clear bj ax;go_wp2_with fail
   refine bH.out.mono ?_;rintro _ w6 ⟨rfl,h6⟩;have cZ:=Jh (av.out.below h6);have ck:=Jh (ar.out.trans (h6.mono co));have bC:=Jh (ah.out.below h6 ah.out.lt);have bW:=Jh (ap.out.below h6 ap.out.lt);have b5:b<=w6.heap.size:=da co h6.size;clear h6 x0 x1 x2 x3 x4 x5 a0 a1 a2 a3 a4 a5
   by_cases aQ:se=0
   .subst aQ;rw[je (by simp)] at aK;have bq:=Jh aK;clear aK;have cl:=(Kmo x a fst).1 ((Kkd x a fst).1 cN.out);obtain ⟨k1,k2,k3,k4⟩:=cl.1;have cQ:=bG.out.1
    have hge:a.start<=x.start:=by
     rcases cl.2 with hf | hf
     .have:i=0:=by
       have:=bK.out;rw[hf] at this;exact jh this
      have ha:=ch.out;rw[this] at ha;rw[<-ha];exact k1
     .omega
    obtain ⟨y1,ce⟩:=iZ ((x.start - a.start).toNat);obtain ⟨y2,cj⟩:=iZ x.count.toNat;have cA:x.start - a.start=(y1:Int):=by omega
    have bg:x.count=(y2:Int):=by omega
    have bw:wrap64 (x.start - a.start)=(y1:Int):=by unfold wrap64;omega
    have hu1:dQ.wrap (y1:Int)=(y1:Int):=by rw[dP];omega
    have hu2:dQ.wrap (y2:Int)=(y2:Int):=by rw[dP];omega
    have ct:=Jh (fun w=>Kau y1 (by omega) w);have cv:=Jh (fun w=>Kau y2 (by omega) w);have cI:=Jh ce;have cU:=Jh cj;have x0:w6.cell? ⟨qw,0,none⟩=some (.int .i64 x.start):=bW.out.cell 0;have a0:w6.cell? ⟨ba,0,none⟩=some (.int .i64 a.start):=bC.out.cell 0;clear ce cj;go_wp2_with fail
    refine (ct.out w6).mono ?_;rintro _ w7 ⟨rfl,h7⟩;have cK:=Jh (cZ.out.below h7);have cB:=Jh (ck.out.trans (h7.mono b5));have cY:=Jh (bC.out.below h7 bC.out.lt);have c1:=Jh (bW.out.below h7 bW.out.lt);have cp:b<=w7.heap.size:=da b5 h7.size;clear h7;clear x0 a0;go_wp2_with fail
    refine (Kba b b (L) ⟨(uintT y1).toArray⟩ w7 cK.out (by show _+(uintT y1).toArray.size<=_;have:=(Kab y1).2;have:=bp.out;have:=HI.out;simp only[dc,Jd];omega) cp).mono ?_;rintro _ w8 ⟨rfl,h5,h6,h7⟩;have cG:=Jh h5;have cF:=Jh (cB.out.trans h6);have ci:=Jh (h7.blk cY.out (by omega) (by decide));have bR:=Jh (h7.blk c1.out (by omega) (by decide));have b6:b<=w8.heap.size:=da cp h6.size;clear h5 h6 h7;have x1:w8.cell? ⟨qw,1,none⟩=some (.int .i64 (y2:Int)):=(bR.out.cell 1).trans (by rw[<-bg];rfl);go_wp2_with fail
    refine (cv.out w8).mono ?_;rintro _ w9 ⟨rfl,h9⟩;have bU:=Jh (cG.out.below h9);have bz:=Jh (cF.out.trans (h9.mono b6));have ak:=Jh (ci.out.below h9 ci.out.lt);have aC:=Jh (bR.out.below h9 bR.out.lt);have b3:b<=w9.heap.size:=da b6 h9.size;clear h9;clear x1;go_wp2_with fail
    refine (Kba b b (L++uintT y1) ⟨(uintT y2).toArray⟩ w9 bU.out (by show _+(uintT y2).toArray.size<=_;have:=(Kab y2).2;have:=bp.out;have:=HI.out;simp only[dc,Jd];have:=(Kab y1).2;omega) b3).mono ?_;rintro _ bB ⟨rfl,h5,h6,h7⟩;have bP:=Jh (show Bld b b (L++uintT y1++uintT y2) bB from h5);have bA:=Jh (bz.out.trans h6);have bc:=Jh (h7.blk ak.out (by omega) (by decide));have a7:=Jh (h7.blk aC.out (by omega) (by decide));have bf:b<=bB.heap.size:=da b3 h6.size;clear h5 h6 h7;go_wp2_with fail
    refine (Kku ba bB).mono ?_;rintro _ aB ⟨rfl,aU⟩;have bI:=Jh (bP.out.below aU);have bX:=Jh (bA.out.trans (aU.mono bf));have aG:=Jh (bc.out.below aU bc.out.lt);have aY:=Jh (a7.out.below aU a7.out.lt);have aV:b<=aB.heap.size:=da bf aU.size;clear aU;unfold fldsV;have al:Below aB.heap.size aB (aB.alloc (.cells #[.pointer (some ⟨ba,2,none⟩),.pointer (some ⟨ba,3,none⟩),.pointer (some ⟨ba,4,none⟩),.pointer (some ⟨ba,5,none⟩)] 246)):=(Below.refl _ _).alloc (db _) _;have am:Blk (aB.alloc (.cells #[.pointer (some ⟨ba,2,none⟩),.pointer (some ⟨ba,3,none⟩),.pointer (some ⟨ba,4,none⟩),.pointer (some ⟨ba,5,none⟩)] 246)) aB.heap.size 246 #[.pointer (some ⟨ba,2,none⟩),.pointer (some ⟨ba,3,none⟩),.pointer (some ⟨ba,4,none⟩),.pointer (some ⟨ba,5,none⟩)]:=dS _ _ _;go_upto_region 13 with fail
    obtain ⟨w12,aH⟩:=iZ (aB.alloc (.cells #[.pointer (some ⟨ba,2,none⟩),.pointer (some ⟨ba,3,none⟩),.pointer (some ⟨ba,4,none⟩),.pointer (some ⟨ba,5,none⟩)] 246));obtain ⟨qo,bM⟩:=iZ aB.heap.size;rw[aH] at al am
    try rw[aH]
    rw[bM] at am
    try rw[bM]
    have cy:ba < qo:=by have:=aG.out.lt;omega
    clear aH bM;have bY:=Jh (bI.out.below al);have bJ:=Jh (bX.out.trans (al.mono aV));have bh:=Jh (aG.out.below al aG.out.lt);have aW:=Jh (aY.out.below al aY.out.lt);have bi:b<=w12.heap.size:=da aV al.size;clear al;go_wp2_with fail
    refine (Kku qw w12).mono ?_;rintro _ cR ⟨rfl,aF⟩;have a6:=Jh (am.below aF am.lt);have aX:=Jh (bY.out.below aF);have bS:=Jh (bJ.out.trans (aF.mono bi));have bZ:=Jh (bh.out.below aF bh.out.lt);have b0:=Jh (aW.out.below aF aW.out.lt);have cO:b<=cR.heap.size:=da bi aF.size;clear aF;unfold fldsV;obtain ⟨L2,bt⟩:=iZ (L++uintT y1++uintT y2);rw[bt] at aX
    have cM:L2.length<=11+66*i+22:=by rw[<-bt,Jd,Jd];have:=bp.out;have:=(Kab y1).2;have:=(Kab y2).2;omega
    have bT:=Jh bt;clear bt am;have cC:∀w:World,(dU 246 (.agg #[.pointer (some ⟨qw,2,none⟩),.pointer (some ⟨qw,3,none⟩),.pointer (some ⟨qw,4,none⟩),.pointer (some ⟨qw,5,none⟩)]) (.int .i64 0)).run prog w = .ok (.pointer (some ⟨qw,2,none⟩)) w:=fun w=>by kernel_rfl
    have cE:∀w:World,(dU 246 (.agg #[.pointer (some ⟨qw,2,none⟩),.pointer (some ⟨qw,3,none⟩),.pointer (some ⟨qw,4,none⟩),.pointer (some ⟨qw,5,none⟩)]) (.int .i64 1)).run prog w = .ok (.pointer (some ⟨qw,3,none⟩)) w:=fun w=>by kernel_rfl
    have cz:∀w:World,(dU 246 (.agg #[.pointer (some ⟨qw,2,none⟩),.pointer (some ⟨qw,3,none⟩),.pointer (some ⟨qw,4,none⟩),.pointer (some ⟨qw,5,none⟩)]) (.int .i64 2)).run prog w = .ok (.pointer (some ⟨qw,4,none⟩)) w:=fun w=>by kernel_rfl
    have cP:∀w:World,(dU 246 (.agg #[.pointer (some ⟨qw,2,none⟩),.pointer (some ⟨qw,3,none⟩),.pointer (some ⟨qw,4,none⟩),.pointer (some ⟨qw,5,none⟩)]) (.int .i64 3)).run prog w = .ok (.pointer (some ⟨qw,5,none⟩)) w:=fun w=>by kernel_rfl
    go_upto_block 2 with fail
    go_cut [] (fun wx=>Bld b b (L2++fldsT a x 4) wx/\Below b w wx/\Blk wx ba 135 #[.int .i64 a.start,.int .i64 a.count,.int .u64 (a.sum:Int),.int .u64 (a.min:Int),.int .u64 (a.max:Int),.int .u64 (a.last:Int)]/\Blk wx qw 135 #[.int .i64 x.start,.int .i64 x.count,.int .u64 (x.sum:Int),.int .u64 (x.min:Int),.int .u64 (x.max:Int),.int .u64 (x.last:Int)])
    case first=>
     go_wp2_with fail
     go_loopg [47] 4 (fun g s47 wr2=>∃k:Nat,k+g=4/\s47 = .int .i64 (k:Int)/\k<=4/\Bld b b (L2++fldsT a x k) wr2/\(L2++fldsT a x k).length<=11+66*i+22+11*k/\Below b w wr2/\Blk wr2 ba 135 #[.int .i64 a.start,.int .i64 a.count,.int .u64 (a.sum:Int),.int .u64 (a.min:Int),.int .u64 (a.max:Int),.int .u64 (a.last:Int)]/\Blk wr2 qw 135 #[.int .i64 x.start,.int .i64 x.count,.int .u64 (x.sum:Int),.int .u64 (x.min:Int),.int .u64 (x.max:Int),.int .u64 (x.last:Int)]/\Blk wr2 qo 246 #[.pointer (some ⟨ba,2,none⟩),.pointer (some ⟨ba,3,none⟩),.pointer (some ⟨ba,4,none⟩),.pointer (some ⟨ba,5,none⟩)])
     case atStart=>exact ⟨0,rfl,rfl,by omega,by simpa[fldsT] using aX.out,by simp[fldsT];omega,bS.out,bZ.out,b0.out,a6.out⟩
     case round=>
      obtain ⟨k,hk,rfl,hk4,a8,be,bF,cf,cg,bd⟩:=hrel;have aJ:=Jh a8;have ad:=Jh be;have a9:=Jh bF;have ac:=Jh cf;have ag:=Jh cg;have aa:=Jh bd;have hIn:=HI.out;have ae:b<=wr.heap.size:=da (by rw[HB.out];exact db _) bF.size;clear a8 be bF cf cg bd;rcases (by omega:k=0\/k=1\/k=2\/k=3\/k=4) with rfl | rfl | rfl | rfl | rfl
      .obtain rfl:gk=4:=by omega
       have o0:wr.cell? ⟨qo,0,none⟩=some (.pointer (some ⟨ba,2,none⟩)):=aa.out.cell 0;have a0:wr.cell? ⟨ba,2,none⟩=some (.int .u64 (a.sum:Int)):=ac.out.cell 2;have x0:wr.cell? ⟨qw,2,none⟩=some (.int .u64 (x.sum:Int)):=ag.out.cell 2;have aP:bits .xor .u64 (x.sum:Int) (a.sum:Int)=((x.sum ^^^ a.sum:Nat):Int):=bits_xor_u64_nat _ _ (by have:=ay.out.1;omega) (by have:=af.out.1;omega);have an:x.sum ^^^ a.sum < 2 ^ 64:=dl ay.out.1 af.out.1;obtain ⟨y,hy⟩:=iZ (x.sum ^^^ a.sum);rw[hy] at aP an;have HY:=Jh hy;have HU:=Jh (fun w=>Kau y an w);have aM:=ac.out.lt;have aO:=ag.out.lt;have aN:=aa.out.lt;clear hy;go_upto_region 16 with fail
       refine Kal 10 (by kernel_rfl) (by kernel_rfl) ?_;simp only[de,dp,df,dr]
       repeat (go_big_quiet_step ((go_at_call 42;exact Kaj _ (HU.out _))))
       refine dV ?_;rintro w4 ⟨⟨_,ab⟩,rfl⟩;have aq:=Jh (aJ.out.below ab);have aL:=Jh (a9.out.trans (ab.mono ae));have aw:=Jh (ac.out.below ab ac.out.lt);have aE:=Jh (ag.out.below ab ag.out.lt);have aj:=Jh (aa.out.below ab aa.out.lt);have aI:b<=w4.heap.size:=da ae ab.size;clear ab o0 a0 x0 aM aO aN;go_wp2_with fail
       refine (Kba b b _ ⟨(uintT y).toArray⟩ w4 aq.out (by show _+(uintT y).toArray.size<=_;have:=(Kab y).2;have:=ad.out;simp only[dc];omega) aI).mono ?_;rintro _ w5 ⟨rfl,h5,h6,h7⟩;have av:=Jh h5;have ar:=Jh (aL.out.trans h6);have ah:=Jh (h7.blk aw.out (by omega) (by decide));have ap:=Jh (h7.blk aE.out (by omega) (by decide));have ai:=Jh (h7.blk aj.out (by omega) (by decide));clear h5 h6 h7;go_wp2_with fail
       go_roundg 3
       case measure=>omega
       case rel=>
        refine ⟨1,rfl,rfl,by omega,?_,?_,ar.out,ah.out,ap.out,ai.out⟩
        .rw[Kom,HY.out,<-dd];exact av.out
        .rw[Kom,HY.out,Jd,Jd];have:=ad.out;rw[Jd] at this;have:=(Kab y).2;omega
      .obtain rfl:gk=3:=by omega
       have o0:wr.cell? ⟨qo,1,none⟩=some (.pointer (some ⟨ba,3,none⟩)):=aa.out.cell 1;have a0:wr.cell? ⟨ba,3,none⟩=some (.int .u64 (a.min:Int)):=ac.out.cell 3;have x0:wr.cell? ⟨qw,3,none⟩=some (.int .u64 (x.min:Int)):=ag.out.cell 3;have aP:bits .xor .u64 (x.min:Int) (a.min:Int)=((x.min ^^^ a.min:Nat):Int):=bits_xor_u64_nat _ _ (by have:=ay.out.2.1;omega) (by have:=af.out.2.1;omega);have an:x.min ^^^ a.min < 2 ^ 64:=dl ay.out.2.1 af.out.2.1;obtain ⟨y,hy⟩:=iZ (x.min ^^^ a.min);rw[hy] at aP an;have HY:=Jh hy;have HU:=Jh (fun w=>Kau y an w);have aM:=ac.out.lt;have aO:=ag.out.lt;have aN:=aa.out.lt;clear hy;go_upto_region 16 with fail
       refine Kal 10 (by kernel_rfl) (by kernel_rfl) ?_;simp only[de,dp,df,dr]
       repeat (go_big_quiet_step ((go_at_call 42;exact Kaj _ (HU.out _))))
       refine dV ?_;rintro w4 ⟨⟨_,ab⟩,rfl⟩;have aq:=Jh (aJ.out.below ab);have aL:=Jh (a9.out.trans (ab.mono ae));have aw:=Jh (ac.out.below ab ac.out.lt);have aE:=Jh (ag.out.below ab ag.out.lt);have aj:=Jh (aa.out.below ab aa.out.lt);have aI:b<=w4.heap.size:=da ae ab.size;clear ab o0 a0 x0 aM aO aN;go_wp2_with fail
       refine (Kba b b _ ⟨(uintT y).toArray⟩ w4 aq.out (by show _+(uintT y).toArray.size<=_;have:=(Kab y).2;have:=ad.out;simp only[dc];omega) aI).mono ?_;rintro _ w5 ⟨rfl,h5,h6,h7⟩;have av:=Jh h5;have ar:=Jh (aL.out.trans h6);have ah:=Jh (h7.blk aw.out (by omega) (by decide));have ap:=Jh (h7.blk aE.out (by omega) (by decide));have ai:=Jh (h7.blk aj.out (by omega) (by decide));clear h5 h6 h7;go_wp2_with fail
       go_roundg 2
       case measure=>omega
       case rel=>
        refine ⟨2,rfl,rfl,by omega,?_,?_,ar.out,ah.out,ap.out,ai.out⟩
        .rw[Kon,HY.out,<-dd];exact av.out
        .rw[Kon,HY.out,Jd,Jd];have:=ad.out;rw[Jd] at this;have:=(Kab y).2;omega
      .obtain rfl:gk=2:=by omega
       have o0:wr.cell? ⟨qo,2,none⟩=some (.pointer (some ⟨ba,4,none⟩)):=aa.out.cell 2;have a0:wr.cell? ⟨ba,4,none⟩=some (.int .u64 (a.max:Int)):=ac.out.cell 4;have x0:wr.cell? ⟨qw,4,none⟩=some (.int .u64 (x.max:Int)):=ag.out.cell 4;have aP:bits .xor .u64 (x.max:Int) (a.max:Int)=((x.max ^^^ a.max:Nat):Int):=bits_xor_u64_nat _ _ (by have:=ay.out.2.2.1;omega) (by have:=af.out.2.2.1;omega);have an:x.max ^^^ a.max < 2 ^ 64:=dl ay.out.2.2.1 af.out.2.2.1;obtain ⟨y,hy⟩:=iZ (x.max ^^^ a.max);rw[hy] at aP an;have HY:=Jh hy;have HU:=Jh (fun w=>Kau y an w);have aM:=ac.out.lt;have aO:=ag.out.lt;have aN:=aa.out.lt;clear hy;go_upto_region 16 with fail
       refine Kal 10 (by kernel_rfl) (by kernel_rfl) ?_;simp only[de,dp,df,dr]
       repeat (go_big_quiet_step ((go_at_call 42;exact Kaj _ (HU.out _))))
       refine dV ?_;rintro w4 ⟨⟨_,ab⟩,rfl⟩;have aq:=Jh (aJ.out.below ab);have aL:=Jh (a9.out.trans (ab.mono ae));have aw:=Jh (ac.out.below ab ac.out.lt);have aE:=Jh (ag.out.below ab ag.out.lt);have aj:=Jh (aa.out.below ab aa.out.lt);have aI:b<=w4.heap.size:=da ae ab.size;clear ab o0 a0 x0 aM aO aN;go_wp2_with fail
       refine (Kba b b _ ⟨(uintT y).toArray⟩ w4 aq.out (by show _+(uintT y).toArray.size<=_;have:=(Kab y).2;have:=ad.out;simp only[dc];omega) aI).mono ?_;rintro _ w5 ⟨rfl,h5,h6,h7⟩;have av:=Jh h5;have ar:=Jh (aL.out.trans h6);have ah:=Jh (h7.blk aw.out (by omega) (by decide));have ap:=Jh (h7.blk aE.out (by omega) (by decide));have ai:=Jh (h7.blk aj.out (by omega) (by decide));clear h5 h6 h7;go_wp2_with fail
       go_roundg 1
       case measure=>omega
       case rel=>
        refine ⟨3,rfl,rfl,by omega,?_,?_,ar.out,ah.out,ap.out,ai.out⟩
        .rw[Koo,HY.out,<-dd];exact av.out
        .rw[Koo,HY.out,Jd,Jd];have:=ad.out;rw[Jd] at this;have:=(Kab y).2;omega
      .obtain rfl:gk=1:=by omega
       have o0:wr.cell? ⟨qo,3,none⟩=some (.pointer (some ⟨ba,5,none⟩)):=aa.out.cell 3;have a0:wr.cell? ⟨ba,5,none⟩=some (.int .u64 (a.last:Int)):=ac.out.cell 5;have x0:wr.cell? ⟨qw,5,none⟩=some (.int .u64 (x.last:Int)):=ag.out.cell 5;have aP:bits .xor .u64 (x.last:Int) (a.last:Int)=((x.last ^^^ a.last:Nat):Int):=bits_xor_u64_nat _ _ (by have:=ay.out.2.2.2;omega) (by have:=af.out.2.2.2;omega);have an:x.last ^^^ a.last < 2 ^ 64:=dl ay.out.2.2.2 af.out.2.2.2;obtain ⟨y,hy⟩:=iZ (x.last ^^^ a.last);rw[hy] at aP an;have HY:=Jh hy;have HU:=Jh (fun w=>Kau y an w);have aM:=ac.out.lt;have aO:=ag.out.lt;have aN:=aa.out.lt;clear hy;go_upto_region 16 with fail
       refine Kal 10 (by kernel_rfl) (by kernel_rfl) ?_;simp only[de,dp,df,dr]
       repeat (go_big_quiet_step ((go_at_call 42;exact Kaj _ (HU.out _))))
       refine dV ?_;rintro w4 ⟨⟨_,ab⟩,rfl⟩;have aq:=Jh (aJ.out.below ab);have aL:=Jh (a9.out.trans (ab.mono ae));have aw:=Jh (ac.out.below ab ac.out.lt);have aE:=Jh (ag.out.below ab ag.out.lt);have aj:=Jh (aa.out.below ab aa.out.lt);have aI:b<=w4.heap.size:=da ae ab.size;clear ab o0 a0 x0 aM aO aN;go_wp2_with fail
       refine (Kba b b _ ⟨(uintT y).toArray⟩ w4 aq.out (by show _+(uintT y).toArray.size<=_;have:=(Kab y).2;have:=ad.out;simp only[dc];omega) aI).mono ?_;rintro _ w5 ⟨rfl,h5,h6,h7⟩;have av:=Jh h5;have ar:=Jh (aL.out.trans h6);have ah:=Jh (h7.blk aw.out (by omega) (by decide));have ap:=Jh (h7.blk aE.out (by omega) (by decide));have ai:=Jh (h7.blk aj.out (by omega) (by decide));clear h5 h6 h7;go_wp2_with fail
       go_roundg 0
       case measure=>omega
       case rel=>
        refine ⟨4,rfl,rfl,by omega,?_,?_,ar.out,ah.out,ap.out,ai.out⟩
        .rw[Kop,HY.out,<-dd];exact av.out
        .rw[Kop,HY.out,Jd,Jd];have:=ad.out;rw[Jd] at this;have:=(Kab y).2;omega
      .obtain rfl:gk=0:=by omega
       go_wp2_with fail
       go_meet
       exact ⟨aJ.out,a9.out,ac.out,ag.out⟩
    case rest=>
     obtain ⟨cn,b8,cd,cc⟩:=hcut;have bU:=Jh cn;have bz:=Jh b8;have ak:=Jh cd;have aC:=Jh cc;clear cn b8 cd cc;have x0:wc.cell? ⟨qw,0,none⟩=some (.int .i64 x.start):=aC.out.cell 0;have x1:wc.cell? ⟨qw,1,none⟩=some (.int .i64 x.count):=aC.out.cell 1;have x2:wc.cell? ⟨qw,2,none⟩=some (.int .u64 (x.sum:Int)):=aC.out.cell 2;have x3:wc.cell? ⟨qw,3,none⟩=some (.int .u64 (x.min:Int)):=aC.out.cell 3;have x4:wc.cell? ⟨qw,4,none⟩=some (.int .u64 (x.max:Int)):=aC.out.cell 4;have x5:wc.cell? ⟨qw,5,none⟩=some (.int .u64 (x.last:Int)):=aC.out.cell 5;have a0:wc.cell? ⟨ba,0,none⟩=some (.int .i64 a.start):=ak.out.cell 0;have a1:wc.cell? ⟨ba,1,none⟩=some (.int .i64 a.count):=ak.out.cell 1;have a2:wc.cell? ⟨ba,2,none⟩=some (.int .u64 (a.sum:Int)):=ak.out.cell 2;have a3:wc.cell? ⟨ba,3,none⟩=some (.int .u64 (a.min:Int)):=ak.out.cell 3;have a4:wc.cell? ⟨ba,4,none⟩=some (.int .u64 (a.max:Int)):=ak.out.cell 4;have a5:wc.cell? ⟨ba,5,none⟩=some (.int .u64 (a.last:Int)):=ak.out.cell 5;have z0:=ak.out.frozen 0;have z1:=ak.out.frozen 1;have z2:=ak.out.frozen 2;have z3:=ak.out.frozen 3;have z4:=ak.out.frozen 4;have z5:=ak.out.frozen 5;go_wp2_with fail
     have t0:=ak.out;have g0:=bU.out;have r0:=bz.out;have g1:=g0.set (i:=0) t0 (by decide) (by omega) (.int .i64 x.start);have r1:=r0.setCell (p:=⟨ba,0,none⟩) (by simp;omega) (.int .i64 x.start);have t1:=t0.set_ 0 (.int .i64 x.start);have g2:=g1.set (i:=1) t1 (by decide) (by omega) (.int .i64 (y2:Int));have r2:=r1.setCell (p:=⟨ba,1,none⟩) (by simp;omega) (.int .i64 (y2:Int));have t2:=t1.set_ 1 (.int .i64 (y2:Int));have g3:=g2.set (i:=2) t2 (by decide) (by omega) (.int .u64 (x.sum:Int));have r3:=r2.setCell (p:=⟨ba,2,none⟩) (by simp;omega) (.int .u64 (x.sum:Int));have t3:=t2.set_ 2 (.int .u64 (x.sum:Int));have g4:=g3.set (i:=3) t3 (by decide) (by omega) (.int .u64 (x.min:Int));have r4:=r3.setCell (p:=⟨ba,3,none⟩) (by simp;omega) (.int .u64 (x.min:Int));have t4:=t3.set_ 3 (.int .u64 (x.min:Int));have g5:=g4.set (i:=4) t4 (by decide) (by omega) (.int .u64 (x.max:Int));have r5:=r4.setCell (p:=⟨ba,4,none⟩) (by simp;omega) (.int .u64 (x.max:Int));have t5:=t4.set_ 4 (.int .u64 (x.max:Int));have g6:=g5.set (i:=5) t5 (by decide) (by omega) (.int .u64 (x.last:Int));have r6:=r5.setCell (p:=⟨ba,5,none⟩) (by simp;omega) (.int .u64 (x.last:Int));have t6:=t5.set_ 5 (.int .u64 (x.last:Int));have G:=Jh g6;have R:=Jh r6;have T:=Jh t6;clear g0 g1 g2 g3 g4 g5 g6 r0 r1 r2 r3 r4 r5 r6 t0 t1 t2 t3 t4 t5 t6;go_roundg (n - (i+1))
     case measure=>have:=HI.out;omega
     case rel=>
      have hT:L2++fldsT a x 4=uintT n++wndsT wnd0 (l.take (i+1)):=by rw[cq.out,Kpt,ch.out,Qez,cI.out,cU.out,<-bT.out,<-cw.out];simp
      have bV:lastW wnd0 (l.take (i+1))=x:=by rw[cq.out,Kou]
      refine ⟨i+1,by have:=HI.out;omega,by go_num,?_,?_,R.out,?_,?_,?_⟩
      .rw[bV,show decide (i+1=0)=false by simp];exact bq.out
      .rw[<-hT];exact G.out
      .rw[bV,bg];exact T.out
      .rw[bV];exact ⟨k1,k2,ay.out⟩
      .rw[<-hT,Jd];have h1:=cM
       have h2:(fldsT a x 4).length<=44:=by simp only[fldsT,List.take,List.flatten_cons,List.flatten_nil,Jd,List.length_nil];have q1:=(Kab (x.sum ^^^ a.sum)).2;have q2:=(Kab (x.min ^^^ a.min)).2;have q3:=(Kab (x.max ^^^ a.max)).2;have q4:=(Kab (x.last ^^^ a.last)).2;omega
       omega
   .rw[jf aQ] at aK;have e0:((se:Int) != 0)=true:=by simp;omega
    have bq:=Jh aK;have cL:=Jh aQ;clear aK;go_wp2_with fail
    go_ret2
    unfold aggO;rw[je (by rw[bs.out,<-bq.out];exact cL.out),bs.out,<-bq.out];exact ⟨rfl,by rw[HB.out];exact ck.out⟩
  .have cs:i=n:=by have:=HI.out;omega
   subst cs;have aR:l.take i=l:=dx (by have:=az.out;omega);have aS:l.drop i = []:=dy (by have:=az.out;omega)
   have cm:E=0:=by have:=br.out;rw[aS] at this;exact this.symm
   have ho:aggO l=(uintT i++wndsT wnd0 l,0):=by unfold aggO;rw[jf (by rw[bs.out,cm]),aggT,az.out]
   rw[aR] at HL;have HO:=Jh ho;have bl:=Jh (Kdx b b _ wr HL.out bD);obtain ⟨S,hS⟩:∃S:ByteArray,(⟨(uintT i++wndsT wnd0 l).toArray⟩:ByteArray)=S:=⟨_,rfl⟩;rw[hS] at bl;have HS:=Jh hS;clear ho hS aR aS cm;go_wp2_with fail
   refine bl.out.mono ?_;rintro _ w3 ⟨rfl,h6⟩;go_wp2_with fail
   go_ret2
   rw[HO.out,<-HS.out];exact ⟨rfl,by rw[HB.out];exact HR.out.trans h6⟩
end
section
open Go.RowKit
attribute [local go_sem ↓] Go.wp_at_zero Go.wp_at_succ
attribute [local go_sem] Later.cell
theorem Qfu:(prog.info? 3).map (fun i=>(i.zero,i.size,i.bytes))=some (some (.int .i64 0),1,8):=by kernel_rfl
theorem Kag {w:World} {B n sz:Nat} {T:TypeId} {v:Value} {xs:List Value} (h:w.ownsRow B T sz v n xs):∃A cap,v = .slice A n cap:=by
 rcases h.2 with ⟨rfl,rfl⟩ | ⟨g,cap,cur,rfl,_⟩
 .exact ⟨none,0,rfl⟩
 .exact ⟨_,cap,rfl⟩
end
section
open Go.RowKit
theorem Kav {w:World} {B n sz B' n' sz':Nat} {T T':TypeId} {v v':Value} {xs xs':List Value} (h:w.ownsRow B T sz v n xs) (h':w.ownsRow B' T' sz' v' n' xs') (hT:T≠T'):v.ownBlock=none\/v.ownBlock≠v'.ownBlock:=by
 cases hv:v.ownBlock with
 | none=>exact .inl rfl
 | some r=>
  refine .inr fun e=>?_
  obtain ⟨cur,hc⟩:=Kax h hv;obtain ⟨ab,aa⟩:=Kax h' e.symm;rw[hc] at aa;injection aa with aa;injection aa with _ aa;exact hT aa
theorem Kan {w:World} {g:Nat} {t T:TypeId} {cs:Array Value} {B n sz:Nat} {v:Value} {xs:List Value} (h:Blk w g t cs) (hv:w.ownsRow B T sz v n xs) (ht:t≠T):some g≠v.ownBlock:=fun e=>by obtain ⟨aa,hc⟩:=Kax hv e.symm;exact h.ne_ (show Blk w g T aa from hc) ht rfl
theorem Kbt {w:World} {B n sz p i:Nat} {t T:TypeId} {cs:Array Value} {v u:Value} {xs:List Value} (hv:w.ownsRow B T sz v n xs) (h:Blk w p t cs) (ht:t≠T):(w.setCell ⟨p,i,none⟩ u).ownsRow B T sz v n xs:=
 hv.kept (row:=some p) ⟨rfl,rfl,rfl,by simp[dN],fun k _ hk=>Below.heap_setCell _ _ _ _ (fun e=>hk (by rw[e]))⟩ (.inr fun e=>Kan h hv ht e.symm)
def spM (h:Hd3):Value:=.slice h.s.A h.s.n h.s.c
def wpM (h:Hd3):Value:=.slice h.w.A h.w.n h.w.c
def lbM (h:Hd3):Value:=.slice h.l.A h.l.n h.l.c
structure MRow (B:Nat) (w:World) (h:Hd3) (s:Ser):Prop where
 lb:(h.l.n=0/\s.labels = [])\/w.ownsRow B 99 2 (lbM h) s.labels.length (s.labels.flatMap encLb)
 ln:s.labels.length=h.l.n
 lc:h.l.n<=h.l.c
 sm:w.ownsRow B 102 2 (spM h) s.samples.length (s.samples.flatMap Kac)
 wd:w.ownsRow B 135 6 (wpM h) s.windows.length (s.windows.flatMap Kad)
structure MRows (B:Nat) (w:World) (hs:List Hd3) (gs:List Ser):Prop where
 len:hs.length=gs.length
 at_:∀(i:Nat) (h:Hd3),hs[i]? = some h->MRow B w h gs[i]!
 sep:∀(i j:Nat) (h h':Hd3),hs[i]? = some h->hs[j]? = some h'->i≠j->((spM h).ownBlock=none\/(spM h).ownBlock≠(spM h').ownBlock)/\((wpM h).ownBlock=none\/(wpM h).ownBlock≠(wpM h').ownBlock)
theorem Kcq {w w':World} {B n sz:Nat} {T:TypeId} {v:Value} {xs:List Value} (h:w.ownsRow B T sz v n xs) (hz:w.heap.size<=w'.heap.size) (hb:∀k,v.ownBlock=some k->w'.heap[k]? = w.heap[k]?):w'.ownsRow B T sz v n xs:=by
 rcases h.2 with h1 | ⟨g,cap,cur,h',hB,hg,h3⟩
 .exact ⟨h.1,.inl h1⟩
 .have hlt:=(h.lt g (by rw[h'];rfl)).2;exact ⟨h.1,.inr ⟨g,cap,cur,h',hB,(hb g (by rw[h'];rfl)).trans hg,h3⟩⟩
theorem MRow.by {B:Nat} {w w':World} {h:Hd3} {s:Ser} (m:MRow B w h s) (hz:w.heap.size<=w'.heap.size) (hl:w.ownsRow B 99 2 (lbM h) s.labels.length (s.labels.flatMap encLb)->∀k,(lbM h).ownBlock=some k->w'.heap[k]? = w.heap[k]?) (hs:∀k,(spM h).ownBlock=some k->w'.heap[k]? = w.heap[k]?) (hw:∀k,(wpM h).ownBlock=some k->w'.heap[k]? = w.heap[k]?):MRow B w' h s:=
 ⟨m.lb.imp id fun x=>Kcq x hz (hl x),m.ln,m.lc,Kcq m.sm hz hs,Kcq m.wd hz hw⟩
theorem MRows.frame {B:Nat} {w w':World} {hs:List Hd3} {gs:List Ser} (m:MRows B w hs gs) {row:Option Nat} (hg:w.grownBy w' row) (hrow:∀r,row=some r->∃t cs,Blk w r t cs/\t≠99/\t≠102/\t≠135):MRows B w' hs gs:=by
 have aa:∀{T:TypeId} {n sz:Nat} {v:Value} {xs:List Value},w.ownsRow B T sz v n xs->(T = 99\/T = 102\/T = 135)->∀k,v.ownBlock=some k->w'.heap[k]? = w.heap[k]?:=fun {T n sz v xs} h hT k hk=>by
  refine hg.block k (h.lt k hk).2 fun e=>?_
  obtain ⟨t,cs,hb,h1,h2,h3⟩:=hrow k e.symm;refine Kan hb h ?_ hk.symm;rcases hT with rfl | rfl | rfl
  .exact h1
  .exact h2
  .exact h3
 refine ⟨m.len,fun i h hi=>?_,m.sep⟩;have a:=m.at_ i h hi;exact a.by hg.size (fun x k hk=>aa x (.inl rfl) k hk) (fun k hk=>aa a.sm (.inr (.inl rfl)) k hk) (fun k hk=>aa a.wd (.inr (.inr rfl)) k hk)
theorem MRows.below {B:Nat} {w w':World} {hs:List Hd3} {gs:List Ser} (m:MRows B w hs gs) (hb:Below w.heap.size w w'):MRows B w' hs gs:=
 m.frame (row:=none) ⟨hb.os,hb.tape,hb.output,hb.size,fun k hk _=>hb.block k hk⟩ (fun r e=>by cases e)
theorem MRows.snoc {B:Nat} {w:World} {hs:List Hd3} {gs:List Ser} (m:MRows B w hs gs) {h:Hd3} {s:Ser} (hm:MRow B w h s) (h1:(spM h).ownBlock=none) (h2:(wpM h).ownBlock=none):MRows B w (hs ++ [h]) (gs ++ [s]):=by
 have aa:∀(i:Nat) (x:Hd3),(hs ++ [h])[i]? = some x->(hs[i]? = some x/\i < hs.length)\/(x=h/\i=hs.length):=fun i x hi=>by
  rcases dz i hs.length with hl | hl
  .rw[c6 hl] at hi;exact .inl ⟨hi,hl⟩
  .rw[c5 hl] at hi;rcases dB (i - hs.length) with h0 | h0
   .rw[h0] at hi;exact .inr ⟨by simpa using hi.symm,by omega⟩
   .rw[List.getElem?_eq_none (by simp;omega)] at hi;cases hi
 refine ⟨by simp[m.len],fun i x hi=>?_,fun i j x y hi hj hij=>?_⟩
 .rcases aa i x hi with ⟨hi,hl⟩ | ⟨rfl,rfl⟩
  .rw[show (gs ++ [s])[i]! = gs[i]! by rw[i9 _ i (by have:=m.len;simp;omega),i9 gs i (by have:=m.len;omega),List.getElem_append_left]];exact m.at_ i x hi
  .rw[show (gs ++ [s])[hs.length]! = s by rw[m.len];simp];exact hm
 .rcases aa i x hi with ⟨hi,hl⟩ | ⟨rfl,rfl⟩
  .rcases aa j y hj with ⟨hj,hl2⟩ | ⟨rfl,rfl⟩
   .exact m.sep i j x y hi hj hij
   .rw[h1,h2];exact ⟨by cases hq:(spM x).ownBlock <;> simp,by cases hq:(wpM x).ownBlock <;> simp⟩
  .exact ⟨.inl h1,.inl h2⟩
theorem MRows.upd {B:Nat} {w w':World} {hs:List Hd3} {gs:List Ser} (m:MRows B w hs gs) {k:Nat} {h h':Hd3} {s':Ser} (hk:hs[k]? = some h) (hz:w.heap.size<=w'.heap.size)
  (hg:∀j,j < w.heap.size->some j≠(spM h).ownBlock->some j≠(wpM h).ownBlock->w'.heap[j]? = w.heap[j]?) (hl:h'.l=h.l) (hlab:s'.labels=gs[k]!.labels)
  (hS:w'.ownsRow B 102 2 (spM h') s'.samples.length (s'.samples.flatMap Kac)) (hW:w'.ownsRow B 135 6 (wpM h') s'.windows.length (s'.windows.flatMap Kad))
  (hSb:(spM h').ownBlock=(spM h).ownBlock\/∃b,(spM h').ownBlock=some b/\w.heap.size<=b) (hWb:(wpM h').ownBlock=(wpM h).ownBlock\/∃b,(wpM h').ownBlock=some b/\w.heap.size<=b) :
  MRows B w' (hs.set k h') (gs.set k s'):=by
 have ah:k < hs.length:=(c3.1 hk).1;have a:=m.at_ k h hk
 have af:∀{T:TypeId} {n sz:Nat} {v:Value} {xs:List Value},w.ownsRow B T sz v n xs->T≠102->T≠135->∀j,v.ownBlock=some j->w'.heap[j]? = w.heap[j]?:=fun {T n sz v xs} x h1 h2 j hj=>
  hg j (x.lt j hj).2 (fun e=>(Kav x a.sm h1).elim (fun q=>by rw[q] at hj;cases hj) (fun q=>q (hj.trans e))) (fun e=>(Kav x a.wd h2).elim (fun q=>by rw[q] at hj;cases hj) (fun q=>q (hj.trans e)))
 have ad:∀(i:Nat) (x:Hd3),hs[i]? = some x->i≠k->MRow B w' x gs[i]!:=fun i x hi hik=>by
  have b:=m.at_ i x hi;have sp:=m.sep i k x h hi hk hik;refine b.by hz (fun y j hj=>af y (by decide) (by decide) j hj) (fun j hj=>?_) (fun j hj=>?_)
  .exact hg j (b.sm.lt j hj).2 (fun e=>sp.1.elim (fun q=>by rw[q] at hj;cases hj) (fun q=>q (hj.trans e))) (fun e=>(Kav b.sm a.wd (by decide)).elim (fun q=>by rw[q] at hj;cases hj) (fun q=>q (hj.trans e)))
  .exact hg j (b.wd.lt j hj).2 (fun e=>(Kav b.wd a.sm (by decide)).elim (fun q=>by rw[q] at hj;cases hj) (fun q=>q (hj.trans e))) (fun e=>sp.2.elim (fun q=>by rw[q] at hj;cases hj) (fun q=>q (hj.trans e)))
 have ab:MRow B w' h' s':=by refine ⟨?_,by rw[hlab,hl];exact a.ln,by rw[hl];exact a.lc,hS,hW⟩;rw[hl,hlab,show lbM h'=lbM h by unfold lbM;rw[hl]];exact a.lb.imp id fun y=>Kcq y hz (fun j hj=>af y (by decide) (by decide) j hj)
 have aa:∀(i:Nat) (x:Hd3),(hs.set k h')[i]? = some x->(i=k/\x=h')\/(i≠k/\hs[i]? = some x):=fun i x hi=>by
  rcases Nat.decEq i k with hik | rfl
  .rw[List.getElem?_set_ne (dT hik)] at hi;exact .inr ⟨hik,hi⟩
  .rw[c7 ah] at hi;exact .inl ⟨rfl,by simpa using hi.symm⟩
 have ae:∀(i:Nat) (x:Hd3),hs[i]? = some x->(∀b,(spM x).ownBlock=some b->b < w.heap.size)/\(∀b,(wpM x).ownBlock=some b->b < w.heap.size):=fun i x hi=>⟨fun b hb=>((m.at_ i x hi).sm.lt b hb).2,fun b hb=>((m.at_ i x hi).wd.lt b hb).2⟩
 have ag:∀(i:Nat) (x:Hd3),hs[i]? = some x->i≠k->((spM x).ownBlock=none\/(spM x).ownBlock≠(spM h').ownBlock)/\((wpM x).ownBlock=none\/(wpM x).ownBlock≠(wpM h').ownBlock):=fun i x hi hik=>by
  have sp:=m.sep i k x h hi hk hik;refine ⟨?_,?_⟩
  .rcases hSb with e | ⟨b,e,hb⟩
   .rw[e];exact sp.1
   .rw[e]
    cases hq:(spM x).ownBlock with
    | none=>exact .inl rfl
    | some c=>
          refine .inr fun he=>?_
          injection he with he;have:=(ae i x hi).1 c hq;omega
  .rcases hWb with e | ⟨b,e,hb⟩
   .rw[e];exact sp.2
   .rw[e]
    cases hq:(wpM x).ownBlock with
    | none=>exact .inl rfl
    | some c=>
          refine .inr fun he=>?_
          injection he with he;have:=(ae i x hi).2 c hq;omega
 refine ⟨by simp[m.len],fun i x hi=>?_,fun i j x y hi hj hij=>?_⟩
 .rcases aa i x hi with ⟨e1,e2⟩ | ⟨hik,hi⟩
  .rw[e1,e2,show (gs.set k s')[k]! = s' by rw[i9 _ k (by have:=m.len;simp;omega),List.getElem_set_self]];exact ab
  .rw[show (gs.set k s')[i]! = gs[i]! by
    have hil:=(c3.1 hi).1
    rw[i9 _ i (by have:=m.len;simp;omega),i9 gs i (by have:=m.len;omega),List.getElem_set_ne (dT hik)]]
   exact ad i x hi hik
 .have ac:∀{a b:Option Nat},(a=none\/a≠b)->(b=none\/b≠a):=fun {a b} q=>by
   cases b with
   | none=>exact .inl rfl
   | some c=>
         refine .inr fun e=>?_
         rcases q with q | q
         .rw[q] at e;cases e
         .exact q e.symm
  rcases aa i x hi with ⟨e1,e2⟩ | ⟨hik,hi⟩
  .rcases aa j y hj with ⟨e3,e4⟩ | ⟨hjk,hj⟩
   .exact jl (e1.trans e3.symm) hij
   .have f:=ag j y hj hjk;rw[e2];exact ⟨ac f.1,ac f.2⟩
  .rcases aa j y hj with ⟨e3,e4⟩ | ⟨hjk,hj⟩
   .rw[e4];exact ag i x hi hik
   .exact m.sep i j x y hi hj hij
theorem MRows.sers {B:Nat} {w:World} {hs:List Hd3} {gs:List Ser} (m:MRows B w hs gs) (i:Nat) (h:Hd3) (hi:hs[i]? = some h):SerAt w h gs[i]!:=by
 have a:=m.at_ i h hi
 have hc:∀{T:TypeId} {A:Option Addr} {n c k sz:Nat} {xs:List Value},w.ownsRow B T sz (.slice A n c) k xs->n=k/\n<=c:=fun {T A n c k sz xs} x=>by
  rcases x.2 with ⟨e,hk⟩ | ⟨g,cap,cur,e,_,_,h3,_⟩
  .injection e with _ e1 e2;exact ⟨by omega,by omega⟩
  .injection e with _ e1 e2;exact ⟨by omega,by omega⟩
 have aa:=hc a.sm;have ab:=hc a.wd
 have he:∀{α : Type} {T:TypeId} {A:Option Addr} {n c sz:Nat} {enc:α->List Value} {l:List α},(∀x∈l,(enc x).length=sz)->w.ownsRow B T sz (.slice A n c) l.length (l.flatMap enc)->Elems w w.heap.size sz enc A n l:=fun {α T A n c sz enc l} h1 x=>by have h2:=hc x;obtain ⟨A',c',e,h3,_⟩:=Elems.of_own (xs:=l) h1 rfl x rfl;injection e with e1 e2 e3;rw[e1,h2.1];exact h3
 refine ⟨?_,a.lc,?_,aa.2,?_,ab.2⟩
 .rcases a.lb with ⟨h0,h1⟩ | x
  .rw[h0,h1];exact dR
  .exact he (fun _ _=>rfl) x
 .exact he (fun _ _=>rfl) a.sm
 .exact he (fun _ _=>rfl) a.wd
theorem Kho {P:Program} {w:World} (base:Nat) (t ty e:TypeId) (i:TypeInfo) (size:Nat) (ht:P.underlying t=some (.slice e)) (hi:P.info? e=some i) (v:Value) (n c:Nat) (xs:List Value) (hown:w.ownsRow base e size v n xs) :
  (dJ #[t,t] ty #[v,.slice none 0 c]).run P w = .ok v w:=by
 rcases hown.2 with ⟨rfl,rfl⟩ | ⟨g,cap,cur,rfl,_,_,hnc,_⟩
 .simp[dJ,run_underlying ht,sizeOf,typeInfo,hi,dL,dK]
 .simp[dJ,run_underlying ht,sizeOf,typeInfo,hi,dL,dK,hnc,storeCells]
theorem Kki {P:Program} {w:World} {ops:Array Oper} {rest:List Oper} {o:Oper} {a:Act} {Q:Exit->Act->World->Prop} (hgd:o.guard=none) (s x:Operand) (t:TypeId)
  (ho:o.op = .call { callee:=.builtin .append,args:=#[s,x],argTypes:=#[t,t] })
  (base:Nat) (e:TypeId) (i:TypeInfo) (size:Nat) (ht:P.underlying t=some (.slice e)) (hi:P.info? e=some i)
  (v:Value) (n c:Nat) (xs:List Value) (hs:a.eval s=v) (hown:w.ownsRow base e size v n xs) (hx:a.eval x = .slice none 0 c)
  (h:wpList P ops Q rest (a.put o.dst v) w):wpList P ops Q (o :: rest) a w:=by
 refine wpList_plain hgd fun K hK=>?_
 have aa:=Kho (P:=P) (w:=w) base t o.type e i size ht hi v n c xs hown;unfold Oper.wp;simp[execOp,ho,resolve,invoke,builtin,hs,hx,aa,Result.andThen];exact hK _ _ h
theorem Krm {α : Type} {enc:α->List Value} {sz:Nat} {u:Value}:∀(xs:List α) {j:Nat},(∀x∈xs,(enc x).length=sz)->(xs.flatMap enc)[j]? = some u->∃i x r,xs[i]? = some x/\(enc x)[r]? = some u/\j=i*sz+r
 | [],j,_,h=>by simp at h
 | x :: xs,j,hl,h=>by
  have hx:=hl x (List.mem_cons_self ..);rw[dh] at h;rcases dz j sz with hj | hj
  .rw[c6 (by rw[hx];exact hj)] at h;exact ⟨0,x,j,rfl,h,by simp⟩
  .rw[c5 (by rw[hx];exact hj),hx] at h;obtain ⟨i,y,r,h1,h2,h3⟩:=Krm xs (fun y hy=>hl y (List.mem_cons_of_mem _ hy)) h;exact ⟨i+1,y,r,by simpa using h1,h2,by rw[Nat.succ_mul];omega⟩
theorem Elems.cellsM {α : Type} {enc:α->List Value} {sz n B:Nat} {w:World} {ad:Addr} {xs:List α} (hl:∀x∈xs,(enc x).length=sz) (h:Elems w B sz enc (some ad) n xs) :
  ∀j u,(xs.flatMap enc)[j]? = some u->w.cell? (ad.add j)=some u:=by
 intro j u hu;obtain ⟨i,x,r,h1,h2,rfl⟩:=Krm xs hl hu
 have hi:0 < n:=by have:=(c3.1 h1).1;have:=h.1;omega
 obtain ⟨b,aa,e,_,hc⟩:=h.2 hi;injection e with e;subst e;have:=hc i x h1 r u h2
 have ea:(⟨b,aa,none⟩:Addr).add (i*sz+r)=⟨b,aa+i*sz+r,none⟩:=by
  unfold Addr.add
  split
  .rename_i h0;simp at h0 |-;(try omega)
  .simp;(try omega)
 rw[ea];exact this
theorem Kem:∀(hs:List Hd3) (m r:Nat) (h h':Hd3) (V:Value),hs[m]? = some h->r < 3->encH3 h'=(encH3 h).set r V->(hs.set m h').flatMap encH3=(hs.flatMap encH3).set (m*3+r) V
 | [],m,r,h,h',V,h1,_,_=>by simp at h1
 | x :: l,0,r,h,h',V,h1,h2,h3=>by
  have e:x=h:=by simpa using h1
  subst e;have hl:(encH3 x).length=3:=rfl;rw[List.set_cons_zero,dh,dh,Nat.zero_mul,Nat.zero_add,List.set_append_left _ _ (by omega),h3]
 | x :: l,m+1,r,h,h',V,h1,h2,h3=>by have hl:(encH3 x).length=3:=rfl;rw[List.set_cons_succ,dh,dh,List.set_append_right _ _ (by omega),hl,show (m+1)*3+r - 3=m*3+r by omega];rw[Kem l m r h h' V (by simpa using h1) h2 h3]
structure MSt (w0 w2:World) (w:World) (v:Value) (hs:List Hd3) (gs:List Ser):Prop where
 b0:Below w0.heap.size w0 w
 b2:Below w2.heap.size w2 w
 row:w.ownsRow w2.heap.size 58 3 v hs.length (hs.flatMap encH3)
 rows:MRows w2.heap.size w hs gs
section
variable {g n cV : Nat} {w0 w2 w : World} {v : Value} {hs : List Hd3} {gs : List Ser}
theorem MSt.below {w':World} (h:MSt w0 w2 w v hs gs) (hb:Below w.heap.size w w'):MSt w0 w2 w' v hs gs:=
 ⟨h.b0.trans (hb.mono h.b0.size),h.b2.trans (hb.mono h.b2.size),Kcq h.row hb.size fun k hk=>hb.block k (h.row.lt k hk).2,h.rows.below hb⟩
theorem MSt.low (h:MSt w0 w2 w v hs gs) (h02:w0.heap.size<=w2.heap.size) {w':World} {row:Option Nat} (hg:w.grownBy w' row) (hr:∀k,row=some k->w2.heap.size<=k):Below w0.heap.size w0 w'/\Below w2.heap.size w2 w':=
 ⟨h.b0.grown hg h.b0.size (fun k hk=>da h02 (hr k hk)),h.b2.grown hg h.b2.size hr⟩
theorem MSt.more (h:MSt w0 w2 w v hs gs) (h02:w0.heap.size<=w2.heap.size) {w':World} {v':Value} {x:Hd3} {s:Ser} (hg:w.grownBy w' v.ownBlock) (hrow:w'.ownsRow w2.heap.size 58 3 v' (hs.length+1) (hs.flatMap encH3++encH3 x))
  (hm:MRow w2.heap.size w x s) (h1:(spM x).ownBlock=none) (h2:(wpM x).ownBlock=none):MSt w0 w2 w' v' (hs ++ [x]) (gs ++ [s]):=by
 have hr:∀k,v.ownBlock=some k->w2.heap.size<=k:=fun k hk=>(h.row.lt k hk).1
 obtain ⟨b0,b2⟩:=h.low h02 hg hr;refine ⟨b0,b2,?_,?_⟩
 .rw[List.flatMap_append,List.flatMap_singleton,dv];exact hrow
 .refine (h.rows.snoc hm h1 h2).frame hg fun r e=>?_
  obtain ⟨aa,hc⟩:=Kax h.row e;exact ⟨_,aa,hc,by decide,by decide,by decide⟩
theorem MSt.put (h:MSt w0 w2 w (.slice (some ⟨g,0,none⟩) n cV) hs gs) (h02:w0.heap.size<=w2.heap.size) {w4:World} {k:Nat} {x x':Hd3} {s':Ser} (hk:hs[k]? = some x)
  (hos:w4.os=w.os) (htp:w4.tape=w.tape) (hou:w4.output=w.output) (hz:w.heap.size<=w4.heap.size)
  (hg:∀j,j < w.heap.size->some j≠(spM x).ownBlock->some j≠(wpM x).ownBlock->w4.heap[j]? = w.heap[j]?) (hl:x'.l=x.l) (hlab:s'.labels=gs[k]!.labels)
  (hS:w4.ownsRow w2.heap.size 102 2 (spM x') s'.samples.length (s'.samples.flatMap Kac)) (hW:w4.ownsRow w2.heap.size 135 6 (wpM x') s'.windows.length (s'.windows.flatMap Kad))
  (hSb:(spM x').ownBlock=(spM x).ownBlock\/∃b,(spM x').ownBlock=some b/\w.heap.size<=b) (hWb:(wpM x').ownBlock=(wpM x).ownBlock\/∃b,(wpM x').ownBlock=some b/\w.heap.size<=b) :
  (x'.w=x.w->MSt w0 w2 (w4.setCell ⟨g,k*3+1,none⟩ (spM x')) (.slice (some ⟨g,0,none⟩) n cV) (hs.set k x') (gs.set k s'))/\
  (x'.s=x.s->MSt w0 w2 (w4.setCell ⟨g,k*3+2,none⟩ (wpM x')) (.slice (some ⟨g,0,none⟩) n cV) (hs.set k x') (gs.set k s'))/\
  MSt w0 w2 ((w4.setCell ⟨g,k*3+1,none⟩ (spM x')).setCell ⟨g,k*3+2,none⟩ (wpM x')) (.slice (some ⟨g,0,none⟩) n cV) (hs.set k x') (gs.set k s'):=by
 have a:=h.rows.at_ k x hk
 have hn:hs.length=n:=by
  rcases h.row.2 with ⟨e,_⟩ | ⟨g',cap,ah,e,_⟩
  .cases e
  .injection e with _ e2;exact e2.symm
 have aj:w2.heap.size<=g/\g < w.heap.size:=h.row.lt g rfl;obtain ⟨ah,am⟩:=Kax h.row (r:=g) rfl;have an:Blk w g 58 ah:=am;have ar:some g≠(spM x).ownBlock:=Kan an a.sm (by decide);have aq:some g≠(wpM x).ownBlock:=Kan an a.wd (by decide);have ac:w4.heap[g]? = w.heap[g]?:=hg g aj.2 ar aq;have ab:Blk w4 g 58 ah:=ac.trans an
 have ad:w4.ownsRow w2.heap.size 58 3 (.slice (some ⟨g,0,none⟩) n cV) hs.length (hs.flatMap encH3):=Kcq h.row hz (fun j hj=>by
  have:j=g:=by (have e:(dO (some ⟨g,0,none⟩) n cV).ownBlock=some g:=rfl);rw[e] at hj;injection hj with hj;exact hj.symm
  rw[this];exact ac)
 have aa:w4.ownsRow w2.heap.size 58 3 (.slice (some ⟨g,0,none⟩) n cV) n (hs.flatMap encH3):=by rw[hn] at ad;exact ad
 have ak:∀j,j < w2.heap.size->w4.heap[j]? = w.heap[j]?:=fun j hj=>hg j (by omega) (fun e=>by have:=(a.sm.lt j e.symm).1;omega) (fun e=>by have:=(a.wd.lt j e.symm).1;omega)
 have ao:Below w2.heap.size w w4:=⟨hos,htp,hou,hz,ak⟩;have af:Below w0.heap.size w0 w4:=h.b0.trans (ao.mono h02);have ae:Below w2.heap.size w2 w4:=h.b2.trans ao;have al:MRows w2.heap.size w4 (hs.set k x') (gs.set k s'):=h.rows.upd hk hz hg hl hlab hS hW hSb hWb
 have ai:∀{W:World} (o:Nat) (u:Value),Blk W g 58 ah\/(∃c,Blk W g 58 c)->MRows w2.heap.size W (hs.set k x') (gs.set k s')->MRows w2.heap.size (W.setCell ⟨g,o,none⟩ u) (hs.set k x') (gs.set k s'):=fun {W} o u hb m=>by
  refine m.frame (row:=some g) ⟨rfl,rfl,rfl,by simp[dN],fun j _ hj=>Below.heap_setCell _ _ _ _ (fun e=>hj (by rw[e]))⟩ fun r e=>?_
  injection e with e;subst e;rcases hb with hb | ⟨c,hb⟩
  .exact ⟨_,_,hb,by decide,by decide,by decide⟩
  .exact ⟨_,_,hb,by decide,by decide,by decide⟩
 have ag:∀{W:World} (o:Nat) (u:Value),Below w0.heap.size w0 W->Below w2.heap.size w2 W->Below w0.heap.size w0 (W.setCell ⟨g,o,none⟩ u)/\Below w2.heap.size w2 (W.setCell ⟨g,o,none⟩ u):=fun {W} o u h1 h2=>
  ⟨h1.setCell (p:=⟨g,o,none⟩) (da h02 aj.1) u,h2.setCell (p:=⟨g,o,none⟩) aj.1 u⟩
 have e1:∀{y:Hd3},y.l=x.l->y.w=x.w->(hs.set k y).flatMap encH3=(hs.flatMap encH3).set (k*3+1) (spM y):=fun {y} h1 h2=>Kem hs k 1 x y (spM y) hk (by decide) (by unfold encH3 spM;rw[h1,h2];rfl)
 have e2:∀{y:Hd3},y.l=x.l->y.s=x.s->(hs.set k y).flatMap encH3=(hs.flatMap encH3).set (k*3+2) (wpM y):=fun {y} h1 h2=>Kem hs k 2 x y (wpM y) hk (by decide) (by unfold encH3 wpM;rw[h1,h2];rfl)
 refine ⟨fun hx=>?_,fun hx=>?_,?_⟩
 .obtain ⟨c1,c2⟩:=ag (k*3+1) (spM x') af ae;refine ⟨c1,c2,?_,ai _ _ (.inl ab) al⟩;rw[dA,e1 hl hx,hn];exact (dM aa _ _).1
 .obtain ⟨c1,c2⟩:=ag (k*3+2) (wpM x') af ae;refine ⟨c1,c2,?_,ai _ _ (.inl ab) al⟩;rw[dA,e2 hl hx,hn];exact (dM aa _ _).1
 .obtain ⟨c1,c2⟩:=ag (k*3+1) (spM x') af ae;obtain ⟨d1,d2⟩:=ag (k*3+2) (wpM x') c1 c2;refine ⟨d1,d2,?_,ai _ _ (.inr ⟨_,ab.set_ _ _⟩) (ai _ _ (.inl ab) al)⟩;rw[dA]
  have ee:(hs.set k x').flatMap encH3=((hs.flatMap encH3).set (k*3+1) (spM x')).set (k*3+2) (wpM x'):=by have hy:=e1 (y:=⟨x.l,x'.s,x.w⟩) rfl rfl;have ap:k < hs.length:=(c3.1 hk).1;have:=Kem (hs.set k ⟨x.l,x'.s,x.w⟩) k 2 ⟨x.l,x'.s,x.w⟩ x' (wpM x') (by rw[c7 ap]) (by decide) (by unfold encH3 wpM;rw[hl];rfl);rw[List.set_set,hy] at this;exact this
  rw[ee,hn];exact (dM (dM aa _ _).1 _ _).1
end
end
section
open Go.Shelf Go.RowKit Go.Lib Go.Sort
attribute [local go_sem ↓] Go.wp_at_zero Go.wp_at_succ
attribute [local go_sem] Later.cell
section
structure MS (w0:World) where
 h:Hd3
 s:Ser
 a:SerAt w0 h s
 z:h.l.n<=1099511627776
instance msIn (w0:World):Inhabited (MS w0):=⟨⟨⟨⟨none,0,0⟩,⟨none,0,0⟩,⟨none,0,0⟩⟩,⟨[],[],[]⟩,⟨dR,db _,dR,db _,dR,db _⟩,dE _⟩⟩
def encMS {w0:World} (x:MS w0):List Value:=encH3 x.h
theorem Khw {w0:World} (x:MS w0):(encMS x).length=3:=rfl
theorem Qdc {w0:World}:∀x:MS w0,∀v∈encMS x,v.oneCell'=true:=fun x=>Kqh x.h
def cfM {w0:World} (x y:MS w0):Int:=cmpL x.s.labels y.s.labels
theorem ltM {w0:World} (x y:MS w0):ltOf cfM x y=decide (cmpL x.s.labels y.s.labels < 0):=rfl
theorem Qfo {a b c:List Lb} (h1:0<=cmpL a b) (h2:0<=cmpL b c):0<=cmpL a c:=by
 have a1:=Kde a b;have a2:=Kde b c;have a3:=Kde a c;rcases (by omega:cmpL b a=0\/cmpL b a < 0) with e1 | e1
 .have:=Kdg e1;subst this;exact h2
 .rcases (by omega:cmpL c b=0\/cmpL c b < 0) with e2 | e2
  .have:=Kdg e2;subst this;exact h1
  .have:=Kdf e2 e1;omega
theorem swoM {w0:World}:SWO (ltOf (cfM (w0:=w0))) where
 irrefl x:=by rw[ltM,Kcz];rfl
 trans x y z h1 h2:=by rw[ltM,i8] at h1 h2 |-;exact Kdf h1 h2
 ntrans x y z h1 h2:=by rw[ltM,jb] at h1 h2 |-;have:=Qfo (a:=x.s.labels) (b:=y.s.labels) (c:=z.s.labels) (by omega) (by omega);omega
theorem Qbj {w0:World} (x y:MS w0) (W:World) (hW:Below w0.heap.size w0 W) :
  Calls prog 59 #[.agg (encMS x).toArray,.agg (encMS y).toArray] W fun e w'=>e = .returned (.int .i64 (cfM x y))/\Grown W w':=by
 have hc:∀W',Below w0.heap.size w0 W'->Calls prog 60 #[.slice x.h.l.A x.h.l.n x.h.l.c,.slice y.h.l.A y.h.l.n y.h.l.c] W' fun e w'=>e = .returned (.int .i64 (cfM x y))/\Grown W' w':=fun W' hb=>
  Kea x.s.labels y.s.labels x.h.l.A y.h.l.A x.h.l.n y.h.l.n _ _ W' _ rfl ((x.a.l.below hb).more hb.size) ((y.a.l.below hb).more hb.size) (da x.z (by decide)) (da y.z (by decide))
 have HC:=dG hc;have HW:=dG hW;obtain ⟨r,hr⟩:=iZ (cfM x y);rw[hr] at HC |-;unfold encMS encH3;obtain ⟨A1,ai⟩:=i7 (dO x.h.s.A x.h.s.n x.h.s.c);obtain ⟨A2,af⟩:=i7 (dO x.h.w.A x.h.w.n x.h.w.c);obtain ⟨B1,ac⟩:=i7 (dO y.h.s.A y.h.s.n y.h.s.c);obtain ⟨B2,ah⟩:=i7 (dO y.h.w.A y.h.w.n y.h.w.c);rw[<-ai,<-af,<-ac,<-ah];obtain ⟨xa,aa⟩:=i7 x.h.l.A;obtain ⟨xn,aj⟩:=i7 x.h.l.n;obtain ⟨xc,ag⟩:=i7 x.h.l.c;obtain ⟨ya,ad⟩:=i7 y.h.l.A;obtain ⟨yn,ab⟩:=i7 y.h.l.n;obtain ⟨yc,ae⟩:=i7 y.h.l.c;rw[<-aa,<-aj,<-ag,<-ad,<-ab,<-ae] at HC |-;clear hr hc hW ai af ac ah aa aj ag ad ab ae;go_enter func59,ntmps59
 go_wp2_with fail
 refine (HC.out _ ?_).mono ?_
 .exact (HW.out.alloc HW.out.size _).alloc (da HW.out.size (by simp)) _
 rintro _ w1 ⟨rfl,hg⟩;have HG:=dG hg;clear hg;go_wp2_with fail
 go_ret
 exact ⟨rfl,(((Grown.refl _).alloc _).alloc _).trans HG.out⟩
theorem Khu (l:List Lb) (A:Option Addr) (n c:Nat) (w:World) (h:Elems w w.heap.size 2 encLb A n l) (hn:n<=1099511627776) :
  Calls prog 61 #[.slice A n c] w fun e w'=>(∃A' c',e = .returned (.slice A' n c')/\n<=c'/\(n=0\/w'.ownsRow w.heap.size 99 2 (.slice A' n c') n (l.flatMap encLb)))/\Below w.heap.size w w':=by
 rcases dB n with h0 | h0
 .subst h0
  cases A with
  | none=>
   refine (AnyE.slices_Clone_nil Tryz.laysCL 0 c w).mono ?_;rintro e w' ⟨rfl,rfl⟩;exact ⟨⟨none,0,rfl,db _,.inl rfl⟩,Below.refl _ _⟩
  | some a=>
   have q81:∀(w:World) (a:Option Addr) (n c n' c':Nat),(binOp .eql 54 (.slice a n c) (.slice none n' c')).run prog w = .ok (.bool a.isNone) w:=fun w a n c n' c'=>Lib.run_eql_slice_nil w _ _ a n c n' c' underlying54
   clear h;go_enter func61,ntmps61
   go_wp2_with fail
   go_ret
   refine ⟨?_,(Below.refl _ _).alloc (db _) _⟩
   first | exact ⟨_,_,rfl,dE _,.inl rfl⟩ | exact ⟨_,_,rfl⟩ | exact ⟨_,_,rfl,trivial⟩ | exact ⟨_,_,rfl,dE _,.inl trivial⟩
 .obtain ⟨b,af,rfl,_,_⟩:=h.2 h0;obtain ⟨i0,ac,ah,ag,ae⟩:=info_parts Knj;have hl:=h.len
  have ab:=AnyE.slices_Clone Tryz.laysCL i0 _ 2 32 ac ah ag ae rfl (by omega) sizeOf99 b af n c (l.flatMap encLb) w (by rw[Kjj,hl]) (by unfold maxLen;omega) (by omega)
   (fun j u hu=>by
    have hj:=(c3.1 hu).1;rw[Kjj] at hj
    rw[Kgq h h0 j hj];exact hu)
   (fun u hu=>by
    obtain ⟨x,_,hx⟩:=List.mem_flatMap.1 hu
    exact Khv x u hx)
  refine ab.mono ?_;rintro e w' ⟨v',rfl,aa,ad,hb⟩;rcases aa.2 with ⟨rfl,_⟩ | ⟨g,cap,cur,rfl,_,_,h3,h4⟩
  .exact jl rfl ad
  .exact ⟨⟨_,cap,rfl,h3,.inr aa⟩,hb⟩
theorem Ktq {w0:World} (xs:List (MS w0)) (B n g cap:Nat) (w:World) (hb:Below w0.heap.size w0 w) (hB:w0.heap.size<=B) (h:w.ownsRow B 58 3 (.slice (some ⟨g,0,none⟩) n cap) n (xs.flatMap encMS)) (hl:xs.length=n) (hn:n<=1099511627776) :
  Calls prog 58 #[.slice (some ⟨g,0,none⟩) n cap,.func (.func 59) #[] #[]] w fun e w'=>e = .returned (.tuple #[])/\∃ys:List (MS w0),Stab (ltOf cfM) xs ys/\w'.ownsRow B 58 3 (.slice (some ⟨g,0,none⟩) n cap) n (ys.flatMap encMS)/\w.grownBy w' (some g):=by
 have ad:=h.lt g rfl;have R:RowK encMS 3 w g 0 xs.toArray:=⟨Khw,Qdc,Kfh Khw (by decide) h hl,ad.2⟩;have hN:xs.toArray.size=n:=by simpa using hl
 have eg:∀args w,(callFunc 59 args).run prog w = .ok (.enter 59 args) w:=enters_of func59 (by kernel_rfl) rfl
 have aa:CmpLays prog 59 #[] encMS 3 (cfM (w0:=w0)) g 0 xs.toArray.size w:=by intro m os dk hdk x y;have hS:SWK encMS 3 w g 0 dk (sortWorldK encMS 3 w g 0 m dk os):=⟨m,os,rfl⟩;have ac:Below w0.heap.size w0 (sortWorldK encMS 3 w g 0 m dk os):=hb.grown (SWK.by hS) hb.size (fun k hk=>by injection hk with hk;omega);refine (Qbj x y _ ac).mono ?_;rintro e w' ⟨he,⟨q,hq⟩⟩;exact ⟨he,q.n,q.os,hq⟩
 refine Calls.mono (Kmh (cap:=cap) swoM eg aa R hN (by omega) xs w hl (SWK.start R.hH)) ?_;rintro e w' ⟨rfl,ys,ab,hS⟩;refine ⟨rfl,ys,ab,?_,SWK.by hS⟩;obtain ⟨m,os,rfl⟩:=hS;exact Kfk Khw (by decide) h hl ys.toArray (by simpa using ab.len.trans hl) m os
theorem Kqr (cmp:Value) (w:World):Calls prog 58 #[.slice none 0 0,cmp] w fun e w'=>e = .returned (.tuple #[])/\w=w':=by
 have aa:∀W:World,Calls prog 177 #[.slice none 0 0,.int .i64 0,.int .i64 0,cmp] W fun e w'=>e = .returned (.tuple #[])/\W=w':=by
  intro W;go_enter func177,ntmps177
  go_wp2
  go_loopg [8] 0 (fun kx s8 wr=>s8 = .int .i64 1/\wr=W)
  case atStart=>exact ⟨rfl,rfl⟩
  case round=>
   obtain ⟨rfl,rfl⟩:=hrel;go_wp2_with fail
   go_end0
   exact ⟨rfl,rfl⟩
 have ab:∀W:World,Calls prog 126 #[.slice none 0 0,.int .i64 0,cmp] W fun e w'=>e = .returned (.tuple #[])/\W=w':=by
  intro W;have HI:=dG aa;clear aa;go_enter func126,ntmps126
  go_wp2
  go_loopg [7,8] 0 (fun kx s7 s8 wr=>s7 = .int .i64 0/\s8 = .int .i64 20/\wr=W)
  case atStart=>exact ⟨rfl,rfl,rfl⟩
  case round=>
   obtain ⟨rfl,rfl,rfl⟩:=hrel;go_wp2_with fail
   refine (HI.out _).mono ?_;rintro _ w1 ⟨rfl,rfl⟩;go_wp2_with fail
   go_loopg [6] 0 (fun kx s6 wr2=>s6 = .int .i64 20/\wr2=wr)
   case atStart=>exact ⟨rfl,rfl⟩
   case round=>
    obtain ⟨rfl,rfl⟩:=hrel;go_wp2_with fail
    go_end0
    exact ⟨rfl,rfl⟩
 have HS:=dG ab;clear aa ab;go_enter func58,ntmps58
 go_wp2_with fail
 refine (HS.out _).mono ?_;rintro _ w1 ⟨rfl,rfl⟩;go_wp2_with fail
 go_end0
 exact ⟨rfl,rfl⟩
end
end
end Go.Proofs.YtdoiekknhnbepaaGreatDoor
