/- Merged (what the claim wants of): MrgOnceP, MrgCompW, MrgSortW, MrgStabW, MrgOnceW, MrgMerge. -/
import Derived.Test.YtdoiekknhnbepaaGreatDoorCmk04
set_option linter.unusedVariables false
set_option linter.unusedSimpArgs false
set_option maxRecDepth 1000000
set_option linter.ambiguousOpen false
set_option maxHeartbeats 8000000
namespace Go.Proofs.YtdoiekknhnbepaaGreatDoor
open Go renaming wpQuiet_nil->ft
open Value renaming int->ee,slice->ej,func->ek
open List renaming getElem?_eq_getElem->el,length_eq_one_iff->en
open Act renaming put->er
open World renaming ownsRow_nil->es,cell?_of_block->ev,grownBy_alloc->ex
open IntKind renaming wrap_i64->ey,i64->eY
open Calls renaming mono->eZ,grown_of->fa
open Oper renaming wp_called->fb,wp_ran->fc,wp_skipped->fd
open World.ownsRow renaming alloc->fe,lt->ff
open Sem renaming run->fg
open MS renaming s->fh
open Blk renaming new->fi,newAt->fj
open Wnd renaming start->fm
open Lib renaming grownBy_trans->fn,hid->fo
open Grown renaming refl->fp
open And renaming intro->fq
open Addr renaming add->fr
open Ending renaming returned->fs
open Tryz
open List renaming length_cons->ZZ,length_nil->eb,eq_nil_of_length_eq_zero->ec,append_assoc->ed,take_append_drop->eh,size_toArray->ei,length_take->eq,append_nil->et,take_succ_cons->ew,drop_succ_cons->ez,length_set->eA,length_append->eB,take_zero->eC,drop_zero->eD,take_left'->eE,flatMap_append->eF,not_mem_nil->eH,take_of_length_le->eI,length_map->eJ,concat_eq_append->eL,getElem_set_self->eM,length_filter_le->eN,take_length->eQ,length_drop->eS,getElem_map->eT,length->eU,map_append->eW,mem_cons->eX
open Nat renaming lt_or_ge->eo,le_refl->ep,le_trans->eG,eq_zero_or_pos->eO,lt_of_lt_of_le->eP
open _root_.Array renaming replicate->eK
open Bool renaming noConfusion->eR,eq_iff_iff->eV
section
open Go.Shelf Go.RowKit Go.Lib Go.Sort
open Lib renaming hid -> Jh
section
theorem Kis (x:Smp) (w:World):Calls prog 63 #[.agg (Kac x).toArray] w fun e w'=>e = .returned (.int .i64 x.t)/\Grown w w':=by
 obtain⟨a,b⟩:=x;unfold Kac;go_enter func63,ntmps63
 go_wp2_with fail
 go_ret
 exact⟨rfl,(fp _).alloc _⟩
theorem Kxs (a b:Int) (w:World):Calls prog 134 #[.int .i64 a,.int .i64 b] w fun e w'=>e = .returned (.int .i64 (if a<b then -1 else if b<a then 1 else 0))/\w=w':=by
 have aa:∀(a:Int) (w:World),Calls prog 181 #[.int .i64 a] w fun e w'=>e = .returned (.bool false)/\w=w':=by
  intro a w;have n1:(a != a)=false:=by simp
  go_enter func181,ntmps181
  go_wp2
  go_ret
  exact⟨by simp,rfl⟩
 have h1:=fun W=>aa a W
 have h2:=fun W=>aa b W
 rcases (by omega:a<b\/b<a\/a=b) with h | h | h
 .rw[jN h];have d1:decide (a<b)=true:=jL h;clear aa;go_enter func134,ntmps134
  go_wp2_with fail
  refine(h1 _).mono ?_;rintro _ w1 ⟨rfl,rfl⟩;go_wp2_with fail
  refine(h2 _).mono ?_;rintro _ w1 ⟨rfl,rfl⟩;go_wp2_with fail
  go_ret
  exact⟨rfl,rfl⟩
 .have hn:¬a<b:=by omega
  rw[jM hn,jN h];have d1:decide (a<b)=false:=jJ hn;have d2:decide (b<a)=true:=jL h;have hle:b<=a:=by omega
  have hne:¬a=b:=by omega
  clear aa;go_enter func134,ntmps134
  go_wp2_with fail
  refine(h1 _).mono ?_;rintro _ w1 ⟨rfl,rfl⟩;go_wp2_with fail
  refine(h2 _).mono ?_;rintro _ w1 ⟨rfl,rfl⟩;go_wp2_with fail
  go_ret
  exact⟨rfl,rfl⟩
 .subst h;have hn:¬a<a:=by omega
  rw[jM hn,jM hn];have d1:decide (a<a)=false:=jJ hn;clear aa;go_enter func134,ntmps134
  go_wp2_with fail
  refine(h1 _).mono ?_;rintro _ w1 ⟨rfl,rfl⟩;go_wp2_with fail
  refine(h2 _).mono ?_;rintro _ w1 ⟨rfl,rfl⟩;go_wp2_with fail
  go_ret
  exact⟨rfl,rfl⟩
attribute [local go_sem] Kbw.cell
theorem Kuq (x y:Smp) (p:Nat) (W:World) (hp:Blk W p 146 #[.func (.func 63) #[] #[]]) :
  Calls prog 133 #[.agg (Kac x).toArray,.agg (Kac y).toArray,.pointer (some ⟨p,0,none⟩)] W fun e w'=>e = .returned (.int .i64 (cfT Smp.t x y))/\Grown W w':=by
 have HT:=Jh (fun (x:Smp) (w:World)=>Kis x w);have af:=Jh (fun (w:World)=>Kxs x.t y.t w);have aj:cfT Smp.t x y=if x.t<y.t then -1 else if y.t<x.t then 1 else 0:=rfl
 rw[aj];obtain⟨r,hr⟩:∃r:Int,(if x.t<y.t then -1 else if y.t<x.t then 1 else 0:Int)=r:=⟨_,rfl⟩;rw[hr]at af |-;obtain⟨cx,al⟩:=jG ((Kac x).toArray);obtain⟨cy,ah⟩:=jG ((Kac y).toArray);have egT:∀args w,(callFunc 63 args).run prog w = .ok (.enter 63 args) w:=enters_of func63 (by kernel_rfl) rfl;have ac:=Jh (fun w=>HT.out x w);have ab:=Jh (fun w=>HT.out y w);obtain⟨tx,ae⟩:=jG x.t;obtain⟨tz,ag⟩:=jG y.t;rw[<-ae,<-ag]at af;rw[<-ae]at ac;rw[<-ag]at ab;clear aj hr HT;obtain⟨a,b⟩:=x;obtain⟨a2,b2⟩:=y;unfold Kac at al ah ac ab |-;dsimp only at ac ab |-;clear al ah ae ag cx cy;go_enter func133,ntmps133
 go_upto_region 1 with fail
 obtain⟨w1,aa⟩:=jF ((W.alloc (.cells #[.int .i64 a,.int .u64 b] 102)).alloc (.cells #[.int .i64 a2,.int .u64 b2] 102));have ak:Grown W w1:=by rw[<-aa];exact((fp _).alloc _).alloc _
 have hq:Blk w1 W.heap.size 102 #[.int .i64 a,.int .u64 b]:=by rw[<-aa];exact(fi _ _ _).alloc _
 have ad:Blk w1 (W.heap.size+1) 102 #[.int .i64 a2,.int .u64 b2]:=by rw[<-aa];exact fj (by simp)
 have ai:Blk w1 p 146 #[.func (.func 63) #[] #[]]:=hp.below ak.below hp.lt;rw[aa];obtain⟨a0,hA⟩:=jF W.heap.size;rw[hA]at hq ad |-;clear aa hp;have q0:_=some (ee .i64 a):=hq.cell 0;have q1:_=some (ee .u64 b):=hq.cell 1;have r0:_=some (ee .i64 a2):=ad.cell 0;have r1:_=some (ee .u64 b2):=ad.cell 1;have p0:_=some (ek (.func 63) #[] #[]):=ai.cell 0;have hql:=hq.lt;have hpl:=ad.lt;have hpp:=ai.lt;refine Kap 6 (by kernel_rfl) (by kernel_rfl) ?_;simp only[ew,eC,ez,eD]
 repeat (go_big_quiet_step ((go_at_fn 63;first | exact Kar _ (ac.out _) | exact Kar _ (ab.out _))))
 refine ft ?_;rintro w2 ⟨⟨_,am⟩,rfl⟩;have an:Grown W w2:=ak.trans am;go_wp2_with fail
 refine(af.out _).mono ?_;rintro _ w3 ⟨rfl,rfl⟩;go_wp2_with fail
 go_ret
 exact⟨rfl,an⟩
theorem Kus (x y:Smp) (p:Nat) (W:World) (hp:Blk W p 146 #[.func (.func 63) #[] #[]]) :
  Calls prog 136 #[.agg (Kac x).toArray,.agg (Kac y).toArray,.pointer (some ⟨p,0,none⟩)] W fun e w'=>e = .returned (.bool (x.t == y.t))/\Grown W w':=by
 have egT:∀args w,(callFunc 63 args).run prog w = .ok (.enter 63 args) w:=enters_of func63 (by kernel_rfl) rfl;have ac:=Jh (fun w=>Kis x w);have ab:=Jh (fun w=>Kis y w);obtain⟨tx,af⟩:=jG x.t;obtain⟨tz,ah⟩:=jG y.t;rw[<-af]at ac |-;rw[<-ah]at ab |-;clear af ah;obtain⟨a,b⟩:=x;obtain⟨a2,b2⟩:=y;unfold Kac at ac ab |-;dsimp only at ac ab |-;go_enter func136,ntmps136
 go_upto_region 1 with fail
 obtain⟨w1,aa⟩:=jF ((W.alloc (.cells #[.int .i64 a,.int .u64 b] 102)).alloc (.cells #[.int .i64 a2,.int .u64 b2] 102));have ag:Grown W w1:=by rw[<-aa];exact((fp _).alloc _).alloc _
 have hq:Blk w1 W.heap.size 102 #[.int .i64 a,.int .u64 b]:=by rw[<-aa];exact(fi _ _ _).alloc _
 have ad:Blk w1 (W.heap.size+1) 102 #[.int .i64 a2,.int .u64 b2]:=by rw[<-aa];exact fj (by simp)
 have ae:Blk w1 p 146 #[.func (.func 63) #[] #[]]:=hp.below ag.below hp.lt;rw[aa];obtain⟨a0,hA⟩:=jF W.heap.size;rw[hA]at hq ad |-;clear aa hp;have q0:_=some (ee .i64 a):=hq.cell 0;have q1:_=some (ee .u64 b):=hq.cell 1;have r0:_=some (ee .i64 a2):=ad.cell 0;have r1:_=some (ee .u64 b2):=ad.cell 1;have p0:_=some (ek (.func 63) #[] #[]):=ae.cell 0;have hql:=hq.lt;have hpl:=ad.lt;have hpp:=ae.lt;refine Kap 6 (by kernel_rfl) (by kernel_rfl) ?_;simp only[ew,eC,ez,eD]
 repeat (go_big_quiet_step ((go_at_fn 63;first | exact Kar _ (ac.out _) | exact Kar _ (ab.out _))))
 refine ft ?_;rintro w2 ⟨⟨_,ai⟩,rfl⟩;have aj:Grown W w2:=ag.trans ai;go_wp2_with fail
 go_ret
 exact⟨rfl,aj⟩
theorem Kpz (cmp:Value) (w:World):Calls prog 132 #[.slice none 0 0,cmp] w fun e w'=>e = .returned (.tuple #[])/\w=w':=by
 have aa:∀W:World,Calls prog 224 #[.slice none 0 0,.int .i64 0,.int .i64 0,cmp] W fun e w'=>e = .returned (.tuple #[])/\W=w':=by
  intro W;go_enter func224,ntmps224
  go_wp2
  go_loopg [8] 0 (fun kx s8 wr=>s8 = .int .i64 1/\wr=W)
  case atStart=>exact⟨rfl,rfl⟩
  case round=>
   obtain⟨rfl,rfl⟩:=hrel;go_wp2_with fail
   go_end0
   exact⟨rfl,rfl⟩
 have ab:∀W:World,Calls prog 180 #[.slice none 0 0,.int .i64 0,cmp] W fun e w'=>e = .returned (.tuple #[])/\W=w':=by
  intro W;have HI:=Jh aa;clear aa;go_enter func180,ntmps180
  go_wp2
  go_loopg [7,8] 0 (fun kx s7 s8 wr=>s7 = .int .i64 0/\s8 = .int .i64 20/\wr=W)
  case atStart=>exact⟨rfl,rfl,rfl⟩
  case round=>
   obtain⟨rfl,rfl,rfl⟩:=hrel;go_wp2_with fail
   refine(HI.out _).mono ?_;rintro _ w1 ⟨rfl,rfl⟩;go_wp2_with fail
   go_loopg [6] 0 (fun kx s6 wr2=>s6 = .int .i64 20/\wr2=wr)
   case atStart=>exact⟨rfl,rfl⟩
   case round=>
    obtain⟨rfl,rfl⟩:=hrel;go_wp2_with fail
    go_end0
    exact⟨rfl,rfl⟩
 have HS:=Jh ab;clear aa ab;go_enter func132,ntmps132
 go_wp2_with fail
 refine(HS.out _).mono ?_;rintro _ w1 ⟨rfl,rfl⟩;go_wp2_with fail
 go_end0
 exact⟨rfl,rfl⟩
theorem Kou (eq_:Value) (w:World):Calls prog 135 #[.slice none 0 0,eq_] w fun e w'=>e = .returned (.slice none 0 0)/\w=w':=by
 go_enter func135,ntmps135
 go_wp2_with fail
 go_ret
 exact⟨rfl,rfl⟩
theorem Kyp (xs:List Smp) (B n:Nat) (v:Value) (w:World) (h:w.ownsRow B 102 2 v n (xs.flatMap Kac)) (hl:xs.length=n) (hn:n<=1099511627776) :
  Calls prog 62 #[v,.func (.func 63) #[] #[]] w fun e w'=>∃v' zs,e = .returned v'/\Kbd Smp.t xs zs/\w'.ownsRow B 102 2 v' zs.length (zs.flatMap Kac)/\v'.ownBlock=v.ownBlock/\w.grownBy w' v.ownBlock:=by
 have ao:(xs = []/\v = .slice none 0 0)\/∃g c,v = .slice (some ⟨g,0,none⟩) n c:=by
  rcases h.2 with ⟨h1,h0⟩ | ⟨g,cap,cur,h1,_⟩
  .exact .inl ⟨ec (by omega),h1⟩
  .exact .inr ⟨g,cap,h1⟩
 rcases ao with ⟨rfl,rfl⟩ | ⟨g,cap,rfl⟩
 .have aq:n=0:=by simpa using hl.symm
  subst aq;have hS:=Jh (fun (c:Value) (W:World)=>Kpz c W);have hC:=Jh (fun (c:Value) (W:World)=>Kou c W);have H:=Jh h;clear h;go_enter func62,ntmps62
  go_wp2_with fail
  refine(hS.out _ _).mono ?_;rintro _ w1 ⟨rfl,rfl⟩;go_wp2_with fail
  refine(hC.out _ _).mono ?_;rintro _ w1 ⟨rfl,rfl⟩;go_wp2_with fail
  go_ret
  have hb:w.grownBy (w.alloc (.cells #[.func (.func 63) #[] #[]] 146)) none:=ex w _ none;exact⟨_,[],rfl,Kbd.nil _,by simpa using (fe H.out _),rfl,hb⟩
 .have aj:=ff h g rfl;obtain⟨w1,ad⟩:=jF (w.alloc (.cells #[.func (.func 63) #[] #[]] 146));obtain⟨p,hp⟩:=jG w.heap.size;have hb:Blk w1 p 146 #[.func (.func 63) #[] #[]]:=by rw[hp,<-ad];exact fi _ _ _
  have al:p≠g:=by omega
  have hpz:p<w1.heap.size:=hb.lt;have h1:w1.ownsRow B 102 2 (.slice (some ⟨g,0,none⟩) n cap) n (xs.flatMap Kac):=by rw[<-ad];exact fe h _
  have ag:w.grownBy w1 (some g):=by rw[<-ad];exact ex w _ _
  have R:RowK Kac 2 w1 g 0 xs.toArray:=⟨Khu,Kwr,Kfg Khu (by decide) h1 hl,(ff h1 g rfl).2⟩;have hN:xs.toArray.size=n:=by simpa using hl
  have aa:n<=cap:=by
   rcases h.2 with ⟨he,_⟩ | ⟨g',cap',cur,he,_,_,h3,_⟩
   .cases he
   .injection he with _ _ hcc;subst hcc;exact h3
  have av:∀args w,(callFunc 133 args).run prog w = .ok (.enter 133 args) w:=enters_of func133 (by kernel_rfl) rfl;have am:∀args w,(callFunc 136 args).run prog w = .ok (.enter 136 args) w:=enters_of func136 (by kernel_rfl) rfl;have ab:∀(dk:Array Smp) (W:World),SWK Kac 2 w1 g 0 dk W->Blk W p 146 #[.func (.func 63) #[] #[]]:=fun dk W hS=>hb.grown (SWK.by hS) (by intro e;injection e with e;exact al e)
  have ac:CmpLays prog 133 #[.pointer (some ⟨p,0,none⟩)] Kac 2 (cfT Smp.t) g 0 xs.toArray.size w1:=by intro m os dk hdk x y;refine(Kuq x y p _ (ab dk _ ⟨m,os,rfl⟩)).mono ?_;rintro e w' ⟨he,⟨q,hq⟩⟩;exact⟨he,q.n,q.os,hq⟩
  have ai:Koh prog 136 #[.pointer (some ⟨p,0,none⟩)] Kac 2 (fun x y=>x.t == y.t) g 0 xs.toArray.size w1:=by intro W dk hdk hS x y;refine(Kus x y p _ (ab dk _ hS)).mono ?_;rintro e w' ⟨he,⟨q,hq⟩⟩;exact⟨he,q.n,q.os,hq⟩
  have HS:=Jh (Kmr (cap:=cap) (swoT Smp.t) av ac R hN (by omega) xs w1 hl (SWK.start R.hH));have HC:=Jh (fun (ys:List Smp) (W:World) (hy:ys.length=n) (hS:SWK Kac 2 w1 g 0 ys.toArray W)=>Kqm (cap:=cap) am ai R hN (by omega) ys W hy (fun W dk i a b c=>Kmb (P:=prog) underlying55 (⟨0,0⟩:Smp) (fun w=>zeroValue102 w) (by decide) R hN W dk i (cap - i) a b c) aa hS);have HG:=Jh ag;have H1:=Jh h1;have HL:=Jh hl;clear h h1 hl hN ag ac ai ab hb aa R aj;go_enter func62,ntmps62
  go_upto_region 1 with fail
  try rw[ad]
  try rw[<-hp]
  clear ad hp;go_wp2_with fail
  refine eZ HS.out ?_;rintro _ w2 ⟨rfl,ys,ae,ah⟩;have ap:=Jh ae;have af:ys.length=n:=by rw[ae.len];exact HL.out
  have ar:=Jh (HC.out ys w2 af ah);clear ae ah af;go_wp2_with fail
  refine eZ ar.out ?_;rintro _ w3 ⟨rfl,zs,z1,z2,z3⟩;have HZ:=Jh (fq z1 (fq z2 z3));clear z1 z2 z3;go_wp2_with fail
  go_ret
  obtain⟨z1,z2,z3⟩:=HZ.out;refine⟨_,dupE (fun x y:Smp=>x.t == y.t) ys,rfl,Ksu Smp.t _ (fun x y=>by rw[eV];simp) ap.out,?_,rfl,?_⟩
  .obtain ⟨m,os,rfl⟩:=z3;have ho:=Kfj Khu (by decide) H1.out HL.out zs.toArray (by simpa using z1) m os
   have ak:(dupE (fun x y:Smp=>x.t == y.t) ys).length<=n:=by have:=jR eU z2;rw[eq]at this;omega
   have:=Koc ho ak
   rw[show(zs.toArray.toList.flatMap Kac).take ((dupE (fun x y:Smp=>x.t == y.t) ys).length*2)=(dupE (fun x y:Smp=>x.t == y.t) ys).flatMap Kac by
    have an:zs=zs.take (dupE (fun x y:Smp=>x.t == y.t) ys).length++zs.drop (dupE (fun x y:Smp=>x.t == y.t) ys).length:=(eh _ _).symm;rw[show zs.toArray.toList=zs by simp]
    conv=>lhs;rw[an]
    rw[eF,eE (by rw[Kdg Khu,z2]),z2]]at this
   exact this
  .exact fn HG.out (SWK.by z3)
end
end
section
open List renaming length_append -> Jd
attribute [-go_sem] loadCells
open Go.Shelf Go.RowKit Go.Lib Go.Sort
section
variable {α : Type}[Inhabited α] {enc : α -> List Value}{ef : α -> α -> Bool}{d0 : Array α}{w0 : World}{blk off cap g N : Nat}{cb : Array Value}
theorem Kqn (eg:∀args w,(callFunc g args).run prog w = .ok (.enter g args) w) (heq:Koh prog g cb enc 6 ef blk off d0.size w0) (R:RowK enc 6 w0 blk off d0) (hN:d0.size=N) (hsz:N<1152921504606846976) (xs:List α) (w:World) (hl:xs.length=N)
  (hcl:∀(W:World) (dk:Array α) (i:Nat),dk.size=N->SWK enc 6 w0 blk off dk W->i<=N->∃W',(∀ty,(Builtin.clear_ #[56] ty #[.slice (some ⟨blk,off+i*6,none⟩) (N - i) (cap - i)]).run prog W = .ok (.tuple #[]) W')/\∃dk':Array α,dk'.size=N/\dk'.toList.take i=dk.toList.take i/\SWK enc 6 w0 blk off dk' W')
  (hcN:N<=cap) (S0:SWK enc 6 w0 blk off xs.toArray w) :
  Calls prog 139 #[.slice (some ⟨blk,off,none⟩) N cap,.func (.func g) #[] cb] w fun e w'=>e = .returned (.slice (some ⟨blk,off,none⟩) (dupE ef xs).length cap)/\∃zs:List α,zs.length=N/\zs.take (dupE ef xs).length=dupE ef xs/\SWK enc 6 w0 blk off zs.toArray w':=by
 have mixed:prog.follows .mixedOrders=true:=by kernel_rfl
 have HC:Aside _:=heq;have aI:Aside _:=hcl;have S1:Aside (SWK enc 6 w0 blk off xs.toArray w):=S0;have HQ:Hid (d0.size=N/\xs.length=N):=⟨hN,hl⟩;clear heq hcl S0 hN hl;go_enter func139,ntmps139
 rcases eo N 2 with h2 | h2
 .have hz:(N:Int)<2:=by omega
  have HE:Hid (dupE ef xs=xs):=by
   have q:=HQ.out.2
   match xs,q with
   | [],q=>rfl
   | [x],_=>rfl
   | _ :: _ :: _,q=>simp at q;omega
  go_wp2_with fail
  go_ret
  refine⟨?_,xs,HQ.out.2,?_,S1.out⟩
  .show fs (.slice (some ⟨blk,off,none⟩) N cap)=_
   rw[HE.out,HQ.out.2]
  .rw[HE.out,eQ]
 have hz:¬(N:Int)<2:=by omega
 have aA:∃x l,xs=x :: l:=by
  have q:=HQ.out.2
  cases xs with
  | nil=>simp at q;omega
  | cons x l=>exact⟨x,l,rfl⟩
 obtain⟨x0,l0,ar⟩:=aA;have am:Hid (xs = []++x0 :: l0/\dupE ef xs = []++x0 :: ddE ef x0 l0):=⟨ar,by rw[ar];rfl⟩;clear ar;go_wp2_with fail
 go_loopg [5] N (fun kx s5 wr=>∃(k:Nat) (K0 R0:List α) (p:α),s5 = .int .i64 k/\0<k/\k<=N/\N<=k+kx/\Hid (K0.length+1=k/\xs=K0++p :: R0/\dupE ef xs=K0++p :: ddE ef p R0)/\Aside (SWK enc 6 w0 blk off xs.toArray wr))
 case atStart=>exact⟨1,[],l0,x0,rfl,by omega,by omega,by omega,⟨rfl,am.out.1,am.out.2⟩,S1⟩
 case round=>
  clear S1 am;obtain⟨k,K0,R0,p,rfl,hk0,hkN,ay,HB,S1⟩:=hrel;rcases eo k N with hlt | hge
  .have aj:(k:Int)<(N:Int):=by omega
   obtain⟨b1,b2,b3⟩:=HB.out;obtain⟨q1,q2⟩:=HQ.out
   have aq:∃y R1,R0=y :: R1:=by
    cases R0 with
    | nil=>rw[b2]at q2;simp at q2;omega
    | cons y R1=>exact⟨y,R1,rfl⟩
   obtain⟨y,R1,ac⟩:=aq;have al:xs.toArray[k]! = y:=by rw[b2,ac,show K0++p :: y :: R1=(K0 ++ [p])++y :: R1 by simp];exact Kct (by simp only[Jd,ZZ,eb];omega)
   have ak:xs.toArray[k - 1]! = p:=by rw[b2];exact Kct (by omega)
   have aa:xs.toArray.size=N:=by simpa using q2
   obtain⟨k1,af⟩:∃k1,k=k1+1:=⟨k - 1,by omega⟩;have an:k - 1=k1:=by omega
   rw[an]at ak;have hk3:(k:Int) - 1=(k1:Int):=by omega
   have la:∀n os,fg prog (loadCells ⟨blk,off+k*6,none⟩ 6) (grow (wr.drewN n) os) = .ok (enc y).toArray (grow (wr.drewN n) os):=by rw[<-al];exact S1.out.ld R (by omega) prog k (by omega)
   have lb:∀n os,fg prog (loadCells ⟨blk,off+k1*6,none⟩ 6) (grow (wr.drewN n) os) = .ok (enc p).toArray (grow (wr.drewN n) os):=by rw[<-ak];exact S1.out.ld R (by omega) prog k1 (by omega)
   have hc:=fun n os=>HC.out (grow (wr.drewN n) os) xs.toArray (by omega) (S1.out.grown n os) y p
   have e2:(k1:Int)<(N:Int):=by omega
   have iak:((k:Int)).toNat=k:=by omega
   have ibk:(0:Int)<=(k:Int):=by omega
   have ick:eY.wrap (k:Int)=(k:Int):=by rw[ey];omega
   have idk:((k1:Int)).toNat=k1:=by omega
   have iek:(0:Int)<=(k1:Int):=by omega
   have ifk:eY.wrap (k1:Int)=(k1:Int):=by rw[ey];omega
   have aG:k1<N:=by omega
   have ax:Hid (k=k1+1):=af;have aw:Hid (R0=y :: R1):=ac
   cases hL:ef y p with
   | true=>
    rw[hL]at hc;have ab:Hid (K0.length+1=k/\xs=K0++p :: y :: R1/\dupE ef xs=(K0 ++ [p])++ddE ef y R1):=⟨b1,by rw[b2,ac],by rw[b3,ac,ddE,jN hL];simp⟩;clear b1 b2 b3 q1 q2 ac al ak aa HB aw hL af an;go_wp2_with fail
    go_quiet_grown (first | (go_at_fn g;refine fa (hc _ _)))
    have S2:Aside (SWK enc 6 w0 blk off xs.toArray (grow (wr.drewN nq) osq)):=S1.out.grown nq osq;clear la lb hc S1;generalize grow (wr.drewN nq) osq=w2 at S2 |-;clear nq osq;have S3:Aside (SWK enc 6 w0 blk off ((K0 ++ [p])++([]++y :: R1)).toArray w2):=by rw[show(K0 ++ [p])++([]++y :: R1)=K0++p :: y :: R1 by simp,<-ab.out.2.1];exact S2.out
    have af:=ax.out;have ag:K0.length=k1:=by have:=ab.out.1;omega
    have aM:R1.length+(k+1)=N:=by have q:=HQ.out.2;rw[ab.out.2.1]at q;simp only[Jd,ZZ]at q;omega
    have HL:Hid ((K0 ++ [p]).length=k/\k+1=(K0 ++ [p]).length+([]:List α).length+1/\(K0 ++ [p]).length+([]:List α).length+1+R1.length=N/\dupE ef xs=(K0 ++ [p])++ddE ef y R1):=⟨by simp only[Jd,ZZ,eb];omega,by simp only[Jd,ZZ,eb];omega,by simp only[Jd,ZZ,eb];omega,ab.out.2.2⟩;clear ag aM ab S2 af ax;obtain⟨c0,aL⟩:=jG k;subst aL;have aJ:c0<=cap:=by omega
    clear aj ay;go_wp2_with fail
    go_loopg [5,7] N (fun kx s5 s7 wr=>∃(k j:Nat) (K1 M R2:List α) (z:α),s5 = .int .i64 k/\s7 = .int .i64 j/\0<j/\k<c0+j/\c0+j<=N/\N<=c0+j+kx/\Hid (K1.length=k/\c0+j=K1.length+M.length+1/\K1.length+M.length+1+R2.length=N/\dupE ef xs=K1++ddE ef z R2)/\Aside (SWK enc 6 w0 blk off (K1++(M++z :: R2)).toArray wr))
    case atStart=>exact⟨c0,1,K0 ++ [p],[],R1,y,by first | rfl | go_num,rfl,by omega,by omega,by omega,by omega,HL,S3⟩
    case round=>
     clear HL S3;obtain⟨k,j,K1,M,R2,z,rfl,rfl,hj0,hkj,hjN,hjg,HB,S1⟩:=hrel;rcases eo (c0+j) N with hlt | hge
     .have aj:(j:Int)<(N:Int) - (c0:Int):=by omega
      have aq:∃v R3,R2=v :: R3:=by
       obtain⟨b1,b2,b3,b4⟩:=HB.out
       cases R2 with
       | nil=>simp only[eb]at b3;omega
       | cons v R3=>exact⟨v,R3,rfl⟩
      obtain⟨v,R3,ap⟩:=aq;obtain⟨b1,b2,b3,b4⟩:=HB.out;obtain⟨j1,rfl⟩:∃j1,j=j1+1:=⟨j - 1,by omega⟩;subst ap;simp only[ZZ]at b3;have ad:(K1++(M++z :: v :: R3)).toArray[c0+(j1+1)]! = v:=by rw[show K1++(M++z :: v :: R3)=(K1++(M ++ [z]))++v :: R3 by simp];exact Kct (by simp only[Jd,ZZ,eb];omega)
      have ai:(K1++(M++z :: v :: R3)).toArray[c0+j1]! = z:=by rw[show K1++(M++z :: v :: R3)=(K1++M)++z :: v :: R3 by simp];exact Kct (by simp only[Jd];omega)
      have aa:(K1++(M++z :: v :: R3)).toArray.size=N:=by simp only[ei,Jd,ZZ];omega
      obtain⟨dk,ah⟩:=jG ((K1++(M++z :: v :: R3)).toArray);rw[<-ah]at ad ai aa S1;have q1:=HQ.out.1
      have la:∀n os,fg prog (loadCells ⟨blk,off+c0*6+(j1+1)*6,none⟩ 6) (grow (wr.drewN n) os) = .ok (enc v).toArray (grow (wr.drewN n) os):=by rw[show off+c0*6+(j1+1)*6=off+(c0+(j1+1))*6 by omega,<-ad];exact S1.out.ld R (by omega) prog (c0+(j1+1)) (by omega)
      have lb:∀n os,fg prog (loadCells ⟨blk,off+c0*6+j1*6,none⟩ 6) (grow (wr.drewN n) os) = .ok (enc z).toArray (grow (wr.drewN n) os):=by rw[show off+c0*6+j1*6=off+(c0+j1)*6 by omega,<-ai];exact S1.out.ld R (by omega) prog (c0+j1) (by omega)
      have hc:=fun n os=>HC.out (grow (wr.drewN n) os) dk (by omega) (S1.out.grown n os) v z
      have e1:(j1:Int)+1<((N - c0:Nat):Int):=by omega
      have e2:(j1:Int)<((N - c0:Nat):Int):=by omega
      have aD:(((j1:Int)+1)).toNat=j1+1:=by omega
      have aC:(0:Int)<=(j1:Int)+1:=by omega
      have aE:eY.wrap ((j1:Int)+1)=(j1:Int)+1:=by rw[ey];omega
      have aF:((j1:Int)).toNat=j1:=by omega
      have az:(0:Int)<=(j1:Int):=by omega
      have aH:eY.wrap (j1:Int)=(j1:Int):=by rw[ey];omega
      have ae:Hid (dk=(K1++(M++z :: v :: R3)).toArray/\dk.size=N):=⟨ah,aa⟩
      cases hL:ef v z with
      | true=>
       rw[hL]at hc;have ab:Hid (K1.length=k/\c0+(j1+1+1)=K1.length+(M ++ [z]).length+1/\K1.length+(M ++ [z]).length+1+R3.length=N/\dupE ef xs=K1++ddE ef v R3):=⟨b1,by simp only[Jd,ZZ,eb];omega,by simp only[Jd,ZZ,eb];omega,by rw[b4,ddE,jN hL]⟩;clear b1 b2 b3 b4 ad ai aa ah HB hL q1;go_wp2_with fail
       go_quiet_grown (first | (go_at_fn g;refine fa (hc _ _)))
       have S2:Aside (SWK enc 6 w0 blk off dk (grow (wr.drewN nq) osq)):=S1.out.grown nq osq;clear la lb hc S1;generalize grow (wr.drewN nq) osq=w2 at S2 |-;clear nq osq;have S3:Aside (SWK enc 6 w0 blk off (K1++((M ++ [z])++v :: R3)).toArray w2):=by rw[show K1++((M ++ [z])++v :: R3)=K1++(M++z :: v :: R3) by simp,<-ae.out.1];exact S2.out
       clear S2 ae;go_wp2_with fail
       go_roundg (N - (c0+(j1+2)))
       case measure=>omega
       case rel=>exact⟨k,j1+2,K1,M ++ [z],R3,v,rfl,by first | rfl | go_num,by omega,by omega,by omega,by omega,ab,S3⟩
      | false=>
       rw[hL]at hc
       have aK:∃m M2,M ++ [z]=m :: M2:=by
        cases M with
        | nil=>exact⟨z,[],rfl⟩
        | cons a M=>exact⟨a,M ++ [z],rfl⟩
       obtain⟨m,M2,ao⟩:=aK;have aB:M2.length=M.length:=by have:=jR eU ao;simp only[Jd,ZZ,eb]at this;omega
       have ab:Hid ((K1 ++ [v]).length=k+1/\c0+(j1+1+1)=(K1 ++ [v]).length+M2.length+1/\(K1 ++ [v]).length+M2.length+1+R3.length=N/\dupE ef xs=(K1 ++ [v])++ddE ef v R3):=⟨by simp[b1],by simp only[Jd,ZZ,eb];omega,by simp only[Jd,ZZ,eb];omega,by rw[b4,ddE,jM (by rw[hL];exact eR)];simp⟩
       have HN:Hid (dk.setIfInBounds k v=((K1 ++ [v])++(M2++v :: R3)).toArray):=by
        show _=_
        rw[ah,show K1++(M++z :: v :: R3)=K1++m :: (M2++v :: R3) by rw[show M++z :: v :: R3=(M ++ [z])++v :: R3 by simp,ao];rfl,Klv b1.symm];simp
       have av:k<N:=by omega
       have aO:k<cap:=by omega
       clear b1 b2 b3 b4 ad ai aa ah HB hL ao aB q1;go_wp2_with fail
       go_quiet_grown (first | (go_at_fn g;refine fa (hc _ _)))
       have S2:Aside (SWK enc 6 w0 blk off dk (grow (wr.drewN nq) osq)):=S1.out.grown nq osq;clear la lb hc S1;generalize grow (wr.drewN nq) osq=w2 at S2 |-;clear nq osq;have aa:=ae.out.2;have q1:=HQ.out.1
       have ad:dk[c0+(j1+1)]! = v:=by rw[ae.out.1,show K1++(M++z :: v :: R3)=(K1++(M ++ [z]))++v :: R3 by simp];have t1:=ab.out.1;have t2:=ab.out.2.1;have t3:=ab.out.2.2.1;have t4:=jR Array.size ae.out.1;simp only[ei,Jd,ZZ,eb]at t1 t2 t3 t4;exact Kct (by simp only[Jd,ZZ,eb];omega)
       have l1:fg prog (loadCells ⟨blk,off+c0*6+(j1+1)*6,none⟩ 6) w2 = .ok (enc v).toArray w2:=by rw[show off+c0*6+(j1+1)*6=off+(c0+(j1+1))*6 by omega,<-ad];exact S2.out.load R (by omega) prog (c0+(j1+1)) (by omega)
       have s1:fg prog (storeCells ⟨blk,off+k*6,none⟩ (enc v) 0) w2 = .ok () (w2.setCells blk (off+k*6) (enc v)):=SWK.st S2.out R (by omega) prog k (by omega) v;have S3:Aside (SWK enc 6 w0 blk off ((K1 ++ [v])++(M2++v :: R3)).toArray (w2.setCells blk (off+k*6) (enc v))):=by rw[<-HN.out];exact SWK.put S2.out R k (by omega) v
       have n1:(enc v).length=6:=R.hk _;clear S2 ae aa q1 ad HN;generalize enc v=cV at l1 s1 S3 n1;have aN:(k:Int)<(N:Int):=by omega
       go_wp2_with fail
       clear l1 s1;generalize w2.setCells blk (off+k*6) cV=w3 at S3 |-;go_wp2_with fail
       go_roundg (N - (c0+(j1+2)))
       case measure=>omega
       case rel=>exact⟨k+1,j1+2,K1 ++ [v],M2,R3,v,by first | rfl | go_num,by first | rfl | go_num,by omega,by omega,by omega,by omega,ab,S3⟩
     .have aj:¬(j:Int)<(N:Int) - (c0:Int):=by omega
      obtain⟨b1,b2,b3,b4⟩:=HB.out;have ap:R2 = []:=ec (by omega);subst ap;obtain⟨W',hcr,dk',d1,d2,d3⟩:=aI.out wr _ k (by simp only[ei,Jd,ZZ,eb]at b3 |-;omega) S1.out (by omega)
      have HF:Hid (∃zs:List α,k=(dupE ef xs).length/\zs.length=N/\zs.take (dupE ef xs).length=dupE ef xs/\SWK enc 6 w0 blk off zs.toArray W'):=by rw[ddE,et]at b4;refine⟨dk'.toList,by rw[b4];exact b1.symm,by simpa using d1,?_,by simpa using d3⟩;rw[b4,b1,d2];simp only[List.toList_toArray];rw[<-b1,eE rfl]
      have av:k<=N:=by omega
      have aO:k<=cap:=by omega
      have aN:(k:Int)<=(N:Int):=by omega
      have k2z:(k:Int)<=(cap:Int):=by omega
      have k3z:(0:Int)<=(k:Int):=by omega
      clear b1 b2 b3 b4 d1 d2 d3 S1 HB;go_wp2_with fail
      go_ret
      obtain⟨zs,f1,f2,f3,f4⟩:=HF.out;refine⟨?_,zs,f2,f3,f4⟩;show fs (.slice (some ⟨blk,off,none⟩) k cap)=_
      rw[f1]
   | false=>
    rw[hL]at hc;have ab:Hid ((K0 ++ [p]).length+1=k+1/\xs=(K0 ++ [p])++y :: R1/\dupE ef xs=(K0 ++ [p])++y :: ddE ef y R1):=⟨by simp only[Jd,ZZ,eb];omega,by rw[b2,ac];simp,by rw[b3,ac,ddE,jM (by rw[hL];exact eR)];simp⟩;clear b1 b2 b3 q1 q2 ac al ak aa HB aw hL af an;go_wp2_with fail
    go_quiet_grown (first | (go_at_fn g;refine fa (hc _ _)))
    have S2:Aside (SWK enc 6 w0 blk off xs.toArray (grow (wr.drewN nq) osq)):=S1.out.grown nq osq;clear la lb hc S1;generalize grow (wr.drewN nq) osq=w2 at S2 |-;clear nq osq;go_wp2_with fail
    go_roundg (N - (k+1))
    case measure=>omega
    case rel=>exact⟨k+1,K0 ++ [p],R1,y,by first | rfl | go_num,by omega,by omega,by omega,ab,S2⟩
  .have aj:¬(k:Int)<(N:Int):=by omega
   obtain⟨b1,b2,b3⟩:=HB.out;have q2:=HQ.out.2
   have ac:R0 = []:=by refine ec ?_;rw[b2]at q2;simp only[Jd,ZZ]at q2;omega
   have HE:Hid (dupE ef xs=xs):=by
    show _=_
    rw[b3,b2,ac];rfl
   clear b1 b2 b3 q2 ac HB;go_wp2_with fail
   go_ret
   refine⟨?_,xs,HQ.out.2,?_,S1.out⟩
   .show fs (.slice (some ⟨blk,off,none⟩) N cap)=_
    rw[HE.out,HQ.out.2]
   .rw[HE.out,eQ]
end
attribute [-go_sem] loadCells
open Go.Shelf Go.RowKit Go.Lib Go.Sort
section
variable {α : Type}[Inhabited α] {enc : α -> List Value}{cf : α -> α -> Int}{d0 : Array α}{w0 : World}{blk off cap g N : Nat}{cb : Array Value}
theorem Key (A X M Y S:List α) (a b n:Nat) (w:World) (R:RowK enc 6 w0 blk off d0) (hN:d0.size=N) (hl:A.length+X.length+M.length+Y.length+S.length=N) (hX:X.length=n) (hY:Y.length=n) (ha:a=A.length) (hb:b=A.length+n+M.length) (hsz:N<4611686018427387904)
  (S0:SWK enc 6 w0 blk off (A++(X++(M++(Y++S)))).toArray w) :
  Calls prog 264 #[.slice (some ⟨blk,off,none⟩) N cap,.int .i64 a,.int .i64 b,.int .i64 n,.func (.func g) #[] cb] w fun e w'=>e = .returned (.tuple #[])/\SWK enc 6 w0 blk off (A++(Y++(M++(X++S)))).toArray w':=by
 have S1:Aside (SWK enc 6 w0 blk off (A++(X++(M++(Y++S)))).toArray w):=S0;have HQ:Hid (d0.size=N/\A.length+X.length+M.length+Y.length+S.length=N/\X.length=n/\Y.length=n/\a=A.length/\b=A.length+n+M.length):=⟨hN,hl,hX,hY,ha,hb⟩;have ban:a+n<=b:=by omega
 have bbn:b+n<=N:=by omega
 clear hN hl hX hY ha hb;have mixed:prog.follows .mixedOrders=true:=by kernel_rfl
 clear S0;go_enter func264,ntmps264
 go_wp2
 go_loopg [10] n (fun kx s10 wr=>∃(i:Nat) (X1 X2 Y1 Y2:List α),s10 = .int .i64 i/\i+kx=n/\Hid (X1.length=i/\Y1.length=i/\X=X1++X2/\Y=Y1++Y2)/\Aside (SWK enc 6 w0 blk off (A++(Y1++(X2++(M++(X1++(Y2++S)))))).toArray wr))
 case atStart=>exact⟨0,[],X,[],Y,rfl,by omega,⟨rfl,rfl,rfl,rfl⟩,S1⟩
 case round=>
  clear S1;obtain⟨i,X1,X2,Y1,Y2,rfl,hk,ab,S1⟩:=hrel;obtain⟨hN,hl,hX,hY,ha,hb⟩:=HQ.out;obtain⟨h1,h2,h3,h4⟩:=ab.out;have e1:X1.length+X2.length=n:=by rw[<-hX,h3,Jd]
  have e2:Y1.length+Y2.length=n:=by rw[<-hY,h4,Jd]
  by_cases hlt:i<n
  .have hlz:(i:Int)<(n:Int):=by omega
   obtain⟨x,X2,rfl⟩:∃x l,X2=x :: l:=by
    cases X2 with
    | nil=>simp at e1;omega
    | cons x l=>exact⟨x,l,rfl⟩
   obtain⟨y,Y2,rfl⟩:∃y l,Y2=y :: l:=by
    cases Y2 with
    | nil=>simp at e2;omega
    | cons y l=>exact⟨y,l,rfl⟩
   simp only[ZZ]at e1 e2
   have HN:Hid (swp (A++(Y1++(x :: X2++(M++(X1++(y :: Y2++S)))))).toArray (a+i) (b+i)=(A++((Y1 ++ [y])++(X2++(M++((X1 ++ [x])++(Y2++S)))))).toArray):=by
    show _=_
    rw[show A++(Y1++(x :: X2++(M++(X1++(y :: Y2++S)))))=(A++Y1)++x :: ((X2++(M++X1))++y :: (Y2++S)) by simp,Kej (by simp only[Jd];omega) (by simp only[Jd];omega)];simp
   have aa:(A++(Y1++(x :: X2++(M++(X1++(y :: Y2++S)))))).toArray.size=N:=by simp only[ei,Jd,ZZ];omega
   obtain⟨dk,ah⟩:=jG ((A++(Y1++(x :: X2++(M++(X1++(y :: Y2++S)))))).toArray);rw[<-ah]at HN S1 aa;have ac:Hid ((X1 ++ [x]).length=i+1/\(Y1 ++ [y]).length=i+1/\X=(X1 ++ [x])++X2/\Y=(Y1 ++ [y])++Y2):=⟨by simp[h1],by simp[h2],by rw[h3];simp,by rw[h4];simp⟩;clear ah ab hl hX hY ha hb h1 h2 h3 h4 e1 e2;go_wp2_with fail
   have eat:((a:Int)+(i:Int)).toNat=a+i:=by omega
   have pat:(0:Int)<=(a:Int)+(i:Int):=by omega
   have bat:(a:Int)+(i:Int)<(N:Int):=by omega
   have rat:eY.wrap ((a:Int)+(i:Int))=(a:Int)+(i:Int):=by rw[ey];omega
   have ect:((b:Int)+(i:Int)).toNat=b+i:=by omega
   have pct:(0:Int)<=(b:Int)+(i:Int):=by omega
   have bct:(b:Int)+(i:Int)<(N:Int):=by omega
   have rct:eY.wrap ((b:Int)+(i:Int))=(b:Int)+(i:Int):=by rw[ey];omega
   have S2:Aside (SWK enc 6 w0 blk off (swp dk (a+i) (b+i)) ((wr.drew.setCells blk (off+(a+i)*6) (enc dk[b+i]!)).setCells blk (off+(b+i)*6) (enc dk[a+i]!))):=S1.out.swapped R (a+i) (b+i) (by omega) (by omega);have ae:fg prog (loadCells ⟨blk,off+(a+i)*6,none⟩ 6) wr.drew = .ok (enc dk[a+i]!).toArray wr.drew:=S1.out.ld1 R (by omega) prog (a+i) (by omega);have ag:fg prog (loadCells ⟨blk,off+(b+i)*6,none⟩ 6) wr.drew = .ok (enc dk[b+i]!).toArray wr.drew:=S1.out.ld1 R (by omega) prog (b+i) (by omega);have af:=S1.out.st1 R (by omega) prog (a+i) (by omega) dk[b+i]!;have ad:=S1.out.st2 R (by omega) prog (a+i) (b+i) (by omega) (by omega) dk[b+i]! dk[a+i]!;have aj:(enc dk[a+i]!).length=6:=R.hk _;have ak:(enc dk[b+i]!).length=6:=R.hk _;generalize enc dk[a+i]! = cIt at S2 ae ad aj;generalize enc dk[b+i]! = cJt at S2 ag af ad ak;clear S1 aa hN;go_wp2_with fail
   go_big_region_o
   clear ae ag af ad;generalize (wr.drew.setCells blk (off+(a+i)*6) cJt).setCells blk (off+(b+i)*6) cIt=w2 at S2 |-;rw[HN.out]at S2;go_wp2
   go_roundg (n - (i+1))
   case measure=>omega
   case rel=>exact⟨i+1,X1 ++ [x],X2,Y1 ++ [y],Y2,by first | rfl | go_num,by omega,ac,S2⟩
  .have ai:X2 = []:=ec (by omega);have al:Y2 = []:=ec (by omega);subst ai al
   have S2:Aside (SWK enc 6 w0 blk off (A++(Y++(M++(X++S)))).toArray wr):=by rw[et]at h3 h4;rw[h3,h4];exact S1.out
   clear S1 ab hl hX hY ha hb h1 h2 h3 h4 e1 e2 hN;go_wp2
   go_end0
   exact⟨rfl,S2.out⟩
theorem Kts (A X Y S:List α) (a m b:Nat) (w:World) (R:RowK enc 6 w0 blk off d0) (hN:d0.size=N) (hl:A.length+X.length+Y.length+S.length=N) (ha:a=A.length) (hm:m=A.length+X.length) (hb:b=A.length+X.length+Y.length) (hX:0<X.length) (hY:0<Y.length) (hsz:N<4611686018427387904)
  (S0:SWK enc 6 w0 blk off (A++(X++(Y++S))).toArray w) :
  Calls prog 256 #[.slice (some ⟨blk,off,none⟩) N cap,.int .i64 a,.int .i64 m,.int .i64 b,.func (.func g) #[] cb] w fun e w'=>e = .returned (.tuple #[])/\SWK enc 6 w0 blk off (A++(Y++(X++S))).toArray w':=by
 have S1:Aside (SWK enc 6 w0 blk off (A++(X++(Y++S))).toArray w):=S0;obtain⟨L,hL⟩:=jG (A++(Y++(X++S)));rw[<-hL];have HL:Hid (A++(Y++(X++S))=L):=hL.symm;obtain⟨i0,ah⟩:=jG X.length;obtain⟨j0,ai⟩:=jG Y.length;have w1:wrap64 ((m:Int) - (a:Int))=(i0:Int):=by unfold wrap64;omega
 have w2:wrap64 ((b:Int) - (m:Int))=(j0:Int):=by unfold wrap64;omega
 have hmN:m<=N:=by omega
 have HQ:Hid (d0.size=N/\A.length+X.length+Y.length+S.length=N/\a=A.length/\m=A.length+X.length/\b=A.length+X.length+Y.length/\i0=X.length/\j0=Y.length):=⟨hN,hl,ha,hm,hb,ah,ai⟩;have pi0:0<i0:=by omega
 have pj0:0<j0:=by omega
 clear S0 hL hN hl ha hm hb ah ai hX hY;go_enter func256,ntmps256
 go_wp2
 go_loopg [10,11] (i0+j0) (fun kx s10 s11 wr=>∃(i j:Nat) (A' X' Y' S':List α),s10 = .int .i64 i/\s11 = .int .i64 j/\0<i/\0<j/\i+j<=kx/\i<=m/\m+j<=N/\Hid (X'.length=i/\Y'.length=j/\A'.length+i=m/\A'.length+X'.length+Y'.length+S'.length=N)/\Hid (A'++(Y'++(X'++S'))=L)/\Aside (SWK enc 6 w0 blk off (A'++(X'++(Y'++S'))).toArray wr))
 case atStart=>exact⟨i0,j0,A,X,Y,S,by first | rfl | go_num | (congr 1;omega),by first | rfl | go_num | (congr 1;omega),by omega,by omega,ep _,by have:=HQ.out;omega,by have:=HQ.out;omega,by have q:=HQ.out;refine⟨?_,?_,?_,?_⟩ <;> omega,HL,S1⟩
 case round=>
  clear S1 HL w1 w2;obtain⟨i,j,A',X',Y',S',rfl,rfl,hi,hj,hk,him,hjm,HR,HL,S1⟩:=hrel;have hN:=HQ.out.1;obtain⟨ab,aa,ag,ac⟩:=HR.out;rcases (by omega:i=j\/j<i\/i<j) with he | hgt | hlt
  .subst he;have HS:=Key (cap:=cap) (g:=g) (cb:=cb) A' X' [] Y' S' (m - i) m i wr R hN (by simp only[eb];omega) ab aa (by omega) (by simp only[eb];omega) hsz S1.out;have HC:=HS;have d1:((i:Int) != (i:Int))=false:=by simp
   rw[show((m - i:Nat):Int)=(m:Int) - (i:Int) by omega]at HC;have ad:Aside _:=HC;clear HS S1 HC hN ab aa ag ac HR;go_wp2_with fail
   refine eZ ad.out ?_;rintro _ w3 ⟨rfl,h3⟩;have S2:Aside (SWK enc 6 w0 blk off L.toArray w3):=by rw[<-HL.out];exact h3
   clear h3;go_wp2_with fail
   go_end0
   exact⟨rfl,S2.out⟩
  .obtain ⟨X1,X2,rfl,h1⟩:∃X1 X2,X'=X1++X2/\X1.length=j:=⟨X'.take j,X'.drop j,(eh _ _).symm,by rw[eq];omega⟩;rw[Jd]at ab ac;have HS:=Key (cap:=cap) (g:=g) (cb:=cb) A' X1 X2 Y' S' (m - i) m j wr R hN (by omega) h1 aa (by omega) (by omega) hsz (by have:=S1.out;rw[ed]at this;exact this);have HC:=HS;have d1:((i:Int) != (j:Int))=true:=by simp;omega
   have d2:decide ((j:Int)<(i:Int))=true:=by simp;omega
   rw[show((m - i:Nat):Int)=(m:Int) - (i:Int) by omega]at HC;have af:Hid (X2.length=i - j/\X1.length=j/\(A'++Y').length+(i - j)=m/\(A'++Y').length+X2.length+X1.length+S'.length=N):=by simp only[Jd];refine⟨?_,?_,?_,?_⟩ <;> omega
   have ad:Aside _:=HC;clear HS S1 HC hN ab aa ag ac HR h1;go_wp2_with fail
   refine eZ ad.out ?_;rintro _ w3 ⟨rfl,h3⟩;have S2:Aside (SWK enc 6 w0 blk off ((A'++Y')++(X2++(X1++S'))).toArray w3):=by rw[ed];exact h3
   have ae:Hid ((A'++Y')++(X1++(X2++S'))=L):=by show _=_;rw[<-HL.out];simp
   clear h3 HL;go_wp2_with fail
   go_roundg (i - j+j)
   case measure=>omega
   case rel=>exact⟨i - j,j,A'++Y',X2,X1,S',by first | rfl | go_num | (congr 1;omega),by first | rfl | go_num | (congr 1;omega),by omega,by omega,by omega,by omega,by omega,af,ae,S2⟩
  .obtain ⟨Y1,Y2,rfl,h1⟩:∃Y1 Y2,Y'=Y1++Y2/\Y2.length=i:=⟨Y'.take (j - i),Y'.drop (j - i),(eh _ _).symm,by rw[eS];omega⟩;rw[Jd]at aa ac;have HS:=Key (cap:=cap) (g:=g) (cb:=cb) A' X' Y1 Y2 S' (m - i) (m+j - i) i wr R hN (by omega) ab h1 (by omega) (by omega) hsz (by have:=S1.out;rw[ed]at this;exact this);have HC:=HS;have d1:((i:Int) != (j:Int))=true:=by simp;omega
   have d2:decide ((j:Int)<(i:Int))=false:=by simp;omega
   rw[show((m - i:Nat):Int)=(m:Int) - (i:Int) by omega]at HC;rw[show((m+j - i:Nat):Int)=(m:Int)+(j:Int) - (i:Int) by omega]at HC;have af:Hid (Y2.length=i/\Y1.length=j - i/\A'.length+i=m/\A'.length+Y2.length+Y1.length+(X'++S').length=N):=by simp only[Jd];refine⟨?_,?_,?_,?_⟩ <;> omega
   have ad:Aside _:=HC;clear HS S1 HC hN ab aa ag ac HR h1;go_wp2_with fail
   refine eZ ad.out ?_;rintro _ w4 ⟨rfl,h3⟩;have S2:Aside (SWK enc 6 w0 blk off (A'++(Y2++(Y1++(X'++S')))).toArray w4):=h3;have ae:Hid (A'++(Y1++(Y2++(X'++S')))=L):=by show _=_;rw[<-HL.out];simp
   clear h3 HL;go_wp2_with fail
   go_roundg (i+(j - i))
   case measure=>omega
   case rel=>exact⟨i,j - i,A',Y2,Y1,X'++S',by first | rfl | go_num | (congr 1;omega),by first | rfl | go_num | (congr 1;omega),by omega,by omega,by omega,by omega,by omega,af,ae,S2⟩
theorem Kue (SW:SWO (ltOf cf)) (eg:∀args w,(callFunc g args).run prog w = .ok (.enter g args) w) (hcmp:CmpLays prog g cb enc 6 cf blk off d0.size w0) (R:RowK enc 6 w0 blk off d0) (hN:d0.size=N) (hsz:N<4611686018427387904) (A:List α) (x:α) (Y S:List α) (a m b:Nat) (w:World) (hl:A.length+1+Y.length+S.length=N) (ha:a=A.length) (hm:m=a+1) (hb:b=m+Y.length) (hY0:0<Y.length) (hY:(Y.Pairwise fun a b=>ltOf cf b a=false))
  (S0:SWK enc 6 w0 blk off (A++([x]++(Y++S))).toArray w) :
  Calls prog 227 #[.slice (some ⟨blk,off,none⟩) N cap,.int .i64 a,.int .i64 m,.int .i64 b,.func (.func g) #[] cb] w fun e w'=>e = .returned (.tuple #[])/\SWK enc 6 w0 blk off (A++(mrg (ltOf cf) [x] Y++S)).toArray w':=by
 have mixed:prog.follows .mixedOrders=true:=by kernel_rfl
 have HC:Aside _:=hcmp;have hma:(m:Int) - (a:Int)=1:=by omega
 have hmb:m<b:=by omega
 have hbN:b<=N:=by omega
 have ham:a<m:=by omega
 obtain⟨dk,ab⟩:=jG ((A++([x]++(Y++S))).toArray);have aa:dk.size=N:=by rw[ab];simp only[ei,Jd,ZZ,eb];omega
 have DA:Hid (dk[a]! = x):=by
  show _=_
  rw[ab,Kdp (A:=A) (X:=[x]) (T:=Y++S) (i:=0) (by simp) (by omega)];rfl
 have DY:Hid (∀t,m<=t->t<b->dk[t]! = Y[t - m]!):=by intro t h1 h2;rw[ab,Kds (A:=A) (X:=[x]) (Y:=Y) (T:=S) (i:=t - m) (by omega) (by simp only[ZZ,eb];omega)]
 have HQ:Hid (dk=(A++([x]++(Y++S))).toArray/\d0.size=N/\A.length+1+Y.length+S.length=N/\a=A.length/\m=a+1/\b=m+Y.length/\(Y.Pairwise fun a b=>ltOf cf b a=false)):=⟨ab,hN,hl,ha,hm,hb,hY⟩;have aq:Hid (d0.size=N):=hN;rw[<-ab]at S0;have S1:Aside (SWK enc 6 w0 blk off dk w):=S0;clear S0 ab hl ha hm hb hY hcmp hN;have aD:Hid (dk.size=N):=aa;clear aa;go_enter func227,ntmps227
 go_wp2
 go_loopg [10,11] (b - m) (fun kx s10 s11 wr=>∃(i j:Nat),s10 = .int .i64 i/\s11 = .int .i64 j/\m<=i/\i<=j/\j<=b/\j - i<=kx/\Hid ((i=m\/ltOf cf Y[i - m - 1]! x=true)/\(j=b\/ltOf cf Y[j - m]! x=false))/\Aside (SWK enc 6 w0 blk off dk wr))
 case atStart=>exact⟨m,b,rfl,rfl,by omega,by omega,by omega,by omega,⟨.inl rfl,.inl rfl⟩,S1⟩
 case round=>
  clear S1;obtain⟨i,j,rfl,rfl,ay,aw,aA,hk,HB,S1⟩:=hrel;rcases eo i j with hlt | hge
  .have hlz:(i:Int)<(j:Int):=by omega
   obtain⟨h,hh⟩:=jG ((i+j) / 2);have hm2:(((i:Int)+(j:Int)) / 2)=(h:Int):=by omega
   have hih:i<=h:=by omega
   have hjh:h<j:=by omega
   clear hh;obtain⟨y,hy⟩:=jG (Y[h - m]!);have ak:dk[a]! = x:=DA.out;have aj:dk[h]! = y:=by rw[hy];exact DY.out h (by omega) (by omega)
   have aa:=aD.out;have hN:=aq.out;obtain⟨L,hL⟩:=jF (ltOf cf y x);have HL:=fo hL;have HY:=fo hy;clear hy;obtain⟨eac,pac,bac,rac⟩:=ixf (i:=h) (N:=N) (by omega) (by omega);obtain⟨ecc,pcc,bcc,rcc⟩:=ixf (i:=a) (N:=N) (by omega) (by omega);have ag:∀n os,fg prog (loadCells ⟨blk,off+(h)*6,none⟩ 6) (grow (wr.drewN n) os) = .ok (enc dk[h]!).toArray (grow (wr.drewN n) os):=S1.out.ld R (by omega) prog (h) (by omega);have ap:∀n os,fg prog (loadCells ⟨blk,off+(a)*6,none⟩ 6) (grow (wr.drewN n) os) = .ok (enc dk[a]!).toArray (grow (wr.drewN n) os):=S1.out.ld R (by omega) prog (a) (by omega);rw[aj]at ag;rw[ak]at ap;have al:=S1.out.cmp HC.out (by omega) y x;have hdc:decide (cf y x<0)=L:=hL;go_wp2_with fail
   go_quiet_grown (first | (go_at_fn g;refine fa (al _ _)))
   have S2:Aside (SWK enc 6 w0 blk off dk (grow (wr.drewN nq) osq)):=S1.out.grown nq osq;clear aa hN ak aj hL ag ap al S1;generalize grow (wr.drewN nq) osq=w2 at S2 |-;clear nq osq
   cases L with
   | true=>
    have ac:Hid ((h+1=m\/ltOf cf Y[h+1 - m - 1]! x=true)/\(j=b\/ltOf cf Y[j - m]! x=false)):=⟨.inr (by rw[show h+1 - m - 1=h - m by omega,<-HY.out];exact HL.out),HB.out.2⟩;clear HB HY HL;go_wp2_with fail
    go_roundg (j - (h+1))
    case measure=>omega
    case rel=>exact⟨h+1,j,by first | rfl | go_num,rfl,by omega,by omega,aA,by omega,ac,S2⟩
   | false=>
    have ac:Hid ((i=m\/ltOf cf Y[i - m - 1]! x=true)/\(h=b\/ltOf cf Y[h - m]! x=false)):=⟨HB.out.1,.inr (by rw[<-HY.out];exact HL.out)⟩;clear HB HY HL;go_wp2_with fail
    go_roundg (h - i)
    case measure=>omega
    case rel=>exact⟨i,h,rfl,rfl,ay,by omega,by omega,by omega,ac,S2⟩
  .have he:j=i:=by omega
   subst he;have ar:¬(j:Int)<(j:Int):=by omega
   obtain⟨p,hp⟩:=jG (j - m)
   have HE:Hid (mrg (ltOf cf) [x] Y=Y.take p++x :: Y.drop p):=by obtain⟨q1,q2,q3,q4,q5,q6,q7⟩:=HQ.out;refine Khn SW q7 p (by omega) (HB.out.2.imp (fun h=>by omega) fun h=>by rw[hp];exact h) (HB.out.1.imp (fun h=>by omega) fun h=>by rw[hp];exact h)
   have HP:Hid (j=a+1+p/\p<=Y.length):=by obtain⟨q1,q2,q3,q4,q5,q6,q7⟩:=HQ.out;exact⟨by omega,by omega⟩
   have S2:Aside (SWK enc 6 w0 blk off (A++([]++x :: (Y.take p++(Y.drop p++S)))).toArray wr):=by have e:=S1.out;rw[HQ.out.1]at e;rw[<-ed (Y.take p),eh];exact e
   clear hp HB S1 aw;go_wp2_with fail
   go_loopg [13] p (fun kx s13 wr=>∃(k:Nat) (U V:List α),s13 = .int .i64 k/\a<=k/\k+1<=j/\Hid (V.length<=kx/\U.length+a=k/\k+V.length+1=j/\Y.take p=U++V)/\Aside (SWK enc 6 w0 blk off (A++(U++x :: (V++(Y.drop p++S)))).toArray wr))
   case atStart=>
    have hl:(Y.take p).length=p:=by rw[eq];have:=HP.out.2;omega
    have q:=HP.out.1;exact⟨a,[],Y.take p,rfl,ep _,by omega,⟨by omega,by simp,by omega,rfl⟩,S2⟩
   case round=>
    clear S2;obtain⟨k,U,V,rfl,hak,hkj,HU,S1⟩:=hrel
    cases V with
    | nil=>
     have aC:¬(k:Int)<(j:Int) - 1:=by have:=HU.out.2.2.1;simp only[eb]at this;omega
     have e2:SWK enc 6 w0 blk off (A++(mrg (ltOf cf) [x] Y++S)).toArray wr:=by have e:=S1.out;have q:=HU.out.2.2.2;rw[et]at q;rw[HE.out,q];simpa using e
     have S2:Aside (SWK enc 6 w0 blk off (A++(mrg (ltOf cf) [x] Y++S)).toArray wr):=e2;clear e2;clear S1;go_wp2_with fail
     (try simp only[Exit.inBlock,Exit.then]);refine bodyPost_ret (results_none rfl _ _ _) rfl ?_
     exact⟨rfl,S2.out⟩
    | cons v V=>
     obtain⟨am,ax,ah,ad⟩:=HU.out;simp only[ZZ]at am ah;have aC:(k:Int)<(j:Int) - 1:=by omega
     obtain⟨q1,q2,q3,q4,q5,q6,q7⟩:=HQ.out
     have HN:Hid (swp (A++(U++x :: (v :: V++(Y.drop p++S)))).toArray (k) (k+1)=(A++((U ++ [v])++x :: (V++(Y.drop p++S)))).toArray):=by
      show _=_
      rw[show A++(U++x :: (v :: V++(Y.drop p++S)))=(A++U)++x :: ([]++v :: (V++(Y.drop p++S))) by simp,Kej (by simp only[Jd];omega) (by simp only[Jd,eb];omega)];simp
     have av:Hid (V.length<=gk - 1/\(U ++ [v]).length+a=k+1/\k+1+V.length+1=j/\Y.take p=(U ++ [v])++V):=⟨by omega,by simp only[Jd,ZZ,eb];omega,by omega,by rw[ad];simp⟩;have hgk:0<gk:=by omega
     have aa:(A++(U++x :: (v :: V++(Y.drop p++S)))).toArray.size=N:=by
      have hl:(Y.take p).length=U.length+(V.length+1):=by rw[ad];simp
      have hl2:(Y.take p).length+(Y.drop p).length=Y.length:=by rw[<-Jd,eh]
      simp only[ei,Jd,ZZ];omega
     have hN:=aq.out;obtain⟨dm,ao⟩:=jG ((A++(U++x :: (v :: V++(Y.drop p++S)))).toArray);rw[<-ao]at HN S1 aa;clear ao HU am ax ah ad q1 q2 q3 q4 q5 q6 q7;go_wp2_with fail
     have eat:((k:Int)).toNat=k:=by omega
     have pat:(0:Int)<=(k:Int):=by omega
     have bat:(k:Int)<(N:Int):=by omega
     have rat:eY.wrap ((k:Int))=(k:Int):=by rw[ey];omega
     have ect:((k:Int)+1).toNat=k+1:=by omega
     have pct:(0:Int)<=(k:Int)+1:=by omega
     have bct:(k:Int)+1<(N:Int):=by omega
     have rct:eY.wrap ((k:Int)+1)=(k:Int)+1:=by rw[ey];omega
     have S2:Aside (SWK enc 6 w0 blk off (swp dm (k) (k+1)) ((wr.drew.setCells blk (off+(k)*6) (enc dm[k+1]!)).setCells blk (off+(k+1)*6) (enc dm[k]!))):=S1.out.swapped R (k) (k+1) (by omega) (by omega);have af:fg prog (loadCells ⟨blk,off+(k)*6,none⟩ 6) wr.drew = .ok (enc dm[k]!).toArray wr.drew:=S1.out.ld1 R (by omega) prog (k) (by omega);have an:fg prog (loadCells ⟨blk,off+(k+1)*6,none⟩ 6) wr.drew = .ok (enc dm[k+1]!).toArray wr.drew:=S1.out.ld1 R (by omega) prog (k+1) (by omega);have ai:=S1.out.st1 R (by omega) prog (k) (by omega) dm[k+1]!;have ae:=S1.out.st2 R (by omega) prog (k) (k+1) (by omega) (by omega) dm[k+1]! dm[k]!;have az:(enc dm[k]!).length=6:=R.hk _;have aB:(enc dm[k+1]!).length=6:=R.hk _;generalize enc dm[k]! = cIt at S2 af ae az;generalize enc dm[k+1]! = cJt at S2 an ai ae aB;clear S1 aa hN;go_wp2_with fail
     go_big_region_o
     clear af an ai ae;generalize (wr.drew.setCells blk (off+(k)*6) cJt).setCells blk (off+(k+1)*6) cIt=w2 at S2 |-;rw[HN.out]at S2;go_wp2
     go_roundg (gk - 1)
     case measure=>omega
     case rel=>exact⟨k+1,U ++ [v],V,by first | rfl | go_num,by omega,by omega,av,S2⟩
theorem Krh (SW:SWO (ltOf cf)) (eg:∀args w,(callFunc g args).run prog w = .ok (.enter g args) w) (hcmp:CmpLays prog g cb enc 6 cf blk off d0.size w0) (R:RowK enc 6 w0 blk off d0) (hN:d0.size=N) (hsz:N<4611686018427387904) (A:List α) (y:α) (X S:List α) (a m b:Nat) (w:World) (hl:A.length+X.length+1+S.length=N) (ha:a=A.length) (hm:m=a+X.length) (hb:b=m+1) (hX0:1<X.length) (hX:(X.Pairwise fun a b=>ltOf cf b a=false))
  (S0:SWK enc 6 w0 blk off (A++(X++([y]++S))).toArray w) :
  Calls prog 227 #[.slice (some ⟨blk,off,none⟩) N cap,.int .i64 a,.int .i64 m,.int .i64 b,.func (.func g) #[] cb] w fun e w'=>e = .returned (.tuple #[])/\SWK enc 6 w0 blk off (A++(mrg (ltOf cf) X [y]++S)).toArray w':=by
 have mixed:prog.follows .mixedOrders=true:=by kernel_rfl
 have HC:Aside _:=hcmp;have hmb:(b:Int) - (m:Int)=1:=by omega
 have dma:(((m:Int) - (a:Int)) == 1)=false:=by simp;omega
 have hbN:b<=N:=by omega
 have ham:a<m:=by omega
 have aw:m<b:=by omega
 obtain⟨dk,ab⟩:=jG ((A++(X++([y]++S))).toArray);have aa:dk.size=N:=by rw[ab];simp only[ei,Jd,ZZ,eb];omega
 have DA:Hid (dk[m]! = y):=by
  show _=_
  rw[ab,Kds (A:=A) (X:=X) (Y:=[y]) (T:=S) (i:=0) (by simp) (by omega)];rfl
 have DX:Hid (∀t,a<=t->t<m->dk[t]! = X[t - a]!):=by intro t h1 h2;rw[ab,Kdp (A:=A) (X:=X) (T:=[y]++S) (i:=t - a) (by omega) (by omega)]
 have HQ:Hid (dk=(A++(X++([y]++S))).toArray/\d0.size=N/\A.length+X.length+1+S.length=N/\a=A.length/\m=a+X.length/\b=m+1/\(X.Pairwise fun a b=>ltOf cf b a=false)):=⟨ab,hN,hl,ha,hm,hb,hX⟩;have aq:Hid (d0.size=N):=hN;rw[<-ab]at S0;have S1:Aside (SWK enc 6 w0 blk off dk w):=S0;have aE:Hid (dk.size=N):=aa;clear S0 ab hl ha hm hb hX hcmp hN aa;go_enter func227,ntmps227
 go_wp2
 go_loopg [14,15] (m - a) (fun kx s10 s11 wr=>∃(i j:Nat),s10 = .int .i64 i/\s11 = .int .i64 j/\a<=i/\i<=j/\j<=m/\j - i<=kx/\Hid ((i=a\/ltOf cf y X[i - a - 1]! = false)/\(j=m\/ltOf cf y X[j - a]! = true))/\Aside (SWK enc 6 w0 blk off dk wr))
 case atStart=>exact⟨a,m,rfl,rfl,by omega,by omega,by omega,by omega,⟨.inl rfl,.inl rfl⟩,S1⟩
 case round=>
  clear S1;obtain⟨i,j,rfl,rfl,ay,ax,aA,hk,HB,S1⟩:=hrel;rcases eo i j with hlt | hge
  .have hlz:(i:Int)<(j:Int):=by omega
   obtain⟨h,hh⟩:=jG ((i+j) / 2);have hm2:(((i:Int)+(j:Int)) / 2)=(h:Int):=by omega
   have hih:i<=h:=by omega
   have hjh:h<j:=by omega
   clear hh;obtain⟨x,hx⟩:=jG (X[h - a]!);have aj:dk[m]! = y:=DA.out;have ai:dk[h]! = x:=by rw[hx];exact DX.out h (by omega) (by omega)
   have aa:=aE.out;have hN:=aq.out;obtain⟨L,hL⟩:=jF (ltOf cf y x);have HL:=fo hL;have HX:=fo hx;clear hx;obtain⟨eac,pac,bac,rac⟩:=ixf (i:=m) (N:=N) (by omega) (by omega);obtain⟨ecc,pcc,bcc,rcc⟩:=ixf (i:=h) (N:=N) (by omega) (by omega);have ag:∀n os,fg prog (loadCells ⟨blk,off+(m)*6,none⟩ 6) (grow (wr.drewN n) os) = .ok (enc dk[m]!).toArray (grow (wr.drewN n) os):=S1.out.ld R (by omega) prog (m) (by omega);have ap:∀n os,fg prog (loadCells ⟨blk,off+(h)*6,none⟩ 6) (grow (wr.drewN n) os) = .ok (enc dk[h]!).toArray (grow (wr.drewN n) os):=S1.out.ld R (by omega) prog (h) (by omega);rw[aj]at ag;rw[ai]at ap;have ak:=S1.out.cmp HC.out (by omega) y x;have hdc:decide (cf y x<0)=L:=hL;go_wp2_with fail
   go_quiet_grown (first | (go_at_fn g;refine fa (ak _ _)))
   have S2:Aside (SWK enc 6 w0 blk off dk (grow (wr.drewN nq) osq)):=S1.out.grown nq osq;clear aa hN ai aj hL ag ap ak S1;generalize grow (wr.drewN nq) osq=w2 at S2 |-;clear nq osq
   cases L with
   | false=>
    have ac:Hid ((h+1=a\/ltOf cf y X[h+1 - a - 1]! = false)/\(j=m\/ltOf cf y X[j - a]! = true)):=⟨.inr (by rw[show h+1 - a - 1=h - a by omega,<-HX.out];exact HL.out),HB.out.2⟩;clear HB HX HL;go_wp2_with fail
    go_roundg (j - (h+1))
    case measure=>omega
    case rel=>exact⟨h+1,j,by first | rfl | go_num,rfl,by omega,by omega,aA,by omega,ac,S2⟩
   | true=>
    have ac:Hid ((i=a\/ltOf cf y X[i - a - 1]! = false)/\(h=m\/ltOf cf y X[h - a]! = true)):=⟨HB.out.1,.inr (by rw[<-HX.out];exact HL.out)⟩;clear HB HX HL;go_wp2_with fail
    go_roundg (h - i)
    case measure=>omega
    case rel=>exact⟨i,h,rfl,rfl,ay,by omega,by omega,by omega,ac,S2⟩
  .have he:j=i:=by omega
   subst he;have ar:¬(j:Int)<(j:Int):=by omega
   obtain⟨p,hp⟩:=jG (j - a)
   have HE:Hid (mrg (ltOf cf) X [y]=X.take p++y :: X.drop p):=by obtain⟨q1,q2,q3,q4,q5,q6,q7⟩:=HQ.out;refine Kgm SW q7 p (by omega) (HB.out.1.imp (fun h=>by omega) fun h=>by rw[hp];exact h) (HB.out.2.imp (fun h=>by omega) fun h=>by rw[hp];exact h)
   have HP:Hid (j=a+p/\p<=X.length):=by obtain⟨q1,q2,q3,q4,q5,q6,q7⟩:=HQ.out;exact⟨by omega,by omega⟩
   have S2:Aside (SWK enc 6 w0 blk off (A++(X.take p++(X.drop p++y :: ([]++S)))).toArray wr):=by have e:=S1.out;rw[HQ.out.1]at e;rw[<-ed (X.take p),eh];exact e
   clear hp HB S1 ax;go_wp2_with fail
   go_loopg [17] (X.length - p) (fun kx s13 wr=>∃(k:Nat) (U V:List α),s13 = .int .i64 k/\j<=k/\k<=m/\Hid (U.length<=kx/\j+U.length=k/\X.drop p=U++V)/\Aside (SWK enc 6 w0 blk off (A++(X.take p++(U++y :: (V++S)))).toArray wr))
   case atStart=>
    have hl:(X.drop p).length=X.length - p:=by rw[eS]
    have q:=HP.out;have q2:=HQ.out.2.2.2.2.1;exact⟨m,X.drop p,[],rfl,by omega,ep _,⟨by omega,by omega,by simp⟩,S2⟩
   case round=>
    clear S2;obtain⟨k,U,V,rfl,hak,hkj,HU,S1⟩:=hrel;rcases List.eq_nil_or_concat U with rfl | ⟨U',u,rfl⟩
    .have aD:¬(j:Int)<(k:Int):=by have:=HU.out.2.1;simp only[eb]at this;omega
     have e2:SWK enc 6 w0 blk off (A++(mrg (ltOf cf) X [y]++S)).toArray wr:=by have e:=S1.out;have q:=HU.out.2.2;rw[List.nil_append]at q;rw[HE.out,q];simpa using e
     have S2:Aside (SWK enc 6 w0 blk off (A++(mrg (ltOf cf) X [y]++S)).toArray wr):=e2;clear S1 e2;go_wp2_with fail
     (try simp only[Exit.inBlock,Exit.then]);refine bodyPost_ret (results_none rfl _ _ _) rfl ?_
     exact⟨rfl,S2.out⟩
    .obtain ⟨al,am,ad⟩:=HU.out;simp only[eL,Jd,ZZ,eb]at al am;obtain⟨kp,rfl⟩:∃kp,k=kp+1:=⟨k - 1,by omega⟩;have aD:(j:Int)<(kp:Int)+1:=by omega
     have hjk:j<=kp:=by omega
     obtain⟨q1,q2,q3,q4,q5,q6,q7⟩:=HQ.out;obtain⟨p1,p2⟩:=HP.out;have aC:(X.take p).length=p:=by rw[eq];omega
     have HN:Hid (swp (A++(X.take p++(U'.concat u++y :: (V++S)))).toArray (kp+1) (kp)=(A++(X.take p++(U'++y :: (u :: V++S)))).toArray):=by
      show _=_
      rw[show A++(X.take p++(U'.concat u++y :: (V++S)))=(A++(X.take p++U'))++u :: ([]++y :: (V++S)) by simp,Kgy (i:=kp) (by simp only[Jd];omega) (by simp only[Jd,eb];omega)];simp
     have av:Hid (U'.length<=gk - 1/\j+U'.length=kp/\X.drop p=U'++(u :: V)):=⟨by omega,by omega,by rw[ad];simp⟩;have hgk:0<gk:=by omega
     have aa:(A++(X.take p++(U'.concat u++y :: (V++S)))).toArray.size=N:=by
      have hl:(X.drop p).length=U'.length+1+V.length:=by rw[ad];simp;omega
      have hl2:(X.take p).length+(X.drop p).length=X.length:=by rw[<-Jd,eh]
      simp only[eL,ei,Jd,ZZ,eb];omega
     have hN:=aq.out;obtain⟨dm,ao⟩:=jG ((A++(X.take p++(U'.concat u++y :: (V++S)))).toArray);rw[<-ao]at HN S1 aa;clear ao HU al am ad q1 q2 q3 q4 q5 q6 q7 p1 p2 aC;go_wp2_with fail
     have eat:((kp:Int)+1).toNat=kp+1:=by omega
     have pat:(0:Int)<=(kp:Int)+1:=by omega
     have bat:(kp:Int)+1<(N:Int):=by omega
     have rat:eY.wrap ((kp:Int)+1)=(kp:Int)+1:=by rw[ey];omega
     have ect:((kp:Int)).toNat=kp:=by omega
     have pct:(0:Int)<=(kp:Int):=by omega
     have bct:(kp:Int)<(N:Int):=by omega
     have rct:eY.wrap ((kp:Int))=(kp:Int):=by rw[ey];omega
     have S2:Aside (SWK enc 6 w0 blk off (swp dm (kp+1) (kp)) ((wr.drew.setCells blk (off+(kp+1)*6) (enc dm[kp]!)).setCells blk (off+(kp)*6) (enc dm[kp+1]!))):=S1.out.swapped R (kp+1) (kp) (by omega) (by omega);have af:fg prog (loadCells ⟨blk,off+(kp+1)*6,none⟩ 6) wr.drew = .ok (enc dm[kp+1]!).toArray wr.drew:=S1.out.ld1 R (by omega) prog (kp+1) (by omega);have an:fg prog (loadCells ⟨blk,off+(kp)*6,none⟩ 6) wr.drew = .ok (enc dm[kp]!).toArray wr.drew:=S1.out.ld1 R (by omega) prog (kp) (by omega);have ah:=S1.out.st1 R (by omega) prog (kp+1) (by omega) dm[kp]!;have ae:=S1.out.st2 R (by omega) prog (kp+1) (kp) (by omega) (by omega) dm[kp]! dm[kp+1]!;have az:(enc dm[kp+1]!).length=6:=R.hk _;have aB:(enc dm[kp]!).length=6:=R.hk _;generalize enc dm[kp+1]! = cIt at S2 af ae az;generalize enc dm[kp]! = cJt at S2 an ah ae aB;clear S1 aa hN;go_wp2_with fail
     go_big_region_o
     clear af an ah ae;generalize (wr.drew.setCells blk (off+(kp+1)*6) cJt).setCells blk (off+(kp)*6) cIt=w2 at S2 |-;rw[HN.out]at S2;go_wp2
     go_roundg (gk - 1)
     case measure=>omega
     case rel=>exact⟨kp,U',u :: V,by first | rfl | go_num,by omega,by omega,av,S2⟩
theorem Krk (SW:SWO (ltOf cf)) (eg:∀args w,(callFunc g args).run prog w = .ok (.enter g args) w) (hcmp:CmpLays prog g cb enc 6 cf blk off d0.size w0) (R:RowK enc 6 w0 blk off d0) (hN:d0.size=N) (hsz:N<4611686018427387904) (nn:Nat) (IH:∀(A X Y S:List α) (a m b:Nat) (w:World),X.length+Y.length<=nn->A.length+X.length+Y.length+S.length=N->a=A.length->m=a+X.length->b=m+Y.length->0<X.length->0<Y.length->(X.Pairwise fun a b=>ltOf cf b a=false)->(Y.Pairwise fun a b=>ltOf cf b a=false)->SWK enc 6 w0 blk off (A++(X++(Y++S))).toArray w->Calls prog 227 #[.slice (some ⟨blk,off,none⟩) N cap,.int .i64 a,.int .i64 m,.int .i64 b,.func (.func g) #[] cb] w fun e w'=>e = .returned (.tuple #[])/\SWK enc 6 w0 blk off (A++(mrg (ltOf cf) X Y++S)).toArray w')
  (A X Y S:List α) (a m b:Nat) (w:World) (hnn:X.length+Y.length<=nn+1) (hl:A.length+X.length+Y.length+S.length=N) (ha:a=A.length) (hm:m=a+X.length) (hb:b=m+Y.length) (X2:1<X.length) (Y2:1<Y.length) (hX:(X.Pairwise fun a b=>ltOf cf b a=false)) (hY:(Y.Pairwise fun a b=>ltOf cf b a=false))
  (S0:SWK enc 6 w0 blk off (A++(X++(Y++S))).toArray w) :
  Calls prog 227 #[.slice (some ⟨blk,off,none⟩) N cap,.int .i64 a,.int .i64 m,.int .i64 b,.func (.func g) #[] cb] w fun e w'=>e = .returned (.tuple #[])/\SWK enc 6 w0 blk off (A++(mrg (ltOf cf) X Y++S)).toArray w':=by
 have mixed:prog.follows .mixedOrders=true:=by kernel_rfl
 have HC:Aside _:=hcmp;have ap:Aside _:=IH;have dma:(((m:Int) - (a:Int)) == 1)=false:=by simp;omega
 have dbm:(((b:Int) - (m:Int)) == 1)=false:=by simp;omega
 have hbN:b<=N:=by omega
 have ham:a+2<=m:=by omega
 have hmb:m+2<=b:=by omega
 obtain⟨mid,av⟩:=jG ((a+b) / 2);have aC:((a:Int)+(b:Int)) / 2=(mid:Int):=by omega
 have ak:2*mid<=a+b:=by omega
 have ah:a+b<=2*mid+1:=by omega
 obtain⟨dk,al⟩:=jG ((A++(X++(Y++S))).toArray);have ac:dk.size=N:=by rw[al];simp only[ei,Jd];omega
 have aw:Hid (d0.size=N):=hN;rw[<-al]at S0;have S1:Aside (SWK enc 6 w0 blk off dk w):=S0;have aD:Hid (dk.size=N):=ac
 have ag:∃lo hi:Nat,lo<=hi/\a<=lo/\hi<=m/\hi<=mid/\mid+m<=lo+b/\((mid<m/\lo+b=mid+m/\hi=mid)\/(m<=mid/\lo=a/\hi=m)):=by
  rcases eo mid m with h | h
  .exact ⟨mid+m - b,mid,by omega,by omega,by omega,by omega,by omega,.inl ⟨h,by omega,rfl⟩⟩
  .exact ⟨a,m,by omega,by omega,by omega,by omega,by omega,.inr ⟨h,rfl,rfl⟩⟩
 obtain⟨lo,hi,az,aB,aE,ae,ai,ab⟩:=ag;have ad:Hid ((mid<m/\lo+b=mid+m/\hi=mid)\/(m<=mid/\lo=a/\hi=m)):=ab;have af:Hid _:=fun (e j:Nat)=>@Kmc _ _ (ltOf cf) A X Y S dk a m b mid lo hi e j nn N SW al hl ha hm hb hX hY hnn X2 Y2 ak ah ab
 clear S0 al hl ha hm hb hX hY hnn hcmp hN ac av IH X2 Y2 ab;go_enter func227,ntmps227
 go_upto_if 140 with fail
 go_cut [20,21] from 138 to 146 (fun s20 s21 wz=>∃l h:Int,s20 = .int .i64 l/\s21 = .int .i64 h/\l=(lo:Int)/\h=(hi:Int)/\wz=w)
 case first=>
  rcases ad.out with ⟨hc1,hc2,hc3⟩ | ⟨hc1,hc2,hc3⟩
  .have aI:(mid:Int)<(m:Int):=by omega
   have aj:Hid (lo+b=mid+m/\hi=mid):=⟨hc2,hc3⟩;clear hc2 hc3;go_wp2_with fail
   go_meet
   exact⟨_,_,rfl,rfl,by have:=aj.out;omega,by have:=aj.out;omega,rfl⟩
  .have aI:¬(mid:Int)<(m:Int):=by omega
   have aj:Hid (lo=a/\hi=m):=⟨hc2,hc3⟩;clear hc2 hc3;go_wp2_with fail
   go_meet
   exact⟨_,_,rfl,rfl,by have:=aj.out;omega,by have:=aj.out;omega,rfl⟩
 case rest=>
  obtain⟨l0,h0,rfl,rfl,aF,aH,aa⟩:=hcut;have aa:=aa.symm;subst aa;subst aF;subst aH;go_wp2_with fail
  go_loopg [20,21] (hi - lo) (fun kx s10 s11 wr=>∃(i j:Nat),s10 = .int .i64 i/\s11 = .int .i64 j/\lo<=i/\i<=j/\j<=hi/\j - i<=kx/\Hid ((i=lo\/ltOf cf dk[mid+m - i]! dk[i - 1]! = false)/\(j=hi\/ltOf cf dk[mid+m - 1 - j]! dk[j]! = true))/\Aside (SWK enc 6 w0 blk off dk wr))
  case atStart=>exact⟨lo,hi,rfl,rfl,ep _,az,ep _,ep _,⟨.inl rfl,.inl rfl⟩,S1⟩
  case round=>
   clear S1;obtain⟨i,j,rfl,rfl,aq,aJ,ar,hk,HB,S1⟩:=hrel;rcases eo i j with hlt | hge
   .have hlz:(i:Int)<(j:Int):=by omega
    obtain⟨h,hh⟩:=jG ((i+j) / 2);have hm2:(((i:Int)+(j:Int)) / 2)=(h:Int):=by omega
    have hih:i<=h:=by omega
    have hjh:h<j:=by omega
    clear hh;obtain⟨q,hq⟩:=jG (mid+m - 1 - h);have aL:(mid:Int)+(m:Int) - 1 - (h:Int)=(q:Int):=by omega
    have aN:q<N:=by omega
    have aM:h<N:=by omega
    obtain⟨y,hy⟩:=jG (dk[q]!);obtain⟨x,hx⟩:=jG (dk[h]!);have ao:dk[q]! = y:=hy.symm;have an:dk[h]! = x:=hx.symm;have ac:=aD.out;have hN:=aw.out;obtain⟨L,hL⟩:=jF (ltOf cf y x);have HL:Hid (ltOf cf y x=L/\q=mid+m - 1 - h/\dk[q]! = y/\dk[h]! = x):=⟨hL,hq,ao,an⟩;clear hy hx hq;obtain⟨eac,pac,bac,rac⟩:=ixf (i:=q) (N:=N) (by omega) (by omega);obtain⟨ecc,pcc,bcc,rcc⟩:=ixf (i:=h) (N:=N) (by omega) (by omega);have ax:∀n os,fg prog (loadCells ⟨blk,off+(q)*6,none⟩ 6) (grow (wr.drewN n) os) = .ok (enc dk[q]!).toArray (grow (wr.drewN n) os):=S1.out.ld R (by omega) prog (q) (by omega);have aA:∀n os,fg prog (loadCells ⟨blk,off+(h)*6,none⟩ 6) (grow (wr.drewN n) os) = .ok (enc dk[h]!).toArray (grow (wr.drewN n) os):=S1.out.ld R (by omega) prog (h) (by omega);rw[ao]at ax;rw[an]at aA;have ay:=S1.out.cmp HC.out (by omega) y x;have hdc:decide (cf y x<0)=L:=hL;go_wp2_with fail
    go_quiet_grown (first | (go_at_fn g;refine fa (ay _ _)))
    have S2:Aside (SWK enc 6 w0 blk off dk (grow (wr.drewN nq) osq)):=S1.out.grown nq osq;clear ac hN an ao hL aN aM aL ax aA ay S1;generalize grow (wr.drewN nq) osq=w2 at S2 |-;clear nq osq
    cases L with
    | false=>
     have am:Hid ((h+1=lo\/ltOf cf dk[mid+m - (h+1)]! dk[h+1 - 1]! = false)/\(j=hi\/ltOf cf dk[mid+m - 1 - j]! dk[j]! = true)):=⟨.inr (by obtain⟨h1,h2,h3,h4⟩:=HL.out;rw[show mid+m - (h+1)=q by omega,Nat.add_sub_cancel,h3,h4];exact h1),HB.out.2⟩;clear HB HL;go_wp2_with fail
     go_roundg (j - (h+1))
     case measure=>omega
     case rel=>exact⟨h+1,j,by first | rfl | go_num,rfl,by omega,by omega,ar,by omega,am,S2⟩
    | true=>
     have am:Hid ((i=lo\/ltOf cf dk[mid+m - i]! dk[i - 1]! = false)/\(h=hi\/ltOf cf dk[mid+m - 1 - h]! dk[h]! = true)):=⟨HB.out.1,.inr (by obtain⟨h1,h2,h3,h4⟩:=HL.out;rw[<-h2,h3,h4];exact h1)⟩;clear HB HL;go_wp2_with fail
     go_roundg (h - i)
     case measure=>omega
     case rel=>exact⟨i,h,rfl,rfl,aq,by omega,by omega,by omega,am,S2⟩
   .have he:j=i:=by omega
    subst he;have aG:¬(j:Int)<(j:Int):=by omega
    obtain⟨e,he⟩:=jG (mid+m - j);have he2:(mid:Int)+(m:Int) - (j:Int)=(e:Int):=by omega
    have hN:=aw.out;obtain⟨X1,X2,Y1,Y2,m1,m2,m3,m4,m5,m6,m7,m8,m9,mA,mB,mC,mD,mE,mF⟩:=af.out e j he aq ar aB aE ae ai HB.out.1 HB.out.2;have aK:=Kml (ltOf cf) X1 Y1;have T0:Aside (SWK enc 6 w0 blk off (A++(X1++(X2++(Y1++(Y2++S))))).toArray wr):=by have:=S1.out;rw[m1]at this;exact this
    have C1:Aside (j<m->m<e->∀W,SWK enc 6 w0 blk off (A++(X1++(X2++(Y1++(Y2++S))))).toArray W->Calls prog 256 #[.slice (some ⟨blk,off,none⟩) N cap,.int .i64 j,.int .i64 m,.int .i64 e,.func (.func g) #[] cb] W fun e w'=>e = .returned (.tuple #[])/\SWK enc 6 w0 blk off (A++(X1++(Y1++(X2++(Y2++S))))).toArray w'):=fun g1 g2 W h=>by have:=Kts (cap:=cap) (g:=g) (cb:=cb) (A++X1) X2 Y1 (Y2++S) j m e W R hN (by simp only[Jd];omega) (by simp only[Jd];omega) (by simp only[Jd];omega) (by simp only[Jd];omega) (by omega) (by omega) hsz (by rw[ed];exact h);rw[ed]at this;exact this
    have C2:Aside (a<j->j<mid->∀W,SWK enc 6 w0 blk off (A++(X1++(Y1++(X2++(Y2++S))))).toArray W->Calls prog 227 #[.slice (some ⟨blk,off,none⟩) N cap,.int .i64 a,.int .i64 j,.int .i64 mid,.func (.func g) #[] cb] W fun e w'=>e = .returned (.tuple #[])/\SWK enc 6 w0 blk off (A++(mrg (ltOf cf) X1 Y1++(X2++(Y2++S)))).toArray w'):=fun g1 g2 W h=>
     ap.out A X1 Y1 (X2++(Y2++S)) a j mid W (by omega) (by simp only[Jd];omega) (by omega) (by omega) (by omega) (by omega) (by omega) mC mE h
    have C3:Aside (mid<e->e<b->∀W,SWK enc 6 w0 blk off (A++(mrg (ltOf cf) X1 Y1++(X2++(Y2++S)))).toArray W->Calls prog 227 #[.slice (some ⟨blk,off,none⟩) N cap,.int .i64 mid,.int .i64 e,.int .i64 b,.func (.func g) #[] cb] W fun e w'=>e = .returned (.tuple #[])/\SWK enc 6 w0 blk off (A++(mrg (ltOf cf) X Y++S)).toArray w'):=fun g1 g2 W h=>by have:=ap.out (A++mrg (ltOf cf) X1 Y1) X2 Y2 S mid e b W (by omega) (by simp only[Jd];omega) (by simp only[Jd];omega) (by omega) (by omega) (by omega) (by omega) mD mF (by rw[ed];exact h);rw[m2];rw[ed]at this |-;exact this
    have N1:Aside (¬(j<m/\m<e)->A++(X1++(X2++(Y1++(Y2++S))))=A++(X1++(Y1++(X2++(Y2++S))))):=fun h=>Kre (by omega)
    have N2:Aside (¬(a<j/\j<mid)->A++(X1++(Y1++(X2++(Y2++S))))=A++(mrg (ltOf cf) X1 Y1++(X2++(Y2++S)))):=fun h=>Khb _ (by omega)
    have N3:Aside (¬(mid<e/\e<b)->A++(mrg (ltOf cf) X1 Y1++(X2++(Y2++S)))=A++(mrg (ltOf cf) X Y++S)):=fun h=>by rw[m2,ed,<-Khb (A:=mrg (ltOf cf) X1 Y1) _ (by omega)]
    have hjN:j<=N:=by omega
    have heN:e<=N:=by omega
    clear m1 m2 m3 m4 m5 m6 m7 m8 m9 mA mB mC mD mE mF aK hN he HB ad af S1 aJ hk hge ap HC aq ar az aB aE ae ai aD aw;obtain⟨q,hq⟩:∃q:Bool,q=decide (j<m/\m<e):=⟨_,rfl⟩;have HQ:Hid _:=hq;clear hq;go_upto_region 39 with fail
    go_cut [185] from 178 to 184 (fun s wz=>s = .bool q/\wz=wr)
    case first=>
     have hq:=HQ.out
     by_cases g1:j<m
     .have d1:(j:Int)<(m:Int):=by omega
      by_cases g2:m<e
      .have d2:(m:Int)<(e:Int):=by omega
       rw[jL ⟨g1,g2⟩]at hq;subst hq;go_wp2_with fail
       go_meet
       exact⟨rfl,rfl⟩
      .have d2:¬(m:Int)<(e:Int):=by omega
       rw[jJ (fun h=>g2 h.2)]at hq;subst hq;go_wp2_with fail
       go_meet
       exact⟨rfl,rfl⟩
     .have d1:¬(j:Int)<(m:Int):=by omega
      rw[jJ (fun h=>g1 h.1)]at hq;subst hq;go_wp2_with fail
      go_meet
      exact⟨rfl,rfl⟩
    case rest=>
     obtain⟨rfl,aa⟩:=hcut;have aa:=aa.symm;subst aa;go_upto_if 185 with fail
     go_cut [] from 186 to 191 (fun wz=>Aside (SWK enc 6 w0 blk off (A++(X1++(Y1++(X2++(Y2++S))))).toArray wz))
     case first=>
      cases q with
      | true=>
       obtain⟨g1,g2⟩:=jP HQ.out.symm;have D:Aside _:=C1.out g1 g2;clear g1 g2 HQ;go_wp2_with fail
       refine eZ (D.out _ T0.out) ?_;rintro _ w9 ⟨rfl,h1⟩;have T9:Aside _:=h1;clear h1;go_wp2_with fail
       go_meet
       exact T9
      | false=>
       have T9:Aside (SWK enc 6 w0 blk off (A++(X1++(Y1++(X2++(Y2++S))))).toArray wr):=by rw[<-N1.out (jQ HQ.out.symm)];exact T0.out
       clear HQ;go_wp2_with fail
       go_meet
       exact T9
     case rest=>
      have T1:Aside _:=hcut.out;clear hcut HQ T0;obtain⟨w3,rfl⟩:=jG wc;obtain⟨q,hq⟩:∃q:Bool,q=decide (a<j/\j<mid):=⟨_,rfl⟩;have HQ:Hid _:=hq;clear hq;go_upto_region 41 with fail
      go_cut [199] from 192 to 198 (fun s wz=>s = .bool q/\wz=w3)
      case first=>
       have hq:=HQ.out
       by_cases g1:a<j
       .have d1:(a:Int)<(j:Int):=by omega
        by_cases g2:j<mid
        .have d2:(j:Int)<(mid:Int):=by omega
         rw[jL ⟨g1,g2⟩]at hq;subst hq;go_wp2_with fail
         go_meet
         exact⟨rfl,rfl⟩
        .have d2:¬(j:Int)<(mid:Int):=by omega
         rw[jJ (fun h=>g2 h.2)]at hq;subst hq;go_wp2_with fail
         go_meet
         exact⟨rfl,rfl⟩
       .have d1:¬(a:Int)<(j:Int):=by omega
        rw[jJ (fun h=>g1 h.1)]at hq;subst hq;go_wp2_with fail
        go_meet
        exact⟨rfl,rfl⟩
      case rest=>
       obtain⟨rfl,aa⟩:=hcut;have aa:=aa.symm;subst aa;go_upto_if 199 with fail
       go_cut [] from 200 to 205 (fun wz=>Aside (SWK enc 6 w0 blk off (A++(mrg (ltOf cf) X1 Y1++(X2++(Y2++S)))).toArray wz))
       case first=>
        cases q with
        | true=>
         obtain⟨g1,g2⟩:=jP HQ.out.symm;have D:Aside _:=C2.out g1 g2;clear g1 g2 HQ;go_wp2_with fail
         refine eZ (D.out _ T1.out) ?_;rintro _ w9 ⟨rfl,h1⟩;have T9:Aside _:=h1;clear h1;go_wp2_with fail
         go_meet
         exact T9
        | false=>
         have T9:Aside (SWK enc 6 w0 blk off (A++(mrg (ltOf cf) X1 Y1++(X2++(Y2++S)))).toArray w3):=by rw[<-N2.out (jQ HQ.out.symm)];exact T1.out
         clear HQ;go_wp2_with fail
         go_meet
         exact T9
       case rest=>
        have T2:Aside _:=hcut.out;clear hcut HQ T1;obtain⟨w4,rfl⟩:=jG wc;obtain⟨q,hq⟩:∃q:Bool,q=decide (mid<e/\e<b):=⟨_,rfl⟩;have HQ:Hid _:=hq;clear hq;go_upto_region 43 with fail
        go_cut [213] from 206 to 212 (fun s wz=>s = .bool q/\wz=w4)
        case first=>
         have hq:=HQ.out
         by_cases g1:mid<e
         .have d1:(mid:Int)<(e:Int):=by omega
          by_cases g2:e<b
          .have d2:(e:Int)<(b:Int):=by omega
           rw[jL ⟨g1,g2⟩]at hq;subst hq;go_wp2_with fail
           go_meet
           exact⟨rfl,rfl⟩
          .have d2:¬(e:Int)<(b:Int):=by omega
           rw[jJ (fun h=>g2 h.2)]at hq;subst hq;go_wp2_with fail
           go_meet
           exact⟨rfl,rfl⟩
         .have d1:¬(mid:Int)<(e:Int):=by omega
          rw[jJ (fun h=>g1 h.1)]at hq;subst hq;go_wp2_with fail
          go_meet
          exact⟨rfl,rfl⟩
        case rest=>
         obtain⟨rfl,aa⟩:=hcut;have aa:=aa.symm;subst aa
         cases q with
         | true=>
          obtain⟨g1,g2⟩:=jP HQ.out.symm;have D:Aside _:=C3.out g1 g2;clear g1 g2 HQ;go_wp2_with fail
          refine eZ (D.out _ T2.out) ?_;rintro _ w9 ⟨rfl,h1⟩;have T9:Aside _:=h1;clear h1;go_wp2_with fail
          go_end0
          exact⟨rfl,T9.out⟩
         | false=>
          have T9:Aside (SWK enc 6 w0 blk off (A++(mrg (ltOf cf) X Y++S)).toArray w4):=by rw[<-N3.out (jQ HQ.out.symm)];exact T2.out
          clear HQ;go_wp2_with fail
          go_end0
          exact⟨rfl,T9.out⟩
theorem Kin (SW:SWO (ltOf cf)) (eg:∀args w,(callFunc g args).run prog w = .ok (.enter g args) w) (hcmp:CmpLays prog g cb enc 6 cf blk off d0.size w0) (R:RowK enc 6 w0 blk off d0) (hN:d0.size=N) (hsz:N<4611686018427387904):∀(nn:Nat) (A X Y S:List α) (a m b:Nat) (w:World),X.length+Y.length<=nn->A.length+X.length+Y.length+S.length=N->a=A.length->m=a+X.length->b=m+Y.length->0<X.length->0<Y.length->(X.Pairwise fun a b=>ltOf cf b a=false)->(Y.Pairwise fun a b=>ltOf cf b a=false)->SWK enc 6 w0 blk off (A++(X++(Y++S))).toArray w->Calls prog 227 #[.slice (some ⟨blk,off,none⟩) N cap,.int .i64 a,.int .i64 m,.int .i64 b,.func (.func g) #[] cb] w fun e w'=>e = .returned (.tuple #[])/\SWK enc 6 w0 blk off (A++(mrg (ltOf cf) X Y++S)).toArray w'
 | 0,A,X,Y,S,a,m,b,w,h,_,_,_,_,hx,_,_,_,_=>jS h (by omega)
 | nn+1,A,X,Y,S,a,m,b,w,h,hl,ha,hm,hb,hx,hy,hX,hY,S0=>by
  rcases eo 1 X.length with h1 | h1
  .rcases eo 1 Y.length with h2 | h2
   .exact Krk SW eg hcmp R hN hsz nn (Kin SW eg hcmp R hN hsz nn) A X Y S a m b w h hl ha hm hb h1 h2 hX hY S0
   .obtain ⟨y,rfl⟩:∃y,Y = [y]:=en.1 (by omega);exact Krh SW eg hcmp R hN hsz A y X S a m b w (by simpa using hl) ha hm (by simpa using hb) h1 hX S0
  .obtain ⟨x,rfl⟩:∃x,X = [x]:=en.1 (by omega);exact Kue SW eg hcmp R hN hsz A x Y S a m b w (by simpa using hl) ha (by simpa using hm) hb hy hY S0
end
attribute [-go_sem] loadCells
open Go.Shelf Go.RowKit Go.Lib Go.Sort
section
variable {α : Type}[Inhabited α] {enc : α -> List Value}{cf : α -> α -> Int}{d0 : Array α}{w0 : World}{blk off cap g N : Nat}{cb : Array Value}
def Kvy:Go.Shelf.Ren:=⟨fun | 20=>226 | n=>n,fun | 0=>0 | 3=>3 | 4=>4 | 22=>56 | 24=>135 | 25=>229 | n=>n,fun | n=>n⟩
theorem Qgk:SlLaysF0.n20 prog Kvy:={
 mixed:=by kernel_rfl
 f20:=⟨Tryz.f226.name,by decide,func226.trans (jR some (by kernel_rfl))⟩
 t0:=underlying0
 a0:=isAgg0
 z0:=sizeOf0
 v0:=zeroValue0
 t3:=underlying3
 a3:=isAgg3
 z3:=sizeOf3
 v3:=zeroValue3
 t4:=underlying4
 a4:=isAgg4
 z4:=sizeOf4
 v4:=zeroValue4
 t22:=underlying56
 a22:=isAgg56
 z22:=sizeOf56
 v22:=zeroValue56
 t25:=underlying229
 a25:=isAgg229
 z25:=sizeOf229
 v25:=zeroValue229 }
theorem Ktn (SW:SWO (ltOf cf)) (eg:∀args w,(callFunc g args).run prog w = .ok (.enter g args) w) (hcmp:CmpLays prog g cb enc 6 cf blk off d0.size w0) (R:RowK enc 6 w0 blk off d0) (hN:d0.size=N) (hsz:N<1152921504606846976) (A Y S:List α) (a b:Nat) (w:World) (hl:A.length+Y.length+S.length=N) (ha:a=A.length) (hb:b=a+Y.length) (S0:SWK enc 6 w0 blk off (A++(Y++S)).toArray w) :
  Calls prog 226 #[.slice (some ⟨blk,off,none⟩) N cap,.int .i64 a,.int .i64 b,.func (.func g) #[] cb] w fun e w'=>e = .returned (.tuple #[])/\∃Z,Stab (ltOf cf) Y Z/\SWK enc 6 w0 blk off (A++(Z++S)).toArray w':=by
 have aa:(A++(Y++S)).toArray.size=N:=by simp only[ei,Jd];omega
 have h:=AnyQ.insertionSortCmpFunc Qgk 6 isAgg135 sizeOf135 enc R.hk R.h1 cf g cb blk off cap a b (A++(Y++S)).toArray w eg ?_ (S0.holds R.hblk R.hH (by rw[aa,hN])) (S0.lt R.hblk) (by omega) (by rw[aa];omega) (by rw[aa];omega)
 .rw[aa]at h;refine eZ h ?_;rintro _ w' ⟨rfl,n,os,rfl⟩;refine⟨rfl,?_⟩;rcases eO Y.length with h0 | h0
  .have:Y = []:=ec h0;subst this;refine⟨[],Stab.nil,?_⟩;have e:=Kfq (lt:=ltOf cf) A S;rw[show b=A.length by simpa[ha]using hb,ha,show A++([]++S)=A++S from rfl,e];exact S0.on R.hblk _ _ _ rfl
  .obtain ⟨Z,hz,e⟩:=Kfh SW A Y S h0;refine⟨Z,hz,?_⟩;rw[hb,ha,e];exact S0.on R.hblk _ _ _ (by simp only[ei,Jd,hz.len])
 .intro m os dk hdk x y;obtain⟨m2,ab,hw⟩:=S0.on R.hblk m dk os (by rw[hdk]);rw[hw];exact hcmp m2 ab dk (by rw[hdk,aa,hN]) x y
theorem Kua (SW:SWO (ltOf cf)) (eg:∀args w,(callFunc g args).run prog w = .ok (.enter g args) w) (hcmp:CmpLays prog g cb enc 6 cf blk off d0.size w0) (R:RowK enc 6 w0 blk off d0) (hN:d0.size=N) (hsz:N<1152921504606846976) (xs:List α) (w:World) (hl:xs.length=N) (S0:SWK enc 6 w0 blk off xs.toArray w) :
  Calls prog 182 #[.slice (some ⟨blk,off,none⟩) N cap,.int .i64 N,.func (.func g) #[] cb] w fun e w'=>e = .returned (.tuple #[])/\∃ys,Stab (ltOf cf) xs ys/\SWK enc 6 w0 blk off ys.toArray w':=by
 have mixed:prog.follows .mixedOrders=true:=by kernel_rfl
 have S1:Aside (SWK enc 6 w0 blk off ([]++xs).toArray w):=S0;have HN:Hid (d0.size=N/\xs.length=N):=⟨hN,hl⟩;have hb:=R.hblk;have ag:=Ktn (cap:=cap) SW eg hcmp R hN hsz;have ah:=Kin (cap:=cap) SW eg hcmp R hN (by omega);have HI:Aside _:=ag;have HS:Aside _:=ah;clear S0 hl hN hb ag ah hcmp;go_enter func182,ntmps182
 go_wp2
 go_loopg [7,8] (N+1) (fun kx s7 s8 wr=>∃(a b:Nat) (xZ xR Z:List α),s7 = .int .i64 a/\s8 = .int .i64 b/\a<=N/\a<b/\b<=N+20/\N+1<=a+kx/\Hid (b=a+20/\xs=xZ++xR/\xZ.length=a/\Whole (ltOf cf) 20 xZ Z)/\Aside (SWK enc 6 w0 blk off (Z++xR).toArray wr))
 case atStart=>exact⟨0,20,[],xs,[],rfl,rfl,by omega,by omega,by omega,by omega,⟨rfl,rfl,rfl,.nil⟩,S1⟩
 case round=>
  clear S1;obtain⟨a,b,xZ,xR,Z,rfl,rfl,an,ao,ap,hk,HB,S1⟩:=hrel;have hZ:Z.length=a:=by rw[HB.out.2.2.2.len];exact HB.out.2.2.1
  have hR:a+xR.length=N:=by have q:=HB.out;have q2:=HN.out.2;rw[q.2.1,Jd]at q2;omega
  rcases eo N b with hlt | hge
  .have ai:¬(b:Int)<=(N:Int):=by omega
   have hc:=HI.out Z xR [] a N wr (by simp only[eb];omega) (by omega) (by omega) (by rw[et];exact S1.out);have HC:Aside _:=hc;clear hc S1 hZ hR;go_wp2_with fail
   refine eZ HC.out ?_;rintro _ w3 ⟨rfl,z1,ae,h3⟩
   have aj:Hid (Blks (ltOf cf) 20 xs (Z++z1)):=by
    have q:=HB.out;have q2:=HN.out;have q4:xZ.length+xR.length=N:=by rw[<-Jd,<-q.2.1];exact q2.2
    show Blks _ _ _ _
    rw[q.2.1];exact q.2.2.2.close (.last (by omega) ae)
   rw[et]at h3;have S1:Aside (SWK enc 6 w0 blk off (Z++z1).toArray w3):=h3;clear h3 ae HB HC hk ao ap an hlt ai;generalize Z++z1=ys0 at S1 aj;clear Z z1 xZ xR;go_wp2_with fail
   go_loopg [6] (N+1) (fun kx s6 wr=>∃(c:Nat) (ys:List α),s6 = .int .i64 c/\0<c/\c<=2*N+20/\N+1<=c+kx/\Hid (Blks (ltOf cf) c xs ys)/\Aside (SWK enc 6 w0 blk off ys.toArray wr))
   case atStart=>exact⟨20,ys0,rfl,by omega,by omega,by omega,aj,S1⟩
   case round=>
    clear S1 aj;obtain⟨c,ys,rfl,al,hcN,hk,HB,S1⟩:=hrel;rcases eo c N with hlt | hge
    .have ai:(c:Int)<(N:Int):=by omega
     obtain⟨gk0,ad⟩:=jG gk;rw[<-ad]at hk;have am:Hid (gk0=gk):=ad;clear ad;go_wp2_with fail
     have S2:Aside (SWK enc 6 w0 blk off ([]++ys).toArray wr):=S1;clear S1;go_loopg [7,8] (N+1) (fun kx s7 s8 wr=>∃(a b:Nat) (xZ xR Z R:List α),s7 = .int .i64 a/\s8 = .int .i64 b/\a<=N/\a+c<b/\b<=N+2*c/\N+1<=a+kx/\Hid (b=a+2*c/\xs=xZ++xR/\xZ.length=a/\Whole (ltOf cf) (2*c) xZ Z/\Blks (ltOf cf) c xR R)/\Aside (SWK enc 6 w0 blk off (Z++R).toArray wr))
     case atStart=>exact⟨0,2*c,[],xs,[],ys,rfl,by first | rfl | go_num,by omega,by omega,by omega,by omega,⟨by omega,rfl,rfl,.nil,HB.out⟩,S2⟩
     case round=>
      clear S2 HB;obtain⟨a,b,xZ,xR,Z,R',rfl,rfl,an,ao,ap,hk2,HB,S1⟩:=hrel
      have aa:Hid (xZ.length+xR.length=N/\Z.length=a/\R'.length=xR.length/\b=a+2*c/\xZ.length=a):=by
       have q:=HB.out;have q2:=HN.out;have q4:xZ.length+xR.length=N:=by rw[<-Jd,<-q.2.1];exact q2.2
       exact⟨q4,by rw[q.2.2.2.1.len];exact q.2.2.1,q.2.2.2.2.len,q.1,q.2.2.1⟩
      rcases eo N b with hlt2 | hge2
      .have ak:¬(b:Int)<=(N:Int):=by omega
       rcases eo (a+c) N with hm | hm
       .have aq:(a:Int)+(c:Int)<(N:Int):=by omega
        have af:∃x1 x2 r1 r2,xR=x1++x2/\R'=r1++r2/\x1.length=c/\Stab (ltOf cf) x1 r1/\Stab (ltOf cf) x2 r2/\x2.length+(a+c)=N:=by
         have q:=HB.out;have ql:=aa.out;obtain⟨x1,x2,r1,r2,e1,e2,e3,e4,e5⟩:=q.2.2.2.2.first (by omega)
         have e6:x1.length+x2.length=xR.length:=by rw[e1,Jd]
         exact⟨x1,x2,r1,r2,e1,e2,e3,e4,e5.short (by omega) al,by omega⟩
        obtain⟨x1,x2,r1,r2,e1,e2,e3,e4,e5,e6⟩:=af;have ab:=HS.out (r1.length+r2.length) Z r1 r2 [] a (a+c) N wr (ep _) (by have ql:=aa.out;have:=e4.len;have:=e5.len;simp only[eb];omega) (by have ql:=aa.out;omega) (by have:=e4.len;omega) (by have:=e4.len;have:=e5.len;omega) (by have:=e4.len;omega) (by have:=e5.len;omega) e4.asc e5.asc (by rw[et,<-e2];exact S1.out)
        have ac:Hid (Blks (ltOf cf) (2*c) xs (Z++(mrg (ltOf cf) r1 r2 ++ []))):=by
         have q:=HB.out;have ql:=aa.out;show Blks _ _ _ _
         rw[q.2.1,e1,et];exact q.2.2.2.1.close (.last (by simp only[Jd];omega) (e4.mrg SW e5))
        push_cast at ab
        have HC:Aside _:=ab;clear ab S1 e1 e2 e3 e4 e5 e6 HB aa;go_wp2_with fail
        refine eZ HC.out ?_;rintro _ w3 ⟨rfl,h3⟩;have S1:Aside (SWK enc 6 w0 blk off (Z++(mrg (ltOf cf) r1 r2 ++ [])).toArray w3):=h3;clear h3 HC;generalize Z++(mrg (ltOf cf) r1 r2 ++ [])=ys2 at S1 ac;go_wp2_with fail
        go_roundg (gk0 - 1)
        case measure=>have:=am.out;omega
        case rel=>exact⟨c*2,ys2,by first | rfl | go_num,by omega,by omega,by omega,by rw[Nat.mul_comm];exact ac,S1⟩
       .have aq:¬(a:Int)+(c:Int)<(N:Int):=by omega
        have ac:Hid (Blks (ltOf cf) (2*c) xs (Z++R')):=by
         have q:=HB.out;have ql:=aa.out;show Blks _ _ _ _
         rw[q.2.1];exact q.2.2.2.1.close (.last (by omega) (q.2.2.2.2.short (by omega) al))
        clear HB aa;generalize Z++R'=ys2 at S1 ac;go_wp2_with fail
        go_roundg (gk0 - 1)
        case measure=>have:=am.out;omega
        case rel=>exact⟨c*2,ys2,by first | rfl | go_num,by omega,by omega,by omega,by rw[Nat.mul_comm];exact ac,S1⟩
      .have ak:(b:Int)<=(N:Int):=by omega
       have af:∃x1 x2 x3 r1 r2 r3,xR=(x1++x2)++x3/\R'=r1++(r2++r3)/\x1.length=c/\x2.length=c/\Stab (ltOf cf) x1 r1/\Stab (ltOf cf) x2 r2/\Blks (ltOf cf) c x3 r3:=by
        have q:=HB.out;have ql:=aa.out;obtain⟨x1,x2,r1,r2,e1,e2,e3,e4,e5⟩:=q.2.2.2.2.first (by omega)
        have e6:x1.length+x2.length=xR.length:=by rw[e1,Jd]
        obtain⟨y1,y2,s1,s2,f1,f2,f3,f4,f5⟩:=e5.first (by omega)
        exact⟨x1,y1,y2,r1,s1,s2,by rw[e1,f1,ed],by rw[e2,f2],e3,f3,e4,f4,f5⟩
       obtain⟨x1,x2,x3,r1,r2,r3,e1,e2,e3,e4,e5,e6,e7⟩:=af;have e8:R'.length=r1.length+(r2.length+r3.length):=by rw[e2];simp
       have ab:=HS.out (r1.length+r2.length) Z r1 r2 r3 a (a+c) b wr (ep _) (by have ql:=aa.out;have:=e5.len;have:=e6.len;omega) (by have ql:=aa.out;omega) (by have:=e5.len;omega) (by have ql:=aa.out;have:=e6.len;omega) (by have:=e5.len;omega) (by have:=e6.len;omega) e5.asc e6.asc (by rw[<-e2];exact S1.out)
       have ac:Hid (xs=(xZ++(x1++x2))++x3/\(xZ++(x1++x2)).length=b/\Whole (ltOf cf) (2*c) (xZ++(x1++x2)) (Z++mrg (ltOf cf) r1 r2)/\Blks (ltOf cf) c x3 r3):=by have q:=HB.out;have ql:=aa.out;exact⟨by rw[q.2.1,e1];simp only[ed],by simp only[Jd];omega,q.2.2.2.1.snoc (by simp only[Jd];omega) (e5.mrg SW e6),e7⟩
       push_cast at ab
       have HC:Aside _:=ab;clear ab S1 e1 e2 e3 e4 e5 e6 e7 e8 HB aa;go_wp2_with fail
       refine eZ HC.out ?_;rintro _ w3 ⟨rfl,h3⟩;have S1:Aside (SWK enc 6 w0 blk off ((Z++mrg (ltOf cf) r1 r2)++r3).toArray w3):=by rw[ed];exact h3
       clear h3 HC;go_wp2_with fail
       go_roundg (N+1 - b)
       case measure=>omega
       case rel=>exact⟨b,b+2*c,_,_,_,_,by first | rfl | go_num,by first | rfl | go_num,by omega,by omega,by omega,by omega,⟨rfl,ac.out⟩,S1⟩
    .have ai:¬(c:Int)<(N:Int):=by omega
     go_wp2_with fail
     go_end0
     exact⟨rfl,ys,HB.out.short (by rw[HN.out.2];exact hge) al,S1.out⟩
  .have ai:(b:Int)<=(N:Int):=by omega
   have af:∃x1 x2,xR=x1++x2/\x1.length=20/\xZ.length+xR.length=N:=by
    have q:=HB.out;have q2:=HN.out;have q4:xZ.length+xR.length=N:=by rw[<-Jd,<-q.2.1];exact q2.2
    exact⟨xR.take 20,xR.drop 20,(eh _ _).symm,by rw[eq];omega,q4⟩
   obtain⟨x1,x2,e1,e2,e3⟩:=af;have e4:xR.length=x1.length+x2.length:=by rw[e1,Jd]
   have e5:=HB.out.1;have hc:=HI.out Z x1 x2 a b wr (by omega) (by omega) (by omega) (by rw[<-e1];exact S1.out);have HC:Aside _:=hc;have HX:Hid (xR=x1++x2/\x1.length=20):=⟨e1,e2⟩;clear hc S1 e1 e2 e3 e4 e5 hZ hR;go_wp2_with fail
   refine eZ HC.out ?_;rintro _ w3 ⟨rfl,z1,ae,h3⟩
   have ac:Hid (xs=(xZ++x1)++x2/\(xZ++x1).length=b/\Whole (ltOf cf) 20 (xZ++x1) (Z++z1)):=by have q:=HB.out;have q2:=HX.out;exact⟨by rw[q.2.1,q2.1,ed],by simp only[Jd];omega,q.2.2.2.snoc q2.2 ae⟩
   have S1:Aside (SWK enc 6 w0 blk off ((Z++z1)++x2).toArray w3):=by rw[ed];exact h3
   clear h3 ae HC HB HX;go_wp2_with fail
   go_roundg (N+1 - b)
   case measure=>omega
   case rel=>exact⟨b,b+20,_,_,_,by first | rfl | go_num,by first | rfl | go_num,by omega,by omega,by omega,by omega,⟨rfl,ac.out⟩,S1⟩
theorem Kmt (SW:SWO (ltOf cf)) (eg:∀args w,(callFunc g args).run prog w = .ok (.enter g args) w) (hcmp:CmpLays prog g cb enc 6 cf blk off d0.size w0) (R:RowK enc 6 w0 blk off d0) (hN:d0.size=N) (hsz:N<1152921504606846976) (xs:List α) (w:World) (hl:xs.length=N) (S0:SWK enc 6 w0 blk off xs.toArray w) :
  Calls prog 137 #[.slice (some ⟨blk,off,none⟩) N cap,.func (.func g) #[] cb] w fun e w'=>e = .returned (.tuple #[])/\∃ys,Stab (ltOf cf) xs ys/\SWK enc 6 w0 blk off ys.toArray w':=by
 have HC:Aside _:=Kua (cap:=cap) SW eg hcmp R hN hsz xs w hl S0;clear S0 hl hN hcmp;go_enter func137,ntmps137
 go_wp2_with fail
 refine eZ HC.out ?_;rintro _ w3 ⟨rfl,h3⟩;have H3:Aside _:=h3;clear h3;go_wp2_with fail
 go_end0
 exact⟨rfl,H3.out⟩
end
end
section
open Go.Shelf Go.RowKit Go.Lib Go.Sort
open Lib renaming hid -> Jh
section
theorem Kit (x:Wnd) (w:World):Calls prog 65 #[.agg (Kad x).toArray] w fun e w'=>e = .returned (.int .i64 x.start)/\Grown w w':=by
 obtain⟨a,b,c,d,e,f⟩:=x;unfold Kad;go_enter func65,ntmps65
 go_wp2_with fail
 go_ret
 exact⟨rfl,(fp _).alloc _⟩
theorem Kxt (a b:Int) (w:World):Calls prog 134 #[.int .i64 a,.int .i64 b] w fun e w'=>e = .returned (.int .i64 (if a<b then -1 else if b<a then 1 else 0))/\w=w':=by
 have aa:∀(a:Int) (w:World),Calls prog 181 #[.int .i64 a] w fun e w'=>e = .returned (.bool false)/\w=w':=by
  intro a w;have n1:(a != a)=false:=by simp
  go_enter func181,ntmps181
  go_wp2
  go_ret
  exact⟨by simp,rfl⟩
 have h1:=fun W=>aa a W
 have h2:=fun W=>aa b W
 rcases (by omega:a<b\/b<a\/a=b) with h | h | h
 .rw[jN h];have d1:decide (a<b)=true:=jL h;clear aa;go_enter func134,ntmps134
  go_wp2_with fail
  refine(h1 _).mono ?_;rintro _ w1 ⟨rfl,rfl⟩;go_wp2_with fail
  refine(h2 _).mono ?_;rintro _ w1 ⟨rfl,rfl⟩;go_wp2_with fail
  go_ret
  exact⟨rfl,rfl⟩
 .have hn:¬a<b:=by omega
  rw[jM hn,jN h];have d1:decide (a<b)=false:=jJ hn;have d2:decide (b<a)=true:=jL h;have hle:b<=a:=by omega
  have hne:¬a=b:=by omega
  clear aa;go_enter func134,ntmps134
  go_wp2_with fail
  refine(h1 _).mono ?_;rintro _ w1 ⟨rfl,rfl⟩;go_wp2_with fail
  refine(h2 _).mono ?_;rintro _ w1 ⟨rfl,rfl⟩;go_wp2_with fail
  go_ret
  exact⟨rfl,rfl⟩
 .subst h;have hn:¬a<a:=by omega
  rw[jM hn,jM hn];have d1:decide (a<a)=false:=jJ hn;clear aa;go_enter func134,ntmps134
  go_wp2_with fail
  refine(h1 _).mono ?_;rintro _ w1 ⟨rfl,rfl⟩;go_wp2_with fail
  refine(h2 _).mono ?_;rintro _ w1 ⟨rfl,rfl⟩;go_wp2_with fail
  go_ret
  exact⟨rfl,rfl⟩
attribute [local go_sem] Kbw.cell
theorem Kur (x y:Wnd) (p:Nat) (W:World) (hp:Blk W p 148 #[.func (.func 65) #[] #[]]) :
  Calls prog 138 #[.agg (Kad x).toArray,.agg (Kad y).toArray,.pointer (some ⟨p,0,none⟩)] W fun e w'=>e = .returned (.int .i64 (cfT fm x y))/\Grown W w':=by
 have HT:=Jh (fun (x:Wnd) (w:World)=>Kit x w);have af:=Jh (fun (w:World)=>Kxt x.start y.start w);have aj:cfT fm x y=if x.start<y.start then -1 else if y.start<x.start then 1 else 0:=rfl
 rw[aj];obtain⟨r,hr⟩:∃r:Int,(if x.start<y.start then -1 else if y.start<x.start then 1 else 0:Int)=r:=⟨_,rfl⟩;rw[hr]at af |-;obtain⟨cx,al⟩:=jG ((Kad x).toArray);obtain⟨cy,ah⟩:=jG ((Kad y).toArray);have egT:∀args w,(callFunc 65 args).run prog w = .ok (.enter 65 args) w:=enters_of func65 (by kernel_rfl) rfl;have ad:=Jh (fun w=>HT.out x w);have ac:=Jh (fun w=>HT.out y w);obtain⟨tx,ae⟩:=jG x.start;obtain⟨tz,ag⟩:=jG y.start;rw[<-ae,<-ag]at af;rw[<-ae]at ad;rw[<-ag]at ac;clear aj hr HT;obtain⟨a,b,c,d,e,f⟩:=x;obtain⟨a2,b2,c2,d2,e2,f2⟩:=y;unfold Kad at al ah ad ac |-;dsimp only at ad ac |-;clear al ah ae ag cx cy;go_enter func138,ntmps138
 go_upto_region 1 with fail
 obtain⟨w1,ab⟩:=jF ((W.alloc (.cells #[.int .i64 a,.int .i64 b,.int .u64 c,.int .u64 d,.int .u64 e,.int .u64 f] 135)).alloc (.cells #[.int .i64 a2,.int .i64 b2,.int .u64 c2,.int .u64 d2,.int .u64 e2,.int .u64 f2] 135));have ak:Grown W w1:=by rw[<-ab];exact((fp _).alloc _).alloc _
 have hq:Blk w1 W.heap.size 135 #[.int .i64 a,.int .i64 b,.int .u64 c,.int .u64 d,.int .u64 e,.int .u64 f]:=by rw[<-ab];exact(fi _ _ _).alloc _
 have aa:Blk w1 (W.heap.size+1) 135 #[.int .i64 a2,.int .i64 b2,.int .u64 c2,.int .u64 d2,.int .u64 e2,.int .u64 f2]:=by rw[<-ab];exact fj (by simp)
 have ai:Blk w1 p 148 #[.func (.func 65) #[] #[]]:=hp.below ak.below hp.lt;rw[ab];obtain⟨a0,hA⟩:=jF W.heap.size;rw[hA]at hq aa |-;clear ab hp;have q0:_=some (ee .i64 a):=hq.cell 0;have q1:_=some (ee .i64 b):=hq.cell 1;have q2:_=some (ee .u64 c):=hq.cell 2;have q3:_=some (ee .u64 d):=hq.cell 3;have q4:_=some (ee .u64 e):=hq.cell 4;have q5:_=some (ee .u64 f):=hq.cell 5;have r0:_=some (ee .i64 a2):=aa.cell 0;have r1:_=some (ee .i64 b2):=aa.cell 1;have r2:_=some (ee .u64 c2):=aa.cell 2;have r3:_=some (ee .u64 d2):=aa.cell 3;have r4:_=some (ee .u64 e2):=aa.cell 4;have r5:_=some (ee .u64 f2):=aa.cell 5;have p0:_=some (ek (.func 65) #[] #[]):=ai.cell 0;have hql:=hq.lt;have hpl:=aa.lt;have hpp:=ai.lt;refine Kap 6 (by kernel_rfl) (by kernel_rfl) ?_;simp only[ew,eC,ez,eD]
 repeat (go_big_quiet_step ((go_at_fn 65;first | exact Kar _ (ad.out _) | exact Kar _ (ac.out _))))
 refine ft ?_;rintro w2 ⟨⟨_,am⟩,rfl⟩;have an:Grown W w2:=ak.trans am;go_wp2_with fail
 refine(af.out _).mono ?_;rintro _ w3 ⟨rfl,rfl⟩;go_wp2_with fail
 go_ret
 exact⟨rfl,an⟩
theorem Kut (x y:Wnd) (p:Nat) (W:World) (hp:Blk W p 148 #[.func (.func 65) #[] #[]]) :
  Calls prog 140 #[.agg (Kad x).toArray,.agg (Kad y).toArray,.pointer (some ⟨p,0,none⟩)] W fun e w'=>e = .returned (.bool (x.start == y.start))/\Grown W w':=by
 have egT:∀args w,(callFunc 65 args).run prog w = .ok (.enter 65 args) w:=enters_of func65 (by kernel_rfl) rfl;have ad:=Jh (fun w=>Kit x w);have ac:=Jh (fun w=>Kit y w);obtain⟨tx,af⟩:=jG x.start;obtain⟨tz,ah⟩:=jG y.start;rw[<-af]at ad |-;rw[<-ah]at ac |-;clear af ah;obtain⟨a,b,c,d,e,f⟩:=x;obtain⟨a2,b2,c2,d2,e2,f2⟩:=y;unfold Kad at ad ac |-;dsimp only at ad ac |-;go_enter func140,ntmps140
 go_upto_region 1 with fail
 obtain⟨w1,ab⟩:=jF ((W.alloc (.cells #[.int .i64 a,.int .i64 b,.int .u64 c,.int .u64 d,.int .u64 e,.int .u64 f] 135)).alloc (.cells #[.int .i64 a2,.int .i64 b2,.int .u64 c2,.int .u64 d2,.int .u64 e2,.int .u64 f2] 135));have ag:Grown W w1:=by rw[<-ab];exact((fp _).alloc _).alloc _
 have hq:Blk w1 W.heap.size 135 #[.int .i64 a,.int .i64 b,.int .u64 c,.int .u64 d,.int .u64 e,.int .u64 f]:=by rw[<-ab];exact(fi _ _ _).alloc _
 have aa:Blk w1 (W.heap.size+1) 135 #[.int .i64 a2,.int .i64 b2,.int .u64 c2,.int .u64 d2,.int .u64 e2,.int .u64 f2]:=by rw[<-ab];exact fj (by simp)
 have ae:Blk w1 p 148 #[.func (.func 65) #[] #[]]:=hp.below ag.below hp.lt;rw[ab];obtain⟨a0,hA⟩:=jF W.heap.size;rw[hA]at hq aa |-;clear ab hp;have q0:_=some (ee .i64 a):=hq.cell 0;have q1:_=some (ee .i64 b):=hq.cell 1;have q2:_=some (ee .u64 c):=hq.cell 2;have q3:_=some (ee .u64 d):=hq.cell 3;have q4:_=some (ee .u64 e):=hq.cell 4;have q5:_=some (ee .u64 f):=hq.cell 5;have r0:_=some (ee .i64 a2):=aa.cell 0;have r1:_=some (ee .i64 b2):=aa.cell 1;have r2:_=some (ee .u64 c2):=aa.cell 2;have r3:_=some (ee .u64 d2):=aa.cell 3;have r4:_=some (ee .u64 e2):=aa.cell 4;have r5:_=some (ee .u64 f2):=aa.cell 5;have p0:_=some (ek (.func 65) #[] #[]):=ae.cell 0;have hql:=hq.lt;have hpl:=aa.lt;have hpp:=ae.lt;refine Kap 6 (by kernel_rfl) (by kernel_rfl) ?_;simp only[ew,eC,ez,eD]
 repeat (go_big_quiet_step ((go_at_fn 65;first | exact Kar _ (ad.out _) | exact Kar _ (ac.out _))))
 refine ft ?_;rintro w2 ⟨⟨_,ai⟩,rfl⟩;have aj:Grown W w2:=ag.trans ai;go_wp2_with fail
 go_ret
 exact⟨rfl,aj⟩
theorem Kqa (cmp:Value) (w:World):Calls prog 137 #[.slice none 0 0,cmp] w fun e w'=>e = .returned (.tuple #[])/\w=w':=by
 have aa:∀W:World,Calls prog 226 #[.slice none 0 0,.int .i64 0,.int .i64 0,cmp] W fun e w'=>e = .returned (.tuple #[])/\W=w':=by
  intro W;go_enter func226,ntmps226
  go_wp2
  go_loopg [8] 0 (fun kx s8 wr=>s8 = .int .i64 1/\wr=W)
  case atStart=>exact⟨rfl,rfl⟩
  case round=>
   obtain⟨rfl,rfl⟩:=hrel;go_wp2_with fail
   go_end0
   exact⟨rfl,rfl⟩
 have ab:∀W:World,Calls prog 182 #[.slice none 0 0,.int .i64 0,cmp] W fun e w'=>e = .returned (.tuple #[])/\W=w':=by
  intro W;have HI:=Jh aa;clear aa;go_enter func182,ntmps182
  go_wp2
  go_loopg [7,8] 0 (fun kx s7 s8 wr=>s7 = .int .i64 0/\s8 = .int .i64 20/\wr=W)
  case atStart=>exact⟨rfl,rfl,rfl⟩
  case round=>
   obtain⟨rfl,rfl,rfl⟩:=hrel;go_wp2_with fail
   refine(HI.out _).mono ?_;rintro _ w1 ⟨rfl,rfl⟩;go_wp2_with fail
   go_loopg [6] 0 (fun kx s6 wr2=>s6 = .int .i64 20/\wr2=wr)
   case atStart=>exact⟨rfl,rfl⟩
   case round=>
    obtain⟨rfl,rfl⟩:=hrel;go_wp2_with fail
    go_end0
    exact⟨rfl,rfl⟩
 have HS:=Jh ab;clear aa ab;go_enter func137,ntmps137
 go_wp2_with fail
 refine(HS.out _).mono ?_;rintro _ w1 ⟨rfl,rfl⟩;go_wp2_with fail
 go_end0
 exact⟨rfl,rfl⟩
theorem Kov (eq_:Value) (w:World):Calls prog 139 #[.slice none 0 0,eq_] w fun e w'=>e = .returned (.slice none 0 0)/\w=w':=by
 go_enter func139,ntmps139
 go_wp2_with fail
 go_ret
 exact⟨rfl,rfl⟩
theorem Kyt (xs:List Wnd) (B n:Nat) (v:Value) (w:World) (h:w.ownsRow B 135 6 v n (xs.flatMap Kad)) (hl:xs.length=n) (hn:n<=1099511627776) :
  Calls prog 64 #[v,.func (.func 65) #[] #[]] w fun e w'=>∃v' zs,e = .returned v'/\Kbd fm xs zs/\w'.ownsRow B 135 6 v' zs.length (zs.flatMap Kad)/\v'.ownBlock=v.ownBlock/\w.grownBy w' v.ownBlock:=by
 have ao:(xs = []/\v = .slice none 0 0)\/∃g c,v = .slice (some ⟨g,0,none⟩) n c:=by
  rcases h.2 with ⟨h1,h0⟩ | ⟨g,cap,cur,h1,_⟩
  .exact .inl ⟨ec (by omega),h1⟩
  .exact .inr ⟨g,cap,h1⟩
 rcases ao with ⟨rfl,rfl⟩ | ⟨g,cap,rfl⟩
 .have aq:n=0:=by simpa using hl.symm
  subst aq;have hS:=Jh (fun (c:Value) (W:World)=>Kqa c W);have hC:=Jh (fun (c:Value) (W:World)=>Kov c W);have H:=Jh h;clear h;go_enter func64,ntmps64
  go_wp2_with fail
  refine(hS.out _ _).mono ?_;rintro _ w1 ⟨rfl,rfl⟩;go_wp2_with fail
  refine(hC.out _ _).mono ?_;rintro _ w1 ⟨rfl,rfl⟩;go_wp2_with fail
  go_ret
  have hb:w.grownBy (w.alloc (.cells #[.func (.func 65) #[] #[]] 148)) none:=ex w _ none;exact⟨_,[],rfl,Kbd.nil _,by simpa using (fe H.out _),rfl,hb⟩
 .have aj:=ff h g rfl;obtain⟨w1,ad⟩:=jF (w.alloc (.cells #[.func (.func 65) #[] #[]] 148));obtain⟨p,hp⟩:=jG w.heap.size;have hb:Blk w1 p 148 #[.func (.func 65) #[] #[]]:=by rw[hp,<-ad];exact fi _ _ _
  have al:p≠g:=by omega
  have hpz:p<w1.heap.size:=hb.lt;have h1:w1.ownsRow B 135 6 (.slice (some ⟨g,0,none⟩) n cap) n (xs.flatMap Kad):=by rw[<-ad];exact fe h _
  have ag:w.grownBy w1 (some g):=by rw[<-ad];exact ex w _ _
  have R:RowK Kad 6 w1 g 0 xs.toArray:=⟨Khy,Kxg,Kfg Khy (by decide) h1 hl,(ff h1 g rfl).2⟩;have hN:xs.toArray.size=n:=by simpa using hl
  have aa:n<=cap:=by
   rcases h.2 with ⟨he,_⟩ | ⟨g',cap',cur,he,_,_,h3,_⟩
   .cases he
   .injection he with _ _ hcc;subst hcc;exact h3
  have av:∀args w,(callFunc 138 args).run prog w = .ok (.enter 138 args) w:=enters_of func138 (by kernel_rfl) rfl;have am:∀args w,(callFunc 140 args).run prog w = .ok (.enter 140 args) w:=enters_of func140 (by kernel_rfl) rfl;have ab:∀(dk:Array Wnd) (W:World),SWK Kad 6 w1 g 0 dk W->Blk W p 148 #[.func (.func 65) #[] #[]]:=fun dk W hS=>hb.grown (SWK.by hS) (by intro e;injection e with e;exact al e)
  have ac:CmpLays prog 138 #[.pointer (some ⟨p,0,none⟩)] Kad 6 (cfT fm) g 0 xs.toArray.size w1:=by intro m os dk hdk x y;refine(Kur x y p _ (ab dk _ ⟨m,os,rfl⟩)).mono ?_;rintro e w' ⟨he,⟨q,hq⟩⟩;exact⟨he,q.n,q.os,hq⟩
  have ai:Koh prog 140 #[.pointer (some ⟨p,0,none⟩)] Kad 6 (fun x y=>x.start == y.start) g 0 xs.toArray.size w1:=by intro W dk hdk hS x y;refine(Kut x y p _ (ab dk _ hS)).mono ?_;rintro e w' ⟨he,⟨q,hq⟩⟩;exact⟨he,q.n,q.os,hq⟩
  have HS:=Jh (Kmt (cap:=cap) (swoT fm) av ac R hN (by omega) xs w1 hl (SWK.start R.hH));have HC:=Jh (fun (ys:List Wnd) (W:World) (hy:ys.length=n) (hS:SWK Kad 6 w1 g 0 ys.toArray W)=>Kqn (cap:=cap) am ai R hN (by omega) ys W hy (fun W dk i a b c=>Kmb (P:=prog) underlying56 (⟨0,0,0,0,0,0⟩:Wnd) (fun w=>zeroValue135 w) (by decide) R hN W dk i (cap - i) a b c) aa hS);have HG:=Jh ag;have H1:=Jh h1;have HL:=Jh hl;clear h h1 hl hN ag ac ai ab hb aa R aj;go_enter func64,ntmps64
  go_upto_region 1 with fail
  try rw[ad]
  try rw[<-hp]
  clear ad hp;go_wp2_with fail
  refine eZ HS.out ?_;rintro _ w2 ⟨rfl,ys,ae,ah⟩;have ap:=Jh ae;have af:ys.length=n:=by rw[ae.len];exact HL.out
  have ar:=Jh (HC.out ys w2 af ah);clear ae ah af;go_wp2_with fail
  refine eZ ar.out ?_;rintro _ w3 ⟨rfl,zs,z1,z2,z3⟩;have HZ:=Jh (fq z1 (fq z2 z3));clear z1 z2 z3;go_wp2_with fail
  go_ret
  obtain⟨z1,z2,z3⟩:=HZ.out;refine⟨_,dupE (fun x y:Wnd=>x.start == y.start) ys,rfl,Ksu fm _ (fun x y=>by rw[eV];simp) ap.out,?_,rfl,?_⟩
  .obtain ⟨m,os,rfl⟩:=z3;have ho:=Kfj Khy (by decide) H1.out HL.out zs.toArray (by simpa using z1) m os
   have ak:(dupE (fun x y:Wnd=>x.start == y.start) ys).length<=n:=by have:=jR eU z2;rw[eq]at this;omega
   have:=Koc ho ak
   rw[show(zs.toArray.toList.flatMap Kad).take ((dupE (fun x y:Wnd=>x.start == y.start) ys).length*6)=(dupE (fun x y:Wnd=>x.start == y.start) ys).flatMap Kad by
    have an:zs=zs.take (dupE (fun x y:Wnd=>x.start == y.start) ys).length++zs.drop (dupE (fun x y:Wnd=>x.start == y.start) ys).length:=(eh _ _).symm;rw[show zs.toArray.toList=zs by simp]
    conv=>lhs;rw[an]
    rw[eF,eE (by rw[Kdg Khy,z2]),z2]]at this
   exact this
  .exact fn HG.out (SWK.by z3)
end
end
section
open Go.Shelf Go.RowKit Go.Lib Go.Sort
open Lib renaming hid -> Jh
open List renaming setIfInBounds_toArray -> Ja, set_cons_zero -> Jb, set_cons_succ -> Jc
attribute [local go_sem ↓] Go.wp_at_zero Go.wp_at_succ
attribute [local go_sem] Later.cell
section
theorem Ksc:(prog.info? 102).map (fun i=>(i.zero,i.size,i.bytes))=some (some (.agg #[.int .i64 0,.int .u64 0]),2,16):=by kernel_rfl
theorem Ksd:(prog.info? 135).map (fun i=>(i.zero,i.size,i.bytes))=some (some (.agg #[.int .i64 0,.int .i64 0,.int .u64 0,.int .u64 0,.int .u64 0,.int .u64 0]),6,48):=by kernel_rfl
theorem Qge {w0:World}(ys:List (MS w0)) {i:Nat}(hi:i<ys.length):grpG ((ys.take (i+1)).map fh)=addG (openG (grpG ((ys.take i).map fh)) ys[i]!.s) ys[i]!.s:=by rw[List.take_add_one,el hi,eW,jI ys i hi];unfold grpG;rw[List.foldl_append];rfl
theorem Kzx (l:List Ser):∀gs:List Ser,(l.foldl stepG gs).length<=gs.length+l.length:=by
 induction l with
 | nil=>intro gs;simp
 | cons s l ih=>
  intro gs;have h1:=ih (stepG gs s)
  have h2:(stepG gs s).length<=gs.length+1:=by
   unfold stepG;rw[Qif];unfold openG
   split <;> simp
  rw[List.foldl_cons,ZZ];omega
theorem Qhh {w0:World}(ys:List (MS w0)) (i:Nat):sumS (grpG ((ys.take i).map fh))<=sumS (ys.map fh):=by
 unfold grpG;rw[Kww]
 conv=>rhs;rw[<-eh i ys,eW,Khv]
 simp[sumS]
theorem Kcg {w:World}{B B' n sz:Nat}{T:TypeId}{v:Value}{xs:List Value}(h:w.ownsRow B T sz v n xs) (hB:B'<=B):w.ownsRow B' T sz v n xs:=
 ⟨h.1,h.2.imp id fun ⟨g,cap,cur,e,h1,h2⟩=>⟨g,cap,cur,e,eG hB h1,h2⟩⟩
theorem Kat {w w':World}{B n sz:Nat}{T:TypeId}{v:Value}{xs:List Value}(h:w.ownsRow B T sz v n xs) (hb:Below w.heap.size w w'):w'.ownsRow B T sz v n xs:=
 Kcv h hb.size fun k hk=>hb.block k (h.lt k hk).2
theorem Qiu {w0:World}(ys:List (MS w0)) {i:Nat}(hi:i<ys.length):ys[i]!.s.samples.length+ys[i]!.s.windows.length<=sumS (ys.map fh):=by have:=Kjf (gs:=ys.map fh) (k:=i) (by simpa using hi);rw[show(ys.map fh)[i]! = ys[i]!.s by rw[jI _ i (by simpa using hi),jI ys i hi,eT]]at this;exact this
theorem Qhg {a b:List Ser}(h:a.Perm b):sumS a=sumS b:=(h.map _).sum_nat
attribute [local go_sem] Kbw.cell
theorem Kyn {w0:World}(xs:List (MS w0)) (A:Option Addr) (n c:Nat) (hs0:List Hd) (Ks:List (List Hd3)) (hF:Ks.flatten=xs.map MS.h) (h:CatIn w0 A n hs0 Ks) (hN:xs.length<=274877906944) (hn:n<=140737488355328) (hsum:sumS (xs.map fh)<=137438953472) :
  Calls prog 24 #[.slice A n c] w0 fun e w'=>∃(ys:List (MS w0)) (A':Option Addr) (n' c':Nat),e = .returned (.slice A' n' c')/\Stab (ltOf cfM) xs ys/\Sers w' A' n' (Kev (ys.map fh))/\n'<=c'/\Below w0.heap.size w0 w':=by
 obtain⟨ib,dN,dO,dn,dw⟩:=info_parts Kie;have cp:=Jh (Kuy A n c hs0 Ks (xs.map MS.h) hF w0 h (by simpa using hN) hn);have cv:=Jh hsum;have dx:=Jh hN;clear h hF hsum hn hN;go_enter func24,ntmps24
 go_wp2_with fail
 refine cp.out.mono ?_;rintro e1 w1 ⟨va,rfl,dj,ct⟩
 have ay:w1.ownsRow w0.heap.size 58 3 va xs.length (xs.flatMap encMS):=by rw[eJ,List.flatMap_map]at dj;exact dj
 have bx:Calls prog 58 #[va,.func (.func 59) #[] #[]] w1 fun e w'=>e = .returned (.tuple #[])/\∃ys:List (MS w0),Stab (ltOf cfM) xs ys/\w'.ownsRow w0.heap.size 58 3 va xs.length (ys.flatMap encMS)/\Below w0.heap.size w0 w':=by
  rcases ay.2 with ⟨e0,h0⟩ | ⟨g,cap,ar,e0,_⟩
  .subst e0;refine(Krd _ w1).mono ?_;rintro e w' ⟨rfl,rfl⟩;exact⟨rfl,xs,by rw[ec h0];exact Stab.nil,ay,ct⟩
  .subst e0;refine(Ktx xs w0.heap.size xs.length g cap w1 ct (ep _) ay rfl (by have:=dx.out;omega)).mono ?_;rintro e w' ⟨rfl,ys,h1,h2,h3⟩;exact⟨rfl,ys,h1,h2,ct.grown h3 ct.size (fun k hk=>by injection hk with hk;have:=(ay.lt g rfl).1;omega)⟩
 obtain⟨AV,d5,rfl⟩:=Kah ay;have bp:=Jh bx;clear dj ct ay bx;go_wp2_with fail
 refine bp.out.mono ?_;rintro e2 w2 ⟨rfl,ys,cH,aQ,cf⟩;have dT:=Jh cH;have aB:=Jh aQ;have HB2:=Jh cf;have aW:Hid (w0.heap.size<=w2.heap.size):=cf.size;obtain⟨N,hN⟩:=jG xs.length;have dp:Hid (ys.length=N):=by show _=_;rw[hN];exact cH.len
 have a9:Hid (sumS (ys.map fh)<=137438953472):=by show _<=_;rw[Qhg (cH.perm.map _)];exact cv.out
 rw[<-hN]at aQ |-;have aB:Hid (w2.ownsRow w0.heap.size 58 3 (.slice AV N d5) N (ys.flatMap encMS)):=aQ;have hNz:N<=274877906944:=by rw[hN];exact dx.out
 have M0:Hid (MSt w0 w2 w2 (.slice none 0 0) [] (grpG ((ys.take 0).map fh))):=⟨cf,Below.refl _ _,es _ _ _ _,⟨rfl,fun i h hi=>by simp at hi,fun i j h h' hi=>by simp at hi⟩⟩;clear cH aQ cf bp cp hN;go_wp2_with fail
 go_loopg [4,16] N (fun kx s4 s16 wr=>∃(i:Nat) (hs:List Hd3),s16 = .int .i64 (i:Int)/\i+kx=N/\Hid (MSt w0 w2 wr s4 hs (grpG ((ys.take i).map fh))))
 case atStart=>exact⟨0,[],rfl,by omega,M0⟩
 case round=>
  clear M0;obtain⟨i,hs,rfl,hi,HM⟩:=hrel;rcases eo i N with cr | hge
  .have dd:(i:Int)<(N:Int):=by omega
   obtain⟨A4,cV,bT⟩:=Kah HM.out.row;obtain⟨m,hm⟩:=jG hs.length;rw[<-hm]at bT;subst bT;have an:Hid (hs.length=m):=hm.symm
   have dX:m<=274877906944:=by have h1:=HM.out.rows.len;have h2:=Kzx ((ys.take i).map fh) [];rw[eJ,eq,eb]at h2;unfold grpG at h1;omega
   obtain⟨af,aX⟩:=jG (grpG ((ys.take i).map fh));rw[<-aX]at HM;have df:=Jh aX;clear aX hm;have cE:i<ys.length:=by rw[dp.out];exact cr
   obtain⟨gA,d7⟩:∃gA,AV=some ⟨gA,0,none⟩:=by
    rcases aB.out.2 with ⟨e0,h0⟩ | ⟨g,cap,ar,e0,_⟩
    .omega
    .injection e0 with e0;exact⟨g,e0⟩
   subst d7;obtain⟨y,hy⟩:=jG (ys[i]!);have dJ:ys[i]? = some y:=by rw[hy,jI ys i cE];exact el cE
   have aa:∀j v,j<3->(encMS y)[j]? = some v->wr.cell? ⟨gA,i*3+j,none⟩=some v:=fun j v hj hv=>by
    have h1:=aB.out.cells (g:=gA) rfl (i*3+j) v (by rw[Kcw Kic ys i j y dJ hj];exact hv)
    have ea:(⟨gA,0,none⟩:Addr).add (i*3+j)=⟨gA,i*3+j,none⟩:=by
     unfold fr
     split
     .rename_i h0;simp at h0 |-;(try omega)
     .simp
    rw[ea]at h1;exact(HM.out.b2.cell (p:=⟨gA,i*3+j,none⟩) (aB.out.lt gA rfl).2).trans h1
   have bD:grpG ((ys.take (i+1)).map fh)=addG (openG af y.s) y.s:=by rw[Qge ys cE,<-df.out,hy]
   have dt:y.s.samples.length+y.s.windows.length<=137438953472:=by rw[hy];exact eG (Qiu ys cE) a9.out
   have dL:sumS af<=137438953472:=by rw[df.out];exact eG (Qhh ys i) a9.out
   clear hy dJ;obtain⟨⟨⟨lA,ln,lc⟩,⟨sA,sn,sc⟩,⟨wA,wn,wc⟩⟩,s,bH,sz⟩:=y;have c0:=aa 0 (.slice lA ln lc) (by decide) rfl;have c1:=aa 1 (.slice sA sn sc) (by decide) rfl;have c2:=aa 2 (.slice wA wn wc) (by decide) rfl;rw[Nat.add_zero]at c0;dsimp only at bD dt sz;have HS:Hid (Elems w0 w0.heap.size 2 Kac sA sn s.samples):=bH.s;have HW:Hid (Elems w0 w0.heap.size 6 Kad wA wn s.windows):=bH.w;have HL:Hid (Elems w0 w0.heap.size 2 encLb lA ln s.labels):=bH.l;have HLC:Hid (ln<=lc):=bH.lc
   have dB:Hid (sn<=1099511627776/\wn<=1099511627776):=by have h1:=bH.s.len;have h2:=bH.w.len;dsimp only at h1 h2;exact⟨by omega,by omega⟩
   have d8:Hid (s.samples.length<=137438953472/\s.windows.length<=137438953472):=⟨by omega,by omega⟩;have ax:Hid (addG (openG af s) s=grpG ((ys.take (i+1)).map fh)):=bD.symm;have bU:Hid (sumS af<=137438953472):=dL;clear bH bD dt dL aa;have cR:gA<wr.heap.size:=eP (aB.out.lt gA rfl).2 HM.out.b2.size;go_upto_region 7 with fail
   obtain⟨wb,ba⟩:=jG (wr.alloc (.cells #[.slice lA ln lc,.slice sA sn sc,.slice wA wn wc] 58));obtain⟨p,hp⟩:=jG wr.heap.size;have aL:Hid (Blk wb p 58 #[.slice lA ln lc,.slice sA sn sc,.slice wA wn wc]):=by show Blk _ _ _ _;rw[ba,hp];exact fi _ _ _
   have aT:Hid (MSt w0 w2 wb (.slice A4 m cV) hs af):=by show MSt _ _ _ _ _ _;rw[ba];exact HM.out.below ((Below.refl _ _).alloc (ep _) _)
   have aN:Hid (Below w0.heap.size w0 wb):=aT.out.b0;have bK:Hid (∀k,(ej A4 m cV).ownBlock=some k->k≠p):=fun k hk=>by have:=(HM.out.row.lt k hk).2;omega
   rw[<-ba,<-hp];clear ba hp HM c0 c1 c2 cR
   have bY:Hid (∀W,Below w0.heap.size w0 W->Calls prog 61 #[.slice lA ln lc] W fun e w'=>(∃A' c',e = .returned (.slice A' ln c')/\ln<=c'/\(ln=0\/w'.ownsRow W.heap.size 99 2 (.slice A' ln c') ln (s.labels.flatMap encLb)))/\Below W.heap.size W w'):=fun W hb=>
    Kia s.labels lA ln lc W ((HL.out.below hb).more hb.size) (by omega)
   have bZ:wb.cell? ⟨p,0,none⟩=some (.slice lA ln lc):=aL.out.cell 0;have dA:p<wb.heap.size:=aL.out.lt;refine(eO m).elim (fun h0=>?ga) (fun h0=>?gb)
   case' ga=>
    have aX:af = []:=ec (by rw[<-aT.out.rows.len,an.out,h0]);have bt:Hid (openG af s=af ++ [⟨s.labels,[],[]⟩]):=by show _=_;unfold openG;rw[jN (.inl aX)]
    obtain⟨last,hla⟩:∃last:Int,(m:Int) - 1=last:=⟨_,rfl⟩;have dZ:last<0:=by omega
    have cO:last+1=(m:Int):=by omega
    clear aX h0;go_upto_region 8 with fail
    refine Kaa (by kernel_rfl) (by kernel_rfl) ?_
    repeat (go_big_quiet_step (fail))
    refine ft ?_;rintro wq ⟨⟨_,bN⟩,rfl⟩;have ad:Hid (Blk wq p 58 #[.slice lA ln lc,.slice sA sn sc,.slice wA wn wc]):=aL.out.below bN aL.out.lt;have ag:Hid (MSt w0 w2 wq (.slice A4 m cV) hs af):=aT.out.below bN;clear aL aT aN bZ dA bN;have bd:Below w0.heap.size w0 wq:=ag.out.b0;have bS:wq.cell? ⟨p,0,none⟩=some (.slice lA ln lc):=ad.out.cell 0;have bE:=ad.out.lt;go_wp2_with fail
    refine(bY.out wq bd).mono ?_;rintro _ w4 ⟨⟨A6,c6,rfl,c3,aF⟩,bl⟩;have cA:MSt w0 w2 w4 (.slice A4 m cV) hs af:=ag.out.below bl;obtain⟨w5,aJ⟩:=jG (w4.alloc (.cells #[.slice A6 ln c6,.slice none 0 0,.slice none 0 0] 58));have bj:Below w4.heap.size w4 w5:=by rw[aJ];exact(Below.refl _ _).alloc (ep _) _
    have bk:MSt w0 w2 w5 (.slice A4 m cV) hs af:=cA.below bj;have aP:Blk w5 p 58 #[.slice lA ln lc,.slice sA sn sc,.slice wA wn wc]:=(ad.out.below bl ad.out.lt).below bj (ad.out.below bl ad.out.lt).lt;have aC:Blk w5 w4.heap.size 58 #[.slice A6 ln c6,.slice none 0 0,.slice none 0 0]:=by rw[aJ];exact fi _ _ _
    have aG:w5.ownsRow w2.heap.size 58 3 (.slice A4 m cV) m (hs.flatMap encH3):=by have:=bk.row;rw[an.out]at this;exact this
    have aH:ln=0\/w5.ownsRow w2.heap.size 99 2 (.slice A6 ln c6) ln (s.labels.flatMap encLb):=aF.imp id fun y=>Kcg (Kat y bj) ag.out.b2.size
    have b9:=Jh bk;have bc:=Jh aP;have aK:=Jh aH;have aO:Hid (∀k,(ej A4 m cV).ownBlock=some k->k≠p):=bK.out;have ca:Hid (p<w5.heap.size):=aP.lt;have cw:=bk.b2.size;have cz:Hid (ln<=c6):=c3;clear bS bE bd aF cA bk aP aH ag ad bl bj;go_wp2_with (at_builtin;(try rw[<-aJ]);refine wpList_append_own_at _ rfl _ _ 26 rfl w2.heap.size 58 ib (.agg #[.slice none 0 0,.slice none 0 0,.slice none 0 0]) 3 72 underlying26 dN dO dn dw rfl (by decide) (.slice A4 m cV) m _ rfl aG ⟨w4.heap.size,0,none⟩ 1 1 [.slice A6 ln c6,.slice none 0 0,.slice none 0 0] rfl rfl (Kam (l:=[.slice A6 ln c6,.slice none 0 0,.slice none 0 0]) aC) ?p2 ?p3 ?p4 ?p5 ?_)
    case p2=>intro u hu;simp only[eX,eH,or_false]at hu;rcases hu with rfl | rfl | rfl <;> rfl
    case p3=>unfold maxLen;omega
    case p4=>omega
    case p5=>exact cw
    intro v6 wb hown' hgrow _ hat;rw[<-aJ]at hgrow;obtain⟨A7,cV,rfl⟩:=Kah hown'
    have ab:MSt w0 w2 wb (.slice A7 (m+1) cV) (hs ++ [⟨⟨A6,ln,c6⟩,⟨none,0,0⟩,⟨none,0,0⟩⟩]) (af ++ [⟨s.labels,[],[]⟩]):=by
     refine b9.out.more aW.out hgrow (by rw[an.out];exact hown') ⟨?_,HL.out.len,cz.out,es _ _ _ _,es _ _ _ _⟩ rfl rfl;rcases aK.out with e | e
     .exact .inl ⟨e,ec (by rw[HL.out.len];exact e)⟩
     .refine .inr ?_;rw[HL.out.len];exact e
    have a8:Blk wb p 58 #[.slice lA ln lc,.slice sA sn sc,.slice wA wn wc]:=bc.out.grown hgrow (fun e=>aO.out p e.symm rfl)
    obtain⟨g,cM⟩:∃g,A7=some ⟨g,0,none⟩:=by
     rcases hown'.2 with ⟨e0,h1⟩ | ⟨g,cap,ar,e0,_⟩
     .omega
     .injection e0 with e0;exact⟨g,e0⟩
    subst cM
    have bb:g≠p:=by
     rcases hat with e | e
     .exact aO.out g (by rw[<-e];rfl)
     .have e2:g=w5.heap.size:=by
       first
       | (have e3:some g=some w5.heap.size:=e;injection e3)
       | (have e3:some g=some (w4.heap.size+1):=e;injection e3 with e4;rw[e4,aJ];simp)
       | (rw[<-aJ]at e;injection e)
       | (rw[aJ];injection e)
      have:=ca.out;omega
    have bO:(hs ++ [(⟨⟨A6,ln,c6⟩,⟨none,0,0⟩,⟨none,0,0⟩⟩:Hd3)]).length=m+1:=by rw[eB,an.out];rfl
    rw[<-bt.out]at ab;generalize hs ++ [(⟨⟨A6,ln,c6⟩,⟨none,0,0⟩,⟨none,0,0⟩⟩:Hd3)]=hs at ab bO;obtain⟨gs,az⟩:=jG (openG af s);rw[<-az]at ab;have bA:Hid (MSt w0 w2 wb (.slice (some ⟨g,0,none⟩) (m+1) cV) hs gs):=ab;have av:Hid (hs.length=m+1):=bO;have aL:Hid (Blk wb p 58 #[.slice lA ln lc,.slice sA sn sc,.slice wA wn wc]):=a8;have aN:Hid (Below w0.heap.size w0 wb):=ab.b0;have cg:Hid (g≠p):=bb;have bm:Hid (addG gs s=grpG ((ys.take (i+1)).map fh)):=by show _=_;rw[az];exact ax.out
    have ai:Hid (sumS gs<=137438953472):=by show _<=_;rw[az,Kma];exact bU.out
    have dm:m<m+1:=by omega
    have cs:(m:Int)<(m:Int)+1:=by omega
    clear hown' hgrow hat ab a8 bb bO az aG aC cw b9 bc aK cz aO ca bt ax bU an aJ;clear bK bY;obtain⟨K,rfl⟩:=jG m
   case' gb=>
    obtain⟨k,hk⟩:∃k,m=k+1:=⟨m - 1,by omega⟩;have hkz:¬(k:Int)<0:=by omega
    have dW:(m:Int) - 1=(k:Int):=by omega
    have d0:(k:Int)<(m:Int):=by omega
    have dV:k<m:=by omega
    have cS:Hid (m=k+1):=hk;have aD:Hid (hs.length=k+1):=by show _=_;rw[an.out,hk]
    obtain⟨g,cT⟩:∃g,A4=some ⟨g,0,none⟩:=by
     rcases aT.out.row.2 with ⟨e0,h1⟩ | ⟨g,cap,ar,e0,_⟩
     .rw[aD.out]at h1;omega
     .injection e0 with e0;exact⟨g,e0⟩
    subst cT;obtain⟨x,hx⟩:∃x,hs[k]? = some x:=⟨hs[k]'(by have:=aD.out;omega),el _⟩;have aM:af[k]! = lastS af:=by unfold lastS;rw[show af.length - 1=k by have:=aD.out;have:=aT.out.rows.len;omega]
    have dD:wb.cell? ⟨g,k*3,none⟩=some (.slice x.l.A x.l.n x.l.c):=by
     have h1:=aT.out.row.cells (g:=g) rfl (k*3+0) (.slice x.l.A x.l.n x.l.c) (by rw[Kcw Kda hs k 0 x hx (by decide)];rfl)
     have ea:(⟨g,0,none⟩:Addr).add (k*3+0)=⟨g,k*3,none⟩:=by
      unfold fr
      split
      .rename_i h0;simp at h0 |-;(try omega)
      .simp
     rw[ea]at h1;exact h1
    have bB:g<wb.heap.size:=(aT.out.row.lt g rfl).2;have da:=(aT.out.rows.sers k x hx).l;rw[aM]at da
    have bL:x.l.n<=1099511627776:=by
     have h1:=(aT.out.rows.at_ k x hx).ln;rw[<-h1]
     have h2:=Qba (fun l=>l.length<=1099511627776) ((ys.take i).map fh) [] (fun _ h=>jS h eH) (fun s hs=>by
      obtain⟨y,_,rfl⟩:=List.mem_map.1 hs;have h3:=y.a.l.len;rw[h3]
      exact y.z)
     have h4:grpG ((ys.take i).map fh)=af:=df.out.symm;unfold grpG at h4;rw[h4]at h2;have d1:k<af.length:=by have:=aD.out;have:=aT.out.rows.len;omega
     rw[jI af k d1];exact h2 _ (List.getElem_mem _)
    obtain⟨cc,hcc⟩:=jG (cmpL (lastS af).labels s.labels)
    have bI:Hid (∀X:Kbw wb,Calls prog 60 #[.slice x.l.A x.l.n x.l.c,.slice lA ln lc] X.w fun e w'=>e = .returned (.int .i64 cc)/\Grown X.w w'):=fun X=>
     Kdy (lastS af).labels s.labels x.l.A lA x.l.n ln _ _ X.w cc hcc.symm ((da.below X.h.below).more X.h.below.size) ((HL.out.below (aN.out.trans (X.h.below.mono aN.out.size))).more (aN.out.trans (X.h.below.mono aN.out.size)).size) (by omega) (by omega)
    have cI:Hid (cc=cmpL (lastS af).labels s.labels):=hcc;obtain⟨xA,bs⟩:=jG x.l.A;obtain⟨xn,ci⟩:=jG x.l.n;obtain⟨xc,bq⟩:=jG x.l.c;rw[<-bs,<-ci,<-bq]at bI dD;have cg:Hid (g≠p):=bK.out g rfl;clear hx aM da bL hcc bs ci bq hk h0;go_upto_region 8 with fail
    refine Kap 10 (by kernel_rfl) (by kernel_rfl) ?_;simp only[ew,eC,ez,eD]
    repeat (go_big_quiet_step (fail))
    refine ft ?_;rintro wq0 ⟨X,rfl⟩;go_wp2_with fail
    refine(bI.out X).mono ?_;rintro _ wq ⟨rfl,dF⟩;have bN:Below wb.heap.size wb wq:=X.h.below.trans (dF.below.mono X.h.below.size);have ad:Hid (Blk wq p 58 #[.slice lA ln lc,.slice sA sn sc,.slice wA wn wc]):=aL.out.below bN aL.out.lt;have ag:Hid (MSt w0 w2 wq (.slice (some ⟨g,0,none⟩) m cV) hs af):=aT.out.below bN
    have cQ:Hid (af≠[]):=fun e=>by have h1:=aT.out.rows.len;rw[e,aD.out]at h1;simp at h1
    clear aL aT aN bZ dA bN dF bI dD bB;refine(Decidable.em (cc=0)).symm.elim (fun hcc=>?gc) (fun hcc=>?gd)
    case' gc=>
     have bt:Hid (openG af s=af ++ [⟨s.labels,[],[]⟩]):=by show _=_;unfold openG;rw[jN (.inr (by rw[<-cI.out];exact hcc))]
     have hc1:(cc == 0)=false:=jO.2 hcc;have hc2:(cc != 0)=true:=bne_iff_ne.2 hcc;have hc3:decide (cc=0)=false:=jJ hcc;have cO:(k:Int)+1=(m:Int):=by have:=cS.out;omega
     clear cI cS aD cQ cg;obtain⟨A4,dE⟩:∃q:Option Addr,q=some ⟨g,0,none⟩:=⟨_,rfl⟩;rw[<-dE]at ag bK |-;clear dE;have bd:Below w0.heap.size w0 wq:=ag.out.b0;have bS:wq.cell? ⟨p,0,none⟩=some (.slice lA ln lc):=ad.out.cell 0;have bE:=ad.out.lt;go_wp2_with fail
     refine(bY.out wq bd).mono ?_;rintro _ w4 ⟨⟨A6,c6,rfl,c3,aF⟩,bl⟩;have cA:MSt w0 w2 w4 (.slice A4 m cV) hs af:=ag.out.below bl;obtain⟨w5,aJ⟩:=jG (w4.alloc (.cells #[.slice A6 ln c6,.slice none 0 0,.slice none 0 0] 58));have bj:Below w4.heap.size w4 w5:=by rw[aJ];exact(Below.refl _ _).alloc (ep _) _
     have bk:MSt w0 w2 w5 (.slice A4 m cV) hs af:=cA.below bj;have aP:Blk w5 p 58 #[.slice lA ln lc,.slice sA sn sc,.slice wA wn wc]:=(ad.out.below bl ad.out.lt).below bj (ad.out.below bl ad.out.lt).lt;have aC:Blk w5 w4.heap.size 58 #[.slice A6 ln c6,.slice none 0 0,.slice none 0 0]:=by rw[aJ];exact fi _ _ _
     have aG:w5.ownsRow w2.heap.size 58 3 (.slice A4 m cV) m (hs.flatMap encH3):=by have:=bk.row;rw[an.out]at this;exact this
     have aH:ln=0\/w5.ownsRow w2.heap.size 99 2 (.slice A6 ln c6) ln (s.labels.flatMap encLb):=aF.imp id fun y=>Kcg (Kat y bj) ag.out.b2.size
     have b9:=Jh bk;have bc:=Jh aP;have aK:=Jh aH;have aO:Hid (∀k,(ej A4 m cV).ownBlock=some k->k≠p):=bK.out;have ca:Hid (p<w5.heap.size):=aP.lt;have cw:=bk.b2.size;have cz:Hid (ln<=c6):=c3;clear bS bE bd aF cA bk aP aH ag ad bl bj;go_wp2_with (at_builtin;(try rw[<-aJ]);refine wpList_append_own_at _ rfl _ _ 26 rfl w2.heap.size 58 ib (.agg #[.slice none 0 0,.slice none 0 0,.slice none 0 0]) 3 72 underlying26 dN dO dn dw rfl (by decide) (.slice A4 m cV) m _ rfl aG ⟨w4.heap.size,0,none⟩ 1 1 [.slice A6 ln c6,.slice none 0 0,.slice none 0 0] rfl rfl (Kam (l:=[.slice A6 ln c6,.slice none 0 0,.slice none 0 0]) aC) ?p2 ?p3 ?p4 ?p5 ?_)
     case p2=>intro u hu;simp only[eX,eH,or_false]at hu;rcases hu with rfl | rfl | rfl <;> rfl
     case p3=>unfold maxLen;omega
     case p4=>omega
     case p5=>exact cw
     intro v6 wb hown' hgrow _ hat;rw[<-aJ]at hgrow;obtain⟨A7,cV,rfl⟩:=Kah hown'
     have ab:MSt w0 w2 wb (.slice A7 (m+1) cV) (hs ++ [⟨⟨A6,ln,c6⟩,⟨none,0,0⟩,⟨none,0,0⟩⟩]) (af ++ [⟨s.labels,[],[]⟩]):=by
      refine b9.out.more aW.out hgrow (by rw[an.out];exact hown') ⟨?_,HL.out.len,cz.out,es _ _ _ _,es _ _ _ _⟩ rfl rfl;rcases aK.out with e | e
      .exact .inl ⟨e,ec (by rw[HL.out.len];exact e)⟩
      .refine .inr ?_;rw[HL.out.len];exact e
     have a8:Blk wb p 58 #[.slice lA ln lc,.slice sA sn sc,.slice wA wn wc]:=bc.out.grown hgrow (fun e=>aO.out p e.symm rfl)
     obtain⟨g,cM⟩:∃g,A7=some ⟨g,0,none⟩:=by
      rcases hown'.2 with ⟨e0,h1⟩ | ⟨g,cap,ar,e0,_⟩
      .omega
      .injection e0 with e0;exact⟨g,e0⟩
     subst cM
     have bb:g≠p:=by
      rcases hat with e | e
      .exact aO.out g (by rw[<-e];rfl)
      .have e2:g=w5.heap.size:=by
        first
        | (have e3:some g=some w5.heap.size:=e;injection e3)
        | (have e3:some g=some (w4.heap.size+1):=e;injection e3 with e4;rw[e4,aJ];simp)
        | (rw[<-aJ]at e;injection e)
        | (rw[aJ];injection e)
       have:=ca.out;omega
     have bO:(hs ++ [(⟨⟨A6,ln,c6⟩,⟨none,0,0⟩,⟨none,0,0⟩⟩:Hd3)]).length=m+1:=by rw[eB,an.out];rfl
     rw[<-bt.out]at ab;generalize hs ++ [(⟨⟨A6,ln,c6⟩,⟨none,0,0⟩,⟨none,0,0⟩⟩:Hd3)]=hs at ab bO;obtain⟨gs,az⟩:=jG (openG af s);rw[<-az]at ab;have bA:Hid (MSt w0 w2 wb (.slice (some ⟨g,0,none⟩) (m+1) cV) hs gs):=ab;have av:Hid (hs.length=m+1):=bO;have aL:Hid (Blk wb p 58 #[.slice lA ln lc,.slice sA sn sc,.slice wA wn wc]):=a8;have aN:Hid (Below w0.heap.size w0 wb):=ab.b0;have cg:Hid (g≠p):=bb;have bm:Hid (addG gs s=grpG ((ys.take (i+1)).map fh)):=by show _=_;rw[az];exact ax.out
     have ai:Hid (sumS gs<=137438953472):=by show _<=_;rw[az,Kma];exact bU.out
     have dm:m<m+1:=by omega
     have cs:(m:Int)<(m:Int)+1:=by omega
     clear hown' hgrow hat ab a8 bb bO az aG aC cw b9 bc aK cz aO ca bt ax bU an aJ;clear bK bY;obtain⟨K,rfl⟩:=jG m
    case' gd=>
     subst hcc;have bt:Hid (openG af s=af):=by show _=_;unfold openG;rw[jM (fun h=>h.elim cQ.out fun h=>h cI.out.symm)]
     obtain⟨gs,az⟩:=jG af;rw[<-az]at ag;have bA:Hid (MSt w0 w2 wq (.slice (some ⟨g,0,none⟩) m cV) hs gs):=ag.out;have av:Hid (hs.length=k+1):=aD.out;have aL:Hid (Blk wq p 58 #[.slice lA ln lc,.slice sA sn sc,.slice wA wn wc]):=ad.out;have aN:Hid (Below w0.heap.size w0 wq):=ag.out.b0;have bm:Hid (addG gs s=grpG ((ys.take (i+1)).map fh)):=by show _=_;rw[az,<-bt.out];exact ax.out
     have ai:Hid (sumS gs<=137438953472):=by show _<=_;rw[az];exact bU.out
     clear ag ad cI cQ bt az bK bY ax bU an aD cS;obtain⟨wb,ba⟩:=jG wq;subst ba;obtain rfl:m=k+1:=by omega
     obtain⟨K,rfl⟩:=jG k;have dm:K<K+1:=by omega
     have cs:(K:Int)<(K:Int)+1:=by omega
   all_goals
    go_wp2_with fail
    obtain⟨x,hx⟩:∃x,hs[K]? = some x:=⟨hs[K]'(by have:=av.out;omega),el _⟩;have ae:MSt w0 w2 wb.drew (.slice (some ⟨g,0,none⟩) (K+1) cV) hs gs:=bA.out.below (Below.refl _ _).drew;have ah:=ae.rows.at_ K x hx;have aM:gs[K]! = lastS gs:=by unfold lastS;rw[show gs.length - 1=K by have:=av.out;have:=ae.rows.len;omega]
    rw[aM]at ah;have dc:wb.drew.heap.size=wb.heap.size:=rfl;obtain⟨i1,b8,cq,cj,cm⟩:=info_parts Ksc;have cl:Elems wb.drew wb.drew.heap.size 2 Kac sA sn s.samples:=(HS.out.below aN.out.drew).more aN.out.size;have bR:(lastS gs).samples.length<=1099511627776:=by have:=ai.out;have h3:=Kjf (gs:=gs) (k:=K) (by have:=av.out;have:=ae.rows.len;omega);rw[aM]at h3;omega
    have cL:sn<=1099511627776:=dB.out.1;obtain⟨v9,w9,a7,bi,am,bJ⟩:=Kjd (P:=prog) w2.heap.size 55 55 102 i1 (.agg #[.int .i64 0,.int .u64 0]) 2 16 underlying55 b8 cq cj cm rfl (by decide) Khu Kwr (spM x) (lastS gs).samples ah.sm sA sn sc s.samples cl (by unfold maxLen;omega) (by omega) ae.b2.size;obtain⟨A9,c9,rfl⟩:=Kah bi;obtain⟨n9,bP⟩:=jG (((lastS gs).samples++s.samples).length);rw[<-bP]at a7 bi bJ;have ap:=(ae.put aW.out (k:=K) (x:=x) (x':=⟨x.l,⟨A9,n9,c9⟩,x.w⟩) (s':=⟨(lastS gs).labels,(lastS gs).samples++s.samples,(lastS gs).windows⟩) (w4:=w9) hx am.os am.tape am.output am.size (fun j hj h1 h2=>am.block j hj h1) rfl (by rw[aM]) (by show w9.ownsRow _ _ _ (.slice A9 n9 c9) ((lastS gs).samples++s.samples).length _;rw[<-bP];exact bi) (Kcv (v:=wpM x) ah.wd am.size (fun j hj=>am.block j (ah.wd.lt j hj).2 (fun e=>(Kas ah.wd ah.sm (by decide)).elim (fun q=>by rw[q]at hj;cases hj) (fun q=>q (hj.trans e))))) bJ (.inl rfl)).1 rfl
    have aa:wb.drew.cell? ⟨g,K*3+1,none⟩=some (.slice x.s.A x.s.n x.s.c):=by
     have h1:=ae.row.cells (g:=g) rfl (K*3+1) (.slice x.s.A x.s.n x.s.c) (by rw[Kcw Kda hs K 1 x hx (by decide)];rfl);have ea:(⟨g,0,none⟩:Addr).add (K*3+1)=⟨g,K*3+1,none⟩:=by unfold fr;simp
     rw[ea]at h1;exact h1
    have aY:Blk wb.drew p 58 #[.slice lA ln lc,.slice sA sn sc,.slice wA wn wc]:=aL.out;have cb:wb.drew.cell? ⟨p,1,none⟩=some (.slice sA sn sc):=aY.cell 1;have bX:g<wb.drew.heap.size:=(ae.row.lt g rfl).2;have b6:g≠p:=cg.out
    have ak:w9.cell? ⟨g,K*3+1,none⟩=some (.slice x.s.A x.s.n x.s.c):=by obtain⟨ar,aq⟩:=Kax ae.row (r:=g) rfl;have aV:Blk wb.drew g 58 ar:=aq;exact(ev (w:=wb.drew) (am.block g bX (Kak aV ah.sm (by decide)))).trans aa
    have bF:w9.frozen? ⟨g,K*3+1,none⟩=false:=by obtain⟨ar,aq⟩:=Kax ae.row (r:=g) rfl;have aV:Blk wb.drew g 58 ar:=aq;exact(aV.grown am (Kak aV ah.sm (by decide))).frozen _
    have a0:Blk w9 p 58 #[.slice lA ln lc,.slice sA sn sc,.slice wA wn wc]:=aY.grown am (Kak aY ah.sm (by decide));have aE:Blk (w9.setCell ⟨g,K*3+1,none⟩ (.slice A9 n9 c9)) p 58 #[.slice lA ln lc,.slice sA sn sc,.slice wA wn wc]:=a0.far (fun e=>b6 e.symm) _;have cW:Below wb.heap.size wb (w9.setCell ⟨g,K*3+1,none⟩ (.slice A9 n9 c9))\/True:=.inr trivial;have bC:Below w0.heap.size w0 (w9.setCell ⟨g,K*3+1,none⟩ (.slice A9 n9 c9)):=ap.b0
    have aI:sumS (gs.set K ⟨(lastS gs).labels,(lastS gs).samples++s.samples,(lastS gs).windows⟩)=sumS gs+s.samples.length:=by have h3:=Khw gs K ⟨(lastS gs).labels,(lastS gs).samples++s.samples,(lastS gs).windows⟩ (by have:=av.out;have:=ae.rows.len;omega);rw[aM]at h3;simp only[eB]at h3;omega
    have al:lastS (gs.set K ⟨(lastS gs).labels,(lastS gs).samples++s.samples,(lastS gs).windows⟩)=⟨(lastS gs).labels,(lastS gs).samples++s.samples,(lastS gs).windows⟩:=by unfold lastS;rw[eA,show gs.length - 1=K by have:=av.out;have:=ae.rows.len;omega,jI _ K (by rw[eA];have:=av.out;have:=ae.rows.len;omega),eM]
    have hS:wb.drew.cell? ⟨g,K*3+1,none⟩=some (.slice x.s.A x.s.n x.s.c)/\wb.drew.cell? ⟨p,1,none⟩=some (.slice sA sn sc):=⟨aa,cb⟩;have b7:spM x = .slice x.s.A x.s.n x.s.c:=rfl;rw[b7]at a7;obtain⟨xA,bs⟩:=jG x.s.A;obtain⟨xn,bL⟩:=jG x.s.n;obtain⟨xc,bq⟩:=jG x.s.c;rw[<-bs,<-bL,<-bq]at hS a7 ak;have a5:=Jh ap;have a6:=Jh aE;have aU:=Jh aI;have aA:=Jh al;have c4:=Jh aM;have dg:=Jh hx;clear ae ah aM dc cl bR cL bi am bJ ap aa aY cb a0 aE cW bC aI al b7 bs bL bq bP hx b8 cq cj cm;refine Kck (fun w'=>w'.cell? ⟨g,K*3+1,none⟩=some (.slice xA xn xc)/\w'.cell? ⟨p,1,none⟩=some (.slice sA sn sc)) 9 13 (by kernel_rfl) rfl ?_;rw[show eK 13 false = #[false,false,false,false,false,false,false,false,false,false,false,false,false] from rfl];refine kP (i:=0) (d:=some 45) hS ?_;simp only[er,Ja,Jb,Jc];refine kP (i:=1) (d:=some 46) hS ?_;simp only[er,Ja,Jb,Jc];refine kP (i:=2) (d:=some 47) hS ?_;simp only[er,Ja,Jb,Jc];refine kP (i:=3) (d:=some 48) hS ?_;simp only[er,Ja,Jb,Jc];refine kP (i:=4) (d:=some 49) hS ?_;simp only[er,Ja,Jb,Jc];refine kP (i:=5) (d:=some 50) hS ?_;simp only[er,Ja,Jb,Jc];refine kP (i:=7) (d:=some 52) hS ?_;simp only[er,Ja,Jb,Jc];refine Kbc (i:=6) (d:=some 51) rfl rfl (by kernel_rfl) (by kernel_rfl) (by kernel_rfl) (by kernel_rfl) rfl (fun _ _ _ h=>h) (.inl ⟨by rfl,fun w hw=>by (obtain⟨ha,hb⟩:=hw;go_simp;try rfl)⟩) hS ?_;simp only[er,Ja,Jb,Jc];refine Kbc (i:=8) (d:=some 53) rfl rfl (by kernel_rfl) (by kernel_rfl) (by kernel_rfl) (by kernel_rfl) rfl (fun _ _ _ h=>h) (.inl ⟨by rfl,fun w hw=>by (obtain⟨ha,hb⟩:=hw;go_simp;try rfl)⟩) hS ?_;simp only[er,Ja,Jb,Jc];refine Kag (i:=9) (by kernel_rfl) rfl rfl ?_;refine fc (d:=some 54) (w':=w9) (v:=.slice A9 n9 c9) rfl (Kmy _ _ _ rfl rfl rfl a7) ?_;refine⟨fun h=>jS h (by decide),?_⟩;simp only[er,Ja,Jb,Jc];refine Kcu (i:=10) (d:=some 55) rfl rfl (by kernel_rfl) (by kernel_rfl) (by kernel_rfl) rfl (fun _ _ _ h=>h) (by rfl) (fun w=>by go_simp;try rfl) (fun h=>jS h (by decide)) ?_;simp only[er,Ja,Jb,Jc];refine Kcu (i:=11) (d:=some 56) rfl rfl (by kernel_rfl) (by kernel_rfl) (by kernel_rfl) rfl (fun _ _ _ h=>h) (by rfl) (fun w=>by go_simp;try rfl) (fun h=>jS h (by decide)) ?_;simp only[er,Ja,Jb,Jc];refine Kag (i:=12) (by kernel_rfl) rfl rfl ?_;refine fd (w':=w9.setCell ⟨g,K*3+1,none⟩ (.slice A9 n9 c9)) rfl (by go_simp;try rfl) ?_;refine⟨fun h=>jS h (by decide),?_⟩;refine Kby (by kernel_rfl) ?_ _;obtain⟨aj,bn⟩:=jG (w9.setCell ⟨g,K*3+1,none⟩ (.slice A9 n9 c9));have aw:Hid (MSt w0 w2 aj (.slice (some ⟨g,0,none⟩) (K+1) cV) (hs.set K ⟨x.l,⟨A9,n9,c9⟩,x.w⟩) (gs.set K ⟨(lastS gs).labels,(lastS gs).samples++s.samples,(lastS gs).windows⟩)):=by show MSt _ _ _ _ _ _;rw[bn];exact a5.out
    have aS:Hid (Blk aj p 58 #[.slice lA ln lc,.slice sA sn sc,.slice wA wn wc]):=by show Blk _ _ _ _;rw[bn];exact a6.out
    have bh:Hid ((hs.set K ⟨x.l,⟨A9,n9,c9⟩,x.w⟩).length=K+1):=by show _=_;rw[eA];exact av.out
    rw[<-bn];clear bn hS a7 ak bF a5 a6 bX b6;have cy:Hid (Below w0.heap.size w0 aj):=aw.out.b0
    have bw:Hid (sumS (gs.set K ⟨(lastS gs).labels,(lastS gs).samples++s.samples,(lastS gs).windows⟩)<=274877906944):=by
     show _<=_
     rw[aU.out];have:=ai.out;have:=d8.out.1;omega
    obtain⟨aZ,bQ⟩:=jG (hs.set K ⟨x.l,⟨A9,n9,c9⟩,x.w⟩);obtain⟨ac,bf⟩:=jG (gs.set K ⟨(lastS gs).labels,(lastS gs).samples++s.samples,(lastS gs).windows⟩);have bz:Hid (MSt w0 w2 aj (.slice (some ⟨g,0,none⟩) (K+1) cV) aZ ac):=by show MSt _ _ _ _ _ _;rw[bQ,bf];exact aw.out
    have ck:Hid (aZ.length=K+1):=by show _=_;rw[bQ];exact bh.out
    have br:Hid (sumS ac<=274877906944):=by show _<=_;rw[bf];exact bw.out
    have co:Hid (ac.set K ⟨(lastS ac).labels,(lastS ac).samples,(lastS ac).windows++s.windows⟩=addG gs s):=by
     show _=_
     rw[bf,aA.out,List.set_set];unfold addG;rw[show gs.length - 1=K by have h1:=bA.out.rows.len;have:=av.out;omega]
    clear bQ bf aw bh bw aU aA c4 dg bA av ai aL aN;have bA:Hid (MSt w0 w2 aj (.slice (some ⟨g,0,none⟩) (K+1) cV) aZ ac):=bz.out;have av:Hid (aZ.length=K+1):=ck.out;have ai:Hid (sumS ac<=274877906944):=br.out;have aL:Hid (Blk aj p 58 #[.slice lA ln lc,.slice sA sn sc,.slice wA wn wc]):=aS.out;have aN:Hid (Below w0.heap.size w0 aj):=cy.out;clear bz ck br aS cy;go_wp2_with fail
    obtain⟨x,hx⟩:∃x,aZ[K]? = some x:=⟨aZ[K]'(by have:=av.out;omega),el _⟩;have ae:MSt w0 w2 aj.drew (.slice (some ⟨g,0,none⟩) (K+1) cV) aZ ac:=bA.out.below (Below.refl _ _).drew;have ah:=ae.rows.at_ K x hx;have aM:ac[K]! = lastS ac:=by unfold lastS;rw[show ac.length - 1=K by have:=av.out;have:=ae.rows.len;omega]
    rw[aM]at ah;have dc:aj.drew.heap.size=aj.heap.size:=rfl;obtain⟨i1,b8,cq,cj,cm⟩:=info_parts Ksd;have cl:Elems aj.drew aj.drew.heap.size 6 Kad wA wn s.windows:=(HW.out.below aN.out.drew).more aN.out.size;have bR:(lastS ac).windows.length<=1099511627776:=by have:=ai.out;have h3:=Kjf (gs:=ac) (k:=K) (by have:=av.out;have:=ae.rows.len;omega);rw[aM]at h3;omega
    have cL:wn<=1099511627776:=dB.out.2;obtain⟨v9,w9,a7,bi,am,bJ⟩:=Kjd (P:=prog) w2.heap.size 56 56 135 i1 (.agg #[.int .i64 0,.int .i64 0,.int .u64 0,.int .u64 0,.int .u64 0,.int .u64 0]) 6 48 underlying56 b8 cq cj cm rfl (by decide) Khy Kxg (wpM x) (lastS ac).windows ah.wd wA wn wc s.windows cl (by unfold maxLen;omega) (by omega) ae.b2.size;obtain⟨A9,c9,rfl⟩:=Kah bi;obtain⟨n9,bP⟩:=jG (((lastS ac).windows++s.windows).length);rw[<-bP]at a7 bi bJ;have ap:=(ae.put aW.out (k:=K) (x:=x) (x':=⟨x.l,x.s,⟨A9,n9,c9⟩⟩) (s':=⟨(lastS ac).labels,(lastS ac).samples,(lastS ac).windows++s.windows⟩) (w4:=w9) hx am.os am.tape am.output am.size (fun j hj h1 h2=>am.block j hj h2) rfl (by rw[aM]) (Kcv (v:=spM x) ah.sm am.size (fun j hj=>am.block j (ah.sm.lt j hj).2 (fun e=>(Kas ah.sm ah.wd (by decide)).elim (fun q=>by rw[q]at hj;cases hj) (fun q=>q (hj.trans e))))) (by show w9.ownsRow _ _ _ (.slice A9 n9 c9) ((lastS ac).windows++s.windows).length _;rw[<-bP];exact bi) (.inl rfl) bJ).2.1 rfl
    have aa:aj.drew.cell? ⟨g,K*3+2,none⟩=some (.slice x.w.A x.w.n x.w.c):=by
     have h1:=ae.row.cells (g:=g) rfl (K*3+2) (.slice x.w.A x.w.n x.w.c) (by rw[Kcw Kda aZ K 2 x hx (by decide)];rfl);have ea:(⟨g,0,none⟩:Addr).add (K*3+2)=⟨g,K*3+2,none⟩:=by unfold fr;simp
     rw[ea]at h1;exact h1
    have aY:Blk aj.drew p 58 #[.slice lA ln lc,.slice sA sn sc,.slice wA wn wc]:=aL.out;have cb:aj.drew.cell? ⟨p,2,none⟩=some (.slice wA wn wc):=aY.cell 2;have bX:g<aj.drew.heap.size:=(ae.row.lt g rfl).2;have b6:g≠p:=cg.out
    have ak:w9.cell? ⟨g,K*3+2,none⟩=some (.slice x.w.A x.w.n x.w.c):=by obtain⟨ar,aq⟩:=Kax ae.row (r:=g) rfl;have aV:Blk aj.drew g 58 ar:=aq;exact(ev (w:=aj.drew) (am.block g bX (Kak aV ah.wd (by decide)))).trans aa
    have bF:w9.frozen? ⟨g,K*3+2,none⟩=false:=by obtain⟨ar,aq⟩:=Kax ae.row (r:=g) rfl;have aV:Blk aj.drew g 58 ar:=aq;exact(aV.grown am (Kak aV ah.wd (by decide))).frozen _
    have a0:Blk w9 p 58 #[.slice lA ln lc,.slice sA sn sc,.slice wA wn wc]:=aY.grown am (Kak aY ah.wd (by decide));have aE:Blk (w9.setCell ⟨g,K*3+2,none⟩ (.slice A9 n9 c9)) p 58 #[.slice lA ln lc,.slice sA sn sc,.slice wA wn wc]:=a0.far (fun e=>b6 e.symm) _;have cW:Below aj.heap.size aj (w9.setCell ⟨g,K*3+2,none⟩ (.slice A9 n9 c9))\/True:=.inr trivial;have bC:Below w0.heap.size w0 (w9.setCell ⟨g,K*3+2,none⟩ (.slice A9 n9 c9)):=ap.b0
    have aI:sumS (ac.set K ⟨(lastS ac).labels,(lastS ac).samples,(lastS ac).windows++s.windows⟩)=sumS ac+s.windows.length:=by have h3:=Khw ac K ⟨(lastS ac).labels,(lastS ac).samples,(lastS ac).windows++s.windows⟩ (by have:=av.out;have:=ae.rows.len;omega);rw[aM]at h3;simp only[eB]at h3;omega
    have al:lastS (ac.set K ⟨(lastS ac).labels,(lastS ac).samples,(lastS ac).windows++s.windows⟩)=⟨(lastS ac).labels,(lastS ac).samples,(lastS ac).windows++s.windows⟩:=by unfold lastS;rw[eA,show ac.length - 1=K by have:=av.out;have:=ae.rows.len;omega,jI _ K (by rw[eA];have:=av.out;have:=ae.rows.len;omega),eM]
    have hS:aj.drew.cell? ⟨g,K*3+2,none⟩=some (.slice x.w.A x.w.n x.w.c)/\aj.drew.cell? ⟨p,2,none⟩=some (.slice wA wn wc):=⟨aa,cb⟩;have b7:wpM x = .slice x.w.A x.w.n x.w.c:=rfl;rw[b7]at a7;obtain⟨xA,bs⟩:=jG x.w.A;obtain⟨xn,bL⟩:=jG x.w.n;obtain⟨xc,bq⟩:=jG x.w.c;rw[<-bs,<-bL,<-bq]at hS a7 ak;have a5:=Jh ap;have a6:=Jh aE;have aU:=Jh aI;have aA:=Jh al;have c4:=Jh aM;have dg:=Jh hx;clear ae ah aM dc cl bR cL bi am bJ ap aa aY cb a0 aE cW bC aI al b7 bs bL bq bP hx b8 cq cj cm;refine Kck (fun w'=>w'.cell? ⟨g,K*3+2,none⟩=some (.slice xA xn xc)/\w'.cell? ⟨p,2,none⟩=some (.slice wA wn wc)) 9 13 (by kernel_rfl) rfl ?_;rw[show eK 13 false = #[false,false,false,false,false,false,false,false,false,false,false,false,false] from rfl];refine kP (i:=0) (d:=some 57) hS ?_;simp only[er,Ja,Jb,Jc];refine kP (i:=1) (d:=some 58) hS ?_;simp only[er,Ja,Jb,Jc];refine kP (i:=2) (d:=some 59) hS ?_;simp only[er,Ja,Jb,Jc];refine kP (i:=3) (d:=some 60) hS ?_;simp only[er,Ja,Jb,Jc];refine kP (i:=4) (d:=some 61) hS ?_;simp only[er,Ja,Jb,Jc];refine kP (i:=5) (d:=some 62) hS ?_;simp only[er,Ja,Jb,Jc];refine kP (i:=7) (d:=some 64) hS ?_;simp only[er,Ja,Jb,Jc];refine Kbc (i:=6) (d:=some 63) rfl rfl (by kernel_rfl) (by kernel_rfl) (by kernel_rfl) (by kernel_rfl) rfl (fun _ _ _ h=>h) (.inl ⟨by rfl,fun w hw=>by (obtain⟨ha,hb⟩:=hw;go_simp;try rfl)⟩) hS ?_;simp only[er,Ja,Jb,Jc];refine Kbc (i:=8) (d:=some 65) rfl rfl (by kernel_rfl) (by kernel_rfl) (by kernel_rfl) (by kernel_rfl) rfl (fun _ _ _ h=>h) (.inl ⟨by rfl,fun w hw=>by (obtain⟨ha,hb⟩:=hw;go_simp;try rfl)⟩) hS ?_;simp only[er,Ja,Jb,Jc];refine Kag (i:=9) (by kernel_rfl) rfl rfl ?_;refine fc (d:=some 66) (w':=w9) (v:=.slice A9 n9 c9) rfl (Kmy _ _ _ rfl rfl rfl a7) ?_;refine⟨fun h=>jS h (by decide),?_⟩;simp only[er,Ja,Jb,Jc];refine Kcu (i:=10) (d:=some 67) rfl rfl (by kernel_rfl) (by kernel_rfl) (by kernel_rfl) rfl (fun _ _ _ h=>h) (by rfl) (fun w=>by go_simp;try rfl) (fun h=>jS h (by decide)) ?_;simp only[er,Ja,Jb,Jc];refine Kcu (i:=11) (d:=some 68) rfl rfl (by kernel_rfl) (by kernel_rfl) (by kernel_rfl) rfl (fun _ _ _ h=>h) (by rfl) (fun w=>by go_simp;try rfl) (fun h=>jS h (by decide)) ?_;simp only[er,Ja,Jb,Jc];refine Kag (i:=12) (by kernel_rfl) rfl rfl ?_;refine fd (w':=w9.setCell ⟨g,K*3+2,none⟩ (.slice A9 n9 c9)) rfl (by go_simp;try rfl) ?_;refine⟨fun h=>jS h (by decide),?_⟩;refine Kby (by kernel_rfl) ?_ _;obtain⟨cP,bg⟩:=jG (w9.setCell ⟨g,K*3+2,none⟩ (.slice A9 n9 c9));have aw:Hid (MSt w0 w2 cP (.slice (some ⟨g,0,none⟩) (K+1) cV) (aZ.set K ⟨x.l,x.s,⟨A9,n9,c9⟩⟩) (ac.set K ⟨(lastS ac).labels,(lastS ac).samples,(lastS ac).windows++s.windows⟩)):=by show MSt _ _ _ _ _ _;rw[bg];exact a5.out
    have aS:Hid (Blk cP p 58 #[.slice lA ln lc,.slice sA sn sc,.slice wA wn wc]):=by show Blk _ _ _ _;rw[bg];exact a6.out
    have bh:Hid ((aZ.set K ⟨x.l,x.s,⟨A9,n9,c9⟩⟩).length=K+1):=by show _=_;rw[eA];exact av.out
    rw[<-bg];clear bg hS a7 ak bF a5 a6 bX b6
    have dq:Hid (MSt w0 w2 cP (.slice (some ⟨g,0,none⟩) (K+1) cV) (aZ.set K ⟨x.l,x.s,⟨A9,n9,c9⟩⟩) ((ys.take (i+1)).map fh |> grpG)):=by
     show MSt _ _ _ _ _ _
     rw[<-bm.out,<-co.out];exact aw.out
    generalize aZ.set K ⟨x.l,x.s,⟨A9,n9,c9⟩⟩=hs3 at dq bh;clear aw aU aA c4 dg co bm bA av ai aL aN aS;go_wp2_with fail
    go_roundg (N - (i+1))
    case measure=>omega
    case rel=>exact⟨i+1,hs3,by first | rfl | go_num,by omega,dq⟩
  .have dd:¬(i:Int)<(N:Int):=by omega
   have dY:i=N:=by omega
   obtain⟨gs,az⟩:=jG (grpG (ys.map fh));have c8:grpG ((ys.take i).map fh)=gs:=by rw[az,eI (by rw[dp.out];omega)]
   rw[c8]at HM;have d4:Hid (gs=grpG (ys.map fh)):=az
   have ai:Hid (sumS gs<=137438953472):=by
    show _<=_
    rw[az];unfold grpG;rw[Kww];have:=a9.out;simpa[sumS]using this
   obtain⟨A4,cV,bT⟩:=Kah HM.out.row;obtain⟨m,hm⟩:=jG hs.length;rw[<-hm]at bT
   have dX:m<=274877906944:=by have h1:=HM.out.rows.len;have h2:=Kzx ((ys.take i).map fh) [];rw[eJ,eq,eb]at h2;have h3:grpG ((ys.take i).map fh)=gs:=c8;unfold grpG at h3;rw[h3]at h2;omega
   have cU:Hid (gs.length=m):=by show _=_;rw[hm];exact HM.out.rows.len.symm
   have M1:Hid (MSt w0 w2 wr (.slice A4 m cV) hs ((gs.take 0).map Kay++gs.drop 0)):=by
    show MSt _ _ _ _ _ _
    rw[<-bT];simpa using HM.out
   subst bT;clear az c8 hm HM dY hi;go_wp2_with fail
   go_loopg [72] m (fun kx s72 wr=>∃(i:Nat) (hs:List Hd3),s72 = .int .i64 (i:Int)/\i+kx=m/\Hid (MSt w0 w2 wr (.slice A4 m cV) hs ((gs.take i).map Kay++gs.drop i)))
   case atStart=>exact⟨0,hs,rfl,by omega,M1⟩
   case round=>
    clear M1;clear hs;obtain⟨i,hs,rfl,hi,HM⟩:=hrel;rcases eo i m with cr | hge
    .have dd:(i:Int)<(m:Int):=by omega
     obtain⟨g,cT⟩:∃g,A4=some ⟨g,0,none⟩:=by
      rcases HM.out.row.2 with ⟨e0,h1⟩ | ⟨g,cap,ar,e0,_⟩
      .injection e0 with _ e1;omega
      .injection e0 with e0;exact⟨g,e0⟩
     subst cT;have cN:i<gs.length:=by rw[cU.out];exact cr
     obtain⟨cG,cB⟩:=Qej gs cN
     have bv:hs.length=m:=by
      rcases HM.out.row.2 with ⟨e0,_⟩ | ⟨g',cap,ar,e0,_⟩
      .cases e0
      .injection e0 with _ e1;exact e1.symm
     obtain⟨x,hx⟩:∃x,hs[i]? = some x:=⟨hs[i]'(by omega),el _⟩
     have aa:∀j v,j<3->(encH3 x)[j]? = some v->wr.cell? ⟨g,i*3+j,none⟩=some v:=fun j v hj hv=>by
      have h1:=HM.out.row.cells (g:=g) rfl (i*3+j) v (by rw[Kcw Kda hs i j x hx hj];exact hv)
      have ea:(⟨g,0,none⟩:Addr).add (i*3+j)=⟨g,i*3+j,none⟩:=by
       unfold fr
       split
       .rename_i h0;simp at h0 |-;(try omega)
       .simp
      rw[ea]at h1;exact h1
     have c5:=Kjf cN;have cX:gs[i]!.samples.length<=137438953472/\gs[i]!.windows.length<=137438953472:=by have:=ai.out;omega
     obtain⟨si,dQ⟩:=jG (gs[i]!);obtain⟨ar,aq⟩:=jG ((gs.take i).map Kay++gs.drop i);rw[<-dQ]at cG cB cX;rw[<-aq]at cG cB HM;have de:Hid (ar.set i (Kay si)=(gs.take (i+1)).map Kay++gs.drop (i+1)):=cG;have bW:Hid (ar[i]! = si):=cB;have dl:Hid (si.samples.length<=137438953472/\si.windows.length<=137438953472):=cX;have bB:g<wr.heap.size:=(HM.out.row.lt g rfl).2;obtain⟨⟨xA,xn,xc⟩,⟨sA,sn,sc⟩,⟨wA,wn,wc⟩⟩:=x;have c0:=aa 0 (.slice xA xn xc) (by decide) rfl;have c1:=aa 1 (.slice sA sn sc) (by decide) rfl;have c2:=aa 2 (.slice wA wn wc) (by decide) rfl;rw[Nat.add_zero]at c0;have HX:Hid (hs[i]? = some ⟨⟨xA,xn,xc⟩,⟨sA,sn,sc⟩,⟨wA,wn,wc⟩⟩):=hx;clear cG cB cX c5 aa hx aq dQ;go_upto_region 17 with fail
     obtain⟨wb,ba⟩:=jG (wr.alloc (.cells #[.slice xA xn xc,.slice sA sn sc,.slice wA wn wc] 58));obtain⟨p,hp⟩:=jG wr.heap.size;have aY:Blk wb p 58 #[.slice xA xn xc,.slice sA sn sc,.slice wA wn wc]:=by rw[ba,hp];exact fi _ _ _
     have ae:MSt w0 w2 wb.drew (.slice (some ⟨g,0,none⟩) m cV) hs ar:=by
      have:MSt w0 w2 wb (.slice (some ⟨g,0,none⟩) m cV) hs ar:=by rw[ba];exact HM.out.below ((Below.refl _ _).alloc (ep _) _)
      exact this.below (Below.refl _ _).drew
     rw[<-ba,<-hp];have be:Blk wb.drew p 58 #[.slice xA xn xc,.slice sA sn sc,.slice wA wn wc]:=aY;obtain⟨xl,dP⟩:∃q:Hd,q=⟨xA,xn,xc⟩:=⟨_,rfl⟩;have ah:=ae.rows.at_ i _ HX.out;rw[bW.out]at ah;have ao:Hid (∃N1:Value->World->Prop,(∀u w',N1 u w'↔∃zs,Kbd Smp.t si.samples zs/\w'.ownsRow w2.heap.size 102 2 u zs.length (zs.flatMap Kac)/\u.ownBlock=(ej sA sn sc).ownBlock/\wb.drew.grownBy w' (ej sA sn sc).ownBlock)):=⟨fun u w'=>_,fun u w'=>Iff.rfl⟩;obtain⟨N1,ao⟩:=ao.out;have aR:Hid (∃N2:World->Value->World->Prop,(∀w6 u w',N2 w6 u w'↔∃zs,Kbd fm si.windows zs/\w'.ownsRow w2.heap.size 135 6 u zs.length (zs.flatMap Kad)/\u.ownBlock=(ej wA wn wc).ownBlock/\w6.grownBy w' (ej wA wn wc).ownBlock)):=⟨fun w6 u w'=>_,fun w6 u w'=>Iff.rfl⟩;obtain⟨N2,aR⟩:=aR.out;have ce:wb.drew.ownsRow w2.heap.size 102 2 (.slice sA sn sc) si.samples.length (si.samples.flatMap Kac):=ah.sm;have ch:wb.drew.ownsRow w2.heap.size 135 6 (.slice wA wn wc) si.windows.length (si.windows.flatMap Kad):=ah.wd;have dI:∀j,(ej wA wn wc).ownBlock=some j->some j≠(ej sA sn sc).ownBlock:=fun j hj e=>(Kas ch ce (by decide)).elim (fun q=>by rw[q]at hj;cases hj) (fun q=>q (hj.trans e))
     have cF:Hid (Calls prog 62 #[.slice sA sn sc,.func (.func 63) #[] #[]] wb.drew fun e w'=>∃u,e = .returned u/\N1 u w'):=by refine(Kyp si.samples w2.heap.size si.samples.length _ wb.drew ce rfl (by have:=dl.out;omega)).mono ?_;rintro e w' ⟨v',zs,rfl,h1,h2,h3,h4⟩;exact⟨_,rfl,(ao _ _).2 ⟨zs,h1,h2,h3,h4⟩⟩
     have bG:∀u1 w6,N1 u1 w6->w6.ownsRow w2.heap.size 135 6 (.slice wA wn wc) si.windows.length (si.windows.flatMap Kad):=fun u1 w6 h=>by obtain⟨zs,_,_,_,h4⟩:=(ao _ _).1 h;exact Kcv ch h4.size fun j hj=>h4.block j (ch.lt j hj).2 (dI j hj)
     have cD:Hid (∀u1 w6,N1 u1 w6->Calls prog 64 #[.slice wA wn wc,.func (.func 65) #[] #[]] w6 fun e w'=>∃u,e = .returned u/\N2 w6 u w'):=fun u1 w6 h=>by refine(Kyt si.windows w2.heap.size si.windows.length _ w6 (bG u1 w6 h) rfl (by have:=dl.out;omega)).mono ?_;rintro e w' ⟨v',zs,rfl,h1,h2,h3,h4⟩;exact⟨_,rfl,(aR _ _ _).2 ⟨zs,h1,h2,h3,h4⟩⟩
     have cC:Hid (∀u1 w6,N1 u1 w6->w6.cell? ⟨p,2,none⟩=some (.slice wA wn wc)):=fun u1 w6 h=>by obtain⟨zs,_,_,_,h4⟩:=(ao _ _).1 h;have hb:Blk w6 p 58 #[.slice xA xn xc,.slice sA sn sc,.slice wA wn wc]:=be.grown h4 (Kak be ce (by decide));exact hb.cell 2
     have dy:Hid (∀u w',N1 u w'->∃A n c,u = .slice A n c):=fun u w' h=>by obtain⟨zs,_,h2,_⟩:=(ao _ _).1 h;obtain⟨A1,c1,e⟩:=Kah h2;exact⟨A1,_,c1,e⟩
     have dv:Hid (∀w6 u w',N2 w6 u w'->∃A n c,u = .slice A n c):=fun w6 u w' h=>by obtain⟨zs,_,h2,_⟩:=(aR _ _ _).1 h;obtain⟨A1,c1,e⟩:=Kah h2;exact⟨A1,_,c1,e⟩
     have bM:∀{u1 w6 u2 w7},N1 u1 w6->N2 w6 u2 w7->∀j,j<wb.drew.heap.size->some j≠(ej sA sn sc).ownBlock->some j≠(ej wA wn wc).ownBlock->w7.heap[j]? = wb.drew.heap[j]?:=fun {u1 w6 u2 w7} h h' j hj n1 n2=>by obtain⟨_,_,_,_,h4⟩:=(ao _ _).1 h;obtain⟨_,_,_,_,k4⟩:=(aR _ _ _).1 h';exact(k4.block j (eP hj h4.size) n2).trans (h4.block j hj n1)
     have bV:Hid (∀A1 n1 c1 w6 A2 n2 c2 w7,N1 (.slice A1 n1 c1) w6->N2 w6 (.slice A2 n2 c2) w7->MSt w0 w2 ((w7.setCell ⟨g,i*3+1,none⟩ (.slice A1 n1 c1)).setCell ⟨g,i*3+2,none⟩ (.slice A2 n2 c2)) (.slice (some ⟨g,0,none⟩) m cV) (hs.set i ⟨xl,⟨A1,n1,c1⟩,⟨A2,n2,c2⟩⟩) ((gs.take (i+1)).map Kay++gs.drop (i+1))):=fun A1 n1 c1 w6 A2 n2 c2 w7 h h'=>by
      obtain⟨zs,a1,a2,a3,a4⟩:=(ao _ _).1 h;obtain⟨ws,b1,b2,b3,b4⟩:=(aR _ _ _).1 h';have e1:=Kyr a1;have e2:=Kys b1;rw[<-de.out]
      have dS:w7.ownsRow w2.heap.size 102 2 (.slice A1 n1 c1) (Kay si).samples.length ((Kay si).samples.flatMap Kac):=by
       rw[e1];refine Kcv a2 b4.size fun j hj=>b4.block j (a2.lt j hj).2 fun e=>?_
       have h6:=bG _ _ h;exact(Kas h6 a2 (by decide)).elim (fun q=>by rw[q]at e;cases e) (fun q=>q (e.symm.trans hj.symm))
      have d6:w7.ownsRow w2.heap.size 135 6 (.slice A2 n2 c2) (Kay si).windows.length ((Kay si).windows.flatMap Kad):=by rw[e2];exact b2
      exact(ae.put aW.out (k:=i) (x:=⟨⟨xA,xn,xc⟩,⟨sA,sn,sc⟩,⟨wA,wn,wc⟩⟩) (x':=⟨xl,⟨A1,n1,c1⟩,⟨A2,n2,c2⟩⟩) (s':=Kay si) (w4:=w7) HX.out (b4.os.trans a4.os) (b4.tape.trans a4.tape) (b4.output.trans a4.output) (eG a4.size b4.size) (bM h h') dP (by rw[bW.out];rfl) dS d6 (.inl a3) (.inl b3)).2.2
     have dH:Hid (∀u1 w6 u2 w7,N1 u1 w6->N2 w6 u2 w7->w7.cell? ⟨g,i*3+1,none⟩=some (.slice sA sn sc)/\w7.cell? ⟨g,i*3+2,none⟩=some (.slice wA wn wc)/\w7.frozen? ⟨g,i*3+1,none⟩=false/\w7.frozen? ⟨g,i*3+2,none⟩=false):=fun u1 w6 u2 w7 h h'=>by
      obtain⟨cu,dh⟩:=Kax ae.row (r:=g) rfl;have aV:Blk wb.drew g 58 cu:=dh;have c7:=bM h h' g (ae.row.lt g rfl).2 (Kak aV ce (by decide)) (Kak aV ch (by decide));have cx:Blk w7 g 58 cu:=c7.trans aV
      have hcc:∀j v,j<3->(encH3 ⟨⟨xA,xn,xc⟩,⟨sA,sn,sc⟩,⟨wA,wn,wc⟩⟩)[j]? = some v->wb.drew.cell? ⟨g,i*3+j,none⟩=some v:=fun j v hj hv=>by
       have h1:=ae.row.cells (g:=g) rfl (i*3+j) v (by rw[Kcw Kda hs i j _ HX.out hj];exact hv)
       have ea:(⟨g,0,none⟩:Addr).add (i*3+j)=⟨g,i*3+j,none⟩:=by
        unfold fr
        split
        .rename_i h0;simp at h0 |-;(try omega)
        .simp
       rw[ea]at h1;exact h1
      exact⟨(ev c7).trans (hcc 1 _ (by decide) rfl),(ev c7).trans (hcc 2 _ (by decide) rfl),cx.frozen _,cx.frozen _⟩
     have hb1:wb.drew.cell? ⟨p,1,none⟩=some (.slice sA sn sc):=be.cell 1;have cf:wb.drew.cell? ⟨p,2,none⟩=some (.slice wA wn wc):=be.cell 2;clear ba hp aY ae be ah ao aR ce ch dI bG bM c0 c1 c2 bB bv cN HM dP;refine Kck (fun _=>True) 6 16 (by kernel_rfl) rfl ?_;rw[show eK 16 false = #[false,false,false,false,false,false,false,false,false,false,false,false,false,false,false,false] from rfl];refine kP (i:=0) (d:=some 77) trivial ?_;simp only[er,Ja,Jb,Jc];refine kP (i:=1) (d:=some 78) trivial ?_;simp only[er,Ja,Jb,Jc];refine kP (i:=2) (d:=some 79) trivial ?_;simp only[er,Ja,Jb,Jc];refine kP (i:=3) (d:=some 80) trivial ?_;simp only[er,Ja,Jb,Jc];refine kP (i:=4) (d:=some 81) trivial ?_;simp only[er,Ja,Jb,Jc];refine kP (i:=7) (d:=some 84) trivial ?_;simp only[er,Ja,Jb,Jc];refine Kha (i:=5) (j:=8) (by kernel_rfl) rfl rfl rfl rfl ?gA ?gB
     case' gA=>
      refine fc (d:=some 82) (w':=wb.drew) (v:=.slice sA sn sc) rfl (by go_simp;try rfl) ?_;refine⟨fun _=>trivial,?_⟩;simp only[er,Ja,Jb,Jc];refine Kha (i:=6) (j:=8) (by kernel_rfl) rfl rfl rfl rfl ?gC ?gD
      case' gC=>
       refine fb (d:=some 83) (g:=62) (args:=#[.slice sA sn sc,.func (.func 63) #[] #[]]) rfl (by go_simp;try rfl) cF.out ?_;rintro u1 w6 ao;refine⟨fun _=>trivial,?_⟩;simp only[er,Ja,Jb,Jc];have ds:=cC.out u1 w6 ao;refine Kag (i:=8) (by kernel_rfl) rfl rfl ?_;refine fc (d:=some 85) (w':=w6) (v:=.slice wA wn wc) rfl (by go_simp;try rfl) ?_;refine⟨fun _=>trivial,?_⟩;simp only[er,Ja,Jb,Jc];refine Kag (i:=9) (by kernel_rfl) rfl rfl ?_;refine fb (d:=some 86) (g:=64) (args:=#[.slice wA wn wc,.func (.func 65) #[] #[]]) rfl (by go_simp;try rfl) (cD.out u1 w6 ao) ?_;rintro u2 w7 aR;refine⟨fun _=>trivial,?_⟩;simp only[er,Ja,Jb,Jc]
      case' gD=>
       refine fc (d:=some 85) (w':=wb.drew) (v:=.slice wA wn wc) rfl (by go_simp;try rfl) ?_;refine⟨fun _=>trivial,?_⟩;simp only[er,Ja,Jb,Jc];refine Kag (i:=6) (by kernel_rfl) rfl rfl ?_;refine fb (d:=some 83) (g:=62) (args:=#[.slice sA sn sc,.func (.func 63) #[] #[]]) rfl (by go_simp;try rfl) cF.out ?_;rintro u1 w6 ao;refine⟨fun _=>trivial,?_⟩;simp only[er,Ja,Jb,Jc];have ds:=cC.out u1 w6 ao;refine Kag (i:=9) (by kernel_rfl) rfl rfl ?_;refine fb (d:=some 86) (g:=64) (args:=#[.slice wA wn wc,.func (.func 65) #[] #[]]) rfl (by go_simp;try rfl) (cD.out u1 w6 ao) ?_;rintro u2 w7 aR;refine⟨fun _=>trivial,?_⟩;simp only[er,Ja,Jb,Jc]
     case' gB=>
      refine fc (d:=some 85) (w':=wb.drew) (v:=.slice wA wn wc) rfl (by go_simp;try rfl) ?_;refine⟨fun _=>trivial,?_⟩;simp only[er,Ja,Jb,Jc];refine Kag (i:=5) (by kernel_rfl) rfl rfl ?_;refine fc (d:=some 82) (w':=wb.drew) (v:=.slice sA sn sc) rfl (by go_simp;try rfl) ?_;refine⟨fun _=>trivial,?_⟩;simp only[er,Ja,Jb,Jc];refine Kag (i:=6) (by kernel_rfl) rfl rfl ?_;refine fb (d:=some 83) (g:=62) (args:=#[.slice sA sn sc,.func (.func 63) #[] #[]]) rfl (by go_simp;try rfl) cF.out ?_;rintro u1 w6 ao;refine⟨fun _=>trivial,?_⟩;simp only[er,Ja,Jb,Jc];have ds:=cC.out u1 w6 ao;refine Kag (i:=9) (by kernel_rfl) rfl rfl ?_;refine fb (d:=some 86) (g:=64) (args:=#[.slice wA wn wc,.func (.func 65) #[] #[]]) rfl (by go_simp;try rfl) (cD.out u1 w6 ao) ?_;rintro u2 w7 aR;refine⟨fun _=>trivial,?_⟩;simp only[er,Ja,Jb,Jc]
     all_goals
      obtain⟨A1,n1,c1,rfl⟩:=dy.out u1 w6 ao;obtain⟨A2,n2,c2,rfl⟩:=dv.out w6 u2 w7 aR;have ap:=bV.out A1 n1 c1 w6 A2 n2 c2 w7 ao aR;obtain⟨cY,b5,dk,cd⟩:=dH.out _ w6 _ w7 ao aR;have dG:=Jh ap;clear ap ao aR;refine kP (i:=10) (d:=some 87) trivial ?_;simp only[er,Ja,Jb,Jc];refine kP (i:=11) (d:=some 88) trivial ?_;simp only[er,Ja,Jb,Jc];refine Kag (i:=12) (by kernel_rfl) rfl rfl ?_;refine fd (w':=w7.setCell ⟨g,i*3+1,none⟩ (.slice A1 n1 c1)) rfl (by go_simp;try rfl) ?_;refine⟨fun _=>trivial,?_⟩;simp only[er,Ja,Jb,Jc];refine kP (i:=13) (d:=some 89) trivial ?_;simp only[er,Ja,Jb,Jc];refine kP (i:=14) (d:=some 90) trivial ?_;simp only[er,Ja,Jb,Jc];refine Kag (i:=15) (by kernel_rfl) rfl rfl ?_;have cJ:(w7.setCell ⟨g,i*3+1,none⟩ (.slice A1 n1 c1)).cell? ⟨g,i*3+2,none⟩=some (.slice wA wn wc):=by rw[World.cell?_setCell_other _ _ _ _ (by simp)];exact b5
      have db:(w7.setCell ⟨g,i*3+1,none⟩ (.slice A1 n1 c1)).frozen? ⟨g,i*3+2,none⟩=false:=by rw[World.frozen?_setCell];exact cd
      refine fd (w':=(w7.setCell ⟨g,i*3+1,none⟩ (.slice A1 n1 c1)).setCell ⟨g,i*3+2,none⟩ (.slice A2 n2 c2)) rfl (by go_simp;try rfl) ?_;refine⟨fun _=>trivial,?_⟩;refine Kby (by kernel_rfl) ?_ _;clear cY b5 dk cd cJ db;generalize hs.set i ⟨xl,⟨A1,n1,c1⟩,⟨A2,n2,c2⟩⟩=hsn at dG;clear cF cD cC dy dv bV dH;go_wp2_with fail
      go_roundg (m - (i+1))
      case measure=>omega
      case rel=>exact⟨i+1,hsn,by first | rfl | go_num,by omega,dG⟩
    .have dd:¬(i:Int)<(m:Int):=by omega
     have hM:MSt w0 w2 wr (.slice A4 m cV) hs (gs.map Kay):=by have h:=HM.out;rw[eI (by rw[cU.out];exact hge),List.drop_of_length_le (by rw[cU.out];exact hge),et]at h;exact h
     have cZ:Hid (Calls prog 66 #[.slice A4 m cV,.func (.func 67) #[] #[]] wr fun e w'=>∃A' n' c',e = .returned (.slice A' n' c')/\Sers w' A' n' (Kev (ys.map fh))/\n'<=c'/\Below w0.heap.size w0 w'):=by
      have dM:Kev (ys.map fh)=(gs.map Kay).filter Kaq:=by unfold Kev;rw[d4.out]
      rcases hM.row.2 with ⟨e0,h0⟩ | ⟨g,cap,ar,e0,_⟩
      .injection e0 with e1 e2 e3;subst e1 e2 e3;refine(Ktg wr).mono ?_;rintro e w' ⟨rfl,rfl⟩;have dU:gs.map Kay = []:=ec (by rw[<-hM.rows.len,h0]);refine⟨none,0,0,rfl,?_,ep _,hM.b0⟩;rw[dM,dU];exact Sers.nil _
      .injection e0 with e1 e2 e3;subst e1 e3;have cr:=hM.row.lt g rfl;have bo:wr.ownsRow w2.heap.size 58 3 (.slice (some ⟨g,0,none⟩) m cV) m (hs.flatMap encH3):=by have:=hM.row;rw[<-e2]at this;exact this
       have bv:hs.length=m:=e2.symm;have R:RowK encH3 3 wr g 0 hs.toArray:=⟨Kda,Kqt,Kfg Kda (by decide) bo bv,cr.2⟩
       have hP:=Pairs.of (R:=fun (h:Hd3) (s:Ser)=>SerAt wr h s/\h.s.n=s.samples.length/\h.w.n=s.windows.length) hM.rows.len (fun i h hi=>by
        have a:=hM.rows.at_ i h hi;have b:=hM.rows.sers i h hi
        exact⟨b,b.s.len.symm,b.w.len.symm⟩)
       have cK:∀i,i<(gs.map Kay).length->(gs.map Kay)[i]!.samples.length<=137438953472/\(gs.map Kay)[i]!.windows.length<=137438953472:=fun i hi=>by
        have dK:i<gs.length:=by simpa using hi
        rw[jI _ i hi,eT,<-jI gs i dK];have h1:=Kyq gs[i]!;have h2:=Kjf dK;have:=ai.out;omega
       have hx:∀h∈hs,szH h:=fun h hh=>by obtain⟨i,hi⟩:=List.mem_iff_getElem?.1 hh;obtain⟨_,h1,h2⟩:=hP.at_ i h hi;have h3:=cK i (by rw[<-hM.rows.len];exact(List.getElem?_eq_some_iff.1 hi).1);unfold szH;omega
       have cn:m<=cV:=by
        rcases bo.2 with ⟨e,_⟩ | ⟨g',cap',cur',e,_,_,h3,_⟩
        .cases e
        .injection e with _ _ e4;subst e4;exact h3
       refine(Kuz (cap:=cV) R (by simpa using bv) (by omega) hs hx wr bv cn (SWK.start R.hH)).mono ?_;rintro e w' ⟨rfl,zs,z1,z2,z3⟩;have dz:=SWK.by z3
       refine⟨_,_,_,rfl,?_,?_,hM.b0.grown dz hM.b0.size (fun k hk=>by injection hk with hk;have:=aW.out;omega)⟩
       .have d3:(hs.filter goodH).length<=m:=by rw[<-bv];exact eN _ _
        obtain⟨mm,os,rfl⟩:=z3;have ho:=Kfj Kda (by decide) bo bv zs.toArray (by simpa using z1) mm os;have h4:=Koc ho d3
        rw[show(zs.toArray.toList.flatMap encH3).take ((hs.filter goodH).length*3)=(hs.filter goodH).flatMap encH3 by
         have dR:zs=zs.take (hs.filter goodH).length++zs.drop (hs.filter goodH).length:=(eh _ _).symm;rw[show zs.toArray.toList=zs by simp]
         conv=>lhs;rw[dR]
         rw[eF,eE (by rw[Kdg Kda,z2]),z2]]at h4
        obtain⟨A9,c9,e9,hE,_,_⟩:=Elems.of_own (xs:=hs.filter goodH) (fun x _=>Kda x) rfl h4 rfl;injection e9 with e9 _ _;rw[<-e9]at hE
        have dC:=hM.rows.frame dz (fun r e=>by
         injection e with e;subst e;obtain⟨cu,dh⟩:=Kax bo (r:=g) rfl
         exact⟨_,cu,dh,by decide,by decide,by decide⟩)
        have d2:=Pairs.of (R:=fun (h:Hd3) (s:Ser)=>SerAt (sortWorldK encH3 3 wr g 0 mm zs.toArray os) h s/\h.s.n=s.samples.length/\h.w.n=s.windows.length) dC.len (fun i h hi=>by
         have b:=dC.sers i h hi
         exact⟨b,b.s.len.symm,b.w.len.symm⟩)
        have dr:=d2.filter (f:=goodH) (g:=Kaq) (fun h s ⟨_,h1,h2⟩=>by unfold goodH Kaq;rw[h1,h2]);rw[dM];exact⟨hs.filter goodH,hE,dr.len.symm,fun i h hi=>(dr.at_ i h hi).1⟩
       .exact eG (by rw[<-bv];exact eN _ _) cn
     have di:Hid (Stab (ltOf cfM) xs ys):=dT.out;clear hM HM;go_wp2_with fail
     refine cZ.out.mono ?_;rintro e9 w9 ⟨A',n',c',rfl,h1,h2,h3⟩;have HR:=Jh (fq h1 (fq h2 h3));clear h1 h2 h3;go_wp2_with fail
     go_ret
     exact⟨ys,A',n',c',rfl,di.out,HR.out.1,HR.out.2.1,HR.out.2.2⟩
end
end
end Go.Proofs.YtdoiekknhnbepaaGreatDoor
