/- Merged (what the claim wants of): KptDecA, KptDec, KptRefOf, KptRone, BlkFitA, RefB2. -/
import Derived.Test.YtefpndiiedkmpaaGreatDoorKpb08
import Derived.Test.YtefpndiiedkmpaaGreatDoorKpb09
import Derived.Test.YtefpndiiedkmpaaGreatDoorKpb04
import Derived.Deep.AppendLies
import Derived.Test.YtefpndiiedkmpaaGreatDoorKpb06
import Derived.Test.YtefpndiiedkmpaaGreatDoorKpb03
import Derived.Test.YtefpndiiedkmpaaGreatDoorKpb05
set_option linter.unusedVariables false
set_option linter.unusedSimpArgs false
set_option maxRecDepth 100000
set_option maxHeartbeats 8000000
namespace Go.Proofs.YtefpndiiedkmpaaGreatDoor
section
open Go.RowKit Go.Shelf Go.Sort
attribute [local go_sem ↓] Go.wp_at_zero Go.wp_at_succ
attribute [local go_sem] Later.cell
section
variable {P : Program} {Q : Exit → Act → World → Prop}
theorem Oper.wp_calledK {o:Oper} {a:Act} {w w1:World} {g:FuncId} {args:Array Value} {d:Option Tmp} {K:Act→World→Prop} (hd:o.dst=d) (h:(execOp a.eval o).run P w = .ok (.enter g args) w1) {N:Value→World→Prop}
  (hc:Calls P g args w1 fun e w'=>(∃u,e = .returned u∧N u w')∨∃c,e = .panicked c∧Q (.panic c) a w') (hK:∀u w',N u w'→K (a.put d u) w'):OpW o P a w K Q:=.of <| by
 subst hd;unfold Oper.wp;rw[h];refine Calls.mono hc ?_;rintro e w' (⟨u,rfl,hn⟩ | ⟨c,rfl,hq⟩)
 ·exact hK u w' hn
 ·exact hq
def Qem (S:List PanicEntry→Act→World→Prop) (Q:Exit→Act→World→Prop):Exit→Act→World→Prop
 | .panic c,a,w=>S c a w
 | .normal,a,w=>Q .normal a w
 | .exit i,a,w=>Q (.exit i) a w
 | .goto l,a,w=>Q (.goto l) a w
 | .ret,a,w=>Q .ret a w
 | .outgrown,a,w=>Q .outgrown a w
theorem Qgv {c:Code} {a:Act} {w:World} (S:List PanicEntry→Act→World→Prop) (hS:∀c a w,S c a w→Q (.panic c) a w) (h:c.wp P (Qem S Q) a w):c.wp P Q a w:=
 Code.wp_mono (fun e a w h=>by
  cases e with
  | panic c=>exact hS _ _ _ h
  | normal=>exact h
  | exit i=>exact h
  | goto l=>exact h
  | ret=>exact h
  | outgrown=>exact h) h
end
structure KPN (w0:World) (q:Nat) (w:World):Prop where
 o:∃x,Blk w q 22 #[x]
 e:∃y,Blk w (q+1) 23 #[y]
 bl:Below q w0 w
theorem KPN.kept {w0 w w':World} {q:Nat} {ex:List Nat} (h:KPN w0 q w) (hk:Kept w.heap.size ex w w') (hx:∀k∈ex,q+1 < k):KPN w0 q w':=by
 obtain ⟨x,hx1⟩:=h.o;obtain ⟨y,hy1⟩:=h.e;refine ⟨⟨x,hx1.kept hk hx1.lt (fun h=>by have:=hx _ h;omega)⟩,⟨y,hy1.kept hk hy1.lt (fun h=>by have:=hx _ h;omega)⟩,h.bl.trans ⟨hk.os,hk.tape,hk.output,hk.size,fun k hlt=>hk.block k (by have:=hy1.lt;omega) (fun h=>by have:=hx _ h;omega)⟩⟩
theorem KPN.below {w0 w w':World} {q:Nat} (h:KPN w0 q w) (hb:Below w.heap.size w w'):KPN w0 q w':=h.kept (Kept.of_below (ex:=[]) hb) (by simp)
structure KPan (w0:World) (q:Nat) (r:Except Nat (List KSer)) (D:List Deferred) (c:List PanicEntry) (a:Act) (w:World):Prop where
 c:∃tt xx,c = [{ v:=.iface tt xx,recovered:=false }]
 n:KPN w0 q w
 r:r = .error 150
 d:a.defers=D
 t2:a.tmps.getD 2 undef = .pointer (some ⟨q,0,none⟩)
 t3:a.tmps.getD 3 undef = .pointer (some ⟨q+1,0,none⟩)
theorem KPan.put {w0:World} {q:Nat} {r:Except Nat (List KSer)} {D:List Deferred} {c:List PanicEntry} {a:Act} {w:World} {d:Option Tmp} {v:Value} (h2:d≠some 2) (h3:d≠some 3) (h:KPan w0 q r D c (a.put d v) w):KPan w0 q r D c a w:=by
 cases d with
 | none=>exact h
 | some d=>
  have e:∀k,k≠d→(a.tmps.setIfInBounds d v).getD k undef=a.tmps.getD k undef:=fun k hk=>by
   simp only[Array.getD_eq_getD_getElem?,Array.getElem?_setIfInBounds];rw[if_neg (Ne.symm hk)]
  refine ⟨h.c,h.n,h.r,h.d,?_,?_⟩
  ·have:=h.t2;rwa[show (a.put (some d) v).tmps=a.tmps.setIfInBounds d v from rfl,e 2 (fun e=>h2 (by rw[e]))] at this
  ·have:=h.t3;rwa[show (a.put (some d) v).tmps=a.tmps.setIfInBounds d v from rfl,e 3 (fun e=>h3 (by rw[e]))] at this
theorem Khp {w0:World} {q:Nat} (w:World) (h:KPN w0 q w) (tt:TypeId) (xx:Value) :
  CallsD Tryz.prog 44 #[.pointer (some ⟨q,0,none⟩),.pointer (some ⟨q+1,0,none⟩)] (.panicking [{ v:=.iface tt xx,recovered:=false }]) w fun e u' w'=>
   e = .returned (.tuple #[])∧u' = .panicking [{ v:=.iface tt xx,recovered:=true }]∧Blk w' q 22 #[.slice none 0 0]∧Blk w' (q+1) 23 #[.int .i64 150]∧Below q w0 w':=by
 obtain ⟨x,hx⟩:=h.o;obtain ⟨y,hy⟩:=h.e;have HX:=Lib.hid hx;have HY:=Lib.hid hy;have HB:=Lib.hid h.bl;have c0:w.cell? ⟨q,0,none⟩=some x:=hx.cell 0;have c1:w.cell? ⟨q+1,0,none⟩=some y:=hy.cell 0;have g0:=hx.frozen 0;have g1:=hy.frozen 0;have hl:=hy.lt;refine callsD_of_wpS Tryz.func44 rfl fun c₀ cs hu=>?_
 apply wpS_seq;apply wpS_region;simp[wpOpsS,go_sem,recoverD,hu,Tryz.ntmps44,Exit.thenS];refine wpS_cond (t:=true) (by simp[Act.eval,Array.replicate]) ?_;simp only[if_true];refine wpS_of_wp ?_;simp[Array.replicate];clear h hx hy;go_wp2_with fail
 have k1:=(HX.out.set_ 0 (.slice none 0 0)).far (p:=⟨q+1,0,none⟩) (by simp) (.int .i64 150);have k2:=(HY.out.far (p:=⟨q,0,none⟩) (by simp) (.slice none 0 0)).set_ 0 (.int .i64 150);have k3:=(HB.out.setCell (p:=⟨q,0,none⟩) (Nat.le_refl q) (.slice none 0 0)).setCell (p:=⟨q+1,0,none⟩) (Nat.le_succ q) (.int .i64 150)
 revert k1 k2 k3
 generalize (w.setCell ⟨q,0,none⟩ (.slice none 0 0)).setCell ⟨q+1,0,none⟩ (.int .i64 150)=wz;intro k1 k2 k3;simp[bodyPostS,results,Tryz.results44];exact ⟨k1,k2,k3⟩
theorem Kmi (a b:Addr) (w:World) :
  CallsD Tryz.prog 44 #[.pointer (some a),.pointer (some b)] .returning w fun e u' w'=>e = .returned (.tuple #[])∧u' = .returning∧w'=w:=by
 refine callsD_of_wpS Tryz.func44 rfl fun c₀ cs hu=>?_
 apply wpS_seq;apply wpS_region;simp[wpOpsS,go_sem,recoverD,hu,Tryz.ntmps44,Exit.thenS];refine wpS_cond (t:=false) (by simp[Act.eval,Array.replicate]) ?_;simp only[Bool.false_eq_true,if_false];refine wpS_of_wp (wp_skip ?_);cases c₀
 simp_all [bodyPostS,results,Tryz.results44]
def KDecO (w':World) (r:Except Nat (List KSer)) (e:Ending):Prop:=match r with
 | .ok L=>∃A c,e = .returned (.tuple #[.slice A L.length c,.int .i64 0])∧KSers w' A L.length L∧(∀s∈L,KSz s)∧L.length≤268435456
 | .error c=>e = .returned (.tuple #[.slice none 0 0,.int .i64 ((c:Nat):Int)])
theorem kres2 {w:World} {q:Nat} {x u:Value} (tmps:Array Value) (h1:Blk w q 22 #[x]) (h2:Blk w (q+1) 23 #[u]) (hp:tmps.getD 2 undef = .pointer (some ⟨q,0,none⟩)) (hq:tmps.getD 3 undef = .pointer (some ⟨q+1,0,none⟩)) :
  (results Tryz.f13 tmps).run Tryz.prog w = .ok (.tuple #[x,u]) w:=by
 refine Kqp rfl tmps w ⟨q,0,none⟩ ⟨q+1,0,none⟩ x u hp hq ?_ ?_
 ·have e5:w.cell? ⟨q,0,none⟩=some x:=h1.cell 0;simp[loadVar,run_underlying Tryz.underlying22,go_sem,e5]
 ·have e5:w.cell? ⟨q+1,0,none⟩=some u:=h2.cell 0;simp[loadVar,run_underlying Tryz.underlying23,go_sem,e5]
theorem Knq {w0 w:World} {q:Nat} {tmps:Array Value} {r:Except Nat (List KSer)} (k1:Blk w q 22 #[.slice none 0 0]) (k2:Blk w (q+1) 23 #[.int .i64 150]) (k3:Below q w0 w) (hr:r = .error 150)
  (hp:tmps.getD 2 undef = .pointer (some ⟨q,0,none⟩)) (hq:tmps.getD 3 undef = .pointer (some ⟨q+1,0,none⟩)) (hw:w0.heap.size=q) :
  ∃v,(results Tryz.f13 tmps).run Tryz.prog w = .ok v w∧(KDecO w r (.returned v)∧Below w0.heap.size w0 w):=by
 subst hr;exact ⟨_,kres2 tmps k1 k2 hp hq,rfl,by rw[hw];exact k3⟩
theorem Kur {S:List UInt8} {c:Nat} (h:Kcl S = .error c):decK S = .error c:=by
 unfold decK;rw[h]
theorem Qee {S I:List UInt8} (h:Kcl S = .ok I) (hp:Kfm I=none):decK S = .error 150:=by
 unfold decK;rw[h];dsimp only;rw[hp]
theorem Qef {S I:List UInt8} {L:List KSer} (h:Kcl S = .ok I) (hp:Kfm I=some L):decK S=if fitK L=true∧encK L=S then .ok L else .error 150:=by
 unfold decK;rw[h];dsimp only;rw[hp]
theorem KTab.kept2 {w w':World} {q pr p:Nat} {T:List Txt} (h:KTab w pr p T) (hk:Kept w.heap.size [q,pr] w w') (hq:q < pr):KTab w' pr p T:=⟨h.t.keep hk.size fun k h1 h2=>hk.block k h2 (by simp;omega)⟩
theorem Qln {A B:ByteArray} (h:A.data.toList=B.data.toList):A=B:=by
 obtain ⟨⟨a⟩⟩:=A;obtain ⟨⟨b⟩⟩:=B;have h1:a=b:=h;rw[h1]
theorem Kky {w:World} {g i:Nat} {t:TypeId} {cs:Array Value} {u:Value} (h:Blk w g t cs) (hu:cs[i]? = some u):w.setCell ⟨g,i,none⟩ u=w:=by
 have hx:(w.setCell ⟨g,i,none⟩ u).heap=w.heap:=by
  apply Array.ext_getElem?;intro k
  by_cases hk:k=g
  ·subst hk;have h1:(w.setCell ⟨k,i,none⟩ u).heap[k]? = some (.cells (cs.setIfInBounds i u) t (0,0)):=h.set_ i u;have h2:w.heap[k]? = some (.cells cs t (0,0)):=h
   have h3:cs.setIfInBounds i u=cs:=by
    apply Array.ext_getElem?;intro j;rw[Array.getElem?_setIfInBounds]
    by_cases hj:i=j
    ·subst hj;rw[if_pos rfl,hu,if_pos (Array.getElem?_eq_some_iff.1 hu).1]
    ·rw[if_neg hj]
   rw[h1,h2,h3]
  ·exact Below.heap_setCell _ _ _ _ hk
 exact (congrArg (fun x=>({ w with heap:=x }:World)) hx)
theorem Ksj {I:List UInt8}:∀(g:Nat) (out:List Txt) (i:Nat) {t:List Txt} {j:Nat},Kei I g out i=some (t,j)→i≤I.length→j≤I.length
 | 0,out,i,t,j,h,hl=>by
  injection h with h;injection h with _ h;omega
 | g+1,out,i,t,j,h,hl=>by
  rw[Kei] at h;obtain ⟨x,n,e,hr⟩:∃x n e,Kbg I (i:Int)=(x,n,e):=⟨_,_,_,rfl⟩;rw[hr] at h;dsimp only at h
  by_cases he:e=0
  ·subst he;rw[if_neg (by simp)] at h
   split at h
   ·cases h
   ·exact Ksj g _ _ h (Kec hr).2.1
  ·rw[if_pos he] at h;cases h
theorem Qlc {I:List UInt8} {t:List Txt} {j:Nat} (h:tabR I 0=some (t,j)):j≤I.length:=by
 unfold tabR at h
 split at h
 ·cases h
 ·rename_i he
  obtain ⟨v,n,e,hr⟩:∃v n e,Kar I ((0:Nat):Int)=(v,n,e):=⟨_,_,_,rfl⟩;rw[hr] at h he;have he0:e=0:=by simpa using he
  subst he0;exact Ksj _ _ _ h (Kjv hr (Nat.zero_le _)).2
theorem Ktg {S:List UInt8} {c:Nat} (h:Kcl S = .error c):c≠0:=by
 have:=Kom (Kur h);omega
structure DRow (T:TypeId) (QQ:Nat) (sv:Value) (ys:List KY) (out:List KSer) (w:World):Prop where
 own:w.ownsRow QQ T 6 sv ys.length (ys.flatMap encKY)
 len:ys.length=out.length
 at_:∀i,i < out.length→ys[i]!.m=out[i]!.max∧KAt w ys[i]!.h out[i]!∧(Off QQ sv.ownBlock.toList ys[i]!.h.l.A ys[i]!.h.l.n∧Off QQ sv.ownBlock.toList ys[i]!.h.g0.A ys[i]!.h.g0.n∧Off QQ sv.ownBlock.toList ys[i]!.h.g1.A ys[i]!.h.g1.n∧Off QQ sv.ownBlock.toList ys[i]!.h.g2.A ys[i]!.h.g2.n∧Off QQ sv.ownBlock.toList ys[i]!.h.s.A ys[i]!.h.s.n)
theorem KAt.kx {w w':World} {h:KHd} {s:KSer} {ex:List Nat} {B:Nat} (k:KAt w h s) (hk:Kept w.heap.size ex w w') (o:Off B ex h.l.A h.l.n∧Off B ex h.g0.A h.g0.n∧Off B ex h.g1.A h.g1.n∧Off B ex h.g2.A h.g2.n∧Off B ex h.s.A h.s.n):KAt w' h s:=
 ⟨k.l.kx o.1 hk,k.lc,k.g0.kx o.2.1 hk,k.g1.kx o.2.2.1 hk,k.g2.kx o.2.2.2.1 hk,k.s.kx o.2.2.2.2 hk,k.sc⟩
theorem Off.five {B B':Nat} {ex ex':List Nat} {h:KHd} (o:Off B ex h.l.A h.l.n∧Off B ex h.g0.A h.g0.n∧Off B ex h.g1.A h.g1.n∧Off B ex h.g2.A h.g2.n∧Off B ex h.s.A h.s.n)
  (f:∀A n,(0 < n→∀a,A=some a→B≤a.block∧a.block∉ex)→Off B' ex' A n):Off B' ex' h.l.A h.l.n∧Off B' ex' h.g0.A h.g0.n∧Off B' ex' h.g1.A h.g1.n∧Off B' ex' h.g2.A h.g2.n∧Off B' ex' h.s.A h.s.n:=
 ⟨f _ _ o.1,f _ _ o.2.1,f _ _ o.2.2.1,f _ _ o.2.2.2.1,f _ _ o.2.2.2.2⟩
theorem DRow.nil (T:TypeId) (QQ:Nat) (w:World):DRow T QQ (.slice none 0 0) [] [] w:=⟨World.ownsRow_nil _ _ _ _,rfl,fun i h=>by simp at h⟩
theorem DRow.kept {T:TypeId} {QQ:Nat} {sv:Value} {ys:List KY} {out:List KSer} {w w':World} {pr:Nat} (h:DRow T QQ sv ys out w) (hk:Kept w.heap.size [pr] w w') (hp:pr < QQ):DRow T QQ sv ys out w':=
 ⟨Kii h.own hk hp,h.len,fun i hi=>by
  obtain ⟨h1,h2,h3⟩:=h.at_ i hi
  refine ⟨h1,h2.kx hk (Off.five h3 fun A n o hp2 a ha=>⟨(o hp2 a ha).1,by have:=(o hp2 a ha).1;simp;omega⟩),h3⟩⟩
theorem getE {α : Type} [Inhabited α] {l:List α} {x:α} {i:Nat} (h:i < l.length):(l ++ [x])[i]! = l[i]!:=by
 rw[getElem!_pos _ i (by rw[List.length_append];omega),getElem!_pos l i h,List.getElem_append_left h]
theorem getL {α : Type} [Inhabited α] {l:List α} {x:α}:(l ++ [x])[l.length]! = x:=by
 rw[getElem!_pos _ _ (by simp)];simp
theorem KAt.lts {w:World} {h:KHd} {s:KSer} (k:KAt w h s):∀A n,(A,n)∈[(h.l.A,h.l.n),(h.g0.A,h.g0.n),(h.g1.A,h.g1.n),(h.g2.A,h.g2.n),(h.s.A,h.s.n)]→0 < n→∀a,A=some a→a.block < w.heap.size:=by
 intro A n hm hn a ha;simp only[List.mem_cons,Prod.mk.injEq,List.not_mem_nil,or_false] at hm;rcases hm with ⟨rfl,rfl⟩ | ⟨rfl,rfl⟩ | ⟨rfl,rfl⟩ | ⟨rfl,rfl⟩ | ⟨rfl,rfl⟩
 ·exact k.l.blt hn a ha
 ·exact k.g0.blt hn a ha
 ·exact k.g1.blt hn a ha
 ·exact k.g2.blt hn a ha
 ·exact k.s.blt hn a ha
theorem DRow.below {T:TypeId} {QQ:Nat} {sv:Value} {ys:List KY} {out:List KSer} {w w':World} (h:DRow T QQ sv ys out w) (hb:Below w.heap.size w w'):DRow T QQ sv ys out w':=
 ⟨Kbj h.own hb,h.len,fun i hi=>by
  obtain ⟨h1,h2,h3⟩:=h.at_ i hi
  exact ⟨h1,h2.below hb,h3⟩⟩
theorem DRow.sers {T:TypeId} {QQ n c:Nat} {A:Option Addr} {ys:List KY} {out:List KSer} {w:World} (h:DRow T QQ (.slice A n c) ys out w):n=ys.length∧KSers w A ys.length out:=by
 have hown:=h.own;obtain ⟨A',c',e',h1,h2,_⟩:=Elems.of_own (fun y _=>Krj y) rfl hown rfl;injection e' with e1 e2 e3;subst e1
 exact ⟨e2,ys,h1,h.len.symm,fun i hi=>by
  have:=h.at_ i (by rw[←h.len];exact hi)
  exact ⟨this.1,this.2.1⟩⟩
theorem DRow.add {T:TypeId} {QQ:Nat} {sv:Value} {ys:List KY} {out:List KSer} {w w':World} {B g cap:Nat} {h:KHd} {s:KSer} (d:DRow T QQ sv ys out w) (k:KAt w h s)
  (ho:Off B [] h.l.A h.l.n∧Off B [] h.g0.A h.g0.n∧Off B [] h.g1.A h.g1.n∧Off B [] h.g2.A h.g2.n∧Off B [] h.s.A h.s.n) (hB:QQ≤B) (hsv:∀b,sv.ownBlock=some b→b < B)
  (hown:w'.ownsRow QQ T 6 (.slice (some ⟨g,0,none⟩) (ys.length+1) cap) (ys.length+1) (ys.flatMap encKY++encKY ⟨h,s.max⟩)) (hg:w.grownBy w' sv.ownBlock) (hat:sv.ownBlock=some g∨g=w.heap.size) :
  DRow T QQ (.slice (some ⟨g,0,none⟩) (ys.length+1) cap) (ys ++ [⟨h,s.max⟩]) (out ++ [s]) w':=by
 have hk:Kept w.heap.size sv.ownBlock.toList w w':=⟨hg.os,hg.tape,hg.output,hg.size,fun b hb hm=>hg.block b hb (fun e=>by rw[←e] at hm;simp at hm)⟩
 have hoff:∀(A:Option Addr) (n:Nat),(0 < n→∀a,A=some a→a.block < w.heap.size)→Off QQ sv.ownBlock.toList A n→Off QQ (Value.slice (some ⟨g,0,none⟩) (ys.length+1) cap).ownBlock.toList A n:=fun A n hl o hn a ha=>by
  refine ⟨(o hn a ha).1,?_⟩;have h1:=(o hn a ha).2;have h2:=hl hn a ha;simp only[Value.ownBlock,Option.toList,List.mem_singleton];rcases hat with e | e
  ·intro e2;rw[e] at h1;simp at h1;exact h1 e2
  ·omega
 refine ⟨by rw[List.length_append,List.flatMap_append,List.flatMap_singleton];exact hown,by rw[List.length_append,List.length_append,d.len];rfl,fun i hi=>?_⟩;rw[List.length_append,List.length_singleton] at hi
 by_cases e:i=out.length
 ·subst e;have e1:(ys ++ [(⟨h,s.max⟩:KY)])[out.length]! = ⟨h,s.max⟩:=by rw[←d.len];exact getL
  rw[e1,getL]
  have h5:Off QQ sv.ownBlock.toList h.l.A h.l.n∧Off QQ sv.ownBlock.toList h.g0.A h.g0.n∧Off QQ sv.ownBlock.toList h.g1.A h.g1.n∧Off QQ sv.ownBlock.toList h.g2.A h.g2.n∧Off QQ sv.ownBlock.toList h.s.A h.s.n:=Off.five ho fun A n o hn a ha=>⟨by have:=(o hn a ha).1;omega,fun hm=>by
   have h1:=(o hn a ha).1
   cases hb:sv.ownBlock with
   | none=>rw[hb] at hm;simp at hm
   | some b=>
    have h2:=hsv b hb;rw[hb] at hm;simp at hm
    omega⟩
  exact ⟨rfl,k.kx hk h5,hoff _ _ (k.lts _ _ (by simp)) h5.1,hoff _ _ (k.lts _ _ (by simp)) h5.2.1,hoff _ _ (k.lts _ _ (by simp)) h5.2.2.1,hoff _ _ (k.lts _ _ (by simp)) h5.2.2.2.1,hoff _ _ (k.lts _ _ (by simp)) h5.2.2.2.2⟩
 ·have hi2:i < out.length:=by omega
  rw[getE (by rw[d.len];exact hi2),getE hi2];obtain ⟨h1,h2,h5⟩:=d.at_ i hi2;exact ⟨h1,h2.kx hk h5,hoff _ _ (h2.lts _ _ (by simp)) h5.1,hoff _ _ (h2.lts _ _ (by simp)) h5.2.1,hoff _ _ (h2.lts _ _ (by simp)) h5.2.2.1,hoff _ _ (h2.lts _ _ (by simp)) h5.2.2.2.1,hoff _ _ (h2.lts _ _ (by simp)) h5.2.2.2.2⟩
end
section
open Go.RowKit Go.Shelf Go.Sort
open Lib renaming hid → Jh
open List renaming setIfInBounds_toArray → Ja, set_cons_zero → Jb, set_cons_succ → Jc
attribute [local go_sem ↓] Go.wp_at_zero Go.wp_at_succ
attribute [local go_sem] Later.cell
theorem Qes:(Tryz.prog.info? 85).map (fun i=>(i.zero,i.size,i.bytes))=some (some (.agg #[.slice none 0 0,.int .i64 0,.slice none 0 0,.slice none 0 0,.slice none 0 0,.slice none 0 0]),6,128):=by kernel_rfl
theorem KRes.five {w:World} {B:Nat} {h:KHd} {s:KSer} (k:KRes w B h s):Off B [] h.l.A h.l.n∧Off B [] h.g0.A h.g0.n∧Off B [] h.g1.A h.g1.n∧Off B [] h.g2.A h.g2.n∧Off B [] h.s.A h.s.n:=⟨k.l,k.g0,k.g1,k.g2,k.s⟩
theorem Kgq (S:ByteArray) (w:World) (hS:S.size≤268435456) (hN:Kdn w) (hT:DbTab w) :
  Calls Tryz.prog 13 #[.string S] w fun e w'=>KDecO w' (decK S.data.toList) e∧Below w.heap.size w w':=by
 have hmf:∀(fn:Fn) (first cap:Array Value) (w:World),(Instr.makeFunc fn first cap).run Tryz.prog w = .ok (.func fn first cap) w:=fun _ _ _ _=>rfl
 obtain ⟨r,hr⟩:∃r,decK S.data.toList=r:=⟨_,rfl⟩;rw[hr];have HN:=Jh hN;have HT:=Jh hT;have HR:=Jh hr;have HSZ:=Jh hS;obtain ⟨q,hq⟩:∃q,w.heap.size=q:=⟨_,rfl⟩;have HQ:=Jh hq;have hX:S.size≤140737488351232:=by omega
 clear hN hT hr;go_enter_defers Tryz.func13,Tryz.ntmps13
 go_upto_region 1 with fail
 have hb0:Below q w ((w.alloc (.cells #[.slice none 0 0] 22)).alloc (.cells #[.int .i64 0] 23)):=((Below.refl _ _).alloc (Nat.le_of_eq hq.symm) _).alloc (by simp;omega) _;have ho:Blk ((w.alloc (.cells #[.slice none 0 0] 22)).alloc (.cells #[.int .i64 0] 23)) q 22 #[.slice none 0 0]:=(Blk.newAt hq.symm).alloc _;have he:Blk ((w.alloc (.cells #[.slice none 0 0] 22)).alloc (.cells #[.int .i64 0] 23)) (q+1) 23 #[.int .i64 0]:=Blk.newAt (by simp;omega);have hz0:((w.alloc (.cells #[.slice none 0 0] 22)).alloc (.cells #[.int .i64 0] 23)).heap.size=q+2:=by simp;omega
 obtain ⟨W0,hW0⟩:∃W0,((w.alloc (.cells #[.slice none 0 0] 22)).alloc (.cells #[.int .i64 0] 23))=W0:=⟨_,rfl⟩;rw[hW0] at hb0 ho he hz0
 try rw[hW0]
 try rw[hq]
 have hn0:Kdn W0:=HN.out.below HN.out.lt (by rw[HQ.out];exact hb0);have hu:=Kxh S hX W0 hn0;obtain ⟨R0,hR0⟩:∃R,Kcl S.data.toList=R:=⟨_,rfl⟩;rw[hR0] at hu;have HO:=Jh ho;have HE:=Jh he;have HB0:=Jh hb0;have HZ0:=Jh hz0;clear hb0 ho he hW0 hq hn0 hX hz0 hS
 cases R0 with
 | error c0=>
  have hre:r = .error c0:=by rw[←HR.out];exact Kur hR0
  have hc0:=Ktg hR0;have hne:((c0:Int) != 0)=true:=by simp;omega
  subst hre;dsimp only at hu;have HU:=Jh hu;clear hu hR0;go_wp2_with fail
  refine HU.out.mono ?_;rintro _ w1 ⟨rfl,hb1⟩;have ho1:=HO.out.below hb1 HO.out.lt;have he1:=HE.out.below hb1 HE.out.lt;have hb01:=HB0.out.trans (hb1.mono (by have:=HZ0.out;omega));have f1:=he1.frozen 0;have g1:w1.cell? ⟨q+1,0,none⟩=some (.int .i64 0):=he1.cell 0;have hl1:=he1.lt;have ho2:=ho1.far (p:=⟨q+1,0,none⟩) (by show q≠q+1;omega) (.int .i64 (c0:Int));have he2:=he1.set_ 0 (.int .i64 (c0:Int));have hb2:=hb01.setCell (p:=⟨q+1,0,none⟩) (Nat.le_succ q) (.int .i64 (c0:Int));have HO2:=Jh ho2;have HE2:=Jh he2;have HB2:=Jh hb2;clear ho1 he1 hb01 ho2 he2 hb2 hb1;go_upto_region 3 with fail
  obtain ⟨w2,hw2⟩:∃x,w1.setCell ⟨q+1,0,none⟩ (.int .i64 (c0:Int))=x:=⟨_,rfl⟩;rw[hw2] at HO2 HE2 HB2;rw[hw2];have d0:w2.cell? ⟨q,0,none⟩=some (.slice none 0 0):=HO2.out.cell 0;have d1:w2.cell? ⟨q+1,0,none⟩=some (.int .i64 (c0:Int)):=HE2.out.cell 0;have f0:=HO2.out.frozen 0;have f1:=HE2.out.frozen 0;have l1:=HE2.out.lt;clear hw2 g1 hl1 hmf;go_region
  go_wp2_with fail
  have k1:=((HO2.out.set_ 0 (.slice none 0 0)).far (p:=⟨q+1,0,none⟩) (by show q≠q+1;omega) (.int .i64 (c0:Int))).drew;have k2:=((HE2.out.far (p:=⟨q,0,none⟩) (by show q+1≠q;omega) (.slice none 0 0)).set_ 0 (.int .i64 (c0:Int))).drew;have k3:=((HB2.out.setCell (p:=⟨q,0,none⟩) (Nat.le_refl q) (.slice none 0 0)).setCell (p:=⟨q+1,0,none⟩) (Nat.le_succ q) (.int .i64 (c0:Int))).drew;exact ⟨_,kres2 _ k1 k2 (by rfl) (by rfl),rfl,by rw[HQ.out];exact k3⟩
 | ok bb=>
 obtain ⟨B,hB⟩:∃B:ByteArray,(⟨bb.toArray⟩:ByteArray)=B:=⟨_,rfl⟩;dsimp only at hu;rw[hB] at hu;have hBd:B.data.toList=bb:=by rw[←hB]
 have hsz:B.size≤268435456:=by
  have a:=Qgq hR0;have b:=HSZ.out;rw[←hBd] at a;have h1:B.data.toList.length=B.size:=rfl;have h2:S.data.toList.length=S.size:=rfl;omega
 rw[←hBd] at hR0;have HU:=Jh hu;have HR0:=Jh hR0;clear hu hR0 hB hBd;go_wp2_with fail
 refine HU.out.mono ?_;rintro _ w1 ⟨rfl,hb1⟩;have ho1:=HO.out.below hb1 HO.out.lt;have he1:=HE.out.below hb1 HE.out.lt;have hb01:=HB0.out.trans (hb1.mono (by have:=HZ0.out;omega));have f1:=he1.frozen 0;have g1:w1.cell? ⟨q+1,0,none⟩=some (.int .i64 0):=he1.cell 0;have hl1:=he1.lt;go_upto_region 6 with fail
 have hsame:w1.setCell ⟨q+1,0,none⟩ (.int .i64 0)=w1:=Kky he1 (i:=0) rfl;rw[hsame];obtain ⟨pr,hpr⟩:∃x,w1.heap.size=x:=⟨_,rfl⟩;have hbx:Below w1.heap.size w1 (w1.alloc (.cells #[.string B,.int .i64 0] 115)):=(Below.refl _ _).alloc (Nat.le_refl _) _;have hkx:Blk (w1.alloc (.cells #[.string B,.int .i64 0] 115)) pr 115 #[.string B,.int .i64 0]:=by rw[←hpr];exact Blk.new _ _ _
 have hs2:(w1.alloc (.cells #[.string B,.int .i64 0] 115)).heap.size=pr+1:=by simp;omega
 obtain ⟨w2,hw2⟩:∃x,w1.alloc (.cells #[.string B,.int .i64 0] 115)=x:=⟨_,rfl⟩;rw[hw2] at hbx hkx hs2;rw[hw2];have ho2:=ho1.below hbx ho1.lt;have he2:=he1.below hbx he1.lt;have hb2:=hb01.trans (hbx.mono (by have:=hb01.size;have:=HQ.out;omega));have hprq:q+1 < pr:=by omega
 have hrd2:Rdr pr B 0 w2:=hkx;have HPN2:=Jh (show KPN w q w2 from ⟨⟨_,ho2⟩,⟨_,he2⟩,hb2⟩);have HO2:=Jh ho2;have HE2:=Jh he2;have HB2:=Jh hb2;have HS2:=Jh hs2
 try rw[hpr]
 obtain ⟨G,hG⟩:∃G,Kfm B.data.toList=G:=⟨_,rfl⟩;have HG:=Jh hG;have hnone:G=none→r = .error 150:=fun h=>by rw[←HR.out];exact Qee HR0.out (by rw[HG.out];exact h)
 have HNO:=Jh hnone;have hTd:=Ktv B 0 w2.drew (by omega);have hrdd:=hrd2;clear ho1 he1 hb01 f1 g1 hl1 hsame hbx hkx hs2 hw2 ho2 he2 hb2 hrd2 hpr hnone hb1 hG
 cases ht:tabR B.data.toList 0 with
 | none=>
  rw[ht] at hTd
  have HC:=Jh (Kmy pr 0 B w2 hrdd (fun _ _ _=>False) True (hTd.mono (by
   rintro e w' ⟨f,hf,rfl,hb⟩
   exact ⟨Kcn hb,.inr ⟨trivial,_,_,f,hf,rfl⟩⟩)))
  have HNONE:Hid (r = .error 150):=Jh (HNO.out (by rw[←HG.out];unfold Kfm;rw[ht]));clear hTd ht hrdd hmf;go_wp2_with fail
  refine HC.out.mono ?_;rintro e w3 (⟨v,j,w4,rfl,hno,_⟩ | ⟨_,f,hf,rfl,hb⟩)
  ·exact hno.elim
  ·have hpn:=HPN2.out.below hb;clear hb;unfold Kay;go_wp2_with fail
   refine leaves_cons (f:=44) (args:=#[.pointer (some ⟨q,0,none⟩),.pointer (some ⟨q+1,0,none⟩)]) (by simp) (by simp[go_sem]) ?_;refine (Khp w3 hpn _ _).mono ?_;rintro e u' w'' ⟨rfl,rfl,k1,k2,k3⟩;refine Knq k1 k2 k3 HNONE.out ?_ ?_ HQ.out
   all_goals rfl
 | some x=>
 obtain ⟨t,i0⟩:=x;rw[ht] at hTd;obtain ⟨htz,htn⟩:=Qjh ht;have hi0:=Qlc ht;have hsl:B.data.toList.length=B.size:=rfl;rw[hsl] at htz htn hi0
 have HC:=Jh (Kmy pr 0 B w2 hrdd (fun v j w'=>∃p,v = .pointer (some ⟨p,0,none⟩)∧j=i0∧Ket (pr+1) w' p t) False (hTd.mono (by
  rintro e w' ⟨p,rfl,htab,hb⟩
  exact ⟨Kcn hb,.inl ⟨_,i0,rfl,p,rfl,rfl,by rw[←HS2.out];exact htab⟩⟩)))
 have HT2:=Jh ht;have HTZ:=Jh htz;have HRDD:=Jh hrdd;have HSL:=Jh hsl;clear hTd ht hrdd htz hsl;go_wp2_with fail
 refine HC.out.mono ?_;rintro e w3 (⟨v,j,w4,rfl,⟨p,rfl,rfl,htab⟩,hb4,rfl⟩ | ⟨hno,_⟩)
 rotate_left
 ·exact hno.elim
 have hk5:Kept w2.heap.size [pr] w2 (w4.setCell ⟨pr,1,none⟩ (.int .i64 (j:Int))):=Kit (Kept.of_below hb4);have hrd5:Rdr pr B j (w4.setCell ⟨pr,1,none⟩ (.int .i64 (j:Int))):=HRDD.out.set hb4;have htab5:Ket (pr+1) (w4.setCell ⟨pr,1,none⟩ (.int .i64 (j:Int))) p t:=htab.keep (by simp[World.setCell]) fun k h1 h2=>Below.heap_setCell _ _ _ _ (by show k≠pr;omega)
 obtain ⟨w5,hw5⟩:∃x,w4.setCell ⟨pr,1,none⟩ (.int .i64 (j:Int))=x:=⟨_,rfl⟩;rw[hw5] at hk5 hrd5 htab5;rw[hw5];have HPN5:=Jh (HPN2.out.kept hk5 (fun k hk=>by rw[List.mem_singleton.1 hk];exact hprq));have HO5:=Jh (HO2.out.kept hk5 HO2.out.lt (by simp;omega));have HE5:=Jh (HE2.out.kept hk5 HE2.out.lt (by simp;omega));have HTB5:=Jh htab5;have HRD5:=Jh hrd5;have HU5:=Jh (Kiz pr j B w5 hrd5 (by omega));clear hw5 hk5 hrd5 htab5 htab hb4;go_wp2_with fail
 refine HU5.out.mono ?_;intro e w6 h6
 cases hru:ruAt B.data.toList j with
 | none=>
  rw[hru] at h6;obtain ⟨⟨f,hf,rfl⟩,hb6⟩:=h6
  have HNONE:Hid (r = .error 150):=Jh (HNO.out (by
   rw[←HG.out];unfold Kfm;rw[HT2.out];dsimp only
   rw[hru]))
  have hpn:=HPN5.out.below hb6;clear hb6 hru hmf;unfold Kay;go_wp2_with fail
  refine leaves_cons (f:=44) (args:=#[.pointer (some ⟨q,0,none⟩),.pointer (some ⟨q+1,0,none⟩)]) (by simp) (by simp[go_sem]) ?_;refine (Khp w6 hpn _ _).mono ?_;rintro e u' w'' ⟨rfl,rfl,k1,k2,k3⟩;refine Knq k1 k2 k3 HNONE.out ?_ ?_ HQ.out
  all_goals rfl
 | some x=>
 obtain ⟨n,j1⟩:=x;rw[hru] at h6;obtain ⟨rfl,hrd6,hk6⟩:=h6;have hj1:=Kel (by rw[HSL.out];exact hi0) hru;rw[HSL.out] at hj1;have hnlt:=Qap hru
 have HGG:Hid (Kdt t B.data.toList n [] j1=G):=Jh (by
  rw[←HG.out];unfold Kfm;rw[HT2.out];dsimp only
  rw[hru])
 have HPN6:=Jh (HPN5.out.kept hk6 (fun k hk=>by rw[List.mem_singleton.1 hk];exact hprq));have HO6:=Jh (HO5.out.kept hk6 HO5.out.lt (by simp;omega));have HE6:=Jh (HE5.out.kept hk6 HE5.out.lt (by simp;omega));have htp:pr < p:=by have:=HTB5.out.1;omega
 have HTB6:Hid (KTab w6 pr p t):=Jh (KTab.kept ⟨HTB5.out⟩ hk6);have HRD6:=Jh hrd6;obtain ⟨QQ,hQQ⟩:∃x,w6.heap.size=x:=⟨_,rfl⟩;have HQQ:=Jh hQQ;have hprQ:pr < QQ:=by rw[←hQQ];exact hrd6.lt
 have HKE:Hid (KEnv w pr p t B):=Jh ⟨HT.out,by have:=HQ.out;omega,htp,by omega,by omega,fun x hx=>by have:=HTZ.out x hx;omega⟩;have HJ1:=Jh hj1;obtain ⟨ib,hib,hz0,hz1,hz2⟩:=info_parts Qes;clear hru hrd6 hk6 hQQ hj1;go_wp2_with fail
 go_loopg [7] n (fun gg s7 wz=>∃(i:Nat) (out:List KSer) (ys:List KY) (sv:Value),s7 = .int .u64 (gg:Int)∧gg < 2 ^ 64∧Kdt t B.data.toList gg out i=G∧i≤B.size∧out.length≤i∧Rdr pr B i wz∧Blk wz q 22 #[sv]∧Blk wz (q+1) 23 #[.int .i64 0]∧DRow 85 QQ sv ys out wz∧Kept w6.heap.size [q,pr] w6 wz)
 case atStart=>exact ⟨j1,[],[],.slice none 0 0,rfl,hnlt,HGG.out,HJ1.out.2,Nat.zero_le _,HRD6.out,HO6.out,HE6.out,DRow.nil _ _ _,Kept.refl _ _ _⟩
 case round=>
  obtain ⟨i,out,ys,sv,rfl,hg64,hkr,hi,hol,hrd,hbo,hbe,hdr,hk⟩:=hrel;have HKR:=Jh hkr;have HOL:=Jh hol;have HRDk:=Jh hrd;have HBO:=Jh hbo;have HBE:=Jh hbe;have HDR:=Jh hdr;have HK:=Jh hk;have HPNk:Hid (KPN w q wr):=Jh ⟨⟨_,hbo⟩,⟨_,hbe⟩,HPN6.out.bl.trans ⟨hk.os,hk.tape,hk.output,hk.size,fun k hlt=>hk.block k (by have:=HPN6.out.bl.size;have:=HQ.out;omega) (by simp;omega)⟩⟩;clear hkr hol hrd hbo hbe hdr hk;obtain ⟨wk,rfl⟩:∃x,x=wr:=⟨_,rfl⟩
  cases gk with
  | zero=>
   have hkr:=HKR.out;have hgo:G=some out:=hkr.symm;have hoz:=Krt (by rw[HSL.out];omega) n [] j1 (by rw[HGG.out];exact hgo) (by rw[HSL.out];exact HJ1.out.2) (Nat.zero_le _) (by simp);have hom:=Kmk n [] j1 (by rw[HGG.out];exact hgo) (by rw[HSL.out];exact HJ1.out.2);rw[HSL.out] at hoz hom;have hrr:r=if fitK out=true∧encK out=S.data.toList then .ok out else .error 150:=by rw[←HR.out];exact Qef HR0.out (by rw[HG.out];exact hgo)
   obtain ⟨A,c,rfl⟩:=Kdg HDR.out.own
   have hsers:KSers wk A ys.length out:=by
    have hown:=HDR.out.own;obtain ⟨A',c',e',h1,h2,_⟩:=Elems.of_own (fun y _=>Krj y) rfl hown rfl;injection e' with e1 e2 e3;subst e1
    exact ⟨ys,h1,HDR.out.len.symm,fun i hi=>by
     have:=HDR.out.at_ i (by rw[←HDR.out.len];exact hi)
     exact ⟨this.1,this.2.1⟩⟩
   have hbk:=HPNk.out.bl;have hyl:ys.length≤268435456:=by rw[HDR.out.len];have:=HOL.out;omega
   have hen:=Kgr out A ys.length c wk hsers hoz.1 (by omega) (HT.out.below (by rw[HQ.out];exact hbk)) (HN.out.below HN.out.lt (by rw[HQ.out];exact hbk)) (fun hf=>by
    have h1:=Knj hf;have h2:=Qia hf;have h3:massK ([]:List KSer)=0:=rfl
    omega)
   obtain ⟨E1,hE1⟩:∃E:ByteArray,(⟨(kencF out).1.toArray⟩:ByteArray)=E:=⟨_,rfl⟩;rw[hE1] at hen;have hEd:E1.data.toList=(kencF out).1:=by rw[←hE1]
   have HEN:=Jh hen;have HED:=Jh hEd;have HOZ:=Jh hoz;have HRR:=Jh hrr;have HSE:=Jh hsers;have c0:wk.cell? ⟨q,0,none⟩=some (.slice A ys.length c):=HBO.out.cell 0;have hqk:q < wk.heap.size:=HBO.out.lt;clear hkr hoz hom hrr hsers hbk hen hE1 hEd hmf;go_wp2_with fail
   refine HEN.out.mono ?_;rintro _ w7 ⟨rfl,hb7⟩;have hbo7:=HBO.out.below hb7 HBO.out.lt;have hbe7:=HBE.out.below hb7 HBE.out.lt;have hbl7:=HPNk.out.bl.trans (hb7.mono (by have:=HPNk.out.bl.size;have:=HQ.out;omega));have HSE7:=Jh (HSE.out.below hb7);have HBO7:=Jh hbo7;have HBE7:=Jh hbe7;have HBL7:=Jh hbl7;have c7:w7.cell? ⟨q,0,none⟩=some (.slice A ys.length c):=hbo7.cell 0;have e7:w7.cell? ⟨q+1,0,none⟩=some (.int .i64 0):=hbe7.cell 0;have f7:=hbo7.frozen 0;have g7:=hbe7.frozen 0;have l7:=hbe7.lt;clear c0 hb7 hbo7 hbe7 hbl7
   by_cases hES:E1=S
   ·subst hES
    have hok:fitK out=true∧encK out=E1.data.toList:=by
     have h1:=HED.out;unfold kencF at h1
     by_cases hf:fitK out=true
     ·rw[if_pos hf] at h1;exact ⟨hf,h1.symm⟩
     ·rw[if_neg hf] at h1;exfalso;have h2:=HR0.out;rw[h1] at h2;cases h2
    have hrr:=HRR.out;rw[if_pos hok] at hrr;subst hrr;have HLEN:=Jh HDR.out.len;clear hok;go_wp2_with fail
    refine leaves_cons (f:=44) (args:=#[.pointer (some ⟨q,0,none⟩),.pointer (some ⟨q+1,0,none⟩)]) (by simp) (by simp[go_sem]) ?_;refine (Kmi _ _ _).mono ?_;rintro e u' w'' ⟨rfl,rfl,rfl⟩;have s0:w7.setCell ⟨q,0,none⟩ (.slice A ys.length c)=w7:=Kky HBO7.out (i:=0) rfl;have s1:w7.setCell ⟨q+1,0,none⟩ (.int .i64 0)=w7:=Kky HBE7.out (i:=0) rfl;rw[s0,s1];refine ⟨_,kres2 _ HBO7.out HBE7.out (by rfl) (by rfl),?_,by rw[HQ.out];exact HBL7.out⟩;exact ⟨A,c,by rw[←HLEN.out],by rw[←HLEN.out];exact HSE7.out,HOZ.out.1,by rw[←HLEN.out];exact hyl⟩
   ·obtain ⟨hd1,hd2,hd3,hd4⟩:=Krh hES;have hrr:=HRR.out
    rw[if_neg (fun h=>hES (by
     have h1:=HED.out;unfold kencF at h1;rw[if_pos h.1,h.2] at h1
     exact Qln h1))] at hrr
    subst hrr;go_wp2_with fail
    refine leaves_cons (f:=44) (args:=#[.pointer (some ⟨q,0,none⟩),.pointer (some ⟨q+1,0,none⟩)]) (by simp) (by simp[go_sem]) ?_;refine (Kmi _ _ _).mono ?_;rintro e u' w'' ⟨rfl,rfl,rfl⟩;have k1:=(HBO7.out.set_ 0 (.slice none 0 0)).far (p:=⟨q+1,0,none⟩) (by show q≠q+1;omega) (.int .i64 150);have k2:=(HBE7.out.far (p:=⟨q,0,none⟩) (by show q+1≠q;omega) (.slice none 0 0)).set_ 0 (.int .i64 150);have k3:=(HBL7.out.setCell (p:=⟨q,0,none⟩) (Nat.le_refl q) (.slice none 0 0)).setCell (p:=⟨q+1,0,none⟩) (Nat.le_succ q) (.int .i64 150);refine ⟨_,kres2 _ k1 k2 (by rfl) (by rfl),rfl,by rw[HQ.out];exact k3⟩
  | succ g=>
   have el:decide (0 < g+1)=true:=by rw[decide_eq_true_eq];omega
   have hkr:=HKR.out;rw[Kdt] at hkr;have htk:KTab wk.drew pr p t:=(HTB6.out.kept2 HK.out (by omega)).kept (Kept.of_below (Below.refl _ _).drew);have hbw:Below w.heap.size w wk.drew:=by rw[HQ.out];exact HPNk.out.bl.trans (Below.refl _ _).drew
   have hse:=Kvp HKE.out i wk.drew (HRDk.out.below (Below.refl _ _).drew) hi htk hbw;obtain ⟨Z,hZ⟩:∃Z,kserR t B.data.toList i=Z:=⟨_,rfl⟩;rw[hZ] at hse hkr;have HZ:=Jh hZ;have HKR2:=Jh hkr;have HSE:=Jh hse;have hS:wk.drew.cell? ⟨q,0,none⟩=some sv:=HBO.out.cell 0;have hqk:q < wk.heap.size:=HBO.out.lt;clear htk hbw hse hZ hkr;go_upto_region 10 with fail
   refine Qgv (KPan w q r [{ target:=Target.fn (Fn.func 44) #[.pointer (some ⟨q,0,none⟩),.pointer (some ⟨q+1,0,none⟩)],args:=#[] }]) ?_ ?_
   ·rintro c ⟨tmps,dfs⟩ we ⟨⟨tt,xx,rfl⟩,hpn,hnr,hd,ht2,ht3⟩;dsimp only at hd ht2 ht3;subst hd;refine leaves_cons (f:=44) (args:=#[.pointer (some ⟨q,0,none⟩),.pointer (some ⟨q+1,0,none⟩)]) (by simp) (by simp[go_sem]) ?_;refine (Khp we hpn _ _).mono ?_;rintro e u' w'' ⟨rfl,rfl,k1,k2,k3⟩;exact Knq k1 k2 k3 hnr ht2 ht3 HQ.out
   refine Kca (fun w'=>w'.cell? ⟨q,0,none⟩=some sv) 5 7 (by kernel_rfl) rfl ?_;rw[show Array.replicate 7 false = #[false,false,false,false,false,false,false] from rfl];refine Kap (i:=0) (d:=some 30) rfl rfl (by kernel_rfl) (by kernel_rfl) (by kernel_rfl) (by kernel_rfl) rfl (by first | exact fun _ _ _ h=>KPan.put (by decide) (by decide) h | exact fun _ _ _ h=>h) (.inl ⟨by rfl,fun w hw=>by (go_simp;try rfl)⟩) hS ?_;simp only[Act.put,Ja,Jb,Jc];refine Kaa (i:=1) (d:=some 31) rfl rfl (by kernel_rfl) (by kernel_rfl) (by kernel_rfl) rfl (by first | exact fun _ _ _ h=>KPan.put (by decide) (by decide) h | exact fun _ _ _ h=>h) (by rfl) (fun w=>by go_simp;try rfl) (fun _=>hS) ?_;simp only[Act.put,Ja,Jb,Jc];refine Kaa (i:=2) (d:=some 32) rfl rfl (by kernel_rfl) (by kernel_rfl) (by kernel_rfl) rfl (by first | exact fun _ _ _ h=>KPan.put (by decide) (by decide) h | exact fun _ _ _ h=>h) (by rfl) (fun w=>by go_simp;try rfl) (fun _=>hS) ?_;simp only[Act.put,Ja,Jb,Jc]
   cases Z with
   | none=>
    have HNONE:Hid (r = .error 150):=Jh (HNO.out HKR2.out.symm);refine Kai (i:=3) (by kernel_rfl) rfl rfl ?_;refine Oper.wp_calledK (d:=some 33) (w1:=wk.drew) (g:=49) (args:=#[.pointer (some ⟨pr,0,none⟩),.pointer (some ⟨p,0,none⟩)]) rfl (by go_simp;try rfl) (N:=fun _ _=>False) (HSE.out.mono ?_) (fun _ _ h=>h.elim);rintro e we ⟨⟨tt,xx,rfl⟩,hke⟩;refine .inr ⟨_,rfl,?_⟩;exact ⟨⟨_,_,rfl⟩,(HPNk.out.below (Below.refl _ _).drew).kept hke (fun k hk=>by rw[List.mem_singleton.1 hk];exact hprq),HNONE.out,rfl,rfl,rfl⟩
   | some x=>
    obtain ⟨s,i2⟩:=x;refine Kai (i:=3) (by kernel_rfl) rfl rfl ?_;refine Oper.wp_calledK (d:=some 33) (w1:=wk.drew) (g:=49) (args:=#[.pointer (some ⟨pr,0,none⟩),.pointer (some ⟨p,0,none⟩)]) rfl (by go_simp;try rfl) (N:=fun u w'=>∃h:KHd,u=kserV h s.max∧KRes w' wk.drew.heap.size h s∧Rdr pr B i2 w'∧Kept wk.drew.heap.size [pr] wk.drew w') (HSE.out.mono ?_) ?_
    ·rintro e we ⟨⟨h,rfl,h1⟩,h2,h3⟩;exact .inl ⟨_,rfl,h,rfl,h1,h2,h3⟩
    rintro u w7 ⟨h,rfl,hres,hrd7,hk7⟩;have hk7':Kept wk.heap.size [pr] wk w7:=(Kept.of_below (Below.refl _ _).drew).trans hk7;have hbo7:=HBO.out.kept hk7' HBO.out.lt (by simp;omega);have hbe7:=HBE.out.kept hk7' HBE.out.lt (by simp;omega);have hS:w7.cell? ⟨q,0,none⟩=some sv:=hbo7.cell 0;have hdr7:=HDR.out.kept hk7' hprQ;refine ⟨fun _=>hS,?_⟩;simp only[Act.put,Ja,Jb,Jc];obtain ⟨g7,hg7⟩:∃x,w7.heap.size=x:=⟨_,rfl⟩;have hb8:Below w7.heap.size w7 (w7.alloc (.cells (encKY ⟨h,s.max⟩).toArray 85)):=(Below.refl _ _).alloc (Nat.le_refl _) _;have hk8:Blk (w7.alloc (.cells (encKY ⟨h,s.max⟩).toArray 85)) g7 85 (encKY ⟨h,s.max⟩).toArray:=by rw[←hg7];exact Blk.new _ _ _
    refine Kai (i:=4) (by kernel_rfl) rfl rfl ?_;refine Oper.wp_ran (d:=some 34) (w':=w7.alloc (.cells (encKY ⟨h,s.max⟩).toArray 85)) (v:=.slice (some ⟨w7.heap.size,0,none⟩) 1 1) rfl (by unfold kserV encKY;go_simp;try rfl) ?_;obtain ⟨w8,hw8⟩:∃x,w7.alloc (.cells (encKY ⟨h,s.max⟩).toArray 85)=x:=⟨_,rfl⟩;rw[hw8] at hb8 hk8;rw[hw8,hg7];have hbo8:=hbo7.below hb8 hbo7.lt;have hbe8:=hbe7.below hb8 hbe7.lt;have hrd8:=hrd7.below hb8;have hS:w8.cell? ⟨q,0,none⟩=some sv:=hbo8.cell 0;have hk78:Kept wk.heap.size [pr] wk w8:=hk7'.trans ((Kept.of_below hb8).mono hk7'.size (fun _ _ h=>h));have hdr8:=HDR.out.kept hk78 hprQ;have hres8:=hres.kept (ex:=[]) (by simp) (Kept.of_below hb8);refine ⟨fun _=>hS,?_⟩;simp only[Act.put,Ja,Jb,Jc];refine Kai (i:=5) (by kernel_rfl) rfl rfl ?_;have hyl:ys.length≤268435456:=by rw[HDR.out.len];have:=HOL.out;omega
    refine OpW.of (wp_append_lies w8 _ _ _ rfl QQ 85 ib (.agg #[.slice none 0 0,.int .i64 0,.slice none 0 0,.slice none 0 0,.slice none 0 0,.slice none 0 0]) 6 128 Tryz.underlying22 hib hz0 hz1 hz2 rfl (by decide) sv ys.length (ys.flatMap encKY) rfl hdr8.own ⟨g7,0,none⟩ 1 1 (encKY ⟨h,s.max⟩) rfl rfl ?c1 ?c2 (by decide) (by unfold maxLen;omega) (by omega) ?c5 w8.heap.size rfl ?c6)
    case c1=>exact Kas (l:=encKY ⟨h,s.max⟩) hk8
    case c2=>
     intro u hu;simp only[encKY,List.mem_cons,List.not_mem_nil,or_false] at hu;rcases hu with rfl | rfl | rfl | rfl | rfl | rfl <;> rfl
    case c5=>have:=hk78.size;have:=HK.out.size;have:=HQQ.out;omega
    intro g9 cap w9 hown hgr hat hlt;have hsvlt:∀b,sv.ownBlock=some b→QQ≤b∧b < wk.heap.size:=fun b hb=>World.ownsRow.lt HDR.out.own b hb
    have hQ8:QQ≤w8.heap.size:=by have:=hk78.size;have:=HK.out.size;have:=HQQ.out;omega
    have hbo9:Blk w9 q 22 #[sv]:=(hgr.block q hbo8.lt (fun e=>by have:=(hsvlt q e.symm).1;omega)).trans hbo8;have hbe9:Blk w9 (q+1) 23 #[.int .i64 0]:=(hgr.block (q+1) hbe8.lt (fun e=>by have:=(hsvlt (q+1) e.symm).1;omega)).trans hbe8;have hrd9:Rdr pr B i2 w9:=(hgr.block pr (by omega) (fun e=>by have:=(hsvlt pr e.symm).1;omega)).trans hrd8;have hdr9:=hdr8.add hres8.at_ hres8.five (B:=wk.heap.size) (by have:=HK.out.size;have:=HQQ.out;omega) (fun b hb=>(hsvlt b hb).2) hown hgr hat
    have hk9:Kept w6.heap.size [q,pr] w6 w9:=by
     have h1:Kept w6.heap.size [q,pr] w6 w8:=HK.out.trans (hk78.mono HK.out.size (fun k _ h=>by simp at h ⊢;exact .inr h));exact h1.trans ⟨hgr.os,hgr.tape,hgr.output,hgr.size,fun k hlt _=>hgr.block k (by have:=h1.size;omega) (fun e=>by have:=(hsvlt k e.symm).1;have:=HQQ.out;omega)⟩
    refine ⟨fun h=>absurd h (by decide),?_⟩;simp only[Act.put,Ja,Jb,Jc];refine Kai (i:=6) (by kernel_rfl) rfl rfl ?_;have c9:w9.cell? ⟨q,0,none⟩=some sv:=hbo9.cell 0;have f9:=hbo9.frozen 0;have l9:=hbo9.lt;refine Oper.wp_skipped (w':=w9.setCell ⟨q,0,none⟩ (.slice (some ⟨g9,0,none⟩) (ys.length+1) cap)) rfl (by go_simp;try rfl) ?_;refine ⟨fun h=>absurd h (by decide),?_⟩;refine Kau (by kernel_rfl) ?_ _;have HDR9:=Jh (hdr9.kept (pr:=q) ((Kept.refl _ _ _).setCell (p:=⟨q,0,none⟩) (.inl (by simp)) (.slice (some ⟨g9,0,none⟩) (ys.length+1) cap)) (by omega));have HBO9:=Jh (hbo9.set_ 0 (.slice (some ⟨g9,0,none⟩) (ys.length+1) cap));have HBE9:=Jh (hbe9.far (p:=⟨q,0,none⟩) (by show q+1≠q;omega) (.slice (some ⟨g9,0,none⟩) (ys.length+1) cap));have HRD9:Hid (Rdr pr B i2 (w9.setCell ⟨q,0,none⟩ (.slice (some ⟨g9,0,none⟩) (ys.length+1) cap))):=Jh ((show Blk w9 _ _ _ from hrd9).far (p:=⟨q,0,none⟩) (by show pr≠q;omega) _);have HK9:=Jh (hk9.setCell (p:=⟨q,0,none⟩) (.inl (by simp)) (.slice (some ⟨g9,0,none⟩) (ys.length+1) cap));have hsz9:=Kvo HZ.out (by rw[HSL.out];exact hi) (by rw[HSL.out];omega);rw[HSL.out] at hsz9;have HKR3:Hid (Kdt t B.data.toList g (out ++ [s]) i2=G):=Jh HKR2.out;have hw64:IntKind.u64.wrap (((g+1:Nat):Int) - 1)=(g:Int):=by rw[IntKind.wrap_u64];omega
    have hw65:IntKind.u64.wrap ((g:Int)+1 - 1)=(g:Int):=by rw[IntKind.wrap_u64];omega
    dsimp only[Qem];clear hS hk7 hk7' hbo7 hbe7 hdr7 hb8 hk8 hbo8 hbe8 hrd8 hk78 hdr8 hres8 hown hgr hat hlt hsvlt hQ8 hbo9 hbe9 hrd9 hdr9 hk9 c9 f9 l9 hrd7 hres hg7 hw8;go_wp2_with fail
    go_roundg g
    case measure=>omega
    case rel=>exact ⟨i2,out ++ [s],_,_,by first | rfl | go_num,by omega,HKR3.out,hsz9.2.2,by rw[List.length_append,List.length_singleton];have:=HOL.out;omega,HRD9.out,HBO9.out,HBE9.out,HDR9.out,HK9.out⟩
end
section
open Go.RowKit Go.Shelf Go.Sort
open Lib renaming hid → Jh
open List renaming length_append → Jd
attribute [local go_sem ↓] Go.wp_at_zero Go.wp_at_succ
attribute [local go_sem] Later.cell
theorem Krr:(Tryz.prog.info? 110).map (fun i=>(i.zero,i.size,i.bytes))=some (some (.agg #[.int .i64 0,.int .i64 0]),2,16):=by kernel_rfl
def Qdi (w:World) (l:List Spn) (e:Ending) (w':World):Prop:=(∃v L,e = .returned v∧w'.ownsRow w.heap.size 110 2 v L.length (L.flatMap Kac)∧Kat L∧(Kat l→L=l)∧L.length≤l.length)∧Below w.heap.size w w'
structure SortI (l:List Spn) (i:Nat) (S:List Spn):Prop where
 g:∀s∈S,s.frm≤s.to_
 s:S.Pairwise fun a b=>a.frm≤b.frm
 c:Kat l→S=l.take i
 n:S.length≤i
 i:∀s∈S,SpnIn s
theorem SortI.nil (l:List Spn):SortI l 0 []:=⟨by simp,List.Pairwise.nil,fun _=>by simp,Nat.le_refl _,by simp⟩
theorem SortI.skip {l S:List Spn} {i:Nat} {x:Spn} (h:SortI l i S) (hi:l[i]! = x) (hl:i < l.length) (hx:x.to_ < x.frm):SortI l (i+1) S:=
 ⟨h.g,h.s,fun hc=>by
  have:=hc.1 x (by rw[←hi,getElem!_pos l i hl];exact List.getElem_mem hl)
  omega,by have:=h.n;omega,h.i⟩
structure InsI (l:List Spn) (i:Nat) (P:List Spn) (x:Spn) (Q:List Spn):Prop where
 p:(P++Q).Pairwise fun a b=>a.frm≤b.frm
 q:∀y∈Q,x.frm≤y.frm
 g:∀s∈P++x :: Q,s.frm≤s.to_
 c:Kat l→Q = []∧P ++ [x]=l.take (i+1)
 n:P.length+1+Q.length≤i+1
 i:∀s∈P++x :: Q,SpnIn s
theorem InsI.start {l S:List Spn} {i:Nat} {x:Spn} (h:SortI l i S) (hi:l[i]! = x) (hl:i < l.length) (hx:x.frm≤x.to_) (hin:SpnIn x):InsI l i S x []:=by
 refine ⟨by simpa using h.s,by simp,fun s hs=>?_,fun hc=>⟨rfl,?_⟩,by have:=h.n;simp;omega,fun s hs=>?_⟩
 ·rcases List.mem_append.1 hs with hs | hs
  ·exact h.g s hs
  ·rw[List.mem_singleton.1 hs];exact hx
 ·rw[h.c hc,List.take_succ_eq_append_getElem hl,←hi,getElem!_pos l i hl]
 ·rcases List.mem_append.1 hs with hs | hs
  ·exact h.i s hs
  ·rw[List.mem_singleton.1 hs];exact hin
theorem InsI.done {l P Q:List Spn} {i:Nat} {x:Spn} (h:InsI l i P x Q) (hl:∀y,P.getLast? = some y→y.frm≤x.frm):SortI l (i+1) (P++x :: Q):=by
 have hp:=List.pairwise_append.1 h.p
 have hpx:∀y∈P,y.frm≤x.frm:=by
  rcases List.eq_nil_or_concat P with rfl | ⟨ini,o,rfl⟩
  ·simp
  ·rw[List.concat_eq_append] at hp hl ⊢;have ho:=hl o (by simp);intro y hy;rcases List.mem_append.1 hy with hy | hy
   ·have:=(List.pairwise_append.1 hp.1).2.2 y hy o (by simp);omega
   ·rw[List.mem_singleton.1 hy];exact ho
 refine ⟨h.g,?_,fun hc=>?_,by have:=h.n;simp;omega,h.i⟩
 ·rw[List.pairwise_append];refine ⟨hp.1,List.pairwise_cons.2 ⟨h.q,hp.2.1⟩,fun a ha b hb=>?_⟩;rcases List.mem_cons.1 hb with rfl | hb
  ·exact hpx a ha
  ·exact hp.2.2 a ha b hb
 ·obtain ⟨rfl,h2⟩:=h.c hc;exact h2
theorem InsI.swap {l P Q:List Spn} {i:Nat} {x y:Spn} (hil:i < l.length) (h:InsI l i (P ++ [y]) x Q) (hxy:x.frm < y.frm):InsI l i P x (y :: Q):=by
 refine ⟨by simpa using h.p,fun z hz=>?_,fun s hs=>h.g s ?_,fun hc=>?_,by have:=h.n;simp at this ⊢;omega,fun s hs=>h.i s ?_⟩
 ·rcases List.mem_cons.1 hz with rfl | hz
  ·omega
  ·exact h.q z hz
 ·simp only[List.mem_append,List.mem_cons,List.mem_singleton,List.not_mem_nil,or_false] at hs ⊢;rcases hs with h | h | h | h
  ·exact .inl (.inl h)
  ·exact .inr (.inl h)
  ·exact .inl (.inr h)
  ·exact .inr (.inr h)
 ·exfalso;have h2:=(h.c hc).2;have hp:(l.take (i+1)).Pairwise fun a b=>a.to_+1 < b.frm:=hc.2.sublist (List.take_sublist _ _)
  rw[←h2] at hp;have h3:=(List.pairwise_append.1 hp).2.2 y (by simp) x (by simp);have h4:=h.g y (by simp);omega
 ·simp only[List.mem_append,List.mem_cons,List.mem_singleton,List.not_mem_nil,or_false] at hs ⊢;rcases hs with h | h | h | h
  ·exact .inl (.inl h)
  ·exact .inr (.inl h)
  ·exact .inl (.inr h)
  ·exact .inr (.inr h)
theorem swap_cells (P Q:List Spn) (x y:Spn) (j:Nat) (hj:P.length=j) :
  (((((P++y :: x :: Q).flatMap Kac).set ((j+1)*2) (.int .i64 y.frm)).set ((j+1)*2+1) (.int .i64 y.to_)).set (j*2) (.int .i64 x.frm)).set (j*2+1) (.int .i64 x.to_)=(P++x :: y :: Q).flatMap Kac:=by
 have hl:(P.flatMap Kac).length=j*2:=by rw[Kde,hj]
 rw[List.flatMap_append,List.flatMap_append];rw[List.set_append_right _ _ (by omega),List.set_append_right _ _ (by omega),List.set_append_right _ _ (by omega),List.set_append_right _ _ (by omega)];rw[hl,show (j+1)*2 - j*2=2 by omega,show (j+1)*2+1 - j*2=3 by omega,show j*2 - j*2=0 by omega,show j*2+1 - j*2=1 by omega];rfl
theorem Qen (P Q:List Spn) (x y:Spn) (j:Nat) (hj:P.length=j) :
  (((P++y :: x :: Q).flatMap Kac).set ((j+1)*2) (.int .i64 y.frm)).set ((j+1)*2+1) (.int .i64 y.to_)=(P++y :: y :: Q).flatMap Kac:=by
 have hl:(P.flatMap Kac).length=j*2:=by rw[Kde,hj]
 rw[List.flatMap_append,List.flatMap_append];rw[List.set_append_right _ _ (by omega),List.set_append_right _ _ (by omega)];rw[hl,show (j+1)*2 - j*2=2 by omega,show (j+1)*2+1 - j*2=3 by omega];rfl
theorem Qbo (P Q:List Spn) (x y z:Spn) (j:Nat) (hj:P.length=j) :
  (((P++y :: z :: Q).flatMap Kac).set (j*2) (.int .i64 x.frm)).set (j*2+1) (.int .i64 x.to_)=(P++x :: z :: Q).flatMap Kac:=by
 have hl:(P.flatMap Kac).length=j*2:=by rw[Kde,hj]
 rw[List.flatMap_append,List.flatMap_append];rw[List.set_append_right _ _ (by omega),List.set_append_right _ _ (by omega)];rw[hl,show j*2 - j*2=0 by omega,show j*2+1 - j*2=1 by omega];rfl
theorem Kdm {w:World} {B g n cap:Nat} {T:TypeId} {l:List Spn} (h:w.ownsRow B T 2 (.slice (some ⟨g,0,none⟩) n cap) n (l.flatMap Kac)) (hl:l.length=n) {i:Nat} (hi:i < n) :
  w.cell? ⟨g,i*2,none⟩=some (.int .i64 l[i]!.frm)∧w.cell? ⟨g,i*2+1,none⟩=some (.int .i64 l[i]!.to_)∧g < w.heap.size:=by
 have h1:l[i]? = some l[i]!:=by rw[getElem!_pos l i (by omega),List.getElem?_eq_getElem (by omega)]
 refine ⟨?_,?_,(World.ownsRow.lt h g rfl).2⟩
 ·rw[World.ownsRow.cellAt h (i*2) (by omega)];have:=Kep Kbv l i 0 _ h1 (by decide);rw[Nat.add_zero] at this;rw[this];rfl
 ·rw[World.ownsRow.cellAt h (i*2+1) (by omega)];have:=Kep Kbv l i 1 _ h1 (by decide);rw[this];rfl
theorem Kzl (a b:Spn) (w:World) (ha:SpnIn a) (hb:SpnIn b) :
  Calls Tryz.prog 154 #[.agg #[.int .i64 a.frm,.int .i64 a.to_],.agg #[.int .i64 b.frm,.int .i64 b.to_]] w fun e w'=>e = .returned (.bool (!decide (a.to_+1 < b.frm)))∧Below w.heap.size w w':=by
 obtain ⟨af,at_⟩:=a;obtain ⟨bf,bt⟩:=b;unfold SpnIn at ha hb;dsimp only at ha hb ⊢;obtain ⟨ha1,ha2,ha3,ha4⟩:=ha;obtain ⟨hb1,hb2,hb3,hb4⟩:=hb;have hbel:∀W,Below w.heap.size w ((w.alloc W).alloc (.cells #[.int .i64 bf,.int .i64 bt] 110)):=fun W=>((Below.refl _ _).alloc (Nat.le_refl _) _).alloc (by simp) _
 by_cases g1:bf≤at_
 ·have d1:decide (bf≤at_)=true:=decide_eq_true g1;have hr:(!decide (at_+1 < bf))=true:=by rw[Bool.not_eq_true',decide_eq_false_iff_not];omega
  rw[hr];clear hr;go_enter Tryz.func154,Tryz.ntmps154
  go_wp2_with fail
  go_ret
  exact ⟨rfl,hbel _⟩
 ·have d1:decide (bf≤at_)=false:=decide_eq_false g1;have z1:IntKind.i64.wrap (bf - 1)=bf - 1:=IntWalk.i64_in _ (by omega)
  by_cases g2:bf - 1=at_
  ·have d2:((bf - 1:Int) == at_)=true:=by rw[beq_iff_eq];exact g2
   have hr:(!decide (at_+1 < bf))=true:=by rw[Bool.not_eq_true',decide_eq_false_iff_not];omega
   rw[hr];clear hr;go_enter Tryz.func154,Tryz.ntmps154
   go_wp2_with fail
   go_ret
   exact ⟨rfl,hbel _⟩
  ·have d2:((bf - 1:Int) == at_)=false:=by rw[beq_eq_false_iff_ne];exact g2
   have hr:(!decide (at_+1 < bf))=false:=by rw[Bool.not_eq_false',decide_eq_true_eq];omega
   rw[hr];clear hr;go_enter Tryz.func154,Tryz.ntmps154
   go_wp2_with fail
   go_ret
   exact ⟨rfl,hbel _⟩
theorem Kwi (l:List Spn) (A:Option Addr) (n c:Nat) (w:World) (h:Elems w w.heap.size 2 Kac A n l) (hn:n≤1099511627776) (hin:∀x∈l,SpnIn x) :
  Calls Tryz.prog 95 #[.slice A n c] w (Qdi w l):=by
 have hlen:=h.len;obtain ⟨ib,hib,hib0,hib1,hib2⟩:=info_parts Krr;have HE:=Jh h;have HL:=Jh hlen;have HIN:=Jh hin;obtain ⟨bs,hbs⟩:∃x,w.heap.size=x:=⟨_,rfl⟩;have HBS:=Jh hbs;unfold Qdi;rw[hbs];clear h hlen hin hbs;go_enter Tryz.func95,Tryz.ntmps95
 go_wp2_with fail
 go_loopg [3,4] n (fun gg s3 s4 wr=>∃(i:Nat) (v3:Value) (So:List Spn),i+gg=n∧s4 = .int .i64 (i:Int)∧s3=v3∧wr.ownsRow bs 110 2 v3 So.length (So.flatMap Kac)∧SortI l i So∧Below bs w wr)
 case atStart=>exact ⟨0,_,[],by omega,rfl,rfl,World.ownsRow_nil _ _ _ _,SortI.nil l,Below.refl _ _⟩
 case round=>
  obtain ⟨i,v3,So,hig,rfl,hv3,hro,hsi,hbr⟩:=hrel;obtain rfl:=hv3.symm;have HIG:=Jh hig;have HRO:=Jh hro;have HSI:=Jh hsi;have HBR:=Jh hbr;clear hig hro hsi hbr;obtain ⟨wo,rfl⟩:∃x,x=wr:=⟨_,rfl⟩
  by_cases hi:i < n
  ·have el:decide (i < n)=true:=by rw[decide_eq_true_eq];exact hi
   have hi2:(i:Int) < (n:Int):=by omega
   have hbo:Below w.heap.size w wo:=by rw[HBS.out];exact HBR.out
   obtain ⟨b0,o0,rfl,hb0,g0⟩:=((HE.out.below hbo).more hbo.size).getS hi;have ce0:wo.cell? ⟨b0,o0+i*2,none⟩=some (.int .i64 l[i]!.frm):=g0 0 _ rfl;have ce1:wo.cell? ⟨b0,o0+i*2+1,none⟩=some (.int .i64 l[i]!.to_):=g0 1 _ rfl;obtain ⟨x,hx⟩:∃x,l[i]! = x:=⟨_,rfl⟩;rw[hx] at ce0 ce1;have hil:i < l.length:=by have:=HL.out;omega
   have hxi:SpnIn x:=HIN.out x (by rw[←hx,getElem!_pos l i hil];exact List.getElem_mem hil);have HX:=Jh hx;have HXI:=Jh hxi;obtain ⟨xa,xb⟩:=x;dsimp only at ce0 ce1;have hsb:=HBR.out.size;clear hx g0 hxi hbo
   by_cases g1:xb < xa
   ·have d1:decide (xb < xa)=true:=decide_eq_true g1;go_upto_region 5 with fail
    refine Kab (by kernel_rfl) (by kernel_rfl) ?_
    repeat (go_big_quiet_step (fail))
    refine wpQuiet_nil ?_;rintro wz ⟨⟨_,hbz⟩,rfl⟩;have HRZ:=Jh (Kbj HRO.out hbz);have HBZ:=Jh (HBR.out.trans (hbz.mono (by have:=HBR.out.size;have:=HBS.out;omega)));have HSZ:=Jh (HSI.out.skip HX.out hil g1);clear hbz ce0 ce1;go_wp2_with fail
    go_roundg (gk - 1)
    case measure=>have:=HIG.out;omega
    case rel=>exact ⟨i+1,_,So,by have:=HIG.out;omega,by first | rfl | go_num,rfl,HRZ.out,HSZ.out,HBZ.out⟩
   have d1:decide (xb < xa)=false:=decide_eq_false g1;go_upto_region 5 with fail
   refine Kab (by kernel_rfl) (by kernel_rfl) ?_
   repeat (go_big_quiet_step (fail))
   refine wpQuiet_nil ?_;rintro wz ⟨⟨_,hbz⟩,rfl⟩;have HRZ:=Jh (Kbj HRO.out hbz);have HBZ:=Jh (HBR.out.trans (hbz.mono (by have:=HBR.out.size;have:=HBS.out;omega)));have ce0:wz.cell? ⟨b0,o0+i*2,none⟩=some (.int .i64 xa):=(hbz.cell (p:=⟨b0,o0+i*2,none⟩) (show b0 < wo.heap.size by omega)).trans ce0;have ce1:wz.cell? ⟨b0,o0+i*2+1,none⟩=some (.int .i64 xb):=(hbz.cell (p:=⟨b0,o0+i*2+1,none⟩) (show b0 < wo.heap.size by omega)).trans ce1;have HIS:=Jh (InsI.start HSI.out HX.out hil (by dsimp only;omega) HXI.out);have hsz:So.length≤1099511627776:=by have:=HSI.out.n;omega
   have hbz0:b0 < wz.heap.size:=by have:=hbz.size;omega
   have hzb:bs≤wz.heap.size:=by have:=HBZ.out.size;have:=HBS.out;omega
   clear hbz;go_wp2_with (at_builtin;refine wpList_append_own_at _ rfl _ _ 99 rfl bs 110 ib (.agg #[.int .i64 0,.int .i64 0]) 2 16 Tryz.underlying99 hib hib0 hib1 hib2 rfl (by decide) _ _ _ rfl (World.ownsRow.alloc HRZ.out _) ⟨wz.heap.size,0,none⟩ 1 1 [.int .i64 xa,.int .i64 xb] rfl rfl ?c1 ?c2 ?c3 ?c4 ?c5 ?_)
   try (case c1=>exact Kas (l:=[.int .i64 xa,.int .i64 xb]) (Blk.new wz _ _))
   case c2=>
    first
    | exact ⟨rfl,rfl⟩
    | (intro u hu;simp only[List.mem_cons,List.not_mem_nil,or_false] at hu;rcases hu with rfl | rfl <;> rfl)
   case c3=>unfold maxLen;omega
   case c4=>omega
   case c5=>first | omega | (simp;omega)
   intro v' w6 hown' hgrow hx1 hat'
   have hstep:Below bs wz w6:=by
    first
    | exact ⟨hgrow.os,hgrow.tape,hgrow.output,by have:=hgrow.size;simp at this;omega,fun k hk=>(hgrow.block k (by simp;omega) (fun e=>by have e2:=(World.ownsRow.lt HRZ.out k e.symm).1;omega)).trans (Below.heap_alloc _ _ _ (by omega))⟩
    | exact ⟨hgrow.os,hgrow.tape,hgrow.output,hgrow.size,fun k hk=>hgrow.block k (by omega) (fun e=>by have e2:=(World.ownsRow.lt HRZ.out k e.symm).1;omega)⟩
   have hfl:(So++(⟨xa,xb⟩:Spn) :: []).flatMap Kac=So.flatMap Kac ++ [.int .i64 xa,.int .i64 xb]:=by rw[List.flatMap_append];rfl
   obtain ⟨m,hm⟩:∃m,So.length=m:=⟨_,rfl⟩
   have hv:∃g cap,v' = .slice (some ⟨g,0,none⟩) (m+1) cap:=by
    rcases hown'.2 with ⟨_,h0⟩ | ⟨g,cap,cur,h1,_⟩
    ·omega
    ·exact ⟨g,cap,by rw[h1,hm]⟩
   obtain ⟨g,cap,rfl⟩:=hv;have how:w6.ownsRow bs 110 2 (.slice (some ⟨g,0,none⟩) (m+1) cap) (m+1) ((So++(⟨xa,xb⟩:Spn) :: []).flatMap Kac):=by rw[hfl];rw[hm] at hown';exact hown'
   have HB6:=Jh (HBZ.out.trans hstep);have HO6:=Jh how;have HM:=Jh hm;have hmz:m≤1099511627776:=by omega
   have hmi:m≤i:=by have:=HSI.out.n;omega
   have z1:IntKind.i64.wrap (((m+1:Nat):Int) - 1)=(m:Int):=by rw[show ((m+1:Nat):Int) - 1=(m:Int) by omega];exact IntWalk.i64_in _ (by omega)
   have z2:IntKind.i64.wrap ((m:Int)+1 - 1)=(m:Int):=by rw[show (m:Int)+1 - 1=(m:Int) by omega];exact IntWalk.i64_in _ (by omega)
   clear hown' hgrow hx1 hat' hfl how hstep ce0 ce1 hm hzb hbz0 hsz;go_wp2_with fail
   go_loopg [5] m (fun gg s5 wv=>∃(P Q:List Spn) (x:Spn),P.length=gg∧P.length+1+Q.length=m+1∧s5 = .int .i64 (gg:Int)∧wv.ownsRow bs 110 2 (.slice (some ⟨g,0,none⟩) (m+1) cap) (m+1) ((P++x :: Q).flatMap Kac)∧InsI l i P x Q∧Below bs w wv)
   case atStart=>exact ⟨So,[],⟨xa,xb⟩,HM.out,by rw[HM.out];rfl,by first | rfl | go_num,HO6.out,HIS.out,HB6.out⟩
   case round=>
    obtain ⟨P,Q,x,hpl,hpq,rfl,hro,hins,hb⟩:=hrel;have HRV:=Jh hro;have HINS:=Jh hins;have HBV:=Jh hb;have HPL:=Jh hpl;have HPQ:=Jh hpq;obtain ⟨wv,rfl⟩:∃x,x=wr:=⟨_,rfl⟩;clear hro hins hb hpl hpq z1 z2
    cases gk with
    | zero=>
     have hP:P = []:=List.eq_nil_of_length_eq_zero HPL.out;have HDN:=Jh (HINS.out.done (fun y hy=>by rw[hP] at hy;cases hy))
     have HRD:Hid (wv.ownsRow bs 110 2 (.slice (some ⟨g,0,none⟩) (m+1) cap) (P++x :: Q).length ((P++x :: Q).flatMap Kac)):=Jh (by
      rw[show (P++x :: Q).length=m+1 by rw[Jd,List.length_cons];have:=HPQ.out;omega]
      exact HRV.out)
     go_upto_region 8 with fail
     refine Kab (by kernel_rfl) (by kernel_rfl) ?_
     repeat (go_big_quiet_step (fail))
     refine wpQuiet_nil ?_;rintro wy ⟨⟨_,hby⟩,rfl⟩;have HRY:=Jh (Kbj HRD.out hby);have HBY:=Jh (HBV.out.trans (hby.mono (by have:=HBV.out.size;have:=HBS.out;omega)));clear hby;go_wp2_with fail
     go_roundg (n - i - 1)
     case measure=>have:=HIG.out;omega
     case rel=>exact ⟨i+1,_,P++x :: Q,by omega,by first | rfl | go_num,rfl,HRY.out,HDN.out,HBY.out⟩
    | succ j=>
     obtain ⟨P',y,rfl⟩:∃P' y,P=P' ++ [y]:=by
      rcases List.eq_nil_or_concat P with rfl | ⟨ini,o,rfl⟩
      ·have:=HPL.out;simp at this
      ·exact ⟨ini,o,by rw[List.concat_eq_append]⟩
     have hpj:P'.length=j:=by have:=HPL.out;rw[Jd,List.length_singleton] at this;omega
     have hrv:=HRV.out;have hll:(P' ++ [y]++x :: Q).length=m+1:=by have:=HPQ.out;rw[Jd,List.length_cons];omega
     have hjm:j+1 < m+1:=by have:=HPQ.out;have:=HPL.out;omega
     obtain ⟨e0,e1,hgl⟩:=Kdm hrv hll (i:=j+1) hjm;obtain ⟨f0,f1,_⟩:=Kdm hrv hll (i:=j) (by omega)
     have ex:(P' ++ [y]++x :: Q)[j+1]! = x:=by
      rw[getElem!_pos _ _ (by omega),List.getElem_append_right (by rw[Jd,List.length_singleton];omega)];simp[hpj]
     have ey:(P' ++ [y]++x :: Q)[j]! = y:=by
      rw[getElem!_pos _ _ (by omega),List.getElem_append_left (by rw[Jd,List.length_singleton];omega),List.getElem_append_right (by omega)];simp[hpj]
     rw[ex] at e0 e1;rw[ey] at f0 f1;have HEX:=Jh ex;have HEY:=Jh ey;have z3:IntKind.i64.wrap (((j+1:Nat):Int) - 1)=(j:Int):=by rw[show ((j+1:Nat):Int) - 1=(j:Int) by omega];exact IntWalk.i64_in _ (by omega)
     have z4:IntKind.i64.wrap ((j:Int)+1 - 1)=(j:Int):=by rw[show (j:Int)+1 - 1=(j:Int) by omega];exact IntWalk.i64_in _ (by omega)
     have n1:¬(j:Int) < 0:=by omega
     have n2:decide (0 < j+1)=true:=by rw[decide_eq_true_eq];omega
     have n3:((j+1:Nat):Int) < ((m+1:Nat):Int):=by omega
     have n4:(j:Int) < (m:Int):=by omega
     have n5:(j:Int) < (m:Int)+1:=by omega
     have n6:(j:Int)+1 < (m:Int)+1:=by omega
     have HPJ:=Jh hpj;have HLL:=Jh hll;clear ex ey hrv hpj hll;obtain ⟨xf,xt⟩:=x;obtain ⟨yf,yt⟩:=y;dsimp only at e0 e1 f0 f1
     by_cases g2:xf < yf
     ·have d2:decide (xf < yf)=true:=decide_eq_true g2;have HSW:=Jh (HINS.out.swap hil (by dsimp only;exact g2));go_upto_region 8 with fail
      refine Kab (by kernel_rfl) (by kernel_rfl) ?_
      repeat (go_big_quiet_step (fail))
      refine wpQuiet_nil ?_;rintro wy ⟨⟨_,hby⟩,rfl⟩;have hry:=Kbj HRV.out hby;obtain ⟨e0,e1,hgl⟩:=Kdm hry HLL.out (i:=j+1) hjm;rw[HEX.out] at e0 e1;dsimp only at e0 e1;have HRY:=Jh hry;have HBY:=Jh (HBV.out.trans (hby.mono (by have:=HBV.out.size;have:=HBS.out;omega)));clear hby hry f0 f1;have hjm2:j < m+1:=by omega
      go_upto_region 11 with fail
      obtain ⟨w7,hw7⟩:∃y,wy.alloc (.cells #[.int .i64 xf,.int .i64 xt] 110)=y:=⟨_,rfl⟩;obtain ⟨b6,hb6e⟩:∃y,wy.heap.size=y:=⟨_,rfl⟩;have hb7:Below wy.heap.size wy w7:=by rw[←hw7];exact (Below.refl _ _).alloc (Nat.le_refl _) _
      have hk7:Blk w7 b6 110 #[.int .i64 xf,.int .i64 xt]:=by rw[←hw7,←hb6e];exact Blk.new _ _ _
      have hr7:=Kbj HRY.out hb7;have hgb:g < b6:=by rw[←hb6e];exact hgl
      rw[hw7,hb6e];have HB7:=Jh (HBY.out.trans (hb7.mono (by have:=HBY.out.size;have:=HBS.out;omega)));obtain ⟨p0,p1,hgl7⟩:=Kdm hr7 HLL.out (i:=j) hjm2;rw[HEY.out] at p0 p1;dsimp only at p0 p1;obtain ⟨q0,q1,_⟩:=Kdm hr7 HLL.out (i:=j+1) hjm;have fz0:=World.ownsRow.frozenAt hr7 ((j+1)*2);have fz1:=World.ownsRow.frozenAt hr7 ((j+1)*2+1);have s1:=(World.ownsRow.stored hr7 ((j+1)*2) (.int .i64 yf)).1;have s2:=(World.ownsRow.stored s1 ((j+1)*2+1) (.int .i64 yt)).1;have hcat:P' ++ [(⟨yf,yt⟩:Spn)]++(⟨xf,xt⟩:Spn) :: Q=P'++⟨yf,yt⟩ :: ⟨xf,xt⟩ :: Q:=by simp
      rw[hcat,Qen P' Q ⟨xf,xt⟩ ⟨yf,yt⟩ j HPJ.out] at s2;have hgB:=(World.ownsRow.lt hr7 g rfl).1;have hb8:=(HB7.out.setCell (p:=⟨g,(j+1)*2,none⟩) hgB (.int .i64 yf)).setCell (p:=⟨g,(j+1)*2+1,none⟩) hgB (.int .i64 yt);have hk8:=(hk7.far (p:=⟨g,(j+1)*2,none⟩) (by show b6≠g;omega) (.int .i64 yf)).far (p:=⟨g,(j+1)*2+1,none⟩) (by show b6≠g;omega) (.int .i64 yt);have HS2:=Jh s2;have HB8:=Jh hb8;have HK8:=Jh hk8;clear hw7 hb6e hb7 hk7 hr7 s1 s2 hcat hb8 hk8 e0 e1;go_upto_region 12 with fail
      obtain ⟨w8,hw8⟩:∃y,(w7.setCell ⟨g,(j+1)*2,none⟩ (.int .i64 yf)).setCell ⟨g,(j+1)*2+1,none⟩ (.int .i64 yt)=y:=⟨_,rfl⟩;rw[hw8] at HS2 HB8 HK8;rw[hw8];have hll8:(P'++(⟨yf,yt⟩:Spn) :: ⟨yf,yt⟩ :: Q).length=m+1:=by have:=HLL.out;simp at this ⊢;omega
      obtain ⟨p0,p1,hgl8⟩:=Kdm HS2.out hll8 (i:=j) hjm2;have fy0:=World.ownsRow.frozenAt HS2.out (j*2);have fy1:=World.ownsRow.frozenAt HS2.out (j*2+1);have s1:=(World.ownsRow.stored HS2.out (j*2) (.int .i64 xf)).1;have s2:=(World.ownsRow.stored s1 (j*2+1) (.int .i64 xt)).1;rw[Qbo P' Q ⟨xf,xt⟩ ⟨yf,yt⟩ ⟨yf,yt⟩ j HPJ.out] at s2;have HS3:=Jh s2;have HB9:=Jh ((HB8.out.setCell (p:=⟨g,j*2,none⟩) hgB (.int .i64 xf)).setCell (p:=⟨g,j*2+1,none⟩) hgB (.int .i64 xt));have k0:=HK8.out.cell 0;have k1:=HK8.out.cell 1;simp at k0 k1;have hb68:=HK8.out.lt;clear hw8 s1 s2 fz0 fz1 q0 q1;go_wp2_with fail
      go_roundg j
      case measure=>omega
      case rel=>exact ⟨P',⟨yf,yt⟩ :: Q,⟨xf,xt⟩,HPJ.out,by have:=HLL.out;simp at this ⊢;omega,by first | rfl | go_num,HS3.out,HSW.out,HB9.out⟩
     ·have d2:decide (xf < yf)=false:=decide_eq_false g2
      have HDN:=Jh (HINS.out.done (fun z hz=>by
       have:(⟨yf,yt⟩:Spn)=z:=by simpa using hz
       rw[←this];dsimp only;omega))
      have HRD:Hid (wv.ownsRow bs 110 2 (.slice (some ⟨g,0,none⟩) (m+1) cap) (P' ++ [(⟨yf,yt⟩:Spn)]++(⟨xf,xt⟩:Spn) :: Q).length ((P' ++ [(⟨yf,yt⟩:Spn)]++(⟨xf,xt⟩:Spn) :: Q).flatMap Kac)):=Jh (by rw[HLL.out];exact HRV.out);go_upto_region 8 with fail
      refine Kab (by kernel_rfl) (by kernel_rfl) ?_
      repeat (go_big_quiet_step (fail))
      refine wpQuiet_nil ?_;rintro wy ⟨⟨_,hby⟩,rfl⟩;have HRY:=Jh (Kbj HRD.out hby);have HBY:=Jh (HBV.out.trans (hby.mono (by have:=HBV.out.size;have:=HBS.out;omega)));clear hby e0 e1 f0 f1;go_wp2_with fail
      go_roundg (n - i - 1)
      case measure=>have:=HIG.out;omega
      case rel=>exact ⟨i+1,_,_,by omega,by first | rfl | go_num,rfl,HRY.out,HDN.out,HBY.out⟩
  ·have el:decide (i < n)=false:=by rw[decide_eq_false_iff_not];exact hi
   have HDN:=Jh HSI.out;obtain ⟨mS,hmS⟩:∃x,So.length=x:=⟨_,rfl⟩;have hro0:=HRO.out;rw[hmS] at hro0
   obtain ⟨A3,c3,rfl⟩:∃A c,v3 = .slice A mS c:=by
    rcases hro0.2 with ⟨h1,h2⟩ | ⟨g,c,cur,h1,_⟩
    ·subst h2;exact ⟨_,_,h1⟩
    ·exact ⟨_,_,h1⟩
   have HMS:=Jh hmS;have HRS:=Jh hro0;have hin0:i=n:=by have:=HIG.out;omega
   subst hin0;have hmn:mS≤1099511627776:=by have:=HDN.out.n;omega
   obtain ⟨B1,hB1⟩:∃x,wo.heap.size=x:=⟨_,rfl⟩;have HB1e:=Jh hB1;have hbsB:bs≤B1:=by rw[←hB1];have:=HBR.out.size;have:=HBS.out;omega
   clear hro0 hmS hB1;go_wp2_with fail
   go_loopg [7,8] mS (fun gg s7 s8 wv=>∃(i2:Nat) (v7:Value) (Lo:List Spn),i2+gg=mS∧s8 = .int .i64 (i2:Int)∧s7=v7∧wv.ownsRow B1 110 2 v7 Lo.length (Lo.flatMap Kac)∧Lo=ofS (So.take i2)∧Lo.length≤i2∧(∀x∈Lo,SpnIn x)∧Below B1 wo wv)
   case atStart=>exact ⟨0,_,[],by omega,rfl,rfl,World.ownsRow_nil _ _ _ _,rfl,Nat.le_refl _,(fun x hx=>by cases hx),Below.refl _ _⟩
   case round=>
    obtain ⟨i2,v7,Lo,hig2,rfl,hv7,hro,hlo,hli,hoi,hbr2⟩:=hrel;obtain rfl:=hv7.symm;have HIG2:=Jh hig2;have HROW:=Jh hro;have HLO:=Jh hlo;have HLI:=Jh hli;have HOI:=Jh hoi;have HBW:=Jh hbr2;clear hig2 hro hlo hli hoi hbr2;obtain ⟨wv,rfl⟩:∃x,x=wr:=⟨_,rfl⟩
    by_cases hi2:i2 < mS
    ·have el2:decide (i2 < mS)=true:=by rw[decide_eq_true_eq];exact hi2
     have hi22:(i2:Int) < (mS:Int):=by omega
     have hrv:=Kbj HRS.out (show Below wo.heap.size wo wv by rw[HB1e.out];exact HBW.out)
     obtain ⟨g3,hA3⟩:∃g,A3=some ⟨g,0,none⟩:=by
      rcases hrv.2 with ⟨_,h2⟩ | ⟨g,c,cur,h1,_⟩
      ·omega
      ·injection h1 with h1;exact ⟨g,h1⟩
     subst hA3;obtain ⟨ce0,ce1,hgl3⟩:=Kdm hrv HMS.out hi2;obtain ⟨x,hx⟩:∃x,So[i2]! = x:=⟨_,rfl⟩;rw[hx] at ce0 ce1;have hsl:i2 < So.length:=by have:=HMS.out;omega
     have hxi:SpnIn x:=HDN.out.i x (by rw[←hx,getElem!_pos So i2 hsl];exact List.getElem_mem hsl)
     have HST:Hid (ofS (So.take (i2+1))=stepS Lo x):=Jh (by
      rw[HLO.out,List.take_succ_eq_append_getElem hsl,←getElem!_pos So i2 hsl,hx];unfold ofS;rw[List.foldl_append]
      rfl)
     have HNI:Hid (∀y∈stepS Lo x,SpnIn y):=Jh (Kwu hxi HOI.out);have HXI:=Jh hxi;have HRV:=Jh hrv;have HXE:=Jh hx;have hB1v:B1≤wv.heap.size:=by have:=HBW.out.size;have:=HB1e.out;omega
     clear hx hxi hrv;obtain ⟨xa,xb⟩:=x;dsimp only at ce0 ce1;rcases List.eq_nil_or_concat Lo with hLn | ⟨ini,o,hLc⟩
     ·subst hLn
      have hv:∃A4 c4,v7 = .slice A4 0 c4:=by
       rcases HROW.out.2 with ⟨h,_⟩ | ⟨g,c,cur,h,_⟩
       ·exact ⟨_,_,h⟩
       ·exact ⟨_,_,h⟩
      obtain ⟨A4,c4,rfl⟩:=hv;have HL1:Hid (([]:List Spn).length=0):=Jh rfl;go_wp2_with (at_builtin;refine wpList_append_own_at _ rfl _ _ 99 rfl B1 110 ib (.agg #[.int .i64 0,.int .i64 0]) 2 16 Tryz.underlying99 hib hib0 hib1 hib2 rfl (by decide) _ _ _ rfl (World.ownsRow.alloc HROW.out _) ⟨wv.heap.size,0,none⟩ 1 1 [.int .i64 xa,.int .i64 xb] rfl rfl ?k1 ?k2 ?k3 ?k4 ?k5 ?_)
      try (case k1=>exact Kas (l:=[.int .i64 xa,.int .i64 xb]) (Blk.new wv _ _))
      case k2=>
       first
       | exact ⟨rfl,rfl⟩
       | (intro u hu;simp only[List.mem_cons,List.not_mem_nil,or_false] at hu;rcases hu with rfl | rfl <;> rfl)
      case k3=>unfold maxLen;have h9:=HL1.out;omega
      case k4=>have h9:=HL1.out;omega
      case k5=>first | omega | (simp;omega)
      intro v' w6 hown' hgrow hx1 hat'
      have hstep:Below B1 wv w6:=by
       first
       | exact ⟨hgrow.os,hgrow.tape,hgrow.output,by have:=hgrow.size;simp at this;omega,fun k hk=>(hgrow.block k (by simp;omega) (fun e=>by have e2:=(World.ownsRow.lt HROW.out k e.symm).1;omega)).trans (Below.heap_alloc _ _ _ (by omega))⟩
       | exact ⟨hgrow.os,hgrow.tape,hgrow.output,hgrow.size,fun k hk=>hgrow.block k (by omega) (fun e=>by have e2:=(World.ownsRow.lt HROW.out k e.symm).1;omega)⟩
      have hfl:(([]:List Spn) ++ [(⟨xa,xb⟩:Spn)]).flatMap Kac=(([]:List Spn)).flatMap Kac ++ [.int .i64 xa,.int .i64 xb]:=by rw[List.flatMap_append];rfl
      have how:w6.ownsRow B1 110 2 v' (([]:List Spn) ++ [(⟨xa,xb⟩:Spn)]).length ((([]:List Spn) ++ [(⟨xa,xb⟩:Spn)]).flatMap Kac):=by
       rw[hfl,Jd]
       first | exact hown' | (rw[HL1.out,List.flatMap_append,List.append_assoc];exact hown')
      have HB6:=Jh (HBW.out.trans hstep);have HO6:=Jh how
      have HLE:=Jh (show ([]:List Spn) ++ [(⟨xa,xb⟩:Spn)]=ofS (So.take (i2+1)) from by
       rw[HST.out]
       rfl)
      clear hown' hgrow hx1 hat' hfl how hstep;go_wp2_with fail
      go_roundg (gk - 1)
      case measure=>have:=HIG2.out;omega
      case rel=>exact ⟨i2+1,_,_,by have:=HIG2.out;omega,by first | rfl | go_num,rfl,HO6.out,HLE.out,by have:=HLI.out;rw[Jd];simp at this ⊢;try omega,by rw[HLE.out,HST.out];exact HNI.out,HB6.out⟩
     ·rw[List.concat_eq_append] at hLc;subst hLc;obtain ⟨k,hk⟩:∃k,ini.length=k:=⟨_,rfl⟩;have hl1:(ini ++ [o]).length=k+1:=by rw[Jd,hk];rfl
      have hv:∃go c4,v7 = .slice (some ⟨go,0,none⟩) (k+1) c4:=by
       rcases HROW.out.2 with ⟨_,h⟩ | ⟨go,c,cur,h,_⟩
       ·rw[hl1] at h;omega
       ·rw[hl1] at h;exact ⟨_,_,h⟩
      obtain ⟨go,c4,rfl⟩:=hv;have hro1:=HROW.out;rw[hl1] at hro1;obtain ⟨o0,o1,hgo⟩:=Kdm hro1 hl1 (show k < k+1 by omega)
      have hos:(ini ++ [o])[k]! = o:=by
       rw[getElem!_pos (ini ++ [o]) k (by rw[hl1];omega),List.getElem_append_right (by omega)];simp[hk]
      rw[hos] at o0 o1;have hki:k < i2:=by have:=HLI.out;rw[hl1] at this;omega
      have z1:IntKind.i64.wrap (((k+1:Nat):Int) - 1)=(k:Int):=by rw[show ((k+1:Nat):Int) - 1=(k:Int) by omega];exact IntWalk.i64_in _ (by omega)
      have z2:IntKind.i64.wrap ((k:Int)+1 - 1)=(k:Int):=by rw[show (k:Int)+1 - 1=(k:Int) by omega];exact IntWalk.i64_in _ (by omega)
      have n1:¬(k:Int) < 0:=by omega
      have n2:decide (0 < k+1)=true:=by rw[decide_eq_true_eq];omega
      have n3:(k:Int) < (k:Int)+1:=by omega
      have hoo:=HOI.out o (by simp);have HTC:=Jh (fun u:Later wv=>Kzl o ⟨xa,xb⟩ u.w hoo HXI.out);have HL1:=Jh hl1;have HOS:=Jh hos;obtain ⟨of_,ot⟩:=o;dsimp only at o0 o1 HTC;have hgo2:go < wv.heap.size:=hgo;have HRO1:=Jh hro1;clear hro1 hos hoo;obtain ⟨J,hJ⟩:∃J,(!decide (ot+1 < xa))=J:=⟨_,rfl⟩;rw[hJ] at HTC;have HJ:=Jh hJ;clear hJ;go_upto_region 19 with fail
      refine Kab (by kernel_rfl) (by kernel_rfl) ?_
      repeat (go_big_quiet_step ((go_at_call 154;exact Kbf _ (HTC.out _))))
      refine wpQuiet_nil ?_;rintro w5 ⟨⟨_,hb5⟩,rfl⟩;have hb5':=hb5;have HBW5:=Jh (HBW.out.trans (hb5.mono hB1v));have HRO5:=Jh (Kbj HRO1.out hb5);have hrs5:=Kbj HRV.out hb5;obtain ⟨ce0,ce1,hgl5⟩:=Kdm hrs5 HMS.out hi2;rw[HXE.out] at ce0 ce1;dsimp only at ce0 ce1;have hB15:B1≤w5.heap.size:=by have:=hb5.size;omega
      cases J with
      | false=>
       have hlt:ot+1 < xa:=by
        have:=HJ.out;rw[Bool.not_eq_false',decide_eq_true_eq] at this;exact this
       replace HBW:=HBW5;have hrow5:=HRO5.out;rw[←HL1.out] at hrow5;obtain ⟨vv,hvv⟩:∃vv,(Value.slice (some ⟨go,0,none⟩) (k+1) c4)=vv:=⟨_,rfl⟩;have hrow6:w5.ownsRow B1 110 2 vv (k+1) ((ini ++ [(⟨of_,ot⟩:Spn)]).flatMap Kac):=by rw[←hvv];exact HRO5.out
       rw[hvv];replace HROW:=Jh hrow6;clear hb5 hb5' o0 o1 hgo hgo2 z1 z2 n1 n2 n3 hvv hrow5 hrow6 hrs5;go_wp2_with (at_builtin;refine wpList_append_own_at _ rfl _ _ 99 rfl B1 110 ib (.agg #[.int .i64 0,.int .i64 0]) 2 16 Tryz.underlying99 hib hib0 hib1 hib2 rfl (by decide) _ _ _ rfl (World.ownsRow.alloc HROW.out _) ⟨w5.heap.size,0,none⟩ 1 1 [.int .i64 xa,.int .i64 xb] rfl rfl ?k1 ?k2 ?k3 ?k4 ?k5 ?_)
       try (case k1=>exact Kas (l:=[.int .i64 xa,.int .i64 xb]) (Blk.new w5 _ _))
       case k2=>
        first
        | exact ⟨rfl,rfl⟩
        | (intro u hu;simp only[List.mem_cons,List.not_mem_nil,or_false] at hu;rcases hu with rfl | rfl <;> rfl)
       case k3=>unfold maxLen;have h9:=HL1.out;omega
       case k4=>have h9:=HL1.out;omega
       case k5=>first | omega | (simp;omega)
       intro v' w6 hown' hgrow hx1 hat'
       have hstep:Below B1 w5 w6:=by
        first
        | exact ⟨hgrow.os,hgrow.tape,hgrow.output,by have:=hgrow.size;simp at this;omega,fun k hk=>(hgrow.block k (by simp;omega) (fun e=>by have e2:=(World.ownsRow.lt HROW.out k e.symm).1;omega)).trans (Below.heap_alloc _ _ _ (by omega))⟩
        | exact ⟨hgrow.os,hgrow.tape,hgrow.output,hgrow.size,fun k hk=>hgrow.block k (by omega) (fun e=>by have e2:=(World.ownsRow.lt HROW.out k e.symm).1;omega)⟩
       have hfl:((ini ++ [(⟨of_,ot⟩:Spn)]) ++ [(⟨xa,xb⟩:Spn)]).flatMap Kac=((ini ++ [(⟨of_,ot⟩:Spn)])).flatMap Kac ++ [.int .i64 xa,.int .i64 xb]:=by rw[List.flatMap_append];rfl
       have how:w6.ownsRow B1 110 2 v' ((ini ++ [(⟨of_,ot⟩:Spn)]) ++ [(⟨xa,xb⟩:Spn)]).length (((ini ++ [(⟨of_,ot⟩:Spn)]) ++ [(⟨xa,xb⟩:Spn)]).flatMap Kac):=by
        rw[hfl,Jd]
        first | exact hown' | (rw[HL1.out,List.flatMap_append,List.append_assoc];exact hown')
       have HB6:=Jh (HBW.out.trans hstep);have HO6:=Jh how
       have HLE:=Jh (show (ini ++ [(⟨of_,ot⟩:Spn)]) ++ [(⟨xa,xb⟩:Spn)]=ofS (So.take (i2+1)) from by
        rw[HST.out]
        exact (Klo (by dsimp only;omega)).symm)
       clear hown' hgrow hx1 hat' hfl how hstep;go_wp2_with fail
       go_roundg (gk - 1)
       case measure=>have:=HIG2.out;omega
       case rel=>exact ⟨i2+1,_,_,by have:=HIG2.out;omega,by first | rfl | go_num,rfl,HO6.out,HLE.out,by have:=HLI.out;rw[Jd];simp at this ⊢;try omega,by rw[HLE.out,HST.out];exact HNI.out,HB6.out⟩
      | true=>
       have hlt:¬ot+1 < xa:=by
        have:=HJ.out;rw[Bool.not_eq_true',decide_eq_false_iff_not] at this;exact this
       obtain ⟨p0,p1,hgo5⟩:=Kdm HRO5.out HL1.out (show k < k+1 by omega);rw[HOS.out] at p0 p1;dsimp only at p0 p1;clear hb5 hb5' o0 o1 hgo hgo2
       by_cases g5:ot < xb
       ·have a5:decide (ot < xb)=true:=decide_eq_true g5;go_upto_region 21 with fail
        refine Kab (by kernel_rfl) (by kernel_rfl) ?_
        repeat (go_big_quiet_step (fail))
        refine wpQuiet_nil ?_;rintro w6 ⟨⟨_,hb6⟩,rfl⟩;have hr7:=Kbj HRO5.out hb6;have hrs6:=Kbj hrs5 hb6;obtain ⟨ce0,ce1,hgl6⟩:=Kdm hrs6 HMS.out hi2;rw[HXE.out] at ce0 ce1;dsimp only at ce0 ce1;obtain ⟨p0,p1,hgo6⟩:=Kdm hr7 HL1.out (show k < k+1 by omega);rw[HOS.out] at p0 p1;dsimp only at p0 p1;have s1:=(World.ownsRow.stored hr7 (k*2+1) (.int .i64 xb)).1;have f1:=World.ownsRow.frozenAt hr7 (k*2+1);have hr8:=s1;rw[←hk,Knw,hk] at hr8;have hgoB:=(World.ownsRow.lt hr7 go rfl).1;have HB8:=Jh ((HBW5.out.trans (hb6.mono hB15)).setCell (p:=⟨go,k*2+1,none⟩) hgoB (.int .i64 xb));have HR8:=Jh hr8
        have HLE:=Jh (show ini ++ [(⟨of_,xb⟩:Spn)]=ofS (So.take (i2+1)) from by
         rw[HST.out,Kfs (by dsimp only;omega)];dsimp only
         rw[Int.max_eq_right (by omega)])
        have hl2:(ini ++ [(⟨of_,xb⟩:Spn)]).length=k+1:=by rw[Jd,hk];rfl
        have HL2:=Jh hl2;clear hb6 hr7 s1 hr8 hl2 hrs6 hrs5;go_wp2_with fail
        go_roundg (gk - 1)
        case measure=>have:=HIG2.out;omega
        case rel=>exact ⟨i2+1,_,ini ++ [(⟨of_,xb⟩:Spn)],by have:=HIG2.out;omega,by first | rfl | go_num,rfl,by rw[HL2.out];exact HR8.out,HLE.out,by rw[HL2.out];omega,by rw[HLE.out,HST.out];exact HNI.out,HB8.out⟩
       ·have a5:decide (ot < xb)=false:=decide_eq_false g5;go_upto_region 21 with fail
        refine Kab (by kernel_rfl) (by kernel_rfl) ?_
        repeat (go_big_quiet_step (fail))
        refine wpQuiet_nil ?_;rintro w6 ⟨⟨_,hb6⟩,rfl⟩;have HR8:=Jh (Kbj HRO5.out hb6);have HB8:=Jh (HBW5.out.trans (hb6.mono hB15))
        have HLE:=Jh (show ini ++ [(⟨of_,ot⟩:Spn)]=ofS (So.take (i2+1)) from by
         rw[HST.out,Kfs (by dsimp only;omega)];dsimp only
         rw[Int.max_eq_left (by omega)])
        clear hb6 hrs5;go_wp2_with fail
        go_roundg (gk - 1)
        case measure=>have:=HIG2.out;omega
        case rel=>exact ⟨i2+1,_,ini ++ [(⟨of_,ot⟩:Spn)],by have:=HIG2.out;omega,by first | rfl | go_num,rfl,by rw[HL1.out];exact HR8.out,HLE.out,by rw[HL1.out];omega,by rw[HLE.out,HST.out];exact HNI.out,HB8.out⟩
    ·have el2:decide (i2 < mS)=false:=by rw[decide_eq_false_iff_not];exact hi2
     have hfin:Lo=ofS So:=by
      rw[HLO.out,List.take_of_length_le (by have:=HMS.out;have:=HIG2.out;omega)]
     have hcan:=Krz HDN.out.g HDN.out.s
     have hself:Kat l→ofS So=l:=fun hc=>by
      rw[HDN.out.c hc,List.take_of_length_le (by have:=HL.out;omega)];exact Kvv hc
     have HF:=Jh hfin;have HCN:=Jh hcan;have HSF:=Jh hself;clear hfin hcan hself;go_wp2_with fail
     go_ret
     exact ⟨⟨_,rfl,Lo,World.ownsRow.mono HROW.out hbsB,by rw[HF.out];exact HCN.out,fun hc=>by rw[HF.out];exact HSF.out hc,by have:=HLI.out;have:=HL.out;have:=HDN.out.n;have:=HIG2.out;have:=HMS.out;omega⟩,HBR.out.trans (HBW.out.mono hbsB)⟩
end
section
open Go.RowKit Go.Shelf Go.Sort
open Lib renaming hid → Jh
attribute [local go_sem ↓] Go.wp_at_zero Go.wp_at_succ
attribute [local go_sem] Later.cell
theorem Qcp (s:KSer) (h:KHd) (w:World) (hS:KAt w h s) (hz:KSz s) :
  Calls Tryz.prog 41 #[kserV h s.max] w fun e w'=>e = .returned (.bool (Kcd s))∧Below w.heap.size w w':=by
 obtain ⟨R,hR⟩:∃R,Kcd s=R:=⟨_,rfl⟩;have hat:=@Kkv s;rw[hR] at hat ⊢;obtain ⟨mx,hmx⟩:∃m,s.max=m:=⟨_,rfl⟩;have hmz:=hz.m;rw[hmx] at hat hmz ⊢;have HAT:=Jh hat;have HS:=Jh hS;have HZ:=Jh hz;clear hS hz hR hat hmx;unfold kserV;obtain ⟨sA,hsA⟩:∃x,h.s.A=x:=⟨_,rfl⟩;obtain ⟨sn,hsn⟩:∃x,h.s.n=x:=⟨_,rfl⟩;rw[hsA,hsn];have HSA0:=Jh hsA;have HSN0:=Jh hsn;clear hsA hsn;go_enter Tryz.func41,Tryz.ntmps41
 go_upto_region 1 with fail
 obtain ⟨w1,hw1⟩:∃x,w.alloc (.cells #[.slice h.l.A h.l.n h.l.c,.int .i64 mx,.slice h.g0.A h.g0.n h.g0.c,.slice h.g1.A h.g1.n h.g1.c,.slice h.g2.A h.g2.n h.g2.c,.slice sA sn h.s.c] 103)=x:=⟨_,rfl⟩;have hb1:Below w.heap.size w w1:=by rw[←hw1];exact (Below.refl _ _).alloc (Nat.le_refl _) _
 have hk1:Blk w1 w.heap.size 103 #[.slice h.l.A h.l.n h.l.c,.int .i64 mx,.slice h.g0.A h.g0.n h.g0.c,.slice h.g1.A h.g1.n h.g1.c,.slice h.g2.A h.g2.n h.g2.c,.slice sA sn h.s.c]:=by rw[←hw1];exact Blk.new _ _ _
 obtain ⟨q,hq⟩:∃x,w.heap.size=x:=⟨_,rfl⟩;have HQ:=Jh hq;rw[hq] at hk1;rw[hw1,hq];have HS1:=Jh (HS.out.below hb1);have HK1:=Jh hk1;have HB1:=Jh (show Below q w w1 by rw[←hq];exact hb1);have c0:=hk1.cell 0;have c1:=hk1.cell 1;simp at c0 c1;clear hw1 hb1 hk1 hq;obtain ⟨V,hV⟩:∃V,Kdf s.labels=V:=⟨_,rfl⟩;have HV:=Jh hV;have HVC:=Jh (Kwk s.labels h.l.A h.l.n h.l.c w1 V hV HS1.out.l (by have:=HS1.out.l.len;have:=HZ.out.l;omega) (fun x hx=>by have:=HZ.out.z x hx;omega));clear hV;go_wp2_with fail
 refine HVC.out.mono ?_;rintro _ w2 ⟨rfl,hb2⟩;have HS2:=Jh (HS1.out.below hb2);have HK2:=Jh (HK1.out.below hb2 HK1.out.lt);have HB2:=Jh (HB1.out.trans (hb2.mono (by have:=HK1.out.lt;omega)));have c1:w2.cell? ⟨q,1,none⟩=some (.int .i64 mx):=HK2.out.cell 1;clear hb2 c0
 cases V with
 | false=>
  have hre:R=false:=by
   rcases Bool.eq_false_or_eq_true R with e | e
   ·have:=(HAT.out.1 e).1;rw[HV.out] at this;cases this
   ·exact e
  subst hre;go_wp2_with fail
  go_ret
  exact ⟨rfl,by rw[HQ.out];exact HB2.out⟩
 | true=>
  by_cases g1:mx < -1
  ·have d1:decide (mx < -1)=true:=decide_eq_true g1
   have hre:R=false:=by
    rcases Bool.eq_false_or_eq_true R with e | e
    ·have:=(HAT.out.1 e).2.1;omega
    ·exact e
   subst hre;go_wp2_with fail
   go_ret
   exact ⟨rfl,by rw[HQ.out];exact HB2.out⟩
  have d1:decide (mx < -1)=false:=decide_eq_false g1
  by_cases g2:1125899906842624 < mx
  ·have d2:decide (1125899906842624 < mx)=true:=decide_eq_true g2
   have hre:R=false:=by
    rcases Bool.eq_false_or_eq_true R with e | e
    ·have:=(HAT.out.1 e).2.1;omega
    ·exact e
   subst hre;go_wp2_with fail
   go_ret
   exact ⟨rfl,by rw[HQ.out];exact HB2.out⟩
  have d2:decide (1125899906842624 < mx)=false:=decide_eq_false g2;go_wp2_with fail
  go_loopg [4] 3 (fun g s4 wr=>∃i:Nat,i+g=3∧s4 = .int .i64 (i:Int)∧(∀j,j < i→Kat (s.g j))∧Below q w wr∧Below w2.heap.size w2 wr)
  case atStart=>exact ⟨0,by omega,rfl,(fun j hj=>by omega),HB2.out,Below.refl _ _⟩
  case round=>
   obtain ⟨i,hig,rfl,hall,hb,hb2⟩:=hrel;have HIG:=Jh hig;have HA:=Jh hall;have HB:=Jh hb;have HB22:=Jh hb2;clear hig hall hb hb2 c1;obtain ⟨wo,rfl⟩:∃x,x=wr:=⟨_,rfl⟩
   by_cases hi:i < 3
   ·have el:decide (i < 3)=true:=by rw[decide_eq_true_eq];exact hi
    have hi2:(i:Int) < 3:=by omega
    have HSo:=Jh (HS2.out.below HB22.out);have hko:=HK2.out.below HB22.out HK2.out.lt;have HKo:=Jh hko
    have cg:wo.cell? ⟨q,2+i,none⟩=some (.slice (h.g i).A (h.g i).n (h.g i).c):=by
     rcases (by omega:i=0∨i=1∨i=2) with rfl | rfl | rfl
     ·exact hko.cell 2
     ·exact hko.cell 3
     ·exact hko.cell 4
    have hqo:=hko.lt;have hgz:=HZ.out.gi i;have hgl:=(HSo.out.g i).len;have HSP:=Jh (Kwi (s.g i) (h.g i).A (h.g i).n (h.g i).c wo (HSo.out.g i) (by omega) hgz.2);have HNL:Hid ((s.g i).length=(h.g i).n∧(s.g i).length≤1099511627776):=Jh ⟨hgl,hgz.1⟩;clear hgz hgl hko;go_wp2_with fail
    refine HSP.out.mono ?_;rintro _ w3 ⟨⟨v,L,rfl,hr,hcL,hLl,hLn⟩,hb3⟩;obtain ⟨A2,c2,rfl,hE⟩:=Kgz hr rfl;have hsame:=Kiy L (s.g i) A2 L.length c2 (h.g i).A (h.g i).n (h.g i).c w3 hE ((HSo.out.below hb3).g i) (by have:=HNL.out;omega) (by have:=HNL.out;omega);rw[Kof hcL hLl] at hsame;obtain ⟨C,hC⟩:∃C,decide (Kat (s.g i))=C:=⟨_,rfl⟩;rw[hC] at hsame;have HSA:=Jh hsame;have HC:=Jh hC;obtain ⟨ln,hln⟩:∃n,L.length=n:=⟨_,rfl⟩;rw[hln] at HSA ⊢;have HB3:=Jh (HB.out.trans (hb3.mono (by have:=HB.out.size;have:=HQ.out;omega)));have HB23:=Jh (then_ HB22.out hb3);have hk3:=HKo.out.below hb3 HKo.out.lt
    have cg:w3.cell? ⟨q,2+i,none⟩=some (.slice (h.g i).A (h.g i).n (h.g i).c):=by
     rcases (by omega:i=0∨i=1∨i=2) with rfl | rfl | rfl
     ·exact hk3.cell 2
     ·exact hk3.cell 3
     ·exact hk3.cell 4
    have hq3:=hk3.lt;clear hr hcL hLl hLn hE hsame hC hb3 hln hk3;go_wp2_with fail
    refine HSA.out.mono ?_;rintro _ w4 ⟨rfl,hb4⟩;have HB4:=Jh (HB3.out.trans (hb4.mono (by have:=HB3.out.size;have:=HQ.out;omega)));have HB24:=Jh (then_ HB23.out hb4);clear hb4 cg
    cases C with
    | false=>
     have hre:R=false:=by
      rcases Bool.eq_false_or_eq_true R with e | e
      ·exact absurd ((HAT.out.1 e).2.2.1 i hi) (of_decide_eq_false HC.out)
      ·exact e
     subst hre;go_wp2_with fail
     go_ret
     exact ⟨rfl,by rw[HQ.out];exact HB4.out⟩
    | true=>
     have HN:=Jh (show ∀j,j < i+1→Kat (s.g j) from fun j hj=>by
      by_cases hji:j=i
      ·subst hji;exact of_decide_eq_true HC.out
      ·exact HA.out j (by omega))
     go_wp2_with fail
     go_roundg (gk - 1)
     case measure=>have:=HIG.out;omega
     case rel=>exact ⟨i+1,by have:=HIG.out;omega,by first | rfl | go_num,HN.out,HB4.out,HB24.out⟩
   ·have el:decide (i < 3)=false:=by rw[decide_eq_false_iff_not];exact hi
    have hi3:i=3:=by have:=HIG.out;omega
    subst hi3;have HKo:=Jh (HK2.out.below HB22.out HK2.out.lt);have HSo:=Jh (HS2.out.below HB22.out);have hnl:=HSo.out.s.len;rw[HSN0.out] at hnl;have HNL:=Jh hnl;have hnz:sn≤1099511627776:=by have:=HZ.out.n;omega
    clear hnl;go_wp2_with fail
    go_loopg [7] sn (fun g s7 wr=>∃k:Nat,k+g=sn∧s7 = .int .i64 (k:Int)∧(∀j,j < k→sOk mx s.samples j)∧Below q w wr∧Below wo.heap.size wo wr)
    case atStart=>exact ⟨0,by omega,rfl,(fun j hj=>by omega),HB.out,Below.refl _ _⟩
    case round=>
     obtain ⟨k,hkg,rfl,hallk,hbk,hb2k⟩:=hrel;have HKG:=Jh hkg;have HAk:=Jh hallk;have HBk:=Jh hbk;have HB2k:=Jh hb2k;clear hkg hallk hbk hb2k;obtain ⟨wk,rfl⟩:∃x,x=wr:=⟨_,rfl⟩;have HSk:=Jh (HSo.out.below HB2k.out);have hkk:=HKo.out.below HB2k.out HKo.out.lt;have e1:wk.cell? ⟨q,1,none⟩=some (.int .i64 mx):=hkk.cell 1;have e5:wk.cell? ⟨q,5,none⟩=some (.slice sA sn h.s.c):=hkk.cell 5;have hqk:=hkk.lt;clear hkk
     by_cases hk:k < sn
     ·have elk:decide (k < sn)=true:=by rw[decide_eq_true_eq];exact hk
      have hk2:(k:Int) < (sn:Int):=by omega
      have hss:=HSk.out.s;rw[HSA0.out,HSN0.out] at hss;obtain ⟨bs,os,rfl,hbk,g1⟩:=hss.getS hk;have p0:wk.cell? ⟨bs,os+k*2,none⟩=some (.int .i64 s.samples[k]!.t):=g1 0 _ rfl;obtain ⟨x,hx⟩:∃x,s.samples[k]! = x:=⟨_,rfl⟩;rw[hx] at p0;have HX:=Jh hx;obtain ⟨xt,xv⟩:=x;dsimp only at p0;have hss2:=hss;clear hx g1 hss
      by_cases g3:xt < 0
      ·have a3:decide (xt < 0)=true:=decide_eq_true g3;go_upto_region 14 with fail
       refine Kab (by kernel_rfl) (by kernel_rfl) ?_
       repeat (go_big_quiet_step (fail))
       refine wpQuiet_nil ?_;rintro wz ⟨⟨_,hbz⟩,rfl⟩;have HBZ:=Jh (HBk.out.trans (hbz.mono (by have:=HBk.out.size;have:=HQ.out;omega)));have HB2Z:=Jh (then_ HB2k.out hbz);clear hbz
       have hre:R=false:=by
        rcases Bool.eq_false_or_eq_true R with e | e
        ·have:=(HAT.out.1 e).2.2.2 k (by rw[HNL.out];exact hk);unfold sOk at this;rw[HX.out] at this;dsimp only at this;exact absurd this (fun h=>by have:=h.1;omega)
        ·exact e
       subst hre;go_wp2_with fail
       go_ret
       exact ⟨rfl,by rw[HQ.out];exact HBZ.out⟩
      have a3:decide (xt < 0)=false:=decide_eq_false g3
      by_cases g4:mx < xt
      ·have a4:decide (mx < xt)=true:=decide_eq_true g4;go_upto_region 14 with fail
       refine Kab (by kernel_rfl) (by kernel_rfl) ?_
       repeat (go_big_quiet_step (fail))
       refine wpQuiet_nil ?_;rintro wz ⟨⟨_,hbz⟩,rfl⟩;have HBZ:=Jh (HBk.out.trans (hbz.mono (by have:=HBk.out.size;have:=HQ.out;omega)));have HB2Z:=Jh (then_ HB2k.out hbz);clear hbz
       have hre:R=false:=by
        rcases Bool.eq_false_or_eq_true R with e | e
        ·have:=(HAT.out.1 e).2.2.2 k (by rw[HNL.out];exact hk);unfold sOk at this;rw[HX.out] at this;dsimp only at this;exact absurd this (fun h=>by have:=h.2.1;omega)
        ·exact e
       subst hre;go_wp2_with fail
       go_ret
       exact ⟨rfl,by rw[HQ.out];exact HBZ.out⟩
      have a4:decide (mx < xt)=false:=decide_eq_false g4
      by_cases hk0:k=0
      ·have z6:decide (0 < k)=false:=by rw[decide_eq_false_iff_not];omega
       have z5:¬(0:Int) < (k:Int):=by omega
       have HK0:=Jh hk0;clear hk0;go_upto_region 14 with fail
       refine Kab (by kernel_rfl) (by kernel_rfl) ?_
       repeat (go_big_quiet_step (fail))
       refine wpQuiet_nil ?_;rintro wz ⟨⟨_,hbz⟩,rfl⟩;have HBZ:=Jh (HBk.out.trans (hbz.mono (by have:=HBk.out.size;have:=HQ.out;omega)));have HB2Z:=Jh (then_ HB2k.out hbz);clear hbz
       have HN:=Jh (show ∀jj,jj < k+1→sOk mx s.samples jj from fun j' hj'=>by
        by_cases hjk:j'=k
        ·rw[hjk];unfold sOk;rw[HX.out];exact ⟨by dsimp only;omega,by dsimp only;omega,fun h=>by have:=HK0.out;omega⟩
        ·exact HAk.out j' (by omega))
       go_wp2_with fail
       go_roundg (gk - 1)
       case measure=>have:=HKG.out;omega
       case rel=>exact ⟨k+1,by have:=HKG.out;omega,by first | rfl | go_num,HN.out,HBZ.out,HB2Z.out⟩
      ·obtain ⟨j,hj⟩:∃j,j+1=k:=⟨k - 1,by omega⟩;obtain ⟨bs',os',hA',_,g1'⟩:=hss2.getS (i:=j) (by omega);injection hA' with hA';injection hA' with hA1 hA2 _;subst hA1 hA2;have r0:wk.cell? ⟨bs,os+j*2,none⟩=some (.int .i64 s.samples[j]!.t):=g1' 0 _ rfl;obtain ⟨y,hy⟩:∃y,s.samples[j]! = y:=⟨_,rfl⟩;rw[hy] at r0;have HY:=Jh hy;obtain ⟨yt,yv⟩:=y;dsimp only at r0;have z6:decide (0 < k)=true:=by rw[decide_eq_true_eq];omega
       have z5:(0:Int) < (k:Int):=by omega
       have z7:IntKind.i64.wrap ((k:Int) - 1)=(j:Int):=by rw[show (k:Int) - 1=(j:Int) by omega];exact IntWalk.i64_in _ (by omega)
       have z8:¬(j:Int) < 0:=by omega
       have z9:(j:Int) < (sn:Int):=by omega
       have HJ:=Jh hj;clear hy g1' hj hk0 hss2
       by_cases g5:xt≤yt
       ·have a5:decide (xt≤yt)=true:=decide_eq_true g5;go_upto_region 14 with fail
        refine Kab (by kernel_rfl) (by kernel_rfl) ?_
        repeat (go_big_quiet_step (fail))
        refine wpQuiet_nil ?_;rintro wz ⟨⟨_,hbz⟩,rfl⟩;have HBZ:=Jh (HBk.out.trans (hbz.mono (by have:=HBk.out.size;have:=HQ.out;omega)));have HB2Z:=Jh (then_ HB2k.out hbz);clear hbz
        have hre:R=false:=by
         rcases Bool.eq_false_or_eq_true R with e | e
         ·have:=(HAT.out.1 e).2.2.2 k (by rw[HNL.out];exact hk);unfold sOk at this;rw[HX.out] at this;dsimp only at this
          exact absurd this (fun h=>by
           have h1:=h.2.2 (by omega);rw[show k - 1=j by have:=HJ.out;omega,HY.out] at h1;dsimp only at h1
           omega)
         ·exact e
        subst hre;go_wp2_with fail
        go_ret
        exact ⟨rfl,by rw[HQ.out];exact HBZ.out⟩
       ·have a5:decide (xt≤yt)=false:=decide_eq_false g5;go_upto_region 14 with fail
        refine Kab (by kernel_rfl) (by kernel_rfl) ?_
        repeat (go_big_quiet_step (fail))
        refine wpQuiet_nil ?_;rintro wz ⟨⟨_,hbz⟩,rfl⟩;have HBZ:=Jh (HBk.out.trans (hbz.mono (by have:=HBk.out.size;have:=HQ.out;omega)));have HB2Z:=Jh (then_ HB2k.out hbz);clear hbz
        have HN:=Jh (show ∀jj,jj < k+1→sOk mx s.samples jj from fun j' hj'=>by
         by_cases hjk:j'=k
         ·rw[hjk];unfold sOk;rw[HX.out];exact ⟨by dsimp only;omega,by dsimp only;omega,fun h=>by rw[show k - 1=j by have:=HJ.out;omega,HY.out];dsimp only;omega⟩
         ·exact HAk.out j' (by omega))
        go_wp2_with fail
        go_roundg (gk - 1)
        case measure=>have:=HKG.out;omega
        case rel=>exact ⟨k+1,by have:=HKG.out;omega,by first | rfl | go_num,HN.out,HBZ.out,HB2Z.out⟩
     ·have elk:decide (k < sn)=false:=by rw[decide_eq_false_iff_not];exact hk
      have hre:R=true:=HAT.out.2 ⟨HV.out,by omega,fun j hj=>HA.out j hj,fun j hj=>HAk.out j (by have:=HNL.out;omega)⟩;subst hre;go_wp2_with fail
      go_ret
      exact ⟨rfl,by rw[HQ.out];exact HBk.out⟩
end
section
open Go.RowKit
attribute [local go_sem ↓] Go.wp_at_zero Go.wp_at_succ
attribute [local go_sem] Later.cell
theorem Elems.get {α : Type} [Inhabited α] {w:World} {B sz n:Nat} {enc:α→List Value} {A:Option Addr} {xs:List α} (h:Elems w B sz enc A n xs) {i:Nat} (hi:i < n):∃b off,A=some ⟨b,off,none⟩∧b < B∧∀j v,(enc xs[i]!)[j]? = some v→w.cell? ⟨b,off+i*sz+j,none⟩=some v:=by
 obtain ⟨b,off,e,hb,hc⟩:=h.2 (by omega);have hl:i < xs.length:=by have:=h.len;omega
 refine ⟨b,off,e,hb,fun j v hv=>hc i xs[i]! (by rw[getElem!_pos xs i hl];exact List.getElem?_eq_getElem hl) j v hv⟩
end
section
open Go.RowKit
open Lib renaming hid → Jh
attribute [local go_sem ↓] Go.wp_at_zero Go.wp_at_succ
attribute [local go_sem] Later.cell
theorem Qhj (m:List Lb):cmpL [] m=if m = [] then 0 else -1:=by cases m <;> rfl
theorem Qdx (m:List Lb):cmpL m []=if m = [] then 0 else 1:=by cases m <;> rfl
theorem Kix (l m:List Lb) (A B:Option Addr) (n k ca cb:Nat) (w:World) (r:Int) (hr:cmpL l m=r) (hA:Elems w w.heap.size 2 encLb A n l) (hB:Elems w w.heap.size 2 encLb B k m) (hn:n≤140737488351232) (hk:k≤140737488351232) :
  Calls Tryz.prog 42 #[.slice A n ca,.slice B k cb] w fun e w'=>e = .returned (.int .i64 r)∧Below w.heap.size w w':=by
 have HR:=Jh hr;have HLN:=Jh hA.len;have HMK:=Jh hB.len;clear hr;go_enter Tryz.func42,Tryz.ntmps42
 go_wp2_with fail
 go_loopg [5] n (fun g s5 wr=>∃i:Nat,s5 = .int .i64 (i:Int)∧i+g=n∧i≤k∧cmpL (l.drop i) (m.drop i)=r∧Below w.heap.size w wr)
 case atStart=>exact ⟨0,rfl,by omega,Nat.zero_le _,HR.out,Below.refl _ _⟩
 case round=>
  obtain ⟨i,rfl,hig,hik,hcm,hB0⟩:=hrel;have HIG:=Jh hig;have HCM:=Jh hcm;clear hig hcm
  by_cases hi:i < n
  ·have el:decide (i < n)=true:=by rw[decide_eq_true_eq];exact hi
   by_cases hi2:i < k
   ·have el2:decide (i < k)=true:=by rw[decide_eq_true_eq];exact hi2
    obtain ⟨w0,rfl⟩:∃x,x=wr:=⟨_,rfl⟩;have hil:i < l.length:=by have:=HLN.out;omega
    have him:i < m.length:=by have:=HMK.out;omega
    have hn0:0 < n:=by omega
    have hk0:0 < k:=by omega
    obtain ⟨b,off,rfl,hbl,_⟩:=hA.2 hn0;obtain ⟨b',off',rfl,hbm,_⟩:=hB.2 hk0;obtain ⟨x,hx⟩:∃x,l[i]! = x:=⟨_,rfl⟩;obtain ⟨y,hy⟩:∃y,m[i]! = y:=⟨_,rfl⟩;obtain ⟨XN,hXN⟩:∃N:ByteArray,(⟨x.n.toArray⟩:ByteArray)=N:=⟨_,rfl⟩;obtain ⟨XV,hXV⟩:∃N:ByteArray,(⟨x.v.toArray⟩:ByteArray)=N:=⟨_,rfl⟩;obtain ⟨YN,hYN⟩:∃N:ByteArray,(⟨y.n.toArray⟩:ByteArray)=N:=⟨_,rfl⟩;obtain ⟨YV,hYV⟩:∃N:ByteArray,(⟨y.v.toArray⟩:ByteArray)=N:=⟨_,rfl⟩;have hdl:l.drop i=x :: l.drop (i+1):=by rw[←hx,getElem!_pos l i hil];exact List.drop_eq_getElem_cons hil
    have hdm:m.drop i=y :: m.drop (i+1):=by rw[←hy,getElem!_pos m i him];exact List.drop_eq_getElem_cons him
    have hcm:=HCM.out;rw[hdl,hdm,cmpL] at hcm;obtain ⟨q1,hq1⟩:∃q,Op.bytesLess XN.toList YN.toList=q:=⟨_,rfl⟩;obtain ⟨q2,hq2⟩:∃q,(XN.toList == YN.toList)=q:=⟨_,rfl⟩;obtain ⟨q3,hq3⟩:∃q,Op.bytesLess XV.toList YV.toList=q:=⟨_,rfl⟩;obtain ⟨q4,hq4⟩:∃q,(XV.toList == YV.toList)=q:=⟨_,rfl⟩;have k1:q1=decide (x.n < y.n):=by rw[←hq1,←hXN,Khr,←hYN]
    have k2:q2=decide (x.n=y.n):=by rw[←hq2,←hXN,←hYN,ByteArray.toList_eq,ByteArray.toList_eq,Bool.eq_iff_iff];simp
    have k3:q3=decide (x.v < y.v):=by rw[←hq3,←hXV,Khr,←hYV]
    have k4:q4=decide (x.v=y.v):=by rw[←hq4,←hXV,←hYV,ByteArray.toList_eq,ByteArray.toList_eq,Bool.eq_iff_iff];simp
    have HQ1:Hid (q1=true→r = -1):=Jh (fun h=>by rw[k1,decide_eq_true_eq] at h;rw[if_pos h] at hcm;exact hcm.symm);have HQ2:Hid (q1=false→q2=false→r=1):=Jh (fun h1 h=>by rw[k1,decide_eq_false_iff_not] at h1;rw[k2,decide_eq_false_iff_not] at h;rw[if_neg h1,if_pos (Decidable.byContradiction fun h3=>h (Kgc h1 h3))] at hcm;exact hcm.symm);have HQ3:Hid (q1=false→q2=true→q3=true→r = -1):=Jh (fun h1 h2 h=>by rw[k1,decide_eq_false_iff_not] at h1;rw[k2,decide_eq_true_eq] at h2;rw[k3,decide_eq_true_eq] at h;rw[if_neg h1,if_neg (by rw[h2];exact List.lt_irrefl _),if_pos h] at hcm;exact hcm.symm);have HQ4:Hid (q1=false→q2=true→q3=false→q4=false→r=1):=Jh (fun h1 h2 h3 h=>by rw[k1,decide_eq_false_iff_not] at h1;rw[k2,decide_eq_true_eq] at h2;rw[k3,decide_eq_false_iff_not] at h3;rw[k4,decide_eq_false_iff_not] at h;rw[if_neg h1,if_neg (by rw[h2];exact List.lt_irrefl _),if_neg h3,if_pos (Decidable.byContradiction fun h5=>h (Kgc h3 h5))] at hcm;exact hcm.symm);have HQ5:Hid (q1=false→q2=true→q3=false→q4=true→cmpL (l.drop (i+1)) (m.drop (i+1))=r):=Jh (fun h1 h2 h3 h=>by rw[k1,decide_eq_false_iff_not] at h1;rw[k2,decide_eq_true_eq] at h2;rw[k3,decide_eq_false_iff_not] at h3;rw[k4,decide_eq_true_eq] at h;rw[if_neg h1,if_neg (by rw[h2];exact List.lt_irrefl _),if_neg h3,if_neg (by rw[h];exact List.lt_irrefl _)] at hcm;exact hcm);have HX:=Jh hx;have HY:=Jh hy;have HXN:=Jh hXN;have HXV:=Jh hXV;have HYN:=Jh hYN;have HYV:=Jh hYV;obtain ⟨_,a0,a1⟩:=Kce hA hn0 hB0 i hil;obtain ⟨_,d0,d1⟩:=Kce hB hk0 hB0 i him;rw[hx,hXN] at a0;rw[hx,hXV] at a1;rw[hy,hYN] at d0;rw[hy,hYV] at d1;have hbl0:b < w0.heap.size:=by have:=hB0.size;omega
    have hbm0:b' < w0.heap.size:=by have:=hB0.size;omega
    clear k1 k2 k3 k4 hcm hdl hdm hx hy hXN hXV hYN hYV;go_upto_region 4 with fail
    refine Kab (by kernel_rfl) (by kernel_rfl) ?_
    repeat (go_big_quiet_step (fail))
    refine wpQuiet_nil ?_;rintro w1 ⟨⟨_,hb1⟩,rfl⟩;have hB1:Below w.heap.size w w1:=then_ hB0 hb1;obtain ⟨_,a0,a1⟩:=Kce hA hn0 hB1 i hil;obtain ⟨_,d0,d1⟩:=Kce hB hk0 hB1 i him;rw[HX.out,HXN.out] at a0;rw[HX.out,HXV.out] at a1;rw[HY.out,HYN.out] at d0;rw[HY.out,HYV.out] at d1;have hbl1:b < w1.heap.size:=by have:=hB1.size;omega
    have hbm1:b' < w1.heap.size:=by have:=hB1.size;omega
    cases q1 with
    | true=>
     have hre:r = -1:=HQ1.out rfl;subst hre;go_wp2_with fail
     go_ret
     exact ⟨rfl,hB1⟩
    | false=>
     go_upto_region 6 with fail
     refine Kab (by kernel_rfl) (by kernel_rfl) ?_
     repeat (go_big_quiet_step (fail))
     refine wpQuiet_nil ?_;rintro w2 ⟨⟨_,hb2⟩,rfl⟩;have hB2:Below w.heap.size w w2:=then_ hB1 hb2;obtain ⟨_,a0,a1⟩:=Kce hA hn0 hB2 i hil;obtain ⟨_,d0,d1⟩:=Kce hB hk0 hB2 i him;rw[HX.out,HXN.out] at a0;rw[HX.out,HXV.out] at a1;rw[HY.out,HYN.out] at d0;rw[HY.out,HYV.out] at d1;have hbl2:b < w2.heap.size:=by have:=hB2.size;omega
     have hbm2:b' < w2.heap.size:=by have:=hB2.size;omega
     cases q2 with
     | false=>
      have hre:r=1:=HQ2.out rfl rfl;subst hre;go_wp2_with fail
      go_ret
      exact ⟨rfl,hB2⟩
     | true=>
      go_upto_region 8 with fail
      refine Kab (by kernel_rfl) (by kernel_rfl) ?_
      repeat (go_big_quiet_step (fail))
      refine wpQuiet_nil ?_;rintro w3 ⟨⟨_,hb3⟩,rfl⟩;have hB3:Below w.heap.size w w3:=then_ hB2 hb3;obtain ⟨_,a0,a1⟩:=Kce hA hn0 hB3 i hil;obtain ⟨_,d0,d1⟩:=Kce hB hk0 hB3 i him;rw[HX.out,HXN.out] at a0;rw[HX.out,HXV.out] at a1;rw[HY.out,HYN.out] at d0;rw[HY.out,HYV.out] at d1;have hbl3:b < w3.heap.size:=by have:=hB3.size;omega
      have hbm3:b' < w3.heap.size:=by have:=hB3.size;omega
      cases q3 with
      | true=>
       have hre:r = -1:=HQ3.out rfl rfl rfl;subst hre;go_wp2_with fail
       go_ret
       exact ⟨rfl,hB3⟩
      | false=>
       go_upto_region 10 with fail
       refine Kab (by kernel_rfl) (by kernel_rfl) ?_
       repeat (go_big_quiet_step (fail))
       refine wpQuiet_nil ?_;rintro w4 ⟨⟨_,hb4⟩,rfl⟩;have hB4:Below w.heap.size w w4:=then_ hB3 hb4;obtain ⟨_,a0,a1⟩:=Kce hA hn0 hB4 i hil;obtain ⟨_,d0,d1⟩:=Kce hB hk0 hB4 i him;rw[HX.out,HXN.out] at a0;rw[HX.out,HXV.out] at a1;rw[HY.out,HYN.out] at d0;rw[HY.out,HYV.out] at d1;have hbl4:b < w4.heap.size:=by have:=hB4.size;omega
       have hbm4:b' < w4.heap.size:=by have:=hB4.size;omega
       cases q4 with
       | false=>
        have hre:r=1:=HQ4.out rfl rfl rfl rfl;subst hre;go_wp2_with fail
        go_ret
        exact ⟨rfl,hB4⟩
       | true=>
         go_wp2_with fail
         go_roundg (gk - 1)
         case measure=>have:=HIG.out;omega
         case rel=>exact ⟨i+1,by go_num,by have:=HIG.out;omega,by omega,by first | exact HQ5.out rfl rfl rfl rfl | simpa using HQ5.out,hB4⟩
   ·have el2:decide (i < k)=false:=by rw[decide_eq_false_iff_not];exact hi2
    have hik2:i=k:=by omega
    have hre:r=1:=by
     have h1:=HCM.out;rw[List.drop_eq_nil_of_le (show m.length≤i by have:=HMK.out;omega),Qdx,if_neg (by rw[List.drop_eq_nil_iff];have:=HLN.out;omega)] at h1;exact h1.symm
    have e1:decide (n < k)=false:=by rw[decide_eq_false_iff_not];omega
    have e2:decide (k < n)=true:=by rw[decide_eq_true_eq];omega
    subst hre;go_wp2_with fail
    go_ret
    exact ⟨rfl,hB0⟩
  ·have el:decide (i < n)=false:=by rw[decide_eq_false_iff_not];exact hi
   have hin:i=n:=by have:=HIG.out;omega
   have h1:=HCM.out;rw[List.drop_eq_nil_of_le (show l.length≤i by have:=HLN.out;omega),Qhj] at h1
   by_cases hnk:n < k
   ·have hre:r = -1:=by
     rw[if_neg (by rw[List.drop_eq_nil_iff];have:=HMK.out;omega)] at h1;exact h1.symm
    have e1:decide (n < k)=true:=by rw[decide_eq_true_eq];exact hnk
    subst hre;clear h1;go_wp2_with fail
    go_ret
    exact ⟨rfl,hB0⟩
   ·have hre:r=0:=by
     rw[if_pos (by rw[List.drop_eq_nil_iff];have:=HMK.out;omega)] at h1;exact h1.symm
    have e1:decide (n < k)=false:=by rw[decide_eq_false_iff_not];exact hnk
    have e2:decide (k < n)=false:=by rw[decide_eq_false_iff_not];omega
    subst hre;clear h1;go_wp2_with fail
    go_ret
    exact ⟨rfl,hB0⟩
end
end Go.Proofs.YtefpndiiedkmpaaGreatDoor
