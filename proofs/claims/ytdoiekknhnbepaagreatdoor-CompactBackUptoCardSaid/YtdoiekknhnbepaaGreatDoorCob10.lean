/- Merged (what the claim wants of): MrgOnceP, MrgCompW. -/
import Derived.Test.YtdoiekknhnbepaaGreatDoorCob08
import Derived.Test.YtdoiekknhnbepaaGreatDoorCob09
import Derived.Test.YtdoiekknhnbepaaGreatDoorCob05
import Derived.Test.YtdoiekknhnbepaaGreatDoorCob02
import Derived.Test.YtdoiekknhnbepaaGreatDoorProg
import Derived.Shelf.SlSortCmp.KitK
import Derived.Sort.WalkB2
import Derived.Sort.WalkB12
import Derived.Deep.LoopGhost
import Derived.Lib.SliceRun
import Derived.Lib.BufferOwn
set_option linter.unusedVariables false
set_option linter.unusedSimpArgs false
set_option maxRecDepth 100000
set_option maxHeartbeats 8000000
namespace Go.Proofs.YtdoiekknhnbepaaGreatDoor
section
open Go.Shelf Go.RowKit Go.Lib Go.Sort
open Lib renaming hid → Jh
section
set_option maxHeartbeats 1000000
set_option maxRecDepth 100000
theorem Khv (x:Smp) (w:World):Calls Tryz.prog 63 #[.agg (Kad x).toArray] w fun e w'=>e = .returned (.int .i64 x.t)∧Grown w w':=by
 obtain ⟨a,b⟩:=x;unfold Kad;go_enter Tryz.func63,Tryz.ntmps63
 go_wp2_with fail
 go_ret
 exact ⟨rfl,(Grown.refl _).alloc _⟩
theorem Kuu (a b:Int) (w:World):Calls Tryz.prog 134 #[.int .i64 a,.int .i64 b] w fun e w'=>e = .returned (.int .i64 (if a < b then -1 else if b < a then 1 else 0))∧w=w':=by
 have hnan:∀(a:Int) (w:World),Calls Tryz.prog 181 #[.int .i64 a] w fun e w'=>e = .returned (.bool false)∧w=w':=by
  intro a w;have n1:(a != a)=false:=by simp
  go_enter Tryz.func181,Tryz.ntmps181
  go_wp2
  go_ret
  exact ⟨by simp,rfl⟩
 have h1:=fun W=>hnan a W
 have h2:=fun W=>hnan b W
 rcases (by omega:a < b∨b < a∨a=b) with h | h | h
 ·rw[if_pos h];have d1:decide (a < b)=true:=decide_eq_true h;clear hnan;go_enter Tryz.func134,Tryz.ntmps134
  go_wp2_with fail
  refine (h1 _).mono ?_;rintro _ w1 ⟨rfl,rfl⟩;go_wp2_with fail
  refine (h2 _).mono ?_;rintro _ w1 ⟨rfl,rfl⟩;go_wp2_with fail
  go_ret
  exact ⟨rfl,rfl⟩
 ·have hn:¬a < b:=by omega
  rw[if_neg hn,if_pos h];have d1:decide (a < b)=false:=decide_eq_false hn;have d2:decide (b < a)=true:=decide_eq_true h;have hle:b≤a:=by omega
  have hne:¬a=b:=by omega
  clear hnan;go_enter Tryz.func134,Tryz.ntmps134
  go_wp2_with fail
  refine (h1 _).mono ?_;rintro _ w1 ⟨rfl,rfl⟩;go_wp2_with fail
  refine (h2 _).mono ?_;rintro _ w1 ⟨rfl,rfl⟩;go_wp2_with fail
  go_ret
  exact ⟨rfl,rfl⟩
 ·subst h;have hn:¬a < a:=by omega
  rw[if_neg hn,if_neg hn];have d1:decide (a < a)=false:=decide_eq_false hn;clear hnan;go_enter Tryz.func134,Tryz.ntmps134
  go_wp2_with fail
  refine (h1 _).mono ?_;rintro _ w1 ⟨rfl,rfl⟩;go_wp2_with fail
  refine (h2 _).mono ?_;rintro _ w1 ⟨rfl,rfl⟩;go_wp2_with fail
  go_ret
  exact ⟨rfl,rfl⟩
attribute [local go_sem] Kbs.cell
theorem Krz (x y:Smp) (p:Nat) (W:World) (hp:Blk W p 146 #[.func (.func 63) #[] #[]]) :
  Calls Tryz.prog 133 #[.agg (Kad x).toArray,.agg (Kad y).toArray,.pointer (some ⟨p,0,none⟩)] W fun e w'=>e = .returned (.int .i64 (cfT Smp.t x y))∧Grown W w':=by
 have HT:=Jh (fun (x:Smp) (w:World)=>Khv x w);have HCM:=Jh (fun (w:World)=>Kuu x.t y.t w);have hcf:cfT Smp.t x y=if x.t < y.t then -1 else if y.t < x.t then 1 else 0:=rfl
 rw[hcf];obtain ⟨r,hr⟩:∃r:Int,(if x.t < y.t then -1 else if y.t < x.t then 1 else 0:Int)=r:=⟨_,rfl⟩;rw[hr] at HCM ⊢;obtain ⟨cx,hcx⟩:∃c,c=(Kad x).toArray:=⟨_,rfl⟩;obtain ⟨cy,hcy⟩:∃c,c=(Kad y).toArray:=⟨_,rfl⟩;have egT:∀args w,(callFunc 63 args).run Tryz.prog w = .ok (.enter 63 args) w:=enters_of Tryz.func63 (by kernel_rfl) rfl;have HTX:=Jh (fun w=>HT.out x w);have HTY:=Jh (fun w=>HT.out y w);obtain ⟨tx,htx⟩:∃t,t=x.t:=⟨_,rfl⟩;obtain ⟨tz,hty⟩:∃t,t=y.t:=⟨_,rfl⟩;rw[←htx,←hty] at HCM;rw[←htx] at HTX;rw[←hty] at HTY;clear hcf hr HT;obtain ⟨a,b⟩:=x;obtain ⟨a2,b2⟩:=y;unfold Kad at hcx hcy HTX HTY ⊢;dsimp only at HTX HTY ⊢;clear hcx hcy htx hty cx cy;go_enter Tryz.func133,Tryz.ntmps133
 go_upto_region 1 with fail
 obtain ⟨w1,hw1⟩:∃x,(W.alloc (.cells #[.int .i64 a,.int .u64 b] 102)).alloc (.cells #[.int .i64 a2,.int .u64 b2] 102)=x:=⟨_,rfl⟩;have hb1:Grown W w1:=by rw[←hw1];exact ((Grown.refl _).alloc _).alloc _
 have hq:Blk w1 W.heap.size 102 #[.int .i64 a,.int .u64 b]:=by rw[←hw1];exact (Blk.new _ _ _).alloc _
 have hq2:Blk w1 (W.heap.size+1) 102 #[.int .i64 a2,.int .u64 b2]:=by rw[←hw1];exact Blk.newAt (by simp)
 have hp1:Blk w1 p 146 #[.func (.func 63) #[] #[]]:=hp.below hb1.below hp.lt;rw[hw1];obtain ⟨a0,hA⟩:∃a0,W.heap.size=a0:=⟨_,rfl⟩;rw[hA] at hq hq2 ⊢;clear hw1 hp;have q0:_=some (Value.int .i64 a):=hq.cell 0;have q1:_=some (Value.int .u64 b):=hq.cell 1;have r0:_=some (Value.int .i64 a2):=hq2.cell 0;have r1:_=some (Value.int .u64 b2):=hq2.cell 1;have p0:_=some (Value.func (.func 63) #[] #[]):=hp1.cell 0;have hql:=hq.lt;have hpl:=hq2.lt;have hpp:=hp1.lt;refine Kas 6 (by kernel_rfl) (by kernel_rfl) ?_;simp only[List.take_succ_cons,List.take_zero,List.drop_succ_cons,List.drop_zero]
 repeat (go_big_quiet_step ((go_at_fn 63;first | exact Kat _ (HTX.out _) | exact Kat _ (HTY.out _))))
 refine wpQuiet_nil ?_;rintro w2 ⟨⟨_,hb2⟩,rfl⟩;have hB2:Grown W w2:=hb1.trans hb2;go_wp2_with fail
 refine (HCM.out _).mono ?_;rintro _ w3 ⟨rfl,rfl⟩;go_wp2_with fail
 go_ret
 exact ⟨rfl,hB2⟩
theorem Ksb (x y:Smp) (p:Nat) (W:World) (hp:Blk W p 146 #[.func (.func 63) #[] #[]]) :
  Calls Tryz.prog 136 #[.agg (Kad x).toArray,.agg (Kad y).toArray,.pointer (some ⟨p,0,none⟩)] W fun e w'=>e = .returned (.bool (x.t == y.t))∧Grown W w':=by
 have egT:∀args w,(callFunc 63 args).run Tryz.prog w = .ok (.enter 63 args) w:=enters_of Tryz.func63 (by kernel_rfl) rfl;have HTX:=Jh (fun w=>Khv x w);have HTY:=Jh (fun w=>Khv y w);obtain ⟨tx,htx⟩:∃t,t=x.t:=⟨_,rfl⟩;obtain ⟨tz,hty⟩:∃t,t=y.t:=⟨_,rfl⟩;rw[←htx] at HTX ⊢;rw[←hty] at HTY ⊢;clear htx hty;obtain ⟨a,b⟩:=x;obtain ⟨a2,b2⟩:=y;unfold Kad at HTX HTY ⊢;dsimp only at HTX HTY ⊢;go_enter Tryz.func136,Tryz.ntmps136
 go_upto_region 1 with fail
 obtain ⟨w1,hw1⟩:∃x,(W.alloc (.cells #[.int .i64 a,.int .u64 b] 102)).alloc (.cells #[.int .i64 a2,.int .u64 b2] 102)=x:=⟨_,rfl⟩;have hb1:Grown W w1:=by rw[←hw1];exact ((Grown.refl _).alloc _).alloc _
 have hq:Blk w1 W.heap.size 102 #[.int .i64 a,.int .u64 b]:=by rw[←hw1];exact (Blk.new _ _ _).alloc _
 have hq2:Blk w1 (W.heap.size+1) 102 #[.int .i64 a2,.int .u64 b2]:=by rw[←hw1];exact Blk.newAt (by simp)
 have hp1:Blk w1 p 146 #[.func (.func 63) #[] #[]]:=hp.below hb1.below hp.lt;rw[hw1];obtain ⟨a0,hA⟩:∃a0,W.heap.size=a0:=⟨_,rfl⟩;rw[hA] at hq hq2 ⊢;clear hw1 hp;have q0:_=some (Value.int .i64 a):=hq.cell 0;have q1:_=some (Value.int .u64 b):=hq.cell 1;have r0:_=some (Value.int .i64 a2):=hq2.cell 0;have r1:_=some (Value.int .u64 b2):=hq2.cell 1;have p0:_=some (Value.func (.func 63) #[] #[]):=hp1.cell 0;have hql:=hq.lt;have hpl:=hq2.lt;have hpp:=hp1.lt;refine Kas 6 (by kernel_rfl) (by kernel_rfl) ?_;simp only[List.take_succ_cons,List.take_zero,List.drop_succ_cons,List.drop_zero]
 repeat (go_big_quiet_step ((go_at_fn 63;first | exact Kat _ (HTX.out _) | exact Kat _ (HTY.out _))))
 refine wpQuiet_nil ?_;rintro w2 ⟨⟨_,hb2⟩,rfl⟩;have hB2:Grown W w2:=hb1.trans hb2;go_wp2_with fail
 go_ret
 exact ⟨rfl,hB2⟩
theorem Knu (cmp:Value) (w:World):Calls Tryz.prog 132 #[.slice none 0 0,cmp] w fun e w'=>e = .returned (.tuple #[])∧w=w':=by
 have hins:∀W:World,Calls Tryz.prog 224 #[.slice none 0 0,.int .i64 0,.int .i64 0,cmp] W fun e w'=>e = .returned (.tuple #[])∧W=w':=by
  intro W;go_enter Tryz.func224,Tryz.ntmps224
  go_wp2
  go_loopg [8] 0 (fun kx s8 wr=>s8 = .int .i64 1∧wr=W)
  case atStart=>exact ⟨rfl,rfl⟩
  case round=>
   obtain ⟨rfl,rfl⟩:=hrel;go_wp2_with fail
   go_end0
   exact ⟨rfl,rfl⟩
 have hst:∀W:World,Calls Tryz.prog 180 #[.slice none 0 0,.int .i64 0,cmp] W fun e w'=>e = .returned (.tuple #[])∧W=w':=by
  intro W;have HI:=Jh hins;clear hins;go_enter Tryz.func180,Tryz.ntmps180
  go_wp2
  go_loopg [7,8] 0 (fun kx s7 s8 wr=>s7 = .int .i64 0∧s8 = .int .i64 20∧wr=W)
  case atStart=>exact ⟨rfl,rfl,rfl⟩
  case round=>
   obtain ⟨rfl,rfl,rfl⟩:=hrel;go_wp2_with fail
   refine (HI.out _).mono ?_;rintro _ w1 ⟨rfl,rfl⟩;go_wp2_with fail
   go_loopg [6] 0 (fun kx s6 wr2=>s6 = .int .i64 20∧wr2=wr)
   case atStart=>exact ⟨rfl,rfl⟩
   case round=>
    obtain ⟨rfl,rfl⟩:=hrel;go_wp2_with fail
    go_end0
    exact ⟨rfl,rfl⟩
 have HS:=Jh hst;clear hins hst;go_enter Tryz.func132,Tryz.ntmps132
 go_wp2_with fail
 refine (HS.out _).mono ?_;rintro _ w1 ⟨rfl,rfl⟩;go_wp2_with fail
 go_end0
 exact ⟨rfl,rfl⟩
theorem Kmv (eq_:Value) (w:World):Calls Tryz.prog 135 #[.slice none 0 0,eq_] w fun e w'=>e = .returned (.slice none 0 0)∧w=w':=by
 go_enter Tryz.func135,Tryz.ntmps135
 go_wp2_with fail
 go_ret
 exact ⟨rfl,rfl⟩
theorem Kvn (xs:List Smp) (B n:Nat) (v:Value) (w:World) (h:w.ownsRow B 102 2 v n (xs.flatMap Kad)) (hl:xs.length=n) (hn:n≤1099511627776) :
  Calls Tryz.prog 62 #[v,.func (.func 63) #[] #[]] w fun e w'=>∃v' zs,e = .returned v'∧Kaw Smp.t xs zs∧w'.ownsRow B 102 2 v' zs.length (zs.flatMap Kad)∧v'.ownBlock=v.ownBlock∧w.grownBy w' v.ownBlock:=by
 have hsl:(xs = []∧v = .slice none 0 0)∨∃g c,v = .slice (some ⟨g,0,none⟩) n c:=by
  rcases h.2 with ⟨h1,h0⟩ | ⟨g,cap,cur,h1,_⟩
  ·exact .inl ⟨List.eq_nil_of_length_eq_zero (by omega),h1⟩
  ·exact .inr ⟨g,cap,h1⟩
 rcases hsl with ⟨rfl,rfl⟩ | ⟨g,cap,rfl⟩
 ·have hn0:n=0:=by simpa using hl.symm
  subst hn0;have hS:=Jh (fun (c:Value) (W:World)=>Knu c W);have hC:=Jh (fun (c:Value) (W:World)=>Kmv c W);have H:=Jh h;clear h;go_enter Tryz.func62,Tryz.ntmps62
  go_wp2_with fail
  refine (hS.out _ _).mono ?_;rintro _ w1 ⟨rfl,rfl⟩;go_wp2_with fail
  refine (hC.out _ _).mono ?_;rintro _ w1 ⟨rfl,rfl⟩;go_wp2_with fail
  go_ret
  have hb:w.grownBy (w.alloc (.cells #[.func (.func 63) #[] #[]] 146)) none:=World.grownBy_alloc w _ none;exact ⟨_,[],rfl,Kaw.nil _,by simpa using (World.ownsRow.alloc H.out _),rfl,hb⟩
 ·have hlt:=World.ownsRow.lt h g rfl;obtain ⟨w1,hw1⟩:∃x,w.alloc (.cells #[.func (.func 63) #[] #[]] 146)=x:=⟨_,rfl⟩;obtain ⟨p,hp⟩:∃p,p=w.heap.size:=⟨_,rfl⟩;have hb:Blk w1 p 146 #[.func (.func 63) #[] #[]]:=by rw[hp,←hw1];exact Blk.new _ _ _
  have hpg:p≠g:=by omega
  have hpz:p < w1.heap.size:=hb.lt;have h1:w1.ownsRow B 102 2 (.slice (some ⟨g,0,none⟩) n cap) n (xs.flatMap Kad):=by rw[←hw1];exact World.ownsRow.alloc h _
  have hg1:w.grownBy w1 (some g):=by rw[←hw1];exact World.grownBy_alloc w _ _
  have R:RowK Kad 2 w1 g 0 xs.toArray:=⟨Kep,Kis,Key Kep (by decide) h1 hl,(World.ownsRow.lt h1 g rfl).2⟩;have hN:xs.toArray.size=n:=by simpa using hl
  have hcapn:n≤cap:=by
   rcases h.2 with ⟨he,_⟩ | ⟨g',cap',cur,he,_,_,h3,_⟩
   ·cases he
   ·injection he with _ _ hcc;subst hcc;exact h3
  have eg1:∀args w,(callFunc 133 args).run Tryz.prog w = .ok (.enter 133 args) w:=enters_of Tryz.func133 (by kernel_rfl) rfl;have eg2:∀args w,(callFunc 136 args).run Tryz.prog w = .ok (.enter 136 args) w:=enters_of Tryz.func136 (by kernel_rfl) rfl;have hblk:∀(dk:Array Smp) (W:World),SWK Kad 2 w1 g 0 dk W→Blk W p 146 #[.func (.func 63) #[] #[]]:=fun dk W hS=>hb.grown (SWK.by hS) (by intro e;injection e with e;exact hpg e)
  have hcmp:CmpLays Tryz.prog 133 #[.pointer (some ⟨p,0,none⟩)] Kad 2 (cfT Smp.t) g 0 xs.toArray.size w1:=by
   intro m os dk hdk x y;refine (Krz x y p _ (hblk dk _ ⟨m,os,rfl⟩)).mono ?_;rintro e w' ⟨he,⟨q,hq⟩⟩;exact ⟨he,q.n,q.os,hq⟩
  have heq:Kmo Tryz.prog 136 #[.pointer (some ⟨p,0,none⟩)] Kad 2 (fun x y=>x.t == y.t) g 0 xs.toArray.size w1:=by
   intro W dk hdk hS x y;refine (Ksb x y p _ (hblk dk _ hS)).mono ?_;rintro e w' ⟨he,⟨q,hq⟩⟩;exact ⟨he,q.n,q.os,hq⟩
  have HS:=Jh (Klc (cap:=cap) (swoT Smp.t) eg1 hcmp R hN (by omega) xs w1 hl (SWK.start R.hH));have HC:=Jh (fun (ys:List Smp) (W:World) (hy:ys.length=n) (hS:SWK Kad 2 w1 g 0 ys.toArray W)=>Kok (cap:=cap) eg2 heq R hN (by omega) ys W hy (fun W dk i a b c=>Kkp (P:=Tryz.prog) Tryz.underlying55 (⟨0,0⟩:Smp) (fun w=>Tryz.zeroValue102 w) (by decide) R hN W dk i (cap - i) a b c) hcapn hS);have HG:=Jh hg1;have H1:=Jh h1;have HL:=Jh hl;clear h h1 hl hN hg1 hcmp heq hblk hb hcapn R hlt;go_enter Tryz.func62,Tryz.ntmps62
  go_upto_region 1 with fail
  try rw[hw1]
  try rw[←hp]
  clear hw1 hp;go_wp2_with fail
  refine Calls.mono HS.out ?_;rintro _ w2 ⟨rfl,ys,hst,hS2⟩;have HST:=Jh hst;have hyl:ys.length=n:=by rw[hst.len];exact HL.out
  have HC2:=Jh (HC.out ys w2 hyl hS2);clear hst hS2 hyl;go_wp2_with fail
  refine Calls.mono HC2.out ?_;rintro _ w3 ⟨rfl,zs,z1,z2,z3⟩;have HZ:=Jh (And.intro z1 (And.intro z2 z3));clear z1 z2 z3;go_wp2_with fail
  go_ret
  obtain ⟨z1,z2,z3⟩:=HZ.out;refine ⟨_,dupE (fun x y:Smp=>x.t == y.t) ys,rfl,Kqm Smp.t _ (fun x y=>by rw[Bool.eq_iff_iff];simp) HST.out,?_,rfl,?_⟩
  ·obtain ⟨m,os,rfl⟩:=z3;have ho:=Kfd Kep (by decide) H1.out HL.out zs.toArray (by simpa using z1) m os
   have hle:(dupE (fun x y:Smp=>x.t == y.t) ys).length≤n:=by
    have:=congrArg List.length z2;rw[List.length_take] at this;omega
   have:=Kmj ho hle
   rw[show (zs.toArray.toList.flatMap Kad).take ((dupE (fun x y:Smp=>x.t == y.t) ys).length*2)=(dupE (fun x y:Smp=>x.t == y.t) ys).flatMap Kad by
    have hzz:zs=zs.take (dupE (fun x y:Smp=>x.t == y.t) ys).length++zs.drop (dupE (fun x y:Smp=>x.t == y.t) ys).length:=(List.take_append_drop _ _).symm;rw[show zs.toArray.toList=zs by simp]
    conv=>lhs;rw[hzz]
    rw[List.flatMap_append,List.take_left' (by rw[Kdd Kep,z2]),z2]] at this
   exact this
  ·exact Lib.grownBy_trans HG.out (SWK.by z3)
end
end
section
open List renaming length_append → Jd
attribute [-go_sem] loadCells
open Go.Shelf Go.RowKit Go.Lib Go.Sort
section
variable {α : Type} [Inhabited α] {enc : α → List Value} {ef : α → α → Bool} {d0 : Array α} {w0 : World} {blk off cap g N : Nat} {cb : Array Value}
set_option maxHeartbeats 1500000
set_option maxRecDepth 1000000
theorem Kol (eg:∀args w,(callFunc g args).run Tryz.prog w = .ok (.enter g args) w) (heq:Kmo Tryz.prog g cb enc 6 ef blk off d0.size w0) (R:RowK enc 6 w0 blk off d0) (hN:d0.size=N) (hsz:N < 1152921504606846976) (xs:List α) (w:World) (hl:xs.length=N)
  (hcl:∀(W:World) (dk:Array α) (i:Nat),dk.size=N→SWK enc 6 w0 blk off dk W→i≤N→∃W',(∀ty,(Builtin.clear_ #[56] ty #[.slice (some ⟨blk,off+i*6,none⟩) (N - i) (cap - i)]).run Tryz.prog W = .ok (.tuple #[]) W')∧∃dk':Array α,dk'.size=N∧dk'.toList.take i=dk.toList.take i∧SWK enc 6 w0 blk off dk' W')
  (hcN:N≤cap) (S0:SWK enc 6 w0 blk off xs.toArray w) :
  Calls Tryz.prog 139 #[.slice (some ⟨blk,off,none⟩) N cap,.func (.func g) #[] cb] w fun e w'=>e = .returned (.slice (some ⟨blk,off,none⟩) (dupE ef xs).length cap)∧∃zs:List α,zs.length=N∧zs.take (dupE ef xs).length=dupE ef xs∧SWK enc 6 w0 blk off zs.toArray w':=by
 have mixed:Tryz.prog.follows .mixedOrders=true:=by kernel_rfl
 have HC:Aside _:=heq;have HCL:Aside _:=hcl;have S1:Aside (SWK enc 6 w0 blk off xs.toArray w):=S0;have HQ:Hid (d0.size=N∧xs.length=N):=⟨hN,hl⟩;clear heq hcl S0 hN hl;go_enter Tryz.func139,Tryz.ntmps139
 rcases Nat.lt_or_ge N 2 with h2 | h2
 ·have hz:(N:Int) < 2:=by omega
  have HE:Hid (dupE ef xs=xs):=by
   have q:=HQ.out.2
   match xs,q with
   | [],q=>rfl
   | [x],_=>rfl
   | _ :: _ :: _,q=>simp at q;omega
  go_wp2_with fail
  go_ret
  refine ⟨?_,xs,HQ.out.2,?_,S1.out⟩
  ·show Ending.returned (.slice (some ⟨blk,off,none⟩) N cap)=_
   rw[HE.out,HQ.out.2]
  ·rw[HE.out,List.take_length]
 have hz:¬(N:Int) < 2:=by omega
 have hEx:∃x l,xs=x :: l:=by
  have q:=HQ.out.2
  cases xs with
  | nil=>simp at q;omega
  | cons x l=>exact ⟨x,l,rfl⟩
 obtain ⟨x0,l0,hxl⟩:=hEx;have HB0:Hid (xs = []++x0 :: l0∧dupE ef xs = []++x0 :: ddE ef x0 l0):=⟨hxl,by rw[hxl];rfl⟩;clear hxl;go_wp2_with fail
 go_loopg [5] N (fun kx s5 wr=>∃(k:Nat) (K0 R0:List α) (p:α),s5 = .int .i64 k∧0 < k∧k≤N∧N≤k+kx∧Hid (K0.length+1=k∧xs=K0++p :: R0∧dupE ef xs=K0++p :: ddE ef p R0)∧Aside (SWK enc 6 w0 blk off xs.toArray wr))
 case atStart=>exact ⟨1,[],l0,x0,rfl,by omega,by omega,by omega,⟨rfl,HB0.out.1,HB0.out.2⟩,S1⟩
 case round=>
  clear S1 HB0;obtain ⟨k,K0,R0,p,rfl,hk0,hkN,hkg,HB,S1⟩:=hrel;rcases Nat.lt_or_ge k N with hlt | hge
  ·have hlz:(k:Int) < (N:Int):=by omega
   obtain ⟨b1,b2,b3⟩:=HB.out;obtain ⟨q1,q2⟩:=HQ.out
   have hRx:∃y R1,R0=y :: R1:=by
    cases R0 with
    | nil=>rw[b2] at q2;simp at q2;omega
    | cons y R1=>exact ⟨y,R1,rfl⟩
   obtain ⟨y,R1,hR0⟩:=hRx;have hy1:xs.toArray[k]! = y:=by rw[b2,hR0,show K0++p :: y :: R1=(K0 ++ [p])++y :: R1 by simp];exact Kco (by simp only[Jd,List.length_cons,List.length_nil];omega)
   have hp1:xs.toArray[k - 1]! = p:=by rw[b2];exact Kco (by omega)
   have hszd:xs.toArray.size=N:=by simpa using q2
   obtain ⟨k1,hk1⟩:∃k1,k=k1+1:=⟨k - 1,by omega⟩;have hk2:k - 1=k1:=by omega
   rw[hk2] at hp1;have hk3:(k:Int) - 1=(k1:Int):=by omega
   have la:∀n os,Sem.run Tryz.prog (loadCells ⟨blk,off+k*6,none⟩ 6) (grow (wr.drewN n) os) = .ok (enc y).toArray (grow (wr.drewN n) os):=by rw[←hy1];exact S1.out.ld R (by omega) Tryz.prog k (by omega)
   have lb:∀n os,Sem.run Tryz.prog (loadCells ⟨blk,off+k1*6,none⟩ 6) (grow (wr.drewN n) os) = .ok (enc p).toArray (grow (wr.drewN n) os):=by rw[←hp1];exact S1.out.ld R (by omega) Tryz.prog k1 (by omega)
   have hc:=fun n os=>HC.out (grow (wr.drewN n) os) xs.toArray (by omega) (S1.out.grown n os) y p
   have e2:(k1:Int) < (N:Int):=by omega
   have iak:((k:Int)).toNat=k:=by omega
   have ibk:(0:Int)≤(k:Int):=by omega
   have ick:IntKind.i64.wrap (k:Int)=(k:Int):=by rw[IntKind.wrap_i64];omega
   have idk:((k1:Int)).toNat=k1:=by omega
   have iek:(0:Int)≤(k1:Int):=by omega
   have ifk:IntKind.i64.wrap (k1:Int)=(k1:Int):=by rw[IntKind.wrap_i64];omega
   have hk1N:k1 < N:=by omega
   have HK1:Hid (k=k1+1):=hk1;have HR0:Hid (R0=y :: R1):=hR0
   cases hL:ef y p with
   | true=>
    rw[hL] at hc;have HB2:Hid (K0.length+1=k∧xs=K0++p :: y :: R1∧dupE ef xs=(K0 ++ [p])++ddE ef y R1):=⟨b1,by rw[b2,hR0],by rw[b3,hR0,ddE,if_pos hL];simp⟩;clear b1 b2 b3 q1 q2 hR0 hy1 hp1 hszd HB HR0 hL hk1 hk2;go_wp2_with fail
    go_quiet_grown (first | (go_at_fn g;refine Calls.grown_of (hc _ _)))
    have S2:Aside (SWK enc 6 w0 blk off xs.toArray (grow (wr.drewN nq) osq)):=S1.out.grown nq osq;clear la lb hc S1;generalize grow (wr.drewN nq) osq=w2 at S2 ⊢;clear nq osq;have S3:Aside (SWK enc 6 w0 blk off ((K0 ++ [p])++([]++y :: R1)).toArray w2):=by rw[show (K0 ++ [p])++([]++y :: R1)=K0++p :: y :: R1 by simp,←HB2.out.2.1];exact S2.out
    have hk1:=HK1.out;have hlen0:K0.length=k1:=by have:=HB2.out.1;omega
    have hlR:R1.length+(k+1)=N:=by have q:=HQ.out.2;rw[HB2.out.2.1] at q;simp only[Jd,List.length_cons] at q;omega
    have HL:Hid ((K0 ++ [p]).length=k∧k+1=(K0 ++ [p]).length+([]:List α).length+1∧(K0 ++ [p]).length+([]:List α).length+1+R1.length=N∧dupE ef xs=(K0 ++ [p])++ddE ef y R1):=⟨by simp only[Jd,List.length_cons,List.length_nil];omega,by simp only[Jd,List.length_cons,List.length_nil];omega,by simp only[Jd,List.length_cons,List.length_nil];omega,HB2.out.2.2⟩;clear hlen0 hlR HB2 S2 hk1 HK1;obtain ⟨c0,hc0⟩:∃c0,c0=k:=⟨_,rfl⟩;subst hc0;have hcap:c0≤cap:=by omega
    clear hlz hkg;go_wp2_with fail
    go_loopg [5,7] N (fun kx s5 s7 wr=>∃(k j:Nat) (K1 M R2:List α) (z:α),s5 = .int .i64 k∧s7 = .int .i64 j∧0 < j∧k < c0+j∧c0+j≤N∧N≤c0+j+kx∧Hid (K1.length=k∧c0+j=K1.length+M.length+1∧K1.length+M.length+1+R2.length=N∧dupE ef xs=K1++ddE ef z R2)∧Aside (SWK enc 6 w0 blk off (K1++(M++z :: R2)).toArray wr))
    case atStart=>exact ⟨c0,1,K0 ++ [p],[],R1,y,by first | rfl | go_num,rfl,by omega,by omega,by omega,by omega,HL,S3⟩
    case round=>
     clear HL S3;obtain ⟨k,j,K1,M,R2,z,rfl,rfl,hj0,hkj,hjN,hjg,HB,S1⟩:=hrel;rcases Nat.lt_or_ge (c0+j) N with hlt | hge
     ·have hlz:(j:Int) < (N:Int) - (c0:Int):=by omega
      have hRx:∃v R3,R2=v :: R3:=by
       obtain ⟨b1,b2,b3,b4⟩:=HB.out
       cases R2 with
       | nil=>simp only[List.length_nil] at b3;omega
       | cons v R3=>exact ⟨v,R3,rfl⟩
      obtain ⟨v,R3,hR2⟩:=hRx;obtain ⟨b1,b2,b3,b4⟩:=HB.out;obtain ⟨j1,rfl⟩:∃j1,j=j1+1:=⟨j - 1,by omega⟩;subst hR2;simp only[List.length_cons] at b3;have hv1:(K1++(M++z :: v :: R3)).toArray[c0+(j1+1)]! = v:=by rw[show K1++(M++z :: v :: R3)=(K1++(M ++ [z]))++v :: R3 by simp];exact Kco (by simp only[Jd,List.length_cons,List.length_nil];omega)
      have hz1:(K1++(M++z :: v :: R3)).toArray[c0+j1]! = z:=by rw[show K1++(M++z :: v :: R3)=(K1++M)++z :: v :: R3 by simp];exact Kco (by simp only[Jd];omega)
      have hszd:(K1++(M++z :: v :: R3)).toArray.size=N:=by simp only[List.size_toArray,Jd,List.length_cons];omega
      obtain ⟨dk,hdk⟩:∃dk,dk=(K1++(M++z :: v :: R3)).toArray:=⟨_,rfl⟩;rw[←hdk] at hv1 hz1 hszd S1;have q1:=HQ.out.1
      have la:∀n os,Sem.run Tryz.prog (loadCells ⟨blk,off+c0*6+(j1+1)*6,none⟩ 6) (grow (wr.drewN n) os) = .ok (enc v).toArray (grow (wr.drewN n) os):=by
       rw[show off+c0*6+(j1+1)*6=off+(c0+(j1+1))*6 by omega,←hv1];exact S1.out.ld R (by omega) Tryz.prog (c0+(j1+1)) (by omega)
      have lb:∀n os,Sem.run Tryz.prog (loadCells ⟨blk,off+c0*6+j1*6,none⟩ 6) (grow (wr.drewN n) os) = .ok (enc z).toArray (grow (wr.drewN n) os):=by
       rw[show off+c0*6+j1*6=off+(c0+j1)*6 by omega,←hz1];exact S1.out.ld R (by omega) Tryz.prog (c0+j1) (by omega)
      have hc:=fun n os=>HC.out (grow (wr.drewN n) os) dk (by omega) (S1.out.grown n os) v z
      have e1:(j1:Int)+1 < ((N - c0:Nat):Int):=by omega
      have e2:(j1:Int) < ((N - c0:Nat):Int):=by omega
      have iaj1:(((j1:Int)+1)).toNat=j1+1:=by omega
      have ibj1:(0:Int)≤(j1:Int)+1:=by omega
      have icj1:IntKind.i64.wrap ((j1:Int)+1)=(j1:Int)+1:=by rw[IntKind.wrap_i64];omega
      have idj1:((j1:Int)).toNat=j1:=by omega
      have iej1:(0:Int)≤(j1:Int):=by omega
      have ifj1:IntKind.i64.wrap (j1:Int)=(j1:Int):=by rw[IntKind.wrap_i64];omega
      have HDK:Hid (dk=(K1++(M++z :: v :: R3)).toArray∧dk.size=N):=⟨hdk,hszd⟩
      cases hL:ef v z with
      | true=>
       rw[hL] at hc;have HB2:Hid (K1.length=k∧c0+(j1+1+1)=K1.length+(M ++ [z]).length+1∧K1.length+(M ++ [z]).length+1+R3.length=N∧dupE ef xs=K1++ddE ef v R3):=⟨b1,by simp only[Jd,List.length_cons,List.length_nil];omega,by simp only[Jd,List.length_cons,List.length_nil];omega,by rw[b4,ddE,if_pos hL]⟩;clear b1 b2 b3 b4 hv1 hz1 hszd hdk HB hL q1;go_wp2_with fail
       go_quiet_grown (first | (go_at_fn g;refine Calls.grown_of (hc _ _)))
       have S2:Aside (SWK enc 6 w0 blk off dk (grow (wr.drewN nq) osq)):=S1.out.grown nq osq;clear la lb hc S1;generalize grow (wr.drewN nq) osq=w2 at S2 ⊢;clear nq osq;have S3:Aside (SWK enc 6 w0 blk off (K1++((M ++ [z])++v :: R3)).toArray w2):=by rw[show K1++((M ++ [z])++v :: R3)=K1++(M++z :: v :: R3) by simp,←HDK.out.1];exact S2.out
       clear S2 HDK;go_wp2_with fail
       go_roundg (N - (c0+(j1+2)))
       case measure=>omega
       case rel=>exact ⟨k,j1+2,K1,M ++ [z],R3,v,rfl,by first | rfl | go_num,by omega,by omega,by omega,by omega,HB2,S3⟩
      | false=>
       rw[hL] at hc
       have hMx:∃m M2,M ++ [z]=m :: M2:=by
        cases M with
        | nil=>exact ⟨z,[],rfl⟩
        | cons a M=>exact ⟨a,M ++ [z],rfl⟩
       obtain ⟨m,M2,hM2⟩:=hMx;have hMl:M2.length=M.length:=by have:=congrArg List.length hM2;simp only[Jd,List.length_cons,List.length_nil] at this;omega
       have HB2:Hid ((K1 ++ [v]).length=k+1∧c0+(j1+1+1)=(K1 ++ [v]).length+M2.length+1∧(K1 ++ [v]).length+M2.length+1+R3.length=N∧dupE ef xs=(K1 ++ [v])++ddE ef v R3):=⟨by simp[b1],by simp only[Jd,List.length_cons,List.length_nil];omega,by simp only[Jd,List.length_cons,List.length_nil];omega,by rw[b4,ddE,if_neg (by rw[hL];exact Bool.noConfusion)];simp⟩
       have HN:Hid (dk.setIfInBounds k v=((K1 ++ [v])++(M2++v :: R3)).toArray):=by
        show _=_
        rw[hdk,show K1++(M++z :: v :: R3)=K1++m :: (M2++v :: R3) by rw[show M++z :: v :: R3=(M ++ [z])++v :: R3 by simp,hM2];rfl,Kkj b1.symm];simp
       have hkN2:k < N:=by omega
       have hkc:k < cap:=by omega
       clear b1 b2 b3 b4 hv1 hz1 hszd hdk HB hL hM2 hMl q1;go_wp2_with fail
       go_quiet_grown (first | (go_at_fn g;refine Calls.grown_of (hc _ _)))
       have S2:Aside (SWK enc 6 w0 blk off dk (grow (wr.drewN nq) osq)):=S1.out.grown nq osq;clear la lb hc S1;generalize grow (wr.drewN nq) osq=w2 at S2 ⊢;clear nq osq;have hszd:=HDK.out.2;have q1:=HQ.out.1
       have hv1:dk[c0+(j1+1)]! = v:=by
        rw[HDK.out.1,show K1++(M++z :: v :: R3)=(K1++(M ++ [z]))++v :: R3 by simp];have t1:=HB2.out.1;have t2:=HB2.out.2.1;have t3:=HB2.out.2.2.1;have t4:=congrArg Array.size HDK.out.1;simp only[List.size_toArray,Jd,List.length_cons,List.length_nil] at t1 t2 t3 t4;exact Kco (by simp only[Jd,List.length_cons,List.length_nil];omega)
       have l1:Sem.run Tryz.prog (loadCells ⟨blk,off+c0*6+(j1+1)*6,none⟩ 6) w2 = .ok (enc v).toArray w2:=by
        rw[show off+c0*6+(j1+1)*6=off+(c0+(j1+1))*6 by omega,←hv1];exact S2.out.load R (by omega) Tryz.prog (c0+(j1+1)) (by omega)
       have s1:Sem.run Tryz.prog (storeCells ⟨blk,off+k*6,none⟩ (enc v) 0) w2 = .ok () (w2.setCells blk (off+k*6) (enc v)):=SWK.st S2.out R (by omega) Tryz.prog k (by omega) v;have S3:Aside (SWK enc 6 w0 blk off ((K1 ++ [v])++(M2++v :: R3)).toArray (w2.setCells blk (off+k*6) (enc v))):=by rw[←HN.out];exact SWK.put S2.out R k (by omega) v
       have n1:(enc v).length=6:=R.hk _;clear S2 HDK hszd q1 hv1 HN;generalize enc v=cV at l1 s1 S3 n1;have k1z:(k:Int) < (N:Int):=by omega
       go_wp2_with fail
       clear l1 s1;generalize w2.setCells blk (off+k*6) cV=w3 at S3 ⊢;go_wp2_with fail
       go_roundg (N - (c0+(j1+2)))
       case measure=>omega
       case rel=>exact ⟨k+1,j1+2,K1 ++ [v],M2,R3,v,by first | rfl | go_num,by first | rfl | go_num,by omega,by omega,by omega,by omega,HB2,S3⟩
     ·have hlz:¬(j:Int) < (N:Int) - (c0:Int):=by omega
      obtain ⟨b1,b2,b3,b4⟩:=HB.out;have hR2:R2 = []:=List.eq_nil_of_length_eq_zero (by omega);subst hR2;obtain ⟨W',hcr,dk',d1,d2,d3⟩:=HCL.out wr _ k (by simp only[List.size_toArray,Jd,List.length_cons,List.length_nil] at b3 ⊢;omega) S1.out (by omega)
      have HF:Hid (∃zs:List α,k=(dupE ef xs).length∧zs.length=N∧zs.take (dupE ef xs).length=dupE ef xs∧SWK enc 6 w0 blk off zs.toArray W'):=by
       rw[ddE,List.append_nil] at b4;refine ⟨dk'.toList,by rw[b4];exact b1.symm,by simpa using d1,?_,by simpa using d3⟩;rw[b4,b1,d2];simp only[List.toList_toArray];rw[←b1,List.take_left' rfl]
      have hkN2:k≤N:=by omega
      have hkc:k≤cap:=by omega
      have k1z:(k:Int)≤(N:Int):=by omega
      have k2z:(k:Int)≤(cap:Int):=by omega
      have k3z:(0:Int)≤(k:Int):=by omega
      clear b1 b2 b3 b4 d1 d2 d3 S1 HB;go_wp2_with fail
      go_ret
      obtain ⟨zs,f1,f2,f3,f4⟩:=HF.out;refine ⟨?_,zs,f2,f3,f4⟩;show Ending.returned (.slice (some ⟨blk,off,none⟩) k cap)=_
      rw[f1]
   | false=>
    rw[hL] at hc;have HB2:Hid ((K0 ++ [p]).length+1=k+1∧xs=(K0 ++ [p])++y :: R1∧dupE ef xs=(K0 ++ [p])++y :: ddE ef y R1):=⟨by simp only[Jd,List.length_cons,List.length_nil];omega,by rw[b2,hR0];simp,by rw[b3,hR0,ddE,if_neg (by rw[hL];exact Bool.noConfusion)];simp⟩;clear b1 b2 b3 q1 q2 hR0 hy1 hp1 hszd HB HR0 hL hk1 hk2;go_wp2_with fail
    go_quiet_grown (first | (go_at_fn g;refine Calls.grown_of (hc _ _)))
    have S2:Aside (SWK enc 6 w0 blk off xs.toArray (grow (wr.drewN nq) osq)):=S1.out.grown nq osq;clear la lb hc S1;generalize grow (wr.drewN nq) osq=w2 at S2 ⊢;clear nq osq;go_wp2_with fail
    go_roundg (N - (k+1))
    case measure=>omega
    case rel=>exact ⟨k+1,K0 ++ [p],R1,y,by first | rfl | go_num,by omega,by omega,by omega,HB2,S2⟩
  ·have hlz:¬(k:Int) < (N:Int):=by omega
   obtain ⟨b1,b2,b3⟩:=HB.out;have q2:=HQ.out.2
   have hR0:R0 = []:=by
    refine List.eq_nil_of_length_eq_zero ?_;rw[b2] at q2;simp only[Jd,List.length_cons] at q2;omega
   have HE:Hid (dupE ef xs=xs):=by
    show _=_
    rw[b3,b2,hR0];rfl
   clear b1 b2 b3 q2 hR0 HB;go_wp2_with fail
   go_ret
   refine ⟨?_,xs,HQ.out.2,?_,S1.out⟩
   ·show Ending.returned (.slice (some ⟨blk,off,none⟩) N cap)=_
    rw[HE.out,HQ.out.2]
   ·rw[HE.out,List.take_length]
end
end
end Go.Proofs.YtdoiekknhnbepaaGreatDoor
