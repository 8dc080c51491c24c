/- Merged (what the claim wants of): MrgOnceW. -/
import Derived.Test.YtdoiekknhnbepaaGreatDoorCob10
import Derived.Test.YtdoiekknhnbepaaGreatDoorCob11
import Derived.Test.YtdoiekknhnbepaaGreatDoorCob05
import Derived.Test.YtdoiekknhnbepaaGreatDoorCob02
set_option linter.unusedVariables false
set_option linter.unusedSimpArgs false
set_option maxRecDepth 100000
set_option maxHeartbeats 8000000
namespace Go.Proofs.YtdoiekknhnbepaaGreatDoor
section
open Go.Shelf Go.RowKit Go.Lib Go.Sort
open Lib renaming hid → Jh
section
set_option maxHeartbeats 1000000
set_option maxRecDepth 100000
theorem Khw (x:Wnd) (w:World):Calls Tryz.prog 65 #[.agg (Kai x).toArray] w fun e w'=>e = .returned (.int .i64 x.start)∧Grown w w':=by
 obtain ⟨a,b,c,d,e,f⟩:=x;unfold Kai;go_enter Tryz.func65,Tryz.ntmps65
 go_wp2_with fail
 go_ret
 exact ⟨rfl,(Grown.refl _).alloc _⟩
theorem Kuv (a b:Int) (w:World):Calls Tryz.prog 134 #[.int .i64 a,.int .i64 b] w fun e w'=>e = .returned (.int .i64 (if a < b then -1 else if b < a then 1 else 0))∧w=w':=by
 have hnan:∀(a:Int) (w:World),Calls Tryz.prog 181 #[.int .i64 a] w fun e w'=>e = .returned (.bool false)∧w=w':=by
  intro a w;have n1:(a != a)=false:=by simp
  go_enter Tryz.func181,Tryz.ntmps181
  go_wp2
  go_ret
  exact ⟨by simp,rfl⟩
 have h1:=fun W=>hnan a W
 have h2:=fun W=>hnan b W
 rcases (by omega:a < b∨b < a∨a=b) with h | h | h
 ·rw[if_pos h];have d1:decide (a < b)=true:=decide_eq_true h;clear hnan;go_enter Tryz.func134,Tryz.ntmps134
  go_wp2_with fail
  refine (h1 _).mono ?_;rintro _ w1 ⟨rfl,rfl⟩;go_wp2_with fail
  refine (h2 _).mono ?_;rintro _ w1 ⟨rfl,rfl⟩;go_wp2_with fail
  go_ret
  exact ⟨rfl,rfl⟩
 ·have hn:¬a < b:=by omega
  rw[if_neg hn,if_pos h];have d1:decide (a < b)=false:=decide_eq_false hn;have d2:decide (b < a)=true:=decide_eq_true h;have hle:b≤a:=by omega
  have hne:¬a=b:=by omega
  clear hnan;go_enter Tryz.func134,Tryz.ntmps134
  go_wp2_with fail
  refine (h1 _).mono ?_;rintro _ w1 ⟨rfl,rfl⟩;go_wp2_with fail
  refine (h2 _).mono ?_;rintro _ w1 ⟨rfl,rfl⟩;go_wp2_with fail
  go_ret
  exact ⟨rfl,rfl⟩
 ·subst h;have hn:¬a < a:=by omega
  rw[if_neg hn,if_neg hn];have d1:decide (a < a)=false:=decide_eq_false hn;clear hnan;go_enter Tryz.func134,Tryz.ntmps134
  go_wp2_with fail
  refine (h1 _).mono ?_;rintro _ w1 ⟨rfl,rfl⟩;go_wp2_with fail
  refine (h2 _).mono ?_;rintro _ w1 ⟨rfl,rfl⟩;go_wp2_with fail
  go_ret
  exact ⟨rfl,rfl⟩
attribute [local go_sem] Kbs.cell
theorem Ksa (x y:Wnd) (p:Nat) (W:World) (hp:Blk W p 148 #[.func (.func 65) #[] #[]]) :
  Calls Tryz.prog 138 #[.agg (Kai x).toArray,.agg (Kai y).toArray,.pointer (some ⟨p,0,none⟩)] W fun e w'=>e = .returned (.int .i64 (cfT Wnd.start x y))∧Grown W w':=by
 have HT:=Jh (fun (x:Wnd) (w:World)=>Khw x w);have HCM:=Jh (fun (w:World)=>Kuv x.start y.start w);have hcf:cfT Wnd.start x y=if x.start < y.start then -1 else if y.start < x.start then 1 else 0:=rfl
 rw[hcf];obtain ⟨r,hr⟩:∃r:Int,(if x.start < y.start then -1 else if y.start < x.start then 1 else 0:Int)=r:=⟨_,rfl⟩;rw[hr] at HCM ⊢;obtain ⟨cx,hcx⟩:∃c,c=(Kai x).toArray:=⟨_,rfl⟩;obtain ⟨cy,hcy⟩:∃c,c=(Kai y).toArray:=⟨_,rfl⟩;have egT:∀args w,(callFunc 65 args).run Tryz.prog w = .ok (.enter 65 args) w:=enters_of Tryz.func65 (by kernel_rfl) rfl;have HTX:=Jh (fun w=>HT.out x w);have HTY:=Jh (fun w=>HT.out y w);obtain ⟨tx,htx⟩:∃t,t=x.start:=⟨_,rfl⟩;obtain ⟨tz,hty⟩:∃t,t=y.start:=⟨_,rfl⟩;rw[←htx,←hty] at HCM;rw[←htx] at HTX;rw[←hty] at HTY;clear hcf hr HT;obtain ⟨a,b,c,d,e,f⟩:=x;obtain ⟨a2,b2,c2,d2,e2,f2⟩:=y;unfold Kai at hcx hcy HTX HTY ⊢;dsimp only at HTX HTY ⊢;clear hcx hcy htx hty cx cy;go_enter Tryz.func138,Tryz.ntmps138
 go_upto_region 1 with fail
 obtain ⟨w1,hw1⟩:∃x,(W.alloc (.cells #[.int .i64 a,.int .i64 b,.int .u64 c,.int .u64 d,.int .u64 e,.int .u64 f] 135)).alloc (.cells #[.int .i64 a2,.int .i64 b2,.int .u64 c2,.int .u64 d2,.int .u64 e2,.int .u64 f2] 135)=x:=⟨_,rfl⟩;have hb1:Grown W w1:=by rw[←hw1];exact ((Grown.refl _).alloc _).alloc _
 have hq:Blk w1 W.heap.size 135 #[.int .i64 a,.int .i64 b,.int .u64 c,.int .u64 d,.int .u64 e,.int .u64 f]:=by rw[←hw1];exact (Blk.new _ _ _).alloc _
 have hq2:Blk w1 (W.heap.size+1) 135 #[.int .i64 a2,.int .i64 b2,.int .u64 c2,.int .u64 d2,.int .u64 e2,.int .u64 f2]:=by rw[←hw1];exact Blk.newAt (by simp)
 have hp1:Blk w1 p 148 #[.func (.func 65) #[] #[]]:=hp.below hb1.below hp.lt;rw[hw1];obtain ⟨a0,hA⟩:∃a0,W.heap.size=a0:=⟨_,rfl⟩;rw[hA] at hq hq2 ⊢;clear hw1 hp;have q0:_=some (Value.int .i64 a):=hq.cell 0;have q1:_=some (Value.int .i64 b):=hq.cell 1;have q2:_=some (Value.int .u64 c):=hq.cell 2;have q3:_=some (Value.int .u64 d):=hq.cell 3;have q4:_=some (Value.int .u64 e):=hq.cell 4;have q5:_=some (Value.int .u64 f):=hq.cell 5;have r0:_=some (Value.int .i64 a2):=hq2.cell 0;have r1:_=some (Value.int .i64 b2):=hq2.cell 1;have r2:_=some (Value.int .u64 c2):=hq2.cell 2;have r3:_=some (Value.int .u64 d2):=hq2.cell 3;have r4:_=some (Value.int .u64 e2):=hq2.cell 4;have r5:_=some (Value.int .u64 f2):=hq2.cell 5;have p0:_=some (Value.func (.func 65) #[] #[]):=hp1.cell 0;have hql:=hq.lt;have hpl:=hq2.lt;have hpp:=hp1.lt;refine Kas 6 (by kernel_rfl) (by kernel_rfl) ?_;simp only[List.take_succ_cons,List.take_zero,List.drop_succ_cons,List.drop_zero]
 repeat (go_big_quiet_step ((go_at_fn 65;first | exact Kat _ (HTX.out _) | exact Kat _ (HTY.out _))))
 refine wpQuiet_nil ?_;rintro w2 ⟨⟨_,hb2⟩,rfl⟩;have hB2:Grown W w2:=hb1.trans hb2;go_wp2_with fail
 refine (HCM.out _).mono ?_;rintro _ w3 ⟨rfl,rfl⟩;go_wp2_with fail
 go_ret
 exact ⟨rfl,hB2⟩
theorem Ksc (x y:Wnd) (p:Nat) (W:World) (hp:Blk W p 148 #[.func (.func 65) #[] #[]]) :
  Calls Tryz.prog 140 #[.agg (Kai x).toArray,.agg (Kai y).toArray,.pointer (some ⟨p,0,none⟩)] W fun e w'=>e = .returned (.bool (x.start == y.start))∧Grown W w':=by
 have egT:∀args w,(callFunc 65 args).run Tryz.prog w = .ok (.enter 65 args) w:=enters_of Tryz.func65 (by kernel_rfl) rfl;have HTX:=Jh (fun w=>Khw x w);have HTY:=Jh (fun w=>Khw y w);obtain ⟨tx,htx⟩:∃t,t=x.start:=⟨_,rfl⟩;obtain ⟨tz,hty⟩:∃t,t=y.start:=⟨_,rfl⟩;rw[←htx] at HTX ⊢;rw[←hty] at HTY ⊢;clear htx hty;obtain ⟨a,b,c,d,e,f⟩:=x;obtain ⟨a2,b2,c2,d2,e2,f2⟩:=y;unfold Kai at HTX HTY ⊢;dsimp only at HTX HTY ⊢;go_enter Tryz.func140,Tryz.ntmps140
 go_upto_region 1 with fail
 obtain ⟨w1,hw1⟩:∃x,(W.alloc (.cells #[.int .i64 a,.int .i64 b,.int .u64 c,.int .u64 d,.int .u64 e,.int .u64 f] 135)).alloc (.cells #[.int .i64 a2,.int .i64 b2,.int .u64 c2,.int .u64 d2,.int .u64 e2,.int .u64 f2] 135)=x:=⟨_,rfl⟩;have hb1:Grown W w1:=by rw[←hw1];exact ((Grown.refl _).alloc _).alloc _
 have hq:Blk w1 W.heap.size 135 #[.int .i64 a,.int .i64 b,.int .u64 c,.int .u64 d,.int .u64 e,.int .u64 f]:=by rw[←hw1];exact (Blk.new _ _ _).alloc _
 have hq2:Blk w1 (W.heap.size+1) 135 #[.int .i64 a2,.int .i64 b2,.int .u64 c2,.int .u64 d2,.int .u64 e2,.int .u64 f2]:=by rw[←hw1];exact Blk.newAt (by simp)
 have hp1:Blk w1 p 148 #[.func (.func 65) #[] #[]]:=hp.below hb1.below hp.lt;rw[hw1];obtain ⟨a0,hA⟩:∃a0,W.heap.size=a0:=⟨_,rfl⟩;rw[hA] at hq hq2 ⊢;clear hw1 hp;have q0:_=some (Value.int .i64 a):=hq.cell 0;have q1:_=some (Value.int .i64 b):=hq.cell 1;have q2:_=some (Value.int .u64 c):=hq.cell 2;have q3:_=some (Value.int .u64 d):=hq.cell 3;have q4:_=some (Value.int .u64 e):=hq.cell 4;have q5:_=some (Value.int .u64 f):=hq.cell 5;have r0:_=some (Value.int .i64 a2):=hq2.cell 0;have r1:_=some (Value.int .i64 b2):=hq2.cell 1;have r2:_=some (Value.int .u64 c2):=hq2.cell 2;have r3:_=some (Value.int .u64 d2):=hq2.cell 3;have r4:_=some (Value.int .u64 e2):=hq2.cell 4;have r5:_=some (Value.int .u64 f2):=hq2.cell 5;have p0:_=some (Value.func (.func 65) #[] #[]):=hp1.cell 0;have hql:=hq.lt;have hpl:=hq2.lt;have hpp:=hp1.lt;refine Kas 6 (by kernel_rfl) (by kernel_rfl) ?_;simp only[List.take_succ_cons,List.take_zero,List.drop_succ_cons,List.drop_zero]
 repeat (go_big_quiet_step ((go_at_fn 65;first | exact Kat _ (HTX.out _) | exact Kat _ (HTY.out _))))
 refine wpQuiet_nil ?_;rintro w2 ⟨⟨_,hb2⟩,rfl⟩;have hB2:Grown W w2:=hb1.trans hb2;go_wp2_with fail
 go_ret
 exact ⟨rfl,hB2⟩
theorem Knv (cmp:Value) (w:World):Calls Tryz.prog 137 #[.slice none 0 0,cmp] w fun e w'=>e = .returned (.tuple #[])∧w=w':=by
 have hins:∀W:World,Calls Tryz.prog 226 #[.slice none 0 0,.int .i64 0,.int .i64 0,cmp] W fun e w'=>e = .returned (.tuple #[])∧W=w':=by
  intro W;go_enter Tryz.func226,Tryz.ntmps226
  go_wp2
  go_loopg [8] 0 (fun kx s8 wr=>s8 = .int .i64 1∧wr=W)
  case atStart=>exact ⟨rfl,rfl⟩
  case round=>
   obtain ⟨rfl,rfl⟩:=hrel;go_wp2_with fail
   go_end0
   exact ⟨rfl,rfl⟩
 have hst:∀W:World,Calls Tryz.prog 182 #[.slice none 0 0,.int .i64 0,cmp] W fun e w'=>e = .returned (.tuple #[])∧W=w':=by
  intro W;have HI:=Jh hins;clear hins;go_enter Tryz.func182,Tryz.ntmps182
  go_wp2
  go_loopg [7,8] 0 (fun kx s7 s8 wr=>s7 = .int .i64 0∧s8 = .int .i64 20∧wr=W)
  case atStart=>exact ⟨rfl,rfl,rfl⟩
  case round=>
   obtain ⟨rfl,rfl,rfl⟩:=hrel;go_wp2_with fail
   refine (HI.out _).mono ?_;rintro _ w1 ⟨rfl,rfl⟩;go_wp2_with fail
   go_loopg [6] 0 (fun kx s6 wr2=>s6 = .int .i64 20∧wr2=wr)
   case atStart=>exact ⟨rfl,rfl⟩
   case round=>
    obtain ⟨rfl,rfl⟩:=hrel;go_wp2_with fail
    go_end0
    exact ⟨rfl,rfl⟩
 have HS:=Jh hst;clear hins hst;go_enter Tryz.func137,Tryz.ntmps137
 go_wp2_with fail
 refine (HS.out _).mono ?_;rintro _ w1 ⟨rfl,rfl⟩;go_wp2_with fail
 go_end0
 exact ⟨rfl,rfl⟩
theorem Kmw (eq_:Value) (w:World):Calls Tryz.prog 139 #[.slice none 0 0,eq_] w fun e w'=>e = .returned (.slice none 0 0)∧w=w':=by
 go_enter Tryz.func139,Tryz.ntmps139
 go_wp2_with fail
 go_ret
 exact ⟨rfl,rfl⟩
theorem Kvr (xs:List Wnd) (B n:Nat) (v:Value) (w:World) (h:w.ownsRow B 135 6 v n (xs.flatMap Kai)) (hl:xs.length=n) (hn:n≤1099511627776) :
  Calls Tryz.prog 64 #[v,.func (.func 65) #[] #[]] w fun e w'=>∃v' zs,e = .returned v'∧Kaw Wnd.start xs zs∧w'.ownsRow B 135 6 v' zs.length (zs.flatMap Kai)∧v'.ownBlock=v.ownBlock∧w.grownBy w' v.ownBlock:=by
 have hsl:(xs = []∧v = .slice none 0 0)∨∃g c,v = .slice (some ⟨g,0,none⟩) n c:=by
  rcases h.2 with ⟨h1,h0⟩ | ⟨g,cap,cur,h1,_⟩
  ·exact .inl ⟨List.eq_nil_of_length_eq_zero (by omega),h1⟩
  ·exact .inr ⟨g,cap,h1⟩
 rcases hsl with ⟨rfl,rfl⟩ | ⟨g,cap,rfl⟩
 ·have hn0:n=0:=by simpa using hl.symm
  subst hn0;have hS:=Jh (fun (c:Value) (W:World)=>Knv c W);have hC:=Jh (fun (c:Value) (W:World)=>Kmw c W);have H:=Jh h;clear h;go_enter Tryz.func64,Tryz.ntmps64
  go_wp2_with fail
  refine (hS.out _ _).mono ?_;rintro _ w1 ⟨rfl,rfl⟩;go_wp2_with fail
  refine (hC.out _ _).mono ?_;rintro _ w1 ⟨rfl,rfl⟩;go_wp2_with fail
  go_ret
  have hb:w.grownBy (w.alloc (.cells #[.func (.func 65) #[] #[]] 148)) none:=World.grownBy_alloc w _ none;exact ⟨_,[],rfl,Kaw.nil _,by simpa using (World.ownsRow.alloc H.out _),rfl,hb⟩
 ·have hlt:=World.ownsRow.lt h g rfl;obtain ⟨w1,hw1⟩:∃x,w.alloc (.cells #[.func (.func 65) #[] #[]] 148)=x:=⟨_,rfl⟩;obtain ⟨p,hp⟩:∃p,p=w.heap.size:=⟨_,rfl⟩;have hb:Blk w1 p 148 #[.func (.func 65) #[] #[]]:=by rw[hp,←hw1];exact Blk.new _ _ _
  have hpg:p≠g:=by omega
  have hpz:p < w1.heap.size:=hb.lt;have h1:w1.ownsRow B 135 6 (.slice (some ⟨g,0,none⟩) n cap) n (xs.flatMap Kai):=by rw[←hw1];exact World.ownsRow.alloc h _
  have hg1:w.grownBy w1 (some g):=by rw[←hw1];exact World.grownBy_alloc w _ _
  have R:RowK Kai 6 w1 g 0 xs.toArray:=⟨Ket,Kiz,Key Ket (by decide) h1 hl,(World.ownsRow.lt h1 g rfl).2⟩;have hN:xs.toArray.size=n:=by simpa using hl
  have hcapn:n≤cap:=by
   rcases h.2 with ⟨he,_⟩ | ⟨g',cap',cur,he,_,_,h3,_⟩
   ·cases he
   ·injection he with _ _ hcc;subst hcc;exact h3
  have eg1:∀args w,(callFunc 138 args).run Tryz.prog w = .ok (.enter 138 args) w:=enters_of Tryz.func138 (by kernel_rfl) rfl;have eg2:∀args w,(callFunc 140 args).run Tryz.prog w = .ok (.enter 140 args) w:=enters_of Tryz.func140 (by kernel_rfl) rfl;have hblk:∀(dk:Array Wnd) (W:World),SWK Kai 6 w1 g 0 dk W→Blk W p 148 #[.func (.func 65) #[] #[]]:=fun dk W hS=>hb.grown (SWK.by hS) (by intro e;injection e with e;exact hpg e)
  have hcmp:CmpLays Tryz.prog 138 #[.pointer (some ⟨p,0,none⟩)] Kai 6 (cfT Wnd.start) g 0 xs.toArray.size w1:=by
   intro m os dk hdk x y;refine (Ksa x y p _ (hblk dk _ ⟨m,os,rfl⟩)).mono ?_;rintro e w' ⟨he,⟨q,hq⟩⟩;exact ⟨he,q.n,q.os,hq⟩
  have heq:Kmo Tryz.prog 140 #[.pointer (some ⟨p,0,none⟩)] Kai 6 (fun x y=>x.start == y.start) g 0 xs.toArray.size w1:=by
   intro W dk hdk hS x y;refine (Ksc x y p _ (hblk dk _ hS)).mono ?_;rintro e w' ⟨he,⟨q,hq⟩⟩;exact ⟨he,q.n,q.os,hq⟩
  have HS:=Jh (Kle (cap:=cap) (swoT Wnd.start) eg1 hcmp R hN (by omega) xs w1 hl (SWK.start R.hH));have HC:=Jh (fun (ys:List Wnd) (W:World) (hy:ys.length=n) (hS:SWK Kai 6 w1 g 0 ys.toArray W)=>Kol (cap:=cap) eg2 heq R hN (by omega) ys W hy (fun W dk i a b c=>Kkp (P:=Tryz.prog) Tryz.underlying56 (⟨0,0,0,0,0,0⟩:Wnd) (fun w=>Tryz.zeroValue135 w) (by decide) R hN W dk i (cap - i) a b c) hcapn hS);have HG:=Jh hg1;have H1:=Jh h1;have HL:=Jh hl;clear h h1 hl hN hg1 hcmp heq hblk hb hcapn R hlt;go_enter Tryz.func64,Tryz.ntmps64
  go_upto_region 1 with fail
  try rw[hw1]
  try rw[←hp]
  clear hw1 hp;go_wp2_with fail
  refine Calls.mono HS.out ?_;rintro _ w2 ⟨rfl,ys,hst,hS2⟩;have HST:=Jh hst;have hyl:ys.length=n:=by rw[hst.len];exact HL.out
  have HC2:=Jh (HC.out ys w2 hyl hS2);clear hst hS2 hyl;go_wp2_with fail
  refine Calls.mono HC2.out ?_;rintro _ w3 ⟨rfl,zs,z1,z2,z3⟩;have HZ:=Jh (And.intro z1 (And.intro z2 z3));clear z1 z2 z3;go_wp2_with fail
  go_ret
  obtain ⟨z1,z2,z3⟩:=HZ.out;refine ⟨_,dupE (fun x y:Wnd=>x.start == y.start) ys,rfl,Kqm Wnd.start _ (fun x y=>by rw[Bool.eq_iff_iff];simp) HST.out,?_,rfl,?_⟩
  ·obtain ⟨m,os,rfl⟩:=z3;have ho:=Kfd Ket (by decide) H1.out HL.out zs.toArray (by simpa using z1) m os
   have hle:(dupE (fun x y:Wnd=>x.start == y.start) ys).length≤n:=by
    have:=congrArg List.length z2;rw[List.length_take] at this;omega
   have:=Kmj ho hle
   rw[show (zs.toArray.toList.flatMap Kai).take ((dupE (fun x y:Wnd=>x.start == y.start) ys).length*6)=(dupE (fun x y:Wnd=>x.start == y.start) ys).flatMap Kai by
    have hzz:zs=zs.take (dupE (fun x y:Wnd=>x.start == y.start) ys).length++zs.drop (dupE (fun x y:Wnd=>x.start == y.start) ys).length:=(List.take_append_drop _ _).symm;rw[show zs.toArray.toList=zs by simp]
    conv=>lhs;rw[hzz]
    rw[List.flatMap_append,List.take_left' (by rw[Kdd Ket,z2]),z2]] at this
   exact this
  ·exact Lib.grownBy_trans HG.out (SWK.by z3)
end
end
end Go.Proofs.YtdoiekknhnbepaaGreatDoor
