/- Merged (what the claim wants of): SpnWalksB, SpnWalksC, BlkSize, BurstPlain, BlkLawP, RefBPlain, RefBEq, SpnWalksD, KptSpnD, KptPlain, SpnWalksE. -/
import Derived.Test.YtefpndiiedkmpaaGreatDoorKpw05
import Derived.Lib.SliceRun
import Derived.Test.YtefpndiiedkmpaaGreatDoorKpw01
import Derived.Deep.Onto
import Derived.Test.YtefpndiiedkmpaaGreatDoorKpw04
import Derived.Laws.StructEq
import Derived.WalkKit
import Derived.Test.YtefpndiiedkmpaaGreatDoorKpw02
set_option linter.unusedVariables false
set_option linter.unusedSimpArgs false
set_option maxRecDepth 100000
set_option maxHeartbeats 8000000
namespace Go.Proofs.YtefpndiiedkmpaaGreatDoor
section
open Go.RowKit Go.Shelf Go.Sort
open Lib renaming hid → Jh
attribute [local go_sem ↓] Go.wp_at_zero Go.wp_at_succ
attribute [local go_sem] Later.cell
theorem Kfz {l:List Spn} {B n g cap:Nat} {w:World} (h:w.ownsRow B 109 2 (.slice (some ⟨g,0,none⟩) n cap) n (l.flatMap Kac)) (hl:l.length=n) {i:Nat} (hi:i < n):w.cell? ⟨g,i*2,none⟩=some (.int .i64 l[i]!.frm)∧w.cell? ⟨g,i*2+1,none⟩=some (.int .i64 l[i]!.to_)∧g < w.heap.size:=by
 have h1:l[i]? = some l[i]!:=by rw[getElem!_pos l i (by omega),List.getElem?_eq_getElem (by omega)]
 refine ⟨?_,?_,(World.ownsRow.lt h g rfl).2⟩
 ·rw[World.ownsRow.cellAt h (i*2) (by omega)];have:=Kgh Kcj l i 0 _ h1 (by decide);rw[Nat.add_zero] at this;rw[this];rfl
 ·rw[World.ownsRow.cellAt h (i*2+1) (by omega)];rw[Kgh Kcj l i 1 _ h1 (by decide)];rfl
theorem Kiv {l:List Value} {B n sz:Nat} {T:TypeId} {v:Value} {w w':World} (h:w.ownsRow B T sz v n l) (hg:Grown w w'):w'.ownsRow B T sz v n l:=by
 obtain ⟨⟨q,os⟩,rfl⟩:=hg;refine World.ownsRow.kept h (row:=none) ?_ ?_
 ·exact ⟨rfl,rfl,rfl,(Grown.of w q os).below.size,fun j hj _=>(Grown.of w q os).below.block j hj⟩
 ·cases hv:v.ownBlock with
  | none=>exact .inl rfl
  | some b=>exact .inr (by simp)
theorem Kqa (l:List Spn) (B n g cap:Nat) (w:World) (h:w.ownsRow B 109 2 (.slice (some ⟨g,0,none⟩) n cap) n (l.flatMap Kac)) (hl:l.length=n) (hn:n≤1099511627776) :
  Calls Tryz.prog 196 #[.slice (some ⟨g,0,none⟩) n cap,.func (.func 144) #[] #[]] w fun e w'=>(∃k:Nat,k≤n∧e = .returned (.int .i64 (if k < n then (k:Int) else -1))∧(∀j,j < k→badS l[j]! = false)∧(k < n→badS l[k]! = true))∧Grown w w':=by
 have HR:=Jh h;have HL:=Jh hl;have HC:=Jh (fun (x:Spn) (W:World)=>Kra x W);have eg:∀args w,(callFunc 144 args).run Tryz.prog w = .ok (.enter 144 args) w:=enters_of Tryz.func144 (by kernel_rfl) rfl;clear h hl;go_enter Tryz.func196,Tryz.ntmps196
 go_wp2_with fail
 go_loopg [8] n (fun gg s8 wr=>∃i:Nat,i+gg=n∧s8 = .int .i64 (i:Int)∧(∀j,j < i→badS l[j]! = false)∧Grown w wr)
 case atStart=>exact ⟨0,by omega,rfl,fun j hj=>by omega,Grown.refl _⟩
 case round=>
  obtain ⟨i,hig,rfl,hall,hg⟩:=hrel;have HIG:=Jh hig;have HA:=Jh hall;have HG:=Jh hg;clear hig hall hg;obtain ⟨wo,rfl⟩:∃x,x=wr:=⟨_,rfl⟩
  by_cases hi:i < n
  ·have el:decide (i < n)=true:=by rw[decide_eq_true_eq];exact hi
   have hi2:(i:Int) < (n:Int):=by omega
   obtain ⟨c0,c1,hgl⟩:=Kfz (Kiv HR.out HG.out) HL.out hi;obtain ⟨x,hx⟩:∃x,l[i]! = x:=⟨_,rfl⟩;rw[hx] at c0 c1;have HX:=Jh hx;have HCX:=Jh (HC.out x wo);obtain ⟨a,b⟩:=x;unfold Kac at HCX;dsimp only at c0 c1 HCX;clear hx;go_wp2_with fail
   refine HCX.out.mono ?_;rintro _ w2 ⟨rfl,hg2⟩;have HG2:=Jh (HG.out.trans hg2);obtain ⟨r,hr⟩:∃r,badS ⟨a,b⟩=r:=⟨_,rfl⟩;rw[hr];have HRR:=Jh hr;clear hg2 hr c0 c1
   cases r with
   | true=>
    go_wp2_with fail
    go_ret
    exact ⟨⟨i,by omega,by rw[if_pos (by omega)];rfl,HA.out,fun _=>by rw[HX.out];exact HRR.out⟩,HG2.out⟩
   | false=>
    have HN:=Jh (show ∀j,j < i+1→badS l[j]! = false from fun j hj=>by
     by_cases hji:j=i
     ·subst hji;rw[HX.out];exact HRR.out
     ·exact HA.out j (by omega))
    go_wp2_with fail
    go_roundg (gk - 1)
    case measure=>have:=HIG.out;omega
    case rel=>exact ⟨i+1,by have:=HIG.out;omega,by first | rfl | go_num,HN.out,HG2.out⟩
  ·have el:decide (i < n)=false:=by rw[decide_eq_false_iff_not];exact hi
   have hin:i=n:=by have:=HIG.out;omega
   go_wp2_with fail
   go_ret
   exact ⟨⟨n,Nat.le_refl _,by rw[if_neg (by omega)];rfl,by rw[←hin];exact HA.out,fun h=>absurd h (by omega)⟩,HG.out⟩
theorem Qcw {xs:List Value} {B n k g cap i:Nat} {T:TypeId} {w:World} (h:w.ownsRow B T k (.slice (some ⟨g,0,none⟩) n cap) n xs) (hi:i≤n):w.ownsRow B T k (.slice (some ⟨g,0,none⟩) i cap) i (xs.take (i*k)):=by
 rcases h.2 with ⟨h',_⟩ | ⟨g',cap',cur,h',hb,hg,hnc,hcm,hcs,htake⟩
 ·cases h'
 ·injection h' with h1 _ h3;injection h1 with h1;injection h1 with h1 _ _;subst h1 h3;have hik:i*k≤n*k:=Nat.mul_le_mul_right k hi;refine ⟨by rw[List.length_take,h.1];omega,.inr ⟨g,cap,cur,rfl,hb,hg,by omega,hcm,hcs,?_⟩⟩;rw[←htake,List.take_take,Nat.min_eq_left hik]
theorem Kuc {B n k g cap:Nat} {T:TypeId}:∀(vs:List Value) (o:Nat) (w:World) (xs:List Value),w.ownsRow B T k (.slice (some ⟨g,0,none⟩) n cap) n xs→∃xs',(w.setCells g o vs).ownsRow B T k (.slice (some ⟨g,0,none⟩) n cap) n xs'∧xs'.take o=xs.take o∧Below B w (w.setCells g o vs)
 | [],o,w,xs,h=>⟨xs,h,rfl,Below.refl _ _⟩
 | v :: vs,o,w,xs,h=>by
  have h1:=(World.ownsRow.stored h o v).1;obtain ⟨xs',h2,h3,h4⟩:=Kuc vs (o+1) _ _ h1;have hg:=(World.ownsRow.lt h g rfl).1;refine ⟨xs',h2,?_,((Below.refl B w).setCell (p:=⟨g,o,none⟩) hg v).trans h4⟩;have h5:=congrArg (List.take o) h3;rw[List.take_take,List.take_take,Nat.min_eq_left (Nat.le_succ o),List.take_set_of_le (Nat.le_refl o)] at h5;exact h5
theorem Kvm {xs:List Value} {B n g cap i:Nat} {w:World} (h:w.ownsRow B 109 2 (.slice (some ⟨g,0,none⟩) n cap) n xs) (hi:i≤n) (c:Nat) :
  ∃w',(∀ty,(Builtin.clear_ #[81] ty #[.slice (some ⟨g,i*2,none⟩) (n - i) c]).run Tryz.prog w = .ok (.tuple #[]) w')∧w'.ownsRow B 109 2 (.slice (some ⟨g,0,none⟩) i cap) i (xs.take (i*2))∧Below B w w':=by
 rcases Nat.eq_zero_or_pos (n - i) with h0 | h0
 ·refine ⟨w,?_,Qcw h hi,Below.refl _ _⟩;intro ty;rw[h0];simp[Builtin.clear_,run_underlying Tryz.underlying81]
 ·have hz:∀w,(zeroValue 109).run Tryz.prog w = .ok (.agg #[.int .i64 0,.int .i64 0]) w:=fun w=>Tryz.zeroValue109 w
  obtain ⟨vs,hvs⟩:∃vs,(Builtin.zeroCells (Value.agg #[.int .i64 0,.int .i64 0]).cells (n - i)).toList=vs:=⟨_,rfl⟩
  have hlen:vs.length=(n - i)*2:=by
   rw[←hvs];simp[Builtin.zeroCells,Value.cells]
  have hone:∀v∈vs,v.oneCell'=true:=by
   intro v hv;rw[←hvs] at hv;simp[Builtin.zeroCells,Value.cells] at hv;obtain ⟨a,_,rfl⟩:=hv;rcases Nat.mod_two_eq_zero_or_one a with h2 | h2 <;> rw[h2] <;> rfl
  obtain ⟨xs',h2,h3,h4⟩:=Kuc vs (i*2) w xs h;refine ⟨w.setCells g (i*2) vs,?_,?_,h4⟩
  ·have hst:=run_storeCells_cells (P:=Tryz.prog) g (i*2) vs 0 w (fun j hj=>by
    rw[Nat.add_zero,World.ownsRow.cellAt h (i*2+j) (by omega),List.getElem?_eq_getElem (by have:=h.1;omega)]
    rfl) (fun j hj=>World.ownsRow.frozenAt h _) hone
   simp only[Nat.add_zero] at hst;obtain ⟨m,hm⟩:∃m,n - i=m+1:=⟨n - i - 1,by omega⟩;rw[hm] at hvs ⊢;intro ty;simp[Builtin.clear_,run_underlying Tryz.underlying81,hz,hvs,hst]
  ·have:=Qcw h2 hi;rwa[h3] at this
def goodS (l:List Spn):List Spn:=l.filter fun s=>!badS s
theorem Qcy:∀(X:List Spn) (i:Nat) (a b:Int),i < X.length→((X.flatMap Kac).set (i*2) (.int .i64 a)).set (i*2+1) (.int .i64 b)=(X.set i ⟨a,b⟩).flatMap Kac
 | [],i,a,b,h=>by simp at h
 | x :: X,0,a,b,_=>by simp[Kac]
 | x :: X,i+1,a,b,h=>by
  have ih:=Qcy X i a b (by simpa using h);rw[List.set_cons_succ,List.flatMap_cons,List.flatMap_cons,←ih]
  rw[show (i+1)*2=(Kac x).length+i*2 by rw[Kcj];omega,List.set_append_right _ _ (Nat.le_add_right _ _),Nat.add_sub_cancel_left,
   show (Kac x).length+i*2+1=(Kac x).length+(i*2+1) by omega,List.set_append_right _ _ (Nat.le_add_right _ _),Nat.add_sub_cancel_left]
structure DelAt (l X:List Spn) (i j:Nat):Prop where
 n:X.length=l.length
 k:X.take i=goodS (l.take j)
 d:X.drop j=l.drop j
 h:i < j
theorem DelAt.start {l:List Spn} {k:Nat} (hk:k < l.length) (h:∀j,j < k→badS l[j]! = false) (hb:badS l[k]! = true):DelAt l l k (k+1):=by
 refine ⟨rfl,?_,rfl,Nat.lt_succ_self k⟩
 have hall:goodS (l.take k)=l.take k:=by
  unfold goodS;rw[List.filter_eq_self];intro s hs;obtain ⟨j,hj,rfl⟩:=List.getElem_of_mem hs;have hj2:j < k:=by rw[List.length_take] at hj;omega
  have:=h j hj2;rw[getElem!_pos l j (by omega)] at this;rw[List.getElem_take,this];rfl
 rw[getElem!_pos l k hk] at hb;unfold goodS at hall ⊢;rw[List.take_succ_eq_append_getElem hk,List.filter_append,hall];simp[hb]
theorem DelAt.skip {l X:List Spn} {i j:Nat} (h:DelAt l X i j) (hj:j < l.length) (hb:badS l[j]! = true):DelAt l X i (j+1):=by
 rw[getElem!_pos l j hj] at hb;refine ⟨h.n,?_,?_,Nat.lt_succ_of_lt h.h⟩
 ·rw[h.k];unfold goodS;rw[List.take_succ_eq_append_getElem hj,List.filter_append];simp[hb]
 ·have:=congrArg (List.drop 1) h.d;rwa[List.drop_drop,List.drop_drop] at this
theorem DelAt.keep {l X:List Spn} {i j:Nat} (h:DelAt l X i j) (hj:j < l.length) (hb:badS l[j]! = false):DelAt l (X.set i l[j]!) (i+1) (j+1):=by
 have hij:=h.h;have hn:=h.n;rw[getElem!_pos l j hj] at hb ⊢;refine ⟨by rw[List.length_set,h.n],?_,?_,Nat.succ_lt_succ hij⟩
 ·have e1:(X.set i l[j]).take (i+1)=X.take i ++ [l[j]]:=by
   rw[List.take_succ_eq_append_getElem (by rw[List.length_set];omega),List.getElem_set_self,List.take_set_of_le (Nat.le_refl i)]
  rw[e1,h.k];unfold goodS;rw[List.take_succ_eq_append_getElem hj,List.filter_append];simp[hb]
 ·rw[List.drop_set_of_lt (by omega)];have:=congrArg (List.drop 1) h.d;rwa[List.drop_drop,List.drop_drop] at this
theorem DelAt.at_ {l X:List Spn} {i j:Nat} (h:DelAt l X i j) (hj:j < l.length):X[j]! = l[j]!:=by
 have h1:X[j]? = l[j]?:=by
  have:=congrArg (fun z:List Spn=>z[0]?) h.d;simpa using this
 have h2:j < X.length:=by rw[h.n];exact hj
 rw[List.getElem?_eq_getElem h2,List.getElem?_eq_getElem hj] at h1;rw[getElem!_pos X j h2,getElem!_pos l j hj];exact Option.some.inj h1
theorem Kuy (l:List Spn) (B n g cap:Nat) (w:World) (h:w.ownsRow B 109 2 (.slice (some ⟨g,0,none⟩) n cap) n (l.flatMap Kac)) (hl:l.length=n) (hn:n≤1099511627776) (hB:B≤w.heap.size) :
  Calls Tryz.prog 142 #[.slice (some ⟨g,0,none⟩) n cap,.func (.func 144) #[] #[]] w fun e w'=>e = .returned (.slice (some ⟨g,0,none⟩) (goodS l).length cap)∧w'.ownsRow B 109 2 (.slice (some ⟨g,0,none⟩) (goodS l).length cap) (goodS l).length ((goodS l).flatMap Kac)∧Below B w w':=by
 have HI:=Jh (Kqa l B n g cap w h hl hn);have HR:=Jh h;have HL:=Jh hl;have HC:=Jh (fun (x:Spn) (W:World)=>Kra x W);have HBW:=Jh hB;have hgB:=(World.ownsRow.lt h g rfl).1;have eg:∀args w,(callFunc 144 args).run Tryz.prog w = .ok (.enter 144 args) w:=enters_of Tryz.func144 (by kernel_rfl) rfl;clear h hl hB;go_enter Tryz.func142,Tryz.ntmps142
 go_wp2_with fail
 refine HI.out.mono ?_;rintro _ w1 ⟨⟨k,hk,rfl,hall,hbad⟩,hg1⟩;have HG1:=Jh hg1
 by_cases hkn:k < n
 ·have HD:=Jh (DelAt.start (l:=l) (by rw[HL.out];exact hkn) hall (hbad hkn));have hk1:¬(k:Int) = -1:=by omega
  have hk2:((k:Int) == -1)=false:=beq_eq_false_iff_ne.2 hk1;have hk3:decide ((k:Int) = -1)=false:=decide_eq_false hk1;rw[if_pos hkn];have HR1:=Jh (Kiv HR.out hg1);have HB1:=Jh (hg1.below.mono HBW.out);clear hall hbad hg1;go_wp2_with fail
  go_loopg [5,6,7] n (fun gg s5 s6 _ wr=>∃(i j:Nat) (X:List Spn),s5 = .int .i64 (i:Int)∧s6 = .int .i64 (j:Int)∧(j≤n∧n≤j+gg)∧DelAt l X i j∧wr.ownsRow B 109 2 (.slice (some ⟨g,0,none⟩) n cap) n (X.flatMap Kac)∧Below B w wr)
  case atStart=>exact ⟨k,k+1,l,rfl,by first | rfl | go_num,⟨by omega,by omega⟩,HD.out,HR1.out,HB1.out⟩
  case round=>
   obtain ⟨i,j,X,rfl,rfl,hjg,hd,hr,hb⟩:=hrel;have HJG:=Jh hjg;have HDA:=Jh hd;have HRR:=Jh hr;have HBB:=Jh hb;have hij:=hd.h;have hjn:=hjg.1;have hXl:X.length=n:=by rw[hd.n,HL.out]
   have HXL:=Jh hXl;clear hjg hd hr hb hXl;obtain ⟨wo,rfl⟩:∃x,x=wr:=⟨_,rfl⟩
   by_cases hj:j < n
   ·have el:decide (j < n)=true:=by rw[decide_eq_true_eq];exact hj
    have hj2:(j:Int) < (n:Int):=by omega
    obtain ⟨c0,c1,hgl⟩:=Kfz HRR.out HXL.out hj;have hxj:=HDA.out.at_ (by rw[HL.out];exact hj);obtain ⟨x,hx⟩:∃x,X[j]! = x:=⟨_,rfl⟩;rw[hx] at c0 c1 hxj;have HX:=Jh hxj;clear hx hxj;obtain ⟨a,b⟩:=x;dsimp only at c0 c1;go_upto_region 8 with fail
    obtain ⟨w2,hw2⟩:∃y,wo.alloc (.cells #[.int .i64 a,.int .i64 b] 109)=y:=⟨_,rfl⟩;have hb2:Below wo.heap.size wo w2:=by rw[←hw2];exact (Below.refl _ _).alloc (Nat.le_refl _) _
    have hkq:Blk w2 wo.heap.size 109 #[.int .i64 a,.int .i64 b]:=by rw[←hw2];exact Blk.new _ _ _
    have hr2:w2.ownsRow B 109 2 (.slice (some ⟨g,0,none⟩) n cap) n (X.flatMap Kac):=by rw[←hw2];exact World.ownsRow.alloc HRR.out _
    obtain ⟨qb,hqb⟩:∃y,wo.heap.size=y:=⟨_,rfl⟩;rw[hqb] at hkq hgl;rw[hw2,hqb];have hB0:B≤wo.heap.size:=Nat.le_trans HBW.out HBB.out.size;have HB2:=Jh (HBB.out.trans (hb2.mono hB0));have HKQ:=Jh hkq;have HR2:=Jh hr2;have HQG:Hid (g < qb):=Jh hgl;have d0:=hkq.cell 0;have d1:=hkq.cell 1;simp at d0 d1;have HCX:=Jh (HC.out ⟨a,b⟩ w2);unfold Kac at HCX;dsimp only at HCX;clear hw2 hb2 hkq hr2 hqb c0 c1 hgl hB0;go_wp2_with fail
    refine HCX.out.mono ?_;rintro _ w3 ⟨rfl,hg3⟩;have hk3:=HKQ.out.below hg3.below HKQ.out.lt;have hr3:=Kiv HR2.out hg3;have HB3:=Jh (HB2.out.trans (hg3.below.mono (Nat.le_trans HBW.out HB2.out.size)));obtain ⟨r,hrr⟩:∃r,badS ⟨a,b⟩=r:=⟨_,rfl⟩;rw[hrr];have HRS:=Jh hrr;clear hrr d0 d1 hg3
    cases r with
    | true=>
     have HD2:=Jh (HDA.out.skip (by rw[HL.out];exact hj) (by rw[←HX.out];exact HRS.out));have HR3:=Jh hr3;clear hk3 hr3;go_wp2_with fail
     go_roundg (gk - 1)
     case measure=>have:=HJG.out.2;omega
     case rel=>exact ⟨i,j+1,X,rfl,by first | rfl | go_num,⟨by omega,by have:=HJG.out.2;omega⟩,HD2.out,HR3.out,HB3.out⟩
    | false=>
     have HD2:=Jh (HDA.out.keep (by rw[HL.out];exact hj) (by rw[←HX.out];exact HRS.out));obtain ⟨e0,e1,hgl3⟩:=Kfz hr3 HXL.out (show i < n by omega);have f0:=World.ownsRow.frozenAt hr3 (i*2);have f1:=World.ownsRow.frozenAt hr3 (i*2+1);have s1:=World.ownsRow.stored hr3 (i*2) (.int .i64 a);have s2:=World.ownsRow.stored s1.1 (i*2+1) (.int .i64 b);have hr4:=s2.1;rw[Qcy X i a b (by rw[HXL.out];omega)] at hr4;have hb4:Below B w ((w3.setCell ⟨g,i*2,none⟩ (.int .i64 a)).setCell ⟨g,i*2+1,none⟩ (.int .i64 b)):=(HB3.out.setCell (p:=⟨g,i*2,none⟩) hgB _).setCell (p:=⟨g,i*2+1,none⟩) hgB _;have d0:=hk3.cell 0;have d1:=hk3.cell 1;simp at d0 d1;rw[←HX.out] at HD2;obtain ⟨w4,hw4⟩:∃y,(w3.setCell ⟨g,i*2,none⟩ (.int .i64 a)).setCell ⟨g,i*2+1,none⟩ (.int .i64 b)=y:=⟨_,rfl⟩;rw[hw4] at hr4 hb4;have HR4:=Jh hr4;have HB4:=Jh hb4;clear s1 s2 hr4 hb4 hk3 hr3;go_wp2_with fail
     go_roundg (gk - 1)
     case measure=>have:=HJG.out.2;omega
     case rel=>exact ⟨i+1,j+1,X.set i ⟨a,b⟩,by first | rfl | go_num,by first | rfl | go_num,⟨by omega,by have:=HJG.out.2;omega⟩,HD2.out,HR4.out,HB4.out⟩
   ·have el:decide (j < n)=false:=by rw[decide_eq_false_iff_not];exact hj
    have hjn2:j=n:=by omega
    obtain ⟨w2,hcl,hr2,hb2⟩:=Kvm HRR.out (show i≤n by omega) (cap - i)
    have htk:(X.flatMap Kac).take (i*2)=(goodS l).flatMap Kac:=by
     have hk:=HDA.out.k;rw[hjn2,←HL.out,List.take_length] at hk;rw[←hk,show X.flatMap Kac=(X.take i).flatMap Kac++(X.drop i).flatMap Kac by rw[←List.flatMap_append,List.take_append_drop],List.take_left' (by rw[Kfl,List.length_take];have:=HXL.out;omega)]
    have hil:i=(goodS l).length:=by
     have hk:=congrArg List.length HDA.out.k;rw[hjn2,←HL.out,List.take_length,List.length_take] at hk;have h8:=HXL.out;have h9:=HL.out;omega
    rw[htk] at hr2;have HF:=Jh hr2;have hij3:i < n:=by omega
    have HBF:=Jh (HBB.out.trans (hb2.mono (Nat.le_refl B)));have HIL:=Jh hil;have i1:(0:Int)≤(i:Int):=by omega
    have i2:(i:Int)≤(n:Int):=by omega
    have hnc:n≤cap:=by
     rcases HRR.out.2 with ⟨h',_⟩ | ⟨g',cap',cur,h',_,_,h6,_⟩
     ·cases h'
     ·injection h' with _ _ h3;omega
    have i3:i≤n:=by omega
    have i4:i≤cap:=by omega
    have i5:¬i=cap:=by omega
    have i6:i < cap:=by omega
    have i7:¬cap=i:=by omega
    clear htk hil hb2 hr2;go_wp2_with fail
    go_ret
    exact ⟨by rw[←HIL.out];rfl,by rw[←HIL.out];exact HF.out,HBF.out⟩
 ·have hkn2:k=n:=by omega
  have hgo:goodS l=l:=by
   unfold goodS;rw[List.filter_eq_self];intro s hs;obtain ⟨j,hj,rfl⟩:=List.getElem_of_mem hs;have:=hall j (by rw[HL.out] at hj;omega);rw[getElem!_pos l j hj] at this;rw[this];rfl
  rw[if_neg hkn];go_wp2_with fail
  go_ret
  rw[hgo,HL.out];exact ⟨rfl,Kiv HR.out HG1.out,HG1.out.below.mono HBW.out⟩
end
section
open Go.RowKit Go.Shelf Go.Sort
open Lib renaming hid → Jh
open List renaming length_append → Jd
attribute [local go_sem ↓] Go.wp_at_zero Go.wp_at_succ
attribute [local go_sem] Later.cell
def SpOut (w:World) (l:List Spn) (e:Ending) (w':World):Prop:=(∃v L,e = .returned v∧w'.ownsRow w.heap.size 109 2 v L.length (L.flatMap Kac)∧Kbf L∧(Kbf l→L=l)∧L.length≤l.length)∧Below w.heap.size w w'
theorem Kdk {w w':World} {B n sz:Nat} {T:TypeId} {v:Value} {xs:List Value} (h:w.ownsRow B T sz v n xs) (hb:Below w.heap.size w w'):w'.ownsRow B T sz v n xs:=by
 refine World.ownsRow.kept h (row:=none) ⟨hb.os,hb.tape,hb.output,hb.size,fun j hj _=>hb.block j hj⟩ ?_
 cases hv:v.ownBlock with
 | none=>exact .inl rfl
 | some b=>exact .inr (by simp)
theorem Qcn:∀(l out:List Spn),(l.foldl stepS out).length≤out.length+l.length
 | [],out=>by simp
 | s :: l,out=>by
  have h1:=Qcn l (stepS out s)
  have h2:(stepS out s).length≤out.length+1:=by
   unfold stepS
   split
   ·simp
   ·rename_i o ho
    have hne:out≠[]:=by intro e;rw[e] at ho;cases ho
    have:0 < out.length:=List.length_pos_iff.2 hne
    split
    ·first | (simp;done) | (simp;omega)
    ·first | (simp;done) | (simp;omega)
  rw[List.foldl_cons,List.length_cons];omega
theorem Qfj {l S:List Spn} (hp:S.Perm (goodS l)) (hs2:S.Pairwise fun a b=>a.frm≤b.frm):Kbf (ofS S)∧(Kbf l→ofS S=l)∧(ofS S).length≤l.length:=by
 have hgood:∀s∈S,s.frm≤s.to_:=fun s h=>by
  have:=(hp.mem_iff).1 h;unfold goodS at this;rw[List.mem_filter] at this;have h2:=this.2;unfold badS at h2;simp at h2;exact h2
 refine ⟨Qih hgood hs2,fun hc=>?_,?_⟩
 ·have hgl:goodS l=l:=by
   unfold goodS;rw[List.filter_eq_self];intro s hs;have:=hc.1 s hs;unfold badS;simp;exact this
  rw[hgl] at hp
  have hl2:l.Pairwise fun a b=>a.frm < b.frm:=by
   have h2:=hc.2;have h1:=hc.1;refine List.Pairwise.imp_of_mem ?_ h2;intro a b ha hb hab;have:=h1 a ha;omega
  have hS:S=l:=by
   refine List.Perm.eq_of_pairwise (le:=fun a b=>a.frm≤b.frm) ?_ hs2 (hl2.imp fun h=>by omega) hp;intro a b ha hb h1 h2;have hb':b∈S:=(hp.mem_iff).2 hb;have ha':a∈l:=(hp.mem_iff).1 ha;have he:a.frm=b.frm:=by omega
   obtain ⟨i,hi,hia⟩:=List.getElem_of_mem ha';obtain ⟨j,hj,hjb⟩:=List.getElem_of_mem hb;have hp2:=List.pairwise_iff_getElem.1 hl2;rcases (by omega:i < j∨i=j∨j < i) with h | h | h
   ·have:=hp2 i j hi hj h;rw[hia,hjb] at this;omega
   ·subst h;rw[←hia,←hjb]
   ·have:=hp2 j i hj hi h;rw[hia,hjb] at this;omega
  rw[hS];exact Qlh hc
 ·have h1:=Qcn S [];have h2:=hp.length_eq;have h3:(goodS l).length≤l.length:=List.length_filter_le _ _;unfold ofS;simp at h1;omega
theorem Kuh {ini:List Spn} {o s:Spn} (h:o.to_+1 < s.frm):stepS (ini ++ [o]) s=ini ++ [o] ++ [s]:=by
 unfold stepS;simp[h]
theorem Kkz {ini:List Spn} {o s:Spn} (h:¬o.to_+1 < s.frm):stepS (ini ++ [o]) s=ini ++ [⟨o.frm,max o.to_ s.to_⟩]:=by
 unfold stepS;simp[h]
theorem Qmi {L:List Spn} {s:Spn} (hs:SpnIn s) (h:∀x∈L,SpnIn x):∀x∈stepS L s,SpnIn x:=by
 rcases List.eq_nil_or_concat L with rfl | ⟨ini,o,rfl⟩
 ·intro x hx;have:x∈[s]:=hx;rw[List.mem_singleton.1 this];exact hs
 ·rw[List.concat_eq_append] at h ⊢
  by_cases hc:o.to_+1 < s.frm
  ·rw[Kuh hc];intro x hx;rcases List.mem_append.1 hx with hx | hx
   ·exact h x hx
   ·rw[List.mem_singleton.1 hx];exact hs
  ·rw[Kkz hc];intro x hx;rcases List.mem_append.1 hx with hx | hx
   ·exact h x (by simp[hx])
   ·rw[List.mem_singleton.1 hx];have ho:=h o (by simp);unfold SpnIn at ho hs ⊢;dsimp only;omega
theorem Kyz (ini:List Spn) (a b m:Int):((ini ++ [(⟨a,b⟩:Spn)]).flatMap Kac).set (ini.length*2+1) (.int .i64 m)=(ini ++ [(⟨a,m⟩:Spn)]).flatMap Kac:=by
 rw[List.flatMap_append,List.flatMap_append,←Kfl ini,List.set_append_right _ _ (Nat.le_add_right _ _),Nat.add_sub_cancel_left];rfl
theorem Kyx (l:List Spn) (A:Option Addr) (n c:Nat) (w:World) (h:Elems w w.heap.size 2 Kac A n l) (hn:n≤1099511627776) (h0:0 < n) (hin:∀x∈l,SpnIn x) :
  Calls Tryz.prog 88 #[.slice A n c] w (SpOut w l):=by
 have hlen:=h.len;obtain ⟨b0,off,rfl,_,_⟩:=h.2 h0;obtain ⟨ib,hib,hib0,hib1,hib2⟩:=info_parts Kxo;have HCL:=Jh (Kry l _ n c w h hn h0);have HL:=Jh hlen;have HIN:=Jh hin;obtain ⟨bs,hbs⟩:∃x,w.heap.size=x:=⟨_,rfl⟩;have HBS:=Jh hbs;unfold SpOut;rw[hbs] at HCL ⊢;clear h hlen hin hbs;go_enter Tryz.func88,Tryz.ntmps88
 go_wp2_with fail
 refine HCL.out.mono ?_;rintro _ w1 ⟨v1,rfl,hr1,hb1⟩
 obtain ⟨g,cap,rfl⟩:∃g cap,v1 = .slice (some ⟨g,0,none⟩) n cap:=by
  rcases hr1.2 with ⟨_,he⟩ | ⟨g,cap,cur,he,_⟩
  ·omega
  ·exact ⟨g,cap,he⟩
 have hlt1:=World.ownsRow.lt hr1 g rfl;have HB1:=Jh hb1;have HDL:=Jh (Kuy l bs n g cap w1 hr1 HL.out hn (by have:=hb1.size;have:=HBS.out;omega));clear hr1 hb1;go_wp2_with fail
 refine HDL.out.mono ?_;rintro _ w2 ⟨rfl,hr2,hb2⟩;have HB2:=Jh (HB1.out.trans hb2);have HSO:=Jh (Ksq (goodS l) bs _ w2 hr2 (by have:=List.length_filter_le (fun s=>!badS s) l;have:=HL.out;unfold goodS;omega));obtain ⟨m,hm⟩:∃m,(goodS l).length=m:=⟨_,rfl⟩;rw[hm] at HSO ⊢;have HM:=Jh hm;clear hr2 hb2 hm HCL HDL;go_wp2_with fail
 refine HSO.out.mono ?_;rintro _ w3 ⟨rfl,S,hp,hs,hr3,hg3⟩;have hSm:S.length=m:=by rw[hp.length_eq];exact HM.out
 rw[hSm] at hr3;have hb3:Below bs w2 w3:=⟨hg3.os,hg3.tape,hg3.output,hg3.size,fun k hk=>hg3.block k (by have:=HB2.out.size;have:=HBS.out;omega) (fun e=>by have e2:some k=some g:=e;injection e2 with e2;omega)⟩;have HB3:=Jh (HB2.out.trans hb3);have HSM:=Jh hSm;have HPS:=Jh (⟨hp,hs⟩:S.Perm (goodS l)∧S.Pairwise fun a b=>a.frm≤b.frm);have HR3:=Jh hr3;have hmn:m≤1099511627776:=by have h1:=HM.out;have h2:=List.length_filter_le (fun s=>!badS s) l;have:=HL.out;unfold goodS at h1;omega
 obtain ⟨B1,hB1⟩:∃x,w3.heap.size=x:=⟨_,rfl⟩;have HB31:=Jh hB1;have hgB1:g < B1:=by rw[←hB1];exact (World.ownsRow.lt hr3 g rfl).2
 have hbsB1:bs≤B1:=by rw[←hB1];have:=HB3.out.size;have:=HBS.out;omega
 clear hp hs hr3 hg3 hb3 hSm HSO hB1;go_wp2_with fail
 go_loopg [4,6,7,15] m (fun gg s4 _ _ s15 wr=>∃(i:Nat) (v4:Value) (Lo:List Spn),i+gg=m∧s15 = .int .i64 (i:Int)∧s4=v4∧wr.ownsRow B1 109 2 v4 Lo.length (Lo.flatMap Kac)∧Lo=ofS (S.take i)∧Lo.length≤i∧(∀x∈Lo,SpnIn x)∧Below B1 w3 wr)
 case atStart=>exact ⟨0,_,[],by omega,rfl,rfl,World.ownsRow_nil _ _ _ _,rfl,Nat.le_refl _,(fun x hx=>by cases hx),Below.refl _ _⟩
 case round=>
  obtain ⟨i,v4,Lo,hig,rfl,hv4,hro,hlo,hli,hoi,hbr⟩:=hrel;obtain rfl:=hv4.symm;have HIG:=Jh hig;have HRO:=Jh hro;have HLO:=Jh hlo;have HLI:=Jh hli;have HOI:=Jh hoi;have HBR:=Jh hbr;clear hig hro hlo hli hoi hbr;obtain ⟨wo,rfl⟩:∃x,x=wr:=⟨_,rfl⟩
  by_cases hi:i < m
  ·have el:decide (i < m)=true:=by rw[decide_eq_true_eq];exact hi
   have hi2:(i:Int) < (m:Int):=by omega
   have hrs:=HR3.out;have hrw:wo.ownsRow bs 109 2 (.slice (some ⟨g,0,none⟩) m cap) m (S.flatMap Kac):=Kdk hrs (by rw[HB31.out];exact HBR.out);obtain ⟨c0,c1,hgl⟩:=Kfz hrw HSM.out hi;obtain ⟨x,hx⟩:∃x,S[i]! = x:=⟨_,rfl⟩;rw[hx] at c0 c1
   have hxl:x∈l:=by
    have h1:x∈S:=by rw[←hx,getElem!_pos S i (by rw[HSM.out];exact hi)];exact List.getElem_mem _
    have h2:=(HPS.out.1.mem_iff).1 h1;unfold goodS at h2;exact (List.mem_filter.1 h2).1
   have hxi:=HIN.out x hxl
   have HST:Hid (ofS (S.take (i+1))=stepS Lo x):=Jh (by
    rw[HLO.out,List.take_succ_eq_append_getElem (by rw[HSM.out];exact hi),←getElem!_pos S i (by rw[HSM.out];exact hi),hx];unfold ofS;rw[List.foldl_append]
    rfl)
   have HNI:Hid (∀y∈stepS Lo x,SpnIn y):=Jh (Qmi hxi HOI.out);clear hx hrs hrw hxl;obtain ⟨a,b⟩:=x;unfold SpnIn at hxi;dsimp only at c0 c1 hxi;obtain ⟨hx1,hx2,hx3,hx4⟩:=hxi;go_upto_region 7 with fail
   obtain ⟨w4,hw4⟩:∃y,wo.alloc (.cells #[.int .i64 a,.int .i64 b] 109)=y:=⟨_,rfl⟩;have hb4:Below wo.heap.size wo w4:=by rw[←hw4];exact (Below.refl _ _).alloc (Nat.le_refl _) _
   have hkq:Blk w4 wo.heap.size 109 #[.int .i64 a,.int .i64 b]:=by rw[←hw4];exact Blk.new _ _ _
   have hro4:w4.ownsRow B1 109 2 v4 Lo.length (Lo.flatMap Kac):=by rw[←hw4];exact World.ownsRow.alloc HRO.out _
   have hB1o:B1≤wo.heap.size:=by have:=HBR.out.size;rw[HB31.out] at this;exact this
   obtain ⟨qb,hqb⟩:∃y,wo.heap.size=y:=⟨_,rfl⟩;have hqo:∀k,v4.ownBlock=some k→k < qb:=fun k hk=>by rw[←hqb];exact (World.ownsRow.lt HRO.out k hk).2
   rw[hqb] at hkq hB1o;rw[hw4,hqb];have HB4:=Jh (HBR.out.trans (hb4.mono (by rw[hqb];exact hB1o)));have HKQ:=Jh hkq;have HRO4:=Jh hro4;have HQO:=Jh hqo;have hB1q:=hB1o;clear hw4 hb4 hkq hro4 hqb c0 c1 hgl hqo hB1o;rcases List.eq_nil_or_concat Lo with hLn | ⟨ini,o,hLc⟩
   ·subst hLn
    have hv:∃A4 c4,v4 = .slice A4 0 c4:=by
     rcases HRO4.out.2 with ⟨h,_⟩ | ⟨g,c,cur,h,_⟩
     ·exact ⟨_,_,h⟩
     ·exact ⟨_,_,h⟩
    obtain ⟨A4,c4,rfl⟩:=hv;go_upto_region 8 with fail
    refine Kab (by kernel_rfl) (by kernel_rfl) ?_
    repeat (go_big_quiet_step (fail))
    refine wpQuiet_nil ?_;rintro w5 ⟨⟨_,hb5⟩,rfl⟩;have hk5:=HKQ.out.below hb5 HKQ.out.lt;have hro5:=Kdk HRO4.out hb5;have HB5:=Jh (HB4.out.trans (hb5.mono (by have:=HB4.out.size;rw[HB31.out] at this;exact this)));have HK5:=Jh hk5;have HRO5:=Jh hro5;have d0:=hk5.cell 0;have d1:=hk5.cell 1;simp at d0 d1;have hB15:B1≤w5.heap.size:=by have:=HB5.out.size;rw[HB31.out] at this;exact this
    clear hb5 hk5 hro5;have hLz:=HLI.out;go_wp2_with (at_builtin;refine wpList_append_own_at _ rfl _ _ 81 rfl B1 109 ib (.agg #[.int .i64 0,.int .i64 0]) 2 16 Tryz.underlying81 hib hib0 hib1 hib2 rfl (by decide) _ _ _ rfl (World.ownsRow.alloc HRO5.out _) ⟨w5.heap.size,0,none⟩ 1 1 [.int .i64 a,.int .i64 b] rfl rfl ?c1 ?c2 ?c3 ?c4 ?c5 ?_)
    case c1=>exact Kav (l:=[.int .i64 a,.int .i64 b]) (Blk.new w5 _ _)
    case c2=>
     intro u hu;simp only[List.mem_cons,List.not_mem_nil,or_false] at hu;rcases hu with rfl | rfl <;> rfl
    case c3=>unfold maxLen;omega
    case c4=>omega
    case c5=>simp;omega
    intro v' w6 hown' hgrow hx1 hat';have hstep:Below B1 w5 w6:=⟨hgrow.os,hgrow.tape,hgrow.output,by have:=hgrow.size;simp at this;omega,fun k hk=>(hgrow.block k (by simp;omega) (fun e=>by have e2:=(World.ownsRow.lt HRO5.out k e.symm).1;omega)).trans (Below.heap_alloc _ _ _ (by omega))⟩;have hfl:(([]:List Spn) ++ [(⟨a,b⟩:Spn)]).flatMap Kac=(([]:List Spn)).flatMap Kac ++ [.int .i64 a,.int .i64 b]:=by rw[List.flatMap_append];rfl
    have hst:=HST.out;have how:w6.ownsRow B1 109 2 v' (([]:List Spn) ++ [(⟨a,b⟩:Spn)]).length ((([]:List Spn) ++ [(⟨a,b⟩:Spn)]).flatMap Kac):=by rw[hfl,Jd];exact hown'
    have HB6:=Jh (HB5.out.trans hstep);have HO6:=Jh how
    have HLE:=Jh (show ([]:List Spn) ++ [(⟨a,b⟩:Spn)]=ofS (S.take (i+1)) from by
     rw[hst]
     rfl)
    clear hown' hgrow hx1 hat' hfl how hstep hst d0 d1;go_wp2_with fail
    go_roundg (gk - 1)
    case measure=>have:=HIG.out;omega
    case rel=>exact ⟨i+1,_,_,by have:=HIG.out;omega,by first | rfl | go_num,rfl,HO6.out,HLE.out,by have:=HLI.out;rw[Jd];simp;try omega,by rw[HLE.out,HST.out];exact HNI.out,HB6.out⟩
   ·rw[List.concat_eq_append] at hLc;subst hLc;obtain ⟨k,hk⟩:∃k,ini.length=k:=⟨_,rfl⟩;have hl1:(ini ++ [o]).length=k+1:=by rw[Jd,hk];rfl
    have hv:∃go c4,v4 = .slice (some ⟨go,0,none⟩) (k+1) c4:=by
     rcases HRO4.out.2 with ⟨_,h⟩ | ⟨go,c,cur,h,_⟩
     ·rw[hl1] at h;omega
     ·rw[hl1] at h;exact ⟨_,_,h⟩
    obtain ⟨go,c4,rfl⟩:=hv;have hro1:=HRO4.out;rw[hl1] at hro1;obtain ⟨o0,o1,hgo⟩:=Kfz hro1 hl1 (show k < k+1 by omega);rw[getElem!_pos (ini ++ [o]) k (by rw[hl1];omega),List.getElem_append_right (by omega)] at o0 o1;have hos:[o][k - ini.length]'(by rw[hk];simp)=o:=by simp[hk]
    rw[hos] at o0 o1;have hq4:qb < w4.heap.size:=HKQ.out.lt;have d0:=HKQ.out.cell 0;have d1:=HKQ.out.cell 1;simp at d0 d1;have hki:k < i:=by have:=HLI.out;rw[hl1] at this;omega
    have z1:IntKind.i64.wrap (((k+1:Nat):Int) - 1)=(k:Int):=by rw[show ((k+1:Nat):Int) - 1=(k:Int) by omega];exact IntWalk.i64_in _ (by omega)
    have z2:IntKind.i64.wrap ((k:Int)+1 - 1)=(k:Int):=by rw[show (k:Int)+1 - 1=(k:Int) by omega];exact IntWalk.i64_in _ (by omega)
    have hoo:=HOI.out o (by simp);obtain ⟨of_,ot⟩:=o;unfold SpnIn at hoo;dsimp only at o0 o1 hoo;obtain ⟨hoo1,hoo2,hoo3,hoo4⟩:=hoo;have n1:¬(k:Int) < 0:=by omega
    have n2:decide ((k:Int) < 0)=false:=decide_eq_false n1
    by_cases g1:ot < a
    ·have a1:decide (ot < a)=true:=decide_eq_true g1;have z3:IntKind.i64.wrap (a - 1)=a - 1:=IntWalk.i64_in _ (by omega)
     by_cases g2:ot < a - 1
     ·have a2:decide (ot < a - 1)=true:=decide_eq_true g2;go_upto_region 8 with fail
      refine Kab (by kernel_rfl) (by kernel_rfl) ?_
      repeat (go_big_quiet_step (fail))
      refine wpQuiet_nil ?_;rintro w5 ⟨⟨_,hb5⟩,rfl⟩;have hk5:=HKQ.out.below hb5 HKQ.out.lt;have hro5:=Kdk HRO4.out hb5;have HB5:=Jh (HB4.out.trans (hb5.mono (by have:=HB4.out.size;rw[HB31.out] at this;exact this)));have HK5:=Jh hk5;rw[hl1] at hro5;obtain ⟨vv,hvv⟩:∃vv,(Value.slice (some ⟨go,0,none⟩) (k+1) c4)=vv:=⟨_,rfl⟩;rw[hvv] at hro5 ⊢;clear hvv;have HRO5:=Jh hro5;have HL1:=Jh hl1;clear o0 o1 hgo hro1 z1 z2 z3 n1 n2 a1 a2 hq4 hl1 hos;have d0:=hk5.cell 0;have d1:=hk5.cell 1;simp at d0 d1;have hB15:B1≤w5.heap.size:=by have:=HB5.out.size;rw[HB31.out] at this;exact this
      clear hb5 hk5 hro5;have hLz:=HLI.out;go_wp2_with (at_builtin;refine wpList_append_own_at _ rfl _ _ 81 rfl B1 109 ib (.agg #[.int .i64 0,.int .i64 0]) 2 16 Tryz.underlying81 hib hib0 hib1 hib2 rfl (by decide) _ _ _ rfl (World.ownsRow.alloc HRO5.out _) ⟨w5.heap.size,0,none⟩ 1 1 [.int .i64 a,.int .i64 b] rfl rfl ?c1 ?c2 ?c3 ?c4 ?c5 ?_)
      case c1=>exact Kav (l:=[.int .i64 a,.int .i64 b]) (Blk.new w5 _ _)
      case c2=>
       intro u hu;simp only[List.mem_cons,List.not_mem_nil,or_false] at hu;rcases hu with rfl | rfl <;> rfl
      case c3=>unfold maxLen;omega
      case c4=>omega
      case c5=>simp;omega
      intro v' w6 hown' hgrow hx1 hat';have hstep:Below B1 w5 w6:=⟨hgrow.os,hgrow.tape,hgrow.output,by have:=hgrow.size;simp at this;omega,fun k hk=>(hgrow.block k (by simp;omega) (fun e=>by have e2:=(World.ownsRow.lt HRO5.out k e.symm).1;omega)).trans (Below.heap_alloc _ _ _ (by omega))⟩;have hfl:((ini ++ [(⟨of_,ot⟩:Spn)]) ++ [(⟨a,b⟩:Spn)]).flatMap Kac=((ini ++ [(⟨of_,ot⟩:Spn)])).flatMap Kac ++ [.int .i64 a,.int .i64 b]:=by rw[List.flatMap_append];rfl
      have hst:=HST.out;have how:w6.ownsRow B1 109 2 v' ((ini ++ [(⟨of_,ot⟩:Spn)]) ++ [(⟨a,b⟩:Spn)]).length (((ini ++ [(⟨of_,ot⟩:Spn)]) ++ [(⟨a,b⟩:Spn)]).flatMap Kac):=by rw[hfl,Jd,HL1.out,List.flatMap_append,List.append_assoc];exact hown'
      have HB6:=Jh (HB5.out.trans hstep);have HO6:=Jh how
      have HLE:=Jh (show (ini ++ [(⟨of_,ot⟩:Spn)]) ++ [(⟨a,b⟩:Spn)]=ofS (S.take (i+1)) from by
       rw[hst]
       exact (Kuh (by dsimp only;omega)).symm)
      clear hown' hgrow hx1 hat' hfl how hstep hst d0 d1;go_wp2_with fail
      go_roundg (gk - 1)
      case measure=>have:=HIG.out;omega
      case rel=>exact ⟨i+1,_,_,by have:=HIG.out;omega,by first | rfl | go_num,rfl,HO6.out,HLE.out,by have:=HLI.out;rw[Jd];simp;try omega,by rw[HLE.out,HST.out];exact HNI.out,HB6.out⟩
     ·have a2:decide (ot < a - 1)=false:=decide_eq_false g2;go_upto_region 8 with fail
      refine Kab (by kernel_rfl) (by kernel_rfl) ?_
      repeat (go_big_quiet_step (fail))
      refine wpQuiet_nil ?_;rintro w5 ⟨⟨_,hb5⟩,rfl⟩;have hk5:=HKQ.out.below hb5 HKQ.out.lt;have hro5:=Kdk HRO4.out hb5;have HB5:=Jh (HB4.out.trans (hb5.mono (by have:=HB4.out.size;rw[HB31.out] at this;exact this)));have HK5:=Jh hk5;have HRO5:=Jh hro5;have d0:=hk5.cell 0;have d1:=hk5.cell 1;simp at d0 d1;have hro6:=hro5;rw[hl1] at hro6;obtain ⟨p0,p1,hgo5⟩:=Kfz hro6 hl1 (show k < k+1 by omega);rw[getElem!_pos (ini ++ [(⟨of_,ot⟩:Spn)]) k (by rw[hl1];omega),List.getElem_append_right (by omega)] at p0 p1;have hos2:[(⟨of_,ot⟩:Spn)][k - ini.length]'(by rw[hk];simp)=⟨of_,ot⟩:=by simp[hk]
      rw[hos2] at p0 p1;dsimp only at p0 p1;have hq5:qb < w5.heap.size:=hk5.lt;have HR6:=Jh hro6;clear hb5 hk5 hro5 hro6 hos2;go_upto_region 10 with fail
      refine Kag 10 (by kernel_rfl) (by kernel_rfl) ?_;simp only[List.take_succ_cons,List.take_zero,List.drop_succ_cons,List.drop_zero]
      repeat (go_big_quiet_step (fail))
      refine wpQuiet_nil ?_;rintro w6 ⟨⟨_,hb6⟩,rfl⟩;have hr7:=Kdk HR6.out hb6;have s1:=World.ownsRow.stored hr7 (k*2+1) (.int .i64 (max ot b));have f1:=World.ownsRow.frozenAt hr7 (k*2+1);obtain ⟨_,p1,hgo6⟩:=Kfz hr7 hl1 (show k < k+1 by omega);rw[getElem!_pos (ini ++ [(⟨of_,ot⟩:Spn)]) k (by rw[hl1];omega),List.getElem_append_right (by omega)] at p1;have hos2:[(⟨of_,ot⟩:Spn)][k - ini.length]'(by rw[hk];simp)=⟨of_,ot⟩:=by simp[hk]
      rw[hos2] at p1;dsimp only at p1;have hr8:=s1.1;rw[←hk,Kyz,hk] at hr8;have HBa:=HB5.out.trans (hb6.mono (by have:=HB5.out.size;rw[HB31.out] at this;exact this));have hgoB:=(World.ownsRow.lt hr7 go rfl).1;have hb8:=HBa.setCell (p:=⟨go,k*2+1,none⟩) hgoB (.int .i64 (max ot b));have HB8:=Jh hb8;have HR8:=Jh hr8;have hst:=HST.out
      have hnear:ini ++ [(⟨of_,max ot b⟩:Spn)]=ofS (S.take (i+1)):=by
       rw[hst,Kkz (by dsimp only;omega)]
      have HLE:=Jh hnear;have hl2:(ini ++ [(⟨of_,max ot b⟩:Spn)]).length=k+1:=by rw[Jd,hk];rfl
      have HL2:=Jh hl2;clear hb6 hr7 s1 hr8 hb8 hst hnear hl2 p0 d0 d1 hos2 HBa;go_wp2_with fail
      go_roundg (gk - 1)
      case measure=>have:=HIG.out;omega
      case rel=>exact ⟨i+1,_,ini ++ [(⟨of_,max ot b⟩:Spn)],by have:=HIG.out;omega,by first | rfl | go_num,rfl,by rw[HL2.out];exact HR8.out,HLE.out,by rw[HL2.out];omega,by rw[HLE.out,HST.out];exact HNI.out,HB8.out⟩
    ·have a1:decide (ot < a)=false:=decide_eq_false g1;go_upto_region 8 with fail
     refine Kab (by kernel_rfl) (by kernel_rfl) ?_
     repeat (go_big_quiet_step (fail))
     refine wpQuiet_nil ?_;rintro w5 ⟨⟨_,hb5⟩,rfl⟩;have hk5:=HKQ.out.below hb5 HKQ.out.lt;have hro5:=Kdk HRO4.out hb5;have HB5:=Jh (HB4.out.trans (hb5.mono (by have:=HB4.out.size;rw[HB31.out] at this;exact this)));have HK5:=Jh hk5;have HRO5:=Jh hro5;have d0:=hk5.cell 0;have d1:=hk5.cell 1;simp at d0 d1;have hro6:=hro5;rw[hl1] at hro6;obtain ⟨p0,p1,hgo5⟩:=Kfz hro6 hl1 (show k < k+1 by omega);rw[getElem!_pos (ini ++ [(⟨of_,ot⟩:Spn)]) k (by rw[hl1];omega),List.getElem_append_right (by omega)] at p0 p1;have hos2:[(⟨of_,ot⟩:Spn)][k - ini.length]'(by rw[hk];simp)=⟨of_,ot⟩:=by simp[hk]
     rw[hos2] at p0 p1;dsimp only at p0 p1;have hq5:qb < w5.heap.size:=hk5.lt;have HR6:=Jh hro6;clear hb5 hk5 hro5 hro6 hos2;go_upto_region 10 with fail
     refine Kag 10 (by kernel_rfl) (by kernel_rfl) ?_;simp only[List.take_succ_cons,List.take_zero,List.drop_succ_cons,List.drop_zero]
     repeat (go_big_quiet_step (fail))
     refine wpQuiet_nil ?_;rintro w6 ⟨⟨_,hb6⟩,rfl⟩;have hr7:=Kdk HR6.out hb6;have s1:=World.ownsRow.stored hr7 (k*2+1) (.int .i64 (max ot b));have f1:=World.ownsRow.frozenAt hr7 (k*2+1);obtain ⟨_,p1,hgo6⟩:=Kfz hr7 hl1 (show k < k+1 by omega);rw[getElem!_pos (ini ++ [(⟨of_,ot⟩:Spn)]) k (by rw[hl1];omega),List.getElem_append_right (by omega)] at p1;have hos2:[(⟨of_,ot⟩:Spn)][k - ini.length]'(by rw[hk];simp)=⟨of_,ot⟩:=by simp[hk]
     rw[hos2] at p1;dsimp only at p1;have hr8:=s1.1;rw[←hk,Kyz,hk] at hr8;have HBa:=HB5.out.trans (hb6.mono (by have:=HB5.out.size;rw[HB31.out] at this;exact this));have hgoB:=(World.ownsRow.lt hr7 go rfl).1;have hb8:=HBa.setCell (p:=⟨go,k*2+1,none⟩) hgoB (.int .i64 (max ot b));have HB8:=Jh hb8;have HR8:=Jh hr8;have hst:=HST.out
     have hnear:ini ++ [(⟨of_,max ot b⟩:Spn)]=ofS (S.take (i+1)):=by
      rw[hst,Kkz (by dsimp only;omega)]
     have HLE:=Jh hnear;have hl2:(ini ++ [(⟨of_,max ot b⟩:Spn)]).length=k+1:=by rw[Jd,hk];rfl
     have HL2:=Jh hl2;clear hb6 hr7 s1 hr8 hb8 hst hnear hl2 p0 d0 d1 hos2 HBa;go_wp2_with fail
     go_roundg (gk - 1)
     case measure=>have:=HIG.out;omega
     case rel=>exact ⟨i+1,_,ini ++ [(⟨of_,max ot b⟩:Spn)],by have:=HIG.out;omega,by first | rfl | go_num,rfl,by rw[HL2.out];exact HR8.out,HLE.out,by rw[HL2.out];omega,by rw[HLE.out,HST.out];exact HNI.out,HB8.out⟩
  ·have el:decide (i < m)=false:=by rw[decide_eq_false_iff_not];exact hi
   have him:i=m:=by have:=HIG.out;omega
   have hS:=Qfj HPS.out.1 HPS.out.2;have hLo:Lo=ofS S:=by rw[HLO.out,him,←HSM.out,List.take_length]
   rw[←hLo] at hS;have HSS:=Jh hS;have hBF:Below bs w wo:=HB3.out.trans (HBR.out.mono hbsB1);have HBF:=Jh hBF;have HRF:=Jh (World.ownsRow.mono HRO.out hbsB1);clear hS hLo hBF;go_wp2_with fail
   go_ret
   exact ⟨⟨_,rfl,Lo,HRF.out,HSS.out.1,HSS.out.2.1,HSS.out.2.2⟩,HBF.out⟩
end
section
open Go.RowKit
open List renaming length_append → Jd
theorem Qad (c:Int):(Kcm c).length≤68:=by
 unfold Kcm
 repeat' split
 all_goals simp[Kaq]
theorem Qaj (c:Cst) (x:Nat):(Kbl c x).1.length≤77:=by
 unfold Kbl
 repeat' split
 all_goals simp[Kaq]
 all_goals omega
theorem Qbg (c:Cst) (s:Smp):(Kbn c s).1.length≤145:=by
 unfold Kbn
 split
 ·simp[Kaq]
 ·have h1:=Qad (s.t - c.last.t - c.step);have h2:=Qaj { c with step:=s.t - c.last.t } (s.v ^^^ c.last.v);simp only[Jd];omega
theorem Kmk:∀(l:List Smp) (c:Cst),(Kbt c l).length≤145*l.length
 | [],_=>Nat.le_refl _
 | s :: l,c=>by
  have h1:=Qbg c s;have h2:=Kmk l (Kbn c s).2;rw[Kbt,Jd,List.length_cons];omega
theorem Khk (p:List Smp):(Kbg p).length≤12+19*p.length:=by
 unfold Kbg;have h1:=(Kam p.length).2;have h2:=(Kfo (Kbt cst0 p)).len;have h3:=Kmk p cst0;rw[Jd];omega
theorem Kjx (m:Nat):∀l:List Txt,(∀x∈l,x.length≤m)→(l.flatMap textT).length≤(11+m)*l.length
 | [],_=>by simp
 | x :: l,h=>by
  have h1:=h x (by simp);have h2:=Kjx m l (fun y hy=>h y (by simp[hy]));have h3:=(Kam x.length).2;rw[List.flatMap_cons,Jd,List.length_cons,Nat.mul_succ];unfold textT at *;rw[Jd];omega
theorem Klt (l:List Txt):(Lib.compact l).length≤l.length:=by
 unfold Lib.compact Lib.compactUpTo;rw[List.length_map];exact Nat.le_trans (List.length_filter_le _ _) (by rw[List.length_range];exact Nat.le_refl _)
theorem Kwf:∀S:List (List Lb),(∀l∈S,l.length≤8)→(allS S).length≤16*S.length
 | [],_=>by simp[allS]
 | l :: S,h=>by
  have h1:=h l (by simp);have h2:=Kwf S (fun x hx=>h x (by simp[hx]))
  have h3:(texts l).length=2*l.length:=by
   clear h1 h2 h
   induction l with
   | nil=>rfl
   | cons x l ih=>simp[texts] at *;omega
  unfold allS at *;rw[List.flatMap_cons,Jd,List.length_cons];omega
theorem Qmn {l:List Lb} {x:Txt} (h:x∈texts l):∃y∈l,x=y.n∨x=y.v:=by
 unfold texts at h;obtain ⟨y,hy,hx⟩:=List.mem_flatMap.1 h;refine ⟨y,hy,?_⟩;simpa using hx
def Kpk (S:List (List Lb)):Prop:=∀l∈S,l.length≤8∧∀y∈l,y.n.length≤32∧y.v.length≤64
theorem Krk {S:List (List Lb)} (h:Kpk S):(tabOf S).length≤16*S.length∧∀x∈tabOf S,x.length≤64:=by
 refine ⟨?_,fun x hx=>?_⟩
 ·refine Nat.le_trans (Klt _) ?_;rw[List.length_mergeSort];exact Kwf S fun l hl=>(h l hl).1
 ·have h1:=((Kiq S).2 x).1 hx;obtain ⟨l,hl,hx⟩:=List.mem_flatMap.1 h1;obtain ⟨y,hy,hh⟩:=Qmn hx;have:=(h l hl).2 y hy;rcases hh with rfl | rfl <;> omega
end
section
def nF:List (UInt8×UInt8)→Nat
 | []=>0
 | p :: l=>256*nF l+(p.1 ^^^ p.2).toNat
end
section
open Go.RowKit
theorem Qlg {l:List UInt8} (h:l.length=4):fourT (numT l)=l:=by
 obtain ⟨a,b,c,d,rfl⟩:∃a b c d,l = [a,b,c,d]:=by
  match l,h with
  | [a,b,c,d],_=>exact ⟨a,b,c,d,rfl⟩
 have ha:=UInt8.toNat_lt a;have hb:=UInt8.toNat_lt b;have hc:=UInt8.toNat_lt c;have hd:=UInt8.toNat_lt d;unfold fourT numT;dsimp only
 have e:∀(x:UInt8) (n:Nat),n % 256=x.toNat→UInt8.ofNat n=x:=fun x n h=>by
  apply UInt8.toNat_inj.1;rw[UInt8.toNat_ofNat'];exact h
 rw[e a _ (by omega),e b _ (by omega),e c _ (by omega),e d _ (by omega)]
theorem Qbj {s b:List UInt8} (h:Kco s = .ok b):sealT b=s:=by
 unfold Kco at h
 split at h
 ·cases h
 rename_i h4
 split at h
 ·rename_i hc
  injection h with h;subst h;unfold sealT;rw[hc,Qlg (by rw[List.length_drop];omega),List.take_append_drop]
 ·cases h
theorem Qjt {s b:List UInt8} (h:Kco s = .ok b):b.length+4=s.length:=by
 rw[←Qbj h,Kmm]
instance smpEq:DecidableEq Smp:=fun a b=>by
 cases a with
 | mk t v=>
  cases b with
  | mk t' v'=>exact if h:t=t'∧v=v' then isTrue (by rw[h.1,h.2]) else isFalse fun e=>h (by injection e with e1 e2;exact ⟨e1,e2⟩)
instance wndEq:DecidableEq Wnd:=fun a b=>by
 cases a with
 | mk a1 a2 a3 a4 a5 a6=>
  cases b with
  | mk b1 b2 b3 b4 b5 b6=>
   exact if h:a1=b1∧a2=b2∧a3=b3∧a4=b4∧a5=b5∧a6=b6 then isTrue (by obtain ⟨rfl,rfl,rfl,rfl,rfl,rfl⟩:=h;rfl) else isFalse fun e=>h (by injection e with e1 e2 e3 e4 e5 e6;exact ⟨e1,e2,e3,e4,e5,e6⟩)
instance serEq:DecidableEq Ser:=fun a b=>by
 cases a with
 | mk l s w=>
  cases b with
  | mk l' s' w'=>exact if h:l=l'∧s=s'∧w=w' then isTrue (by rw[h.1,h.2.1,h.2.2]) else isFalse fun e=>h (by injection e with e1 e2 e3;exact ⟨e1,e2,e3⟩)
instance contEq:DecidableEq Cont:=fun a b=>by
 cases a with
 | mk r f t s=>
  cases b with
  | mk r' f' t' s'=>exact if h:r=r'∧f=f'∧t=t'∧s=s' then isTrue (by obtain ⟨rfl,rfl,rfl,rfl⟩:=h;rfl) else isFalse fun e=>h (by injection e with e1 e2 e3 e4;exact ⟨e1,e2,e3,e4⟩)
theorem Kiz {α : Type} [Inhabited α] {a b:List α} (h:a.length=b.length) (hi:∀i,i < a.length→a[i]! = b[i]!):a=b:=by
 apply List.ext_getElem h;intro i h1 h2;have:=hi i h1;rwa[getElem!_pos a i h1,getElem!_pos b i h2] at this
theorem Kgf {P:Program} {w:World} {d:Nat} {xs ys:Array Value} {f:Field} {fs:List Field} {t:TypeId} {o:Nat} {a b:Value} {r:Bool} (hf:(f.name != "_",f.type,f.offset)=(true,t,o)) (ha:(part t xs o).run P w = .ok a w) (hb:(part t ys o).run P w = .ok b w) (he:(Op.equalIn d t a b).run P w = .ok r w) :
  (Op.eqFields d xs ys (f :: fs)).run P w=if r then (Op.eqFields d xs ys fs).run P w else .ok false w:=by
 injection hf with h1 h2;injection h2 with h2 h3;subst h2 h3;have h1':f.name≠"_":=by simpa using h1
 rw[Op.eqFields];simp only[ne_eq,h1',not_false_eq_true,if_true,Sem.run_bind,ha,hb,he,Result.andThen_ok];cases r <;> simp
theorem Ksd {P:Program} {w:World} {d:Nat} {xs ys:Array Value}:(Op.eqFields d xs ys []).run P w = .ok true w:=rfl
theorem Qnx (x y:Smp) (w:World):(Op.equalIn 10000 111 (.agg #[.int .i64 x.t,.int .u64 (x.v:Int)]) (.agg #[.int .i64 y.t,.int .u64 (y.v:Int)])).run Tryz.prog w = .ok (decide (x=y)) w:=by
 rw[run_equalIn_struct (d:=9999) w 111 _ _ (by kernel_rfl) (by kernel_rfl)];obtain ⟨fs,hfs⟩:∃fs,(Tryz.prog.fieldsOf 111).toList=fs:=⟨_,rfl⟩;have hf:fs.map (fun f=>(f.name != "_",f.type,f.offset)) = [(true,2,0),(true,79,1)]:=by rw[←hfs];kernel_rfl
 rw[hfs]
 match fs,hf with
 | [f0,f1],hf=>
  simp only[List.map_cons,List.map_nil] at hf;injection hf with h0 hf;injection hf with h1 hf;rw[Kgf (a:=.int .i64 x.t) (b:=.int .i64 y.t) h0 (by kernel_rfl) (by kernel_rfl) (run_equalIn_int w 9998 2 .i64 .i64 _ _ Tryz.underlying2)];rw[Kgf (a:=.int .u64 (x.v:Int)) (b:=.int .u64 (y.v:Int)) h1 (by kernel_rfl) (by kernel_rfl) (run_equalIn_int w 9998 79 .u64 .u64 _ _ Tryz.underlying79)];rw[Ksd];have k0:(x.t == y.t)=decide (x.t=y.t):=by rw[Bool.eq_iff_iff];simp
  have k1:((x.v:Int) == (y.v:Int))=decide (x.v=y.v):=by rw[Bool.eq_iff_iff];simp;omega
  rw[k0,k1];cases x
  cases y
  simp only[Smp.mk.injEq]
  repeat' split
  all_goals simp_all
theorem Qny (x y:Smp) (w:World):(binOp .neq 111 (.agg #[.int .i64 x.t,.int .u64 (x.v:Int)]) (.agg #[.int .i64 y.t,.int .u64 (y.v:Int)])).run Tryz.prog w = .ok (.bool (!decide (x=y))) w:=by
 rw[run_neq_struct,Qnx];rfl
end
section
open Go.RowKit Go.Shelf Go.Sort
open Lib renaming hid → Jh
attribute [local go_sem ↓] Go.wp_at_zero Go.wp_at_succ
attribute [local go_sem] Later.cell
theorem Kxm (A:Option Addr) (c:Nat) (v:Value) (w:World):Calls Tryz.prog 196 #[.slice A 0 c,v] w fun e w'=>e = .returned (.int .i64 (-1))∧w=w':=by
 go_enter Tryz.func196,Tryz.ntmps196
 go_wp2_with fail
 go_loopg [8] 0 (fun gg s8 wr=>s8 = .int .i64 0∧wr=w)
 case atStart=>exact ⟨rfl,rfl⟩
 case round=>
  obtain ⟨rfl,rfl⟩:=hrel;go_wp2_with fail
  go_ret
  exact ⟨rfl,rfl⟩
theorem Qdt (A:Option Addr) (c:Nat) (v:Value) (w:World):Calls Tryz.prog 142 #[.slice A 0 c,v] w fun e w'=>e = .returned (.slice A 0 c)∧w=w':=by
 have HI:=Jh (Kxm A c v w);go_enter Tryz.func142,Tryz.ntmps142
 go_wp2_with fail
 refine HI.out.mono ?_;rintro _ w1 ⟨rfl,rfl⟩;go_wp2_with fail
 go_ret
 exact ⟨rfl,rfl⟩
theorem Kvu (A:Option Addr) (c:Nat) (w:World):Calls Tryz.prog 88 #[.slice A 0 c] w (SpOut w []):=by
 have HC:=Jh (Kps A c w);have HD:=Jh (fun A' c' W=>Qdt A' c' (.func (.func 144) #[] #[]) W);have HS:=Jh (fun A' c' W=>AnyF.slices_SortFunc_none Tryz.laysSFS A' c' (.func (.func 146) #[] #[]) W);unfold SpOut;go_enter Tryz.func88,Tryz.ntmps88
 go_wp2_with fail
 refine HC.out.mono ?_;rintro _ w1 ⟨⟨A',c',rfl⟩,hb1⟩;have HB1:=Jh hb1;clear hb1;go_wp2_with fail
 refine (HD.out A' c' w1).mono ?_;rintro _ w2 ⟨rfl,rfl⟩;go_wp2_with fail
 refine (HS.out A' c' w1).mono ?_;rintro _ w2 ⟨rfl,rfl⟩;go_wp2_with fail
 go_loopg [4,6,7,15] 0 (fun gg s4 _ _ s15 wr=>s15 = .int .i64 0∧s4 = .slice none 0 0∧wr=w2)
 case atStart=>exact ⟨rfl,rfl,rfl⟩
 case round=>
  obtain ⟨rfl,rfl,rfl⟩:=hrel;go_wp2_with fail
  go_ret
  exact ⟨⟨_,[],rfl,World.ownsRow_nil _ _ _ _,⟨(fun s h=>by cases h),List.Pairwise.nil⟩,(fun _=>rfl),Nat.le_refl _⟩,HB1.out⟩
theorem Kny (l:List Spn) (A:Option Addr) (n c:Nat) (w:World) (h:Elems w w.heap.size 2 Kac A n l) (hn:n≤1099511627776) (hin:∀x∈l,SpnIn x) :
  Calls Tryz.prog 88 #[.slice A n c] w (SpOut w l):=by
 rcases Nat.eq_zero_or_pos n with h0 | h0
 ·subst h0;have:l = []:=List.eq_nil_of_length_eq_zero h.len;subst this;exact Kvu A c w
 ·exact Kyx l A n c w h hn h0 hin
instance spnEq:DecidableEq Spn:=fun a b=>by
 cases a with
 | mk t v=>
  cases b with
  | mk t' v'=>exact if h:t=t'∧v=v' then isTrue (by rw[h.1,h.2]) else isFalse fun e=>h (by injection e with e1 e2;exact ⟨e1,e2⟩)
theorem Qoa (x y:Spn) (w:World):(Op.equalIn 10000 109 (.agg #[.int .i64 x.frm,.int .i64 x.to_]) (.agg #[.int .i64 y.frm,.int .i64 y.to_])).run Tryz.prog w = .ok (decide (x=y)) w:=by
 rw[run_equalIn_struct (d:=9999) w 109 _ _ (by kernel_rfl) (by kernel_rfl)];obtain ⟨fs,hfs⟩:∃fs,(Tryz.prog.fieldsOf 109).toList=fs:=⟨_,rfl⟩;have hf:fs.map (fun f=>(f.name != "_",f.type,f.offset)) = [(true,2,0),(true,2,1)]:=by rw[←hfs];kernel_rfl
 rw[hfs]
 match fs,hf with
 | [f0,f1],hf=>
  simp only[List.map_cons,List.map_nil] at hf;injection hf with h0 hf;injection hf with h1 hf;rw[Kgf (a:=.int .i64 x.frm) (b:=.int .i64 y.frm) h0 (by kernel_rfl) (by kernel_rfl) (run_equalIn_int w 9998 2 .i64 .i64 _ _ Tryz.underlying2)];rw[Kgf (a:=.int .i64 x.to_) (b:=.int .i64 y.to_) h1 (by kernel_rfl) (by kernel_rfl) (run_equalIn_int w 9998 2 .i64 .i64 _ _ Tryz.underlying2)];rw[Ksd];have k0:(x.frm == y.frm)=decide (x.frm=y.frm):=by rw[Bool.eq_iff_iff];simp
  have k1:(x.to_ == y.to_)=decide (x.to_=y.to_):=by rw[Bool.eq_iff_iff];simp
  rw[k0,k1];cases x
  cases y
  simp only[Spn.mk.injEq]
  repeat' split
  all_goals simp_all
theorem Qob (x y:Spn) (w:World):(binOp .neq 109 (.agg #[.int .i64 x.frm,.int .i64 x.to_]) (.agg #[.int .i64 y.frm,.int .i64 y.to_])).run Tryz.prog w = .ok (.bool (!decide (x=y))) w:=by
 rw[run_neq_struct,Qoa];rfl
theorem Qmb (x y:Spn) (w:World):(Op.equalIn 10000 110 (.agg #[.int .i64 x.frm,.int .i64 x.to_]) (.agg #[.int .i64 y.frm,.int .i64 y.to_])).run Tryz.prog w = .ok (decide (x=y)) w:=by
 rw[run_equalIn_struct (d:=9999) w 110 _ _ (by kernel_rfl) (by kernel_rfl)];obtain ⟨fs,hfs⟩:∃fs,(Tryz.prog.fieldsOf 110).toList=fs:=⟨_,rfl⟩;have hf:fs.map (fun f=>(f.name != "_",f.type,f.offset)) = [(true,2,0),(true,2,1)]:=by rw[←hfs];kernel_rfl
 rw[hfs]
 match fs,hf with
 | [f0,f1],hf=>
  simp only[List.map_cons,List.map_nil] at hf;injection hf with h0 hf;injection hf with h1 hf;rw[Kgf (a:=.int .i64 x.frm) (b:=.int .i64 y.frm) h0 (by kernel_rfl) (by kernel_rfl) (run_equalIn_int w 9998 2 .i64 .i64 _ _ Tryz.underlying2)];rw[Kgf (a:=.int .i64 x.to_) (b:=.int .i64 y.to_) h1 (by kernel_rfl) (by kernel_rfl) (run_equalIn_int w 9998 2 .i64 .i64 _ _ Tryz.underlying2)];rw[Ksd];have k0:(x.frm == y.frm)=decide (x.frm=y.frm):=by rw[Bool.eq_iff_iff];simp
  have k1:(x.to_ == y.to_)=decide (x.to_=y.to_):=by rw[Bool.eq_iff_iff];simp
  rw[k0,k1];cases x
  cases y
  simp only[Spn.mk.injEq]
  repeat' split
  all_goals simp_all
theorem Qmc (x y:Spn) (w:World):(binOp .neq 110 (.agg #[.int .i64 x.frm,.int .i64 x.to_]) (.agg #[.int .i64 y.frm,.int .i64 y.to_])).run Tryz.prog w = .ok (.bool (!decide (x=y))) w:=by
 rw[run_neq_struct,Qmb];rfl
theorem Elems.getS {α : Type} [Inhabited α] {w:World} {B sz n:Nat} {enc:α→List Value} {A:Option Addr} {xs:List α} (h:Elems w B sz enc A n xs) {i:Nat} (hi:i < n):∃b off,A=some ⟨b,off,none⟩∧b < B∧∀j v,(enc xs[i]!)[j]? = some v→w.cell? ⟨b,off+i*sz+j,none⟩=some v:=by
 obtain ⟨b,off,e,hb,hc⟩:=h.2 (by omega);have hl:i < xs.length:=by have:=h.len;omega
 refine ⟨b,off,e,hb,fun j v hv=>hc i xs[i]! (by rw[getElem!_pos xs i hl];exact List.getElem?_eq_getElem hl) j v hv⟩
theorem Kko {l:List Spn} {B n:Nat} {T:TypeId} {v:Value} {w:World} (h:w.ownsRow B T 2 v n (l.flatMap Kac)) (hl:l.length=n):∃A c,v = .slice A n c∧Elems w w.heap.size 2 Kac A n l:=by
 rcases h.2 with ⟨rfl,h0⟩ | ⟨g,cap,cur,rfl,h1⟩
 ·subst h0;have:l = []:=List.eq_nil_of_length_eq_zero hl;subst this;exact ⟨none,0,rfl,Elems.nil_⟩
 ·refine ⟨some ⟨g,0,none⟩,cap,rfl,hl,fun _=>⟨g,0,rfl,(World.ownsRow.lt h g rfl).2,fun i x hx j u hu=>?_⟩⟩;have hj:j < 2:=by have:=(List.getElem?_eq_some_iff.1 hu).1;rwa[Kcj] at this
  have hi:i < n:=by have:=(List.getElem?_eq_some_iff.1 hx).1;omega
  have:=World.ownsRow.cellAt h (i*2+j) (by omega);rw[Kgh Kcj l i j x hx hj,hu] at this;rw[Nat.zero_add];exact this
theorem Kvx (X l:List Spn) (A1:Option Addr) (n1 c1:Nat) (A2:Option Addr) (n2 c2:Nat) (w:World) (h1:Elems w w.heap.size 2 Kac A1 n1 X) (h2:Elems w w.heap.size 2 Kac A2 n2 l) (hz1:n1≤1099511627776) (hz2:n2≤1099511627776) :
  Calls Tryz.prog 137 #[.slice A1 n1 c1,.slice A2 n2 c2] w fun e w'=>e = .returned (.bool (decide (X=l)))∧Below w.heap.size w w':=by
 have HX:=Jh h1;have HL:=Jh h2;have hl1:=h1.len;have hl2:=h2.len;obtain ⟨R,hR⟩:∃R,decide (X=l)=R:=⟨_,rfl⟩;rw[hR]
 by_cases hn:n1=n2
 ·subst hn;have HL1:=Jh hl1;have HL2:=Jh hl2;have HR:=Jh hR;clear h1 h2 hl1 hl2 hR;have m1:((n1:Int) != (n1:Int))=false:=by simp
  go_enter Tryz.func137,Tryz.ntmps137
  go_wp2_with fail
  go_loopg [13] n1 (fun gg s13 wr=>∃i:Nat,i+gg=n1∧s13 = .int .i64 (i:Int)∧(∀j,j < i→X[j]! = l[j]!)∧Below w.heap.size w wr)
  case atStart=>exact ⟨0,by omega,rfl,(fun j hj=>by omega),Below.refl _ _⟩
  case round=>
   obtain ⟨i,hig,rfl,hall,hb⟩:=hrel;have HIG:=Jh hig;have HA:=Jh hall;have HB:=Jh hb;clear hig hall hb;obtain ⟨wo,rfl⟩:∃x,x=wr:=⟨_,rfl⟩
   by_cases hi:i < n1
   ·have el:decide (i < n1)=true:=by rw[decide_eq_true_eq];exact hi
    have hi2:(i:Int) < (n1:Int):=by omega
    obtain ⟨b1,o1,rfl,hb1,g1⟩:=((HX.out.below HB.out).more HB.out.size).getS hi;obtain ⟨b2,o2,rfl,hb2,g2⟩:=((HL.out.below HB.out).more HB.out.size).getS hi;have p0:wo.cell? ⟨b1,o1+i*2,none⟩=some (.int .i64 X[i]!.frm):=g1 0 _ rfl;have p1:wo.cell? ⟨b1,o1+i*2+1,none⟩=some (.int .i64 X[i]!.to_):=g1 1 _ rfl;have p2:wo.cell? ⟨b2,o2+i*2,none⟩=some (.int .i64 l[i]!.frm):=g2 0 _ rfl;have p3:wo.cell? ⟨b2,o2+i*2+1,none⟩=some (.int .i64 l[i]!.to_):=g2 1 _ rfl;obtain ⟨x,hx⟩:∃x,X[i]! = x:=⟨_,rfl⟩;obtain ⟨y,hy⟩:∃y,l[i]! = y:=⟨_,rfl⟩;rw[hx] at p0 p1;rw[hy] at p2 p3;have HXI:=Jh hx;have HYI:=Jh hy;have hne:=fun W=>Qob x y W
    obtain ⟨r,hr⟩:∃r,decide (x=y)=r:=⟨_,rfl⟩;rw[hr] at hne;obtain ⟨xa,xb⟩:=x;obtain ⟨ya,yb⟩:=y;dsimp only at p0 p1 p2 p3 hne;have HRR:=Jh hr;clear g1 g2 hx hy hr
    cases r with
    | true=>
     have hne2:∀W,(binOp .neq 109 (.agg #[.int .i64 xa,.int .i64 xb]) (.agg #[.int .i64 ya,.int .i64 yb])).run Tryz.prog W = .ok (.bool false) W:=hne;clear hne
     have HN:=Jh (show ∀j,j < i+1→X[j]! = l[j]! from fun j hj=>by
      by_cases hji:j=i
      ·subst hji;rw[HXI.out,HYI.out];exact of_decide_eq_true HRR.out
      ·exact HA.out j (by omega))
     go_upto_region 6 with fail
     refine Kab (by kernel_rfl) (by kernel_rfl) ?_
     repeat (go_big_quiet_step (fail))
     refine wpQuiet_nil ?_;rintro wz ⟨⟨_,hbz⟩,rfl⟩;have HBZ:=Jh (HB.out.trans (hbz.mono HB.out.size));clear hbz;go_wp2_with fail
     go_roundg (gk - 1)
     case measure=>have:=HIG.out;omega
     case rel=>exact ⟨i+1,by have:=HIG.out;omega,by first | rfl | go_num,HN.out,HBZ.out⟩
    | false=>
     have hne2:∀W,(binOp .neq 109 (.agg #[.int .i64 xa,.int .i64 xb]) (.agg #[.int .i64 ya,.int .i64 yb])).run Tryz.prog W = .ok (.bool true) W:=hne;clear hne
     have hre:R=false:=by
      rw[←HR.out,decide_eq_false_iff_not];intro e;have h3:=of_decide_eq_false HRR.out;rw[←HXI.out,←HYI.out,e] at h3;exact h3 rfl
     go_upto_region 6 with fail
     refine Kab (by kernel_rfl) (by kernel_rfl) ?_
     repeat (go_big_quiet_step (fail))
     refine wpQuiet_nil ?_;rintro wz ⟨⟨_,hbz⟩,rfl⟩;have HBZ:=Jh (HB.out.trans (hbz.mono HB.out.size));clear hbz;subst hre;go_wp2_with fail
     go_ret
     exact ⟨rfl,HBZ.out⟩
   ·have el:decide (i < n1)=false:=by rw[decide_eq_false_iff_not];exact hi
    have hre:R=true:=by
     rw[←HR.out,decide_eq_true_eq];refine Kiz (by rw[HL1.out,HL2.out]) fun j hj=>HA.out j (by have:=HIG.out;have:=HL1.out;omega)
    subst hre;go_wp2_with fail
    go_ret
    exact ⟨rfl,HB.out⟩
 ·have hre:R=false:=by
   rw[←hR,decide_eq_false_iff_not];intro e;rw[e] at hl1;omega
  have m0:¬(n1:Int)=(n2:Int):=by omega
  have m1:((n1:Int) != (n2:Int))=true:=by simp[m0]
  have m2:decide ((n1:Int)=(n2:Int))=false:=decide_eq_false m0;clear hR h1 h2 hl1 hl2;subst hre;go_enter Tryz.func137,Tryz.ntmps137
  go_wp2_with fail
  go_ret
  exact ⟨rfl,Below.refl _ _⟩
theorem Ksn (X l:List Spn) (A1:Option Addr) (n1 c1:Nat) (A2:Option Addr) (n2 c2:Nat) (w:World) (h1:Elems w w.heap.size 2 Kac A1 n1 X) (h2:Elems w w.heap.size 2 Kac A2 n2 l) (hz1:n1≤1099511627776) (hz2:n2≤1099511627776) :
  Calls Tryz.prog 96 #[.slice A1 n1 c1,.slice A2 n2 c2] w fun e w'=>e = .returned (.bool (decide (X=l)))∧Below w.heap.size w w':=by
 have HX:=Jh h1;have HL:=Jh h2;have hl1:=h1.len;have hl2:=h2.len;obtain ⟨R,hR⟩:∃R,decide (X=l)=R:=⟨_,rfl⟩;rw[hR]
 by_cases hn:n1=n2
 ·subst hn;have HL1:=Jh hl1;have HL2:=Jh hl2;have HR:=Jh hR;clear h1 h2 hl1 hl2 hR;have m1:((n1:Int) != (n1:Int))=false:=by simp
  go_enter Tryz.func96,Tryz.ntmps96
  go_wp2_with fail
  go_loopg [5] n1 (fun gg s13 wr=>∃i:Nat,i+gg=n1∧s13 = .int .i64 (i:Int)∧(∀j,j < i→X[j]! = l[j]!)∧Below w.heap.size w wr)
  case atStart=>exact ⟨0,by omega,rfl,(fun j hj=>by omega),Below.refl _ _⟩
  case round=>
   obtain ⟨i,hig,rfl,hall,hb⟩:=hrel;have HIG:=Jh hig;have HA:=Jh hall;have HB:=Jh hb;clear hig hall hb;obtain ⟨wo,rfl⟩:∃x,x=wr:=⟨_,rfl⟩
   by_cases hi:i < n1
   ·have el:decide (i < n1)=true:=by rw[decide_eq_true_eq];exact hi
    have hi2:(i:Int) < (n1:Int):=by omega
    obtain ⟨b1,o1,rfl,hb1,g1⟩:=((HX.out.below HB.out).more HB.out.size).getS hi;obtain ⟨b2,o2,rfl,hb2,g2⟩:=((HL.out.below HB.out).more HB.out.size).getS hi;have p0:wo.cell? ⟨b1,o1+i*2,none⟩=some (.int .i64 X[i]!.frm):=g1 0 _ rfl;have p1:wo.cell? ⟨b1,o1+i*2+1,none⟩=some (.int .i64 X[i]!.to_):=g1 1 _ rfl;have p2:wo.cell? ⟨b2,o2+i*2,none⟩=some (.int .i64 l[i]!.frm):=g2 0 _ rfl;have p3:wo.cell? ⟨b2,o2+i*2+1,none⟩=some (.int .i64 l[i]!.to_):=g2 1 _ rfl;obtain ⟨x,hx⟩:∃x,X[i]! = x:=⟨_,rfl⟩;obtain ⟨y,hy⟩:∃y,l[i]! = y:=⟨_,rfl⟩;rw[hx] at p0 p1;rw[hy] at p2 p3;have HXI:=Jh hx;have HYI:=Jh hy;have hne:=fun W=>Qmc x y W
    obtain ⟨r,hr⟩:∃r,decide (x=y)=r:=⟨_,rfl⟩;rw[hr] at hne;obtain ⟨xa,xb⟩:=x;obtain ⟨ya,yb⟩:=y;dsimp only at p0 p1 p2 p3 hne;have HRR:=Jh hr;clear g1 g2 hx hy hr
    cases r with
    | true=>
     have hne2:∀W,(binOp .neq 110 (.agg #[.int .i64 xa,.int .i64 xb]) (.agg #[.int .i64 ya,.int .i64 yb])).run Tryz.prog W = .ok (.bool false) W:=hne;clear hne
     have HN:=Jh (show ∀j,j < i+1→X[j]! = l[j]! from fun j hj=>by
      by_cases hji:j=i
      ·subst hji;rw[HXI.out,HYI.out];exact of_decide_eq_true HRR.out
      ·exact HA.out j (by omega))
     go_upto_region 6 with fail
     refine Kab (by kernel_rfl) (by kernel_rfl) ?_
     repeat (go_big_quiet_step (fail))
     refine wpQuiet_nil ?_;rintro wz ⟨⟨_,hbz⟩,rfl⟩;have HBZ:=Jh (HB.out.trans (hbz.mono HB.out.size));clear hbz;go_wp2_with fail
     go_roundg (gk - 1)
     case measure=>have:=HIG.out;omega
     case rel=>exact ⟨i+1,by have:=HIG.out;omega,by first | rfl | go_num,HN.out,HBZ.out⟩
    | false=>
     have hne2:∀W,(binOp .neq 110 (.agg #[.int .i64 xa,.int .i64 xb]) (.agg #[.int .i64 ya,.int .i64 yb])).run Tryz.prog W = .ok (.bool true) W:=hne;clear hne
     have hre:R=false:=by
      rw[←HR.out,decide_eq_false_iff_not];intro e;have h3:=of_decide_eq_false HRR.out;rw[←HXI.out,←HYI.out,e] at h3;exact h3 rfl
     go_upto_region 6 with fail
     refine Kab (by kernel_rfl) (by kernel_rfl) ?_
     repeat (go_big_quiet_step (fail))
     refine wpQuiet_nil ?_;rintro wz ⟨⟨_,hbz⟩,rfl⟩;have HBZ:=Jh (HB.out.trans (hbz.mono HB.out.size));clear hbz;subst hre;go_wp2_with fail
     go_ret
     exact ⟨rfl,HBZ.out⟩
   ·have el:decide (i < n1)=false:=by rw[decide_eq_false_iff_not];exact hi
    have hre:R=true:=by
     rw[←HR.out,decide_eq_true_eq];refine Kiz (by rw[HL1.out,HL2.out]) fun j hj=>HA.out j (by have:=HIG.out;have:=HL1.out;omega)
    subst hre;go_wp2_with fail
    go_ret
    exact ⟨rfl,HB.out⟩
 ·have hre:R=false:=by
   rw[←hR,decide_eq_false_iff_not];intro e;rw[e] at hl1;omega
  have m0:¬(n1:Int)=(n2:Int):=by omega
  have m1:((n1:Int) != (n2:Int))=true:=by simp[m0]
  have m2:decide ((n1:Int)=(n2:Int))=false:=decide_eq_false m0;clear hR h1 h2 hl1 hl2;subst hre;go_enter Tryz.func96,Tryz.ntmps96
  go_wp2_with fail
  go_ret
  exact ⟨rfl,Below.refl _ _⟩
def SDecO (w:World) (r:Option (List Spn×Nat)) (en:Ending) (w':World):Prop:=match r with
 | some (l,j)=>(∃v:Value,en = .returned (.tuple #[v,.int .i64 ((j:Nat):Int),.int .i64 0])∧w'.ownsRow w.heap.size 109 2 v l.length (l.flatMap Kac))∧Below w.heap.size w w'
 | none=>(∃f:Nat,f≠0∧en = .returned (.tuple #[.slice none 0 0,.int .i64 0,.int .i64 ((f:Nat):Int)]))∧Below w.heap.size w w'
theorem Kfe {s:List UInt8} {i j:Nat} {v:Int} (hi:i≤s.length) (h:riAt s i=some (v,j)):i < j∧j≤s.length:=by
 have h2:ruAt s i=some (zig v,j)∨∃u,ruAt s i=some (u,j):=by
  unfold riAt readI at h;unfold ruAt
  cases hr:readU (s.drop i) with
  | error c=>rw[hr] at h;cases h
  | ok x=>
   rw[hr] at h;dsimp only at h;injection h with h;injection h with h1 h2;exact .inr ⟨x.1,by rw[←h2]⟩
 rcases h2 with h2 | ⟨u,h2⟩
 ·exact Ket hi h2
 ·exact Ket hi h2
def RInt (S:ByteArray) (i:Nat) (w:World) (e:Ending) (w':World):Prop:=w=w'∧match riAt S.data.toList i with
 | some (v,j)=>e = .returned (.tuple #[.int .i64 v,.int .i64 (j:Int),.int .i64 0])
 | none=>∃f:Nat,f≠0∧e = .returned (.tuple #[.int .i64 0,.int .i64 0,.int .i64 (f:Int)])
theorem Kqv (S:ByteArray) (i:Nat) (w:World) (hS:S.size≤140737488351232):Calls Tryz.prog 102 #[.string S,.int .i64 (i:Int)] w (RInt S i w):=by
 rcases Kpg S.data.toList i with ⟨v,j,h1,h2,h3⟩ | ⟨v,j,e,h1,h2,h3⟩
 ·refine (Kfk S (i:Int) v j 0 h1 hS w).mono ?_;rintro e w' ⟨rfl,rfl⟩;refine ⟨rfl,?_⟩;rw[h2];rfl
 ·refine (Kfk S (i:Int) v j e h1 hS w).mono ?_;rintro en w' ⟨rfl,rfl⟩;refine ⟨rfl,?_⟩;rw[h3];exact ⟨e,h2,by rw[if_neg h2,if_neg h2]⟩
theorem Qhj:(Tryz.prog.info? 109).map (fun i=>(i.zero,i.size,i.bytes))=some (some (.agg #[.int .i64 0,.int .i64 0]),2,16):=by kernel_rfl
def Kcu (s:List UInt8) (g:Nat) (L:List Spn) (i:Nat):Option (List Spn×Nat):=match spnsR s g L.getLast? i with
 | none=>none
 | some (l,j)=>some (L++l,j)
theorem Qbl (s:List UInt8) (g i:Nat):Kcu s g [] i=spnsR s g none i:=by
 unfold Kcu;show (match spnsR s g none i with | none=>none | some (l,j)=>some ([]++l,j))=_
 cases spnsR s g none i <;> rfl
theorem Kyy (s:List UInt8) (L:List Spn) (i:Nat):Kcu s 0 L i=some (L,i):=by
 unfold Kcu spnsR;simp
theorem Kvv {s:List UInt8} {g i:Nat} {L:List Spn} (h:riAt s i=none):Kcu s (g+1) L i=none:=by
 unfold Kcu spnsR;rw[h]
theorem Kvw {s:List UInt8} {g i j:Nat} {a:Int} {L:List Spn} (h:riAt s i=some (a,j)) (h2:riAt s j=none):Kcu s (g+1) L i=none:=by
 unfold Kcu spnsR;rw[h];dsimp only;rw[h2]
theorem Kjk {s:List UInt8} {g i j k:Nat} {a b:Int} {L:List Spn} (h:riAt s i=some (a,j)) (h2:riAt s j=some (b,k)) (hb:b < a∨(∃o,L.getLast? = some o∧a≤o.to_+1)):Kcu s (g+1) L i=none:=by
 unfold Kcu spnsR;rw[h];dsimp only;rw[h2];dsimp only;rw[if_pos hb]
theorem Krg {s:List UInt8} {g i j k:Nat} {a b:Int} {L:List Spn} (h:riAt s i=some (a,j)) (h2:riAt s j=some (b,k)) (hb:¬(b < a∨(∃o,L.getLast? = some o∧a≤o.to_+1))):Kcu s (g+1) L i=Kcu s g (L ++ [⟨a,b⟩]) k:=by
 unfold Kcu
 conv=>lhs;unfold spnsR
 rw[h];dsimp only;rw[h2];dsimp only;rw[if_neg hb,List.getLast?_concat]
 cases spnsR s g (some ⟨a,b⟩) k with
 | none=>rfl
 | some x=>dsimp only;rw[List.append_assoc];rfl
theorem Qjh {s:List UInt8} {i n j:Nat} (h:ruAt s i=some (n,j)):Kdj s i=Kcu s n [] j:=by
 unfold Kdj;rw[h,Qbl]
theorem Kem {s:List UInt8} {i j:Nat} {v:Int} (h:riAt s i=some (v,j)):-9223372036854775808≤v∧v≤9223372036854775807:=by
 rcases Kpg s i with ⟨u,k,_,h2,h3⟩ | ⟨_,_,_,_,_,h3⟩
 ·rw[h2] at h;injection h with h;injection h with h _;subst h;exact Qbq h3
 ·rw[h3] at h;cases h
theorem Kvn (S:ByteArray) (at0:Nat) (w:World) (hS:S.size≤1099511627776) (hat0:at0≤S.size) :
  Calls Tryz.prog 104 #[.string S,.int .i64 (at0:Int)] w (SDecO w (Kdj S.data.toList at0)):=by
 have hs:S.size≤140737488351232:=by omega
 obtain ⟨R,hR⟩:∃R,Kdj S.data.toList at0=R:=⟨_,rfl⟩;rw[hR];rcases Kgk S.data.toList at0 with ⟨n,i0,h1,h2,h3⟩ | ⟨v,j,e,h1,h2,h3⟩
 rotate_left
 ·have hre:R=none:=by rw[←hR];unfold Kdj;rw[h3]
  subst hre;have HC:=Jh (Kao S (at0:Int) v j e h1 hs w);have hne:((e:Int) != 0)=true:=by simp;omega
  clear hR h3;go_enter Tryz.func104,Tryz.ntmps104
  go_wp2_with fail
  refine HC.out.mono ?_;rintro _ w1 ⟨rfl,rfl⟩;go_wp2_with fail
  go_ret3
  exact ⟨⟨e,h2,rfl⟩,Below.refl _ _⟩
 rw[Qjh h2] at hR;have HR:=Jh hR;have HC:=Jh (Kao S (at0:Int) n i0 0 h1 hs w);have hi0:=(Ket hat0 h2).2;have hsl:S.data.toList.length=S.size:=rfl;rw[hsl] at hi0;obtain ⟨B,hB⟩:∃B,w.heap.size=B:=⟨_,rfl⟩;have HB:=Jh hB;have HSL:=Jh hsl;obtain ⟨i1,hi1,hy0,hy1,hy2⟩:=info_parts Qhj;clear hR h1 h2 hsl;go_enter Tryz.func104,Tryz.ntmps104
 go_wp2_with fail
 refine HC.out.mono ?_;rintro _ w1 ⟨rfl,rfl⟩;clear hB;go_wp2_with fail
 go_loopg [1,7,9] n (fun g s1 s7 s9 wr=>∃(at_:Nat) (L:List Spn),s1 = .int .i64 (at_:Int)∧s7 = .int .u64 (g:Int)∧g < 2 ^ 64∧at_≤S.size∧L.length≤at_∧(∀x∈L,SpnIn x)∧wr.ownsRow B 109 2 s9 L.length (L.flatMap Kac)∧Below B w wr∧R=Kcu S.data.toList g L at_)
 case atStart=>exact ⟨i0,[],rfl,rfl,h3,hi0,by simp,by simp,World.ownsRow_nil _ _ _ _,by rw[←HB.out];exact Below.refl _ _,HR.out.symm⟩
 case round=>
  obtain ⟨at_,L,rfl,rfl,hg,hat,hll,hin,hown,hbr,hRR⟩:=hrel;have HRR:=Jh hRR;have HO:=Jh hown;have HBR:=Jh hbr;have HIN:=Jh hin;have hBr:B≤wr.heap.size:=by have:=hbr.size;have:=HB.out;omega
  clear hRR hown hbr hin;obtain ⟨wo,rfl⟩:∃x,x=wr:=⟨_,rfl⟩
  cases gk with
  | zero=>
   have hre:R=some (L,at_):=by rw[HRR.out,Kyy]
   go_wp2_with fail
   go_ret3
   rw[hre];exact ⟨⟨_,rfl,by rw[HB.out];exact HO.out⟩,by rw[HB.out];exact HBR.out⟩
  | succ g=>
   have el:decide (0 < g+1)=true:=by rw[decide_eq_true_eq];omega
   go_upto_region 8 with fail
   obtain ⟨p,hp⟩:∃x,wo.heap.size=x:=⟨_,rfl⟩;obtain ⟨w2,hw2⟩:∃x,wo.alloc (.cells #[.int .i64 0,.int .i64 0] 109)=x:=⟨_,rfl⟩;have hb2:Below wo.heap.size wo w2:=by rw[←hw2];exact (Below.refl _ _).alloc (Nat.le_refl _) _
   have hk2:Blk w2 wo.heap.size 109 #[.int .i64 0,.int .i64 0]:=by rw[←hw2];exact Blk.new _ _ _
   rw[hp] at hb2 hk2;rw[hw2,hp];have HP:=Jh hp;have HB2:=Jh hb2;have HK2:=Jh hk2;clear hw2 hp hb2 hk2;go_upto_block 2 with fail
   go_cut [1] (fun s1 wz=>∃(j k:Nat) (a b:Int),s1 = .int .i64 (k:Int)∧riAt S.data.toList at_=some (a,j)∧riAt S.data.toList j=some (b,k)∧Blk wz p 109 #[.int .i64 a,.int .i64 b]∧Below p wo wz)
   case first=>
    go_wp2_with fail
    go_loopg [1,31] 2 (fun g s1 s31 wz=>∃(m k:Nat) (a b:Int),m+g=2∧s31 = .int .i64 (m:Int)∧s1 = .int .i64 (k:Int)∧(m=0→k=at_)∧(m=1→riAt S.data.toList at_=some (a,k))∧(m=2→∃j,riAt S.data.toList at_=some (a,j)∧riAt S.data.toList j=some (b,k))∧k≤S.size∧Blk wz p 109 #[.int .i64 a,.int .i64 b]∧Below p wo wz)
    case atStart=>exact ⟨0,at_,0,0,by omega,rfl,rfl,fun _=>rfl,fun h=>by omega,fun h=>by omega,hat,HK2.out,HB2.out⟩
    case round=>
     obtain ⟨m,k,a,b,hmg,rfl,rfl,q0,q1,q2,hk,hkk,hbk⟩:=hrel;have HMG:=Jh hmg;have HQ0:=Jh q0;have HQ1:=Jh q1;have HQ2:=Jh q2;have HKK:=Jh hkk;have HBK:=Jh hbk;clear hmg q0 q1 q2 hkk hbk;obtain ⟨wk,rfl⟩:∃x,x=wr:=⟨_,rfl⟩;have hpw:p < wk.heap.size:=HKK.out.lt;have hplw:p≤wo.heap.size:=by have:=HP.out;omega
     have HBW:Hid (Below B w wk):=Jh (HBR.out.trans (HBK.out.mono (by have:=HP.out;omega)))
     by_cases hm:m < 2
     ·rcases (by omega:m=0∨m=1) with hm0 | hm1
      ·have hmm:m=0:=hm0;subst hmm;have el2:decide (((0:Nat):Int) < 2)=true:=by decide
       have ipt:∀W:World,(Instr.index 253 (.agg #[.pointer (some ⟨p,0,none⟩),.pointer (some ⟨p,1,none⟩)]) (.int .i64 0)).run Tryz.prog W = .ok (.pointer (some ⟨p,0,none⟩)) W:=fun W=>by kernel_rfl
       have HC2:=Jh (Kqv S k wk hs);obtain ⟨r,hr⟩:∃r,riAt S.data.toList k=r:=⟨_,rfl⟩;have f0:wk.frozen? ⟨p,0,none⟩=false:=HKK.out.frozen 0;have g0:wk.cell? ⟨p,0,none⟩=some (.int .i64 a):=HKK.out.cell 0;have HRK:=Jh hr;clear hr;go_wp2_with fail
       refine HC2.out.mono ?_;rintro _ w3 ⟨rfl,hm3⟩;rw[HRK.out] at hm3
       cases r with
       | none=>
        obtain ⟨f,hf,rfl⟩:=hm3;have hre:R=none:=by rw[HRR.out];exact Kvv ((show k=at_ by simpa using HQ0.out)▸HRK.out)
        have hne:((f:Int) != 0)=true:=by simp;omega
        go_wp2_with fail
        go_ret3
        rw[hre];exact ⟨⟨f,hf,rfl⟩,by rw[HB.out];exact HBW.out.setCell (p:=⟨p,0,none⟩) (by show B≤p;have:=HP.out;omega) _⟩
       | some x=>
        obtain ⟨v,k2⟩:=x;dsimp only at hm3;subst hm3;have hk2:=Kfe (by rw[HSL.out];exact hk) HRK.out;rw[HSL.out] at hk2;have HK3:=Jh (HKK.out.set_ 0 (.int .i64 v));have HB3:=Jh (HBK.out.setCell (p:=⟨p,0,none⟩) (Nat.le_refl _) (.int .i64 v));go_wp2_with fail
        go_roundg (gk - 1)
        case measure=>have:=HMG.out;omega
        case rel=>exact ⟨0+1,k2,v,b,by have:=HMG.out;omega,by first | rfl | go_num,rfl,fun h=>by omega,fun _=>(show k=at_ by simpa using HQ0.out)▸HRK.out,fun h=>by omega,hk2.2,HK3.out,HB3.out⟩
      ·have hmm:m=1:=hm1;subst hmm;have el2:decide (((1:Nat):Int) < 2)=true:=by decide
       have ipt:∀W:World,(Instr.index 253 (.agg #[.pointer (some ⟨p,0,none⟩),.pointer (some ⟨p,1,none⟩)]) (.int .i64 1)).run Tryz.prog W = .ok (.pointer (some ⟨p,1,none⟩)) W:=fun W=>by kernel_rfl
       have HC2:=Jh (Kqv S k wk hs);obtain ⟨r,hr⟩:∃r,riAt S.data.toList k=r:=⟨_,rfl⟩;have f1:wk.frozen? ⟨p,1,none⟩=false:=HKK.out.frozen 1;have g1:wk.cell? ⟨p,1,none⟩=some (.int .i64 b):=HKK.out.cell 1;have HRK:=Jh hr;clear hr;go_wp2_with fail
       refine HC2.out.mono ?_;rintro _ w3 ⟨rfl,hm3⟩;rw[HRK.out] at hm3
       cases r with
       | none=>
        obtain ⟨f,hf,rfl⟩:=hm3;have hre:R=none:=by rw[HRR.out];exact Kvw (by simpa using HQ1.out) HRK.out
        have hne:((f:Int) != 0)=true:=by simp;omega
        go_wp2_with fail
        go_ret3
        rw[hre];exact ⟨⟨f,hf,rfl⟩,by rw[HB.out];exact HBW.out.setCell (p:=⟨p,1,none⟩) (by show B≤p;have:=HP.out;omega) _⟩
       | some x=>
        obtain ⟨v,k2⟩:=x;dsimp only at hm3;subst hm3;have hk2:=Kfe (by rw[HSL.out];exact hk) HRK.out;rw[HSL.out] at hk2;have HK3:=Jh (HKK.out.set_ 1 (.int .i64 v));have HB3:=Jh (HBK.out.setCell (p:=⟨p,1,none⟩) (Nat.le_refl _) (.int .i64 v));go_wp2_with fail
        go_roundg (gk - 1)
        case measure=>have:=HMG.out;omega
        case rel=>exact ⟨1+1,k2,a,v,by have:=HMG.out;omega,by first | rfl | go_num,rfl,fun h=>by omega,fun h=>by omega,fun _=>⟨k,(by simpa using HQ1.out),HRK.out⟩,hk2.2,HK3.out,HB3.out⟩
     ·have hm2:m=2:=by have:=HMG.out;omega
      have el2:decide ((m:Int) < 2)=false:=by rw[decide_eq_false_iff_not];omega
      have hq2:=HQ2.out hm2;subst hm2;have HX:=Jh hq2;clear hq2;go_wp2_with fail
      go_meet
      obtain ⟨j,e1,e2⟩:=HX.out;exact ⟨j,k,a,b,rfl,e1,e2,HKK.out,HBK.out⟩
   case rest=>
    obtain ⟨j,k,a,b,rfl,e1,e2,hkz,hbz⟩:=hcut;obtain ⟨wz,rfl⟩:∃x,x=wc:=⟨_,rfl⟩
    have hkS:k≤S.size∧at_+1≤k:=by
     have h1:=Kfe (by rw[HSL.out];exact hat) e1;have h2:=Kfe h1.2 e2;rw[HSL.out] at h2;omega
    have ra:=Kem e1;have rb:=Kem e2;have HE1:=Jh e1;have HE2:=Jh e2;have HKZ:=Jh hkz;have HBZ:=Jh hbz;have hpz:p < wz.heap.size:=hkz.lt;have hpp:=HP.out;have HBWZ:Hid (Below B w wz):=Jh (HBR.out.trans (hbz.mono (by omega)));have hOz:wz.ownsRow B 109 2 u9 L.length (L.flatMap Kac):=Kfc HO.out (by rw[hpp];exact hbz);have HOZ:=Jh hOz;obtain ⟨A9,c9,hv9,hE9⟩:=Kko hOz rfl;have d0:wz.cell? ⟨p,0,none⟩=some (.int .i64 a):=HKZ.out.cell 0;have d1:wz.cell? ⟨p,1,none⟩=some (.int .i64 b):=HKZ.out.cell 1;have HLL:=Jh hll;obtain ⟨ln,hln⟩:∃n,L.length=n:=⟨_,rfl⟩;have HLN:=Jh hln;clear e1 e2 hkz hbz hOz;rw[hln] at HOZ HO hll hE9 hv9;subst hv9;have hin9:SpnIn ⟨a,b⟩:=⟨ra.1,ra.2,rb.1,rb.2⟩
    by_cases hba:b < a
    ·have el3:decide (b < a)=true:=decide_eq_true hba;have hre:R=none:=by rw[HRR.out];exact Kjk HE1.out HE2.out (.inl hba)
     clear hin9 hE9 hln;go_upto_region 16 with fail
     refine Kab (by kernel_rfl) (by kernel_rfl) ?_
     repeat (go_big_quiet_step (fail))
     refine wpQuiet_nil ?_;rintro wq ⟨⟨_,hbq⟩,rfl⟩;have HBQ:=Jh (HBWZ.out.trans (hbq.mono (by have:=HBWZ.out.size;have:=HB.out;omega)));clear hbq;go_wp2_with fail
     go_ret3
     try rw[hre]
     exact ⟨⟨21,by decide,rfl⟩,by rw[HB.out];exact HBQ.out⟩
    have el3:decide (b < a)=false:=decide_eq_false hba;rcases L.eq_nil_or_concat with hL | ⟨L0,o,hL⟩
    ·have hnb:¬(b < a∨(∃o,L.getLast? = some o∧a≤o.to_+1)):=by
      rintro (h | ⟨o,ho,_⟩)
      ·exact hba h
      ·rw[hL] at ho;cases ho
     have hnx:R=Kcu S.data.toList g (L ++ [⟨a,b⟩]) k:=by rw[HRR.out];exact Krg HE1.out HE2.out hnb
     have hl0:ln=0:=by rw[←hln,hL];rfl
     have HNX:=Jh hnx;clear hE9 hln hL hnb hnx;subst hl0;go_upto_region 16 with fail
     refine Kab (by kernel_rfl) (by kernel_rfl) ?_
     repeat (go_big_quiet_step (fail))
     refine wpQuiet_nil ?_;rintro wq ⟨⟨_,hbq⟩,rfl⟩;have HBQ:=Jh (HBWZ.out.trans (hbq.mono (by have:=HBWZ.out.size;have:=HB.out;omega)));have hOq:=Kfc HOZ.out hbq;have hkq:=HKZ.out.below hbq HKZ.out.lt;have c0:wq.cell? ⟨p,0,none⟩=some (.int .i64 a):=hkq.cell 0;have c1:wq.cell? ⟨p,1,none⟩=some (.int .i64 b):=hkq.cell 1;have hBq:B≤wq.heap.size:=by have:=HBQ.out.size;have:=HB.out;omega
     clear hbq hkq d0 d1;go_wp2_with (at_builtin;refine wpList_append_own_at _ rfl _ _ 81 rfl B 109 i1 (.agg #[.int .i64 0,.int .i64 0]) 2 16 Tryz.underlying81 hi1 hy0 hy1 hy2 rfl (by decide) _ _ _ rfl (World.ownsRow.alloc hOq _) ⟨wq.heap.size,0,none⟩ 1 1 [.int .i64 a,.int .i64 b] rfl rfl (Kav (l:=[.int .i64 a,.int .i64 b]) (Blk.new wq _ _)) (fun u hu=>by simp at hu;rcases hu with rfl | rfl <;> rfl) (by unfold maxLen;omega) (by omega) (by simp;omega) ?_)
     intro v' w6 hown' hgrow hx1 hat';have hb6:Below B w w6:=HBQ.out.trans ⟨hgrow.os,hgrow.tape,hgrow.output,by have:=hgrow.size;simp at this;omega,fun k hk=>(hgrow.block k (by simp;omega) (fun e=>Qco hOq hk e.symm)).trans (Below.heap_alloc _ _ _ (by omega))⟩;have hfl:(L ++ [(⟨a,b⟩:Spn)]).flatMap Kac=L.flatMap Kac ++ [.int .i64 a,.int .i64 b]:=by rw[List.flatMap_append];rfl
     have how:w6.ownsRow B 109 2 v' (L ++ [(⟨a,b⟩:Spn)]).length ((L ++ [(⟨a,b⟩:Spn)]).flatMap Kac):=by rw[hfl,List.length_append,HLN.out];exact hown'
     have HB6:=Jh hb6;have HO6:=Jh how;clear hown' hgrow hx1 hat' hb6 hfl how hOq;go_wp2_with fail
     go_roundg g
     case measure=>omega
     case rel=>exact ⟨k,L ++ [⟨a,b⟩],rfl,by first | rfl | go_num,by omega,hkS.1,by rw[List.length_append,HLN.out,List.length_singleton];omega,(fun x hx=>by rcases List.mem_append.1 hx with h | h;exact HIN.out x h;rw[List.mem_singleton.1 h];exact hin9),HO6.out,HB6.out,HNX.out⟩
    ·rw[List.concat_eq_append] at hL;obtain ⟨kk,hkk⟩:∃kk,ln=kk+1:=⟨L0.length,by rw[←hln,hL];simp⟩;subst hkk;have hlast:L.getLast? = some o:=by rw[hL];simp
     have hLk:L[kk]! = o:=by
      have h0:L0.length=kk:=by rw[hL] at hln;simp at hln;omega
      rw[hL,getElem!_pos (L0 ++ [o]) kk (by simp;omega),List.getElem_append_right (by omega)];simp[h0]
     have hino:SpnIn o:=HIN.out o (by rw[hL];simp);obtain ⟨b1,o1,hA9,hb1,g1⟩:=hE9.getS (i:=kk) (by omega);subst hA9;rw[hLk] at g1;have t1:wz.cell? ⟨b1,o1+kk*2+1,none⟩=some (.int .i64 o.to_):=g1 1 _ rfl;have hsub:wrap64 (((kk+1:Nat):Int) - 1)=(kk:Int):=by unfold wrap64;omega
     have hsub2:((kk+1:Nat):Int) - 1=(kk:Int):=by omega
     have eg:decide ((0:Int)≤(kk:Int))=true:=by rw[decide_eq_true_eq];omega
     obtain ⟨ot,hot⟩:∃x,o.to_=x:=⟨_,rfl⟩;have hio:-9223372036854775808≤ot∧ot≤9223372036854775807:=by rw[←hot];exact ⟨hino.2.2.1,hino.2.2.2⟩
     rw[hot] at t1;clear g1 hE9 hLk hino
     by_cases hao:a≤ot
     ·have el4:decide (a≤ot)=true:=decide_eq_true hao;have hre:R=none:=by rw[HRR.out];exact Kjk HE1.out HE2.out (.inr ⟨o,hlast,by omega⟩)
      clear hin9 hln hL hlast hot;go_upto_region 16 with fail
      refine Kab (by kernel_rfl) (by kernel_rfl) ?_
      repeat (go_big_quiet_step (fail))
      refine wpQuiet_nil ?_;rintro wq ⟨⟨_,hbq⟩,rfl⟩;have HBQ:=Jh (HBWZ.out.trans (hbq.mono (by have:=HBWZ.out.size;have:=HB.out;omega)));clear hbq;go_wp2_with fail
      go_ret3
      try rw[hre]
      exact ⟨⟨21,by decide,rfl⟩,by rw[HB.out];exact HBQ.out⟩
     have el4:decide (a≤ot)=false:=decide_eq_false hao;have hsa:wrap64 (a - 1)=a - 1:=by unfold wrap64;omega
     have hsa2:IntKind.i64.wrap (a - 1)=a - 1:=by rw[IntKind.wrap_i64];omega
     by_cases hao2:a - 1≤ot
     ·have el5:decide (a - 1≤ot)=true:=decide_eq_true hao2;have hre:R=none:=by rw[HRR.out];exact Kjk HE1.out HE2.out (.inr ⟨o,hlast,by omega⟩)
      clear hin9 hln hL hlast hot;go_upto_region 16 with fail
      refine Kab (by kernel_rfl) (by kernel_rfl) ?_
      repeat (go_big_quiet_step (fail))
      refine wpQuiet_nil ?_;rintro wq ⟨⟨_,hbq⟩,rfl⟩;have HBQ:=Jh (HBWZ.out.trans (hbq.mono (by have:=HBWZ.out.size;have:=HB.out;omega)));clear hbq;go_wp2_with fail
      go_ret3
      try rw[hre]
      exact ⟨⟨21,by decide,rfl⟩,by rw[HB.out];exact HBQ.out⟩
     have el5:decide (a - 1≤ot)=false:=decide_eq_false hao2
     have hnb:¬(b < a∨(∃o,L.getLast? = some o∧a≤o.to_+1)):=by
      rintro (h | ⟨o',ho,h2⟩)
      ·exact hba h
      ·rw[hlast] at ho;injection ho with ho;subst ho;omega
     have hnx:R=Kcu S.data.toList g (L ++ [⟨a,b⟩]) k:=by rw[HRR.out];exact Krg HE1.out HE2.out hnb
     have HNX:=Jh hnx;clear hln hL hnb hnx hlast hot;go_upto_region 16 with fail
     refine Kab (by kernel_rfl) (by kernel_rfl) ?_
     repeat (go_big_quiet_step (fail))
     refine wpQuiet_nil ?_;rintro wq ⟨⟨_,hbq⟩,rfl⟩;have HBQ:=Jh (HBWZ.out.trans (hbq.mono (by have:=HBWZ.out.size;have:=HB.out;omega)));have hOq:=Kfc HOZ.out hbq;have hkq:=HKZ.out.below hbq HKZ.out.lt;have c0:wq.cell? ⟨p,0,none⟩=some (.int .i64 a):=hkq.cell 0;have c1:wq.cell? ⟨p,1,none⟩=some (.int .i64 b):=hkq.cell 1;have hBq:B≤wq.heap.size:=by have:=HBQ.out.size;have:=HB.out;omega
     clear hbq hkq d0 d1;go_wp2_with (at_builtin;refine wpList_append_own_at _ rfl _ _ 81 rfl B 109 i1 (.agg #[.int .i64 0,.int .i64 0]) 2 16 Tryz.underlying81 hi1 hy0 hy1 hy2 rfl (by decide) _ _ _ rfl (World.ownsRow.alloc hOq _) ⟨wq.heap.size,0,none⟩ 1 1 [.int .i64 a,.int .i64 b] rfl rfl (Kav (l:=[.int .i64 a,.int .i64 b]) (Blk.new wq _ _)) (fun u hu=>by simp at hu;rcases hu with rfl | rfl <;> rfl) (by unfold maxLen;omega) (by omega) (by simp;omega) ?_)
     intro v' w6 hown' hgrow hx1 hat';have hb6:Below B w w6:=HBQ.out.trans ⟨hgrow.os,hgrow.tape,hgrow.output,by have:=hgrow.size;simp at this;omega,fun k hk=>(hgrow.block k (by simp;omega) (fun e=>Qco hOq hk e.symm)).trans (Below.heap_alloc _ _ _ (by omega))⟩;have hfl:(L ++ [(⟨a,b⟩:Spn)]).flatMap Kac=L.flatMap Kac ++ [.int .i64 a,.int .i64 b]:=by rw[List.flatMap_append];rfl
     have how:w6.ownsRow B 109 2 v' (L ++ [(⟨a,b⟩:Spn)]).length ((L ++ [(⟨a,b⟩:Spn)]).flatMap Kac):=by rw[hfl,List.length_append,HLN.out];exact hown'
     have HB6:=Jh hb6;have HO6:=Jh how;clear hown' hgrow hx1 hat' hb6 hfl how hOq;go_wp2_with fail
     go_roundg g
     case measure=>omega
     case rel=>exact ⟨k,L ++ [⟨a,b⟩],rfl,by first | rfl | go_num,by omega,hkS.1,by rw[List.length_append,HLN.out,List.length_singleton];omega,(fun x hx=>by rcases List.mem_append.1 hx with h | h;exact HIN.out x h;rw[List.mem_singleton.1 h];exact hin9),HO6.out,HB6.out,HNX.out⟩
end
section
open Go.RowKit
open List renaming length_append → Jd
structure KSer where
 labels:List Lb
 max:Int
 g0:List Spn
 g1:List Spn
 g2:List Spn
 samples:List Smp
instance:Inhabited KSer:=⟨⟨[],0,[],[],[],[]⟩⟩
instance canonDec (l:List Spn):Decidable (Kbf l):=by unfold Kbf;infer_instance
def Qcv (m:Int) (l:List Smp):Bool:=l.all (fun x=>decide (0≤x.t∧x.t≤m)) && decide (l.Pairwise fun a b=>a.t < b.t)
def Kdh (s:KSer):Bool:=Kdv s.labels && decide (-1≤s.max∧s.max≤1125899906842624) && decide (Kbf s.g0∧Kbf s.g1∧Kbf s.g2) && Qcv s.max s.samples
def setsK (L:List KSer):List (List Lb):=L.map KSer.labels
def fitK (L:List KSer):Bool:=L.all Kdh && decide (setsK L).Nodup
def smpsT (l:List Smp):List UInt8:=uintT l.length++(Kbi l.length l).flatMap fun p=>textT (Kbg p)
def kserT (t:List Txt) (s:KSer):List UInt8:=pk t s.labels++(intT s.max++(Kbo s.g0++(Kbo s.g1++(Kbo s.g2++smpsT s.samples))))
def bodyK (L:List KSer):List UInt8:=tabT (tabOf (setsK L))++(uintT L.length++L.flatMap (kserT (tabOf (setsK L))))
def encK (L:List KSer):List UInt8:=sealT (bodyK L)
def smpsR (I:List UInt8) (n:Nat):Nat→List Smp→Nat→Option (List Smp×Nat)
 | 0,_,_=>none
 | g+1,out,i=>if out.length < n then (if (Kbk I i).2.2=0 then (match decC (Kbk I i).1 with
   | none=>none
   | some l=>if l = [] then none else smpsR I n g (out++l) (Kbk I i).2.1) else none) else some (out,i)
def kserR (t:List Txt) (I:List UInt8) (i:Nat):Option (KSer×Nat):=match unpR t I i with
 | (l,j,e)=>if e≠0 then none else match riAt I j with
  | none=>none
  | some (m,j1)=>match Kdj I j1 with
   | none=>none
   | some (a,j2)=>match Kdj I j2 with
    | none=>none
    | some (b,j3)=>match Kdj I j3 with
     | none=>none
     | some (c,j4)=>match ruAt I j4 with
      | none=>none
      | some (n,j5)=>match smpsR I n (n+1) [] j5 with
       | none=>none
       | some (x,j6)=>some (⟨l,m,a,b,c,x⟩,j6)
def Ked (t:List Txt) (I:List UInt8):Nat→List KSer→Nat→Option (List KSer)
 | 0,out,_=>some out
 | n+1,out,i=>match kserR t I i with
  | none=>none
  | some (s,j)=>Ked t I n (out ++ [s]) j
def Kfu (I:List UInt8):Option (List KSer):=match tabR I 0 with
 | none=>none
 | some (t,i)=>match ruAt I i with
  | none=>none
  | some (n,j)=>Ked t I n [] j
def decK (s:List UInt8):Except Nat (List KSer):=match Kco s with
 | .error e=>.error e
 | .ok I=>match Kfu I with
  | none=>.error 150
  | some L=>if fitK L=true∧encK L=s then .ok L else .error 150
theorem Kpv {s:List UInt8} {e:Nat} (h:decK s = .error e):e=20∨e=22∨e=150:=by
 unfold decK at h
 cases hu:Kco s with
 | error e'=>
  rw[hu] at h;injection h with h;subst h;unfold Kco at hu
  split at hu
  ·injection hu with hu;exact .inl hu.symm
  ·split at hu
   ·cases hu
   ·injection hu with hu;exact .inr (.inl hu.symm)
 | ok I=>
  rw[hu] at h;dsimp only at h
  cases hp:Kfu I with
  | none=>rw[hp] at h;injection h with h;exact .inr (.inr h.symm)
  | some L=>
   rw[hp] at h;dsimp only at h
   split at h
   ·cases h
   ·injection h with h;exact .inr (.inr h.symm)
structure KBits (L:List KSer):Prop where
 v:∀s∈L,∀x∈s.samples,x.v < 2 ^ 64
 s:∀s∈L,(∀x∈s.g0,SpnIn x)∧(∀x∈s.g1,SpnIn x)∧(∀x∈s.g2,SpnIn x)
 n:∀s∈L,s.samples.length < 2 ^ 64∧s.g0.length < 2 ^ 64∧s.g1.length < 2 ^ 64∧s.g2.length < 2 ^ 64
 l:L.length < 2 ^ 64
 t:∀x∈tabOf (setsK L),x.length < 2 ^ 64
 tn:(tabOf (setsK L)).length < 2 ^ 64
 c:∀s∈L,∀p∈Kbi s.samples.length s.samples,(Kbg p).length < 2 ^ 64
theorem Kft {s:KSer}:Kdh s=true↔Kdv s.labels=true∧(-1≤s.max∧s.max≤1125899906842624)∧(Kbf s.g0∧Kbf s.g1∧Kbf s.g2)∧(∀x∈s.samples,0≤x.t∧x.t≤s.max)∧s.samples.Pairwise fun a b=>a.t < b.t:=by
 unfold Kdh Qcv;simp only[Bool.and_eq_true,decide_eq_true_eq,List.all_eq_true,and_assoc]
theorem Kox {L:List KSer}:fitK L=true↔(∀s∈L,Kdh s=true)∧(setsK L).Nodup:=by
 unfold fitK;simp only[Bool.and_eq_true,decide_eq_true_eq,List.all_eq_true]
theorem Kre {I r:List UInt8}:∀(P:List (List Smp)) (out:List Smp) (n g:Nat) {i:Nat},(∀p∈P,Kgc p∧p≠[]∧(Kbg p).length < 2 ^ 64)→out.length+P.flatten.length=n→P.length < g→I.drop i=(P.flatMap fun p=>textT (Kbg p))++r→
  smpsR I n g out i=some (out++P.flatten,i+(P.flatMap fun p=>textT (Kbg p)).length)∧I.drop (i+(P.flatMap fun p=>textT (Kbg p)).length)=r
 | [],out,n,g,i,_,hn,hg,h=>by
  obtain ⟨g,rfl⟩:∃k,g=k+1:=⟨g - 1,by omega⟩;simp only[List.flatten_nil,List.length_nil,Nat.add_zero] at hn;refine ⟨?_,by simpa using h⟩;rw[smpsR,if_neg (by omega)];simp
 | p :: P,out,n,g,i,hp,hn,hg,h=>by
  obtain ⟨g,rfl⟩:∃k,g=k+1:=⟨g - 1,by simp at hg;omega⟩;obtain ⟨h1,h2,h3⟩:=hp p (by simp);have hl:0 < p.length:=List.length_pos_iff.2 h2;rw[List.flatMap_cons,List.append_assoc] at h;obtain ⟨e1,e2⟩:=Kmh h3 h;rw[List.flatten_cons,Jd] at hn;obtain ⟨e3,e4⟩:=Kre P (out++p) n g (fun q hq=>hp q (by simp[hq])) (by rw[Jd];omega) (by simp at hg;omega) e2;rw[smpsR,if_pos (by omega),e1];dsimp only;rw[if_pos rfl,Qnf h1];dsimp only;rw[if_neg h2];rw[e3];refine ⟨?_,?_⟩
  ·rw[List.append_assoc,List.flatten_cons,List.flatMap_cons,Jd,Nat.add_assoc]
  ·rw[List.flatMap_cons,Jd,←Nat.add_assoc];exact e4
theorem Qjf {I r:List UInt8} {l:List Smp} {i:Nat} (hp:∀p∈Kbi l.length l,Kgc p∧(Kbg p).length < 2 ^ 64) (hn:l.length < 2 ^ 64) (h:I.drop i=smpsT l++r) :
  ∃j,ruAt I i=some (l.length,j)∧smpsR I l.length (l.length+1) [] j=some (l,i+(smpsT l).length)∧I.drop (i+(smpsT l).length)=r:=by
 unfold smpsT at h ⊢;rw[List.append_assoc] at h;obtain ⟨e1,e2⟩:=ru_of hn h;have hfl:=Kmg l.length l (Nat.le_refl _);obtain ⟨e3,e4⟩:=Kre (Kbi l.length l) [] l.length (l.length+1) (fun p hq=>⟨(hp p hq).1,(Kjh l.length l p hq).1,(hp p hq).2⟩) (by rw[hfl];simp) (by have:=Klk l.length l;omega) e2;rw[hfl,List.nil_append] at e3;refine ⟨_,e1,?_,?_⟩
 ·rw[e3,Jd,Nat.add_assoc]
 ·rw[Jd,←Nat.add_assoc];exact e4
structure KOk (t:List Txt) (s:KSer):Prop where
 e:Kdg s.labels=0
 m:∀x∈texts s.labels,x∈t
 x:-9223372036854775808≤s.max∧s.max≤9223372036854775807
 c:Kbf s.g0∧Kbf s.g1∧Kbf s.g2
 i:(∀x∈s.g0,SpnIn x)∧(∀x∈s.g1,SpnIn x)∧(∀x∈s.g2,SpnIn x)
 n:s.samples.length < 2 ^ 64∧s.g0.length < 2 ^ 64∧s.g1.length < 2 ^ 64∧s.g2.length < 2 ^ 64
 p:∀p∈Kbi s.samples.length s.samples,Kgc p∧(Kbg p).length < 2 ^ 64
theorem Qem {t:List Txt} (ha:Asc t) (ht:t.length < 2 ^ 64) {s:KSer} (hs:KOk t s) {I r:List UInt8} {i:Nat} (hi:i≤I.length) (h:I.drop i=kserT t s++r) :
  kserR t I i=some (s,i+(kserT t s).length)∧I.drop (i+(kserT t s).length)=r:=by
 unfold kserT at h ⊢;simp only[List.append_assoc] at h;obtain ⟨a1,k1⟩:=Qjr ha ht hs.e hs.m hi h;obtain ⟨a2,k2⟩:=ri_of hs.x.1 hs.x.2 k1;obtain ⟨a3,k3⟩:=Kkx hs.c.1 hs.i.1 hs.n.2.1 k2;obtain ⟨a4,k4⟩:=Kkx hs.c.2.1 hs.i.2.1 hs.n.2.2.1 k3;obtain ⟨a5,k5⟩:=Kkx hs.c.2.2 hs.i.2.2 hs.n.2.2.2 k4;obtain ⟨j,a6,a7,k6⟩:=Qjf hs.p hs.n.1 k5
 have hlen:i+(pk t s.labels++(intT s.max++(Kbo s.g0++(Kbo s.g1++(Kbo s.g2++smpsT s.samples))))).length=i+(pk t s.labels).length+(intT s.max).length+(Kbo s.g0).length+(Kbo s.g1).length+(Kbo s.g2).length+(smpsT s.samples).length:=by
  simp only[Jd];omega
 rw[hlen];refine ⟨?_,k6⟩;unfold kserR;rw[a1];dsimp only;rw[if_neg (by simp),a2];dsimp only;rw[a3];dsimp only;rw[a4];dsimp only;rw[a5];dsimp only;rw[a6];dsimp only;rw[a7]
theorem Knn {t:List Txt} (ha:Asc t) (ht:t.length < 2 ^ 64) {I r:List UInt8}:∀(L out:List KSer) {i:Nat},(∀s∈L,KOk t s)→i≤I.length→I.drop i=L.flatMap (kserT t)++r→Ked t I L.length out i=some (out++L)
 | [],out,i,_,_,_=>by simp[Ked]
 | s :: L,out,i,hs,hi,h=>by
  rw[List.flatMap_cons,List.append_assoc] at h;obtain ⟨e1,e2⟩:=Qem ha ht (hs s (by simp)) hi h
  have hi2:i+(kserT t s).length≤I.length:=by
   have:=congrArg List.length h;simp only[List.length_drop,Jd] at this;omega
  rw[List.length_cons,Ked,e1];dsimp only;rw[Knn ha ht L (out ++ [s]) (fun q hq=>hs q (by simp[hq])) hi2 e2,List.append_assoc];rfl
theorem Kyq {m:Int} (hm:m≤1125899906842624) {l:List Smp} (h1:∀x∈l,0≤x.t∧x.t≤m) (h2:l.Pairwise fun a b=>a.t < b.t) (hv:∀x∈l,x.v < 2 ^ 64) {p:List Smp} {f:Nat} (hp:p∈Kbi f l):Kgc p:=
 Qlo (fun x hx=>⟨(h1 x hx).1,by have:=(h1 x hx).2;omega,hv x hx⟩) (Kho.2 h2) hp
theorem Ksb {L:List KSer} (hf:fitK L=true) (hb:KBits L):decK (encK L) = .ok L:=by
 obtain ⟨h1,h2⟩:=Kox.1 hf
 have hmem:∀s∈L,∀x∈texts s.labels,x∈tabOf (setsK L):=by
  intro s hs x hx;rw[(Kiq (setsK L)).2];exact List.mem_flatMap.2 ⟨s.labels,List.mem_map.2 ⟨s,hs,rfl⟩,hx⟩
 have h0:(bodyK L).drop 0=tabT (tabOf (setsK L))++(uintT L.length++L.flatMap (kserT (tabOf (setsK L)))):=rfl;obtain ⟨e1,k1⟩:=Qjj (Kiq (setsK L)).1 hb.tn hb.t h0;obtain ⟨e2,k2⟩:=ru_of hb.l k1
 have hle:0+(tabT (tabOf (setsK L))).length+(uintT L.length).length≤(bodyK L).length:=by
  unfold bodyK;simp only[Jd];omega
 have e3:=Knn (Kiq (setsK L)).1 hb.tn (I:=bodyK L) (r:=[]) L [] (fun s hs=>by
  obtain ⟨f1,f2,f3,f4,f5⟩:=Kft.1 (h1 s hs)
  exact ⟨Krn f1,hmem s hs,by omega,f3,hb.s s hs,hb.n s hs,fun p hp=>⟨Kyq f2.2 f4 f5 (hb.v s hs) hp,hb.c s hs p hp⟩⟩) hle (by rw[k2,List.append_nil])
 unfold decK encK;rw[Qbp];dsimp only;unfold Kfu;rw[e1];dsimp only;rw[e2];dsimp only;rw[e3,List.nil_append];dsimp only;rw[if_pos ⟨hf,rfl⟩]
end
section
open Go.RowKit Go.Shelf Go.Sort
open Lib renaming hid → Jh
attribute [local go_sem ↓] Go.wp_at_zero Go.wp_at_succ
attribute [local go_sem] Later.cell
theorem Qmg (s:Spn):(spnT s).length≤22:=by
 unfold spnT;have h1:(intT s.frm).length≤11:=(Kam _).2;have h2:(intT s.to_).length≤11:=(Kam _).2;rw[List.length_append];omega
theorem Kuf:∀l:List Spn,((l.map spnT).flatten).length≤22*l.length
 | []=>by simp
 | s :: l=>by
  have:=Kuf l;have:=Qmg s;rw[List.map_cons,List.flatten_cons,List.length_append,List.length_cons];omega
theorem Kvo (l:List Spn) (A:Option Addr) (n c:Nat) (w:World) (h:Elems w w.heap.size 2 Kac A n l) (hn:n≤1099511627776) (hin:∀x∈l,SpnIn x) (hc:Kbf l) :
  Calls Tryz.prog 34 #[.slice A n c] w fun e w'=>e = .returned (.string ⟨(Kbo l).toArray⟩)∧Below w.heap.size w w':=by
 have HS:=Jh (Kny l A n c w h hn hin);have HLN:=Jh h.len;have HIN:=Jh hin;have HC:=Jh hc;clear h hin hc;go_enter Tryz.func34,Tryz.ntmps34
 go_wp2_with fail
 refine HS.out.mono ?_;rintro _ w1 ⟨⟨v,L,rfl,hr,_,hL,_⟩,hb1⟩;have hLl:=hL HC.out;rw[hLl] at hr;obtain ⟨A2,c2,rfl,hE⟩:=Kko hr rfl;rw[HLN.out] at hE ⊢;have HE:=Jh hE;have HB1:=Jh hb1;clear hr hL hLl hE hb1;have h0:Bld w1.heap.size w1.heap.size [] (w1.alloc (.cells #[.pointer none,.slice none 0 0] 74)):=Bld.new w1 (Nat.le_refl _);have hb0:Below w1.heap.size w1 (w1.alloc (.cells #[.pointer none,.slice none 0 0] 74)):=(Below.refl _ _).alloc (Nat.le_refl _) _;go_upto_region 3 with fail
 obtain ⟨w2,hw2⟩:∃x,w1.alloc (.cells #[.pointer none,.slice none 0 0] 74)=x:=⟨_,rfl⟩;rw[hw2] at h0 hb0;rw[hw2];obtain ⟨b,hb⟩:∃b,w1.heap.size=b:=⟨_,rfl⟩;rw[hb] at h0 hb0 ⊢;have HBB:=Jh hb;have HL2:=Jh h0;have HB2:=Jh hb0;have hB2:b≤w2.heap.size:=by have:=hb0.size;omega
 clear hw2 h0 hb0 hb;go_wp2_with fail
 refine (Kcx n (by omega) w2).mono ?_;rintro _ w3 ⟨rfl,hb3⟩;have HL3:=Jh (HL2.out.below hb3);have HB3:=Jh (HB2.out.trans (hb3.mono hB2));have hB3:b≤w3.heap.size:=Nat.le_trans hB2 hb3.size;clear hb3;go_wp2_with fail
 refine (Kdb b b [] ⟨(uintT n).toArray⟩ w3 HL3.out (by show 0+(uintT n).toArray.size≤_;have:=(Kam n).2;simp only[List.size_toArray];omega) hB3).mono ?_;rintro _ w4 ⟨rfl,h5,h6,_⟩;have HL4:Hid (Bld b b (uintT n) w4):=Jh h5;have HB4:=Jh (HB3.out.trans h6);clear h5 h6;go_wp2_with fail
 go_loopg [6,16] n (fun g _ s16 wr=>∃i:Nat,i+g=n∧s16 = .int .i64 (i:Int)∧Bld b b (uintT n++((l.take i).map spnT).flatten) wr∧Below b w1 wr)
 case atStart=>exact ⟨0,by omega,rfl,by simpa using HL4.out,HB4.out⟩
 case round=>
  obtain ⟨i,hig,rfl,hld,hbr⟩:=hrel;have HIG:=Jh hig;have HLD:=Jh hld;have HBR:=Jh hbr;clear hig hld hbr;obtain ⟨wo,rfl⟩:∃x,x=wr:=⟨_,rfl⟩
  by_cases hi:i < n
  ·have el:decide (i < n)=true:=by rw[decide_eq_true_eq];exact hi
   have hi2:(i:Int) < (n:Int):=by omega
   obtain ⟨b1,o1,rfl,hb1,g1⟩:=((HE.out.below (by rw[HBB.out];exact HBR.out)).more HBR.out.size).getS hi;have p0:wo.cell? ⟨b1,o1+i*2,none⟩=some (.int .i64 l[i]!.frm):=g1 0 _ rfl;have p1:wo.cell? ⟨b1,o1+i*2+1,none⟩=some (.int .i64 l[i]!.to_):=g1 1 _ rfl;have hil:i < l.length:=by rw[HLN.out];exact hi
   have hxi:=HIN.out l[i]! (by rw[getElem!_pos l i hil];exact List.getElem_mem hil)
   have hst:((l.take (i+1)).map spnT).flatten=((l.take i).map spnT).flatten++(intT l[i]!.frm++intT l[i]!.to_):=by
    rw[List.take_succ_eq_append_getElem hil,List.map_append,List.flatten_append,getElem!_pos l i hil];simp[spnT]
   have hln:=Kuf (l.take i);obtain ⟨x,hx⟩:∃x,l[i]! = x:=⟨_,rfl⟩;rw[hx] at p0 p1 hxi hst;obtain ⟨xa,xb⟩:=x;unfold SpnIn at hxi;dsimp only at p0 p1 hxi hst;obtain ⟨hx1,hx2,hx3,hx4⟩:=hxi;obtain ⟨T,hT⟩:∃T,uintT n++((l.take i).map spnT).flatten=T:=⟨_,rfl⟩
   have hTl:T.length≤11+22*n:=by
    rw[←hT,List.length_append];have h1:=(Kam n).2;have h2:(l.take i).length≤n:=by rw[List.length_take];omega
    omega
   have HST:Hid (uintT n++((l.take (i+1)).map spnT).flatten=T++intT xa++intT xb):=Jh (by rw[hst,←hT];simp only[List.append_assoc]);rw[hT] at HLD;have hBo:b≤wo.heap.size:=by have:=HBR.out.size;have:=HBB.out;omega
   clear g1 hx hst hln hT;go_upto_region 7 with fail
   obtain ⟨w5,hw5⟩:∃y,wo.alloc (.cells #[.int .i64 xa,.int .i64 xb] 109)=y:=⟨_,rfl⟩;have hb5:Below wo.heap.size wo w5:=by rw[←hw5];exact (Below.refl _ _).alloc (Nat.le_refl _) _
   have hkq:Blk w5 wo.heap.size 109 #[.int .i64 xa,.int .i64 xb]:=by rw[←hw5];exact Blk.new _ _ _
   obtain ⟨q,hq⟩:∃y,wo.heap.size=y:=⟨_,rfl⟩;have HL5:=Jh (HLD.out.below hb5);have HB5:=Jh (HBR.out.trans (hb5.mono hBo));have hB5:b≤w5.heap.size:=Nat.le_trans hBo hb5.size;have hbq:b < q:=by rw[←hq];exact Bld.lt HLD.out
   rw[hq] at hkq;rw[hw5,hq];have HK5:=Jh hkq;have d0:=hkq.cell 0;simp at d0;clear hw5 hb5 hkq hq p0 p1 hBo;go_wp2_with fail
   refine (Kma xa hx1 hx2 w5).mono ?_;rintro _ w6 ⟨rfl,hb6⟩;have HL6:=Jh (HL5.out.below hb6);have HB6:=Jh (HB5.out.trans (hb6.mono hB5));have HK6:=Jh (HK5.out.below hb6 HK5.out.lt);have hB6:b≤w6.heap.size:=Nat.le_trans hB5 hb6.size;have ha11:(intT xa).length≤11:=(Kam _).2;have hb11:(intT xb).length≤11:=(Kam _).2;clear hb6 d0;go_wp2_with fail
   refine (Kdb b b T ⟨(intT xa).toArray⟩ w6 HL6.out (by show T.length+(intT xa).toArray.size≤_;simp only[List.size_toArray];omega) hB6).mono ?_;rintro _ w7 ⟨rfl,h5,h6,h7⟩;have HL7:Hid (Bld b b (T++intT xa) w7):=Jh h5;have HB7:=Jh (HB6.out.trans h6);have hk7:=h7.blk HK6.out (by omega) (by decide);have HK7:=Jh hk7;have hB7:b≤w7.heap.size:=Nat.le_trans hB6 h6.size;have d1:=hk7.cell 1;simp at d1;clear h5 h6 h7 hk7;go_wp2_with fail
   refine (Kma xb hx3 hx4 w7).mono ?_;rintro _ w8 ⟨rfl,hb8⟩;have HL8:=Jh (HL7.out.below hb8);have HB8:=Jh (HB7.out.trans (hb8.mono hB7));have hB8:b≤w8.heap.size:=Nat.le_trans hB7 hb8.size;clear hb8 d1;go_wp2_with fail
   refine (Kdb b b (T++intT xa) ⟨(intT xb).toArray⟩ w8 HL8.out (by show (T++intT xa).length+(intT xb).toArray.size≤_;rw[List.length_append];simp only[List.size_toArray];omega) hB8).mono ?_;rintro _ w9 ⟨rfl,h5,h6,h7⟩;have HL9:Hid (Bld b b (T++intT xa++intT xb) w9):=Jh h5;have HB9:=Jh (HB8.out.trans h6);clear h5 h6 h7;go_wp2_with fail
   go_roundg (gk - 1)
   case measure=>have:=HIG.out;omega
   case rel=>exact ⟨i+1,by have:=HIG.out;omega,by first | rfl | go_num,by rw[HST.out];exact HL9.out,HB9.out⟩
  ·have el:decide (i < n)=false:=by rw[decide_eq_false_iff_not];exact hi
   have hin2:i=n:=by have:=HIG.out;omega
   have htx:uintT n++((l.take i).map spnT).flatten=Kbo l:=by
    rw[hin2,←HLN.out,List.take_length];rfl
   rw[htx] at HLD;have hBo:b≤wo.heap.size:=by have:=HBR.out.size;have:=HBB.out;omega
   clear htx;go_wp2_with fail
   refine (Kfj b b (Kbo l) wo HLD.out hBo).mono ?_;rintro _ w9 ⟨rfl,hb9⟩;have HB9:=Jh (HB1.out.trans ((HBR.out.trans hb9).mono (by have:=HB1.out.size;have:=HBB.out;omega)));clear hb9;go_wp2_with fail
   go_ret
   exact ⟨rfl,HB9.out⟩
end
end Go.Proofs.YtefpndiiedkmpaaGreatDoor
