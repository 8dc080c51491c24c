/- Merged (what the claim wants of): UnpWalksC, AggWalksC, PostWalksB, SymDecW, EncSealE, EncSealF, KptTake2, LabCmpW, LabCmpG, SortRow, SpnWalksA. -/
import Derived.Test.YtefpndiiedkmpaaGreatDoorKpw04
import Derived.OneCell
import Derived.Test.YtefpndiiedkmpaaGreatDoorKpw03
import Derived.Test.YtefpndiiedkmpaaGreatDoorKpw02
import Derived.Maps.AppendAt
import Derived.Deep.Onto
import Derived.Shelf.SlSortCmp.QuietGrown
import Derived.Test.YtefpndiiedkmpaaGreatDoorKpw01
import Derived.Shelf.SlSortCmp.NoneTotal
set_option linter.unusedVariables false
set_option linter.unusedSimpArgs false
set_option maxRecDepth 100000
set_option maxHeartbeats 8000000
namespace Go.Proofs.YtefpndiiedkmpaaGreatDoor
section
open Go.RowKit Go.Sort
open Lib renaming hid → Jh
attribute [local go_sem ↓] Go.wp_at_zero Go.wp_at_succ
attribute [local go_sem] Later.cell
def PLabs (B:Nat) (w:World) (v:Value) (ys:List Lb):Prop:=w.ownsRow B 106 2 v ys.length (ys.flatMap encLb)
theorem Qit {B:Nat} {w:World} {g n cap:Nat} {zs:List Lb} (h:PLabs B w (.slice (some ⟨g,0,none⟩) n cap) zs) (hl:zs.length=n) {k:Nat} (hk:k < n) :
  w.cell? ⟨g,k*2,none⟩=some (.string ⟨zs[k]!.n.toArray⟩)∧w.cell? ⟨g,k*2+1,none⟩=some (.string ⟨zs[k]!.v.toArray⟩):=by
 unfold PLabs at h;rw[hl] at h;refine ⟨?_,?_⟩
 ·rw[h.cellAt (k*2) (by omega),Kdx zs _ (by omega),show k*2 / 2=k by omega,show k*2 % 2=0 by omega];rfl
 ·rw[h.cellAt (k*2+1) (by omega),Kdx zs _ (by omega),show (k*2+1) / 2=k by omega,show (k*2+1) % 2=1 by omega];rfl
theorem Kyk {B:Nat} {w:World} {v:Value} {ys:List Lb} (h:PLabs B w v ys) {p i:Nat} (hp:v.ownBlock≠some p) (u:Value):PLabs B (w.setCell ⟨p,i,none⟩ u) v ys:=
 ownsRow_setCell_other h (a:=⟨p,i,none⟩) hp u
theorem Klq {B:Nat} {w w':World} (h:Below B w w') {p i:Nat} (hp:B≤p) (u:Value):Below B w (w'.setCell ⟨p,i,none⟩ u):=
 ⟨h.os,h.tape,h.output,by have:=h.size;simpa using this,fun k hk=>(Below.heap_setCell w' ⟨p,i,none⟩ u k (fun e=>by simp at e;omega)).trans (h.block k hk)⟩
theorem Qnp {w:World} {B:Nat} {v:Value} {ys:List Lb} (h:PLabs B w v ys):v.ownBlock≠some w.heap.size:=by
 intro e;have:=(h.lt _ e).2;omega
theorem Kzo (v:Value) (t:List Txt) (s:ByteArray) (k:Int) (w:World) (R:List Lb×Nat×Nat) (hr:unpR t s.data.toList k=R) (h:TabAt w v t) (hm:t.length*16≤140737488351232) (hs:s.size≤140737488351232) (hz:∀x∈t,x.length≤140737488351232) :
  Calls Tryz.prog 100 #[v,.string s,.int .i64 k] w (Kev w R):=by
 obtain ⟨i0,hi0,hz0,hz1,hz2⟩:=info_parts Kxn;obtain ⟨v1,n1,e1,h1⟩:∃v n e,Kar s.data.toList k=(v,n,e):=⟨_,_,_,rfl⟩;have H1:=Jh h1;have HZ:=Jh hz;rw[unpR,h1] at hr;dsimp only at hr;clear h1 hz
 by_cases he:e1=0
 ·subst he;rw[if_neg (by simp)] at hr
  by_cases hv0:v1=0
  ·subst hv0;rw[if_pos rfl] at hr;subst hr;go_enter Tryz.func100,Tryz.ntmps100
   go_wp2_with fail
   refine (Kao s k 0 n1 0 H1.out hs w).mono ?_;rintro _ w1 ⟨rfl,rfl⟩;go_wp2_with fail
   go_ret3
   exact Kev.bad rfl (Below.refl _ _)
  ·rw[if_neg hv0] at hr;have ev0:((v1:Int) == 0)=false:=by rw[beq_eq_false_iff_ne];omega
   by_cases hv8:8 < v1
   ·rw[if_pos hv8] at hr;subst hr;have ev8:decide ((8:Int) < (v1:Int))=true:=by simp;omega
    go_enter Tryz.func100,Tryz.ntmps100
    go_wp2_with fail
    refine (Kao s k v1 n1 0 H1.out hs w).mono ?_;rintro _ w1 ⟨rfl,rfl⟩;go_wp2_with fail
    go_ret3
    exact Kev.bad rfl (Below.refl _ _)
   ·rw[if_neg hv8] at hr;have ev8:decide ((8:Int) < (v1:Int))=false:=by simp;omega
    have HR:=Jh hr;clear hr hv0;go_enter Tryz.func100,Tryz.ntmps100
    go_wp2_with fail
    refine (Kao s k v1 n1 0 H1.out hs w).mono ?_;rintro _ w1 ⟨rfl,rfl⟩;go_wp2_with fail
    go_loopg [2,11,34] v1 (fun g s2 s11 s34 wr=>∃(i p:Nat) (ys:List Lb) (v11:Value),v11=s11∧i+g=v1∧s34 = .int .u64 (i:Int)∧s2 = .int .i64 (p:Int)∧ys.length=i∧PLabs w.heap.size wr v11 ys∧unpL t s.data.toList g ys p=R∧Below w.heap.size w wr)
    case atStart=>exact ⟨0,n1,[],_,rfl,by omega,rfl,rfl,rfl,World.ownsRow_nil _ _ _ _,HR.out,Below.refl _ _⟩
    case round=>
     obtain ⟨i,p,ys,v11,rfl,hig,rfl,rfl,hyl,hown,hU,hB⟩:=hrel;have HYL:=Jh hyl;clear hyl
     by_cases hi:i < v1
     ·have el:decide ((i:Int) < (v1:Int))=true:=by simp;omega
      have el':decide (i < v1)=true:=by simp;omega
      obtain ⟨g,rfl⟩:∃g,gk=g+1:=⟨gk - 1,by omega⟩;obtain ⟨x,n2,e2,h2⟩:∃x n e,symR t s.data.toList p=(x,n,e):=⟨_,_,_,rfl⟩;obtain ⟨y,n3,e3,h3⟩:∃x n e,symR t s.data.toList n2=(x,n,e):=⟨_,_,_,rfl⟩;have hst:=Qjp hU h2 h3
      have hxz:x.length≤140737488351232:=by
       rcases Kzg h2 with rfl | h
       ·simp
       ·exact HZ.out x h
      have hyz:y.length≤140737488351232:=by
       rcases Kzg h3 with rfl | h
       ·simp
       ·exact HZ.out y h
      have HIG:=Jh hig;have HS2:=Jh h2;have HS3:=Jh h3;have HST:=Jh hst;clear hig hU h2 h3 hst;go_upto_region 12 with fail
      have hq1:Blk (wr.alloc (.cells #[.string ⟨#[]⟩,.string ⟨#[]⟩] 106)) wr.heap.size 106 #[.string ⟨#[]⟩,.string ⟨#[]⟩]:=Blk.new _ _ _;have hB1:Below w.heap.size w (wr.alloc (.cells #[.string ⟨#[]⟩,.string ⟨#[]⟩] 106)):=hB.alloc hB.size _;have hown1:PLabs w.heap.size (wr.alloc (.cells #[.string ⟨#[]⟩,.string ⟨#[]⟩] 106)) v11 ys:=World.ownsRow.alloc hown _;have hne:=Qnp hown;have hpb:=hB.size;obtain ⟨w1,hw1⟩:∃x,wr.alloc (.cells #[.string ⟨#[]⟩,.string ⟨#[]⟩] 106)=x:=⟨_,rfl⟩;obtain ⟨p1,hp1⟩:∃p,wr.heap.size=p:=⟨_,rfl⟩;rw[hw1] at hq1 hB1 hown1 ⊢;rw[hp1] at hq1 hne hpb ⊢;clear hw1 hp1 hB hown;have q0:_=some (Value.string ⟨#[]⟩):=hq1.cell 0;have f0:=hq1.frozen 0;unfold txtV at *;obtain ⟨X,hX⟩:∃N:ByteArray,(⟨x.toArray⟩:ByteArray)=N:=⟨_,rfl⟩;obtain ⟨Y,hY⟩:∃N:ByteArray,(⟨y.toArray⟩:ByteArray)=N:=⟨_,rfl⟩;have hsy1:=fun w0 hw0=>Kms v t s p w0 x n2 e2 HS2.out hw0 hm hs
      have hsy2:=fun w0 hw0=>Kms v t s n2 w0 y n3 e3 HS3.out hw0 hm hs
      unfold txtV at hsy1 hsy2;rw[hX] at hsy1;rw[hY] at hsy2;have SY1:=Jh hsy1;have SY2:=Jh hsy2;have HX:=Jh hX;have HY:=Jh hY;clear hsy1 hsy2 hX hY HS2 HS3;go_wp2_with fail
      refine (SY1.out w1 (h.below hB1)).mono ?_;rintro _ w1' ⟨rfl,rfl⟩;go_upto_region 13 with fail
      have hq2:Blk (w1.setCell ⟨p1,0,none⟩ (.string X)) p1 106 #[.string X,.string ⟨#[]⟩]:=hq1.set_ 0 _;have hB2:=Klq hB1 hpb (.string X) (i:=0);have hown2:=Kyk hown1 hne (.string X) (i:=0);obtain ⟨w2,hw2⟩:∃x,w1.setCell ⟨p1,0,none⟩ (.string X)=x:=⟨_,rfl⟩;rw[hw2] at hq2 hB2 hown2 ⊢;clear hw2 hq1 hB1 hown1 q0 f0
      by_cases he2:e2=0
      ·subst he2;have q1:_=some (Value.string ⟨#[]⟩):=hq2.cell 1;have f1:=hq2.frozen 1;go_wp2_with fail
       refine (SY2.out w2 (h.below hB2)).mono ?_;rintro _ w2' ⟨rfl,rfl⟩;go_upto_region 16 with fail
       have hq3:Blk (w2.setCell ⟨p1,1,none⟩ (.string Y)) p1 106 #[.string X,.string Y]:=hq2.set_ 1 _;have hB3:=Klq hB2 hpb (.string Y) (i:=1);have hown3:=Kyk hown2 hne (.string Y) (i:=1);obtain ⟨w3,hw3⟩:∃x,w2.setCell ⟨p1,1,none⟩ (.string Y)=x:=⟨_,rfl⟩;rw[hw3] at hq3 hB3 hown3 ⊢;clear hw3 hq2 hB2 hown2 q1 f1
       by_cases he3:e3=0
       ·subst he3;have q0:_=some (Value.string X):=hq3.cell 0;have q1:_=some (Value.string Y):=hq3.cell 1;have hq4:Blk (w3.alloc (.cells #[.string X,.string Y] 106)) w3.heap.size 106 #[.string X,.string Y]:=Blk.new _ _ _
        have hE4:Elems (w3.alloc (.cells #[.string X,.string Y] 106)) (w3.alloc (.cells #[.string X,.string Y] 106)).heap.size 2 encLb (some ⟨w3.heap.size,0,none⟩) 1 [⟨x,y⟩]:=by
         refine ⟨rfl,fun _=>⟨w3.heap.size,0,rfl,hq4.lt,fun i' x' hx' j v' hv'=>?_⟩⟩;have hi':i'=0:=by have:=(List.getElem?_eq_some_iff.1 hx').1;simpa using this
         subst hi';simp at hx';subst hx';rw[hq4.cell]
         match j,hv' with
         | 0,hv'=>simpa[encLb,HX.out] using hv'
         | 1,hv'=>simpa[encLb,HY.out] using hv'
         | j+2,hv'=>simp[encLb] at hv'
        have hB4:Below w.heap.size w (w3.alloc (.cells #[.string X,.string Y] 106)):=hB3.alloc hB3.size _;have hown4:PLabs w.heap.size (w3.alloc (.cells #[.string X,.string Y] 106)) v11 ys:=World.ownsRow.alloc hown3 _;have hq4':=hq3.alloc (.cells #[.string X,.string Y] 106);have hmk:=Kkl [⟨x,y⟩] _ 1 1 _ hE4 (by omega) (by omega) (by simp[hxz,hyz]);rw[Qay] at hmk;dsimp only at hmk;have HMK:=Jh hmk;clear hmk hE4 hq4;obtain ⟨rn,hrn⟩:∃r,fitN x=r:=⟨_,rfl⟩;obtain ⟨rv,hrv⟩:∃r,fitV y=r:=⟨_,rfl⟩;have hst:=HST.out;rw[if_neg (by simp),if_neg (by simp),hrn,hrv] at hst;rw[hrn,hrv] at HMK;have HST2:=Jh hst;clear hst HST hrn hrv;go_wp2_with fail
        refine HMK.out.mono ?_;rintro _ w5 ⟨⟨mv,rfl⟩,hb5⟩;have hB5:=then_ hB4 hb5;have hown5:PLabs w.heap.size w5 v11 ys:=Kqm hown4 hb5;have hq5:=hq4'.below hb5 hq4'.lt;clear hB4 hown4 hq4' hb5 hq3 hB3 hown3 q0 q1 HMK
        cases rn with
        | false=>
         obtain rfl:([],0,40)=R:=by have:=HST2.out;simpa using this
         go_wp2_with fail
         go_ret3
         exact Kev.bad rfl hB5
        | true=>
         cases rv with
         | false=>
          obtain rfl:([],0,41)=R:=by have:=HST2.out;simpa using this
          go_wp2_with fail
          go_ret3
          exact Kev.bad rfl hB5
         | true=>
          obtain ⟨q,hq⟩:∃q,Kga ys x=q:=⟨_,rfl⟩;have hst:=HST2.out;rw[if_neg (by simp),if_neg (by simp),hq] at hst;have HST3:=Jh hst;have HQ:=Jh hq;have hownY:w5.ownsRow w.heap.size 106 2 v11 i (ys.flatMap encLb):=by have:=hown5;unfold PLabs at this;rw[HYL.out] at this;exact this
          obtain ⟨A',c',rfl,hE',_,hc'⟩:=Elems.of_own (enc:=encLb) (fun x _=>Kda x) rfl hownY HYL.out;have q0:_=some (Value.string X):=hq5.cell 0;have hp5:=hq5.lt;clear hst hq HST2;go_upto_region 22 with fail
          go_cut [15,83] (fun _s15 s83 wz=>s83 = .bool q∧Below w5.heap.size w5 wz)
          case first=>
           by_cases hi0':i=0
           ·subst hi0'
            have hqf:q=false:=by
             rw[←HQ.out,Kga,HYL.out];simp
            subst hqf;refine Kab (by kernel_rfl) (by kernel_rfl) ?_
            repeat (go_big_quiet_step (fail))
            refine wpQuiet_nil ?_;rintro w6 ⟨⟨_,hb6⟩,rfl⟩;go_wp2_with fail
            go_meet
            exact ⟨rfl,hb6⟩
           ·obtain ⟨j,rfl⟩:∃j,i=j+1:=⟨i - 1,by omega⟩
            obtain ⟨g0,rfl⟩:∃g,A'=some ⟨g,0,none⟩:=by
             rcases hownY.2 with ⟨_,h⟩ | ⟨g,cap,cur,h,_⟩
             ·omega
             ·injection h with h;exact ⟨g,h⟩
            obtain ⟨a0,_⟩:=Qit hown5 HYL.out (k:=j) (by omega);obtain ⟨z,hz'⟩:∃z,ys[j]! = z:=⟨_,rfl⟩;rw[hz'] at a0;obtain ⟨Z,hZ⟩:∃N:ByteArray,(⟨z.n.toArray⟩:ByteArray)=N:=⟨_,rfl⟩
            have hqq:q=true↔¬z.n < x:=by
             rw[←HQ.out,Kga,HYL.out,decide_eq_true_eq,show j+1 - 1=j by omega,hz'];constructor
             ·exact fun h=>h.2
             ·exact fun h=>⟨by omega,h⟩
            have hql:(!Op.bytesLess Z.toList X.toList)=q:=by
             rw[Bool.eq_iff_iff,hqq,←hZ,Kkk,←HX.out];simp
            rw[hZ] at a0;have HQL:=Jh hql;have hg5:g0 < w5.heap.size:=Kaf a0;clear hqq hZ hz' hql;have z1:IntKind.i64.wrap (((j+1:Nat):Int) - 1)=(j:Int):=by rw[show ((j+1:Nat):Int) - 1=(j:Int) by omega];exact IntWalk.i64_in _ (by omega)
            have z5:(j:Int) < ((j+1:Nat):Int):=by omega
            have hj1:((j+1:Nat):Int) - 1=(j:Int):=by omega
            have hj0:decide ((0:Int)≤(j:Int))=true:=by simp
            rw[hj1];refine Kab (by kernel_rfl) (by kernel_rfl) ?_
            repeat (go_big_quiet_step (fail))
            refine wpQuiet_nil ?_;rintro w6 ⟨⟨_,hb6⟩,rfl⟩;go_wp2_with fail
            go_meet
            exact ⟨by rw[HQL.out],hb6⟩
          case rest=>
           obtain ⟨rfl,hb6⟩:=hcut;obtain ⟨w6,rfl⟩:∃x,x=wc:=⟨_,rfl⟩;have hB6:=then_ hB5 hb6;have hownY6:=Kqm hownY hb6;have hq6:=hq5.below hb6 hq5.lt;clear hb6 hownY hq5 hB5 hown5 q0 hE';have q0:_=some (Value.string X):=hq6.cell 0;have q1:_=some (Value.string Y):=hq6.cell 1
           cases q with
           | true=>
            obtain rfl:([],0,42)=R:=by have:=HST3.out;simpa using this
            go_wp2_with fail
            go_ret3
            exact Kev.bad rfl hB6
           | false=>
            go_wp2_with (at_builtin;refine wpList_append_own_at _ rfl _ _ 80 rfl w.heap.size 106 i0 (.agg #[.string ⟨#[]⟩,.string ⟨#[]⟩]) 2 32 Tryz.underlying80 hi0 hz0 hz1 hz2 rfl (by decide) _ _ _ rfl (hownY6.alloc _) ⟨w6.heap.size,0,none⟩ 1 1 [.string X,.string Y] rfl rfl ?p1 ?p2 ?p3 ?p4 ?p5 ?_)
            case p1=>exact Kav (l:=[.string X,.string Y]) (Blk.new w6 _ _)
            case p2=>intro u hu;simp at hu;rcases hu with rfl | rfl <;> rfl
            case p3=>unfold maxLen;omega
            case p4=>omega
            case p5=>have:=hB6.size;simp;omega
            intro v' w7 hown' hgrow hx9 hat;have hB7:Below w.heap.size w w7:=Qip hB6 hB6.size hownY6 hgrow
            have hown7:PLabs w.heap.size w7 v' (ys ++ [⟨x,y⟩]):=by
             have e1:(ys ++ [(⟨x,y⟩:Lb)]).flatMap encLb=ys.flatMap encLb ++ [.string X,.string Y]:=by rw[List.flatMap_append];simp[encLb,HX.out,HY.out]
             unfold PLabs;rw[e1,List.length_append,HYL.out];exact hown'
            clear hown' hgrow hx9 hat hownY6;go_wp2_with fail
            go_roundg g
            case measure=>omega
            case rel=>exact ⟨i+1,n3,ys ++ [⟨x,y⟩],_,rfl,by have:=HIG.out;omega,by go_num,rfl,by rw[List.length_append,HYL.out];rfl,hown7,by simpa using HST3.out,hB7⟩
       ·have ee:((e3:Int) != 0)=true:=by simp;omega
        obtain rfl:([],0,e3)=R:=by have:=HST.out;rw[if_neg (by simp),if_pos he3] at this;exact this
        go_wp2_with fail
        go_ret3
        exact Kev.bad rfl hB3
      ·have ee:((e2:Int) != 0)=true:=by simp;omega
       obtain rfl:([],0,e2)=R:=by have:=HST.out;rw[if_pos he2] at this;exact this
       go_wp2_with fail
       go_ret3
       exact Kev.bad rfl hB2
     ·have el:decide ((i:Int) < (v1:Int))=false:=by simp;omega
      have el':decide (i < v1)=false:=by simp;omega
      obtain rfl:gk=0:=by omega
      rw[unpL] at hU;obtain rfl:=hU;obtain ⟨A',c',rfl,hE',hbs',hc'⟩:=Elems.of_own (enc:=encLb) (fun x _=>Kda x) rfl hown rfl;obtain ⟨ln,hln⟩:∃k,ys.length=k:=⟨_,rfl⟩;rw[hln] at hE' hc' ⊢;have HLN:=Jh hln;clear hig hln hown;go_wp2_with fail
      go_ret3
      refine ⟨A',c',?_,?_,?_,hB,hbs'⟩
      ·dsimp only;rw[HLN.out];rfl
      ·dsimp only;rw[HLN.out];exact hE'
      ·dsimp only;rw[HLN.out];exact hc'
 ·rw[if_pos he] at hr;subst hr;have ee:((e1:Int) != 0)=true:=by simp;omega
  go_enter Tryz.func100,Tryz.ntmps100
  go_wp2_with fail
  refine (Kao s k v1 n1 e1 H1.out hs w).mono ?_;rintro _ w1 ⟨rfl,rfl⟩;go_wp2_with fail
  go_ret3
  exact Kev.bad rfl (Below.refl _ _)
end
section
open Go.RowKit
attribute [local go_sem ↓] Go.wp_at_zero Go.wp_at_succ
attribute [local go_sem] Later.cell
theorem Ket {s:List UInt8} {i v j:Nat} (hi:i≤s.length) (h:ruAt s i=some (v,j)):i < j∧j≤s.length:=by
 unfold ruAt at h
 split at h
 ·rename_i v' k hr
  injection h with h;injection h with h1 h2;have:=(Key hr);rw[List.length_drop] at this;omega
 ·cases h
theorem Kgk (s:List UInt8) (i:Nat):(∃v j,Kar s (i:Int)=(v,j,0)∧ruAt s i=some (v,j)∧v < 2 ^ 64)∨(∃v j e,Kar s (i:Int)=(v,j,e)∧e≠0∧ruAt s i=none):=by
 unfold ruAt;rw[Kfw];unfold outOf
 cases hr:readU (s.drop i) with
 | error c=>exact .inr ⟨0,0,c,rfl,Kfh hr,rfl⟩
 | ok x=>exact .inl ⟨x.1,i+x.2,rfl,rfl,(Key hr).1⟩
theorem Qco {w:World} {B n sz k:Nat} {T:TypeId} {v:Value} {xs:List Value} (h:w.ownsRow B T sz v n xs) (hk:k < B):v.ownBlock≠some k:=fun e=>by
 have:=(h.lt k e).1;omega
end
section
open Go.RowKit Go.Sort
open Lib renaming hid → Jh
attribute [local go_sem ↓] Go.wp_at_zero Go.wp_at_succ
attribute [local go_sem] Later.cell
theorem Qlu {l:List UInt8} {x:List UInt8} {k:Nat} (h:readT l = .ok (x,k)):0 < k∧k≤l.length∧x.length≤l.length:=by
 unfold readT at h
 cases hr:readU l with
 | error c=>rw[hr] at h;cases h
 | ok y=>
  obtain ⟨v,k1⟩:=y;have hl:=Key hr;rw[hr] at h;dsimp only at h
  split at h
  ·cases h
  ·rename_i hlen
   injection h with h;injection h with h1 h2;rw[←h1,←h2,List.length_take,List.length_drop];omega
theorem Qbe {l:List UInt8} {c:Nat} (h:readT l = .error c):c≠0:=by
 unfold readT at h
 cases hr:readU l with
 | error c'=>
  rw[hr] at h;injection h with h;rw[←h];exact Kfh hr
 | ok y=>
  rw[hr] at h;dsimp only at h
  split at h
  ·injection h with h;omega
  ·cases h
theorem Kys {s:List UInt8} {i v j:Nat} (h:ruAt s i=some (v,j)):j≤s.length:=by
 by_cases hi:i≤s.length
 ·exact (Ket hi h).2
 ·unfold ruAt at h
  cases hr:readU (s.drop i) with
  | error c=>rw[hr] at h;cases h
  | ok x=>
   have:=Key hr;rw[List.length_drop] at this;omega
theorem Kel {I:List UInt8} {i n:Nat} {x:List UInt8} (h:Kbk I (i:Int)=(x,n,0)):i < n∧n≤I.length∧x.length≤I.length:=by
 unfold Kbk at h;rw[if_neg (by omega),Int.toNat_natCast] at h
 cases hr:readT (I.drop i) with
 | error c=>
  rw[hr] at h;injection h with _ h;injection h with _ h;exact absurd h (Qbe hr)
 | ok y=>
  obtain ⟨v,k⟩:=y;have hk:=Qlu hr;rw[List.length_drop] at hk;rw[hr] at h;dsimp only at h;injection h with h1 h;injection h with h2 _;rw[←h1,←h2];omega
def Kfa (B:Nat) (w:World) (p:Nat) (t:List Txt):Prop:=B≤p∧∃A n c,Blk w p 168 #[.slice A n c]∧Strs w A n t∧n≤c∧∀a,A=some a→B≤a.block
theorem Kfa.at_ {B p:Nat} {w:World} {t:List Txt} (h:Kfa B w p t):TabAt w (.pointer (some ⟨p,0,none⟩)) t:=by
 obtain ⟨_,A,n,c,h1,h2,h3,_⟩:=h;exact ⟨A,n,c,.inr ⟨_,rfl,h1⟩,h2,h3⟩
theorem Kfa.keep {B p:Nat} {w w':World} {t:List Txt} (h:Kfa B w p t) (hs:w.heap.size≤w'.heap.size) (hb:∀k,B≤k→k < w.heap.size→w'.heap[k]? = w.heap[k]?):Kfa B w' p t:=by
 obtain ⟨h0,A,n,c,h1,h2,h3,h4⟩:=h;refine ⟨h0,A,n,c,(hb p h0 h1.lt).trans h1,(h2.keepAt fun a ha hA=>?_).more hs,h3,h4⟩
 cases A with
 | none=>cases hA
 | some x=>
  have:x.block=a.block:=by simpa using hA
  exact World.cell?_of_block (w:=w) (hb a.block (by rw[←this];exact h4 x rfl) ha)
def TDecO (w:World) (r:Option (List Txt×Nat)) (en:Ending) (w':World):Prop:=match r with
 | some (t,j)=>∃p,en = .returned (.tuple #[.pointer (some ⟨p,0,none⟩),.int .i64 (j:Int),.int .i64 0])∧Kfa w.heap.size w' p t∧Below w.heap.size w w'
 | none=>∃f,f≠0∧en = .returned (.tuple #[.pointer none,.int .i64 0,.int .i64 ((f:Nat):Int)])∧Below w.heap.size w w'
theorem Kvz (S:ByteArray) (at0:Nat) (w:World) (hS:S.size≤1099511627776) :
  Calls Tryz.prog 46 #[.string S,.int .i64 (at0:Int)] w (TDecO w (tabR S.data.toList at0)):=by
 obtain ⟨ib,hib,hz0,hz1,hz2⟩:=info_parts Knj;have hSz:S.size≤140737488351232:=by omega
 have hlen:S.data.toList.length=S.size:=rfl;obtain ⟨R,hR⟩:∃R,tabR S.data.toList at0=R:=⟨_,rfl⟩;rw[hR];rcases Kgk S.data.toList at0 with ⟨n,i0,h1,h2,h3⟩ | ⟨v,j,e,h1,h2,h3⟩
 rotate_left
 ·have HC2:=Jh (Kao S (at0:Int) v j e h1 hSz w);have hne:((e:Int) != 0)=true:=by simp;omega
  have hre:R=none:=by rw[←hR,tabR,h1];exact if_pos h2
  have HE:=Jh h2;clear h1 h2 h3 hR;go_enter Tryz.func46,Tryz.ntmps46
  go_wp2_with fail
  refine HC2.out.mono ?_;rintro _ w3 ⟨rfl,rfl⟩;go_wp2_with fail
  go_ret3
  rw[hre];exact ⟨e,HE.out,rfl,Below.refl _ _⟩
 have HC:=Jh (Kao S (at0:Int) n i0 0 h1 hSz w)
 have hR0:Ker S.data.toList n [] i0=R:=by
  rw[←hR,tabR,h1];exact (if_neg (by simp)).symm
 have hi0:i0≤S.size:=Kys h2;have HR:=Jh hR0;obtain ⟨B,hB⟩:∃B,w.heap.size=B:=⟨_,rfl⟩;have HB:=Jh hB;have hq0:Blk (w.alloc (.cells #[.slice none 0 0] 168)) B 168 #[.slice none 0 0]:=Blk.newAt hB.symm;have hb0:Below B w (w.alloc (.cells #[.slice none 0 0] 168)):=(Below.refl _ _).alloc (by omega) _;have HQ0:=Jh hq0;have HB0:=Jh hb0;clear h1 h2 hR hR0 hq0 hb0;go_enter Tryz.func46,Tryz.ntmps46
 go_wp2_with fail
 refine HC.out.mono ?_;rintro _ w1 ⟨rfl,rfl⟩;go_wp2_with fail
 try rw[hB]
 clear hB;go_loopg [1,7] n (fun g s1 s7 wr=>∃(at_:Nat) (L:List Txt) (v:Value),s1 = .int .i64 (at_:Int)∧s7 = .int .u64 (g:Int)∧g < 2 ^ 64∧at_≤S.size∧L.length≤at_∧Blk wr B 168 #[v]∧wr.ownsRow (B+1) 9 1 v L.length (L.map txtV)∧Below B w wr∧Ker S.data.toList g L at_=R)
 case atStart=>exact ⟨i0,[],_,rfl,rfl,h3,hi0,by simp,HQ0.out,World.ownsRow_nil _ _ _ _,HB0.out,HR.out⟩
 case round=>
  obtain ⟨at_,L,v,rfl,rfl,hg,hat,hll,hq,hown,hbr,hRR⟩:=hrel;obtain ⟨i,hi⟩:∃i,L.length=i:=⟨_,rfl⟩;rw[hi] at hll hown;obtain ⟨A,c,rfl,hs,hbase,hc⟩:=Strs.of_own hown hi
  cases gk with
  | zero=>
   have hre:R=some (L,at_):=by rw[←hRR];rfl
   clear hown hRR;go_wp2_with fail
   go_ret3
   rw[hre];exact ⟨_,rfl,⟨by rw[HB.out];exact Nat.le_refl _,A,i,c,hq,hs,hc,fun a e=>by have:=hbase a e;have:=HB.out;omega⟩,by rw[HB.out];exact hbr⟩
  | succ g=>
   have el:decide (0 < g+1)=true:=by rw[decide_eq_true_eq];omega
   obtain ⟨x,k2,e,hr⟩:∃x n e,Kbk S.data.toList (at_:Int)=(x,n,e):=⟨_,_,_,rfl⟩;have HC2:=Jh (Kgi S (at_:Int) x k2 e hr hSz wr);rw[Ker,hr] at hRR;dsimp only at hRR;obtain ⟨X,hX⟩:∃N:ByteArray,(⟨x.toArray⟩:ByteArray)=N:=⟨_,rfl⟩;have HX:=Jh hX;rw[hX] at HC2
   by_cases he:e=0
   rotate_left
   ·have hne:((e:Int) != 0)=true:=by simp;omega
    have hre:R=none:=by rw[←hRR];exact if_pos he
    have HE:=Jh he;clear hr hRR he hown hs hbase hX;go_wp2_with fail
    refine HC2.out.mono ?_;rintro _ w3 ⟨rfl,rfl⟩;go_wp2_with fail
    go_ret3
    rw[hre];exact ⟨e,HE.out,rfl,by rw[HB.out];exact hbr⟩
   subst he;have hk2:=Kel hr;rw[if_neg (by simp)] at hRR;obtain ⟨lw,hlw⟩:∃lw,lowT L x=lw:=⟨_,rfl⟩;rw[hlw] at hRR;have HRR:=Jh hRR;have HHI:=Jh hi;have HBR:=Jh hbr;have HLW:=Jh hlw
   have hpne:some B≠(Value.slice A i c).ownBlock:=by
    intro e;have:=(hown.lt _ e.symm).1;omega
   have hcells:∀j,i=j+1→∃g,A=some ⟨g,0,none⟩∧g < wr.heap.size∧wr.cell? ⟨g,j,none⟩=some (txtV L[j]!):=by
    rintro j rfl
    obtain ⟨g,hg⟩:∃g,A=some ⟨g,0,none⟩:=by
     rcases hown.2 with ⟨h,_⟩ | ⟨g,cap,cur,h,_⟩
     ·injection h;omega
     ·injection h with h;exact ⟨g,h⟩
    obtain ⟨b,off,e,hb,hcell⟩:=hs.at_ (i:=j) (by omega);rw[hg] at e;injection e with e;injection e with e1 e2;subst e1 e2;refine ⟨g,hg,hb,?_⟩;simpa using hcell
   have HC3:=Jh hcells;have HOW:=Jh hown;clear hr hRR hi hbr hlw hown hs hbase hcells hX;have q0:_=some (Value.slice A i c):=hq.cell 0;go_wp2_with fail
   refine HC2.out.mono ?_;rintro _ w1 ⟨rfl,rfl⟩;go_upto_region 12 with fail
   go_cut [11,56] (fun _s11 s56 wz=>s56 = .bool lw∧wr=wz)
   case first=>
    by_cases hi0':i=0
    ·subst hi0'
     obtain rfl:lw=false:=by
      rw[←HLW.out];unfold lowT;rw[decide_eq_false_iff_not];have:=HHI.out;omega
     go_wp2_with fail
     go_meet
     exact ⟨rfl,rfl⟩
    ·obtain ⟨j,rfl⟩:∃j,i=j+1:=⟨i - 1,by omega⟩;obtain ⟨g,rfl,hg,hcell⟩:=HC3.out j rfl;unfold txtV at hcell;obtain ⟨Z,hZ⟩:∃N:ByteArray,(⟨(L[j]!).toArray⟩:ByteArray)=N:=⟨_,rfl⟩
     have hql:Op.bytesLess Z.toList X.toList = !lw:=by
      rw[←hZ,Kkk,←HX.out,←HLW.out];unfold lowT;have h1:=HHI.out;rw[h1,show j+1 - 1=j from rfl]
      by_cases h:L[j]! < x
      ·rw[decide_eq_true h,decide_eq_false (fun h'=>h'.2 h)];rfl
      ·rw[decide_eq_false h,decide_eq_true ⟨by omega,h⟩];rfl
     rw[hZ] at hcell;have hj1:((j+1:Nat):Int) - 1=(j:Int):=by omega
     have hj0:decide ((0:Int)≤(j:Int))=true:=by simp
     clear hZ HC3 HLW;rw[hj1];clear hj1
     cases lw with
     | false=>
      go_wp2_with fail
      go_meet
      exact ⟨rfl,rfl⟩
     | true=>
      go_wp2_with fail
      go_meet
      exact ⟨rfl,rfl⟩
   case rest=>
    obtain ⟨rfl,rfl⟩:=hcut
    cases lw with
    | true=>
     have hre:R=none:=by rw[←HRR.out];exact if_pos rfl
     go_wp2_with fail
     go_ret3
     try rw[hre]
     exact ⟨90,by decide,rfl,by rw[HB.out];exact HBR.out⟩
    | false=>
     have hrr:=HRR.out;rw[if_neg (by simp)] at hrr;have HRR2:=Jh hrr;clear hrr;have hsz:B+1≤wr.heap.size:=hq.lt;go_wp2_with (at_builtin;refine wpList_append_own_at _ rfl _ _ 150 rfl (B+1) 9 ib (.string ⟨#[]⟩) 1 16 Tryz.underlying150 hib hz0 hz1 hz2 rfl (by decide) _ _ _ rfl (World.ownsRow.alloc HOW.out _) ⟨wr.heap.size,0,none⟩ 1 1 [.string X] rfl rfl ?p1 ?p2 ?p3 ?p4 ?p5 ?_)
     case p1=>exact Kav (l:=[.string X]) (Blk.new wr _ _)
     case p2=>intro u hu;rw[List.mem_singleton.1 hu];rfl
     case p3=>unfold maxLen;omega
     case p4=>omega
     case p5=>simp;omega
     intro v' w2 hown' hgrow _ _;have hall2:wr.grownBy w2 (Value.slice A i c).ownBlock:=(World.grownBy_alloc wr _ _).trans hgrow;have hq2:=hq.grown hall2 hpne;have hB2:Below B w w2:=HBR.out.trans ⟨hall2.os,hall2.tape,hall2.output,hall2.size,fun k hk=>hall2.block k (by omega) (fun e=>by have:=(HOW.out.lt k e.symm).1;omega)⟩
     have hown2:w2.ownsRow (B+1) 9 1 v' (i+1) ((L ++ [x]).map txtV):=by
      have e1:(L ++ [x]).map txtV=L.map txtV ++ [.string X]:=by rw[List.map_append];simp[txtV,HX.out]
      rw[e1];simpa using hown'
     have hl1:(L ++ [x]).length=i+1:=by rw[List.length_append,HHI.out];rfl
     obtain ⟨A2,c2,rfl,_,_,hc2⟩:=Strs.of_own hown2 hl1
     have hp2:some B≠(Value.slice A2 (i+1) c2).ownBlock:=by
      intro e;have:=(hown2.lt _ e.symm).1;omega
     have hg1:IntKind.u64.wrap (((g+1:Nat):Int) - 1)=(g:Int):=by
      rw[show ((g+1:Nat):Int) - 1=(g:Int) by omega];exact IntWalk.u64_in _ (by omega)
     have HG1:=Jh hg1;have HL1:=Jh hl1;have f2:=hq2.frozen 0;have q2:_=some (Value.slice A i c):=hq2.cell 0;have hl2:=hq2.lt;clear hown' hgrow hall2 hq q0 HC3 hg1 hl1;go_wp2_with fail
     go_roundg g
     case measure=>omega
     case rel=>exact ⟨k2,L ++ [x],_,rfl,by first | rfl | exact vi HG1.out,by omega,by omega,by rw[HL1.out];omega,hq2.set_ 0 _,by rw[HL1.out];exact ownsRow_setCell_other hown2 (a:=⟨B,0,none⟩) (fun e=>hp2 e.symm) _,Klq hB2 (Nat.le_refl _) _,HRR2.out⟩
end
section
open Go.RowKit
open Lib renaming hid → Jh
attribute [local go_sem ↓] Go.wp_at_zero Go.wp_at_succ
attribute [local go_sem] Later.cell
theorem Qgx {l:List Txt} {i:Nat} (hi:i < l.length):(l.take (i+1)).flatten=(l.take i).flatten++l[i]!:=by
 rw[List.take_succ_eq_append_getElem hi,List.flatten_append,getElem!_pos l i hi];simp
theorem Qms {n a:Nat} (ha:a < 2 ^ n):a ^^^ (2 ^ n - 1)=2 ^ n - 1 - a:=by
 have h:=BitVec.toNat_not (x:=BitVec.ofNat n a);rw[←BitVec.xor_allOnes,BitVec.toNat_xor,BitVec.toNat_allOnes,BitVec.toNat_ofNat,Nat.mod_eq_of_lt ha] at h;exact h
theorem Krt {a:Nat} (ha:a < 18446744073709551616):a ^^^ 18446744073709551615=18446744073709551615 - a:=Qms (n:=64) ha
theorem Qmt {v:Int} (h1:-9223372036854775808≤v) (h2:v≤9223372036854775807) :
  bits .xor .u64 (IntKind.u64.wrap (wrap64 (v*2))) (IntKind.u64.wrap (v / 9223372036854775808))=((zig v:Nat):Int):=by
 rw[IntKind.wrap_u64,IntKind.wrap_u64];unfold wrap64
 by_cases h:0≤v
 ·have e1:((v*2+9223372036854775808) % 18446744073709551616 - 9223372036854775808) % 18446744073709551616=((zig v:Nat):Int):=by unfold zig;rw[if_pos h];omega
  have e2:v / 9223372036854775808 % 18446744073709551616=((0:Nat):Int):=by omega
  rw[e1,e2,bits_xor_u64_nat _ _ (by have:=Kru h1 h2;omega) (by decide),Nat.xor_zero]
 ·have e1:((v*2+9223372036854775808) % 18446744073709551616 - 9223372036854775808) % 18446744073709551616=((18446744073709551615 - zig v:Nat):Int):=by unfold zig;rw[if_neg h];omega
  have e2:v / 9223372036854775808 % 18446744073709551616=((18446744073709551615:Nat):Int):=by omega
  rw[e1,e2,bits_xor_u64_nat _ _ (by omega) (by decide),Krt (by omega)];have:=Kru h1 h2;omega
theorem Qga (v:Nat):bits .and .u64 (v:Int) 1=((v % 2:Nat):Int):=by
 unfold bits;simp only[BitVec.ofInt_natCast];have e:(BitVec.ofInt 64 1:BitVec 64)=BitVec.ofNat 64 1:=rfl;show IntKind.u64.wrap (((BitVec.ofNat 64 v &&& BitVec.ofInt 64 1).toNat:Nat):Int)=_
 rw[e,BitVec.toNat_and,BitVec.toNat_ofNat,BitVec.toNat_ofNat]
 have h1:(v % 2 ^ 64) &&& (1 % 2 ^ 64)=v % 2:=by
  rw[show (1 % 2 ^ 64:Nat)=2 ^ 1 - 1 by decide,Nat.and_two_pow_sub_one_eq_mod];omega
 rw[h1,IntKind.wrap_u64];omega
theorem Kwj (a b:Int):bits .xor .i64 a b=IntKind.i64.wrap (((BitVec.ofInt 64 a ^^^ BitVec.ofInt 64 b).toNat:Nat):Int):=rfl
theorem Qft {v:Nat} (h:v < 18446744073709551616) :
  bits .xor .i64 (wrap64 ((v:Int) / 2)) (wrap64 (-wrap64 (bits .and .u64 (v:Int) 1)))=unzig v:=by
 rw[Qga,Kwj];unfold wrap64;have e1:((v:Int) / 2+9223372036854775808) % 18446744073709551616 - 9223372036854775808=((v / 2:Nat):Int):=by omega
 rw[e1];rcases Nat.mod_two_eq_zero_or_one v with h2 | h2
 ·have e2:(-((((v % 2:Nat):Int)+9223372036854775808) % 18446744073709551616 - 9223372036854775808)+9223372036854775808) % 18446744073709551616 - 9223372036854775808=((0:Nat):Int):=by omega
  rw[e2,BitVec.ofInt_natCast,BitVec.ofInt_natCast,BitVec.toNat_xor,BitVec.toNat_ofNat,BitVec.toNat_ofNat,Nat.zero_mod,Nat.xor_zero,IntKind.wrap_i64];unfold unzig;rw[if_pos h2];omega
 ·have e2:(-((((v % 2:Nat):Int)+9223372036854775808) % 18446744073709551616 - 9223372036854775808)+9223372036854775808) % 18446744073709551616 - 9223372036854775808 = -1:=by omega
  have e3:(BitVec.ofInt 64 (-1):BitVec 64)=BitVec.ofNat 64 18446744073709551615:=rfl;rw[e2,e3,BitVec.ofInt_natCast,BitVec.toNat_xor,BitVec.toNat_ofNat,BitVec.toNat_ofNat];have e4:(v / 2) % 2 ^ 64=v / 2:=by omega
  have e5:(18446744073709551615:Nat) % 2 ^ 64=18446744073709551615:=by decide
  rw[e4,e5,Krt (by omega),IntKind.wrap_i64];unfold unzig;rw[if_neg (by omega)];omega
theorem Qiu {s:List UInt8} {k:Int} {v n e:Nat} (h:Kar s k=(v,n,e)):v < 18446744073709551616:=by
 unfold Kar at h
 split at h
 ·injection h with h1 h2;omega
 ·split at h
  ·injection h with h1 h2;omega
  ·rename_i v' n' hr
   injection h with h1 h2;have:=(Key hr).1;omega
theorem Kph (n:Int) (h0:0≤n) (h1:n < 2 ^ 32):IntKind.u32.wrap n=n:=by
 rw[IntKind.wrap_u32];omega
theorem Qbu {a b:Nat} (ha:a < 4294967296) (hb:b < 4294967296):bits .and .u32 (a:Int) (b:Int)=((a &&& b:Nat):Int):=(bits_nat .u32 32 (by decide) Kph a b ha hb).1
theorem Kyj {a b:Nat} (ha:a < 4294967296) (hb:b < 4294967296):bits .or .u32 (a:Int) (b:Int)=((a ||| b:Nat):Int):=(bits_nat .u32 32 (by decide) Kph a b ha hb).2
theorem Kst {a b:Nat} (ha:a < 4294967296) (hb:b < 4294967296):bits .xor .u32 (a:Int) (b:Int)=((a ^^^ b:Nat):Int):=by
 have h:bits .xor .u32 (a:Int) (b:Int)=IntKind.u32.wrap (((BitVec.ofInt 32 (a:Int) ^^^ BitVec.ofInt 32 (b:Int)).toNat:Nat):Int):=rfl;rw[h,BitVec.ofInt_natCast,BitVec.ofInt_natCast,BitVec.toNat_xor,BitVec.toNat_ofNat,BitVec.toNat_ofNat,Nat.mod_eq_of_lt (show a < 2 ^ 32 by omega),Nat.mod_eq_of_lt (show b < 2 ^ 32 by omega)];exact Kph _ (Int.natCast_nonneg _) (by have:=Kis ha hb;omega)
theorem Kgz {k x:Nat} (y:Nat) (h:x < 2 ^ k):(y*2 ^ k) ||| x=y*2 ^ k+x:=by
 have:=Nat.shiftLeft_add_eq_or_of_lt h y;rw[Nat.shiftLeft_eq] at this;exact this.symm
theorem Qlk {x1 x0 y1 y0:Nat} (hx:x0 < 65536) (hy:y0 < 65536):(x1*65536+x0) ||| (y1*65536+y0)=(x1 ||| y1)*65536+(x0 ||| y0):=by
 have e1:=Kgz (k:=16) x1 (show x0 < 2 ^ 16 from hx);have e2:=Kgz (k:=16) y1 (show y0 < 2 ^ 16 from hy);have e3:=Kgz (k:=16) (x1 ||| y1) (Nat.or_lt_two_pow (show x0 < 2 ^ 16 from hx) (show y0 < 2 ^ 16 from hy))
 have e4:(x1 ||| y1)*2 ^ 16=x1*2 ^ 16 ||| y1*2 ^ 16:=by
  rw[←Nat.shiftLeft_eq,←Nat.shiftLeft_eq,←Nat.shiftLeft_eq,Nat.shiftLeft_or_distrib]
 have e16:(65536:Nat)=2 ^ 16:=by decide
 rw[e16,←e1,←e2,←e3,e4,Nat.or_assoc,Nat.or_assoc];congr 1;rw[←Nat.or_assoc,←Nat.or_assoc,Nat.or_comm x0]
theorem Kie (v:Nat):v &&& 16711935=v / 65536 % 256*65536+v % 256:=by
 have h1:(16711935:Nat)=255 <<< 16 ||| 255:=by decide
 have h2:v &&& 255=v % 256:=Nat.and_two_pow_sub_one_eq_mod v 8
 have h3:v &&& (255 <<< 16)=((v >>> 16) &&& 255) <<< 16:=by
  apply Nat.eq_of_testBit_eq;intro i;simp only[Nat.testBit_and,Nat.testBit_shiftLeft,Nat.testBit_shiftRight]
  by_cases h:16≤i
  ·simp[h,Nat.add_sub_cancel' h]
  ·simp[h]
 have h4:(v >>> 16) &&& 255=v / 65536 % 256:=by
  rw[Nat.shiftRight_eq_div_pow];exact Nat.and_two_pow_sub_one_eq_mod _ 8
 rw[h1,Nat.and_or_distrib_left,h2,h3,h4,Nat.shiftLeft_eq];exact Kgz (k:=16) _ (by omega)
def revN (v:Nat):Nat:=v % 256*16777216+v / 256 % 256*65536+v / 65536 % 256*256+v / 16777216
theorem Qlx {v:Nat} (hv:v < 4294967296):((v / 256) &&& 16711935) ||| ((v &&& 16711935)*256)=(v / 65536 % 256*256+v / 16777216)*65536+(v % 256*256+v / 256 % 256):=by
 rw[Kie,Kie];have e1:(v / 65536 % 256*65536+v % 256)*256=(v / 65536 % 256*256)*65536+v % 256*256:=by omega
 have e2:v / 256 / 65536 % 256=v / 16777216:=by omega
 rw[e1,e2,Qlk (by omega) (by omega)];have e3:=Kgz (k:=8) (v / 65536 % 256) (show v / 16777216 < 2 ^ 8 by omega);have e4:=Kgz (k:=8) (v % 256) (show v / 256 % 256 < 2 ^ 8 by omega);have e8:(2:Nat) ^ 8=256:=by decide
 rw[e8] at e3 e4;rw[Nat.or_comm (v / 16777216),Nat.or_comm (v / 256 % 256),e3,e4]
set_option maxHeartbeats 400000 in
theorem Kma (v:Int) (h1:-9223372036854775808≤v) (h2:v≤9223372036854775807) (w:World) :
  Calls Tryz.prog 33 #[.int .i64 v] w fun e w'=>e = .returned (.string ⟨(intT v).toArray⟩)∧Below w.heap.size w w':=by
 have HU:=Jh (fun w=>Kcx (zig v) (Kru h1 h2) w);go_enter Tryz.func33,Tryz.ntmps33
 go_wp2_with fail
 rw[Qmt h1 h2];refine (HU.out w).mono ?_;rintro _ w1 ⟨rfl,hb⟩;go_wp2_with fail
 go_ret
 exact ⟨rfl,hb⟩
set_option maxHeartbeats 400000 in
theorem Kfk (s:ByteArray) (k:Int) (v n e:Nat) (hr:Kar s.data.toList k=(v,n,e)) (hs:s.size≤140737488351232) (w:World) :
  Calls Tryz.prog 102 #[.string s,.int .i64 k] w fun en w'=>en = .returned (.tuple #[.int .i64 (if e=0 then unzig v else 0),.int .i64 (if e=0 then (n:Int) else 0),.int .i64 e])∧w=w':=by
 have HR:=Jh (Kao s k v n e hr hs w);go_enter Tryz.func102,Tryz.ntmps102
 go_wp2_with fail
 refine HR.out.mono ?_;rintro _ w1 ⟨rfl,rfl⟩
 cases e with
 | succ e=>
  go_wp2_with fail
  go_ret3
  exact ⟨by simp,rfl⟩
 | zero=>
  go_wp2_with fail
  rw[Qft (by have:=Qiu hr;omega)];go_ret3
  exact ⟨rfl,rfl⟩
theorem Qlw {v:Nat} (hv:v < 4294967296):bits .or .u32 (bits .and .u32 ((v:Int) / 256) 16711935) (bits .and .u32 (v:Int) 16711935*256 % 4294967296)=(((v / 65536 % 256*256+v / 16777216)*65536+(v % 256*256+v / 256 % 256):Nat):Int):=by
 have e1:(v:Int) / 256=((v / 256:Nat):Int):=by omega
 have e2:∀x:Nat,x < 4294967296→bits .and .u32 (x:Int) 16711935=((x &&& 16711935:Nat):Int):=fun x hx=>Qbu hx (by decide)
 have e3:((v &&& 16711935:Nat):Int)*256 % 4294967296=(((v &&& 16711935)*256:Nat):Int):=by rw[Kie];omega
 rw[e1,e2 _ (by omega),e2 _ hv,e3,Kyj (by rw[Kie];omega) (by rw[Kie];omega),Qlx hv]
theorem Qlv {v:Nat} (hv:v < 4294967296) {T:Int} (hT:T=(((v / 65536 % 256*256+v / 16777216)*65536+(v % 256*256+v / 256 % 256):Nat):Int)) :
  bits .or .u32 (T / 65536) (T*65536 % 4294967296)=((revN v:Nat):Int):=by
 subst hT;have e1:(((v / 65536 % 256*256+v / 16777216)*65536+(v % 256*256+v / 256 % 256):Nat):Int) / 65536=((v / 65536 % 256*256+v / 16777216:Nat):Int):=by omega
 have e2:(((v / 65536 % 256*256+v / 16777216)*65536+(v % 256*256+v / 256 % 256):Nat):Int)*65536 % 4294967296=(((v % 256*256+v / 256 % 256)*65536:Nat):Int):=by omega
 rw[e1,e2,Kyj (by omega) (by omega),Nat.or_comm];have e3:=Kgz (k:=16) (v % 256*256+v / 256 % 256) (show v / 65536 % 256*256+v / 16777216 < 2 ^ 16 by omega);have e16:(2:Nat) ^ 16=65536:=by decide
 rw[e16] at e3;rw[e3];unfold revN;omega
set_option maxHeartbeats 400000 in
theorem Qix (v:Nat) (hv:v < 4294967296) (w:World) :
  Calls Tryz.prog 152 #[.int .u32 v] w fun e w'=>e = .returned (.int .u32 (revN v:Nat))∧w=w':=by
 go_enter Tryz.func152,Tryz.ntmps152
 go_wp2_with fail
 rw[Qlv hv (Qlw hv)];go_ret
 exact ⟨rfl,rfl⟩
theorem Qdz (a b c d:UInt8) (g:Nat) (w:World) (h0:w.cell? ⟨g,0,none⟩=some (.int .u8 (a.toNat:Int))) (h1:w.cell? ⟨g,1,none⟩=some (.int .u8 (b.toNat:Int))) (h2:w.cell? ⟨g,2,none⟩=some (.int .u8 (c.toNat:Int))) (h3:w.cell? ⟨g,3,none⟩=some (.int .u8 (d.toNat:Int))) :
  (convert 72 9 (.slice (some ⟨g,0,none⟩) 4 4)).run Tryz.prog w = .ok (.string ⟨#[a,b,c,d]⟩) w:=
 run_convert_bytes_back w _ _ 5 ⟨g,0,none⟩ 4 [a,b,c,d] Tryz.underlying72 Tryz.underlying5 Tryz.underlying9 (fun j hj=>by
  match j,hj with
  | 0,_=>exact h0
  | 1,_=>exact h1
  | 2,_=>exact h2
  | 3,_=>exact h3
  | _+4,hj=>simp at hj;omega)
theorem Qiy {a b c d r:Nat} (ha:a < 256) (hb:b < 256) (hc:c < 256) (hd:d < 256) (hr:a*16777216+b*65536+c*256+d=r) :
  (r:Int) / 16777216=(a:Int)∧(r:Int) / 65536 % 256=(b:Int)∧(r:Int) / 256 % 256=(c:Int)∧(r:Int) % 256=(d:Int):=by
 subst hr;refine ⟨?_,?_,?_,?_⟩ <;> omega
set_option maxHeartbeats 400000 in
theorem Qea (v:Nat) (hv:v < 4294967296) (w:World) :
  Calls Tryz.prog 92 #[.int .u32 v] w fun e w'=>e = .returned (.string ⟨(fourT v).toArray⟩)∧Below w.heap.size w w':=by
 have HR:=Jh (Qix v hv w);obtain ⟨r,hr⟩:∃r,revN v=r:=⟨_,rfl⟩;rw[hr] at HR;have hr2:r < 4294967296:=by rw[←hr];unfold revN;omega
 obtain ⟨b0,h0⟩:∃b,UInt8.ofNat v=b:=⟨_,rfl⟩;obtain ⟨b1,h1⟩:∃b,UInt8.ofNat (v / 256)=b:=⟨_,rfl⟩;obtain ⟨b2,h2⟩:∃b,UInt8.ofNat (v / 65536)=b:=⟨_,rfl⟩;obtain ⟨b3,h3⟩:∃b,UInt8.ofNat (v / 16777216)=b:=⟨_,rfl⟩;obtain ⟨p0,p1,p2,p3⟩:=Qiy (a:=v % 256) (b:=v / 256 % 256) (c:=v / 65536 % 256) (d:=v / 16777216) (by omega) (by omega) (by omega) (by omega) hr;have k0:(r:Int) / 16777216=(b0.toNat:Int):=by rw[p0,←h0,UInt8.toNat_ofNat']
 have k1:(r:Int) / 65536 % 256=(b1.toNat:Int):=by rw[p1,←h1,UInt8.toNat_ofNat']
 have k2:(r:Int) / 256 % 256=(b2.toNat:Int):=by rw[p2,←h2,UInt8.toNat_ofNat']
 have k3:(r:Int) % 256=(b3.toNat:Int):=by rw[p3,←h3,UInt8.toNat_ofNat'];omega
 have hcv:=Qdz b0 b1 b2 b3 w.heap.size (w.alloc (.cells #[.int .u8 ((r:Int) / 16777216),.int .u8 ((r:Int) / 65536 % 256),.int .u8 ((r:Int) / 256 % 256),.int .u8 ((r:Int) % 256)] 5)) (by rw[k0];simp[go_sem]) (by rw[k1];simp[go_sem]) (by rw[k2];simp[go_sem]) (by rw[k3];simp[go_sem]);have hb:Below w.heap.size w (w.alloc (.cells #[.int .u8 ((r:Int) / 16777216),.int .u8 ((r:Int) / 65536 % 256),.int .u8 ((r:Int) / 256 % 256),.int .u8 ((r:Int) % 256)] 5)):=(Below.refl _ _).alloc (Nat.le_refl _) _;have hfin:(⟨#[b0,b1,b2,b3]⟩:ByteArray)=⟨(fourT v).toArray⟩:=by rw[←h0,←h1,←h2,←h3];rfl
 have HFIN:=Jh hfin;have HB:=Jh hb;clear k0 k1 k2 k3 h0 h1 h2 h3 hr hfin hb p0 p1 p2 p3;go_enter Tryz.func92,Tryz.ntmps92
 go_wp2_with fail
 refine HR.out.mono ?_;rintro _ w1 ⟨rfl,rfl⟩;go_wp2_with fail
 go_ret
 exact ⟨by first | rfl | (rw[HFIN.out];rfl),HB.out⟩
def Kdu (w:World):Prop:=∀i,i < 16→w.cell? ⟨7,i,none⟩=some (.int .u32 (nibs.getD i 0:Nat))
theorem Kdu.below {B:Nat} {w w':World} (h:Kdu w) (hB:7 < B) (hb:Below B w w'):Kdu w':=fun i hi=>(hb.cell (p:=⟨7,i,none⟩) hB).trans (h i hi)
theorem and15 {c:Nat} (h:c < 4294967296):bits .and .u32 (c:Int) 15=((c % 16:Nat):Int):=by
 have h1:bits .and .u32 (c:Int) 15=((c &&& 15:Nat):Int):=Qbu h (by decide);rw[h1];congr 1;exact Nat.and_two_pow_sub_one_eq_mod c 4
theorem Qck {c:Nat} (h:c < 4294967296):bits .xor .u32 ((nibs.getD (c % 16) 0:Nat):Int) ((c:Int) / 16)=((nibN c:Nat):Int):=by
 have e1:(c:Int) / 16=((c / 16:Nat):Int):=by omega
 rw[e1,Kst (Qcl _) (by omega)];rfl
theorem Qgm (Ao:Option Addr) (n c:Nat) (l:List Txt) (w:World) (h:Strs w Ao n l) (hn:n≤140737488355328) (hs:∀s∈l,s.length≤140737488355328) (hT:Kdu w) :
  Calls Tryz.prog 93 #[.slice Ao n c] w fun e w'=>e = .returned (.int .u32 (crcL l.flatten:Nat))∧w=w':=by
 have hln:=h.len;have HS:=Jh hs;have HH:=Jh h;have HT:=Jh hT;clear hs h hT;go_enter Tryz.func93,Tryz.ntmps93
 go_wp2_with fail
 go_loopg [3,9] n (fun g s3 s9 wr=>∃i c:Nat,i+g=n∧s9 = .int .i64 (i:Int)∧s3 = .int .u32 (c:Int)∧c < 4294967296∧crcF 4294967295 (l.take i).flatten=c∧wr=w)
 case atStart=>exact ⟨0,4294967295,by omega,rfl,rfl,by decide,rfl,rfl⟩
 case round=>
  obtain ⟨i,c,hig,rfl,rfl,hc,hcr,rfl⟩:=hrel;have HIG:=Jh hig;have HCR:=Jh hcr;clear hig hcr
  by_cases hi:i < n
  ·have el:decide ((i:Int) < (n:Int))=true:=by simp;omega
   have el':decide (i < n)=true:=by simp;omega
   have hiin:(i:Int) < (n:Int):=by omega
   obtain ⟨b,off,hXe,hbl,x0⟩:=HH.out.at_ hi;subst hXe;have hil:i < l.length:=by omega
   obtain ⟨T,hT⟩:∃T:ByteArray,(⟨l[i]!.toArray⟩:ByteArray)=T:=⟨_,rfl⟩;have hTl:T.data.toList=l[i]!:=by rw[←hT]
   have hTs:T.size≤140737488355328:=by
    have:=HS.out l[i]! (by rw[getElem!_pos l i hil];exact List.getElem_mem _);rw[←hTl,Kaj] at this;exact this
   unfold txtV at x0;rw[hT] at x0;have hft:=Qgx hil;rw[←hTl] at hft;have HFT:=Jh hft;obtain ⟨og,rfl⟩:∃x,x=gk:=⟨_,rfl⟩;clear hft hT hTl;go_wp2_with fail
   go_loopg [3,15] T.size (fun g s3 s15 wr2=>∃j c:Nat,j+g=T.size∧s15 = .int .i64 (j:Int)∧s3 = .int .u32 (c:Int)∧c < 4294967296∧crcF 4294967295 ((l.take i).flatten++T.data.toList.take j)=c∧wr2=wr)
   case atStart=>exact ⟨0,c,by omega,rfl,rfl,hc,by rw[List.take_zero,List.append_nil];exact HCR.out,rfl⟩
   case round=>
    obtain ⟨j,c',hjg,rfl,rfl,hc',hcr',rfl⟩:=hrel;have HJG:=Jh hjg;have HCR2:=Jh hcr';clear hjg hcr'
    by_cases hj:j < T.size
    ·have fl:decide ((j:Int) < (T.size:Int))=true:=by simp;omega
     have fl':decide (j < T.size)=true:=by simp;omega
     have hjin:(j:Int) < (T.size:Int):=by omega
     have hbt:=UInt8.toNat_lt T[j];obtain ⟨c0,hc0⟩:∃x,c' ^^^ T[j].toNat=x:=⟨_,rfl⟩;have hx0:bits .xor .u32 (c':Int) (T[j].toNat:Int)=(c0:Int):=by rw[←hc0];exact Kst hc' (by omega)
     have hl0:c0 < 4294967296:=by rw[←hc0];exact Kis hc' (by omega)
     obtain ⟨i0,hi0⟩:∃x,c0 % 16=x:=⟨_,rfl⟩;have ha0:bits .and .u32 (c0:Int) 15=(i0:Int):=by rw[←hi0];exact and15 hl0
     have hi16:i0 < 16:=by omega
     obtain ⟨n0,hn0⟩:∃x,nibs.getD i0 0=x:=⟨_,rfl⟩;have hm0:=HT.out i0 hi16;rw[hn0] at hm0;obtain ⟨c1,hc1⟩:∃x,nibN c0=x:=⟨_,rfl⟩;have hy0:bits .xor .u32 (n0:Int) ((c0:Int) / 16)=(c1:Int):=by rw[←hn0,←hi0,←hc1];exact Qck hl0
     have hl1:c1 < 4294967296:=by rw[←hc1];exact Kmz hl0
     obtain ⟨i1,hi1⟩:∃x,c1 % 16=x:=⟨_,rfl⟩;have ha1:bits .and .u32 (c1:Int) 15=(i1:Int):=by rw[←hi1];exact and15 hl1
     have hi17:i1 < 16:=by omega
     obtain ⟨n1,hn1⟩:∃x,nibs.getD i1 0=x:=⟨_,rfl⟩;have hm1:=HT.out i1 hi17;rw[hn1] at hm1;obtain ⟨c2,hc2⟩:∃x,nibN c1=x:=⟨_,rfl⟩;have hy1:bits .xor .u32 (n1:Int) ((c1:Int) / 16)=(c2:Int):=by rw[←hn1,←hi1,←hc2];exact Qck hl1
     have hl2:c2 < 4294967296:=by rw[←hc2];exact Kmz hl1
     have hnext:crcF 4294967295 ((l.take i).flatten++T.data.toList.take (j+1))=c2:=by
      have e:T.data.toList.take (j+1)=T.data.toList.take j ++ [T[j]]:=by
       rw[List.take_add_one,List.getElem?_eq_getElem (by simpa using hj)];simp[ByteArray.getElem_eq_getElem_data]
      rw[e,←List.append_assoc,Qgl,HCR2.out,←hc2,←hc1,←hc0];rfl
     have HNX:=Jh hnext;clear hnext hc0 hc1 hc2 hn0 hn1 hi0 hi1;go_wp2_with fail
     go_roundg (gk - 1)
     case measure=>have:=HJG.out;omega
     case rel=>exact ⟨j+1,c2,by have:=HJG.out;omega,by go_num,rfl,hl2,HNX.out,rfl⟩
    ·have fl:decide ((j:Int) < (T.size:Int))=false:=by simp;omega
     have fl':decide (j < T.size)=false:=by simp;omega
     have hfull:crcF 4294967295 (l.take (i+1)).flatten=c':=by
      have:=HCR2.out;have e:T.data.toList.take j=T.data.toList:=List.take_of_length_le (by rw[Kaj];omega);rw[e,←HFT.out] at this;exact this
     have HF:=Jh hfull;clear hfull;go_wp2_with fail
     go_roundg (og - 1)
     case measure=>have:=HIG.out;omega
     case rel=>exact ⟨i+1,c',by have:=HIG.out;omega,by go_num,rfl,hc',HF.out,rfl⟩
  ·have el:decide ((i:Int) < (n:Int))=false:=by simp;omega
   have el':decide (i < n)=false:=by simp;omega
   have hend:bits .xor .u32 IntKind.u32.max (c:Int)=((crcL l.flatten:Nat):Int):=by
    have h1:bits .xor .u32 IntKind.u32.max (c:Int)=((4294967295 ^^^ c:Nat):Int):=Kst (a:=4294967295) (by decide) hc;have h2:=HCR.out;rw[List.take_of_length_le (by omega)] at h2;rw[h1];unfold crcL;rw[h2,Nat.xor_comm]
   go_wp2_with fail
   go_ret
   exact ⟨rfl,rfl⟩
def leV:List UInt8→Nat
 | []=>0
 | b :: l=>b.toNat+256*leV l
theorem Qnj {l:List UInt8} (h:4≤l.length):leV (l.take 4)=numT l:=by
 match l,h with
 | a :: b :: c :: d :: r,_=>
  simp only[List.take_succ_cons,List.take_zero,leV,numT];omega
theorem Qhw:∀l:List UInt8,leV l < 256 ^ l.length
 | []=>by simp[leV]
 | b :: l=>by
  have:=Qhw l;have:=UInt8.toNat_lt b;rw[leV,List.length_cons,Nat.pow_succ];omega
theorem Qnn {v b:Nat} (hv:v < 16777216) (hb:b < 256):bits .or .u32 ((v:Int)*256) (b:Int)=((b+256*v:Nat):Int):=by
 have e1:(v:Int)*256=((v*256:Nat):Int):=by omega
 rw[e1,Kyj (by omega) (by omega)];have e3:=Kgz (k:=8) v (show b < 2 ^ 8 from hb);have e8:(2:Nat) ^ 8=256:=by decide
 rw[e8] at e3;rw[e3];congr 1;omega
theorem Kxb (s:ByteArray) (hs:4≤s.size) (hz:s.size≤140737488355328) (w:World) :
  Calls Tryz.prog 97 #[.string s] w fun e w'=>e = .returned (.int .u32 (numT s.data.toList:Nat))∧w=w':=by
 have hfin:=Qnj (l:=s.data.toList) (by rw[Kaj];exact hs);have HFIN:=Jh hfin;clear hfin;have hl4:(s.data.toList.take 4).length=4:=by rw[List.length_take,Kaj];omega
 go_enter Tryz.func97,Tryz.ntmps97
 go_wp2_with fail
 go_loopg [3,4] 4 (fun g s3 s4 wr=>∃v:Nat,g≤4∧s4 = .int .i64 ((g:Int) - 1)∧s3 = .int .u32 (v:Int)∧leV ((s.data.toList.take 4).drop g)=v∧wr=w)
 case atStart=>exact ⟨0,by omega,rfl,rfl,by rw[List.drop_of_length_le (by omega)];rfl,rfl⟩
 case round=>
  obtain ⟨v,hg4,rfl,rfl,hv,rfl⟩:=hrel;have hvl:=Qhw ((s.data.toList.take 4).drop gk);rw[hv,List.length_drop,hl4] at hvl
  by_cases hg:0 < gk
  ·obtain ⟨j,rfl⟩:∃j,gk=j+1:=⟨gk - 1,by omega⟩;have ej:((j+1:Nat):Int) - 1=(j:Int):=by omega
   rw[ej];have el:decide ((0:Int)≤(j:Int))=true:=by simp
   have hj:j < s.size:=by omega
   have hbt:=UInt8.toNat_lt s[j]
   have hv24:v < 16777216:=by
    refine Nat.lt_of_lt_of_le hvl ?_;have:256 ^ (4 - (j+1))≤256 ^ 3:=Nat.pow_le_pow_right (by decide) (by omega);exact this
   have hor:=Qnn hv24 hbt
   have hn:leV ((s.data.toList.take 4).drop j)=s[j].toNat+256*v:=by
    have hjl:j < (s.data.toList.take 4).length:=by omega
    rw[List.drop_eq_getElem_cons hjl,leV,hv];congr 2;rw[List.getElem_take];simp[ByteArray.getElem_eq_getElem_data]
   have HN:=Jh hn;clear hn hv hvl;go_wp2_with fail
   go_roundg j
   case measure=>omega
   case rel=>exact ⟨_,by omega,by go_num,rfl,HN.out,rfl⟩
  ·obtain rfl:gk=0:=by omega
   have el:decide ((0:Int)≤((0:Nat):Int) - 1)=false:=by simp
   rw[List.drop_zero,HFIN.out] at hv;subst hv;go_wp2_with fail
   go_ret
   exact ⟨rfl,rfl⟩
theorem Qoc {w:World} {b:Nat} {l:List Txt} (h:Blk w b 9 (l.map txtV).toArray):Strs w (some ⟨b,0,none⟩) l.length l:=
 ⟨rfl,fun _=>⟨b,0,rfl,h.lt,fun i x hx j v hv=>by
  match j,hv with
  | 0,hv=>
   injection hv with hv;subst hv;have h1:=h.cell i;have h2:(l.map txtV).toArray[i]? = some (txtV x):=by simp[hx]
   simpa[h2] using h1
  | j+1,hv=>simp[enc1] at hv⟩⟩
theorem Qki {a b:ByteArray} (h:a.data.toList=b.data.toList):a=b:=by
 cases a;cases b
 simp at h;rw[h]
theorem Qfl (s:ByteArray) (k:Nat):(s.extract 0 k).data.toList=s.data.toList.take k:=by
 simp only[ByteArray.data_extract,Array.toList_extract];simp
theorem Qdw (s:ByteArray) (k:Nat):(s.extract k s.size).data.toList=s.data.toList.drop k:=by
 simp only[ByteArray.data_extract,Array.toList_extract];rw[←Kaj,List.extract_eq_take_drop,List.take_of_length_le];simp
theorem Kdu.lt {w:World} (h:Kdu w):7 < w.heap.size:=Kaf (h 0 (by decide))
theorem Kzf {w:World} {b:Nat} {S:ByteArray} (h:Blk w b 9 #[.string S]):Strs w (some ⟨b,0,none⟩) 1 [S.data.toList]:=Qoc (by unfold txtV;exact h)
theorem Qbz {w:World} {b c:Nat} {S:ByteArray} (h:Blk w b 9 #[.string S]) (hS:S.size≤140737488355328) (hT:Kdu w) :
  Calls Tryz.prog 93 #[.slice (some ⟨b,0,none⟩) 1 c] w fun e w'=>e = .returned (.int .u32 (crcL S.data.toList:Nat))∧w=w':=by
 have h1:=Qgm (some ⟨b,0,none⟩) 1 c [S.data.toList] w (Kzf h) (by decide) (fun s hs=>by rw[List.mem_singleton.1 hs,Kaj];exact hS) hT;have e:[S.data.toList].flatten=S.data.toList:=by simp
 rw[e] at h1;exact h1
theorem Qff (s:ByteArray) (hs:s.size≤140737488351232) (w:World) (hT:Kdu w) :
  Calls Tryz.prog 38 #[.string s] w fun e w'=>e = .returned (.string ⟨(sealT s.data.toList).toArray⟩)∧Below w.heap.size w w':=by
 obtain ⟨w1,hw1⟩:∃x,w.alloc (.cells #[.string s] 9)=x:=⟨_,rfl⟩;have hb1:Below w.heap.size w w1:=by rw[←hw1];exact (Below.refl _ _).alloc (Nat.le_refl _) _
 have hk1:Blk w1 w.heap.size 9 #[.string s]:=by rw[←hw1];exact Blk.new _ _ _
 have HC:=Jh (Qbz (c:=1) hk1 (by omega) (hT.below hT.lt hb1));have HF:=Jh (fun w=>Qea (crcL s.data.toList) (Qby _) w);have HW:=Jh hw1;obtain ⟨F,hF⟩:∃F:ByteArray,(⟨(fourT (crcL s.data.toList)).toArray⟩:ByteArray)=F:=⟨_,rfl⟩;have hF4:F.size=4:=by rw[←hF];rfl
 have hfin:s++F=(⟨(sealT s.data.toList).toArray⟩:ByteArray):=Qki (by rw[←hF];simp[sealT,ByteArray.data_append]);rw[hF] at HF;have HFIN:=Jh hfin;clear hw1 hk1 hfin hF;go_enter Tryz.func38,Tryz.ntmps38
 go_wp2_with fail
 rw[HW.out];refine HC.out.mono ?_;rintro _ w2 ⟨rfl,rfl⟩;go_wp2_with fail
 refine (HF.out w1).mono ?_;rintro _ w2 ⟨rfl,hb2⟩;go_wp2_with fail
 rw[HFIN.out];go_ret
 exact ⟨rfl,then_ hb1 hb2⟩
theorem Kzp (s:ByteArray) (hs:s.size≤140737488351232) (w:World) (hT:Kdu w) :
  Calls Tryz.prog 43 #[.string s] w fun e w'=>e = .returned (match Kco s.data.toList with | .ok b=>.tuple #[.string ⟨b.toArray⟩,.int .i64 0] | .error c=>.tuple #[.string ⟨#[]⟩,.int .i64 (c:Int)])∧Below w.heap.size w w':=by
 obtain ⟨n,hn⟩:∃n,s.size=n:=⟨_,rfl⟩;have HN:=Jh hn
 by_cases h4:n < 4
 ·have d1:decide ((n:Int) - 4 < 0)=true:=by simp;omega
  have hu:Kco s.data.toList = .error 20:=by unfold Kco;rw[if_pos (by rw[Kaj];omega)]
  rw[hu];clear hu;go_enter Tryz.func43,Tryz.ntmps43
  go_wp2_with fail
  go_ret2
  exact ⟨rfl,Below.refl _ _⟩
 ·obtain ⟨m,rfl⟩:∃m,n=m+4:=⟨n - 4,by omega⟩;have ej:((m+4:Nat):Int) - 4=(m:Int):=by omega
  have d1:decide ((m:Int) < 0)=false:=by simp
  obtain ⟨X,hX⟩:∃X,s.extract 0 m=X:=⟨_,rfl⟩;obtain ⟨Y,hY⟩:∃Y,s.extract m (m+4)=Y:=⟨_,rfl⟩;have hXl:X.data.toList=s.data.toList.take m:=by rw[←hX];exact Qfl s m
  have hYl:Y.data.toList=s.data.toList.drop m:=by rw[←hY,←hn];exact Qdw s m
  have hXs:X.size=m:=by rw[←Kaj,hXl,List.length_take,Kaj];omega
  have hYs:Y.size=4:=by rw[←Kaj,hYl,List.length_drop,Kaj];omega
  have hu:Kco s.data.toList=if crcL X.data.toList=numT Y.data.toList then .ok X.data.toList else .error 22:=by
   unfold Kco;rw[Kaj,hn,if_neg (by omega),show m+4 - 4=m by omega,←hXl,←hYl]
  have HU:=Jh hu;have HM:=Jh (fun w'=>Kxb Y (by omega) (by omega) w');have hb1:Below w.heap.size w (w.alloc (.cells #[.string X] 9)).drew:=((Below.refl _ _).alloc (Nat.le_refl _) _).drew;have hk1:Blk (w.alloc (.cells #[.string X] 9)).drew w.heap.size 9 #[.string X]:=Blk.new _ _ _;have HC:=Jh (Qbz (c:=1) hk1 (by omega) (hT.below hT.lt hb1));have HB:=Jh hb1;clear hk1;have HX:=Jh hX;have HY:=Jh hY;obtain ⟨c1,hc1⟩:∃c,crcL X.data.toList=c:=⟨_,rfl⟩;obtain ⟨c2,hc2⟩:∃c,numT Y.data.toList=c:=⟨_,rfl⟩;rw[hc1] at HC;rw[hc2] at HM;rw[hc1,hc2] at HU;rw[hu,hc1,hc2];clear hb1 hu hc1 hc2 hXl hYl;go_enter Tryz.func43,Tryz.ntmps43
  have b0:(0:Int)≤(m:Int):=by omega
  have b1:(m:Int)≤(s.size:Int):=by omega
  have b2:(m:Int)≤((m+4:Nat):Int):=by omega
  have b3:(m:Int)≤(m:Int)+4:=by omega
  have b4:m≤s.size:=by omega
  have b5:m≤m+4:=by omega
  go_upto_region 4 with fail
  go_region_held3 (fun _=>True) (go_keep) (first | (go_at_call 93;(try rw[HX.out]);with_reducible refine HC.out.mono ?_;rintro e w2 ⟨rfl,rfl⟩) | (go_at_call 97;(try rw[HY.out]);with_reducible refine (HM.out _).mono ?_;rintro e w3 ⟨rfl,rfl⟩))
  by_cases hcc:c1=c2
  ·subst hcc;have e1:((c1:Int) != (c1:Int))=false:=by simp
   have hfin:(match (if c1=c1 then Except.ok X.data.toList else Except.error 22:Except Nat (List UInt8)) with | .ok b=>Value.tuple #[.string ⟨b.toArray⟩,.int .i64 0] | .error c=>.tuple #[.string ⟨#[]⟩,.int .i64 (c:Int)]) = .tuple #[.string X,.int .i64 0]:=by rw[if_pos rfl]
   have HFIN:=Jh hfin;clear hfin;go_wp2_with fail
   go_ret2
   exact ⟨congrArg Ending.returned HFIN.out.symm,HB.out⟩
  ·have e1:((c1:Int) != (c2:Int))=true:=by simp;omega
   go_wp2_with fail
   go_ret2
   exact ⟨by first | rfl | (rw[if_neg hcc];rfl),HB.out⟩
end
section
open Go.RowKit
theorem Qku {w w1:World} {pr:Nat} {v:Value} (h:Below w.heap.size w w1):Kept w.heap.size [pr] w (w1.setCell ⟨pr,1,none⟩ v):=(Kept.of_below h).setCell (p:=⟨pr,1,none⟩) (.inl (by simp)) v
theorem Kcq {w w':World} (h:Below w.drew.heap.size w.drew w'):Below w.heap.size w w':=⟨h.os,h.tape,h.output,h.size,h.block⟩
theorem Rdr.set {pr i j:Nat} {S:ByteArray} {w w1:World} (h:Rdr pr S i w) (hb:Below w.heap.size w w1):Rdr pr S j (w1.setCell ⟨pr,1,none⟩ (.int .i64 ((j:Nat):Int))):=
 (Blk.below (show Blk w _ _ _ from h) hb (Blk.lt (show Blk w _ _ _ from h))).set_ 1 _
theorem Rdr.lt {pr i:Nat} {S:ByteArray} {w:World} (h:Rdr pr S i w):pr < w.heap.size:=Blk.lt (show Blk w _ _ _ from h)
theorem Rdr.below {pr i:Nat} {S:ByteArray} {w w':World} (h:Rdr pr S i w) (hb:Below w.heap.size w w'):Rdr pr S i w':=Blk.below (show Blk w _ _ _ from h) hb h.lt
def TkV (pr:Nat) (S:ByteArray) (w:World) (r:Option (Value×Nat)) (e:Ending) (w':World):Prop:=match r with
 | some (v,j)=>e = .returned v∧Rdr pr S j w'∧Kept w.heap.size [pr] w w'
 | none=>(∃f,f≠0∧e=Kaz f)∧Below w.heap.size w w'
theorem Kzk {pr i:Nat} {S:ByteArray} {w w':World} {e:Ending} {v:Value} {j:Nat} (h:Rdr pr S i w) (ht:RdTk pr w (fun v' j' _=>v'=v∧j'=j) False e w'):TkV pr S w (some (v,j)) e w':=by
 rcases ht with ⟨v',j',w1,rfl,⟨rfl,rfl⟩,hb,rfl⟩ | ⟨hno,_⟩
 ·exact ⟨rfl,h.set hb,Qku hb⟩
 ·exact hno.elim
theorem Kzj {pr:Nat} {S:ByteArray} {w w':World} {e:Ending} (ht:RdTk pr w (fun _ _ _=>False) True e w'):TkV pr S w none e w':=by
 rcases ht with ⟨v',j',w1,rfl,hno,_⟩ | ⟨_,f,hf,rfl,hb⟩
 ·exact hno.elim
 ·exact ⟨⟨f,hf,rfl⟩,hb⟩
theorem Kjw (pr i:Nat) (S:ByteArray) (w:World) (h:Rdr pr S i w) (hS:S.size≤1099511627776) :
  Calls Tryz.prog 47 #[.pointer (some ⟨pr,0,none⟩),.func (.func 48) #[] #[]] w (TkV pr S w ((ruAt S.data.toList i).map fun x=>(.int .u64 (x.1:Int),x.2))):=by
 have hS2:S.size≤140737488351232:=by omega
 rcases Kgk S.data.toList i with ⟨v,j,h1,h2,h3⟩ | ⟨v,j,e,h1,h2,h3⟩
 ·rw[h2];refine (Kog pr i S w h (fun v' j' _=>v' = .int .u64 (v:Int)∧j'=j) False ((Kao S (i:Int) v j 0 h1 hS2 w.drew).mono ?_)).mono fun e w' ht=>Kzk h ht
  rintro e w' ⟨rfl,rfl⟩;exact ⟨Kcq (Below.refl _ _),.inl ⟨_,j,rfl,rfl,rfl⟩⟩
 ·rw[h3];refine (Kog pr i S w h (fun _ _ _=>False) True ((Kao S (i:Int) v j e h1 hS2 w.drew).mono ?_)).mono fun e w' ht=>Kzj ht
  rintro en w' ⟨rfl,rfl⟩;exact ⟨Kcq (Below.refl _ _),.inr ⟨trivial,_,_,e,h2,rfl⟩⟩
theorem Kpg (s:List UInt8) (i:Nat):(∃v j,Kar s (i:Int)=(v,j,0)∧riAt s i=some (unzig v,j)∧v < 2 ^ 64)∨(∃v j e,Kar s (i:Int)=(v,j,e)∧e≠0∧riAt s i=none):=by
 rw[Kfw];unfold riAt readI outOf
 cases hr:readU (s.drop i) with
 | error c=>exact .inr ⟨0,0,c,rfl,Kfh hr,rfl⟩
 | ok x=>exact .inl ⟨x.1,i+x.2,rfl,rfl,(Key hr).1⟩
theorem Kvy (pr i:Nat) (S:ByteArray) (w:World) (h:Rdr pr S i w) (hS:S.size≤1099511627776) :
  Calls Tryz.prog 101 #[.pointer (some ⟨pr,0,none⟩),.func (.func 102) #[] #[]] w (TkV pr S w ((riAt S.data.toList i).map fun x=>(.int .i64 x.1,x.2))):=by
 have hS2:S.size≤140737488351232:=by omega
 rcases Kpg S.data.toList i with ⟨v,j,h1,h2,h3⟩ | ⟨v,j,e,h1,h2,h3⟩
 ·rw[h2];refine (Koc pr i S w h (fun v' j' _=>v' = .int .i64 (unzig v)∧j'=j) False ((Kfk S (i:Int) v j 0 h1 hS2 w.drew).mono ?_)).mono fun e w' ht=>Kzk h ht
  rintro e w' ⟨rfl,rfl⟩;exact ⟨Kcq (Below.refl _ _),.inl ⟨_,j,rfl,rfl,rfl⟩⟩
 ·rw[h3];refine (Koc pr i S w h (fun _ _ _=>False) True ((Kfk S (i:Int) v j e h1 hS2 w.drew).mono ?_)).mono fun e w' ht=>Kzj ht
  rintro en w' ⟨rfl,rfl⟩;exact ⟨Kcq (Below.refl _ _),.inr ⟨trivial,_,_,e,h2,rfl⟩⟩
theorem Ksr (pr i:Nat) (S:ByteArray) (w:World) (h:Rdr pr S i w) (hS:S.size≤1099511627776) :
  Calls Tryz.prog 106 #[.pointer (some ⟨pr,0,none⟩),.func (.func 98) #[] #[]] w (TkV pr S w (if (Kbk S.data.toList i).2.2=0 then some (txtV (Kbk S.data.toList i).1,(Kbk S.data.toList i).2.1) else none)):=by
 have hS2:S.size≤140737488351232:=by omega
 obtain ⟨x,j,e,h1⟩:∃x j e,Kbk S.data.toList (i:Int)=(x,j,e):=⟨_,_,_,rfl⟩;rw[h1];dsimp only
 by_cases he:e=0
 ·subst he;rw[if_pos rfl];refine (Koe pr i S w h (fun v' j' _=>v'=txtV x∧j'=j) False ((Kgi S (i:Int) x j 0 h1 hS2 w.drew).mono ?_)).mono fun e w' ht=>Kzk h ht
  rintro e w' ⟨rfl,rfl⟩;exact ⟨Kcq (Below.refl _ _),.inl ⟨_,j,rfl,rfl,rfl⟩⟩
 ·rw[if_neg he];refine (Koe pr i S w h (fun _ _ _=>False) True ((Kgi S (i:Int) x j e h1 hS2 w.drew).mono ?_)).mono fun e w' ht=>Kzj ht
  rintro en w' ⟨rfl,rfl⟩;exact ⟨Kcq (Below.refl _ _),.inr ⟨trivial,_,_,e,he,rfl⟩⟩
end
section
open Go.RowKit Go.Sort
attribute [local go_sem ↓] Go.wp_at_zero Go.wp_at_succ
attribute [local go_sem] Later.cell
theorem Kke:∀a b:Txt,Lib.compareBytes a b=if a < b then -1 else if b < a then 1 else 0
 | [],[]=>by simp[Lib.compareBytes]
 | [],_ :: _=>by simp[Lib.compareBytes]
 | _ :: _,[]=>by simp[Lib.compareBytes]
 | x :: a,y :: b=>by
  have ih:=Kke a b;rw[Lib.compareBytes]
  by_cases h1:x < y
  ·have:x :: a < y :: b:=List.cons_lt_cons_iff.2 (.inl h1);rw[if_pos h1,if_pos this]
  ·by_cases h2:y < x
   ·have h3:y :: b < x :: a:=List.cons_lt_cons_iff.2 (.inl h2);have h4:¬x :: a < y :: b:=fun h=>List.lt_asymm h h3
    rw[if_neg h1,if_pos h2,if_neg h4,if_pos h3]
   ·have e:x=y:=UInt8.le_antisymm (UInt8.not_lt.1 h2) (UInt8.not_lt.1 h1);subst e;rw[if_neg h1,if_neg h1,ih];have e1:(x :: a < x :: b)↔a < b:=by rw[List.cons_lt_cons_iff];simp
    have e2:(x :: b < x :: a)↔b < a:=by rw[List.cons_lt_cons_iff];simp
    by_cases h3:a < b
    ·rw[if_pos h3,if_pos (e1.2 h3)]
    ·rw[if_neg h3,if_neg (fun h=>h3 (e1.1 h))]
     by_cases h4:b < a
     ·rw[if_pos h4,if_pos (e2.2 h4)]
     ·rw[if_neg h4,if_neg (fun h=>h4 (e2.1 h))]
def cmp1 (x y:Lb):Int:=if Lib.compareBytes x.n y.n≠0 then Lib.compareBytes x.n y.n else Lib.compareBytes x.v y.v
theorem Qgj (x y:Lb) (a b:List Lb):cmpL (x :: a) (y :: b)=if cmp1 x y≠0 then cmp1 x y else cmpL a b:=by
 rw[cmpL];unfold cmp1;rw[Kke x.n y.n,Kke x.v y.v]
 by_cases h1:x.n < y.n
 ·simp[h1]
 ·by_cases h2:y.n < x.n
  ·simp[h1,h2]
  ·by_cases h3:x.v < y.v
   ·simp[h1,h2,h3]
   ·by_cases h4:y.v < x.v
    ·simp[h1,h2,h3,h4]
    ·simp[h1,h2,h3,h4]
set_option maxHeartbeats 400000 in
theorem Qio (g:Nat) (a b:Int) (w:World) (hq:Blk w g 3 #[.int .i64 a,.int .i64 b]) :
  Calls Tryz.prog 133 #[.slice (some ⟨g,0,none⟩) 2 2] w fun e w'=>e = .returned (.int .i64 (if a≠0 then a else b))∧w=w':=by
 have q0:w.cell? ⟨g,0,none⟩=some (Value.int .i64 a):=hq.cell 0;have q1:w.cell? ⟨g,1,none⟩=some (Value.int .i64 b):=hq.cell 1;clear hq
 by_cases h0:a=0
 ·subst h0;rw[if_neg (by simp)]
  by_cases h1:b=0
  ·subst h1;go_enter Tryz.func133,Tryz.ntmps133
   go_wp2_with fail
   refine wp_loop_rounds 3 ?_;rw[rounds_succ];go_wp2_with fail
   rw[rounds_succ];go_wp2_with fail
   rw[rounds_succ];go_wp2_with fail
   go_ret
   exact ⟨rfl,rfl⟩
  ·have e1:(b != 0)=true:=by simp[h1]
   go_enter Tryz.func133,Tryz.ntmps133
   go_wp2_with fail
   refine wp_loop_rounds 3 ?_;rw[rounds_succ];go_wp2_with fail
   rw[rounds_succ];go_wp2_with fail
   go_ret
   exact ⟨rfl,rfl⟩
 ·rw[if_pos h0];have e1:(a != 0)=true:=by simp[h0]
  go_enter Tryz.func133,Tryz.ntmps133
  go_wp2_with fail
  refine wp_loop_rounds 3 ?_;rw[rounds_succ];go_wp2_with fail
  go_ret
  exact ⟨rfl,rfl⟩
end
section
open Go.RowKit Go.Sort
open Lib renaming hid → Jh
attribute [local go_sem ↓] Go.wp_at_zero Go.wp_at_succ
def Grown (w w':World):Prop:=∃p:GrownBy,w'=grow (w.drewN p.n) p.os
section
variable {w w1 w2 : World}
theorem Grown.of (w:World) (q:Nat) (os:Array Obj):Grown w (grow (w.drewN q) os):=⟨⟨q,os⟩,rfl⟩
theorem Grown.refl (w:World):Grown w w:=⟨⟨0,#[]⟩,by rw[grow_empty];rfl⟩
theorem Grown.trans (h:Grown w w1) (k:Grown w1 w2):Grown w w2:=by
 obtain ⟨p,rfl⟩:=h;obtain ⟨q,rfl⟩:=k;exact ⟨⟨p.n+q.n,p.os++q.os⟩,by show grow (grow ((w.drewN p.n).drewN q.n) p.os) q.os=_;rw[grow_grow,World.drewN_drewN]⟩
theorem Grown.below (h:Grown w w1):Below w.heap.size w w1:=by
 obtain ⟨p,rfl⟩:=h;exact below_grown w p.n p.os
theorem Grown.alloc (h:Grown w w1) (o:Obj):Grown w (w1.alloc o):=h.trans ⟨⟨0,#[o]⟩,by rw[alloc_eq_grow];rfl⟩
theorem Grown.drew (h:Grown w w1):Grown w w1.drew:=h.trans ⟨⟨1,#[]⟩,by rw[grow_empty];rfl⟩
end
structure Ken (w0:World) where
 w:World
 h:Grown w0 w
instance Ken.some {w:World}:Nonempty (Ken w):=⟨⟨w,Grown.refl _⟩⟩
theorem Ken.cell {w:World} (x:Ken w) (b o:Nat) (hb:b < w.heap.size):x.w.cell? ⟨b,o,none⟩=w.cell? ⟨b,o,none⟩:=x.h.below.cell (p:=⟨b,o,none⟩) hb
attribute [local go_sem] Ken.cell
theorem Kyl {P:Program} {f:FuncId} {args:Array Value} {w:World} (x:Ken w) {v:Value} (h:Calls P f args x.w fun e w'=>e = .returned v∧Grown x.w w') :
  Calls P f args x.w fun e w''=>e = .returned v∧∃y:Ken w,w''=y.w:=
 h.mono fun _ w' ⟨he,hb⟩=>⟨he,⟨w',x.h.trans hb⟩,rfl⟩
theorem Qbc {P:Program} {f:FuncId} {args:Array Value} {w:World} (x:Ken w) {v:Value} (h:Calls P f args x.w fun e w'=>e = .returned v∧x.w=w') :
  Calls P f args x.w fun e w''=>e = .returned v∧∃y:Ken w,w''=y.w:=
 h.mono fun _ _ ⟨he,hb⟩=>⟨he,x,hb.symm⟩
theorem Kka {P:Program} {id:Nat} {Q:Exit→Act→World→Prop} {a:Act} {w:World} {l:List Oper} (n:Nat) (hm:P.follows .mixedOrders=true) (hB:Region.lexTailB .any l.toArray n=true)
  (h:wpQuiet P l.toArray (fun w'=>∃x:Ken w,w'=x.w) (fun a'=>∀w',(∃x:Ken w,w'=x.w)→wpList P l.toArray Q (l.drop n) a' w') (l.take n) a):(Code.region id l.toArray true).wp P Q a w:=
 Kgb (C:=fun w'=>∃x:Ken w,w'=x.w) n hm hB ⟨⟨w.drew,(Grown.refl _).drew⟩,rfl⟩ h
theorem Qmz (x y:Lb) (W:World) :
  Calls Tryz.prog 134 #[.agg #[.string ⟨x.n.toArray⟩,.string ⟨x.v.toArray⟩],.agg #[.string ⟨y.n.toArray⟩,.string ⟨y.v.toArray⟩]] W fun e w'=>e = .returned (.int .i64 (Lib.compareBytes x.n y.n))∧Grown W w':=by
 refine (Kig x y W).mono ?_;rintro e w' ⟨he,q,os,rfl⟩;exact ⟨he,Grown.of _ _ _⟩
theorem Kpt (x y:Lb) (w:World) :
  Calls Tryz.prog 132 #[.agg #[.string ⟨x.n.toArray⟩,.string ⟨x.v.toArray⟩],.agg #[.string ⟨y.n.toArray⟩,.string ⟨y.v.toArray⟩]] w fun e w'=>e = .returned (.int .i64 (cmp1 x y))∧Grown w w':=by
 obtain ⟨ca,hca⟩:∃ca,Lib.compareBytes x.n y.n=ca:=⟨_,rfl⟩;obtain ⟨cb,hcb⟩:∃cb,Lib.compareBytes x.v y.v=cb:=⟨_,rfl⟩
 have hbn:∀W:World,Calls Tryz.prog 134 #[.agg #[.string ⟨x.n.toArray⟩,.string ⟨x.v.toArray⟩],.agg #[.string ⟨y.n.toArray⟩,.string ⟨y.v.toArray⟩]] W fun e w'=>e = .returned (.int .i64 ca)∧Grown W w':=fun W=>by
  have:=Qmz x y W;rwa[hca] at this
 have hco:∀W:World,Calls Tryz.prog 71 #[.string ⟨x.v.toArray⟩,.string ⟨y.v.toArray⟩] W fun e w'=>e = .returned (.int .i64 cb)∧W=w':=fun W=>by
  refine (Tryz.strings_Compare ⟨x.v.toArray⟩ ⟨y.v.toArray⟩ W).mono ?_;rintro e w' ⟨rfl,rfl⟩;exact ⟨by rw[←hcb],rfl⟩
 have hr:cmp1 x y=if ca≠0 then ca else cb:=by unfold cmp1;rw[hca,hcb]
 obtain ⟨rr,hrr⟩:∃rr,(if ca≠0 then ca else cb)=rr:=⟨_,rfl⟩;rw[hr,hrr];have HRR:=Jh hrr;clear hca hcb hr hrr;obtain ⟨N,hN⟩:∃N:ByteArray,(⟨x.n.toArray⟩:ByteArray)=N:=⟨_,rfl⟩;obtain ⟨V,hV⟩:∃N:ByteArray,(⟨x.v.toArray⟩:ByteArray)=N:=⟨_,rfl⟩;obtain ⟨N2,hN2⟩:∃N:ByteArray,(⟨y.n.toArray⟩:ByteArray)=N:=⟨_,rfl⟩;obtain ⟨V2,hV2⟩:∃N:ByteArray,(⟨y.v.toArray⟩:ByteArray)=N:=⟨_,rfl⟩;rw[hN,hV,hN2,hV2] at hbn ⊢;rw[hV,hV2] at hco;have HBN:=Jh hbn;have HCO:=Jh hco;clear hN hV hN2 hV2 hbn hco;go_enter Tryz.func132,Tryz.ntmps132
 go_upto_region 1 with fail
 obtain ⟨w1,hw1⟩:∃x,(w.alloc (.cells #[.string N,.string V] 106)).alloc (.cells #[.string N2,.string V2] 106)=x:=⟨_,rfl⟩;have hb1:Grown w w1:=by rw[←hw1];exact ((Grown.refl _).alloc _).alloc _
 have hq:Blk w1 w.heap.size 106 #[.string N,.string V]:=by rw[←hw1];exact (Blk.new _ _ _).alloc _
 have hp:Blk w1 (w.heap.size+1) 106 #[.string N2,.string V2]:=by rw[←hw1];exact Blk.newAt (by simp)
 rw[hw1];obtain ⟨a,hA⟩:∃a,w.heap.size=a:=⟨_,rfl⟩;rw[hA] at hq hp ⊢;clear hw1;have q0:_=some (Value.string N):=hq.cell 0;have q1:_=some (Value.string V):=hq.cell 1;have p0:_=some (Value.string N2):=hp.cell 0;have p1:_=some (Value.string V2):=hp.cell 1;have hql:=hq.lt;have hpl:=hp.lt;refine Kka 8 (by kernel_rfl) (by kernel_rfl) ?_;simp only[List.take_succ_cons,List.take_zero,List.drop_succ_cons,List.drop_zero]
 repeat (go_big_quiet_step ((first | (go_at_call 134;exact Kyl _ (HBN.out _)) | (go_at_call 71;exact Qbc _ (HCO.out _)))))
 refine wpQuiet_nil ?_;rintro w2 ⟨⟨_,hb2⟩,rfl⟩;have hB2:Grown w w2:=hb1.trans hb2;go_wp2_with fail
 have hg:Blk (w2.alloc (.cells #[.int .i64 ca,.int .i64 cb] 3)) w2.heap.size 3 #[.int .i64 ca,.int .i64 cb]:=Blk.new _ _ _;refine (Qio _ ca cb _ hg).mono ?_;rintro _ w3 ⟨rfl,rfl⟩;rw[HRR.out];go_wp2_with fail
 go_ret
 exact ⟨rfl,by first | exact hB2.alloc _ | (rw[←hA];exact hB2.alloc _)⟩
theorem Klp (l m:List Lb) (A B:Option Addr) (n k ca cb:Nat) (w:World) (r:Int) (hr:cmpL l m=r) (hA:Elems w w.heap.size 2 encLb A n l) (hB:Elems w w.heap.size 2 encLb B k m) (hn:n≤140737488351232) (hk:k≤140737488351232) :
  Calls Tryz.prog 131 #[.slice A n ca,.slice B k cb,.func (.func 132) #[] #[]] w fun e w'=>e = .returned (.int .i64 r)∧Grown w w':=by
 have hl:=hA.len;have hm:=hB.len;have HL:=Jh hl;have HM:=Jh hm;have HR:=Jh hr;clear hl hm hr;go_enter Tryz.func131,Tryz.ntmps131
 go_wp2_with fail
 go_loopg [13] n (fun g s13 wr=>∃i:Nat,i+g=n∧s13 = .int .i64 (i:Int)∧Grown w wr∧i≤k∧cmpL (l.drop i) (m.drop i)=r)
 case atStart=>exact ⟨0,by omega,rfl,Grown.refl _,Nat.zero_le _,HR.out⟩
 case round=>
  obtain ⟨i,hig,rfl,hBw,hik,hcr⟩:=hrel;have HIG:=Jh hig;have HCR:=Jh hcr;clear hig hcr
  by_cases hi:i < n
  ·have el:decide ((i:Int) < (n:Int))=true:=by simp;omega
   have el':decide (i < n)=true:=by simp;omega
   have hil:i < l.length:=by have:=HL.out;omega
   have hdl:l.drop i=l[i]! :: l.drop (i+1):=by rw[getElem!_pos l i hil];exact List.drop_eq_getElem_cons hil
   obtain ⟨ba,oa,rfl,_,_⟩:=hA.2 (by omega);obtain ⟨hba,a0,a1⟩:=Kdi hA (by omega) hBw.below i hil;obtain ⟨X,hX⟩:∃N:ByteArray,(⟨l[i]!.n.toArray⟩:ByteArray)=N:=⟨_,rfl⟩;obtain ⟨Y,hY⟩:∃N:ByteArray,(⟨l[i]!.v.toArray⟩:ByteArray)=N:=⟨_,rfl⟩;have HX:=Jh hX;have HY:=Jh hY;have HDL:=Jh hdl;rw[hX] at a0;rw[hY] at a1;clear hX hY hdl
   by_cases hk2:i < k
   ·have eg:decide ((k:Int)≤(i:Int))=false:=by simp;omega
    have eg':decide (k≤i)=false:=by simp;omega
    have him:i < m.length:=by have:=HM.out;omega
    have hdm:m.drop i=m[i]! :: m.drop (i+1):=by rw[getElem!_pos m i him];exact List.drop_eq_getElem_cons him
    obtain ⟨bb,ob,rfl,_,_⟩:=hB.2 (by omega);have hcmp:=fun W=>Kpt l[i]! m[i]! W
    obtain ⟨X2,hX2⟩:∃N:ByteArray,(⟨m[i]!.n.toArray⟩:ByteArray)=N:=⟨_,rfl⟩;obtain ⟨Y2,hY2⟩:∃N:ByteArray,(⟨m[i]!.v.toArray⟩:ByteArray)=N:=⟨_,rfl⟩;have HX2:=Jh hX2;have HY2:=Jh hY2;have hcr:=HCR.out;rw[HDL.out,hdm,Qgj] at hcr;obtain ⟨c,hc⟩:∃c,cmp1 l[i]! m[i]! = c:=⟨_,rfl⟩;simp only[HX.out,HY.out,hX2,hY2,hc] at hcmp;rw[hc] at hcr;have HCMP:=Jh hcmp;have HC1:=Jh hcr;clear hX2 hY2 hcmp hcr hc hdm;go_upto_region 4 with fail
    obtain ⟨w1,hw1⟩:∃x,wr.alloc (.cells #[.string X,.string Y] 106)=x:=⟨_,rfl⟩;have hB1:Grown w w1:=by rw[←hw1];exact hBw.alloc _
    have hq:Blk w1 wr.heap.size 106 #[.string X,.string Y]:=by rw[←hw1];exact Blk.new _ _ _
    rw[hw1];obtain ⟨p,hp⟩:∃p,wr.heap.size=p:=⟨_,rfl⟩;rw[hp] at hq ⊢;obtain ⟨hbb,b0,b1⟩:=Kdi hB (by omega) hB1.below i him;rw[HX2.out] at b0;rw[HY2.out] at b1;clear hw1 hp a0 a1 hBw;go_upto_region 7 with fail
    obtain ⟨w2,hw2⟩:∃x,w1.alloc (.cells #[.string X2,.string Y2] 106)=x:=⟨_,rfl⟩;have hB2:Grown w w2:=by rw[←hw2];exact hB1.alloc _
    have hq2:Blk w2 p 106 #[.string X,.string Y]:=by rw[←hw2];exact hq.alloc _
    have hr2:Blk w2 w1.heap.size 106 #[.string X2,.string Y2]:=by rw[←hw2];exact Blk.new _ _ _
    rw[hw2];obtain ⟨p2,hp2⟩:∃p,w1.heap.size=p:=⟨_,rfl⟩;rw[hp2] at hr2 ⊢;clear hw2 hp2 b0 b1 hB1 hq;have q0:_=some (Value.string X):=hq2.cell 0;have q1:_=some (Value.string Y):=hq2.cell 1;have r0:_=some (Value.string X2):=hr2.cell 0;have r1:_=some (Value.string Y2):=hr2.cell 1;go_wp2_with fail
    refine (HCMP.out w2).mono ?_;rintro _ w3 ⟨rfl,hb3⟩;have hB3:=hB2.trans hb3
    by_cases h0:c=0
    ·subst h0;have h1:=HC1.out;rw[if_neg (by simp)] at h1;have HC2:=Jh h1;clear h1;go_wp2_with fail
     go_roundg (gk - 1)
     case measure=>have:=HIG.out;omega
     case rel=>exact ⟨i+1,by have:=HIG.out;omega,by go_num,hB3,by omega,HC2.out⟩
    ·have e0:(c != 0)=true:=by simp[h0]
     have h1:=HC1.out;rw[if_pos h0] at h1;have HC2:=Jh h1;clear h1;go_wp2_with fail
     go_ret
     exact ⟨by rw[←HC2.out];rfl,hB3⟩
   ·have eg:decide ((k:Int)≤(i:Int))=true:=by simp;omega
    have eg':decide (k≤i)=true:=by simp;omega
    have hdm:m.drop i = []:=List.drop_eq_nil_of_le (by have:=HM.out;omega);have hcr:=HCR.out;rw[HDL.out,hdm] at hcr;have h1:(1:Int)=r:=hcr;have H1:=Jh h1;clear hdm hcr h1;go_wp2_with fail
    go_ret
    exact ⟨by rw[←H1.out];rfl,hBw.alloc _⟩
  ·have hin:i=n:=by have:=HIG.out;omega
   subst hin;have hdl:l.drop i = []:=List.drop_eq_nil_of_le (by have:=HL.out;omega);have hcr:=HCR.out;rw[hdl] at hcr;have el:decide ((i:Int) < (i:Int))=false:=by simp
   by_cases hk2:i < k
   ·have eg:decide ((i:Int) < (k:Int))=true:=by simp;omega
    have eg':decide (i < k)=true:=by simp;omega
    have him:i < m.length:=by have:=HM.out;omega
    have hdm:m.drop i=m[i] :: m.drop (i+1):=List.drop_eq_getElem_cons him;rw[hdm] at hcr;have h1:(-1:Int)=r:=hcr;have H1:=Jh h1;clear hdm hcr h1 hdl;go_wp2_with fail
    go_ret
    exact ⟨by rw[←H1.out];rfl,hBw⟩
   ·have eg:decide ((i:Int) < (k:Int))=false:=by simp;omega
    have eg':decide (i < k)=false:=by simp;omega
    have hdm:m.drop i = []:=List.drop_eq_nil_of_le (by have:=HM.out;omega);rw[hdm] at hcr;have h1:(0:Int)=r:=hcr;have H1:=Jh h1;clear hdm hcr h1 hdl;go_wp2_with fail
    go_ret
    exact ⟨by rw[←H1.out];rfl,hBw⟩
set_option maxHeartbeats 400000 in
theorem Kiy (l m:List Lb) (A B:Option Addr) (n k ca cb:Nat) (w:World) (r:Int) (hr:cmpL l m=r) (hA:Elems w w.heap.size 2 encLb A n l) (hB:Elems w w.heap.size 2 encLb B k m) (hn:n≤140737488351232) (hk:k≤140737488351232) :
  Calls Tryz.prog 77 #[.slice A n ca,.slice B k cb] w fun e w'=>e = .returned (.int .i64 r)∧Grown w w':=by
 have HC:=Jh (Klp l m A B n k ca cb w r hr hA hB hn hk);clear hr;go_enter Tryz.func77,Tryz.ntmps77
 go_wp2_with fail
 refine HC.out.mono ?_;rintro _ w1 ⟨rfl,hb⟩;go_wp2_with fail
 go_ret
 exact ⟨rfl,hb⟩
end
section
open Go.RowKit Go.Shelf Go.Sort
theorem Klx {α : Type} {enc:α→List Value} {k:Nat} (hk:∀x,(enc x).length=k) (l:List α):(l.flatMap enc).length=l.length*k:=by
 induction l with
 | nil=>simp
 | cons x l ih=>rw[List.flatMap_cons,List.length_append,ih,hk,List.length_cons,Nat.succ_mul];omega
theorem Kgh {α : Type} {enc:α→List Value} {k:Nat} (hk:∀x,(enc x).length=k):∀(l:List α) (i j:Nat) (x:α),l[i]? = some x→j < k→(l.flatMap enc)[i*k+j]? = (enc x)[j]?
 | [],_,_,_,h,_=>by simp at h
 | y :: l,0,j,x,h,hj=>by
  simp only[List.getElem?_cons_zero,Option.some.injEq] at h;subst h;rw[List.flatMap_cons,List.getElem?_append_left (by rw[hk];omega),Nat.zero_mul,Nat.zero_add]
 | y :: l,i+1,j,x,h,hj=>by
  rw[List.flatMap_cons,List.getElem?_append_right (by rw[hk,Nat.succ_mul];omega),hk,show (i+1)*k+j - k=i*k+j by rw[Nat.succ_mul];omega];exact Kgh hk l i j x (by simpa using h) hj
theorem Ktn {α : Type} [Inhabited α] {enc:α→List Value} {k:Nat} (hk:∀x,(enc x).length=k) (h0:0 < k) {l:List α} {t:Nat} (h:t < l.length*k):(l.flatMap enc)[t]? = some ((enc l[t / k]!)[t % k]!):=by
 have hl:t / k < l.length:=Nat.div_lt_of_lt_mul (by rw[Nat.mul_comm];exact h);have h1:l[t / k]? = some l[t / k]!:=by rw[getElem!_pos l _ hl,List.getElem?_eq_getElem hl]
 have h2:=Kgh hk l (t / k) (t % k) _ h1 (Nat.mod_lt _ h0);rw[show t / k*k+t % k=t by rw[Nat.mul_comm];exact Nat.div_add_mod t k] at h2;have h3:t % k < (enc l[t / k]!).length:=by rw[hk];exact Nat.mod_lt _ h0
 rw[h2,List.getElem?_eq_getElem h3,getElem!_pos (enc l[t / k]!) _ h3]
section
variable {α : Type} [Inhabited α] {enc : α → List Value} {k : Nat} {w : World} {B g n cap : Nat} {T : TypeId} {l : List α}
theorem Kpz (hk:∀x,(enc x).length=k) (h0:0 < k) (hown:w.ownsRow B T k (.slice (some ⟨g,0,none⟩) n cap) n (l.flatMap enc)) (hl:l.length=n):HoldsK enc k w g 0 l.toArray:=by
 rcases hown.2 with ⟨he,_⟩ | ⟨g',cap',cur,he,h1,h2,h3,h4,h5,h6⟩
 ·cases he
 ·injection he with he _ hcc;injection he with he;injection he with he _ _;subst he hcc;intro t ht;rw[size_flatK] at ht;have ht':t < l.length*k:=by simpa using ht
  refine ⟨?_,by simp[World.frozen?,h2]⟩;rw[get_flatK _ _ _ _ ht,Nat.zero_add,cell_of_row w g t cur _ (0,0) h2]
  have e1:cur[t]? = (l.flatMap enc)[t]?:=by
   rw[←h6,List.getElem?_take_of_lt (by rw[hl] at ht';exact ht')];simp
  rw[e1,Ktn hk h0 ht'];simp only[List.getElem!_toArray,id]
theorem Kje (enc:α→List Value) (k:Nat) (w:World) (blk off n:Nat) (d:Array α) (os:Array Obj):w.grownBy (sortWorldK enc k w blk off n d os) (some blk):=by
 refine ⟨rfl,rfl,rfl,?_,?_⟩
 ·simp[sortWorldK,grow,putRowK,putRow,mapBlock,Sort.ahead]
 ·intro j hj hne;have hb:¬blk=j:=fun e=>hne (by rw[e])
  simp only[sortWorldK,grow,putRowK,putRow,mapBlock,Sort.ahead];rw[Array.getElem?_append_left (by simpa using hj),Array.getElem?_modify,if_neg hb]
theorem Kqn (hk:∀x,(enc x).length=k) (h0:0 < k) (hown:w.ownsRow B T k (.slice (some ⟨g,0,none⟩) n cap) n (l.flatMap enc)) (hl:l.length=n) (d:Array α) (hd:d.size=n) (m:Nat) (os:Array Obj) :
  (sortWorldK enc k w g 0 m d os).ownsRow B T k (.slice (some ⟨g,0,none⟩) n cap) n (d.toList.flatMap enc):=by
 have hlt:=World.ownsRow.lt hown g rfl;rcases hown.2 with ⟨he,_⟩ | ⟨g',cap',cur,he,h1,h2,h3,h4,h5,h6⟩
 ·cases he
 ·injection he with he _ hcc;injection he with he;injection he with he _ _;subst he hcc;refine ⟨by rw[Klx hk];simp[hd],.inr ⟨g,cap,putCells id 0 (flatK enc k d) cur,rfl,h1,?_,h3,h4,by simp[putCells,h5],?_⟩⟩
  ·simp only[sortWorldK,grow,putRowK,putRow,mapBlock,Sort.ahead];rw[Array.getElem?_append_left (by simpa using hlt.2),Array.getElem?_modify,if_pos rfl,h2];rfl
  ·apply List.ext_getElem?;intro t
   by_cases ht:t < n*k
   ·rw[List.getElem?_take_of_lt ht,Ktn hk h0 (by simpa[hd] using ht)];have htc:t < cur.size:=by rw[h5];exact Nat.lt_of_lt_of_le ht (Nat.mul_le_mul_right k h3)
    have hts:t < (flatK enc k d).size:=by rw[size_flatK,hd];exact ht
    simp only[putCells,Array.getElem?_toList,Array.getElem?_mapIdx,Array.getElem?_eq_getElem htc,Option.map_some];rw[if_pos ⟨Nat.zero_le _,by simpa using hts⟩,Nat.sub_zero,get_flatK _ _ _ _ (by rw[hd];exact ht)];congr 2;have hq:t / k < d.size:=Nat.div_lt_of_lt_mul (by rw[Nat.mul_comm,hd];exact ht);rw[getElem!_pos d _ hq,getElem!_pos d.toList _ (by simpa using hq)];simp
   ·rw[List.getElem?_eq_none (by rw[List.length_take];omega),List.getElem?_eq_none (by rw[Klx hk];simp[hd];omega)]
theorem Kqr {d:Array α} (hl:l.length=n) (h:PermIn 0 n l.toArray d):d.size=n∧d.toList.Perm l:=by
 obtain ⟨hsz,_,hpm⟩:=h;have hsz':d.size=n:=by rw[hsz];simpa using hl
 refine ⟨hsz',?_⟩;have e1:(d.extract 0 n)=d:=by rw[←hsz'];simp
 have e2:(l.toArray.extract 0 n)=l.toArray:=by rw[←hl];simp
 rw[e1,e2] at hpm;simpa using hpm
theorem Kqq {d:Array α} {lt:α→α→Bool} (hd:d.size=n) (h:SortedIn lt 0 n d):d.toList.Pairwise fun a b=>lt b a=false:=by
 rw[List.pairwise_iff_getElem];intro i j hi hj hij;have hi':i < d.size:=by simpa using hi
 have hj':j < d.size:=by simpa using hj
 have:=h i j (Nat.zero_le _) hij (by omega);rw[getElem!_pos d j hj',getElem!_pos d i hi'] at this;exact this
end
end
section
open Go.RowKit Go.Shelf Go.Sort
attribute [local go_sem ↓] Go.wp_at_zero Go.wp_at_succ
attribute [local go_sem] Later.cell
def Kac (s:Spn):List Value:=[.int .i64 s.frm,.int .i64 s.to_]
instance:Inhabited Spn:=⟨⟨0,0⟩⟩
theorem Kcj (s:Spn):(Kac s).length=2:=rfl
theorem Kpw:∀s:Spn,∀v∈Kac s,v.oneCell'=true:=by
 intro s v hv;simp only[Kac,List.mem_cons,List.not_mem_nil,or_false] at hv;rcases hv with rfl | rfl <;> rfl
theorem Kfl (l:List Spn):(l.flatMap Kac).length=l.length*2:=Klx Kcj l
theorem Kxo:(Tryz.prog.info? 109).map (fun i=>(i.zero,i.size,i.bytes))=some (some (.agg #[.int .i64 0,.int .i64 0]),2,16):=by kernel_rfl
theorem Kli (a:Int) (w:World):Calls Tryz.prog 198 #[.int .i64 a] w fun e w'=>e = .returned (.bool false)∧w=w':=by
 have n1:(a != a)=false:=by simp
 go_enter Tryz.func198,Tryz.ntmps198
 go_wp2
 go_ret
 exact ⟨by simp,rfl⟩
def cmpI (a b:Int):Int:=if a < b then -1 else if b < a then 1 else 0
theorem Qag (a b:Int) (w:World):Calls Tryz.prog 147 #[.int .i64 a,.int .i64 b] w fun e w'=>e = .returned (.int .i64 (cmpI a b))∧w=w':=by
 have h1:=fun W=>Kli a W
 have h2:=fun W=>Kli b W
 unfold cmpI;rcases (by omega:a < b∨b < a∨a=b) with h | h | h
 ·rw[if_pos h];have d1:decide (a < b)=true:=decide_eq_true h;go_enter Tryz.func147,Tryz.ntmps147
  go_wp2_with fail
  refine (h1 _).mono ?_;rintro _ w1 ⟨rfl,rfl⟩;go_wp2_with fail
  refine (h2 _).mono ?_;rintro _ w1 ⟨rfl,rfl⟩;go_wp2_with fail
  go_ret
  exact ⟨rfl,rfl⟩
 ·have hn:¬a < b:=by omega
  rw[if_neg hn,if_pos h];have d1:decide (a < b)=false:=decide_eq_false hn;have d2:decide (b < a)=true:=decide_eq_true h;have hle:b≤a:=by omega
  have hne:¬a=b:=by omega
  go_enter Tryz.func147,Tryz.ntmps147
  go_wp2_with fail
  refine (h1 _).mono ?_;rintro _ w1 ⟨rfl,rfl⟩;go_wp2_with fail
  refine (h2 _).mono ?_;rintro _ w1 ⟨rfl,rfl⟩;go_wp2_with fail
  go_ret
  exact ⟨rfl,rfl⟩
 ·subst h;rw[if_neg (by omega),if_neg (by omega)];have d1:decide (a < a)=false:=decide_eq_false (by omega);go_enter Tryz.func147,Tryz.ntmps147
  go_wp2_with fail
  refine (h1 _).mono ?_;rintro _ w1 ⟨rfl,rfl⟩;go_wp2_with fail
  refine (h2 _).mono ?_;rintro _ w1 ⟨rfl,rfl⟩;go_wp2_with fail
  go_ret
  exact ⟨rfl,rfl⟩
def cfS (x y:Spn):Int:=cmpI x.frm y.frm
theorem ltS (x y:Spn):ltOf cfS x y=decide (x.frm < y.frm):=by
 unfold ltOf cfS cmpI;rw[decide_eq_decide]
 split
 ·simp_all
 ·split
  ·simp;omega
  ·simp;omega
theorem swoS:SWO (ltOf cfS) where
 irrefl x:=by rw[ltS];simp
 trans x y z h1 h2:=by
  rw[ltS,decide_eq_true_eq] at h1 h2 ⊢;omega
 ntrans x y z h1 h2:=by
  rw[ltS,decide_eq_false_iff_not] at h1 h2 ⊢;omega
theorem Qbi (x y:Spn) (W:World) :
  Calls Tryz.prog 146 #[.agg (Kac x).toArray,.agg (Kac y).toArray] W fun e w'=>e = .returned (.int .i64 (cfS x y))∧∃q os',w'=grow (W.drewN q) os':=by
 suffices h:Calls Tryz.prog 146 #[.agg (Kac x).toArray,.agg (Kac y).toArray] W fun e w'=>e = .returned (.int .i64 (cfS x y))∧Grown W w' by
  refine h.mono ?_;rintro e w' ⟨he,⟨p,hp⟩⟩;exact ⟨he,p.n,p.os,hp⟩
 obtain ⟨a,b⟩:=x;obtain ⟨c,d⟩:=y;unfold Kac cfS;have HC:=Lib.hid (fun w:World=>Qag a c w);go_enter Tryz.func146,Tryz.ntmps146
 go_wp2_with fail
 refine (HC.out _).mono ?_;rintro _ w' ⟨rfl,rfl⟩;go_wp2_with fail
 go_ret
 exact ⟨rfl,((Grown.refl _).alloc _).alloc _⟩
def badS (s:Spn):Bool:=decide (s.to_ < s.frm)
theorem Kra (x:Spn) (W:World):Calls Tryz.prog 144 #[.agg (Kac x).toArray] W fun e w'=>e = .returned (.bool (badS x))∧Grown W w':=by
 obtain ⟨a,b⟩:=x;obtain ⟨r,hr⟩:∃r,badS ⟨a,b⟩=r:=⟨_,rfl⟩;rw[hr];unfold Kac;have hr2:decide (b < a)=r:=hr;go_enter Tryz.func144,Tryz.ntmps144
 go_wp2_with fail
 go_ret
 exact ⟨by rw[←hr2];rfl,(Grown.refl _).alloc _⟩
theorem Qji {l:List Spn} {b off n:Nat} {w:World} (h:Elems w w.heap.size 2 Kac (some ⟨b,off,none⟩) n l) (hn:0 < n) (t:Nat) (ht:t < l.length*2):w.cell? ⟨b,off+t,none⟩=(l.flatMap Kac)[t]?:=by
 obtain ⟨b',off',e,_,hc⟩:=h.2 hn;injection e with e;injection e with e1 e2;subst e1 e2;have hl:t / 2 < l.length:=by omega
 have h1:l[t / 2]? = some l[t / 2]!:=by rw[getElem!_pos l _ hl,List.getElem?_eq_getElem hl]
 have h2:t % 2 < (Kac l[t / 2]!).length:=by rw[Kcj];omega
 have:=hc (t / 2) _ h1 (t % 2) _ (List.getElem?_eq_getElem h2);have h3:=Kgh Kcj l (t / 2) (t % 2) _ h1 (by omega);rw[show t / 2*2+t % 2=t by omega] at h3;rw[h3,List.getElem?_eq_getElem h2,←this];congr 2;omega
theorem Kry (l:List Spn) (A:Option Addr) (n c:Nat) (w:World) (h:Elems w w.heap.size 2 Kac A n l) (hn:n≤1099511627776) (h0:0 < n) :
  Calls Tryz.prog 143 #[.slice A n c] w fun e w'=>∃v,e = .returned v∧w'.ownsRow w.heap.size 109 2 v n (l.flatMap Kac)∧Below w.heap.size w w':=by
 have hl:=h.len;obtain ⟨b,off,rfl,_,_⟩:=h.2 h0;obtain ⟨i0,hi0,hz0,hz1,hz2⟩:=info_parts Kxo
 have hcon:=AnyE.slices_Clone Tryz.laysCS i0 _ 2 16 hi0 hz0 hz1 hz2 rfl (by omega) Tryz.sizeOf109 b off n c (l.flatMap Kac) w (by rw[Kfl,hl]) (by unfold maxLen;omega) (by omega)
  (fun j u hu=>by
   have hj:=(List.getElem?_eq_some_iff.1 hu).1;rw[Kfl] at hj
   rw[Qji h h0 j hj];exact hu)
  (fun u hu=>by
   obtain ⟨x,_,hx⟩:=List.mem_flatMap.1 hu
   exact Kpw x u hx)
 refine hcon.mono ?_;rintro e w' ⟨v',rfl,hown,hne,hb⟩;exact ⟨v',rfl,hown,hb⟩
theorem Kps (A:Option Addr) (c:Nat) (w:World) :
  Calls Tryz.prog 143 #[.slice A 0 c] w fun e w'=>(∃A' c',e = .returned (.slice A' 0 c'))∧Below w.heap.size w w':=by
 cases A with
 | none=>
  refine (AnyE.slices_Clone_nil Tryz.laysCS 0 c w).mono ?_;rintro e w' ⟨rfl,rfl⟩;exact ⟨⟨none,0,rfl⟩,Below.refl _ _⟩
 | some a=>
  have q81:∀(w:World) (a:Option Addr) (n c n' c':Nat),(binOp .eql 81 (.slice a n c) (.slice none n' c')).run Tryz.prog w = .ok (.bool a.isNone) w:=fun w a n c n' c'=>Lib.run_eql_slice_nil w _ _ a n c n' c' Tryz.underlying81
  go_enter Tryz.func143,Tryz.ntmps143
  go_wp2_with fail
  go_ret
  exact ⟨⟨_,_,rfl⟩,(Below.refl _ _).alloc (Nat.le_refl _) _⟩
theorem Ksq (l:List Spn) (B:Nat) (v:Value) (w:World) (h:w.ownsRow B 109 2 v l.length (l.flatMap Kac)) (hn:l.length≤1099511627776) :
  Calls Tryz.prog 145 #[v,.func (.func 146) #[] #[]] w fun e w'=>e = .returned (.tuple #[])∧∃l':List Spn,l'.Perm l∧(l'.Pairwise fun a b=>¬b.frm < a.frm)∧w'.ownsRow B 109 2 v l'.length (l'.flatMap Kac)∧w.grownBy w' v.ownBlock:=by
 have hsl:(l = []∧v = .slice none 0 0)∨∃g c,v = .slice (some ⟨g,0,none⟩) l.length c:=by
  rcases h.2 with ⟨h1,h0⟩ | ⟨g,cap,cur,h1,_⟩
  ·exact .inl ⟨List.eq_nil_of_length_eq_zero h0,h1⟩
  ·exact .inr ⟨g,cap,h1⟩
 rcases hsl with ⟨rfl,rfl⟩ | ⟨g,c,rfl⟩
 ·refine (AnyF.slices_SortFunc_none Tryz.laysSFS none 0 _ w).mono ?_;rintro e w' ⟨rfl,rfl⟩;exact ⟨rfl,[],.refl _,List.Pairwise.nil,h,⟨rfl,rfl,rfl,Nat.le_refl _,fun _ _ _=>rfl⟩⟩
 ·have hlt:=World.ownsRow.lt h g rfl;have eg:∀args w,(callFunc 146 args).run Tryz.prog w = .ok (.enter 146 args) w:=enters_of Tryz.func146 (by kernel_rfl) rfl;have hcon:=AnyQ.slices_SortFunc Tryz.laysSFS 2 Tryz.isAgg109 Tryz.sizeOf109 Kac Kcj Kpw cfS swoS 146 #[] g 0 c l.toArray w eg (fun _ _ _ _ x y=>Qbi x y _) (Kpz Kcj (by decide) h rfl) hlt.2 (by simp;omega);simp only[List.size_toArray] at hcon;refine hcon.mono ?_;rintro e w' ⟨rfl,d',m,os,hp,hs,rfl⟩;obtain ⟨hsz,hpm⟩:=Kqr rfl hp;refine ⟨rfl,d'.toList,hpm,?_,?_,Kje _ _ _ _ _ _ _ _⟩
  ·refine (Kqq hsz hs).imp ?_;intro a b hab;rw[ltS,decide_eq_false_iff_not] at hab;exact hab
  ·have:=Kqn Kcj (by decide) h rfl d' hsz m os;rw[show d'.toList.length=l.length by simpa using hsz];exact this
end
end Go.Proofs.YtefpndiiedkmpaaGreatDoor
