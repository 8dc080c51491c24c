/- Merged (what the claim wants of): KptFitE, Builder2, ChunkIter, BlkPartsW, KptEncA, KptEncB, BlkSize3, KptSize, KptDecA. -/
import Derived.Test.YtefpndiiedkmpaaGreatDoorKpw08
import Derived.Test.YtefpndiiedkmpaaGreatDoorKpw02
import Derived.Test.YtefpndiiedkmpaaGreatDoorKpw01
import Derived.RangeFuncBox
import Derived.RangeFuncLeaves
import Derived.Shelf.Abstract
import Derived.WalkKit
import Derived.OwnWalkIn
import Derived.TacticsInMore
import Derived.LoopNIn
import Derived.LoopIn
import Derived.RegionIn
import Derived.BigRegionIn
import Derived.Shelf.RegionOpen
import Derived.Maps.AppendAt
import Derived.Test.YtefpndiiedkmpaaGreatDoorKpw03
import Derived.Test.YtefpndiiedkmpaaGreatDoorKpw04
import Derived.RangeFuncCalls
import Derived.RangeFuncBound
import Derived.RangeFuncNested
import Derived.Test.YtefpndiiedkmpaaGreatDoorKpw06
import Derived.Deep.AppendLies
set_option linter.unusedVariables false
set_option linter.unusedSimpArgs false
set_option maxRecDepth 100000
set_option maxHeartbeats 8000000
namespace Go.Proofs.YtefpndiiedkmpaaGreatDoor
section
open Go.RowKit Go.Shelf Go.Sort
open Lib renaming hid → Jh
attribute [local go_sem ↓] Go.wp_at_zero Go.wp_at_succ
attribute [local go_sem] Later.cell
theorem Kiw (L:List KSer) (A:Option Addr) (n c:Nat) (w:World) (hS:KSers w A n L) (hz:∀s∈L,KSz s) (hn:n≤1099511627776) :
  Calls Tryz.prog 78 #[.slice A n c,.func (.func 79) #[] #[]] w fun e w'=>e = .returned (.bool (!L.all Kdh))∧Below w.heap.size w w':=by
 have HI:=Jh (Kxw L A n c w hS hz hn);clear hS hz;obtain ⟨R,hR⟩:∃R,L.all Kdh=R:=⟨_,rfl⟩;rw[hR];have HR:=Jh hR;clear hR;go_enter Tryz.func78,Tryz.ntmps78
 go_wp2_with fail
 refine HI.out.mono ?_;rintro _ w1 ⟨⟨k,rfl,hk1,hk2,hk3⟩,hb1⟩;have HB1:=Jh hb1;clear hb1
 cases R with
 | true=>
  have hk:k = -1:=hk3.2 (List.all_eq_true.1 HR.out);subst hk;clear hk1 hk2 hk3;go_wp2_with fail
  go_ret
  exact ⟨rfl,HB1.out⟩
 | false=>
  have hk:0≤k:=by
   rcases (by omega:k = -1∨0≤k) with h | h
   ·have h2:=List.all_eq_true.2 (hk3.1 h);rw[HR.out] at h2;cases h2
   ·exact h
  have d1:decide (0≤k)=true:=decide_eq_true hk;have d2:decide (k < 0)=false:=decide_eq_false (by omega);clear hk3;go_wp2_with fail
  go_ret
  exact ⟨rfl,HB1.out⟩
theorem Qfx {l:List (List Lb)} (hs:l.Pairwise fun a b=>¬cmpL b a < 0):l.Nodup↔∀i,0 < i→i < l.length→cmpL l[i - 1]! l[i]!≠0:=by
 have hp:=List.pairwise_iff_getElem.1 hs;constructor
 ·intro hn i h0 hi he;have:=List.pairwise_iff_getElem.1 hn (i - 1) i (by omega) hi (by omega);rw[getElem!_pos l (i - 1) (by omega),getElem!_pos l i hi] at he;exact this (Kgs he)
 ·intro h;refine List.pairwise_iff_getElem.2 fun i j hi hj hij he=>?_
  have key:∀d (hd:i+d+1 < l.length),cmpL l[i] (l[i+d+1]'hd) < 0:=by
   intro d
   induction d with
   | zero=>
    intro hd;have h1:=hp i (i+1) hi hd (by omega);have h2:=h (i+1) (by omega) hd;rw[Nat.add_sub_cancel,getElem!_pos l i hi,getElem!_pos l (i+1) hd] at h2;have h3:=Kfq l[i] (l[i+1]'hd);simp only[Nat.add_zero];omega
   | succ d ih=>
    intro hd;have h0:=ih (by omega);have h1:=hp (i+d+1) (i+d+1+1) (by omega) hd (by omega);have h2:=h (i+d+1+1) (by omega) hd;rw[Nat.add_sub_cancel,getElem!_pos l (i+d+1) (by omega),getElem!_pos l (i+d+1+1) hd] at h2;have h3:=Kfq (l[i+d+1]'(by omega)) (l[i+d+1+1]'hd);have e:i+(d+1)+1=i+d+1+1:=by omega
    simp only[e];exact Khl h0 (by omega)
  have hk:=key (j - i - 1) (by omega);have e:i+(j - i - 1)+1=j:=by omega
  simp only[e] at hk;rw[he,Kiu] at hk;omega
theorem flatH:∀hs:List Hd,hs.flatMap encH=hs.map fun h=>Value.slice h.A h.n h.c
 | []=>rfl
 | h :: t=>by rw[List.flatMap_cons,flatH t];rfl
theorem Kxh {w0:World} {B:Nat}:∀xs:List (LH w0 B),(xs.flatMap fun x=>[encLH x])=xs.map encLH
 | []=>rfl
 | h :: t=>by rw[List.flatMap_cons,Kxh t];rfl
theorem Kqg {w0:World} {B:Nat} {l':List (LH w0 B)} {i:Nat} (hi:i < l'.length):(l'.map LH.l)[i]! = l'[i]!.l:=by
 rw[getElem!_pos (l'.map LH.l) i (by simpa using hi),getElem!_pos l' i hi,List.getElem_map]
theorem Qel (L:List KSer) (A:Option Addr) (n c:Nat) (w:World) (hS:KSers w A n L) (hz:∀s∈L,KSz s) (hn:n≤1099511627776) :
  Calls Tryz.prog 26 #[.slice A n c] w fun e w'=>e = .returned (.bool (fitK L))∧Below w.heap.size w w':=by
 obtain ⟨R,hR⟩:∃R,fitK L=R:=⟨_,rfl⟩;have hfe:fitK L=(L.all Kdh && decide (setsK L).Nodup):=rfl;rw[hR] at hfe ⊢;have HFE:=Jh hfe;have HS:=Jh hS;have HZ:=Jh hz;have HK:=Jh (Knp L A n c w hS hn);have HLN:Hid (L.length=n):=Jh (by obtain ⟨_,_,h,_⟩:=hS;exact h);clear hS hz hR hfe;go_enter Tryz.func26,Tryz.ntmps26
 go_wp2_with fail
 refine HK.out.mono ?_;rintro _ w1 ⟨⟨v,hs,rfl,hr,hsl,hse⟩,hb1⟩;have HB1:=Jh hb1
 obtain ⟨xs,hxn,hxh,hxl⟩:∃xs:List (LH w w.heap.size),xs.length=n∧(∀i,i < n→xs[i]!.h=hs[i]!)∧xs.map LH.l=setsK L:=by
  refine ⟨List.ofFn fun i:Fin n=>⟨hs[i.1]!,L[i.1]!.labels,(hse i.1 i.2).1,?_⟩,by simp,fun i hi=>?_,?_⟩
  ·have h1:=(hse i.1 i.2).1.len;have h2:=HZ.out L[i.1]! (by rw[getElem!_pos L i.1 (by rw[HLN.out];exact i.2)];exact List.getElem_mem _);have:=h2.l;omega
  ·rw[getElem!_pos _ i (by simpa using hi),List.getElem_ofFn]
  ·apply List.ext_getElem (by simp[setsK,HLN.out]);intro i h1 h2;have hi:i < n:=by simpa using h1
   simp only[setsK,List.getElem_map,List.getElem_ofFn];rw[getElem!_pos L i (by rw[HLN.out];exact hi)]
 have hflat:hs.flatMap encH=xs.flatMap fun x=>[encLH x]:=by
  rw[flatH,Kxh];apply List.ext_getElem (by simp[hsl,hxn]);intro i h1 h2;have hi:i < n:=by simpa[hsl] using h1
  rw[List.getElem_map,List.getElem_map];have:=hxh i hi;rw[getElem!_pos xs i (by omega),getElem!_pos hs i (by omega)] at this;unfold encLH;rw[this]
 rw[hflat] at hr;have HXN:=Jh hxn;have HXL:=Jh hxl
 have HND:Hid (n=0→(setsK L).Nodup):=Jh fun h=>by
  have:L = []:=List.eq_nil_of_length_eq_zero (by rw[HLN.out];exact h);rw[this];exact List.nodup_nil
 clear hb1 hsl hse hxn hxh hxl hflat;rcases Nat.eq_zero_or_pos n with h0 | h0
 ·subst h0
  obtain ⟨A1,c1,rfl⟩:∃A1 c1,v = .slice A1 0 c1:=by
   rcases hr.2 with ⟨h,_⟩ | ⟨g,c,cur,h,_⟩
   ·exact ⟨_,_,h⟩
   ·exact ⟨_,_,h⟩
  clear hr;go_wp2_with fail
  refine (AnyF.slices_SortFunc_none Tryz.laysSFH A1 c1 _ w1).mono ?_;rintro _ w2 ⟨rfl,rfl⟩;go_wp2_with fail
  go_loopg [4] 0 (fun gg s4 wr=>s4 = .int .i64 1∧wr=w2)
  case atStart=>exact ⟨rfl,rfl⟩
  case round=>
   obtain ⟨rfl,rfl⟩:=hrel;have HC:=Jh (Kiw L A 0 c wr (HS.out.below HB1.out) HZ.out hn);have hfe:=HFE.out;rw[decide_eq_true (by first | exact HND.out trivial | exact HND.out rfl | exact HND.out),Bool.and_true] at hfe;rw[←hfe] at HC;clear hfe;go_wp2_with fail
   refine HC.out.mono ?_;rintro _ w3 ⟨rfl,hb3⟩;have HB3:=Jh (HB1.out.trans (hb3.mono HB1.out.size));clear hb3;go_wp2_with fail
   go_ret
   exact ⟨by simp,HB3.out⟩
 ·obtain ⟨g,cap,rfl⟩:∃g cap,v = .slice (some ⟨g,0,none⟩) n cap:=by
   rcases hr.2 with ⟨_,h⟩ | ⟨g,cap,cur,h,_⟩
   ·omega
   ·exact ⟨g,cap,h⟩
  have HSO:=Jh (Ksp xs g cap n w1 hr HXN.out hn HB1.out (Nat.le_refl _));clear hr;go_wp2_with fail
  refine HSO.out.mono ?_;rintro _ w2 ⟨rfl,l',hpm,hsd,hr2,hb2⟩;have hln:l'.length=n:=by rw[hpm.length_eq];exact HXN.out
  have hnd:(setsK L).Nodup↔∀i,0 < i→i < n→cmpL l'[i - 1]!.l l'[i]!.l≠0:=by
   have h1:(l'.map LH.l).Perm (setsK L):=by rw[←HXL.out];exact hpm.map _
   rw[←h1.nodup_iff,Qfx (List.pairwise_map.2 (hsd.imp fun h=>by omega)),List.length_map,hln];constructor
   ·intro h i hi0 hin;have:=h i hi0 hin;rwa[Kqg (by omega),Kqg (by omega)] at this
   ·intro h i hi0 hin;rw[Kqg (by omega),Kqg (by omega)];exact h i hi0 hin
  have HND2:=Jh hnd;have HLN2:=Jh hln;have HR2:=Jh hr2;have HB2:=Jh (HB1.out.trans hb2);clear hpm hsd hr2 hb2 hln hnd HSO;go_wp2_with fail
  go_loopg [4] n (fun gg s4 wr=>∃k:Nat,s4 = .int .i64 (k:Int)∧(0 < k∧k≤n∧n≤k+gg)∧(∀j,0 < j→j < k→cmpL l'[j - 1]!.l l'[j]!.l≠0)∧Below w2.heap.size w2 wr)
  case atStart=>exact ⟨1,rfl,⟨by omega,by omega,by omega⟩,(fun j h1 h2=>by omega),Below.refl _ _⟩
  case round=>
   obtain ⟨k,rfl,hk,hall,hb⟩:=hrel;have HK1:=Jh hk;have HA:=Jh hall;have HB:=Jh hb;obtain ⟨hk0,hkn,hkg⟩:=hk;clear hall hb;obtain ⟨wo,rfl⟩:∃x,x=wr:=⟨_,rfl⟩;have HBo:=Jh (HB2.out.trans (HB.out.mono HB2.out.size))
   by_cases hi:k < n
   ·have el:decide (k < n)=true:=by rw[decide_eq_true_eq];exact hi
    have hi2:(k:Int) < (n:Int):=by omega
    have hro:wo.ownsRow w.heap.size 80 1 (.slice (some ⟨g,0,none⟩) n cap) n (l'.flatMap fun x=>[encLH x]):=Kdk HR2.out HB.out;have hgo:=(World.ownsRow.lt hro g rfl).2;obtain ⟨j,hj⟩:∃j,j+1=k:=⟨k - 1,by omega⟩
    have gx:∀i,i < n→wo.cell? ⟨g,i,none⟩=some (.slice l'[i]!.h.A l'[i]!.h.n l'[i]!.h.c):=fun i hi=>by
     rw[World.ownsRow.cellAt hro i (by omega),Kxh,List.getElem?_map,List.getElem?_eq_getElem (by rw[HLN2.out];exact hi),getElem!_pos l' i (by rw[HLN2.out];exact hi)];rfl
    have c0:=gx j (by omega);have c1:=gx k hi;obtain ⟨x,hx⟩:∃x,l'[j]! = x:=⟨_,rfl⟩;obtain ⟨y,hy⟩:∃y,l'[k]! = y:=⟨_,rfl⟩;rw[hx] at c0;rw[hy] at c1;obtain ⟨r,hr⟩:∃r,cmpL x.l y.l=r:=⟨_,rfl⟩;have HRR:Hid (cmpL l'[k - 1]!.l l'[k]!.l=r):=Jh (by rw[show k - 1=j by omega,hx,hy];exact hr);have HCM:=Jh (fun u:Later wo=>(Kiy x.l y.l x.h.A y.h.A x.h.n y.h.n x.h.c y.h.c u.w r hr ((x.ok.below (HBo.out.trans (u.h.mono HBo.out.size))).more (HBo.out.trans (u.h.mono HBo.out.size)).size) ((y.ok.below (HBo.out.trans (u.h.mono HBo.out.size))).more (HBo.out.trans (u.h.mono HBo.out.size)).size) x.n y.n).mono fun e w' (h:e = .returned (.int .i64 r)∧Grown u.w w')=>(⟨h.1,h.2.below⟩:e = .returned (.int .i64 r)∧Below u.w.heap.size u.w w'));have z1:IntKind.i64.wrap ((k:Int) - 1)=(j:Int):=by rw[show (k:Int) - 1=(j:Int) by omega];exact IntWalk.i64_in _ (by omega)
    have z7:j < n:=by omega
    have z8:(j:Int) < (n:Int):=by omega
    have z9:(0:Int)≤(j:Int):=by omega
    obtain ⟨xA,hxA⟩:∃z,x.h.A=z:=⟨_,rfl⟩;obtain ⟨xn,hxn⟩:∃z,x.h.n=z:=⟨_,rfl⟩;obtain ⟨xc,hxc⟩:∃z,x.h.c=z:=⟨_,rfl⟩;obtain ⟨yA,hyA⟩:∃z,y.h.A=z:=⟨_,rfl⟩;obtain ⟨yn,hyn⟩:∃z,y.h.n=z:=⟨_,rfl⟩;obtain ⟨yc,hyc⟩:∃z,y.h.c=z:=⟨_,rfl⟩;rw[hxA,hxn,hxc,hyA,hyn,hyc] at HCM;rw[hxA,hxn,hxc] at c0;rw[hyA,hyn,hyc] at c1;clear gx hro hx hy hr hxA hxn hxc hyA hyn hyc hj;go_upto_region 6 with fail
    refine Kab (by kernel_rfl) (by kernel_rfl) ?_
    repeat (go_big_quiet_step ((go_at_call 77;exact Kbe _ (HCM.out _))))
    refine wpQuiet_nil ?_;rintro wz ⟨⟨_,hbz⟩,rfl⟩;have HBZ:=Jh (HB.out.trans (hbz.mono HB.out.size));clear hbz c0 c1
    by_cases hr0:r=0
    ·have hre:R=false:=by
      rw[HFE.out];have:¬(setsK L).Nodup:=fun h=>HND2.out.1 h k hk0 hi (HRR.out.trans hr0)
      rw[decide_eq_false this,Bool.and_false]
     have HBF:=Jh (HB2.out.trans (HBZ.out.mono HB2.out.size));subst hr0;subst hre;go_wp2_with fail
     go_ret
     exact ⟨rfl,HBF.out⟩
    ·have e1:decide (r=0)=false:=decide_eq_false hr0;have e2:(r == 0)=false:=beq_eq_false_iff_ne.2 hr0
     have HN:=Jh (show ∀jj,0 < jj→jj < k+1→cmpL l'[jj - 1]!.l l'[jj]!.l≠0 from fun jj h1 h2=>by
      by_cases hjk:jj=k
      ·rw[hjk,HRR.out];exact hr0
      ·exact HA.out jj h1 (by omega))
     go_wp2_with fail
     go_roundg (gk - 1)
     case measure=>omega
     case rel=>exact ⟨k+1,by first | rfl | go_num,⟨by omega,by omega,by omega⟩,HN.out,HBZ.out⟩
   ·have el:decide (k < n)=false:=by rw[decide_eq_false_iff_not];exact hi
    have hkn2:k=n:=by omega
    have hnd:(setsK L).Nodup:=HND2.out.2 fun i h1 h2=>HA.out i h1 (by omega)
    have HC:=Jh (Kiw L A n c wo (HS.out.below HBo.out) HZ.out hn);have hfe:=HFE.out;rw[decide_eq_true hnd,Bool.and_true] at hfe;rw[←hfe] at HC;clear hfe hnd;go_wp2_with fail
    refine HC.out.mono ?_;rintro _ w3 ⟨rfl,hb3⟩;have HB3:=Jh (HBo.out.trans (hb3.mono HBo.out.size));clear hb3;go_wp2_with fail
    go_ret
    exact ⟨by simp,HB3.out⟩
end
section
open Go.Shelf Go.RowKit
open Lib renaming hid → Jh
attribute [local go_sem ↓] Go.wp_at_zero Go.wp_at_succ
theorem Kng {P:Program} (w:World) (base:Nat) (t u ty e:TypeId) (i:TypeInfo) (ht:P.underlying t=some (.slice e)) (hu:P.underlying u=some .string) (hi:P.info? e=some i) (hz:i.zero=some (.int .u8 0))
  (hsize:i.size=1) (hby:i.bytes=1) (v:Value) (n:Nat) (xs:List Value) (hown:w.ownsRowF base e 1 v n xs) (s:ByteArray)
  (h63:n+s.size≤maxLen) (hbytes:n+s.size≤140737488355328) (hbase:base≤w.heap.size) :
  ∃v' w',(Builtin.append_ #[t,u] ty #[v,.string s]).run P w = .ok v' w'∧w'.ownsRowF base e 1 v' (n+s.size) (xs++Lib.strCells s)∧w.grownBy w' v.ownBlock∧
   (v' = .slice none 0 0↔v = .slice none 0 0∧s.size=0)∧(∀k,v'.ownBlock=some k→v.ownBlock=some k∨w.heap.size≤k):=by
 obtain ⟨v',w',h1,h2,h3,h4⟩:=Lib.run_append_own_stringF (P:=P) w base t u ty e i ht hu hi hz hsize hby v n xs hown s h63 hbytes hbase;refine ⟨v',w',h1,h2,h3,h4,fun k hk=>?_⟩;rcases hown.2 with ⟨rfl,rfl⟩ | ⟨g,cap,cur,fz,rfl,hbg,hg,hfz,hnc,hcm,hcs,htake⟩
 ·obtain ⟨v2,w2,k1,k2,_,_⟩:=Lib.run_append_own_stringF (P:=P) w w.heap.size t u ty e i ht hu hi hz hsize hby (.slice none 0 0) 0 xs ⟨hown.1,.inl ⟨rfl,rfl⟩⟩ s h63 hbytes (Nat.le_refl _);rw[h1] at k1;injection k1 with e1 e2;subst e1 e2;exact .inr (k2.lt k hk).1
 ·by_cases hroom:n+s.size≤cap
  ·have hr:=Lib.run_append_room_stringF (P:=P) w t u ty e i ht hu hi hsize g n cap cur fz hg (by simpa using hfz) s hroom (by omega);rw[h1] at hr;injection hr with e1 e2;subst e1;exact .inl hk
  ·have hxl:xs.length=n:=by simpa using hown.1
   have holds:∀j u,xs[j]? = some u→w.cell? ((⟨g,0,none⟩:Addr).add j)=some u:=hown.cells (g:=g) rfl;have hr:=Lib.run_append_grow_string (P:=P) w t u ty e i (.int .u8 0) ht hu hi hz ⟨g,0,none⟩ n cap xs (by rw[hsize];simpa using hxl) holds s (by omega) (by simp only[maxLen] at h63;omega) (by rw[hby];exact growslice_fits (by omega) (by omega));rw[h1] at hr;injection hr with e1 e2;subst e1;simp[Value.ownBlock] at hk;exact .inr (by omega)
theorem Kle {P:Program} {w:World} {ops:Array Oper} {rest:List Oper} {o:Oper} {a:Act} {Q:Exit→Act→World→Prop} (hgd:o.guard=none) (sl x:Operand) (t u:TypeId)
  (ho:o.op = .call { callee:=.builtin .append,args:=#[sl,x],argTypes:=#[t,u] })
  (base:Nat) (e:TypeId) (i:TypeInfo) (ht:P.underlying t=some (.slice e)) (hu:P.underlying u=some .string) (hi:P.info? e=some i) (hz:i.zero=some (.int .u8 0))
  (hsize:i.size=1) (hby:i.bytes=1)
  (v:Value) (n:Nat) (xs:List Value) (hs:a.eval sl=v) (hown:w.ownsRowF base e 1 v n xs) (s:ByteArray) (hx:a.eval x = .string s)
  (h63:n+s.size≤maxLen) (hbytes:n+s.size≤140737488355328) (hbase:base≤w.heap.size)
  (h:∀v' w',w'.ownsRowF base e 1 v' (n+s.size) (xs++Lib.strCells s)→w.grownBy w' v.ownBlock→(v' = .slice none 0 0↔v = .slice none 0 0∧s.size=0)→(∀k,v'.ownBlock=some k→v.ownBlock=some k∨w.heap.size≤k)→wpList P ops Q rest (a.put o.dst v') w'):wpList P ops Q (o :: rest) a w:=by
 refine wpList_plain hgd fun K hK=>?_
 obtain ⟨v',w',hr,h2,h3,h4,h5⟩:=Kng (P:=P) w base t u o.type e i ht hu hi hz hsize hby v n xs hown s h63 hbytes hbase;unfold Oper.wp execOp;simp only[ho,resolve,invoke,builtin,Sem.run_bind,Sem.run_pure,Result.andThen_ok,List.map_toArray,List.map_cons,List.map_nil,hs,hx,hr];exact hK _ _ (h v' w' h2 h3 h4 h5)
structure BldR (B b:Nat) (r:Option Nat) (l:List UInt8) (w:World):Prop where
 hB:B≤b
 ex:∃p v,(p = .pointer none∨p = .pointer (some ⟨b,0,none⟩))∧w.heap[b]? = some (.cells #[p,v] 74 (0,0))∧w.ownsRowF B 5 1 v l.length (Lib.byteCells l)∧v.ownBlock=r∧(l = []→v = .slice none 0 0)
structure OnlyB (b:Nat) (r:Option Nat) (w w':World):Prop where
 os:w'.os=w.os
 tape:w'.tape=w.tape
 output:w'.output=w.output
 size:w.heap.size≤w'.heap.size
 block:∀k,k < w.heap.size→k≠b→some k≠r→w'.heap[k]? = w.heap[k]?
section
variable {B b c : Nat} {r s : Option Nat} {l m : List UInt8} {w w' : World}
theorem BldR.row (h:BldR B b r l w) {k:Nat} (hk:r=some k):B≤k∧∃cur fz,w.heap[k]? = some (.cells cur 5 fz):=by
 obtain ⟨p,v,_,_,hown,hv,_⟩:=h.ex;rcases hown.2 with ⟨rfl,_⟩ | ⟨g,cap,cur,fz,rfl,hbg,hg,_⟩
 ·rw[hk] at hv;cases hv
 ·rw[hk] at hv;injection hv with hv;subst hv;exact ⟨hbg,cur,fz,hg⟩
theorem BldR.blt (h:BldR B b r l w):b < w.heap.size:=by
 obtain ⟨p,v,_,hb,_⟩:=h.ex;exact Blk.lt hb
theorem BldR.rlt (h:BldR B b r l w) {k:Nat} (hk:r=some k):k < w.heap.size:=by
 obtain ⟨_,cur,fz,hc⟩:=h.row hk;exact (Array.getElem?_eq_some_iff.1 hc).1
theorem BldR.keep (h:BldR B b r l w) (h1:w'.heap[b]? = w.heap[b]?) (h2:∀k,r=some k→w'.heap[k]? = w.heap[k]?):BldR B b r l w':=by
 obtain ⟨p,v,hp,hb,hown,hv,hn⟩:=h.ex;refine ⟨h.hB,p,v,hp,h1.trans hb,⟨hown.1,?_⟩,hv,hn⟩;rcases hown.2 with h3 | ⟨g,cap,cur,fz,rfl,hbg,hg,rest⟩
 ·exact .inl h3
 ·exact .inr ⟨g,cap,cur,fz,rfl,hbg,(h2 g hv.symm).trans hg,rest⟩
theorem BldR.below (h:BldR B b r l w) (hb:Below w.heap.size w w'):BldR B b r l w':=h.keep (hb.block b h.blt) fun k hk=>hb.block k (h.rlt hk)
theorem BldR.new {B:Nat} (w:World) (hB:B≤w.heap.size):BldR B w.heap.size none [] (w.alloc (.cells #[.pointer none,.slice none 0 0] 74)):=
 ⟨hB,_,_,.inl rfl,heap_alloc_new w _,World.ownsRowF_nil _ _ _ _,rfl,fun _=>rfl⟩
theorem OnlyB.below (h:OnlyB b r w w') (hb:B≤b) (hr:∀k,r=some k→B≤k) (hB:B≤w.heap.size):Below B w w':=
 ⟨h.os,h.tape,h.output,h.size,fun k hk=>h.block k (by omega) (by omega) fun e=>by have:=hr k e.symm;omega⟩
end
theorem Kss (B b:Nat) (r:Option Nat) (l:List UInt8) (s:ByteArray) (w:World) (h:BldR B b r l w) (hlen:l.length+s.size≤140737488355328) :
  Calls Tryz.prog 29 #[.pointer (some ⟨b,0,none⟩),.string s] w fun e w'=>e = .returned (.tuple #[.int .i64 s.size,.nilIface])∧
   ∃r',BldR B b r' (l++s.data.toList) w'∧(∀k,r'=some k→r=some k∨w.heap.size≤k)∧OnlyB b r w w':=by
 obtain ⟨i0,hi,hz0,hz1,hz2⟩:=info_parts Kgr.infoByte;obtain ⟨p,v,hp,hbk,hown,hv,hn⟩:=h.ex;have hblt:=h.blt
 have hcc:Calls Tryz.prog 82 #[.pointer (some ⟨b,0,none⟩)] w fun e w'=>e = .returned (.tuple #[])∧w'.heap[b]? = some (.cells #[.pointer (some ⟨b,0,none⟩),v] 74 (0,0))∧OnlyB b none w w'∧w'.heap.size=w.heap.size:=by
  rcases hp with rfl | rfl
  ·refine (Any.Builder_copyCheck_fresh Kwk Kgr.toX72 b w (by rw[Lib.cell_of_heap hbk];rfl) (by unfold World.shape?;rw[hbk];rfl) (Lib.frozen_of_heap hbk 0)).mono ?_;rintro e w' ⟨rfl,rfl⟩;refine ⟨rfl,?_,⟨rfl,rfl,rfl,by simp[World.setCell],fun k _ hk _=>Below.heap_setCell _ _ _ _ (fun e=>hk e)⟩,by simp[World.setCell]⟩;have:=(show Blk w b 74 #[.pointer none,v] from hbk).set_ 0 (.pointer (some ⟨b,0,none⟩));exact this
  ·refine (Any.Builder_copyCheck_used Kwk Kgr.toX72 b w (by rw[Lib.cell_of_heap hbk];rfl)).mono ?_;rintro e w' ⟨rfl,rfl⟩;exact ⟨rfl,hbk,⟨rfl,rfl,rfl,Nat.le_refl _,fun _ _ _ _=>rfl⟩,rfl⟩
 have HCC:=Jh hcc
 have hne:v.ownBlock≠some b:=fun e=>by
  obtain ⟨_,cur,fz,hc⟩:=h.row (hv.symm.trans e);rw[hbk] at hc;injection hc with hc;injection hc with _ hc _
  revert hc
  decide
 have HN:=Jh hn;have HV:=Jh hv;have HOWN:=Jh hown;have HB:=Jh h.hB;clear hcc hp hn hv hown h hbk;go_enter Tryz.func29,Tryz.ntmps29
 go_wp2_with fail
 refine HCC.out.mono ?_;rintro e w1 ⟨rfl,hbk,ho1,hs1⟩
 have hown1:w1.ownsRowF B 5 1 v l.length (Lib.byteCells l):=by
  refine ⟨HOWN.out.1,?_⟩;rcases HOWN.out.2 with h3 | ⟨g,cap,cur,fz,e1,hbg,hg,rest⟩
  ·exact .inl h3
  ·refine .inr ⟨g,cap,cur,fz,e1,hbg,(ho1.block g (Array.getElem?_eq_some_iff.1 hg).1 (fun e2=>hne (by rw[e1,e2];rfl)) (by simp)).trans hg,rest⟩
 have c0:w1.cell? ⟨b,0,none⟩=some (.pointer (some ⟨b,0,none⟩)):=by rw[Lib.cell_of_heap hbk];rfl
 have c1:w1.cell? ⟨b,1,none⟩=some v:=by rw[Lib.cell_of_heap hbk];rfl
 have HO1:=Jh ho1;have HS1:=Jh hs1;have HBK:=Jh hbk;clear ho1 hs1 hbk;go_wp2_with (at_builtin;refine Kle rfl _ _ 72 9 rfl B 5 i0 Tryz.underlying72 Tryz.underlying9 hi hz0 hz1 hz2 _ _ _ rfl hown1 s rfl ?c3 ?c4 ?c5 ?_)
 case c3=>unfold maxLen;omega
 case c4=>omega
 case c5=>have:=HB.out;have:=HS1.out;omega
 intro v' w2 hown' hgrow hnil hwhere;have hlt:b < w1.heap.size:=by have:=HS1.out;omega
 have hb2:w2.heap[b]? = some (.cells #[.pointer (some ⟨b,0,none⟩),v] 74 (0,0)):=by
  rw[hgrow.block b hlt (fun e=>hne e.symm)];exact HBK.out
 have d0:w2.cell? ⟨b,0,none⟩=some (.pointer (some ⟨b,0,none⟩)):=by rw[Lib.cell_of_heap hb2];rfl
 have d1:w2.cell? ⟨b,1,none⟩=some v:=by rw[Lib.cell_of_heap hb2];rfl
 have f1:w2.frozen? ⟨b,1,none⟩=false:=Lib.frozen_of_heap hb2 1
 obtain ⟨ao,n',cap,rfl⟩:∃ao n' cap,v' = .slice ao n' cap:=by
  rcases hown'.2 with ⟨hv,_⟩ | ⟨g,cap,cur,fz,hv,_⟩
  ·exact ⟨_,_,_,hv⟩
  ·exact ⟨_,_,_,hv⟩
 have HNIL:=Jh hnil;clear hnil;go_wp2_with fail
 go_ret2
 have hkeep3:Blk (w2.setCell ⟨b,1,none⟩ (.slice ao n' cap)) b 74 #[.pointer (some ⟨b,0,none⟩),.slice ao n' cap]:=(show Blk w2 b 74 #[.pointer (some ⟨b,0,none⟩),v] from hb2).set_ 1 _
 have hv'b:(Value.slice ao n' cap).ownBlock≠some b:=fun e=>by
  rcases hwhere b e with h1 | h1
  ·exact hne h1
  ·omega
 refine ⟨rfl,(Value.slice ao n' cap).ownBlock,⟨HB.out,_,_,.inr rfl,hkeep3,?_,rfl,?_⟩,fun k hk=>?_,⟨?_,?_,?_,?_,fun k hk hkb hkr=>?_⟩⟩
 ·have hl2:(l++s.data.toList).length=l.length+s.size:=by rw[List.length_append];rfl
  have hc2:Lib.byteCells (l++s.data.toList)=Lib.byteCells l++Lib.strCells s:=by simp[Lib.byteCells,Lib.strCells]
  rw[hl2,hc2];refine ⟨hown'.1,?_⟩;rcases hown'.2 with h3 | ⟨g,cap,cur,fz,e1,hbg,hg,rest⟩
  ·exact .inl h3
  ·refine .inr ⟨g,cap,cur,fz,e1,hbg,(Below.heap_setCell _ _ _ _ (fun e2=>hv'b (by rw[e1,e2];rfl))).trans hg,rest⟩
 ·intro hnl;have h1:l = []∧s.data.toList = []:=by simpa using hnl
  refine HNIL.out.2 ⟨HN.out h1.1,?_⟩;have h2:=congrArg List.length h1.2;have h3:s.data = #[]:=by simpa using h1.2
  first
   | exact h2
   | (cases s with | mk d=>(have h4:d = #[]:=h3);rw[h4];rfl)
 ·rw[←HV.out];rcases hwhere k hk with h1 | h1
  ·exact .inl h1
  ·exact .inr (by have:=HS1.out;omega)
 ·exact hgrow.os.trans HO1.out.os
 ·exact hgrow.tape.trans HO1.out.tape
 ·exact hgrow.output.trans HO1.out.output
 ·have:=hgrow.size;have:=HS1.out;simp[World.setCell];omega
 ·rw[Below.heap_setCell _ _ _ _ (fun e=>hkb e),hgrow.block k (by have:=HS1.out;omega) (by rw[HV.out];exact hkr),HO1.out.block k hk hkb (by simp)]
theorem Kyg (b g:Nat) (w:World) (n:Nat):OnlyB b (some g) w (w.drew.freeze ⟨g,0,none⟩ n):=by
 unfold World.freeze
 split
 ·exact ⟨rfl,rfl,rfl,Nat.le_refl _,fun _ _ _ _=>rfl⟩
 ·refine ⟨rfl,rfl,rfl,by simp,fun k _ _ hk=>?_⟩;show (Array.modify _ _ _)[k]? = _
  rw[Array.getElem?_modify,if_neg (fun e=>hk (by rw[←e]))];rfl
theorem Krw (B b:Nat) (r:Option Nat) (l:List UInt8) (w:World) (h:BldR B b r l w) :
  Calls Tryz.prog 39 #[.pointer (some ⟨b,0,none⟩)] w fun e w'=>e = .returned (.string ⟨l.toArray⟩)∧OnlyB b r w w':=by
 obtain ⟨p,v,hp,hbk,hown,hv,hn⟩:=h.ex
 by_cases h0:l = []
 ·obtain rfl:=hn h0;subst h0;have hUS:(Builtin.unsafeString_ #[186,3] 9 #[.pointer none,.int .i64 0]).run Tryz.prog w.drew = .ok (.string ⟨#[]⟩) w.drew:=Any.unsafeString_none Kop Kgr w.drew none
  have c1:w.drew.cell? ⟨b,1,none⟩=some (.slice none 0 0):=by
   have:w.drew.heap[b]? = some (.cells #[p,.slice none 0 0] 74 (0,0)):=hbk;rw[Lib.cell_of_heap this];rfl
  have hSD:(Builtin.unsafeSliceData_ #[72] 186 #[.slice none 0 0]).run Tryz.prog w.drew = .ok (.pointer none) w.drew:=rfl;have hfin:OnlyB b r w w.drew:=⟨rfl,rfl,rfl,Nat.le_refl _,fun _ _ _ _=>rfl⟩;clear hp hbk hown hv hn h;go_enter Tryz.func39,Tryz.ntmps39
  go_wp2
  go_region
  all_goals (go_wp2;go_ret;exact ⟨rfl,hfin⟩)
 ·have hl0:l.length≠0:=by simpa using h0
  obtain ⟨g,cap,cur,fz,rfl,hbg,hg,hfz,hnc,hcm,hcs,htake⟩:∃g cap cur fz,v = .slice (some ⟨g,0,none⟩) l.length cap∧B≤g∧w.heap[g]? = some (.cells cur 5 fz)∧fz.2≤l.length*1∧l.length≤cap∧cap≤maxLen∧cur.size=cap*1∧cur.toList.take (l.length*1)=Lib.byteCells l:=by
   rcases hown.2 with ⟨_,hz⟩ | ⟨g,cap,cur,fz,hv,r⟩
   ·exact absurd hz hl0
   ·exact ⟨g,cap,cur,fz,hv,r⟩
  have c1:w.drew.cell? ⟨b,1,none⟩=some (.slice (some ⟨g,0,none⟩) l.length cap):=by
   have:w.drew.heap[b]? = some (.cells #[p,.slice (some ⟨g,0,none⟩) l.length cap] 74 (0,0)):=hbk;rw[Lib.cell_of_heap this];rfl
  have hSD:(Builtin.unsafeSliceData_ #[72] 186 #[.slice (some ⟨g,0,none⟩) l.length cap]).run Tryz.prog w.drew = .ok (.pointer (some ⟨g,0,none⟩)) w.drew:=
   Lib.run_unsafeSliceData_row _ _ _ _ _ _ (by omega)
  have hUS:(Builtin.unsafeString_ #[186,3] 9 #[.pointer (some ⟨g,0,none⟩),.int .i64 l.length]).run Tryz.prog w.drew = .ok (.string ⟨l.toArray⟩) (w.drew.freeze ⟨g,0,none⟩ l.length):=by
   refine Lib.run_unsafeString_row w.drew 186 3 9 5 Kop.t127 Kgr.cellsByte g cur.size (by have hg':w.drew.heap[g]? = some (.cells cur 5 fz):=hg;simp[World.shape?,hg']) l h0 (by omega) (by unfold maxLen at hcm;omega) ?_;intro j x hx;have:=hown.cells (g:=g) rfl j (.int .u8 x.toNat) (by simp[Lib.byteCells,hx]);exact this
  have hfin:OnlyB b r w (w.drew.freeze ⟨g,0,none⟩ l.length):=by
   rw[show r=some g from hv.symm];exact Kyg b g w _
  have HF:=Jh hfin;clear hp hbk hown hv hn h hg hfz hcm hcs htake hfin;go_enter Tryz.func39,Tryz.ntmps39
  go_wp2
  go_region
  all_goals (go_wp2;go_ret;exact ⟨rfl,HF.out⟩)
def Rest (w w':World):Prop:=∀k T cs,Blk w k T cs→T≠74→T≠5→Blk w' k T cs
theorem BldR.rest {B b:Nat} {r:Option Nat} {l:List UInt8} {w w':World} (h:BldR B b r l w) (ho:OnlyB b r w w'):Rest w w':=by
 intro k T cs hk h1 h2;refine (ho.block k hk.lt (fun e=>?_) (fun e=>?_)).trans hk
 ·obtain ⟨p,v,_,hb,_⟩:=h.ex;rw[←e,show w.heap[k]? = _ from hk] at hb;injection hb with hb;injection hb with _ hb _;exact h1 hb
 ·obtain ⟨_,cur,fz,hc⟩:=h.row e.symm;rw[show w.heap[k]? = _ from hk] at hc;injection hc with hc;injection hc with _ hc _;exact h2 hc
end
section
open Go.RowKit Go.Shelf
attribute [local go_sem] Oper.semAt_some
abbrev Pc (len:Nat):={ k:Nat // k*120 < len }
def pcV (A:Option Addr) (len:Nat) (k:Nat):Value:=.slice (A.map (·.add (k*120*2))) (Nat.min 120 (len - k*120)) (Nat.min 120 (len - k*120))
def KpC (Bs Bn:Nat) (W W':World):Prop:=W'.heap[Bs]? = W.heap[Bs]?∧W'.heap[Bn]? = W.heap[Bn]?
theorem KpC.trans {Bs Bn:Nat} {A B C:World} (h:KpC Bs Bn A B) (k:KpC Bs Bn B C):KpC Bs Bn A C:=⟨k.1.trans h.1,k.2.trans h.2⟩
theorem KpC.put {Bs Bn B:Nat} (hs:Bs < B) (hn:Bn < B) (W:World) (l:Nat) (o':Obj) (hl:B≤l):KpC Bs Bn W (W.putObj l o'):=⟨World.putObj_heap_other (by omega),World.putObj_heap_other (by omega)⟩
theorem Qbb {α : Type} {w:World} {B sz n:Nat} {enc:α→List Value} {A:Option Addr} {xs:List α} (h:Elems w B sz enc A n xs) {k:Nat} (hk:k < n) (m:Nat) (hm:m≤n - k) :
  Elems w B sz enc (A.map (·.add (k*sz))) m ((xs.drop k).take m):=by
 have h2:=h.cut (k:=k) (cap:=n) (by omega) (Nat.le_refl _);rw[if_neg (by omega)] at h2;refine ⟨by rw[List.length_take,List.length_drop,h.len];omega,fun hn=>?_⟩;obtain ⟨b,off,e,hb,hc⟩:=h2.2 (by omega);refine ⟨b,off,e,hb,fun i x hx j v hv=>hc i x ?_ j v hv⟩;rw[List.getElem?_take] at hx
 split at hx
 ·exact hx
 ·cases hx
theorem Qgg (F:Fence) (n:Nat) (h7:F.fn 89) (hro:F.round=none) (hn:1≤n) (l Bs Bn:Nat) (A:Option Addr) (len cap:Nat) (hcap:len≤cap) (hreach:len≤140737488351232) (hA:0 < len→∃b off,A=some ⟨b,off,none⟩) (J Jx:List (Pc len)→World→Prop) (hJd:∀pre W,J pre W→J pre W.drew)
  (hY:∀pre x W,J pre W→pre.length < (len+119) / 120→YieldAt F (n - 1) Tryz.prog l #[pcV A len x.1] W fun e W'=>
   (e = .returned (.bool true)∧J (pre ++ [x]) W'∧KpC Bs Bn W W')∨(e = .returned (.bool false)∧Jx (pre ++ [x]) W'))
  (W:World) (hBs:W.cell? ⟨Bs,0,none⟩=some (.slice A len cap)) (hBn:W.cell? ⟨Bn,0,none⟩=some (.int .i64 120)) (h0:J [] W) :
  CallsIn F n Tryz.prog 89 #[.func (.yield l) #[] #[],.pointer (some ⟨Bs,0,none⟩),.pointer (some ⟨Bn,0,none⟩)] W fun e W'=>(∃v,e = .returned v)∧
   ((∃ys:List (Pc len),ys.map (·.1)=List.range ((len+119) / 120)∧J ys W')∨(∃pre:List (Pc len),True∧Jx pre W')):=by
 refine callsIn_of_wp Tryz.func89 rfl h7 ?_ hro;simp only[Tryz.ntmps89,List.size_toArray,List.length_cons,List.length_nil,Nat.reduceAdd,Nat.reduceSub,Array.replicate_succ,Array.replicate_zero,List.push_toArray,List.append_toArray,List.nil_append,List.cons_append]
 gi_wp2
 gi_loopw [4] (fun i wr=>∃(k:Nat) (pre:List (Pc len)),i = .int .i64 ((k*120:Nat):Int)∧k≤(len+119) / 120∧pre.map (·.1)=List.range k∧J pre wr∧KpC Bs Bn W wr)
  (fun i _=>len+120 - (intOf i).toNat)
 case atStart=>exact ⟨0,[],rfl,Nat.zero_le _,rfl,h0,rfl,rfl⟩
 case round=>
  obtain ⟨k,pre,rfl,hk,hpre,hJs,hnx⟩:=hrel;have hlen:pre.length=k:=by rw[←List.length_map (f:=fun x:Pc len=>x.1),hpre,List.length_range]
  have cs:wr.cell? ⟨Bs,0,none⟩=some (.slice A len cap):=(World.cell?_of_block (a:=⟨Bs,0,none⟩) hnx.1).trans hBs;have cn:wr.cell? ⟨Bn,0,none⟩=some (.int .i64 120):=(World.cell?_of_block (a:=⟨Bn,0,none⟩) hnx.2).trans hBn
  by_cases hlt:k*120 < len
  ·obtain ⟨b,off,rfl⟩:=hA (by omega);obtain ⟨fn,tmps,assign,body,hy,hR⟩:=hY pre ⟨k,hlt⟩ wr.drew (hJd _ _ hJs) (by omega);obtain ⟨i,hi⟩:∃i,k*120=i:=⟨_,rfl⟩;obtain ⟨m,hm⟩:∃m,Nat.min 120 (len - i)=m:=⟨_,rfl⟩
   have hpv:pcV (some ⟨b,off,none⟩) len k = .slice (some ⟨b,off+i*2,none⟩) m m:=by
    unfold pcV;rw[hi,hm];simp[Addr.add]
   dsimp only at hy;rw[hpv] at hy;rw[hi] at hlt ⊢;have hmm:Nat.min 120 (len - i)=min 120 (len - i):=rfl;have hm1:m≤120∧m≤len - i∧0 < m:=by omega
   have hmi:min (120:Int) ((len - i:Nat):Int)=(m:Int):=by omega
   have hmi2:min (120:Int) ((len:Int) - (i:Int))=(m:Int):=by omega
   have hci:cap≠i:=by omega
   have el:decide ((i:Int) < (len:Int))=true:=by rw[decide_eq_true_eq];omega
   clear hmm hm hpv
   gi_wp2
   gi_region
   all_goals (
    gi_wp2
    refine hR.mono ?_;rintro e W3 (⟨rfl,hJ3,hk3⟩ | ⟨rfl,hJx3⟩)
    ·have cn3:W3.cell? ⟨Bn,0,none⟩=some (.int .i64 120):=(World.cell?_of_block (a:=⟨Bn,0,none⟩) hk3.2).trans cn
     gi_wp2
     go_roundw
     case rel=>exact ⟨k+1,pre ++ [⟨k,by omega⟩],by rw[←hi];simp;omega,by omega,by rw[List.map_append,hpre,List.range_succ];rfl,hJ3,KpC.trans (B:=wr.drew) hnx hk3⟩
     case measure=>simp[intOf];omega
    ·gi_wp2
     refine bodyPost_ret (results_none rfl _ _ _) rfl ?_
     exact ⟨⟨_,rfl⟩,.inr ⟨_,trivial,hJx3⟩⟩)
  ·have el:decide (((k*120:Nat):Int) < (len:Int))=false:=by rw[decide_eq_false_iff_not];omega
   obtain rfl:k=(len+119) / 120:=by omega
   gi_wp2
   go_end0
   exact ⟨⟨_,rfl⟩,.inl ⟨pre,hpre,hJs⟩⟩
theorem Qkj (F:Fence) (n:Nat) (h5:F.fn 35) (hro:F.round=none) (A:Option Addr) (len cap:Nat) (w:World) :
  CallsIn F n Tryz.prog 35 #[.slice A len cap,.int .i64 120] w fun e w'=>e = .returned (.func (.func 89) #[] #[.pointer (some ⟨w.heap.size,0,none⟩),.pointer (some ⟨w.heap.size+1,0,none⟩)])∧w'=(w.alloc (.cells #[.slice A len cap] 83)).alloc (.cells #[.int .i64 120] 3):=by
 have hmf:∀(fn:Fn) (first cap:Array Value) (w:World),(Instr.makeFunc fn first cap).run Tryz.prog w = .ok (.func fn first cap) w:=fun _ _ _ _=>rfl
 refine callsIn_of_wp Tryz.func35 rfl h5 ?_ hro;simp only[Tryz.ntmps35,List.size_toArray,List.length_cons,List.length_nil,Nat.reduceAdd,Nat.reduceSub,Array.replicate_succ,Array.replicate_zero,List.push_toArray,List.append_toArray,List.nil_append,List.cons_append]
 gi_wp2
 go_ret
 exact ⟨rfl,rfl⟩
theorem Qeb (w:World) (r:Option Nat):w.grownBy w.drew r:=⟨rfl,rfl,rfl,Nat.le_refl _,fun _ _ _=>rfl⟩
theorem Qaf (F:Fence) (n:Nat) (h7:F.fn 89) (hro:F.round=none) (hn:1≤n) (Bs Bn:Nat) (A:Option Addr) (len cap:Nat) (hcap:len≤cap) (hreach:len≤140737488351232) (hA:0 < len→∃b off,A=some ⟨b,off,none⟩) (w:World) (hbs:Bs < w.heap.size) (hbn:Bn < w.heap.size)
  (hc:w.cell? ⟨Bs,0,none⟩=some (.slice A len cap)) (hc2:w.cell? ⟨Bn,0,none⟩=some (.int .i64 120)) :
  SeqStopsK F n Tryz.prog 89 #[.pointer (some ⟨Bs,0,none⟩),.pointer (some ⟨Bn,0,none⟩)] (fun x:Pc len=>#[pcV A len x.1]) (KpC Bs Bn) (fun ys=>ys.map (·.1)=List.range ((len+119) / 120)) (fun _=>True) ((len+119) / 120) w:=fun l J Jx W hW hJ _ hY h0=>
 Qgg F n h7 hro hn l Bs Bn A len cap hcap hreach hA J Jx (fun pre W h=>hJ pre W W.drew none h (Qeb W none) (fun r e=>by cases e)) hY W ((hW.cell (p:=⟨Bs,0,none⟩) (by simp;omega)).trans hc) ((hW.cell (p:=⟨Bn,0,none⟩) (by simp;omega)).trans hc2) h0
def pcL (l:List Smp) (k:Nat):List Smp:=(l.drop (k*120)).take 120
theorem Kkq:∀(f:Nat) (l:List Smp),l.length≤f→Kbi f l=(List.range ((l.length+119) / 120)).map (pcL l)
 | 0,l,h=>by
  have h0:l = []:=List.eq_nil_of_length_eq_zero (by omega);subst h0;rfl
 | _+1,[],_=>rfl
 | f+1,x :: l,h=>by
  have hl:((x :: l).drop 120).length=(x :: l).length - 120:=List.length_drop;have e:((x :: l).length+119) / 120=(((x :: l).drop 120).length+119) / 120+1:=by rw[hl,List.length_cons];omega
  rw[Kbi,Kkq f _ (by rw[hl];rw[List.length_cons] at h ⊢;omega),e,List.range_succ_eq_map,List.map_cons,List.map_map];congr 1;apply List.map_congr_left;intro k _;show pcL _ k=pcL _ (k+1)
  unfold pcL;rw[List.drop_drop];congr 2;omega
end
section
open Go.RowKit Go.Shelf Go.Sort
def KB (b:Nat) (l:List UInt8) (w:World):Prop:=∃r,BldR b b r l w
section
variable {b : Nat} {l : List UInt8} {w w' : World}
theorem KB.below (h:KB b l w) (hb:Below w.heap.size w w'):KB b l w':=by
 obtain ⟨r,h⟩:=h;exact ⟨r,h.below hb⟩
theorem KB.new (w:World):KB w.heap.size [] (w.alloc (.cells #[.pointer none,.slice none 0 0] 74)):=⟨none,BldR.new w (Nat.le_refl _)⟩
theorem BldR.others {B:Nat} {r:Option Nat} (h:BldR B b r l w) (ho:OnlyB b r w w'):KeepsOthers w w':=by
 refine ⟨ho.size,fun k o hk hn=>?_⟩;refine (ho.block k (Array.getElem?_eq_some_iff.1 hk).1 (fun e=>?_) (fun e=>?_)).trans hk
 ·obtain ⟨p,v,_,hb,_⟩:=h.ex;rw[e,hb] at hk;injection hk with hk;subst hk;cases hn
 ·obtain ⟨_,cur,fz,hc⟩:=h.row e.symm;rw[hc] at hk;injection hk with hk;subst hk;cases hn
theorem Kdl (s:ByteArray) (w:World) (h:KB b l w) (hlen:l.length+s.size≤140737488355328) :
  Calls Tryz.prog 29 #[.pointer (some ⟨b,0,none⟩),.string s] w fun e w'=>e = .returned (.tuple #[.int .i64 s.size,.nilIface])∧KB b (l++s.data.toList) w'∧Below b w w'∧Rest w w'∧KeepsOthers w w':=by
 obtain ⟨r,h⟩:=h;refine (Kss b b r l s w h hlen).mono ?_;rintro e w' ⟨rfl,r',k1,k2,k3⟩;exact ⟨rfl,⟨r',k1⟩,k3.below h.hB (fun k hk=>(h.row hk).1) (Nat.le_of_lt h.blt),h.rest k3,h.others k3⟩
theorem Ksh (w:World) (h:KB b l w) :
  Calls Tryz.prog 39 #[.pointer (some ⟨b,0,none⟩)] w fun e w'=>e = .returned (.string ⟨l.toArray⟩)∧Below b w w'∧KeepsOthers w w':=by
 obtain ⟨r,h⟩:=h;refine (Krw b b r l w h).mono ?_;rintro e w' ⟨rfl,k3⟩;exact ⟨rfl,k3.below h.hB (fun k hk=>(h.row hk).1) (Nat.le_of_lt h.blt),h.others k3⟩
theorem Kdr (h:Below w.heap.size w w'):KeepsOthers w w':=⟨h.size,fun k o hk _=>(h.block k (Array.getElem?_eq_some_iff.1 hk).1).trans hk⟩
theorem Qou {β : Type} (b:Nat) (f:β→List UInt8) (B:Nat):OwnFrom B (fun s W=>KB b (f s) W):=fun s W W' row hs hg hr=>by
 obtain ⟨r,h⟩:=hs;refine ⟨r,h.keep (hg.block b h.blt fun e=>?_) fun k hk=>hg.block k (h.rlt hk) fun e=>?_⟩
 ·obtain ⟨_,o,ho,hn⟩:=hr b e.symm;obtain ⟨p,v,_,hb,_⟩:=h.ex;rw[hb] at ho;injection ho with ho;subst ho;cases hn
 ·obtain ⟨_,o,ho,hn⟩:=hr k e.symm;obtain ⟨_,cur,fz,hc⟩:=h.row hk;rw[hc] at ho;injection ho with ho;subst ho;cases hn
end
def mkD (Ds:List Nat):List Deferred:=Ds.map fun D=>{ target:=.collected D,args:=#[] }
structure Mrk (B:Nat) (Ds:List Nat) (w:World):Prop where
 nd:Ds.Nodup
 ge:∀D∈Ds,B≤D
 at_:∀D∈Ds,w.heap[D]? = some (.deferred (some []))
theorem Mrk.nil (B:Nat) (w:World):Mrk B [] w:=⟨List.nodup_nil,fun _ h=>(by cases h),fun _ h=>(by cases h)⟩
theorem Mrk.keep {B:Nat} {Ds:List Nat} {w w':World} (h:Mrk B Ds w) (k:KeepsOthers w w'):Mrk B Ds w':=⟨h.nd,h.ge,fun D hD=>k.same D _ (h.at_ D hD) rfl⟩
theorem Mrk.keepF {B:Nat} {Ds:List Nat} {w w':World} (h:Mrk B Ds w) (k:KeepsFrom 0 w w'):Mrk B Ds w':=⟨h.nd,h.ge,fun D hD=>k.same D _ (Nat.zero_le _) (h.at_ D hD) rfl⟩
theorem Mrk.lt {B:Nat} {Ds:List Nat} {w:World} (h:Mrk B Ds w) {D:Nat} (hD:D∈Ds):D < w.heap.size:=(Array.getElem?_eq_some_iff.1 (h.at_ D hD)).1
theorem Mrk.more {B:Nat} {Ds:List Nat} {w w0:World} (h:Mrk B Ds w) (h0:Mrk B Ds w0) {D:Nat} (hD:w0.heap.size≤D) (hB:B≤D) (hk:w.heap[D]? = some (.deferred (some []))):Mrk B (D :: Ds) w:=by
 refine ⟨List.nodup_cons.2 ⟨fun hm=>?_,h.nd⟩,fun E hE=>?_,fun E hE=>?_⟩
 ·have:=h0.lt hm;omega
 ·rcases List.mem_cons.1 hE with rfl | h1
  ·exact hB
  ·exact h.ge E h1
 ·rcases List.mem_cons.1 hE with rfl | h1
  ·exact hk
  ·exact h.at_ E h1
theorem Kik {F:Fence} {n:Nat} {P:Program} {fn:Func} {tmps:Array Value} {R:Ending→World→Prop} {B:Nat} {v:Value} {w0:World} (hres:∀w,(results fn tmps).run P w = .ok v w) (hR:∀w,Below B w0 w→R (.returned v) w) :
  ∀(Ds:List Nat) (w:World),Mrk B Ds w→Below B w0 w→LeavesInM F n P fn tmps R (mkD Ds) .returning w
 | [],w,_,hb=>⟨v,hres w,hR w hb⟩
 | D :: Ds,w,h,hb=>by
  have hD:=h.at_ D (by simp);refine ⟨by simp,.inl ⟨D,_,rfl,run_takeDeferred hD,?_⟩⟩;refine Kik hres hR Ds _ ⟨(List.nodup_cons.1 h.nd).2,fun E hE=>h.ge E (by simp[hE]),fun E hE=>?_⟩ ?_
  ·rw[World.putObj_heap_other (fun e=>(List.nodup_cons.1 h.nd).1 (by rw[←e];exact hE))];exact h.at_ E (by simp[hE])
  ·have hlt:=h.lt (D:=D) (by simp);have hge:=h.ge D (by simp);exact ⟨hb.os,hb.tape,hb.output,by have:=hb.size;simp[World.putObj];exact this,fun k hk=>(World.putObj_heap_other (by omega)).trans (hb.block k hk)⟩
def kAtT (L:List KSer) (T:List Txt) (i:Nat):List UInt8:=tabT T++(uintT L.length++(L.take i).flatMap (kserT T))
theorem ktake {L:List KSer} {i:Nat} (h:i < L.length):L.take (i+1)=L.take i ++ [L[i]!]:=by
 rw[List.take_add_one,List.getElem?_eq_getElem h,getElem!_pos _ i h];rfl
theorem Qhm {L:List KSer} {T:List Txt} {i:Nat} (h:i < L.length):kAtT L T (i+1)=kAtT L T i++kserT T L[i]!:=by
 unfold kAtT;rw[ktake h,List.flatMap_append,List.flatMap_singleton];simp only[List.append_assoc]
theorem Qnh (L:List KSer) (i:Nat):(kAtT L (tabOf (setsK L)) i).length≤(bodyK L).length:=by
 unfold kAtT bodyK
 have:((L.take i).flatMap (kserT (tabOf (setsK L)))).length≤(L.flatMap (kserT (tabOf (setsK L)))).length:=by
  have:L.flatMap (kserT (tabOf (setsK L)))=(L.take i).flatMap (kserT (tabOf (setsK L)))++(L.drop i).flatMap (kserT (tabOf (setsK L))):=by rw[←List.flatMap_append,List.take_append_drop]
  rw[this,List.length_append];omega
 simp only[List.length_append];omega
theorem Qkt (L:List KSer):kAtT L (tabOf (setsK L)) L.length=bodyK L:=by
 unfold kAtT bodyK;rw[List.take_length]
def gT (s:KSer) (i:Nat):List UInt8:=((List.range i).map fun j=>Kbo (s.g j)).flatten
theorem Kjq (s:KSer) (i:Nat):gT s (i+1)=gT s i++Kbo (s.g i):=by
 unfold gT;rw[List.range_succ,List.map_append,List.flatten_append];simp
theorem gT_le (s:KSer) {i:Nat} (h:i≤3):(gT s i).length≤(gT s 3).length:=by
 have:∀d j,(gT s j).length≤(gT s (j+d)).length:=by
  intro d
  induction d with
  | zero=>intro j;exact Nat.le_refl _
  | succ d ih=>
   intro j;have h1:=ih j;have:gT s (j+(d+1))=gT s (j+d)++Kbo (s.g (j+d)):=Kjq s (j+d);rw[this,List.length_append];omega
 have h2:=this (3 - i) i;have e:i+(3 - i)=3:=by omega
 rwa[e] at h2
theorem Qko (s:KSer):gT s 3=Kbo s.g0++(Kbo s.g1++Kbo s.g2):=by
 have e:gT s 3=gT s 0++Kbo (s.g 0)++Kbo (s.g 1)++Kbo (s.g 2):=by rw[Kjq,Kjq,Kjq]
 rw[e];have h0:gT s 0 = []:=rfl;rw[h0,List.nil_append,List.append_assoc];rfl
def pT (l:List Smp) (k:Nat):List UInt8:=((List.range k).map fun j=>textT (Kbg (pcL l j))).flatten
theorem Qow (l:List Smp):pT l ((l.length+119) / 120)=(Kbi l.length l).flatMap fun p=>textT (Kbg p):=by
 unfold pT;rw[Kkq _ _ (Nat.le_refl _),List.flatMap_def,List.map_map];rfl
theorem Qkw (t:List Txt) (s:KSer):kserT t s=pk t s.labels++(intT s.max++(gT s 3++(uintT s.samples.length++pT s.samples ((s.samples.length+119) / 120)))):=by
 unfold kserT smpsT;rw[Qko,Qow];simp only[List.append_assoc]
theorem Qhq {s:KSer} (h:Kdh s=true) (hv:∀x∈s.samples,x.v < 2 ^ 64) {p:List Smp} (hp:p∈Kbi s.samples.length s.samples):(Keb p).1=Kbg p:=by
 obtain ⟨f1,f2,f3,f4,f5⟩:=Kft.1 h;have hok:=Kyq f2.2 f4 f5 hv hp;have hfit:fitC none 0 p=true:=(Kow p none 0).2 ⟨fun x hx=>⟨(hok.1 x hx).1,(hok.1 x hx).2.1⟩,hok.2.1,fun y x hy=>(by cases hy),.inr (by have:=hok.2.2;omega)⟩;unfold Keb;rw[if_pos ((Klw p).2 hfit)]
def xT {n:Nat} (l:List Smp) (pre:List (Pc n)):List UInt8:=(pre.map fun x=>textT (Kbg (pcL l x.1))).flatten
theorem Qpa {n:Nat} (l:List Smp) (pre:List (Pc n)) (x:Pc n):xT l (pre ++ [x])=xT l pre++textT (Kbg (pcL l x.1)):=by
 unfold xT;rw[List.map_append,List.flatten_append];simp
theorem Qjk (l:List UInt8):(textT l).length=(uintT l.length).length+l.length:=by
 unfold textT;rw[List.length_append]
theorem Qcp (l:List Smp) (k:Nat):(pcL l k).length≤120:=by
 unfold pcL;rw[List.length_take];omega
theorem Qka (l:List Smp) (k:Nat):(textT (Kbg (pcL l k))).length≤2303:=by
 have h1:=Khk (pcL l k);have h2:=Qcp l k;have h3:=(Kam (Kbg (pcL l k)).length).2;rw[Qjk];omega
theorem Qjz {n:Nat} (l:List Smp):∀pre:List (Pc n),(xT l pre).length≤2303*pre.length
 | []=>by simp[xT]
 | x :: pre=>by
  have h1:=Qka l x.1;have h2:=Qjz l pre;have e:xT l (x :: pre)=textT (Kbg (pcL l x.1))++xT l pre:=by unfold xT;rw[List.map_cons,List.flatten_cons]
  rw[e,List.length_append,List.length_cons];omega
theorem Qpb {n N:Nat} (l:List Smp) (ys:List (Pc n)) (h:ys.map (·.1)=List.range N):xT l ys=pT l N:=by
 unfold xT pT;rw[←h,List.map_map];rfl
theorem Qgz {I J:Nat→Act→World→Prop} {n k:Nat} {a:Act} {w:World} (hJ:∀k a' w',I k a' w'→J k a' w') (hk:k < n) (h:∀a',a'=a→I k a' w):Handed J n a w:=Handed.intro k hk (hJ _ _ _ (h a rfl))
end
section
open Go.RowKit Go.Shelf Go.Sort
open Lib renaming hid → Jh
open List renaming length_append → Jd
attribute [local go_sem ↓] Go.wp_at_zero Go.wp_at_succ
attribute [local go_sem] Later.cell
attribute [local go_sem] Oper.semAt_some
theorem Knl:∀{L:List (List Lb)},(∀s∈L,s.length≤8)→(allT L).length≤16*L.length
 | [],_=>by simp[allT]
 | l :: L,h=>by
  have h1:=Knl (L:=L) fun s hs=>h s (by simp[hs])
  have h2:=h l (by simp);rw[Ksx,Jd,Khd,List.length_cons];omega
theorem Qeo {l:List Lb} {x:Txt} (h:x∈texts l):∃y∈l,x=y.n∨x=y.v:=by
 unfold texts at h;obtain ⟨y,hy,hx⟩:=List.mem_flatMap.1 h;simp at hx;exact ⟨y,hy,hx⟩
def kencF (L:List KSer):List UInt8×Nat:=if fitK L=true then (encK L,0) else ([],150)
theorem Khg (L:List KSer) (A:Option Addr) (n c:Nat) (w:World) (hS:KSers w A n L) (hz:∀s∈L,KSz s) (hn:n≤1073741824) (hT:DbTab w) (hN:Kdu w) (hsz:fitK L=true→(bodyK L).length≤35184372088832) :
  Calls Tryz.prog 9 #[.slice A n c] w fun e w'=>e = .returned (.tuple #[.string ⟨(kencF L).1.toArray⟩,.int .i64 ((kencF L).2:Nat)])∧Below w.heap.size w w':=by
 have HFIT:=Jh (Qel L A n c w hS hz (by omega));obtain ⟨F,hF⟩:∃F,fitK L=F:=⟨_,rfl⟩;rw[hF] at HFIT hsz;have HS:=Jh hS;have HZ:=Jh hz;have HT:=Jh hT;have HN:=Jh hN;have HSZ:=Jh hsz;have HF:=Jh hF;have HLEN:Hid (L.length=n):=Jh (by obtain ⟨_,_,h,_⟩:=hS;exact h);obtain ⟨q,hq⟩:∃q,w.heap.size=q:=⟨_,rfl⟩;have HQ:=Jh hq;rw[hq];obtain ⟨R,hR⟩:∃R,kencF L=R:=⟨_,rfl⟩;rw[hR];have HR:=Jh hR;clear hS hz hT hN hsz hF hq hR;refine (callsIn_wide (n:=3)).1 ?_;refine callsIn_of_wp_marks Tryz.func9 rfl trivial ?_ rfl;simp only[Tryz.ntmps9,List.size_toArray,List.length_cons,List.length_nil,Nat.reduceAdd,Nat.reduceSub,Array.replicate_succ,Array.replicate_zero,List.push_toArray,List.append_toArray,List.nil_append,List.cons_append];refine wpIn_wide.2 ?_;go_wp2_with fail
 refine HFIT.out.mono ?_;rintro _ w1 ⟨rfl,hb1⟩;have HB1:=Jh (show Below q w w1 by rw[←HQ.out];exact hb1);clear hb1
 cases F with
 | false=>
  go_wp2_with fail
  have hR:R=([],150):=by rw[←HR.out];unfold kencF;rw[if_neg (by rw[HF.out];decide)]
  subst hR;exact Kik (B:=q) (fun w=>results_tmp2 rfl _ _ w) (fun w hb=>⟨rfl,hb⟩) [] w1 (Mrk.nil _ _) HB1.out
 | true=>
  obtain ⟨hfo,hnd⟩:=Kox.1 HF.out;have HFO:=Jh hfo;have hq1:q≤w1.heap.size:=by have:=HB1.out.size;rw[HQ.out] at this;exact this
  have hS1:KSers w1 A n L:=HS.out.below (by rw[HQ.out];exact HB1.out);have HKS:=Jh (Knp L A n c w1 hS1 (by omega));have hSz:=HSZ.out rfl;have HSZ2:=Jh hSz;have hR:R=(encK L,0):=by rw[←HR.out];unfold kencF;rw[if_pos HF.out]
  subst hR;clear hfo hnd hS1 hSz;go_wp2_with fail
  refine HKS.out.mono ?_;rintro _ w2 ⟨⟨v2,hs2,rfl,hr2,hl2,he2⟩,hb2⟩;have hB2:Below q w w2:=HB1.out.trans (hb2.mono hq1);have hq2:q≤w2.heap.size:=Nat.le_trans hq1 hb2.size;obtain ⟨A2,c2,rfl,hE2,_,_⟩:=Elems.of_own (fun x _=>Qgv x) rfl hr2 hl2;have hvf:∀s∈L,_:=fun s hs=>Koi (Kft.1 (HFO.out s hs)).1
  have hsz8:∀l∈setsK L,l.length≤8∧∀x∈l,x.n.length≤32∧x.v.length≤64:=fun l hl=>by
   unfold setsK at hl;obtain ⟨y,hy,rfl⟩:=List.mem_map.1 hl;have:=hvf y hy;exact ⟨this.2.2.1,this.2.2.2.1⟩
  have hsl:(setsK L).length=n:=by unfold setsK;rw[List.length_map];exact HLEN.out
  have hall:(allT (setsK L)).length≤16*n:=by
   have:=Knl (L:=setsK L) fun s hs=>(hsz8 s hs).1
   omega
  have htxt:∀x∈allT (setsK L),x.length≤64:=fun x hx=>by
   obtain ⟨s,hs,hx⟩:=List.mem_flatMap.1 hx;obtain ⟨y,hy,h1 | h1⟩:=Qeo hx
   ·rw[h1];have:=((hsz8 s hs).2 y hy).1;omega
   ·rw[h1];have:=((hsz8 s hs).2 y hy).2;omega
  have hSets:Sets w2 A2 n (setsK L):=by
   refine ⟨hs2,hE2,hsl,fun i h hi=>?_⟩;have hil:=(List.getElem?_eq_some_iff.1 hi).1;have e1:hs2[i]! = h:=by rw[getElem!_pos hs2 i hil];exact (List.getElem?_eq_some_iff.1 hi).2
   have h1:=he2 i (by omega);rw[e1] at h1
   have e:(setsK L)[i]! = (L[i]!).labels:=by
    have hL:i < L.length:=by have:=HLEN.out;omega
    unfold setsK;rw[getElem!_pos (L.map KSer.labels) i (by rw[List.length_map];exact hL),getElem!_pos L i hL,List.getElem_map]
   rw[e];exact ⟨(h1.1.below hb2).more hb2.size,h1.2⟩
  have HCO:=Jh (Kuw (setsK L) A2 n c2 w2 hSets (by omega) (by omega) (fun x hx=>by have:=htxt x hx;omega));have HALL:=Jh hall;have HVF:=Jh hvf;have HB2:=Jh hB2;clear hr2 hl2 he2 hb2 hB2 hE2 hvf hsz8 hall htxt hSets hsl;go_wp2_with fail
  refine HCO.out.mono ?_;rintro _ w5 ⟨pt,T,rfl,htab,hist,htl,hb5,hpt⟩;obtain rfl:T=tabOf (setsK L):=hist.one (show IsTab (allT (setsK L)) _ from Kiq (setsK L));obtain ⟨T,hTT⟩:∃T,tabOf (setsK L)=T:=⟨_,rfl⟩;rw[hTT] at htab hist htl;have HTT:=Jh hTT;have HTAB:=Jh htab;have HIST:=Jh hist;have HTL:=Jh htl;have HB5:=Jh (show Below q w w5 from HB2.out.trans (hb5.mono hq2));clear htab hist htl hb5 hpt hTT;go_upto_region 5 with fail
  have hkb:KB w5.heap.size [] (w5.alloc (.cells #[.pointer none,.slice none 0 0] 74)):=KB.new w5;have hb6:Below w5.heap.size w5 (w5.alloc (.cells #[.pointer none,.slice none 0 0] 74)):=(Below.refl _ _).alloc (Nat.le_refl _) _;obtain ⟨w6,hw6⟩:∃w6,w5.alloc (.cells #[.pointer none,.slice none 0 0] 74)=w6:=⟨_,rfl⟩;obtain ⟨b,hb⟩:∃b,w5.heap.size=b:=⟨_,rfl⟩;rw[hw6] at hkb hb6 ⊢;have hqb:q≤b:=by have:=HB5.out.size;rw[HQ.out,hb] at this;exact this
  have HTAB6:=Jh (HTAB.out.below hb6);rw[hb] at hkb hb6 ⊢;have hT64:T.length*16≤140737488351232:=by have:=HTL.out;have:=HALL.out;omega
  have htz:(tabT T).length≤35184372088832:=by
   have h1:=HSZ2.out;unfold bodyK at h1;rw[HTT.out,Jd] at h1;omega
  have HSE:=Jh (Kri (.pointer (some ⟨pt,0,none⟩)) T w6 HTAB6.out hT64 (by omega));obtain ⟨X,hX⟩:∃X:ByteArray,(⟨(tabT T).toArray⟩:ByteArray)=X:=⟨_,rfl⟩;have hXd:X.data.toList=tabT T:=by rw[←hX]
  have hXs:X.size=(tabT T).length:=by rw[←Kaj,hXd]
  rw[hX] at HSE;have HXD:=Jh hXd;have HBB:=Jh hb;have HB6:=Jh hb6;have HKB6:=Jh hkb;have hbw6:b≤w6.heap.size:=by have:=hb6.size;rw[hb] at this;exact this
  clear hw6 hb hkb hb6 hX hXd;go_wp2_with fail
  refine HSE.out.mono ?_;rintro _ w7 ⟨rfl,hb7⟩;have HB7:=Jh (HB6.out.trans (hb7.mono hbw6));have HTAB7:=Jh (HTAB6.out.below hb7);have hbw7:b≤w7.heap.size:=Nat.le_trans hbw6 hb7.size;have HW7:=Jh (Kdl X w7 (HKB6.out.below hb7) (by simp;omega));clear hb7 HB6 HKB6 HSE;go_wp2_with fail
  refine HW7.out.mono ?_;rintro _ w8 ⟨rfl,hkb8,hb8,hr8,ho8⟩;rw[List.nil_append,HXD.out] at hkb8;have HB8:=Jh (HB7.out.trans hb8);have hbw8:b≤w8.heap.size:=Nat.le_trans hbw7 hb8.size;have hu:=Kcx n (by omega) w8;obtain ⟨U,hU⟩:∃U:ByteArray,(⟨(uintT n).toArray⟩:ByteArray)=U:=⟨_,rfl⟩;have hUd:U.data.toList=uintT n:=by rw[←hU]
  have hUs:U.size≤11:=by rw[←Kaj,hUd];exact (Kam n).2
  rw[hU] at hu;have HU:=Jh hu;have HUD:=Jh hUd;have HKB8:=Jh hkb8;clear hkb8 hb8 hr8 ho8 hU hUd hu HB7 HW7;go_wp2_with fail
  refine HU.out.mono ?_;rintro _ w9 ⟨rfl,hb9⟩;have HB9:=Jh (HB8.out.trans (hb9.mono hbw8));have hbw9:b≤w9.heap.size:=Nat.le_trans hbw8 hb9.size;have HW9:=Jh (Kdl U w9 (HKB8.out.below hb9) (by omega));clear hb9 HB8 HKB8 HU;go_wp2_with fail
  refine HW9.out.mono ?_;rintro _ w10 ⟨rfl,hkb10,hb10,hr10,ho10⟩;have hk10:tabT T++U.data.toList=kAtT L T 0:=by unfold kAtT;rw[HUD.out,HLEN.out,List.take_zero];simp
  rw[hk10] at hkb10;have HKB10:=Jh hkb10;have HB10:=Jh (HB9.out.trans hb10);have HTB:=Jh (show ∀W,Below b w5 W→TabAt W (.pointer (some ⟨pt,0,none⟩)) T from fun W hW=>HTAB.out.below (by rw[HBB.out];exact hW));clear hkb10 hb10 hr10 ho10 hk10 HB9 HW9;go_wp2_with fail
  refine wp_loop_ghost_k (fun (g:Nat) (a:Act) (wr:World)=>∃(i:Nat) (Ds:List Nat) (u:Nat→Value),a = { tmps:=#[.slice A n c,undef,.string ⟨#[]⟩,.int .i64 0,.pointer (some ⟨pt,0,none⟩),.pointer (some ⟨b,0,none⟩),undef,u 7,u 8,u 9,undef,u 11,u 12,u 13,u 14,.slice A n c,.bool true,.bool false,.slice A n c,.slice A2 n c2,.pointer (some ⟨pt,0,none⟩),.pointer (some ⟨pt,0,none⟩),.string X,.tuple #[.int .i64 (((tabT T).length:Nat):Int),.nilIface],.slice A n c,.int .i64 (n:Int),.int .u64 (n:Int),.string U,.tuple #[.int .i64 ((U.size:Nat):Int),.nilIface],.slice A n c,.int .i64 (n:Int),u 31,u 32,u 33,u 34,u 35,u 36,u 37,u 38,u 39,u 40,u 41,u 42,u 43,u 44,u 45,u 46,u 47,u 48,u 49,u 50,u 51,u 52,u 53,u 54,u 55,u 56,u 57,u 58,u 59,u 60,u 61,u 62,u 63,u 64,u 65,u 66,u 67,u 68,u 69,u 70,u 71,u 72,u 73,u 74,u 75,undef,undef],defers:=mkD Ds }∧i+g=n∧u 31 = .int .i64 (i:Int)∧KB b (kAtT L T i) wr∧Below b w5 wr∧Mrk q Ds wr) n ⟨0,[],fun k=>(#[.slice A n c,undef,.string ⟨#[]⟩,.int .i64 0,.pointer (some ⟨pt,0,none⟩),.pointer (some ⟨b,0,none⟩),undef,undef,undef,undef,undef,undef,undef,undef,undef,.slice A n c,.bool true,.bool false,.slice A n c,.slice A2 n c2,.pointer (some ⟨pt,0,none⟩),.pointer (some ⟨pt,0,none⟩),.string X,.tuple #[.int .i64 (((tabT T).length:Nat):Int),.nilIface],.slice A n c,.int .i64 (n:Int),.int .u64 (n:Int),.string U,.tuple #[.int .i64 ((U.size:Nat):Int),.nilIface],.slice A n c,.int .i64 (n:Int),.int .i64 0,undef,undef,undef,undef,undef,undef,undef,undef,undef,undef,undef,undef,undef,undef,undef,undef,undef,undef,undef,undef,undef,undef,undef,undef,undef,undef,undef,undef,undef,undef,undef,undef,undef,undef,undef,undef,undef,undef,undef,undef,undef,undef,undef,undef,undef,undef]:Array Value).getD k undef,rfl,by omega,rfl,HKB10.out,HB10.out,Mrk.nil _ _⟩ ?_;rintro gg _ wr ⟨i,Ds,u,rfl,hig,hu31,hkb,hbr,hmk⟩ J K hJ hK
  try simp only[hu31]
  clear hu31;have HIG:=Jh hig;have HKB:=Jh hkb;have HBR:=Jh hbr;have HMK:=Jh hmk;have HJ:=Jh hJ;clear hig hkb hbr hmk hJ;obtain ⟨wo,rfl⟩:∃x,x=wr:=⟨_,rfl⟩;have hbwo:b≤wo.heap.size:=by have:=HBR.out.size;rw[HBB.out] at this;exact this
  have hqwo:Below q w wo:=HB5.out.trans (HBR.out.mono hqb)
  by_cases hi:i < n
  ·have el:decide (i < n)=true:=by rw[decide_eq_true_eq];exact hi
   have hi2:(i:Int) < (n:Int):=by omega
   have hil:i < L.length:=by rw[HLEN.out];exact hi
   obtain ⟨ys,hy1,_,hy3⟩:=HS.out;obtain ⟨hym,hka⟩:=hy3 i hi;obtain ⟨b1,o1,hA1,hb1,g1⟩:=((hy1.below (by rw[HQ.out];exact hqwo)).more (by rw[HQ.out];exact Nat.le_trans hqb hbwo)).getS hi;subst hA1;obtain ⟨s,hs⟩:∃s,L[i]! = s:=⟨_,rfl⟩;have hmem:s∈L:=by rw[←hs,getElem!_pos L i hil];exact List.getElem_mem hil
   have hcs:=HFO.out s hmem;have hzs:=HZ.out s hmem;have hval:=HVF.out s hmem;have hsuc:=Qhm (T:=T) hil;have hle:=Qnh L (i+1);rw[HTT.out] at hle;rw[hs] at hym hka hsuc;rw[Qkw] at hsuc;rw[hsuc] at hle;simp only[Jd] at hle;have hle2:=Nat.le_trans hle HSZ2.out;have hpk:packR T s.labels=(pk T s.labels,0):=Qis HIST.out.1 hval.2.2.2.2 (fun x hx=>(HIST.out.2 x).2 (List.mem_flatMap.2 ⟨_,List.mem_map.2 ⟨s,hmem,rfl⟩,hx⟩));obtain ⟨y,hy⟩:∃y,ys[i]! = y:=⟨_,rfl⟩;rw[hy] at g1 hym hka;obtain ⟨h,ym⟩:=y;dsimp only at hym hka;subst hym;have p0:wo.cell? ⟨b1,o1+i*6,none⟩=some (.slice h.l.A h.l.n h.l.c):=g1 0 _ rfl;have p1:wo.cell? ⟨b1,o1+i*6+1,none⟩=some (.int .i64 s.max):=g1 1 _ rfl;have p2:wo.cell? ⟨b1,o1+i*6+2,none⟩=some (.slice h.g0.A h.g0.n h.g0.c):=g1 2 _ rfl;have p3:wo.cell? ⟨b1,o1+i*6+3,none⟩=some (.slice h.g1.A h.g1.n h.g1.c):=g1 3 _ rfl;have p4:wo.cell? ⟨b1,o1+i*6+4,none⟩=some (.slice h.g2.A h.g2.n h.g2.c):=g1 4 _ rfl;have p5:wo.cell? ⟨b1,o1+i*6+5,none⟩=some (.slice h.s.A h.s.n h.s.c):=g1 5 _ rfl;obtain ⟨lP,hlP⟩:∃x,(kAtT L T i).length=x:=⟨_,rfl⟩;have HKA:=Jh (show ∀W,Below b w5 W→KAt W h s from fun W hW=>hka.below (by rw[HQ.out];exact HB5.out.trans (hW.mono hqb)));have HCS:=Jh hcs;have HZS:=Jh hzs;have HVAL:=Jh hval;have HSUC:=Jh hsuc;have HLE:=Jh hle2;have HPK:=Jh hpk;have HLP:=Jh hlP;clear g1 hy1 hy3 hy hs hmem hcs hzs hval hsuc hle hle2 hpk hil hka hlP;go_upto_region 10 with fail
   obtain ⟨w11,hw11⟩:∃y,wo.alloc (.cells #[.slice h.l.A h.l.n h.l.c,.int .i64 s.max,.slice h.g0.A h.g0.n h.g0.c,.slice h.g1.A h.g1.n h.g1.c,.slice h.g2.A h.g2.n h.g2.c,.slice h.s.A h.s.n h.s.c] 85)=y:=⟨_,rfl⟩;have hb11:Below wo.heap.size wo w11:=by rw[←hw11];exact (Below.refl _ _).alloc (Nat.le_refl _) _
   have hP11:Blk w11 wo.heap.size 85 #[.slice h.l.A h.l.n h.l.c,.int .i64 s.max,.slice h.g0.A h.g0.n h.g0.c,.slice h.g1.A h.g1.n h.g1.c,.slice h.g2.A h.g2.n h.g2.c,.slice h.s.A h.s.n h.s.c]:=by rw[←hw11];exact Blk.new _ _ _
   obtain ⟨pb,hpb⟩:∃y,wo.heap.size=y:=⟨_,rfl⟩;have HKB11:=Jh (HKB.out.below hb11);have HB11:=Jh (HBR.out.trans (hb11.mono hbwo));have HKA11:=Jh (HKA.out _ HB11.out);have HO11:=Jh (Kdr hb11);rw[hpb] at hP11;rw[hw11,hpb];have HP11:=Jh hP11;have d0:w11.cell? ⟨pb,0,none⟩=some (.slice h.l.A h.l.n h.l.c):=hP11.cell 0;have hbw11:b≤w11.heap.size:=Nat.le_trans hbwo hb11.size;have HPA:=Jh (Qeu (.pointer (some ⟨pt,0,none⟩)) T s.labels h.l.A h.l.n h.l.c w11 (pk T s.labels) 0 HPK.out (HTB.out w11 HB11.out) HIST.out.1 hT64 HKA11.out.l HKA11.out.lc (by have:=HVAL.out.2.2.1;have:=HKA11.out.l.len;omega) (fun x hx=>by have:=HVAL.out.2.2.2.1 x hx;omega));obtain ⟨X2,hX2⟩:∃X:ByteArray,(⟨(pk T s.labels).toArray⟩:ByteArray)=X:=⟨_,rfl⟩;have hX2d:X2.data.toList=pk T s.labels:=by rw[←hX2]
   have hX2s:X2.size=(pk T s.labels).length:=by rw[←Kaj,hX2d]
   rw[hX2] at HPA;have HX2D:=Jh hX2d;have HX2S:=Jh hX2s;clear hw11 hb11 hP11 hpb hX2 hX2d hX2s p0 p1 p2 p3 p4 p5 hqwo;go_wp2_with fail
   refine HPA.out.mono ?_;rintro _ w12 ⟨rfl,hb12⟩;have HB12:=Jh (HB11.out.trans (hb12.mono hbw11));have hbw12:b≤w12.heap.size:=Nat.le_trans hbw11 hb12.size;have HP12:=Jh (HP11.out.below hb12 HP11.out.lt);have HO12:=Jh (HO11.out.trans (Kdr hb12));have HW12:=Jh (Kdl X2 w12 (HKB11.out.below hb12) (by rw[HLP.out,HX2S.out];have:=HLE.out;rw[HLP.out] at this;omega));clear hb12 d0;go_wp2_with fail
   refine HW12.out.mono ?_;rintro _ w13 ⟨rfl,hkb13,hb13,hr13,ho13⟩;have HB13:=Jh (HB12.out.trans hb13);have hbw13:b≤w13.heap.size:=Nat.le_trans hbw12 hb13.size;have HP13:=Jh (hr13 _ _ _ HP12.out (by decide) (by decide));have HO13:=Jh (HO12.out.trans ho13);rw[HX2D.out] at hkb13;have HKB13:=Jh hkb13;have d1:w13.cell? ⟨pb,1,none⟩=some (.int .i64 s.max):=HP13.out.cell 1;have hii:=Kma s.max HZS.out.m.1 HZS.out.m.2 w13;obtain ⟨X3,hX3⟩:∃X:ByteArray,(⟨(intT s.max).toArray⟩:ByteArray)=X:=⟨_,rfl⟩;have hX3d:X3.data.toList=intT s.max:=by rw[←hX3]
   have hX3s:X3.size=(intT s.max).length:=by rw[←Kaj,hX3d]
   rw[hX3] at hii;have HII:=Jh hii;have HX3D:=Jh hX3d;have HX3S:=Jh hX3s;clear hb13 hr13 ho13 hkb13 hii hX3 hX3d hX3s;go_wp2_with fail
   refine HII.out.mono ?_;rintro _ w14 ⟨rfl,hb14⟩;have HB14:=Jh (HB13.out.trans (hb14.mono hbw13));have hbw14:b≤w14.heap.size:=Nat.le_trans hbw13 hb14.size;have HP14:=Jh (HP13.out.below hb14 HP13.out.lt);have HO14:=Jh (HO13.out.trans (Kdr hb14));have HW14:=Jh (Kdl X3 w14 (HKB13.out.below hb14) (by rw[Jd,HX3S.out];have:=HLE.out;omega));clear hb14 d1;go_wp2_with fail
   refine HW14.out.mono ?_;rintro _ w15 ⟨rfl,hkb15,hb15,hr15,ho15⟩;have HB15:=Jh (HB14.out.trans hb15);have hbw15:b≤w15.heap.size:=Nat.le_trans hbw14 hb15.size;have HP15:=Jh (hr15 _ _ _ HP14.out (by decide) (by decide));have HO15:=Jh (HO14.out.trans ho15);rw[HX3D.out] at hkb15;have HKB15:=Jh hkb15;have d2:w15.cell? ⟨pb,2,none⟩=some (.slice h.g0.A h.g0.n h.g0.c):=HP15.out.cell 2;have d3:w15.cell? ⟨pb,3,none⟩=some (.slice h.g1.A h.g1.n h.g1.c):=HP15.out.cell 3;have d4:w15.cell? ⟨pb,4,none⟩=some (.slice h.g2.A h.g2.n h.g2.c):=HP15.out.cell 4;clear hb15 hr15 ho15 hkb15;go_wp2_with fail
   obtain ⟨tb,htb⟩:∃x,kAtT L T i++pk T s.labels++intT s.max=x:=⟨_,rfl⟩;have HTBT:=Jh htb
   have htbl:tb.length+((gT s 3).length+((uintT s.samples.length).length+(pT s.samples ((s.samples.length+119) / 120)).length))≤35184372088832:=by
    have h1:=HLE.out;rw[←htb,Jd,Jd];omega
   have HTL:=Jh htbl;have hkb16:KB b (tb++gT s 0) w15:=by rw[show gT s 0 = [] from rfl,List.append_nil,←htb];exact HKB15.out
   have HKB16:=Jh hkb16;clear htb htbl hkb16 d2 d3 d4;go_loopg [50] 3 (fun g s50 wz=>∃j:Nat,j+g=3∧s50 = .int .i64 (j:Int)∧KB b (tb++gT s j) wz∧Below b w5 wz∧KeepsOthers wo wz∧Blk wz pb 85 #[.slice h.l.A h.l.n h.l.c,.int .i64 s.max,.slice h.g0.A h.g0.n h.g0.c,.slice h.g1.A h.g1.n h.g1.c,.slice h.g2.A h.g2.n h.g2.c,.slice h.s.A h.s.n h.s.c])
   case atStart=>exact ⟨0,by omega,rfl,HKB16.out,HB15.out,HO15.out,HP15.out⟩
   case round=>
    obtain ⟨j,hjg,rfl,hkbj,hbj,hoj,hpj⟩:=hrel;have HJG:=Jh hjg;have HKBJ:=Jh hkbj;have HBJ:=Jh hbj;have HOJ:=Jh hoj;have HPJ:=Jh hpj;clear hjg hkbj hbj hoj hpj;obtain ⟨wj,rfl⟩:∃x,x=wr:=⟨_,rfl⟩;have hbwj:b≤wj.heap.size:=by have:=HBJ.out.size;rw[HBB.out] at this;exact this
    have HKAJ:=Jh (HKA.out _ HBJ.out)
    by_cases hj:j < 3
    ·have el3:decide (j < 3)=true:=by rw[decide_eq_true_eq];exact hj
     have hj2:(j:Int) < 3:=by omega
     have ipt:∀W:World,(Instr.index 82 (.agg #[.slice h.g0.A h.g0.n h.g0.c,.slice h.g1.A h.g1.n h.g1.c,.slice h.g2.A h.g2.n h.g2.c]) (.int .i64 (j:Int))).run Tryz.prog W = .ok (.slice (h.g j).A (h.g j).n (h.g j).c) W:=fun W=>by
      rcases (by omega:j=0∨j=1∨j=2) with rfl | rfl | rfl
      ·kernel_rfl
      ·kernel_rfl
      ·kernel_rfl
     have hcan:Kbf (s.g j):=(Ktj.1 HCS.out).2.2.1 j hj;have hgz:=HZS.out.gi j;have hgl:=(HKAJ.out.g j).len;have hsp:=Kvo (s.g j) (h.g j).A (h.g j).n (h.g j).c wj (HKAJ.out.g j) (by omega) hgz.2 hcan;obtain ⟨X4,hX4⟩:∃X:ByteArray,(⟨(Kbo (s.g j)).toArray⟩:ByteArray)=X:=⟨_,rfl⟩;have hX4d:X4.data.toList=Kbo (s.g j):=by rw[←hX4]
     have hX4s:X4.size=(Kbo (s.g j)).length:=by rw[←Kaj,hX4d]
     rw[hX4] at hsp;have hgs:=Kjq s j;have hgle:=gT_le s (i:=j+1) (by omega);rw[hgs,Jd,←hX4s] at hgle;have HSP:=Jh hsp;have HX4D:=Jh hX4d;have HGS:=Jh hgs;have HGLE:=Jh hgle;clear hcan hgz hgl hsp hX4 hX4d hX4s hgs hgle;go_wp2_with fail
     refine HSP.out.mono ?_;rintro _ w16 ⟨rfl,hb16⟩;have HB16:=Jh (HBJ.out.trans (hb16.mono hbwj));have HP16:=Jh (HPJ.out.below hb16 HPJ.out.lt);have HO16:=Jh (HOJ.out.trans (Kdr hb16));have HW16:=Jh (Kdl X4 w16 (HKBJ.out.below hb16) (by rw[Jd];have:=HTL.out;have:=HGLE.out;omega));clear hb16;go_wp2_with fail
     refine HW16.out.mono ?_;rintro _ w17 ⟨rfl,hkb17,hb17,hr17,ho17⟩;have HB17:=Jh (HB16.out.trans hb17);have HP17:=Jh (hr17 _ _ _ HP16.out (by decide) (by decide));have HO17:=Jh (HO16.out.trans ho17);rw[HX4D.out,List.append_assoc,←HGS.out] at hkb17;have HKB17:=Jh hkb17;clear hb17 hr17 ho17 hkb17;go_wp2_with fail
     go_roundg (gk - 1)
     case measure=>have:=HJG.out;omega
     case rel=>exact ⟨j+1,by have:=HJG.out;omega,by go_num,HKB17.out,HB17.out,HO17.out,HP17.out⟩
    ·have el3:decide (j < 3)=false:=by rw[decide_eq_false_iff_not];exact hj
     have hj3:j=3:=by have:=HJG.out;omega
     subst hj3;have e5:wj.cell? ⟨pb,5,none⟩=some (.slice h.s.A h.s.n h.s.c):=HPJ.out.cell 5;have hsn:=HKAJ.out.s.len;have hun:=Kcx h.s.n (by have:=HZS.out.n;omega) wj;obtain ⟨X5,hX5⟩:∃X:ByteArray,(⟨(uintT h.s.n).toArray⟩:ByteArray)=X:=⟨_,rfl⟩;have hX5d:X5.data.toList=uintT h.s.n:=by rw[←hX5]
     have hX5s:X5.size=(uintT h.s.n).length:=by rw[←Kaj,hX5d]
     rw[hX5] at hun;have hnz:h.s.n≤1099511627776:=by have:=HZS.out.n;omega
     have HUN:=Jh hun;have HX5D:=Jh hX5d;have HX5S:=Jh hX5s;have HSN:=Jh hsn;clear hun hX5 hX5d hX5s hsn;go_wp2_with fail
     refine HUN.out.mono ?_;rintro _ w18 ⟨rfl,hb18⟩;have HB18:=Jh (HBJ.out.trans (hb18.mono hbwj));have hbw18:b≤w18.heap.size:=Nat.le_trans hbwj hb18.size;have HP18:=Jh (HPJ.out.below hb18 HPJ.out.lt);have HO18:=Jh (HOJ.out.trans (Kdr hb18));have HW18:=Jh (Kdl X5 w18 (HKBJ.out.below hb18) (by rw[Jd,HX5S.out];have:=HTL.out;rw[HSN.out] at this;omega));clear hb18 e5;go_wp2_with fail
     refine HW18.out.mono ?_;rintro _ w19 ⟨rfl,hkb19,hb19,hr19,ho19⟩;have HB19:=Jh (HB18.out.trans hb19);have hbw19:b≤w19.heap.size:=Nat.le_trans hbw18 hb19.size;have HP19:=Jh (hr19 _ _ _ HP18.out (by decide) (by decide));have HO19:=Jh (HO18.out.trans ho19);rw[HX5D.out] at hkb19;have HKB19:=Jh hkb19;have e5:w19.cell? ⟨pb,5,none⟩=some (.slice h.s.A h.s.n h.s.c):=HP19.out.cell 5;clear hb19 hr19 ho19 hkb19;go_wp2_with (go_at_call 35;refine (callsIn_wide.1 (Qkj Fence.wide 2 trivial rfl _ _ _ _)).mono ?_;rintro _ w' ⟨rfl,rfl⟩)
     obtain ⟨qc,hqc⟩:∃x,w19.heap.size=x:=⟨_,rfl⟩;have HQC:=Jh hqc;have bA:=Boxed.new w19 83 (.slice h.s.A h.s.n h.s.c);have bN:=Boxed.new (w19.alloc (.cells #[.slice h.s.A h.s.n h.s.c] 83)) 3 (.int .i64 120);have bA:=bA.alloc (.cells #[.int .i64 120] 3);rw[World.size_alloc] at bN;have hB20:Below b w5 ((w19.alloc (.cells #[.slice h.s.A h.s.n h.s.c] 83)).alloc (.cells #[.int .i64 120] 3)):=(HB19.out.alloc hbw19 _).alloc (by simp;omega) _;have hO20:KeepsOthers w19 ((w19.alloc (.cells #[.slice h.s.A h.s.n h.s.c] 83)).alloc (.cells #[.int .i64 120] 3)):=(KeepsOthers.alloc _ _).trans (KeepsOthers.alloc _ _);have hK20:KB b (tb++gT s 3++uintT h.s.n) ((w19.alloc (.cells #[.slice h.s.A h.s.n h.s.c] 83)).alloc (.cells #[.int .i64 120] 3)):=HKB19.out.below (((Below.refl _ _).alloc (Nat.le_refl _) _).alloc (by simp) _);obtain ⟨W0,hW0⟩:∃x,(w19.alloc (.cells #[.slice h.s.A h.s.n h.s.c] 83)).alloc (.cells #[.int .i64 120] 3)=x:=⟨_,rfl⟩;have hsz:W0.heap.size=qc+2:=by rw[←hW0,←hqc];simp
     rw[hW0,hqc] at bA bN;rw[hW0] at hB20 hO20 hK20 ⊢;rw[hqc];have hbqc:b≤qc:=by rw[←hqc];exact hbw19
     have HO20:=Jh (HO19.out.trans hO20);have HB20:=Jh hB20;obtain ⟨tc,htc⟩:∃x,tb++gT s 3++uintT h.s.n=x:=⟨_,rfl⟩;rw[htc] at hK20;have HTC:=Jh htc
     have htcl:tc.length≤35184372088832:=by
      have h1:=HTL.out;rw[HSN.out] at h1;rw[←htc,Jd,Jd];omega
     have HKA20:=Jh (HKA.out W0 hB20);have hsA:0 < h.s.n→∃bb off,h.s.A=some ⟨bb,off,none⟩:=fun hp=>by obtain ⟨bb,off,e,_⟩:=HKA20.out.s.2 hp;exact ⟨bb,off,e⟩
     have hsc:h.s.n≤h.s.c:=HKA20.out.sc;have st:=Qaf Fence.wide 2 trivial rfl (by omega) qc (qc+1) h.s.A h.s.n h.s.c hsc (by omega) hsA W0 (by omega) (by omega) bA.cell bN.cell;obtain ⟨I,hI⟩:∃I:List (Pc h.s.n)→World→Prop,I=fun pre W=>KB b (tc++xT s.samples pre) W∧((Boxed W qc 83 (.slice h.s.A h.s.n h.s.c)∧Boxed W (qc+1) 3 (.int .i64 120))∧(Below b W0 W∧KeepsFrom 0 W0 W)):=⟨_,rfl⟩
     have own:OwnFrom W0.heap.size I:=by
      rw[hI];exact OwnFrom.and (Qou b (fun pre:List (Pc h.s.n)=>tc++xT s.samples pre) W0.heap.size) (OwnFrom.and (OwnFrom.and (Own.from (boxed_own (β:=List (Pc h.s.n)) qc 83 (fun _=>.slice h.s.A h.s.n h.s.c)) W0.heap.size) (Own.from (boxed_own (β:=List (Pc h.s.n)) (qc+1) 3 (fun _=>.int .i64 120)) W0.heap.size)) (OwnFrom.and (ownFrom_below (β:=List (Pc h.s.n)) (B:=W0.heap.size) (n₀:=b) (w₀:=W0) (by omega) (by omega)) (ownFrom_keepsFrom (β:=List (Pc h.s.n)) (B:=0) (w₀:=W0) (Nat.le_refl _))))
     have h0:I [] W0:=by
      rw[hI];exact ⟨by simpa[xT] using hK20,⟨bA,bN⟩,Below.refl _ _,KeepsFrom.refl _ _⟩
     clear hW0 hqc bA bN hB20 hO20 hK20 htc hsA e5;refine (wpIn_wide (n:=3)).1 ?_;have hKb:∀(W:World) (l:Nat) (o o':Obj),W0.heap.size≤l→W.heap[l]? = some o→o.isCells=false→o.isWalk=false→KpC qc (qc+1) W (W.putObj l o'):=fun W l o o2 hl _ _ _=>KpC.put (B:=W0.heap.size) (by omega) (by omega) W l o2 hl
     apply wpIn_rangeFunc_ownG (F:=Fence.wide) (n:=3) rfl (by omega) (gf:=89) (lb:=#[.pointer (some ⟨qc,0,none⟩),.pointer (some ⟨qc+1,0,none⟩)]) rfl trivial (enters_of Tryz.func89 (by kernel_rfl) rfl)
      st (fun h k=>KpC.trans h k) hKb (Below.refl _ _) (fun x=>(rfl:(#[pcV h.s.A h.s.n x.1]:Array Value).size=1)) I
      (fun _ _ _=>False) own (fun _ _ _ _ _ hs _ _=>hs) h0
     case hassign=>
      intro l x W K hK
      gi_wp2
      exact hK
     case hbody=>
      intro l pre x W hIW hlt;rw[hI] at hIW;obtain ⟨hkb,⟨hba,hbn⟩,hBW,hKF⟩:=hIW;have hBb:Below b w5 W:=HB20.out.trans hBW;have hxN:x.1 < (h.s.n+119) / 120:=by have:=x.2;omega
      have hKW:=HKA.out W hBb
      obtain ⟨A7,m7,hpv,hE7,hm7⟩:∃A7 m7,pcV h.s.A h.s.n x.1 = .slice A7 m7 m7∧Elems W W.heap.size 2 Kcb A7 m7 (pcL s.samples x.1)∧m7≤120:=by
       refine ⟨_,_,rfl,?_,Nat.min_le_left _ _⟩;have:=Qbb hKW.s (k:=x.1*120) x.2 (Nat.min 120 (h.s.n - x.1*120)) (Nat.min_le_right _ _);unfold pcL
       have e2:(s.samples.drop (x.1*120)).take 120=(s.samples.drop (x.1*120)).take (Nat.min 120 (h.s.n - x.1*120)):=by
        rw[List.take_eq_take_iff,List.length_drop,HSN.out];show min 120 _=min (min 120 _) _
        omega
       rw[e2];exact this
      rw[hpv];have hpo:(Keb (pcL s.samples x.1)).1=Kbg (pcL s.samples x.1):=Qhq HCS.out HZS.out.v (by rw[Kkq _ _ (Nat.le_refl _),HSN.out];exact List.mem_map.2 ⟨_,List.mem_range.2 hxN,rfl⟩);have hcl:=Khk (pcL s.samples x.1);have hpl:=Qcp s.samples x.1;have HC:=Klh (pcL s.samples x.1) A7 m7 m7 W hE7 (by omega) (fun y hy=>HZS.out.v y (List.mem_of_mem_drop (List.mem_of_mem_take hy))) (HT.out.below (by rw[HQ.out];exact HB5.out.trans (hBb.mono hqb)));rw[hpo] at HC;obtain ⟨e9,he9⟩:∃e9:Nat,(Keb (pcL s.samples x.1)).2=e9:=⟨_,rfl⟩;rw[he9] at HC;obtain ⟨X6,hX6⟩:∃X:ByteArray,(⟨(Kbg (pcL s.samples x.1)).toArray⟩:ByteArray)=X:=⟨_,rfl⟩;have hX6d:X6.data.toList=Kbg (pcL s.samples x.1):=by rw[←hX6]
      have hX6s:X6.size=(Kbg (pcL s.samples x.1)).length:=by rw[←Kaj,hX6d]
      rw[hX6] at HC;have HTX:=fun W=>Khu X6 (by omega) W
      rw[hX6d] at HTX;obtain ⟨X7,hX7⟩:∃X:ByteArray,(⟨(textT (Kbg (pcL s.samples x.1))).toArray⟩:ByteArray)=X:=⟨_,rfl⟩;have hX7d:X7.data.toList=textT (Kbg (pcL s.samples x.1)):=by rw[←hX7]
      have hX7s:X7.size≤2303:=by rw[←Kaj,hX7d];exact Qka _ _
      rw[hX7] at HTX;have hxl:=Qjz s.samples pre;have hlen9:(tc++xT s.samples pre).length+X7.size≤140737488355328:=by rw[Jd];omega
      have HC:=Jh HC;have HTX:=Jh HTX;have HX7D:=Jh hX7d;have HXA:=Jh (Qpa s.samples pre x);have HBA:=Jh hba;have HBN:=Jh hbn;have HBW:=Jh hBW;have HKF:=Jh hKF;have HKBW:=Jh hkb;have hbW:b≤W.heap.size:=by have:=hBW.size;omega
      clear hpv hE7 hm7 hpo hcl hpl he9 hX6 hX6d hX6s hX7 hX7d hX7s hxl hba hbn hBb hBW hKF hKW hkb hxN
      gi_wp2_with (first
       | (refine ⟨trivial,?_⟩;gi_at_call 36;refine (CallsIn.inRound l (callsIn_wide.2 HC.out)).mono ?_;rintro e w22 ⟨rfl,hb22⟩;have HB22:=Jh hb22;clear hb22)
       | (refine ⟨trivial,?_⟩;gi_at_call 37;refine (CallsIn.inRound l (callsIn_wide.2 (HTX.out w22))).mono ?_;rintro e w23 ⟨rfl,hb23⟩;have HB23:=Jh (HB22.out.trans (hb23.mono HB22.out.size));clear hb23;have HW23:=Jh (Kdl X7 w23 (HKBW.out.below HB23.out) hlen9))
       | (refine ⟨trivial,?_⟩;gi_at_call 29;refine (CallsIn.inRound l (callsIn_wide.2 HW23.out)).mono ?_;rintro e w24 ⟨rfl,hkb24,hb24,hr24,ho24⟩))
      have hA24:=hr24 _ _ _ (show Blk w23 qc 83 #[.slice h.s.A h.s.n h.s.c] from (show Blk W qc 83 #[.slice h.s.A h.s.n h.s.c] from HBA.out).below HB23.out (Blk.lt HBA.out)) (by decide) (by decide);have hN24:=hr24 _ _ _ (show Blk w23 (qc+1) 3 #[.int .i64 120] from (show Blk W (qc+1) 3 #[.int .i64 120] from HBN.out).below HB23.out (Blk.lt HBN.out)) (by decide) (by decide);have hko:=(Kdr HB23.out).trans ho24;refine ⟨hko.from _,⟨(show _=_ from hA24).trans (show _=_ from HBA.out).symm,(show _=_ from hN24).trans (show _=_ from HBN.out).symm⟩,?_⟩;rw[hI];refine ⟨?_,⟨hA24,hN24⟩,(HBW.out.trans (HB23.out.mono hbW)).trans hb24,HKF.out.trans (hko.from 0)⟩;rw[HX7D.out,List.append_assoc,←HXA.out] at hkb24;exact hkb24
     case hstop=>
      rintro D c pre W _ _ hh _;exact hh.elim
     case hdone=>
      intro D ys W hD hys hIW hKD;rw[hI] at hIW;obtain ⟨hkb,_,hBW,hKF⟩:=hIW;rw[Qpb s.samples ys hys] at hkb;have hm0:=HMK.out.keep HO20.out;have hmk:Mrk q (D :: Ds) W:=(hm0.keepF hKF).more hm0 hD (by omega) hKD
      have hkbF:KB b (kAtT L T (i+1)) W:=by
       rw[HSUC.out];rw[←HTC.out,←HTBT.out] at hkb;rw[HSN.out];simpa only[List.append_assoc] using hkb
      have HFIN:Hid (KB b (kAtT L T (i+1)) W∧Below b w5 W∧Mrk q (D :: Ds) W):=Jh ⟨hkbF,HB20.out.trans hBW,hmk⟩;clear hkb hBW hKF hKD hys hm0 hmk hkbF st own h0 hKb hI;go_wp2_with fail
      refine Qgz HJ.out (k:=gg - 1) (by have:=HIG.out;omega) fun a' ha=>⟨i+1,D :: Ds,fun k=>a'.tmps.getD k undef,?_,by have:=HIG.out;omega,?_,HFIN.out.1,HFIN.out.2.1,HFIN.out.2.2⟩
      ·subst ha
       first | kernel_rfl | rfl
      ·subst ha;show Value.int .i64 _=_
       go_num
  ·have el:decide (i < n)=false:=by rw[decide_eq_false_iff_not];exact hi
   have hin:i=n:=by have:=HIG.out;omega
   have hkbn:KB b (bodyK L) wo:=by
    have h1:=HKB.out;rw[hin,←HTT.out,←HLEN.out,Qkt] at h1;exact h1
   have HST:=Jh (Ksh wo hkbn);obtain ⟨Y,hY⟩:∃Y:ByteArray,(⟨(bodyK L).toArray⟩:ByteArray)=Y:=⟨_,rfl⟩;have hYd:Y.data.toList=bodyK L:=by rw[←hY]
   have hYs:Y.size=(bodyK L).length:=by rw[←Kaj,hYd]
   rw[hY] at HST;have HYD:=Jh hYd;have hYz:Y.size≤140737488351232:=by have:=HSZ2.out;omega
   clear hin hkbn hY hYd hYs;go_wp2_with fail
   refine HST.out.mono ?_;rintro _ w16 ⟨rfl,hb16,ho16⟩;have HB16:=Jh (HB5.out.trans ((HBR.out.trans hb16).mono hqb));have hbq16:q≤w16.heap.size:=by have:=HB16.out.size;rw[HQ.out] at this;exact this
   have HMK16:=Jh (HMK.out.keep ho16);have hsl:=Qff Y hYz w16 (HN.out.below HN.out.lt (by rw[HQ.out];exact HB16.out));obtain ⟨Z,hZ⟩:∃Z:ByteArray,(⟨(sealT Y.data.toList).toArray⟩:ByteArray)=Z:=⟨_,rfl⟩;have hZe:(⟨(encK L).toArray⟩:ByteArray)=Z:=by rw[←hZ,HYD.out];rfl
   rw[hZ] at hsl;have HSL:=Jh hsl;have HZE:=Jh hZe;clear hsl hZ hZe hb16 ho16;go_wp2_with fail
   refine HSL.out.mono ?_;rintro _ w17 ⟨rfl,hb17⟩;have HB17:=Jh (HB16.out.trans (hb17.mono hbq16));have HMK17:=Jh (HMK16.out.keep (Kdr hb17));clear hb17;go_wp2_with fail
   rw[HZE.out];exact Kik (B:=q) (fun w=>results_tmp2 rfl _ _ w) (fun w hb=>⟨rfl,hb⟩) Ds w17 HMK17.out HB17.out
end
section
open Go.RowKit
def labsS (S:List (List Lb)):Nat:=(S.map List.length).sum
theorem Ksw:∀S:List (List Lb),(allS S).length=2*labsS S
 | []=>rfl
 | l :: S=>by
  have h2:=Ksw S;have h3:=Khd l;unfold allS labsS at *;rw[List.flatMap_cons,List.length_append,List.map_cons,List.sum_cons];omega
theorem Kzi {S:List (List Lb)} (h:Kpk S):(tabT (tabOf S)).length≤11+150*labsS S:=by
 have h1:(tabOf S).length≤2*labsS S:=by
  refine Nat.le_trans (Klt _) ?_;rw[List.length_mergeSort,Ksw];exact Nat.le_refl _
 have h3:=Kjx 64 (tabOf S) (Krk h).2;have h4:=(Kam (tabOf S).length).2;unfold tabT;rw[List.length_append];omega
end
section
open Go.RowKit
open List renaming length_append → Jd
def KSer.mass (s:KSer):Nat:=s.g0.length+s.g1.length+s.g2.length+s.samples.length
def massK (L:List KSer):Nat:=(L.map KSer.mass).sum
theorem Qnz (x:Spn):(spnT x).length≤22:=by
 have h1:=(Kam (zig x.frm)).2;have h2:=(Kam (zig x.to_)).2;unfold spnT intT;rw[Jd];omega
theorem Kzb:∀l:List Spn,((l.map spnT).flatten).length≤22*l.length
 | []=>by simp
 | x :: l=>by
  have h1:=Qnz x;have h2:=Kzb l;rw[List.map_cons,List.flatten_cons,Jd,List.length_cons];omega
theorem Kmr (l:List Spn):(Kbo l).length≤11+22*l.length:=by
 have h1:=(Kam l.length).2;have h2:=Kzb l;unfold Kbo;rw[Jd];omega
theorem Kjs:∀(f:Nat) (l:List Smp),((Kbi f l).flatMap fun p=>textT (Kbg p)).length≤42*l.length
 | 0,l=>by simp[Kbi]
 | f+1,[]=>by simp[Kbi]
 | f+1,x :: l=>by
  have h1:=Khk ((x :: l).take 120);have h0:=(Kam (Kbg ((x :: l).take 120)).length).2;have h2:=Kjs f ((x :: l).drop 120);have h3:((x :: l).take 120).length=min 120 (l.length+1):=by rw[List.length_take,List.length_cons]
  have h4:((x :: l).drop 120).length=l.length+1 - 120:=by rw[List.length_drop,List.length_cons]
  rw[Kbi,List.flatMap_cons,Jd,List.length_cons];unfold textT at *;rw[Jd];omega
theorem Kua:∀(f:Nat) (l:List Smp),∀p∈Kbi f l,p.length≤l.length
 | 0,l,p,h=>by simp[Kbi] at h
 | f+1,[],p,h=>by simp[Kbi] at h
 | f+1,x :: l,p,h=>by
  rw[Kbi] at h;rcases List.mem_cons.1 h with rfl | h
  ·rw[List.length_take];omega
  ·have:=Kua f _ p h;rw[List.length_drop] at this;omega
theorem Qmf (l:List Smp):(smpsT l).length≤11+42*l.length:=by
 have h1:=(Kam l.length).2;have h2:=Kjs l.length l;unfold smpsT;rw[Jd];omega
theorem Qkx (t:List Txt) (s:KSer):(kserT t s).length≤66+22*s.labels.length+42*s.mass:=by
 have h1:=Qox t s.labels;have h2:=(Kam (zig s.max)).2;have h3:=Kmr s.g0;have h4:=Kmr s.g1;have h5:=Kmr s.g2;have h6:=Qmf s.samples;unfold kserT KSer.mass;unfold intT;simp only[Jd];omega
def labsK (L:List KSer):Nat:=(L.map fun s=>s.labels.length).sum
theorem Qep (L:List KSer):labsS (setsK L)=labsK L:=by
 unfold labsS setsK labsK;rw[List.map_map];rfl
theorem Kts (t:List Txt):∀L:List KSer,(L.flatMap (kserT t)).length≤66*L.length+22*labsK L+42*massK L
 | []=>by simp[labsK,massK]
 | s :: L=>by
  have h1:=Qkx t s;have h2:=Kts t L;simp only[labsK,massK,List.map_cons,List.sum_cons,List.flatMap_cons,Jd,List.length_cons] at *;omega
theorem Kso {L:List KSer} (h:fitK L=true):Kpk (setsK L):=by
 intro l hl;obtain ⟨s,hs,rfl⟩:=List.mem_map.1 hl;obtain ⟨h1,_⟩:=Kft.1 ((Kox.1 h).1 s hs);have:=Koi h1;exact ⟨this.2.2.1,this.2.2.2.1⟩
theorem Koq {L:List KSer} (h:fitK L=true):(bodyK L).length≤22+172*labsK L+66*L.length+42*massK L:=by
 have hs:=Kso h;have h1:=Kzi hs;have h2:=(Kam L.length).2;have h3:=Kts (tabOf (setsK L)) L;rw[Qep] at h1;unfold bodyK;simp only[Jd];omega
theorem Qkz {L:List KSer} (h:fitK L=true):labsK L≤8*L.length:=by
 have hs:=Kso h
 have:∀L:List KSer,Kpk (setsK L)→labsK L≤8*L.length:=by
  intro L
  induction L with
  | nil=>intro _;simp[labsK]
  | cons s L ih=>
   intro hs;have h1:=(hs s.labels (by simp[setsK])).1;have h2:=ih (fun l hl=>hs l (by simp[setsK] at hl ⊢;exact .inr hl));simp only[labsK,List.map_cons,List.sum_cons,List.length_cons] at *;omega
 exact this L hs
theorem Kto {I:List UInt8}:∀(n:Nat) (out:List (List Spn)) (i:Nat) {gs:List (List Spn)} {j:Nat},gonR I n out i=some (gs,j)→i≤I.length→(gs.map List.length).sum+i≤(out.map List.length).sum+j∧j≤I.length∧gs.length=out.length+n
 | 0,out,i,gs,j,h,hi=>by
  injection h with h;injection h with h1 h2;subst h1;subst h2;exact ⟨Nat.le_refl _,hi,rfl⟩
 | n+1,out,i,gs,j,h,hi=>by
  rw[gonR] at h
  split at h
  ·cases h
  ·rename_i x j' h1
   obtain ⟨p1,p2,_⟩:=Kmq h1 hi;obtain ⟨q1,q2,q3⟩:=Kto n _ _ h p2;simp only[List.map_append,List.sum_append,List.map_cons,List.map_nil,List.sum_cons,List.sum_nil,Jd,List.length_singleton] at q1 q3;exact ⟨by omega,q2,by omega⟩
theorem Krf {I:List UInt8} {n:Nat}:∀(f:Nat) (out:List Smp) (i:Nat) {x:List Smp} {j:Nat},smpsR I n f out i=some (x,j)→i≤I.length→x.length+120*i≤out.length+120*j∧j≤I.length
 | 0,out,i,x,j,h,_=>by cases h
 | f+1,out,i,x,j,h,hi=>by
  rw[smpsR] at h
  by_cases hn:out.length < n
  ·rw[if_pos hn] at h;obtain ⟨y,k,e,hr⟩:∃y k e,Kbk I (i:Int)=(y,k,e):=⟨_,_,_,rfl⟩;rw[hr] at h;dsimp only at h
   by_cases he:e=0
   ·subst he;rw[if_pos rfl] at h;obtain ⟨r1,r2,r3⟩:=Kel hr
    cases hd:decC y with
    | none=>rw[hd] at h;cases h
    | some l=>
     rw[hd] at h;dsimp only at h
     by_cases hl:l = []
     ·rw[if_pos hl] at h;cases h
     ·rw[if_neg hl] at h;have hdv:=Kwu hd;obtain ⟨q1,q2⟩:=Krf f _ _ h r2;rw[Jd] at q1;exact ⟨by omega,q2⟩
   ·rw[if_neg he] at h;cases h
  ·rw[if_neg hn] at h;injection h with h;injection h with h1 h2;subst h1;subst h2;exact ⟨Nat.le_refl _,hi⟩
theorem Qen {t:List Txt} {I:List UInt8} {i j:Nat} {s:KSer} (h:kserR t I i=some (s,j)) (hi:i≤I.length):s.mass+120*i≤120*j∧j≤I.length:=by
 rw[Kpb] at h;obtain ⟨l,j0,e,hu⟩:∃l j e,unpR t I i=(l,j,e):=⟨_,_,_,rfl⟩;rw[hu] at h;dsimp only at h
 by_cases he:e=0
 ·subst he;rw[if_neg (by simp)] at h;have hpos:=Kpi hu hi
  cases h1:riAt I j0 with
  | none=>rw[h1] at h;cases h
  | some x=>
   obtain ⟨m,j1⟩:=x;rw[h1] at h;dsimp only at h;have p1:=Kfe hpos.2 h1
   cases h2:gonR I 3 [] j1 with
   | none=>rw[h2] at h;cases h
   | some x=>
    obtain ⟨gs,j4⟩:=x;rw[h2] at h;unfold kTail at h;dsimp only at h;obtain ⟨q1,q2,q3⟩:=Kto 3 [] j1 h2 p1.2
    have hgs:gs[0]!.length+gs[1]!.length+gs[2]!.length=(gs.map List.length).sum:=by
     match gs,q3 with
     | [a,b,c],_=>simp;omega
    cases h3:ruAt I j4 with
    | none=>rw[h3] at h;cases h
    | some x=>
     obtain ⟨n,j5⟩:=x;rw[h3] at h;dsimp only at h;have p3:=Ket q2 h3
     cases h4:smpsR I n (n+1) [] j5 with
     | none=>rw[h4] at h;cases h
     | some x=>
      obtain ⟨y,j6⟩:=x;rw[h4] at h;dsimp only at h;injection h with h;injection h with h5 h6;subst h5;subst h6;obtain ⟨s1,s2⟩:=Krf _ _ _ h4 p3.2;simp at s1 q1;refine ⟨?_,s2⟩;unfold KSer.mass;dsimp only;omega
 ·rw[if_pos he] at h;cases h
theorem Kno {t:List Txt} {I:List UInt8}:∀(n:Nat) (out:List KSer) (i:Nat) {L:List KSer},Ked t I n out i=some L→i≤I.length→massK L+120*i≤massK out+120*I.length
 | 0,out,i,L,h,hi=>by
  injection h with h;subst h;omega
 | n+1,out,i,L,h,hi=>by
  rw[Ked] at h
  split at h
  ·cases h
  ·rename_i s j h1
   obtain ⟨p1,p2⟩:=Qen h1 hi;have h2:=Kno n _ _ h p2;have h3:massK (out ++ [s])=massK out+s.mass:=by simp[massK]
   omega
theorem Kxu {L:List KSer} (h:fitK L=true) (hz:∀s∈L,KSz s) (hn:L.length≤1099511627776):KBits L:=by
 have hs:=Kso h;have ht:=Krk hs;have hsl:(setsK L).length=L.length:=by simp[setsK]
 refine ⟨fun s hs=>(hz s hs).v,fun s hs=>(hz s hs).i,fun s hs=>?_,by omega,fun x hx=>by have:=ht.2 x hx;omega,by omega,fun s hs p hp=>?_⟩
 ·have h1:=(hz s hs).n;have h2:=(hz s hs).g;omega
 ·have h1:=Khk p;have h2:=(hz s hs).n;have h3:=Kua s.samples.length s.samples p hp;omega
end
section
open Go.RowKit Go.Shelf Go.Sort
attribute [local go_sem ↓] Go.wp_at_zero Go.wp_at_succ
attribute [local go_sem] Later.cell
section
variable {P : Program} {Q : Exit → Act → World → Prop}
theorem Oper.wp_calledK {o:Oper} {a:Act} {w w1:World} {g:FuncId} {args:Array Value} {d:Option Tmp} {K:Act→World→Prop} (hd:o.dst=d) (h:(execOp a.eval o).run P w = .ok (.enter g args) w1) {N:Value→World→Prop}
  (hc:Calls P g args w1 fun e w'=>(∃u,e = .returned u∧N u w')∨∃c,e = .panicked c∧Q (.panic c) a w') (hK:∀u w',N u w'→K (a.put d u) w'):OpW o P a w K Q:=.of <| by
 subst hd;unfold Oper.wp;rw[h];refine Calls.mono hc ?_;rintro e w' (⟨u,rfl,hn⟩ | ⟨c,rfl,hq⟩)
 ·exact hK u w' hn
 ·exact hq
def Qgy (S:List PanicEntry→Act→World→Prop) (Q:Exit→Act→World→Prop):Exit→Act→World→Prop
 | .panic c,a,w=>S c a w
 | .normal,a,w=>Q .normal a w
 | .exit i,a,w=>Q (.exit i) a w
 | .goto l,a,w=>Q (.goto l) a w
 | .ret,a,w=>Q .ret a w
 | .outgrown,a,w=>Q .outgrown a w
theorem Qjy {c:Code} {a:Act} {w:World} (S:List PanicEntry→Act→World→Prop) (hS:∀c a w,S c a w→Q (.panic c) a w) (h:c.wp P (Qgy S Q) a w):c.wp P Q a w:=
 Code.wp_mono (fun e a w h=>by
  cases e with
  | panic c=>exact hS _ _ _ h
  | normal=>exact h
  | exit i=>exact h
  | goto l=>exact h
  | ret=>exact h
  | outgrown=>exact h) h
end
structure KPN (w0:World) (q:Nat) (w:World):Prop where
 o:∃x,Blk w q 22 #[x]
 e:∃y,Blk w (q+1) 23 #[y]
 bl:Below q w0 w
theorem KPN.kept {w0 w w':World} {q:Nat} {ex:List Nat} (h:KPN w0 q w) (hk:Kept w.heap.size ex w w') (hx:∀k∈ex,q+1 < k):KPN w0 q w':=by
 obtain ⟨x,hx1⟩:=h.o;obtain ⟨y,hy1⟩:=h.e;refine ⟨⟨x,hx1.kept hk hx1.lt (fun h=>by have:=hx _ h;omega)⟩,⟨y,hy1.kept hk hy1.lt (fun h=>by have:=hx _ h;omega)⟩,h.bl.trans ⟨hk.os,hk.tape,hk.output,hk.size,fun k hlt=>hk.block k (by have:=hy1.lt;omega) (fun h=>by have:=hx _ h;omega)⟩⟩
theorem KPN.below {w0 w w':World} {q:Nat} (h:KPN w0 q w) (hb:Below w.heap.size w w'):KPN w0 q w':=h.kept (Kept.of_below (ex:=[]) hb) (by simp)
structure KPan (w0:World) (q:Nat) (r:Except Nat (List KSer)) (D:List Deferred) (c:List PanicEntry) (a:Act) (w:World):Prop where
 c:∃tt xx,c = [{ v:=.iface tt xx,recovered:=false }]
 n:KPN w0 q w
 r:r = .error 150
 d:a.defers=D
 t2:a.tmps.getD 2 undef = .pointer (some ⟨q,0,none⟩)
 t3:a.tmps.getD 3 undef = .pointer (some ⟨q+1,0,none⟩)
theorem KPan.put {w0:World} {q:Nat} {r:Except Nat (List KSer)} {D:List Deferred} {c:List PanicEntry} {a:Act} {w:World} {d:Option Tmp} {v:Value} (h2:d≠some 2) (h3:d≠some 3) (h:KPan w0 q r D c (a.put d v) w):KPan w0 q r D c a w:=by
 cases d with
 | none=>exact h
 | some d=>
  have e:∀k,k≠d→(a.tmps.setIfInBounds d v).getD k undef=a.tmps.getD k undef:=fun k hk=>by
   simp only[Array.getD_eq_getD_getElem?,Array.getElem?_setIfInBounds];rw[if_neg (Ne.symm hk)]
  refine ⟨h.c,h.n,h.r,h.d,?_,?_⟩
  ·have:=h.t2;rwa[show (a.put (some d) v).tmps=a.tmps.setIfInBounds d v from rfl,e 2 (fun e=>h2 (by rw[e]))] at this
  ·have:=h.t3;rwa[show (a.put (some d) v).tmps=a.tmps.setIfInBounds d v from rfl,e 3 (fun e=>h3 (by rw[e]))] at this
theorem Kij {w0:World} {q:Nat} (w:World) (h:KPN w0 q w) (tt:TypeId) (xx:Value) :
  CallsD Tryz.prog 44 #[.pointer (some ⟨q,0,none⟩),.pointer (some ⟨q+1,0,none⟩)] (.panicking [{ v:=.iface tt xx,recovered:=false }]) w fun e u' w'=>
   e = .returned (.tuple #[])∧u' = .panicking [{ v:=.iface tt xx,recovered:=true }]∧Blk w' q 22 #[.slice none 0 0]∧Blk w' (q+1) 23 #[.int .i64 150]∧Below q w0 w':=by
 obtain ⟨x,hx⟩:=h.o;obtain ⟨y,hy⟩:=h.e;have HX:=Lib.hid hx;have HY:=Lib.hid hy;have HB:=Lib.hid h.bl;have c0:w.cell? ⟨q,0,none⟩=some x:=hx.cell 0;have c1:w.cell? ⟨q+1,0,none⟩=some y:=hy.cell 0;have g0:=hx.frozen 0;have g1:=hy.frozen 0;have hl:=hy.lt;refine callsD_of_wpS Tryz.func44 rfl fun c₀ cs hu=>?_
 apply wpS_seq;apply wpS_region;simp[wpOpsS,go_sem,recoverD,hu,Tryz.ntmps44,Exit.thenS];refine wpS_cond (t:=true) (by simp[Act.eval,Array.replicate]) ?_;simp only[if_true];refine wpS_of_wp ?_;simp[Array.replicate];clear h hx hy;go_wp2_with fail
 have k1:=(HX.out.set_ 0 (.slice none 0 0)).far (p:=⟨q+1,0,none⟩) (by simp) (.int .i64 150);have k2:=(HY.out.far (p:=⟨q,0,none⟩) (by simp) (.slice none 0 0)).set_ 0 (.int .i64 150);have k3:=(HB.out.setCell (p:=⟨q,0,none⟩) (Nat.le_refl q) (.slice none 0 0)).setCell (p:=⟨q+1,0,none⟩) (Nat.le_succ q) (.int .i64 150)
 revert k1 k2 k3
 generalize (w.setCell ⟨q,0,none⟩ (.slice none 0 0)).setCell ⟨q+1,0,none⟩ (.int .i64 150)=wz;intro k1 k2 k3;simp[bodyPostS,results,Tryz.results44];exact ⟨k1,k2,k3⟩
theorem Knm (a b:Addr) (w:World) :
  CallsD Tryz.prog 44 #[.pointer (some a),.pointer (some b)] .returning w fun e u' w'=>e = .returned (.tuple #[])∧u' = .returning∧w'=w:=by
 refine callsD_of_wpS Tryz.func44 rfl fun c₀ cs hu=>?_
 apply wpS_seq;apply wpS_region;simp[wpOpsS,go_sem,recoverD,hu,Tryz.ntmps44,Exit.thenS];refine wpS_cond (t:=false) (by simp[Act.eval,Array.replicate]) ?_;simp only[Bool.false_eq_true,if_false];refine wpS_of_wp (wp_skip ?_);cases c₀
 simp_all [bodyPostS,results,Tryz.results44]
def KDecO (w':World) (r:Except Nat (List KSer)) (e:Ending):Prop:=match r with
 | .ok L=>∃A c,e = .returned (.tuple #[.slice A L.length c,.int .i64 0])∧KSers w' A L.length L∧(∀s∈L,KSz s)∧L.length≤268435456
 | .error c=>e = .returned (.tuple #[.slice none 0 0,.int .i64 ((c:Nat):Int)])
theorem kres2 {w:World} {q:Nat} {x u:Value} (tmps:Array Value) (h1:Blk w q 22 #[x]) (h2:Blk w (q+1) 23 #[u]) (hp:tmps.getD 2 undef = .pointer (some ⟨q,0,none⟩)) (hq:tmps.getD 3 undef = .pointer (some ⟨q+1,0,none⟩)) :
  (results Tryz.f13 tmps).run Tryz.prog w = .ok (.tuple #[x,u]) w:=by
 refine Ksm rfl tmps w ⟨q,0,none⟩ ⟨q+1,0,none⟩ x u hp hq ?_ ?_
 ·have e5:w.cell? ⟨q,0,none⟩=some x:=h1.cell 0;simp[loadVar,run_underlying Tryz.underlying22,go_sem,e5]
 ·have e5:w.cell? ⟨q+1,0,none⟩=some u:=h2.cell 0;simp[loadVar,run_underlying Tryz.underlying23,go_sem,e5]
theorem Koz {w0 w:World} {q:Nat} {tmps:Array Value} {r:Except Nat (List KSer)} (k1:Blk w q 22 #[.slice none 0 0]) (k2:Blk w (q+1) 23 #[.int .i64 150]) (k3:Below q w0 w) (hr:r = .error 150)
  (hp:tmps.getD 2 undef = .pointer (some ⟨q,0,none⟩)) (hq:tmps.getD 3 undef = .pointer (some ⟨q+1,0,none⟩)) (hw:w0.heap.size=q) :
  ∃v,(results Tryz.f13 tmps).run Tryz.prog w = .ok v w∧(KDecO w r (.returned v)∧Below w0.heap.size w0 w):=by
 subst hr;exact ⟨_,kres2 tmps k1 k2 hp hq,rfl,by rw[hw];exact k3⟩
theorem Kwv {S:List UInt8} {c:Nat} (h:Kco S = .error c):decK S = .error c:=by
 unfold decK;rw[h]
theorem Qgq {S I:List UInt8} (h:Kco S = .ok I) (hp:Kfu I=none):decK S = .error 150:=by
 unfold decK;rw[h];dsimp only;rw[hp]
theorem Qgr {S I:List UInt8} {L:List KSer} (h:Kco S = .ok I) (hp:Kfu I=some L):decK S=if fitK L=true∧encK L=S then .ok L else .error 150:=by
 unfold decK;rw[h];dsimp only;rw[hp]
theorem KTab.kept2 {w w':World} {q pr p:Nat} {T:List Txt} (h:KTab w pr p T) (hk:Kept w.heap.size [q,pr] w w') (hq:q < pr):KTab w' pr p T:=⟨h.t.keep hk.size fun k h1 h2=>hk.block k h2 (by simp;omega)⟩
theorem Qoo {A B:ByteArray} (h:A.data.toList=B.data.toList):A=B:=by
 obtain ⟨⟨a⟩⟩:=A;obtain ⟨⟨b⟩⟩:=B;have h1:a=b:=h;rw[h1]
theorem Kmc {w:World} {g i:Nat} {t:TypeId} {cs:Array Value} {u:Value} (h:Blk w g t cs) (hu:cs[i]? = some u):w.setCell ⟨g,i,none⟩ u=w:=by
 have hx:(w.setCell ⟨g,i,none⟩ u).heap=w.heap:=by
  apply Array.ext_getElem?;intro k
  by_cases hk:k=g
  ·subst hk;have h1:(w.setCell ⟨k,i,none⟩ u).heap[k]? = some (.cells (cs.setIfInBounds i u) t (0,0)):=h.set_ i u;have h2:w.heap[k]? = some (.cells cs t (0,0)):=h
   have h3:cs.setIfInBounds i u=cs:=by
    apply Array.ext_getElem?;intro j;rw[Array.getElem?_setIfInBounds]
    by_cases hj:i=j
    ·subst hj;rw[if_pos rfl,hu,if_pos (Array.getElem?_eq_some_iff.1 hu).1]
    ·rw[if_neg hj]
   rw[h1,h2,h3]
  ·exact Below.heap_setCell _ _ _ _ hk
 exact (congrArg (fun x=>({ w with heap:=x }:World)) hx)
theorem Kuj {I:List UInt8}:∀(g:Nat) (out:List Txt) (i:Nat) {t:List Txt} {j:Nat},Ker I g out i=some (t,j)→i≤I.length→j≤I.length
 | 0,out,i,t,j,h,hl=>by
  injection h with h;injection h with _ h;omega
 | g+1,out,i,t,j,h,hl=>by
  rw[Ker] at h;obtain ⟨x,n,e,hr⟩:∃x n e,Kbk I (i:Int)=(x,n,e):=⟨_,_,_,rfl⟩;rw[hr] at h;dsimp only at h
  by_cases he:e=0
  ·subst he;rw[if_neg (by simp)] at h
   split at h
   ·cases h
   ·exact Kuj g _ _ h (Kel hr).2.1
  ·rw[if_pos he] at h;cases h
theorem Qod {I:List UInt8} {t:List Txt} {j:Nat} (h:tabR I 0=some (t,j)):j≤I.length:=by
 unfold tabR at h
 split at h
 ·cases h
 ·rename_i he
  obtain ⟨v,n,e,hr⟩:∃v n e,Kar I ((0:Nat):Int)=(v,n,e):=⟨_,_,_,rfl⟩;rw[hr] at h he;have he0:e=0:=by simpa using he
  subst he0;exact Kuj _ _ _ h (Kku hr (Nat.zero_le _)).2
theorem Kvg {S:List UInt8} {c:Nat} (h:Kco S = .error c):c≠0:=by
 have:=Kpv (Kwv h);omega
structure DRow (T:TypeId) (QQ:Nat) (sv:Value) (ys:List KY) (out:List KSer) (w:World):Prop where
 own:w.ownsRow QQ T 6 sv ys.length (ys.flatMap encKY)
 len:ys.length=out.length
 at_:∀i,i < out.length→ys[i]!.m=out[i]!.max∧KAt w ys[i]!.h out[i]!∧(Off QQ sv.ownBlock.toList ys[i]!.h.l.A ys[i]!.h.l.n∧Off QQ sv.ownBlock.toList ys[i]!.h.g0.A ys[i]!.h.g0.n∧Off QQ sv.ownBlock.toList ys[i]!.h.g1.A ys[i]!.h.g1.n∧Off QQ sv.ownBlock.toList ys[i]!.h.g2.A ys[i]!.h.g2.n∧Off QQ sv.ownBlock.toList ys[i]!.h.s.A ys[i]!.h.s.n)
theorem KAt.kx {w w':World} {h:KHd} {s:KSer} {ex:List Nat} {B:Nat} (k:KAt w h s) (hk:Kept w.heap.size ex w w') (o:Off B ex h.l.A h.l.n∧Off B ex h.g0.A h.g0.n∧Off B ex h.g1.A h.g1.n∧Off B ex h.g2.A h.g2.n∧Off B ex h.s.A h.s.n):KAt w' h s:=
 ⟨k.l.kx o.1 hk,k.lc,k.g0.kx o.2.1 hk,k.g1.kx o.2.2.1 hk,k.g2.kx o.2.2.2.1 hk,k.s.kx o.2.2.2.2 hk,k.sc⟩
theorem Off.five {B B':Nat} {ex ex':List Nat} {h:KHd} (o:Off B ex h.l.A h.l.n∧Off B ex h.g0.A h.g0.n∧Off B ex h.g1.A h.g1.n∧Off B ex h.g2.A h.g2.n∧Off B ex h.s.A h.s.n)
  (f:∀A n,(0 < n→∀a,A=some a→B≤a.block∧a.block∉ex)→Off B' ex' A n):Off B' ex' h.l.A h.l.n∧Off B' ex' h.g0.A h.g0.n∧Off B' ex' h.g1.A h.g1.n∧Off B' ex' h.g2.A h.g2.n∧Off B' ex' h.s.A h.s.n:=
 ⟨f _ _ o.1,f _ _ o.2.1,f _ _ o.2.2.1,f _ _ o.2.2.2.1,f _ _ o.2.2.2.2⟩
theorem DRow.nil (T:TypeId) (QQ:Nat) (w:World):DRow T QQ (.slice none 0 0) [] [] w:=⟨World.ownsRow_nil _ _ _ _,rfl,fun i h=>by simp at h⟩
theorem DRow.kept {T:TypeId} {QQ:Nat} {sv:Value} {ys:List KY} {out:List KSer} {w w':World} {pr:Nat} (h:DRow T QQ sv ys out w) (hk:Kept w.heap.size [pr] w w') (hp:pr < QQ):DRow T QQ sv ys out w':=
 ⟨Kjb h.own hk hp,h.len,fun i hi=>by
  obtain ⟨h1,h2,h3⟩:=h.at_ i hi
  refine ⟨h1,h2.kx hk (Off.five h3 fun A n o hp2 a ha=>⟨(o hp2 a ha).1,by have:=(o hp2 a ha).1;simp;omega⟩),h3⟩⟩
theorem getE {α : Type} [Inhabited α] {l:List α} {x:α} {i:Nat} (h:i < l.length):(l ++ [x])[i]! = l[i]!:=by
 rw[getElem!_pos _ i (by rw[List.length_append];omega),getElem!_pos l i h,List.getElem_append_left h]
theorem getL {α : Type} [Inhabited α] {l:List α} {x:α}:(l ++ [x])[l.length]! = x:=by
 rw[getElem!_pos _ _ (by simp)];simp
theorem KAt.lts {w:World} {h:KHd} {s:KSer} (k:KAt w h s):∀A n,(A,n)∈[(h.l.A,h.l.n),(h.g0.A,h.g0.n),(h.g1.A,h.g1.n),(h.g2.A,h.g2.n),(h.s.A,h.s.n)]→0 < n→∀a,A=some a→a.block < w.heap.size:=by
 intro A n hm hn a ha;simp only[List.mem_cons,Prod.mk.injEq,List.not_mem_nil,or_false] at hm;rcases hm with ⟨rfl,rfl⟩ | ⟨rfl,rfl⟩ | ⟨rfl,rfl⟩ | ⟨rfl,rfl⟩ | ⟨rfl,rfl⟩
 ·exact k.l.blt hn a ha
 ·exact k.g0.blt hn a ha
 ·exact k.g1.blt hn a ha
 ·exact k.g2.blt hn a ha
 ·exact k.s.blt hn a ha
theorem DRow.below {T:TypeId} {QQ:Nat} {sv:Value} {ys:List KY} {out:List KSer} {w w':World} (h:DRow T QQ sv ys out w) (hb:Below w.heap.size w w'):DRow T QQ sv ys out w':=
 ⟨Kdk h.own hb,h.len,fun i hi=>by
  obtain ⟨h1,h2,h3⟩:=h.at_ i hi
  exact ⟨h1,h2.below hb,h3⟩⟩
theorem DRow.sers {T:TypeId} {QQ n c:Nat} {A:Option Addr} {ys:List KY} {out:List KSer} {w:World} (h:DRow T QQ (.slice A n c) ys out w):n=ys.length∧KSers w A ys.length out:=by
 have hown:=h.own;obtain ⟨A',c',e',h1,h2,_⟩:=Elems.of_own (fun y _=>Ktg y) rfl hown rfl;injection e' with e1 e2 e3;subst e1
 exact ⟨e2,ys,h1,h.len.symm,fun i hi=>by
  have:=h.at_ i (by rw[←h.len];exact hi)
  exact ⟨this.1,this.2.1⟩⟩
theorem DRow.add {T:TypeId} {QQ:Nat} {sv:Value} {ys:List KY} {out:List KSer} {w w':World} {B g cap:Nat} {h:KHd} {s:KSer} (d:DRow T QQ sv ys out w) (k:KAt w h s)
  (ho:Off B [] h.l.A h.l.n∧Off B [] h.g0.A h.g0.n∧Off B [] h.g1.A h.g1.n∧Off B [] h.g2.A h.g2.n∧Off B [] h.s.A h.s.n) (hB:QQ≤B) (hsv:∀b,sv.ownBlock=some b→b < B)
  (hown:w'.ownsRow QQ T 6 (.slice (some ⟨g,0,none⟩) (ys.length+1) cap) (ys.length+1) (ys.flatMap encKY++encKY ⟨h,s.max⟩)) (hg:w.grownBy w' sv.ownBlock) (hat:sv.ownBlock=some g∨g=w.heap.size) :
  DRow T QQ (.slice (some ⟨g,0,none⟩) (ys.length+1) cap) (ys ++ [⟨h,s.max⟩]) (out ++ [s]) w':=by
 have hk:Kept w.heap.size sv.ownBlock.toList w w':=⟨hg.os,hg.tape,hg.output,hg.size,fun b hb hm=>hg.block b hb (fun e=>by rw[←e] at hm;simp at hm)⟩
 have hoff:∀(A:Option Addr) (n:Nat),(0 < n→∀a,A=some a→a.block < w.heap.size)→Off QQ sv.ownBlock.toList A n→Off QQ (Value.slice (some ⟨g,0,none⟩) (ys.length+1) cap).ownBlock.toList A n:=fun A n hl o hn a ha=>by
  refine ⟨(o hn a ha).1,?_⟩;have h1:=(o hn a ha).2;have h2:=hl hn a ha;simp only[Value.ownBlock,Option.toList,List.mem_singleton];rcases hat with e | e
  ·intro e2;rw[e] at h1;simp at h1;exact h1 e2
  ·omega
 refine ⟨by rw[List.length_append,List.flatMap_append,List.flatMap_singleton];exact hown,by rw[List.length_append,List.length_append,d.len];rfl,fun i hi=>?_⟩;rw[List.length_append,List.length_singleton] at hi
 by_cases e:i=out.length
 ·subst e;have e1:(ys ++ [(⟨h,s.max⟩:KY)])[out.length]! = ⟨h,s.max⟩:=by rw[←d.len];exact getL
  rw[e1,getL]
  have h5:Off QQ sv.ownBlock.toList h.l.A h.l.n∧Off QQ sv.ownBlock.toList h.g0.A h.g0.n∧Off QQ sv.ownBlock.toList h.g1.A h.g1.n∧Off QQ sv.ownBlock.toList h.g2.A h.g2.n∧Off QQ sv.ownBlock.toList h.s.A h.s.n:=Off.five ho fun A n o hn a ha=>⟨by have:=(o hn a ha).1;omega,fun hm=>by
   have h1:=(o hn a ha).1
   cases hb:sv.ownBlock with
   | none=>rw[hb] at hm;simp at hm
   | some b=>
    have h2:=hsv b hb;rw[hb] at hm;simp at hm
    omega⟩
  exact ⟨rfl,k.kx hk h5,hoff _ _ (k.lts _ _ (by simp)) h5.1,hoff _ _ (k.lts _ _ (by simp)) h5.2.1,hoff _ _ (k.lts _ _ (by simp)) h5.2.2.1,hoff _ _ (k.lts _ _ (by simp)) h5.2.2.2.1,hoff _ _ (k.lts _ _ (by simp)) h5.2.2.2.2⟩
 ·have hi2:i < out.length:=by omega
  rw[getE (by rw[d.len];exact hi2),getE hi2];obtain ⟨h1,h2,h5⟩:=d.at_ i hi2;exact ⟨h1,h2.kx hk h5,hoff _ _ (h2.lts _ _ (by simp)) h5.1,hoff _ _ (h2.lts _ _ (by simp)) h5.2.1,hoff _ _ (h2.lts _ _ (by simp)) h5.2.2.1,hoff _ _ (h2.lts _ _ (by simp)) h5.2.2.2.1,hoff _ _ (h2.lts _ _ (by simp)) h5.2.2.2.2⟩
end
end Go.Proofs.YtefpndiiedkmpaaGreatDoor
