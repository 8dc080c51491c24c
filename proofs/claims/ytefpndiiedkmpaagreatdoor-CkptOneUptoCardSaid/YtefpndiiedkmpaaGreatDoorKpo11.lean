/- Merged (what the claim wants of): KptRfit, KptRalike, KptRef, StoPlain, DskPlain, StoPlain2, StoLawA, StoLawB, StoLawC, StoPlain3, SMap, DskMem, DskPlain2. -/
import Derived.Test.YtefpndiiedkmpaaGreatDoorKpo10
import Derived.Test.YtefpndiiedkmpaaGreatDoorKpo09
import Derived.Test.YtefpndiiedkmpaaGreatDoorKpo05
import Derived.Test.YtefpndiiedkmpaaGreatDoorKpo02
import Derived.Test.YtefpndiiedkmpaaGreatDoorKpo01
import Derived.Maps.RangeWalk
import Derived.Maps.OwnSet
import Derived.Maps.Views
import Derived.StringKeys
import Derived.Sort.KeysCollected
import Derived.Test.YtefpndiiedkmpaaGreatDoorKpo03
set_option linter.unusedVariables false
set_option linter.unusedSimpArgs false
set_option maxRecDepth 100000
set_option maxHeartbeats 8000000
namespace Go.Proofs.YtefpndiiedkmpaaGreatDoor
section
open Go.RowKit Go.Shelf Go.Sort
open Lib renaming hid → Jh
attribute [local go_sem ↓] Go.wp_at_zero Go.wp_at_succ
attribute [local go_sem] Later.cell
theorem KSers.at_ {w:World} {A:Option Addr} {n i:Nat} {L:List KSer} (h:KSers w A n L) (hi:i < n):∃(b off:Nat) (hd:KHd),A=some ⟨b,off,none⟩∧b < w.heap.size∧
  w.cell? ⟨b,off+i*6,none⟩=some (.slice hd.l.A hd.l.n hd.l.c)∧w.cell? ⟨b,off+i*6+1,none⟩=some (.int .i64 L[i]!.max)∧w.cell? ⟨b,off+i*6+2,none⟩=some (.slice hd.g0.A hd.g0.n hd.g0.c)∧w.cell? ⟨b,off+i*6+3,none⟩=some (.slice hd.g1.A hd.g1.n hd.g1.c)∧w.cell? ⟨b,off+i*6+4,none⟩=some (.slice hd.g2.A hd.g2.n hd.g2.c)∧w.cell? ⟨b,off+i*6+5,none⟩=some (.slice hd.s.A hd.s.n hd.s.c)∧KAt w hd L[i]!:=by
 obtain ⟨ys,h1,h2,h3⟩:=h;obtain ⟨b,off,e,hb,hc⟩:=h1.getS hi;obtain ⟨e1,e2⟩:=h3 i hi;refine ⟨b,off,ys[i]!.h,e,hb,hc 0 _ rfl,?_,hc 2 _ rfl,hc 3 _ rfl,hc 4 _ rfl,hc 5 _ rfl,e2⟩;rw[←e1];exact hc 1 _ rfl
theorem KSers.len {w:World} {A:Option Addr} {n:Nat} {L:List KSer} (h:KSers w A n L):L.length=n:=by obtain ⟨_,_,h,_⟩:=h;exact h
theorem Qkk {L:List KSer}:fitK L=true↔∀i,i < L.length→Kcd L[i]! = true∧∀k,k < i→cmpL L[i]!.labels L[k]!.labels≠0:=by
 rw[Kjm];constructor
 ·rintro ⟨h1,h2⟩ i hi;refine ⟨h1 _ (by rw[getElem!_pos L i hi];exact List.getElem_mem hi),fun k hk e=>?_⟩;have h3:=Kgg e;have h4:=List.pairwise_iff_getElem.1 h2 k i (by simp[setsK];omega) (by simp[setsK];omega) hk;apply h4;simp only[setsK,List.getElem_map];rw[getElem!_pos L i hi,getElem!_pos L k (by omega)] at h3;exact h3.symm
 ·intro h;refine ⟨fun s hs=>?_,?_⟩
  ·obtain ⟨i,hi,rfl⟩:=List.getElem_of_mem hs;have:=(h i hi).1;rwa[getElem!_pos L i hi] at this
  ·rw[List.Nodup,List.pairwise_iff_getElem];intro k i hk hi hki e;simp only[setsK,List.length_map] at hk hi;simp only[setsK,List.getElem_map] at e;apply (h i hi).2 k hki;rw[getElem!_pos L i hi,getElem!_pos L k hk,←e];exact Kif _
theorem Kyx (L:List KSer) (A:Option Addr) (n c:Nat) (w:World) (hS:KSers w A n L) (hz:∀s∈L,KSz s) (hn:n≤1099511627776) :
  Calls Tryz.prog 11 #[.slice A n c] w fun e w'=>e = .returned (.bool (fitK L))∧Below w.heap.size w w':=by
 obtain ⟨R,hR⟩:∃R,fitK L=R:=⟨_,rfl⟩;have hat:=@Qkk L;rw[hR] at hat ⊢;have HAT:=Jh hat;have HS:=Jh hS;have HL:=Jh hS.len;have HZ:=Jh hz;obtain ⟨q,hq⟩:∃x,w.heap.size=x:=⟨_,rfl⟩;have HQ:=Jh hq;rw[hq];clear hR hat hS hz hq;go_enter Tryz.func11,Tryz.ntmps11
 go_wp2_with fail
 go_loopg [3] n (fun g s3 wr=>∃i:Nat,i+g=n∧s3 = .int .i64 (i:Int)∧(∀j,j < i→Kcd L[j]! = true∧∀k,k < j→cmpL L[j]!.labels L[k]!.labels≠0)∧Below q w wr)
 case atStart=>exact ⟨0,by omega,rfl,fun j hj=>by omega,Below.refl _ _⟩
 case round=>
  obtain ⟨i,hig,rfl,hall,hb⟩:=hrel;have HIG:=Jh hig;have HALL:=Jh hall;have HB:=Jh hb;clear hig hall hb;obtain ⟨wo,rfl⟩:∃x,x=wr:=⟨_,rfl⟩
  by_cases hi:i < n
  ·have el:decide (i < n)=true:=by rw[decide_eq_true_eq];exact hi
   have hi2:(i:Int) < (n:Int):=by omega
   have hil:i < L.length:=by have:=HL.out;omega
   have hbo:Below w.heap.size w wo:=by rw[HQ.out];exact HB.out
   have hso:=HS.out.below hbo;obtain ⟨b,off,hd,rfl,hbl,c0,c1,c2,c3,c4,c5,hk⟩:=hso.at_ hi;have hzi:=HZ.out L[i]! (by rw[getElem!_pos L i hil];exact List.getElem_mem hil);obtain ⟨s,hs⟩:∃s,L[i]! = s:=⟨_,rfl⟩;rw[hs] at c1 hk hzi;have HSO:=Jh hso;have HK:=Jh hk;have HZI:=Jh hzi;have HSI:=Jh hs;have hon:=Qct s hd wo hk hzi;obtain ⟨F,hF⟩:∃F,Kcd s=F:=⟨_,rfl⟩;rw[hF] at hon;unfold kserV at hon;have HON:=Jh hon;have HF:=Jh hF;clear hso hk hzi hs hon hF hbo;go_wp2_with fail
   refine HON.out.mono ?_;rintro _ w2 ⟨rfl,hb2⟩;have HB2:=Jh (HB.out.trans (hb2.mono (by have:=HB.out.size;have:=HQ.out;omega)));clear hb2 c0 c1 c2 c3 c4 c5
   cases F with
   | false=>
    have hre:R=false:=by
     rcases Bool.eq_false_or_eq_true R with e | e
     ·have h1:=((HAT.out.1 e) i hil).1;rw[HSI.out,HF.out] at h1;cases h1
     ·exact e
    subst hre;go_wp2_with fail
    go_ret
    exact ⟨rfl,HB2.out⟩
   | true=>
    go_wp2_with fail
    go_loopg [5] i (fun g s5 wv=>∃k:Nat,k+g=i∧s5 = .int .i64 (k:Int)∧(∀j,j < k→cmpL s.labels L[j]!.labels≠0)∧Below q w wv)
    case atStart=>exact ⟨0,by omega,rfl,fun j hj=>by omega,HB2.out⟩
    case round=>
     obtain ⟨k,hkg,rfl,hallk,hbk⟩:=hrel;have HKG:=Jh hkg;have HALLK:=Jh hallk;have HBK:=Jh hbk;clear hkg hallk hbk;obtain ⟨wk,rfl⟩:∃x,x=wr:=⟨_,rfl⟩
     by_cases hki:k < i
     ·have elk:decide (k < i)=true:=by rw[decide_eq_true_eq];exact hki
      have hk2:(k:Int) < (i:Int):=by omega
      have hkn:(k:Int) < (n:Int):=by omega
      have hkl:k < L.length:=by omega
      have hbk2:Below w.heap.size w wk:=by rw[HQ.out];exact HBK.out
      have hsk:=HS.out.below hbk2;obtain ⟨bx,offx,hd1,hA1,hbl1,d0,_,_,_,_,_,hk1⟩:=hsk.at_ hi;injection hA1 with hA1;injection hA1 with e1 e2 _;subst e1 e2;obtain ⟨bx,offx,hd2,hA2,hbl2,f0,_,_,_,_,_,hk3⟩:=hsk.at_ (i:=k) (by omega);injection hA2 with hA2;injection hA2 with e1 e2 _;subst e1 e2;rw[HSI.out] at hk1;obtain ⟨s2,hs2⟩:∃s,L[k]! = s:=⟨_,rfl⟩;rw[hs2] at hk3;obtain ⟨⟨LA,ln,lc⟩,_,_,_,_⟩:=hd1;obtain ⟨⟨LA',ln',lc'⟩,_,_,_,_⟩:=hd2;have hz1:=HZI.out.l;have hz2:=(HZ.out s2 (by rw[←hs2,getElem!_pos L k hkl];exact List.getElem_mem hkl)).l;obtain ⟨r,hr⟩:∃r,cmpL s.labels s2.labels=r:=⟨_,rfl⟩;have hl1:s.labels.length=ln:=hk1.l.len;have hl2:s2.labels.length=ln':=hk3.l.len;have HC:=Jh (fun u:Later wk=>Kqn s.labels s2.labels LA LA' ln ln' lc lc' u.w r hr ((hk1.l.below u.h).more u.h.size) ((hk3.l.below u.h).more u.h.size) (by omega) (by omega));have HRC:=Jh hr;have HS2:=Jh hs2;clear hr hs2 hk1 hk3 hl1 hl2 hsk hbk2 hz1 hz2;go_upto_region 10 with fail
      refine Kab (by kernel_rfl) (by kernel_rfl) ?_
      repeat (go_big_quiet_step ((go_at_call 42;exact Kbo _ (HC.out _))))
      refine wpQuiet_nil ?_;rintro w5 ⟨⟨_,hb5⟩,rfl⟩;have HB5:=Jh (HBK.out.trans (hb5.mono (by have:=HBK.out.size;have:=HQ.out;omega)));clear hb5 d0 f0
      by_cases h1:r=0
      ·have e1:(r == 0)=true:=by rw[beq_iff_eq];exact h1
       have e2:decide (r=0)=true:=decide_eq_true h1
       have hre:R=false:=by
        rcases Bool.eq_false_or_eq_true R with e | e
        ·have h3:=((HAT.out.1 e) i hil).2 k hki;rw[HSI.out,HS2.out,HRC.out] at h3;exact absurd h1 h3
        ·exact e
       subst hre;subst h1;go_wp2_with fail
       go_ret
       exact ⟨rfl,HB5.out⟩
      ·have e1:(r == 0)=false:=by rw[beq_eq_false_iff_ne];exact h1
       have e2:decide (r=0)=false:=decide_eq_false h1
       have HNEW:=Jh (show ∀j,j < k+1→cmpL s.labels L[j]!.labels≠0 from fun j hj=>by
        by_cases hjk:j=k
        ·subst hjk;rw[HS2.out,HRC.out];exact h1
        ·exact HALLK.out j (by omega))
       go_wp2_with fail
       go_roundg (gk - 1)
       case measure=>have:=HKG.out;omega
       case rel=>exact ⟨k+1,by have:=HKG.out;omega,by first | rfl | go_num,HNEW.out,HB5.out⟩
     ·have elk:decide (k < i)=false:=by rw[decide_eq_false_iff_not];exact hki
      have HNEW:=Jh (show ∀j,j < i+1→Kcd L[j]! = true∧∀k,k < j→cmpL L[j]!.labels L[k]!.labels≠0 from fun j hj=>by
       by_cases hji:j=i
       ·subst hji;rw[HSI.out];exact ⟨HF.out,fun k' hk'=>HALLK.out k' (by omega)⟩
       ·exact HALL.out j (by omega))
      go_wp2_with fail
      go_roundg (n - i - 1)
      case measure=>have:=HIG.out;omega
      case rel=>exact ⟨i+1,by omega,by first | rfl | go_num,HNEW.out,HBK.out⟩
  ·have el:decide (i < n)=false:=by rw[decide_eq_false_iff_not];exact hi
   have hre:R=true:=HAT.out.2 (fun j hj=>HALL.out j (by have:=HL.out;omega));subst hre;go_wp2_with fail
   go_ret
   exact ⟨rfl,HB.out⟩
end
section
open Go.RowKit Go.Shelf Go.Sort
attribute [local go_sem ↓] Go.wp_at_zero Go.wp_at_succ
attribute [local go_sem] Later.cell
instance kserEq:DecidableEq KSer:=fun a b=>by
 cases a
 cases b
 simp only[KSer.mk.injEq]
 infer_instance
end
section
open Go.RowKit Go.Shelf Go.Sort
open Lib renaming hid → Jh
open List renaming setIfInBounds_toArray → Ja, set_cons_zero → Jb, set_cons_succ → Jc
attribute [local go_sem ↓] Go.wp_at_zero Go.wp_at_succ
attribute [local go_sem] Later.cell
theorem Qbq:(Tryz.prog.info? 111).map (fun i=>(i.zero,i.size,i.bytes))=some (some (.agg #[.int .i64 0,.int .u64 0]),2,16):=by kernel_rfl
theorem Qbp:(Tryz.prog.info? 103).map (fun i=>(i.zero,i.size,i.bytes))=some (some (.agg #[.slice none 0 0,.int .i64 0,.slice none 0 0,.slice none 0 0,.slice none 0 0,.slice none 0 0]),6,128):=by kernel_rfl
structure RfI (p Q:Nat) (T:TypeId) (cs:Array Value) (i:Nat) (v:Value) (n:Nat) (xs:List Value) (ws wz:World):Prop where
 b:Blk wz p 103 (cs.setIfInBounds i v)
 r:wz.ownsRow Q T 2 v n xs
 k:Kept ws.heap.size [p] ws wz
theorem RfI.step {p Q i n n':Nat} {T:TypeId} {cs:Array Value} {v v':Value} {xs xs':List Value} {ws wk w4 w5:World} (h:RfI p Q T cs i v n xs ws wk) (hQ:ws.heap.size=Q) (hp:p < Q) (h4:Below wk.heap.size wk w4) (hg:w4.grownBy w5 v.ownBlock) (hr:w5.ownsRow Q T 2 v' n' xs') :
  Blk w5 p 103 (cs.setIfInBounds i v)∧RfI p Q T cs i v' n' xs' ws (w5.setCell ⟨p,i,none⟩ v'):=by
 have hb4:=h.b.below h4 h.b.lt;have hob:∀b,v.ownBlock=some b→Q≤b:=fun b hb=>(World.ownsRow.lt h.r b hb).1
 have hb5:Blk w5 p 103 (cs.setIfInBounds i v):=(hg.block p hb4.lt (fun e=>by have:=hob p e.symm;omega)).trans hb4;have hk4:Kept ws.heap.size [p] ws w4:=h.k.trans ((Kept.of_below h4).mono h.k.size (fun _ _ h=>h));have hk5:Kept ws.heap.size [p] ws w5:=hk4.trans ⟨hg.os,hg.tape,hg.output,hg.size,fun k hlt _=>hg.block k (by have:=hk4.size;omega) (fun e=>by have:=hob k e.symm;omega)⟩;refine ⟨hb5,?_,Kij hr (pr:=p) ((Kept.refl _ _ _).setCell (p:=⟨p,i,none⟩) (.inl (by simp)) _) hp,hk5.setCell (p:=⟨p,i,none⟩) (.inl (by simp)) _⟩;have:=hb5.set_ i v'
 have e:(cs.setIfInBounds i v).setIfInBounds i v'=cs.setIfInBounds i v':=by
  apply Array.ext_getElem?;intro j;simp only[Array.getElem?_setIfInBounds,Array.size_setIfInBounds]
  split <;> rfl
 rw[e] at this;exact this
theorem Qdu {hl:Hd} {mx:Int} {hg:Nat→Hd} {m:Nat} {h:Hd} {sv:Value} (hm:m < 3):(boxC hl mx hg sv).setIfInBounds (2+m) (hdV h)=boxC hl mx (updG hg m h) sv:=by
 rcases (by omega:m=0∨m=1∨m=2) with rfl | rfl | rfl <;> rfl
theorem Klu {hl:Hd} {mx:Int} {hg:Nat→Hd} {m:Nat} {v sv:Value} (hm:m < 3):((boxC hl mx hg sv).setIfInBounds (2+m) v)[2+m]? = some v:=by
 rcases (by omega:m=0∨m=1∨m=2) with rfl | rfl | rfl <;> rfl
theorem Qdv {hl:Hd} {mx:Int} {hg:Nat→Hd} {m:Nat} {sv:Value} (hm:m < 3) (h:hg m=default):(boxC hl mx hg sv).setIfInBounds (2+m) (.slice none 0 0)=boxC hl mx hg sv:=by
 have e:(boxC hl mx hg sv).setIfInBounds (2+m) (hdV (hg m))=boxC hl mx hg sv:=by
  rw[Qdu hm]
  have:updG hg m (hg m)=hg:=by
   funext k;unfold updG
   split
   ·rename_i e;rw[e]
   ·rfl
  rw[this]
 rw[h] at e;exact e
set_option maxHeartbeats 16000000 in
theorem Qca (L:List KSer) (A:Option Addr) (n c:Nat) (w:World) (hS:KSers w A n L) (hz:∀s∈L,KSz s) (hn:n≤1073741824) :
  Calls Tryz.prog 12 #[.slice A n c] w fun e w'=>(∃A' c',e = .returned (.slice A' n c')∧KSers w' A' n L)∧Below w.heap.size w w':=by
 obtain ⟨ib,hib,hz0,hz1,hz2⟩:=info_parts Qbp;obtain ⟨il,hil0,hl0,hl1,hl2⟩:=info_parts Krq;obtain ⟨ig,hig0,hg0,hg1,hg2⟩:=info_parts Krr;obtain ⟨is,his,hs0,hs1,hs2⟩:=info_parts Qbq;have HS:=Jh hS;have HL:=Jh hS.len;have HZ:=Jh hz;obtain ⟨q0,hq0⟩:∃x,w.heap.size=x:=⟨_,rfl⟩;have HQ0:=Jh hq0;rw[hq0];clear hS hz hq0;go_enter Tryz.func12,Tryz.ntmps12
 go_wp2_with fail
 go_loopg [3,17] n (fun g s3 s17 wr=>∃(i:Nat) (ys:List KY) (sv:Value),sv=s3∧i+g=n∧s17 = .int .i64 (i:Int)∧DRow 103 q0 sv ys (L.take i) wr∧Below q0 w wr)
 case atStart=>exact ⟨0,[],_,rfl,by omega,rfl,by rw[List.take_zero];exact DRow.nil _ _ _,Below.refl _ _⟩
 case round=>
  obtain ⟨i,ys,sv,rfl,hig,rfl,hdr,hb⟩:=hrel;have HIG:=Jh hig;have HDR:=Jh hdr;have HB:=Jh hb;clear hig hdr hb;obtain ⟨wo,rfl⟩:∃x,x=wr:=⟨_,rfl⟩
  by_cases hi:i < n
  ·have el:decide (i < n)=true:=by rw[decide_eq_true_eq];exact hi
   have hi2:(i:Int) < (n:Int):=by omega
   have hil:i < L.length:=by have:=HL.out;omega
   have hbo:Below w.heap.size w wo:=by rw[HQ0.out];exact HB.out
   obtain ⟨b,off,hd,rfl,hbl,c0,c1,c2,c3,c4,c5,hk⟩:=(HS.out.below hbo).at_ hi;have hzi:=HZ.out L[i]! (by rw[getElem!_pos L i hil];exact List.getElem_mem hil);obtain ⟨s,hs⟩:∃s,L[i]! = s:=⟨_,rfl⟩;rw[hs] at c1 hk hzi;obtain ⟨mx,hmx⟩:∃m,s.max=m:=⟨_,rfl⟩;rw[hmx] at c1;have HSI:=Jh hs;have HMX:=Jh hmx;have HK0:=Jh hk;have HZI:=Jh hzi;obtain ⟨⟨LA,ln,lc⟩,h0,h1,h2,⟨SA,sn,sc⟩⟩:=hd;dsimp only at c0 c5;clear hs hmx hk hzi hbo;go_upto_region 5 with fail
   obtain ⟨p5,hp5⟩:∃x,wo.heap.size=x:=⟨_,rfl⟩;have hb1:Below wo.heap.size wo (wo.alloc (.cells #[.slice LA ln lc,.int .i64 mx,.slice h0.A h0.n h0.c,.slice h1.A h1.n h1.c,.slice h2.A h2.n h2.c,.slice SA sn sc] 85)):=(Below.refl _ _).alloc (Nat.le_refl _) _;have hk5:Blk (wo.alloc (.cells #[.slice LA ln lc,.int .i64 mx,.slice h0.A h0.n h0.c,.slice h1.A h1.n h1.c,.slice h2.A h2.n h2.c,.slice SA sn sc] 85)) p5 85 #[.slice LA ln lc,.int .i64 mx,.slice h0.A h0.n h0.c,.slice h1.A h1.n h1.c,.slice h2.A h2.n h2.c,.slice SA sn sc]:=by rw[←hp5];exact Blk.new _ _ _
   obtain ⟨w1,hw1⟩:∃x,wo.alloc (.cells #[.slice LA ln lc,.int .i64 mx,.slice h0.A h0.n h0.c,.slice h1.A h1.n h1.c,.slice h2.A h2.n h2.c,.slice SA sn sc] 85)=x:=⟨_,rfl⟩;rw[hw1] at hb1 hk5;rw[hw1,hp5];have e1:w1.cell? ⟨p5,1,none⟩=some (.int .i64 mx):=hk5.cell 1;have hp51:=hk5.lt;go_upto_region 6 with fail
   obtain ⟨p,hp⟩:∃x,w1.heap.size=x:=⟨_,rfl⟩;have hb2:Below w1.heap.size w1 (w1.alloc (.cells #[.slice none 0 0,.int .i64 mx,.slice none 0 0,.slice none 0 0,.slice none 0 0,.slice none 0 0] 103)):=(Below.refl _ _).alloc (Nat.le_refl _) _;have hkx:Blk (w1.alloc (.cells #[.slice none 0 0,.int .i64 mx,.slice none 0 0,.slice none 0 0,.slice none 0 0,.slice none 0 0] 103)) p 103 (boxC default mx (fun _=>default) (.slice none 0 0)):=by rw[←hp];exact Blk.new _ _ _
   have hs2:(w1.alloc (.cells #[.slice none 0 0,.int .i64 mx,.slice none 0 0,.slice none 0 0,.slice none 0 0,.slice none 0 0] 103)).heap.size=p+1:=by simp;omega
   obtain ⟨w2,hw2⟩:∃x,w1.alloc (.cells #[.slice none 0 0,.int .i64 mx,.slice none 0 0,.slice none 0 0,.slice none 0 0,.slice none 0 0] 103)=x:=⟨_,rfl⟩;rw[hw2] at hb2 hkx hs2;rw[hw2,hp];have hk52:=hk5.below hb2 hp51;have hb12:Below wo.heap.size wo w2:=hb1.trans (hb2.mono hb1.size);have HK:=Jh (HK0.out.below hb12);have HK5:=Jh hk52;have HX:=Jh hkx;have HS2:=Jh hs2;have HB2:=Jh hb12;have hpp:p5 < p:=by omega
   have e0:w2.cell? ⟨p5,0,none⟩=some (.slice LA ln lc):=hk52.cell 0;have hp52:=hk52.lt;have hll:s.labels.length=ln:=HK.out.l.len;have hlz:ln≤1099511627776:=by have:=HZI.out.l;omega
   have hsll:s.samples.length=sn:=HK.out.s.len;have hsz:sn≤1099511627776:=by have:=HZI.out.n;omega
   have HLL:=Jh hll;have HSLL:=Jh hsll;have hwoz:wo.heap.size≤p:=by have:=hb1.size;omega
   clear hw1 hw2 hb1 hb2 hk5 hk52 hkx hs2 hb12 e1 hp51 c0 c1 c2 c3 c4 c5 hp5 hp hll hsll;have HSRCL:Hid (Off 0 [p] LA ln):=Jh (fun hp' a ha=>⟨Nat.zero_le _,by have h1:=HK0.out.l.blt hp' a ha;simp;omega⟩);have HSRCS:Hid (Off 0 [p] SA sn):=Jh (fun hp' a ha=>⟨Nat.zero_le _,by have h1:=HK0.out.s.blt hp' a ha;simp;omega⟩);have HSRCG:Hid (∀j,Off 0 [p] ((KHd.mk ⟨LA,ln,lc⟩ h0 h1 h2 ⟨SA,sn,sc⟩).g j).A ((KHd.mk ⟨LA,ln,lc⟩ h0 h1 h2 ⟨SA,sn,sc⟩).g j).n):=Jh (fun j hp' a ha=>⟨Nat.zero_le _,by have h1:=(HK0.out.g j).blt hp' a ha;simp;omega⟩);go_upto_block 2 with fail
   go_cut [] (fun wz=>∃hl:Hd,hl.n=ln∧KG wz p p (p+1) hl s.labels (fun _=>default) []∧Blk wz p 103 (boxC hl mx (fun _=>default) (.slice none 0 0))∧Kept w2.heap.size [p] w2 wz)
   case first=>
    go_wp2_with fail
    go_loopg [27] ln (fun g sk wz=>∃(k:Nat) (v:Value),k+g=ln∧sk = .int .i64 (k:Int)∧RfI p (p+1) 107 (boxC default mx (fun _=>default) (.slice none 0 0)) 0 v k ((s.labels.take k).flatMap encLb) w2 wz)
    case atStart=>exact ⟨0,.slice none 0 0,by omega,rfl,by exact HX.out,by rw[List.take_zero];exact World.ownsRow_nil _ _ _ _,Kept.refl _ _ _⟩
    case round=>
     obtain ⟨k,v,hkg,rfl,hst⟩:=hrel;have HKG:=Jh hkg;have HST:=Jh hst;clear hkg hst;obtain ⟨wk,rfl⟩:∃x,x=wr:=⟨_,rfl⟩;obtain ⟨VA,vc,rfl⟩:=Kdg HST.out.r
     by_cases hk:k < ln
     ·have elk:decide (k < ln)=true:=by rw[decide_eq_true_eq];exact hk
      have hk2:(k:Int) < (ln:Int):=by omega
      have hesrc:=(show Elems w2 w2.heap.size 2 encLb LA ln s.labels from HK.out.l).kx HSRCL.out HST.out.k;obtain ⟨bx,ox,hAx,hbx,hgx⟩:=hesrc.getS hk;subst hAx;have hkl:k < s.labels.length:=by have:=HLL.out;omega
      obtain ⟨x,hx⟩:∃x,s.labels[k]! = x:=⟨_,rfl⟩;rw[hx] at hgx;obtain ⟨N,hN⟩:∃N:ByteArray,(⟨x.n.toArray⟩:ByteArray)=N:=⟨_,rfl⟩;obtain ⟨V,hV⟩:∃N:ByteArray,(⟨x.v.toArray⟩:ByteArray)=N:=⟨_,rfl⟩;have c0x:wk.cell? ⟨bx,ox+k*2,none⟩=some (.string N):=by rw[←hN];exact hgx 0 _ rfl
      have c1x:wk.cell? ⟨bx,ox+k*2+1,none⟩=some (.string V):=by rw[←hV];exact hgx 1 _ rfl
      have HENC:Hid (encLb x = [.string N,.string V]):=Jh (by rw[←hN,←hV];rfl);clear hN hV;have hbxk:bx < wk.heap.size:=hbx;have htk:s.labels.take (k+1)=s.labels.take k ++ [x]:=by rw[List.take_succ_eq_append_getElem hkl,←hx,getElem!_pos _ k hkl]
      have HTK:=Jh htk;clear htk hx hgx hesrc;go_upto_region 9 with fail
      have hb4:Below wk.heap.size wk (wk.alloc (.cells #[.string N,.string V] 106)):=(Below.refl _ _).alloc (Nat.le_refl _) _;have hp8:Blk (wk.alloc (.cells #[.string N,.string V] 106)) wk.heap.size 106 #[.string N,.string V]:=Blk.new _ _ _;obtain ⟨w4,hw4e⟩:∃w4,wk.alloc (.cells #[.string N,.string V] 106)=w4:=⟨_,rfl⟩;obtain ⟨p8,hp8e⟩:∃p8,wk.heap.size=p8:=⟨_,rfl⟩;rw[hw4e] at hb4 hp8;rw[hw4e];rw[hp8e] at hp8
      try rw[hp8e]
      have u0:w4.cell? ⟨p8,0,none⟩=some (.string N):=hp8.cell 0;have u1:w4.cell? ⟨p8,1,none⟩=some (.string V):=hp8.cell 1;have hbx4:=HST.out.b.below hb4 HST.out.b.lt;have d1:w4.cell? ⟨p,0,none⟩=some (.slice VA k vc):=(hbx4.cell (0)).trans (rfl);have hplt:=hbx4.lt;have hrow4:=Kbi HST.out.r hb4;have HB4:=Jh hb4;have hqz:(p+1)≤w4.heap.size:=by have h1:=HST.out.k.size;have h2:=hb4.size;have h3:=HS2.out;omega
      have hp84:=hp8.lt;have HROW4:=Jh hrow4;clear hw4e hb4 hp8 hbx4 hp8e c0x c1x hrow4;go_wp2_with (at_builtin;refine wpList_append_own_at _ rfl _ _ 98 rfl (p+1) 107 il (.agg #[.string ⟨#[]⟩,.string ⟨#[]⟩]) 2 32 Tryz.underlying98 hil0 hl0 hl1 hl2 rfl (by decide) _ _ _ rfl (World.ownsRow.alloc HROW4.out _) ⟨w4.heap.size,0,none⟩ 1 1 [.string N,.string V] rfl rfl ?k1 ?k2 ?k3 ?k4 ?k5 ?_)
      try (case k1=>exact Kas (l:=[.string N,.string V]) (Blk.new w4 _ _))
      case k2=>
       first
       | exact ⟨rfl,rfl⟩
       | (intro u hu;simp only[List.mem_cons,List.not_mem_nil,or_false] at hu;rcases hu with rfl | rfl <;> rfl)
      case k3=>unfold maxLen;omega
      case k4=>omega
      case k5=>first | omega | (simp;omega)
      intro v' w5 hown' hgrow0 _ _
      have hgrow:w4.grownBy w5 (Value.slice VA k vc).ownBlock:=by
       first
       | exact (World.grownBy_alloc w4 _ _).trans hgrow0
       | exact hgrow0
      obtain ⟨hb5,hst5⟩:=HST.out.step HS2.out (by omega) HB4.out hgrow hown';have f1:=hb5.frozen (0);have hplt5:=hb5.lt;have d5:w5.cell? ⟨p,0,none⟩=some (.slice VA k vc):=(hb5.cell (0)).trans (rfl)
      have hst6:RfI p (p+1) 107 (boxC default mx (fun _=>default) (.slice none 0 0)) 0 v' (k+1) ((s.labels.take (k+1)).flatMap encLb) w2 (w5.setCell ⟨p,0,none⟩ v'):=by
       rw[HTK.out,List.flatMap_append,List.flatMap_singleton,HENC.out];exact hst5
      have HST6:=Jh hst6;obtain ⟨VA',vc',rfl⟩:=Kdg hown';clear hown' hgrow0 hgrow hb5 hst5 hst6;go_wp2_with fail
      go_roundg (gk - 1)
      case measure=>have:=HKG.out;omega
      case rel=>exact ⟨k+1,_,by have:=HKG.out;omega,by first | rfl | go_num,HST6.out⟩
     ·have elk:decide (k < ln)=false:=by rw[decide_eq_false_iff_not];exact hk
      have hkn:k=ln:=by have:=HKG.out;omega
      have htk:s.labels.take k=s.labels:=List.take_of_length_le (by have:=HLL.out;omega);have hst:=HST.out;rw[htk] at hst;have HSTd:=Jh hst;have hkl:s.labels.length=k:=by have:=HLL.out;omega
      obtain ⟨A8,c8,e8,k1,k2,k3⟩:=Elems.of_own (enc:=encLb) (fun x _=>Kcu x) rfl hst.r hkl;injection e8 with e81 e82 e83;subst e81 e83;have HK1:=Jh k1;have HK2:=Jh k2;have HK3:=Jh k3;clear hst htk k1 k2 k3;go_wp2_with fail
      go_meet
      exact ⟨⟨VA,k,vc⟩,hkn,⟨HK1.out,HK3.out,fun _ a ha=>⟨by have:=HK2.out a ha;omega,by have:=HK2.out a ha;simp;omega⟩,fun j hj=>by simp at hj,fun j hj=>by simp at hj⟩,HSTd.out.b,HSTd.out.k⟩
   obtain ⟨hl,hhl,hkg,hbx,hkk⟩:=hcut;obtain ⟨w3,rfl⟩:∃x,x=wc:=⟨_,rfl⟩;have HKGl:=Jh hkg;have HBXl:=Jh hbx;have HKKl:=Jh hkk;have hk53:=HK5.out.kept hkk HK5.out.lt (by simp;omega);have HK53:=Jh hk53;have HHL:=Jh hhl;have g0:w3.cell? ⟨p5,2,none⟩=some (.slice h0.A h0.n h0.c):=hk53.cell 2;have g1:w3.cell? ⟨p5,3,none⟩=some (.slice h1.A h1.n h1.c):=hk53.cell 3;have g2:w3.cell? ⟨p5,4,none⟩=some (.slice h2.A h2.n h2.c):=hk53.cell 4;have hp53:=hk53.lt;clear hkg hbx hkk hk53 hhl e0 hp52;go_upto_block 4 with fail
   go_cut [] (fun wz=>∃hg:Nat→Hd,KG wz p p (p+1) hl s.labels hg ((List.range 3).map s.g)∧Blk wz p 103 (boxC hl mx hg (.slice none 0 0))∧Kept w3.heap.size [p] w3 wz)
   case first=>
    go_wp2_with fail
    go_loopg [44] 3 (fun g s44 wz=>∃(m:Nat) (hg:Nat→Hd),m+g=3∧s44 = .int .i64 (m:Int)∧(∀j,m≤j→hg j=default)∧KG wz p p (p+1) hl s.labels hg ((List.range m).map s.g)∧Blk wz p 103 (boxC hl mx hg (.slice none 0 0))∧Kept w3.heap.size [p] w3 wz)
    case atStart=>exact ⟨0,fun _=>default,by omega,rfl,fun _ _=>rfl,HKGl.out,HBXl.out,Kept.refl _ _ _⟩
    case round=>
     obtain ⟨m,hg,hmg,rfl,hdef,hkg,hbx,hkk⟩:=hrel;have HMG:=Jh hmg;have HDEF:=Jh hdef;have HKGm:=Jh hkg;have HBXm:=Jh hbx;have HKKm:=Jh hkk;clear hmg hdef hkg hbx hkk;obtain ⟨wm,rfl⟩:∃x,x=wr:=⟨_,rfl⟩
     by_cases hm:m < 3
     ·have elm:decide (m < 3)=true:=by rw[decide_eq_true_eq];exact hm
      have hm2:(m:Int) < 3:=by omega
      have ipt:∀W:World,(Instr.index 82 (.agg #[.slice h0.A h0.n h0.c,.slice h1.A h1.n h1.c,.slice h2.A h2.n h2.c]) (.int .i64 (m:Int))).run Tryz.prog W = .ok (.slice ((KHd.mk ⟨LA,ln,lc⟩ h0 h1 h2 ⟨SA,sn,sc⟩).g m).A ((KHd.mk ⟨LA,ln,lc⟩ h0 h1 h2 ⟨SA,sn,sc⟩).g m).n ((KHd.mk ⟨LA,ln,lc⟩ h0 h1 h2 ⟨SA,sn,sc⟩).g m).c) W:=fun W=>by
       rcases (by omega:m=0∨m=1∨m=2) with rfl | rfl | rfl
       ·kernel_rfl
       ·kernel_rfl
       ·kernel_rfl
      have hkm:=((HK.out.kx HKKl.out ⟨HSRCL.out,HSRCG.out 0,HSRCG.out 1,HSRCG.out 2,HSRCS.out⟩).kx HKKm.out ⟨HSRCL.out,HSRCG.out 0,HSRCG.out 1,HSRCG.out 2,HSRCS.out⟩).g m;have hoff:=HSRCG.out m;obtain ⟨gA,hgA⟩:∃x,((KHd.mk ⟨LA,ln,lc⟩ h0 h1 h2 ⟨SA,sn,sc⟩).g m).A=x:=⟨_,rfl⟩;obtain ⟨gn,hgn⟩:∃x,((KHd.mk ⟨LA,ln,lc⟩ h0 h1 h2 ⟨SA,sn,sc⟩).g m).n=x:=⟨_,rfl⟩;obtain ⟨gc,hgc⟩:∃x,((KHd.mk ⟨LA,ln,lc⟩ h0 h1 h2 ⟨SA,sn,sc⟩).g m).c=x:=⟨_,rfl⟩;rw[hgA,hgn] at hkm hoff;rw[hgA,hgn,hgc] at ipt;have HSRCm:=Jh hkm;have HOFFm:=Jh hoff;have HGLEN:Hid ((s.g m).length=gn):=Jh hkm.len;have hgnz:gn≤1099511627776:=by have h1:=hkm.len;have h2:=(HZI.out.gi m).1;omega
      obtain ⟨Qm,hQm⟩:∃x,wm.heap.size=x:=⟨_,rfl⟩;have HQm:=Jh hQm;have hpQm:p < Qm:=by rw[←hQm];exact HBXm.out.lt
      clear hkm hoff hgA hgn hgc hQm;go_upto_block 5 with fail
      go_cut [] (fun wz=>∃h:Hd,KG wz p p (p+1) hl s.labels (updG hg m h) ((List.range (m+1)).map s.g)∧Blk wz p 103 (boxC hl mx (updG hg m h) (.slice none 0 0))∧Kept wm.heap.size [p] wm wz)
      case first=>
       go_wp2_with fail
       go_loopg [50] gn (fun g sk wz=>∃(k:Nat) (v:Value),k+g=gn∧sk = .int .i64 (k:Int)∧RfI p Qm 110 (boxC hl mx hg (.slice none 0 0)) (2+m) v k (((s.g m).take k).flatMap Kac) wm wz)
       case atStart=>exact ⟨0,.slice none 0 0,by omega,rfl,by rw[Qdv hm (HDEF.out m (Nat.le_refl _))];exact HBXm.out,by rw[List.take_zero];exact World.ownsRow_nil _ _ _ _,Kept.refl _ _ _⟩
       case round=>
        obtain ⟨k,v,hkg,rfl,hst⟩:=hrel;have HKG:=Jh hkg;have HST:=Jh hst;clear hkg hst;obtain ⟨wk,rfl⟩:∃x,x=wr:=⟨_,rfl⟩;obtain ⟨VA,vc,rfl⟩:=Kdg HST.out.r
        by_cases hk:k < gn
        ·have elk:decide (k < gn)=true:=by rw[decide_eq_true_eq];exact hk
         have hk2:(k:Int) < (gn:Int):=by omega
         have hesrc:=HSRCm.out.kx HOFFm.out HST.out.k;obtain ⟨bx,ox,hAx,hbx,hgx⟩:=hesrc.getS hk;subst hAx;have hkl:k < (s.g m).length:=by have:=HGLEN.out;omega
         obtain ⟨x,hx⟩:∃x,(s.g m)[k]! = x:=⟨_,rfl⟩;rw[hx] at hgx;have c0x:wk.cell? ⟨bx,ox+k*2,none⟩=some (.int .i64 x.frm):=hgx 0 _ rfl;have c1x:wk.cell? ⟨bx,ox+k*2+1,none⟩=some (.int .i64 x.to_):=hgx 1 _ rfl;have hbxk:bx < wk.heap.size:=hbx;have htk:(s.g m).take (k+1)=(s.g m).take k ++ [x]:=by rw[List.take_succ_eq_append_getElem hkl,←hx,getElem!_pos _ k hkl]
         have HTK:=Jh htk;clear htk hx hgx hesrc;go_upto_region 17 with fail
         have hb4:Below wk.heap.size wk (wk.alloc (.cells #[.int .i64 x.frm,.int .i64 x.to_] 109)):=(Below.refl _ _).alloc (Nat.le_refl _) _;have hp8:Blk (wk.alloc (.cells #[.int .i64 x.frm,.int .i64 x.to_] 109)) wk.heap.size 109 #[.int .i64 x.frm,.int .i64 x.to_]:=Blk.new _ _ _;obtain ⟨w4,hw4e⟩:∃w4,wk.alloc (.cells #[.int .i64 x.frm,.int .i64 x.to_] 109)=w4:=⟨_,rfl⟩;obtain ⟨p8,hp8e⟩:∃p8,wk.heap.size=p8:=⟨_,rfl⟩;rw[hw4e] at hb4 hp8;rw[hw4e];rw[hp8e] at hp8
         try rw[hp8e]
         have u0:w4.cell? ⟨p8,0,none⟩=some (.int .i64 x.frm):=hp8.cell 0;have u1:w4.cell? ⟨p8,1,none⟩=some (.int .i64 x.to_):=hp8.cell 1;have hbx4:=HST.out.b.below hb4 HST.out.b.lt;have d1:w4.cell? ⟨p,(2+m),none⟩=some (.slice VA k vc):=(hbx4.cell ((2+m))).trans (Klu hm);have hplt:=hbx4.lt;have hrow4:=Kbi HST.out.r hb4;have HB4:=Jh hb4;have hqz:Qm≤w4.heap.size:=by have h1:=HST.out.k.size;have h2:=hb4.size;have h3:=HQm.out;omega
         have hp84:=hp8.lt;have HROW4:=Jh hrow4;clear hw4e hb4 hp8 hbx4 hp8e c0x c1x hrow4;have hS:w4.drew.cell? ⟨p,2+m,none⟩=some (.slice VA k vc)∧w4.drew.cell? ⟨p8,0,none⟩=some (.int .i64 x.frm)∧w4.drew.cell? ⟨p8,1,none⟩=some (.int .i64 x.to_):=⟨d1,u0,u1⟩;have hS4:w4.drew.cell? ⟨p,2+m,none⟩=some (.slice VA k vc):=d1;have hb4b:Below w4.heap.size w4 (w4.drew.alloc (.cells #[.int .i64 x.frm,.int .i64 x.to_] 110)):=(Below.refl _ _).drew.alloc (Nat.le_refl _) _;have hp9:Blk (w4.drew.alloc (.cells #[.int .i64 x.frm,.int .i64 x.to_] 110)) w4.drew.heap.size 110 #[.int .i64 x.frm,.int .i64 x.to_]:=Blk.new _ _ _;obtain ⟨w4b,hw4b⟩:∃y,w4.drew.alloc (.cells #[.int .i64 x.frm,.int .i64 x.to_] 110)=y:=⟨_,rfl⟩;obtain ⟨p9,hp9e⟩:∃y,w4.drew.heap.size=y:=⟨_,rfl⟩;rw[hw4b] at hb4b hp9;rw[hp9e] at hp9;have hS5:w4b.cell? ⟨p,2+m,none⟩=some (.slice VA k vc):=(hb4b.cell (p:=⟨p,2+m,none⟩) hplt).trans d1;have hrow5:=Kbi HROW4.out hb4b;refine Kca (fun w'=>w'.cell? ⟨p,2+m,none⟩=some (.slice VA k vc)∧w'.cell? ⟨p8,0,none⟩=some (.int .i64 x.frm)∧w'.cell? ⟨p8,1,none⟩=some (.int .i64 x.to_)) 9 15 (by kernel_rfl) rfl ?_;rw[show Array.replicate 15 false = #[false,false,false,false,false,false,false,false,false,false,false,false,false,false,false] from rfl];refine Kaa (i:=0) (d:=some 54) rfl rfl (by kernel_rfl) (by kernel_rfl) (by kernel_rfl) rfl (fun _ _ _ h=>h) (by rfl) (fun w=>by go_simp;try rfl) (fun _=>hS) ?_;simp only[Act.put,Ja,Jb,Jc];refine Kaa (i:=1) (d:=some 55) rfl rfl (by kernel_rfl) (by kernel_rfl) (by kernel_rfl) rfl (fun _ _ _ h=>h) (by rfl) (fun w=>by go_simp;try rfl) (fun _=>hS) ?_;simp only[Act.put,Ja,Jb,Jc];refine Kaa (i:=2) (d:=some 56) rfl rfl (by kernel_rfl) (by kernel_rfl) (by kernel_rfl) rfl (fun _ _ _ h=>h) (by rfl) (fun w=>by go_simp;try rfl) (fun _=>hS) ?_;simp only[Act.put,Ja,Jb,Jc];refine Kaa (i:=3) (d:=some 57) rfl rfl (by kernel_rfl) (by kernel_rfl) (by kernel_rfl) rfl (fun _ _ _ h=>h) (by rfl) (fun w=>by go_simp;try rfl) (fun _=>hS) ?_;simp only[Act.put,Ja,Jb,Jc];refine Kaa (i:=5) (d:=some 59) rfl rfl (by kernel_rfl) (by kernel_rfl) (by kernel_rfl) rfl (fun _ _ _ h=>h) (by rfl) (fun w=>by go_simp;try rfl) (fun _=>hS) ?_;simp only[Act.put,Ja,Jb,Jc];refine Kaa (i:=7) (d:=some 61) rfl rfl (by kernel_rfl) (by kernel_rfl) (by kernel_rfl) rfl (fun _ _ _ h=>h) (by rfl) (fun w=>by go_simp;try rfl) (fun _=>hS) ?_;simp only[Act.put,Ja,Jb,Jc];refine Kaa (i:=12) (d:=some 66) rfl rfl (by kernel_rfl) (by kernel_rfl) (by kernel_rfl) rfl (fun _ _ _ h=>h) (by rfl) (fun w=>by go_simp;try rfl) (fun _=>hS) ?_;simp only[Act.put,Ja,Jb,Jc];refine Kap (i:=6) (d:=some 60) rfl rfl (by kernel_rfl) (by kernel_rfl) (by kernel_rfl) (by kernel_rfl) rfl (fun _ _ _ h=>h) (.inl ⟨by rfl,fun w hw=>by (obtain ⟨ha,hb,hc⟩:=hw;go_simp;try rfl)⟩) hS ?_;simp only[Act.put,Ja,Jb,Jc];refine Kap (i:=8) (d:=some 62) rfl rfl (by kernel_rfl) (by kernel_rfl) (by kernel_rfl) (by kernel_rfl) rfl (fun _ _ _ h=>h) (.inl ⟨by rfl,fun w hw=>by (obtain ⟨ha,hb,hc⟩:=hw;go_simp;try rfl)⟩) hS ?_;simp only[Act.put,Ja,Jb,Jc]
         refine Kpx (i:=4) (j:=9) (by kernel_rfl) rfl rfl rfl rfl ?_ ?_
         ·refine Oper.wp_ran (d:=some 58) (w':=w4.drew) (v:=.slice VA k vc) rfl (by go_simp;try rfl) ?_;refine ⟨fun _=>hS,?_⟩;simp only[Act.put,Ja,Jb,Jc];refine Kai (i:=9) (by kernel_rfl) rfl rfl ?_;refine Oper.wp_ran (d:=some 63) (w':=w4.drew) (v:=.agg #[.int .i64 x.frm,.int .i64 x.to_]) rfl (by go_simp;try rfl) ?_;refine ⟨fun h=>absurd h (by decide),?_⟩;simp only[Act.put,Ja,Jb,Jc];refine Kai (i:=10) (by kernel_rfl) rfl rfl ?_;refine Oper.wp_ran (d:=some 64) (w':=w4.drew.alloc (.cells #[.int .i64 x.frm,.int .i64 x.to_] 110)) (v:=.slice (some ⟨w4.drew.heap.size,0,none⟩) 1 1) rfl (by go_simp;try rfl) ?_;rw[hw4b,hp9e];refine ⟨fun h=>absurd h (by decide),?_⟩;simp only[Act.put,Ja,Jb,Jc];refine Kai (i:=11) (by kernel_rfl) rfl rfl ?_;refine OpW.of (wp_append_lies w4b _ _ _ rfl Qm 110 ig (.agg #[.int .i64 0,.int .i64 0]) 2 16 Tryz.underlying99 hig0 hg0 hg1 hg2 rfl (by decide) (.slice VA k vc) k _ rfl hrow5 ⟨p9,0,none⟩ 1 1 [.int .i64 x.frm,.int .i64 x.to_] rfl rfl ?k1a ?k2a (by decide) (by unfold maxLen;omega) (by omega) ?k5a w4b.heap.size rfl ?k6a)
          case k1a=>exact Kas (l:=[.int .i64 x.frm,.int .i64 x.to_]) hp9
          case k2a=>
           intro u hu;simp only[List.mem_cons,List.not_mem_nil,or_false] at hu;rcases hu with rfl | rfl <;> rfl
          case k5a=>have:=hb4b.size;omega
          intro g9 cap w5 hown' hgrow _ _;obtain ⟨hb5,hst5⟩:=HST.out.step HQm.out (by omega) (HB4.out.trans (hb4b.mono HB4.out.size)) hgrow hown';have f1:=hb5.frozen (2+m);have hplt5:=hb5.lt;have d5:w5.cell? ⟨p,2+m,none⟩=some (.slice VA k vc):=(hb5.cell (2+m)).trans (Klu hm)
          have hst6:RfI p Qm 110 (boxC hl mx hg (.slice none 0 0)) (2+m) (.slice (some ⟨g9,0,none⟩) (k+1) cap) (k+1) (((s.g m).take (k+1)).flatMap Kac) wm (w5.setCell ⟨p,2+m,none⟩ (.slice (some ⟨g9,0,none⟩) (k+1) cap)):=by
           rw[HTK.out,List.flatMap_append,List.flatMap_singleton];exact hst5
          have HST6:=Jh hst6;refine ⟨fun h=>absurd h (by decide),?_⟩;simp only[Act.put,Ja,Jb,Jc];refine Kaa (i:=13) (d:=some 67) rfl rfl (by kernel_rfl) (by kernel_rfl) (by kernel_rfl) rfl (fun _ _ _ h=>h) (by rfl) (fun w=>by go_simp;try rfl) (fun h=>absurd h (by decide)) ?_;simp only[Act.put,Ja,Jb,Jc];refine Kai (i:=14) (by kernel_rfl) rfl rfl ?_;refine Oper.wp_skipped (w':=w5.setCell ⟨p,2+m,none⟩ (.slice (some ⟨g9,0,none⟩) (k+1) cap)) rfl (by go_simp;try rfl) ?_;refine ⟨fun h=>absurd h (by decide),?_⟩;refine Kau (by kernel_rfl) ?_ _;clear hown' hgrow hb5 hst5 hst6 hS hb4b hp9 hrow5 d5 f1 hS4 hS5;go_wp2_with fail
          go_roundg (gk - 1)
          case measure=>have:=HKG.out;omega
          case rel=>exact ⟨k+1,_,by have:=HKG.out;omega,by first | rfl | go_num,HST6.out⟩
         ·refine Oper.wp_ran (d:=some 63) (w':=w4.drew) (v:=.agg #[.int .i64 x.frm,.int .i64 x.to_]) rfl (by go_simp;try rfl) ?_;refine ⟨fun h=>absurd h (by decide),?_⟩;simp only[Act.put,Ja,Jb,Jc];refine Kpx (i:=4) (j:=10) (by kernel_rfl) rfl rfl rfl rfl ?_ ?_
          ·refine Oper.wp_ran (d:=some 58) (w':=w4.drew) (v:=.slice VA k vc) rfl (by go_simp;try rfl) ?_;refine ⟨fun h=>absurd h (by decide),?_⟩;simp only[Act.put,Ja,Jb,Jc];refine Kai (i:=10) (by kernel_rfl) rfl rfl ?_;refine Oper.wp_ran (d:=some 64) (w':=w4.drew.alloc (.cells #[.int .i64 x.frm,.int .i64 x.to_] 110)) (v:=.slice (some ⟨w4.drew.heap.size,0,none⟩) 1 1) rfl (by go_simp;try rfl) ?_;rw[hw4b,hp9e];refine ⟨fun h=>absurd h (by decide),?_⟩;simp only[Act.put,Ja,Jb,Jc];refine Kai (i:=11) (by kernel_rfl) rfl rfl ?_;refine OpW.of (wp_append_lies w4b _ _ _ rfl Qm 110 ig (.agg #[.int .i64 0,.int .i64 0]) 2 16 Tryz.underlying99 hig0 hg0 hg1 hg2 rfl (by decide) (.slice VA k vc) k _ rfl hrow5 ⟨p9,0,none⟩ 1 1 [.int .i64 x.frm,.int .i64 x.to_] rfl rfl ?k1b ?k2b (by decide) (by unfold maxLen;omega) (by omega) ?k5b w4b.heap.size rfl ?k6b)
           case k1b=>exact Kas (l:=[.int .i64 x.frm,.int .i64 x.to_]) hp9
           case k2b=>
            intro u hu;simp only[List.mem_cons,List.not_mem_nil,or_false] at hu;rcases hu with rfl | rfl <;> rfl
           case k5b=>have:=hb4b.size;omega
           intro g9 cap w5 hown' hgrow _ _;obtain ⟨hb5,hst5⟩:=HST.out.step HQm.out (by omega) (HB4.out.trans (hb4b.mono HB4.out.size)) hgrow hown';have f1:=hb5.frozen (2+m);have hplt5:=hb5.lt;have d5:w5.cell? ⟨p,2+m,none⟩=some (.slice VA k vc):=(hb5.cell (2+m)).trans (Klu hm)
           have hst6:RfI p Qm 110 (boxC hl mx hg (.slice none 0 0)) (2+m) (.slice (some ⟨g9,0,none⟩) (k+1) cap) (k+1) (((s.g m).take (k+1)).flatMap Kac) wm (w5.setCell ⟨p,2+m,none⟩ (.slice (some ⟨g9,0,none⟩) (k+1) cap)):=by
            rw[HTK.out,List.flatMap_append,List.flatMap_singleton];exact hst5
           have HST6:=Jh hst6;refine ⟨fun h=>absurd h (by decide),?_⟩;simp only[Act.put,Ja,Jb,Jc];refine Kaa (i:=13) (d:=some 67) rfl rfl (by kernel_rfl) (by kernel_rfl) (by kernel_rfl) rfl (fun _ _ _ h=>h) (by rfl) (fun w=>by go_simp;try rfl) (fun h=>absurd h (by decide)) ?_;simp only[Act.put,Ja,Jb,Jc];refine Kai (i:=14) (by kernel_rfl) rfl rfl ?_;refine Oper.wp_skipped (w':=w5.setCell ⟨p,2+m,none⟩ (.slice (some ⟨g9,0,none⟩) (k+1) cap)) rfl (by go_simp;try rfl) ?_;refine ⟨fun h=>absurd h (by decide),?_⟩;refine Kau (by kernel_rfl) ?_ _;clear hown' hgrow hb5 hst5 hst6 hS hb4b hp9 hrow5 d5 f1 hS4 hS5;go_wp2_with fail
           go_roundg (gk - 1)
           case measure=>have:=HKG.out;omega
           case rel=>exact ⟨k+1,_,by have:=HKG.out;omega,by first | rfl | go_num,HST6.out⟩
          ·refine Oper.wp_ran (d:=some 64) (w':=w4.drew.alloc (.cells #[.int .i64 x.frm,.int .i64 x.to_] 110)) (v:=.slice (some ⟨w4.drew.heap.size,0,none⟩) 1 1) rfl (by go_simp;try rfl) ?_;rw[hw4b,hp9e];refine ⟨fun h=>absurd h (by decide),?_⟩;simp only[Act.put,Ja,Jb,Jc];refine Kai (i:=4) (by kernel_rfl) rfl rfl ?_;refine Oper.wp_ran (d:=some 58) (w':=w4b) (v:=.slice VA k vc) rfl (by go_simp;try rfl) ?_;refine ⟨fun h=>absurd h (by decide),?_⟩;simp only[Act.put,Ja,Jb,Jc];refine Kai (i:=11) (by kernel_rfl) rfl rfl ?_;refine OpW.of (wp_append_lies w4b _ _ _ rfl Qm 110 ig (.agg #[.int .i64 0,.int .i64 0]) 2 16 Tryz.underlying99 hig0 hg0 hg1 hg2 rfl (by decide) (.slice VA k vc) k _ rfl hrow5 ⟨p9,0,none⟩ 1 1 [.int .i64 x.frm,.int .i64 x.to_] rfl rfl ?k1c ?k2c (by decide) (by unfold maxLen;omega) (by omega) ?k5c w4b.heap.size rfl ?k6c)
           case k1c=>exact Kas (l:=[.int .i64 x.frm,.int .i64 x.to_]) hp9
           case k2c=>
            intro u hu;simp only[List.mem_cons,List.not_mem_nil,or_false] at hu;rcases hu with rfl | rfl <;> rfl
           case k5c=>have:=hb4b.size;omega
           intro g9 cap w5 hown' hgrow _ _;obtain ⟨hb5,hst5⟩:=HST.out.step HQm.out (by omega) (HB4.out.trans (hb4b.mono HB4.out.size)) hgrow hown';have f1:=hb5.frozen (2+m);have hplt5:=hb5.lt;have d5:w5.cell? ⟨p,2+m,none⟩=some (.slice VA k vc):=(hb5.cell (2+m)).trans (Klu hm)
           have hst6:RfI p Qm 110 (boxC hl mx hg (.slice none 0 0)) (2+m) (.slice (some ⟨g9,0,none⟩) (k+1) cap) (k+1) (((s.g m).take (k+1)).flatMap Kac) wm (w5.setCell ⟨p,2+m,none⟩ (.slice (some ⟨g9,0,none⟩) (k+1) cap)):=by
            rw[HTK.out,List.flatMap_append,List.flatMap_singleton];exact hst5
           have HST6:=Jh hst6;refine ⟨fun h=>absurd h (by decide),?_⟩;simp only[Act.put,Ja,Jb,Jc];refine Kaa (i:=13) (d:=some 67) rfl rfl (by kernel_rfl) (by kernel_rfl) (by kernel_rfl) rfl (fun _ _ _ h=>h) (by rfl) (fun w=>by go_simp;try rfl) (fun h=>absurd h (by decide)) ?_;simp only[Act.put,Ja,Jb,Jc];refine Kai (i:=14) (by kernel_rfl) rfl rfl ?_;refine Oper.wp_skipped (w':=w5.setCell ⟨p,2+m,none⟩ (.slice (some ⟨g9,0,none⟩) (k+1) cap)) rfl (by go_simp;try rfl) ?_;refine ⟨fun h=>absurd h (by decide),?_⟩;refine Kau (by kernel_rfl) ?_ _;clear hown' hgrow hb5 hst5 hst6 hS hb4b hp9 hrow5 d5 f1 hS4 hS5;go_wp2_with fail
           go_roundg (gk - 1)
           case measure=>have:=HKG.out;omega
           case rel=>exact ⟨k+1,_,by have:=HKG.out;omega,by first | rfl | go_num,HST6.out⟩
        ·have elk:decide (k < gn)=false:=by rw[decide_eq_false_iff_not];exact hk
         have hkn:k=gn:=by have:=HKG.out;omega
         have htk:(s.g m).take k=(s.g m):=List.take_of_length_le (by have:=HGLEN.out;omega);have hst:=HST.out;rw[htk] at hst;have HSTd:=Jh hst;have hkl:(s.g m).length=k:=by have:=HGLEN.out;omega
         obtain ⟨A8,c8,e8,k1,k2,k3⟩:=Elems.of_own (enc:=Kac) (fun x _=>Kbv x) rfl hst.r hkl;injection e8 with e81 e82 e83;subst e81 e83;have HK1:=Jh k1;have HK2:=Jh k2;have HK3:=Jh k3;clear hst htk k1 k2 k3;go_wp2_with fail
         go_meet
         have hkk:=HSTd.out.k;have hkg2:=HKGm.out.kept hkk.wide2;have hpw:p < wm.heap.size:=HBXm.out.lt;have hof:Off (p+1) [p,p] VA k:=fun _ a ha=>⟨by have:=HK2.out a ha;have:=HQm.out;omega,by have:=HK2.out a ha;have:=HQm.out;simp;omega⟩
         have hlm:((List.range m).map s.g).length=m:=by simp
         refine ⟨⟨VA,k,vc⟩,?_,by rw[←Qdu hm];exact HSTd.out.b,hkk⟩;rw[List.range_succ,List.map_append];exact hkg2.add hlm HK1.out hof
      obtain ⟨h,hkg,hbx,hkk⟩:=hcut;obtain ⟨wn,rfl⟩:∃x,x=wc:=⟨_,rfl⟩;have HKGn:=Jh hkg;have HBXn:=Jh hbx;have HKKn:=Jh (Kds HKKm.out hkk);clear hkg hbx hkk;go_wp2_with fail
      go_roundg (3 - m - 1)
      case measure=>have:=HMG.out;omega
      case rel=>exact ⟨m+1,updG hg m h,by omega,by first | rfl | go_num,fun j hj=>by unfold updG;rw[if_neg (by omega)];exact HDEF.out j (by omega),HKGn.out,HBXn.out,HKKn.out⟩
     ·have elm:decide (m < 3)=false:=by rw[decide_eq_false_iff_not];exact hm
      have hm3:m=3:=by have:=HMG.out;omega
      subst hm3;go_wp2_with fail
      go_meet
      exact ⟨hg,HKGm.out,HBXm.out,HKKm.out⟩
   obtain ⟨hg,hkg,hbx,hkk⟩:=hcut;obtain ⟨w6,rfl⟩:∃x,x=wc:=⟨_,rfl⟩;have HKGg:=Jh hkg;have HBXg:=Jh hbx;have HKKg:=Jh hkk;have hk56:=HK53.out.kept hkk HK53.out.lt (by simp;omega);have HK56:=Jh hk56;have s5:w6.cell? ⟨p5,5,none⟩=some (.slice SA sn sc):=hk56.cell 5;have hp56:=hk56.lt;have HSRC6:Hid (Elems w6 w6.heap.size 2 Kbw SA sn s.samples):=Jh ((HK.out.kx HKKl.out ⟨HSRCL.out,HSRCG.out 0,HSRCG.out 1,HSRCG.out 2,HSRCS.out⟩).kx hkk ⟨HSRCL.out,HSRCG.out 0,HSRCG.out 1,HSRCG.out 2,HSRCS.out⟩).s;obtain ⟨Q6,hQ6⟩:∃x,w6.heap.size=x:=⟨_,rfl⟩;have HQ6:=Jh hQ6;have hpQ6:p < Q6:=by rw[←hQ6];exact hbx.lt
   clear hkg hbx hkk hk56 hQ6 g0 g1 g2 hp53;go_upto_block 8 with fail
   go_cut [] (fun wz=>∃hs:Hd,Elems wz wz.heap.size 2 Kbw hs.A hs.n s.samples∧hs.n≤hs.c∧Off (p+1) [p] hs.A hs.n∧Blk wz p 103 (boxC hl mx hg (hdV hs))∧Kept w6.heap.size [p] w6 wz)
   case first=>
    go_wp2_with fail
    go_loopg [73] sn (fun g sk wz=>∃(k:Nat) (v:Value),k+g=sn∧sk = .int .i64 (k:Int)∧RfI p Q6 111 (boxC hl mx hg (.slice none 0 0)) 5 v k ((s.samples.take k).flatMap Kbw) w6 wz)
    case atStart=>exact ⟨0,.slice none 0 0,by omega,rfl,by exact HBXg.out,by rw[List.take_zero];exact World.ownsRow_nil _ _ _ _,Kept.refl _ _ _⟩
    case round=>
     obtain ⟨k,v,hkg,rfl,hst⟩:=hrel;have HKG:=Jh hkg;have HST:=Jh hst;clear hkg hst;obtain ⟨wk,rfl⟩:∃x,x=wr:=⟨_,rfl⟩;obtain ⟨VA,vc,rfl⟩:=Kdg HST.out.r
     by_cases hk:k < sn
     ·have elk:decide (k < sn)=true:=by rw[decide_eq_true_eq];exact hk
      have hk2:(k:Int) < (sn:Int):=by omega
      have hesrc:=HSRC6.out.kx HSRCS.out HST.out.k;obtain ⟨bx,ox,hAx,hbx,hgx⟩:=hesrc.getS hk;subst hAx;have hkl:k < s.samples.length:=by have:=HSLL.out;omega
      obtain ⟨x,hx⟩:∃x,s.samples[k]! = x:=⟨_,rfl⟩;rw[hx] at hgx;have c0x:wk.cell? ⟨bx,ox+k*2,none⟩=some (.int .i64 x.t):=hgx 0 _ rfl;have c1x:wk.cell? ⟨bx,ox+k*2+1,none⟩=some (.int .u64 (x.v:Int)):=hgx 1 _ rfl;have hbxk:bx < wk.heap.size:=hbx;have htk:s.samples.take (k+1)=s.samples.take k ++ [x]:=by rw[List.take_succ_eq_append_getElem hkl,←hx,getElem!_pos _ k hkl]
      have HTK:=Jh htk;clear htk hx hgx hesrc;go_upto_region 23 with fail
      have hb4:Below wk.heap.size wk (wk.alloc (.cells #[.int .i64 x.t,.int .u64 (x.v:Int)] 93)):=(Below.refl _ _).alloc (Nat.le_refl _) _;have hp8:Blk (wk.alloc (.cells #[.int .i64 x.t,.int .u64 (x.v:Int)] 93)) wk.heap.size 93 #[.int .i64 x.t,.int .u64 (x.v:Int)]:=Blk.new _ _ _;obtain ⟨w4,hw4e⟩:∃w4,wk.alloc (.cells #[.int .i64 x.t,.int .u64 (x.v:Int)] 93)=w4:=⟨_,rfl⟩;obtain ⟨p8,hp8e⟩:∃p8,wk.heap.size=p8:=⟨_,rfl⟩;rw[hw4e] at hb4 hp8;rw[hw4e];rw[hp8e] at hp8
      try rw[hp8e]
      have u0:w4.cell? ⟨p8,0,none⟩=some (.int .i64 x.t):=hp8.cell 0;have u1:w4.cell? ⟨p8,1,none⟩=some (.int .u64 (x.v:Int)):=hp8.cell 1;have hbx4:=HST.out.b.below hb4 HST.out.b.lt;have d1:w4.cell? ⟨p,5,none⟩=some (.slice VA k vc):=(hbx4.cell (5)).trans (rfl);have hplt:=hbx4.lt;have hrow4:=Kbi HST.out.r hb4;have HB4:=Jh hb4;have hqz:Q6≤w4.heap.size:=by have h1:=HST.out.k.size;have h2:=hb4.size;have h3:=HQ6.out;omega
      have hp84:=hp8.lt;have HROW4:=Jh hrow4;clear hw4e hb4 hp8 hbx4 hp8e c0x c1x hrow4;go_wp2_with (at_builtin;refine wpList_append_own_at _ rfl _ _ 101 rfl Q6 111 is (.agg #[.int .i64 0,.int .u64 0]) 2 16 Tryz.underlying101 his hs0 hs1 hs2 rfl (by decide) _ _ _ rfl (World.ownsRow.alloc HROW4.out _) ⟨w4.heap.size,0,none⟩ 1 1 [.int .i64 x.t,.int .u64 (x.v:Int)] rfl rfl ?k1 ?k2 ?k3 ?k4 ?k5 ?_)
      try (case k1=>exact Kas (l:=[.int .i64 x.t,.int .u64 (x.v:Int)]) (Blk.new w4 _ _))
      case k2=>
       first
       | exact ⟨rfl,rfl⟩
       | (intro u hu;simp only[List.mem_cons,List.not_mem_nil,or_false] at hu;rcases hu with rfl | rfl <;> rfl)
      case k3=>unfold maxLen;omega
      case k4=>omega
      case k5=>first | omega | (simp;omega)
      intro v' w5 hown' hgrow0 _ _
      have hgrow:w4.grownBy w5 (Value.slice VA k vc).ownBlock:=by
       first
       | exact (World.grownBy_alloc w4 _ _).trans hgrow0
       | exact hgrow0
      obtain ⟨hb5,hst5⟩:=HST.out.step HQ6.out (by omega) HB4.out hgrow hown';have f1:=hb5.frozen (5);have hplt5:=hb5.lt;have d5:w5.cell? ⟨p,5,none⟩=some (.slice VA k vc):=(hb5.cell (5)).trans (rfl)
      have hst6:RfI p Q6 111 (boxC hl mx hg (.slice none 0 0)) 5 v' (k+1) ((s.samples.take (k+1)).flatMap Kbw) w6 (w5.setCell ⟨p,5,none⟩ v'):=by
       rw[HTK.out,List.flatMap_append,List.flatMap_singleton];exact hst5
      have HST6:=Jh hst6;obtain ⟨VA',vc',rfl⟩:=Kdg hown';clear hown' hgrow0 hgrow hb5 hst5 hst6;go_wp2_with fail
      go_roundg (gk - 1)
      case measure=>have:=HKG.out;omega
      case rel=>exact ⟨k+1,_,by have:=HKG.out;omega,by first | rfl | go_num,HST6.out⟩
     ·have elk:decide (k < sn)=false:=by rw[decide_eq_false_iff_not];exact hk
      have hkn:k=sn:=by have:=HKG.out;omega
      have htk:s.samples.take k=s.samples:=List.take_of_length_le (by have:=HSLL.out;omega);have hst:=HST.out;rw[htk] at hst;have HSTd:=Jh hst;have hkl:s.samples.length=k:=by have:=HSLL.out;omega
      obtain ⟨A8,c8,e8,k1,k2,k3⟩:=Elems.of_own (enc:=Kbw) (fun x _=>Kfl x) rfl hst.r hkl;injection e8 with e81 e82 e83;subst e81 e83;have HK1:=Jh k1;have HK2:=Jh k2;have HK3:=Jh k3;clear hst htk k1 k2 k3;go_wp2_with fail
      go_meet
      exact ⟨⟨VA,k,vc⟩,HK1.out,HK3.out,fun _ a ha=>⟨by have:=HK2.out a ha;omega,by have:=HK2.out a ha;simp;omega⟩,HSTd.out.b,HSTd.out.k⟩
   obtain ⟨hs,hse,hsc,hso,hbx,hkk⟩:=hcut;obtain ⟨w7,rfl⟩:∃x,x=wc:=⟨_,rfl⟩;have hkg7:=HKGg.out.kept hkk.wide2;have hbx7:=hbx
   have hb27:Below wo.heap.size wo w7:=by
    have k1:=HKKl.out;have k2:=HKKg.out;have hB2:=HB2.out;refine hB2.trans ⟨(hkk.os.trans k2.os).trans k1.os,(hkk.tape.trans k2.tape).trans k1.tape,(hkk.output.trans k2.output).trans k1.output,by have:=k1.size;have:=k2.size;have:=hkk.size;omega,fun j hj=>?_⟩;have hj1:j < w2.heap.size:=by have:=hB2.size;omega
    have hjp:j∉[p]:=by simp;omega
    exact (hkk.block j (by have:=k1.size;have:=k2.size;omega) hjp).trans ((k2.block j (by have:=k1.size;omega) hjp).trans (k1.block j hj1 hjp))
   have hat7:KAt w7 ⟨hl,hg 0,hg 1,hg 2,hs⟩ s:=⟨hkg7.lab,hkg7.lc,hkg7.gon 0 (by simp),hkg7.gon 1 (by simp),hkg7.gon 2 (by simp),hse,hsc⟩
   have hof7:Off p [] hl.A hl.n∧Off p [] (hg 0).A (hg 0).n∧Off p [] (hg 1).A (hg 1).n∧Off p [] (hg 2).A (hg 2).n∧Off p [] hs.A hs.n:=by
    have hd:∀{ex:List Nat} {A:Option Addr} {n:Nat},Off (p+1) ex A n→Off p [] A n:=fun o hp' a ha=>⟨by have:=(o hp' a ha).1;omega,by simp⟩
    exact ⟨hd hkg7.lo,hd (hkg7.go 0 (by simp)),hd (hkg7.go 1 (by simp)),hd (hkg7.go 2 (by simp)),hd hso⟩
   have HB7:=Jh hb27;have HAT7:=Jh hat7;have HOF7:=Jh hof7;have y0:w7.cell? ⟨p,0,none⟩=some (.slice hl.A hl.n hl.c):=hbx.cell 0;have y1:w7.cell? ⟨p,1,none⟩=some (.int .i64 mx):=hbx.cell 1;have y2:w7.cell? ⟨p,2,none⟩=some (.slice (hg 0).A (hg 0).n (hg 0).c):=hbx.cell 2;have y3:w7.cell? ⟨p,3,none⟩=some (.slice (hg 1).A (hg 1).n (hg 1).c):=hbx.cell 3;have y4:w7.cell? ⟨p,4,none⟩=some (.slice (hg 2).A (hg 2).n (hg 2).c):=hbx.cell 4;have y5:w7.cell? ⟨p,5,none⟩=some (.slice hs.A hs.n hs.c):=hbx.cell 5;have hp7:=hbx.lt;clear hse hsc hso hbx hkk hkg7 hbx7 hb27 hat7 hof7 s5 hp56;have hyl:ys.length=i:=by rw[HDR.out.len,List.length_take];omega
   have HYL:=Jh hyl;have hyz:ys.length≤1073741824:=by omega
   have HDR7:=Jh (HDR.out.below HB7.out);have hq07:q0≤w7.heap.size:=by have:=HB7.out.size;have:=HB.out.size;have:=HQ0.out;omega
   have hsvlt:∀b,sv.ownBlock=some b→b < p:=fun b hb=>by have:=(World.ownsRow.lt HDR.out.own b hb).2;omega
   have HSV:=Jh hsvlt;have hq0p:q0≤p:=by have:=HB.out.size;have:=HQ0.out;omega
   clear hsvlt hyl;go_wp2_with (at_builtin;refine wpList_append_lies _ rfl _ _ 28 rfl q0 103 ib (.agg #[.slice none 0 0,.int .i64 0,.slice none 0 0,.slice none 0 0,.slice none 0 0,.slice none 0 0]) 6 128 Tryz.underlying28 hib hz0 hz1 hz2 rfl (by decide) sv ys.length (ys.flatMap encKY) rfl (World.ownsRow.alloc HDR7.out.own _) ⟨w7.heap.size,0,none⟩ 1 1 (encKY ⟨⟨hl,hg 0,hg 1,hg 2,hs⟩,mx⟩) rfl rfl ?k1 ?k2 (by decide) ?k3 ?k4 ?k5 _ rfl ?_)
   try (case k1=>exact Kas (l:=encKY ⟨⟨hl,hg 0,hg 1,hg 2,hs⟩,mx⟩) (Blk.new w7 _ _))
   case k2=>
    intro u hu;simp only[encKY,List.mem_cons,List.not_mem_nil,or_false] at hu;rcases hu with rfl | rfl | rfl | rfl | rfl | rfl <;> rfl
   case k3=>unfold maxLen;omega
   case k4=>omega
   case k5=>first | omega | (simp;omega)
   intro g9 cap w9 hown hgr hat hlt;rw[HYL.out] at hown;have h8:Below w7.heap.size w7 (w7.alloc (.cells #[.slice hl.A hl.n hl.c,.int .i64 mx,.slice (hg 0).A (hg 0).n (hg 0).c,.slice (hg 1).A (hg 1).n (hg 1).c,.slice (hg 2).A (hg 2).n (hg 2).c,.slice hs.A hs.n hs.c] 103)):=(Below.refl _ _).alloc (Nat.le_refl _) _;have hown2:w9.ownsRow q0 103 6 (.slice (some ⟨g9,0,none⟩) (ys.length+1) cap) (ys.length+1) (ys.flatMap encKY++encKY ⟨⟨hl,hg 0,hg 1,hg 2,hs⟩,s.max⟩):=by rw[HMX.out,HYL.out];exact hown
   have hdr9:=(HDR7.out.below h8).add (HAT7.out.below h8) HOF7.out hq0p HSV.out hown2 hgr (by simpa using hat);have htk:L.take (i+1)=L.take i ++ [s]:=by rw[List.take_succ_eq_append_getElem hil,←HSI.out,getElem!_pos L i hil]
   rw[←htk,HYL.out] at hdr9;have hb9:Below q0 w w9:=(HB.out.trans (HB7.out.mono (by have:=HB.out.size;have:=HQ0.out;omega))).trans ((h8.mono (by omega)).trans ⟨hgr.os,hgr.tape,hgr.output,hgr.size,fun j hj=>hgr.block j (by have:=h8.size;omega) (fun e=>by have:=(World.ownsRow.lt HDR.out.own j e.symm).1;omega)⟩);have HDR9:=Jh hdr9;have HB9:=Jh hb9;clear hown hgr hat hlt h8 hown2 hdr9 htk hb9 y0 y1 y2 y3 y4 y5;go_wp2_with fail
   go_roundg (n - i - 1)
   case measure=>have:=HIG.out;omega
   case rel=>exact ⟨i+1,_,.slice (some ⟨g9,0,none⟩) (i+1) cap,by rw[HYL.out],by omega,by first | rfl | go_num,HDR9.out,HB9.out⟩
  ·have el:decide (i < n)=false:=by rw[decide_eq_false_iff_not];exact hi
   have hin0:i=n:=by have:=HIG.out;omega
   subst hin0;have htk:L.take i=L:=List.take_of_length_le (by have:=HL.out;omega);have hdr:=HDR.out;rw[htk] at hdr;obtain ⟨A',c',rfl⟩:=Kdg hdr.own;have hyl:ys.length=i:=by rw[hdr.len];exact HL.out
   have hse:=hdr.sers.2;rw[hyl] at hse;have HSE:=Jh hse;rw[hyl];clear hdr hse htk hyl;go_wp2_with fail
   go_ret
   exact ⟨⟨_,_,rfl,HSE.out⟩,HB.out⟩
end
section
structure Inf where
 id:Int
 res:Int
 frm:Int
 to_:Int
 bytes:Int
deriving DecidableEq
instance:Inhabited Inf:=⟨⟨0,0,0,0,0⟩⟩
def i64 (v:Int):Prop:=-9223372036854775808≤v∧v≤9223372036854775807
instance (v:Int):Decidable (i64 v):=by unfold i64;infer_instance
def nameC (b:UInt8):Bool:=(decide (97≤b.toNat) && decide (b.toNat≤122)) || (decide (48≤b.toNat) && decide (b.toNat≤57)) || b.toNat == 46 || b.toNat == 45
def nameB (s:Txt):Bool:=s.all nameC && decide (1≤s.length) && decide (s.length≤32)
def Kaj:Txt→Option Nat
 | []=>none
 | b :: l=>if b=47 then some 0 else (Kaj l).map (· + 1)
def pathB (s:Txt):Bool:=match Kaj s with | none=>nameB s | some k=>nameB (s.take k) && nameB (s.drop (k+1))
def Kby (p d:Txt):Bool:=(d ++ [47]).isPrefixOf p
structure Th where
 path:Txt
 dir:Bool
 at_:Nat
instance:Inhabited Th:=⟨⟨[],false,0⟩⟩
structure Ch where
 text:Txt
 cut:Bool
 size:Nat
instance:Inhabited Ch:=⟨⟨[],false,0⟩⟩
structure By where
 now:Txt
 safe:Txt
 steps:List Ch
instance:Inhabited By:=⟨⟨[],[],[]⟩⟩
inductive St where
 | mkdir (a:Txt)
 | create (a:Txt) (i:Nat)
 | rename (a b:Txt)
 | remove (a:Txt)
structure Ds where
 things:List Th
 safe:List Th
 steps:List St
 files:List By
 cap:Nat
 off:Bool
 await:Nat
def findT (l:List Th) (p:Txt):Option Th:=l.find? fun x=>x.path == p
def isT (l:List Th) (p:Txt):Nat:=match findT l p with | none=>0 | some x=>if x.dir then 2 else 1
def Kcx (l:List Th) (p:Txt):Bool:=match Kaj p with | none=>true | some k=>isT l (p.take k) == 2
def Kak (l:List Th):St→List Th
 | .mkdir a=>l ++ [⟨a,true,0⟩]
 | .create a i=>l ++ [⟨a,false,i⟩]
 | .remove a=>l.filter fun x=>!(x.path == a || Kby x.path a)
 | .rename a b=>(l.filter fun x=>!(x.path == b)).map fun x=>if x.path == a then { x with path:=b } else if Kby x.path a then { x with path:=b++x.path.drop a.length } else x
def stepD (d:Ds):Nat×Ds:=if d.await=0 then (0,d) else if d.await=1 then (1,{ d with await:=0,off:=true }) else (0,{ d with await:=d.await - 1 })
def Kaz (d:Ds) (s:St):Nat×Ds:=
 if (stepD d).1≠0 then stepD d else (0,{ (stepD d).2 with things:=Kak d.things s,steps:=d.steps ++ [s] })
def Qfj (d:Ds) (s:Txt):Nat×Ds:=if d.off then (1,d) else if nameB s=false then (2,d) else if isT d.things s≠0 then (5,d) else Kaz d (.mkdir s)
def Kbl (d:Ds) (s:Txt):Nat×Ds:=
 if d.off then (1,d) else if pathB s=false then (2,d) else if Kcx d.things s=false then (4,d) else if isT d.things s≠0 then (5,d) else
 if (stepD d).1≠0 then stepD d else (0,{ (Kaz d (.create s d.files.length)).2 with files:=d.files ++ [⟨[],[],[]⟩] })
def fileT (l:List Th) (s:Txt):Except Nat Nat:=match findT l s with | none=>.error 4 | some x=>if x.dir then .error 3 else .ok x.at_
def fileD (d:Ds) (s:Txt):Except Nat Nat:=if d.off then .error 1 else if pathB s=false then .error 2 else fileT d.things s
def nowAt (d:Ds) (i:Nat):Txt:=(d.files[i]?.getD default).now
def usedL (d:Ds) (l:List Th):Nat:=(l.map fun x=>if x.dir then 0 else (nowAt d x.at_).length).sum
def usedD (d:Ds):Nat:=if d.off then 0 else usedL d d.things
def setF (d:Ds) (i:Nat) (f:By):Ds:={ d with files:=d.files.set i f }
def fAt (d:Ds) (i:Nat):By:=d.files[i]?.getD default
def Kbx (d:Ds) (s text:Txt):Nat×Ds:=
 match fileD d s with
 | .error e=>(e,d)
 | .ok i=>if d.cap < usedD d+text.length then (7,d) else if (stepD d).1≠0 then stepD d else
  (0,setF (stepD d).2 i { fAt d i with now:=(fAt d i).now++text,steps:=(fAt d i).steps ++ [⟨text,false,0⟩] })
def syncD (d:Ds) (s:Txt):Nat×Ds:=
 match fileD d s with
 | .error e=>(e,d)
 | .ok i=>if (stepD d).1≠0 then stepD d else (0,setF (stepD d).2 i ⟨(fAt d i).now,(fAt d i).now,[]⟩)
def Kbg (d:Ds):Nat×Ds:=if d.off then (1,d) else if (stepD d).1≠0 then stepD d else (0,{ (stepD d).2 with safe:=d.things,steps:=[] })
def Kal (d:Ds) (a b:Txt):Nat×Ds:=
 if d.off then (1,d) else if pathB a=false∨pathB b=false then (2,d) else if isT d.things a=2∧nameB b=false then (2,d) else
 if isT d.things a=0∨Kcx d.things b=false then (4,d) else
 if isT d.things b=2∨(isT d.things b=1∧(isT d.things a=2∨a=b)) then (5,d) else Kaz d (.rename a b)
def Kaw (d:Ds) (s:Txt):Nat×Ds:=if d.off then (1,d) else if pathB s=false then (2,d) else if isT d.things s=0 then (4,d) else Kaz d (.remove s)
def allD (d:Ds) (s:Txt):Txt×Nat:=match fileD d s with | .error e=>([],e) | .ok i=>((fAt d i).now,0)
structure En where
 name:Txt
 dir:Bool
 size:Nat
instance:Inhabited En:=⟨⟨[],false,0⟩⟩
def units (l:List Ch):Nat:=(l.map fun c=>c.text.length+if c.cut then 1 else 0).sum
def newD (cap:Int):Ds:=⟨[],[],[],[],(min cap 67108864).toNat,false,0⟩
def Kdj:Txt:=[46,110,101,119]
def seqD:List (Ds→Nat×Ds)→Nat×Ds→Nat×Ds
 | [],r=>r
 | f :: l,r=>if r.1=0 then seqD l (f r.2) else r
def putL (fresh:Txt):List (Ds→Nat×Ds)→Nat×Ds→Nat×Ds
 | [],r=>r
 | f :: l,r=>if r.1=0 then putL fresh l (f r.2) else (r.1,(Kaw r.2 fresh).2)
def goneD (d:Ds) (s:Txt):Nat×Ds:=(if (Kaw d s).1=4 then 0 else (Kaw d s).1,(Kaw d s).2)
def putD (d:Ds) (path text:Txt):Nat×Ds:=
 putL (path++Kdj) [(Kbl · (path++Kdj)),(Kbx · (path++Kdj) text),(syncD · (path++Kdj)),(Kal · (path++Kdj) path),Kbg] (goneD d (path++Kdj))
theorem Kyo {b:UInt8} (h:nameC b=true):b≠47:=by
 rintro rfl;exact absurd h (by decide)
theorem Kmw:∀{s:Txt},s.all nameC=true→Kaj s=none
 | [],_=>rfl
 | b :: s,h=>by
  rw[List.all_cons,Bool.and_eq_true] at h;rw[Kaj,if_neg (Kyo h.1),Kmw h.2];rfl
theorem Khz {s:Txt} (h:nameB s=true):Kaj s=none:=by
 unfold nameB at h;simp only[Bool.and_eq_true] at h;exact Kmw h.1.1
section
variable {t b m m2 : Txt}
end
def offD (d:Ds):Ds:={ d with await:=0,off:=true }
def tickD (d:Ds):Ds:={ d with await:=d.await - 1 }
section
variable {d : Ds} {s s2 : Txt} {i : Nat}
theorem Kia (d:Ds):stepD d=if d.await=1 then (1,offD d) else (0,tickD d):=by
 unfold stepD offD tickD
 by_cases h0:d.await=0
 ·rw[if_pos h0,if_neg (by omega),h0];simp only[Nat.zero_sub];rw[←h0]
 ·rw[if_neg h0]
theorem Kry (st:St):Kaz d st=if d.await=1 then (1,offD d) else (0,{ tickD d with things:=Kak d.things st,steps:=d.steps ++ [st] }):=by
 unfold Kaz;rw[Kia]
 by_cases h:d.await=1
 ·simp[h]
 ·simp[h]
theorem Qef (ho:d.off=false) (hp:pathB s=true) (hpar:Kcx d.things s=true) (hi:isT d.things s=0) :
  Kbl d s=if d.await=1 then (1,offD d) else (0,{ tickD d with things:=d.things ++ [⟨s,false,d.files.length⟩],steps:=d.steps ++ [.create s d.files.length],files:=d.files ++ [⟨[],[],[]⟩] }):=by
 unfold Kbl;rw[if_neg (by rw[ho];simp),if_neg (by rw[hp];simp),if_neg (by rw[hpar];simp),if_neg (by rw[hi];simp),Kry,Kia]
 by_cases h:d.await=1
 ·simp[h]
 ·simp[h,Kak]
theorem Kzx (ho:d.off=false) (hp:pathB s=true) (hf:findT d.things s=some ⟨s,false,i⟩):fileD d s = .ok i:=by
 unfold fileD fileT;rw[if_neg (by rw[ho];simp),if_neg (by rw[hp];simp),hf];simp
theorem Qds (hf:fileD d s = .ok i) (x:Txt) (hc:usedD d+x.length≤d.cap) :
  Kbx d s x=if d.await=1 then (1,offD d) else (0,setF (tickD d) i { fAt d i with now:=(fAt d i).now++x,steps:=(fAt d i).steps ++ [⟨x,false,0⟩] }):=by
 unfold Kbx;rw[hf];simp only;rw[if_neg (by omega),Kia]
 by_cases h:d.await=1
 ·simp[h]
 ·simp[h]
theorem Qll (hf:fileD d s = .ok i):syncD d s=if d.await=1 then (1,offD d) else (0,setF (tickD d) i ⟨(fAt d i).now,(fAt d i).now,[]⟩):=by
 unfold syncD;rw[hf];simp only;rw[Kia]
 by_cases h:d.await=1
 ·simp[h]
 ·simp[h]
theorem Kwy (ho:d.off=false):Kbg d=if d.await=1 then (1,offD d) else (0,{ tickD d with safe:=d.things,steps:=[] }):=by
 unfold Kbg;rw[if_neg (by rw[ho];simp),Kia]
 by_cases h:d.await=1
 ·simp[h]
 ·simp[h]
theorem Kyv (ho:d.off=false) (h1:nameB s=true) (hi:isT d.things s=0):Kaw d s=(4,d):=by
 have p1:pathB s=true:=by unfold pathB;rw[Khz h1];exact h1
 unfold Kaw;rw[if_neg (by rw[ho];simp),if_neg (by rw[p1];simp),if_pos hi]
end
def byOk (x:Txt):By:=⟨x,x,[]⟩
def byApp (x:Txt):By:=⟨x,[],[⟨x,false,0⟩]⟩
section
variable {d : Ds} {t b m : Txt}
end
section
variable {d : Ds} {t b : Txt}
end
section
variable {d : Ds} {t b : Txt}
end
section
variable {d : Ds} {t b : Txt}
end
section
variable {d : Ds} {t b : Txt}
end
section
variable {t b m : Txt} {L : List Th} {q k : Nat}
end
section
variable {y : Ds} {t b : Txt} {q : Nat}
theorem Qhh {i:Nat} (h:fileD y t = .ok i):allD y t=((fAt y i).now,0):=by
 unfold allD;rw[h]
end
section
variable {d d0 : Ds} {t b : Txt}
end
section
variable {t b : Txt}
end
section
variable {t b : Txt}
def roomD (cap:Nat):Ds:=⟨[],[],[],[],cap,false,0⟩
end
def putX (cap:Nat) (P s:Txt):Ds:=⟨[⟨P,false,0⟩],[⟨P,false,0⟩],[],[byOk s],cap,false,0⟩
theorem Kfr {s:Txt} (h:nameB s=true):pathB s=true:=by unfold pathB;rw[Khz h];exact h
theorem Kmp {s:Txt} (h:nameB s=true) (l:List Th):Kcx l s=true:=by unfold Kcx;rw[Khz h]
theorem Kyw {d:Ds} {s s2:Txt} (ho:d.off=false) (h1:nameB s=true) (h2:nameB s2=true) (hi:isT d.things s=1) (hi2:isT d.things s2=0):Kal d s s2=Kaz d (.rename s s2):=by
 unfold Kal;rw[if_neg (by rw[ho];simp),if_neg (by rw[Kfr h1,Kfr h2];simp),if_neg (by rw[h2];simp),if_neg (by rw[hi,Kmp h2];simp),if_neg (by rw[hi,hi2];simp)]
theorem Kiw {F:Txt} {f:Ds→Nat×Ds} {l:List (Ds→Nat×Ds)} {d d2:Ds} (h:f d=(0,d2)):putL F (f :: l) (0,d)=putL F l (0,d2):=by
 rw[putL,if_pos rfl];simp only;rw[h]
theorem Qla (cap:Nat) (P s:Txt) (hP:nameB P=true) (hF:nameB (P++Kdj)=true) (hs:s.length≤cap):putD (roomD cap) P s=(0,putX cap P s):=by
 have hne:(P++Kdj == P)=false:=by rw[beq_eq_false_iff_ne];intro e;have:=congrArg List.length e;simp[Kdj] at this
 have hne2:(P == P++Kdj)=false:=by rw[beq_eq_false_iff_ne];intro e;have:=congrArg List.length e;simp[Kdj] at this
 obtain ⟨F,hFe⟩:∃F,P++Kdj=F:=⟨_,rfl⟩;unfold putD;rw[hFe] at hF hne hne2 ⊢
 have g:goneD (roomD cap) F=(0,roomD cap):=by
  unfold goneD;rw[Kyv (d:=roomD cap) rfl hF rfl];rfl
 rw[g]
 let d1:Ds:=⟨[⟨F,false,0⟩],[],[.create F 0],[⟨[],[],[]⟩],cap,false,0⟩
 have e1:Kbl (roomD cap) F=(0,d1):=by
  rw[Qef (d:=roomD cap) rfl (Kfr hF) (Kmp hF _) rfl];exact (if_neg (fun h:(0:Nat)=1=>by cases h)).trans rfl
 have f1:∀(fs:List By) (st:List St),fileD ⟨[⟨F,false,0⟩],[],st,fs,cap,false,0⟩ F = .ok 0:=fun fs st=>Kzx (d:=⟨[⟨F,false,0⟩],[],st,fs,cap,false,0⟩) rfl (Kfr hF) (by simp[findT])
 let d2:Ds:=⟨[⟨F,false,0⟩],[],[.create F 0],[byApp s],cap,false,0⟩
 have e2:Kbx d1 F s=(0,d2):=by
  rw[Qds (d:=d1) (f1 _ _) s (by show 0+s.length≤cap;omega)];exact (if_neg (fun h:(0:Nat)=1=>by cases h)).trans rfl
 let d3:Ds:=⟨[⟨F,false,0⟩],[],[.create F 0],[byOk s],cap,false,0⟩
 have e3:syncD d2 F=(0,d3):=by
  rw[Qll (d:=d2) (f1 _ _)];exact (if_neg (fun h:(0:Nat)=1=>by cases h)).trans rfl
 let d4:Ds:=⟨[⟨P,false,0⟩],[],[.create F 0,.rename F P],[byOk s],cap,false,0⟩
 have e4:Kal d3 F P=(0,d4):=by
  rw[Kyw (d:=d3) rfl hF hP (by show isT [⟨F,false,0⟩] F=1;simp[isT,findT]) (by show isT [⟨F,false,0⟩] P=0;simp[isT,findT,hne]),Kry];refine (if_neg (fun h:(0:Nat)=1=>by cases h)).trans ?_;show (0,(⟨Kak [⟨F,false,0⟩] (.rename F P),[],_,_,_,_,_⟩:Ds))=(0,d4)
  have:Kak [⟨F,false,0⟩] (.rename F P) = [⟨P,false,0⟩]:=by simp[Kak,hne]
  rw[this];rfl
 have e5:Kbg d4=(0,putX cap P s):=by
  rw[Kwy (d:=d4) rfl];exact (if_neg (fun h:(0:Nat)=1=>by cases h)).trans rfl
 rw[Kiw e1,Kiw e2,Kiw e3,Kiw e4,Kiw e5,putL]
theorem Qis (cap:Nat) (P s:Txt) (hP:nameB P=true):allD (putX cap P s) P=(s,0):=by
 rw[Qhh (y:=putX cap P s) (Kzx rfl (Kfr hP) (show findT [⟨P,false,0⟩] P=some ⟨P,false,0⟩ by simp[findT]))];rfl
def t2:Txt:=[116,48,48,48,48,48,48,48,50]
def b2:Txt:=[98,48,48,48,48,48,48,48,50]
structure Trn where
 at_:Int
 out:Int
 t:Txt
def Trn.len (l:List Trn):Nat:=(l.map (·.t.length)).sum
end
section
open Go.RowKit Go.Maps Go.Sort
def HR (v:Value):Option (DataW Value×List MemPlace):=some (.held v,[])
def SMap (P:Program) (K:TypeId) (w:World) (b:Nat) (f:Txt→Option Value):Prop:=
 ∃D:DataW Value,w.ownsMap P K HR b (Maps.size D) D∧(∀x,Maps.has D (.string x)=(f x).isSome)∧∀x v,f x=some v→∀z,D.atKey (.string x) z = .held v
def upd (f:Txt→Option Value) (x:Txt) (v:Option Value):Txt→Option Value:=fun y=>if y=x then v else f y
theorem Klc {α : Type} [DecidableEq α]:∀(l L:List α),l.Nodup→(∀x∈l,x∈L)→l.length≤L.length
 | [],_,_,_=>by simp
 | a :: l,L,hn,h=>by
  have ha:=List.nodup_cons.1 hn;have:=Klc l (L.erase a) ha.2 (fun x hx=>(List.mem_erase_of_ne (fun e:x=a=>ha.1 (by rw[←e];exact hx))).2 (h x (by simp[hx])));rw[List.length_erase_of_mem (h a (by simp))] at this;have h0:0 < L.length:=List.length_pos_of_mem (h a (by simp));simp only[List.length_cons];omega
section
variable {P : Program} {K T E : TypeId} {w w' : World} {b : Nat} {f : Txt → Option Value}
theorem Koy {n:Nat} {D:DataW Value} (h:w.ownsMap P K HR b n D):w.ownsMap P K HR b (Maps.size D) D:=by
 obtain ⟨es,clock,hb,F,hs,rfl⟩:=h;exact ⟨es,clock,hb,F,by simp[Maps.size,length_sorted],rfl⟩
theorem SMap.lt (h:SMap P K w b f):b < w.heap.size:=by obtain ⟨D,h,_⟩:=h;exact h.lt
theorem SMap.grown {row:Option Nat} (h:SMap P K w b f) (hg:w.grownBy w' row) (hne:some b≠row):SMap P K w' b f:=by
 obtain ⟨D,h1,h2⟩:=h;exact ⟨D,h1.kept hg hne,h2⟩
theorem SMap.same (h:SMap P K w b f) (hb:w'.heap[b]? = w.heap[b]?):SMap P K w' b f:=by
 obtain ⟨D,⟨es,clock,h1,r⟩,h2⟩:=h;exact ⟨D,⟨es,clock,hb.trans h1,r⟩,h2⟩
theorem SMap.below {B:Nat} (h:SMap P K w b f) (hb:Below B w w') (hB:b < B):SMap P K w' b f:=h.same (hb.block b hB)
theorem SMap.made (w:World):SMap P K (w.alloc (.map #[] 0)) w.heap.size fun _=>none:=
 ⟨.map [],World.ownsMap_made w P K HR,fun x=>rfl,fun x v h=>by cases h⟩
theorem SMap.keyed (hK:P.underlying K=some .string):Keyed P K:=string_keyed hK
theorem SMap.size_le (hK:P.underlying K=some .string) {D:DataW Value} {n:Nat} (h:w.ownsMap P K HR b n D) (L:List Txt) (hL:∀x,Maps.has D (.string x)=true→x∈L):Maps.size D≤L.length:=by
 obtain ⟨es,rfl,hpw⟩:=h.tidy (SMap.keyed hK);obtain ⟨es',e',hko⟩:=h.keysOf;injection e' with e';subst e'
 have hstr:∀p∈es,∃x,p.1 = .string x:=fun p hp=>by
  obtain ⟨v,hv⟩:=hko p hp;obtain ⟨x,_,hx,_⟩:=Maps.keyOf_str hK hv;exact ⟨x,hx⟩
 rw[size_eq]
 have hnd:(es.map fun p=>strOf p.1).Nodup:=by
  refine List.pairwise_map.2 (hpw.imp_of_mem fun {p q} hp' hq' hne e=>hne ?_);obtain ⟨a,ha⟩:=hstr p hp';obtain ⟨b,hb⟩:=hstr q hq';rw[ha,hb] at e ⊢;exact congrArg _ e
 have hsub:∀x∈es.map (fun p=>strOf p.1),x∈L:=by
  intro x hx;obtain ⟨p,hp,rfl⟩:=List.mem_map.1 hx;obtain ⟨a,ha⟩:=hstr p hp;apply hL;rw[has_eq,List.any_eq_true];exact ⟨p,hp,by rw[ha];simp[strOf,Lit.sameKey]⟩
 have:=Klc _ L hnd hsub;simpa using this
theorem SMap.look (h:SMap P K w b f) (hK:P.underlying K=some .string) (ht:P.underlying T=some (.map K E)) {z:Value} (hz:(zeroValue E).run P w = .ok z w) {s:ByteArray} (hs:s.size≤maxLen) :
  (Instr.lookup T (.map (some b)) (.string s) false).run P w = .ok ((f s.data.toList).getD z) w:=by
 obtain ⟨D,h1,h2,h3⟩:=h;obtain ⟨v,ps,hrun,hv⟩:=h1.lookup (SMap.keyed hK) ht hz (zd:=.held z) (zp:=[]) rfl (WideMaps.keyOf_string_mk hK hs);rw[hrun];congr 1
 have e:DataW.held v=D.atKey (.string s.data.toList) (.held z):=by
  have:some (DataW.held v,([]:List MemPlace))=some (D.atKey (.string s.data.toList) (.held z),ps):=hv;injection this with this;injection this
 cases hf:f s.data.toList with
 | none=>
  have hh:=h2 s.data.toList;rw[hf] at hh;rw[atKey_of_not_has hh] at e;injection e
 | some u=>
  rw[h3 _ u hf] at e;injection e
theorem SMap.put (h:SMap P K w b f) (hK:P.underlying K=some .string) (ht:P.underlying T=some (.map K E)) {s:ByteArray} (hs:s.size≤maxLen) (v:Value) (L:List Txt) (hL:∀x,(f x).isSome=true→x∈L) (hn:L.length < maxLen) :
  ∃w1,(Instr.mapUpdate T (.map (some b)) (.string s) v).run P w = .ok () w1∧SMap P K w1 b (upd f s.data.toList (some v))∧w.grownBy w1 (some b)∧w1.heap.size=w.heap.size:=by
 obtain ⟨D,h1,h2,h3⟩:=h;have hsz:=SMap.size_le hK h1 L (fun x hx=>hL x (by rw[←h2];exact hx));obtain ⟨w1,hrun,hown,hturn⟩:=h1.store (SMap.keyed hK) ht (by omega) (kl:=.string s.data.toList) (WideMaps.keyOf_string_mk hK hs) (val:=v) (d:=.held v) (ps:=[]) rfl;refine ⟨w1,hrun,⟨_,Koy hown,fun x=>?_,fun x u hu z=>?_⟩,hturn.grown,?_⟩
 ·unfold upd
  by_cases e:x=s.data.toList
  ·subst e;rw[has_put_same (k:=.string _) h1.isMap trivial,if_pos rfl];rfl
  ·rw[has_put_other (by intro h;injection h with h;exact e h),if_neg e,h2]
 ·unfold upd at hu
  by_cases e:x=s.data.toList
  ·subst e;rw[if_pos rfl] at hu;injection hu with hu;rw[atKey_put_same (k:=.string _) h1.isMap trivial,hu]
  ·rw[if_neg e] at hu;rw[atKey_put_other (by intro h;injection h with h;exact e h)];exact h3 x u hu z
 ·obtain ⟨es,clock,es',clock',_,rfl⟩:=hturn;simp[ChangeMaps.setBlock]
theorem SMap.del (h:SMap P K w b f) (hK:P.underlying K=some .string) (ht:P.underlying T=some (.map K E)) {s:ByteArray} (hs:s.size≤maxLen) (ty:TypeId) :
  ∃w1,(Builtin.delete_ #[T,K] ty #[.map (some b),.string s]).run P w = .ok (.tuple #[]) w1∧SMap P K w1 b (upd f s.data.toList none)∧w.grownBy w1 (some b)∧w1.heap.size=w.heap.size:=by
 obtain ⟨D,h1,h2,h3⟩:=h;obtain ⟨w1,hrun,hown,hturn⟩:=h1.drop (SMap.keyed hK) ht (kl:=.string s.data.toList) (WideMaps.keyOf_string_mk hK hs) ty;refine ⟨w1,hrun,⟨_,Koy hown,fun x=>?_,fun x u hu z=>?_⟩,hturn.grown,?_⟩
 ·unfold upd
  by_cases e:x=s.data.toList
  ·subst e;rw[has_del_same,if_pos rfl];rfl
  ·rw[has_del_other (by intro h;injection h with h;exact e h),if_neg e,h2]
 ·unfold upd at hu
  by_cases e:x=s.data.toList
  ·subst e;rw[if_pos rfl] at hu;cases hu
  ·rw[if_neg e] at hu;rw[atKey_del_other (by intro h;injection h with h;exact e h)];exact h3 x u hu z
 ·obtain ⟨es,clock,es',clock',_,rfl⟩:=hturn;simp[ChangeMaps.setBlock]
end
section
variable {P : Program} {K T E : TypeId} (w : World) {ops : Array Oper} {rest : List Oper} {o : Oper} {a : Act} {Q : Exit → Act → World → Prop} {b : Nat} {f : Txt → Option Value}
theorem Kge (hg:o.guard=none) (m x:Operand) (hop:o.op=Op.lookup T m x false) (hK:P.underlying K=some .string) (ht:P.underlying T=some (.map K E)) {z:Value} (hz:(zeroValue E).run P w = .ok z w)
  (hm:a.eval m = .map (some b)) (h:SMap P K w b f) {s:ByteArray} (hx:a.eval x = .string s) (hs:s.size≤maxLen) (r:Value) (hr:(f s.data.toList).getD z=r)
  (hQ:wpList P ops Q rest (a.put o.dst r) w):wpList P ops Q (o :: rest) a w:=by
 refine wpList_plain hg fun K' hK'=>?_
 have:=h.look hK ht hz hs;rw[hr] at this;unfold Oper.wp;simp[execOp,hop,hm,hx,this,Result.andThen];exact hK' _ _ hQ
theorem Khi (hg:o.guard=none) (m x v:Operand) (hop:o.op=Op.mapUpdate T m x v) (hK:P.underlying K=some .string) (ht:P.underlying T=some (.map K E))
  (hm:a.eval m = .map (some b)) (h:SMap P K w b f) {s:ByteArray} (hx:a.eval x = .string s) (hs:s.size≤maxLen) (u:Value) (hv:a.eval v=u) (L:List Txt) (hL:∀x,(f x).isSome=true→x∈L) (hn:L.length < maxLen)
  (hQ:∀w1,SMap P K w1 b (upd f s.data.toList (some u))→w.grownBy w1 (some b)→w1.heap.size=w.heap.size→wpList P ops Q rest (a.put o.dst undef) w1):wpList P ops Q (o :: rest) a w:=by
 refine wpList_plain hg fun K' hK'=>?_
 obtain ⟨w1,hrun,h1,h2,h3⟩:=h.put hK ht hs u L hL hn;unfold Oper.wp;simp[execOp,hop,hm,hx,hv,hrun,Result.andThen];exact hK' _ _ (hQ w1 h1 h2 h3)
theorem Kex (hg:o.guard=none) (m x:Operand) (hop:o.op=Op.call { callee:=Callee.builtin Builtin.delete,args:=#[m,x],argTypes:=#[T,K] }) (hK:P.underlying K=some .string) (ht:P.underlying T=some (.map K E))
  (hm:a.eval m = .map (some b)) (h:SMap P K w b f) {s:ByteArray} (hx:a.eval x = .string s) (hs:s.size≤maxLen)
  (hQ:∀w1,SMap P K w1 b (upd f s.data.toList none)→w.grownBy w1 (some b)→w1.heap.size=w.heap.size→wpList P ops Q rest (a.put o.dst (.tuple #[])) w1):wpList P ops Q (o :: rest) a w:=by
 refine wpList_plain hg fun K' hK'=>?_
 obtain ⟨w1,hrun,h1,h2,h3⟩:=h.del hK ht hs o.type;unfold Oper.wp;simp[execOp,hop,resolve,invoke,builtin,hm,hx,hrun,Result.andThen];exact hK' _ _ (hQ w1 h1 h2 h3)
end
end
section
open Go.RowKit
structure Own (R R':Nat→Nat) (w w':World):Prop where
 os:w'.os=w.os
 tape:w'.tape=w.tape
 output:w'.output=w.output
 size:w.heap.size≤w'.heap.size
 block:∀k,k < w.heap.size→R k=0→w'.heap[k]? = w.heap[k]?
 old:∀k,k < w.heap.size→R' k=R k
def InW (R:Nat→Nat) (w:World):Prop:=∀k,R k≠0→k < w.heap.size
def giv (R:Nat→Nat) (g r:Nat):Nat→Nat:=fun k=>if k=g then r else R k
section
variable {R R' R'' : Nat → Nat} {w w' w'' : World}
theorem Own.refl (R:Nat→Nat) (w:World):Own R R w w:=⟨rfl,rfl,rfl,Nat.le_refl _,fun _ _ _=>rfl,fun _ _=>rfl⟩
theorem Own.trans (h:Own R R' w w') (k:Own R' R'' w' w''):Own R R'' w w'':=
 ⟨k.os.trans h.os,k.tape.trans h.tape,k.output.trans h.output,Nat.le_trans h.size k.size,
  fun i hi hr=>(k.block i (Nat.lt_of_lt_of_le hi h.size) ((h.old i hi).trans hr)).trans (h.block i hi hr),
  fun i hi=>(k.old i (Nat.lt_of_lt_of_le hi h.size)).trans (h.old i hi)⟩
theorem Own.of_below (h:Below w.heap.size w w'):Own R R w w':=⟨h.os,h.tape,h.output,h.size,fun k hk _=>h.block k hk,fun _ _=>rfl⟩
theorem Own.of_grown {g:Nat} (h:w.grownBy w' (some g)) (hg:R g≠0):Own R R w w':=
 ⟨h.os,h.tape,h.output,h.size,fun k hk hr=>h.block k hk (fun e=>by injection e with e;exact hg (e▸hr)),fun _ _=>rfl⟩
theorem Own.of_set {g i:Nat} (u:Value) (hg:R g≠0):Own R R w (w.setCell ⟨g,i,none⟩ u):=
 ⟨rfl,rfl,rfl,by simp[World.setCell],fun k _ hr=>Below.heap_setCell _ _ _ _ (by rintro rfl;exact hg hr),fun _ _=>rfl⟩
theorem Own.give {g r:Nat} (h:Own R R w w') (hg:w.heap.size≤g):Own R (giv R g r) w w':=
 ⟨h.os,h.tape,h.output,h.size,h.block,fun k hk=>by unfold giv;rw[if_neg (by omega)]⟩
theorem Kcq (R:Nat→Nat) (g r:Nat):giv R g r g=r:=by simp[giv]
theorem Kba {g r k:Nat} (h:k≠g):giv R g r k=R k:=by simp[giv,h]
theorem InW.new (h:InW R w) {g:Nat} (hg:w.heap.size≤g):R g=0:=by
 apply Classical.byContradiction;intro h0;have:=h g h0;omega
theorem InW.mono (h:InW R w) (hs:w.heap.size≤w'.heap.size):InW R w':=fun k hk=>Nat.lt_of_lt_of_le (h k hk) hs
theorem InW.give (h:InW R w) (hs:w.heap.size≤w'.heap.size) {g r:Nat} (hg:g < w'.heap.size):InW (giv R g r) w':=by
 intro k hk
 by_cases e:k=g
 ·subst e;exact hg
 ·rw[Kba e] at hk;exact Nat.lt_of_lt_of_le (h k hk) hs
end
def RowIs (w:World) (R:Nat→Nat) (r:Nat) (T:TypeId) (sz:Nat) (v:Value) (n:Nat) (xs:List Value):Prop:=w.ownsRow 0 T sz v n xs∧∀g,v.ownBlock=some g→R g=r
theorem ownsRow.same {w w':World} {base:Nat} {T:TypeId} {sz n:Nat} {v:Value} {xs:List Value} (h:w.ownsRow base T sz v n xs) (hb:∀g,v.ownBlock=some g→w'.heap[g]? = w.heap[g]?):w'.ownsRow base T sz v n xs:=by
 refine ⟨h.1,?_⟩;rcases h.2 with h2 | ⟨g,cap,cur,rfl,h3,h4,h5⟩
 ·exact .inl h2
 ·exact .inr ⟨g,cap,cur,rfl,h3,(hb g rfl).trans h4,h5⟩
theorem RowIs.same {w w':World} {R R':Nat→Nat} {r:Nat} {T:TypeId} {sz n:Nat} {v:Value} {xs:List Value} (h:RowIs w R r T sz v n xs) (hb:∀g,v.ownBlock=some g→R g=r→w'.heap[g]? = w.heap[g]?∧R' g=R g):RowIs w' R' r T sz v n xs:=
 ⟨ownsRow.same h.1 fun g hg=>(hb g hg (h.2 g hg)).1,fun g hg=>(hb g hg (h.2 g hg)).2.trans (h.2 g hg)⟩
theorem RowIs.nil {w:World} {R:Nat→Nat} {r:Nat} {T:TypeId} {sz:Nat}:RowIs w R r T sz (.slice none 0 0) 0 []:=⟨World.ownsRow_nil _ _ _ _,fun g hg=>by cases hg⟩
structure Adr where
 p:Nat
 md:Nat
 mf:Nat
 sd:Nat
 sf:Nat
 sv:Value
 φ : List Nat
def dirF (l:List Th) (x:Txt):Option Value:=if l.any (fun y=>y.dir && y.path == x) then some (.int .i64 1) else none
def fptr (φ : List Nat) (i:Nat):Value:=.pointer (some ⟨φ[i]?.getD 0,0,none⟩)
def filF (φ : List Nat) (l:List Th) (x:Txt):Option Value:=(l.find? fun y=>!y.dir && y.path == x).map fun y=>fptr φ y.at_
abbrev MapM (w:World) (R:Nat→Nat) (r:Nat) (b:Nat) (f:Txt→Option Value):Prop:=SMap Tryz.prog 9 w b f∧R b=r
def encC (c:Ch):List Value:=[txtV c.text,.int .i64 (if c.cut then (c.size:Int) else -1)]
def FileM (w:World) (R:Nat→Nat) (i b:Nat) (f:By):Prop:=
 ∃v,Blk w b 137 #[txtV f.now,txtV f.safe,v]∧R b=10+2*i∧RowIs w R (11+2*i) 213 2 v f.steps.length (f.steps.flatMap encC)
def Kob (w:World) (R:Nat→Nat) (φ : List Nat) (fs:List By):Prop:=φ.length=fs.length∧∀(i b:Nat) (f:By),φ[i]? = some b→fs[i]? = some f→FileM w R i b f
def Box (w:World) (R:Nat→Nat) (b:Nat) (T:TypeId) (v:Value):Prop:=Blk w b T #[v]∧R b=5
def StepM (w:World) (R:Nat→Nat) (φ : List Nat):St→Value→Prop
 | .mkdir _,_=>False
 | .create a i,v=>∃b c,v = .func (.func 115) #[] #[.pointer (some ⟨c,0,none⟩),.pointer (some ⟨b,0,none⟩)]∧Box w R b 9 (txtV a)∧Box w R c 132 (fptr φ i)
 | .rename a a',v=>∃b c,v = .func (.func 119) #[] #[.pointer (some ⟨b,0,none⟩),.pointer (some ⟨c,0,none⟩)]∧Box w R b 9 (txtV a)∧Box w R c 9 (txtV a')
 | .remove a,v=>∃b,v = .func (.func 111) #[] #[.pointer (some ⟨b,0,none⟩)]∧Box w R b 9 (txtV a)
def Khl (w:World) (R:Nat→Nat) (v:Value) (φ : List Nat) (l:List St):Prop:=
 ∃fs:List Value,RowIs w R 7 156 1 v l.length fs∧fs.length=l.length∧∀(i:Nat) s f,l[i]? = some s→fs[i]? = some f→StepM w R φ s f
def DBlk (w:World) (A:Adr) (d:Ds):Prop:=Blk w A.p 130 #[.map (some A.md),.map (some A.mf),.map (some A.sd),.map (some A.sf),A.sv,.int .i64 (d.cap:Int),.bool d.off,.int .i64 (d.await:Int)]
structure CD (B0:Nat) (w:World) (R:Nat→Nat) (A:Adr) (d:Ds):Prop where
 blk:DBlk w A d
 rp:R A.p=1
 dirs:MapM w R 2 A.md (dirF d.things)
 files:MapM w R 3 A.mf (filF A.φ d.things)
 sdirs:MapM w R 4 A.sd (dirF d.safe)
 sfiles:MapM w R 6 A.sf (filF A.φ d.safe)
 steps:Khl w R A.sv A.φ d.steps
 bytes:Kob w R A.φ d.files
 inw:InW R w
 low:∀k,k < B0→R k=0
section
variable {w w' : World} {R R' : Nat → Nat} {B0 : Nat} {A : Adr} {d : Ds}
def Same (R R':Nat→Nat) (w w':World):Prop:=∀k,R k≠0→w'.heap[k]? = w.heap[k]?∧R' k=R k
theorem FileM.same {i b:Nat} {f:By} (h:FileM w R i b f) (hs:∀k,R k=10+2*i∨R k=11+2*i→w'.heap[k]? = w.heap[k]?∧R' k=R k):FileM w' R' i b f:=by
 obtain ⟨v,h1,h2,h3⟩:=h;exact ⟨v,((hs b (.inl h2)).1).trans h1,((hs b (.inl h2)).2).trans h2,h3.same fun g _ hr=>hs g (.inr hr)⟩
theorem Box.same {b:Nat} {T:TypeId} {v:Value} (h:Box w R b T v) (hs:∀k,R k=5→w'.heap[k]? = w.heap[k]?∧R' k=R k):Box w' R' b T v:=⟨((hs b h.2).1).trans h.1,((hs b h.2).2).trans h.2⟩
theorem StepM.same {φ : List Nat} {s:St} {v:Value} (h:StepM w R φ s v) (hs:∀k,R k=5→w'.heap[k]? = w.heap[k]?∧R' k=R k):StepM w' R' φ s v:=by
 cases s with
 | mkdir a=>exact (show False from h).elim
 | create a i=>obtain ⟨b,c,h1,h2,h3⟩:=h;exact ⟨b,c,h1,h2.same hs,h3.same hs⟩
 | rename a a'=>obtain ⟨b,c,h1,h2,h3⟩:=h;exact ⟨b,c,h1,h2.same hs,h3.same hs⟩
 | remove a=>obtain ⟨b,h1,h2⟩:=h;exact ⟨b,h1,h2.same hs⟩
theorem Khl.same {v:Value} {φ : List Nat} {l:List St} (h:Khl w R v φ l) (hs:∀k,R k=5∨R k=7→w'.heap[k]? = w.heap[k]?∧R' k=R k):Khl w' R' v φ l:=by
 obtain ⟨fs,h1,h2,h3⟩:=h;exact ⟨fs,h1.same fun g _ hr=>hs g (.inr hr),h2,fun i s f hs' hf=>(h3 i s f hs' hf).same fun k hk=>hs k (.inl hk)⟩
theorem MapM.same {r b:Nat} {f:Txt→Option Value} (h:MapM w R r b f) (hs:∀k,R k=r→w'.heap[k]? = w.heap[k]?∧R' k=R k):MapM w' R' r b f:=⟨h.1.same (hs b h.2).1,((hs b h.2).2).trans h.2⟩
theorem Kob.same {φ : List Nat} {fs:List By} (h:Kob w R φ fs) (hs:∀k,10≤R k→w'.heap[k]? = w.heap[k]?∧R' k=R k):Kob w' R' φ fs:=
 ⟨h.1,fun i b f hb hf=>(h.2 i b f hb hf).same fun k hk=>hs k (by omega)⟩
theorem CD.same (h:CD B0 w R A d) (hs:Same R R' w w') (hw:InW R' w') (hl:∀k,k < B0→R' k=0):CD B0 w' R' A d where
 blk:=((hs A.p (by rw[h.rp];omega)).1).trans h.blk
 rp:=((hs A.p (by rw[h.rp];omega)).2).trans h.rp
 dirs:=h.dirs.same fun k hk=>hs k (by omega)
 files:=h.files.same fun k hk=>hs k (by omega)
 sdirs:=h.sdirs.same fun k hk=>hs k (by omega)
 sfiles:=h.sfiles.same fun k hk=>hs k (by omega)
 steps:=h.steps.same fun k hk=>hs k (by omega)
 bytes:=h.bytes.same fun k hk=>hs k (by omega)
 inw:=hw
 low:=hl
theorem CD.below (h:CD B0 w R A d) (hb:Below w.heap.size w w'):CD B0 w' R A d:=
 h.same (fun k hk=>⟨hb.block k (h.inw k hk),rfl⟩) (h.inw.mono hb.size) h.low
end
def failG:Nat→Nat
 | 1=>6 | 2=>5 | 3=>3 | 4=>2 | 5=>4 | 6=>1 | _=>0
def failV (a:Nat→Addr) (k:Nat):Value:=.iface 360 (.pointer (some (a k)))
def Fails (B0:Nat) (a:Nat→Addr) (w:World):Prop:=∀k,k≠6→failG k < B0∧w.cell? ⟨failG k,0,none⟩=some (failV a k)
theorem Fails.below {B0:Nat} {a:Nat→Addr} {w w':World} (h:Fails B0 a w) (hb:Below B0 w w'):Fails B0 a w':=fun k hk=>⟨(h k hk).1,(hb.cell (p:=⟨failG k,0,none⟩) (h k hk).1).trans (h k hk).2⟩
def ErrV (a:Nat→Addr) (w:World) (op path:ByteArray):Nat→Value→Prop
 | 0,v=>v = .nilIface
 | k+1,v=>∃q,v = .iface 56 (.pointer (some ⟨q,0,none⟩))∧Blk w q 59 #[.string op,.string path,failV a (k+1)]
section
variable {w w' : World} {R R' : Nat → Nat} {B0 : Nat} {A : Adr} {d d' : Ds}
theorem CD.blk_only (h:CD B0 w R A d) (hw:∀k,k < w.heap.size→k≠A.p→w'.heap[k]? = w.heap[k]?) (hs:w.heap.size≤w'.heap.size) (hb:DBlk w' A d') (h1:d'.things=d.things) (h2:d'.safe=d.safe) (h3:d'.steps=d.steps) (h4:d'.files=d.files):CD B0 w' R A d':=by
 have key:∀k,R k≠0→R k≠1→w'.heap[k]? = w.heap[k]?∧R k=R k:=fun k hk h1=>⟨hw k (h.inw k hk) (fun e=>h1 (by rw[e];exact h.rp)),rfl⟩
 exact {
  blk:=hb
  rp:=h.rp
  dirs:=by rw[h1];exact h.dirs.same fun k hk=>key k (by omega) (by omega)
  files:=by rw[h1];exact h.files.same fun k hk=>key k (by omega) (by omega)
  sdirs:=by rw[h2];exact h.sdirs.same fun k hk=>key k (by omega) (by omega)
  sfiles:=by rw[h2];exact h.sfiles.same fun k hk=>key k (by omega) (by omega)
  steps:=by rw[h3];exact h.steps.same fun k hk=>key k (by omega) (by omega)
  bytes:=by rw[h4];exact h.bytes.same fun k hk=>key k (by omega) (by omega)
  inw:=h.inw.mono hs
  low:=h.low }
theorem CD.file_only (h:CD B0 w R A d) {i:Nat} {f:By} (hi:i < d.files.length) (hs:∀k,R k≠0→R k≠10+2*i→R k≠11+2*i→w'.heap[k]? = w.heap[k]?∧R' k=R k) (hw:InW R' w') (hl:∀k,k < B0→R' k=0) (hf:FileM w' R' i (A.φ[i]?.getD 0) f):CD B0 w' R' A (setF d i f) where
 blk:=((hs A.p (by rw[h.rp];omega) (by rw[h.rp];omega) (by rw[h.rp];omega)).1).trans h.blk
 rp:=((hs A.p (by rw[h.rp];omega) (by rw[h.rp];omega) (by rw[h.rp];omega)).2).trans h.rp
 dirs:=h.dirs.same fun k hk=>hs k (by omega) (by omega) (by omega)
 files:=h.files.same fun k hk=>hs k (by omega) (by omega) (by omega)
 sdirs:=h.sdirs.same fun k hk=>hs k (by omega) (by omega) (by omega)
 sfiles:=h.sfiles.same fun k hk=>hs k (by omega) (by omega) (by omega)
 steps:=h.steps.same fun k hk=>hs k (by omega) (by omega) (by omega)
 bytes:=by
  refine ⟨by simp[setF,h.bytes.1],fun j b g hb hg=>?_⟩;simp only[setF] at hg
  by_cases e:j=i
  ·subst e
   have hg':f=g:=by
    rw[List.getElem?_set_self (by simpa using hi)] at hg;injection hg
   rw[←hg'];rw[hb] at hf;exact hf
  ·rw[List.getElem?_set_ne (Ne.symm e)] at hg;exact (h.bytes.2 j b g hb hg).same fun k hk=>hs k (by omega) (by omega) (by omega)
 inw:=hw
 low:=hl
end
end
section
structure TW (n:Nat) (l:List Th):Prop where
 nodup:(l.map Th.path).Nodup
 dirs:∀x∈l,x.dir=true→nameB x.path=true
 paths:∀x∈l,pathB x.path=true
 par:∀x∈l,∀k,Kaj x.path=some k→∃y∈l,y.dir=true∧y.path=x.path.take k
 ats:∀x∈l,x.dir=false→x.at_ < n
 inj:∀x∈l,∀y∈l,x.dir=false→y.dir=false→x.at_=y.at_→x=y
def StOk (n:Nat) (l:List Th):St→Prop
 | .mkdir a=>nameB a=true∧isT l a=0
 | .create a i=>pathB a=true∧Kcx l a=true∧isT l a=0∧i < n∧∀x∈l,x.dir=false→x.at_≠i
 | .remove a=>pathB a=true∧isT l a≠0
 | .rename a b=>pathB a=true∧pathB b=true∧isT l a≠0∧Kcx l b=true∧isT l b≠2∧(isT l a=2→nameB b=true∧isT l b=0)∧a≠b
theorem Kbt {s:Txt} (h:nameB s=true):Kaj s=none:=by
 simp only[nameB,Bool.and_eq_true] at h;have h1:=h.1.1;clear h
 induction s with
 | nil=>rfl
 | cons b l ih=>
  simp only[List.all_cons,Bool.and_eq_true] at h1;rw[Kaj,if_neg,ih h1.2]
  ·rfl
  ·rintro rfl;have:=h1.1;simp[nameC] at this
theorem Kpn {s:Txt} (h:Kaj s=none):(47:UInt8)∉s:=by
 induction s with
 | nil=>simp
 | cons b l ih=>
  rw[Kaj] at h
  split at h
  ·cases h
  ·rename_i hb
   have:Kaj l=none:=by cases hl:Kaj l <;> simp_all
   simp only[List.mem_cons,not_or];exact ⟨fun e=>hb e.symm,ih this⟩
theorem Kax {p d:Txt}:Kby p d=true↔∃x,p=d ++ [47]++x:=by
 unfold Kby;rw[List.isPrefixOf_iff_prefix];constructor
 ·rintro ⟨x,h⟩;exact ⟨x,h.symm⟩
 ·rintro ⟨x,h⟩;exact ⟨x,h.symm⟩
theorem Kbu {p d:Txt} (h:nameB p=true):Kby p d=false:=by
 cases hi:Kby p d with
 | false=>rfl
 | true=>
  obtain ⟨x,rfl⟩:=Kax.1 hi;exact absurd (Kpn (Kbt h)) (by simp)
theorem Kcp:∀{d:Txt} (x:Txt),Kaj d=none→Kaj (d ++ [47]++x)=some d.length
 | [],x,_=>by simp[Kaj]
 | b :: d,x,h=>by
  rw[Kaj] at h
  split at h
  ·cases h
  ·rename_i hb
   have hd:Kaj d=none:=by cases hl:Kaj d <;> simp_all
   have:=Kcp x hd;simp only[List.cons_append] at this ⊢;rw[Kaj,if_neg hb,this];simp
theorem Kin:∀{l:Txt} {k:Nat},Kaj l=some k→k < l.length
 | b :: l,k,h=>by
  rw[Kaj] at h
  split at h
  ·injection h with h;subst h;simp
  ·cases hs:Kaj l with
   | none=>rw[hs] at h;cases h
   | some j=>
    rw[hs] at h;injection h with h;have:=Kin hs;simp at h ⊢;omega
theorem Kjn {l:List Th} {a:Txt}:isT l a=0↔∀x∈l,x.path≠a:=by
 unfold isT findT
 cases h:l.find? fun x=>x.path == a with
 | none=>
  simp only[List.find?_eq_none] at h;simp only[true_iff];intro x hx e;exact h x hx (by simpa using e)
 | some y=>
  have h1:=List.find?_some h;have h2:=List.mem_of_find?_eq_some h;simp only;constructor
  ·intro e
   split at e <;> omega
  ·intro e;exact absurd (by simpa using h1) (e y h2)
theorem Khv {l:List Th} (h:(l.map Th.path).Nodup) {x y:Th} (hx:x∈l) (hy:y∈l) (e:x.path=y.path):x=y:=by
 induction l with
 | nil=>cases hx
 | cons z l ih=>
  simp only[List.map_cons,List.nodup_cons] at h;rcases List.mem_cons.1 hx with rfl | hx' <;> rcases List.mem_cons.1 hy with rfl | hy'
  ·rfl
  ·exact absurd (List.mem_map_of_mem (f:=Th.path) hy') (by rw[←e];exact h.1)
  ·exact absurd (List.mem_map_of_mem (f:=Th.path) hx') (by rw[e];exact h.1)
  ·exact ih h.2 hx' hy'
theorem Kef {l:List Th} (h:(l.map Th.path).Nodup) {x:Th} (hx:x∈l):isT l x.path=if x.dir then 2 else 1:=by
 unfold isT findT
 cases hf:l.find? fun y=>y.path == x.path with
 | none=>
  simp only[List.find?_eq_none] at hf;exact absurd (by simp) (hf x hx)
 | some y=>
  have h1:=List.find?_some hf;have h2:=List.mem_of_find?_eq_some hf;obtain rfl:=Khv h h2 hx (by simpa using h1);rfl
theorem Kgi {l:List Th} {a:Txt} (h:isT l a≠0):∃x∈l,x.path=a∧isT l a=if x.dir then 2 else 1:=by
 unfold isT findT at h ⊢
 cases hf:l.find? fun y=>y.path == a with
 | none=>rw[hf] at h;exact absurd rfl h
 | some y=>
  have h1:=List.find?_some hf;exact ⟨y,List.mem_of_find?_eq_some hf,by simpa using h1,rfl⟩
theorem Kdo {l:List Th} {x:Txt}:(dirF l x).isSome=true↔∃y∈l,y.dir=true∧y.path=x:=by
 unfold dirF
 split
 ·rename_i h
  rw[List.any_eq_true] at h;obtain ⟨y,hy,h⟩:=h;simp only[Bool.and_eq_true,beq_iff_eq] at h;simp only[Option.isSome_some,true_iff];exact ⟨y,hy,h.1,h.2⟩
 ·rename_i h
  simp only[Option.isSome_none,Bool.false_eq_true,false_iff];rintro ⟨y,hy,h1,h2⟩;apply h;rw[List.any_eq_true];exact ⟨y,hy,by simp[h1,h2]⟩
theorem Kfy {l:List Th} {x:Txt} {v:Value} (h:dirF l x=some v):v = .int .i64 1:=by
 unfold dirF at h
 split at h
 ·injection h with h;exact h.symm
 ·cases h
theorem Kqh {l l':List Th} {x x':Txt} (h:(∃y∈l,y.dir=true∧y.path=x)↔∃y∈l',y.dir=true∧y.path=x'):dirF l x=dirF l' x':=by
 cases h1:dirF l x with
 | none=>
  cases h2:dirF l' x' with
  | none=>rfl
  | some v=>
   have:=h.2 (Kdo.1 (by rw[h2];rfl));have:=Kdo.2 this;rw[h1] at this;cases this
 | some v=>
  have:=Kdo.2 (h.1 (Kdo.1 (by rw[h1];rfl)))
  cases h2:dirF l' x' with
  | none=>rw[h2] at this;cases this
  | some v'=>rw[Kfy h1,Kfy h2]
theorem Kch {φ : List Nat} {l:List Th} (h:(l.map Th.path).Nodup) {x:Txt} {v:Value}:filF φ l x=some v↔∃y∈l,y.dir=false∧y.path=x∧v=fptr φ y.at_:=by
 unfold filF;constructor
 ·intro e
  cases hf:l.find? fun y=>!y.dir && y.path == x with
  | none=>rw[hf] at e;cases e
  | some y=>
   rw[hf] at e;have h1:=List.find?_some hf;simp only[Bool.and_eq_true,Bool.not_eq_true',beq_iff_eq] at h1;injection e with e;exact ⟨y,List.mem_of_find?_eq_some hf,h1.1,h1.2,e.symm⟩
 ·rintro ⟨y,hy,h1,h2,rfl⟩
  cases hf:l.find? fun y=>!y.dir && y.path == x with
  | none=>
   simp only[List.find?_eq_none] at hf;exact absurd (by simp[h1,h2]) (hf y hy)
  | some z=>
   have h3:=List.find?_some hf;simp only[Bool.and_eq_true,Bool.not_eq_true',beq_iff_eq] at h3;obtain rfl:=Khv h (List.mem_of_find?_eq_some hf) hy (h3.2.trans h2.symm);rfl
theorem Kqm {α : Type} {a b:Option α} (h:∀v,a=some v↔b=some v):a=b:=by
 cases a with
 | none=>
  cases b with
  | none=>rfl
  | some v=>have:=(h v).2 rfl;cases this
 | some v=>exact ((h v).1 rfl).symm
variable {n : Nat} {l : List Th} {φ : List Nat} {a b : Txt} {i : Nat}
theorem Kya:dirF (Kak l (.create a i))=dirF l:=by
 funext x;simp[dirF,Kak]
theorem Kyd (h:isT l a=0):filF φ (Kak l (.create a i))=upd (filF φ l) a (some (fptr φ i)):=by
 funext x;have h0:=Kjn.1 h;unfold upd filF;simp only[Kak,List.find?_append]
 split
 ·rename_i e
  subst e
  have:(l.find? fun y=>!y.dir && y.path == x)=none:=by
   rw[List.find?_eq_none];intro y hy;have:=h0 y hy;simp[this]
  rw[this];simp
 ·rename_i e
  cases l.find? fun y=>!y.dir && y.path == x with
  | some y=>rfl
  | none=>
   have:a≠x:=fun h=>e h.symm
   simp[this]
theorem Khu {p:Th→Bool} (h:(l.map Th.path).Nodup):((l.filter p).map Th.path).Nodup:=(List.Sublist.map _ List.filter_sublist).nodup h
theorem Kyb (hw:TW n l):dirF (Kak l (.remove a))=upd (dirF l) a none:=by
 funext x;unfold upd
 split
 ·rename_i e
  subst e
  cases h:dirF (Kak l (.remove x)) x with
  | none=>rfl
  | some v=>
   obtain ⟨y,hy,_,h2⟩:=Kdo.1 (show (dirF (Kak l (.remove x)) x).isSome=true by rw[h];rfl);simp only[Kak,List.mem_filter] at hy;simp[h2] at hy
 ·rename_i e
  refine Kqh ?_;simp only[Kak,List.mem_filter];constructor
  ·rintro ⟨y,⟨hy,_⟩,h⟩;exact ⟨y,hy,h⟩
  ·rintro ⟨y,hy,h1,h2⟩;refine ⟨y,⟨hy,?_⟩,h1,h2⟩;rw[Kbu (hw.dirs y hy h1)];simp[h2,e]
theorem Kye (hw:TW n l) (x:Txt):filF φ (Kak l (.remove a)) x=if x=a∨Kby x a=true then none else filF φ l x:=by
 apply Kqm;intro v;have hnd:((Kak l (.remove a)).map Th.path).Nodup:=Khu hw.nodup;rw[Kch hnd];simp only[Kak,List.mem_filter]
 split
 ·rename_i hx
  simp only[reduceCtorEq,iff_false];rintro ⟨y,⟨_,hp⟩,_,rfl,_⟩;rcases hx with hx | hx <;> simp[hx] at hp
 ·rename_i hx
  rw[Kch hw.nodup];constructor
  ·rintro ⟨y,⟨hy,_⟩,h⟩;exact ⟨y,hy,h⟩
  ·rintro ⟨y,hy,h1,rfl,h3⟩;refine ⟨y,⟨hy,?_⟩,h1,rfl,h3⟩;simp only[not_or,Bool.not_eq_true] at hx;simp[hx.1,hx.2]
def mv (a b:Txt) (x:Th):Th:=if x.path == a then { x with path:=b } else if Kby x.path a then { x with path:=b++x.path.drop a.length } else x
theorem Kkh:Kak l (.rename a b)=(l.filter fun x=>!(x.path == b)).map (mv a b):=rfl
theorem Kcc (x:Th):(mv a b x).dir=x.dir∧(mv a b x).at_=x.at_:=by unfold mv;split;exact ⟨rfl,rfl⟩;split <;> exact ⟨rfl,rfl⟩
theorem Klm:∀{s:Txt} {k:Nat} (r:Txt),Kaj s=some k→Kaj (s++r)=some k
 | b :: s,k,r,h=>by
  rw[Kaj] at h;rw[List.cons_append,Kaj]
  split
  ·rename_i hb;rw[if_pos hb] at h;exact h
  ·rename_i hb
   rw[if_neg hb] at h
   cases hs:Kaj s with
   | none=>rw[hs] at h;cases h
   | some j=>rw[hs] at h;rw[Klm r hs];exact h
theorem Kma (hw:TW n l) (ha:isT l a≠2) (hp:pathB a=true) {x:Th} (hx:x∈l):Kby x.path a=false:=by
 cases hi:Kby x.path a with
 | false=>rfl
 | true=>
  obtain ⟨r,hr⟩:=Kax.1 hi
  cases hsl:Kaj a with
  | none=>
   have hs:=Kcp r hsl;rw[←hr] at hs;obtain ⟨y,hy,h1,h2⟩:=hw.par x hx _ hs;rw[hr] at h2;have e:y.path=a:=by rw[h2];simp
   have:=Kef hw.nodup hy;rw[e,h1] at this;exact absurd this ha
  | some k=>
   have hs:=Klm ([47]++r) hsl;rw[←List.append_assoc,←hr] at hs;have h1:=hw.paths x hx;unfold pathB at h1;rw[hs] at h1;simp only[Bool.and_eq_true] at h1;have h2:=Kpn (Kbt h1.2);have hk:=Kin hsl;exfalso;apply h2;rw[hr,List.append_assoc,List.drop_append_of_le_length (by omega)];simp
theorem Khy:∀{s:Txt} {k:Nat},Kaj s=some k→Kaj (s.take k)=none∧s=s.take k ++ [47]++s.drop (k+1)
 | b :: s,k,h=>by
  rw[Kaj] at h
  split at h
  ·rename_i hb
   injection h with h;subst h;subst hb;simp[Kaj]
  ·rename_i hb
   cases hs:Kaj s with
   | none=>rw[hs] at h;cases h
   | some j=>
    rw[hs] at h;injection h with h;have h':j+1=k:=h;subst h';obtain ⟨h1,h2⟩:=Khy hs;constructor
    ·rw[List.take_succ_cons,Kaj,if_neg hb,h1];rfl
    ·rw[List.take_succ_cons,List.drop_succ_cons]
     conv=>lhs;rw[h2]
     simp
theorem Kfg {x:Th} (h1:x.path≠a) (h2:Kby x.path a=false):mv a b x=x:=by simp[mv,h1,h2]
theorem Kly {x:Th} (h1:x.path=a):(mv a b x).path=b:=by simp[mv,h1]
theorem mv_in {x:Th} {r:Txt} (h:x.path=a ++ [47]++r):(mv a b x).path=b ++ [47]++r:=by
 have h1:x.path≠a:=by
  rw[h];intro e;have:=congrArg List.length e;simp at this
 have h2:Kby x.path a=true:=Kax.2 ⟨r,h⟩;unfold mv;rw[if_neg (by simpa using h1),if_pos h2];simp[h]
theorem Kct (x:Th):(x.path=a∧(mv a b x).path=b)∨(∃r,x.path=a ++ [47]++r∧(mv a b x).path=b ++ [47]++r)∨(x.path≠a∧Kby x.path a=false∧mv a b x=x):=by
 by_cases h1:x.path=a
 ·exact .inl ⟨h1,Kly h1⟩
 ·cases h2:Kby x.path a with
  | false=>exact .inr (.inr ⟨h1,rfl,Kfg h1 h2⟩)
  | true=>
   obtain ⟨r,hr⟩:=Kax.1 h2;exact .inr (.inl ⟨r,hr,mv_in hr⟩)
end
end Go.Proofs.YtefpndiiedkmpaaGreatDoor
