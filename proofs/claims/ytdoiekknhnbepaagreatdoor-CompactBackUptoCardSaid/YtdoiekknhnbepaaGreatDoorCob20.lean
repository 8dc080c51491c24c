/- Merged (what the claim wants of): CRef, CLawB, BlkD, CProofBF, CProofB. -/
import Derived.Test.YtdoiekknhnbepaaGreatDoorCob17
import Derived.Test.YtdoiekknhnbepaaGreatDoorCob19
import Derived.Test.YtdoiekknhnbepaaGreatDoorCob18
import Derived.Test.YtdoiekknhnbepaaGreatDoorCards
import Derived.Test.YtdoiekknhnbepaaGreatDoorTie
import Derived.WalkKit
import Derived.Deep.DeepHandedRow
import Derived.Deep.DeepWitnessRowRef
import Derived.Lib.LaidTab
import Derived.Stop.LaidTwo
import Derived.Test.YtdoiekknhnbepaaGreatDoorRows
import Derived.ProofKit
set_option linter.unusedVariables false
set_option linter.unusedSimpArgs false
set_option maxRecDepth 100000
set_option maxHeartbeats 8000000
namespace Go.Proofs.YtdoiekknhnbepaaGreatDoor
section
open Go.RowKit
open Lib renaming hid → Jh
attribute [local go_sem ↓] Go.wp_at_zero Go.wp_at_succ
attribute [local go_sem] Later.cell
theorem Kos (l:List Lb) (A:Option Addr) (n c:Nat) (w:World) (hE:Elems w w.heap.size 2 encLb A n l) (hnm:n*32≤140737488351232) :
  Calls Tryz.prog 37 #[.slice A n c] w fun e w'=>∃A c,e = .returned (.slice A l.length c)∧w'.ownsRow w.heap.size 180 2 (.slice A l.length c) l.length (l.flatMap encLb)∧Below w.heap.size w w':=by
 obtain ⟨i0,hi0,hz0,hz1,hz2⟩:=info_parts Qah;have hl:=hE.len;have HL:=Jh hl;clear hl;go_enter Tryz.func37,Tryz.ntmps37
 go_wp2_with fail
 go_loopg [3,8] n (fun g s3 s8 wr=>∃(i:Nat) (v3:Value),v3=s3∧i+g=n∧s8 = .int .i64 (i:Int)∧RLabs w.heap.size wr v3 (l.take i)∧Below w.heap.size w wr)
 case atStart=>exact ⟨0,_,rfl,by omega,rfl,World.ownsRow_nil _ _ _ _,Below.refl _ _⟩
 case round=>
  obtain ⟨i,v3,rfl,hig,rfl,hown,hB⟩:=hrel;have HIG:=Jh hig;clear hig
  by_cases hi:i < n
  ·have hil:i < l.length:=by have:=HL.out;omega
   have el:decide ((i:Int) < (n:Int))=true:=by simp;omega
   have el':decide (i < n)=true:=by simp;omega
   obtain ⟨b,off,rfl,_,_⟩:=hE.2 (by omega);obtain ⟨hbl,c0,c1⟩:=Kbu hE (by omega) hB i hil;obtain ⟨x,hx⟩:∃x,l[i]! = x:=⟨_,rfl⟩;rw[hx] at c0 c1;obtain ⟨N,hN⟩:∃N:ByteArray,(⟨x.n.toArray⟩:ByteArray)=N:=⟨_,rfl⟩;obtain ⟨V,hV⟩:∃N:ByteArray,(⟨x.v.toArray⟩:ByteArray)=N:=⟨_,rfl⟩;rw[hN] at c0;rw[hV] at c1;have hbr:b < wr.heap.size:=by have:=hB.size;omega
   have htk:l.take (i+1)=l.take i ++ [x]:=by rw[List.take_succ_eq_append_getElem hil,←hx,getElem!_pos l i hil]
   have htl:(l.take i).length=i:=by rw[List.length_take];omega
   obtain ⟨ys,hys⟩:∃ys,l.take i=ys:=⟨_,rfl⟩;rw[hys] at htl hown htk;have hownY:wr.ownsRow w.heap.size 180 2 v3 i (ys.flatMap encLb):=by have:=hown;unfold RLabs at this;rw[htl] at this;exact this
   have HTK:=Jh htk;have HTL:=Jh htl;have HN:=Jh hN;have HV:=Jh hV;clear hx hN hV htk htl hys hown;go_upto_region 5 with fail
   have hB1:Below w.heap.size w (wr.alloc (.cells #[.string N,.string V] 99)):=hB.alloc hB.size _;have hq:Blk (wr.alloc (.cells #[.string N,.string V] 99)) wr.heap.size 99 #[.string N,.string V]:=Blk.new _ _ _;have hown1:=hownY.alloc (.cells #[.string N,.string V] 99);obtain ⟨w1,hw1⟩:∃w1,wr.alloc (.cells #[.string N,.string V] 99)=w1:=⟨_,rfl⟩;obtain ⟨p,hp⟩:∃p,wr.heap.size=p:=⟨_,rfl⟩;rw[hw1] at hB1 hq hown1 ⊢;rw[hp] at hq ⊢;clear hw1 hp c0 c1 hB hownY hbr;have q0:_=some (Value.string N):=hq.cell 0;have q1:_=some (Value.string V):=hq.cell 1;go_wp2_with (at_builtin;refine wpList_append_own_at _ rfl _ _ 89 rfl w.heap.size 180 i0 (.agg #[.string ⟨#[]⟩,.string ⟨#[]⟩]) 2 32 Tryz.underlying89 hi0 hz0 hz1 hz2 rfl (by decide) _ _ _ rfl (hown1.alloc _) ⟨w1.heap.size,0,none⟩ 1 1 [.string N,.string V] rfl rfl ?p1 ?p2 ?p3 ?p4 ?p5 ?_)
   case p1=>exact Kav (l:=[.string N,.string V]) (Blk.new w1 _ _)
   case p2=>intro u hu;simp at hu;rcases hu with rfl | rfl <;> rfl
   case p3=>unfold maxLen;omega
   case p4=>omega
   case p5=>have:=hB1.size;simp;omega
   intro v' w2 hown' hgrow hx9 hat;have hB2:Below w.heap.size w w2:=Qaz hB1 hB1.size hown1 hgrow
   have hown2:RLabs w.heap.size w2 v' (l.take (i+1)):=by
    have e1:(ys ++ [x]).flatMap encLb=ys.flatMap encLb ++ [.string N,.string V]:=by rw[List.flatMap_append];simp[encLb,HN.out,HV.out]
    unfold RLabs;rw[HTK.out,e1,List.length_append,HTL.out];exact hown'
   clear hown' hgrow hx9 hat hown1 q0 q1 hq;go_wp2_with fail
   go_roundg (gk - 1)
   case measure=>have:=HIG.out;omega
   case rel=>exact ⟨i+1,_,rfl,by have:=HIG.out;omega,by go_num,hown2,hB2⟩
  ·have el:decide ((i:Int) < (n:Int))=false:=by simp;omega
   have el':decide (i < n)=false:=by simp;omega
   have htk:l.take i=l:=List.take_of_length_le (by have:=HL.out;omega);rw[htk] at hown;unfold RLabs at hown;obtain ⟨A',c',rfl⟩:=Kan hown;have HOWN:=Jh hown;clear htk hown;go_wp2_with fail
   go_ret
   exact ⟨A',c',rfl,HOWN.out,hB⟩
theorem Klb (L:List Ser) (A:Option Addr) (n c:Nat) (w:World) (hS:Sers w A n L) (hn:n≤1073741824) (hz:∀s∈L,s.samples.length≤1099511627776∧s.windows.length≤1099511627776∧s.labels.length≤1099511627776) :
  Calls Tryz.prog 22 #[.slice A n c] w fun e w'=>∃(A':Option Addr) (c':Nat) (hs:List Hd3),e = .returned (.slice A' n c')∧hs.length=n∧w'.ownsRow w.heap.size 132 3 (.slice A' n c') n (hs.flatMap encH3)∧(∀(i:Nat) (h:Hd3),hs[i]? = some h→RSer w.heap.size w' h L[i]!)∧Below w.heap.size w w':=by
 obtain ⟨ib,hib,hz0,hz1,hz2⟩:=info_parts Qai;obtain ⟨is,his,hs0,hs1,hs2⟩:=info_parts Qaj;obtain ⟨iw,hiw,hw0,hw1,hw2⟩:=info_parts Qak;have hlen:=hS.len;have HS:=Jh hS;have HZ:=Jh hz;have HLEN:=Jh hlen;obtain ⟨q0,hq0⟩:∃q0,w.heap.size=q0:=⟨_,rfl⟩;have HQ0:=Jh hq0;rw[hq0];clear hS hz hlen hq0;go_enter Tryz.func22,Tryz.ntmps22
 go_wp2_with fail
 go_loopg [3,13] n (fun g s3 s13 wr=>∃(i:Nat) (hs:List Hd3) (v3:Value),v3=s3∧i+g=n∧s13 = .int .i64 (i:Int)∧hs.length=i∧wr.ownsRow q0 132 3 v3 i (hs.flatMap encH3)∧(∀(j:Nat) (h:Hd3),hs[j]? = some h→RSer q0 wr h L[j]!)∧Below q0 w wr)
 case atStart=>exact ⟨0,[],_,rfl,by omega,rfl,rfl,World.ownsRow_nil _ _ _ _,fun j h hj=>by simp at hj,Below.refl _ _⟩
 case round=>
  obtain ⟨i,hs,v3,rfl,hig,rfl,hhl,hrow,hser,hB⟩:=hrel;have HIG:=Jh hig;have HHL:=Jh hhl;have HROW:=Jh hrow;have HSER:=Jh hser;have HB:=Jh hB;clear hig hhl hrow hser hB
  by_cases hi:i < n
  ·have el:decide (i < n)=true:=by rw[decide_eq_true_eq];omega
   obtain ⟨wo,rfl⟩:∃x,x=wr:=⟨_,rfl⟩;have hBw:Below w.heap.size w wo:=by rw[HQ0.out];exact HB.out
   obtain ⟨b,off,x,rfl,hbl,c0,c1,c2,hsa⟩:=(HS.out.below hBw).at_ hi;obtain ⟨⟨LA,ln,lc⟩,⟨SA,sn,sc⟩,⟨WA,wn,wc9⟩⟩:=x;have hil:i < L.length:=by have:=HLEN.out;omega
   have hzi:=HZ.out L[i]! (by rw[getElem!_pos _ i hil];exact List.getElem_mem hil);obtain ⟨sr,hsr⟩:∃sr,L[i]! = sr:=⟨_,rfl⟩;rw[hsr] at hsa hzi;have HSR:=Jh hsr;have HSA:=Jh hsa;have HZI:=Jh hzi;clear hsr hsa hzi hBw;go_upto_region 5 with fail
   have hb1:Below wo.heap.size wo (wo.alloc (.cells #[.slice LA ln lc,.slice SA sn sc,.slice WA wn wc9] 58)):=(Below.refl _ _).alloc (Nat.le_refl _) _;have hp5:Blk (wo.alloc (.cells #[.slice LA ln lc,.slice SA sn sc,.slice WA wn wc9] 58)) wo.heap.size 58 #[.slice LA ln lc,.slice SA sn sc,.slice WA wn wc9]:=Blk.new _ _ _;obtain ⟨w1,hw1⟩:∃w1,wo.alloc (.cells #[.slice LA ln lc,.slice SA sn sc,.slice WA wn wc9] 58)=w1:=⟨_,rfl⟩;obtain ⟨p5,hp5e⟩:∃p5,wo.heap.size=p5:=⟨_,rfl⟩;rw[hw1] at hb1 hp5 ⊢;have hsa1:=HSA.out.below hb1;have hrow1:=Kcp HROW.out hb1;have hser1:∀(j:Nat) (h:Hd3),hs[j]? = some h→RSer q0 w1 h L[j]!:=fun j h hj=>(HSER.out j h hj).below hb1
   have hB1:Below q0 w w1:=HB.out.trans (hb1.mono (by have:=HB.out.size;have:=HQ0.out;omega));rw[hp5e] at hp5 ⊢;obtain ⟨q,hq⟩:∃q,w1.heap.size=q:=⟨_,rfl⟩;have hp5q:p5 < q:=by rw[←hq];exact hp5.lt
   have hq0q:q0≤q:=by have:=hB1.size;have:=HQ0.out;omega
   have k0:w1.cell? ⟨p5,0,none⟩=some (.slice LA ln lc):=hp5.cell 0;have HP5:=Jh hp5;have HROW1:=Jh hrow1;have HSER1:=Jh hser1;have HB1:=Jh hB1;have HQ1:=Jh hq;have hlab:=Kos sr.labels LA ln lc w1 hsa1.l (by have h1:sr.labels.length=ln:=hsa1.l.len;have:=HZI.out;omega);have hll:sr.labels.length=ln:=hsa1.l.len;rw[hll,hq] at hlab;have HLAB:=Jh hlab;have HSE:=Jh hsa1.s;have HWE:=Jh hsa1.w;have HLL:=Jh hll;have hsnz:sn≤1099511627776:=by have h1:sr.samples.length=sn:=hsa1.s.len;have:=HZI.out;omega
   have hwnz:wn≤1099511627776:=by have h1:sr.windows.length=wn:=hsa1.w.len;have:=HZI.out;omega
   clear hw1 hp5e hb1 hp5 hsa1 hrow1 hser1 hB1 c0 c1 c2 hq hlab hll;go_wp2_with fail
   refine HLAB.out.mono ?_;rintro _ w2 ⟨A0,cc0,rfl,hr0,hb2⟩;have HR0:=Jh hr0;have HB2:=Jh hb2;clear hr0 hb2 k0;go_upto_region 6 with fail
   have hq2:q≤w2.heap.size:=by have:=HB2.out.size;have:=HQ1.out;omega
   have hst0:SrfAt q w1 w2.heap.size ⟨A0,ln,cc0⟩ sr.labels (.slice none 0 0) (.slice none 0 0) [] [] (w2.alloc (.cells #[.slice A0 ln cc0,.slice none 0 0,.slice none 0 0] 132)):=
    ⟨Blk.new _ _ _,by have h1:=HR0.out;rw[←HLL.out] at h1;rw[←HLL.out];exact h1.alloc _,World.ownsRow_nil _ _ _ _,World.ownsRow_nil _ _ _ _,by exact HB2.out.alloc hq2 _,hq2⟩
   obtain ⟨w3,hw3⟩:∃w3,w2.alloc (.cells #[.slice A0 ln cc0,.slice none 0 0,.slice none 0 0] 132)=w3:=⟨_,rfl⟩;obtain ⟨p,hp⟩:∃p,w2.heap.size=p:=⟨_,rfl⟩;rw[hw3,hp] at hst0;rw[hw3,hp];have HSTs:=Jh hst0;have hk3:=HP5.out.below hst0.be hp5q;have k1:w3.cell? ⟨p5,1,none⟩=some (.slice SA sn sc):=hk3.cell 1;have hp53:=hk3.lt;clear hw3 hp hst0 hk3 hq2;go_upto_block 2 with fail
   go_cut [] (fun wz=>∃vs:Value,SrfAt q w1 p ⟨A0,ln,cc0⟩ sr.labels vs (.slice none 0 0) sr.samples [] wz)
   case first=>
    go_wp2_with fail
    go_loopg [24] sn (fun g s24 wr=>∃(k:Nat) (vs:Value),k+g=sn∧s24 = .int .i64 (k:Int)∧SrfAt q w1 p ⟨A0,ln,cc0⟩ sr.labels vs (.slice none 0 0) (sr.samples.take k) [] wr)
    case atStart=>exact ⟨0,_,by omega,rfl,HSTs.out⟩
    case round=>
     obtain ⟨k,vs,hkg,rfl,hst⟩:=hrel;have HKG:=Jh hkg;have HST:=Jh hst;clear hkg hst
     by_cases hk:k < sn
     ·have el:decide (k < sn)=true:=by rw[decide_eq_true_eq];omega
      obtain ⟨wk,rfl⟩:∃x,x=wr:=⟨_,rfl⟩;have hst:=HST.out;have htl0:(sr.samples.take k).length=k:=by have h1:=HSE.out.len;rw[List.length_take];omega
      obtain ⟨VA,vc,hvs⟩:=Kan hst.s;rw[htl0] at hvs;subst hvs;have hBk:Below w1.heap.size w1 wk:=by rw[HQ1.out];exact hst.be
      obtain ⟨bx,ox,hAx,hbx,hgx⟩:=(HSE.out.below hBk).get hk;subst hAx;have hkl:k < sr.samples.length:=by have:=HSE.out.len;omega
      obtain ⟨x,hx⟩:∃x,sr.samples[k]! = x:=⟨_,rfl⟩;rw[hx] at hgx;have e0:wk.cell? ⟨bx,ox+k*2,none⟩=some (.int .i64 x.t):=hgx 0 _ rfl;have e1:wk.cell? ⟨bx,ox+k*2+1,none⟩=some (.int .u64 (x.v:Int)):=hgx 1 _ rfl;have hbxk:bx < wk.heap.size:=by have:=hBk.size;omega
      have htk:sr.samples.take (k+1)=sr.samples.take k ++ [x]:=by rw[List.take_succ_eq_append_getElem hkl,←hx,getElem!_pos _ k hkl]
      have htl:(sr.samples.take k).length=k:=by rw[List.length_take];omega
      have HTK:=Jh htk;have HTL:=Jh htl;clear htk htl hx hgx hst htl0;go_upto_region 9 with fail
      have hst:=HST.out;have hb4:Below wk.heap.size wk (wk.alloc (.cells #[.int .i64 x.t,.int .u64 (x.v:Int)] 102)):=(Below.refl _ _).alloc (Nat.le_refl _) _;have hp8:Blk (wk.alloc (.cells #[.int .i64 x.t,.int .u64 (x.v:Int)] 102)) wk.heap.size 102 #[.int .i64 x.t,.int .u64 (x.v:Int)]:=Blk.new _ _ _;obtain ⟨w4,hw4e⟩:∃w4,wk.alloc (.cells #[.int .i64 x.t,.int .u64 (x.v:Int)] 102)=w4:=⟨_,rfl⟩;obtain ⟨p8,hp8e⟩:∃p8,wk.heap.size=p8:=⟨_,rfl⟩;rw[hw4e] at hb4 hp8 ⊢;have hown4:=Kcp hst.s hb4;have hl4:=Kcp hst.l hb4;have hw4:=Kcp hst.w hb4;have hbp4:=hst.b.below hb4 hst.b.lt;have hB4:Below q w1 w4:=hst.be.trans (hb4.mono (by have:=hst.be.size;have:=HQ1.out;omega));rw[hp8e] at hp8 ⊢;have u0:w4.cell? ⟨p8,0,none⟩=some _:=hp8.cell 0;have u1:w4.cell? ⟨p8,1,none⟩=some _:=hp8.cell 1;have d1:w4.cell? ⟨p,1,none⟩=some _:=hbp4.cell 1;have hplt:=hbp4.lt;have hqz:q≤w4.heap.size:=by have:=hB4.size;have:=HQ1.out;omega
      rw[HTL.out] at hown4;have HST4:=Jh hst;have HOWN4:=Jh hown4;have HL4:=Jh hl4;have HW4:=Jh hw4;have HBP4:=Jh hbp4;have HB4:=Jh hB4;clear hw4e hp8e hst hl4 hw4 hbp4 hB4 hb4 hp8 hBk;go_wp2_with (at_builtin;refine wpList_append_own_at _ rfl _ _ 129 rfl q 133 is (.agg #[.int .i64 0,.int .u64 0]) 2 16 Tryz.underlying129 his hs0 hs1 hs2 rfl (by decide) _ _ _ rfl (hown4.alloc _) ⟨w4.heap.size,0,none⟩ 1 1 [.int .i64 x.t,.int .u64 (x.v:Int)] rfl rfl (Kav (l:=[.int .i64 x.t,.int .u64 (x.v:Int)]) (Blk.new w4 _ _)) ?p2 ?p3 ?p4 ?p5 ?_)
      case p2=>first | exact ⟨rfl,rfl⟩ | (intro u hu;simp at hu;rcases hu with rfl | rfl <;> rfl)
      case p3=>unfold maxLen;omega
      case p4=>omega
      case p5=>first | omega | (simp;omega)
      intro v' w5 hown' hgrow0 _ _;have hgrow:w4.grownBy w5 (Value.slice VA k vc).ownBlock:=(World.grownBy_alloc w4 _ _).trans hgrow0;have hown4:=HOWN4.out;have hl4:=HL4.out;have hw4:=HW4.out;have hst:=HST4.out;have hl5:=hl4.kept hgrow (Kbq hl4 hown4 (by decide));have hw5:=hw4.kept hgrow (Kbq hw4 hown4 (by decide));have hb5:=HBP4.out.grown hgrow (Kag HBP4.out hown4 (by decide));have hB5:Below q w1 w5:=HB4.out.trans ⟨hgrow.os,hgrow.tape,hgrow.output,hgrow.size,fun j hj=>hgrow.block j (by omega) (fun e=>by have:=(hown4.lt j e.symm).1;omega)⟩;have f1:=hb5.frozen 1;have hplt5:=hb5.lt;have d1:w5.cell? ⟨p,1,none⟩=some _:=hb5.cell 1
      have hnew:SrfAt q w1 p ⟨A0,ln,cc0⟩ sr.labels v' (.slice none 0 0) (sr.samples.take (k+1)) [] (w5.setCell ⟨p,1,none⟩ v'):=by
       refine ⟨by exact hb5.set_ 1 _,Kbp hl5 hb5 (by decide),?_,Kbp hw5 hb5 (by decide),hB5.setCell (p:=⟨p,1,none⟩) hst.qp _,hst.qp⟩;refine Kbp ?_ hb5 (by decide);rw[HTK.out,List.length_append,HTL.out,List.flatMap_append];exact hown'
      have HNEW:=Jh hnew;obtain ⟨VA',vc',rfl⟩:=Kan hown';clear hnew hown' hgrow0 hgrow hown4 hl4 hw4 hst hl5 hw5 hb5 hB5;go_wp2_with fail
      go_roundg (gk - 1)
      case measure=>have:=HKG.out;omega
      case rel=>exact ⟨k+1,_,by have:=HKG.out;omega,by go_num,HNEW.out⟩
     ·have el:decide (k < sn)=false:=by rw[decide_eq_false_iff_not];omega
      have htk:sr.samples.take k=sr.samples:=List.take_of_length_le (by have:=HSE.out.len;omega);have hst:=HST.out;rw[htk] at hst;have HST2:=Jh hst;clear hst htk;go_wp2_with fail
      go_meet
      exact ⟨_,HST2.out⟩
   obtain ⟨vs,hst⟩:=hcut;obtain ⟨ws,rfl⟩:∃x,x=wc:=⟨_,rfl⟩;obtain ⟨VS,VC,hvs⟩:=Kan hst.s;subst hvs;have HSTw:=Jh hst;have hks:=HP5.out.below hst.be hp5q;have k2:ws.cell? ⟨p5,2,none⟩=some (.slice WA wn wc9):=hks.cell 2;have hp5s:=hks.lt;clear hks hst k1 hp53;go_upto_block 4 with fail
   go_cut [] (fun wz=>∃vs:Value,SrfAt q w1 p ⟨A0,ln,cc0⟩ sr.labels (.slice VS sr.samples.length VC) vs sr.samples sr.windows wz)
   case first=>
    go_wp2_with fail
    go_loopg [42] wn (fun g s42 wr=>∃(k:Nat) (vs:Value),k+g=wn∧s42 = .int .i64 (k:Int)∧SrfAt q w1 p ⟨A0,ln,cc0⟩ sr.labels (.slice VS sr.samples.length VC) vs sr.samples (sr.windows.take k) wr)
    case atStart=>exact ⟨0,_,by omega,rfl,HSTw.out⟩
    case round=>
     obtain ⟨k,vs,hkg,rfl,hst⟩:=hrel;have HKG:=Jh hkg;have HST:=Jh hst;clear hkg hst
     by_cases hk:k < wn
     ·have el:decide (k < wn)=true:=by rw[decide_eq_true_eq];omega
      obtain ⟨wk,rfl⟩:∃x,x=wr:=⟨_,rfl⟩;have hst:=HST.out;have htl0:(sr.windows.take k).length=k:=by have h1:=HWE.out.len;rw[List.length_take];omega
      obtain ⟨VA,vc,hvs⟩:=Kan hst.w;rw[htl0] at hvs;subst hvs;have hBk:Below w1.heap.size w1 wk:=by rw[HQ1.out];exact hst.be
      obtain ⟨bx,ox,hAx,hbx,hgx⟩:=(HWE.out.below hBk).get hk;subst hAx;have hkl:k < sr.windows.length:=by have:=HWE.out.len;omega
      obtain ⟨x,hx⟩:∃x,sr.windows[k]! = x:=⟨_,rfl⟩;rw[hx] at hgx;have e0:wk.cell? ⟨bx,ox+k*6,none⟩=some (.int .i64 x.start):=hgx 0 _ rfl;have e1:wk.cell? ⟨bx,ox+k*6+1,none⟩=some (.int .i64 x.count):=hgx 1 _ rfl;have e2:wk.cell? ⟨bx,ox+k*6+2,none⟩=some (.int .u64 (x.sum:Int)):=hgx 2 _ rfl;have e3:wk.cell? ⟨bx,ox+k*6+3,none⟩=some (.int .u64 (x.min:Int)):=hgx 3 _ rfl;have e4:wk.cell? ⟨bx,ox+k*6+4,none⟩=some (.int .u64 (x.max:Int)):=hgx 4 _ rfl;have e5:wk.cell? ⟨bx,ox+k*6+5,none⟩=some (.int .u64 (x.last:Int)):=hgx 5 _ rfl;have hbxk:bx < wk.heap.size:=by have:=hBk.size;omega
      have htk:sr.windows.take (k+1)=sr.windows.take k ++ [x]:=by rw[List.take_succ_eq_append_getElem hkl,←hx,getElem!_pos _ k hkl]
      have htl:(sr.windows.take k).length=k:=by rw[List.length_take];omega
      have HTK:=Jh htk;have HTL:=Jh htl;clear htk htl hx hgx hst htl0;go_upto_region 14 with fail
      have hst:=HST.out;have hb4:Below wk.heap.size wk (wk.alloc (.cells #[.int .i64 x.start,.int .i64 x.count,.int .u64 (x.sum:Int),.int .u64 (x.min:Int),.int .u64 (x.max:Int),.int .u64 (x.last:Int)] 135)):=(Below.refl _ _).alloc (Nat.le_refl _) _;have hp8:Blk (wk.alloc (.cells #[.int .i64 x.start,.int .i64 x.count,.int .u64 (x.sum:Int),.int .u64 (x.min:Int),.int .u64 (x.max:Int),.int .u64 (x.last:Int)] 135)) wk.heap.size 135 #[.int .i64 x.start,.int .i64 x.count,.int .u64 (x.sum:Int),.int .u64 (x.min:Int),.int .u64 (x.max:Int),.int .u64 (x.last:Int)]:=Blk.new _ _ _;obtain ⟨w4,hw4e⟩:∃w4,wk.alloc (.cells #[.int .i64 x.start,.int .i64 x.count,.int .u64 (x.sum:Int),.int .u64 (x.min:Int),.int .u64 (x.max:Int),.int .u64 (x.last:Int)] 135)=w4:=⟨_,rfl⟩;obtain ⟨p8,hp8e⟩:∃p8,wk.heap.size=p8:=⟨_,rfl⟩;rw[hw4e] at hb4 hp8 ⊢;have hown4:=Kcp hst.w hb4;have hl4:=Kcp hst.l hb4;have hw4:=Kcp hst.s hb4;have hbp4:=hst.b.below hb4 hst.b.lt;have hB4:Below q w1 w4:=hst.be.trans (hb4.mono (by have:=hst.be.size;have:=HQ1.out;omega));rw[hp8e] at hp8 ⊢;have u0:w4.cell? ⟨p8,0,none⟩=some _:=hp8.cell 0;have u1:w4.cell? ⟨p8,1,none⟩=some _:=hp8.cell 1;have u2:w4.cell? ⟨p8,2,none⟩=some _:=hp8.cell 2;have u3:w4.cell? ⟨p8,3,none⟩=some _:=hp8.cell 3;have u4:w4.cell? ⟨p8,4,none⟩=some _:=hp8.cell 4;have u5:w4.cell? ⟨p8,5,none⟩=some _:=hp8.cell 5;have d2:w4.cell? ⟨p,2,none⟩=some _:=hbp4.cell 2;have hplt:=hbp4.lt;have hqz:q≤w4.heap.size:=by have:=hB4.size;have:=HQ1.out;omega
      rw[HTL.out] at hown4;have HST4:=Jh hst;have HOWN4:=Jh hown4;have HL4:=Jh hl4;have HW4:=Jh hw4;have HBP4:=Jh hbp4;have HB4:=Jh hB4;clear hw4e hp8e hst hl4 hw4 hbp4 hB4 hb4 hp8 hBk;go_wp2_with (at_builtin;refine wpList_append_own_at _ rfl _ _ 130 rfl q 136 iw (.agg #[.int .i64 0,.int .i64 0,.int .u64 0,.int .u64 0,.int .u64 0,.int .u64 0]) 6 48 Tryz.underlying130 hiw hw0 hw1 hw2 rfl (by decide) _ _ _ rfl (hown4.alloc _) ⟨w4.heap.size,0,none⟩ 1 1 [.int .i64 x.start,.int .i64 x.count,.int .u64 (x.sum:Int),.int .u64 (x.min:Int),.int .u64 (x.max:Int),.int .u64 (x.last:Int)] rfl rfl (Kav (l:=[.int .i64 x.start,.int .i64 x.count,.int .u64 (x.sum:Int),.int .u64 (x.min:Int),.int .u64 (x.max:Int),.int .u64 (x.last:Int)]) (Blk.new w4 _ _)) ?p2 ?p3 ?p4 ?p5 ?_)
      case p2=>first | exact ⟨rfl,rfl,rfl,rfl,rfl,rfl⟩ | (intro u hu;simp at hu;rcases hu with rfl | rfl | rfl | rfl | rfl | rfl <;> rfl)
      case p3=>unfold maxLen;omega
      case p4=>omega
      case p5=>first | omega | (simp;omega)
      intro v' w5 hown' hgrow0 _ _;have hgrow:w4.grownBy w5 (Value.slice VA k vc).ownBlock:=(World.grownBy_alloc w4 _ _).trans hgrow0;have hown4:=HOWN4.out;have hl4:=HL4.out;have hw4:=HW4.out;have hst:=HST4.out;have hl5:=hl4.kept hgrow (Kbq hl4 hown4 (by decide));have hw5:=hw4.kept hgrow (Kbq hw4 hown4 (by decide));have hb5:=HBP4.out.grown hgrow (Kag HBP4.out hown4 (by decide));have hB5:Below q w1 w5:=HB4.out.trans ⟨hgrow.os,hgrow.tape,hgrow.output,hgrow.size,fun j hj=>hgrow.block j (by omega) (fun e=>by have:=(hown4.lt j e.symm).1;omega)⟩;have f2:=hb5.frozen 2;have hplt5:=hb5.lt;have d2:w5.cell? ⟨p,2,none⟩=some _:=hb5.cell 2
      have hnew:SrfAt q w1 p ⟨A0,ln,cc0⟩ sr.labels (.slice VS sr.samples.length VC) v' sr.samples (sr.windows.take (k+1)) (w5.setCell ⟨p,2,none⟩ v'):=by
       refine ⟨by exact hb5.set_ 2 _,Kbp hl5 hb5 (by decide),Kbp hw5 hb5 (by decide),?_,hB5.setCell (p:=⟨p,2,none⟩) hst.qp _,hst.qp⟩;refine Kbp ?_ hb5 (by decide);rw[HTK.out,List.length_append,HTL.out,List.flatMap_append];exact hown'
      have HNEW:=Jh hnew;obtain ⟨VA',vc',rfl⟩:=Kan hown';clear hnew hown' hgrow0 hgrow hown4 hl4 hw4 hst hl5 hw5 hb5 hB5;go_wp2_with fail
      go_roundg (gk - 1)
      case measure=>have:=HKG.out;omega
      case rel=>exact ⟨k+1,_,by have:=HKG.out;omega,by go_num,HNEW.out⟩
     ·have el:decide (k < wn)=false:=by rw[decide_eq_false_iff_not];omega
      have htk:sr.windows.take k=sr.windows:=List.take_of_length_le (by have:=HWE.out.len;omega);have hst:=HST.out;rw[htk] at hst;have HST2:=Jh hst;clear hst htk;go_wp2_with fail
      go_meet
      exact ⟨_,HST2.out⟩
   obtain ⟨vs,hst⟩:=hcut;obtain ⟨ww,rfl⟩:∃x,x=wc:=⟨_,rfl⟩;obtain ⟨VW,WC,hvw⟩:=Kan hst.w;subst hvw;have hq1:=HQ1.out;have hbe:Below w1.heap.size w1 ww:=by rw[hq1];exact hst.be
   have hrow2:=Kcp HROW1.out hbe;have hser2:∀(j:Nat) (h:Hd3),hs[j]? = some h→RSer q0 ww h L[j]!:=fun j h hj=>(HSER1.out j h hj).below hbe
   have hB2:Below q0 w ww:=HB1.out.trans (hst.be.mono hq0q);have e0:ww.cell? ⟨p,0,none⟩=some (.slice A0 ln cc0):=hst.b.cell 0;have e1:ww.cell? ⟨p,1,none⟩=some (.slice VS sr.samples.length VC):=hst.b.cell 1;have e2:ww.cell? ⟨p,2,none⟩=some (.slice VW sr.windows.length WC):=hst.b.cell 2;have hpl:=hst.b.lt;have hq0w:q0≤ww.heap.size:=by have:=hB2.size;have:=HQ0.out;omega
   have HSTF:=Jh hst;have HROW2:=Jh hrow2;have HSER2:=Jh hser2;have HB2:=Jh hB2;clear hst hbe hser2 hB2 k2 hp5s;go_wp2_with (at_builtin;go_loud (refine wpList_append_own_at _ rfl _ _ 32 rfl q0 132 ib (.agg #[.slice none 0 0,.slice none 0 0,.slice none 0 0]) 3 72 Tryz.underlying32 hib hz0 hz1 hz2 rfl (by decide) _ _ _ rfl (hrow2.alloc _) ⟨ww.heap.size,0,none⟩ 1 1 [.slice A0 ln cc0,.slice VS sr.samples.length VC,.slice VW sr.windows.length WC] rfl rfl (Kav (l:=[.slice A0 ln cc0,.slice VS sr.samples.length VC,.slice VW sr.windows.length WC]) (Blk.new ww _ _)) ?p2 ?p3 ?p4 ?p5 ?_))
   case p2=>first | exact ⟨rfl,rfl,rfl⟩ | (intro u hu;simp at hu;rcases hu with rfl | rfl | rfl <;> rfl)
   case p3=>unfold maxLen;omega
   case p4=>omega
   case p5=>first | omega | (simp;omega)
   intro v' w6 hown' hgrow0 _ _;have hgrow:=(World.grownBy_alloc ww _ _).trans hgrow0;have hrow2:=HROW2.out;have hst:=HSTF.out;have hnew:RSer q0 w6 ⟨⟨A0,ln,cc0⟩,⟨VS,sr.samples.length,VC⟩,⟨VW,sr.windows.length,WC⟩⟩ sr:=RSer.grown (RSer.mono ⟨hst.l,hst.s,hst.w⟩ hq0q) hrow2 hgrow
   have hall:∀(j:Nat) (h:Hd3),(hs ++ [⟨⟨A0,ln,cc0⟩,⟨VS,sr.samples.length,VC⟩,⟨VW,sr.windows.length,WC⟩⟩])[j]? = some h→RSer q0 w6 h L[j]!:=by
    intro j h hj
    by_cases hjl:j < hs.length
    ·rw[List.getElem?_append_left hjl] at hj;exact RSer.grown (HSER2.out j h hj) hrow2 hgrow
    ·have hj2:j=hs.length:=by
      have:=(List.getElem?_eq_some_iff.1 hj).1;rw[List.length_append,List.length_singleton] at this;omega
     subst hj2;have e:h=⟨⟨A0,ln,cc0⟩,⟨VS,sr.samples.length,VC⟩,⟨VW,sr.windows.length,WC⟩⟩:=by simpa using hj.symm
     subst e;rw[HHL.out,HSR.out];exact hnew
   have hB6:Below q0 w w6:=HB2.out.trans ⟨hgrow.os,hgrow.tape,hgrow.output,hgrow.size,fun j hj=>hgrow.block j (by omega) (fun e=>by have:=(hrow2.lt j e.symm).1;omega)⟩
   have hrow6:w6.ownsRow q0 132 3 v' (i+1) ((hs ++ [(⟨⟨A0,ln,cc0⟩,⟨VS,sr.samples.length,VC⟩,⟨VW,sr.windows.length,WC⟩⟩:Hd3)]).flatMap encH3):=by
    rw[List.flatMap_append];exact hown'
   have HALL:=Jh hall;have HB6:=Jh hB6;have HROW6:=Jh hrow6;clear hown' hgrow0 hgrow hrow2 hst hnew hall hB6 hrow6;go_wp2_with fail
   go_roundg (gk - 1)
   case measure=>have:=HIG.out;omega
   case rel=>exact ⟨i+1,_,_,rfl,by have:=HIG.out;omega,by go_num,by rw[List.length_append,HHL.out];rfl,HROW6.out,HALL.out,HB6.out⟩
  ·have el:decide (i < n)=false:=by rw[decide_eq_false_iff_not];omega
   have hin:i=n:=by have:=HIG.out;omega
   subst hin;obtain ⟨A',c',rfl⟩:=Kan HROW.out;go_wp2_with fail
   go_ret
   exact ⟨A',c',hs,rfl,HHL.out,HROW.out,HSER.out,HB.out⟩
theorem Kkl (L:List Ser) (A:Option Addr) (n c:Nat) (w:World) (hS:Kdp w A n L) :
  Calls Tryz.prog 22 #[.slice A n c] w fun e w'=>∃(A':Option Addr) (c':Nat),e = .returned (.slice A' n c')∧Kdp w' A' n L∧Below w.heap.size w w':=by
 refine (Klb L A n c w hS.s (by have:=hS.n;have:=hS.s.len;omega) hS.sz).mono ?_;rintro e w' ⟨A',c',hs,he,hl,hrow,hser,hb⟩;exact ⟨A',c',he,⟨(Qbk hl hS.s.len hrow hser).1,hS.n,hS.z⟩,hb⟩
end
section
open Go.Shelf Go.RowKit Go.Lib Go.Sort
open Lib renaming hid → Jh
attribute [local go_sem ↓] Go.wp_at_zero Go.wp_at_succ
attribute [local go_sem] Later.cell
section
set_option maxHeartbeats 4000000
set_option maxRecDepth 100000
def dropW (h:Hd3):Hd3:=⟨h.l,h.s,⟨none,0,0⟩⟩
theorem Qbg (ss:List Ser):SubS ss (Kbz ss):=by
 have hk:SubS ss (clipF 0 1125899906842624 ss):=Kil _ _ ss
 have h2:SubS (clipF 0 1125899906842624 ss) (Kbz ss):=by
  unfold Kbz
  have hsz:∀l:List Ser,sumS (l.map noWnd)≤sumS l∧labsN (l.map noWnd)≤labsN l:=by
   intro l
   induction l with
   | nil=>simp[sumS,labsN]
   | cons x l ih=>
    rw[List.map_cons,Kbc,Kbc,Kce,Kce];unfold noWnd at *;dsimp only at *;simp only[List.length_nil] at *;omega
  refine ⟨fun s hs=>?_,fun s hs y hy=>?_,fun s hs y hy=>?_,by rw[List.length_map];exact Nat.le_refl _,(hsz _).1,(hsz _).2⟩
  ·obtain ⟨x,hx,rfl⟩:=List.mem_map.1 hs;exact ⟨x,hx,rfl⟩
  ·obtain ⟨x,hx,rfl⟩:=List.mem_map.1 hs;exact ⟨x,hx,hy⟩
  ·obtain ⟨x,hx,rfl⟩:=List.mem_map.1 hs;simp[noWnd] at hy
 exact hk.trans h2
theorem Qgd {L:List Ser} (hb:∀s∈L,(∀x∈s.samples,x.v < 2 ^ 64)∧∀x∈s.windows,Kcs x) (hm:(L.map Ser.mass).sum≤1048576):SSz L:=by
 have h:=Kpw L;have h2:=Kiv L;exact ⟨by omega,by omega,by omega,Qgc hb hm⟩
theorem Kky (width:Int) (A:Option Addr) (n c:Nat) (ss:List Ser) (w:World) (hS:Sers w A n ss) (hc:n≤c) (hz:SSz ss) (hE:BEnv w) :
  Calls Tryz.prog 6 #[.int .i64 width,.slice A n c] w fun e w'=>e = .returned (.bool true)∧Below w.heap.size w w':=by
 have HS:=Jh hS;have HC:=Jh hc;have HZ:=Jh hz;have HE:=Jh hE;have HWK:=Jh (Krm w hE);obtain ⟨ib,hib,hz0,hz1,hz2⟩:=info_parts Kfz;clear hS hc hz hE;go_enter Tryz.func6,Tryz.ntmps6
 go_wp2_with fail
 refine HWK.out.mono ?_;rintro _ w1 ⟨rfl,hb1⟩;have HB1:=Jh hb1;have HS1:=Jh (HS.out.below hb1);have HSP:=Jh (Klr 0 width A n c ss w1 HS1.out HC.out HZ.out (HE.out.below hb1));clear hb1 HWK;go_wp2_with fail
 refine HSP.out.mono ?_;rintro e2 w2 ⟨hor,hb2⟩;have HB2:Hid (Below w.heap.size w w2):=HB1.out.trans (hb2.mono HB1.out.size);have HS2:Hid (Sers w2 A n ss):=HS1.out.below hb2;clear HSP HS1 HB1 hb2;rcases hor with ⟨_,rfl⟩ | ⟨_,h,_⟩ | ⟨hw,_,L,hL,hor⟩
 ·go_wp2_with fail
  go_ret
  exact ⟨rfl,HB2.out⟩
 ·exact absurd ⟨by decide,by decide⟩ h
 ·rcases hor with ⟨_,rfl⟩ | ⟨hfit,A1,n1,c1,xs,rfl,hC,_⟩
  ·go_wp2_with fail
   go_ret
   exact ⟨rfl,HB2.out⟩
  ·have hw1:=hw.1;have HL:=Jh hL;have HFIT:Hid ((Kbe width ss L).all fitB=true):=hfit;have HCO:Hid (Kdg w2 A1 n1 xs (Kbe width ss L)):=hC;have HLN:Hid (L.length=n1):=by have:=HCO.out.l;unfold Kbe at this;rwa[List.length_map] at this
   have HCL:=Jh (Kkb 0 1125899906842624 A n c ss w2 (HZ.out.sersz HS2.out));clear hL hfit hC hw;go_wp2_with fail
   refine HCL.out.mono ?_;rintro _ w3 ⟨A3,n3,c3,rfl,hs3,hc3,hb3⟩;have hs3':Kbi w3 w2.heap.size A3 n3 c3 (clipF 0 1125899906842624 ss):=hs3;obtain ⟨hs0,hE3,hl3,hat3⟩:=hs3'.sers.1;have HE3:=Jh hE3;have HAT:=Jh hat3;have HL3:=Jh hl3;have HB3:Hid (Below w.heap.size w w3):=HB2.out.trans (hb3.mono HB2.out.size);have HCO3:Hid (Kdg w3 A1 n1 xs (Kbe width ss L)):=HCO.out.below hb3
   have hn3:n3≤1048576:=by
    have h1:=HZ.out.n;have h2:=(Kil (fun _ x=>inR 0 1125899906842624 x.t) (fun _ x=>inR 0 1125899906842624 x.start) ss).n;have h3:(clipF 0 1125899906842624 ss).length=n3:=hl3;unfold clipF at h3;omega
   obtain ⟨q,hq⟩:∃q,q=w3.heap.size:=⟨_,rfl⟩;have HQ:=Jh hq;have HBQ:Hid (Below q w3 w3):=Below.refl _ _;clear hs3 hc3 hb3 hs3' hE3 hat3 hl3 HCL HB2 HCO HS2 hq;go_wp2_with fail
   go_loopg [7,29] n3 (fun kx s7 s29 wr=>∃(i:Nat),s29 = .int .i64 (i:Int)∧i+kx=n3∧Hid (Below q w3 wr)∧Hid (wr.ownsRow q 58 3 s7 i (((hs0.take i).map dropW).flatMap encH3)))
   case atStart=>exact ⟨0,rfl,by omega,HBQ,(show Hid _ from World.ownsRow_nil _ _ _ _)⟩
   case round=>
    clear HBQ;obtain ⟨i,rfl,hi,HB,HR⟩:=hrel;obtain ⟨A7,c7,hv7⟩:=Kan HR.out;subst hv7;rcases Nat.lt_or_ge i n3 with hlt | hge
    ·have hlz:(i:Int) < (n3:Int):=by omega
     obtain ⟨b0,off0,hA0,hb0,hc0⟩:=HE3.out.2 (by omega);have hl0:=HE3.out.len;obtain ⟨h,hh⟩:∃h,hs0[i]? = some h:=⟨hs0[i]'(by omega),List.getElem?_eq_getElem _⟩;have hcell:∀r v,r < 3→(encH3 h)[r]? = some v→wr.cell? ⟨b0,off0+i*3+r,none⟩=some v:=fun r v _ hv=>(HB.out.cell (p:=⟨b0,off0+i*3+r,none⟩) (by rw[HQ.out];exact hb0)).trans (hc0 i h hh r v hv)
     have hbl0:b0 < wr.heap.size:=Nat.lt_of_lt_of_le hb0 (by have:=HB.out.size;omega)
     have HTK:Hid (((hs0.take (i+1)).map dropW).flatMap encH3=((hs0.take i).map dropW).flatMap encH3++encH3 (dropW h)):=by
      show _=_
      rw[List.take_add_one,hh,List.map_append,List.flatMap_append];simp
     have HZL:Hid (q≤wr.heap.size):=by have:=HB.out.size;have:=HQ.out;show _≤_;omega
     subst hA0;obtain ⟨⟨lA,ln,lc⟩,⟨sA,sn,sc⟩,⟨wA,wn,wc⟩⟩:=h;have k0:wr.cell? ⟨b0,off0+i*3,none⟩=some (.slice lA ln lc):=hcell 0 _ (by decide) rfl;have k1:wr.cell? ⟨b0,off0+i*3+1,none⟩=some (.slice sA sn sc):=hcell 1 _ (by decide) rfl;have k2:wr.cell? ⟨b0,off0+i*3+2,none⟩=some (.slice wA wn wc):=hcell 2 _ (by decide) rfl;have HTK2:Hid (((hs0.take (i+1)).map dropW).flatMap encH3=((hs0.take i).map dropW).flatMap encH3 ++ [.slice lA ln lc,.slice sA sn sc,.slice none 0 0]):=HTK.out;clear hc0 hl0 hh hcell hb0 HTK;go_upto_region 10 with fail
     obtain ⟨wx,hwx⟩:∃x,x=wr.alloc (.cells #[.slice lA ln lc,.slice sA sn sc,.slice wA wn wc] 58):=⟨_,rfl⟩;obtain ⟨p1,hp1⟩:∃p,p=wr.heap.size:=⟨_,rfl⟩;have HP1:Hid (Blk wx p1 58 #[.slice lA ln lc,.slice sA sn sc,.slice wA wn wc]):=by show Blk _ _ _ _;rw[hwx,hp1];exact Blk.new _ _ _
     have hbx:Below wr.heap.size wr wx:=by rw[hwx];exact (Below.refl _ _).alloc (Nat.le_refl _) _
     have HBX:Hid (Below q w3 wx):=HB.out.trans (hbx.mono HZL.out);have HRX:Hid (wx.ownsRow q 58 3 (.slice A7 i c7) i (((hs0.take i).map dropW).flatMap encH3)):=Kaq HR.out hbx;have HZX:Hid (q≤wx.heap.size):=Nat.le_trans HZL.out hbx.size;rw[←hwx,←hp1];have l0:=HP1.out.cell 0;have l1:=HP1.out.cell 1;simp at l0 l1;have hpa:=HP1.out.lt;obtain ⟨w6,hw6⟩:∃y,y=wx.alloc (.cells #[.slice lA ln lc,.slice sA sn sc,.slice none 0 0] 58):=⟨_,rfl⟩;have hb6:Below wx.heap.size wx w6:=by rw[hw6];exact (Below.refl _ _).alloc (Nat.le_refl _) _
     have hnew6:Blk w6 wx.heap.size 58 #[.slice lA ln lc,.slice sA sn sc,.slice none 0 0]:=by rw[hw6];exact Blk.new _ _ _
     have hrow6:w6.ownsRow q 58 3 (.slice A7 i c7) i (((hs0.take i).map dropW).flatMap encH3):=Kaq HRX.out hb6;have HROW6:=Jh hrow6;have HB6:Hid (Below q w3 w6):=HBX.out.trans (hb6.mono HZX.out);have hz6:q≤w6.heap.size:=Nat.le_trans HZX.out hb6.size;clear hwx hp1 hbx HB HR k0 k1 k2 hbl0 hb6;go_wp2_with (at_builtin;(try rw[←hw6]);refine wpList_append_own_at _ rfl _ _ 26 rfl q 58 ib (.agg #[.slice none 0 0,.slice none 0 0,.slice none 0 0]) 3 72 Tryz.underlying26 hib hz0 hz1 hz2 rfl (by decide) (.slice A7 i c7) i _ rfl hrow6 ⟨wx.heap.size,0,none⟩ 1 1 [.slice lA ln lc,.slice sA sn sc,.slice none 0 0] rfl rfl (Kav (l:=[.slice lA ln lc,.slice sA sn sc,.slice none 0 0]) hnew6) ?p2 ?p3 ?p4 ?p5 ?_)
     case p2=>intro u hu;simp only[List.mem_cons,List.not_mem_nil,or_false] at hu;rcases hu with rfl | rfl | rfl <;> rfl
     case p3=>unfold maxLen;omega
     case p4=>omega
     case p5=>exact hz6
     intro v9 w9 hown' hgrow _ _;rw[←hw6] at hgrow;have HBN:Hid (Below q w3 w9):=HB6.out.grown hgrow hz6 (fun k hk=>(HROW6.out.lt k hk).1)
     have HRN:Hid (w9.ownsRow q 58 3 v9 (i+1) (((hs0.take (i+1)).map dropW).flatMap encH3)):=by
      show World.ownsRow _ _ _ _ _ _ _
      rw[HTK2.out,List.map_take];exact hown'
     clear hown' hgrow hrow6 hnew6 HROW6 HB6 hw6 hz6 HTK2 HRX HBX HP1 l0 l1 hpa hib hz0 hz1 hz2;go_wp2_with fail
     go_roundg (n3 - (i+1))
     case measure=>omega
     case rel=>exact ⟨i+1,by first | rfl | go_num,by omega,HBN,HRN⟩
    ·have hlz:¬(i:Int) < (n3:Int):=by omega
     obtain rfl:n3=i:=by omega
     clear hge hi hlz
     have HR2:Hid (wr.ownsRow q 58 3 (.slice A7 n3 c7) n3 ((hs0.map dropW).flatMap encH3)):=by
      show World.ownsRow _ _ _ _ _ _ _
      have h1:=HR.out;rw[List.take_of_length_le (by rw[HE3.out.len];exact Nat.le_refl _)] at h1;exact h1
     have hpl:Sers wr A7 n3 (Kbz ss)∧n3≤c7:=by
      obtain ⟨A9,c9,e9,hE,_,hcc⟩:=Elems.of_own (xs:=hs0.map dropW) (enc:=encH3) (fun _ _=>rfl) rfl HR2.out (by rw[List.length_map,HE3.out.len]);injection e9 with e9 _ e8;subst e9 e8;have hl3:(clipF 0 1125899906842624 ss).length=n3:=HL3.out;refine ⟨⟨hs0.map dropW,hE,by unfold Kbz;rw[List.length_map];exact hl3,fun i hd hi=>?_⟩,hcc⟩;rw[List.getElem?_map,Option.map_eq_some_iff] at hi;obtain ⟨h0,hh0,rfl⟩:=hi;have hil:i < (clipF 0 1125899906842624 ss).length:=by rw[hl3,←HE3.out.len];exact (List.getElem?_eq_some_iff.1 hh0).1
      have ha:SerAt w3 h0 (clipF 0 1125899906842624 ss)[i]!:=HAT.out i h0 hh0;have hb:=ha.below (by rw[←HQ.out];exact HB.out)
      have e:(Kbz ss)[i]! = noWnd (clipF 0 1125899906842624 ss)[i]!:=by
       unfold Kbz;rw[getElem!_pos _ i (by rw[List.length_map];exact hil),List.getElem_map,getElem!_pos _ i hil]
      rw[e];exact ⟨hb.l,hb.lc,hb.s,hb.sc,⟨rfl,fun h=>absurd h (Nat.lt_irrefl _)⟩,Nat.le_refl _⟩
     have HZP:Hid (SSz (Kbz ss)):=HZ.out.sub (Qbg ss)
     have HMG:Hid (Calls Tryz.prog 24 #[.slice (some ⟨wr.heap.size,0,none⟩) 1 1] (wr.alloc (.cells #[.slice A7 n3 c7] 26)) fun e w'=>∃(A':Option Addr) (n' c':Nat),e = .returned (.slice A' n' c')∧Sers w' A' n' (Kam (Kbz ss))∧n'≤c'∧Below (wr.alloc (.cells #[.slice A7 n3 c7] 26)).heap.size (wr.alloc (.cells #[.slice A7 n3 c7] 26)) w'):=by
      have:=Kkc (some ⟨wr.heap.size,0,none⟩) 1 1 [⟨A7,n3,c7⟩] [Kbz ss] (Ktm hpl.1 hpl.2 (fun s hs=>(HZP.out.z s hs).l) rfl) (by decide) (by simp;have:=HZP.out.n;omega) (by simp;have:=HZP.out.m;omega);show Calls _ _ _ _ _
      simpa using this
     have HBR:Hid (Below w3.heap.size w3 wr):=by show Below _ _ _;rw[←HQ.out];exact HB.out
     have HB4:Hid (Below w.heap.size w (wr.alloc (.cells #[.slice A7 n3 c7] 26))∧Below w3.heap.size w3 (wr.alloc (.cells #[.slice A7 n3 c7] 26))):=by
      have h1:=HBR.out.alloc HBR.out.size (.cells #[.slice A7 n3 c7] 26);exact ⟨HB3.out.trans (h1.mono HB3.out.size),h1⟩
     obtain ⟨want,hwant⟩:∃x,x=Kam (Kbz ss):=⟨_,rfl⟩;have HWANT:=Jh hwant;have HZW:Hid (SSz want):=by show SSz _;rw[hwant];exact HZP.out.sub (Kgs _)
     rw[←hwant] at HMG;clear hwant hpl HR HR2 HB HBR HE3 HAT HL3;go_wp2_with fail
     refine HMG.out.mono ?_;rintro _ w5 ⟨A5,n5,c5,rfl,hs5,hc5,hb5⟩;have HB5:Hid (Below w.heap.size w w5∧Below w3.heap.size w3 w5):=⟨HB4.out.1.trans (hb5.mono HB4.out.1.size),HB4.out.2.trans (hb5.mono HB4.out.2.size)⟩;have HSR:=Jh (Kkl want A5 n5 c5 w5 (HZW.out.ok hs5));clear hs5 hc5 hb5 HMG HB4;go_wp2_with fail
     refine HSR.out.mono ?_;rintro _ w6 ⟨A6,c6,rfl,hs6,hb6⟩;have HB6:Hid (Below w.heap.size w w6∧Below w3.heap.size w3 w6):=⟨HB5.out.1.trans (hb6.mono HB5.out.1.size),HB5.out.2.trans (hb6.mono HB5.out.2.size)⟩;have HS6:=Jh hs6;have HN5:Hid (want.length=n5):=hs6.s.len;have HCO6:Hid (Kdg w6 A1 n1 xs (Kbe width ss L)):=HCO3.out.below HB6.out.2;clear hs6 hb6 HSR HB5 HCO3 HB3;rcases Nat.eq_zero_or_pos n1 with h0 | h0
     ·subst h0;have hLn:L = []:=List.eq_nil_of_length_eq_zero HLN.out;have hwn:want = []:=by rw[HWANT.out];have:=HL.out;rw[hLn] at this;exact Kzk hw1 this
      have hn5:n5=0:=by rw[←HN5.out,hwn];rfl
      subst hn5;clear hLn hwn;go_wp2_with fail
      go_ret
      exact ⟨rfl,HB6.out.1⟩
     ·have di:((n1:Int) == 0)=false:=by rw[beq_eq_false_iff_ne];omega
      have HBL:Hid (Below w6.heap.size w6 w6):=Below.refl _ _;go_wp2_with fail
      clear di;go_loopg [54] n1 (fun kx s54 wz=>∃(i:Nat),s54 = .int .i64 (i:Int)∧i+kx=n1∧Hid (Below w6.heap.size w6 wz))
      case atStart=>exact ⟨0,rfl,by omega,HBL⟩
      case round=>
       clear HBL;obtain ⟨i,rfl,hi,HB⟩:=hrel;rcases Nat.lt_or_ge i n1 with hlt | hge
       ·have hlz:(i:Int) < (n1:Int):=by omega
        have hC:=HCO6.out.below HB.out;obtain ⟨b,off,hA,hb,hcell⟩:=hC.e.2 (by omega);have hll:=HLN.out;have hxl:=hC.e.len;obtain ⟨x,hx⟩:∃x,xs[i]? = some x:=⟨xs[i]'(by omega),List.getElem?_eq_getElem _⟩;obtain ⟨f,hf⟩:∃f,L[i]? = some f:=⟨L[i]'(by omega),List.getElem?_eq_getElem _⟩
        have hcs:∀(k:Nat) (g:Int),L[k]? = some g→(Kbe width ss L)[k]! = Kbo 0 width (allF 0 ss) g:=fun k g hk=>by
         have hkl:=(List.getElem?_eq_some_iff.1 hk).1;unfold Kbe;rw[getElem!_pos _ k (by rw[List.length_map];exact hkl),List.getElem_map,(List.getElem?_eq_some_iff.1 hk).2]
        have hk:=hC.k i x hx;rw[hcs i f hf] at hk;obtain ⟨p1,p2,p3⟩:=Qff hw1 HL.out hf;obtain ⟨hf0,hf1⟩:=Kkm hw1 HL.out (List.mem_of_getElem? hf);have hxf:x.f=f:=hk.2.1.symm
        have hxn:x.h.n≠0:=fun h0=>by
         have h1:=hk.2.2.2.1.s.len;rw[h0] at h1;exact p3 (List.eq_nil_of_length_eq_zero h1)
        have k1:wr.cell? ⟨b,off+i*4+1,none⟩=some (.int .i64 f):=by
         have:=hcell i x hx 1 _ rfl;rw[hxf] at this;exact this
        obtain ⟨hA9,hn9,hc9,k3,hn0⟩:∃(A9:Option Addr) (n9 c9:Nat),wr.cell? ⟨b,off+i*4+3,none⟩=some (.slice A9 n9 c9)∧n9≠0:=⟨x.h.A,x.h.n,x.h.c,hcell i x hx 3 _ rfl,hxn⟩;have hbl:b < wr.heap.size:=hb;rcases Nat.eq_zero_or_pos i with h00 | h00
        ·subst h00;rw[Nat.zero_mul,Nat.add_zero] at k1 k3;subst hA;clear hC hcell hx hf hcs hk p2 p3 hxf hxn hb hxl hll;go_upto_region 18 with fail
         refine Kah (by kernel_rfl) (by kernel_rfl) ?_
         repeat (go_big_quiet_step (fail))
         refine wpQuiet_nil ?_;rintro w2 ⟨⟨_,hb2⟩,rfl⟩;have HBN:Hid (Below w6.heap.size w6 w2):=HB.out.trans (hb2.mono HB.out.size);clear hb2 HB k1 k3 hbl;go_wp2_with fail
         go_roundg (n1 - 1)
         case measure=>omega
         case rel=>exact ⟨1,by first | rfl | go_num,by omega,HBN⟩
        ·obtain ⟨j,hj⟩:∃j,i=j+1:=⟨i - 1,by omega⟩;obtain ⟨y,hy⟩:∃y,xs[j]? = some y:=⟨xs[j]'(by omega),List.getElem?_eq_getElem _⟩;obtain ⟨g,hg⟩:∃g,L[j]? = some g:=⟨L[j]'(by omega),List.getElem?_eq_getElem _⟩;have hky:=hC.k j y hy;rw[hcs j g hg] at hky;have hyt:y.t=min (g+width) 1125899906842625:=hky.2.2.1.symm;have hle:=p2 g (by omega) (by rw[hj];exact hg);have hj1:(i:Int) - 1=(j:Int):=by omega
         have hj3:(j:Int) < (n1:Int):=by omega
         have hi0:0 < (i:Int):=by omega
         have hn1:(n1:Int)≤1048576:=by have:=HCO6.out.n;omega
         obtain ⟨tj,htj⟩:∃tj,tj=min (g+width) 1125899906842625:=⟨_,rfl⟩;rw[←htj] at hyt hle;have hnl:¬f < tj:=by omega
         have hnl2:decide (f < tj)=false:=decide_eq_false hnl
         have k2:wr.cell? ⟨b,off+j*4+2,none⟩=some (.int .i64 tj):=by
          have:=hcell j y hy 2 _ rfl;rw[hyt] at this;exact this
         subst hA;clear hC hcell hx hf hcs hk p2 p3 hxf hxn hb hxl hll hy hg hky hyt htj hj;go_upto_region 18 with fail
         refine Kah (by kernel_rfl) (by kernel_rfl) ?_
         repeat (go_big_quiet_step (fail))
         refine wpQuiet_nil ?_;rintro w2 ⟨⟨_,hb2⟩,rfl⟩;have HBN:Hid (Below w6.heap.size w6 w2):=HB.out.trans (hb2.mono HB.out.size);clear hb2 HB k1 k2 k3 hbl hj1 hj3 hi0 hnl hnl2;go_wp2_with fail
         go_roundg (n1 - (i+1))
         case measure=>omega
         case rel=>exact ⟨(i+1),by first | rfl | go_num,by omega,HBN⟩
       ·have hlz:¬(i:Int) < (n1:Int):=by omega
        clear hge hi;have hne:L≠[]:=fun e=>by have:=HLN.out;rw[e] at this;simp at this;omega
        have hps:=Qbd hw1 HL.out;have hza:=(HZ.out.sub (Kwl 0 ss)).m;have HCC:=Jh (Kjd none 0 0 [] A1 n1 c1 xs (Kbe width ss L) wr (HCO6.out.below HB.out) (Gones.nil wr) (HE.out.below (HB6.out.1.trans (HB.out.mono HB6.out.1.size))) (by omega) (by omega));have HOK:Hid (okAll (Kbe width ss L)=true):=Qbc HFIT.out;have HST:Hid (Kbr 0 [] (Kam ((Kbe width ss L).map Cont.series).flatten)=want):=by show _=_;rw[HWANT.out];exact Kxi hw1 HL.out
        have HR0:Hid ((outC (Kbe width ss L)).1=0):=Kqe hne;clear hps hza hne;go_wp2_with fail
        refine HCC.out.mono ?_;rintro e7 w7 ⟨hor,hb7⟩
        have hor2:∃(A':Option Addr) (n' c':Nat) (f t:Int),e7 = .returned (.tuple #[.agg #[.int .i64 0,.int .i64 f,.int .i64 t,.slice A' n' c'],.int .i64 0])∧Sers w7 A' n' want:=by
         rcases hor with ⟨h,_⟩ | ⟨_,A',n',c',he,hs,_⟩
         ·rcases h with h | h
          ·omega
          ·rw[HOK.out] at h;cases h
         ·rw[HR0.out] at he hs;rw[HST.out] at hs;exact ⟨A',n',c',_,_,he,hs⟩
        clear hor;obtain ⟨A8,n8,c8,f8,t8,rfl,hs8⟩:=hor2;have hn8:n8=n5:=by have:=hs8.len;have:=HN5.out;omega
        subst hn8;obtain ⟨w8,hw8⟩:∃y,y=w7.alloc (.cells #[.int .i64 0,.int .i64 f8,.int .i64 t8,.slice A8 n8 c8] 28):=⟨_,rfl⟩;have hb8:Below w7.heap.size w7 w8:=by rw[hw8];exact (Below.refl _ _).alloc (Nat.le_refl _) _
        have HBX:Hid (Blk w8 w7.heap.size 28 #[.int .i64 0,.int .i64 f8,.int .i64 t8,.slice A8 n8 c8]):=by show Blk _ _ _ _;rw[hw8];exact Blk.new _ _ _
        have hb68:Below w6.heap.size w6 w8:=by
         have h1:=HB.out.trans (hb7.mono HB.out.size);exact h1.trans (hb8.mono h1.size)
        have HB8:Hid (Below w.heap.size w w8):=HB6.out.1.trans (hb68.mono HB6.out.1.size);have HS68:Hid (Kdp w8 A6 n8 want):=HS6.out.below hb68;have HSR:=Jh (Kkl want A8 n8 c8 w8 (HZW.out.ok (hs8.below hb8)));have HW8:=Jh hw8;have q3:=HBX.out.cell 3;simp at q3;have ql:=HBX.out.lt;clear hw8 hb7 hb8 hb68 hs8 HCC HB;go_upto_region 22 with fail
        try rw[←HW8.out]
        clear HW8;go_wp2_with fail
        refine HSR.out.mono ?_;rintro _ w9 ⟨A9,c9,rfl,hs9,hb9⟩;have HB9:Hid (Below w.heap.size w w9):=HB8.out.trans (hb9.mono HB8.out.size);have hnz:n8≤1099511627776:=by have:=HZW.out.n;have:=HN5.out;omega
        have hrs:=Krc want want A9 A6 n8 n8 c9 c6 w9 hs9.s (HS68.out.below hb9).s hnz hnz hs9.sz (HS68.out.below hb9).sz;rw[decide_eq_true rfl] at hrs;have HRS:=Jh hrs;clear hrs;clear hs9 hb9 HSR q3 ql;go_wp2_with fail
        refine HRS.out.mono ?_;rintro _ w10 ⟨rfl,hb10⟩;have HB10:Hid (Below w.heap.size w w10):=HB9.out.trans (hb10.mono HB9.out.size);clear hb10 HRS;go_wp2_with fail
        go_ret
        exact ⟨rfl,HB10.out⟩
end
end
section
open Go.ChangeShapes Go.WideShapes Go.ChangeAt Go.RowKit Go.ChangeMaps
theorem Ksy {P:Program} {W:World} {x:String×DataW Unit} {r:List (String×DataW Unit)} (h:laidMet P (x :: r) W):laidMet P r W:=by
 obtain ⟨ps,⟨g,t,cs,f,p,q,hg,ht,hv,hd,hr,e⟩,hnd,hrows⟩:=h;subst e;refine ⟨q,hr,?_,fun b off hm=>hrows b off (by simp[hm])⟩
 first | exact (List.nodup_append.1 hnd).2.1 | exact (List.nodup_append.1 (List.nodup_append.1 hnd).2.1).2.1
theorem Kzl {W:World} (h:laidMet Tryz.prog Rows.blockBackRow.laid W):BEnv W:=by
 have h1:=Ksy h;have hdbT:Lib.TabIs Tryz.prog W "math/bits.deBruijn64tab" .u8 (Lib.deBruijn64tab.map fun n:Nat=>(n:Int)):=Lib.tabIs_of_head (g:=2) (t:=348) (e:=5) (n:=64) (by kernel_rfl) (by kernel_rfl) (by kernel_rfl) (by kernel_rfl) (by kernel_rfl) (by kernel_rfl) h;have hnibT:Lib.TabIs Tryz.prog W "almanac/enc.nibbles" .u32 [0,274646895,549293790,820201905,1098587580,1361435347,1640403810,1905808397,2197175160,2460548119,2722870694,2987750089,3280807620,3553878443,3811616794,4084100981]:=Lib.tabIs_of_head (g:=0) (t:=276) (e:=74) (n:=16) (by kernel_rfl) (by kernel_rfl) (by kernel_rfl) (by kernel_rfl) (by kernel_rfl) (by kernel_rfl) h1;refine ⟨fun i hi=>?_,fun i hi=>?_⟩
 ·rw[hnibT.cell (by kernel_rfl) i hi];rcases (by omega:i=0∨i=1∨i=2∨i=3∨i=4∨i=5∨i=6∨i=7∨i=8∨i=9∨i=10∨i=11∨i=12∨i=13∨i=14∨i=15) with rfl | rfl | rfl | rfl | rfl | rfl | rfl | rfl | rfl | rfl | rfl | rfl | rfl | rfl | rfl | rfl <;> rfl
 ·rw[hdbT.cell (by kernel_rfl) i (by rw[List.length_map];exact hi)];congr 2;rw[List.getD_eq_getElem?_getD,List.getElem?_map,List.getD_eq_getElem?_getD,List.getElem?_eq_getElem hi];rfl
def Qdg:DataW Unit→Array Value
 | .agg l=>(l.map fun | .lit (.int k v)=>Value.int k v | _=>undef).toArray
 | _=>#[]
noncomputable def Klz (os:Os):World:=
 let w0:=World.settled Tryz.prog os
 let tab (h:Array Obj) (g:Nat) (d:DataW Unit):Array Obj:=h.modify g fun
  | .cells _ t frozen=>.cells (Qdg d) t frozen
  | o=>o
 { w0 with heap:=tab (tab w0.heap 2 Rows.laid_math_bits_deBruijn64tab) 0 Rows.laid_almanac_enc_nibbles }
set_option maxRecDepth 1000000 in
theorem Qel (os:Os) (args:Array Value):laidMet Tryz.prog Rows.blockBackRow.laid ((Klz os).forCall (fun _ _=>0) ⟨#[],args,[]⟩).memory:=
 laidMet_of_run' 8 (by kernel_rfl) (by kernel_rfl)
theorem Qck:(Rows.compactBackUptoRow.inPlace == Tryz.pinned.checked.prog.inPlace 6)=true:=by kernel_rfl
theorem Qcl:(Rows.compactBackUptoRow.unfollowed == Tryz.pinned.checked.prog.unfollowed 6)=true:=by kernel_rfl
theorem Qcm:(Rows.compactBackUptoRow.recurses == Tryz.pinned.checked.prog.recurses 6)=true:=by kernel_rfl
theorem Qcn:(Rows.compactBackUptoRow.named == Tryz.pinned.checked.prog.varsNamed 6)=true:=by kernel_rfl
theorem Kun:joinedFacts Tryz.pinned.checked.prog 6 Tryz.f6 (Rows.OpenSpec.upto Rows.compactBackSpec).bare Rows.compactBackUptoRow=true:=by
 unfold joinedFacts;simp only[Bool.and_eq_true]
 repeat' apply And.intro
 all_goals first | with_reducible exact Qck | with_reducible exact Qcl | with_reducible exact Qcm | with_reducible exact Qcn | kernel_rfl
theorem Kup (os:Os) {H:Type} (enc:TypeId×Value→H):∃places,DataW.whole enc Tryz.prog ((Klz os).forCall (fun _ _=>0) ⟨#[],#[.int .i64 0,.slice none 0 0],[]⟩).memory Tryz.f6.params.toList Rows.compactBackSpec.vars false #[Value.int .i64 0,.slice none 0 0].toList 8=some ([.lit (.int .i64 0),.nil],[],places):=
 ⟨[],by kernel_rfl⟩
theorem Koi (H:Type) (enc:TypeId×Value→H) (W:World) (base:Nat) (args:Array Value) (ds gs:List (DataW H)) (before:List MemPlace)
  (hval0:∀(j:Nat) t v,Tryz.f6.params[j]? = some t→args[j]? = some v→Value.okWide Tryz.prog W .any base t v)
  (hW:DataW.Whole enc Tryz.prog Tryz.f6.params.toList Rows.compactBackSpec.vars false W args.toList ds gs before) (hsz0:(DataW.weightsEach Tryz.prog (Tryz.f6.params.toList++Rows.compactBackSpec.plain.varTypes Tryz.prog) (ds++gs)).all (·≤reachBytes)=true) (hk0:Rows.uptoSmall H (ds++gs)=true) (hL:laidMetH Tryz.prog Rows.compactBackRow.laid W) :
  Calls Tryz.prog 6 args W fun e W'=>∃v,e = .returned v∧Rows.compactBackSpec.post enc Tryz.prog Tryz.f6 false true false false W args v W':=by
 have hval:=hval0;have hW':=hW;have hsz:=hsz0;obtain ⟨p,q,hA0,hV,rfl,_,_⟩:=hW;have hA:DataW.TrodAll enc Tryz.prog W 0 (fun _=>true) true Tryz.f6.params.toList args.toList ds p:=hA0;rw[Tryz.params6] at hA hval hsz;obtain ⟨v0,v1,d0,d1,p0,p1,rfl,rfl,rfl,h0,h1⟩:=trodAll_two hA;obtain ⟨rfl,rfl⟩:=trodVars_none hV;clear hA0 hval0 hsz0;simp only[List.append_nil] at hW';simp only[List.append_nil] at hk0;have hbulk:=Qci hk0;simp only[Rows.uptoBulkAll,Nat.add_zero] at hbulk;have hlt:∀x∈p0++p1,x.block < W.heap.size:=fun x hx=>by simpa using hW'.lt x (by simpa using hx)
 have hargs:∀(W':World),Below W.heap.size W W'→DataW.TrodAll enc Tryz.prog W' 0 (fun b=>decide (b < W.heap.size)) true [2,26] [v0,v1] [d0,d1] (p0++p1):=
  fun W' hn=>trodAll_mk2 (Below.trod Tryz.laidOut (by kernel_rfl) (of_decide_eq_true (by kernel_rfl)) h0 hn (fun x hx=>hlt x (by simp[hx]))) (Below.trod Tryz.laidOut (by kernel_rfl) (of_decide_eq_true (by kernel_rfl)) h1 hn (fun x hx=>hlt x (by simp[hx])))
 obtain ⟨z0,rfl,rfl,rfl,hz0⟩:=open_int Tryz.underlying2 (hval 0 2 v0 rfl rfl) h0;obtain ⟨fu1,hf1⟩:=id h1;obtain ⟨x1,y1,z1,rfl⟩:=okWide_slice Tryz.underlying26 (hval 1 26 v1 rfl rfl);obtain ⟨A1,n1,c1,L1,he1,hA1,hS1,hv1,hb1⟩:=Kyj hf1;injection he1 with x1e y1e z1e;subst x1e y1e z1e;have hE:=Kzl hL;refine (Kky z0 x1 y1 z1 L1 W hS1 hA1 (Qgd hv1 (by dsimp only at *;omega)) hE).mono fun e W' ⟨he,hb⟩=>?_
 subst he;exact ⟨_,rfl,_,_,_,[],_,[],hW',trodAll_mk1 (shut_bool Tryz.underlying4 true),hargs _ hb,rfl,hb.frame _,fun h=>by cases h⟩
theorem Krw (os:Os) (started:os.Started) (H:Type) (enc:TypeId×Value→H) (F:Stop.Interp) :
  ReturnsInHanded {} Tryz.checked os 6 .any ((Rows.OpenSpec.upto Rows.compactBackSpec).preRow enc Tryz.prog Tryz.f6 Rows.compactBackUptoRow.domain false Rows.compactBackUptoRow.laid) (((Rows.OpenSpec.upto Rows.compactBackSpec).at F).post enc Tryz.prog Tryz.f6 false true false false):=by
 obtain ⟨places,hx⟩:=Kup os enc
 refine returnsInHanded_of_row (C:=Tryz.checked) (s:=Rows.OpenSpec.upto Rows.compactBackSpec) Tryz.own started (by kernel_rfl) Tryz.func6
  (witness_row_atRef (enc:=enc) (C:=Tryz.checked) false (Klz os) #[.int .i64 0,.slice none 0 0] rfl (by kernel_rfl) (by kernel_rfl) (by kernel_rfl)
   (OpenSpec.preRow_of_cond 8 hx (by kernel_rfl) (fun k hk=>by cases hk;kernel_rfl) (by kernel_rfl) (Qel os _))) ?_
 intro W base args ds gs before hval hW _ hcond hsz hL _ _;exact Koi H enc W base args ds gs before hval hW hsz (hcond _ rfl) hL
theorem Kxk:Rows.CompactBackUptoSaid:=
 OpenClaim.holds_of_cond 6 Tryz.f6 rfl rfl rfl rfl rfl rfl rfl ⟨rfl,rfl,rfl,rfl,rfl⟩ rfl rfl rfl rfl rfl (by kernel_rfl) Tryz.func6 Kun
  (of_decide_eq_true (by kernel_rfl)) (by unfold Func.isWrapper;first | (rw[if_pos (by decide +kernel)];kernel_rfl) | (rw[if_neg (by decide +kernel)];exact ⟨rfl,rfl⟩))
  (fun os started H enc _ F=>by rw[OpenClaim.pre_eq_preRow];exact Krw os started H enc F)
theorem Kuo (f:FuncId) (fn:Func) (hf:Tryz.pinned.checked.prog.funcNamed "almanac/almanaclaw23.CompactBack" = some f) (hfn:Tryz.pinned.checked.prog.funcs[f]? = some fn) :
  true = Tryz.pinned.checked.prog.looks []∧∀(j:Nat) t,fn.params[j]? = some t→Tryz.pinned.checked.prog.wantsStandIn t=false:=by
 obtain rfl:f = 6:=Option.some.inj ((show Tryz.prog.funcNamed "almanac/almanaclaw23.CompactBack" = some 6 by kernel_rfl).symm.trans hf) |>.symm;obtain rfl:fn = Tryz.f6:=(Option.some.inj (Tryz.func6.symm.trans hfn)).symm;refine ⟨by kernel_rfl,fun j t ht=>?_⟩;rw[Tryz.params6] at ht;have hm:t = 2∨t = 26:=by simpa using Array.mem_of_getElem? ht
 rcases hm with rfl | rfl
 ·exact (show Tryz.prog.wantsStandIn 2 = false by kernel_rfl)
 ·exact (show Tryz.prog.wantsStandIn 26 = false by kernel_rfl)
theorem compactBack_holds:Rows.CompactBackUptoCardSaid:=
 Claim7.holds_tied_plain_at .later [] _ _ _ _ Kxk (fun _ h=>by cases h) (by kernel_rfl) (fun _ h=>by cases h) compactBackUpto_row_tie rfl ⟨rfl,rfl⟩ (by kernel_rfl) rfl Kuo (by kernel_rfl)
end
end Go.Proofs.YtdoiekknhnbepaaGreatDoor
