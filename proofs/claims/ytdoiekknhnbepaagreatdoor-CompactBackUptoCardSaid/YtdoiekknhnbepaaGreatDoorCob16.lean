/- Merged (what the claim wants of): BlkFitB, BlkFitC, ChunkIter, BlkPartsW, Builder2. -/
import Derived.Test.YtdoiekknhnbepaaGreatDoorCob15
import Derived.Test.YtdoiekknhnbepaaGreatDoorCob07
import Derived.Test.YtdoiekknhnbepaaGreatDoorCob05
import Derived.RangeFuncLeaves
import Derived.RangeFuncBox
import Derived.Shelf.Abstract
import Derived.WalkKit
import Derived.OwnWalkIn
import Derived.TacticsInMore
import Derived.LoopNIn
import Derived.LoopIn
import Derived.RegionIn
import Derived.BigRegionIn
import Derived.Shelf.RegionOpen
import Derived.Maps.AppendAt
import Derived.Test.YtdoiekknhnbepaaGreatDoorCob02
import Derived.Test.YtdoiekknhnbepaaGreatDoorCob06
import Derived.RangeFuncCalls
import Derived.RangeFuncBound
import Derived.RangeFuncNested
import Derived.Test.YtdoiekknhnbepaaGreatDoorCob01
set_option linter.unusedVariables false
set_option linter.unusedSimpArgs false
set_option maxRecDepth 100000
set_option maxHeartbeats 8000000
namespace Go.Proofs.YtdoiekknhnbepaaGreatDoor
section
open Go.RowKit
open Lib renaming hid → Jh
attribute [local go_sem ↓] Go.wp_at_zero Go.wp_at_succ
attribute [local go_sem] Later.cell
theorem Khy.below {w w':World} {b:Nat} {h:Hd3} {x:Ser} (hs:Khy w b h x) (hb:Below w.heap.size w w'):Khy w' b h x:=⟨hs.1.below hb hs.1.lt,hs.2.below hb⟩
theorem Ksk (c:Cont) (hd:Hd) (s:Ser) (h:Hd3) (w:World) (hS:SerAt w h s) (hn:s.samples.length≤1099511627776) (hm:s.windows.length≤1099511627776) (hb:∀x∈s.windows,Kcs x) :
  Calls Tryz.prog 106 #[contV c.res c.frm c.to_ hd,.agg #[.slice h.l.A h.l.n h.l.c,.slice h.s.A h.s.n h.s.c,.slice h.w.A h.w.n h.w.c]] w fun e w'=>e = .returned (.bool (Kek c s))∧Below w.heap.size w w':=by
 have hmf:∀(fn:Fn) (first cap:Array Value) (w:World),(Instr.makeFunc fn first cap).run Tryz.prog w = .ok (.func fn first cap) w:=fun _ _ _ _=>rfl
 have hsn:s.samples.length=h.s.n:=hS.s.len;have hwn:s.windows.length=h.w.n:=hS.w.len;obtain ⟨r,hr⟩:∃r,c.res=r:=⟨_,rfl⟩;obtain ⟨f,hf⟩:∃f,c.frm=f:=⟨_,rfl⟩;obtain ⟨t,ht⟩:∃t,c.to_=t:=⟨_,rfl⟩;obtain ⟨R,hR⟩:∃R,Kek c s=R:=⟨_,rfl⟩;rw[hR,hr,hf,ht];rw[Kek,hr,hf,ht] at hR;have HR:=Jh hR;obtain ⟨q,hq⟩:∃q,w.heap.size=q:=⟨_,rfl⟩;have hb1:Below q w ((w.alloc (.cells #[.int .i64 r,.int .i64 f,.int .i64 t,.slice hd.A hd.n hd.c] 28)).alloc (.cells #[.slice h.l.A h.l.n h.l.c,.slice h.s.A h.s.n h.s.c,.slice h.w.A h.w.n h.w.c] 58)):=((Below.refl _ _).alloc (by omega) _).alloc (by simp;omega) _;have hk1:Blk ((w.alloc (.cells #[.int .i64 r,.int .i64 f,.int .i64 t,.slice hd.A hd.n hd.c] 28)).alloc (.cells #[.slice h.l.A h.l.n h.l.c,.slice h.s.A h.s.n h.s.c,.slice h.w.A h.w.n h.w.c] 58)) q 28 #[.int .i64 r,.int .i64 f,.int .i64 t,.slice hd.A hd.n hd.c]:=(Blk.newAt hq.symm).alloc _;have hs1:Blk ((w.alloc (.cells #[.int .i64 r,.int .i64 f,.int .i64 t,.slice hd.A hd.n hd.c] 28)).alloc (.cells #[.slice h.l.A h.l.n h.l.c,.slice h.s.A h.s.n h.s.c,.slice h.w.A h.w.n h.w.c] 58)) (q+1) 58 #[.slice h.l.A h.l.n h.l.c,.slice h.s.A h.s.n h.s.c,.slice h.w.A h.w.n h.w.c]:=Blk.newAt (by simp;omega);unfold contV;clear hr hf ht hR;go_enter Tryz.func106,Tryz.ntmps106
 go_upto_region 1 with fail
 obtain ⟨w1,hw1⟩:∃w1,(w.alloc (.cells #[.int .i64 r,.int .i64 f,.int .i64 t,.slice hd.A hd.n hd.c] 28)).alloc (.cells #[.slice h.l.A h.l.n h.l.c,.slice h.s.A h.s.n h.s.c,.slice h.w.A h.w.n h.w.c] 58)=w1:=⟨_,rfl⟩;rw[hw1] at hb1 hk1 hs1;rw[hw1]
 try rw[hq]
 have hsb:Khy w1 (q+1) h s:=⟨hs1,hS.below (hq.symm▸hb1)⟩;have HSB:=Jh hsb;have HQ:=Jh hq;have HB:=Jh hb1;have hqw:q+1 < w1.heap.size:=hs1.lt;clear hw1 hq hb1 hS hsb;have hlen1:(s.samples.map Smp.t).length=h.s.n:=by rw[List.length_map];exact hsn
 have hlen2:(s.windows.map Wnd.start).length=h.w.n:=by rw[List.length_map];exact hwn
 have HT1:=Jh (fun (w2:World) (hb:Below w1.heap.size w1 w2) (i:Nat) (hi:i < (s.samples.map Smp.t).length) (W:World) (hW:Below w2.heap.size w2 W)=>(show Calls Tryz.prog 163 #[.int .i64 (i:Int),.pointer (some ⟨q+1,0,none⟩)] W fun e w'=>e = .returned (.int .i64 (s.samples.map Smp.t)[i]!)∧W=w' by
  have:=Qbs W (q+1) h s ((HSB.out.below hb).below hW) (by omega) i (by omega)
  rwa[show (s.samples.map Smp.t)[i]! = (s.samples[i]!).t by rw[getElem!_pos _ i hi,List.getElem_map,getElem!_pos _ i (by omega)]]))
 have HT2:=Jh (fun (w2:World) (hb:Below w1.heap.size w1 w2) (i:Nat) (hi:i < (s.windows.map Wnd.start).length) (W:World) (hW:Below w2.heap.size w2 W)=>(show Calls Tryz.prog 164 #[.int .i64 (i:Int),.pointer (some ⟨q+1,0,none⟩)] W fun e w'=>e = .returned (.int .i64 (s.windows.map Wnd.start)[i]!)∧W=w' by
  have:=Qbt W (q+1) h s ((HSB.out.below hb).below hW) (by omega) i (by omega)
  rwa[show (s.windows.map Wnd.start)[i]! = (s.windows[i]!).start by rw[getElem!_pos _ i hi,List.getElem_map,getElem!_pos _ i (by omega)]]))
 have HW1:=Jh (fun (w2:World) (hb:Below w1.heap.size w1 w2)=>Kkr r f t hd (s.samples.map Smp.t) 163 (q+1) w2 (by omega) (enters_of Tryz.func163 (by kernel_rfl) rfl) (HT1.out w2 hb));have HW2:=Jh (fun (w2:World) (hb:Below w1.heap.size w1 w2)=>Kkr r f t hd (s.windows.map Wnd.start) 164 (q+1) w2 (by omega) (enters_of Tryz.func164 (by kernel_rfl) rfl) (HT2.out w2 hb));rw[hlen1] at HW1;rw[hlen2] at HW2;unfold contV at HW1 HW2;obtain ⟨b1,hb1⟩:∃b,Kdj f t (s.samples.map Smp.t)=b:=⟨_,rfl⟩;obtain ⟨b2,hb2⟩:∃b,Kdj f t (s.windows.map Wnd.start)=b:=⟨_,rfl⟩;rw[hb1] at HW1 HR;rw[hb2] at HW2 HR;rw[hwn,hsn] at HR;have k0:w1.cell? ⟨q,0,none⟩=some (.int .i64 r):=hk1.cell 0;have k1:w1.cell? ⟨q,1,none⟩=some (.int .i64 f):=hk1.cell 1;have k2:w1.cell? ⟨q,2,none⟩=some (.int .i64 t):=hk1.cell 2;have k3:w1.cell? ⟨q,3,none⟩=some (.slice hd.A hd.n hd.c):=hk1.cell 3;have s1:w1.cell? ⟨q+1,1,none⟩=some (.slice h.s.A h.s.n h.s.c):=hs1.cell 1;have s2:w1.cell? ⟨q+1,2,none⟩=some (.slice h.w.A h.w.n h.w.c):=hs1.cell 2;have HEA:=Jh (HSB.out.2.w);have HA:=Jh (Kjb s.windows h.w.A h.w.n h.w.c w1 HSB.out.2.w (by omega) hb);clear hlen1 hlen2 hb1 hb2
 by_cases h0:r=0
 ·subst h0;have hRR:=HR.out;rw[if_pos rfl] at hRR
  by_cases hw0:h.w.n=0
  ·have e0:decide ((h.w.n:Int)=0)=true:=by rw[decide_eq_true_eq];omega
   rw[hw0] at hRR;have hre:R=b1:=by rw[←hRR];simp
   have HRE:=Jh hre;have HC:=Jh (HW1.out w1 (Below.refl _ _));rw[hw0] at s2;clear hRR hre;go_wp2_with fail
   refine HC.out.mono ?_;rintro _ w3 ⟨rfl,h3⟩;go_wp2_with fail
   go_ret
   rw[HRE.out];exact ⟨rfl,by rw[HQ.out];exact HB.out.trans (h3.mono (by omega))⟩
  ·have e0:decide ((h.w.n:Int)=0)=false:=by rw[decide_eq_false_iff_not];omega
   have e1:((h.w.n:Int) == 0)=false:=by simp;omega
   have hre:R=false:=by rw[←hRR,decide_eq_false hw0];rfl
   clear hRR;go_wp2_with fail
   go_ret
   try rw[hre]
   exact ⟨rfl,by rw[HQ.out];exact HB.out⟩
 ·have e0:decide (r=0)=false:=decide_eq_false h0;have e1:(r == 0)=false:=by simp;omega
  have hRR:=HR.out;rw[if_neg h0] at hRR;obtain ⟨T,k,hco⟩:∃T k,aggO s.windows=(T,k):=⟨_,_,rfl⟩;rw[hco] at HA
  have hk:k=0↔Kfi wnd0 true s.windows=true:=by
   rw[←Kjl];unfold aggO at hco
   split at hco
   ·rename_i hz
    injection hco with _ h2;rw[←h2,hz]
   ·injection hco with _ h2;rw[←h2]
  dsimp only at HA;obtain ⟨X,hX⟩:∃X:ByteArray,(⟨T.toArray⟩:ByteArray)=X:=⟨_,rfl⟩;rw[hX] at HA;have HRR:=Jh hRR;have HK:=Jh hk;clear hco hX hRR hk;have HK1:=Jh hk1;have HS1:=Jh hs1;go_wp2_with fail
  refine HA.out.mono ?_;rintro _ w2 ⟨rfl,h2⟩;have HC:=Jh (HW2.out w2 h2);have g2:=HS1.out.below h2 HS1.out.lt;have f2:=HK1.out.below h2 HK1.out.lt;have k0:w2.cell? ⟨q,0,none⟩=some (.int .i64 r):=f2.cell 0;have k1:w2.cell? ⟨q,1,none⟩=some (.int .i64 f):=f2.cell 1;have k2:w2.cell? ⟨q,2,none⟩=some (.int .i64 t):=f2.cell 2;have k3:w2.cell? ⟨q,3,none⟩=some (.slice hd.A hd.n hd.c):=f2.cell 3;have s1:w2.cell? ⟨q+1,1,none⟩=some (.slice h.s.A h.s.n h.s.c):=g2.cell 1;have s2:w2.cell? ⟨q+1,2,none⟩=some (.slice h.w.A h.w.n h.w.c):=g2.cell 2;have HB2:=Jh (HB.out.trans (h2.mono (by omega)));clear f2 g2 h2
  by_cases hk0:k=0
  ·subst hk0
   by_cases hs0:h.s.n=0
   ·have hre:R=b2:=by rw[←HRR.out,HK.out.1 rfl,hs0];simp
    have HRE:=Jh hre;rw[hs0] at s1;clear hre;go_wp2_with fail
    refine HC.out.mono ?_;rintro _ w3 ⟨rfl,h3⟩;go_wp2_with fail
    go_ret
    rw[HRE.out];exact ⟨rfl,by rw[HQ.out];exact HB2.out.trans (h3.mono (by have:=HB2.out.size;have:=HQ.out;omega))⟩
   ·have e2:decide ((h.s.n:Int)=0)=false:=by rw[decide_eq_false_iff_not];omega
    have e3:((h.s.n:Int) == 0)=false:=by simp;omega
    have hre:R=false:=by rw[←HRR.out,decide_eq_false hs0];simp
    go_wp2_with fail
    go_ret
    try rw[hre]
    exact ⟨rfl,by rw[HQ.out];exact HB2.out⟩
  ·have e2:((k:Int) == 0)=false:=by simp;omega
   have e3:decide ((k:Int)=0)=false:=by rw[decide_eq_false_iff_not];omega
   have hf:Kfi wnd0 true s.windows=false:=by
    rw[Bool.eq_false_iff];exact fun h=>hk0 (HK.out.2 h)
   have hre:R=false:=by rw[←HRR.out,hf];rfl
   clear hf;go_wp2_with fail
   go_ret
   try rw[hre]
   exact ⟨rfl,by rw[HQ.out];exact HB2.out⟩
structure SerSz (s:Ser):Prop where
 n:s.samples.length≤1099511627776
 m:s.windows.length≤1099511627776
 l:s.labels.length≤1099511627776
 v:∀x∈s.samples,x.v < 2 ^ 64
 b:∀x∈s.windows,Kcs x
 z:∀x∈s.labels,x.n.length≤1099511627776∧x.v.length≤1099511627776
def okAt (c:Cont) (i:Nat):Bool:=Kdb (c.series[i]!).labels && ((decide (i=0) || decide (cmpL (c.series[i - 1]!).labels (c.series[i]!).labels < 0)) && Kek c (c.series[i]!))
theorem Kxa:∀l:List Ser,ordS l=true↔∀i,i+1 < l.length→cmpL (l[i]!).labels (l[i+1]!).labels < 0
 | []=>by simp[ordS]
 | [_]=>by simp[ordS]
 | a :: b :: l=>by
  rw[ordS,Bool.and_eq_true,decide_eq_true_eq,Kxa (b :: l)];constructor
  ·rintro ⟨h1,h2⟩ i hi
   cases i with
   | zero=>simpa using h1
   | succ i=>simpa using h2 i (by simpa using hi)
  ·intro h;refine ⟨by simpa using h 0 (by simp),fun i hi=>?_⟩;simpa using h (i+1) (by simpa using hi)
theorem Qeu (c:Cont):fitB c=true↔(0≤c.res∧c.res < 3∧0≤c.frm∧c.frm < c.to_∧c.to_≤1125899906842625)∧∀i,i < c.series.length→okAt c i=true:=by
 rw[Kgu,Kxa];constructor
 ·rintro ⟨h1,h2,h3,h4,h5,h6,h7⟩;refine ⟨⟨h1,h2,h3,h4,h5⟩,fun i hi=>?_⟩;have hm:=h6 c.series[i]! (by rw[getElem!_pos _ i hi];exact List.getElem_mem hi);unfold okAt;rw[hm.1,hm.2,Bool.true_and,Bool.and_true,Bool.or_eq_true,decide_eq_true_eq,decide_eq_true_eq]
  cases i with
  | zero=>exact .inl rfl
  | succ i=>exact .inr (h7 i hi)
 ·rintro ⟨⟨h1,h2,h3,h4,h5⟩,h6⟩;refine ⟨h1,h2,h3,h4,h5,fun s hs=>?_,fun i hi=>?_⟩
  ·obtain ⟨i,hi,rfl⟩:=List.getElem_of_mem hs;have:=h6 i hi;unfold okAt at this;rw[Bool.and_eq_true,Bool.and_eq_true,getElem!_pos _ i hi] at this;exact ⟨this.1,this.2.2⟩
  ·have:=h6 (i+1) hi;unfold okAt at this;rw[Bool.and_eq_true,Bool.and_eq_true,Bool.or_eq_true,decide_eq_true_eq,decide_eq_true_eq] at this;rcases this.2.1 with h | h
   ·omega
   ·exact h
theorem Qaa (c:Cont) (hd:Hd) (w:World) (hS:Sers w hd.A hd.n c.series) (hz:∀s∈c.series,SerSz s) (hn:hd.n≤1099511627776) :
  Calls Tryz.prog 38 #[contV c.res c.frm c.to_ hd] w fun e w'=>e = .returned (.bool (fitB c))∧Below w.heap.size w w':=by
 have hlen:c.series.length=hd.n:=hS.len;obtain ⟨r,hr⟩:∃r,c.res=r:=⟨_,rfl⟩;obtain ⟨f,hf⟩:∃f,c.frm=f:=⟨_,rfl⟩;obtain ⟨t,ht⟩:∃t,c.to_=t:=⟨_,rfl⟩;obtain ⟨R,hR⟩:∃R,fitB c=R:=⟨_,rfl⟩;have hat:=Qeu c;have hfs:=fun (s:Ser) (h:Hd3) (w:World) (hs:SerAt w h s) (hz:SerSz s)=>Ksk c hd s h w hs hz.n hz.m hz.b
 unfold contV at hfs;rw[hR,hr,hf,ht,hlen] at hat;rw[hR,hr,hf,ht];rw[hr,hf,ht] at hfs;obtain ⟨A,hA⟩:∃A,hd.A=A:=⟨_,rfl⟩;obtain ⟨n,hn'⟩:∃n,hd.n=n:=⟨_,rfl⟩;obtain ⟨cc,hcc⟩:∃cc,hd.c=cc:=⟨_,rfl⟩;unfold contV;rw[hA,hn',hcc] at hfs;rw[hA,hn'] at hS;rw[hn'] at hat hn hlen;rw[hA,hn',hcc];have HFS:=Jh hfs;have HAT:=Jh hat;have HS:=Jh hS;have HZ:=Jh hz;obtain ⟨q,hq⟩:∃q,w.heap.size=q:=⟨_,rfl⟩;have hb1:Below q w (w.alloc (.cells #[.int .i64 r,.int .i64 f,.int .i64 t,.slice A n cc] 28)):=(Below.refl _ _).alloc (by omega) _;have hk1:Blk (w.alloc (.cells #[.int .i64 r,.int .i64 f,.int .i64 t,.slice A n cc] 28)) q 28 #[.int .i64 r,.int .i64 f,.int .i64 t,.slice A n cc]:=Blk.newAt hq.symm;clear hfs hat hS hz hA hn' hcc hr hf ht hR;go_enter Tryz.func38,Tryz.ntmps38
 go_upto_region 1 with fail
 obtain ⟨w1,hw1⟩:∃w1,w.alloc (.cells #[.int .i64 r,.int .i64 f,.int .i64 t,.slice A n cc] 28)=w1:=⟨_,rfl⟩;rw[hw1] at hb1 hk1;rw[hw1]
 try rw[hq]
 have HQ:=Jh hq;have HB:=Jh hb1;have HK:=Jh hk1;have hqw:q < w1.heap.size:=hk1.lt;have k0:w1.cell? ⟨q,0,none⟩=some (.int .i64 r):=hk1.cell 0;have k1:w1.cell? ⟨q,1,none⟩=some (.int .i64 f):=hk1.cell 1;have k2:w1.cell? ⟨q,2,none⟩=some (.int .i64 t):=hk1.cell 2;have k3:w1.cell? ⟨q,3,none⟩=some (.slice A n cc):=hk1.cell 3;clear hw1 hq hb1 hk1
 have no:∀(h:¬(0≤r∧r < 3∧0≤f∧f < t∧t≤1125899906842625)),R=false:=fun h=>by
  rw[Bool.eq_false_iff];exact fun hR=>h (HAT.out.1 hR).1
 have NO:=Jh no;clear no
 by_cases h1:r < 0
 ·have hre:=NO.out (by omega);have e1:decide (r < 0)=true:=decide_eq_true h1;go_wp2_with fail
  go_ret
  try rw[hre]
  exact ⟨rfl,by rw[HQ.out];exact HB.out⟩
 have e1:decide (r < 0)=false:=decide_eq_false h1
 by_cases h2:3≤r
 ·have hre:=NO.out (by omega);have e2:decide (3≤r)=true:=decide_eq_true h2;go_wp2_with fail
  go_ret
  try rw[hre]
  exact ⟨rfl,by rw[HQ.out];exact HB.out⟩
 have e2:decide (3≤r)=false:=decide_eq_false h2
 by_cases h3:f < 0
 ·have hre:=NO.out (by omega);have e3:decide (f < 0)=true:=decide_eq_true h3;go_wp2_with fail
  go_ret
  try rw[hre]
  exact ⟨rfl,by rw[HQ.out];exact HB.out⟩
 have e3:decide (f < 0)=false:=decide_eq_false h3
 by_cases h4:t≤f
 ·have hre:=NO.out (by omega);have e4:decide (t≤f)=true:=decide_eq_true h4;go_wp2_with fail
  go_ret
  try rw[hre]
  exact ⟨rfl,by rw[HQ.out];exact HB.out⟩
 have e4:decide (t≤f)=false:=decide_eq_false h4
 by_cases h5:1125899906842625 < t
 ·have hre:=NO.out (by omega);have e5:decide (1125899906842625 < t)=true:=decide_eq_true h5;go_wp2_with fail
  go_ret
  try rw[hre]
  exact ⟨rfl,by rw[HQ.out];exact HB.out⟩
 have e5:decide (1125899906842625 < t)=false:=decide_eq_false h5
 have hat2:R=true↔∀i,i < n→okAt c i=true:=by
  rw[HAT.out];exact ⟨fun h=>h.2,fun h=>⟨by omega,h⟩⟩
 have HA2:=Jh hat2;clear hat2;go_wp2_with fail
 go_loopg [33] n (fun g s33 wr=>∃i:Nat,i+g=n∧s33 = .int .i64 (i:Int)∧Below (q+1) w1 wr∧∀j,j < i→okAt c j=true)
 case atStart=>exact ⟨0,by omega,rfl,Below.refl _ _,fun j hj=>by omega⟩
 case round=>
  obtain ⟨i,hi,rfl,hbr,hall⟩:=hrel;have HALL:=Jh hall;have HBR:=Jh hbr;clear hall;have kb:=HK.out.below hbr (by omega);have k0:wr.cell? ⟨q,0,none⟩=some (.int .i64 r):=kb.cell 0;have k1:wr.cell? ⟨q,1,none⟩=some (.int .i64 f):=kb.cell 1;have k2:wr.cell? ⟨q,2,none⟩=some (.int .i64 t):=kb.cell 2;have k3:wr.cell? ⟨q,3,none⟩=some (.slice A n cc):=kb.cell 3;have hqr:=kb.lt;have HBW:Hid (Below q w wr):=Jh (HB.out.trans (hbr.mono (by omega)))
  cases gk with
  | zero=>
   have el:decide (i < n)=false:=by rw[decide_eq_false_iff_not];omega
   have hre:R=true:=HA2.out.2 (fun j hj=>HALL.out j (by omega));go_wp2_with fail
   go_ret
   try rw[hre]
   exact ⟨rfl,by rw[HQ.out];exact HBW.out⟩
  | succ gk=>
   have el:decide (i < n)=true:=by rw[decide_eq_true_eq];omega
   have hSr:=HS.out.below (HQ.out.symm▸HBW.out);obtain ⟨bb,off,x,rfl,hbb,c0,c1,c2,hx⟩:=hSr.at_ (i:=i) (by omega);have hil:i < c.series.length:=by omega
   have hzi:=HZ.out (c.series[i]!) (by rw[getElem!_pos _ i hil];exact List.getElem_mem hil);go_upto_region 6 with fail
   have hr4:Blk (wr.alloc (.cells #[.slice x.l.A x.l.n x.l.c,.slice x.s.A x.s.n x.s.c,.slice x.w.A x.w.n x.w.c] 58)) wr.heap.size 58 #[.slice x.l.A x.l.n x.l.c,.slice x.s.A x.s.n x.s.c,.slice x.w.A x.w.n x.w.c]:=Blk.new _ _ _;have hb4:Below wr.heap.size wr (wr.alloc (.cells #[.slice x.l.A x.l.n x.l.c,.slice x.s.A x.s.n x.s.c,.slice x.w.A x.w.n x.w.c] 58)):=(Below.refl _ _).alloc (Nat.le_refl _) _;obtain ⟨w4,hw4⟩:∃w4,wr.alloc (.cells #[.slice x.l.A x.l.n x.l.c,.slice x.s.A x.s.n x.s.c,.slice x.w.A x.w.n x.w.c] 58)=w4:=⟨_,rfl⟩;obtain ⟨p,hp⟩:∃p,wr.heap.size=p:=⟨_,rfl⟩;rw[hw4] at hr4 hb4;rw[hw4];rw[hp] at hr4
   try rw[hp]
   have HX4:=Jh (hx.below hb4);have kb4:=kb.below hb4 kb.lt;have k0:w4.cell? ⟨q,0,none⟩=some (.int .i64 r):=kb4.cell 0;have k1:w4.cell? ⟨q,1,none⟩=some (.int .i64 f):=kb4.cell 1;have k2:w4.cell? ⟨q,2,none⟩=some (.int .i64 t):=kb4.cell 2;have k3:w4.cell? ⟨q,3,none⟩=some (.slice (some ⟨bb,off,none⟩) n cc):=kb4.cell 3;have r0:w4.cell? ⟨p,0,none⟩=some (.slice x.l.A x.l.n x.l.c):=hr4.cell 0;have r1:w4.cell? ⟨p,1,none⟩=some (.slice x.s.A x.s.n x.s.c):=hr4.cell 1;have r2:w4.cell? ⟨p,2,none⟩=some (.slice x.w.A x.w.n x.w.c):=hr4.cell 2;have hq4:=kb4.lt;have hp4:=hr4.lt;have hbb4:bb < w4.heap.size:=by have:=hb4.size;omega
   have HSr4:=Jh (hSr.below hb4);have HBR4:Hid (Below (q+1) w1 w4):=Jh (HBR.out.trans (hb4.mono (by omega)));have HBW4:Hid (Below q w w4):=Jh (HBW.out.trans (hb4.mono (by omega)));have ha:=HA2.out
   have bad:okAt c i=false→R=false:=fun h=>by
    rw[Bool.eq_false_iff];intro hR;have:=ha.1 hR i (by omega);rw[h] at this;cases this
   have BAD:=Jh bad;have hxl:(c.series[i]!).labels.length=x.l.n:=hx.l.len;have hzl:=hzi.l;obtain ⟨sr,hsr⟩:∃sr,c.series[i]! = sr:=⟨_,rfl⟩;have hoki:okAt c i=(Kdb sr.labels && ((decide (i=0) || decide (cmpL (c.series[i - 1]!).labels sr.labels < 0)) && Kek c sr)):=by unfold okAt;rw[hsr]
   rw[hsr] at HX4 hzi hxl hzl;obtain ⟨vl,hvl⟩:∃b,Kdb sr.labels=b:=⟨_,rfl⟩;obtain ⟨fs,hfs⟩:∃b,Kek c sr=b:=⟨_,rfl⟩;rw[hvl,hfs] at hoki;have HOK:=Jh hoki;have HV:=Jh (fun y:Later w4=>Khx sr.labels x.l.A x.l.n x.l.c y.w vl hvl (HX4.out.below y.h).l HX4.out.lc (by omega) (fun z hz=>by have:=hzi.z z hz;omega));have HF:=Jh (fun y:Later w4=>HFS.out sr x y.w (HX4.out.below y.h) hzi);rw[hfs] at HF
   have HLA:Hid (∀j,i=j+1→∃y:Hd3,w4.cell? ⟨bb,off+j*3,none⟩=some (.slice y.l.A y.l.n y.l.c)∧SerAt w4 y (c.series[j]!)):=Jh (fun j hj=>by
    obtain ⟨b2,off2,y,e,_,d0,_,_,hy⟩:=HSr4.out.at_ (i:=j) (by omega);injection e with e;injection e with e1 e2;subst e1 e2
    exact ⟨y,d0,hy⟩)
   have HBR9:Hid (∀w5,Below w4.heap.size w4 w5→Below (q+1) w1 w5∧Below q w w5):=Jh (fun w5 hb5=>⟨HBR4.out.trans (hb5.mono (by omega)),HBW4.out.trans (hb5.mono (by omega))⟩);clear hr4 hb4 hw4 hp hx kb4 kb ha bad hvl hfs hoki hSr c0 c1 c2 hsr
   cases vl with
   | false=>
    have hre:R=false:=BAD.out (by rw[HOK.out];rfl);have HRE:=Jh hre;clear hre;refine Kah (by kernel_rfl) (by kernel_rfl) ?_
    repeat (go_big_quiet_step ((first | (go_at_call 105;exact Kal _ (HV.out _)) | (go_at_call 60;exact Kal _ (HC.out _)) | (go_at_call 106;exact Kal _ (HF.out _)))))
    refine wpQuiet_nil ?_;rintro w5 ⟨⟨_,hb5⟩,rfl⟩;go_wp2_with fail
    go_ret
    try rw[HRE.out]
    exact ⟨rfl,by rw[HQ.out];exact (HBR9.out _ hb5).2⟩
   | true=>
    by_cases hi0:i=0
    ·subst hi0
     cases fs with
     | false=>
      have hre:R=false:=BAD.out (by rw[HOK.out];rfl);have HRE:=Jh hre;clear hre;refine Kah (by kernel_rfl) (by kernel_rfl) ?_
      repeat (go_big_quiet_step ((first | (go_at_call 105;exact Kal _ (HV.out _)) | (go_at_call 60;exact Kal _ (HC.out _)) | (go_at_call 106;exact Kal _ (HF.out _)))))
      refine wpQuiet_nil ?_;rintro w5 ⟨⟨_,hb5⟩,rfl⟩;go_wp2_with fail
      go_ret
      try rw[HRE.out]
      exact ⟨rfl,by rw[HQ.out];exact (HBR9.out _ hb5).2⟩
     | true=>
      have hoi:okAt c 0=true:=by rw[HOK.out];rfl
      have HOI:=Jh hoi;clear hoi;refine Kah (by kernel_rfl) (by kernel_rfl) ?_
      repeat (go_big_quiet_step ((first | (go_at_call 105;exact Kal _ (HV.out _)) | (go_at_call 60;exact Kal _ (HC.out _)) | (go_at_call 106;exact Kal _ (HF.out _)))))
      refine wpQuiet_nil ?_;rintro w5 ⟨⟨_,hb5⟩,rfl⟩;go_wp2_with fail
      go_roundg gk
      case measure=>omega
      case rel=>
       refine ⟨0+1,by omega,by go_num,(HBR9.out _ hb5).1,fun k hk=>?_⟩
       by_cases e:k=0
       ·rw[e];exact HOI.out
       ·exact HALL.out k (by omega)
    ·obtain ⟨j,rfl⟩:∃j,i=j+1:=⟨i - 1,by omega⟩;obtain ⟨y,d0,hy⟩:=HLA.out j rfl;have hj1:((j+1:Nat):Int) - 1=(j:Int):=by omega
     have hj2:((j:Int)+1) - 1=(j:Int):=by omega
     obtain ⟨cm,hcm⟩:∃b,cmpL (c.series[j]!).labels sr.labels=b:=⟨_,rfl⟩;have hok2:=HOK.out;rw[show j+1 - 1=j from rfl,hcm,show decide (j+1=0)=false from rfl] at hok2;have HOK2:=Jh hok2;have hyl:(c.series[j]!).labels.length=y.l.n:=hy.l.len;have hzj:=(HZ.out (c.series[j]!) (by rw[getElem!_pos _ j (by omega)];exact List.getElem_mem _)).l;have HC:=Jh (fun z:Later w4=>Kot (c.series[j]!).labels sr.labels y.l.A x.l.A y.l.n x.l.n y.l.c x.l.c z.w cm hcm (hy.below z.h).l (HX4.out.below z.h).l (by omega) (by omega));clear hok2 hcm hy
     by_cases hc0:0≤cm
     ·have e6:decide (0≤cm)=true:=decide_eq_true hc0;have hre:R=false:=BAD.out (by rw[HOK2.out,decide_eq_false (by omega)];rfl);have HRE:=Jh hre;clear hre;refine Kah (by kernel_rfl) (by kernel_rfl) ?_
      repeat (go_big_quiet_step ((first | (go_at_call 105;exact Kal _ (HV.out _)) | (go_at_call 60;exact Kal _ (HC.out _)) | (go_at_call 106;exact Kal _ (HF.out _)))))
      refine wpQuiet_nil ?_;rintro w5 ⟨⟨_,hb5⟩,rfl⟩;go_wp2_with fail
      go_ret
      try rw[HRE.out]
      exact ⟨rfl,by rw[HQ.out];exact (HBR9.out _ hb5).2⟩
     ·have e6:decide (0≤cm)=false:=decide_eq_false hc0;have hc1:decide (cm < 0)=true:=decide_eq_true (by omega);have HC1:=Jh hc1;clear hc1
      cases fs with
      | false=>
       have hre:R=false:=BAD.out (by rw[HOK2.out,HC1.out];rfl);have HRE:=Jh hre;clear hre;refine Kah (by kernel_rfl) (by kernel_rfl) ?_
       repeat (go_big_quiet_step ((first | (go_at_call 105;exact Kal _ (HV.out _)) | (go_at_call 60;exact Kal _ (HC.out _)) | (go_at_call 106;exact Kal _ (HF.out _)))))
       refine wpQuiet_nil ?_;rintro w5 ⟨⟨_,hb5⟩,rfl⟩;go_wp2_with fail
       go_ret
       try rw[HRE.out]
       exact ⟨rfl,by rw[HQ.out];exact (HBR9.out _ hb5).2⟩
      | true=>
       have hoi:okAt c (j+1)=true:=by rw[HOK2.out,HC1.out];rfl
       have HOI:=Jh hoi;clear hoi;refine Kah (by kernel_rfl) (by kernel_rfl) ?_
       repeat (go_big_quiet_step ((first | (go_at_call 105;exact Kal _ (HV.out _)) | (go_at_call 60;exact Kal _ (HC.out _)) | (go_at_call 106;exact Kal _ (HF.out _)))))
       refine wpQuiet_nil ?_;rintro w5 ⟨⟨_,hb5⟩,rfl⟩;go_wp2_with fail
       go_roundg gk
       case measure=>omega
       case rel=>
        refine ⟨(j+1)+1,by omega,by go_num,(HBR9.out _ hb5).1,fun k hk=>?_⟩
        by_cases e:k=(j+1)
        ·rw[e];exact HOI.out
        ·exact HALL.out k (by omega)
end
section
open Go.RowKit Go.Shelf
attribute [local go_sem] Oper.semAt_some
abbrev Pc (len:Nat):={ k:Nat // k*120 < len }
def pcV (A:Option Addr) (len:Nat) (k:Nat):Value:=.slice (A.map (·.add (k*120*2))) (Nat.min 120 (len - k*120)) (Nat.min 120 (len - k*120))
def KpC (Bs Bn:Nat) (W W':World):Prop:=W'.heap[Bs]? = W.heap[Bs]?∧W'.heap[Bn]? = W.heap[Bn]?
theorem KpC.trans {Bs Bn:Nat} {A B C:World} (h:KpC Bs Bn A B) (k:KpC Bs Bn B C):KpC Bs Bn A C:=⟨k.1.trans h.1,k.2.trans h.2⟩
theorem KpC.put {Bs Bn B:Nat} (hs:Bs < B) (hn:Bn < B) (W:World) (l:Nat) (o':Obj) (hl:B≤l):KpC Bs Bn W (W.putObj l o'):=⟨World.putObj_heap_other (by omega),World.putObj_heap_other (by omega)⟩
theorem Kvw {α : Type} {w:World} {B sz n:Nat} {enc:α→List Value} {A:Option Addr} {xs:List α} (h:Elems w B sz enc A n xs) {k:Nat} (hk:k < n) (m:Nat) (hm:m≤n - k) :
  Elems w B sz enc (A.map (·.add (k*sz))) m ((xs.drop k).take m):=by
 have h2:=h.cut (k:=k) (cap:=n) (by omega) (Nat.le_refl _);rw[if_neg (by omega)] at h2;refine ⟨by rw[List.length_take,List.length_drop,h.len];omega,fun hn=>?_⟩;obtain ⟨b,off,e,hb,hc⟩:=h2.2 (by omega);refine ⟨b,off,e,hb,fun i x hx j v hv=>hc i x ?_ j v hv⟩;rw[List.getElem?_take] at hx
 split at hx
 ·exact hx
 ·cases hx
theorem Kzn (F:Fence) (n:Nat) (h7:F.fn 170) (hro:F.round=none) (hn:1≤n) (l Bs Bn:Nat) (A:Option Addr) (len cap:Nat) (hcap:len≤cap) (hreach:len≤140737488351232) (hA:0 < len→∃b off,A=some ⟨b,off,none⟩) (J Jx:List (Pc len)→World→Prop) (hJd:∀pre W,J pre W→J pre W.drew)
  (hY:∀pre x W,J pre W→pre.length < (len+119) / 120→YieldAt F (n - 1) Tryz.prog l #[pcV A len x.1] W fun e W'=>
   (e = .returned (.bool true)∧J (pre ++ [x]) W'∧KpC Bs Bn W W')∨(e = .returned (.bool false)∧Jx (pre ++ [x]) W'))
  (W:World) (hBs:W.cell? ⟨Bs,0,none⟩=some (.slice A len cap)) (hBn:W.cell? ⟨Bn,0,none⟩=some (.int .i64 120)) (h0:J [] W) :
  CallsIn F n Tryz.prog 170 #[.func (.yield l) #[] #[],.pointer (some ⟨Bs,0,none⟩),.pointer (some ⟨Bn,0,none⟩)] W fun e W'=>(∃v,e = .returned v)∧
   ((∃ys:List (Pc len),ys.map (·.1)=List.range ((len+119) / 120)∧J ys W')∨(∃pre:List (Pc len),True∧Jx pre W')):=by
 refine callsIn_of_wp Tryz.func170 rfl h7 ?_ hro;simp only[Tryz.ntmps170,List.size_toArray,List.length_cons,List.length_nil,Nat.reduceAdd,Nat.reduceSub,Array.replicate_succ,Array.replicate_zero,List.push_toArray,List.append_toArray,List.nil_append,List.cons_append]
 gi_wp2
 gi_loopw [4] (fun i wr=>∃(k:Nat) (pre:List (Pc len)),i = .int .i64 ((k*120:Nat):Int)∧k≤(len+119) / 120∧pre.map (·.1)=List.range k∧J pre wr∧KpC Bs Bn W wr)
  (fun i _=>len+120 - (intOf i).toNat)
 case atStart=>exact ⟨0,[],rfl,Nat.zero_le _,rfl,h0,rfl,rfl⟩
 case round=>
  obtain ⟨k,pre,rfl,hk,hpre,hJs,hnx⟩:=hrel;have hlen:pre.length=k:=by rw[←List.length_map (f:=fun x:Pc len=>x.1),hpre,List.length_range]
  have cs:wr.cell? ⟨Bs,0,none⟩=some (.slice A len cap):=(World.cell?_of_block (a:=⟨Bs,0,none⟩) hnx.1).trans hBs;have cn:wr.cell? ⟨Bn,0,none⟩=some (.int .i64 120):=(World.cell?_of_block (a:=⟨Bn,0,none⟩) hnx.2).trans hBn
  by_cases hlt:k*120 < len
  ·obtain ⟨b,off,rfl⟩:=hA (by omega);obtain ⟨fn,tmps,assign,body,hy,hR⟩:=hY pre ⟨k,hlt⟩ wr.drew (hJd _ _ hJs) (by omega);obtain ⟨i,hi⟩:∃i,k*120=i:=⟨_,rfl⟩;obtain ⟨m,hm⟩:∃m,Nat.min 120 (len - i)=m:=⟨_,rfl⟩
   have hpv:pcV (some ⟨b,off,none⟩) len k = .slice (some ⟨b,off+i*2,none⟩) m m:=by
    unfold pcV;rw[hi,hm];simp[Addr.add]
   dsimp only at hy;rw[hpv] at hy;rw[hi] at hlt ⊢;have hmm:Nat.min 120 (len - i)=min 120 (len - i):=rfl;have hm1:m≤120∧m≤len - i∧0 < m:=by omega
   have hmi:min (120:Int) ((len - i:Nat):Int)=(m:Int):=by omega
   have hmi2:min (120:Int) ((len:Int) - (i:Int))=(m:Int):=by omega
   have hci:cap≠i:=by omega
   have el:decide ((i:Int) < (len:Int))=true:=by rw[decide_eq_true_eq];omega
   clear hmm hm hpv
   gi_wp2
   gi_region
   all_goals (
    gi_wp2
    refine hR.mono ?_;rintro e W3 (⟨rfl,hJ3,hk3⟩ | ⟨rfl,hJx3⟩)
    ·have cn3:W3.cell? ⟨Bn,0,none⟩=some (.int .i64 120):=(World.cell?_of_block (a:=⟨Bn,0,none⟩) hk3.2).trans cn
     gi_wp2
     go_roundw
     case rel=>exact ⟨k+1,pre ++ [⟨k,by omega⟩],by rw[←hi];simp;omega,by omega,by rw[List.map_append,hpre,List.range_succ];rfl,hJ3,KpC.trans (B:=wr.drew) hnx hk3⟩
     case measure=>simp[intOf];omega
    ·gi_wp2
     refine bodyPost_ret (results_none rfl _ _ _) rfl ?_
     exact ⟨⟨_,rfl⟩,.inr ⟨_,trivial,hJx3⟩⟩)
  ·have el:decide (((k*120:Nat):Int) < (len:Int))=false:=by rw[decide_eq_false_iff_not];omega
   obtain rfl:k=(len+119) / 120:=by omega
   gi_wp2
   go_end0
   exact ⟨⟨_,rfl⟩,.inl ⟨pre,hpre,hJs⟩⟩
theorem Qco (F:Fence) (n:Nat) (h5:F.fn 116) (hro:F.round=none) (A:Option Addr) (len cap:Nat) (w:World) :
  CallsIn F n Tryz.prog 116 #[.slice A len cap,.int .i64 120] w fun e w'=>e = .returned (.func (.func 170) #[] #[.pointer (some ⟨w.heap.size,0,none⟩),.pointer (some ⟨w.heap.size+1,0,none⟩)])∧w'=(w.alloc (.cells #[.slice A len cap] 55)).alloc (.cells #[.int .i64 120] 3):=by
 have hmf:∀(fn:Fn) (first cap:Array Value) (w:World),(Instr.makeFunc fn first cap).run Tryz.prog w = .ok (.func fn first cap) w:=fun _ _ _ _=>rfl
 refine callsIn_of_wp Tryz.func116 rfl h5 ?_ hro;simp only[Tryz.ntmps116,List.size_toArray,List.length_cons,List.length_nil,Nat.reduceAdd,Nat.reduceSub,Array.replicate_succ,Array.replicate_zero,List.push_toArray,List.append_toArray,List.nil_append,List.cons_append]
 gi_wp2
 go_ret
 exact ⟨rfl,rfl⟩
theorem Kxv (w:World) (r:Option Nat):w.grownBy w.drew r:=⟨rfl,rfl,rfl,Nat.le_refl _,fun _ _ _=>rfl⟩
theorem Kur (F:Fence) (n:Nat) (h7:F.fn 170) (hro:F.round=none) (hn:1≤n) (Bs Bn:Nat) (A:Option Addr) (len cap:Nat) (hcap:len≤cap) (hreach:len≤140737488351232) (hA:0 < len→∃b off,A=some ⟨b,off,none⟩) (w:World) (hbs:Bs < w.heap.size) (hbn:Bn < w.heap.size)
  (hc:w.cell? ⟨Bs,0,none⟩=some (.slice A len cap)) (hc2:w.cell? ⟨Bn,0,none⟩=some (.int .i64 120)) :
  SeqStopsK F n Tryz.prog 170 #[.pointer (some ⟨Bs,0,none⟩),.pointer (some ⟨Bn,0,none⟩)] (fun x:Pc len=>#[pcV A len x.1]) (KpC Bs Bn) (fun ys=>ys.map (·.1)=List.range ((len+119) / 120)) (fun _=>True) ((len+119) / 120) w:=fun l J Jx W hW hJ _ hY h0=>
 Kzn F n h7 hro hn l Bs Bn A len cap hcap hreach hA J Jx (fun pre W h=>hJ pre W W.drew none h (Kxv W none) (fun r e=>by cases e)) hY W ((hW.cell (p:=⟨Bs,0,none⟩) (by simp;omega)).trans hc) ((hW.cell (p:=⟨Bn,0,none⟩) (by simp;omega)).trans hc2) h0
end
section
open Go.RowKit Go.Shelf
open Lib renaming hid → Jh
attribute [local go_sem] Oper.semAt_some
def pcL (l:List Smp) (k:Nat):List Smp:=(l.drop (k*120)).take 120
theorem Kgm:∀(f:Nat) (l:List Smp),l.length≤f→Kbx f l=(List.range ((l.length+119) / 120)).map (pcL l)
 | 0,l,h=>by
  have h0:l = []:=List.eq_nil_of_length_eq_zero (by omega);subst h0;rfl
 | _+1,[],_=>rfl
 | f+1,x :: l,h=>by
  have hl:((x :: l).drop 120).length=(x :: l).length - 120:=List.length_drop;have e:((x :: l).length+119) / 120=(((x :: l).drop 120).length+119) / 120+1:=by rw[hl,List.length_cons];omega
  rw[Kbx,Kgm f _ (by rw[hl];rw[List.length_cons] at h ⊢;omega),e,List.range_succ_eq_map,List.map_cons,List.map_map];congr 1;apply List.map_congr_left;intro k _;show pcL _ k=pcL _ (k+1)
  unfold pcL;rw[List.drop_drop];congr 2;omega
def serV (h:Hd3):Value:=.agg #[.slice h.l.A h.l.n h.l.c,.slice h.s.A h.s.n h.s.c,.slice h.w.A h.w.n h.w.c]
theorem Qal:(Tryz.prog.info? 9).map (fun i=>(i.zero,i.size,i.bytes))=some (some (.string ⟨#[]⟩),1,16):=by kernel_rfl
theorem Qba {w:World} {B C n sz:Nat} {T:TypeId} {v:Value} {xs:List Value} (h:w.ownsRow C T sz v n xs) (hB:B≤C):w.ownsRow B T sz v n xs:=by
 obtain ⟨h1,h2⟩:=h;refine ⟨h1,?_⟩;rcases h2 with h2 | ⟨g,cap,cur,a,b,c⟩
 ·exact .inl h2
 ·exact .inr ⟨g,cap,cur,a,by omega,c⟩
theorem Kvv (s:Ser) (h:Hd3) (w:World) (hS:SerAt w h s) (hn:s.samples.length≤1099511627776) (hm:s.windows.length≤1099511627776) (hv:∀x∈s.samples,x.v < 2 ^ 64) (hb:∀x∈s.windows,Kcs x) (hT:DbTab w)
  (hf:∀p∈Kbx s.samples.length s.samples,(Kei p).1=Kcz p) (hg:(aggO s.windows).1=aggT s.windows) :
  Calls Tryz.prog 44 #[serV h] w fun e w'=>∃v,e = .returned v∧w'.ownsRow w.heap.size 9 1 v (Kbf s).length ((Kbf s).map txtV)∧Below w.heap.size w w':=by
 refine (callsIn_wide (n:=3)).1 ?_;unfold serV;obtain ⟨ib,hi,hz0,hz1,hz2⟩:=info_parts Qal;refine callsIn_of_wp_marks Tryz.func44 rfl trivial ?_ rfl;simp only[Tryz.ntmps44,List.size_toArray,List.length_cons,List.length_nil,Nat.reduceAdd,Nat.reduceSub,Array.replicate_succ,Array.replicate_zero,List.push_toArray,List.append_toArray,List.nil_append,List.cons_append]
 gi_wp2_with (refine ⟨trivial,?_⟩;gi_at_call 116;refine (Qco Fence.wide 2 trivial rfl _ _ _ _).mono ?_;rintro e w' ⟨rfl,rfl⟩)
 obtain ⟨q,hq⟩:∃q,w.heap.size=q:=⟨_,rfl⟩;rw[hq];have hB0:Below q w (((w.alloc (.cells #[.slice h.l.A h.l.n h.l.c,.slice h.s.A h.s.n h.s.c,.slice h.w.A h.w.n h.w.c] 58)).alloc (.cells #[.slice none 0 0] 118)).alloc (.cells #[.slice h.s.A h.s.n h.s.c] 55)):=(((Below.refl _ _).alloc (by omega) _).alloc (by simp;omega) _).alloc (by simp;omega) _;have hB1:=hB0.alloc (by simp;omega) (.cells #[.int .i64 120] 3);have bS:Blk ((((w.alloc (.cells #[.slice h.l.A h.l.n h.l.c,.slice h.s.A h.s.n h.s.c,.slice h.w.A h.w.n h.w.c] 58)).alloc (.cells #[.slice none 0 0] 118)).alloc (.cells #[.slice h.s.A h.s.n h.s.c] 55)).alloc (.cells #[.int .i64 120] 3)) q 58 #[.slice h.l.A h.l.n h.l.c,.slice h.s.A h.s.n h.s.c,.slice h.w.A h.w.n h.w.c]:=(((Blk.newAt hq.symm).alloc _).alloc _).alloc _
 have bO:Boxed ((((w.alloc (.cells #[.slice h.l.A h.l.n h.l.c,.slice h.s.A h.s.n h.s.c,.slice h.w.A h.w.n h.w.c] 58)).alloc (.cells #[.slice none 0 0] 118)).alloc (.cells #[.slice h.s.A h.s.n h.s.c] 55)).alloc (.cells #[.int .i64 120] 3)) (q+1) 118 (.slice none 0 0):=by
  have:=Boxed.new (w.alloc (.cells #[.slice h.l.A h.l.n h.l.c,.slice h.s.A h.s.n h.s.c,.slice h.w.A h.w.n h.w.c] 58)) 118 (.slice none 0 0);rw[World.size_alloc,hq] at this;exact (this.alloc _).alloc _
 have bA:Boxed ((((w.alloc (.cells #[.slice h.l.A h.l.n h.l.c,.slice h.s.A h.s.n h.s.c,.slice h.w.A h.w.n h.w.c] 58)).alloc (.cells #[.slice none 0 0] 118)).alloc (.cells #[.slice h.s.A h.s.n h.s.c] 55)).alloc (.cells #[.int .i64 120] 3)) (q+2) 55 (.slice h.s.A h.s.n h.s.c):=by
  have:=Boxed.new ((w.alloc (.cells #[.slice h.l.A h.l.n h.l.c,.slice h.s.A h.s.n h.s.c,.slice h.w.A h.w.n h.w.c] 58)).alloc (.cells #[.slice none 0 0] 118)) 55 (.slice h.s.A h.s.n h.s.c);rw[World.size_alloc,World.size_alloc,hq] at this;exact this.alloc _
 have bN:Boxed ((((w.alloc (.cells #[.slice h.l.A h.l.n h.l.c,.slice h.s.A h.s.n h.s.c,.slice h.w.A h.w.n h.w.c] 58)).alloc (.cells #[.slice none 0 0] 118)).alloc (.cells #[.slice h.s.A h.s.n h.s.c] 55)).alloc (.cells #[.int .i64 120] 3)) (q+3) 3 (.int .i64 120):=by
  have:=Boxed.new (((w.alloc (.cells #[.slice h.l.A h.l.n h.l.c,.slice h.s.A h.s.n h.s.c,.slice h.w.A h.w.n h.w.c] 58)).alloc (.cells #[.slice none 0 0] 118)).alloc (.cells #[.slice h.s.A h.s.n h.s.c] 55)) 3 (.int .i64 120);rw[World.size_alloc,World.size_alloc,World.size_alloc,hq] at this;exact this
 obtain ⟨W0,hW0⟩:∃W0,(((w.alloc (.cells #[.slice h.l.A h.l.n h.l.c,.slice h.s.A h.s.n h.s.c,.slice h.w.A h.w.n h.w.c] 58)).alloc (.cells #[.slice none 0 0] 118)).alloc (.cells #[.slice h.s.A h.s.n h.s.c] 55)).alloc (.cells #[.int .i64 120] 3)=W0:=⟨_,rfl⟩;have hsz:W0.heap.size=q+4:=by rw[←hW0];simp;omega
 rw[hW0] at hB1 bS bO bA bN ⊢;clear hW0 hB0;have hsn:s.samples.length=h.s.n:=hS.s.len;obtain ⟨N,hN⟩:∃N,(h.s.n+119) / 120=N:=⟨_,rfl⟩;rw[Kgm _ _ (Nat.le_refl _),hsn,hN] at hf;have hf2:∀k,k < N→(Kei (pcL s.samples k)).1=Kcz (pcL s.samples k):=fun k hk=>hf _ (List.mem_map.2 ⟨k,List.mem_range.2 hk,rfl⟩)
 have hst:∀W,Below q w W→∀x:Pc h.s.n,∃A n,pcV h.s.A h.s.n x.1 = .slice A n n∧Elems W W.heap.size 2 Kad A n (pcL s.samples x.1)∧n≤120:=fun W hW x=>by
  have hx:=x.2;have e:=((hS.s.below (hq.symm▸hW)).more (hq▸hW).size);refine ⟨_,_,rfl,?_,Nat.min_le_left _ _⟩;have:=Kvw e (k:=x.1*120) (by omega) (Nat.min 120 (h.s.n - x.1*120)) (Nat.min_le_right _ _);unfold pcL
  have e2:(s.samples.drop (x.1*120)).take 120=(s.samples.drop (x.1*120)).take (Nat.min 120 (h.s.n - x.1*120)):=by
   rw[List.take_eq_take_iff,List.length_drop,hsn];show min 120 _=min (min 120 _) _
   omega
  rw[e2];exact this
 have hvv:∀k,∀x∈pcL s.samples k,x.v < 2 ^ 64:=fun k x hx=>hv x (List.mem_of_mem_drop (List.mem_of_mem_take hx))
 have st:=Kur Fence.wide 2 trivial rfl (by omega) (q+2) (q+3) h.s.A h.s.n h.s.c hS.sc (by omega) (fun hp=>by obtain ⟨b,off,e,_⟩:=hS.s.2 hp;exact ⟨b,off,e⟩) W0 (by omega) (by omega) bA.cell bN.cell;obtain ⟨I,hI⟩:∃I:List (Pc h.s.n)→World→Prop,I=fun pre W=>(∃v,Boxed W (q+1) 118 v∧W.ownsRow (q+1) 9 1 v pre.length (pre.map fun x=>txtV (Kcz (pcL s.samples x.1)))∧True)∧((Boxed W (q+2) 55 (.slice h.s.A h.s.n h.s.c)∧Boxed W (q+3) 3 (.int .i64 120))∧Below (q+1) W0 W):=⟨_,rfl⟩
 have own1:=OwnFrom.and (Own.from (holdsRow_own (q+1) (q+1) 118 9 1 (fun (pre:List (Pc h.s.n))=>pre.length) (fun (pre:List (Pc h.s.n))=>pre.map fun x=>txtV (Kcz (pcL s.samples x.1))) (fun _ _=>True)) W0.heap.size) (OwnFrom.and (OwnFrom.and (Own.from (boxed_own (β:=List (Pc h.s.n)) (q+2) 55 (fun _=>.slice h.s.A h.s.n h.s.c)) W0.heap.size) (Own.from (boxed_own (β:=List (Pc h.s.n)) (q+3) 3 (fun _=>.int .i64 120)) W0.heap.size)) (ownFrom_below (β:=List (Pc h.s.n)) (B:=W0.heap.size) (n₀:=q+1) (w₀:=W0) (by omega) (by omega)))
 have own:OwnFrom W0.heap.size I:=by
  rw[hI];exact own1
 have h0:I [] W0:=by
  rw[hI];exact ⟨⟨_,bO,World.ownsRow_nil _ _ _ _,trivial⟩,⟨bA,bN⟩,Below.refl _ _⟩
 refine wpIn_rangeFunc_ownG rfl (by omega) (gf:=170) (lb:=#[.pointer (some ⟨q+2,0,none⟩),.pointer (some ⟨q+3,0,none⟩)]) rfl trivial (enters_of Tryz.func170 (by kernel_rfl) rfl)
  st (fun h k=>KpC.trans h k) (fun W l o o2 hl _ _ _=>KpC.put (B:=W0.heap.size) (by omega) (by omega) W l o2 hl) (Below.refl _ _) (fun _=>rfl) I
  (fun _ _ _=>False) own (fun _ _ _ _ _ hs _ _=>hs) h0
  (fun x=>{ tmps:=#[.agg #[.slice h.l.A h.l.n h.l.c,.slice h.s.A h.s.n h.s.c,.slice h.w.A h.w.n h.w.c],.pointer (some ⟨q,0,none⟩),.slice none 0 0,.pointer (some ⟨q+1,0,none⟩),pcV h.s.A h.s.n x.1,undef,undef,undef,undef,.pointer (some ⟨q,1,none⟩),.slice h.s.A h.s.n h.s.c,.func (.func 170) #[] #[.pointer (some ⟨q+1+1,0,none⟩),.pointer (some ⟨q+1+1+1,0,none⟩)],pcV h.s.A h.s.n x.1,undef,undef,undef,undef,undef,undef,undef,undef,undef,undef,undef,undef,undef,undef,undef,undef,undef,undef,undef,undef,undef,undef,undef,undef],defers:=[] }) ?assign ?body ?done ?stop
 case assign=>
  intro l x W K hK
  gi_wp2
  exact hK
 case body=>
  intro l pre x W hIW hlt;rw[hI] at hIW;obtain ⟨⟨v,hv9,hrow,_⟩,⟨hba,hbn⟩,hBW0⟩:=hIW;have hBW:Below q w W:=hB1.trans (hBW0.mono (by omega));obtain ⟨A,n,hpv,hE,hn9⟩:=hst W hBW x;rw[hpv];have hxN:x.1 < N:=by have:=x.2;omega
  obtain ⟨T,e9,hco⟩:∃T e9,Kei (pcL s.samples x.1)=(T,e9):=⟨_,_,rfl⟩;have hTT:=hf2 x.1 hxN;have HC:=Kqs (pcL s.samples x.1) A n n W hE (by omega) (hvv _) (hT.below (hq.symm▸hBW));rw[hco] at HC hTT;dsimp only at HC hTT;obtain ⟨X,hX⟩:∃X:ByteArray,(⟨T.toArray⟩:ByteArray)=X:=⟨_,rfl⟩;rw[hX] at HC;have HC:=Jh HC;have HX:=Jh hX;have HTT:=Jh hTT;have hqW:=hBW0.size;have hBs:=hBW0;clear hE hco hX hTT hpv
  gi_wp2_with (first
   | (refine ⟨trivial,?_⟩;gi_at_call 117;refine (CallsIn.inRound l (callsIn_wide.2 HC.out)).mono ?_;rintro e w5 ⟨rfl,hb5⟩;have g5:W.grownBy w5 none:=⟨hb5.os,hb5.tape,hb5.output,hb5.size,fun k hk _=>hb5.block k hk⟩;have hv5:=hv9.kept g5 (by simp);have hc5:=hv5.cell;have hf5:=hv5.frozen;have hrow5:=Kfc hrow hb5;have hs5:=hb5.size)
   | (gi_at_builtin;refine wpListIn_append_own _ rfl _ _ 118 rfl (q+1) 9 ib (.string ⟨#[]⟩) 1 16 Tryz.underlying118 hi hz0 hz1 hz2 rfl (by decide) _ _ _ rfl (hrow5.alloc _) ⟨w5.heap.size,0,none⟩ 1 1 [.string X] rfl rfl (cell_one_new _ _ _) (by simp[Value.oneCell']) (by unfold maxLen;omega) (by omega) (by simp;omega) ?_;intro v' w1 hown' hgrow _;obtain ⟨g',cap',rfl⟩:=ownsRow_succ hown';obtain ⟨hv1,hv2,hr2,hk2,hb2⟩:=hv5.appended (by decide) hrow5 (by omega) (by omega) hown' hgrow;have hc1:=hv1.cell;have hf1:=hv1.frozen))
  have ha5:=hba.kept g5 (by simp);have hn5:=hbn.kept g5 (by simp);have ga:w5.grownBy _ v.ownBlock:=(World.grownBy_alloc w5 _ _).trans hgrow;have ha9:=(ha5.kept ga (ha5.not_row (by decide) hrow5)).other (B':=q+1) (by omega) (.slice (some ⟨g',0,none⟩) (pre.length+1) cap');have hn9:=(hn5.kept ga (hn5.not_row (by decide) hrow5)).other (B':=q+1) (by omega) (.slice (some ⟨g',0,none⟩) (pre.length+1) cap');refine ⟨((KeepsOthers.of_grownBy g5 (fun j o ej _=>by cases ej)).trans hk2).from _,⟨(show _=_ from ha9).trans (show _=_ from hba).symm,(show _=_ from hn9).trans (show _=_ from hbn).symm⟩,?_⟩;rw[hI];refine ⟨⟨_,hv2,?_,trivial⟩,⟨ha9,hn9⟩,(hBW0.trans (hb5.mono (by omega))).trans hb2⟩;rw[List.map_append,List.length_append];have hXX:Value.string X=txtV (Kcz (pcL s.samples x.1)):=by rw[←HX.out,HTT.out];rfl
  rw[hXX] at hr2;exact hr2
 case done=>
  intro D ys W hD hys hIW hK;rw[hI] at hIW;obtain ⟨⟨v,hv9,hrow,_⟩,_,hBW0⟩:=hIW;have hBW:Below q w W:=hB1.trans (hBW0.mono (by omega))
  have hyl:ys.map (fun x=>txtV (Kcz (pcL s.samples x.1)))=(List.range N).map (fun k=>txtV (Kcz (pcL s.samples k))):=by
   rw[←hN,←hys,List.map_map];rfl
  have hyn:ys.length=N:=by rw[←List.length_map (f:=fun x:Pc h.s.n=>x.1),hys,List.length_range,hN]
  rw[hyl,hyn] at hrow;have bS9:=bS.below hBW0 (by omega);have hwn:s.windows.length=h.w.n:=hS.w.len;have hEw:=(hS.w.below (hq.symm▸hBW)).more (hq▸hBW).size;have hc:=hv9.cell;have c2:W.cell? ⟨q,2,none⟩=some (.slice h.w.A h.w.n h.w.c):=bS9.cell 2
  have hpt:(Kbf s).map txtV=(List.range N).map (fun k=>txtV (Kcz (pcL s.samples k)))++(aggsT s.windows).map txtV:=by
   unfold Kbf;rw[Kgm _ _ (Nat.le_refl _),hsn,hN,List.map_append,List.map_map,List.map_map];rfl
  have hpl:(Kbf s).length=N+(aggsT s.windows).length:=by
   unfold Kbf;rw[Kgm _ _ (Nat.le_refl _),hsn,hN,List.length_append,List.length_map,List.length_map,List.length_range]
  have hDq:q+4≤D:=by omega
  by_cases hw0:h.w.n=0
  ·have hwe:s.windows = []:=List.eq_nil_of_length_eq_zero (by omega);rw[hwe] at hpt hpl;have e0:decide ((0:Int) < (h.w.n:Int))=false:=by rw[decide_eq_false_iff_not];omega
   have hrow9:W.ownsRow q 9 1 v (Kbf s).length ((Kbf s).map txtV):=by
    rw[hpt,hpl];simpa[aggsT] using Qba hrow (by omega)
   clear hrow hpt hpl
   gi_wp2
   refine ⟨by simp,.inl ⟨_,_,rfl,run_takeDeferred hK,?_⟩⟩;exact ⟨_,results_tmp rfl _ _ _,v,rfl,by rw[hq];exact ownsRow_putObj hrow9 _ hK rfl,by rw[hq];exact hBW.trans (belowK_b (w:=W0) (n₀:=q) (by omega) W D _ _ hD hK rfl rfl)⟩
  ·have e0:decide ((0:Int) < (h.w.n:Int))=true:=by rw[decide_eq_true_eq];omega
   have hwl:aggsT s.windows = [aggT s.windows]:=by
    cases hx:s.windows with
    | nil=>rw[hx] at hwn;simp at hwn;omega
    | cons y l=>rfl
   rw[hwl] at hpt hpl;obtain ⟨T,e9,hco⟩:∃T e9,aggO s.windows=(T,e9):=⟨_,_,rfl⟩;have HC:=Kjb s.windows h.w.A h.w.n h.w.c W hEw (by omega) hb;rw[hco] at HC hg;dsimp only at HC hg;obtain ⟨X,hX⟩:∃X:ByteArray,(⟨T.toArray⟩:ByteArray)=X:=⟨_,rfl⟩;rw[hX] at HC;have HC:=Jh HC;have HX:=Jh hX;have HG:=Jh hg;have HPT:=Jh hpt;have HPL:=Jh hpl;have HK:=Jh hK;have HBW:=Jh hBW;have hqW:=hBW0.size;clear hco hX hg hpt hpl hEw hwl hyl hyn
   gi_wp2_with (first
    | (refine ⟨trivial,?_⟩;gi_at_call 118;refine (callsIn_wide.2 HC.out).mono ?_;rintro e w5 ⟨rfl,hb5⟩;have g5:W.grownBy w5 none:=⟨hb5.os,hb5.tape,hb5.output,hb5.size,fun k hk _=>hb5.block k hk⟩;have hv5:=hv9.kept g5 (by simp);have hc5:=hv5.cell;have hf5:=hv5.frozen;have hrow5:=Kfc hrow hb5;have hs5:=hb5.size)
    | (gi_at_builtin;refine wpListIn_append_own _ rfl _ _ 118 rfl (q+1) 9 ib (.string ⟨#[]⟩) 1 16 Tryz.underlying118 hi hz0 hz1 hz2 rfl (by decide) _ _ _ rfl (hrow5.alloc _) ⟨w5.heap.size,0,none⟩ 1 1 [.string X] rfl rfl (cell_one_new _ _ _) (by simp[Value.oneCell']) (by unfold maxLen;omega) (by omega) (by simp;omega) ?_;intro v' w1 hown' hgrow _;obtain ⟨g',cap',rfl⟩:=ownsRow_succ hown';obtain ⟨hv1,hv2,hr2,hk2,hb2⟩:=hv5.appended (by decide) hrow5 (by omega) (by omega) hown' hgrow;have hc1:=hv1.cell;have hf1:=hv1.frozen;have hc2:=hv2.cell))
   have hK5:=((KeepsOthers.of_grownBy g5 (fun j o ej _=>by cases ej)).trans hk2).same D _ HK.out rfl;have hXX:Value.string X=txtV (aggT s.windows):=by rw[←HX.out,HG.out];rfl
   have hrow9:(w1.setCell ⟨q+1,0,none⟩ (.slice (some ⟨g',0,none⟩) (N+1) cap')).ownsRow q 9 1 (.slice (some ⟨g',0,none⟩) (N+1) cap') (Kbf s).length ((Kbf s).map txtV):=by
    rw[HPT.out,HPL.out];rw[hXX] at hr2;exact Qba hr2 (by omega)
   have hB9:Below q w (w1.setCell ⟨q+1,0,none⟩ (.slice (some ⟨g',0,none⟩) (N+1) cap')):=HBW.out.trans ((hb5.mono (by omega)).trans (hb2.mono (by omega)));refine ⟨by simp,.inl ⟨_,_,rfl,run_takeDeferred hK5,?_⟩⟩;exact ⟨_,results_tmp rfl _ _ _,_,rfl,by rw[hq];exact ownsRow_putObj hrow9 _ hK5 rfl,by rw[hq];exact hB9.trans (belowK_b (w:=W0) (n₀:=q) (by omega) _ D _ _ hD hK5 rfl rfl)⟩
 case stop=>
  rintro D c pre W _ _ h _;exact h.elim
end
section
open Go.Shelf Go.RowKit
open Lib renaming hid → Jh
attribute [local go_sem ↓] Go.wp_at_zero Go.wp_at_succ
theorem Kla {P:Program} (w:World) (base:Nat) (t u ty e:TypeId) (i:TypeInfo) (ht:P.underlying t=some (.slice e)) (hu:P.underlying u=some .string) (hi:P.info? e=some i) (hz:i.zero=some (.int .u8 0))
  (hsize:i.size=1) (hby:i.bytes=1) (v:Value) (n:Nat) (xs:List Value) (hown:w.ownsRowF base e 1 v n xs) (s:ByteArray)
  (h63:n+s.size≤maxLen) (hbytes:n+s.size≤140737488355328) (hbase:base≤w.heap.size) :
  ∃v' w',(Builtin.append_ #[t,u] ty #[v,.string s]).run P w = .ok v' w'∧w'.ownsRowF base e 1 v' (n+s.size) (xs++Lib.strCells s)∧w.grownBy w' v.ownBlock∧
   (v' = .slice none 0 0↔v = .slice none 0 0∧s.size=0)∧(∀k,v'.ownBlock=some k→v.ownBlock=some k∨w.heap.size≤k):=by
 obtain ⟨v',w',h1,h2,h3,h4⟩:=Lib.run_append_own_stringF (P:=P) w base t u ty e i ht hu hi hz hsize hby v n xs hown s h63 hbytes hbase;refine ⟨v',w',h1,h2,h3,h4,fun k hk=>?_⟩;rcases hown.2 with ⟨rfl,rfl⟩ | ⟨g,cap,cur,fz,rfl,hbg,hg,hfz,hnc,hcm,hcs,htake⟩
 ·obtain ⟨v2,w2,k1,k2,_,_⟩:=Lib.run_append_own_stringF (P:=P) w w.heap.size t u ty e i ht hu hi hz hsize hby (.slice none 0 0) 0 xs ⟨hown.1,.inl ⟨rfl,rfl⟩⟩ s h63 hbytes (Nat.le_refl _);rw[h1] at k1;injection k1 with e1 e2;subst e1 e2;exact .inr (k2.lt k hk).1
 ·by_cases hroom:n+s.size≤cap
  ·have hr:=Lib.run_append_room_stringF (P:=P) w t u ty e i ht hu hi hsize g n cap cur fz hg (by simpa using hfz) s hroom (by omega);rw[h1] at hr;injection hr with e1 e2;subst e1;exact .inl hk
  ·have hxl:xs.length=n:=by simpa using hown.1
   have holds:∀j u,xs[j]? = some u→w.cell? ((⟨g,0,none⟩:Addr).add j)=some u:=hown.cells (g:=g) rfl;have hr:=Lib.run_append_grow_string (P:=P) w t u ty e i (.int .u8 0) ht hu hi hz ⟨g,0,none⟩ n cap xs (by rw[hsize];simpa using hxl) holds s (by omega) (by simp only[maxLen] at h63;omega) (by rw[hby];exact growslice_fits (by omega) (by omega));rw[h1] at hr;injection hr with e1 e2;subst e1;simp[Value.ownBlock] at hk;exact .inr (by omega)
theorem Kja {P:Program} {w:World} {ops:Array Oper} {rest:List Oper} {o:Oper} {a:Act} {Q:Exit→Act→World→Prop} (hgd:o.guard=none) (sl x:Operand) (t u:TypeId)
  (ho:o.op = .call { callee:=.builtin .append,args:=#[sl,x],argTypes:=#[t,u] })
  (base:Nat) (e:TypeId) (i:TypeInfo) (ht:P.underlying t=some (.slice e)) (hu:P.underlying u=some .string) (hi:P.info? e=some i) (hz:i.zero=some (.int .u8 0))
  (hsize:i.size=1) (hby:i.bytes=1)
  (v:Value) (n:Nat) (xs:List Value) (hs:a.eval sl=v) (hown:w.ownsRowF base e 1 v n xs) (s:ByteArray) (hx:a.eval x = .string s)
  (h63:n+s.size≤maxLen) (hbytes:n+s.size≤140737488355328) (hbase:base≤w.heap.size)
  (h:∀v' w',w'.ownsRowF base e 1 v' (n+s.size) (xs++Lib.strCells s)→w.grownBy w' v.ownBlock→(v' = .slice none 0 0↔v = .slice none 0 0∧s.size=0)→(∀k,v'.ownBlock=some k→v.ownBlock=some k∨w.heap.size≤k)→wpList P ops Q rest (a.put o.dst v') w'):wpList P ops Q (o :: rest) a w:=by
 refine wpList_plain hgd fun K hK=>?_
 obtain ⟨v',w',hr,h2,h3,h4,h5⟩:=Kla (P:=P) w base t u o.type e i ht hu hi hz hsize hby v n xs hown s h63 hbytes hbase;unfold Oper.wp execOp;simp only[ho,resolve,invoke,builtin,Sem.run_bind,Sem.run_pure,Result.andThen_ok,List.map_toArray,List.map_cons,List.map_nil,hs,hx,hr];exact hK _ _ (h v' w' h2 h3 h4 h5)
structure BldR (B b:Nat) (r:Option Nat) (l:List UInt8) (w:World):Prop where
 hB:B≤b
 ex:∃p v,(p = .pointer none∨p = .pointer (some ⟨b,0,none⟩))∧w.heap[b]? = some (.cells #[p,v] 109 (0,0))∧w.ownsRowF B 5 1 v l.length (Lib.byteCells l)∧v.ownBlock=r∧(l = []→v = .slice none 0 0)
structure OnlyB (b:Nat) (r:Option Nat) (w w':World):Prop where
 os:w'.os=w.os
 tape:w'.tape=w.tape
 output:w'.output=w.output
 size:w.heap.size≤w'.heap.size
 block:∀k,k < w.heap.size→k≠b→some k≠r→w'.heap[k]? = w.heap[k]?
section
variable {B b c : Nat} {r s : Option Nat} {l m : List UInt8} {w w' : World}
theorem BldR.row (h:BldR B b r l w) {k:Nat} (hk:r=some k):B≤k∧∃cur fz,w.heap[k]? = some (.cells cur 5 fz):=by
 obtain ⟨p,v,_,_,hown,hv,_⟩:=h.ex;rcases hown.2 with ⟨rfl,_⟩ | ⟨g,cap,cur,fz,rfl,hbg,hg,_⟩
 ·rw[hk] at hv;cases hv
 ·rw[hk] at hv;injection hv with hv;subst hv;exact ⟨hbg,cur,fz,hg⟩
theorem BldR.blt (h:BldR B b r l w):b < w.heap.size:=by
 obtain ⟨p,v,_,hb,_⟩:=h.ex;exact Blk.lt hb
theorem BldR.rlt (h:BldR B b r l w) {k:Nat} (hk:r=some k):k < w.heap.size:=by
 obtain ⟨_,cur,fz,hc⟩:=h.row hk;exact (Array.getElem?_eq_some_iff.1 hc).1
theorem BldR.keep (h:BldR B b r l w) (h1:w'.heap[b]? = w.heap[b]?) (h2:∀k,r=some k→w'.heap[k]? = w.heap[k]?):BldR B b r l w':=by
 obtain ⟨p,v,hp,hb,hown,hv,hn⟩:=h.ex;refine ⟨h.hB,p,v,hp,h1.trans hb,⟨hown.1,?_⟩,hv,hn⟩;rcases hown.2 with h3 | ⟨g,cap,cur,fz,rfl,hbg,hg,rest⟩
 ·exact .inl h3
 ·exact .inr ⟨g,cap,cur,fz,rfl,hbg,(h2 g hv.symm).trans hg,rest⟩
theorem BldR.below (h:BldR B b r l w) (hb:Below w.heap.size w w'):BldR B b r l w':=h.keep (hb.block b h.blt) fun k hk=>hb.block k (h.rlt hk)
theorem BldR.new {B:Nat} (w:World) (hB:B≤w.heap.size):BldR B w.heap.size none [] (w.alloc (.cells #[.pointer none,.slice none 0 0] 109)):=
 ⟨hB,_,_,.inl rfl,heap_alloc_new w _,World.ownsRowF_nil _ _ _ _,rfl,fun _=>rfl⟩
theorem BldR.far (h:BldR B b r l w) (h':BldR B c s m w) (hbc:b≠c) (hrs:∀k,r=some k→s≠some k) (ho:OnlyB c s w w'):BldR B b r l w':=by
 refine h.keep (ho.block b h.blt hbc fun e=>?_) fun k hk=>ho.block k (h.rlt hk) (fun e=>?_) (fun e=>hrs k hk e.symm)
 ·obtain ⟨p,v,_,hb,_⟩:=h.ex;obtain ⟨_,cur,fz,hc⟩:=h'.row e.symm;rw[hb] at hc;injection hc with hc;injection hc with _ hc _
  revert hc
  decide
 ·obtain ⟨p,v,_,hb,_⟩:=h'.ex;obtain ⟨_,cur,fz,hc⟩:=h.row hk;rw[e,hb] at hc;injection hc with hc;injection hc with _ hc _
  revert hc
  decide
theorem OnlyB.below (h:OnlyB b r w w') (hb:B≤b) (hr:∀k,r=some k→B≤k) (hB:B≤w.heap.size):Below B w w':=
 ⟨h.os,h.tape,h.output,h.size,fun k hk=>h.block k (by omega) (by omega) fun e=>by have:=hr k e.symm;omega⟩
end
theorem Kpf (B b:Nat) (r:Option Nat) (l:List UInt8) (s:ByteArray) (w:World) (h:BldR B b r l w) (hlen:l.length+s.size≤140737488355328) :
  Calls Tryz.prog 40 #[.pointer (some ⟨b,0,none⟩),.string s] w fun e w'=>e = .returned (.tuple #[.int .i64 s.size,.nilIface])∧
   ∃r',BldR B b r' (l++s.data.toList) w'∧(∀k,r'=some k→r=some k∨w.heap.size≤k)∧OnlyB b r w w':=by
 obtain ⟨i0,hi,hz0,hz1,hz2⟩:=info_parts Kfw.infoByte;obtain ⟨p,v,hp,hbk,hown,hv,hn⟩:=h.ex;have hblt:=h.blt
 have hcc:Calls Tryz.prog 109 #[.pointer (some ⟨b,0,none⟩)] w fun e w'=>e = .returned (.tuple #[])∧w'.heap[b]? = some (.cells #[.pointer (some ⟨b,0,none⟩),v] 109 (0,0))∧OnlyB b none w w'∧w'.heap.size=w.heap.size:=by
  rcases hp with rfl | rfl
  ·refine (Any.Builder_copyCheck_fresh Krs Kfw.toX72 b w (by rw[Lib.cell_of_heap hbk];rfl) (by unfold World.shape?;rw[hbk];rfl) (Lib.frozen_of_heap hbk 0)).mono ?_;rintro e w' ⟨rfl,rfl⟩;refine ⟨rfl,?_,⟨rfl,rfl,rfl,by simp[World.setCell],fun k _ hk _=>Below.heap_setCell _ _ _ _ (fun e=>hk e)⟩,by simp[World.setCell]⟩;have:=(show Blk w b 109 #[.pointer none,v] from hbk).set_ 0 (.pointer (some ⟨b,0,none⟩));exact this
  ·refine (Any.Builder_copyCheck_used Krs Kfw.toX72 b w (by rw[Lib.cell_of_heap hbk];rfl)).mono ?_;rintro e w' ⟨rfl,rfl⟩;exact ⟨rfl,hbk,⟨rfl,rfl,rfl,Nat.le_refl _,fun _ _ _ _=>rfl⟩,rfl⟩
 have HCC:=Jh hcc
 have hne:v.ownBlock≠some b:=fun e=>by
  obtain ⟨_,cur,fz,hc⟩:=h.row (hv.symm.trans e);rw[hbk] at hc;injection hc with hc;injection hc with _ hc _
  revert hc
  decide
 have HN:=Jh hn;have HV:=Jh hv;have HOWN:=Jh hown;have HB:=Jh h.hB;clear hcc hp hn hv hown h hbk;go_enter Tryz.func40,Tryz.ntmps40
 go_wp2_with fail
 refine HCC.out.mono ?_;rintro e w1 ⟨rfl,hbk,ho1,hs1⟩
 have hown1:w1.ownsRowF B 5 1 v l.length (Lib.byteCells l):=by
  refine ⟨HOWN.out.1,?_⟩;rcases HOWN.out.2 with h3 | ⟨g,cap,cur,fz,e1,hbg,hg,rest⟩
  ·exact .inl h3
  ·refine .inr ⟨g,cap,cur,fz,e1,hbg,(ho1.block g (Array.getElem?_eq_some_iff.1 hg).1 (fun e2=>hne (by rw[e1,e2];rfl)) (by simp)).trans hg,rest⟩
 have c0:w1.cell? ⟨b,0,none⟩=some (.pointer (some ⟨b,0,none⟩)):=by rw[Lib.cell_of_heap hbk];rfl
 have c1:w1.cell? ⟨b,1,none⟩=some v:=by rw[Lib.cell_of_heap hbk];rfl
 have HO1:=Jh ho1;have HS1:=Jh hs1;have HBK:=Jh hbk;clear ho1 hs1 hbk;go_wp2_with (at_builtin;refine Kja rfl _ _ 76 9 rfl B 5 i0 Tryz.underlying76 Tryz.underlying9 hi hz0 hz1 hz2 _ _ _ rfl hown1 s rfl ?c3 ?c4 ?c5 ?_)
 case c3=>unfold maxLen;omega
 case c4=>omega
 case c5=>have:=HB.out;have:=HS1.out;omega
 intro v' w2 hown' hgrow hnil hwhere;have hlt:b < w1.heap.size:=by have:=HS1.out;omega
 have hb2:w2.heap[b]? = some (.cells #[.pointer (some ⟨b,0,none⟩),v] 109 (0,0)):=by
  rw[hgrow.block b hlt (fun e=>hne e.symm)];exact HBK.out
 have d0:w2.cell? ⟨b,0,none⟩=some (.pointer (some ⟨b,0,none⟩)):=by rw[Lib.cell_of_heap hb2];rfl
 have d1:w2.cell? ⟨b,1,none⟩=some v:=by rw[Lib.cell_of_heap hb2];rfl
 have f1:w2.frozen? ⟨b,1,none⟩=false:=Lib.frozen_of_heap hb2 1
 obtain ⟨ao,n',cap,rfl⟩:∃ao n' cap,v' = .slice ao n' cap:=by
  rcases hown'.2 with ⟨hv,_⟩ | ⟨g,cap,cur,fz,hv,_⟩
  ·exact ⟨_,_,_,hv⟩
  ·exact ⟨_,_,_,hv⟩
 have HNIL:=Jh hnil;clear hnil;go_wp2_with fail
 go_ret2
 have hkeep3:Blk (w2.setCell ⟨b,1,none⟩ (.slice ao n' cap)) b 109 #[.pointer (some ⟨b,0,none⟩),.slice ao n' cap]:=(show Blk w2 b 109 #[.pointer (some ⟨b,0,none⟩),v] from hb2).set_ 1 _
 have hv'b:(Value.slice ao n' cap).ownBlock≠some b:=fun e=>by
  rcases hwhere b e with h1 | h1
  ·exact hne h1
  ·omega
 refine ⟨rfl,(Value.slice ao n' cap).ownBlock,⟨HB.out,_,_,.inr rfl,hkeep3,?_,rfl,?_⟩,fun k hk=>?_,⟨?_,?_,?_,?_,fun k hk hkb hkr=>?_⟩⟩
 ·have hl2:(l++s.data.toList).length=l.length+s.size:=by rw[List.length_append];rfl
  have hc2:Lib.byteCells (l++s.data.toList)=Lib.byteCells l++Lib.strCells s:=by simp[Lib.byteCells,Lib.strCells]
  rw[hl2,hc2];refine ⟨hown'.1,?_⟩;rcases hown'.2 with h3 | ⟨g,cap,cur,fz,e1,hbg,hg,rest⟩
  ·exact .inl h3
  ·refine .inr ⟨g,cap,cur,fz,e1,hbg,(Below.heap_setCell _ _ _ _ (fun e2=>hv'b (by rw[e1,e2];rfl))).trans hg,rest⟩
 ·intro hnl;have h1:l = []∧s.data.toList = []:=by simpa using hnl
  refine HNIL.out.2 ⟨HN.out h1.1,?_⟩;have h2:=congrArg List.length h1.2;have h3:s.data = #[]:=by simpa using h1.2
  first
   | exact h2
   | (cases s with | mk d=>(have h4:d = #[]:=h3);rw[h4];rfl)
 ·rw[←HV.out];rcases hwhere k hk with h1 | h1
  ·exact .inl h1
  ·exact .inr (by have:=HS1.out;omega)
 ·exact hgrow.os.trans HO1.out.os
 ·exact hgrow.tape.trans HO1.out.tape
 ·exact hgrow.output.trans HO1.out.output
 ·have:=hgrow.size;have:=HS1.out;simp[World.setCell];omega
 ·rw[Below.heap_setCell _ _ _ _ (fun e=>hkb e),hgrow.block k (by have:=HS1.out;omega) (by rw[HV.out];exact hkr),HO1.out.block k hk hkb (by simp)]
theorem Ktn (b g:Nat) (w:World) (n:Nat):OnlyB b (some g) w (w.drew.freeze ⟨g,0,none⟩ n):=by
 unfold World.freeze
 split
 ·exact ⟨rfl,rfl,rfl,Nat.le_refl _,fun _ _ _ _=>rfl⟩
 ·refine ⟨rfl,rfl,rfl,by simp,fun k _ _ hk=>?_⟩;show (Array.modify _ _ _)[k]? = _
  rw[Array.getElem?_modify,if_neg (fun e=>hk (by rw[←e]))];rfl
theorem Khz (B b:Nat) (r:Option Nat) (l:List UInt8) (w:World) (h:BldR B b r l w) :
  Calls Tryz.prog 48 #[.pointer (some ⟨b,0,none⟩)] w fun e w'=>e = .returned (.string ⟨l.toArray⟩)∧OnlyB b r w w':=by
 obtain ⟨p,v,hp,hbk,hown,hv,hn⟩:=h.ex
 by_cases h0:l = []
 ·obtain rfl:=hn h0;subst h0;have hUS:(Builtin.unsafeString_ #[215,3] 9 #[.pointer none,.int .i64 0]).run Tryz.prog w.drew = .ok (.string ⟨#[]⟩) w.drew:=Any.unsafeString_none Kly Kfw w.drew none
  have c1:w.drew.cell? ⟨b,1,none⟩=some (.slice none 0 0):=by
   have:w.drew.heap[b]? = some (.cells #[p,.slice none 0 0] 109 (0,0)):=hbk;rw[Lib.cell_of_heap this];rfl
  have hSD:(Builtin.unsafeSliceData_ #[76] 215 #[.slice none 0 0]).run Tryz.prog w.drew = .ok (.pointer none) w.drew:=rfl;have hfin:OnlyB b r w w.drew:=⟨rfl,rfl,rfl,Nat.le_refl _,fun _ _ _ _=>rfl⟩;clear hp hbk hown hv hn h;go_enter Tryz.func48,Tryz.ntmps48
  go_wp2
  go_region
  all_goals (go_wp2;go_ret;exact ⟨rfl,hfin⟩)
 ·have hl0:l.length≠0:=by simpa using h0
  obtain ⟨g,cap,cur,fz,rfl,hbg,hg,hfz,hnc,hcm,hcs,htake⟩:∃g cap cur fz,v = .slice (some ⟨g,0,none⟩) l.length cap∧B≤g∧w.heap[g]? = some (.cells cur 5 fz)∧fz.2≤l.length*1∧l.length≤cap∧cap≤maxLen∧cur.size=cap*1∧cur.toList.take (l.length*1)=Lib.byteCells l:=by
   rcases hown.2 with ⟨_,hz⟩ | ⟨g,cap,cur,fz,hv,r⟩
   ·exact absurd hz hl0
   ·exact ⟨g,cap,cur,fz,hv,r⟩
  have c1:w.drew.cell? ⟨b,1,none⟩=some (.slice (some ⟨g,0,none⟩) l.length cap):=by
   have:w.drew.heap[b]? = some (.cells #[p,.slice (some ⟨g,0,none⟩) l.length cap] 109 (0,0)):=hbk;rw[Lib.cell_of_heap this];rfl
  have hSD:(Builtin.unsafeSliceData_ #[76] 215 #[.slice (some ⟨g,0,none⟩) l.length cap]).run Tryz.prog w.drew = .ok (.pointer (some ⟨g,0,none⟩)) w.drew:=
   Lib.run_unsafeSliceData_row _ _ _ _ _ _ (by omega)
  have hUS:(Builtin.unsafeString_ #[215,3] 9 #[.pointer (some ⟨g,0,none⟩),.int .i64 l.length]).run Tryz.prog w.drew = .ok (.string ⟨l.toArray⟩) (w.drew.freeze ⟨g,0,none⟩ l.length):=by
   refine Lib.run_unsafeString_row w.drew 215 3 9 5 Kly.t127 Kfw.cellsByte g cur.size (by have hg':w.drew.heap[g]? = some (.cells cur 5 fz):=hg;simp[World.shape?,hg']) l h0 (by omega) (by unfold maxLen at hcm;omega) ?_;intro j x hx;have:=hown.cells (g:=g) rfl j (.int .u8 x.toNat) (by simp[Lib.byteCells,hx]);exact this
  have hfin:OnlyB b r w (w.drew.freeze ⟨g,0,none⟩ l.length):=by
   rw[show r=some g from hv.symm];exact Ktn b g w _
  have HF:=Jh hfin;clear hp hbk hown hv hn h hg hfz hcm hcs htake hfin;go_enter Tryz.func48,Tryz.ntmps48
  go_wp2
  go_region
  all_goals (go_wp2;go_ret;exact ⟨rfl,HF.out⟩)
def Two (B b1 b2:Nat) (l1 l2:List UInt8) (w:World):Prop:=∃r1 r2,BldR B b1 r1 l1 w∧BldR B b2 r2 l2 w∧b1≠b2∧∀k,r1=some k→r2≠some k
theorem Two.below {B b1 b2:Nat} {l1 l2:List UInt8} {w w':World} (h:Two B b1 b2 l1 l2 w) (hb:Below w.heap.size w w'):Two B b1 b2 l1 l2 w':=by
 obtain ⟨r1,r2,h1,h2,h3,h4⟩:=h;exact ⟨r1,r2,h1.below hb,h2.below hb,h3,h4⟩
theorem Two.swap {B b1 b2:Nat} {l1 l2:List UInt8} {w:World} (h:Two B b1 b2 l1 l2 w):Two B b2 b1 l2 l1 w:=by
 obtain ⟨r1,r2,h1,h2,h3,h4⟩:=h;exact ⟨r2,r1,h2,h1,Ne.symm h3,fun k hk hk'=>h4 k hk' hk⟩
def Rest (w w':World):Prop:=∀k T cs,Blk w k T cs→T≠109→T≠5→Blk w' k T cs
theorem Rest.below {w w':World} (h:Below w.heap.size w w'):Rest w w':=fun _ _ _ hb _ _=>hb.below h hb.lt
theorem Rest.own {w w':World} {B n sz:Nat} {T:TypeId} {v:Value} {xs:List Value} (h:Rest w w') (ho:w.ownsRow B T sz v n xs) (h1:T≠109) (h2:T≠5):w'.ownsRow B T sz v n xs:=by
 refine ⟨ho.1,?_⟩;rcases ho.2 with h3 | ⟨g,cap,cur,e1,hbg,hg,rest⟩
 ·exact .inl h3
 ·exact .inr ⟨g,cap,cur,e1,hbg,h g T cur hg h1 h2,rest⟩
theorem BldR.rest {B b:Nat} {r:Option Nat} {l:List UInt8} {w w':World} (h:BldR B b r l w) (ho:OnlyB b r w w'):Rest w w':=by
 intro k T cs hk h1 h2;refine (ho.block k hk.lt (fun e=>?_) (fun e=>?_)).trans hk
 ·obtain ⟨p,v,_,hb,_⟩:=h.ex;rw[←e,show w.heap[k]? = _ from hk] at hb;injection hb with hb;injection hb with _ hb _;exact h1 hb
 ·obtain ⟨_,cur,fz,hc⟩:=h.row e.symm;rw[show w.heap[k]? = _ from hk] at hc;injection hc with hc;injection hc with _ hc _;exact h2 hc
theorem Kog {B b1 b2:Nat} {l1 l2:List UInt8} (s:ByteArray) (w:World) (h:Two B b1 b2 l1 l2 w) (hlen:l1.length+s.size≤140737488355328) (hB:B≤w.heap.size) :
  Calls Tryz.prog 40 #[.pointer (some ⟨b1,0,none⟩),.string s] w fun e w'=>e = .returned (.tuple #[.int .i64 s.size,.nilIface])∧Two B b1 b2 (l1++s.data.toList) l2 w'∧Below B w w'∧Rest w w':=by
 obtain ⟨r1,r2,h1,h2,h3,h4⟩:=h;refine (Kpf B b1 r1 l1 s w h1 hlen).mono ?_;rintro e w' ⟨rfl,r',k1,k2,k3⟩;refine ⟨rfl,⟨r',r2,k1,h2.far h1 (Ne.symm h3) (fun k hk hk'=>h4 k hk' hk) k3,h3,fun k hk hk'=>?_⟩,k3.below h1.hB (fun k hk=>(h1.row hk).1) hB,h1.rest k3⟩;rcases k2 k hk with h5 | h5
 ·exact h4 k h5 hk'
 ·have:=h2.rlt hk';omega
theorem Kdu {B b1 b2:Nat} {l1 l2:List UInt8} (s:ByteArray) (w:World) (h:Two B b1 b2 l1 l2 w) (hlen:l2.length+s.size≤140737488355328) (hB:B≤w.heap.size) :
  Calls Tryz.prog 40 #[.pointer (some ⟨b2,0,none⟩),.string s] w fun e w'=>e = .returned (.tuple #[.int .i64 s.size,.nilIface])∧Two B b1 b2 l1 (l2++s.data.toList) w'∧Below B w w'∧Rest w w':=by
 refine (Kog s w h.swap hlen hB).mono ?_;rintro e w' ⟨h1,h2,h3⟩;exact ⟨h1,h2.swap,h3⟩
theorem Kyy {B b1 b2:Nat} {l1 l2:List UInt8} (w:World) (h:Two B b1 b2 l1 l2 w) (hB:B≤w.heap.size) :
  Calls Tryz.prog 48 #[.pointer (some ⟨b1,0,none⟩)] w fun e w'=>e = .returned (.string ⟨l1.toArray⟩)∧(∃r2,BldR B b2 r2 l2 w')∧Below B w w':=by
 obtain ⟨r1,r2,h1,h2,h3,h4⟩:=h;refine (Khz B b1 r1 l1 w h1).mono ?_;rintro e w' ⟨rfl,k3⟩;exact ⟨rfl,⟨r2,h2.far h1 (Ne.symm h3) (fun k hk hk'=>h4 k hk' hk) k3⟩,k3.below h1.hB (fun k hk=>(h1.row hk).1) hB⟩
end
end Go.Proofs.YtdoiekknhnbepaaGreatDoor
