/- Merged (what the claim wants of): BlkFitB, BlkFitC, ChunkIter, BlkPartsW, Builder2. -/
import Derived.Test.YtdoiekknhnbepaaGreatDoorCsp11
import Derived.RangeFuncNested
set_option linter.unusedVariables false
set_option linter.unusedSimpArgs false
set_option maxRecDepth 1000000
set_option linter.ambiguousOpen false
set_option maxHeartbeats 8000000
namespace Go.Proofs.YtdoiekknhnbepaaGreatDoor
open Go renaming wpQuiet_nil->bZ
open Lib renaming cell_of_heap->ba,byteCells->be,strCells->bk,run_append_own_stringF->bl,frozen_of_heap->bp
open World renaming size_alloc->bx,cell?_of_block->bL,setCell->bM,putObj_heap_other->bP,shape?->bQ
open Builtin renaming unsafeSliceData_->bR,unsafeString_->bT,append_->bU
open Value renaming oneCell'->bV,string->bW,slice->bX
open Wnd renaming start->bY
open Tryz
open Nat renaming le_refl->bc,reduceAdd->bF,reduceSub->bG,min->bH
open List renaming length_map->bd,length_cons->bg,eq_nil_of_length_eq_zero->bj,append_toArray->bm,range->bn,length_append->bo,size_toArray->br,push_toArray->bs,length_range->bt,getElem_mem->bv,length_drop->bw,cons_append->bz,map_map->bB,length_nil->bC,nil_append->bD,map_append->bE,getElem_map->bI,map_cons->bK
open Bool renaming and_eq_true->bf,eq_false_iff->bq,or_eq_true->bJ
open _root_.Array renaming replicate_succ->bh,replicate_zero->bi
section
open Go.RowKit
open Lib renaming hid -> Jh
attribute [local go_sem ↓] Go.wp_at_zero Go.wp_at_succ
attribute [local go_sem] Later.cell
theorem Kis.below {w w':World} {b:Nat} {h:Hd3} {x:Ser} (hs:Kis w b h x) (hb:Below w.heap.size w w'):Kis w' b h x:=⟨hs.1.below hb hs.1.lt,hs.2.below hb⟩
theorem Kuv (c:Cont) (hd:Hd) (s:Ser) (h:Hd3) (w:World) (hS:SerAt w h s) (hn:s.samples.length<=1099511627776) (hm:s.windows.length<=1099511627776) (hb:∀x∈s.windows,Kcm x) :
  Calls prog 106 #[contV c.res c.frm c.to_ hd,.agg #[.slice h.l.A h.l.n h.l.c,.slice h.s.A h.s.n h.s.c,.slice h.w.A h.w.n h.w.c]] w fun e w'=>e = .returned (.bool (Kdy c s))/\Below w.heap.size w w':=by
 have hmf:∀(fn:Fn) (first cap:Array Value) (w:World),(Instr.makeFunc fn first cap).run prog w = .ok (.func fn first cap) w:=fun _ _ _ _=>rfl
 have ar:s.samples.length=h.s.n:=hS.s.len;have ap:s.windows.length=h.w.n:=hS.w.len;obtain ⟨r,hr⟩:=iZ c.res;obtain ⟨f,hf⟩:=iZ c.frm;obtain ⟨t,ht⟩:=iZ c.to_;obtain ⟨R,hR⟩:=iZ (Kdy c s);rw[hR,hr,hf,ht];rw[Kdy,hr,hf,ht] at hR;have HR:=Jh hR;obtain ⟨q,hq⟩:=iZ w.heap.size;have ae:Below q w ((w.alloc (.cells #[.int .i64 r,.int .i64 f,.int .i64 t,.slice hd.A hd.n hd.c] 28)).alloc (.cells #[.slice h.l.A h.l.n h.l.c,.slice h.s.A h.s.n h.s.c,.slice h.w.A h.w.n h.w.c] 58)):=((Below.refl _ _).alloc (by omega) _).alloc (by simp;omega) _;have ah:Blk ((w.alloc (.cells #[.int .i64 r,.int .i64 f,.int .i64 t,.slice hd.A hd.n hd.c] 28)).alloc (.cells #[.slice h.l.A h.l.n h.l.c,.slice h.s.A h.s.n h.s.c,.slice h.w.A h.w.n h.w.c] 58)) q 28 #[.int .i64 r,.int .i64 f,.int .i64 t,.slice hd.A hd.n hd.c]:=(Blk.newAt hq.symm).alloc _;have af:Blk ((w.alloc (.cells #[.int .i64 r,.int .i64 f,.int .i64 t,.slice hd.A hd.n hd.c] 28)).alloc (.cells #[.slice h.l.A h.l.n h.l.c,.slice h.s.A h.s.n h.s.c,.slice h.w.A h.w.n h.w.c] 58)) (q+1) 58 #[.slice h.l.A h.l.n h.l.c,.slice h.s.A h.s.n h.s.c,.slice h.w.A h.w.n h.w.c]:=Blk.newAt (by simp;omega);unfold contV;clear hr hf ht hR;go_enter func106,ntmps106
 go_upto_region 1 with fail
 obtain ⟨w1,am⟩:=iZ ((w.alloc (.cells #[.int .i64 r,.int .i64 f,.int .i64 t,.slice hd.A hd.n hd.c] 28)).alloc (.cells #[.slice h.l.A h.l.n h.l.c,.slice h.s.A h.s.n h.s.c,.slice h.w.A h.w.n h.w.c] 58));rw[am] at ae ah af;rw[am]
 try rw[hq]
 have ax:Kis w1 (q+1) h s:=⟨af,hS.below (hq.symm▸ae)⟩;have ai:=Jh ax;have HQ:=Jh hq;have HB:=Jh ae;have hqw:q+1 < w1.heap.size:=af.lt;clear am hq ae hS ax;have ad:(s.samples.map Smp.t).length=h.s.n:=by rw[bd];exact ar
 have ac:(s.windows.map bY).length=h.w.n:=by rw[bd];exact ap
 have ay:=Jh (fun (w2:World) (hb:Below w1.heap.size w1 w2) (i:Nat) (hi:i < (s.samples.map Smp.t).length) (W:World) (hW:Below w2.heap.size w2 W)=>(show Calls prog 163 #[.int .i64 (i:Int),.pointer (some ⟨q+1,0,none⟩)] W fun e w'=>e = .returned (.int .i64 (s.samples.map Smp.t)[i]!)/\W=w' by
  have:=Qev W (q+1) h s ((ai.out.below hb).below hW) (by omega) i (by omega)
  rwa[show (s.samples.map Smp.t)[i]! = (s.samples[i]!).t by rw[i9 _ i hi,bI,i9 _ i (by omega)]]))
 have az:=Jh (fun (w2:World) (hb:Below w1.heap.size w1 w2) (i:Nat) (hi:i < (s.windows.map bY).length) (W:World) (hW:Below w2.heap.size w2 W)=>(show Calls prog 164 #[.int .i64 (i:Int),.pointer (some ⟨q+1,0,none⟩)] W fun e w'=>e = .returned (.int .i64 (s.windows.map bY)[i]!)/\W=w' by
  have:=Qew W (q+1) h s ((ai.out.below hb).below hW) (by omega) i (by omega)
  rwa[show (s.windows.map bY)[i]! = (s.windows[i]!).start by rw[i9 _ i hi,bI,i9 _ i (by omega)]]))
 have al:=Jh (fun (w2:World) (hb:Below w1.heap.size w1 w2)=>Klw r f t hd (s.samples.map Smp.t) 163 (q+1) w2 (by omega) (enters_of func163 (by kernel_rfl) rfl) (ay.out w2 hb));have ak:=Jh (fun (w2:World) (hb:Below w1.heap.size w1 w2)=>Klw r f t hd (s.windows.map bY) 164 (q+1) w2 (by omega) (enters_of func164 (by kernel_rfl) rfl) (az.out w2 hb));rw[ad] at al;rw[ac] at ak;unfold contV at al ak;obtain ⟨b1,ae⟩:=iZ (Kco f t (s.samples.map Smp.t));obtain ⟨b2,aw⟩:=iZ (Kco f t (s.windows.map bY));rw[ae] at al HR;rw[aw] at ak HR;rw[ap,ar] at HR;have k0:w1.cell? ⟨q,0,none⟩=some (.int .i64 r):=ah.cell 0;have k1:w1.cell? ⟨q,1,none⟩=some (.int .i64 f):=ah.cell 1;have k2:w1.cell? ⟨q,2,none⟩=some (.int .i64 t):=ah.cell 2;have k3:w1.cell? ⟨q,3,none⟩=some (.slice hd.A hd.n hd.c):=ah.cell 3;have s1:w1.cell? ⟨q+1,1,none⟩=some (.slice h.s.A h.s.n h.s.c):=af.cell 1;have s2:w1.cell? ⟨q+1,2,none⟩=some (.slice h.w.A h.w.n h.w.c):=af.cell 2;have HEA:=Jh (ai.out.2.w);have HA:=Jh (Kka s.windows h.w.A h.w.n h.w.c w1 ai.out.2.w (by omega) hb);clear ad ac ae aw
 by_cases h0:r=0
 .subst h0;have ab:=HR.out;rw[jf rfl] at ab
  by_cases hw0:h.w.n=0
  .have e0:decide ((h.w.n:Int)=0)=true:=by rw[i8];omega
   rw[hw0] at ab;have aa:R=b1:=by rw[<-ab];simp
   have an:=Jh aa;have HC:=Jh (al.out w1 (Below.refl _ _));rw[hw0] at s2;clear ab aa;go_wp2_with fail
   refine HC.out.mono ?_;rintro _ w3 ⟨rfl,h3⟩;go_wp2_with fail
   go_ret
   rw[an.out];exact ⟨rfl,by rw[HQ.out];exact HB.out.trans (h3.mono (by omega))⟩
  .have e0:decide ((h.w.n:Int)=0)=false:=by rw[jb];omega
   have e1:((h.w.n:Int) == 0)=false:=by simp;omega
   have aa:R=false:=by rw[<-ab,ja hw0];rfl
   clear ab;go_wp2_with fail
   go_ret
   try rw[aa]
   exact ⟨rfl,by rw[HQ.out];exact HB.out⟩
 .have e0:decide (r=0)=false:=ja h0;have e1:(r == 0)=false:=by simp;omega
  have ab:=HR.out;rw[je h0] at ab;obtain ⟨T,k,ag⟩:∃T k,aggO s.windows=(T,k):=⟨_,_,rfl⟩;rw[ag] at HA
  have hk:k=0↔Kch wnd0 true s.windows=true:=by
   rw[<-Kkk];unfold aggO at ag
   split at ag
   .rename_i hz
    injection ag with _ h2;rw[<-h2,hz]
   .injection ag with _ h2;rw[<-h2]
  dsimp only at HA;obtain ⟨X,hX⟩:∃X:ByteArray,(⟨T.toArray⟩:ByteArray)=X:=⟨_,rfl⟩;rw[hX] at HA;have ao:=Jh ab;have HK:=Jh hk;clear ag hX ab hk;have aq:=Jh ah;have av:=Jh af;go_wp2_with fail
  refine HA.out.mono ?_;rintro _ w2 ⟨rfl,h2⟩;have HC:=Jh (ak.out w2 h2);have g2:=av.out.below h2 av.out.lt;have f2:=aq.out.below h2 aq.out.lt;have k0:w2.cell? ⟨q,0,none⟩=some (.int .i64 r):=f2.cell 0;have k1:w2.cell? ⟨q,1,none⟩=some (.int .i64 f):=f2.cell 1;have k2:w2.cell? ⟨q,2,none⟩=some (.int .i64 t):=f2.cell 2;have k3:w2.cell? ⟨q,3,none⟩=some (.slice hd.A hd.n hd.c):=f2.cell 3;have s1:w2.cell? ⟨q+1,1,none⟩=some (.slice h.s.A h.s.n h.s.c):=g2.cell 1;have s2:w2.cell? ⟨q+1,2,none⟩=some (.slice h.w.A h.w.n h.w.c):=g2.cell 2;have aj:=Jh (HB.out.trans (h2.mono (by omega)));clear f2 g2 h2
  by_cases hk0:k=0
  .subst hk0
   by_cases hs0:h.s.n=0
   .have aa:R=b2:=by rw[<-ao.out,HK.out.1 rfl,hs0];simp
    have an:=Jh aa;rw[hs0] at s1;clear aa;go_wp2_with fail
    refine HC.out.mono ?_;rintro _ w3 ⟨rfl,h3⟩;go_wp2_with fail
    go_ret
    rw[an.out];exact ⟨rfl,by rw[HQ.out];exact aj.out.trans (h3.mono (by have:=aj.out.size;have:=HQ.out;omega))⟩
   .have e2:decide ((h.s.n:Int)=0)=false:=by rw[jb];omega
    have e3:((h.s.n:Int) == 0)=false:=by simp;omega
    have aa:R=false:=by rw[<-ao.out,ja hs0];simp
    go_wp2_with fail
    go_ret
    try rw[aa]
    exact ⟨rfl,by rw[HQ.out];exact aj.out⟩
  .have e2:((k:Int) == 0)=false:=by simp;omega
   have e3:decide ((k:Int)=0)=false:=by rw[jb];omega
   have hf:Kch wnd0 true s.windows=false:=by rw[bq];exact fun h=>hk0 (HK.out.2 h)
   have aa:R=false:=by rw[<-ao.out,hf];rfl
   clear hf;go_wp2_with fail
   go_ret
   try rw[aa]
   exact ⟨rfl,by rw[HQ.out];exact aj.out⟩
structure SerSz (s:Ser):Prop where
 n:s.samples.length<=1099511627776
 m:s.windows.length<=1099511627776
 l:s.labels.length<=1099511627776
 v:∀x∈s.samples,x.v < 2 ^ 64
 b:∀x∈s.windows,Kcm x
 z:∀x∈s.labels,x.n.length<=1099511627776/\x.v.length<=1099511627776
def okAt (c:Cont) (i:Nat):Bool:=Kcl (c.series[i]!).labels && ((decide (i=0) || decide (cmpL (c.series[i - 1]!).labels (c.series[i]!).labels < 0)) && Kdy c (c.series[i]!))
theorem Kzv:∀l:List Ser,ordS l=true↔∀i,i+1 < l.length->cmpL (l[i]!).labels (l[i+1]!).labels < 0
 | []=>by simp[ordS]
 | [_]=>by simp[ordS]
 | a :: b :: l=>by
  rw[ordS,bf,i8,Kzv (b :: l)];constructor
  .rintro ⟨h1,h2⟩ i hi
   cases i with
   | zero=>simpa using h1
   | succ i=>simpa using h2 i (by simpa using hi)
  .intro h;refine ⟨by simpa using h 0 (by simp),fun i hi=>?_⟩;simpa using h (i+1) (by simpa using hi)
theorem Kqf (c:Cont):fitB c=true↔(0<=c.res/\c.res < 3/\0<=c.frm/\c.frm < c.to_/\c.to_<=1125899906842625)/\∀i,i < c.series.length->okAt c i=true:=by
 rw[Khf,Kzv];constructor
 .rintro ⟨h1,h2,h3,h4,h5,h6,h7⟩;refine ⟨⟨h1,h2,h3,h4,h5⟩,fun i hi=>?_⟩;have hm:=h6 c.series[i]! (by rw[i9 _ i hi];exact bv hi);unfold okAt;rw[hm.1,hm.2,Bool.true_and,Bool.and_true,bJ,i8,i8]
  cases i with
  | zero=>exact .inl rfl
  | succ i=>exact .inr (h7 i hi)
 .rintro ⟨⟨h1,h2,h3,h4,h5⟩,h6⟩;refine ⟨h1,h2,h3,h4,h5,fun s hs=>?_,fun i hi=>?_⟩
  .obtain ⟨i,hi,rfl⟩:=List.getElem_of_mem hs;have:=h6 i hi;unfold okAt at this;rw[bf,bf,i9 _ i hi] at this;exact ⟨this.1,this.2.2⟩
  .have:=h6 (i+1) hi;unfold okAt at this;rw[bf,bf,bJ,i8,i8] at this;rcases this.2.1 with h | h
   .omega
   .exact h
theorem Qdh (c:Cont) (hd:Hd) (w:World) (hS:Sers w hd.A hd.n c.series) (hz:∀s∈c.series,SerSz s) (hn:hd.n<=1099511627776) :
  Calls prog 38 #[contV c.res c.frm c.to_ hd] w fun e w'=>e = .returned (.bool (fitB c))/\Below w.heap.size w w':=by
 have ap:c.series.length=hd.n:=hS.len;obtain ⟨r,hr⟩:=iZ c.res;obtain ⟨f,hf⟩:=iZ c.frm;obtain ⟨t,ht⟩:=iZ c.to_;obtain ⟨R,hR⟩:=iZ (fitB c);have ay:=Kqf c;have ac:=fun (s:Ser) (h:Hd3) (w:World) (hs:SerAt w h s) (hz:SerSz s)=>Kuv c hd s h w hs hz.n hz.m hz.b
 unfold contV at ac;rw[hR,hr,hf,ht,ap] at ay;rw[hR,hr,hf,ht];rw[hr,hf,ht] at ac;obtain ⟨A,hA⟩:=iZ hd.A;obtain ⟨n,aq⟩:=iZ hd.n;obtain ⟨cc,aI⟩:=iZ hd.c;unfold contV;rw[hA,aq,aI] at ac;rw[hA,aq] at hS;rw[aq] at ay hn ap;rw[hA,aq,aI];have aZ:=Jh ac;have aR:=Jh ay;have HS:=Jh hS;have HZ:=Jh hz;obtain ⟨q,hq⟩:=iZ w.heap.size;have aF:Below q w (w.alloc (.cells #[.int .i64 r,.int .i64 f,.int .i64 t,.slice A n cc] 28)):=(Below.refl _ _).alloc (by omega) _;have ae:Blk (w.alloc (.cells #[.int .i64 r,.int .i64 f,.int .i64 t,.slice A n cc] 28)) q 28 #[.int .i64 r,.int .i64 f,.int .i64 t,.slice A n cc]:=Blk.newAt hq.symm;clear ac ay hS hz hA aq aI hr hf ht hR;go_enter func38,ntmps38
 go_upto_region 1 with fail
 obtain ⟨w1,aB⟩:=iZ (w.alloc (.cells #[.int .i64 r,.int .i64 f,.int .i64 t,.slice A n cc] 28));rw[aB] at aF ae;rw[aB]
 try rw[hq]
 have HQ:=Jh hq;have HB:=Jh aF;have HK:=Jh ae;have hqw:q < w1.heap.size:=ae.lt;have k0:w1.cell? ⟨q,0,none⟩=some (.int .i64 r):=ae.cell 0;have k1:w1.cell? ⟨q,1,none⟩=some (.int .i64 f):=ae.cell 1;have k2:w1.cell? ⟨q,2,none⟩=some (.int .i64 t):=ae.cell 2;have k3:w1.cell? ⟨q,3,none⟩=some (.slice A n cc):=ae.cell 3;clear aB hq aF ae
 have no:∀(h:¬(0<=r/\r < 3/\0<=f/\f < t/\t<=1125899906842625)),R=false:=fun h=>by rw[bq];exact fun hR=>h (aR.out.1 hR).1
 have NO:=Jh no;clear no
 by_cases h1:r < 0
 .have aa:=NO.out (by omega);have e1:decide (r < 0)=true:=jd h1;go_wp2_with fail
  go_ret
  try rw[aa]
  exact ⟨rfl,by rw[HQ.out];exact HB.out⟩
 have e1:decide (r < 0)=false:=ja h1
 by_cases h2:3<=r
 .have aa:=NO.out (by omega);have e2:decide (3<=r)=true:=jd h2;go_wp2_with fail
  go_ret
  try rw[aa]
  exact ⟨rfl,by rw[HQ.out];exact HB.out⟩
 have e2:decide (3<=r)=false:=ja h2
 by_cases h3:f < 0
 .have aa:=NO.out (by omega);have e3:decide (f < 0)=true:=jd h3;go_wp2_with fail
  go_ret
  try rw[aa]
  exact ⟨rfl,by rw[HQ.out];exact HB.out⟩
 have e3:decide (f < 0)=false:=ja h3
 by_cases h4:t<=f
 .have aa:=NO.out (by omega);have e4:decide (t<=f)=true:=jd h4;go_wp2_with fail
  go_ret
  try rw[aa]
  exact ⟨rfl,by rw[HQ.out];exact HB.out⟩
 have e4:decide (t<=f)=false:=ja h4
 by_cases h5:1125899906842625 < t
 .have aa:=NO.out (by omega);have e5:decide (1125899906842625 < t)=true:=jd h5;go_wp2_with fail
  go_ret
  try rw[aa]
  exact ⟨rfl,by rw[HQ.out];exact HB.out⟩
 have e5:decide (1125899906842625 < t)=false:=ja h5
 have am:R=true↔∀i,i < n->okAt c i=true:=by rw[aR.out];exact ⟨fun h=>h.2,fun h=>⟨by omega,h⟩⟩
 have aS:=Jh am;clear am;go_wp2_with fail
 go_loopg [33] n (fun g s33 wr=>∃i:Nat,i+g=n/\s33 = .int .i64 (i:Int)/\Below (q+1) w1 wr/\∀j,j < i->okAt c j=true)
 case atStart=>exact ⟨0,by omega,rfl,Below.refl _ _,fun j hj=>by omega⟩
 case round=>
  obtain ⟨i,hi,rfl,aD,ao⟩:=hrel;have af:=Jh ao;have a0:=Jh aD;clear ao;have kb:=HK.out.below aD (by omega);have k0:wr.cell? ⟨q,0,none⟩=some (.int .i64 r):=kb.cell 0;have k1:wr.cell? ⟨q,1,none⟩=some (.int .i64 f):=kb.cell 1;have k2:wr.cell? ⟨q,2,none⟩=some (.int .i64 t):=kb.cell 2;have k3:wr.cell? ⟨q,3,none⟩=some (.slice A n cc):=kb.cell 3;have hqr:=kb.lt;have aM:Hid (Below q w wr):=Jh (HB.out.trans (aD.mono (by omega)))
  cases gk with
  | zero=>
   have el:decide (i < n)=false:=by rw[jb];omega
   have aa:R=true:=aS.out.2 (fun j hj=>af.out j (by omega));go_wp2_with fail
   go_ret
   try rw[aa]
   exact ⟨rfl,by rw[HQ.out];exact aM.out⟩
  | succ gk=>
   have el:decide (i < n)=true:=by rw[i8];omega
   have aJ:=HS.out.below (HQ.out.symm▸aM.out);obtain ⟨bb,aN,x,rfl,hbb,c0,c1,c2,hx⟩:=aJ.at_ (i:=i) (by omega);have aQ:i < c.series.length:=by omega
   have aw:=HZ.out (c.series[i]!) (by rw[i9 _ i aQ];exact bv aQ);go_upto_region 6 with fail
   have aj:Blk (wr.alloc (.cells #[.slice x.l.A x.l.n x.l.c,.slice x.s.A x.s.n x.s.c,.slice x.w.A x.w.n x.w.c] 58)) wr.heap.size 58 #[.slice x.l.A x.l.n x.l.c,.slice x.s.A x.s.n x.s.c,.slice x.w.A x.w.n x.w.c]:=Blk.new _ _ _;have ad:Below wr.heap.size wr (wr.alloc (.cells #[.slice x.l.A x.l.n x.l.c,.slice x.s.A x.s.n x.s.c,.slice x.w.A x.w.n x.w.c] 58)):=(Below.refl _ _).alloc (bc _) _;obtain ⟨w4,aC⟩:=iZ (wr.alloc (.cells #[.slice x.l.A x.l.n x.l.c,.slice x.s.A x.s.n x.s.c,.slice x.w.A x.w.n x.w.c] 58));obtain ⟨p,hp⟩:=iZ wr.heap.size;rw[aC] at aj ad;rw[aC];rw[hp] at aj
   try rw[hp]
   have an:=Jh (hx.below ad);have al:=kb.below ad kb.lt;have k0:w4.cell? ⟨q,0,none⟩=some (.int .i64 r):=al.cell 0;have k1:w4.cell? ⟨q,1,none⟩=some (.int .i64 f):=al.cell 1;have k2:w4.cell? ⟨q,2,none⟩=some (.int .i64 t):=al.cell 2;have k3:w4.cell? ⟨q,3,none⟩=some (.slice (some ⟨bb,aN,none⟩) n cc):=al.cell 3;have r0:w4.cell? ⟨p,0,none⟩=some (.slice x.l.A x.l.n x.l.c):=aj.cell 0;have r1:w4.cell? ⟨p,1,none⟩=some (.slice x.s.A x.s.n x.s.c):=aj.cell 1;have r2:w4.cell? ⟨p,2,none⟩=some (.slice x.w.A x.w.n x.w.c):=aj.cell 2;have hq4:=al.lt;have hp4:=aj.lt;have aU:bb < w4.heap.size:=by have:=ad.size;omega
   have aH:=Jh (aJ.below ad);have aG:Hid (Below (q+1) w1 w4):=Jh (a0.out.trans (ad.mono (by omega)));have aL:Hid (Below q w w4):=Jh (aM.out.trans (ad.mono (by omega)));have ha:=aS.out
   have aO:okAt c i=false->R=false:=fun h=>by rw[bq];intro hR;have:=ha.1 hR i (by omega);rw[h] at this;cases this
   have ax:=Jh aO;have aV:(c.series[i]!).labels.length=x.l.n:=hx.l.len;have aW:=aw.l;obtain ⟨sr,aE⟩:∃sr,c.series[i]! = sr:=⟨_,rfl⟩;have ah:okAt c i=(Kcl sr.labels && ((decide (i=0) || decide (cmpL (c.series[i - 1]!).labels sr.labels < 0)) && Kdy c sr)):=by unfold okAt;rw[aE]
   rw[aE] at an aw aV aW;obtain ⟨vl,az⟩:=iZ (Kcl sr.labels);obtain ⟨fs,ac⟩:=iZ (Kdy c sr);rw[az,ac] at ah;have av:=Jh ah;have HV:=Jh (fun y:Later w4=>Kir sr.labels x.l.A x.l.n x.l.c y.w vl az (an.out.below y.h).l an.out.lc (by omega) (fun z hz=>by have:=aw.z z hz;omega));have HF:=Jh (fun y:Later w4=>aZ.out sr x y.w (an.out.below y.h) aw);rw[ac] at HF
   have aX:Hid (∀j,i=j+1->∃y:Hd3,w4.cell? ⟨bb,aN+j*3,none⟩=some (.slice y.l.A y.l.n y.l.c)/\SerAt w4 y (c.series[j]!)):=Jh (fun j hj=>by
    obtain ⟨b2,aY,y,e,_,d0,_,_,hy⟩:=aH.out.at_ (i:=j) (by omega);injection e with e;injection e with e1 e2;subst e1 e2
    exact ⟨y,d0,hy⟩)
   have ab:Hid (∀w5,Below w4.heap.size w4 w5->Below (q+1) w1 w5/\Below q w w5):=Jh (fun w5 hb5=>⟨aG.out.trans (hb5.mono (by omega)),aL.out.trans (hb5.mono (by omega))⟩);clear aj ad aC hp hx al kb ha aO az ac ah aJ c0 c1 c2 aE
   cases vl with
   | false=>
    have aa:R=false:=ax.out (by rw[av.out];rfl);have ai:=Jh aa;clear aa;refine Kaa (by kernel_rfl) (by kernel_rfl) ?_
    repeat (go_big_quiet_step ((first | (go_at_call 105;exact Kaj _ (HV.out _)) | (go_at_call 60;exact Kaj _ (HC.out _)) | (go_at_call 106;exact Kaj _ (HF.out _)))))
    refine bZ ?_;rintro w5 ⟨⟨_,hb5⟩,rfl⟩;go_wp2_with fail
    go_ret
    try rw[ai.out]
    exact ⟨rfl,by rw[HQ.out];exact (ab.out _ hb5).2⟩
   | true=>
    by_cases hi0:i=0
    .subst hi0
     cases fs with
     | false=>
      have aa:R=false:=ax.out (by rw[av.out];rfl);have ai:=Jh aa;clear aa;refine Kaa (by kernel_rfl) (by kernel_rfl) ?_
      repeat (go_big_quiet_step ((first | (go_at_call 105;exact Kaj _ (HV.out _)) | (go_at_call 60;exact Kaj _ (HC.out _)) | (go_at_call 106;exact Kaj _ (HF.out _)))))
      refine bZ ?_;rintro w5 ⟨⟨_,hb5⟩,rfl⟩;go_wp2_with fail
      go_ret
      try rw[ai.out]
      exact ⟨rfl,by rw[HQ.out];exact (ab.out _ hb5).2⟩
     | true=>
      have ar:okAt c 0=true:=by rw[av.out];rfl
      have aK:=Jh ar;clear ar;refine Kaa (by kernel_rfl) (by kernel_rfl) ?_
      repeat (go_big_quiet_step ((first | (go_at_call 105;exact Kaj _ (HV.out _)) | (go_at_call 60;exact Kaj _ (HC.out _)) | (go_at_call 106;exact Kaj _ (HF.out _)))))
      refine bZ ?_;rintro w5 ⟨⟨_,hb5⟩,rfl⟩;go_wp2_with fail
      go_roundg gk
      case measure=>omega
      case rel=>
       refine ⟨0+1,by omega,by go_num,(ab.out _ hb5).1,fun k hk=>?_⟩
       by_cases e:k=0
       .rw[e];exact aK.out
       .exact af.out k (by omega)
    .obtain ⟨j,rfl⟩:∃j,i=j+1:=⟨i - 1,by omega⟩;obtain ⟨y,d0,hy⟩:=aX.out j rfl;have hj1:((j+1:Nat):Int) - 1=(j:Int):=by omega
     have hj2:((j:Int)+1) - 1=(j:Int):=by omega
     obtain ⟨cm,aA⟩:=iZ (cmpL (c.series[j]!).labels sr.labels);have ag:=av.out;rw[show j+1 - 1=j from rfl,aA,show decide (j+1=0)=false from rfl] at ag;have ak:=Jh ag;have hyl:(c.series[j]!).labels.length=y.l.n:=hy.l.len;have hzj:=(HZ.out (c.series[j]!) (by rw[i9 _ j (by omega)];exact bv _)).l;have HC:=Jh (fun z:Later w4=>Kql (c.series[j]!).labels sr.labels y.l.A x.l.A y.l.n x.l.n y.l.c x.l.c z.w cm aA (hy.below z.h).l (an.out.below z.h).l (by omega) (by omega));clear ag aA hy
     by_cases hc0:0<=cm
     .have e6:decide (0<=cm)=true:=jd hc0;have aa:R=false:=ax.out (by rw[ak.out,ja (by omega)];rfl);have ai:=Jh aa;clear aa;refine Kaa (by kernel_rfl) (by kernel_rfl) ?_
      repeat (go_big_quiet_step ((first | (go_at_call 105;exact Kaj _ (HV.out _)) | (go_at_call 60;exact Kaj _ (HC.out _)) | (go_at_call 106;exact Kaj _ (HF.out _)))))
      refine bZ ?_;rintro w5 ⟨⟨_,hb5⟩,rfl⟩;go_wp2_with fail
      go_ret
      try rw[ai.out]
      exact ⟨rfl,by rw[HQ.out];exact (ab.out _ hb5).2⟩
     .have e6:decide (0<=cm)=false:=ja hc0;have aP:decide (cm < 0)=true:=jd (by omega);have aT:=Jh aP;clear aP
      cases fs with
      | false=>
       have aa:R=false:=ax.out (by rw[ak.out,aT.out];rfl);have ai:=Jh aa;clear aa;refine Kaa (by kernel_rfl) (by kernel_rfl) ?_
       repeat (go_big_quiet_step ((first | (go_at_call 105;exact Kaj _ (HV.out _)) | (go_at_call 60;exact Kaj _ (HC.out _)) | (go_at_call 106;exact Kaj _ (HF.out _)))))
       refine bZ ?_;rintro w5 ⟨⟨_,hb5⟩,rfl⟩;go_wp2_with fail
       go_ret
       try rw[ai.out]
       exact ⟨rfl,by rw[HQ.out];exact (ab.out _ hb5).2⟩
      | true=>
       have ar:okAt c (j+1)=true:=by rw[ak.out,aT.out];rfl
       have aK:=Jh ar;clear ar;refine Kaa (by kernel_rfl) (by kernel_rfl) ?_
       repeat (go_big_quiet_step ((first | (go_at_call 105;exact Kaj _ (HV.out _)) | (go_at_call 60;exact Kaj _ (HC.out _)) | (go_at_call 106;exact Kaj _ (HF.out _)))))
       refine bZ ?_;rintro w5 ⟨⟨_,hb5⟩,rfl⟩;go_wp2_with fail
       go_roundg gk
       case measure=>omega
       case rel=>
        refine ⟨(j+1)+1,by omega,by go_num,(ab.out _ hb5).1,fun k hk=>?_⟩
        by_cases e:k=(j+1)
        .rw[e];exact aK.out
        .exact af.out k (by omega)
end
section
open Go.RowKit Go.Shelf
attribute [local go_sem] Oper.semAt_some
abbrev Pc (len:Nat):={ k:Nat // k*120 < len }
def pcV (A:Option Addr) (len:Nat) (k:Nat):Value:=.slice (A.map (·.add (k*120*2))) (bH 120 (len - k*120)) (bH 120 (len - k*120))
def KpC (Bs Bn:Nat) (W W':World):Prop:=W'.heap[Bs]? = W.heap[Bs]?/\W'.heap[Bn]? = W.heap[Bn]?
theorem KpC.trans {Bs Bn:Nat} {A B C:World} (h:KpC Bs Bn A B) (k:KpC Bs Bn B C):KpC Bs Bn A C:=⟨k.1.trans h.1,k.2.trans h.2⟩
theorem KpC.put {Bs Bn B:Nat} (hs:Bs < B) (hn:Bn < B) (W:World) (l:Nat) (o':Obj) (hl:B<=l):KpC Bs Bn W (W.putObj l o'):=⟨bP (by omega),bP (by omega)⟩
theorem Kyo {α : Type} {w:World} {B sz n:Nat} {enc:α->List Value} {A:Option Addr} {xs:List α} (h:Elems w B sz enc A n xs) {k:Nat} (hk:k < n) (m:Nat) (hm:m<=n - k) :
  Elems w B sz enc (A.map (·.add (k*sz))) m ((xs.drop k).take m):=by
 have h2:=h.cut (k:=k) (cap:=n) (by omega) (bc _);rw[je (by omega)] at h2;refine ⟨by rw[List.length_take,bw,h.len];omega,fun hn=>?_⟩;obtain ⟨b,aa,e,hb,hc⟩:=h2.2 (by omega);refine ⟨b,aa,e,hb,fun i x hx j v hv=>hc i x ?_ j v hv⟩;rw[List.getElem?_take] at hx
 split at hx
 .exact hx
 .cases hx
theorem Qcs (F:Fence) (n:Nat) (h7:F.fn 170) (hro:F.round=none) (hn:1<=n) (l Bs Bn:Nat) (A:Option Addr) (len cap:Nat) (hcap:len<=cap) (hreach:len<=140737488351232) (hA:0 < len->∃b off,A=some ⟨b,off,none⟩) (J Jx:List (Pc len)->World->Prop) (hJd:∀pre W,J pre W->J pre W.drew)
  (hY:∀pre x W,J pre W->pre.length < (len+119) / 120->YieldAt F (n - 1) prog l #[pcV A len x.1] W fun e W'=>
   (e = .returned (.bool true)/\J (pre ++ [x]) W'/\KpC Bs Bn W W')\/(e = .returned (.bool false)/\Jx (pre ++ [x]) W'))
  (W:World) (hBs:W.cell? ⟨Bs,0,none⟩=some (.slice A len cap)) (hBn:W.cell? ⟨Bn,0,none⟩=some (.int .i64 120)) (h0:J [] W) :
  CallsIn F n prog 170 #[.func (.yield l) #[] #[],.pointer (some ⟨Bs,0,none⟩),.pointer (some ⟨Bn,0,none⟩)] W fun e W'=>(∃v,e = .returned v)/\
   ((∃ys:List (Pc len),ys.map (·.1)=bn ((len+119) / 120)/\J ys W')\/(∃pre:List (Pc len),True/\Jx pre W')):=by
 refine callsIn_of_wp func170 rfl h7 ?_ hro;simp only[ntmps170,br,bg,bC,bF,bG,bh,bi,bs,bm,bD,bz]
 gi_wp2
 gi_loopw [4] (fun i wr=>∃(k:Nat) (pre:List (Pc len)),i = .int .i64 ((k*120:Nat):Int)/\k<=(len+119) / 120/\pre.map (·.1)=bn k/\J pre wr/\KpC Bs Bn W wr)
  (fun i _=>len+120 - (intOf i).toNat)
 case atStart=>exact ⟨0,[],rfl,Nat.zero_le _,rfl,h0,rfl,rfl⟩
 case round=>
  obtain ⟨k,pre,rfl,hk,aa,af,ab⟩:=hrel;have am:pre.length=k:=by rw[<-bd (f:=fun x:Pc len=>x.1),aa,bt]
  have cs:wr.cell? ⟨Bs,0,none⟩=some (.slice A len cap):=(bL (a:=⟨Bs,0,none⟩) ab.1).trans hBs;have cn:wr.cell? ⟨Bn,0,none⟩=some (.int .i64 120):=(bL (a:=⟨Bn,0,none⟩) ab.2).trans hBn
  by_cases hlt:k*120 < len
  .obtain ⟨b,off,rfl⟩:=hA (by omega);obtain ⟨fn,al,ad,aj,hy,hR⟩:=hY pre ⟨k,hlt⟩ wr.drew (hJd _ _ af) (by omega);obtain ⟨i,hi⟩:=iZ (k*120);obtain ⟨m,hm⟩:=iZ (bH 120 (len - i))
   have ae:pcV (some ⟨b,off,none⟩) len k = .slice (some ⟨b,off+i*2,none⟩) m m:=by unfold pcV;rw[hi,hm];simp[Addr.add]
   dsimp only at hy;rw[ae] at hy;rw[hi] at hlt |-;have ai:bH 120 (len - i)=min 120 (len - i):=rfl;have hm1:m<=120/\m<=len - i/\0 < m:=by omega
   have hmi:min (120:Int) ((len - i:Nat):Int)=(m:Int):=by omega
   have ah:min (120:Int) ((len:Int) - (i:Int))=(m:Int):=by omega
   have hci:cap≠i:=by omega
   have el:decide ((i:Int) < (len:Int))=true:=by rw[i8];omega
   clear ai hm ae
   gi_wp2
   gi_region
   all_goals (
    gi_wp2
    refine hR.mono ?_;rintro e W3 (⟨rfl,ak,ag⟩ | ⟨rfl,ac⟩)
    .have cn3:W3.cell? ⟨Bn,0,none⟩=some (.int .i64 120):=(bL (a:=⟨Bn,0,none⟩) ag.2).trans cn
     gi_wp2
     go_roundw
     case rel=>exact ⟨k+1,pre ++ [⟨k,by omega⟩],by rw[<-hi];simp;omega,by omega,by rw[bE,aa,List.range_succ];rfl,ak,KpC.trans (B:=wr.drew) ab ag⟩
     case measure=>simp[intOf];omega
    .gi_wp2
     refine bodyPost_ret (results_none rfl _ _ _) rfl ?_
     exact ⟨⟨_,rfl⟩,.inr ⟨_,trivial,ac⟩⟩)
  .have el:decide (((k*120:Nat):Int) < (len:Int))=false:=by rw[jb];omega
   obtain rfl:k=(len+119) / 120:=by omega
   gi_wp2
   go_end0
   exact ⟨⟨_,rfl⟩,.inl ⟨pre,aa,af⟩⟩
theorem Qfl (F:Fence) (n:Nat) (h5:F.fn 116) (hro:F.round=none) (A:Option Addr) (len cap:Nat) (w:World) :
  CallsIn F n prog 116 #[.slice A len cap,.int .i64 120] w fun e w'=>e = .returned (.func (.func 170) #[] #[.pointer (some ⟨w.heap.size,0,none⟩),.pointer (some ⟨w.heap.size+1,0,none⟩)])/\w'=(w.alloc (.cells #[.slice A len cap] 55)).alloc (.cells #[.int .i64 120] 3):=by
 have hmf:∀(fn:Fn) (first cap:Array Value) (w:World),(Instr.makeFunc fn first cap).run prog w = .ok (.func fn first cap) w:=fun _ _ _ _=>rfl
 refine callsIn_of_wp func116 rfl h5 ?_ hro;simp only[ntmps116,br,bg,bC,bF,bG,bh,bi,bs,bm,bD,bz]
 gi_wp2
 go_ret
 exact ⟨rfl,rfl⟩
theorem Qav (w:World) (r:Option Nat):w.grownBy w.drew r:=⟨rfl,rfl,rfl,bc _,fun _ _ _=>rfl⟩
theorem Kxk (F:Fence) (n:Nat) (h7:F.fn 170) (hro:F.round=none) (hn:1<=n) (Bs Bn:Nat) (A:Option Addr) (len cap:Nat) (hcap:len<=cap) (hreach:len<=140737488351232) (hA:0 < len->∃b off,A=some ⟨b,off,none⟩) (w:World) (hbs:Bs < w.heap.size) (hbn:Bn < w.heap.size)
  (hc:w.cell? ⟨Bs,0,none⟩=some (.slice A len cap)) (hc2:w.cell? ⟨Bn,0,none⟩=some (.int .i64 120)) :
  SeqStopsK F n prog 170 #[.pointer (some ⟨Bs,0,none⟩),.pointer (some ⟨Bn,0,none⟩)] (fun x:Pc len=>#[pcV A len x.1]) (KpC Bs Bn) (fun ys=>ys.map (·.1)=bn ((len+119) / 120)) (fun _=>True) ((len+119) / 120) w:=fun l J Jx W hW hJ _ hY h0=>
 Qcs F n h7 hro hn l Bs Bn A len cap hcap hreach hA J Jx (fun pre W h=>hJ pre W W.drew none h (Qav W none) (fun r e=>by cases e)) hY W ((hW.cell (p:=⟨Bs,0,none⟩) (by simp;omega)).trans hc) ((hW.cell (p:=⟨Bn,0,none⟩) (by simp;omega)).trans hc2) h0
end
section
open Go.RowKit Go.Shelf
open Lib renaming hid -> Jh
attribute [local go_sem] Oper.semAt_some
def pcL (l:List Smp) (k:Nat):List Smp:=(l.drop (k*120)).take 120
theorem Kgs:∀(f:Nat) (l:List Smp),l.length<=f->Kby f l=(bn ((l.length+119) / 120)).map (pcL l)
 | 0,l,h=>by have h0:l = []:=bj (by omega);subst h0;rfl
 | _+1,[],_=>rfl
 | f+1,x :: l,h=>by
  have hl:((x :: l).drop 120).length=(x :: l).length - 120:=bw;have e:((x :: l).length+119) / 120=(((x :: l).drop 120).length+119) / 120+1:=by rw[hl,bg];omega
  rw[Kby,Kgs f _ (by rw[hl];rw[bg] at h |-;omega),e,List.range_succ_eq_map,bK,bB];congr 1;apply List.map_congr_left;intro k _;show pcL _ k=pcL _ (k+1)
  unfold pcL;rw[List.drop_drop];congr 2;omega
def serV (h:Hd3):Value:=.agg #[.slice h.l.A h.l.n h.l.c,.slice h.s.A h.s.n h.s.c,.slice h.w.A h.w.n h.w.c]
theorem Qdq:(prog.info? 9).map (fun i=>(i.zero,i.size,i.bytes))=some (some (.string ⟨#[]⟩),1,16):=by kernel_rfl
theorem Qeg {w:World} {B C n sz:Nat} {T:TypeId} {v:Value} {xs:List Value} (h:w.ownsRow C T sz v n xs) (hB:B<=C):w.ownsRow B T sz v n xs:=by
 obtain ⟨h1,h2⟩:=h;refine ⟨h1,?_⟩;rcases h2 with h2 | ⟨g,cap,cur,a,b,c⟩
 .exact .inl h2
 .exact .inr ⟨g,cap,cur,a,by omega,c⟩
theorem Kyn (s:Ser) (h:Hd3) (w:World) (hS:SerAt w h s) (hn:s.samples.length<=1099511627776) (hm:s.windows.length<=1099511627776) (hv:∀x∈s.samples,x.v < 2 ^ 64) (hb:∀x∈s.windows,Kcm x) (hT:DbTab w)
  (hf:∀p∈Kby s.samples.length s.samples,(Kes p).1=Kdb p) (hg:(aggO s.windows).1=aggT s.windows) :
  Calls prog 44 #[serV h] w fun e w'=>∃v,e = .returned v/\w'.ownsRow w.heap.size 9 1 v (Kbf s).length ((Kbf s).map txtV)/\Below w.heap.size w w':=by
 refine (callsIn_wide (n:=3)).1 ?_;unfold serV;obtain ⟨ib,hi,aL,aG,aN⟩:=info_parts Qdq;refine callsIn_of_wp_marks func44 rfl trivial ?_ rfl;simp only[ntmps44,br,bg,bC,bF,bG,bh,bi,bs,bm,bD,bz]
 gi_wp2_with (refine ⟨trivial,?_⟩;gi_at_call 116;refine (Qfl Fence.wide 2 trivial rfl _ _ _ _).mono ?_;rintro e w' ⟨rfl,rfl⟩)
 obtain ⟨q,hq⟩:=iZ w.heap.size;rw[hq];have aC:Below q w (((w.alloc (.cells #[.slice h.l.A h.l.n h.l.c,.slice h.s.A h.s.n h.s.c,.slice h.w.A h.w.n h.w.c] 58)).alloc (.cells #[.slice none 0 0] 118)).alloc (.cells #[.slice h.s.A h.s.n h.s.c] 55)):=(((Below.refl _ _).alloc (by omega) _).alloc (by simp;omega) _).alloc (by simp;omega) _;have aw:=aC.alloc (by simp;omega) (.cells #[.int .i64 120] 3);have bS:Blk ((((w.alloc (.cells #[.slice h.l.A h.l.n h.l.c,.slice h.s.A h.s.n h.s.c,.slice h.w.A h.w.n h.w.c] 58)).alloc (.cells #[.slice none 0 0] 118)).alloc (.cells #[.slice h.s.A h.s.n h.s.c] 55)).alloc (.cells #[.int .i64 120] 3)) q 58 #[.slice h.l.A h.l.n h.l.c,.slice h.s.A h.s.n h.s.c,.slice h.w.A h.w.n h.w.c]:=(((Blk.newAt hq.symm).alloc _).alloc _).alloc _
 have bO:Boxed ((((w.alloc (.cells #[.slice h.l.A h.l.n h.l.c,.slice h.s.A h.s.n h.s.c,.slice h.w.A h.w.n h.w.c] 58)).alloc (.cells #[.slice none 0 0] 118)).alloc (.cells #[.slice h.s.A h.s.n h.s.c] 55)).alloc (.cells #[.int .i64 120] 3)) (q+1) 118 (.slice none 0 0):=by have:=Boxed.new (w.alloc (.cells #[.slice h.l.A h.l.n h.l.c,.slice h.s.A h.s.n h.s.c,.slice h.w.A h.w.n h.w.c] 58)) 118 (.slice none 0 0);rw[bx,hq] at this;exact (this.alloc _).alloc _
 have bA:Boxed ((((w.alloc (.cells #[.slice h.l.A h.l.n h.l.c,.slice h.s.A h.s.n h.s.c,.slice h.w.A h.w.n h.w.c] 58)).alloc (.cells #[.slice none 0 0] 118)).alloc (.cells #[.slice h.s.A h.s.n h.s.c] 55)).alloc (.cells #[.int .i64 120] 3)) (q+2) 55 (.slice h.s.A h.s.n h.s.c):=by have:=Boxed.new ((w.alloc (.cells #[.slice h.l.A h.l.n h.l.c,.slice h.s.A h.s.n h.s.c,.slice h.w.A h.w.n h.w.c] 58)).alloc (.cells #[.slice none 0 0] 118)) 55 (.slice h.s.A h.s.n h.s.c);rw[bx,bx,hq] at this;exact this.alloc _
 have bN:Boxed ((((w.alloc (.cells #[.slice h.l.A h.l.n h.l.c,.slice h.s.A h.s.n h.s.c,.slice h.w.A h.w.n h.w.c] 58)).alloc (.cells #[.slice none 0 0] 118)).alloc (.cells #[.slice h.s.A h.s.n h.s.c] 55)).alloc (.cells #[.int .i64 120] 3)) (q+3) 3 (.int .i64 120):=by have:=Boxed.new (((w.alloc (.cells #[.slice h.l.A h.l.n h.l.c,.slice h.s.A h.s.n h.s.c,.slice h.w.A h.w.n h.w.c] 58)).alloc (.cells #[.slice none 0 0] 118)).alloc (.cells #[.slice h.s.A h.s.n h.s.c] 55)) 3 (.int .i64 120);rw[bx,bx,bx,hq] at this;exact this
 obtain ⟨W0,aq⟩:=iZ ((((w.alloc (.cells #[.slice h.l.A h.l.n h.l.c,.slice h.s.A h.s.n h.s.c,.slice h.w.A h.w.n h.w.c] 58)).alloc (.cells #[.slice none 0 0] 118)).alloc (.cells #[.slice h.s.A h.s.n h.s.c] 55)).alloc (.cells #[.int .i64 120] 3));have hsz:W0.heap.size=q+4:=by rw[<-aq];simp;omega
 rw[aq] at aw bS bO bA bN |-;clear aq aC;have ao:s.samples.length=h.s.n:=hS.s.len;obtain ⟨N,hN⟩:=iZ ((h.s.n+119) / 120);rw[Kgs _ _ (bc _),ao,hN] at hf;have aX:∀k,k < N->(Kes (pcL s.samples k)).1=Kdb (pcL s.samples k):=fun k hk=>hf _ (List.mem_map.2 ⟨k,List.mem_range.2 hk,rfl⟩)
 have a7:∀W,Below q w W->∀x:Pc h.s.n,∃A n,pcV h.s.A h.s.n x.1 = .slice A n n/\Elems W W.heap.size 2 Kac A n (pcL s.samples x.1)/\n<=120:=fun W hW x=>by
  have hx:=x.2;have e:=((hS.s.below (hq.symm▸hW)).more (hq▸hW).size);refine ⟨_,_,rfl,?_,Nat.min_le_left _ _⟩;have:=Kyo e (k:=x.1*120) (by omega) (bH 120 (h.s.n - x.1*120)) (Nat.min_le_right _ _);unfold pcL
  have e2:(s.samples.drop (x.1*120)).take 120=(s.samples.drop (x.1*120)).take (bH 120 (h.s.n - x.1*120)):=by
   rw[List.take_eq_take_iff,bw,ao];show min 120 _=min (min 120 _) _
   omega
  rw[e2];exact this
 have aW:∀k,∀x∈pcL s.samples k,x.v < 2 ^ 64:=fun k x hx=>hv x (List.mem_of_mem_drop (List.mem_of_mem_take hx))
 have st:=Kxk Fence.wide 2 trivial rfl (by omega) (q+2) (q+3) h.s.A h.s.n h.s.c hS.sc (by omega) (fun hp=>by obtain ⟨b,aR,e,_⟩:=hS.s.2 hp;exact ⟨b,aR,e⟩) W0 (by omega) (by omega) bA.cell bN.cell;obtain ⟨I,hI⟩:∃I:List (Pc h.s.n)->World->Prop,I=fun pre W=>(∃v,Boxed W (q+1) 118 v/\W.ownsRow (q+1) 9 1 v pre.length (pre.map fun x=>txtV (Kdb (pcL s.samples x.1)))/\True)/\((Boxed W (q+2) 55 (.slice h.s.A h.s.n h.s.c)/\Boxed W (q+3) 3 (.int .i64 120))/\Below (q+1) W0 W):=⟨_,rfl⟩
 have ar:=OwnFrom.and (Own.from (holdsRow_own (q+1) (q+1) 118 9 1 (fun (pre:List (Pc h.s.n))=>pre.length) (fun (pre:List (Pc h.s.n))=>pre.map fun x=>txtV (Kdb (pcL s.samples x.1))) (fun _ _=>True)) W0.heap.size) (OwnFrom.and (OwnFrom.and (Own.from (boxed_own (β:=List (Pc h.s.n)) (q+2) 55 (fun _=>.slice h.s.A h.s.n h.s.c)) W0.heap.size) (Own.from (boxed_own (β:=List (Pc h.s.n)) (q+3) 3 (fun _=>.int .i64 120)) W0.heap.size)) (ownFrom_below (β:=List (Pc h.s.n)) (B:=W0.heap.size) (n₀:=q+1) (w₀:=W0) (by omega) (by omega)))
 have aZ:OwnFrom W0.heap.size I:=by rw[hI];exact ar
 have h0:I [] W0:=by rw[hI];exact ⟨⟨_,bO,World.ownsRow_nil _ _ _ _,trivial⟩,⟨bA,bN⟩,Below.refl _ _⟩
 refine wpIn_rangeFunc_ownG rfl (by omega) (gf:=170) (lb:=#[.pointer (some ⟨q+2,0,none⟩),.pointer (some ⟨q+3,0,none⟩)]) rfl trivial (enters_of func170 (by kernel_rfl) rfl)
  st (fun h k=>KpC.trans h k) (fun W l o o2 hl _ _ _=>KpC.put (B:=W0.heap.size) (by omega) (by omega) W l o2 hl) (Below.refl _ _) (fun _=>rfl) I
  (fun _ _ _=>False) aZ (fun _ _ _ _ _ hs _ _=>hs) h0
  (fun x=>{ tmps:=#[.agg #[.slice h.l.A h.l.n h.l.c,.slice h.s.A h.s.n h.s.c,.slice h.w.A h.w.n h.w.c],.pointer (some ⟨q,0,none⟩),.slice none 0 0,.pointer (some ⟨q+1,0,none⟩),pcV h.s.A h.s.n x.1,undef,undef,undef,undef,.pointer (some ⟨q,1,none⟩),.slice h.s.A h.s.n h.s.c,.func (.func 170) #[] #[.pointer (some ⟨q+1+1,0,none⟩),.pointer (some ⟨q+1+1+1,0,none⟩)],pcV h.s.A h.s.n x.1,undef,undef,undef,undef,undef,undef,undef,undef,undef,undef,undef,undef,undef,undef,undef,undef,undef,undef,undef,undef,undef,undef,undef,undef],defers:=[] }) ?assign ?body ?done ?stop
 case assign=>
  intro l x W K hK
  gi_wp2
  exact hK
 case body=>
  intro l pre x W hIW hlt;rw[hI] at hIW;obtain ⟨⟨v,ap,ae,_⟩,⟨aO,aD⟩,ab⟩:=hIW;have ah:Below q w W:=aw.trans (ab.mono (by omega));obtain ⟨A,n,aJ,hE,aA⟩:=a7 W ah x;rw[aJ];have aY:x.1 < N:=by have:=x.2;omega
  obtain ⟨T,e9,al⟩:∃T e9,Kes (pcL s.samples x.1)=(T,e9):=⟨_,_,rfl⟩;have an:=aX x.1 aY;have HC:=Kst (pcL s.samples x.1) A n n W hE (by omega) (aW _) (hT.below (hq.symm▸ah));rw[al] at HC an;dsimp only at HC an;obtain ⟨X,hX⟩:∃X:ByteArray,(⟨T.toArray⟩:ByteArray)=X:=⟨_,rfl⟩;rw[hX] at HC;have HC:=Jh HC;have HX:=Jh hX;have a6:=Jh an;have a5:=ab.size;have hBs:=ab;clear hE al hX an aJ
  gi_wp2_with (first
   | (refine ⟨trivial,?_⟩;gi_at_call 117;refine (CallsIn.inRound l (callsIn_wide.2 HC.out)).mono ?_;rintro e w5 ⟨rfl,ac⟩;have g5:W.grownBy w5 none:=⟨ac.os,ac.tape,ac.output,ac.size,fun k hk _=>ac.block k hk⟩;have ag:=ap.kept g5 (by simp);have a4:=ag.cell;have aS:=ag.frozen;have aa:=Kfj ae ac;have a9:=ac.size)
   | (gi_at_builtin;refine wpListIn_append_own _ rfl _ _ 118 rfl (q+1) 9 ib (.string ⟨#[]⟩) 1 16 underlying118 hi aL aG aN rfl (by decide) _ _ _ rfl (aa.alloc _) ⟨w5.heap.size,0,none⟩ 1 1 [.string X] rfl rfl (cell_one_new _ _ _) (by simp[bV]) (by unfold maxLen;omega) (by omega) (by simp;omega) ?_;intro v' w1 hown' hgrow _;obtain ⟨g',ad,rfl⟩:=ownsRow_succ hown';obtain ⟨ak,av,am,ax,aB⟩:=ag.appended (by decide) aa (by omega) (by omega) hown' hgrow;have aU:=ak.cell;have a1:=ak.frozen))
  have aQ:=aO.kept g5 (by simp);have aK:=aD.kept g5 (by simp);have ga:w5.grownBy _ v.ownBlock:=(World.grownBy_alloc w5 _ _).trans hgrow;have aP:=(aQ.kept ga (aQ.not_row (by decide) aa)).other (B':=q+1) (by omega) (.slice (some ⟨g',0,none⟩) (pre.length+1) ad);have aA:=(aK.kept ga (aK.not_row (by decide) aa)).other (B':=q+1) (by omega) (.slice (some ⟨g',0,none⟩) (pre.length+1) ad);refine ⟨((KeepsOthers.of_grownBy g5 (fun j o ej _=>by cases ej)).trans ax).from _,⟨(show _=_ from aP).trans (show _=_ from aO).symm,(show _=_ from aA).trans (show _=_ from aD).symm⟩,?_⟩;rw[hI];refine ⟨⟨_,av,?_,trivial⟩,⟨aP,aA⟩,(ab.trans (ac.mono (by omega))).trans aB⟩;rw[bE,bo];have ay:bW X=txtV (Kdb (pcL s.samples x.1)):=by rw[<-HX.out,a6.out];rfl
  rw[ay] at am;exact am
 case done=>
  intro D ys W hD hys hIW hK;rw[hI] at hIW;obtain ⟨⟨v,ap,ae,_⟩,_,ab⟩:=hIW;have ah:Below q w W:=aw.trans (ab.mono (by omega))
  have aM:ys.map (fun x=>txtV (Kdb (pcL s.samples x.1)))=(bn N).map (fun k=>txtV (Kdb (pcL s.samples k))):=by rw[<-hN,<-hys,bB];rfl
  have aE:ys.length=N:=by rw[<-bd (f:=fun x:Pc h.s.n=>x.1),hys,bt,hN]
  rw[aM,aE] at ae;have a3:=bS.below ab (by omega);have aF:s.windows.length=h.w.n:=hS.w.len;have aH:=(hS.w.below (hq.symm▸ah)).more (hq▸ah).size;have hc:=ap.cell;have c2:W.cell? ⟨q,2,none⟩=some (.slice h.w.A h.w.n h.w.c):=a3.cell 2
  have aj:(Kbf s).map txtV=(bn N).map (fun k=>txtV (Kdb (pcL s.samples k)))++(aggsT s.windows).map txtV:=by unfold Kbf;rw[Kgs _ _ (bc _),ao,hN,bE,bB,bB];rfl
  have ai:(Kbf s).length=N+(aggsT s.windows).length:=by unfold Kbf;rw[Kgs _ _ (bc _),ao,hN,bo,bd,bd,bt]
  have hDq:q+4<=D:=by omega
  by_cases hw0:h.w.n=0
  .have a2:s.windows = []:=bj (by omega);rw[a2] at aj ai;have e0:decide ((0:Int) < (h.w.n:Int))=false:=by rw[jb];omega
   have af:W.ownsRow q 9 1 v (Kbf s).length ((Kbf s).map txtV):=by rw[aj,ai];simpa[aggsT] using Qeg ae (by omega)
   clear ae aj ai
   gi_wp2
   refine ⟨by simp,.inl ⟨_,_,rfl,run_takeDeferred hK,?_⟩⟩;exact ⟨_,results_tmp rfl _ _ _,v,rfl,by rw[hq];exact ownsRow_putObj af _ hK rfl,by rw[hq];exact ah.trans (belowK_b (w:=W0) (n₀:=q) (by omega) W D _ _ hD hK rfl rfl)⟩
  .have e0:decide ((0:Int) < (h.w.n:Int))=true:=by rw[i8];omega
   have aI:aggsT s.windows = [aggT s.windows]:=by
    cases hx:s.windows with
    | nil=>rw[hx] at aF;simp at aF;omega
    | cons y l=>rfl
   rw[aI] at aj ai;obtain ⟨T,e9,al⟩:∃T e9,aggO s.windows=(T,e9):=⟨_,_,rfl⟩;have HC:=Kka s.windows h.w.A h.w.n h.w.c W aH (by omega) hb;rw[al] at HC hg;dsimp only at HC hg;obtain ⟨X,hX⟩:∃X:ByteArray,(⟨T.toArray⟩:ByteArray)=X:=⟨_,rfl⟩;rw[hX] at HC;have HC:=Jh HC;have HX:=Jh hX;have HG:=Jh hg;have aV:=Jh aj;have a0:=Jh ai;have HK:=Jh hK;have a8:=Jh ah;have a5:=ab.size;clear al hX hg aj ai aH aI aM aE
   gi_wp2_with (first
    | (refine ⟨trivial,?_⟩;gi_at_call 118;refine (callsIn_wide.2 HC.out).mono ?_;rintro e w5 ⟨rfl,ac⟩;have g5:W.grownBy w5 none:=⟨ac.os,ac.tape,ac.output,ac.size,fun k hk _=>ac.block k hk⟩;have ag:=ap.kept g5 (by simp);have a4:=ag.cell;have aS:=ag.frozen;have aa:=Kfj ae ac;have a9:=ac.size)
    | (gi_at_builtin;refine wpListIn_append_own _ rfl _ _ 118 rfl (q+1) 9 ib (.string ⟨#[]⟩) 1 16 underlying118 hi aL aG aN rfl (by decide) _ _ _ rfl (aa.alloc _) ⟨w5.heap.size,0,none⟩ 1 1 [.string X] rfl rfl (cell_one_new _ _ _) (by simp[bV]) (by unfold maxLen;omega) (by omega) (by simp;omega) ?_;intro v' w1 hown' hgrow _;obtain ⟨g',ad,rfl⟩:=ownsRow_succ hown';obtain ⟨ak,av,am,ax,aB⟩:=ag.appended (by decide) aa (by omega) (by omega) hown' hgrow;have aU:=ak.cell;have a1:=ak.frozen;have hc2:=av.cell))
   have az:=((KeepsOthers.of_grownBy g5 (fun j o ej _=>by cases ej)).trans ax).same D _ HK.out rfl;have ay:bW X=txtV (aggT s.windows):=by rw[<-HX.out,HG.out];rfl
   have af:(w1.setCell ⟨q+1,0,none⟩ (.slice (some ⟨g',0,none⟩) (N+1) ad)).ownsRow q 9 1 (.slice (some ⟨g',0,none⟩) (N+1) ad) (Kbf s).length ((Kbf s).map txtV):=by rw[aV.out,a0.out];rw[ay] at am;exact Qeg am (by omega)
   have aT:Below q w (w1.setCell ⟨q+1,0,none⟩ (.slice (some ⟨g',0,none⟩) (N+1) ad)):=a8.out.trans ((ac.mono (by omega)).trans (aB.mono (by omega)));refine ⟨by simp,.inl ⟨_,_,rfl,run_takeDeferred az,?_⟩⟩;exact ⟨_,results_tmp rfl _ _ _,_,rfl,by rw[hq];exact ownsRow_putObj af _ az rfl,by rw[hq];exact aT.trans (belowK_b (w:=W0) (n₀:=q) (by omega) _ D _ _ hD az rfl rfl)⟩
 case stop=>
  rintro D c pre W _ _ h _;exact h.elim
end
section
open Go.Shelf Go.RowKit
open Lib renaming hid -> Jh
attribute [local go_sem ↓] Go.wp_at_zero Go.wp_at_succ
theorem Kmf {P:Program} (w:World) (base:Nat) (t u ty e:TypeId) (i:TypeInfo) (ht:P.underlying t=some (.slice e)) (hu:P.underlying u=some .string) (hi:P.info? e=some i) (hz:i.zero=some (.int .u8 0))
  (hsize:i.size=1) (hby:i.bytes=1) (v:Value) (n:Nat) (xs:List Value) (hown:w.ownsRowF base e 1 v n xs) (s:ByteArray)
  (h63:n+s.size<=maxLen) (hbytes:n+s.size<=140737488355328) (hbase:base<=w.heap.size) :
  ∃v' w',(bU #[t,u] ty #[v,.string s]).run P w = .ok v' w'/\w'.ownsRowF base e 1 v' (n+s.size) (xs++bk s)/\w.grownBy w' v.ownBlock/\
   (v' = .slice none 0 0↔v = .slice none 0 0/\s.size=0)/\(∀k,v'.ownBlock=some k->v.ownBlock=some k\/w.heap.size<=k):=by
 obtain ⟨v',w',h1,h2,h3,h4⟩:=bl (P:=P) w base t u ty e i ht hu hi hz hsize hby v n xs hown s h63 hbytes hbase;refine ⟨v',w',h1,h2,h3,h4,fun k hk=>?_⟩;rcases hown.2 with ⟨rfl,rfl⟩ | ⟨g,cap,cur,fz,rfl,hbg,hg,hfz,hnc,hcm,hcs,htake⟩
 .obtain ⟨v2,w2,k1,k2,_,_⟩:=bl (P:=P) w w.heap.size t u ty e i ht hu hi hz hsize hby (.slice none 0 0) 0 xs ⟨hown.1,.inl ⟨rfl,rfl⟩⟩ s h63 hbytes (bc _);rw[h1] at k1;injection k1 with e1 e2;subst e1 e2;exact .inr (k2.lt k hk).1
 .by_cases hroom:n+s.size<=cap
  .have hr:=Lib.run_append_room_stringF (P:=P) w t u ty e i ht hu hi hsize g n cap cur fz hg (by simpa using hfz) s hroom (by omega);rw[h1] at hr;injection hr with e1 e2;subst e1;exact .inl hk
  .have ab:xs.length=n:=by simpa using hown.1
   have aa:∀j u,xs[j]? = some u->w.cell? ((⟨g,0,none⟩:Addr).add j)=some u:=hown.cells (g:=g) rfl;have hr:=Lib.run_append_grow_string (P:=P) w t u ty e i (.int .u8 0) ht hu hi hz ⟨g,0,none⟩ n cap xs (by rw[hsize];simpa using ab) aa s (by omega) (by simp only[maxLen] at h63;omega) (by rw[hby];exact growslice_fits (by omega) (by omega));rw[h1] at hr;injection hr with e1 e2;subst e1;simp[Value.ownBlock] at hk;exact .inr (by omega)
theorem Kjz {P:Program} {w:World} {ops:Array Oper} {rest:List Oper} {o:Oper} {a:Act} {Q:Exit->Act->World->Prop} (hgd:o.guard=none) (sl x:Operand) (t u:TypeId)
  (ho:o.op = .call { callee:=.builtin .append,args:=#[sl,x],argTypes:=#[t,u] })
  (base:Nat) (e:TypeId) (i:TypeInfo) (ht:P.underlying t=some (.slice e)) (hu:P.underlying u=some .string) (hi:P.info? e=some i) (hz:i.zero=some (.int .u8 0))
  (hsize:i.size=1) (hby:i.bytes=1)
  (v:Value) (n:Nat) (xs:List Value) (hs:a.eval sl=v) (hown:w.ownsRowF base e 1 v n xs) (s:ByteArray) (hx:a.eval x = .string s)
  (h63:n+s.size<=maxLen) (hbytes:n+s.size<=140737488355328) (hbase:base<=w.heap.size)
  (h:∀v' w',w'.ownsRowF base e 1 v' (n+s.size) (xs++bk s)->w.grownBy w' v.ownBlock->(v' = .slice none 0 0↔v = .slice none 0 0/\s.size=0)->(∀k,v'.ownBlock=some k->v.ownBlock=some k\/w.heap.size<=k)->wpList P ops Q rest (a.put o.dst v') w'):wpList P ops Q (o :: rest) a w:=by
 refine wpList_plain hgd fun K hK=>?_
 obtain ⟨v',w',hr,h2,h3,h4,h5⟩:=Kmf (P:=P) w base t u o.type e i ht hu hi hz hsize hby v n xs hown s h63 hbytes hbase;unfold Oper.wp execOp;simp only[ho,resolve,invoke,builtin,Sem.run_bind,Sem.run_pure,Result.andThen_ok,List.map_toArray,bK,List.map_nil,hs,hx,hr];exact hK _ _ (h v' w' h2 h3 h4 h5)
structure BldR (B b:Nat) (r:Option Nat) (l:List UInt8) (w:World):Prop where
 hB:B<=b
 ex:∃p v,(p = .pointer none\/p = .pointer (some ⟨b,0,none⟩))/\w.heap[b]? = some (.cells #[p,v] 109 (0,0))/\w.ownsRowF B 5 1 v l.length (be l)/\v.ownBlock=r/\(l = []->v = .slice none 0 0)
structure OnlyB (b:Nat) (r:Option Nat) (w w':World):Prop where
 os:w'.os=w.os
 tape:w'.tape=w.tape
 output:w'.output=w.output
 size:w.heap.size<=w'.heap.size
 block:∀k,k < w.heap.size->k≠b->some k≠r->w'.heap[k]? = w.heap[k]?
section
variable {B b c : Nat} {r s : Option Nat} {l m : List UInt8} {w w' : World}
theorem BldR.row (h:BldR B b r l w) {k:Nat} (hk:r=some k):B<=k/\∃cur fz,w.heap[k]? = some (.cells cur 5 fz):=by
 obtain ⟨p,v,_,_,aa,hv,_⟩:=h.ex;rcases aa.2 with ⟨rfl,_⟩ | ⟨g,cap,cur,fz,rfl,hbg,hg,_⟩
 .rw[hk] at hv;cases hv
 .rw[hk] at hv;injection hv with hv;subst hv;exact ⟨hbg,cur,fz,hg⟩
theorem BldR.blt (h:BldR B b r l w):b < w.heap.size:=by obtain ⟨p,v,_,hb,_⟩:=h.ex;exact Blk.lt hb
theorem BldR.rlt (h:BldR B b r l w) {k:Nat} (hk:r=some k):k < w.heap.size:=by obtain ⟨_,cur,fz,hc⟩:=h.row hk;exact (Array.getElem?_eq_some_iff.1 hc).1
theorem BldR.keep (h:BldR B b r l w) (h1:w'.heap[b]? = w.heap[b]?) (h2:∀k,r=some k->w'.heap[k]? = w.heap[k]?):BldR B b r l w':=by
 obtain ⟨p,v,hp,hb,aa,hv,hn⟩:=h.ex;refine ⟨h.hB,p,v,hp,h1.trans hb,⟨aa.1,?_⟩,hv,hn⟩;rcases aa.2 with h3 | ⟨g,cap,cur,fz,rfl,hbg,hg,rest⟩
 .exact .inl h3
 .exact .inr ⟨g,cap,cur,fz,rfl,hbg,(h2 g hv.symm).trans hg,rest⟩
theorem BldR.below (h:BldR B b r l w) (hb:Below w.heap.size w w'):BldR B b r l w':=h.keep (hb.block b h.blt) fun k hk=>hb.block k (h.rlt hk)
theorem BldR.new {B:Nat} (w:World) (hB:B<=w.heap.size):BldR B w.heap.size none [] (w.alloc (.cells #[.pointer none,.slice none 0 0] 109)):=
 ⟨hB,_,_,.inl rfl,heap_alloc_new w _,World.ownsRowF_nil _ _ _ _,rfl,fun _=>rfl⟩
theorem BldR.far (h:BldR B b r l w) (h':BldR B c s m w) (hbc:b≠c) (hrs:∀k,r=some k->s≠some k) (ho:OnlyB c s w w'):BldR B b r l w':=by
 refine h.keep (ho.block b h.blt hbc fun e=>?_) fun k hk=>ho.block k (h.rlt hk) (fun e=>?_) (fun e=>hrs k hk e.symm)
 .obtain ⟨p,v,_,hb,_⟩:=h.ex;obtain ⟨_,aa,fz,hc⟩:=h'.row e.symm;rw[hb] at hc;injection hc with hc;injection hc with _ hc _
  revert hc
  decide
 .obtain ⟨p,v,_,hb,_⟩:=h'.ex;obtain ⟨_,aa,fz,hc⟩:=h.row hk;rw[e,hb] at hc;injection hc with hc;injection hc with _ hc _
  revert hc
  decide
theorem OnlyB.below (h:OnlyB b r w w') (hb:B<=b) (hr:∀k,r=some k->B<=k) (hB:B<=w.heap.size):Below B w w':=
 ⟨h.os,h.tape,h.output,h.size,fun k hk=>h.block k (by omega) (by omega) fun e=>by have:=hr k e.symm;omega⟩
end
theorem Kra (B b:Nat) (r:Option Nat) (l:List UInt8) (s:ByteArray) (w:World) (h:BldR B b r l w) (hlen:l.length+s.size<=140737488355328) :
  Calls prog 40 #[.pointer (some ⟨b,0,none⟩),.string s] w fun e w'=>e = .returned (.tuple #[.int .i64 s.size,.nilIface])/\
   ∃r',BldR B b r' (l++s.data.toList) w'/\(∀k,r'=some k->r=some k\/w.heap.size<=k)/\OnlyB b r w w':=by
 obtain ⟨i0,hi,ax,av,aA⟩:=info_parts Kfy.infoByte;obtain ⟨p,v,hp,aa,ag,hv,hn⟩:=h.ex;have aw:=h.blt
 have an:Calls prog 109 #[.pointer (some ⟨b,0,none⟩)] w fun e w'=>e = .returned (.tuple #[])/\w'.heap[b]? = some (.cells #[.pointer (some ⟨b,0,none⟩),v] 109 (0,0))/\OnlyB b none w w'/\w'.heap.size=w.heap.size:=by
  rcases hp with rfl | rfl
  .refine (Any.Builder_copyCheck_fresh Kue Kfy.toX72 b w (by rw[ba aa];rfl) (by unfold bQ;rw[aa];rfl) (bp aa 0)).mono ?_;rintro e w' ⟨rfl,rfl⟩;refine ⟨rfl,?_,⟨rfl,rfl,rfl,by simp[bM],fun k _ hk _=>Below.heap_setCell _ _ _ _ (fun e=>hk e)⟩,by simp[bM]⟩;have:=(show Blk w b 109 #[.pointer none,v] from aa).set_ 0 (.pointer (some ⟨b,0,none⟩));exact this
  .refine (Any.Builder_copyCheck_used Kue Kfy.toX72 b w (by rw[ba aa];rfl)).mono ?_;rintro e w' ⟨rfl,rfl⟩;exact ⟨rfl,aa,⟨rfl,rfl,rfl,bc _,fun _ _ _ _=>rfl⟩,rfl⟩
 have ay:=Jh an
 have ak:v.ownBlock≠some b:=fun e=>by
  obtain ⟨_,af,fz,hc⟩:=h.row (hv.symm.trans e);rw[aa] at hc;injection hc with hc;injection hc with _ hc _
  revert hc
  decide
 have HN:=Jh hn;have HV:=Jh hv;have ac:=Jh ag;have HB:=Jh h.hB;clear an hp hn hv ag h aa;go_enter func40,ntmps40
 go_wp2_with fail
 refine ay.out.mono ?_;rintro e w1 ⟨rfl,aa,al,am⟩
 have ae:w1.ownsRowF B 5 1 v l.length (be l):=by
  refine ⟨ac.out.1,?_⟩;rcases ac.out.2 with h3 | ⟨g,cap,af,fz,e1,hbg,hg,rest⟩
  .exact .inl h3
  .refine .inr ⟨g,cap,af,fz,e1,hbg,(al.block g (Array.getElem?_eq_some_iff.1 hg).1 (fun e2=>ak (by rw[e1,e2];rfl)) (by simp)).trans hg,rest⟩
 have c0:w1.cell? ⟨b,0,none⟩=some (.pointer (some ⟨b,0,none⟩)):=by rw[ba aa];rfl
 have c1:w1.cell? ⟨b,1,none⟩=some v:=by rw[ba aa];rfl
 have ah:=Jh al;have ad:=Jh am;have ap:=Jh aa;clear al am aa;go_wp2_with (at_builtin;refine Kjz rfl _ _ 76 9 rfl B 5 i0 underlying76 underlying9 hi ax av aA _ _ _ rfl ae s rfl ?c3 ?c4 ?c5 ?_)
 case c3=>unfold maxLen;omega
 case c4=>omega
 case c5=>have:=HB.out;have:=ad.out;omega
 intro v' w2 hown' hgrow hnil hwhere;have az:b < w1.heap.size:=by have:=ad.out;omega
 have ai:w2.heap[b]? = some (.cells #[.pointer (some ⟨b,0,none⟩),v] 109 (0,0)):=by rw[hgrow.block b az (fun e=>ak e.symm)];exact ap.out
 have d0:w2.cell? ⟨b,0,none⟩=some (.pointer (some ⟨b,0,none⟩)):=by rw[ba ai];rfl
 have d1:w2.cell? ⟨b,1,none⟩=some v:=by rw[ba ai];rfl
 have f1:w2.frozen? ⟨b,1,none⟩=false:=bp ai 1
 obtain ⟨ao,n',cap,rfl⟩:∃ao n' cap,v' = .slice ao n' cap:=by
  rcases hown'.2 with ⟨hv,_⟩ | ⟨g,cap,af,fz,hv,_⟩
  .exact ⟨_,_,_,hv⟩
  .exact ⟨_,_,_,hv⟩
 have aj:=Jh hnil;clear hnil;go_wp2_with fail
 go_ret2
 have ab:Blk (w2.setCell ⟨b,1,none⟩ (.slice ao n' cap)) b 109 #[.pointer (some ⟨b,0,none⟩),.slice ao n' cap]:=(show Blk w2 b 109 #[.pointer (some ⟨b,0,none⟩),v] from ai).set_ 1 _
 have hv'b:(bX ao n' cap).ownBlock≠some b:=fun e=>by
  rcases hwhere b e with h1 | h1
  .exact ak h1
  .omega
 refine ⟨rfl,(bX ao n' cap).ownBlock,⟨HB.out,_,_,.inr rfl,ab,?_,rfl,?_⟩,fun k hk=>?_,⟨?_,?_,?_,?_,fun k hk hkb hkr=>?_⟩⟩
 .have ar:(l++s.data.toList).length=l.length+s.size:=by rw[bo];rfl
  have aq:be (l++s.data.toList)=be l++bk s:=by simp[be,bk]
  rw[ar,aq];refine ⟨hown'.1,?_⟩;rcases hown'.2 with h3 | ⟨g,cap,af,fz,e1,hbg,hg,rest⟩
  .exact .inl h3
  .refine .inr ⟨g,cap,af,fz,e1,hbg,(Below.heap_setCell _ _ _ _ (fun e2=>hv'b (by rw[e1,e2];rfl))).trans hg,rest⟩
 .intro hnl;have h1:l = []/\s.data.toList = []:=by simpa using hnl
  refine aj.out.2 ⟨HN.out h1.1,?_⟩;have h2:=jk List.length h1.2;have h3:s.data = #[]:=by simpa using h1.2
  first
   | exact h2
   | (cases s with | mk d=>(have h4:d = #[]:=h3);rw[h4];rfl)
 .rw[<-HV.out];rcases hwhere k hk with h1 | h1
  .exact .inl h1
  .exact .inr (by have:=ad.out;omega)
 .exact hgrow.os.trans ah.out.os
 .exact hgrow.tape.trans ah.out.tape
 .exact hgrow.output.trans ah.out.output
 .have:=hgrow.size;have:=ad.out;simp[bM];omega
 .rw[Below.heap_setCell _ _ _ _ (fun e=>hkb e),hgrow.block k (by have:=ad.out;omega) (by rw[HV.out];exact hkr),ah.out.block k hk hkb (by simp)]
theorem Kvx (b g:Nat) (w:World) (n:Nat):OnlyB b (some g) w (w.drew.freeze ⟨g,0,none⟩ n):=by
 unfold World.freeze
 split
 .exact ⟨rfl,rfl,rfl,bc _,fun _ _ _ _=>rfl⟩
 .refine ⟨rfl,rfl,rfl,by simp,fun k _ _ hk=>?_⟩;show (Array.modify _ _ _)[k]? = _
  rw[Array.getElem?_modify,je (fun e=>hk (by rw[<-e]))];rfl
theorem Kit (B b:Nat) (r:Option Nat) (l:List UInt8) (w:World) (h:BldR B b r l w) :
  Calls prog 48 #[.pointer (some ⟨b,0,none⟩)] w fun e w'=>e = .returned (.string ⟨l.toArray⟩)/\OnlyB b r w w':=by
 obtain ⟨p,v,hp,ad,ab,hv,hn⟩:=h.ex
 by_cases h0:l = []
 .obtain rfl:=hn h0;subst h0;have ag:(bT #[215,3] 9 #[.pointer none,.int .i64 0]).run prog w.drew = .ok (.string ⟨#[]⟩) w.drew:=Any.unsafeString_none Kne Kfy w.drew none
  have c1:w.drew.cell? ⟨b,1,none⟩=some (.slice none 0 0):=by have:w.drew.heap[b]? = some (.cells #[p,.slice none 0 0] 109 (0,0)):=ad;rw[ba this];rfl
  have af:(bR #[76] 215 #[.slice none 0 0]).run prog w.drew = .ok (.pointer none) w.drew:=rfl;have aa:OnlyB b r w w.drew:=⟨rfl,rfl,rfl,bc _,fun _ _ _ _=>rfl⟩;clear hp ad ab hv hn h;go_enter func48,ntmps48
  go_wp2
  go_region
  all_goals (go_wp2;go_ret;exact ⟨rfl,aa⟩)
 .have ai:l.length≠0:=by simpa using h0
  obtain ⟨g,cap,cur,fz,rfl,hbg,hg,ah,hnc,ae,aj,ac⟩:∃g cap cur fz,v = .slice (some ⟨g,0,none⟩) l.length cap/\B<=g/\w.heap[g]? = some (.cells cur 5 fz)/\fz.2<=l.length*1/\l.length<=cap/\cap<=maxLen/\cur.size=cap*1/\cur.toList.take (l.length*1)=be l:=by
   rcases ab.2 with ⟨_,hz⟩ | ⟨g,cap,cur,fz,hv,r⟩
   .exact jl hz ai
   .exact ⟨g,cap,cur,fz,hv,r⟩
  have c1:w.drew.cell? ⟨b,1,none⟩=some (.slice (some ⟨g,0,none⟩) l.length cap):=by have:w.drew.heap[b]? = some (.cells #[p,.slice (some ⟨g,0,none⟩) l.length cap] 109 (0,0)):=ad;rw[ba this];rfl
  have af:(bR #[76] 215 #[.slice (some ⟨g,0,none⟩) l.length cap]).run prog w.drew = .ok (.pointer (some ⟨g,0,none⟩)) w.drew:=
   Lib.run_unsafeSliceData_row _ _ _ _ _ _ (by omega)
  have ag:(bT #[215,3] 9 #[.pointer (some ⟨g,0,none⟩),.int .i64 l.length]).run prog w.drew = .ok (.string ⟨l.toArray⟩) (w.drew.freeze ⟨g,0,none⟩ l.length):=by refine Lib.run_unsafeString_row w.drew 215 3 9 5 Kne.t127 Kfy.cellsByte g cur.size (by have hg':w.drew.heap[g]? = some (.cells cur 5 fz):=hg;simp[bQ,hg']) l h0 (by omega) (by unfold maxLen at ae;omega) ?_;intro j x hx;have:=ab.cells (g:=g) rfl j (.int .u8 x.toNat) (by simp[be,hx]);exact this
  have aa:OnlyB b r w (w.drew.freeze ⟨g,0,none⟩ l.length):=by rw[show r=some g from hv.symm];exact Kvx b g w _
  have HF:=Jh aa;clear hp ad ab hv hn h hg ah ae aj ac aa;go_enter func48,ntmps48
  go_wp2
  go_region
  all_goals (go_wp2;go_ret;exact ⟨rfl,HF.out⟩)
def Two (B b1 b2:Nat) (l1 l2:List UInt8) (w:World):Prop:=∃r1 r2,BldR B b1 r1 l1 w/\BldR B b2 r2 l2 w/\b1≠b2/\∀k,r1=some k->r2≠some k
theorem Two.below {B b1 b2:Nat} {l1 l2:List UInt8} {w w':World} (h:Two B b1 b2 l1 l2 w) (hb:Below w.heap.size w w'):Two B b1 b2 l1 l2 w':=by obtain ⟨r1,r2,h1,h2,h3,h4⟩:=h;exact ⟨r1,r2,h1.below hb,h2.below hb,h3,h4⟩
theorem Two.swap {B b1 b2:Nat} {l1 l2:List UInt8} {w:World} (h:Two B b1 b2 l1 l2 w):Two B b2 b1 l2 l1 w:=by obtain ⟨r1,r2,h1,h2,h3,h4⟩:=h;exact ⟨r2,r1,h2,h1,Ne.symm h3,fun k hk hk'=>h4 k hk' hk⟩
def Rest (w w':World):Prop:=∀k T cs,Blk w k T cs->T≠109->T≠5->Blk w' k T cs
theorem Rest.below {w w':World} (h:Below w.heap.size w w'):Rest w w':=fun _ _ _ hb _ _=>hb.below h hb.lt
theorem Rest.own {w w':World} {B n sz:Nat} {T:TypeId} {v:Value} {xs:List Value} (h:Rest w w') (ho:w.ownsRow B T sz v n xs) (h1:T≠109) (h2:T≠5):w'.ownsRow B T sz v n xs:=by
 refine ⟨ho.1,?_⟩;rcases ho.2 with h3 | ⟨g,cap,cur,e1,hbg,hg,rest⟩
 .exact .inl h3
 .exact .inr ⟨g,cap,cur,e1,hbg,h g T cur hg h1 h2,rest⟩
theorem BldR.rest {B b:Nat} {r:Option Nat} {l:List UInt8} {w w':World} (h:BldR B b r l w) (ho:OnlyB b r w w'):Rest w w':=by
 intro k T cs hk h1 h2;refine (ho.block k hk.lt (fun e=>?_) (fun e=>?_)).trans hk
 .obtain ⟨p,v,_,hb,_⟩:=h.ex;rw[<-e,show w.heap[k]? = _ from hk] at hb;injection hb with hb;injection hb with _ hb _;exact h1 hb
 .obtain ⟨_,cur,fz,hc⟩:=h.row e.symm;rw[show w.heap[k]? = _ from hk] at hc;injection hc with hc;injection hc with _ hc _;exact h2 hc
theorem Kpy {B b1 b2:Nat} {l1 l2:List UInt8} (s:ByteArray) (w:World) (h:Two B b1 b2 l1 l2 w) (hlen:l1.length+s.size<=140737488355328) (hB:B<=w.heap.size) :
  Calls prog 40 #[.pointer (some ⟨b1,0,none⟩),.string s] w fun e w'=>e = .returned (.tuple #[.int .i64 s.size,.nilIface])/\Two B b1 b2 (l1++s.data.toList) l2 w'/\Below B w w'/\Rest w w':=by
 obtain ⟨r1,r2,h1,h2,h3,h4⟩:=h;refine (Kra B b1 r1 l1 s w h1 hlen).mono ?_;rintro e w' ⟨rfl,r',k1,k2,k3⟩;refine ⟨rfl,⟨r',r2,k1,h2.far h1 (Ne.symm h3) (fun k hk hk'=>h4 k hk' hk) k3,h3,fun k hk hk'=>?_⟩,k3.below h1.hB (fun k hk=>(h1.row hk).1) hB,h1.rest k3⟩;rcases k2 k hk with h5 | h5
 .exact h4 k h5 hk'
 .have:=h2.rlt hk';omega
theorem Kdz {B b1 b2:Nat} {l1 l2:List UInt8} (s:ByteArray) (w:World) (h:Two B b1 b2 l1 l2 w) (hlen:l2.length+s.size<=140737488355328) (hB:B<=w.heap.size) :
  Calls prog 40 #[.pointer (some ⟨b2,0,none⟩),.string s] w fun e w'=>e = .returned (.tuple #[.int .i64 s.size,.nilIface])/\Two B b1 b2 l1 (l2++s.data.toList) w'/\Below B w w'/\Rest w w':=by
 refine (Kpy s w h.swap hlen hB).mono ?_;rintro e w' ⟨h1,h2,h3⟩;exact ⟨h1,h2.swap,h3⟩
theorem Qcd {B b1 b2:Nat} {l1 l2:List UInt8} (w:World) (h:Two B b1 b2 l1 l2 w) (hB:B<=w.heap.size) :
  Calls prog 48 #[.pointer (some ⟨b1,0,none⟩)] w fun e w'=>e = .returned (.string ⟨l1.toArray⟩)/\(∃r2,BldR B b2 r2 l2 w')/\Below B w w':=by
 obtain ⟨r1,r2,h1,h2,h3,h4⟩:=h;refine (Kit B b1 r1 l1 w h1).mono ?_;rintro e w' ⟨rfl,k3⟩;exact ⟨rfl,⟨r2,h2.far h1 (Ne.symm h3) (fun k hk hk'=>h4 k hk' hk) k3⟩,k3.below h1.hB (fun k hk=>(h1.row hk).1) hB⟩
end
end Go.Proofs.YtdoiekknhnbepaaGreatDoor
