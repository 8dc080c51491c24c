/- Merged (what the claim wants of): KptMem, ChkRdB, RegFault, ChkRdC, ChkRdD, ChkRdE, ChkRdF. -/
import Derived.Test.YtefpndiiedkmpaaGreatDoorKpw06
import Derived.Test.YtefpndiiedkmpaaGreatDoorKpw03
import Derived.Test.YtefpndiiedkmpaaGreatDoorKpw04
import Derived.Test.YtefpndiiedkmpaaGreatDoorKpw02
import Derived.Maps.AppendAt
import Derived.Deep.Onto
set_option linter.unusedVariables false
set_option linter.unusedSimpArgs false
set_option maxRecDepth 100000
set_option maxHeartbeats 8000000
namespace Go.Proofs.YtefpndiiedkmpaaGreatDoor
section
open Go.RowKit Go.Shelf Go.Sort
structure KHd where
 l:Hd
 g0:Hd
 g1:Hd
 g2:Hd
 s:Hd
instance:Inhabited KHd:=⟨⟨default,default,default,default,default⟩⟩
def kserV (h:KHd) (m:Int):Value:=.agg #[.slice h.l.A h.l.n h.l.c,.int .i64 m,.slice h.g0.A h.g0.n h.g0.c,.slice h.g1.A h.g1.n h.g1.c,.slice h.g2.A h.g2.n h.g2.c,.slice h.s.A h.s.n h.s.c]
structure KAt (w:World) (h:KHd) (s:KSer):Prop where
 l:Elems w w.heap.size 2 encLb h.l.A h.l.n s.labels
 lc:h.l.n≤h.l.c
 g0:Elems w w.heap.size 2 Kac h.g0.A h.g0.n s.g0
 g1:Elems w w.heap.size 2 Kac h.g1.A h.g1.n s.g1
 g2:Elems w w.heap.size 2 Kac h.g2.A h.g2.n s.g2
 s:Elems w w.heap.size 2 Kcb h.s.A h.s.n s.samples
 sc:h.s.n≤h.s.c
theorem KAt.below {w w':World} {h:KHd} {s:KSer} (hk:KAt w h s) (hb:Below w.heap.size w w'):KAt w' h s:=
 ⟨(hk.l.below hb).more hb.size,hk.lc,(hk.g0.below hb).more hb.size,(hk.g1.below hb).more hb.size,(hk.g2.below hb).more hb.size,(hk.s.below hb).more hb.size,hk.sc⟩
structure KSz (s:KSer):Prop where
 l:s.labels.length≤1099511627776
 z:∀x∈s.labels,x.n.length≤1099511627776∧x.v.length≤1099511627776
 m:-9223372036854775808≤s.max∧s.max≤9223372036854775807
 g:s.g0.length≤1099511627776∧s.g1.length≤1099511627776∧s.g2.length≤1099511627776
 i:(∀x∈s.g0,SpnIn x)∧(∀x∈s.g1,SpnIn x)∧(∀x∈s.g2,SpnIn x)
 n:s.samples.length≤1099511627776
 v:∀x∈s.samples,x.v < 2 ^ 64
def KSer.g (s:KSer) (i:Nat):List Spn:=match i with
 | 0=>s.g0
 | 1=>s.g1
 | _=>s.g2
def KHd.g (h:KHd) (i:Nat):Hd:=match i with
 | 0=>h.g0
 | 1=>h.g1
 | _=>h.g2
theorem KAt.g {w:World} {h:KHd} {s:KSer} (hk:KAt w h s) (i:Nat):Elems w w.heap.size 2 Kac (h.g i).A (h.g i).n (s.g i):=match i with
 | 0=>hk.g0
 | 1=>hk.g1
 | _+2=>hk.g2
theorem KSz.gi {s:KSer} (hs:KSz s) (i:Nat):(s.g i).length≤1099511627776∧∀x∈s.g i,SpnIn x:=match i with
 | 0=>⟨hs.g.1,hs.i.1⟩
 | 1=>⟨hs.g.2.1,hs.i.2.1⟩
 | _+2=>⟨hs.g.2.2,hs.i.2.2⟩
def sOk (m:Int) (l:List Smp) (i:Nat):Prop:=0≤l[i]!.t∧l[i]!.t≤m∧(0 < i→l[i - 1]!.t < l[i]!.t)
theorem Qly {m:Int} {l:List Smp}:((∀x∈l,0≤x.t∧x.t≤m)∧l.Pairwise fun a b=>a.t < b.t)↔∀i,i < l.length→sOk m l i:=by
 constructor
 ·rintro ⟨h1,h2⟩ i hi;have h3:=h1 l[i]! (by rw[getElem!_pos l i hi];exact List.getElem_mem hi);refine ⟨h3.1,h3.2,fun h0=>?_⟩;have:=List.pairwise_iff_getElem.1 h2 (i - 1) i (by omega) hi (by omega);rwa[getElem!_pos l (i - 1) (by omega),getElem!_pos l i hi]
 ·intro h;refine ⟨fun x hx=>?_,?_⟩
  ·obtain ⟨i,hi,rfl⟩:=List.getElem_of_mem hx;have:=h i hi;unfold sOk at this;rw[getElem!_pos l i hi] at this;exact ⟨this.1,this.2.1⟩
  ·rw[List.pairwise_iff_getElem];intro i j hi hj hij
   have key:∀d,∀(hd:i+d+1 < l.length),l[i].t < (l[i+d+1]'hd).t:=by
    intro d
    induction d with
    | zero=>
     intro hd;have:=(h (i+1) hd).2.2 (by omega);rwa[Nat.add_sub_cancel,getElem!_pos l i hi,getElem!_pos l (i+1) hd] at this
    | succ d ih=>
     intro hd;have h1:=ih (by omega);have:=(h (i+d+1+1) hd).2.2 (by omega);rw[Nat.add_sub_cancel,getElem!_pos l (i+d+1) (by omega),getElem!_pos l (i+d+1+1) hd] at this;have e:i+(d+1)+1=i+d+1+1:=by omega
     simp only[e];omega
   have:=key (j - i - 1) (by omega);have e:i+(j - i - 1)+1=j:=by omega
   simp only[e] at this;exact this
theorem Ktj {s:KSer}:Kdh s=true↔Kdv s.labels=true∧(-1≤s.max∧s.max≤1125899906842624)∧(∀i,i < 3→Kbf (s.g i))∧∀i,i < s.samples.length→sOk s.max s.samples i:=by
 rw[Kft,←Qly];constructor
 ·rintro ⟨h1,h2,h3,h4⟩;refine ⟨h1,h2,fun i hi=>?_,h4⟩
  match i,hi with
  | 0,_=>exact h3.1
  | 1,_=>exact h3.2.1
  | 2,_=>exact h3.2.2
 ·rintro ⟨h1,h2,h3,h4⟩;exact ⟨h1,h2,⟨h3 0 (by omega),h3 1 (by omega),h3 2 (by omega)⟩,h4⟩
end
section
open Go.RowKit
open Lib renaming hid → Jh
attribute [local go_sem ↓] Go.wp_at_zero Go.wp_at_succ
attribute [local go_sem] Later.cell
def i64V (v:Int):Value:=.int .i64 v
def Kdt (S:List UInt8) (c:Cst) (i:Nat):Option (Int×Cst×Nat):=match Kbx S i with
 | none=>none
 | some (v,j)=>some (v,c,j)
theorem Kept.two {w w1 w2:World} {a b:Nat} (h:Kept w.heap.size [a,b] w w1) (k:Kept w1.heap.size [a,b] w1 w2):Kept w.heap.size [a,b] w w2:=h.trans (k.mono h.size (fun _ _ h=>h))
theorem Kept.then_' {w w1 w2:World} {ex:List Nat} (h:Kept w.heap.size ex w w1) (k:Below w1.heap.size w1 w2):Kept w.heap.size ex w w2:=h.then_ k
theorem Kdm {s:List UInt8} {i n v j:Nat} (h:readN s i n=some (v,j)):v < 2 ^ n:=by
 unfold readN at h
 split at h
 ·injection h with h;injection h with h _;have:=Knd (Kdc s i n);rw[Kfr] at this;omega
 ·cases h
theorem Qnt (w:World):(Instr.field 297 (.agg #[.int .u64 2,.int .i64 2,.int .i64 7]) 2).run Tryz.prog w = .ok (.int .i64 7) w:=by kernel_rfl
theorem Qnu (w:World):(Instr.field 297 (.agg #[.int .u64 6,.int .i64 3,.int .i64 9]) 2).run Tryz.prog w = .ok (.int .i64 9) w:=by kernel_rfl
theorem Qnv (w:World):(Instr.field 297 (.agg #[.int .u64 14,.int .i64 4,.int .i64 12]) 2).run Tryz.prog w = .ok (.int .i64 12) w:=by kernel_rfl
theorem Qnw (w:World):(Instr.field 297 (.agg #[.int .u64 15,.int .i64 4,.int .i64 64]) 2).run Tryz.prog w = .ok (.int .i64 64) w:=by kernel_rfl
theorem Kwp (rd rb i:Nat) (S:ByteArray) (c:Cst) (w:World) (h:RdrAt rd rb S i c w) (hS:S.size≤140737488351232) (hi:i≤8*S.size) :
  Calls Tryz.prog 245 #[.pointer (some ⟨rd,0,none⟩)] w (RdO rd rb S i64V w (Kdt S.data.toList c i)):=by
 have H:=Jh h;clear h;obtain ⟨M0,hM0⟩:∃M0,Kep S.data.toList 4 i=M0:=⟨_,rfl⟩;have HM0:=Jh hM0;clear hM0;go_enter Tryz.func245,Tryz.ntmps245
 go_upto_block 0 with fail
 go_cut [3] (fun s3 wx=>∃m j:Nat,M0=some (m,j)∧s3 = .int .i64 (m:Int)∧m≤4∧j≤8*S.size∧RdrAt rd rb S j c wx∧Kept w.heap.size [rd,rb] w wx)
 case first=>
  go_wp2_with fail
  go_loopg [3] 4 (fun g s3 wr=>∃m j:Nat,m+g=4∧s3 = .int .i64 (m:Int)∧j≤8*S.size∧RdrAt rd rb S j c wr∧Kept w.heap.size [rd,rb] w wr∧M0=(match Kep S.data.toList g j with | none=>none | some (k,j2)=>some (k+m,j2)))
  case atStart=>exact ⟨0,i,rfl,rfl,hi,H.out,Kept.refl _ _ _,by rw[HM0.out];cases M0 <;> rfl⟩
  case round=>
   obtain ⟨m,j,hm,rfl,hj,hr,hk,hmk⟩:=hrel;have HR:=Jh hr;have HK:=Jh hk;have HMK:=Jh hmk;clear hr hk hmk
   cases gk with
   | zero=>
    obtain rfl:m=4:=by omega
    have hmk:=HMK.out;rw[Kep] at hmk;go_wp2_with fail
    go_meet
    exact ⟨4,j,hmk,rfl,by decide,hj,HR.out,HK.out⟩
   | succ g=>
    have el:decide ((m:Int) < 4)=true:=by rw[decide_eq_true_eq];omega
    have HB:=Jh (Kcd rd rb j 1 S c wr HR.out (by decide) hS hj);obtain ⟨o,ho⟩:∃o,readN S.data.toList j 1=o:=⟨_,rfl⟩;have HO:=Jh ho;have hmk:=HMK.out;rw[Kep,ho] at hmk;unfold bitsR at HB;rw[ho] at HB;clear ho
    cases o with
    | none=>
     have HN:Hid (M0=none):=Jh hmk;clear hmk;go_wp2_with fail
     refine HB.out.mono ?_;rintro _ w2 ⟨⟨f,hf,rfl⟩,hk2⟩;unfold Kaz;go_wp2_with fail
     refine Kah rfl ?_;unfold Kdt Kbx;rw[HM0.out,HN.out];exact ⟨⟨f,hf,rfl⟩,HK.out.two hk2⟩
    | some vj=>
     obtain ⟨v,j2⟩:=vj;dsimp only at hmk HB;go_wp2_with fail
     refine HB.out.mono ?_;rintro _ w2 ⟨rfl,hr2,hj2,hk2⟩;unfold u64V;have HR2:=Jh hr2;have HK2:=Jh (HK.out.two hk2);clear hr2 hk2
     by_cases hv:v=1
     ·subst hv;rw[if_pos rfl] at hmk;have HM:=Jh hmk;clear hmk;go_wp2_with fail
      go_roundg g
      case measure=>omega
      case rel=>
       refine ⟨m+1,j2,by omega,by go_num,hj2,HR2.out,HK2.out,?_⟩;rw[HM.out]
       cases Kep S.data.toList g j2 with
       | none=>rfl
       | some x=>dsimp only;rw[Nat.add_right_comm,Nat.add_assoc]
     ·rw[if_neg hv] at hmk;have HM:=Jh hmk;have e1:((v:Int) == 1)=false:=by simp;omega
      clear hmk;go_wp2_with fail
      go_meet
      exact ⟨m,j2,by rw[HM.out,Nat.zero_add],rfl,by omega,hj2,HR2.out,HK2.out⟩
 case rest=>
  obtain ⟨m,j,hmk,rfl,hm4,hj,hr,hk⟩:=hcut;have HR:=Jh hr;have HK:=Jh hk;have HMK:=Jh hmk;clear hr hk hmk;rcases (by omega:m=0∨m=1∨m=2∨m=3∨m=4) with rfl | rfl | rfl | rfl | rfl
  ·go_wp2_with fail
   go_ret
   unfold Kdt Kbx;rw[HM0.out,HMK.out];exact ⟨rfl,HR.out,hj,HK.out⟩
  ·have HB:=Jh (fun w2 (hb:Below wc.heap.size wc w2)=>Kcd rd rb j 7 S c w2 (HR.out.below hb) (by decide) hS hj);obtain ⟨o,ho⟩:∃o,readN S.data.toList j 7=o:=⟨_,rfl⟩;have HO:=Jh ho;unfold bitsR at HB;simp only[ho] at HB;clear ho;go_wp2_with fail
   refine (Kfi wc).mono ?_;rintro _ w2 ⟨rfl,hb2⟩;have i0:=size0;have i1:=Qnt;obtain ⟨vs,hvs⟩:∃vs,Kfx=vs:=⟨_,rfl⟩;rw[hvs] at i0;rw[show (Value.agg #[.int .u64 2,.int .i64 2,.int .i64 7,.int .u64 6,.int .i64 3,.int .i64 9,.int .u64 14,.int .i64 4,.int .i64 12,.int .u64 15,.int .i64 4,.int .i64 64])=vs from hvs];clear hvs;have HB2:=Jh (HB.out w2 hb2);have HK2:=Jh (HK.out.then_' hb2);clear hb2
   cases o with
   | none=>
    go_wp2_with fail
    refine HB2.out.mono ?_;rintro _ w3 ⟨⟨f,hf,rfl⟩,hk3⟩;unfold Kaz;go_wp2_with fail
    refine Kah rfl ?_
    have hcr:Kbx S.data.toList i=none:=by
     unfold Kbx;rw[HM0.out,HMK.out];dsimp only;rw[show Kdw (0+1)=7 from rfl,HO.out]
    unfold Kdt;rw[hcr];exact ⟨⟨f,hf,rfl⟩,HK2.out.two hk3⟩
   | some vj=>
    obtain ⟨v,j2⟩:=vj;have hvl:v < 2 ^ 7:=Kdm HO.out;go_wp2_with fail
    refine HB2.out.mono ?_;rintro _ w3 ⟨rfl,hr3,hj3,hk3⟩;have HR3:=Jh hr3;have HK3:=Jh (HK2.out.two hk3);clear hr3 hk3;unfold u64V;go_wp2_with fail
    go_ret
    have hcr:Kbx S.data.toList i=some (signW 7 v,j2):=by
     unfold Kbx;rw[HM0.out,HMK.out];dsimp only;rw[show Kdw (0+1)=7 from rfl,HO.out]
    have hsg:wrap64 ((v:Int)*144115188075855872) / 144115188075855872=signW 7 v:=by
     simp at hvl;unfold signW wrap64;simp
     split <;> omega
    unfold Kdt;rw[hcr,hsg];exact ⟨rfl,HR3.out,hj3,HK3.out⟩
  ·have HB:=Jh (fun w2 (hb:Below wc.heap.size wc w2)=>Kcd rd rb j 9 S c w2 (HR.out.below hb) (by decide) hS hj);obtain ⟨o,ho⟩:∃o,readN S.data.toList j 9=o:=⟨_,rfl⟩;have HO:=Jh ho;unfold bitsR at HB;simp only[ho] at HB;clear ho;go_wp2_with fail
   refine (Kfi wc).mono ?_;rintro _ w2 ⟨rfl,hb2⟩;have i0:=size1;have i1:=Qnu;obtain ⟨vs,hvs⟩:∃vs,Kfx=vs:=⟨_,rfl⟩;rw[hvs] at i0;rw[show (Value.agg #[.int .u64 2,.int .i64 2,.int .i64 7,.int .u64 6,.int .i64 3,.int .i64 9,.int .u64 14,.int .i64 4,.int .i64 12,.int .u64 15,.int .i64 4,.int .i64 64])=vs from hvs];clear hvs;have HB2:=Jh (HB.out w2 hb2);have HK2:=Jh (HK.out.then_' hb2);clear hb2
   cases o with
   | none=>
    go_wp2_with fail
    refine HB2.out.mono ?_;rintro _ w3 ⟨⟨f,hf,rfl⟩,hk3⟩;unfold Kaz;go_wp2_with fail
    refine Kah rfl ?_
    have hcr:Kbx S.data.toList i=none:=by
     unfold Kbx;rw[HM0.out,HMK.out];dsimp only;rw[show Kdw (1+1)=9 from rfl,HO.out]
    unfold Kdt;rw[hcr];exact ⟨⟨f,hf,rfl⟩,HK2.out.two hk3⟩
   | some vj=>
    obtain ⟨v,j2⟩:=vj;have hvl:v < 2 ^ 9:=Kdm HO.out;go_wp2_with fail
    refine HB2.out.mono ?_;rintro _ w3 ⟨rfl,hr3,hj3,hk3⟩;have HR3:=Jh hr3;have HK3:=Jh (HK2.out.two hk3);clear hr3 hk3;unfold u64V;go_wp2_with fail
    go_ret
    have hcr:Kbx S.data.toList i=some (signW 9 v,j2):=by
     unfold Kbx;rw[HM0.out,HMK.out];dsimp only;rw[show Kdw (1+1)=9 from rfl,HO.out]
    have hsg:wrap64 ((v:Int)*36028797018963968) / 36028797018963968=signW 9 v:=by
     simp at hvl;unfold signW wrap64;simp
     split <;> omega
    unfold Kdt;rw[hcr,hsg];exact ⟨rfl,HR3.out,hj3,HK3.out⟩
  ·have HB:=Jh (fun w2 (hb:Below wc.heap.size wc w2)=>Kcd rd rb j 12 S c w2 (HR.out.below hb) (by decide) hS hj);obtain ⟨o,ho⟩:∃o,readN S.data.toList j 12=o:=⟨_,rfl⟩;have HO:=Jh ho;unfold bitsR at HB;simp only[ho] at HB;clear ho;go_wp2_with fail
   refine (Kfi wc).mono ?_;rintro _ w2 ⟨rfl,hb2⟩;have i0:=size2;have i1:=Qnv;obtain ⟨vs,hvs⟩:∃vs,Kfx=vs:=⟨_,rfl⟩;rw[hvs] at i0;rw[show (Value.agg #[.int .u64 2,.int .i64 2,.int .i64 7,.int .u64 6,.int .i64 3,.int .i64 9,.int .u64 14,.int .i64 4,.int .i64 12,.int .u64 15,.int .i64 4,.int .i64 64])=vs from hvs];clear hvs;have HB2:=Jh (HB.out w2 hb2);have HK2:=Jh (HK.out.then_' hb2);clear hb2
   cases o with
   | none=>
    go_wp2_with fail
    refine HB2.out.mono ?_;rintro _ w3 ⟨⟨f,hf,rfl⟩,hk3⟩;unfold Kaz;go_wp2_with fail
    refine Kah rfl ?_
    have hcr:Kbx S.data.toList i=none:=by
     unfold Kbx;rw[HM0.out,HMK.out];dsimp only;rw[show Kdw (2+1)=12 from rfl,HO.out]
    unfold Kdt;rw[hcr];exact ⟨⟨f,hf,rfl⟩,HK2.out.two hk3⟩
   | some vj=>
    obtain ⟨v,j2⟩:=vj;have hvl:v < 2 ^ 12:=Kdm HO.out;go_wp2_with fail
    refine HB2.out.mono ?_;rintro _ w3 ⟨rfl,hr3,hj3,hk3⟩;have HR3:=Jh hr3;have HK3:=Jh (HK2.out.two hk3);clear hr3 hk3;unfold u64V;go_wp2_with fail
    go_ret
    have hcr:Kbx S.data.toList i=some (signW 12 v,j2):=by
     unfold Kbx;rw[HM0.out,HMK.out];dsimp only;rw[show Kdw (2+1)=12 from rfl,HO.out]
    have hsg:wrap64 ((v:Int)*4503599627370496) / 4503599627370496=signW 12 v:=by
     simp at hvl;unfold signW wrap64;simp
     split <;> omega
    unfold Kdt;rw[hcr,hsg];exact ⟨rfl,HR3.out,hj3,HK3.out⟩
  ·have HB:=Jh (fun w2 (hb:Below wc.heap.size wc w2)=>Kcd rd rb j 64 S c w2 (HR.out.below hb) (by decide) hS hj);obtain ⟨o,ho⟩:∃o,readN S.data.toList j 64=o:=⟨_,rfl⟩;have HO:=Jh ho;unfold bitsR at HB;simp only[ho] at HB;clear ho;go_wp2_with fail
   refine (Kfi wc).mono ?_;rintro _ w2 ⟨rfl,hb2⟩;have i0:=size3;have i1:=Qnw;obtain ⟨vs,hvs⟩:∃vs,Kfx=vs:=⟨_,rfl⟩;rw[hvs] at i0;rw[show (Value.agg #[.int .u64 2,.int .i64 2,.int .i64 7,.int .u64 6,.int .i64 3,.int .i64 9,.int .u64 14,.int .i64 4,.int .i64 12,.int .u64 15,.int .i64 4,.int .i64 64])=vs from hvs];clear hvs;have HB2:=Jh (HB.out w2 hb2);have HK2:=Jh (HK.out.then_' hb2);clear hb2
   cases o with
   | none=>
    go_wp2_with fail
    refine HB2.out.mono ?_;rintro _ w3 ⟨⟨f,hf,rfl⟩,hk3⟩;unfold Kaz;go_wp2_with fail
    refine Kah rfl ?_
    have hcr:Kbx S.data.toList i=none:=by
     unfold Kbx;rw[HM0.out,HMK.out];dsimp only;rw[show Kdw (3+1)=64 from rfl,HO.out]
    unfold Kdt;rw[hcr];exact ⟨⟨f,hf,rfl⟩,HK2.out.two hk3⟩
   | some vj=>
    obtain ⟨v,j2⟩:=vj;have hvl:v < 2 ^ 64:=Kdm HO.out;go_wp2_with fail
    refine HB2.out.mono ?_;rintro _ w3 ⟨rfl,hr3,hj3,hk3⟩;have HR3:=Jh hr3;have HK3:=Jh (HK2.out.two hk3);clear hr3 hk3;unfold u64V;go_wp2_with fail
    go_ret
    have hcr:Kbx S.data.toList i=some (signW 64 v,j2):=by
     unfold Kbx;rw[HM0.out,HMK.out];dsimp only;rw[show Kdw (3+1)=64 from rfl,HO.out]
    have hsg:wrap64 (v:Int)=signW 64 v:=by
     simp at hvl;unfold signW wrap64;simp
     split <;> omega
    unfold Kdt;rw[hcr,hsg];exact ⟨rfl,HR3.out,hj3,HK3.out⟩
end
section
open Go.RowKit
theorem Oper.wp_faults {P:Program} {Q:Exit→Act→World→Prop} {o:Oper} {a:Act} {w w1:World} {g:FuncId} {args:Array Value} {K:Act→World→Prop} (h:(execOp a.eval o).run P w = .ok (.enter g args) w1) {N:List PanicEntry→World→Prop}
  (hc:Calls P g args w1 fun e w'=>∃u,e = .panicked u∧N u w') (hK:∀u w',N u w'→Q (.panic u) a w'):OpW o P a w K Q:=.of <| by
 unfold Oper.wp;rw[h];refine Calls.mono hc ?_;rintro e w' ⟨u,rfl,hn⟩;exact hK u w' hn
end
section
open Go.RowKit
open Lib renaming hid → Jh
open List renaming setIfInBounds_toArray → Ja, set_cons_zero → Jb, set_cons_succ → Jc
attribute [local go_sem ↓] Go.wp_at_zero Go.wp_at_succ
attribute [local go_sem] Later.cell
theorem RdrAt.cells {rd rb:Nat} {S:ByteArray} {i:Nat} {c:Cst} {w:World} (h:RdrAt rd rb S i c w) :
  w.cell? ⟨rd,3,none⟩=some (.int .i64 (c.n:Int))∧w.cell? ⟨rd,4,none⟩=some (.int .i64 c.last.t)∧w.cell? ⟨rd,5,none⟩=some (.int .u64 (c.last.v:Int))∧w.cell? ⟨rd,6,none⟩=some (.int .i64 c.step)∧
  w.cell? ⟨rd,7,none⟩=some (.int .i64 (c.lead:Int))∧w.cell? ⟨rd,8,none⟩=some (.int .i64 (c.tail:Int))∧w.cell? ⟨rd,9,none⟩=some (.bool c.window)∧∀i,w.frozen? ⟨rd,i,none⟩=false:=
 ⟨h.r.cell 3,h.r.cell 4,h.r.cell 5,h.r.cell 6,h.r.cell 7,h.r.cell 8,h.r.cell 9,h.r.frozen⟩
theorem RdrAt.put {rd rb:Nat} {S:ByteArray} {i:Nat} {c:Cst} {w:World} (h:RdrAt rd rb S i c w) (k:Nat) (u:Value) (c':Cst) (hc:(restC c).set k u=restC c'):RdrAt rd rb S i c' (w.setCell ⟨rd,k+3,none⟩ u):=by
 refine ⟨?_,h.b.far (p:=⟨rd,k+3,none⟩) (fun e=>h.ne e.symm) _⟩;have:=h.r.set_ (k+3) u;rw[←hc];simpa using this
theorem Kept.of_drew {B:Nat} {ex:List Nat} {w w':World} (h:Kept B ex w.drew w'):Kept B ex w w':=⟨h.os,h.tape,h.output,h.size,h.block⟩
theorem Qii {S:List UInt8} {i v j:Nat} (h:readN S i 1=some (v,j)):v=0∨v=1:=by
 have:=Kdm h;omega
theorem Kww (rd rb i:Nat) (S:ByteArray) (c:Cst) (w:World) (h:RdrAt rd rb S i c w) (hc:c.Ok) (hS_:S.size≤140737488351232) (hi:i≤8*S.size) :
  Calls Tryz.prog 247 #[.pointer (some ⟨rd,0,none⟩)] w (RdO rd rb S u64V w (Kbh c S.data.toList i)):=by
 have H:=Jh h;clear h;obtain ⟨r1,hr1⟩:∃r1,readN S.data.toList i 1=r1:=⟨_,rfl⟩;have HB1:=Jh (Kcd rd rb i 1 S c w H.out (by decide) hS_ hi);unfold bitsR at HB1;rw[hr1] at HB1;have HR1:=Jh hr1;clear hr1
 cases r1 with
 | none=>
  go_enter Tryz.func247,Tryz.ntmps247
  go_wp2_with fail
  refine HB1.out.mono ?_;rintro _ w2 ⟨⟨f,hf,rfl⟩,hk2⟩;unfold Kaz;go_wp2_with fail
  refine Kah rfl ?_;unfold Kbh;rw[HR1.out];exact ⟨⟨f,hf,rfl⟩,hk2⟩
 | some vj=>
  obtain ⟨v1,i1⟩:=vj;have h01:=Qii HR1.out;dsimp only at HB1;go_enter Tryz.func247,Tryz.ntmps247
  go_wp2_with fail
  refine HB1.out.mono ?_;rintro _ w2 ⟨rfl,hq2,hi1,hk2⟩;have HQ2:=Jh hq2;have HK2:=Jh hk2;clear hq2 hk2;unfold u64V;rcases h01 with rfl | rfl
  ·go_wp2_with fail
   go_ret
   unfold Kbh;rw[HR1.out];exact ⟨rfl,HQ2.out,hi1,HK2.out⟩
  ·obtain ⟨r2,hr2⟩:∃r2,readN S.data.toList i1 1=r2:=⟨_,rfl⟩;have HB2:=Jh (Kcd rd rb i1 1 S c w2 HQ2.out (by decide) hS_ hi1);unfold bitsR at HB2;rw[hr2] at HB2;have HR2:=Jh hr2;clear hr2
   cases r2 with
   | none=>
    go_wp2_with fail
    refine HB2.out.mono ?_;rintro _ w3 ⟨⟨f,hf,rfl⟩,hk3⟩;unfold Kaz;go_wp2_with fail
    refine Kah rfl ?_;unfold Kbh;rw[HR1.out];dsimp only;rw[HR2.out];exact ⟨⟨f,hf,rfl⟩,HK2.out.two hk3⟩
   | some vj=>
    obtain ⟨v2,i2⟩:=vj;have h02:=Qii HR2.out;dsimp only at HB2;go_wp2_with fail
    refine HB2.out.mono ?_;rintro _ w3 ⟨rfl,hq3,hi2,hk3⟩;have HQ3:=Jh hq3;have HK3:=Jh (HK2.out.two hk3);clear hq3 hk3;unfold u64V;rcases h02 with rfl | rfl
    ·have hcc:=HQ3.out.cells;have c7:=hcc.2.2.2.2.1;have c8:=hcc.2.2.2.2.2.1;have c9:=hcc.2.2.2.2.2.2.1;clear hcc;have ge0:decide ((0:Int)≤(c.tail:Int))=true:=by rw[decide_eq_true_eq];omega
     cases hw:c.window with
     | false=>
      rw[hw] at c9;go_wp2_with fail
      refine (Kew _ 21 w3).mono ?_;rintro _ _ ⟨rfl,rfl⟩;unfold Kaz;go_wp2_with fail
      refine Kah rfl ?_
      have hd:Kbh c S.data.toList i=none:=by
       unfold Kbh;rw[HR1.out];dsimp only;rw[HR2.out];dsimp only;rw[if_neg (by simp[hw])]
      rw[hd];exact ⟨⟨21,by decide,rfl⟩,HK3.out⟩
     | true=>
      rw[hw] at c9;have ho:=hc.2;go_wp2_with fail
      refine (Kfm _ 21 w3).mono ?_;rintro _ _ ⟨rfl,rfl⟩;obtain ⟨n,hn⟩:∃n,64 - c.lead - c.tail=n:=⟨_,rfl⟩;have e1:wrap64 (64 - (c.lead:Int) - (c.tail:Int))=(n:Int):=by unfold wrap64;omega
      have e2:(64:Int) - (c.lead:Int) - (c.tail:Int)=(n:Int):=by omega
      obtain ⟨r3,hr3⟩:∃r3,readN S.data.toList i2 n=r3:=⟨_,rfl⟩;have HB3:=Jh (fun w' (hb:RdrAt rd rb S i2 c w')=>Kcd rd rb i2 n S c w' hb (by omega) hS_ hi2);unfold bitsR at HB3;simp only[hr3] at HB3;have HR3:=Jh hr3;have HN:=Jh hn;clear hr3 hn;have e9:IntKind.i64.wrap (IntKind.i64.wrap (64 - (c.lead:Int)) - (c.tail:Int))=(n:Int):=by rw[IntKind.wrap_i64,IntKind.wrap_i64];omega
      have htl:c.tail < 64:=by omega
      have hlc:c.lead≤63:=by omega
      go_upto_region 8 with fail
      have hS:w3.drew.cell? ⟨rd,7,none⟩=some (.int .i64 (c.lead:Int))∧w3.drew.cell? ⟨rd,8,none⟩=some (.int .i64 (c.tail:Int)):=⟨c7,c8⟩;refine Kce (fun w'=>w'.cell? ⟨rd,7,none⟩=some (.int .i64 (c.lead:Int))∧w'.cell? ⟨rd,8,none⟩=some (.int .i64 (c.tail:Int))) 17 18 (by kernel_rfl) rfl ?_;rw[show Array.replicate 18 false = #[false,false,false,false,false,false,false,false,false,false,false,false,false,false,false,false,false,false] from rfl];refine Kaa (i:=0) (d:=some 47) rfl rfl (by kernel_rfl) (by kernel_rfl) (by kernel_rfl) rfl (fun _ _ _ h=>h) (by rfl) (fun w=>by go_simp;try rfl) (fun _=>hS) ?_;simp only[Act.put,Ja,Jb,Jc];refine Kaa (i:=1) (d:=some 48) rfl rfl (by kernel_rfl) (by kernel_rfl) (by kernel_rfl) rfl (fun _ _ _ h=>h) (by rfl) (fun w=>by go_simp;try rfl) (fun _=>hS) ?_;simp only[Act.put,Ja,Jb,Jc];refine Kaa (i:=2) (d:=some 49) rfl rfl (by kernel_rfl) (by kernel_rfl) (by kernel_rfl) rfl (fun _ _ _ h=>h) (by rfl) (fun w=>by go_simp;try rfl) (fun _=>hS) ?_;simp only[Act.put,Ja,Jb,Jc];refine Kaa (i:=3) (d:=some 50) rfl rfl (by kernel_rfl) (by kernel_rfl) (by kernel_rfl) rfl (fun _ _ _ h=>h) (by rfl) (fun w=>by go_simp;try rfl) (fun _=>hS) ?_;simp only[Act.put,Ja,Jb,Jc];refine Kap (i:=4) (d:=some 51) rfl rfl (by kernel_rfl) (by kernel_rfl) (by kernel_rfl) (by kernel_rfl) rfl (fun _ _ _ h=>h) (.inl ⟨by rfl,fun w hw=>by (obtain ⟨ha,hb⟩:=hw;go_simp;try rfl)⟩) hS ?_;simp only[Act.put,Ja,Jb,Jc];refine Kaa (i:=5) (d:=some 52) rfl rfl (by kernel_rfl) (by kernel_rfl) (by kernel_rfl) rfl (fun _ _ _ h=>h) (by rfl) (fun w=>by go_simp;try rfl) (fun _=>hS) ?_;simp only[Act.put,Ja,Jb,Jc];refine Kaa (i:=6) (d:=some 53) rfl rfl (by kernel_rfl) (by kernel_rfl) (by kernel_rfl) rfl (fun _ _ _ h=>h) (by rfl) (fun w=>by go_simp;try rfl) (fun _=>hS) ?_;simp only[Act.put,Ja,Jb,Jc];refine Kaa (i:=7) (d:=some 54) rfl rfl (by kernel_rfl) (by kernel_rfl) (by kernel_rfl) rfl (fun _ _ _ h=>h) (by rfl) (fun w=>by go_simp;try rfl) (fun _=>hS) ?_;simp only[Act.put,Ja,Jb,Jc];refine Kaa (i:=8) (d:=some 55) rfl rfl (by kernel_rfl) (by kernel_rfl) (by kernel_rfl) rfl (fun _ _ _ h=>h) (by rfl) (fun w=>by go_simp;try rfl) (fun _=>hS) ?_;simp only[Act.put,Ja,Jb,Jc];refine Kap (i:=9) (d:=some 56) rfl rfl (by kernel_rfl) (by kernel_rfl) (by kernel_rfl) (by kernel_rfl) rfl (fun _ _ _ h=>h) (.inl ⟨by rfl,fun w hw=>by (obtain ⟨ha,hb⟩:=hw;go_simp;try rfl)⟩) hS ?_;simp only[Act.put,Ja,Jb,Jc];refine Kaa (i:=10) (d:=some 57) rfl rfl (by kernel_rfl) (by kernel_rfl) (by kernel_rfl) rfl (fun _ _ _ h=>h) (by rfl) (fun w=>by go_simp;try rfl) (fun _=>hS) ?_;simp only[Act.put,Ja,Jb,Jc];refine Kaa (i:=12) (d:=some 59) rfl rfl (by kernel_rfl) (by kernel_rfl) (by kernel_rfl) rfl (fun _ _ _ h=>h) (by rfl) (fun w=>by go_simp;try rfl) (fun _=>hS) ?_;simp only[Act.put,Ja,Jb,Jc];refine Kaa (i:=13) (d:=some 60) rfl rfl (by kernel_rfl) (by kernel_rfl) (by kernel_rfl) rfl (fun _ _ _ h=>h) (by rfl) (fun w=>by go_simp;try rfl) (fun _=>hS) ?_;simp only[Act.put,Ja,Jb,Jc]
      refine Kaa (i:=14) (d:=some 61) rfl rfl (by kernel_rfl) (by kernel_rfl) (by kernel_rfl) rfl (fun _ _ _ h=>h) (by rfl) (fun w=>by go_simp;try rfl) (fun _=>hS) ?_;simp only[Act.put,Ja,Jb,Jc];refine Kap (i:=15) (d:=some 62) rfl rfl (by kernel_rfl) (by kernel_rfl) (by kernel_rfl) (by kernel_rfl) rfl (fun _ _ _ h=>h) (.inl ⟨by rfl,fun w hw=>by (obtain ⟨ha,hb⟩:=hw;go_simp;try rfl)⟩) hS ?_;simp only[Act.put,Ja,Jb,Jc];refine Kak (i:=11) (by kernel_rfl) rfl rfl ?_
      cases r3 with
      | none=>
       refine Oper.wp_faults (w1:=w3.drew) (g:=244) (args:=#[.pointer (some ⟨rd,0,none⟩),.int .i64 (n:Int)]) (by go_simp) (N:=fun u w'=>(∃f,f≠0∧Ending.panicked u=Kaz f)∧Kept w3.heap.size [rd,rb] w3 w') ((HB3.out w3.drew ⟨HQ3.out.r,HQ3.out.b⟩).mono ?_) ?_
       ·rintro _ w4 ⟨⟨f,hf,rfl⟩,hk4⟩;exact ⟨_,rfl,⟨f,hf,rfl⟩,hk4.of_drew⟩
       ·rintro u w4 ⟨hfu,hk4⟩;simp only[Exit.then];refine Kah rfl ?_
        have hd:Kbh c S.data.toList i=none:=by
         unfold Kbh;rw[HR1.out];dsimp only;rw[HR2.out];dsimp only;rw[if_pos hw,HN.out,HR3.out]
        rw[hd];exact ⟨hfu,HK3.out.two hk4⟩
      | some vj=>
       obtain ⟨v3,i3⟩:=vj;have hvn:=Kdm HR3.out;refine Oper.wp_called (d:=some 58) (w1:=w3.drew) (g:=244) (args:=#[.pointer (some ⟨rd,0,none⟩),.int .i64 (n:Int)]) rfl (by go_simp) (N:=fun u w'=>u = .int .u64 (v3:Int)∧RdrAt rd rb S i3 c w'∧i3≤8*S.size∧Kept w3.heap.size [rd,rb] w3 w') ((HB3.out w3.drew ⟨HQ3.out.r,HQ3.out.b⟩).mono ?_) ?_
       ·rintro _ w4 ⟨rfl,hq4,hi4,hk4⟩;exact ⟨_,rfl,rfl,hq4,hi4,hk4.of_drew⟩
       ·rintro _ w4 ⟨rfl,hq4,hi4,hk4⟩;refine ⟨fun _=>⟨hq4.cells.2.2.2.2.1,hq4.cells.2.2.2.2.2.1⟩,?_⟩;simp only[Act.put,Ja,Jb,Jc]
        have hd:Kbh c S.data.toList i=some (v3 <<< c.tail,c,i3):=by
         unfold Kbh;rw[HR1.out];dsimp only;rw[HR2.out];dsimp only;rw[if_pos hw,HN.out,HR3.out]
        have hlt:v3 <<< c.tail < 2 ^ 64:=(Khm hc hd).1;have hsz:(v3:Int)*(2:Int) ^ c.tail=((v3 <<< c.tail:Nat):Int):=by rw[Nat.shiftLeft_eq];simp
        obtain ⟨Z,hZ⟩:∃Z,v3 <<< c.tail=Z:=⟨_,rfl⟩;rw[hZ] at hsz hd hlt
        have hsh:IntKind.u64.wrap ((v3:Int)*(2:Int) ^ c.tail)=(Z:Int):=by
         rw[hsz];exact Kez _ (by omega) (by omega)
        clear hZ hlt hsz;refine Kak (i:=16) (by kernel_rfl) rfl rfl ?_;refine Oper.wp_ran (d:=some 63) (w':=w4) (v:=.int .u64 (Z:Int)) rfl (by go_simp;try rfl) ⟨fun _=>⟨hq4.cells.2.2.2.2.1,hq4.cells.2.2.2.2.2.1⟩,?_⟩;simp only[Act.put,Ja,Jb,Jc];refine Kcp (i:=17) (by kernel_rfl) rfl rfl (by kernel_rfl) ?_;refine Oper.wp_ran (d:=some 2) (w':=w4) (v:=.int .u64 (Z:Int)) rfl (by go_simp;try rfl) ?_;simp only[Act.put,Ja,Jb,Jc];refine Kaw (by kernel_rfl) ?_ _;clear c7 c8 c9 hS;go_wp2_with fail
        go_ret
        exact ⟨rfl,hq4,hi4,HK3.out.two hk4⟩
    ·obtain ⟨r5,hr5⟩:∃r5,readN S.data.toList i2 5=r5:=⟨_,rfl⟩;have HB5:=Jh (Kcd rd rb i2 5 S c w3 HQ3.out (by decide) hS_ hi2);unfold bitsR at HB5;rw[hr5] at HB5;have HR5:=Jh hr5;clear hr5
     cases r5 with
     | none=>
      go_wp2_with fail
      refine HB5.out.mono ?_;rintro _ w4 ⟨⟨f,hf,rfl⟩,hk4⟩;unfold Kaz;go_wp2_with fail
      refine Kah rfl ?_
      have hd:Kbh c S.data.toList i=none:=by
       unfold Kbh;rw[HR1.out];dsimp only;rw[HR2.out];dsimp only;rw[HR5.out]
      rw[hd];exact ⟨⟨f,hf,rfl⟩,HK3.out.two hk4⟩
     | some vj=>
      obtain ⟨ld,i4⟩:=vj;dsimp only at HB5;have hld:ld < 2 ^ 5:=Kdm HR5.out;go_wp2_with fail
      refine HB5.out.mono ?_;rintro _ w4 ⟨rfl,hq4,hi4,hk4⟩;have hcc:=hq4.cells;have c7:=hcc.2.2.2.2.1;have c9:=hcc.2.2.2.2.2.2.1;have z7:=hcc.2.2.2.2.2.2.2 7;have z9:=hcc.2.2.2.2.2.2.2 9
      have hq5:RdrAt rd rb S i4 { c with lead:=ld,window:=true } ((w4.setCell ⟨rd,7,none⟩ (.int .i64 (ld:Int))).setCell ⟨rd,9,none⟩ (.bool true)):=
       (hq4.put 4 (.int .i64 (ld:Int)) { c with lead:=ld } rfl).put 6 (.bool true) { c with lead:=ld,window:=true } rfl
      have hk5:Kept w.heap.size [rd,rb] w ((w4.setCell ⟨rd,7,none⟩ (.int .i64 (ld:Int))).setCell ⟨rd,9,none⟩ (.bool true)):=
       ((HK3.out.two hk4).setCell (p:=⟨rd,7,none⟩) (.inl (by simp)) _).setCell (p:=⟨rd,9,none⟩) (.inl (by simp)) _
      have HQ5:=Jh hq5;have HK5:=Jh hk5;clear hcc hq4 hk4 hq5 hk5;unfold u64V;go_upto_region 6 with fail
      obtain ⟨w5,hw5⟩:∃w5,((w4.setCell ⟨rd,7,none⟩ (.int .i64 (ld:Int))).setCell ⟨rd,9,none⟩ (.bool true))=w5:=⟨_,rfl⟩;rw[hw5] at HQ5 HK5;rw[hw5];clear hw5 c7 c9 z7 z9;obtain ⟨r6,hr6⟩:∃r6,readN S.data.toList i4 6=r6:=⟨_,rfl⟩;have HB6:=Jh (Kcd rd rb i4 6 S _ w5.drew ⟨HQ5.out.r,HQ5.out.b⟩ (by decide) hS_ hi4);unfold bitsR at HB6;rw[hr6] at HB6;have HR6:=Jh hr6;clear hr6;have c7:w5.cell? ⟨rd,7,none⟩=some (.int .i64 (ld:Int)):=HQ5.out.cells.2.2.2.2.1;have hS:w5.drew.cell? ⟨rd,7,none⟩=some (.int .i64 (ld:Int))∧True:=⟨c7,trivial⟩;refine Kce (fun w'=>w'.cell? ⟨rd,7,none⟩=some (.int .i64 (ld:Int))∧True) 10 13 (by kernel_rfl) rfl ?_;rw[show Array.replicate 13 false = #[false,false,false,false,false,false,false,false,false,false,false,false,false] from rfl];refine Kaa (i:=0) (d:=some 22) rfl rfl (by kernel_rfl) (by kernel_rfl) (by kernel_rfl) rfl (fun _ _ _ h=>h) (by rfl) (fun w=>by go_simp;try rfl) (fun _=>hS) ?_;simp only[Act.put,Ja,Jb,Jc];refine Kaa (i:=1) (d:=some 23) rfl rfl (by kernel_rfl) (by kernel_rfl) (by kernel_rfl) rfl (fun _ _ _ h=>h) (by rfl) (fun w=>by go_simp;try rfl) (fun _=>hS) ?_;simp only[Act.put,Ja,Jb,Jc];refine Kaa (i:=2) (d:=some 24) rfl rfl (by kernel_rfl) (by kernel_rfl) (by kernel_rfl) rfl (fun _ _ _ h=>h) (by rfl) (fun w=>by go_simp;try rfl) (fun _=>hS) ?_;simp only[Act.put,Ja,Jb,Jc];refine Kaa (i:=3) (d:=some 25) rfl rfl (by kernel_rfl) (by kernel_rfl) (by kernel_rfl) rfl (fun _ _ _ h=>h) (by rfl) (fun w=>by go_simp;try rfl) (fun _=>hS) ?_;simp only[Act.put,Ja,Jb,Jc];refine Kap (i:=4) (d:=some 26) rfl rfl (by kernel_rfl) (by kernel_rfl) (by kernel_rfl) (by kernel_rfl) rfl (fun _ _ _ h=>h) (.inl ⟨by rfl,fun w hw=>by (obtain ⟨ha,hb⟩:=hw;go_simp;try rfl)⟩) hS ?_;simp only[Act.put,Ja,Jb,Jc];refine Kaa (i:=5) (d:=some 27) rfl rfl (by kernel_rfl) (by kernel_rfl) (by kernel_rfl) rfl (fun _ _ _ h=>h) (by rfl) (fun w=>by go_simp;try rfl) (fun _=>hS) ?_;simp only[Act.put,Ja,Jb,Jc];refine Kaa (i:=6) (d:=some 28) rfl rfl (by kernel_rfl) (by kernel_rfl) (by kernel_rfl) rfl (fun _ _ _ h=>h) (by rfl) (fun w=>by go_simp;try rfl) (fun _=>hS) ?_;simp only[Act.put,Ja,Jb,Jc];refine Kak (i:=7) (by kernel_rfl) rfl rfl ?_
      cases r6 with
      | none=>
       refine Oper.wp_faults (w1:=w5.drew) (g:=244) (args:=#[.pointer (some ⟨rd,0,none⟩),.int .i64 6]) (by go_simp;try rfl) (N:=fun u w'=>(∃f,f≠0∧Ending.panicked u=Kaz f)∧Kept w5.heap.size [rd,rb] w5 w') (HB6.out.mono ?_) ?_
       ·rintro _ w6 ⟨⟨f,hf,rfl⟩,hk6⟩;exact ⟨_,rfl,⟨f,hf,rfl⟩,hk6.of_drew⟩
       ·rintro u w6 ⟨hfu,hk6⟩;simp only[Exit.then];refine Kah rfl ?_
        have hd:Kbh c S.data.toList i=none:=by
         unfold Kbh;rw[HR1.out];dsimp only;rw[HR2.out];dsimp only;rw[HR5.out];dsimp only;rw[HR6.out]
        rw[hd];exact ⟨hfu,HK5.out.two hk6⟩
      | some vj=>
       obtain ⟨k,i6⟩:=vj;have hkl:k < 2 ^ 6:=Kdm HR6.out;refine Oper.wp_called (d:=some 29) (w1:=w5.drew) (g:=244) (args:=#[.pointer (some ⟨rd,0,none⟩),.int .i64 6]) rfl (by go_simp;try rfl) (N:=fun u w'=>u = .int .u64 (k:Int)∧RdrAt rd rb S i6 { c with lead:=ld,window:=true } w'∧i6≤8*S.size∧Kept w5.heap.size [rd,rb] w5 w') (HB6.out.mono ?_) ?_
       ·rintro _ w6 ⟨rfl,hq6,hi6,hk6⟩;exact ⟨_,rfl,rfl,hq6,hi6,hk6.of_drew⟩
       ·rintro _ w6 ⟨rfl,hq6,hi6,hk6⟩;have d7:w6.cell? ⟨rd,7,none⟩=some (.int .i64 (ld:Int)):=hq6.cells.2.2.2.2.1;have d8:=hq6.cells.2.2.2.2.2.1;have z8:=hq6.cells.2.2.2.2.2.2.2 8;have HQ6:=Jh hq6;have HK6:=Jh (HK5.out.two hk6);clear hq6 hk6;refine ⟨fun _=>⟨d7,trivial⟩,?_⟩;simp only[Act.put,Ja,Jb,Jc];have hkw:IntKind.i64.wrap (k:Int)=(k:Int):=by rw[IntKind.wrap_i64];omega
        have hw63:IntKind.i64.wrap (63 - (ld:Int))=63 - (ld:Int):=by rw[IntKind.wrap_i64];omega
        have hwk:IntKind.i64.wrap (63 - (ld:Int) - (k:Int))=63 - (ld:Int) - (k:Int):=by rw[IntKind.wrap_i64];omega
        refine Kak (i:=8) (by kernel_rfl) rfl rfl ?_;refine Oper.wp_ran (d:=some 30) (w':=w6) (v:=.int .i64 (k:Int)) rfl (by go_simp;try rfl) ⟨fun _=>⟨d7,trivial⟩,?_⟩;simp only[Act.put,Ja,Jb,Jc];refine Kak (i:=9) (by kernel_rfl) rfl rfl ?_;refine Oper.wp_ran (d:=some 31) (w':=w6) (v:=.int .i64 (63 - (ld:Int) - (k:Int))) rfl (by go_simp;try rfl) ⟨fun _=>⟨d7,trivial⟩,?_⟩;simp only[Act.put,Ja,Jb,Jc];refine Kcp (i:=10) (by kernel_rfl) rfl rfl (by kernel_rfl) ?_;refine Oper.wp_ran (d:=some 32) (w':=w6) (v:=.pointer (some ⟨rd,1,none⟩)) rfl (by go_simp;try rfl) ?_;simp only[Act.put,Ja,Jb,Jc];refine Kcp (i:=11) (by kernel_rfl) rfl rfl (by kernel_rfl) ?_;refine Oper.wp_ran (d:=some 33) (w':=w6) (v:=.pointer (some ⟨rd,8,none⟩)) rfl (by go_simp;try rfl) ?_;simp only[Act.put,Ja,Jb,Jc];refine Kcp (i:=12) (by kernel_rfl) rfl rfl (by kernel_rfl) ?_;refine Oper.wp_skipped (w':=w6.setCell ⟨rd,8,none⟩ (.int .i64 (63 - (ld:Int) - (k:Int)))) rfl (by go_simp;try rfl) ?_;simp only[Act.put,Ja,Jb,Jc];refine Kaw (by kernel_rfl) ?_ _
        have e8:(w6.setCell ⟨rd,8,none⟩ (.int .i64 (63 - (ld:Int) - (k:Int)))).cell? ⟨rd,8,none⟩=some (.int .i64 (63 - (ld:Int) - (k:Int))):=by
         have:=(HQ6.out.r.set_ 8 (.int .i64 (63 - (ld:Int) - (k:Int)))).cell 8;exact this
        have e7:(w6.setCell ⟨rd,8,none⟩ (.int .i64 (63 - (ld:Int) - (k:Int)))).cell? ⟨rd,9,none⟩=some (.bool true):=(HQ6.out.r.set_ 8 (.int .i64 (63 - (ld:Int) - (k:Int)))).cell 9;have hk7:Kept w.heap.size [rd,rb] w (w6.setCell ⟨rd,8,none⟩ (.int .i64 (63 - (ld:Int) - (k:Int)))):=HK6.out.setCell (p:=⟨rd,8,none⟩) (.inl (by simp)) _
        by_cases hle:ld+k≤63
        ·obtain ⟨tl,htl⟩:∃tl,63 - ld - k=tl:=⟨_,rfl⟩;have hti:63 - (ld:Int) - (k:Int)=(tl:Int):=by omega
         rw[hti] at e8 e7 hk7;rw[hti];obtain ⟨d,hdd⟩:∃d:Cst,{ c with lead:=ld,tail:=tl,window:=true } = d:=⟨_,rfl⟩
         have hq7:RdrAt rd rb S i6 d (w6.setCell ⟨rd,8,none⟩ (.int .i64 (tl:Int))):=by
          rw[←hdd];exact HQ6.out.put 5 (.int .i64 (tl:Int)) { c with lead:=ld,tail:=tl,window:=true } rfl
         obtain ⟨w7,hw7⟩:∃w7,w6.setCell ⟨rd,8,none⟩ (.int .i64 (tl:Int))=w7:=⟨_,rfl⟩;rw[hw7] at hk7 hq7;rw[hw7];have HQ7:=Jh hq7;have HK7:=Jh hk7;have HTL:=Jh htl;have HD:=Jh hdd
         have c8:w7.cell? ⟨rd,8,none⟩=some (.int .i64 (tl:Int)):=by
          have:=hq7.cells.2.2.2.2.2.1;rw[←hdd] at this;exact this
         have c7':w7.cell? ⟨rd,7,none⟩=some (.int .i64 (ld:Int)):=by
          have:=hq7.cells.2.2.2.2.1;rw[←hdd] at this;exact this
         have c9:w7.cell? ⟨rd,9,none⟩=some (.bool true):=by
          have:=hq7.cells.2.2.2.2.2.2.1;rw[←hdd] at this;exact this
         have hdl:some (Value.int .i64 (d.lead:Int))=some (.int .i64 (ld:Int)):=by rw[←hdd]
         have hdt:some (Value.int .i64 (d.tail:Int))=some (.int .i64 (tl:Int)):=by rw[←hdd]
         have ge0:decide ((0:Int)≤(tl:Int))=true:=by rw[decide_eq_true_eq];omega
         clear hw7 hk7 hq7 hS c7 d7 d8 z8 e8 e7 hti hwk htl hdd;have c7:=c7';clear c7';go_wp2_with fail
         refine (Kfm _ 21 w7).mono ?_;rintro _ _ ⟨rfl,rfl⟩;clear c9;obtain ⟨n,hn⟩:∃n,k+1=n:=⟨_,rfl⟩;have htl:=HTL.out;obtain ⟨r3,hr3⟩:∃r3,readN S.data.toList i6 n=r3:=⟨_,rfl⟩;have HB3:=Jh (fun w' (hb:RdrAt rd rb S i6 d w')=>Kcd rd rb i6 n S d w' hb (by omega) hS_ hi6);unfold bitsR at HB3;simp only[hr3] at HB3;have HR3:=Jh (show readN S.data.toList i6 (k+1)=r3 by rw[hn];exact hr3);have HN:=Jh hn;clear hr3;have e10:n=64 - ld - tl:=by omega
         have e9:IntKind.i64.wrap (IntKind.i64.wrap (64 - (ld:Int)) - (tl:Int))=(n:Int):=by rw[IntKind.wrap_i64,IntKind.wrap_i64];omega
         have htl:tl < 64:=by omega
         have hlc:ld≤63:=by omega
         go_upto_region 8 with fail
         have hS:w7.drew.cell? ⟨rd,7,none⟩=some (.int .i64 (ld:Int))∧w7.drew.cell? ⟨rd,8,none⟩=some (.int .i64 (tl:Int)):=⟨c7,c8⟩;refine Kce (fun w'=>w'.cell? ⟨rd,7,none⟩=some (.int .i64 (ld:Int))∧w'.cell? ⟨rd,8,none⟩=some (.int .i64 (tl:Int))) 17 18 (by kernel_rfl) rfl ?_;rw[show Array.replicate 18 false = #[false,false,false,false,false,false,false,false,false,false,false,false,false,false,false,false,false,false] from rfl];refine Kaa (i:=0) (d:=some 47) rfl rfl (by kernel_rfl) (by kernel_rfl) (by kernel_rfl) rfl (fun _ _ _ h=>h) (by rfl) (fun w=>by go_simp;try rfl) (fun _=>hS) ?_;simp only[Act.put,Ja,Jb,Jc];refine Kaa (i:=1) (d:=some 48) rfl rfl (by kernel_rfl) (by kernel_rfl) (by kernel_rfl) rfl (fun _ _ _ h=>h) (by rfl) (fun w=>by go_simp;try rfl) (fun _=>hS) ?_;simp only[Act.put,Ja,Jb,Jc];refine Kaa (i:=2) (d:=some 49) rfl rfl (by kernel_rfl) (by kernel_rfl) (by kernel_rfl) rfl (fun _ _ _ h=>h) (by rfl) (fun w=>by go_simp;try rfl) (fun _=>hS) ?_;simp only[Act.put,Ja,Jb,Jc];refine Kaa (i:=3) (d:=some 50) rfl rfl (by kernel_rfl) (by kernel_rfl) (by kernel_rfl) rfl (fun _ _ _ h=>h) (by rfl) (fun w=>by go_simp;try rfl) (fun _=>hS) ?_;simp only[Act.put,Ja,Jb,Jc];refine Kap (i:=4) (d:=some 51) rfl rfl (by kernel_rfl) (by kernel_rfl) (by kernel_rfl) (by kernel_rfl) rfl (fun _ _ _ h=>h) (.inl ⟨by rfl,fun w hw=>by (obtain ⟨ha,hb⟩:=hw;go_simp;try rfl)⟩) hS ?_;simp only[Act.put,Ja,Jb,Jc];refine Kaa (i:=5) (d:=some 52) rfl rfl (by kernel_rfl) (by kernel_rfl) (by kernel_rfl) rfl (fun _ _ _ h=>h) (by rfl) (fun w=>by go_simp;try rfl) (fun _=>hS) ?_;simp only[Act.put,Ja,Jb,Jc];refine Kaa (i:=6) (d:=some 53) rfl rfl (by kernel_rfl) (by kernel_rfl) (by kernel_rfl) rfl (fun _ _ _ h=>h) (by rfl) (fun w=>by go_simp;try rfl) (fun _=>hS) ?_;simp only[Act.put,Ja,Jb,Jc];refine Kaa (i:=7) (d:=some 54) rfl rfl (by kernel_rfl) (by kernel_rfl) (by kernel_rfl) rfl (fun _ _ _ h=>h) (by rfl) (fun w=>by go_simp;try rfl) (fun _=>hS) ?_;simp only[Act.put,Ja,Jb,Jc];refine Kaa (i:=8) (d:=some 55) rfl rfl (by kernel_rfl) (by kernel_rfl) (by kernel_rfl) rfl (fun _ _ _ h=>h) (by rfl) (fun w=>by go_simp;try rfl) (fun _=>hS) ?_;simp only[Act.put,Ja,Jb,Jc];refine Kap (i:=9) (d:=some 56) rfl rfl (by kernel_rfl) (by kernel_rfl) (by kernel_rfl) (by kernel_rfl) rfl (fun _ _ _ h=>h) (.inl ⟨by rfl,fun w hw=>by (obtain ⟨ha,hb⟩:=hw;go_simp;try rfl)⟩) hS ?_;simp only[Act.put,Ja,Jb,Jc];refine Kaa (i:=10) (d:=some 57) rfl rfl (by kernel_rfl) (by kernel_rfl) (by kernel_rfl) rfl (fun _ _ _ h=>h) (by rfl) (fun w=>by go_simp;try rfl) (fun _=>hS) ?_;simp only[Act.put,Ja,Jb,Jc];refine Kaa (i:=12) (d:=some 59) rfl rfl (by kernel_rfl) (by kernel_rfl) (by kernel_rfl) rfl (fun _ _ _ h=>h) (by rfl) (fun w=>by go_simp;try rfl) (fun _=>hS) ?_;simp only[Act.put,Ja,Jb,Jc];refine Kaa (i:=13) (d:=some 60) rfl rfl (by kernel_rfl) (by kernel_rfl) (by kernel_rfl) rfl (fun _ _ _ h=>h) (by rfl) (fun w=>by go_simp;try rfl) (fun _=>hS) ?_;simp only[Act.put,Ja,Jb,Jc]
         refine Kaa (i:=14) (d:=some 61) rfl rfl (by kernel_rfl) (by kernel_rfl) (by kernel_rfl) rfl (fun _ _ _ h=>h) (by rfl) (fun w=>by go_simp;try rfl) (fun _=>hS) ?_;simp only[Act.put,Ja,Jb,Jc];refine Kap (i:=15) (d:=some 62) rfl rfl (by kernel_rfl) (by kernel_rfl) (by kernel_rfl) (by kernel_rfl) rfl (fun _ _ _ h=>h) (.inl ⟨by rfl,fun w hw=>by (obtain ⟨ha,hb⟩:=hw;go_simp;try rfl)⟩) hS ?_;simp only[Act.put,Ja,Jb,Jc];refine Kak (i:=11) (by kernel_rfl) rfl rfl ?_
         cases r3 with
         | none=>
          refine Oper.wp_faults (w1:=w7.drew) (g:=244) (args:=#[.pointer (some ⟨rd,0,none⟩),.int .i64 (n:Int)]) (by go_simp) (N:=fun u w'=>(∃f,f≠0∧Ending.panicked u=Kaz f)∧Kept w7.heap.size [rd,rb] w7 w') ((HB3.out w7.drew ⟨HQ7.out.r,HQ7.out.b⟩).mono ?_) ?_
          ·rintro _ w4 ⟨⟨f,hf,rfl⟩,hk4⟩;exact ⟨_,rfl,⟨f,hf,rfl⟩,hk4.of_drew⟩
          ·rintro u w4 ⟨hfu,hk4⟩;simp only[Exit.then];refine Kah rfl ?_
           have hd:Kbh c S.data.toList i=none:=by
            unfold Kbh;rw[HR1.out];dsimp only;rw[HR2.out];dsimp only;rw[HR5.out];dsimp only;rw[HR6.out];dsimp only;rw[if_pos hle,HR3.out]
           rw[hd];exact ⟨hfu,HK7.out.two hk4⟩
         | some vj=>
          obtain ⟨v3,i3⟩:=vj;have hvn:=Kdm HR3.out;refine Oper.wp_called (d:=some 58) (w1:=w7.drew) (g:=244) (args:=#[.pointer (some ⟨rd,0,none⟩),.int .i64 (n:Int)]) rfl (by go_simp) (N:=fun u w'=>u = .int .u64 (v3:Int)∧RdrAt rd rb S i3 d w'∧i3≤8*S.size∧Kept w7.heap.size [rd,rb] w7 w') ((HB3.out w7.drew ⟨HQ7.out.r,HQ7.out.b⟩).mono ?_) ?_
          ·rintro _ w4 ⟨rfl,hq4,hi4,hk4⟩;exact ⟨_,rfl,rfl,hq4,hi4,hk4.of_drew⟩
          ·rintro _ w4 ⟨rfl,hq4,hi4,hk4⟩;refine ⟨fun _=>⟨hq4.cells.2.2.2.2.1.trans hdl,hq4.cells.2.2.2.2.2.1.trans hdt⟩,?_⟩;simp only[Act.put,Ja,Jb,Jc]
           have hd:Kbh c S.data.toList i=some (v3 <<< tl,d,i3):=by
            unfold Kbh;rw[HR1.out];dsimp only;rw[HR2.out];dsimp only;rw[HR5.out];dsimp only;rw[HR6.out];dsimp only;rw[if_pos hle,HR3.out];dsimp only;rw[HTL.out,HD.out]
           have hlt:v3 <<< tl < 2 ^ 64:=(Khm hc hd).1;have hsz:(v3:Int)*(2:Int) ^ tl=((v3 <<< tl:Nat):Int):=by rw[Nat.shiftLeft_eq];simp
           obtain ⟨Z,hZ⟩:∃Z,v3 <<< tl=Z:=⟨_,rfl⟩;rw[hZ] at hsz hd hlt
           have hsh:IntKind.u64.wrap ((v3:Int)*(2:Int) ^ tl)=(Z:Int):=by
            rw[hsz];exact Kez _ (by omega) (by omega)
           clear hZ hlt hsz;refine Kak (i:=16) (by kernel_rfl) rfl rfl ?_;refine Oper.wp_ran (d:=some 63) (w':=w4) (v:=.int .u64 (Z:Int)) rfl (by go_simp;try rfl) ⟨fun _=>⟨hq4.cells.2.2.2.2.1.trans hdl,hq4.cells.2.2.2.2.2.1.trans hdt⟩,?_⟩;simp only[Act.put,Ja,Jb,Jc];refine Kcp (i:=17) (by kernel_rfl) rfl rfl (by kernel_rfl) ?_;refine Oper.wp_ran (d:=some 2) (w':=w4) (v:=.int .u64 (Z:Int)) rfl (by go_simp;try rfl) ?_;simp only[Act.put,Ja,Jb,Jc];refine Kaw (by kernel_rfl) ?_ _;clear c7 c8 hS;go_wp2_with fail
           go_ret
           exact ⟨rfl,hq4,hi4,HK7.out.two hk4⟩
        ·have ge0:decide ((0:Int)≤63 - (ld:Int) - (k:Int))=false:=by rw[decide_eq_false_iff_not];omega
         have ge1:¬(0:Int)≤63 - (ld:Int) - (k:Int):=by omega
         have HK7:=Jh hk7;obtain ⟨zz,hzz⟩:∃zz,63 - (ld:Int) - (k:Int)=zz:=⟨_,rfl⟩;rw[hzz] at ge0 ge1 e7 e8 HK7;rw[hzz];obtain ⟨w7,hw7⟩:∃w7,w6.setCell ⟨rd,8,none⟩ (.int .i64 zz)=w7:=⟨_,rfl⟩;rw[hw7] at e7 e8 HK7;rw[hw7];clear hw7 hk7 hS c7 d7 d8 z8 hwk hzz;go_wp2_with fail
         refine (Kew _ 21 w7).mono ?_;rintro _ _ ⟨rfl,rfl⟩;unfold Kaz;go_wp2_with fail
         refine Kah rfl ?_
         have hd:Kbh c S.data.toList i=none:=by
          unfold Kbh;rw[HR1.out];dsimp only;rw[HR2.out];dsimp only;rw[HR5.out];dsimp only;rw[HR6.out];dsimp only;rw[if_neg hle]
         rw[hd];exact ⟨⟨21,by decide,rfl⟩,HK7.out⟩
def smpV (s:Smp):Value:=.agg #[.int .i64 s.t,.int .u64 (s.v:Int)]
theorem Qbs (z:Int):IntKind.i64.wrap z=wrap64 z:=by rw[IntKind.wrap_i64];unfold wrap64;omega
theorem Qoy (v:Nat) (hv:v < 2 ^ 64):wrap64 (v:Int)=signW 64 v:=by
 unfold wrap64 signW;simp
 split <;> omega
structure SmpAt (q:Nat) (x:Smp) (w:World):Prop where
 r:∃cs,Blk w q 93 cs∧cs.size=2
 x:Blk w (q+1) 93 #[.int .i64 x.t,.int .u64 (x.v:Int)]
theorem SmpAt.keep {q rd rb:Nat} {x:Smp} {w w':World} (h:SmpAt q x w) (hk:Kept w.heap.size [rd,rb] w w') (h1:rd < q) (h2:rb < q):SmpAt q x w':=by
 obtain ⟨⟨cs,h3,h4⟩,h5⟩:=h;exact ⟨⟨cs,h3.kept hk h3.lt (by simp;omega),h4⟩,h5.kept hk h5.lt (by simp;omega)⟩
theorem SmpAt.setT {q:Nat} {x:Smp} {w:World} (h:SmpAt q x w) (t:Int):SmpAt q ⟨t,x.v⟩ (w.setCell ⟨q+1,0,none⟩ (.int .i64 t)):=by
 obtain ⟨⟨cs,h3,h4⟩,h5⟩:=h;exact ⟨⟨cs,h3.far (p:=⟨q+1,0,none⟩) (by simp) _,h4⟩,h5.set_ 0 _⟩
theorem SmpAt.setV {q:Nat} {x:Smp} {w:World} (h:SmpAt q x w) (v:Nat):SmpAt q ⟨x.t,v⟩ (w.setCell ⟨q+1,1,none⟩ (.int .u64 (v:Int))):=by
 obtain ⟨⟨cs,h3,h4⟩,h5⟩:=h;exact ⟨⟨cs,h3.far (p:=⟨q+1,1,none⟩) (by simp) _,h4⟩,h5.set_ 1 _⟩
theorem SmpAt.below {q:Nat} {x:Smp} {w w':World} (h:SmpAt q x w) (hb:Below w.heap.size w w'):SmpAt q x w':=by
 obtain ⟨⟨cs,h3,h4⟩,h5⟩:=h;exact ⟨⟨cs,h3.below hb h3.lt,h4⟩,h5.below hb h5.lt⟩
theorem SmpAt.farR {q:Nat} {x:Smp} {w:World} (h:SmpAt q x w) {p:Addr} (hp:p.block < q) (u:Value):SmpAt q x (w.setCell p u):=by
 obtain ⟨⟨cs,h3,h4⟩,h5⟩:=h;exact ⟨⟨cs,h3.far (by omega) u,h4⟩,h5.far (by omega) u⟩
theorem Qgs {c:Cst} {s:List UInt8} {i x:Nat} {d:Cst} {j:Nat} (h:Kbh c s i=some (x,d,j)):d.n=c.n:=by
 unfold Kbh at h
 repeat' split at h
 all_goals first | (cases h;done) | (injection h with h;injection h with _ h;injection h with h _;subst h;rfl)
theorem Qdb {cs:Array Value} {a b:Value} (h:cs.size=2):(cs.setIfInBounds 0 a).setIfInBounds 1 b = #[a,b]:=by
 match cs,h with
 | ⟨[x,y]⟩,_=>rfl
theorem RdrAt.far {rd rb:Nat} {S:ByteArray} {i:Nat} {c:Cst} {w:World} (h:RdrAt rd rb S i c w) {p:Addr} (h1:rd≠p.block) (h2:rb≠p.block) (u:Value):RdrAt rd rb S i c (w.setCell p u):=⟨h.r.far h1 u,h.b.far h2 u⟩
theorem Kyu (rd rb i:Nat) (S:ByteArray) (c:Cst) (w:World) (h:RdrAt rd rb S i c w) (hc:c.Ok) (hn:c.n≤120) (hv:c.last.v < 2 ^ 64) (hS_:S.size≤140737488351232) (hi:i≤8*S.size) :
  Calls Tryz.prog 207 #[.pointer (some ⟨rd,0,none⟩)] w (RdO rd rb S smpV w (Kbj c S.data.toList i)):=by
 have hcc:=h.cells;have c3:=hcc.1;have c4:=hcc.2.1;have c5:=hcc.2.2.1;have H:=Jh h;obtain ⟨w1,hw1⟩:∃w1,(w.alloc (.cells #[.int .i64 0,.int .u64 0] 93)).alloc (.cells #[.int .i64 c.last.t,.int .u64 (c.last.v:Int)] 93)=w1:=⟨_,rfl⟩;have hb1:Below w.heap.size w w1:=by rw[←hw1];exact ((Below.refl _ _).alloc (Nat.le_refl _) _).alloc (by simp) _
 have hs1:SmpAt w.heap.size c.last w1:=by
  rw[←hw1];exact ⟨⟨_,(Blk.new _ _ _).alloc _,rfl⟩,Blk.newAt (by simp)⟩
 have HR1:=Jh (h.below hb1);have HB1:=Jh hb1;have HS1:=Jh hs1;have hrl:=h.r.lt;have hrne:rd≠w.heap.size:=by omega
 clear h hcc;go_enter Tryz.func207,Tryz.ntmps207
 go_upto_region 3 with fail
 clear hw1 c3 c4 c5;have HRL:=Jh hrl;have HRL2:=Jh H.out.b.lt;obtain ⟨q,hq⟩:∃q,w.heap.size=q:=⟨_,rfl⟩;have HQ:=Jh hq;have HK1:=Jh (Kept.of_below (ex:=[rd,rb]) HB1.out);rw[hq] at HS1 hrne;rw[hq];have c3:=HR1.out.cells.1;clear hrl hq
 cases hn0:c.n with
 | zero=>
  rw[hn0] at c3;obtain ⟨r1,hr1⟩:∃r1,readN S.data.toList i 64=r1:=⟨_,rfl⟩;have HB2:=Jh (Kcd rd rb i 64 S c w1 HR1.out (by decide) hS_ hi);unfold bitsR at HB2;rw[hr1] at HB2;have HRA:=Jh hr1;clear hr1
  cases r1 with
  | none=>
   go_wp2_with fail
   refine HB2.out.mono ?_;rintro _ w2 ⟨⟨f,hf,rfl⟩,hk2⟩;unfold Kaz;go_wp2_with fail
   refine Kah rfl ?_
   have hd:Kbj c S.data.toList i=none:=by
    unfold Kbj;rw[if_pos hn0,HRA.out]
   rw[hd];exact ⟨⟨f,hf,rfl⟩,HK1.out.two hk2⟩
  | some vj=>
   obtain ⟨tv,i1⟩:=vj;dsimp only at HB2;have htv:tv < 2 ^ 64:=Kdm HRA.out;go_wp2_with fail
   refine HB2.out.mono ?_;rintro _ w2 ⟨rfl,hq2,hi1,hk2⟩;have hs2:=HS1.out.keep hk2 (by have:=HRL.out;have:=HQ.out;omega) (by have:=HRL2.out;have:=HQ.out;omega);have HR2:=Jh hq2;have HS2:=Jh hs2;have HK2:=Jh (HK1.out.two hk2);obtain ⟨T,hT⟩:∃T,signW 64 tv=T:=⟨_,rfl⟩;have hTw:wrap64 (tv:Int)=T:=by rw[Qoy tv htv,hT]
   have HT:=Jh hT;have x0:w2.cell? ⟨q+1,0,none⟩=_:=hs2.x.cell 0;have y0:=hs2.x.frozen 0;have hrd:rd < q:=by have:=HRL.out;have:=HQ.out;omega
   have hrb:rb < q:=by have:=HRL2.out;have:=HQ.out;omega
   have HS3:=Jh (hs2.setT T);have HR3:=Jh (hq2.far (p:=⟨q+1,0,none⟩) (by simp;omega) (by simp;omega) (.int .i64 T));have HK3:=Jh (HK2.out.setCell (p:=⟨q+1,0,none⟩) (.inr (by have:=HQ.out;simp;omega)) (.int .i64 T));clear hs2 hq2 hk2 hT;unfold u64V;go_upto_region 7 with fail
   obtain ⟨w3,hw3⟩:∃w3,w2.setCell ⟨q+1,0,none⟩ (.int .i64 T)=w3:=⟨_,rfl⟩;rw[hw3] at HS3 HR3 HK3;rw[hw3];clear hw3 x0 y0 c3 hrne hTw;have x0:w3.cell? ⟨q+1,0,none⟩=_:=HS3.out.x.cell 0
   by_cases ht:0≤T∧T≤1125899906842624
   ·have t1:decide (0≤T)=true:=decide_eq_true ht.1;have t2:decide (T≤1125899906842624)=true:=decide_eq_true ht.2;go_wp2_with fail
    refine (Kfm _ 91 w3).mono ?_;rintro _ _ ⟨rfl,rfl⟩;go_upto_region 8 with fail
    have c3:w3.cell? ⟨rd,3,none⟩=some (.int .i64 0):=by
     have:=HR3.out.cells.1;rw[hn0] at this;exact this
    have sl:=HR3.out.r.lt;refine Kag 16 (by kernel_rfl) (by kernel_rfl) ?_;simp only[List.take_succ_cons,List.take_zero,List.drop_succ_cons,List.drop_zero]
    repeat (go_big_quiet_step (fail))
    refine wpQuiet_nil ?_;rintro w4 ⟨⟨_,hb4⟩,rfl⟩;have HS4:=Jh (SmpAt.below HS3.out hb4);have HR4:=Jh (HR3.out.below hb4);have HK4:=Jh (HK3.out.then_' hb4);clear x0 c3 sl hb4
    have c3:w4.cell? ⟨rd,3,none⟩=some (.int .i64 0):=by
     have:=HR4.out.cells.1;rw[hn0] at this;exact this
    obtain ⟨r2,hr2⟩:∃r2,readN S.data.toList i1 64=r2:=⟨_,rfl⟩;have HB5:=Jh (Kcd rd rb i1 64 S c w4 HR4.out (by decide) hS_ hi1);unfold bitsR at HB5;rw[hr2] at HB5;have HRC:=Jh hr2;clear hr2;go_wp2_with fail
    refine (Kfm _ 90 w4).mono ?_;rintro _ _ ⟨rfl,rfl⟩
    cases r2 with
    | none=>
     go_wp2_with fail
     refine HB5.out.mono ?_;rintro _ w5 ⟨⟨f,hf,rfl⟩,hk5⟩;unfold Kaz;go_wp2_with fail
     refine Kah rfl ?_
     have hd:Kbj c S.data.toList i=none:=by
      unfold Kbj;rw[if_pos hn0,HRA.out];dsimp only;rw[HT.out,if_pos ht,HRC.out]
     rw[hd];exact ⟨⟨f,hf,rfl⟩,HK4.out.two hk5⟩
    | some vj=>
     obtain ⟨V,J⟩:=vj;dsimp only at HB5;have hVl:V < 2 ^ 64:=Kdm HRC.out;go_wp2_with fail
     refine HB5.out.mono ?_;rintro _ w5 ⟨rfl,hq5,hi5,hk5⟩;have hs5:=HS4.out.keep hk5 hrd hrb;have HS9:=Jh (hs5.setV V);have HR9:=Jh (hq5.far (p:=⟨q+1,1,none⟩) (by simp;omega) (by simp;omega) (.int .u64 (V:Int)));have HK9:=Jh ((HK4.out.two hk5).setCell (p:=⟨q+1,1,none⟩) (.inr (by have:=HQ.out;simp;omega)) (.int .u64 (V:Int)));have x1:w5.cell? ⟨q+1,1,none⟩=_:=hs5.x.cell 1;have z1:=hs5.x.frozen 1;clear hs5 hq5 hk5;unfold u64V;go_upto_region 12 with fail
     obtain ⟨w6,hw6⟩:∃w6,w5.setCell ⟨q+1,1,none⟩ (.int .u64 (V:Int))=w6:=⟨_,rfl⟩;rw[hw6] at HS9 HR9 HK9;rw[hw6];clear hw6 x1 z1 c3;have HN9:=Jh hn0;have hcc:=HR9.out.cells;have c3:=hcc.1;have c4:=hcc.2.1;have c5:=hcc.2.2.1;have z3:=hcc.2.2.2.2.2.2.2 3;have z4:=hcc.2.2.2.2.2.2.2 4;have z5:=hcc.2.2.2.2.2.2.2 5;clear hcc;rw[HN9.out] at c3;have x0:w6.cell? ⟨q+1,0,none⟩=some (.int .i64 T):=HS9.out.x.cell 0;have x1:w6.cell? ⟨q+1,1,none⟩=some (.int .u64 (V:Int)):=HS9.out.x.cell 1;obtain ⟨cs,hrb9,hcs⟩:=HS9.out.r;have r0:w6.cell? ⟨q,0,none⟩=some cs[0]:=(hrb9.cell 0).trans (Array.getElem?_eq_getElem (by omega));have r1:w6.cell? ⟨q,1,none⟩=some cs[1]:=(hrb9.cell 1).trans (Array.getElem?_eq_getElem (by omega));have y0:=hrb9.frozen 0;have y1:=hrb9.frozen 1;obtain ⟨u0,hu0⟩:∃u,cs[0]=u:=⟨_,rfl⟩;obtain ⟨u1,hu1⟩:∃u,cs[1]=u:=⟨_,rfl⟩;rw[hu0] at r0;rw[hu1] at r1;have HRB:=Jh hrb9;have HCS:=Jh hcs;have qr:rd≠q:=by omega
     have qr2:rd≠q+1:=by omega
     have qr3:q≠rd:=by omega
     have qr4:q+1≠rd:=by omega
     have qb:rb≠q:=by omega
     clear hrb9 hcs hu0 hu1;go_wp2_with fail
     have hR9:RdrAt rd rb S J { c with n:=1,last:=⟨T,V⟩ } ((((w6.setCell ⟨rd,4,none⟩ (.int .i64 T)).setCell ⟨rd,5,none⟩ (.int .u64 (V:Int))).setCell ⟨rd,3,none⟩ (.int .i64 1)).setCell ⟨q,0,none⟩ (.int .i64 T) |>.setCell ⟨q,1,none⟩ (.int .u64 (V:Int))):=
      ((((HR9.out.put 1 (.int .i64 T) { c with last:=⟨T,c.last.v⟩ } rfl).put 2 (.int .u64 (V:Int)) { c with last:=⟨T,V⟩ } rfl).put 0 (.int .i64 1) { c with n:=1,last:=⟨T,V⟩ } rfl).far (p:=⟨q,0,none⟩) qr qb _).far (p:=⟨q,1,none⟩) qr qb _
     have hK9:Kept w.heap.size [rd,rb] w ((((w6.setCell ⟨rd,4,none⟩ (.int .i64 T)).setCell ⟨rd,5,none⟩ (.int .u64 (V:Int))).setCell ⟨rd,3,none⟩ (.int .i64 1)).setCell ⟨q,0,none⟩ (.int .i64 T) |>.setCell ⟨q,1,none⟩ (.int .u64 (V:Int))):=
      ((((HK9.out.setCell (p:=⟨rd,4,none⟩) (.inl (by simp)) _).setCell (p:=⟨rd,5,none⟩) (.inl (by simp)) _).setCell (p:=⟨rd,3,none⟩) (.inl (by simp)) _).setCell (p:=⟨q,0,none⟩) (.inr (by rw[HQ.out];exact Nat.le_refl _)) _).setCell (p:=⟨q,1,none⟩) (.inr (by rw[HQ.out];exact Nat.le_refl _)) _
     have hb9:Blk ((((w6.setCell ⟨rd,4,none⟩ (.int .i64 T)).setCell ⟨rd,5,none⟩ (.int .u64 (V:Int))).setCell ⟨rd,3,none⟩ (.int .i64 1)).setCell ⟨q,0,none⟩ (.int .i64 T) |>.setCell ⟨q,1,none⟩ (.int .u64 (V:Int))) q 93 #[.int .i64 T,.int .u64 (V:Int)]:=by
      have:=((((HRB.out.far (p:=⟨rd,4,none⟩) qr3 (.int .i64 T)).far (p:=⟨rd,5,none⟩) qr3 (.int .u64 (V:Int))).far (p:=⟨rd,3,none⟩) qr3 (.int .i64 1)).set_ 0 (.int .i64 T)).set_ 1 (.int .u64 (V:Int));rwa[Qdb HCS.out] at this
     refine bodyPost_ret (Keq rfl _ _ ⟨q,0,none⟩ _ rfl (run_loadVar_row _ q 93 93 _ (0,0) _ hb9 Tryz.underlying93 rfl (by kernel_rfl))) rfl ?_
     have hd:Kbj c S.data.toList i=some (⟨T,V⟩,{ c with n:=1,last:=⟨T,V⟩ },J):=by
      unfold Kbj;rw[if_pos hn0,HRA.out];dsimp only;rw[HT.out,if_pos ht,HRC.out]
     rw[hd];exact ⟨rfl,hR9,hi5,hK9⟩
   ·have HTN:Hid (¬(0≤T∧T≤1125899906842624)):=Jh ht
    have hd:Kbj c S.data.toList i=none:=by
     unfold Kbj;rw[if_pos hn0,HRA.out];dsimp only;rw[HT.out,if_neg ht]
    have HD:=Jh hd;clear hd
    by_cases t1:0≤T
    ·have t1':decide (0≤T)=true:=decide_eq_true t1;have t2':decide (T≤1125899906842624)=false:=by rw[decide_eq_false_iff_not];omega
     go_wp2_with fail
     refine (Kew _ 91 w3).mono ?_;rintro _ _ ⟨rfl,rfl⟩;unfold Kaz;go_wp2_with fail
     refine Kah rfl ?_;rw[HD.out];exact ⟨⟨91,by decide,rfl⟩,HK3.out⟩
    ·have t1':decide (0≤T)=false:=decide_eq_false t1;go_wp2_with fail
     refine (Kew _ 91 w3).mono ?_;rintro _ _ ⟨rfl,rfl⟩;unfold Kaz;go_wp2_with fail
     refine Kah rfl ?_;rw[HD.out];exact ⟨⟨91,by decide,rfl⟩,HK3.out⟩
 | succ n=>
  rw[hn0] at c3 hn;have c6:w1.cell? ⟨rd,6,none⟩=some (.int .i64 c.step):=HR1.out.cells.2.2.2.1;have e3:(((n:Int)+1) == 0)=false:=by simp;omega
  have hrd:rd < q:=by have:=HRL.out;have:=HQ.out;omega
  have hrb:rb < q:=by have:=HRL2.out;have:=HQ.out;omega
  obtain ⟨r1,hr1⟩:∃r1,Kbx S.data.toList i=r1:=⟨_,rfl⟩;have HB2:=Jh (Kwp rd rb i S c w1.drew ⟨HR1.out.r,HR1.out.b⟩ hS_ hi);unfold Kdt at HB2;rw[hr1] at HB2;have HRA:=Jh hr1;clear hr1;go_upto_region 5 with fail
  have hS:w1.drew.cell? ⟨rd,6,none⟩=some (.int .i64 c.step)∧True:=⟨c6,trivial⟩;refine Kce (fun w'=>w'.cell? ⟨rd,6,none⟩=some (.int .i64 c.step)∧True) 7 10 (by kernel_rfl) rfl ?_;rw[show Array.replicate 10 false = #[false,false,false,false,false,false,false,false,false,false] from rfl];refine Kaa (i:=0) (d:=some 21) rfl rfl (by kernel_rfl) (by kernel_rfl) (by kernel_rfl) rfl (fun _ _ _ h=>h) (by rfl) (fun w=>by go_simp;try rfl) (fun _=>hS) ?_;simp only[Act.put,Ja,Jb,Jc];refine Kaa (i:=1) (d:=some 22) rfl rfl (by kernel_rfl) (by kernel_rfl) (by kernel_rfl) rfl (fun _ _ _ h=>h) (by rfl) (fun w=>by go_simp;try rfl) (fun _=>hS) ?_;simp only[Act.put,Ja,Jb,Jc];refine Kaa (i:=2) (d:=some 23) rfl rfl (by kernel_rfl) (by kernel_rfl) (by kernel_rfl) rfl (fun _ _ _ h=>h) (by rfl) (fun w=>by go_simp;try rfl) (fun _=>hS) ?_;simp only[Act.put,Ja,Jb,Jc];refine Kap (i:=3) (d:=some 24) rfl rfl (by kernel_rfl) (by kernel_rfl) (by kernel_rfl) (by kernel_rfl) rfl (fun _ _ _ h=>h) (.inl ⟨by rfl,fun w hw=>by (obtain ⟨ha,hb⟩:=hw;go_simp;try rfl)⟩) hS ?_;simp only[Act.put,Ja,Jb,Jc];refine Kaa (i:=4) (d:=some 25) rfl rfl (by kernel_rfl) (by kernel_rfl) (by kernel_rfl) rfl (fun _ _ _ h=>h) (by rfl) (fun w=>by go_simp;try rfl) (fun _=>hS) ?_;simp only[Act.put,Ja,Jb,Jc];refine Kak (i:=5) (by kernel_rfl) rfl rfl ?_
  cases r1 with
  | none=>
   refine Oper.wp_faults (w1:=w1.drew) (g:=245) (args:=#[.pointer (some ⟨rd,0,none⟩)]) (by go_simp;try rfl) (N:=fun u w'=>(∃f,f≠0∧Ending.panicked u=Kaz f)∧Kept w1.heap.size [rd,rb] w1 w') (HB2.out.mono ?_) ?_
   ·rintro _ w6 ⟨⟨f,hf,rfl⟩,hk6⟩;exact ⟨_,rfl,⟨f,hf,rfl⟩,hk6.of_drew⟩
   ·rintro u w6 ⟨hfu,hk6⟩;simp only[Exit.then];refine Kah rfl ?_
    have hd:Kbj c S.data.toList i=none:=by
     unfold Kbj;rw[if_neg (by omega),HRA.out]
    rw[hd];exact ⟨hfu,HK1.out.two hk6⟩
  | some vj=>
   obtain ⟨ch,i1⟩:=vj;refine Oper.wp_called (d:=some 26) (w1:=w1.drew) (g:=245) (args:=#[.pointer (some ⟨rd,0,none⟩)]) rfl (by go_simp;try rfl) (N:=fun u w'=>u = .int .i64 ch∧RdrAt rd rb S i1 c w'∧i1≤8*S.size∧Kept w1.heap.size [rd,rb] w1 w') (HB2.out.mono ?_) ?_
   ·rintro _ w6 ⟨rfl,hq6,hi6,hk6⟩;exact ⟨_,rfl,rfl,hq6,hi6,hk6.of_drew⟩
   ·rintro _ w2 ⟨rfl,hq2,hi1,hk2⟩;have hs2:=HS1.out.keep hk2 hrd hrb;have d6:w2.cell? ⟨rd,6,none⟩=some (.int .i64 c.step):=hq2.cells.2.2.2.1;have z6:=hq2.cells.2.2.2.2.2.2.2 6;obtain ⟨ns,hns⟩:∃ns,wrap64 (c.step+ch)=ns:=⟨_,rfl⟩;have hnw:IntKind.i64.wrap (c.step+ch)=ns:=by rw[Qbs,hns]
    have HNS:=Jh hns;have HS3:=Jh hs2;have HR3:Hid (RdrAt rd rb S i1 { c with step:=ns } (w2.setCell ⟨rd,6,none⟩ (.int .i64 ns))):=Jh (hq2.put 3 (.int .i64 ns) { c with step:=ns } rfl);have HK3:=Jh ((HK1.out.two hk2).setCell (p:=⟨rd,6,none⟩) (.inl (by simp)) (.int .i64 ns));have HS4:Hid (SmpAt q c.last (w2.setCell ⟨rd,6,none⟩ (.int .i64 ns))):=Jh (hs2.farR (p:=⟨rd,6,none⟩) hrd _);clear hs2 hq2 hk2 hns;refine ⟨fun _=>⟨d6,trivial⟩,?_⟩;simp only[Act.put,Ja,Jb,Jc];refine Kak (i:=6) (by kernel_rfl) rfl rfl ?_;refine Oper.wp_ran (d:=some 27) (w':=w2) (v:=.int .i64 ns) rfl (by go_simp;try rfl) ⟨fun _=>⟨d6,trivial⟩,?_⟩;simp only[Act.put,Ja,Jb,Jc];refine Kcp (i:=7) (by kernel_rfl) rfl rfl (by kernel_rfl) ?_;refine Oper.wp_ran (d:=some 28) (w':=w2) (v:=.pointer (some ⟨rd,1,none⟩)) rfl (by go_simp;try rfl) ?_;simp only[Act.put,Ja,Jb,Jc];refine Kcp (i:=8) (by kernel_rfl) rfl rfl (by kernel_rfl) ?_;refine Oper.wp_ran (d:=some 29) (w':=w2) (v:=.pointer (some ⟨rd,6,none⟩)) rfl (by go_simp;try rfl) ?_;simp only[Act.put,Ja,Jb,Jc];refine Kcp (i:=9) (by kernel_rfl) rfl rfl (by kernel_rfl) ?_;refine Oper.wp_skipped (w':=w2.setCell ⟨rd,6,none⟩ (.int .i64 ns)) rfl (by go_simp;try rfl) ?_;simp only[Act.put,Ja,Jb,Jc];refine Kaw (by kernel_rfl) ?_ _;clear d6 z6 hnw c6 c3 hS;obtain ⟨w3,hw3⟩:∃w3,w2.setCell ⟨rd,6,none⟩ (.int .i64 ns)=w3:=⟨_,rfl⟩;rw[hw3] at HS4 HR3 HK3;rw[hw3];clear hw3;have x0:w3.cell? ⟨q+1,0,none⟩=some (.int .i64 c.last.t):=HS4.out.x.cell 0;have y0:=HS4.out.x.frozen 0;have c6:w3.cell? ⟨rd,6,none⟩=some (.int .i64 ns):=HR3.out.cells.2.2.2.1;have sl:=HR3.out.r.lt;have sx:=HS4.out.x.lt;obtain ⟨T,hT⟩:∃T,wrap64 (c.last.t+ns)=T:=⟨_,rfl⟩;have HT:=Jh hT;go_upto_region 6 with fail
    refine Kag 7 (by kernel_rfl) (by kernel_rfl) ?_;simp only[List.take_succ_cons,List.take_zero,List.drop_succ_cons,List.drop_zero]
    repeat (go_big_quiet_step (fail))
    refine wpQuiet_nil ?_;rintro w4 ⟨⟨_,hb4⟩,rfl⟩;have HS4b:=Jh (HS4.out.below hb4);have HR4:=Jh (HR3.out.below hb4);have HK4:=Jh (HK3.out.then_' hb4);clear x0 y0 c6 sl sx hb4;have x0:w4.cell? ⟨q+1,0,none⟩=some (.int .i64 c.last.t):=HS4b.out.x.cell 0;have y0:=HS4b.out.x.frozen 0;have HS5:=Jh (HS4b.out.setT T);have HR5:=Jh (HR4.out.far (p:=⟨q+1,0,none⟩) (by simp;omega) (by simp;omega) (.int .i64 T));have HK5:=Jh (HK4.out.setCell (p:=⟨q+1,0,none⟩) (.inr (by have:=HQ.out;simp;omega)) (.int .i64 T));go_upto_region 7 with fail
    obtain ⟨w5,hw5⟩:∃w5,w4.setCell ⟨q+1,0,none⟩ (.int .i64 T)=w5:=⟨_,rfl⟩;rw[hw5] at HS5 HR5 HK5;rw[hw5];clear hw5 x0 y0 hrne hT;have x0:w5.cell? ⟨q+1,0,none⟩=some (.int .i64 T):=HS5.out.x.cell 0
    by_cases t1:0≤T
    rotate_left
    ·have t1':decide (0≤T)=false:=decide_eq_false t1
     have hd:Kbj c S.data.toList i=none:=by
      unfold Kbj;rw[if_neg (by omega),HRA.out];dsimp only;rw[HNS.out,HT.out,if_neg (by omega)]
     have HD:=Jh hd;clear hd;go_wp2_with fail
     refine (Kew _ 91 w5).mono ?_;rintro _ _ ⟨rfl,rfl⟩;unfold Kaz;go_wp2_with fail
     refine Kah rfl ?_;rw[HD.out];exact ⟨⟨91,by decide,rfl⟩,HK5.out⟩
    have t1':decide (0≤T)=true:=decide_eq_true t1
    by_cases t2:T≤1125899906842624
    rotate_left
    ·have t2':decide (T≤1125899906842624)=false:=decide_eq_false t2
     have hd:Kbj c S.data.toList i=none:=by
      unfold Kbj;rw[if_neg (by omega),HRA.out];dsimp only;rw[HNS.out,HT.out,if_neg (by omega)]
     have HD:=Jh hd;clear hd;go_wp2_with fail
     refine (Kew _ 91 w5).mono ?_;rintro _ _ ⟨rfl,rfl⟩;unfold Kaz;go_wp2_with fail
     refine Kah rfl ?_;rw[HD.out];exact ⟨⟨91,by decide,rfl⟩,HK5.out⟩
    have t2':decide (T≤1125899906842624)=true:=decide_eq_true t2;go_wp2_with fail
    refine (Kfm _ 91 w5).mono ?_;rintro _ _ ⟨rfl,rfl⟩;go_upto_region 8 with fail
    have c3:w5.cell? ⟨rd,3,none⟩=some (.int .i64 ((n:Int)+1)):=by
     have:=HR5.out.cells.1;rw[hn0] at this;exact this
    have c4:w5.cell? ⟨rd,4,none⟩=some (.int .i64 c.last.t):=HR5.out.cells.2.1;have sl:=HR5.out.r.lt;have sx:=HS5.out.x.lt;obtain ⟨g,hg⟩:∃g,decide (c.last.t < T)=g:=⟨_,rfl⟩;refine Kag 16 (by kernel_rfl) (by kernel_rfl) ?_;simp only[List.take_succ_cons,List.take_zero,List.drop_succ_cons,List.drop_zero]
    repeat (go_big_quiet_step (fail))
    refine wpQuiet_nil ?_;rintro w6 ⟨⟨_,hb6⟩,rfl⟩;have HS6:=Jh (HS5.out.below hb6);have HR6:=Jh (HR5.out.below hb6);have HK6:=Jh (HK5.out.then_' hb6);clear x0 c3 c4 sl sx hb6
    by_cases t3:c.last.t < T
    rotate_left
    ·have hgf:g=false:=by rw[←hg];exact decide_eq_false t3
     subst hgf
     have hd:Kbj c S.data.toList i=none:=by
      unfold Kbj;rw[if_neg (by omega),HRA.out];dsimp only;rw[HNS.out,HT.out,if_neg (by omega)]
     have HD:=Jh hd;clear hd;go_wp2_with fail
     refine (Kew _ 90 w6).mono ?_;rintro _ _ ⟨rfl,rfl⟩;unfold Kaz;go_wp2_with fail
     refine Kah rfl ?_;rw[HD.out];exact ⟨⟨90,by decide,rfl⟩,HK6.out⟩
    have hgt:g=true:=by rw[←hg];exact decide_eq_true t3
    subst hgt;have hall:0≤T∧T≤1125899906842624∧c.last.t < T:=⟨t1,t2,t3⟩;have HALL:=Jh hall;clear hall hg;go_wp2_with fail
    refine (Kfm _ 90 w6).mono ?_;rintro _ _ ⟨rfl,rfl⟩
    have c3:w6.cell? ⟨rd,3,none⟩=some (.int .i64 ((n:Int)+1)):=by
     have:=HR6.out.cells.1;rw[hn0] at this;exact this
    obtain ⟨r2,hr2⟩:∃r2,Kbh { c with step:=ns } S.data.toList i1=r2:=⟨_,rfl⟩;have HB7:=Jh (Kww rd rb i1 S { c with step:=ns } w6.drew ⟨HR6.out.r,HR6.out.b⟩ (hc.step ns) hS_ hi1);rw[hr2] at HB7;have HRC:=Jh hr2;clear hr2;go_upto_region 11 with fail
    have x1:w6.cell? ⟨q+1,1,none⟩=some (.int .u64 (c.last.v:Int)):=HS6.out.x.cell 1;have hS:w6.drew.cell? ⟨q+1,1,none⟩=some (.int .u64 (c.last.v:Int))∧True:=⟨x1,trivial⟩;refine Kce (fun w'=>w'.cell? ⟨q+1,1,none⟩=some (.int .u64 (c.last.v:Int))∧True) 5 7 (by kernel_rfl) rfl ?_;rw[show Array.replicate 7 false = #[false,false,false,false,false,false,false] from rfl];refine Kaa (i:=0) (d:=some 73) rfl rfl (by kernel_rfl) (by kernel_rfl) (by kernel_rfl) rfl (fun _ _ _ h=>h) (by rfl) (fun w=>by go_simp;try rfl) (fun _=>hS) ?_;simp only[Act.put,Ja,Jb,Jc];refine Kap (i:=1) (d:=some 74) rfl rfl (by kernel_rfl) (by kernel_rfl) (by kernel_rfl) (by kernel_rfl) rfl (fun _ _ _ h=>h) (.inl ⟨by rfl,fun w hw=>by (obtain ⟨ha,hb⟩:=hw;go_simp;try rfl)⟩) hS ?_;simp only[Act.put,Ja,Jb,Jc];refine Kaa (i:=2) (d:=some 75) rfl rfl (by kernel_rfl) (by kernel_rfl) (by kernel_rfl) rfl (fun _ _ _ h=>h) (by rfl) (fun w=>by go_simp;try rfl) (fun _=>hS) ?_;simp only[Act.put,Ja,Jb,Jc];refine Kak (i:=3) (by kernel_rfl) rfl rfl ?_
    cases r2 with
    | none=>
     refine Oper.wp_faults (w1:=w6.drew) (g:=247) (args:=#[.pointer (some ⟨rd,0,none⟩)]) (by go_simp;try rfl) (N:=fun u w'=>(∃f,f≠0∧Ending.panicked u=Kaz f)∧Kept w6.heap.size [rd,rb] w6 w') (HB7.out.mono ?_) ?_
     ·rintro _ w7 ⟨⟨f,hf,rfl⟩,hk7⟩;exact ⟨_,rfl,⟨f,hf,rfl⟩,hk7.of_drew⟩
     ·rintro u w7 ⟨hfu,hk7⟩;simp only[Exit.then];refine Kah rfl ?_
      have hd:Kbj c S.data.toList i=none:=by
       unfold Kbj;rw[if_neg (by omega),HRA.out];dsimp only;rw[HNS.out,HT.out,if_pos HALL.out,HRC.out]
      rw[hd];exact ⟨hfu,HK6.out.two hk7⟩
    | some vj=>
     obtain ⟨xd,d,J⟩:=vj;refine Oper.wp_called (d:=some 76) (w1:=w6.drew) (g:=247) (args:=#[.pointer (some ⟨rd,0,none⟩)]) rfl (by go_simp;try rfl) (N:=fun u w'=>u = .int .u64 (xd:Int)∧RdrAt rd rb S J d w'∧J≤8*S.size∧Kept w6.heap.size [rd,rb] w6 w') (HB7.out.mono ?_) ?_
     ·rintro _ w7 ⟨rfl,hq7,hi7,hk7⟩;exact ⟨_,rfl,rfl,hq7,hi7,hk7.of_drew⟩
     ·rintro _ w7 ⟨rfl,hq7,hi7,hk7⟩;have hs7:=HS6.out.keep hk7 hrd hrb
      have hdn:d.n=n+1:=by
       have:=Qgs HRC.out;rw[this];exact hn0
      have hxd:=(Khm (hc.step ns) HRC.out).1;have x1:w7.cell? ⟨q+1,1,none⟩=some (.int .u64 (c.last.v:Int)):=hs7.x.cell 1;have z1:=hs7.x.frozen 1;obtain ⟨V,hV⟩:∃V,c.last.v ^^^ xd=V:=⟨_,rfl⟩;have hxor:bits .xor .u64 (c.last.v:Int) (xd:Int)=(V:Int):=by rw[bits_xor_u64_nat _ _ (by omega) (by omega),hV]
      have HV:=Jh hV;have HS9:=Jh (hs7.setV V);have HR9:=Jh (hq7.far (p:=⟨q+1,1,none⟩) (by simp;omega) (by simp;omega) (.int .u64 (V:Int)));have HK9:=Jh ((HK6.out.two hk7).setCell (p:=⟨q+1,1,none⟩) (.inr (by have:=HQ.out;simp;omega)) (.int .u64 (V:Int)));clear hs7 hq7 hk7 hV;refine ⟨fun _=>⟨x1,trivial⟩,?_⟩;simp only[Act.put,Ja,Jb,Jc];refine Kak (i:=4) (by kernel_rfl) rfl rfl ?_;refine Oper.wp_ran (d:=some 77) (w':=w7) (v:=.int .u64 (V:Int)) rfl (by go_simp;try rfl) ⟨fun _=>⟨x1,trivial⟩,?_⟩;simp only[Act.put,Ja,Jb,Jc];refine Kcp (i:=5) (by kernel_rfl) rfl rfl (by kernel_rfl) ?_;refine Oper.wp_ran (d:=some 78) (w':=w7) (v:=.pointer (some ⟨q+1,1,none⟩)) rfl (by go_simp;try rfl) ?_;simp only[Act.put,Ja,Jb,Jc];refine Kcp (i:=6) (by kernel_rfl) rfl rfl (by kernel_rfl) ?_;refine Oper.wp_skipped (w':=w7.setCell ⟨q+1,1,none⟩ (.int .u64 (V:Int))) rfl (by go_simp;try rfl) ?_;simp only[Act.put,Ja,Jb,Jc];refine Kaw (by kernel_rfl) ?_ _;obtain ⟨w8,hw8⟩:∃w8,w7.setCell ⟨q+1,1,none⟩ (.int .u64 (V:Int))=w8:=⟨_,rfl⟩;rw[hw8] at HS9 HR9 HK9;rw[hw8];clear hw8 x1 z1 c3 hxor hS;have HN9:=Jh hdn;have hcc:=HR9.out.cells;have c3:=hcc.1;have c4:=hcc.2.1;have c5:=hcc.2.2.1;have z3:=hcc.2.2.2.2.2.2.2 3;have z4:=hcc.2.2.2.2.2.2.2 4;have z5:=hcc.2.2.2.2.2.2.2 5;clear hcc;rw[HN9.out] at c3;have x0:w8.cell? ⟨q+1,0,none⟩=some (.int .i64 T):=HS9.out.x.cell 0;have x1:w8.cell? ⟨q+1,1,none⟩=some (.int .u64 (V:Int)):=HS9.out.x.cell 1;obtain ⟨cs,hrb9,hcs⟩:=HS9.out.r;have r0:w8.cell? ⟨q,0,none⟩=some cs[0]:=(hrb9.cell 0).trans (Array.getElem?_eq_getElem (by omega));have r1:w8.cell? ⟨q,1,none⟩=some cs[1]:=(hrb9.cell 1).trans (Array.getElem?_eq_getElem (by omega));have y0:=hrb9.frozen 0;have y1:=hrb9.frozen 1;obtain ⟨u0,hu0⟩:∃u,cs[0]=u:=⟨_,rfl⟩;obtain ⟨u1,hu1⟩:∃u,cs[1]=u:=⟨_,rfl⟩;rw[hu0] at r0;rw[hu1] at r1;have HRB:=Jh hrb9;have HCS:=Jh hcs;have qr:rd≠q:=by omega
      have qr2:rd≠q+1:=by omega
      have qr3:q≠rd:=by omega
      have qr4:q+1≠rd:=by omega
      have qb:rb≠q:=by omega
      clear hrb9 hcs hu0 hu1;go_wp2_with fail
      have hR9:RdrAt rd rb S J { d with n:=n+1+1,last:=⟨T,V⟩ } ((((w8.setCell ⟨rd,4,none⟩ (.int .i64 T)).setCell ⟨rd,5,none⟩ (.int .u64 (V:Int))).setCell ⟨rd,3,none⟩ (.int .i64 ((n:Int)+1+1))).setCell ⟨q,0,none⟩ (.int .i64 T) |>.setCell ⟨q,1,none⟩ (.int .u64 (V:Int))):=
       ((((HR9.out.put 1 (.int .i64 T) { d with last:=⟨T,d.last.v⟩ } rfl).put 2 (.int .u64 (V:Int)) { d with last:=⟨T,V⟩ } rfl).put 0 (.int .i64 ((n:Int)+1+1)) { d with n:=n+1+1,last:=⟨T,V⟩ } rfl).far (p:=⟨q,0,none⟩) qr qb _).far (p:=⟨q,1,none⟩) qr qb _
      have hK9:Kept w.heap.size [rd,rb] w ((((w8.setCell ⟨rd,4,none⟩ (.int .i64 T)).setCell ⟨rd,5,none⟩ (.int .u64 (V:Int))).setCell ⟨rd,3,none⟩ (.int .i64 ((n:Int)+1+1))).setCell ⟨q,0,none⟩ (.int .i64 T) |>.setCell ⟨q,1,none⟩ (.int .u64 (V:Int))):=
       ((((HK9.out.setCell (p:=⟨rd,4,none⟩) (.inl (by simp)) _).setCell (p:=⟨rd,5,none⟩) (.inl (by simp)) _).setCell (p:=⟨rd,3,none⟩) (.inl (by simp)) _).setCell (p:=⟨q,0,none⟩) (.inr (by rw[HQ.out];exact Nat.le_refl _)) _).setCell (p:=⟨q,1,none⟩) (.inr (by rw[HQ.out];exact Nat.le_refl _)) _
      have hb9:Blk ((((w8.setCell ⟨rd,4,none⟩ (.int .i64 T)).setCell ⟨rd,5,none⟩ (.int .u64 (V:Int))).setCell ⟨rd,3,none⟩ (.int .i64 ((n:Int)+1+1))).setCell ⟨q,0,none⟩ (.int .i64 T) |>.setCell ⟨q,1,none⟩ (.int .u64 (V:Int))) q 93 #[.int .i64 T,.int .u64 (V:Int)]:=by
       have:=((((HRB.out.far (p:=⟨rd,4,none⟩) qr3 (.int .i64 T)).far (p:=⟨rd,5,none⟩) qr3 (.int .u64 (V:Int))).far (p:=⟨rd,3,none⟩) qr3 (.int .i64 ((n:Int)+1+1))).set_ 0 (.int .i64 T)).set_ 1 (.int .u64 (V:Int));rwa[Qdb HCS.out] at this
      refine bodyPost_ret (Keq rfl _ _ ⟨q,0,none⟩ _ rfl (run_loadVar_row _ q 93 93 _ (0,0) _ hb9 Tryz.underlying93 rfl (by kernel_rfl))) rfl ?_
      have hd:Kbj c S.data.toList i=some (⟨T,V⟩,{ d with n:=n+1+1,last:=⟨T,V⟩ },J):=by
       unfold Kbj;rw[if_neg (by omega),HRA.out];dsimp only;rw[HNS.out,HT.out,if_pos HALL.out,HRC.out];dsimp only;rw[HV.out,hn0]
      rw[hd];exact ⟨rfl,hR9,hi7,hK9⟩
end
section
open Go.RowKit
open Lib renaming hid → Jh
attribute [local go_sem ↓] Go.wp_at_zero Go.wp_at_succ
attribute [local go_sem] Later.cell
theorem Kuu (c:Int) (w:World):(Instr.typeAssert (.iface 23 (.int .i64 c)) 20 23 true).run Tryz.prog w = .ok (.tuple #[.int .i64 c,.bool true]) w:=by kernel_rfl
theorem Kzz (w:World):(Instr.typeAssert .nilIface 20 23 true).run Tryz.prog w = .ok (.tuple #[.int .i64 0,.bool false]) w:=by kernel_rfl
theorem Kwn (a:Addr) (x:Value) (c:Nat) (w:World) (ha:w.cell? a=some x) (fa:w.frozen? a=false) :
  CallsD Tryz.prog 205 #[.pointer (some a)] (.panicking [{ v:=.iface 23 (.int .i64 (c:Int)),recovered:=false }]) w fun e u' w'=>
   e = .returned (.tuple #[])∧u' = .panicking [{ v:=.iface 23 (.int .i64 (c:Int)),recovered:=true }]∧w'=w.setCell a (.int .i64 (c:Int)):=by
 refine callsD_of_wpS Tryz.func205 rfl fun c₀ cs hu=>?_
 apply wpS_seq;apply wpS_region;simp[wpOpsS,go_sem,recoverD,hu,Tryz.ntmps205,Exit.thenS,Kuu];apply wpS_seq;apply wpS_region;simp[wpOpsS,go_sem,Exit.thenS];refine wpS_cond (t:=true) (by simp[Act.eval,Array.replicate]) ?_;simp only[if_true];apply wpS_region;simp[wpOpsS,go_sem,ha,fa,bodyPostS,results,Tryz.results205]
theorem Qaa (a:Addr) (w:World) :
  CallsD Tryz.prog 205 #[.pointer (some a)] .returning w fun e u' w'=>e = .returned (.tuple #[])∧u' = .returning∧w'=w:=by
 refine callsD_of_wpS Tryz.func205 rfl fun c₀ cs hu=>?_
 apply wpS_seq;apply wpS_region;simp[wpOpsS,go_sem,recoverD,hu,Tryz.ntmps205,Exit.thenS,Kzz];apply wpS_seq;apply wpS_region;simp[wpOpsS,go_sem,Exit.thenS];refine wpS_cond (t:=false) (by simp[Act.eval,Array.replicate]) ?_;simp only[Bool.false_eq_true,if_false];refine wpS_of_wp (wp_skip ?_);cases c₀
 simp_all [bodyPostS,results,Tryz.results205]
theorem Kzx (S:ByteArray) (w:World):Calls Tryz.prog 206 #[.string S] w fun e w'=>e = .returned (.pointer (some ⟨w.heap.size,0,none⟩))∧w.alloc (.cells #[.string S,.int .i64 0] 334)=w':=by
 go_enter Tryz.func206,Tryz.ntmps206
 go_wp2_with fail
 go_ret
 exact ⟨rfl,rfl⟩
theorem Qlr {s:List UInt8} {v n e:Nat} (h:Kar s 0=(v,n,e)):(e≠0→(readC s).2=false)∧(e=0→n≤s.length∧(120 < v→(readC s).2=false)∧(v≤120→readC s=Kcl (s.drop n) v cst0 0)):=by
 unfold Kar at h;rw[if_neg (by omega)] at h;unfold readC;simp only[Int.toNat_zero,List.drop_zero] at h
 cases hr:readU s with
 | error c=>
  rw[hr] at h;simp only[Prod.mk.injEq] at h;obtain ⟨_,_,rfl⟩:=h;exact ⟨fun _=>rfl,fun h0=>absurd h0 (Kfh hr)⟩
 | ok x=>
  obtain ⟨a,b⟩:=x;rw[hr] at h;simp only[Prod.mk.injEq,Nat.zero_add] at h;obtain ⟨rfl,rfl,rfl⟩:=h;refine ⟨fun h0=>absurd rfl h0,fun _=>⟨(Key hr).2.2.1,fun hv=>?_,fun hv=>?_⟩⟩
  ·dsimp only;rw[if_neg (by omega)]
  ·dsimp only;rw[if_pos hv]
theorem Qkp:(Tryz.prog.info? 93).map (fun i=>(i.zero,i.size,i.bytes))=some (some (.agg #[.int .i64 0,.int .u64 0]),2,16):=by kernel_rfl
def ReadO (w:World) (R:List Smp×Bool) (en:Ending) (w':World):Prop:=
 if R.2=true then ∃v,en = .returned (.tuple #[v,.int .i64 0])∧w'.ownsRow w.heap.size 93 2 v R.1.length (R.1.flatMap Kcb)∧Below w.heap.size w w'
 else ∃v f,f≠0∧en = .returned (.tuple #[v,.int .i64 ((f:Nat):Int)])∧Below w.heap.size w w'
theorem ReadO.bad {w w':World} {R:List Smp×Bool} {v:Value} {f:Nat} (hR:R.2=false) (hf:f≠0) (hb:Below w.heap.size w w'):ReadO w R (.returned (.tuple #[v,.int .i64 (f:Int)])) w':=by
 unfold ReadO;rw[if_neg (by rw[hR];decide)];exact ⟨v,f,hf,rfl,hb⟩
theorem Qja {w:World} {B n sz:Nat} {T:TypeId} {v:Value} {xs:List Value} (h:w.ownsRow B T sz v n xs) {p:Addr} (hp:v.ownBlock≠some p.block) (u:Value):(w.setCell p u).ownsRow B T sz v n xs:=
 h.kept (row:=some p.block) ⟨rfl,rfl,rfl,by simp[World.setCell],fun k _ hk=>Below.heap_setCell _ _ _ _ (fun e=>hk (by rw[e]))⟩ (.inr hp)
theorem Qir {w:World} {B n sz k:Nat} {T:TypeId} {v:Value} {xs:List Value} (h:w.ownsRow B T sz v n xs) (hk:k < B):v.ownBlock≠some k:=fun e=>by
 have:=(h.lt k e).1;omega
theorem Qlm {w w':World} {base:Nat} {T:TypeId} {sz n:Nat} {v:Value} {xs:List Value} (h:w.ownsRow base T sz v n xs) (hb:∀g,v.ownBlock=some g→w'.heap[g]? = w.heap[g]?):w'.ownsRow base T sz v n xs:=by
 refine ⟨h.1,?_⟩;rcases h.2 with h2 | ⟨g,cap,cur,rfl,h3,h4,h5⟩
 ·exact .inl h2
 ·exact .inr ⟨g,cap,cur,rfl,h3,(hb g rfl).trans h4,h5⟩
theorem Qll {w w':World} {B n sz:Nat} {ex:List Nat} {T:TypeId} {v:Value} {xs:List Value} (h:w.ownsRow B T sz v n xs) (hk:Kept w.heap.size ex w w') (hx:∀k∈ex,k < B):w'.ownsRow B T sz v n xs:=
 Qlm h fun g hg=>hk.block g (h.lt g hg).2 (fun hm=>by have:=hx g hm;have:=(h.lt g hg).1;omega)
theorem Kqy {c:Cst} {s:List UInt8} {i:Nat} {x:Smp} {c':Cst} {j:Nat} (hc:c.Ok) (hv:c.last.v < 2 ^ 64) (h:Kbj c s i=some (x,c',j)):c'.Ok∧c'.n=c.n+1∧c'.last=x∧x.v < 2 ^ 64:=by
 unfold Kbj at h
 split at h
 ·rename_i h0
  repeat' split at h
  all_goals first | (cases h;done) | skip
  rename_i hr
  injection h with h;injection h with h1 h2;injection h2 with h2 h3;subst h1 h2;exact ⟨hc,by rw[h0],rfl,Kdm hr⟩
 ·repeat' split at h
  all_goals first | (cases h;done) | skip
  rename_i hr
  injection h with h;injection h with h1 h2;injection h2 with h2 h3;subst h1 h2;obtain ⟨a,b⟩:=Khm (hc.step _) hr;exact ⟨b,rfl,rfl,Nat.xor_lt_two_pow hv a⟩
structure Kwe (w:World) (q:Nat) (S:ByteArray) (N:Nat) (i:Nat) (c:Cst) (j:Nat) (L:List Smp) (v:Value) (wr:World):Prop where
 he:Blk wr q 23 #[.int .i64 0]
 hr:RdrAt (q+2) (q+1) S j c wr
 hj:j≤8*S.size
 ok:c.Ok
 hn:c.n=i
 hv:c.last.v < 2 ^ 64
 hl:L.length=i
 row:wr.ownsRow (q+3) 93 2 v i (L.flatMap Kcb)
 hb:Below q w wr
 hs:Kcl S.data.toList N cst0 0=(L++(Kcl S.data.toList (N - i) c j).1,(Kcl S.data.toList (N - i) c j).2)
theorem Qfa (s:ByteArray) (w:World) (hs:s.size≤140737488351232) :
  Calls Tryz.prog 156 #[.string s] w (ReadO w (readC s.data.toList)):=by
 have hmf:∀(fn:Fn) (first cap:Array Value) (w:World),(Instr.makeFunc fn first cap).run Tryz.prog w = .ok (.func fn first cap) w:=fun _ _ _ _=>rfl
 obtain ⟨v,n,e,hr⟩:∃v n e,Kar s.data.toList 0=(v,n,e):=⟨_,_,_,rfl⟩;have HRU:=Jh (fun w=>Kao s 0 v n e hr hs w);have HR:=Jh hr;have hb0:Below w.heap.size w (w.alloc (.cells #[.int .i64 0] 23)):=(Below.refl _ _).alloc (Nat.le_refl _) _;have he0:Blk (w.alloc (.cells #[.int .i64 0] 23)) w.heap.size 23 #[.int .i64 0]:=Blk.new _ _ _;obtain ⟨q,hq⟩:∃q,w.heap.size=q:=⟨_,rfl⟩;have HQ:=Jh hq;have hq1:(w.alloc (.cells #[.int .i64 0] 23)).heap.size=q+1:=by simp[hq]
 clear hr;go_enter_defers Tryz.func156,Tryz.ntmps156
 go_upto_region 1 with fail
 obtain ⟨w1,hw1⟩:∃w1,w.alloc (.cells #[.int .i64 0] 23)=w1:=⟨_,rfl⟩;rw[hw1] at hb0 he0 hq1;rw[hw1];rw[hq] at hb0 he0;clear hw1 hq;have e0:w1.cell? ⟨q,0,none⟩=_:=he0.cell 0;have f0:=he0.frozen 0;go_wp2_with fail
 refine (HRU.out w1).mono ?_;rintro _ _ ⟨rfl,rfl⟩;have hbq:Below q w (w1.setCell ⟨q,0,none⟩ (.int .i64 (e:Int))):=hb0.setCell (p:=⟨q,0,none⟩) (Nat.le_refl _) _;have heq:Blk (w1.setCell ⟨q,0,none⟩ (.int .i64 (e:Int))) q 23 #[.int .i64 (e:Int)]:=he0.set_ 0 _;have hsz:(w1.setCell ⟨q,0,none⟩ (.int .i64 (e:Int))).heap.size=q+1:=by simpa[World.setCell] using hq1
 go_upto_region 2 with fail
 obtain ⟨w2,hw2⟩:∃w2,w1.setCell ⟨q,0,none⟩ (.int .i64 (e:Int))=w2:=⟨_,rfl⟩;rw[hw2] at hbq heq hsz;rw[hw2];have HC:=Jh (Qlr HR.out);have HBQ:=Jh hbq;clear hw2 hb0 he0 e0 f0 hq1;have e0:w2.cell? ⟨q,0,none⟩=_:=heq.cell 0;have f0:=heq.frozen 0;have hql:=heq.lt
 by_cases h0:e=0
 ·subst h0
  by_cases hv:120 < v
  ·go_wp2_with fail
   have e1:(w2.setCell ⟨q,0,none⟩ (.int .i64 92)).cell? ⟨q,0,none⟩=some (.int .i64 92):=(heq.set_ 0 (.int .i64 92)).cell 0;refine ⟨.tuple #[.slice none 0 0,.int .i64 92],by simp[results,Tryz.results156,go_sem,e1],?_⟩;have hrc:=(HC.out.2 (by simp)).2.1 hv;exact ReadO.bad hrc (by decide) (by rw[HQ.out];exact HBQ.out.setCell (p:=⟨q,0,none⟩) (Nat.le_refl _) _)
  ·have hv120:v≤120:=by omega
   have hvf:decide ((120:Int) < (v:Int))=false:=by rw[decide_eq_false_iff_not];omega
   obtain ⟨hns,_,hrc⟩:=HC.out.2 (by simp);have hrc:=hrc hv120;have hnz:n≤s.size:=hns;have HRC:=Jh hrc;clear hrc hns hv;obtain ⟨S,hSS⟩:∃S,s.extract n s.size=S:=⟨_,rfl⟩
   have hSd:S.data.toList=s.data.toList.drop n:=by
    rw[←hSS];simp only[ByteArray.data_extract,Array.toList_extract];rw[←Kaj,List.extract_eq_take_drop,List.take_of_length_le];simp
   have hSz:S.size≤140737488351232:=by
    have h1:S.size=S.data.toList.length:=rfl;rw[h1,hSd,List.length_drop];have h2:s.data.toList.length=s.size:=rfl;omega
   have HSD:=Jh hSd;clear hSd;go_upto_region 8 with fail
   refine (Kzx S w2).mono ?_;rintro _ w3 ⟨rfl,hw3⟩;go_upto_region 8 with fail
   have hb3:Below w2.heap.size w2 w3:=by rw[←hw3];exact (Below.refl _ _).alloc (Nat.le_refl _) _
   have hr3:Blk w3 (q+1) 334 #[.string S,.int .i64 0]:=by rw[←hw3,←hsz];exact Blk.new _ _ _
   have hs3:w3.heap.size=q+2:=by rw[←hw3];simp[hsz]
   have hb4:Below w2.heap.size w2 (w3.alloc (.cells (.pointer (some ⟨q+1,0,none⟩) :: .slice none 0 0 :: .int .i64 0 :: restC cst0).toArray 305)):=hb3.alloc hb3.size _
   have hL0:Kwe w q S v 0 cst0 0 [] (.slice none 0 0) (w3.alloc (.cells (.pointer (some ⟨q+1,0,none⟩) :: .slice none 0 0 :: .int .i64 0 :: restC cst0).toArray 305)):=
    ⟨heq.below hb4 heq.lt,⟨by rw[←hs3];exact Blk.new _ _ _,hr3.alloc _⟩,Nat.zero_le _,Cst.ok0,rfl,by decide,rfl,World.ownsRow_nil _ _ _ _,HBQ.out.trans (hb4.mono (by omega)),by simp⟩
   obtain ⟨w4,hw4⟩:∃w4,w3.alloc (.cells (.pointer (some ⟨q+1,0,none⟩) :: .slice none 0 0 :: .int .i64 0 :: restC cst0).toArray 305)=w4:=⟨_,rfl⟩;have hw4':w3.alloc (.cells #[.pointer (some ⟨q+1,0,none⟩),.slice none 0 0,.int .i64 0,.int .i64 0,.int .i64 0,.int .u64 0,.int .i64 0,.int .i64 0,.int .i64 0,.bool false] 305)=w4:=hw4;rw[hw4] at hL0;rw[hw4',hs3];have HL0:=Jh hL0;clear hw4 hw4' hL0 hb4 hs3 hr3 hb3 hw3 e0 f0 heq hbq hsz hql;go_wp2_with fail
   go_loopg [2,28] v (fun g s2 s28 wr=>∃(i:Nat) (c:Cst) (j:Nat) (L:List Smp),i+g=v∧s28 = .int .u64 (i:Int)∧Kwe w q S v i c j L s2 wr)
   case atStart=>exact ⟨0,cst0,0,[],by omega,rfl,HL0.out⟩
   case round=>
    obtain ⟨i,c,j,L,hi,rfl,hl⟩:=hrel;have HI:=Jh hi;have HL:=Jh hl
    cases gk with
    | zero=>
     obtain rfl:i=v:=by omega
     clear hl hi;have c0:wr.cell? ⟨q,0,none⟩=some (.int .i64 0):=HL.out.he.cell 0;have z0:=HL.out.he.frozen 0;go_wp2_with fail
     refine leaves_cons (f:=205) (args:=#[.pointer (some ⟨q,0,none⟩)]) (by simp) (by simp[go_sem]) ?_;refine (Qaa _ _).mono ?_;rintro e u' w'' ⟨rfl,rfl,rfl⟩;have he5:=HL.out.he.set_ 0 (.int .i64 0);have e5:(wr.setCell ⟨q,0,none⟩ (.int .i64 0)).cell? ⟨q,0,none⟩=some (.int .i64 0):=he5.cell 0;refine ⟨.tuple #[u2,.int .i64 0],by simp[results,Tryz.results156,go_sem,e5],?_⟩;have hss:=HL.out.hs;rw[Nat.sub_self,Kcl,List.append_nil] at hss;have hrr:readC s.data.toList=(L,true):=by rw[HRC.out,←HSD.out];exact hss
     unfold ReadO;rw[hrr,if_pos rfl,HQ.out];refine ⟨_,rfl,?_,HL.out.hb.setCell (p:=⟨q,0,none⟩) (Nat.le_refl _) _⟩;have hrow:=Qja HL.out.row (p:=⟨q,0,none⟩) (Qir (k:=q) HL.out.row (by omega)) (.int .i64 0);rw[←HL.out.hl] at hrow;exact World.ownsRow.mono hrow (by omega)
    | succ g=>
     have hsr:=hl.hs;rw[show v - i=g+1 by omega,Kcl] at hsr;obtain ⟨r,hr⟩:∃r,Kbj c S.data.toList j=r:=⟨_,rfl⟩;have HB:=Jh (Kyu (q+2) (q+1) j S c wr hl.hr hl.ok (by rw[hl.hn];omega) hl.hv hSz hl.hj);rw[hr] at HB hsr;have HRR:=Jh hr;have HSR:=Jh hsr;have hiv:i < v:=by omega
     have el:decide (i < v)=true:=decide_eq_true hiv;clear hl hi hr hsr
     cases r with
     | none=>
      go_wp2_with fail
      refine HB.out.mono ?_;rintro _ w5 ⟨⟨f,hf,rfl⟩,hk5⟩;have he5:=HL.out.he.kept hk5 HL.out.he.lt (by simp);unfold Kaz;go_wp2_with fail
      refine leaves_cons (f:=205) (args:=#[.pointer (some ⟨q,0,none⟩)]) (by simp) (by simp[go_sem]) ?_;refine (Kwn ⟨q,0,none⟩ _ f w5 (he5.cell 0) (he5.frozen 0)).mono ?_;rintro e u' w'' ⟨rfl,rfl,rfl⟩;have e5:(w5.setCell ⟨q,0,none⟩ (.int .i64 (f:Int))).cell? ⟨q,0,none⟩=some (.int .i64 (f:Int)):=(he5.set_ 0 _).cell 0;refine ⟨.tuple #[u2,.int .i64 (f:Int)],by simp[results,Tryz.results156,go_sem,e5],?_⟩;have hrr:(readC s.data.toList).2=false:=by rw[HRC.out,←HSD.out,HSR.out]
      have hb5:Below q w w5:=HL.out.hb.trans ((hk5.mono (B':=q) (by have:=HL.out.he.lt;omega) (fun _ _ h=>h)).below (by simp))
      try rw[←HRC.out]
      exact ReadO.bad hrr hf (by rw[HQ.out];exact hb5.setCell (p:=⟨q,0,none⟩) (Nat.le_refl _) _)
     | some x=>
      obtain ⟨x,c',j'⟩:=x;go_wp2_with fail
      refine HB.out.mono ?_;rintro _ w5 ⟨rfl,hr5,hj5,hk5⟩;have he5:=HL.out.he.kept hk5 HL.out.he.lt (by simp);have hrow5:=Qll HL.out.row hk5 (by simp);have hb5:Below q w w5:=HL.out.hb.trans ((hk5.mono (B':=q) (by have:=HL.out.he.lt;omega) (fun _ _ h=>h)).below (by simp));unfold smpV;obtain ⟨i0,hi0,hz0,hz1,hz2⟩:=info_parts Qkp;have hB5:q+3≤w5.heap.size:=by have:=hr5.r.lt;omega
      have HR5:=Jh hr5;have HE5:=Jh he5;have HB5:=Jh hb5;clear hr5 he5 hb5 hk5;go_wp2_with (at_builtin;refine wpList_append_own_at _ rfl _ _ 83 rfl (q+3) 93 i0 (.agg #[.int .i64 0,.int .u64 0]) 2 16 Tryz.underlying83 hi0 hz0 hz1 hz2 rfl (by decide) _ _ _ rfl (World.ownsRow.alloc hrow5 _) ⟨w5.heap.size,0,none⟩ 1 1 [.int .i64 x.t,.int .u64 (x.v:Int)] rfl rfl ?c1 ?c2 ?c3 ?c4 ?c5 ?_)
      case c1=>exact Kav (l:=[.int .i64 x.t,.int .u64 (x.v:Int)]) (Blk.new w5 _ _)
      case c2=>intro u hu;simp at hu;rcases hu with rfl | rfl <;> rfl
      case c3=>unfold maxLen;omega
      case c4=>omega
      case c5=>simp;omega
      intro v' w6 hown' hgrow hx1 hat;have hq0:v'.ownBlock=v'.ownBlock:=rfl;have hne:∀k,k < q+3→some k≠u2.ownBlock:=fun k hk e=>Qir hrow5 hk e.symm
      have hE6:Blk w6 q 23 #[.int .i64 0]:=(HE5.out.alloc _).grown hgrow (hne q (by omega));have hR6:RdrAt (q+2) (q+1) S j' c' w6:=⟨(HR5.out.r.alloc _).grown hgrow (hne (q+2) (by omega)),(HR5.out.b.alloc _).grown hgrow (hne (q+1) (by omega))⟩;have hb6:Below q w w6:=HB5.out.trans ⟨hgrow.os,hgrow.tape,hgrow.output,by have:=hgrow.size;simp at this;omega,fun k hk=>(hgrow.block k (by simp;omega) (hne k (by omega))).trans (Below.heap_alloc _ _ _ (by omega))⟩;have hfl:(L ++ [x]).flatMap Kcb=L.flatMap Kcb ++ [.int .i64 x.t,.int .u64 (x.v:Int)]:=by rw[List.flatMap_append];rfl
      obtain ⟨k1,k2,k3,k4⟩:=Kqy HL.out.ok HL.out.hv HRR.out
      have hnew:Kwe w q S v (i+1) c' j' (L ++ [x]) v' w6:=by
       refine ⟨hE6,hR6,hj5,k1,by rw[k2,HL.out.hn],by rw[k3];exact k4,by rw[List.length_append,HL.out.hl];rfl,by rw[hfl];exact hown',hb6,?_⟩;rw[HSR.out,List.append_assoc,show v - (i+1)=g by have:=HI.out;omega];rfl
      have HNEW:=Jh hnew;clear hnew hE6 hR6 hb6 hown' hgrow hx1 hat hne hq0;go_wp2_with fail
      go_roundg g
      case measure=>omega
      case rel=>exact ⟨i+1,c',j',L ++ [x],by have:=HI.out;omega,by go_num,HNEW.out⟩
 ·have h0':((e:Int) != 0)=true:=by simp;omega
  go_upto_region 3 with fail
  go_region
  go_wp2_with fail
  have e1:(w2.setCell ⟨q,0,none⟩ (.int .i64 (e:Int))).cell? ⟨q,0,none⟩=some (.int .i64 (e:Int)):=(heq.set_ 0 (.int .i64 (e:Int))).cell 0;refine ⟨.tuple #[.slice none 0 0,.int .i64 (e:Int)],by simp[results,Tryz.results156,go_sem,e1],?_⟩;exact ReadO.bad (HC.out.1 h0) h0 (by rw[HQ.out];exact HBQ.out.drew.setCell (p:=⟨q,0,none⟩) (Nat.le_refl _) _)
theorem Ktd {S T:ByteArray} (h:S≠T):(S.toList == T.toList)=false∧(S == T)=false∧decide (S=T)=false∧decide (S.toList=T.toList)=false:=by
 have hl2:S.toList≠T.toList:=fun e=>h (by
  rw[ByteArray.toList_eq,ByteArray.toList_eq] at e;cases S;cases T
  simp at e
  rw[e])
 have h1:(S.toList == T.toList)=false:=by simpa using hl2
 exact ⟨h1,by rw[beq_toListBytes];exact h1,by simpa using h,by simpa using hl2⟩
theorem Qdr (A:Option Addr) (n cap:Nat) (w:World) (hn:n≤cap) (hm:n≤1099511627776) :
  Calls Tryz.prog 157 #[.slice A n cap] w fun e w'=>e = .returned (.slice A n n)∧w=w':=by
 go_enter Tryz.func157,Tryz.ntmps157
 go_wp2_with fail
 go_ret
 exact ⟨rfl,rfl⟩
def DecO (w:World) (r:Option (List Smp)) (en:Ending) (w':World):Prop:=match r with
 | some l=>∃A,en = .returned (.tuple #[.slice A l.length l.length,.int .i64 0])∧Elems w' w'.heap.size 2 Kcb A l.length l∧Below w.heap.size w w'
 | none=>∃f,f≠0∧en = .returned (.tuple #[.slice none 0 0,.int .i64 ((f:Nat):Int)])∧Below w.heap.size w w'
theorem Kfs (x:Smp):(Kcb x).length=2:=rfl
theorem Kqz (s:List UInt8):∀(n:Nat) (c:Cst) (i:Nat),c.Ok→c.last.v < 2 ^ 64→(∀x∈(Kcl s n c i).1,x.v < 2 ^ 64)∧(Kcl s n c i).1.length≤n
 | 0,c,i,_,_=>⟨fun x hx=>by simp[Kcl] at hx,by simp[Kcl]⟩
 | n+1,c,i,hc,hv=>by
  rw[Kcl]
  cases hr:Kbj c s i with
  | none=>exact ⟨fun x hx=>by simp at hx,by simp⟩
  | some y=>
   obtain ⟨x,c',j⟩:=y;obtain ⟨k1,k2,k3,k4⟩:=Kqy hc hv hr;obtain ⟨h1,h2⟩:=Kqz s n c' j k1 (by rw[k3];exact k4);refine ⟨fun y hy=>?_,by simp;omega⟩;rcases List.mem_cons.1 hy with rfl | hy
   ·exact k4
   ·exact h1 y hy
theorem Qcs (s:List UInt8):(∀x∈(readC s).1,x.v < 2 ^ 64)∧(readC s).1.length≤120:=by
 unfold readC
 split
 ·exact ⟨fun x hx=>by simp at hx,by simp⟩
 ·split
  ·rename_i n i _ h
   obtain ⟨h1,h2⟩:=Kqz (s.drop i) n cst0 0 Cst.ok0 (by decide);exact ⟨h1,by omega⟩
  ·exact ⟨fun x hx=>by simp at hx,by simp⟩
theorem Qls {s:List UInt8} (h:(readC s).2=true):s≠[]:=by
 rintro rfl;simp[readC,readU,readG] at h
theorem Kwt {s:List UInt8} (h:(readC s).2=true):(Keb (readC s).1).1=s↔decC s=some (readC s).1:=by
 unfold decC Keb
 by_cases he:encE cst0 (readC s).1=0
 ·rw[if_pos he];have hf:=(Klw _).1 he
  by_cases hc:Kbg (readC s).1=s
  ·rw[if_pos ⟨h,hf,hc⟩];simp[hc]
  ·rw[if_neg (fun h=>hc h.2.2)];simp[hc]
 ·rw[if_neg he];have hf:¬fitC none 0 (readC s).1=true:=fun hf=>he ((Klw _).2 hf)
  rw[if_neg (fun h=>hf h.2.1)];constructor
  ·intro h';exact absurd h'.symm (Qls h)
  ·intro h';cases h'
theorem Qgp {s:List UInt8} (h:(readC s).2=true) (hc:(Keb (readC s).1).1≠s):decC s=none:=by
 cases hd:decC s with
 | none=>rfl
 | some l=>
  have:decC s=some (readC s).1:=by
   unfold decC at hd ⊢
   split at hd
   ·rename_i h1;rw[if_pos h1]
   ·cases hd
  exact absurd ((Kwt h).2 this) hc
theorem Kuv (s:ByteArray) (w:World) (hs:s.size≤140737488351232) (hT:DbTab w) :
  Calls Tryz.prog 105 #[.string s] w (DecO w (decC s.data.toList)):=by
 have HRD:=Jh (Qfa s w hs);have HT:=Jh hT;clear hT
 cases hr:(readC s.data.toList).2 with
 | false=>
  have hd:decC s.data.toList=none:=by unfold decC;rw[if_neg (by rw[hr];simp)]
  rw[hd];clear hd;go_enter Tryz.func105,Tryz.ntmps105
  go_wp2_with fail
  refine HRD.out.mono ?_;intro e w1 ho;unfold ReadO at ho;rw[if_neg (by rw[hr];simp)] at ho;obtain ⟨v,f,hf,rfl,hb⟩:=ho;have hf':((f:Int) != 0)=true:=by simp;omega
  go_wp2_with fail
  go_ret2
  exact ⟨f,hf,rfl,hb⟩
 | true=>
  have HR:=Jh hr;obtain ⟨hv1,hv2⟩:=Qcs s.data.toList;obtain ⟨l,hl⟩:∃l,(readC s.data.toList).1=l:=⟨_,rfl⟩;have h1:=Kwt hr;have h2:=Qgp hr;rw[hl] at hv1 hv2 h1 h2;have HL:=Jh hl;have H1:=Jh h1;have H2:=Jh h2;clear h1 h2;go_enter Tryz.func105,Tryz.ntmps105
  go_wp2_with fail
  refine HRD.out.mono ?_;intro e w1 ho;unfold ReadO at ho;rw[if_pos HR.out,HL.out] at ho;obtain ⟨v,rfl,hown,hb⟩:=ho;obtain ⟨A,cap,rfl,hel,_,hcap⟩:=Elems.of_own (fun x _=>Kfs x) rfl hown rfl;obtain ⟨n,hn⟩:∃n,l.length=n:=⟨_,rfl⟩;rw[hn] at hel hcap hv2;rw[hn];have HEN:=Jh (Klh l A n cap w1 hel (by omega) hv1 (HT.out.below hb));have HE:=Jh hel;have HB:=Jh hb;have HN:=Jh hn;obtain ⟨O,hO⟩:∃O,Keb l=O:=⟨_,rfl⟩;rw[hO] at HEN H1 H2;obtain ⟨OT,OE⟩:=O;clear hown hel hb hn hl hr hO;dsimp only at HEN H1 H2;go_wp2_with fail
  refine HEN.out.mono ?_;rintro _ w2 ⟨rfl,hb2⟩;have HB2:=Jh (then_ HB.out hb2);have HE2:=Jh ((HE.out.below hb2).more hb2.size)
  by_cases hc:OT=s.data.toList
  ·have hts:(⟨OT.toArray⟩:ByteArray)=s:=by rw[hc]
   rw[hts];have hd:=Jh (H1.out.1 hc);clear hb2;go_wp2_with fail
   refine (Qdr A n cap w2 hcap (by omega)).mono ?_;rintro _ _ ⟨rfl,rfl⟩;go_wp2_with fail
   go_ret2
   rw[hd.out];exact ⟨A,by rw[HN.out];rfl,by rw[HN.out];exact HE2.out,HB2.out⟩
  ·have hts:(⟨OT.toArray⟩:ByteArray)≠s:=by
    intro h;apply hc;rw[←h]
   have hd:=Jh (H2.out hc);obtain ⟨OS,hOS⟩:∃OS:ByteArray,(⟨OT.toArray⟩:ByteArray)=OS:=⟨_,rfl⟩;rw[hOS] at hts ⊢;obtain ⟨n1,n2,n3,n4⟩:=Ktd hts;clear hb2 hc hOS;go_wp2_with fail
   go_ret2
   rw[hd.out];exact ⟨21,by decide,rfl,HB2.out⟩
end
end Go.Proofs.YtefpndiiedkmpaaGreatDoor
