/- Merged (what the claim wants of): KptDec, BlkFitA, KptRfit, KptRalike, StoPlain, DskPlain, StoPlain2, StoLawA, StoLawB, StoLawC, StoPlain3, SMap, DskMem, DskPlain2, DskPlain3, DskPlain4, DskPlain5, DskKept. -/
import Derived.Test.YtefpndiiedkmpaaGreatDoorKpf09
import Derived.Test.YtefpndiiedkmpaaGreatDoorKpf06
import Derived.Test.YtefpndiiedkmpaaGreatDoorKpf08
import Derived.Test.YtefpndiiedkmpaaGreatDoorKpf03
import Derived.Test.YtefpndiiedkmpaaGreatDoorKpf05
import Derived.Test.YtefpndiiedkmpaaGreatDoorKpf04
import Derived.Test.YtefpndiiedkmpaaGreatDoorKpf02
import Derived.Test.YtefpndiiedkmpaaGreatDoorKpf01
import Derived.Maps.RangeWalk
import Derived.Maps.OwnSet
import Derived.Maps.Views
import Derived.StringKeys
import Derived.Sort.KeysCollected
set_option linter.unusedVariables false
set_option linter.unusedSimpArgs false
set_option maxRecDepth 100000
set_option maxHeartbeats 8000000
namespace Go.Proofs.YtefpndiiedkmpaaGreatDoor
section
open Go.RowKit Go.Shelf Go.Sort
open Lib renaming hid → Jh
open List renaming setIfInBounds_toArray → Ja, set_cons_zero → Jb, set_cons_succ → Jc
attribute [local go_sem ↓] Go.wp_at_zero Go.wp_at_succ
attribute [local go_sem] Later.cell
theorem Qdl:(Tryz.prog.info? 85).map (fun i=>(i.zero,i.size,i.bytes))=some (some (.agg #[.slice none 0 0,.int .i64 0,.slice none 0 0,.slice none 0 0,.slice none 0 0,.slice none 0 0]),6,128):=by kernel_rfl
theorem KRes.five {w:World} {B:Nat} {h:KHd} {s:KSer} (k:KRes w B h s):Off B [] h.l.A h.l.n∧Off B [] h.g0.A h.g0.n∧Off B [] h.g1.A h.g1.n∧Off B [] h.g2.A h.g2.n∧Off B [] h.s.A h.s.n:=⟨k.l,k.g0,k.g1,k.g2,k.s⟩
theorem Kjz (S:ByteArray) (w:World) (hS:S.size≤268435456) (hN:Kdi w) (hT:DbTab w) :
  Calls Tryz.prog 13 #[.string S] w fun e w'=>KDecO w' (decK S.data.toList) e∧Below w.heap.size w w':=by
 have hmf:∀(fn:Fn) (first cap:Array Value) (w:World),(Instr.makeFunc fn first cap).run Tryz.prog w = .ok (.func fn first cap) w:=fun _ _ _ _=>rfl
 obtain ⟨r,hr⟩:∃r,decK S.data.toList=r:=⟨_,rfl⟩;rw[hr];have HN:=Jh hN;have HT:=Jh hT;have HR:=Jh hr;have HSZ:=Jh hS;obtain ⟨q,hq⟩:∃q,w.heap.size=q:=⟨_,rfl⟩;have HQ:=Jh hq;have hX:S.size≤140737488351232:=by omega
 clear hN hT hr;go_enter_defers Tryz.func13,Tryz.ntmps13
 go_upto_region 1 with fail
 have hb0:Below q w ((w.alloc (.cells #[.slice none 0 0] 22)).alloc (.cells #[.int .i64 0] 23)):=((Below.refl _ _).alloc (Nat.le_of_eq hq.symm) _).alloc (by simp;omega) _;have ho:Blk ((w.alloc (.cells #[.slice none 0 0] 22)).alloc (.cells #[.int .i64 0] 23)) q 22 #[.slice none 0 0]:=(Blk.newAt hq.symm).alloc _;have he:Blk ((w.alloc (.cells #[.slice none 0 0] 22)).alloc (.cells #[.int .i64 0] 23)) (q+1) 23 #[.int .i64 0]:=Blk.newAt (by simp;omega);have hz0:((w.alloc (.cells #[.slice none 0 0] 22)).alloc (.cells #[.int .i64 0] 23)).heap.size=q+2:=by simp;omega
 obtain ⟨W0,hW0⟩:∃W0,((w.alloc (.cells #[.slice none 0 0] 22)).alloc (.cells #[.int .i64 0] 23))=W0:=⟨_,rfl⟩;rw[hW0] at hb0 ho he hz0
 try rw[hW0]
 try rw[hq]
 have hn0:Kdi W0:=HN.out.below HN.out.lt (by rw[HQ.out];exact hb0);have hu:=Kwo S hX W0 hn0;obtain ⟨R0,hR0⟩:∃R,Kcg S.data.toList=R:=⟨_,rfl⟩;rw[hR0] at hu;have HO:=Jh ho;have HE:=Jh he;have HB0:=Jh hb0;have HZ0:=Jh hz0;clear hb0 ho he hW0 hq hn0 hX hz0 hS
 cases R0 with
 | error c0=>
  have hre:r = .error c0:=by rw[←HR.out];exact Kuc hR0
  have hc0:=Ksr hR0;have hne:((c0:Int) != 0)=true:=by simp;omega
  subst hre;dsimp only at hu;have HU:=Jh hu;clear hu hR0;go_wp2_with fail
  refine HU.out.mono ?_;rintro _ w1 ⟨rfl,hb1⟩;have ho1:=HO.out.below hb1 HO.out.lt;have he1:=HE.out.below hb1 HE.out.lt;have hb01:=HB0.out.trans (hb1.mono (by have:=HZ0.out;omega));have f1:=he1.frozen 0;have g1:w1.cell? ⟨q+1,0,none⟩=some (.int .i64 0):=he1.cell 0;have hl1:=he1.lt;have ho2:=ho1.far (p:=⟨q+1,0,none⟩) (by show q≠q+1;omega) (.int .i64 (c0:Int));have he2:=he1.set_ 0 (.int .i64 (c0:Int));have hb2:=hb01.setCell (p:=⟨q+1,0,none⟩) (Nat.le_succ q) (.int .i64 (c0:Int));have HO2:=Jh ho2;have HE2:=Jh he2;have HB2:=Jh hb2;clear ho1 he1 hb01 ho2 he2 hb2 hb1;go_upto_region 3 with fail
  obtain ⟨w2,hw2⟩:∃x,w1.setCell ⟨q+1,0,none⟩ (.int .i64 (c0:Int))=x:=⟨_,rfl⟩;rw[hw2] at HO2 HE2 HB2;rw[hw2];have d0:w2.cell? ⟨q,0,none⟩=some (.slice none 0 0):=HO2.out.cell 0;have d1:w2.cell? ⟨q+1,0,none⟩=some (.int .i64 (c0:Int)):=HE2.out.cell 0;have f0:=HO2.out.frozen 0;have f1:=HE2.out.frozen 0;have l1:=HE2.out.lt;clear hw2 g1 hl1 hmf;go_region
  go_wp2_with fail
  have k1:=((HO2.out.set_ 0 (.slice none 0 0)).far (p:=⟨q+1,0,none⟩) (by show q≠q+1;omega) (.int .i64 (c0:Int))).drew;have k2:=((HE2.out.far (p:=⟨q,0,none⟩) (by show q+1≠q;omega) (.slice none 0 0)).set_ 0 (.int .i64 (c0:Int))).drew;have k3:=((HB2.out.setCell (p:=⟨q,0,none⟩) (Nat.le_refl q) (.slice none 0 0)).setCell (p:=⟨q+1,0,none⟩) (Nat.le_succ q) (.int .i64 (c0:Int))).drew;exact ⟨_,kres2 _ k1 k2 (by rfl) (by rfl),rfl,by rw[HQ.out];exact k3⟩
 | ok bb=>
 obtain ⟨B,hB⟩:∃B:ByteArray,(⟨bb.toArray⟩:ByteArray)=B:=⟨_,rfl⟩;dsimp only at hu;rw[hB] at hu;have hBd:B.data.toList=bb:=by rw[←hB]
 have hsz:B.size≤268435456:=by
  have a:=Qfn hR0;have b:=HSZ.out;rw[←hBd] at a;have h1:B.data.toList.length=B.size:=rfl;have h2:S.data.toList.length=S.size:=rfl;omega
 rw[←hBd] at hR0;have HU:=Jh hu;have HR0:=Jh hR0;clear hu hR0 hB hBd;go_wp2_with fail
 refine HU.out.mono ?_;rintro _ w1 ⟨rfl,hb1⟩;have ho1:=HO.out.below hb1 HO.out.lt;have he1:=HE.out.below hb1 HE.out.lt;have hb01:=HB0.out.trans (hb1.mono (by have:=HZ0.out;omega));have f1:=he1.frozen 0;have g1:w1.cell? ⟨q+1,0,none⟩=some (.int .i64 0):=he1.cell 0;have hl1:=he1.lt;go_upto_region 6 with fail
 have hsame:w1.setCell ⟨q+1,0,none⟩ (.int .i64 0)=w1:=Kks he1 (i:=0) rfl;rw[hsame];obtain ⟨pr,hpr⟩:∃x,w1.heap.size=x:=⟨_,rfl⟩;have hbx:Below w1.heap.size w1 (w1.alloc (.cells #[.string B,.int .i64 0] 115)):=(Below.refl _ _).alloc (Nat.le_refl _) _;have hkx:Blk (w1.alloc (.cells #[.string B,.int .i64 0] 115)) pr 115 #[.string B,.int .i64 0]:=by rw[←hpr];exact Blk.new _ _ _
 have hs2:(w1.alloc (.cells #[.string B,.int .i64 0] 115)).heap.size=pr+1:=by simp;omega
 obtain ⟨w2,hw2⟩:∃x,w1.alloc (.cells #[.string B,.int .i64 0] 115)=x:=⟨_,rfl⟩;rw[hw2] at hbx hkx hs2;rw[hw2];have ho2:=ho1.below hbx ho1.lt;have he2:=he1.below hbx he1.lt;have hb2:=hb01.trans (hbx.mono (by have:=hb01.size;have:=HQ.out;omega));have hprq:q+1 < pr:=by omega
 have hrd2:Rdr pr B 0 w2:=hkx;have HPN2:=Jh (show KPN w q w2 from ⟨⟨_,ho2⟩,⟨_,he2⟩,hb2⟩);have HO2:=Jh ho2;have HE2:=Jh he2;have HB2:=Jh hb2;have HS2:=Jh hs2
 try rw[hpr]
 obtain ⟨G,hG⟩:∃G,Kfk B.data.toList=G:=⟨_,rfl⟩;have HG:=Jh hG;have hnone:G=none→r = .error 150:=fun h=>by rw[←HR.out];exact Qcv HR0.out (by rw[HG.out];exact h)
 have HNO:=Jh hnone;have hTd:=Ktg B 0 w2.drew (by omega);have hrdd:=hrd2;clear ho1 he1 hb01 f1 g1 hl1 hsame hbx hkx hs2 hw2 ho2 he2 hb2 hrd2 hpr hnone hb1 hG
 cases ht:tabR B.data.toList 0 with
 | none=>
  rw[ht] at hTd
  have HC:=Jh (Kmr pr 0 B w2 hrdd (fun _ _ _=>False) True (hTd.mono (by
   rintro e w' ⟨f,hf,rfl,hb⟩
   exact ⟨Kci hb,.inr ⟨trivial,_,_,f,hf,rfl⟩⟩)))
  have HNONE:Hid (r = .error 150):=Jh (HNO.out (by rw[←HG.out];unfold Kfk;rw[ht]));clear hTd ht hrdd hmf;go_wp2_with fail
  refine HC.out.mono ?_;rintro e w3 (⟨v,j,w4,rfl,hno,_⟩ | ⟨_,f,hf,rfl,hb⟩)
  ·exact hno.elim
  ·have hpn:=HPN2.out.below hb;clear hb;unfold Kau;go_wp2_with fail
   refine leaves_cons (f:=44) (args:=#[.pointer (some ⟨q,0,none⟩),.pointer (some ⟨q+1,0,none⟩)]) (by simp) (by simp[go_sem]) ?_;refine (Khl w3 hpn _ _).mono ?_;rintro e u' w'' ⟨rfl,rfl,k1,k2,k3⟩;refine Kni k1 k2 k3 HNONE.out ?_ ?_ HQ.out
   all_goals rfl
 | some x=>
 obtain ⟨t,i0⟩:=x;rw[ht] at hTd;obtain ⟨htz,htn⟩:=Qig ht;have hi0:=Qkb ht;have hsl:B.data.toList.length=B.size:=rfl;rw[hsl] at htz htn hi0
 have HC:=Jh (Kmr pr 0 B w2 hrdd (fun v j w'=>∃p,v = .pointer (some ⟨p,0,none⟩)∧j=i0∧Kep (pr+1) w' p t) False (hTd.mono (by
  rintro e w' ⟨p,rfl,htab,hb⟩
  exact ⟨Kci hb,.inl ⟨_,i0,rfl,p,rfl,rfl,by rw[←HS2.out];exact htab⟩⟩)))
 have HT2:=Jh ht;have HTZ:=Jh htz;have HRDD:=Jh hrdd;have HSL:=Jh hsl;clear hTd ht hrdd htz hsl;go_wp2_with fail
 refine HC.out.mono ?_;rintro e w3 (⟨v,j,w4,rfl,⟨p,rfl,rfl,htab⟩,hb4,rfl⟩ | ⟨hno,_⟩)
 rotate_left
 ·exact hno.elim
 have hk5:Kept w2.heap.size [pr] w2 (w4.setCell ⟨pr,1,none⟩ (.int .i64 (j:Int))):=Kin (Kept.of_below hb4);have hrd5:Rdr pr B j (w4.setCell ⟨pr,1,none⟩ (.int .i64 (j:Int))):=HRDD.out.set hb4;have htab5:Kep (pr+1) (w4.setCell ⟨pr,1,none⟩ (.int .i64 (j:Int))) p t:=htab.keep (by simp[World.setCell]) fun k h1 h2=>Below.heap_setCell _ _ _ _ (by show k≠pr;omega)
 obtain ⟨w5,hw5⟩:∃x,w4.setCell ⟨pr,1,none⟩ (.int .i64 (j:Int))=x:=⟨_,rfl⟩;rw[hw5] at hk5 hrd5 htab5;rw[hw5];have HPN5:=Jh (HPN2.out.kept hk5 (fun k hk=>by rw[List.mem_singleton.1 hk];exact hprq));have HO5:=Jh (HO2.out.kept hk5 HO2.out.lt (by simp;omega));have HE5:=Jh (HE2.out.kept hk5 HE2.out.lt (by simp;omega));have HTB5:=Jh htab5;have HRD5:=Jh hrd5;have HU5:=Jh (Kir pr j B w5 hrd5 (by omega));clear hw5 hk5 hrd5 htab5 htab hb4;go_wp2_with fail
 refine HU5.out.mono ?_;intro e w6 h6
 cases hru:ruAt B.data.toList j with
 | none=>
  rw[hru] at h6;obtain ⟨⟨f,hf,rfl⟩,hb6⟩:=h6
  have HNONE:Hid (r = .error 150):=Jh (HNO.out (by
   rw[←HG.out];unfold Kfk;rw[HT2.out];dsimp only
   rw[hru]))
  have hpn:=HPN5.out.below hb6;clear hb6 hru hmf;unfold Kau;go_wp2_with fail
  refine leaves_cons (f:=44) (args:=#[.pointer (some ⟨q,0,none⟩),.pointer (some ⟨q+1,0,none⟩)]) (by simp) (by simp[go_sem]) ?_;refine (Khl w6 hpn _ _).mono ?_;rintro e u' w'' ⟨rfl,rfl,k1,k2,k3⟩;refine Kni k1 k2 k3 HNONE.out ?_ ?_ HQ.out
  all_goals rfl
 | some x=>
 obtain ⟨n,j1⟩:=x;rw[hru] at h6;obtain ⟨rfl,hrd6,hk6⟩:=h6;have hj1:=Kei (by rw[HSL.out];exact hi0) hru;rw[HSL.out] at hj1;have hnlt:=Kzt hru
 have HGG:Hid (Kdp t B.data.toList n [] j1=G):=Jh (by
  rw[←HG.out];unfold Kfk;rw[HT2.out];dsimp only
  rw[hru])
 have HPN6:=Jh (HPN5.out.kept hk6 (fun k hk=>by rw[List.mem_singleton.1 hk];exact hprq));have HO6:=Jh (HO5.out.kept hk6 HO5.out.lt (by simp;omega));have HE6:=Jh (HE5.out.kept hk6 HE5.out.lt (by simp;omega));have htp:pr < p:=by have:=HTB5.out.1;omega
 have HTB6:Hid (KTab w6 pr p t):=Jh (KTab.kept ⟨HTB5.out⟩ hk6);have HRD6:=Jh hrd6;obtain ⟨QQ,hQQ⟩:∃x,w6.heap.size=x:=⟨_,rfl⟩;have HQQ:=Jh hQQ;have hprQ:pr < QQ:=by rw[←hQQ];exact hrd6.lt
 have HKE:Hid (KEnv w pr p t B):=Jh ⟨HT.out,by have:=HQ.out;omega,htp,by omega,by omega,fun x hx=>by have:=HTZ.out x hx;omega⟩;have HJ1:=Jh hj1;obtain ⟨ib,hib,hz0,hz1,hz2⟩:=info_parts Qdl;clear hru hrd6 hk6 hQQ hj1;go_wp2_with fail
 go_loopg [7] n (fun gg s7 wz=>∃(i:Nat) (out:List KSer) (ys:List KY) (sv:Value),s7 = .int .u64 (gg:Int)∧gg < 2 ^ 64∧Kdp t B.data.toList gg out i=G∧i≤B.size∧out.length≤i∧Rdr pr B i wz∧Blk wz q 22 #[sv]∧Blk wz (q+1) 23 #[.int .i64 0]∧DRow 85 QQ sv ys out wz∧Kept w6.heap.size [q,pr] w6 wz)
 case atStart=>exact ⟨j1,[],[],.slice none 0 0,rfl,hnlt,HGG.out,HJ1.out.2,Nat.zero_le _,HRD6.out,HO6.out,HE6.out,DRow.nil _ _ _,Kept.refl _ _ _⟩
 case round=>
  obtain ⟨i,out,ys,sv,rfl,hg64,hkr,hi,hol,hrd,hbo,hbe,hdr,hk⟩:=hrel;have HKR:=Jh hkr;have HOL:=Jh hol;have HRDk:=Jh hrd;have HBO:=Jh hbo;have HBE:=Jh hbe;have HDR:=Jh hdr;have HK:=Jh hk;have HPNk:Hid (KPN w q wr):=Jh ⟨⟨_,hbo⟩,⟨_,hbe⟩,HPN6.out.bl.trans ⟨hk.os,hk.tape,hk.output,hk.size,fun k hlt=>hk.block k (by have:=HPN6.out.bl.size;have:=HQ.out;omega) (by simp;omega)⟩⟩;clear hkr hol hrd hbo hbe hdr hk;obtain ⟨wk,rfl⟩:∃x,x=wr:=⟨_,rfl⟩
  cases gk with
  | zero=>
   have hkr:=HKR.out;have hgo:G=some out:=hkr.symm;have hoz:=Krg (by rw[HSL.out];omega) n [] j1 (by rw[HGG.out];exact hgo) (by rw[HSL.out];exact HJ1.out.2) (Nat.zero_le _) (by simp);have hom:=Kmc n [] j1 (by rw[HGG.out];exact hgo) (by rw[HSL.out];exact HJ1.out.2);rw[HSL.out] at hoz hom;have hrr:r=if fitK out=true∧encK out=S.data.toList then .ok out else .error 150:=by rw[←HR.out];exact Qcw HR0.out (by rw[HG.out];exact hgo)
   obtain ⟨A,c,rfl⟩:=Kje HDR.out.own
   have hsers:KSers wk A ys.length out:=by
    have hown:=HDR.out.own;obtain ⟨A',c',e',h1,h2,_⟩:=Elems.of_own (fun y _=>Qdb y) rfl hown rfl;injection e' with e1 e2 e3;subst e1
    exact ⟨ys,h1,HDR.out.len.symm,fun i hi=>by
     have:=HDR.out.at_ i (by rw[←HDR.out.len];exact hi)
     exact ⟨this.1,this.2.1⟩⟩
   have hbk:=HPNk.out.bl;have hyl:ys.length≤268435456:=by rw[HDR.out.len];have:=HOL.out;omega
   have hen:=Kka out A ys.length c wk hsers hoz.1 (by omega) (HT.out.below (by rw[HQ.out];exact hbk)) (HN.out.below HN.out.lt (by rw[HQ.out];exact hbk)) (fun hf=>by
    have h1:=Ktt hf;have h2:=Qgy hf;have h3:massK ([]:List KSer)=0:=rfl
    omega)
   obtain ⟨E1,hE1⟩:∃E:ByteArray,(⟨(kencF out).1.toArray⟩:ByteArray)=E:=⟨_,rfl⟩;rw[hE1] at hen;have hEd:E1.data.toList=(kencF out).1:=by rw[←hE1]
   have HEN:=Jh hen;have HED:=Jh hEd;have HOZ:=Jh hoz;have HRR:=Jh hrr;have HSE:=Jh hsers;have c0:wk.cell? ⟨q,0,none⟩=some (.slice A ys.length c):=HBO.out.cell 0;have hqk:q < wk.heap.size:=HBO.out.lt;clear hkr hoz hom hrr hsers hbk hen hE1 hEd hmf;go_wp2_with fail
   refine HEN.out.mono ?_;rintro _ w7 ⟨rfl,hb7⟩;have hbo7:=HBO.out.below hb7 HBO.out.lt;have hbe7:=HBE.out.below hb7 HBE.out.lt;have hbl7:=HPNk.out.bl.trans (hb7.mono (by have:=HPNk.out.bl.size;have:=HQ.out;omega));have HSE7:=Jh (HSE.out.below hb7);have HBO7:=Jh hbo7;have HBE7:=Jh hbe7;have HBL7:=Jh hbl7;have c7:w7.cell? ⟨q,0,none⟩=some (.slice A ys.length c):=hbo7.cell 0;have e7:w7.cell? ⟨q+1,0,none⟩=some (.int .i64 0):=hbe7.cell 0;have f7:=hbo7.frozen 0;have g7:=hbe7.frozen 0;have l7:=hbe7.lt;clear c0 hb7 hbo7 hbe7 hbl7
   by_cases hES:E1=S
   ·subst hES
    have hok:fitK out=true∧encK out=E1.data.toList:=by
     have h1:=HED.out;unfold kencF at h1
     by_cases hf:fitK out=true
     ·rw[if_pos hf] at h1;exact ⟨hf,h1.symm⟩
     ·rw[if_neg hf] at h1;exfalso;have h2:=HR0.out;rw[h1] at h2;cases h2
    have hrr:=HRR.out;rw[if_pos hok] at hrr;subst hrr;have HLEN:=Jh HDR.out.len;clear hok;go_wp2_with fail
    refine leaves_cons (f:=44) (args:=#[.pointer (some ⟨q,0,none⟩),.pointer (some ⟨q+1,0,none⟩)]) (by simp) (by simp[go_sem]) ?_;refine (Kma _ _ _).mono ?_;rintro e u' w'' ⟨rfl,rfl,rfl⟩;have s0:w7.setCell ⟨q,0,none⟩ (.slice A ys.length c)=w7:=Kks HBO7.out (i:=0) rfl;have s1:w7.setCell ⟨q+1,0,none⟩ (.int .i64 0)=w7:=Kks HBE7.out (i:=0) rfl;rw[s0,s1];refine ⟨_,kres2 _ HBO7.out HBE7.out (by rfl) (by rfl),?_,by rw[HQ.out];exact HBL7.out⟩;exact ⟨A,c,by rw[←HLEN.out],by rw[←HLEN.out];exact HSE7.out,HOZ.out.1,by rw[←HLEN.out];exact hyl⟩
   ·obtain ⟨hd1,hd2,hd3,hd4⟩:=Kqt hES;have hrr:=HRR.out
    rw[if_neg (fun h=>hES (by
     have h1:=HED.out;unfold kencF at h1;rw[if_pos h.1,h.2] at h1
     exact Qkm h1))] at hrr
    subst hrr;go_wp2_with fail
    refine leaves_cons (f:=44) (args:=#[.pointer (some ⟨q,0,none⟩),.pointer (some ⟨q+1,0,none⟩)]) (by simp) (by simp[go_sem]) ?_;refine (Kma _ _ _).mono ?_;rintro e u' w'' ⟨rfl,rfl,rfl⟩;have k1:=(HBO7.out.set_ 0 (.slice none 0 0)).far (p:=⟨q+1,0,none⟩) (by show q≠q+1;omega) (.int .i64 150);have k2:=(HBE7.out.far (p:=⟨q,0,none⟩) (by show q+1≠q;omega) (.slice none 0 0)).set_ 0 (.int .i64 150);have k3:=(HBL7.out.setCell (p:=⟨q,0,none⟩) (Nat.le_refl q) (.slice none 0 0)).setCell (p:=⟨q+1,0,none⟩) (Nat.le_succ q) (.int .i64 150);refine ⟨_,kres2 _ k1 k2 (by rfl) (by rfl),rfl,by rw[HQ.out];exact k3⟩
  | succ g=>
   have el:decide (0 < g+1)=true:=by rw[decide_eq_true_eq];omega
   have hkr:=HKR.out;rw[Kdp] at hkr;have htk:KTab wk.drew pr p t:=(HTB6.out.kept2 HK.out (by omega)).kept (Kept.of_below (Below.refl _ _).drew);have hbw:Below w.heap.size w wk.drew:=by rw[HQ.out];exact HPNk.out.bl.trans (Below.refl _ _).drew
   have hse:=Kvc HKE.out i wk.drew (HRDk.out.below (Below.refl _ _).drew) hi htk hbw;obtain ⟨Z,hZ⟩:∃Z,kserR t B.data.toList i=Z:=⟨_,rfl⟩;rw[hZ] at hse hkr;have HZ:=Jh hZ;have HKR2:=Jh hkr;have HSE:=Jh hse;have hS:wk.drew.cell? ⟨q,0,none⟩=some sv:=HBO.out.cell 0;have hqk:q < wk.heap.size:=HBO.out.lt;clear htk hbw hse hZ hkr;go_upto_region 10 with fail
   refine Qfs (KPan w q r [{ target:=Target.fn (Fn.func 44) #[.pointer (some ⟨q,0,none⟩),.pointer (some ⟨q+1,0,none⟩)],args:=#[] }]) ?_ ?_
   ·rintro c ⟨tmps,dfs⟩ we ⟨⟨tt,xx,rfl⟩,hpn,hnr,hd,ht2,ht3⟩;dsimp only at hd ht2 ht3;subst hd;refine leaves_cons (f:=44) (args:=#[.pointer (some ⟨q,0,none⟩),.pointer (some ⟨q+1,0,none⟩)]) (by simp) (by simp[go_sem]) ?_;refine (Khl we hpn _ _).mono ?_;rintro e u' w'' ⟨rfl,rfl,k1,k2,k3⟩;exact Kni k1 k2 k3 hnr ht2 ht3 HQ.out
   refine Kcc (fun w'=>w'.cell? ⟨q,0,none⟩=some sv) 5 7 (by kernel_rfl) rfl ?_;rw[show Array.replicate 7 false = #[false,false,false,false,false,false,false] from rfl];refine Kas (i:=0) (d:=some 30) rfl rfl (by kernel_rfl) (by kernel_rfl) (by kernel_rfl) (by kernel_rfl) rfl (by first | exact fun _ _ _ h=>KPan.put (by decide) (by decide) h | exact fun _ _ _ h=>h) (.inl ⟨by rfl,fun w hw=>by (go_simp;try rfl)⟩) hS ?_;simp only[Act.put,Ja,Jb,Jc];refine Kaa (i:=1) (d:=some 31) rfl rfl (by kernel_rfl) (by kernel_rfl) (by kernel_rfl) rfl (by first | exact fun _ _ _ h=>KPan.put (by decide) (by decide) h | exact fun _ _ _ h=>h) (by rfl) (fun w=>by go_simp;try rfl) (fun _=>hS) ?_;simp only[Act.put,Ja,Jb,Jc];refine Kaa (i:=2) (d:=some 32) rfl rfl (by kernel_rfl) (by kernel_rfl) (by kernel_rfl) rfl (by first | exact fun _ _ _ h=>KPan.put (by decide) (by decide) h | exact fun _ _ _ h=>h) (by rfl) (fun w=>by go_simp;try rfl) (fun _=>hS) ?_;simp only[Act.put,Ja,Jb,Jc]
   cases Z with
   | none=>
    have HNONE:Hid (r = .error 150):=Jh (HNO.out HKR2.out.symm);refine Kar (i:=3) (by kernel_rfl) rfl rfl ?_;refine Oper.wp_calledK (d:=some 33) (w1:=wk.drew) (g:=49) (args:=#[.pointer (some ⟨pr,0,none⟩),.pointer (some ⟨p,0,none⟩)]) rfl (by go_simp;try rfl) (N:=fun _ _=>False) (HSE.out.mono ?_) (fun _ _ h=>h.elim);rintro e we ⟨⟨tt,xx,rfl⟩,hke⟩;refine .inr ⟨_,rfl,?_⟩;exact ⟨⟨_,_,rfl⟩,(HPNk.out.below (Below.refl _ _).drew).kept hke (fun k hk=>by rw[List.mem_singleton.1 hk];exact hprq),HNONE.out,rfl,rfl,rfl⟩
   | some x=>
    obtain ⟨s,i2⟩:=x;refine Kar (i:=3) (by kernel_rfl) rfl rfl ?_;refine Oper.wp_calledK (d:=some 33) (w1:=wk.drew) (g:=49) (args:=#[.pointer (some ⟨pr,0,none⟩),.pointer (some ⟨p,0,none⟩)]) rfl (by go_simp;try rfl) (N:=fun u w'=>∃h:KHd,u=kserV h s.max∧KRes w' wk.drew.heap.size h s∧Rdr pr B i2 w'∧Kept wk.drew.heap.size [pr] wk.drew w') (HSE.out.mono ?_) ?_
    ·rintro e we ⟨⟨h,rfl,h1⟩,h2,h3⟩;exact .inl ⟨_,rfl,h,rfl,h1,h2,h3⟩
    rintro u w7 ⟨h,rfl,hres,hrd7,hk7⟩;have hk7':Kept wk.heap.size [pr] wk w7:=(Kept.of_below (Below.refl _ _).drew).trans hk7;have hbo7:=HBO.out.kept hk7' HBO.out.lt (by simp;omega);have hbe7:=HBE.out.kept hk7' HBE.out.lt (by simp;omega);have hS:w7.cell? ⟨q,0,none⟩=some sv:=hbo7.cell 0;have hdr7:=HDR.out.kept hk7' hprQ;refine ⟨fun _=>hS,?_⟩;simp only[Act.put,Ja,Jb,Jc];obtain ⟨g7,hg7⟩:∃x,w7.heap.size=x:=⟨_,rfl⟩;have hb8:Below w7.heap.size w7 (w7.alloc (.cells (encKY ⟨h,s.max⟩).toArray 85)):=(Below.refl _ _).alloc (Nat.le_refl _) _;have hk8:Blk (w7.alloc (.cells (encKY ⟨h,s.max⟩).toArray 85)) g7 85 (encKY ⟨h,s.max⟩).toArray:=by rw[←hg7];exact Blk.new _ _ _
    refine Kar (i:=4) (by kernel_rfl) rfl rfl ?_;refine Oper.wp_ran (d:=some 34) (w':=w7.alloc (.cells (encKY ⟨h,s.max⟩).toArray 85)) (v:=.slice (some ⟨w7.heap.size,0,none⟩) 1 1) rfl (by unfold kserV encKY;go_simp;try rfl) ?_;obtain ⟨w8,hw8⟩:∃x,w7.alloc (.cells (encKY ⟨h,s.max⟩).toArray 85)=x:=⟨_,rfl⟩;rw[hw8] at hb8 hk8;rw[hw8,hg7];have hbo8:=hbo7.below hb8 hbo7.lt;have hbe8:=hbe7.below hb8 hbe7.lt;have hrd8:=hrd7.below hb8;have hS:w8.cell? ⟨q,0,none⟩=some sv:=hbo8.cell 0;have hk78:Kept wk.heap.size [pr] wk w8:=hk7'.trans ((Kept.of_below hb8).mono hk7'.size (fun _ _ h=>h));have hdr8:=HDR.out.kept hk78 hprQ;have hres8:=hres.kept (ex:=[]) (by simp) (Kept.of_below hb8);refine ⟨fun _=>hS,?_⟩;simp only[Act.put,Ja,Jb,Jc];refine Kar (i:=5) (by kernel_rfl) rfl rfl ?_;have hyl:ys.length≤268435456:=by rw[HDR.out.len];have:=HOL.out;omega
    refine OpW.of (wp_append_lies w8 _ _ _ rfl QQ 85 ib (.agg #[.slice none 0 0,.int .i64 0,.slice none 0 0,.slice none 0 0,.slice none 0 0,.slice none 0 0]) 6 128 Tryz.underlying22 hib hz0 hz1 hz2 rfl (by decide) sv ys.length (ys.flatMap encKY) rfl hdr8.own ⟨g7,0,none⟩ 1 1 (encKY ⟨h,s.max⟩) rfl rfl ?c1 ?c2 (by decide) (by unfold maxLen;omega) (by omega) ?c5 w8.heap.size rfl ?c6)
    case c1=>exact Kbp (l:=encKY ⟨h,s.max⟩) hk8
    case c2=>
     intro u hu;simp only[encKY,List.mem_cons,List.not_mem_nil,or_false] at hu;rcases hu with rfl | rfl | rfl | rfl | rfl | rfl <;> rfl
    case c5=>have:=hk78.size;have:=HK.out.size;have:=HQQ.out;omega
    intro g9 cap w9 hown hgr hat hlt;have hsvlt:∀b,sv.ownBlock=some b→QQ≤b∧b < wk.heap.size:=fun b hb=>World.ownsRow.lt HDR.out.own b hb
    have hQ8:QQ≤w8.heap.size:=by have:=hk78.size;have:=HK.out.size;have:=HQQ.out;omega
    have hbo9:Blk w9 q 22 #[sv]:=(hgr.block q hbo8.lt (fun e=>by have:=(hsvlt q e.symm).1;omega)).trans hbo8;have hbe9:Blk w9 (q+1) 23 #[.int .i64 0]:=(hgr.block (q+1) hbe8.lt (fun e=>by have:=(hsvlt (q+1) e.symm).1;omega)).trans hbe8;have hrd9:Rdr pr B i2 w9:=(hgr.block pr (by omega) (fun e=>by have:=(hsvlt pr e.symm).1;omega)).trans hrd8;have hdr9:=hdr8.add hres8.at_ hres8.five (B:=wk.heap.size) (by have:=HK.out.size;have:=HQQ.out;omega) (fun b hb=>(hsvlt b hb).2) hown hgr hat
    have hk9:Kept w6.heap.size [q,pr] w6 w9:=by
     have h1:Kept w6.heap.size [q,pr] w6 w8:=HK.out.trans (hk78.mono HK.out.size (fun k _ h=>by simp at h ⊢;exact .inr h));exact h1.trans ⟨hgr.os,hgr.tape,hgr.output,hgr.size,fun k hlt _=>hgr.block k (by have:=h1.size;omega) (fun e=>by have:=(hsvlt k e.symm).1;have:=HQQ.out;omega)⟩
    refine ⟨fun h=>absurd h (by decide),?_⟩;simp only[Act.put,Ja,Jb,Jc];refine Kar (i:=6) (by kernel_rfl) rfl rfl ?_;have c9:w9.cell? ⟨q,0,none⟩=some sv:=hbo9.cell 0;have f9:=hbo9.frozen 0;have l9:=hbo9.lt;refine Oper.wp_skipped (w':=w9.setCell ⟨q,0,none⟩ (.slice (some ⟨g9,0,none⟩) (ys.length+1) cap)) rfl (by go_simp;try rfl) ?_;refine ⟨fun h=>absurd h (by decide),?_⟩;refine Kay (by kernel_rfl) ?_ _;have HDR9:=Jh (hdr9.kept (pr:=q) ((Kept.refl _ _ _).setCell (p:=⟨q,0,none⟩) (.inl (by simp)) (.slice (some ⟨g9,0,none⟩) (ys.length+1) cap)) (by omega));have HBO9:=Jh (hbo9.set_ 0 (.slice (some ⟨g9,0,none⟩) (ys.length+1) cap));have HBE9:=Jh (hbe9.far (p:=⟨q,0,none⟩) (by show q+1≠q;omega) (.slice (some ⟨g9,0,none⟩) (ys.length+1) cap));have HRD9:Hid (Rdr pr B i2 (w9.setCell ⟨q,0,none⟩ (.slice (some ⟨g9,0,none⟩) (ys.length+1) cap))):=Jh ((show Blk w9 _ _ _ from hrd9).far (p:=⟨q,0,none⟩) (by show pr≠q;omega) _);have HK9:=Jh (hk9.setCell (p:=⟨q,0,none⟩) (.inl (by simp)) (.slice (some ⟨g9,0,none⟩) (ys.length+1) cap));have hsz9:=Kvb HZ.out (by rw[HSL.out];exact hi) (by rw[HSL.out];omega);rw[HSL.out] at hsz9;have HKR3:Hid (Kdp t B.data.toList g (out ++ [s]) i2=G):=Jh HKR2.out;have hw64:IntKind.u64.wrap (((g+1:Nat):Int) - 1)=(g:Int):=by rw[IntKind.wrap_u64];omega
    have hw65:IntKind.u64.wrap ((g:Int)+1 - 1)=(g:Int):=by rw[IntKind.wrap_u64];omega
    dsimp only[Qdf];clear hS hk7 hk7' hbo7 hbe7 hdr7 hb8 hk8 hbo8 hbe8 hrd8 hk78 hdr8 hres8 hown hgr hat hlt hsvlt hQ8 hbo9 hbe9 hrd9 hdr9 hk9 c9 f9 l9 hrd7 hres hg7 hw8;go_wp2_with fail
    go_roundg g
    case measure=>omega
    case rel=>exact ⟨i2,out ++ [s],_,_,by first | rfl | go_num,by omega,HKR3.out,hsz9.2.2,by rw[List.length_append,List.length_singleton];have:=HOL.out;omega,HRD9.out,HBO9.out,HBE9.out,HDR9.out,HK9.out⟩
end
section
open Go.RowKit
attribute [local go_sem ↓] Go.wp_at_zero Go.wp_at_succ
attribute [local go_sem] Later.cell
theorem Elems.get {α : Type} [Inhabited α] {w:World} {B sz n:Nat} {enc:α→List Value} {A:Option Addr} {xs:List α} (h:Elems w B sz enc A n xs) {i:Nat} (hi:i < n):∃b off,A=some ⟨b,off,none⟩∧b < B∧∀j v,(enc xs[i]!)[j]? = some v→w.cell? ⟨b,off+i*sz+j,none⟩=some v:=by
 obtain ⟨b,off,e,hb,hc⟩:=h.2 (by omega);have hl:i < xs.length:=by have:=h.len;omega
 refine ⟨b,off,e,hb,fun j v hv=>hc i xs[i]! (by rw[getElem!_pos xs i hl];exact List.getElem?_eq_getElem hl) j v hv⟩
end
section
open Go.RowKit Go.Shelf Go.Sort
attribute [local go_sem ↓] Go.wp_at_zero Go.wp_at_succ
attribute [local go_sem] Later.cell
theorem KSers.at_ {w:World} {A:Option Addr} {n i:Nat} {L:List KSer} (h:KSers w A n L) (hi:i < n):∃(b off:Nat) (hd:KHd),A=some ⟨b,off,none⟩∧b < w.heap.size∧
  w.cell? ⟨b,off+i*6,none⟩=some (.slice hd.l.A hd.l.n hd.l.c)∧w.cell? ⟨b,off+i*6+1,none⟩=some (.int .i64 L[i]!.max)∧w.cell? ⟨b,off+i*6+2,none⟩=some (.slice hd.g0.A hd.g0.n hd.g0.c)∧w.cell? ⟨b,off+i*6+3,none⟩=some (.slice hd.g1.A hd.g1.n hd.g1.c)∧w.cell? ⟨b,off+i*6+4,none⟩=some (.slice hd.g2.A hd.g2.n hd.g2.c)∧w.cell? ⟨b,off+i*6+5,none⟩=some (.slice hd.s.A hd.s.n hd.s.c)∧KAt w hd L[i]!:=by
 obtain ⟨ys,h1,h2,h3⟩:=h;obtain ⟨b,off,e,hb,hc⟩:=h1.getS hi;obtain ⟨e1,e2⟩:=h3 i hi;refine ⟨b,off,ys[i]!.h,e,hb,hc 0 _ rfl,?_,hc 2 _ rfl,hc 3 _ rfl,hc 4 _ rfl,hc 5 _ rfl,e2⟩;rw[←e1];exact hc 1 _ rfl
instance kserEq:DecidableEq KSer:=fun a b=>by
 cases a
 cases b
 simp only[KSer.mk.injEq]
 infer_instance
end
section
structure Inf where
 id:Int
 res:Int
 frm:Int
 to_:Int
 bytes:Int
deriving DecidableEq
instance:Inhabited Inf:=⟨⟨0,0,0,0,0⟩⟩
def i64 (v:Int):Prop:=-9223372036854775808≤v∧v≤9223372036854775807
instance (v:Int):Decidable (i64 v):=by unfold i64;infer_instance
def nameC (b:UInt8):Bool:=(decide (97≤b.toNat) && decide (b.toNat≤122)) || (decide (48≤b.toNat) && decide (b.toNat≤57)) || b.toNat == 46 || b.toNat == 45
def nameB (s:Txt):Bool:=s.all nameC && decide (1≤s.length) && decide (s.length≤32)
def Kag:Txt→Option Nat
 | []=>none
 | b :: l=>if b=47 then some 0 else (Kag l).map (· + 1)
def pathB (s:Txt):Bool:=match Kag s with | none=>nameB s | some k=>nameB (s.take k) && nameB (s.drop (k+1))
def Kbh (p d:Txt):Bool:=(d ++ [47]).isPrefixOf p
structure Th where
 path:Txt
 dir:Bool
 at_:Nat
instance:Inhabited Th:=⟨⟨[],false,0⟩⟩
structure Ch where
 text:Txt
 cut:Bool
 size:Nat
instance:Inhabited Ch:=⟨⟨[],false,0⟩⟩
structure By where
 now:Txt
 safe:Txt
 steps:List Ch
instance:Inhabited By:=⟨⟨[],[],[]⟩⟩
inductive St where
 | mkdir (a:Txt)
 | create (a:Txt) (i:Nat)
 | rename (a b:Txt)
 | remove (a:Txt)
structure Ds where
 things:List Th
 safe:List Th
 steps:List St
 files:List By
 cap:Nat
 off:Bool
 await:Nat
def findT (l:List Th) (p:Txt):Option Th:=l.find? fun x=>x.path == p
def isT (l:List Th) (p:Txt):Nat:=match findT l p with | none=>0 | some x=>if x.dir then 2 else 1
def Kct (l:List Th) (p:Txt):Bool:=match Kag p with | none=>true | some k=>isT l (p.take k) == 2
def Kaj (l:List Th):St→List Th
 | .mkdir a=>l ++ [⟨a,true,0⟩]
 | .create a i=>l ++ [⟨a,false,i⟩]
 | .remove a=>l.filter fun x=>!(x.path == a || Kbh x.path a)
 | .rename a b=>(l.filter fun x=>!(x.path == b)).map fun x=>if x.path == a then { x with path:=b } else if Kbh x.path a then { x with path:=b++x.path.drop a.length } else x
def stepD (d:Ds):Nat×Ds:=if d.await=0 then (0,d) else if d.await=1 then (1,{ d with await:=0,off:=true }) else (0,{ d with await:=d.await - 1 })
def Kav (d:Ds) (s:St):Nat×Ds:=
 if (stepD d).1≠0 then stepD d else (0,{ (stepD d).2 with things:=Kaj d.things s,steps:=d.steps ++ [s] })
def Qdz (d:Ds) (s:Txt):Nat×Ds:=if d.off then (1,d) else if nameB s=false then (2,d) else if isT d.things s≠0 then (5,d) else Kav d (.mkdir s)
def Kbe (d:Ds) (s:Txt):Nat×Ds:=
 if d.off then (1,d) else if pathB s=false then (2,d) else if Kct d.things s=false then (4,d) else if isT d.things s≠0 then (5,d) else
 if (stepD d).1≠0 then stepD d else (0,{ (Kav d (.create s d.files.length)).2 with files:=d.files ++ [⟨[],[],[]⟩] })
def fileT (l:List Th) (s:Txt):Except Nat Nat:=match findT l s with | none=>.error 4 | some x=>if x.dir then .error 3 else .ok x.at_
def fileD (d:Ds) (s:Txt):Except Nat Nat:=if d.off then .error 1 else if pathB s=false then .error 2 else fileT d.things s
def nowAt (d:Ds) (i:Nat):Txt:=(d.files[i]?.getD default).now
def usedL (d:Ds) (l:List Th):Nat:=(l.map fun x=>if x.dir then 0 else (nowAt d x.at_).length).sum
def usedD (d:Ds):Nat:=if d.off then 0 else usedL d d.things
def setF (d:Ds) (i:Nat) (f:By):Ds:={ d with files:=d.files.set i f }
def fAt (d:Ds) (i:Nat):By:=d.files[i]?.getD default
def Kbk (d:Ds) (s text:Txt):Nat×Ds:=
 match fileD d s with
 | .error e=>(e,d)
 | .ok i=>if d.cap < usedD d+text.length then (7,d) else if (stepD d).1≠0 then stepD d else
  (0,setF (stepD d).2 i { fAt d i with now:=(fAt d i).now++text,steps:=(fAt d i).steps ++ [⟨text,false,0⟩] })
def syncD (d:Ds) (s:Txt):Nat×Ds:=
 match fileD d s with
 | .error e=>(e,d)
 | .ok i=>if (stepD d).1≠0 then stepD d else (0,setF (stepD d).2 i ⟨(fAt d i).now,(fAt d i).now,[]⟩)
def Kax (d:Ds):Nat×Ds:=if d.off then (1,d) else if (stepD d).1≠0 then stepD d else (0,{ (stepD d).2 with safe:=d.things,steps:=[] })
def Kak (d:Ds) (a b:Txt):Nat×Ds:=
 if d.off then (1,d) else if pathB a=false∨pathB b=false then (2,d) else if isT d.things a=2∧nameB b=false then (2,d) else
 if isT d.things a=0∨Kct d.things b=false then (4,d) else
 if isT d.things b=2∨(isT d.things b=1∧(isT d.things a=2∨a=b)) then (5,d) else Kav d (.rename a b)
def Kaq (d:Ds) (s:Txt):Nat×Ds:=if d.off then (1,d) else if pathB s=false then (2,d) else if isT d.things s=0 then (4,d) else Kav d (.remove s)
def allD (d:Ds) (s:Txt):Txt×Nat:=match fileD d s with | .error e=>([],e) | .ok i=>((fAt d i).now,0)
structure En where
 name:Txt
 dir:Bool
 size:Nat
instance:Inhabited En:=⟨⟨[],false,0⟩⟩
def insE (x:En):List En→List En
 | []=>[x]
 | y :: l=>if x.name < y.name then x :: y :: l else y :: insE x l
def sortE (l:List En):List En:=l.foldl (fun acc x=>insE x acc) []
def entD (d:Ds) (dir:Txt):List En:=
 d.things.filterMap fun x=>
  if dir = [] then (if (Kag x.path).isSome then none else some ⟨x.path,x.dir,if x.dir then 0 else (nowAt d x.at_).length⟩)
  else if Kbh x.path dir then some ⟨x.path.drop (dir.length+1),x.dir,if x.dir then 0 else (nowAt d x.at_).length⟩ else none
def listD (d:Ds) (dir:Txt):List En×Nat:=
 if d.off then ([],1) else if dir≠[]∧nameB dir=false then ([],2) else if dir≠[]∧isT d.things dir=1 then ([],3) else if dir≠[]∧isT d.things dir=0 then ([],4) else (sortE (entD d dir),0)
def units (l:List Ch):Nat:=(l.map fun c=>c.text.length+if c.cut then 1 else 0).sum
def newD (cap:Int):Ds:=⟨[],[],[],[],(min cap 67108864).toNat,false,0⟩
def Kcb:Txt:=[46,110,101,119]
def seqD:List (Ds→Nat×Ds)→Nat×Ds→Nat×Ds
 | [],r=>r
 | f :: l,r=>if r.1=0 then seqD l (f r.2) else r
def putL (fresh:Txt):List (Ds→Nat×Ds)→Nat×Ds→Nat×Ds
 | [],r=>r
 | f :: l,r=>if r.1=0 then putL fresh l (f r.2) else (r.1,(Kaq r.2 fresh).2)
def goneD (d:Ds) (s:Txt):Nat×Ds:=(if (Kaq d s).1=4 then 0 else (Kaq d s).1,(Kaq d s).2)
def putD (d:Ds) (path text:Txt):Nat×Ds:=
 putL (path++Kcb) [(Kbe · (path++Kcb)),(Kbk · (path++Kcb) text),(syncD · (path++Kcb)),(Kak · (path++Kcb) path),Kax] (goneD d (path++Kcb))
theorem Kxy {b:UInt8} (h:nameC b=true):b≠47:=by
 rintro rfl;exact absurd h (by decide)
theorem Kmm:∀{s:Txt},s.all nameC=true→Kag s=none
 | [],_=>rfl
 | b :: s,h=>by
  rw[List.all_cons,Bool.and_eq_true] at h;rw[Kag,if_neg (Kxy h.1),Kmm h.2];rfl
theorem Kfo {s:Txt} (h:nameB s=true):Kag s=none:=by
 unfold nameB at h;simp only[Bool.and_eq_true] at h;exact Kmm h.1.1
section
variable {t b m m2 : Txt}
end
def offD (d:Ds):Ds:={ d with await:=0,off:=true }
def tickD (d:Ds):Ds:={ d with await:=d.await - 1 }
section
variable {d : Ds} {s s2 : Txt} {i : Nat}
theorem Khs (d:Ds):stepD d=if d.await=1 then (1,offD d) else (0,tickD d):=by
 unfold stepD offD tickD
 by_cases h0:d.await=0
 ·rw[if_pos h0,if_neg (by omega),h0];simp only[Nat.zero_sub];rw[←h0]
 ·rw[if_neg h0]
theorem Kib (st:St):Kav d st=if d.await=1 then (1,offD d) else (0,{ tickD d with things:=Kaj d.things st,steps:=d.steps ++ [st] }):=by
 unfold Kav;rw[Khs]
 by_cases h:d.await=1
 ·simp[h]
 ·simp[h]
theorem Kqu (ho:d.off=false) (hp:pathB s=true) (hpar:Kct d.things s=true) (hi:isT d.things s=0) :
  Kbe d s=if d.await=1 then (1,offD d) else (0,{ tickD d with things:=d.things ++ [⟨s,false,d.files.length⟩],steps:=d.steps ++ [.create s d.files.length],files:=d.files ++ [⟨[],[],[]⟩] }):=by
 unfold Kbe;rw[if_neg (by rw[ho];simp),if_neg (by rw[hp];simp),if_neg (by rw[hpar];simp),if_neg (by rw[hi];simp),Kib,Khs]
 by_cases h:d.await=1
 ·simp[h]
 ·simp[h,Kaj]
theorem Klm (ho:d.off=false) (hp:pathB s=true) (hf:findT d.things s=some ⟨s,false,i⟩):fileD d s = .ok i:=by
 unfold fileD fileT;rw[if_neg (by rw[ho];simp),if_neg (by rw[hp];simp),hf];simp
theorem Kqq (hf:fileD d s = .ok i) (x:Txt) (hc:usedD d+x.length≤d.cap) :
  Kbk d s x=if d.await=1 then (1,offD d) else (0,setF (tickD d) i { fAt d i with now:=(fAt d i).now++x,steps:=(fAt d i).steps ++ [⟨x,false,0⟩] }):=by
 unfold Kbk;rw[hf];simp only;rw[if_neg (by omega),Khs]
 by_cases h:d.await=1
 ·simp[h]
 ·simp[h]
theorem Kzv (hf:fileD d s = .ok i):syncD d s=if d.await=1 then (1,offD d) else (0,setF (tickD d) i ⟨(fAt d i).now,(fAt d i).now,[]⟩):=by
 unfold syncD;rw[hf];simp only;rw[Khs]
 by_cases h:d.await=1
 ·simp[h]
 ·simp[h]
theorem Kli (ho:d.off=false):Kax d=if d.await=1 then (1,offD d) else (0,{ tickD d with safe:=d.things,steps:=[] }):=by
 unfold Kax;rw[if_neg (by rw[ho];simp),Khs]
 by_cases h:d.await=1
 ·simp[h]
 ·simp[h]
theorem Kmi (ho:d.off=false) (h1:nameB s=true) (hi:isT d.things s=0):Kaq d s=(4,d):=by
 have p1:pathB s=true:=by unfold pathB;rw[Kfo h1];exact h1
 unfold Kaq;rw[if_neg (by rw[ho];simp),if_neg (by rw[p1];simp),if_pos hi]
end
def byOk (x:Txt):By:=⟨x,x,[]⟩
def byApp (x:Txt):By:=⟨x,[],[⟨x,false,0⟩]⟩
section
variable {d : Ds} {t b m : Txt}
end
section
variable {d : Ds} {t b : Txt}
end
section
variable {d : Ds} {t b : Txt}
end
section
variable {d : Ds} {t b : Txt}
end
section
variable {d : Ds} {t b : Txt}
end
section
variable {t b m : Txt} {L : List Th} {q k : Nat}
end
section
variable {y : Ds} {t b : Txt} {q : Nat}
theorem Ktn {i:Nat} (h:fileD y t = .ok i):allD y t=((fAt y i).now,0):=by
 unfold allD;rw[h]
end
section
variable {d d0 : Ds} {t b : Txt}
end
section
variable {t b : Txt}
end
section
variable {t b : Txt}
def roomD (cap:Nat):Ds:=⟨[],[],[],[],cap,false,0⟩
end
def putX (cap:Nat) (P s:Txt):Ds:=⟨[⟨P,false,0⟩],[⟨P,false,0⟩],[],[byOk s],cap,false,0⟩
theorem Kcn {s:Txt} (h:nameB s=true):pathB s=true:=by unfold pathB;rw[Kfo h];exact h
theorem Kga {s:Txt} (h:nameB s=true) (l:List Th):Kct l s=true:=by unfold Kct;rw[Kfo h]
theorem Kye {d:Ds} {s s2:Txt} (ho:d.off=false) (h1:nameB s=true) (h2:nameB s2=true) (hi:isT d.things s=1) (hi2:isT d.things s2=0):Kak d s s2=Kav d (.rename s s2):=by
 unfold Kak;rw[if_neg (by rw[ho];simp),if_neg (by rw[Kcn h1,Kcn h2];simp),if_neg (by rw[h2];simp),if_neg (by rw[hi,Kga h2];simp),if_neg (by rw[hi,hi2];simp)]
theorem Kdq {F:Txt} {f:Ds→Nat×Ds} {l:List (Ds→Nat×Ds)} {d d2:Ds} (h:f d=(0,d2)):putL F (f :: l) (0,d)=putL F l (0,d2):=by
 rw[putL,if_pos rfl];simp only;rw[h]
theorem Kzo (cap:Nat) (P s:Txt) (hP:nameB P=true) (hF:nameB (P++Kcb)=true) (hs:s.length≤cap):putD (roomD cap) P s=(0,putX cap P s):=by
 have hne:(P++Kcb == P)=false:=by rw[beq_eq_false_iff_ne];intro e;have:=congrArg List.length e;simp[Kcb] at this
 have hne2:(P == P++Kcb)=false:=by rw[beq_eq_false_iff_ne];intro e;have:=congrArg List.length e;simp[Kcb] at this
 obtain ⟨F,hFe⟩:∃F,P++Kcb=F:=⟨_,rfl⟩;unfold putD;rw[hFe] at hF hne hne2 ⊢
 have g:goneD (roomD cap) F=(0,roomD cap):=by
  unfold goneD;rw[Kmi (d:=roomD cap) rfl hF rfl];rfl
 rw[g]
 let d1:Ds:=⟨[⟨F,false,0⟩],[],[.create F 0],[⟨[],[],[]⟩],cap,false,0⟩
 have e1:Kbe (roomD cap) F=(0,d1):=by
  rw[Kqu (d:=roomD cap) rfl (Kcn hF) (Kga hF _) rfl];exact (if_neg (fun h:(0:Nat)=1=>by cases h)).trans rfl
 have f1:∀(fs:List By) (st:List St),fileD ⟨[⟨F,false,0⟩],[],st,fs,cap,false,0⟩ F = .ok 0:=fun fs st=>Klm (d:=⟨[⟨F,false,0⟩],[],st,fs,cap,false,0⟩) rfl (Kcn hF) (by simp[findT])
 let d2:Ds:=⟨[⟨F,false,0⟩],[],[.create F 0],[byApp s],cap,false,0⟩
 have e2:Kbk d1 F s=(0,d2):=by
  rw[Kqq (d:=d1) (f1 _ _) s (by show 0+s.length≤cap;omega)];exact (if_neg (fun h:(0:Nat)=1=>by cases h)).trans rfl
 let d3:Ds:=⟨[⟨F,false,0⟩],[],[.create F 0],[byOk s],cap,false,0⟩
 have e3:syncD d2 F=(0,d3):=by
  rw[Kzv (d:=d2) (f1 _ _)];exact (if_neg (fun h:(0:Nat)=1=>by cases h)).trans rfl
 let d4:Ds:=⟨[⟨P,false,0⟩],[],[.create F 0,.rename F P],[byOk s],cap,false,0⟩
 have e4:Kak d3 F P=(0,d4):=by
  rw[Kye (d:=d3) rfl hF hP (by show isT [⟨F,false,0⟩] F=1;simp[isT,findT]) (by show isT [⟨F,false,0⟩] P=0;simp[isT,findT,hne]),Kib];refine (if_neg (fun h:(0:Nat)=1=>by cases h)).trans ?_;show (0,(⟨Kaj [⟨F,false,0⟩] (.rename F P),[],_,_,_,_,_⟩:Ds))=(0,d4)
  have:Kaj [⟨F,false,0⟩] (.rename F P) = [⟨P,false,0⟩]:=by simp[Kaj,hne]
  rw[this];rfl
 have e5:Kax d4=(0,putX cap P s):=by
  rw[Kli (d:=d4) rfl];exact (if_neg (fun h:(0:Nat)=1=>by cases h)).trans rfl
 rw[Kdq e1,Kdq e2,Kdq e3,Kdq e4,Kdq e5,putL]
theorem Qhn (cap:Nat) (P s:Txt) (hP:nameB P=true):allD (putX cap P s) P=(s,0):=by
 rw[Ktn (y:=putX cap P s) (Klm rfl (Kcn hP) (show findT [⟨P,false,0⟩] P=some ⟨P,false,0⟩ by simp[findT]))];rfl
def t2:Txt:=[116,48,48,48,48,48,48,48,50]
def b2:Txt:=[98,48,48,48,48,48,48,48,50]
structure Trn where
 at_:Int
 out:Int
 t:Txt
end
section
open Go.RowKit Go.Maps Go.Sort
def HR (v:Value):Option (DataW Value×List MemPlace):=some (.held v,[])
def SMap (P:Program) (K:TypeId) (w:World) (b:Nat) (f:Txt→Option Value):Prop:=
 ∃D:DataW Value,w.ownsMap P K HR b (Maps.size D) D∧(∀x,Maps.has D (.string x)=(f x).isSome)∧∀x v,f x=some v→∀z,D.atKey (.string x) z = .held v
def upd (f:Txt→Option Value) (x:Txt) (v:Option Value):Txt→Option Value:=fun y=>if y=x then v else f y
theorem Kgf {α : Type} [DecidableEq α]:∀(l L:List α),l.Nodup→(∀x∈l,x∈L)→l.length≤L.length
 | [],_,_,_=>by simp
 | a :: l,L,hn,h=>by
  have ha:=List.nodup_cons.1 hn;have:=Kgf l (L.erase a) ha.2 (fun x hx=>(List.mem_erase_of_ne (fun e:x=a=>ha.1 (by rw[←e];exact hx))).2 (h x (by simp[hx])));rw[List.length_erase_of_mem (h a (by simp))] at this;have h0:0 < L.length:=List.length_pos_of_mem (h a (by simp));simp only[List.length_cons];omega
section
variable {P : Program} {K T E : TypeId} {w w' : World} {b : Nat} {f : Txt → Option Value}
theorem Kon {n:Nat} {D:DataW Value} (h:w.ownsMap P K HR b n D):w.ownsMap P K HR b (Maps.size D) D:=by
 obtain ⟨es,clock,hb,F,hs,rfl⟩:=h;exact ⟨es,clock,hb,F,by simp[Maps.size,length_sorted],rfl⟩
theorem SMap.lt (h:SMap P K w b f):b < w.heap.size:=by obtain ⟨D,h,_⟩:=h;exact h.lt
theorem SMap.grown {row:Option Nat} (h:SMap P K w b f) (hg:w.grownBy w' row) (hne:some b≠row):SMap P K w' b f:=by
 obtain ⟨D,h1,h2⟩:=h;exact ⟨D,h1.kept hg hne,h2⟩
theorem SMap.same (h:SMap P K w b f) (hb:w'.heap[b]? = w.heap[b]?):SMap P K w' b f:=by
 obtain ⟨D,⟨es,clock,h1,r⟩,h2⟩:=h;exact ⟨D,⟨es,clock,hb.trans h1,r⟩,h2⟩
theorem SMap.below {B:Nat} (h:SMap P K w b f) (hb:Below B w w') (hB:b < B):SMap P K w' b f:=h.same (hb.block b hB)
theorem SMap.made (w:World):SMap P K (w.alloc (.map #[] 0)) w.heap.size fun _=>none:=
 ⟨.map [],World.ownsMap_made w P K HR,fun x=>rfl,fun x v h=>by cases h⟩
theorem SMap.keyed (hK:P.underlying K=some .string):Keyed P K:=string_keyed hK
theorem SMap.size_le (hK:P.underlying K=some .string) {D:DataW Value} {n:Nat} (h:w.ownsMap P K HR b n D) (L:List Txt) (hL:∀x,Maps.has D (.string x)=true→x∈L):Maps.size D≤L.length:=by
 obtain ⟨es,rfl,hpw⟩:=h.tidy (SMap.keyed hK);obtain ⟨es',e',hko⟩:=h.keysOf;injection e' with e';subst e'
 have hstr:∀p∈es,∃x,p.1 = .string x:=fun p hp=>by
  obtain ⟨v,hv⟩:=hko p hp;obtain ⟨x,_,hx,_⟩:=Maps.keyOf_str hK hv;exact ⟨x,hx⟩
 rw[size_eq]
 have hnd:(es.map fun p=>strOf p.1).Nodup:=by
  refine List.pairwise_map.2 (hpw.imp_of_mem fun {p q} hp' hq' hne e=>hne ?_);obtain ⟨a,ha⟩:=hstr p hp';obtain ⟨b,hb⟩:=hstr q hq';rw[ha,hb] at e ⊢;exact congrArg _ e
 have hsub:∀x∈es.map (fun p=>strOf p.1),x∈L:=by
  intro x hx;obtain ⟨p,hp,rfl⟩:=List.mem_map.1 hx;obtain ⟨a,ha⟩:=hstr p hp;apply hL;rw[has_eq,List.any_eq_true];exact ⟨p,hp,by rw[ha];simp[strOf,Lit.sameKey]⟩
 have:=Kgf _ L hnd hsub;simpa using this
theorem SMap.look (h:SMap P K w b f) (hK:P.underlying K=some .string) (ht:P.underlying T=some (.map K E)) {z:Value} (hz:(zeroValue E).run P w = .ok z w) {s:ByteArray} (hs:s.size≤maxLen) :
  (Instr.lookup T (.map (some b)) (.string s) false).run P w = .ok ((f s.data.toList).getD z) w:=by
 obtain ⟨D,h1,h2,h3⟩:=h;obtain ⟨v,ps,hrun,hv⟩:=h1.lookup (SMap.keyed hK) ht hz (zd:=.held z) (zp:=[]) rfl (WideMaps.keyOf_string_mk hK hs);rw[hrun];congr 1
 have e:DataW.held v=D.atKey (.string s.data.toList) (.held z):=by
  have:some (DataW.held v,([]:List MemPlace))=some (D.atKey (.string s.data.toList) (.held z),ps):=hv;injection this with this;injection this
 cases hf:f s.data.toList with
 | none=>
  have hh:=h2 s.data.toList;rw[hf] at hh;rw[atKey_of_not_has hh] at e;injection e
 | some u=>
  rw[h3 _ u hf] at e;injection e
theorem SMap.put (h:SMap P K w b f) (hK:P.underlying K=some .string) (ht:P.underlying T=some (.map K E)) {s:ByteArray} (hs:s.size≤maxLen) (v:Value) (L:List Txt) (hL:∀x,(f x).isSome=true→x∈L) (hn:L.length < maxLen) :
  ∃w1,(Instr.mapUpdate T (.map (some b)) (.string s) v).run P w = .ok () w1∧SMap P K w1 b (upd f s.data.toList (some v))∧w.grownBy w1 (some b)∧w1.heap.size=w.heap.size:=by
 obtain ⟨D,h1,h2,h3⟩:=h;have hsz:=SMap.size_le hK h1 L (fun x hx=>hL x (by rw[←h2];exact hx));obtain ⟨w1,hrun,hown,hturn⟩:=h1.store (SMap.keyed hK) ht (by omega) (kl:=.string s.data.toList) (WideMaps.keyOf_string_mk hK hs) (val:=v) (d:=.held v) (ps:=[]) rfl;refine ⟨w1,hrun,⟨_,Kon hown,fun x=>?_,fun x u hu z=>?_⟩,hturn.grown,?_⟩
 ·unfold upd
  by_cases e:x=s.data.toList
  ·subst e;rw[has_put_same (k:=.string _) h1.isMap trivial,if_pos rfl];rfl
  ·rw[has_put_other (by intro h;injection h with h;exact e h),if_neg e,h2]
 ·unfold upd at hu
  by_cases e:x=s.data.toList
  ·subst e;rw[if_pos rfl] at hu;injection hu with hu;rw[atKey_put_same (k:=.string _) h1.isMap trivial,hu]
  ·rw[if_neg e] at hu;rw[atKey_put_other (by intro h;injection h with h;exact e h)];exact h3 x u hu z
 ·obtain ⟨es,clock,es',clock',_,rfl⟩:=hturn;simp[ChangeMaps.setBlock]
theorem SMap.del (h:SMap P K w b f) (hK:P.underlying K=some .string) (ht:P.underlying T=some (.map K E)) {s:ByteArray} (hs:s.size≤maxLen) (ty:TypeId) :
  ∃w1,(Builtin.delete_ #[T,K] ty #[.map (some b),.string s]).run P w = .ok (.tuple #[]) w1∧SMap P K w1 b (upd f s.data.toList none)∧w.grownBy w1 (some b)∧w1.heap.size=w.heap.size:=by
 obtain ⟨D,h1,h2,h3⟩:=h;obtain ⟨w1,hrun,hown,hturn⟩:=h1.drop (SMap.keyed hK) ht (kl:=.string s.data.toList) (WideMaps.keyOf_string_mk hK hs) ty;refine ⟨w1,hrun,⟨_,Kon hown,fun x=>?_,fun x u hu z=>?_⟩,hturn.grown,?_⟩
 ·unfold upd
  by_cases e:x=s.data.toList
  ·subst e;rw[has_del_same,if_pos rfl];rfl
  ·rw[has_del_other (by intro h;injection h with h;exact e h),if_neg e,h2]
 ·unfold upd at hu
  by_cases e:x=s.data.toList
  ·subst e;rw[if_pos rfl] at hu;cases hu
  ·rw[if_neg e] at hu;rw[atKey_del_other (by intro h;injection h with h;exact e h)];exact h3 x u hu z
 ·obtain ⟨es,clock,es',clock',_,rfl⟩:=hturn;simp[ChangeMaps.setBlock]
end
section
variable {P : Program} {K T E : TypeId} (w : World) {ops : Array Oper} {rest : List Oper} {o : Oper} {a : Act} {Q : Exit → Act → World → Prop} {b : Nat} {f : Txt → Option Value}
theorem Kgb (hg:o.guard=none) (m x:Operand) (hop:o.op=Op.lookup T m x false) (hK:P.underlying K=some .string) (ht:P.underlying T=some (.map K E)) {z:Value} (hz:(zeroValue E).run P w = .ok z w)
  (hm:a.eval m = .map (some b)) (h:SMap P K w b f) {s:ByteArray} (hx:a.eval x = .string s) (hs:s.size≤maxLen) (r:Value) (hr:(f s.data.toList).getD z=r)
  (hQ:wpList P ops Q rest (a.put o.dst r) w):wpList P ops Q (o :: rest) a w:=by
 refine wpList_plain hg fun K' hK'=>?_
 have:=h.look hK ht hz hs;rw[hr] at this;unfold Oper.wp;simp[execOp,hop,hm,hx,this,Result.andThen];exact hK' _ _ hQ
theorem Khc (hg:o.guard=none) (m x v:Operand) (hop:o.op=Op.mapUpdate T m x v) (hK:P.underlying K=some .string) (ht:P.underlying T=some (.map K E))
  (hm:a.eval m = .map (some b)) (h:SMap P K w b f) {s:ByteArray} (hx:a.eval x = .string s) (hs:s.size≤maxLen) (u:Value) (hv:a.eval v=u) (L:List Txt) (hL:∀x,(f x).isSome=true→x∈L) (hn:L.length < maxLen)
  (hQ:∀w1,SMap P K w1 b (upd f s.data.toList (some u))→w.grownBy w1 (some b)→w1.heap.size=w.heap.size→wpList P ops Q rest (a.put o.dst undef) w1):wpList P ops Q (o :: rest) a w:=by
 refine wpList_plain hg fun K' hK'=>?_
 obtain ⟨w1,hrun,h1,h2,h3⟩:=h.put hK ht hs u L hL hn;unfold Oper.wp;simp[execOp,hop,hm,hx,hv,hrun,Result.andThen];exact hK' _ _ (hQ w1 h1 h2 h3)
theorem Kew (hg:o.guard=none) (m x:Operand) (hop:o.op=Op.call { callee:=Callee.builtin Builtin.delete,args:=#[m,x],argTypes:=#[T,K] }) (hK:P.underlying K=some .string) (ht:P.underlying T=some (.map K E))
  (hm:a.eval m = .map (some b)) (h:SMap P K w b f) {s:ByteArray} (hx:a.eval x = .string s) (hs:s.size≤maxLen)
  (hQ:∀w1,SMap P K w1 b (upd f s.data.toList none)→w.grownBy w1 (some b)→w1.heap.size=w.heap.size→wpList P ops Q rest (a.put o.dst (.tuple #[])) w1):wpList P ops Q (o :: rest) a w:=by
 refine wpList_plain hg fun K' hK'=>?_
 obtain ⟨w1,hrun,h1,h2,h3⟩:=h.del hK ht hs o.type;unfold Oper.wp;simp[execOp,hop,resolve,invoke,builtin,hm,hx,hrun,Result.andThen];exact hK' _ _ (hQ w1 h1 h2 h3)
end
end
section
open Go.RowKit
structure Own (R R':Nat→Nat) (w w':World):Prop where
 os:w'.os=w.os
 tape:w'.tape=w.tape
 output:w'.output=w.output
 size:w.heap.size≤w'.heap.size
 block:∀k,k < w.heap.size→R k=0→w'.heap[k]? = w.heap[k]?
 old:∀k,k < w.heap.size→R' k=R k
def InW (R:Nat→Nat) (w:World):Prop:=∀k,R k≠0→k < w.heap.size
def giv (R:Nat→Nat) (g r:Nat):Nat→Nat:=fun k=>if k=g then r else R k
section
variable {R R' R'' : Nat → Nat} {w w' w'' : World}
theorem Own.refl (R:Nat→Nat) (w:World):Own R R w w:=⟨rfl,rfl,rfl,Nat.le_refl _,fun _ _ _=>rfl,fun _ _=>rfl⟩
theorem Own.trans (h:Own R R' w w') (k:Own R' R'' w' w''):Own R R'' w w'':=
 ⟨k.os.trans h.os,k.tape.trans h.tape,k.output.trans h.output,Nat.le_trans h.size k.size,
  fun i hi hr=>(k.block i (Nat.lt_of_lt_of_le hi h.size) ((h.old i hi).trans hr)).trans (h.block i hi hr),
  fun i hi=>(k.old i (Nat.lt_of_lt_of_le hi h.size)).trans (h.old i hi)⟩
theorem Own.of_below (h:Below w.heap.size w w'):Own R R w w':=⟨h.os,h.tape,h.output,h.size,fun k hk _=>h.block k hk,fun _ _=>rfl⟩
theorem Own.of_grown {g:Nat} (h:w.grownBy w' (some g)) (hg:R g≠0):Own R R w w':=
 ⟨h.os,h.tape,h.output,h.size,fun k hk hr=>h.block k hk (fun e=>by injection e with e;exact hg (e▸hr)),fun _ _=>rfl⟩
theorem Own.of_set {g i:Nat} (u:Value) (hg:R g≠0):Own R R w (w.setCell ⟨g,i,none⟩ u):=
 ⟨rfl,rfl,rfl,by simp[World.setCell],fun k _ hr=>Below.heap_setCell _ _ _ _ (by rintro rfl;exact hg hr),fun _ _=>rfl⟩
theorem Own.give {g r:Nat} (h:Own R R w w') (hg:w.heap.size≤g):Own R (giv R g r) w w':=
 ⟨h.os,h.tape,h.output,h.size,h.block,fun k hk=>by unfold giv;rw[if_neg (by omega)]⟩
theorem Kcm (R:Nat→Nat) (g r:Nat):giv R g r g=r:=by simp[giv]
theorem Kaw {g r k:Nat} (h:k≠g):giv R g r k=R k:=by simp[giv,h]
theorem InW.new (h:InW R w) {g:Nat} (hg:w.heap.size≤g):R g=0:=by
 apply Classical.byContradiction;intro h0;have:=h g h0;omega
theorem InW.mono (h:InW R w) (hs:w.heap.size≤w'.heap.size):InW R w':=fun k hk=>Nat.lt_of_lt_of_le (h k hk) hs
theorem InW.give (h:InW R w) (hs:w.heap.size≤w'.heap.size) {g r:Nat} (hg:g < w'.heap.size):InW (giv R g r) w':=by
 intro k hk
 by_cases e:k=g
 ·subst e;exact hg
 ·rw[Kaw e] at hk;exact Nat.lt_of_lt_of_le (h k hk) hs
end
def RowIs (w:World) (R:Nat→Nat) (r:Nat) (T:TypeId) (sz:Nat) (v:Value) (n:Nat) (xs:List Value):Prop:=w.ownsRow 0 T sz v n xs∧∀g,v.ownBlock=some g→R g=r
theorem ownsRow.same {w w':World} {base:Nat} {T:TypeId} {sz n:Nat} {v:Value} {xs:List Value} (h:w.ownsRow base T sz v n xs) (hb:∀g,v.ownBlock=some g→w'.heap[g]? = w.heap[g]?):w'.ownsRow base T sz v n xs:=by
 refine ⟨h.1,?_⟩;rcases h.2 with h2 | ⟨g,cap,cur,rfl,h3,h4,h5⟩
 ·exact .inl h2
 ·exact .inr ⟨g,cap,cur,rfl,h3,(hb g rfl).trans h4,h5⟩
theorem RowIs.same {w w':World} {R R':Nat→Nat} {r:Nat} {T:TypeId} {sz n:Nat} {v:Value} {xs:List Value} (h:RowIs w R r T sz v n xs) (hb:∀g,v.ownBlock=some g→R g=r→w'.heap[g]? = w.heap[g]?∧R' g=R g):RowIs w' R' r T sz v n xs:=
 ⟨ownsRow.same h.1 fun g hg=>(hb g hg (h.2 g hg)).1,fun g hg=>(hb g hg (h.2 g hg)).2.trans (h.2 g hg)⟩
theorem RowIs.nil {w:World} {R:Nat→Nat} {r:Nat} {T:TypeId} {sz:Nat}:RowIs w R r T sz (.slice none 0 0) 0 []:=⟨World.ownsRow_nil _ _ _ _,fun g hg=>by cases hg⟩
structure Adr where
 p:Nat
 md:Nat
 mf:Nat
 sd:Nat
 sf:Nat
 sv:Value
 φ : List Nat
def dirF (l:List Th) (x:Txt):Option Value:=if l.any (fun y=>y.dir && y.path == x) then some (.int .i64 1) else none
def fptr (φ : List Nat) (i:Nat):Value:=.pointer (some ⟨φ[i]?.getD 0,0,none⟩)
def filF (φ : List Nat) (l:List Th) (x:Txt):Option Value:=(l.find? fun y=>!y.dir && y.path == x).map fun y=>fptr φ y.at_
abbrev MapM (w:World) (R:Nat→Nat) (r:Nat) (b:Nat) (f:Txt→Option Value):Prop:=SMap Tryz.prog 9 w b f∧R b=r
def encC (c:Ch):List Value:=[txtV c.text,.int .i64 (if c.cut then (c.size:Int) else -1)]
def FileM (w:World) (R:Nat→Nat) (i b:Nat) (f:By):Prop:=
 ∃v,Blk w b 137 #[txtV f.now,txtV f.safe,v]∧R b=10+2*i∧RowIs w R (11+2*i) 213 2 v f.steps.length (f.steps.flatMap encC)
def Knr (w:World) (R:Nat→Nat) (φ : List Nat) (fs:List By):Prop:=φ.length=fs.length∧∀(i b:Nat) (f:By),φ[i]? = some b→fs[i]? = some f→FileM w R i b f
def Box (w:World) (R:Nat→Nat) (b:Nat) (T:TypeId) (v:Value):Prop:=Blk w b T #[v]∧R b=5
def StepM (w:World) (R:Nat→Nat) (φ : List Nat):St→Value→Prop
 | .mkdir _,_=>False
 | .create a i,v=>∃b c,v = .func (.func 115) #[] #[.pointer (some ⟨c,0,none⟩),.pointer (some ⟨b,0,none⟩)]∧Box w R b 9 (txtV a)∧Box w R c 132 (fptr φ i)
 | .rename a a',v=>∃b c,v = .func (.func 119) #[] #[.pointer (some ⟨b,0,none⟩),.pointer (some ⟨c,0,none⟩)]∧Box w R b 9 (txtV a)∧Box w R c 9 (txtV a')
 | .remove a,v=>∃b,v = .func (.func 111) #[] #[.pointer (some ⟨b,0,none⟩)]∧Box w R b 9 (txtV a)
def Khh (w:World) (R:Nat→Nat) (v:Value) (φ : List Nat) (l:List St):Prop:=
 ∃fs:List Value,RowIs w R 7 156 1 v l.length fs∧fs.length=l.length∧∀(i:Nat) s f,l[i]? = some s→fs[i]? = some f→StepM w R φ s f
def DBlk (w:World) (A:Adr) (d:Ds):Prop:=Blk w A.p 130 #[.map (some A.md),.map (some A.mf),.map (some A.sd),.map (some A.sf),A.sv,.int .i64 (d.cap:Int),.bool d.off,.int .i64 (d.await:Int)]
structure CD (B0:Nat) (w:World) (R:Nat→Nat) (A:Adr) (d:Ds):Prop where
 blk:DBlk w A d
 rp:R A.p=1
 dirs:MapM w R 2 A.md (dirF d.things)
 files:MapM w R 3 A.mf (filF A.φ d.things)
 sdirs:MapM w R 4 A.sd (dirF d.safe)
 sfiles:MapM w R 6 A.sf (filF A.φ d.safe)
 steps:Khh w R A.sv A.φ d.steps
 bytes:Knr w R A.φ d.files
 inw:InW R w
 low:∀k,k < B0→R k=0
section
variable {w w' : World} {R R' : Nat → Nat} {B0 : Nat} {A : Adr} {d : Ds}
def Same (R R':Nat→Nat) (w w':World):Prop:=∀k,R k≠0→w'.heap[k]? = w.heap[k]?∧R' k=R k
theorem FileM.same {i b:Nat} {f:By} (h:FileM w R i b f) (hs:∀k,R k=10+2*i∨R k=11+2*i→w'.heap[k]? = w.heap[k]?∧R' k=R k):FileM w' R' i b f:=by
 obtain ⟨v,h1,h2,h3⟩:=h;exact ⟨v,((hs b (.inl h2)).1).trans h1,((hs b (.inl h2)).2).trans h2,h3.same fun g _ hr=>hs g (.inr hr)⟩
theorem Box.same {b:Nat} {T:TypeId} {v:Value} (h:Box w R b T v) (hs:∀k,R k=5→w'.heap[k]? = w.heap[k]?∧R' k=R k):Box w' R' b T v:=⟨((hs b h.2).1).trans h.1,((hs b h.2).2).trans h.2⟩
theorem StepM.same {φ : List Nat} {s:St} {v:Value} (h:StepM w R φ s v) (hs:∀k,R k=5→w'.heap[k]? = w.heap[k]?∧R' k=R k):StepM w' R' φ s v:=by
 cases s with
 | mkdir a=>exact (show False from h).elim
 | create a i=>obtain ⟨b,c,h1,h2,h3⟩:=h;exact ⟨b,c,h1,h2.same hs,h3.same hs⟩
 | rename a a'=>obtain ⟨b,c,h1,h2,h3⟩:=h;exact ⟨b,c,h1,h2.same hs,h3.same hs⟩
 | remove a=>obtain ⟨b,h1,h2⟩:=h;exact ⟨b,h1,h2.same hs⟩
theorem Khh.same {v:Value} {φ : List Nat} {l:List St} (h:Khh w R v φ l) (hs:∀k,R k=5∨R k=7→w'.heap[k]? = w.heap[k]?∧R' k=R k):Khh w' R' v φ l:=by
 obtain ⟨fs,h1,h2,h3⟩:=h;exact ⟨fs,h1.same fun g _ hr=>hs g (.inr hr),h2,fun i s f hs' hf=>(h3 i s f hs' hf).same fun k hk=>hs k (.inl hk)⟩
theorem MapM.same {r b:Nat} {f:Txt→Option Value} (h:MapM w R r b f) (hs:∀k,R k=r→w'.heap[k]? = w.heap[k]?∧R' k=R k):MapM w' R' r b f:=⟨h.1.same (hs b h.2).1,((hs b h.2).2).trans h.2⟩
theorem Knr.same {φ : List Nat} {fs:List By} (h:Knr w R φ fs) (hs:∀k,10≤R k→w'.heap[k]? = w.heap[k]?∧R' k=R k):Knr w' R' φ fs:=
 ⟨h.1,fun i b f hb hf=>(h.2 i b f hb hf).same fun k hk=>hs k (by omega)⟩
theorem CD.same (h:CD B0 w R A d) (hs:Same R R' w w') (hw:InW R' w') (hl:∀k,k < B0→R' k=0):CD B0 w' R' A d where
 blk:=((hs A.p (by rw[h.rp];omega)).1).trans h.blk
 rp:=((hs A.p (by rw[h.rp];omega)).2).trans h.rp
 dirs:=h.dirs.same fun k hk=>hs k (by omega)
 files:=h.files.same fun k hk=>hs k (by omega)
 sdirs:=h.sdirs.same fun k hk=>hs k (by omega)
 sfiles:=h.sfiles.same fun k hk=>hs k (by omega)
 steps:=h.steps.same fun k hk=>hs k (by omega)
 bytes:=h.bytes.same fun k hk=>hs k (by omega)
 inw:=hw
 low:=hl
theorem CD.below (h:CD B0 w R A d) (hb:Below w.heap.size w w'):CD B0 w' R A d:=
 h.same (fun k hk=>⟨hb.block k (h.inw k hk),rfl⟩) (h.inw.mono hb.size) h.low
end
def failG:Nat→Nat
 | 1=>6 | 2=>5 | 3=>3 | 4=>2 | 5=>4 | 6=>1 | _=>0
def failV (a:Nat→Addr) (k:Nat):Value:=.iface 360 (.pointer (some (a k)))
def Fails (B0:Nat) (a:Nat→Addr) (w:World):Prop:=∀k,k≠6→failG k < B0∧w.cell? ⟨failG k,0,none⟩=some (failV a k)
theorem Fails.below {B0:Nat} {a:Nat→Addr} {w w':World} (h:Fails B0 a w) (hb:Below B0 w w'):Fails B0 a w':=fun k hk=>⟨(h k hk).1,(hb.cell (p:=⟨failG k,0,none⟩) (h k hk).1).trans (h k hk).2⟩
def ErrV (a:Nat→Addr) (w:World) (op path:ByteArray):Nat→Value→Prop
 | 0,v=>v = .nilIface
 | k+1,v=>∃q,v = .iface 56 (.pointer (some ⟨q,0,none⟩))∧Blk w q 59 #[.string op,.string path,failV a (k+1)]
section
variable {w w' : World} {R R' : Nat → Nat} {B0 : Nat} {A : Adr} {d d' : Ds}
theorem CD.blk_only (h:CD B0 w R A d) (hw:∀k,k < w.heap.size→k≠A.p→w'.heap[k]? = w.heap[k]?) (hs:w.heap.size≤w'.heap.size) (hb:DBlk w' A d') (h1:d'.things=d.things) (h2:d'.safe=d.safe) (h3:d'.steps=d.steps) (h4:d'.files=d.files):CD B0 w' R A d':=by
 have key:∀k,R k≠0→R k≠1→w'.heap[k]? = w.heap[k]?∧R k=R k:=fun k hk h1=>⟨hw k (h.inw k hk) (fun e=>h1 (by rw[e];exact h.rp)),rfl⟩
 exact {
  blk:=hb
  rp:=h.rp
  dirs:=by rw[h1];exact h.dirs.same fun k hk=>key k (by omega) (by omega)
  files:=by rw[h1];exact h.files.same fun k hk=>key k (by omega) (by omega)
  sdirs:=by rw[h2];exact h.sdirs.same fun k hk=>key k (by omega) (by omega)
  sfiles:=by rw[h2];exact h.sfiles.same fun k hk=>key k (by omega) (by omega)
  steps:=by rw[h3];exact h.steps.same fun k hk=>key k (by omega) (by omega)
  bytes:=by rw[h4];exact h.bytes.same fun k hk=>key k (by omega) (by omega)
  inw:=h.inw.mono hs
  low:=h.low }
theorem CD.file_only (h:CD B0 w R A d) {i:Nat} {f:By} (hi:i < d.files.length) (hs:∀k,R k≠0→R k≠10+2*i→R k≠11+2*i→w'.heap[k]? = w.heap[k]?∧R' k=R k) (hw:InW R' w') (hl:∀k,k < B0→R' k=0) (hf:FileM w' R' i (A.φ[i]?.getD 0) f):CD B0 w' R' A (setF d i f) where
 blk:=((hs A.p (by rw[h.rp];omega) (by rw[h.rp];omega) (by rw[h.rp];omega)).1).trans h.blk
 rp:=((hs A.p (by rw[h.rp];omega) (by rw[h.rp];omega) (by rw[h.rp];omega)).2).trans h.rp
 dirs:=h.dirs.same fun k hk=>hs k (by omega) (by omega) (by omega)
 files:=h.files.same fun k hk=>hs k (by omega) (by omega) (by omega)
 sdirs:=h.sdirs.same fun k hk=>hs k (by omega) (by omega) (by omega)
 sfiles:=h.sfiles.same fun k hk=>hs k (by omega) (by omega) (by omega)
 steps:=h.steps.same fun k hk=>hs k (by omega) (by omega) (by omega)
 bytes:=by
  refine ⟨by simp[setF,h.bytes.1],fun j b g hb hg=>?_⟩;simp only[setF] at hg
  by_cases e:j=i
  ·subst e
   have hg':f=g:=by
    rw[List.getElem?_set_self (by simpa using hi)] at hg;injection hg
   rw[←hg'];rw[hb] at hf;exact hf
  ·rw[List.getElem?_set_ne (Ne.symm e)] at hg;exact (h.bytes.2 j b g hb hg).same fun k hk=>hs k (by omega) (by omega) (by omega)
 inw:=hw
 low:=hl
end
end
section
structure TW (n:Nat) (l:List Th):Prop where
 nodup:(l.map Th.path).Nodup
 dirs:∀x∈l,x.dir=true→nameB x.path=true
 paths:∀x∈l,pathB x.path=true
 par:∀x∈l,∀k,Kag x.path=some k→∃y∈l,y.dir=true∧y.path=x.path.take k
 ats:∀x∈l,x.dir=false→x.at_ < n
 inj:∀x∈l,∀y∈l,x.dir=false→y.dir=false→x.at_=y.at_→x=y
def StOk (n:Nat) (l:List Th):St→Prop
 | .mkdir a=>nameB a=true∧isT l a=0
 | .create a i=>pathB a=true∧Kct l a=true∧isT l a=0∧i < n∧∀x∈l,x.dir=false→x.at_≠i
 | .remove a=>pathB a=true∧isT l a≠0
 | .rename a b=>pathB a=true∧pathB b=true∧isT l a≠0∧Kct l b=true∧isT l b≠2∧(isT l a=2→nameB b=true∧isT l b=0)∧a≠b
theorem Kbo {s:Txt} (h:nameB s=true):Kag s=none:=by
 simp only[nameB,Bool.and_eq_true] at h;have h1:=h.1.1;clear h
 induction s with
 | nil=>rfl
 | cons b l ih=>
  simp only[List.all_cons,Bool.and_eq_true] at h1;rw[Kag,if_neg,ih h1.2]
  ·rfl
  ·rintro rfl;have:=h1.1;simp[nameC] at this
theorem Kpc {s:Txt} (h:Kag s=none):(47:UInt8)∉s:=by
 induction s with
 | nil=>simp
 | cons b l ih=>
  rw[Kag] at h
  split at h
  ·cases h
  ·rename_i hb
   have:Kag l=none:=by cases hl:Kag l <;> simp_all
   simp only[List.mem_cons,not_or];exact ⟨fun e=>hb e.symm,ih this⟩
theorem Kat {p d:Txt}:Kbh p d=true↔∃x,p=d ++ [47]++x:=by
 unfold Kbh;rw[List.isPrefixOf_iff_prefix];constructor
 ·rintro ⟨x,h⟩;exact ⟨x,h.symm⟩
 ·rintro ⟨x,h⟩;exact ⟨x,h.symm⟩
theorem Kbu {p d:Txt} (h:nameB p=true):Kbh p d=false:=by
 cases hi:Kbh p d with
 | false=>rfl
 | true=>
  obtain ⟨x,rfl⟩:=Kat.1 hi;exact absurd (Kpc (Kbo h)) (by simp)
theorem Kcl:∀{d:Txt} (x:Txt),Kag d=none→Kag (d ++ [47]++x)=some d.length
 | [],x,_=>by simp[Kag]
 | b :: d,x,h=>by
  rw[Kag] at h
  split at h
  ·cases h
  ·rename_i hb
   have hd:Kag d=none:=by cases hl:Kag d <;> simp_all
   have:=Kcl x hd;simp only[List.cons_append] at this ⊢;rw[Kag,if_neg hb,this];simp
theorem Kig:∀{l:Txt} {k:Nat},Kag l=some k→k < l.length
 | b :: l,k,h=>by
  rw[Kag] at h
  split at h
  ·injection h with h;subst h;simp
  ·cases hs:Kag l with
   | none=>rw[hs] at h;cases h
   | some j=>
    rw[hs] at h;injection h with h;have:=Kig hs;simp at h ⊢;omega
theorem Kja {l:List Th} {a:Txt}:isT l a=0↔∀x∈l,x.path≠a:=by
 unfold isT findT
 cases h:l.find? fun x=>x.path == a with
 | none=>
  simp only[List.find?_eq_none] at h;simp only[true_iff];intro x hx e;exact h x hx (by simpa using e)
 | some y=>
  have h1:=List.find?_some h;have h2:=List.mem_of_find?_eq_some h;simp only;constructor
  ·intro e
   split at e <;> omega
  ·intro e;exact absurd (by simpa using h1) (e y h2)
theorem Kfg {l:List Th} (h:(l.map Th.path).Nodup) {x y:Th} (hx:x∈l) (hy:y∈l) (e:x.path=y.path):x=y:=by
 induction l with
 | nil=>cases hx
 | cons z l ih=>
  simp only[List.map_cons,List.nodup_cons] at h;rcases List.mem_cons.1 hx with rfl | hx' <;> rcases List.mem_cons.1 hy with rfl | hy'
  ·rfl
  ·exact absurd (List.mem_map_of_mem (f:=Th.path) hy') (by rw[←e];exact h.1)
  ·exact absurd (List.mem_map_of_mem (f:=Th.path) hx') (by rw[e];exact h.1)
  ·exact ih h.2 hx' hy'
theorem Kec {l:List Th} (h:(l.map Th.path).Nodup) {x:Th} (hx:x∈l):isT l x.path=if x.dir then 2 else 1:=by
 unfold isT findT
 cases hf:l.find? fun y=>y.path == x.path with
 | none=>
  simp only[List.find?_eq_none] at hf;exact absurd (by simp) (hf x hx)
 | some y=>
  have h1:=List.find?_some hf;have h2:=List.mem_of_find?_eq_some hf;obtain rfl:=Kfg h h2 hx (by simpa using h1);rfl
theorem Kge {l:List Th} {a:Txt} (h:isT l a≠0):∃x∈l,x.path=a∧isT l a=if x.dir then 2 else 1:=by
 unfold isT findT at h ⊢
 cases hf:l.find? fun y=>y.path == a with
 | none=>rw[hf] at h;exact absurd rfl h
 | some y=>
  have h1:=List.find?_some hf;exact ⟨y,List.mem_of_find?_eq_some hf,by simpa using h1,rfl⟩
theorem Kcv {l:List Th} {x:Txt}:(dirF l x).isSome=true↔∃y∈l,y.dir=true∧y.path=x:=by
 unfold dirF
 split
 ·rename_i h
  rw[List.any_eq_true] at h;obtain ⟨y,hy,h⟩:=h;simp only[Bool.and_eq_true,beq_iff_eq] at h;simp only[Option.isSome_some,true_iff];exact ⟨y,hy,h.1,h.2⟩
 ·rename_i h
  simp only[Option.isSome_none,Bool.false_eq_true,false_iff];rintro ⟨y,hy,h1,h2⟩;apply h;rw[List.any_eq_true];exact ⟨y,hy,by simp[h1,h2]⟩
theorem Kfu {l:List Th} {x:Txt} {v:Value} (h:dirF l x=some v):v = .int .i64 1:=by
 unfold dirF at h
 split at h
 ·injection h with h;exact h.symm
 ·cases h
theorem Kpx {l l':List Th} {x x':Txt} (h:(∃y∈l,y.dir=true∧y.path=x)↔∃y∈l',y.dir=true∧y.path=x'):dirF l x=dirF l' x':=by
 cases h1:dirF l x with
 | none=>
  cases h2:dirF l' x' with
  | none=>rfl
  | some v=>
   have:=h.2 (Kcv.1 (by rw[h2];rfl));have:=Kcv.2 this;rw[h1] at this;cases this
 | some v=>
  have:=Kcv.2 (h.1 (Kcv.1 (by rw[h1];rfl)))
  cases h2:dirF l' x' with
  | none=>rw[h2] at this;cases this
  | some v'=>rw[Kfu h1,Kfu h2]
theorem Kby {φ : List Nat} {l:List Th} (h:(l.map Th.path).Nodup) {x:Txt} {v:Value}:filF φ l x=some v↔∃y∈l,y.dir=false∧y.path=x∧v=fptr φ y.at_:=by
 unfold filF;constructor
 ·intro e
  cases hf:l.find? fun y=>!y.dir && y.path == x with
  | none=>rw[hf] at e;cases e
  | some y=>
   rw[hf] at e;have h1:=List.find?_some hf;simp only[Bool.and_eq_true,Bool.not_eq_true',beq_iff_eq] at h1;injection e with e;exact ⟨y,List.mem_of_find?_eq_some hf,h1.1,h1.2,e.symm⟩
 ·rintro ⟨y,hy,h1,h2,rfl⟩
  cases hf:l.find? fun y=>!y.dir && y.path == x with
  | none=>
   simp only[List.find?_eq_none] at hf;exact absurd (by simp[h1,h2]) (hf y hy)
  | some z=>
   have h3:=List.find?_some hf;simp only[Bool.and_eq_true,Bool.not_eq_true',beq_iff_eq] at h3;obtain rfl:=Kfg h (List.mem_of_find?_eq_some hf) hy (h3.2.trans h2.symm);rfl
theorem Kqd {α : Type} {a b:Option α} (h:∀v,a=some v↔b=some v):a=b:=by
 cases a with
 | none=>
  cases b with
  | none=>rfl
  | some v=>have:=(h v).2 rfl;cases this
 | some v=>exact ((h v).1 rfl).symm
variable {n : Nat} {l : List Th} {φ : List Nat} {a b : Txt} {i : Nat}
theorem Kxi:dirF (Kaj l (.create a i))=dirF l:=by
 funext x;simp[dirF,Kaj]
theorem Kxl (h:isT l a=0):filF φ (Kaj l (.create a i))=upd (filF φ l) a (some (fptr φ i)):=by
 funext x;have h0:=Kja.1 h;unfold upd filF;simp only[Kaj,List.find?_append]
 split
 ·rename_i e
  subst e
  have:(l.find? fun y=>!y.dir && y.path == x)=none:=by
   rw[List.find?_eq_none];intro y hy;have:=h0 y hy;simp[this]
  rw[this];simp
 ·rename_i e
  cases l.find? fun y=>!y.dir && y.path == x with
  | some y=>rfl
  | none=>
   have:a≠x:=fun h=>e h.symm
   simp[this]
theorem Kho {p:Th→Bool} (h:(l.map Th.path).Nodup):((l.filter p).map Th.path).Nodup:=(List.Sublist.map _ List.filter_sublist).nodup h
theorem Kxj (hw:TW n l):dirF (Kaj l (.remove a))=upd (dirF l) a none:=by
 funext x;unfold upd
 split
 ·rename_i e
  subst e
  cases h:dirF (Kaj l (.remove x)) x with
  | none=>rfl
  | some v=>
   obtain ⟨y,hy,_,h2⟩:=Kcv.1 (show (dirF (Kaj l (.remove x)) x).isSome=true by rw[h];rfl);simp only[Kaj,List.mem_filter] at hy;simp[h2] at hy
 ·rename_i e
  refine Kpx ?_;simp only[Kaj,List.mem_filter];constructor
  ·rintro ⟨y,⟨hy,_⟩,h⟩;exact ⟨y,hy,h⟩
  ·rintro ⟨y,hy,h1,h2⟩;refine ⟨y,⟨hy,?_⟩,h1,h2⟩;rw[Kbu (hw.dirs y hy h1)];simp[h2,e]
theorem Kxm (hw:TW n l) (x:Txt):filF φ (Kaj l (.remove a)) x=if x=a∨Kbh x a=true then none else filF φ l x:=by
 apply Kqd;intro v;have hnd:((Kaj l (.remove a)).map Th.path).Nodup:=Kho hw.nodup;rw[Kby hnd];simp only[Kaj,List.mem_filter]
 split
 ·rename_i hx
  simp only[reduceCtorEq,iff_false];rintro ⟨y,⟨_,hp⟩,_,rfl,_⟩;rcases hx with hx | hx <;> simp[hx] at hp
 ·rename_i hx
  rw[Kby hw.nodup];constructor
  ·rintro ⟨y,⟨hy,_⟩,h⟩;exact ⟨y,hy,h⟩
  ·rintro ⟨y,hy,h1,rfl,h3⟩;refine ⟨y,⟨hy,?_⟩,h1,rfl,h3⟩;simp only[not_or,Bool.not_eq_true] at hx;simp[hx.1,hx.2]
def mv (a b:Txt) (x:Th):Th:=if x.path == a then { x with path:=b } else if Kbh x.path a then { x with path:=b++x.path.drop a.length } else x
theorem Kjw:Kaj l (.rename a b)=(l.filter fun x=>!(x.path == b)).map (mv a b):=rfl
theorem Kca (x:Th):(mv a b x).dir=x.dir∧(mv a b x).at_=x.at_:=by unfold mv;split;exact ⟨rfl,rfl⟩;split <;> exact ⟨rfl,rfl⟩
theorem Kle:∀{s:Txt} {k:Nat} (r:Txt),Kag s=some k→Kag (s++r)=some k
 | b :: s,k,r,h=>by
  rw[Kag] at h;rw[List.cons_append,Kag]
  split
  ·rename_i hb;rw[if_pos hb] at h;exact h
  ·rename_i hb
   rw[if_neg hb] at h
   cases hs:Kag s with
   | none=>rw[hs] at h;cases h
   | some j=>rw[hs] at h;rw[Kle r hs];exact h
theorem Klq (hw:TW n l) (ha:isT l a≠2) (hp:pathB a=true) {x:Th} (hx:x∈l):Kbh x.path a=false:=by
 cases hi:Kbh x.path a with
 | false=>rfl
 | true=>
  obtain ⟨r,hr⟩:=Kat.1 hi
  cases hsl:Kag a with
  | none=>
   have hs:=Kcl r hsl;rw[←hr] at hs;obtain ⟨y,hy,h1,h2⟩:=hw.par x hx _ hs;rw[hr] at h2;have e:y.path=a:=by rw[h2];simp
   have:=Kec hw.nodup hy;rw[e,h1] at this;exact absurd this ha
  | some k=>
   have hs:=Kle ([47]++r) hsl;rw[←List.append_assoc,←hr] at hs;have h1:=hw.paths x hx;unfold pathB at h1;rw[hs] at h1;simp only[Bool.and_eq_true] at h1;have h2:=Kpc (Kbo h1.2);have hk:=Kig hsl;exfalso;apply h2;rw[hr,List.append_assoc,List.drop_append_of_le_length (by omega)];simp
theorem Khr:∀{s:Txt} {k:Nat},Kag s=some k→Kag (s.take k)=none∧s=s.take k ++ [47]++s.drop (k+1)
 | b :: s,k,h=>by
  rw[Kag] at h
  split at h
  ·rename_i hb
   injection h with h;subst h;subst hb;simp[Kag]
  ·rename_i hb
   cases hs:Kag s with
   | none=>rw[hs] at h;cases h
   | some j=>
    rw[hs] at h;injection h with h;have h':j+1=k:=h;subst h';obtain ⟨h1,h2⟩:=Khr hs;constructor
    ·rw[List.take_succ_cons,Kag,if_neg hb,h1];rfl
    ·rw[List.take_succ_cons,List.drop_succ_cons]
     conv=>lhs;rw[h2]
     simp
theorem Kfe {x:Th} (h1:x.path≠a) (h2:Kbh x.path a=false):mv a b x=x:=by simp[mv,h1,h2]
theorem Klo {x:Th} (h1:x.path=a):(mv a b x).path=b:=by simp[mv,h1]
theorem mv_in {x:Th} {r:Txt} (h:x.path=a ++ [47]++r):(mv a b x).path=b ++ [47]++r:=by
 have h1:x.path≠a:=by
  rw[h];intro e;have:=congrArg List.length e;simp at this
 have h2:Kbh x.path a=true:=Kat.2 ⟨r,h⟩;unfold mv;rw[if_neg (by simpa using h1),if_pos h2];simp[h]
theorem Kcp (x:Th):(x.path=a∧(mv a b x).path=b)∨(∃r,x.path=a ++ [47]++r∧(mv a b x).path=b ++ [47]++r)∨(x.path≠a∧Kbh x.path a=false∧mv a b x=x):=by
 by_cases h1:x.path=a
 ·exact .inl ⟨h1,Klo h1⟩
 ·cases h2:Kbh x.path a with
  | false=>exact .inr (.inr ⟨h1,rfl,Kfe h1 h2⟩)
  | true=>
   obtain ⟨r,hr⟩:=Kat.1 h2;exact .inr (.inl ⟨r,hr,mv_in hr⟩)
variable {n : Nat} {l : List Th} {φ : List Nat} {a b : Txt} {i : Nat}
theorem Krk {l:List Th} {x:Th} (h:(l.map Th.path).Nodup) (hx:isT l x.path=0):((l ++ [x]).map Th.path).Nodup:=by
 rw[List.map_append,List.nodup_append];refine ⟨h,by simp,?_⟩;intro p hp q hq;simp at hq;subst hq;obtain ⟨y,hy,rfl⟩:=List.mem_map.1 hp;exact Kja.1 hx y hy
theorem Qea {a:Txt} (h:nameB a=true):pathB a=true:=by
 unfold pathB;rw[Kbo h];exact h
theorem TW.mkdir (hw:TW n l) (h:StOk n l (.mkdir a)):TW n (Kaj l (.mkdir a)):=by
 obtain ⟨h1,h2⟩:=h;refine ⟨Krk hw.nodup h2,?_,?_,?_,?_,?_⟩
 ·intro x hx hd;rcases List.mem_append.1 hx with hx | hx
  ·exact hw.dirs x hx hd
  ·rw[List.mem_singleton.1 hx];exact h1
 ·intro x hx;rcases List.mem_append.1 hx with hx | hx
  ·exact hw.paths x hx
  ·rw[List.mem_singleton.1 hx];exact Qea h1
 ·intro x hx k hk;rcases List.mem_append.1 hx with hx | hx
  ·obtain ⟨y,hy,e⟩:=hw.par x hx k hk;exact ⟨y,List.mem_append.2 (.inl hy),e⟩
  ·rw[List.mem_singleton.1 hx] at hk;have:=Kbo h1;rw[this] at hk;cases hk
 ·intro x hx hd;rcases List.mem_append.1 hx with hx | hx
  ·exact hw.ats x hx hd
  ·rw[List.mem_singleton.1 hx] at hd;cases hd
 ·intro x hx y hy hdx hdy e;rcases List.mem_append.1 hx with hx | hx
  ·rcases List.mem_append.1 hy with hy | hy
   ·exact hw.inj x hx y hy hdx hdy e
   ·rw[List.mem_singleton.1 hy] at hdy;cases hdy
  ·rw[List.mem_singleton.1 hx] at hdx;cases hdx
theorem Kme (h:Kct l a=true) {k:Nat} (hk:Kag a=some k):∃y∈l,y.dir=true∧y.path=a.take k:=by
 unfold Kct at h;rw[hk] at h;have h2:isT l (a.take k)=2:=by simpa using h
 obtain ⟨y,hy,e,h3⟩:=Kge (by rw[h2];omega);refine ⟨y,hy,?_,e⟩;rw[h2] at h3
 split at h3
 ·assumption
 ·omega
theorem TW.create (hw:TW n l) (h:StOk n l (.create a i)):TW n (Kaj l (.create a i)):=by
 obtain ⟨h1,h2,h3,h4,h5⟩:=h;refine ⟨Krk hw.nodup h3,?_,?_,?_,?_,?_⟩
 ·intro x hx hd;rcases List.mem_append.1 hx with hx | hx
  ·exact hw.dirs x hx hd
  ·rw[List.mem_singleton.1 hx] at hd;cases hd
 ·intro x hx;rcases List.mem_append.1 hx with hx | hx
  ·exact hw.paths x hx
  ·rw[List.mem_singleton.1 hx];exact h1
 ·intro x hx k hk;rcases List.mem_append.1 hx with hx | hx
  ·obtain ⟨y,hy,e⟩:=hw.par x hx k hk;exact ⟨y,List.mem_append.2 (.inl hy),e⟩
  ·rw[List.mem_singleton.1 hx] at hk ⊢;obtain ⟨y,hy,e⟩:=Kme h2 hk;exact ⟨y,List.mem_append.2 (.inl hy),e⟩
 ·intro x hx hd;rcases List.mem_append.1 hx with hx | hx
  ·exact hw.ats x hx hd
  ·rw[List.mem_singleton.1 hx];exact h4
 ·intro x hx y hy hdx hdy e;rcases List.mem_append.1 hx with hx | hx
  ·rcases List.mem_append.1 hy with hy | hy
   ·exact hw.inj x hx y hy hdx hdy e
   ·rw[List.mem_singleton.1 hy] at e;exact absurd e (h5 x hx hdx)
  ·rcases List.mem_append.1 hy with hy | hy
   ·rw[List.mem_singleton.1 hx] at e;exact absurd e.symm (h5 y hy hdy)
   ·rw[List.mem_singleton.1 hx,List.mem_singleton.1 hy]
theorem TW.remove (hw:TW n l):TW n (Kaj l (.remove a)):=by
 have hsub:∀x∈Kaj l (.remove a),x∈l:=fun x hx=>(List.mem_filter.1 hx).1
 refine ⟨Kho hw.nodup,fun x hx=>hw.dirs x (hsub x hx),fun x hx=>hw.paths x (hsub x hx),?_,fun x hx=>hw.ats x (hsub x hx),fun x hx y hy=>hw.inj x (hsub x hx) y (hsub y hy)⟩;intro x hx k hk;obtain ⟨y,hy,h1,h2⟩:=hw.par x (hsub x hx) k hk;refine ⟨y,List.mem_filter.2 ⟨hy,?_⟩,h1,h2⟩;rw[Kbu (hw.dirs y hy h1)];have hx2:=(List.mem_filter.1 hx).2
 have hne:y.path≠a:=by
  intro e;obtain ⟨_,hsp⟩:=Khr hk;rw[←h2,e] at hsp;have:Kbh x.path a=true:=Kat.2 ⟨_,hsp⟩;simp[this] at hx2
 simp[hne]
theorem Kbm {x:Th}:x∈Kaj l (.rename a b)↔∃y∈l,y.path≠b∧mv a b y=x:=by
 rw[Kjw,List.mem_map];constructor
 ·rintro ⟨y,hy,e⟩;obtain ⟨h1,h2⟩:=List.mem_filter.1 hy;exact ⟨y,h1,by simpa using h2,e⟩
 ·rintro ⟨y,h1,h2,e⟩;exact ⟨y,List.mem_filter.2 ⟨h1,by simpa using h2⟩,e⟩
theorem Knm (hw:TW n l) (h:StOk n l (.rename a b)) {y:Th} (hy:y∈l):Kbh y.path b=false:=Klq hw h.2.2.2.2.1 h.2.1 hy
theorem Kdx {d x y:Txt} (h:d ++ [47]++x=d ++ [47]++y):x=y:=List.append_cancel_left h
theorem Qjr (hw:TW n l) (h:StOk n l (.rename a b)) {x y:Th} (hx:x∈l) (hy:y∈l) (hxb:x.path≠b) (hyb:y.path≠b) (e:(mv a b x).path=(mv a b y).path):x=y:=by
 have hne:∀r:Txt,b≠b ++ [47]++r:=fun r e=>by have:=congrArg List.length e;simp at this
 rcases Kcp (a:=a) (b:=b) x with ⟨h1,h2⟩ | ⟨r,h1,h2⟩ | ⟨h1,h2,h3⟩
 ·rcases Kcp (a:=a) (b:=b) y with ⟨k1,k2⟩ | ⟨s,k1,k2⟩ | ⟨k1,k2,k3⟩
  ·exact Kfg hw.nodup hx hy (h1.trans k1.symm)
  ·rw[h2,k2] at e;exact absurd e (hne s)
  ·rw[h2,k3] at e;exact absurd e.symm hyb
 ·rcases Kcp (a:=a) (b:=b) y with ⟨k1,k2⟩ | ⟨s,k1,k2⟩ | ⟨k1,k2,k3⟩
  ·rw[h2,k2] at e;exact absurd e.symm (hne r)
  ·rw[h2,k2] at e;have:=Kdx e;subst this;exact Kfg hw.nodup hx hy (h1.trans k1.symm)
  ·rw[h2,k3] at e;have:=Knm hw h hy;rw[Kat.2 ⟨r,e.symm⟩] at this;cases this
 ·rcases Kcp (a:=a) (b:=b) y with ⟨k1,k2⟩ | ⟨s,k1,k2⟩ | ⟨k1,k2,k3⟩
  ·rw[h3,k2] at e;exact absurd e hxb
  ·rw[h3,k2] at e;have:=Knm hw h hx;rw[Kat.2 ⟨s,e⟩] at this;cases this
  ·rw[h3,k3] at e;exact Kfg hw.nodup hx hy e
theorem Kgm {α β : Type} {f:α→β}:∀{l:List α},l.Nodup→(∀x∈l,∀y∈l,f x=f y→x=y)→(l.map f).Nodup
 | [],_,_=>by simp
 | a :: l,h,hi=>by
  rw[List.nodup_cons] at h;rw[List.map_cons,List.nodup_cons];refine ⟨?_,Kgm h.2 fun x hx y hy=>hi x (by simp[hx]) y (by simp[hy])⟩;intro hm;obtain ⟨y,hy,e⟩:=List.mem_map.1 hm;have:=hi y (by simp[hy]) a (by simp) e;exact h.1 (this▸hy)
theorem Khp {α β : Type} {f:α→β} {l:List α} (h:(l.map f).Nodup):l.Nodup:=by
 induction l with
 | nil=>simp
 | cons a l ih=>
  rw[List.map_cons,List.nodup_cons] at h;rw[List.nodup_cons];exact ⟨fun hm=>h.1 (List.mem_map_of_mem hm),ih h.2⟩
theorem TW.rename (hw:TW n l) (h:StOk n l (.rename a b)):TW n (Kaj l (.rename a b)):=by
 have h':=h;obtain ⟨hpa,hpb,hta,hpar,htb,hdir,hab⟩:=h';refine ⟨?_,?_,?_,?_,?_,?_⟩
 ·rw[Kjw,List.map_map];refine Kgm (Khp (Kho hw.nodup)) ?_;intro x hx y hy e;obtain ⟨h1,h2⟩:=List.mem_filter.1 hx;obtain ⟨k1,k2⟩:=List.mem_filter.1 hy;exact Qjr hw h h1 k1 (by simpa using h2) (by simpa using k2) e
 ·intro x hx hd;obtain ⟨y,hy,hyb,rfl⟩:=Kbm.1 hx;rw[(Kca y).1] at hd;rcases Kcp (a:=a) (b:=b) y with ⟨h1,h2⟩ | ⟨r,h1,h2⟩ | ⟨h1,h2,h3⟩
  ·rw[h2];refine (hdir ?_).1;have:=Kec hw.nodup hy;rw[h1,hd] at this;exact this
  ·have:=Kbu (d:=a) (hw.dirs y hy hd);rw[Kat.2 ⟨r,h1⟩] at this;cases this
  ·rw[h3];exact hw.dirs y hy hd
 ·intro x hx;obtain ⟨y,hy,hyb,rfl⟩:=Kbm.1 hx;rcases Kcp (a:=a) (b:=b) y with ⟨h1,h2⟩ | ⟨r,h1,h2⟩ | ⟨h1,h2,h3⟩
  ·rw[h2];exact hpb
  ·have ha2:isT l a=2:=by
    apply Classical.byContradiction;intro hne;have:=Klq hw hne hpa hy;rw[Kat.2 ⟨r,h1⟩] at this;cases this
   obtain ⟨z,hz,e,hz2⟩:=Kge hta;have hzd:z.dir=true:=by rw[ha2] at hz2;split at hz2;assumption;omega
   have hna:nameB a=true:=by rw[←e];exact hw.dirs z hz hzd
   have h3:=hw.paths y hy;unfold pathB at h3 ⊢;rw[h1,Kcl r (Kbo hna)] at h3;rw[h2,Kcl r (Kbo (hdir ha2).1)];simp only[Bool.and_eq_true] at h3 ⊢;refine ⟨by simpa using (hdir ha2).1,?_⟩;have:=h3.2;simpa using this
  ·rw[h3];exact hw.paths y hy
 ·intro x hx k hk;obtain ⟨y,hy,hyb,rfl⟩:=Kbm.1 hx;rcases Kcp (a:=a) (b:=b) y with ⟨h1,h2⟩ | ⟨r,h1,h2⟩ | ⟨h1,h2,h3⟩
  ·rw[h2] at hk ⊢;obtain ⟨z,hz,e1,e2⟩:=Kme hpar hk
   have hza:z.path≠a:=by
    intro e;have:=Kec hw.nodup hz;rw[e,e1] at this;have hnb:=(hdir this).1;rw[Kbo hnb] at hk;cases hk
   have hzb:z.path≠b:=by
    intro e;have:=Kec hw.nodup hz;rw[e,e1] at this;exact htb this
   refine ⟨z,Kbm.2 ⟨z,hz,hzb,Kfe hza (Kbu (hw.dirs z hz e1))⟩,e1,e2⟩
  ·have ha2:isT l a=2:=by
    apply Classical.byContradiction;intro hne;have:=Klq hw hne hpa hy;rw[Kat.2 ⟨r,h1⟩] at this;cases this
   obtain ⟨z,hz,e,hz2⟩:=Kge hta;have hzd:z.dir=true:=by rw[ha2] at hz2;split at hz2;assumption;omega
   have hzb:z.path≠b:=by rw[e];exact hab
   rw[h2,Kcl r (Kbo (hdir ha2).1)] at hk;injection hk with hk;refine ⟨mv a b z,Kbm.2 ⟨z,hz,hzb,rfl⟩,by rw[(Kca z).1];exact hzd,?_⟩;rw[Klo e,h2,←hk];simp
  ·rw[h3] at hk ⊢;obtain ⟨z,hz,e1,e2⟩:=hw.par y hy k hk
   have hzb:z.path≠b:=by
    intro e;have:=Kec hw.nodup hz;rw[e,e1] at this;exact htb this
   have hza:z.path≠a:=by
    intro e;obtain ⟨_,hsp⟩:=Khr hk;rw[←e2,e] at hsp;rw[Kat.2 ⟨_,hsp⟩] at h2;cases h2
   exact ⟨z,Kbm.2 ⟨z,hz,hzb,Kfe hza (Kbu (hw.dirs z hz e1))⟩,e1,e2⟩
 ·intro x hx hd;obtain ⟨y,hy,hyb,rfl⟩:=Kbm.1 hx;rw[(Kca y).1] at hd;rw[(Kca y).2];exact hw.ats y hy hd
 ·intro x hx z hz hdx hdz e;obtain ⟨y,hy,hyb,rfl⟩:=Kbm.1 hx;obtain ⟨y',hy',hyb',rfl⟩:=Kbm.1 hz;rw[(Kca y).1] at hdx;rw[(Kca y').1] at hdz;rw[(Kca y).2,(Kca y').2] at e;rw[hw.inj y hy y' hy' hdx hdz e]
theorem TW.apply (hw:TW n l) {s:St} (h:StOk n l s):TW n (Kaj l s):=by
 cases s with
 | mkdir a=>exact hw.mkdir h
 | create a i=>exact hw.create h
 | rename a b=>exact hw.rename h
 | remove a=>exact hw.remove
variable {n : Nat} {l : List Th} {φ : List Nat} {a b : Txt} {i : Nat}
theorem Qje {l:List Th} (h:(l.map Th.path).Nodup) {a:Txt}:isT l a=1↔∃x∈l,x.dir=false∧x.path=a:=by
 constructor
 ·intro e;obtain ⟨x,hx,e1,e2⟩:=Kge (a:=a) (by rw[e];omega);rw[e] at e2;refine ⟨x,hx,?_,e1⟩
  cases hd:x.dir with
  | false=>rfl
  | true=>rw[hd] at e2;simp at e2
 ·rintro ⟨x,hx,hd,rfl⟩;rw[Kec h hx,hd];rfl
theorem Kln {l:List Th} (h:(l.map Th.path).Nodup) {a:Txt}:isT l a=2↔∃x∈l,x.dir=true∧x.path=a:=by
 constructor
 ·intro e;obtain ⟨x,hx,e1,e2⟩:=Kge (a:=a) (by rw[e];omega);rw[e] at e2;refine ⟨x,hx,?_,e1⟩
  cases hd:x.dir with
  | true=>rfl
  | false=>rw[hd] at e2;simp at e2
 ·rintro ⟨x,hx,hd,rfl⟩;rw[Kec h hx,hd];rfl
theorem Kdw (l:List Th) (a:Txt):isT l a=0∨isT l a=1∨isT l a=2:=by
 unfold isT
 split
 ·exact .inl rfl
 ·split
  ·exact .inr (.inr rfl)
  ·exact .inr (.inl rfl)
theorem Kft (hw:TW n l) {x:Txt}:(dirF l x).isSome=true↔isT l x=2:=by rw[Kcv,Kln hw.nodup]
theorem Kiy (hw:TW n l) {x:Txt}:(filF φ l x).isSome=true↔isT l x=1:=by
 rw[Qje hw.nodup];constructor
 ·intro h;obtain ⟨v,hv⟩:=Option.isSome_iff_exists.1 h;obtain ⟨y,hy,h1,h2,_⟩:=(Kby hw.nodup).1 hv;exact ⟨y,hy,h1,h2⟩
 ·rintro ⟨y,hy,h1,h2⟩;rw[(Kby hw.nodup).2 ⟨y,hy,h1,h2,rfl⟩];rfl
theorem Ksl (hw:TW n l) (h:StOk n l (.rename a b)) (ha:isT l a=1):dirF (Kaj l (.rename a b))=dirF l:=by
 funext x;refine Kpx ?_;constructor
 ·rintro ⟨z,hz,h1,rfl⟩;obtain ⟨y,hy,hyb,rfl⟩:=Kbm.1 hz;rw[(Kca y).1] at h1;rcases Kcp (a:=a) (b:=b) y with ⟨k1,k2⟩ | ⟨r,k1,k2⟩ | ⟨k1,k2,k3⟩
  ·have:=Kec hw.nodup hy;rw[k1,h1,ha] at this;simp at this
  ·have:=Kbu (d:=a) (hw.dirs y hy h1);rw[Kat.2 ⟨r,k1⟩] at this;cases this
  ·rw[k3];exact ⟨y,hy,h1,rfl⟩
 ·rintro ⟨y,hy,h1,rfl⟩
  have hya:y.path≠a:=by
   intro e;have:=Kec hw.nodup hy;rw[e,h1,ha] at this;simp at this
  have hyb:y.path≠b:=by
   intro e;have:=Kec hw.nodup hy;rw[e,h1] at this;exact h.2.2.2.2.1 this
  exact ⟨y,Kbm.2 ⟨y,hy,hyb,Kfe hya (Kbu (hw.dirs y hy h1))⟩,h1,rfl⟩
theorem Ksm (hw:TW n l) (h:StOk n l (.rename a b)) (ha:isT l a=1):filF φ (Kaj l (.rename a b))=upd (upd (filF φ l) b (filF φ l a)) a none:=by
 have hw2:=hw.rename h;have hab:=h.2.2.2.2.2.2;have hno:∀y∈l,Kbh y.path a=false:=fun y hy=>Klq hw (by rw[ha];omega) h.1 hy
 funext x;apply Kqd;intro v;rw[Kby hw2.nodup];unfold upd
 by_cases hxa:x=a
 ·subst hxa;simp only[if_pos];simp only[reduceCtorEq,iff_false];rintro ⟨z,hz,h1,h2,_⟩;obtain ⟨y,hy,hyb,rfl⟩:=Kbm.1 hz;rcases Kcp (a:=x) (b:=b) y with ⟨k1,k2⟩ | ⟨r,k1,k2⟩ | ⟨k1,k2,k3⟩
  ·rw[k2] at h2;exact hab h2.symm
  ·have:=hno y hy;rw[Kat.2 ⟨r,k1⟩] at this;cases this
  ·rw[k3] at h2;exact k1 h2
 ·rw[if_neg hxa]
  by_cases hxb:x=b
  ·subst hxb;rw[if_pos rfl,Kby hw.nodup];constructor
   ·rintro ⟨z,hz,h1,h2,h3⟩;obtain ⟨y,hy,hyb,rfl⟩:=Kbm.1 hz;rw[(Kca y).1] at h1;rw[(Kca y).2] at h3;rcases Kcp (a:=a) (b:=x) y with ⟨k1,k2⟩ | ⟨r,k1,k2⟩ | ⟨k1,k2,k3⟩
    ·exact ⟨y,hy,h1,k1,h3⟩
    ·have:=hno y hy;rw[Kat.2 ⟨r,k1⟩] at this;cases this
    ·rw[k3] at h2;exact absurd h2 hyb
   ·rintro ⟨y,hy,h1,h2,h3⟩;exact ⟨mv a x y,Kbm.2 ⟨y,hy,by rw[h2];exact hab,rfl⟩,by rw[(Kca y).1];exact h1,Klo h2,by rw[(Kca y).2];exact h3⟩
  ·rw[if_neg hxb,Kby hw.nodup];constructor
   ·rintro ⟨z,hz,h1,h2,h3⟩;obtain ⟨y,hy,hyb,rfl⟩:=Kbm.1 hz;rw[(Kca y).1] at h1;rw[(Kca y).2] at h3;rcases Kcp (a:=a) (b:=b) y with ⟨k1,k2⟩ | ⟨r,k1,k2⟩ | ⟨k1,k2,k3⟩
    ·rw[k2] at h2;exact absurd h2.symm hxb
    ·have:=hno y hy;rw[Kat.2 ⟨r,k1⟩] at this;cases this
    ·rw[k3] at h2;exact ⟨y,hy,h1,h2,h3⟩
   ·rintro ⟨y,hy,h1,rfl,h3⟩;exact ⟨y,Kbm.2 ⟨y,hy,hxb,Kfe hxa (hno y hy)⟩,h1,rfl,h3⟩
theorem Kuf (hw:TW n l) (h:StOk n l (.rename a b)) (ha:isT l a=2):dirF (Kaj l (.rename a b))=upd (upd (dirF l) a none) b (some (.int .i64 1)):=by
 have hab:=h.2.2.2.2.2.2;obtain ⟨z,hz,hzd,hzp⟩:=(Kln hw.nodup).1 ha;funext x;unfold upd
 by_cases hxb:x=b
 ·subst hxb;rw[if_pos rfl];have:(dirF (Kaj l (.rename a x)) x).isSome=true:=Kcv.2 ⟨mv a x z,Kbm.2 ⟨z,hz,by rw[hzp];exact hab,rfl⟩,by rw[(Kca z).1];exact hzd,Klo hzp⟩;obtain ⟨v,hv⟩:=Option.isSome_iff_exists.1 this;rw[hv,Kfu hv]
 ·rw[if_neg hxb]
  by_cases hxa:x=a
  ·subst hxa;rw[if_pos rfl]
   cases hd:dirF (Kaj l (.rename x b)) x with
   | none=>rfl
   | some v=>
    obtain ⟨u,hu,h1,h2⟩:=Kcv.1 (show (dirF (Kaj l (.rename x b)) x).isSome=true by rw[hd];rfl);obtain ⟨y,hy,hyb,rfl⟩:=Kbm.1 hu;rw[(Kca y).1] at h1;rcases Kcp (a:=x) (b:=b) y with ⟨k1,k2⟩ | ⟨r,k1,k2⟩ | ⟨k1,k2,k3⟩
    ·rw[k2] at h2;exact absurd h2.symm hxb
    ·have:=Kbu (d:=x) (hw.dirs y hy h1);rw[Kat.2 ⟨r,k1⟩] at this;cases this
    ·rw[k3] at h2;exact absurd h2 k1
  ·rw[if_neg hxa];refine Kpx ?_;constructor
   ·rintro ⟨u,hu,h1,rfl⟩;obtain ⟨y,hy,hyb,rfl⟩:=Kbm.1 hu;rw[(Kca y).1] at h1;rcases Kcp (a:=a) (b:=b) y with ⟨k1,k2⟩ | ⟨r,k1,k2⟩ | ⟨k1,k2,k3⟩
    ·exact absurd k2 hxb
    ·have:=Kbu (d:=a) (hw.dirs y hy h1);rw[Kat.2 ⟨r,k1⟩] at this;cases this
    ·rw[k3];exact ⟨y,hy,h1,rfl⟩
   ·rintro ⟨y,hy,h1,rfl⟩;exact ⟨y,Kbm.2 ⟨y,hy,hxb,Kfe hxa (Kbu (hw.dirs y hy h1))⟩,h1,rfl⟩
def mvF (f:Txt→Option Value) (a b:Txt) (bs:List Txt):Txt→Option Value:=bs.foldl (fun g s=>upd (upd g (b ++ [47]++s) (g (a ++ [47]++s))) (a ++ [47]++s) none) f
theorem Koj (f:Txt→Option Value) (hab:∀s t:Txt,a ++ [47]++s≠b ++ [47]++t):∀(bs:List Txt),bs.Nodup→∀g:Txt→Option Value,(∀s∈bs,g (a ++ [47]++s)=f (a ++ [47]++s))→∀x,
  mvF g a b bs x=if ∃s∈bs,x=a ++ [47]++s then none else match bs.find? (fun s=>x == b ++ [47]++s) with | some s=>f (a ++ [47]++s) | none=>g x
 | [],_,g,_,x=>by simp[mvF]
 | s :: bs,hn,g,hg,x=>by
  rw[List.nodup_cons] at hn;have hs:g (a ++ [47]++s)=f (a ++ [47]++s):=hg s (by simp)
  have hg':∀t∈bs,upd (upd g (b ++ [47]++s) (g (a ++ [47]++s))) (a ++ [47]++s) none (a ++ [47]++t)=f (a ++ [47]++t):=by
   intro t ht;unfold upd;rw[if_neg (fun e=>hn.1 (by rw[←Kdx e];exact ht)),if_neg (hab t s)];exact hg t (by simp[ht])
  have ih:=Koj f hab bs hn.2 _ hg' x;show mvF (upd (upd g (b ++ [47]++s) (g (a ++ [47]++s))) (a ++ [47]++s) none) a b bs x=_
  rw[ih]
  by_cases hx:∃t∈bs,x=a ++ [47]++t
  ·obtain ⟨t,ht,e⟩:=hx;rw[if_pos ⟨t,ht,e⟩,if_pos ⟨t,by simp[ht],e⟩]
  ·rw[if_neg hx]
   by_cases hxs:x=a ++ [47]++s
   ·rw[if_pos ⟨s,by simp,hxs⟩]
    have hf:bs.find? (fun t=>x == b ++ [47]++t)=none:=by
     rw[List.find?_eq_none];intro t _;simp only[beq_iff_eq];rw[hxs];exact hab s t
    rw[hf];simp[upd,hxs]
   ·rw[if_neg (by rintro ⟨t,ht,e⟩;rcases List.mem_cons.1 ht with rfl | ht;exact hxs e;exact hx ⟨t,ht,e⟩)];rw[List.find?_cons]
    by_cases hxb:x=b ++ [47]++s
    ·have hf:bs.find? (fun t=>x == b ++ [47]++t)=none:=by
      rw[List.find?_eq_none];intro t ht;simp only[beq_iff_eq];rw[hxb];intro e;exact hn.1 (by rw[Kdx e];exact ht)
     rw[hf];have hbe:(x == b ++ [47]++s)=true:=by simpa using hxb
     rw[hbe];simp only[];unfold upd;rw[if_neg hxs,if_pos hxb,hs]
    ·have hbe:(x == b ++ [47]++s)=false:=by simpa using hxb
     rw[hbe];simp only[]
     cases bs.find? (fun t=>x == b ++ [47]++t) with
     | some t=>rfl
     | none=>
      simp only[];unfold upd;rw[if_neg hxs,if_neg hxb]
theorem Kum (hw:TW n l) (h:StOk n l (.rename a b)) (ha:isT l a=2) {bs:List Txt} (hnd:bs.Nodup) (hbs:∀x,x∈bs↔(filF φ l (a ++ [47]++x)).isSome=true):filF φ (Kaj l (.rename a b))=mvF (filF φ l) a b bs:=by
 have hw2:=hw.rename h;have hab:=h.2.2.2.2.2.2;obtain ⟨hnb,hb0⟩:=h.2.2.2.2.2.1 ha;obtain ⟨z,hz,hzd,hzp⟩:=(Kln hw.nodup).1 ha;have hna:nameB a=true:=by rw[←hzp];exact hw.dirs z hz hzd
 have hne:∀s t:Txt,a ++ [47]++s≠b ++ [47]++t:=by
  intro s t e;have h1:=Kcl s (Kbo hna);have h2:=Kcl t (Kbo hnb);rw[e,h2] at h1;injection h1 with h1;apply hab;have h3:=congrArg (List.take b.length) e;rw[List.append_assoc,List.append_assoc,List.take_left] at h3;rw[←h3,h1,List.take_left]
 funext x;rw[Koj (filF φ l) hne bs hnd (filF φ l) (fun _ _=>rfl) x];apply Kqd;intro v;rw[Kby hw2.nodup]
 by_cases hxa:∃s∈bs,x=a ++ [47]++s
 ·rw[if_pos hxa];obtain ⟨s,_,rfl⟩:=hxa;simp only[reduceCtorEq,iff_false];rintro ⟨u,hu,h1,h2,_⟩;obtain ⟨y,hy,hyb,rfl⟩:=Kbm.1 hu;rcases Kcp (a:=a) (b:=b) y with ⟨k1,k2⟩ | ⟨r,k1,k2⟩ | ⟨k1,k2,k3⟩
  ·rw[k2] at h2;have:=Kbo hnb;rw[h2,Kcl s (Kbo hna)] at this;cases this
  ·rw[k2] at h2;exact hne s r h2.symm
  ·rw[k3] at h2;rw[Kat.2 ⟨s,h2⟩] at k2;cases k2
 ·rw[if_neg hxa]
  cases hf:bs.find? (fun s=>x == b ++ [47]++s) with
  | some s=>
   have h1:=List.find?_some hf;simp only[beq_iff_eq] at h1;subst h1;simp only[];rw[Kby hw.nodup];constructor
   ·rintro ⟨u,hu,h1,h2,h3⟩;obtain ⟨y,hy,hyb,rfl⟩:=Kbm.1 hu;rw[(Kca y).1] at h1;rw[(Kca y).2] at h3;rcases Kcp (a:=a) (b:=b) y with ⟨k1,k2⟩ | ⟨r,k1,k2⟩ | ⟨k1,k2,k3⟩
    ·rw[k2] at h2;have:=congrArg List.length h2;simp at this
    ·rw[k2] at h2;have:=Kdx h2;subst this;exact ⟨y,hy,h1,k1,h3⟩
    ·rw[k3] at h2;have:=Knm hw h hy;rw[Kat.2 ⟨s,h2⟩] at this;cases this
   ·rintro ⟨y,hy,h1,h2,h3⟩
    have hyb:y.path≠b:=by
     intro e;exact Kja.1 hb0 y hy e
    exact ⟨mv a b y,Kbm.2 ⟨y,hy,hyb,rfl⟩,by rw[(Kca y).1];exact h1,mv_in h2,by rw[(Kca y).2];exact h3⟩
  | none=>
   simp only[];rw[Kby hw.nodup];simp only[List.find?_eq_none,beq_iff_eq] at hf;constructor
   ·rintro ⟨u,hu,h1,h2,h3⟩;obtain ⟨y,hy,hyb,rfl⟩:=Kbm.1 hu;rw[(Kca y).1] at h1;rw[(Kca y).2] at h3;rcases Kcp (a:=a) (b:=b) y with ⟨k1,k2⟩ | ⟨r,k1,k2⟩ | ⟨k1,k2,k3⟩
    ·have:=Kec hw.nodup hy;rw[k1,h1,ha] at this;simp at this
    ·rw[k2] at h2;have hr:r∈bs:=(hbs r).2 (by rw[(Kby hw.nodup).2 ⟨y,hy,h1,k1,rfl⟩];rfl);exact absurd h2.symm (hf r hr)
    ·rw[k3] at h2;exact ⟨y,hy,h1,h2,h3⟩
   ·rintro ⟨y,hy,h1,rfl,h3⟩
    have hya:y.path≠a:=by
     intro e;have:=Kec hw.nodup hy;rw[e,h1,ha] at this;simp at this
    have hin:Kbh y.path a=false:=by
     cases hi:Kbh y.path a with
     | false=>rfl
     | true=>
      obtain ⟨r,hr⟩:=Kat.1 hi;exact absurd ⟨r,(hbs r).2 (by rw[(Kby hw.nodup).2 ⟨y,hy,h1,hr,rfl⟩];rfl),hr⟩ hxa
    exact ⟨y,Kbm.2 ⟨y,hy,fun e=>Kja.1 hb0 y hy e,Kfe hya hin⟩,h1,rfl,h3⟩
def rmF (f:Txt→Option Value) (a:Txt) (bs:List Txt):Txt→Option Value:=bs.foldl (fun g s=>upd g (a ++ [47]++s) none) f
theorem Qet:∀(bs:List Txt) (f:Txt→Option Value) (x:Txt),rmF f a bs x=if ∃s∈bs,x=a ++ [47]++s then none else f x
 | [],f,x=>by simp[rmF]
 | s :: bs,f,x=>by
  show rmF (upd f (a ++ [47]++s) none) a bs x=_
  rw[Qet bs]
  by_cases hx:∃t∈bs,x=a ++ [47]++t
  ·obtain ⟨t,ht,e⟩:=hx;rw[if_pos ⟨t,ht,e⟩,if_pos ⟨t,by simp[ht],e⟩]
  ·rw[if_neg hx];unfold upd
   by_cases hxs:x=a ++ [47]++s
   ·rw[if_pos hxs,if_pos ⟨s,by simp,hxs⟩]
   ·rw[if_neg hxs,if_neg (by rintro ⟨t,ht,e⟩;rcases List.mem_cons.1 ht with rfl | ht;exact hxs e;exact hx ⟨t,ht,e⟩)]
theorem Qjd (hw:TW n l) {bs:List Txt} (hbs:∀x,x∈bs↔(filF φ l (a ++ [47]++x)).isSome=true):filF φ (Kaj l (.remove a))=upd (rmF (filF φ l) a bs) a none:=by
 funext x;rw[Kxm hw];unfold upd;rw[Qet]
 by_cases hxa:x=a
 ·rw[if_pos (.inl hxa),if_pos hxa]
 ·rw[if_neg hxa]
  by_cases hin:Kbh x a=true
  ·rw[if_pos (.inr hin)];obtain ⟨r,rfl⟩:=Kat.1 hin
   by_cases hr:r∈bs
   ·rw[if_pos ⟨r,hr,rfl⟩]
   ·split
    ·rfl
    ·cases hf:filF φ l (a ++ [47]++r) with
     | none=>rfl
     | some v=>exact absurd ((hbs r).2 (by rw[hf];rfl)) hr
  ·rw[if_neg (by rintro (h | h);exact hxa h;exact hin h),if_neg];rintro ⟨s,_,e⟩;exact hin (Kat.2 ⟨s,e⟩)
def LeE (x y:En):Prop:=¬y.name < x.name
theorem Kkq (x:En):∀l:List En,(insE x l).Perm (x :: l)
 | []=>.refl _
 | y :: l=>by
  unfold insE
  split
  ·exact .refl _
  ·exact ((Kkq x l).cons y).trans (.swap x y l)
theorem Kly (x:En):∀{l:List En},l.Pairwise LeE→(insE x l).Pairwise LeE
 | [],_=>List.pairwise_singleton _ _
 | y :: l,h=>by
  have h1:=List.pairwise_cons.1 h;unfold insE
  split
  ·rename_i hxy
   refine List.pairwise_cons.2 ⟨fun z hz=>?_,h⟩;rcases List.mem_cons.1 hz with rfl | hz
   ·intro h2;exact List.lt_irrefl _ (List.lt_trans hxy h2)
   ·intro h2;exact h1.1 z hz (List.lt_trans h2 hxy)
  ·rename_i hxy
   refine List.pairwise_cons.2 ⟨fun z hz=>?_,Kly x h1.2⟩;rcases List.mem_cons.1 ((Kkq x l).mem_iff.1 hz) with rfl | hz
   ·exact hxy
   ·exact h1.1 z hz
theorem Koc:∀(l acc:List En),(l.foldl (fun acc x=>insE x acc) acc).Perm (l++acc)
 | [],_=>.refl _
 | x :: l,acc=>by
  rw[List.foldl_cons];refine (Koc l _).trans ?_;refine ((Kkq x acc).append_left l).trans ?_;rw[List.cons_append];exact List.perm_middle
theorem Kkp:∀(l:List En) {acc:List En},acc.Pairwise LeE→(l.foldl (fun acc x=>insE x acc) acc).Pairwise LeE
 | [],_,h=>h
 | x :: l,_,h=>Kkp l (Kly x h)
theorem Qbs (l:List En):(sortE l).Perm l:=by
 have:=Koc l [];rw[List.append_nil] at this;exact this
theorem Kvw (l:List En):(sortE l).Pairwise LeE:=Kkp l List.Pairwise.nil
theorem Kmk:∀{l l':List En},l.Perm l'→l.Pairwise LeE→l'.Pairwise LeE→(l.map En.name).Nodup→l=l'
 | [],l',h,_,_,_=>(List.nil_perm.1 h).symm
 | x :: l,[],h,_,_,_=>absurd (h.length_eq) (by simp)
 | x :: l,y :: m,h,h1,h2,hn=>by
  have k1:=List.pairwise_cons.1 h1;have k2:=List.pairwise_cons.1 h2;have kn:=List.nodup_cons.1 (by simpa using hn:(x.name :: l.map En.name).Nodup)
  by_cases e:x=y
  ·subst e;rw[Kmk h.cons_inv k1.2 k2.2 kn.2]
  ·have hx:x∈m:=by
    rcases List.mem_cons.1 (h.mem_iff.1 (List.mem_cons_self ..)) with h3 | h3
    ·exact absurd h3 e
    ·exact h3
   have hy:y∈l:=by
    rcases List.mem_cons.1 (h.mem_iff.2 (List.mem_cons_self ..)) with h3 | h3
    ·exact absurd h3.symm e
    ·exact h3
   have:x.name=y.name:=Kqj (k2.1 x hx) (k1.1 y hy);exact absurd (List.mem_map.2 ⟨y,hy,this.symm⟩) kn.1
theorem Kob {d:Ds} (h:(d.things.map Th.path).Nodup) (dir:Txt):((entD d dir).map En.name).Nodup:=by
 unfold entD;generalize d.things=th at h
 induction th with
 | nil=>simp
 | cons x l ih=>
  have h1:=List.nodup_cons.1 (by simpa using h:(x.path :: l.map Th.path).Nodup);have ih':=ih h1.2;rw[List.filterMap_cons]
  split
  ·exact ih'
  ·rename_i e he
   rw[List.map_cons,List.nodup_cons];refine ⟨fun hm=>?_,ih'⟩;obtain ⟨e2,he2,hne⟩:=List.mem_map.1 hm;obtain ⟨y,hy,hey⟩:=List.mem_filterMap.1 he2;refine h1.1 (List.mem_map.2 ⟨y,hy,?_⟩)
   by_cases hd:dir = []
   ·rw[if_pos hd] at he hey
    split at he
    ·cases he
    ·split at hey
     ·cases hey
     ·injection he with he;injection hey with hey;rw[←he,←hey] at hne;exact hne
   ·rw[if_neg hd] at he hey
    split at he
    ·rename_i hx
     split at hey
     ·rename_i hyy
      injection he with he;injection hey with hey;rw[←he,←hey] at hne;obtain ⟨r,hr⟩:=Kat.1 hx;obtain ⟨s,hs⟩:=Kat.1 hyy;have e1:x.path.drop (dir.length+1)=r:=by rw[hr];simp
      have e2:y.path.drop (dir.length+1)=s:=by rw[hs];simp
      simp only at hne;rw[e1,e2] at hne;rw[hr,hs,hne]
     ·cases hey
    ·cases he
theorem Qfa {d:Ds} (h:(d.things.map Th.path).Nodup) {dir:Txt} {l:List En} (hp:l.Perm (entD d dir)) (hs:l.Pairwise LeE):l=sortE (entD d dir):=
 Kmk (hp.trans (Qbs _).symm) hs (Kvw _) ((hp.map En.name).nodup_iff.2 (Kob h dir))
section
variable {d : Ds} {n i : Nat}
end
structure Hold (t:Txt) (f:By):Prop where
 safe:t <+: f.safe
 now:t <+: f.now
 cuts:∀c∈f.steps,c.cut=false
def Holds (T:List Txt) (l:List By):Prop:=∀(j:Nat) (t:Txt),T[j]? = some t→∃f,l[j]? = some f∧Hold t f
section
variable {T : List Txt} {u i : Nat} {d : Ds}
end
end
end Go.Proofs.YtefpndiiedkmpaaGreatDoor
