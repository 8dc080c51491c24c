/- Merged (what the claim wants of): KptDec, KptRefOf, BlkFitA, RefB2, KptRfit, KptRalike, KptRef, StoPlain. -/
import Derived.Test.YtefpndiiedkmpaaGreatDoorKpw09
import Derived.Test.YtefpndiiedkmpaaGreatDoorKpw06
import Derived.Test.YtefpndiiedkmpaaGreatDoorKpw08
import Derived.Test.YtefpndiiedkmpaaGreatDoorKpw03
import Derived.Test.YtefpndiiedkmpaaGreatDoorKpw05
import Derived.Test.YtefpndiiedkmpaaGreatDoorKpw04
set_option linter.unusedVariables false
set_option linter.unusedSimpArgs false
set_option maxRecDepth 100000
set_option maxHeartbeats 8000000
namespace Go.Proofs.YtefpndiiedkmpaaGreatDoor
section
open Go.RowKit Go.Shelf Go.Sort
open Lib renaming hid → Jh
open List renaming setIfInBounds_toArray → Ja, set_cons_zero → Jb, set_cons_succ → Jc
attribute [local go_sem ↓] Go.wp_at_zero Go.wp_at_succ
attribute [local go_sem] Later.cell
theorem Qhh:(Tryz.prog.info? 85).map (fun i=>(i.zero,i.size,i.bytes))=some (some (.agg #[.slice none 0 0,.int .i64 0,.slice none 0 0,.slice none 0 0,.slice none 0 0,.slice none 0 0]),6,128):=by kernel_rfl
theorem KRes.five {w:World} {B:Nat} {h:KHd} {s:KSer} (k:KRes w B h s):Off B [] h.l.A h.l.n∧Off B [] h.g0.A h.g0.n∧Off B [] h.g1.A h.g1.n∧Off B [] h.g2.A h.g2.n∧Off B [] h.s.A h.s.n:=⟨k.l,k.g0,k.g1,k.g2,k.s⟩
theorem Klj (S:ByteArray) (w:World) (hS:S.size≤268435456) (hN:Kdu w) (hT:DbTab w) :
  Calls Tryz.prog 13 #[.string S] w fun e w'=>KDecO w' (decK S.data.toList) e∧Below w.heap.size w w':=by
 have hmf:∀(fn:Fn) (first cap:Array Value) (w:World),(Instr.makeFunc fn first cap).run Tryz.prog w = .ok (.func fn first cap) w:=fun _ _ _ _=>rfl
 obtain ⟨r,hr⟩:∃r,decK S.data.toList=r:=⟨_,rfl⟩;rw[hr];have HN:=Jh hN;have HT:=Jh hT;have HR:=Jh hr;have HSZ:=Jh hS;obtain ⟨q,hq⟩:∃q,w.heap.size=q:=⟨_,rfl⟩;have HQ:=Jh hq;have hX:S.size≤140737488351232:=by omega
 clear hN hT hr;go_enter_defers Tryz.func13,Tryz.ntmps13
 go_upto_region 1 with fail
 have hb0:Below q w ((w.alloc (.cells #[.slice none 0 0] 22)).alloc (.cells #[.int .i64 0] 23)):=((Below.refl _ _).alloc (Nat.le_of_eq hq.symm) _).alloc (by simp;omega) _;have ho:Blk ((w.alloc (.cells #[.slice none 0 0] 22)).alloc (.cells #[.int .i64 0] 23)) q 22 #[.slice none 0 0]:=(Blk.newAt hq.symm).alloc _;have he:Blk ((w.alloc (.cells #[.slice none 0 0] 22)).alloc (.cells #[.int .i64 0] 23)) (q+1) 23 #[.int .i64 0]:=Blk.newAt (by simp;omega);have hz0:((w.alloc (.cells #[.slice none 0 0] 22)).alloc (.cells #[.int .i64 0] 23)).heap.size=q+2:=by simp;omega
 obtain ⟨W0,hW0⟩:∃W0,((w.alloc (.cells #[.slice none 0 0] 22)).alloc (.cells #[.int .i64 0] 23))=W0:=⟨_,rfl⟩;rw[hW0] at hb0 ho he hz0
 try rw[hW0]
 try rw[hq]
 have hn0:Kdu W0:=HN.out.below HN.out.lt (by rw[HQ.out];exact hb0);have hu:=Kzp S hX W0 hn0;obtain ⟨R0,hR0⟩:∃R,Kco S.data.toList=R:=⟨_,rfl⟩;rw[hR0] at hu;have HO:=Jh ho;have HE:=Jh he;have HB0:=Jh hb0;have HZ0:=Jh hz0;clear hb0 ho he hW0 hq hn0 hX hz0 hS
 cases R0 with
 | error c0=>
  have hre:r = .error c0:=by rw[←HR.out];exact Kwv hR0
  have hc0:=Kvg hR0;have hne:((c0:Int) != 0)=true:=by simp;omega
  subst hre;dsimp only at hu;have HU:=Jh hu;clear hu hR0;go_wp2_with fail
  refine HU.out.mono ?_;rintro _ w1 ⟨rfl,hb1⟩;have ho1:=HO.out.below hb1 HO.out.lt;have he1:=HE.out.below hb1 HE.out.lt;have hb01:=HB0.out.trans (hb1.mono (by have:=HZ0.out;omega));have f1:=he1.frozen 0;have g1:w1.cell? ⟨q+1,0,none⟩=some (.int .i64 0):=he1.cell 0;have hl1:=he1.lt;have ho2:=ho1.far (p:=⟨q+1,0,none⟩) (by show q≠q+1;omega) (.int .i64 (c0:Int));have he2:=he1.set_ 0 (.int .i64 (c0:Int));have hb2:=hb01.setCell (p:=⟨q+1,0,none⟩) (Nat.le_succ q) (.int .i64 (c0:Int));have HO2:=Jh ho2;have HE2:=Jh he2;have HB2:=Jh hb2;clear ho1 he1 hb01 ho2 he2 hb2 hb1;go_upto_region 3 with fail
  obtain ⟨w2,hw2⟩:∃x,w1.setCell ⟨q+1,0,none⟩ (.int .i64 (c0:Int))=x:=⟨_,rfl⟩;rw[hw2] at HO2 HE2 HB2;rw[hw2];have d0:w2.cell? ⟨q,0,none⟩=some (.slice none 0 0):=HO2.out.cell 0;have d1:w2.cell? ⟨q+1,0,none⟩=some (.int .i64 (c0:Int)):=HE2.out.cell 0;have f0:=HO2.out.frozen 0;have f1:=HE2.out.frozen 0;have l1:=HE2.out.lt;clear hw2 g1 hl1 hmf;go_region
  go_wp2_with fail
  have k1:=((HO2.out.set_ 0 (.slice none 0 0)).far (p:=⟨q+1,0,none⟩) (by show q≠q+1;omega) (.int .i64 (c0:Int))).drew;have k2:=((HE2.out.far (p:=⟨q,0,none⟩) (by show q+1≠q;omega) (.slice none 0 0)).set_ 0 (.int .i64 (c0:Int))).drew;have k3:=((HB2.out.setCell (p:=⟨q,0,none⟩) (Nat.le_refl q) (.slice none 0 0)).setCell (p:=⟨q+1,0,none⟩) (Nat.le_succ q) (.int .i64 (c0:Int))).drew;exact ⟨_,kres2 _ k1 k2 (by rfl) (by rfl),rfl,by rw[HQ.out];exact k3⟩
 | ok bb=>
 obtain ⟨B,hB⟩:∃B:ByteArray,(⟨bb.toArray⟩:ByteArray)=B:=⟨_,rfl⟩;dsimp only at hu;rw[hB] at hu;have hBd:B.data.toList=bb:=by rw[←hB]
 have hsz:B.size≤268435456:=by
  have a:=Qjt hR0;have b:=HSZ.out;rw[←hBd] at a;have h1:B.data.toList.length=B.size:=rfl;have h2:S.data.toList.length=S.size:=rfl;omega
 rw[←hBd] at hR0;have HU:=Jh hu;have HR0:=Jh hR0;clear hu hR0 hB hBd;go_wp2_with fail
 refine HU.out.mono ?_;rintro _ w1 ⟨rfl,hb1⟩;have ho1:=HO.out.below hb1 HO.out.lt;have he1:=HE.out.below hb1 HE.out.lt;have hb01:=HB0.out.trans (hb1.mono (by have:=HZ0.out;omega));have f1:=he1.frozen 0;have g1:w1.cell? ⟨q+1,0,none⟩=some (.int .i64 0):=he1.cell 0;have hl1:=he1.lt;go_upto_region 6 with fail
 have hsame:w1.setCell ⟨q+1,0,none⟩ (.int .i64 0)=w1:=Kmc he1 (i:=0) rfl;rw[hsame];obtain ⟨pr,hpr⟩:∃x,w1.heap.size=x:=⟨_,rfl⟩;have hbx:Below w1.heap.size w1 (w1.alloc (.cells #[.string B,.int .i64 0] 115)):=(Below.refl _ _).alloc (Nat.le_refl _) _;have hkx:Blk (w1.alloc (.cells #[.string B,.int .i64 0] 115)) pr 115 #[.string B,.int .i64 0]:=by rw[←hpr];exact Blk.new _ _ _
 have hs2:(w1.alloc (.cells #[.string B,.int .i64 0] 115)).heap.size=pr+1:=by simp;omega
 obtain ⟨w2,hw2⟩:∃x,w1.alloc (.cells #[.string B,.int .i64 0] 115)=x:=⟨_,rfl⟩;rw[hw2] at hbx hkx hs2;rw[hw2];have ho2:=ho1.below hbx ho1.lt;have he2:=he1.below hbx he1.lt;have hb2:=hb01.trans (hbx.mono (by have:=hb01.size;have:=HQ.out;omega));have hprq:q+1 < pr:=by omega
 have hrd2:Rdr pr B 0 w2:=hkx;have HPN2:=Jh (show KPN w q w2 from ⟨⟨_,ho2⟩,⟨_,he2⟩,hb2⟩);have HO2:=Jh ho2;have HE2:=Jh he2;have HB2:=Jh hb2;have HS2:=Jh hs2
 try rw[hpr]
 obtain ⟨G,hG⟩:∃G,Kfu B.data.toList=G:=⟨_,rfl⟩;have HG:=Jh hG;have hnone:G=none→r = .error 150:=fun h=>by rw[←HR.out];exact Qgq HR0.out (by rw[HG.out];exact h)
 have HNO:=Jh hnone;have hTd:=Kvz B 0 w2.drew (by omega);have hrdd:=hrd2;clear ho1 he1 hb01 f1 g1 hl1 hsame hbx hkx hs2 hw2 ho2 he2 hb2 hrd2 hpr hnone hb1 hG
 cases ht:tabR B.data.toList 0 with
 | none=>
  rw[ht] at hTd
  have HC:=Jh (Kof pr 0 B w2 hrdd (fun _ _ _=>False) True (hTd.mono (by
   rintro e w' ⟨f,hf,rfl,hb⟩
   exact ⟨Kcq hb,.inr ⟨trivial,_,_,f,hf,rfl⟩⟩)))
  have HNONE:Hid (r = .error 150):=Jh (HNO.out (by rw[←HG.out];unfold Kfu;rw[ht]));clear hTd ht hrdd hmf;go_wp2_with fail
  refine HC.out.mono ?_;rintro e w3 (⟨v,j,w4,rfl,hno,_⟩ | ⟨_,f,hf,rfl,hb⟩)
  ·exact hno.elim
  ·have hpn:=HPN2.out.below hb;clear hb;unfold Kaz;go_wp2_with fail
   refine leaves_cons (f:=44) (args:=#[.pointer (some ⟨q,0,none⟩),.pointer (some ⟨q+1,0,none⟩)]) (by simp) (by simp[go_sem]) ?_;refine (Kij w3 hpn _ _).mono ?_;rintro e u' w'' ⟨rfl,rfl,k1,k2,k3⟩;refine Koz k1 k2 k3 HNONE.out ?_ ?_ HQ.out
   all_goals rfl
 | some x=>
 obtain ⟨t,i0⟩:=x;rw[ht] at hTd;obtain ⟨htz,htn⟩:=Qmk ht;have hi0:=Qod ht;have hsl:B.data.toList.length=B.size:=rfl;rw[hsl] at htz htn hi0
 have HC:=Jh (Kof pr 0 B w2 hrdd (fun v j w'=>∃p,v = .pointer (some ⟨p,0,none⟩)∧j=i0∧Kfa (pr+1) w' p t) False (hTd.mono (by
  rintro e w' ⟨p,rfl,htab,hb⟩
  exact ⟨Kcq hb,.inl ⟨_,i0,rfl,p,rfl,rfl,by rw[←HS2.out];exact htab⟩⟩)))
 have HT2:=Jh ht;have HTZ:=Jh htz;have HRDD:=Jh hrdd;have HSL:=Jh hsl;clear hTd ht hrdd htz hsl;go_wp2_with fail
 refine HC.out.mono ?_;rintro e w3 (⟨v,j,w4,rfl,⟨p,rfl,rfl,htab⟩,hb4,rfl⟩ | ⟨hno,_⟩)
 rotate_left
 ·exact hno.elim
 have hk5:Kept w2.heap.size [pr] w2 (w4.setCell ⟨pr,1,none⟩ (.int .i64 (j:Int))):=Kjr (Kept.of_below hb4);have hrd5:Rdr pr B j (w4.setCell ⟨pr,1,none⟩ (.int .i64 (j:Int))):=HRDD.out.set hb4;have htab5:Kfa (pr+1) (w4.setCell ⟨pr,1,none⟩ (.int .i64 (j:Int))) p t:=htab.keep (by simp[World.setCell]) fun k h1 h2=>Below.heap_setCell _ _ _ _ (by show k≠pr;omega)
 obtain ⟨w5,hw5⟩:∃x,w4.setCell ⟨pr,1,none⟩ (.int .i64 (j:Int))=x:=⟨_,rfl⟩;rw[hw5] at hk5 hrd5 htab5;rw[hw5];have HPN5:=Jh (HPN2.out.kept hk5 (fun k hk=>by rw[List.mem_singleton.1 hk];exact hprq));have HO5:=Jh (HO2.out.kept hk5 HO2.out.lt (by simp;omega));have HE5:=Jh (HE2.out.kept hk5 HE2.out.lt (by simp;omega));have HTB5:=Jh htab5;have HRD5:=Jh hrd5;have HU5:=Jh (Kjw pr j B w5 hrd5 (by omega));clear hw5 hk5 hrd5 htab5 htab hb4;go_wp2_with fail
 refine HU5.out.mono ?_;intro e w6 h6
 cases hru:ruAt B.data.toList j with
 | none=>
  rw[hru] at h6;obtain ⟨⟨f,hf,rfl⟩,hb6⟩:=h6
  have HNONE:Hid (r = .error 150):=Jh (HNO.out (by
   rw[←HG.out];unfold Kfu;rw[HT2.out];dsimp only
   rw[hru]))
  have hpn:=HPN5.out.below hb6;clear hb6 hru hmf;unfold Kaz;go_wp2_with fail
  refine leaves_cons (f:=44) (args:=#[.pointer (some ⟨q,0,none⟩),.pointer (some ⟨q+1,0,none⟩)]) (by simp) (by simp[go_sem]) ?_;refine (Kij w6 hpn _ _).mono ?_;rintro e u' w'' ⟨rfl,rfl,k1,k2,k3⟩;refine Koz k1 k2 k3 HNONE.out ?_ ?_ HQ.out
  all_goals rfl
 | some x=>
 obtain ⟨n,j1⟩:=x;rw[hru] at h6;obtain ⟨rfl,hrd6,hk6⟩:=h6;have hj1:=Ket (by rw[HSL.out];exact hi0) hru;rw[HSL.out] at hj1;have hnlt:=Qcx hru
 have HGG:Hid (Ked t B.data.toList n [] j1=G):=Jh (by
  rw[←HG.out];unfold Kfu;rw[HT2.out];dsimp only
  rw[hru])
 have HPN6:=Jh (HPN5.out.kept hk6 (fun k hk=>by rw[List.mem_singleton.1 hk];exact hprq));have HO6:=Jh (HO5.out.kept hk6 HO5.out.lt (by simp;omega));have HE6:=Jh (HE5.out.kept hk6 HE5.out.lt (by simp;omega));have htp:pr < p:=by have:=HTB5.out.1;omega
 have HTB6:Hid (KTab w6 pr p t):=Jh (KTab.kept ⟨HTB5.out⟩ hk6);have HRD6:=Jh hrd6;obtain ⟨QQ,hQQ⟩:∃x,w6.heap.size=x:=⟨_,rfl⟩;have HQQ:=Jh hQQ;have hprQ:pr < QQ:=by rw[←hQQ];exact hrd6.lt
 have HKE:Hid (KEnv w pr p t B):=Jh ⟨HT.out,by have:=HQ.out;omega,htp,by omega,by omega,fun x hx=>by have:=HTZ.out x hx;omega⟩;have HJ1:=Jh hj1;obtain ⟨ib,hib,hz0,hz1,hz2⟩:=info_parts Qhh;clear hru hrd6 hk6 hQQ hj1;go_wp2_with fail
 go_loopg [7] n (fun gg s7 wz=>∃(i:Nat) (out:List KSer) (ys:List KY) (sv:Value),s7 = .int .u64 (gg:Int)∧gg < 2 ^ 64∧Ked t B.data.toList gg out i=G∧i≤B.size∧out.length≤i∧Rdr pr B i wz∧Blk wz q 22 #[sv]∧Blk wz (q+1) 23 #[.int .i64 0]∧DRow 85 QQ sv ys out wz∧Kept w6.heap.size [q,pr] w6 wz)
 case atStart=>exact ⟨j1,[],[],.slice none 0 0,rfl,hnlt,HGG.out,HJ1.out.2,Nat.zero_le _,HRD6.out,HO6.out,HE6.out,DRow.nil _ _ _,Kept.refl _ _ _⟩
 case round=>
  obtain ⟨i,out,ys,sv,rfl,hg64,hkr,hi,hol,hrd,hbo,hbe,hdr,hk⟩:=hrel;have HKR:=Jh hkr;have HOL:=Jh hol;have HRDk:=Jh hrd;have HBO:=Jh hbo;have HBE:=Jh hbe;have HDR:=Jh hdr;have HK:=Jh hk;have HPNk:Hid (KPN w q wr):=Jh ⟨⟨_,hbo⟩,⟨_,hbe⟩,HPN6.out.bl.trans ⟨hk.os,hk.tape,hk.output,hk.size,fun k hlt=>hk.block k (by have:=HPN6.out.bl.size;have:=HQ.out;omega) (by simp;omega)⟩⟩;clear hkr hol hrd hbo hbe hdr hk;obtain ⟨wk,rfl⟩:∃x,x=wr:=⟨_,rfl⟩
  cases gk with
  | zero=>
   have hkr:=HKR.out;have hgo:G=some out:=hkr.symm;have hoz:=Ktr (by rw[HSL.out];omega) n [] j1 (by rw[HGG.out];exact hgo) (by rw[HSL.out];exact HJ1.out.2) (Nat.zero_le _) (by simp);have hom:=Kno n [] j1 (by rw[HGG.out];exact hgo) (by rw[HSL.out];exact HJ1.out.2);rw[HSL.out] at hoz hom;have hrr:r=if fitK out=true∧encK out=S.data.toList then .ok out else .error 150:=by rw[←HR.out];exact Qgr HR0.out (by rw[HG.out];exact hgo)
   obtain ⟨A,c,rfl⟩:=Kdp HDR.out.own
   have hsers:KSers wk A ys.length out:=by
    have hown:=HDR.out.own;obtain ⟨A',c',e',h1,h2,_⟩:=Elems.of_own (fun y _=>Ktg y) rfl hown rfl;injection e' with e1 e2 e3;subst e1
    exact ⟨ys,h1,HDR.out.len.symm,fun i hi=>by
     have:=HDR.out.at_ i (by rw[←HDR.out.len];exact hi)
     exact ⟨this.1,this.2.1⟩⟩
   have hbk:=HPNk.out.bl;have hyl:ys.length≤268435456:=by rw[HDR.out.len];have:=HOL.out;omega
   have hen:=Khg out A ys.length c wk hsers hoz.1 (by omega) (HT.out.below (by rw[HQ.out];exact hbk)) (HN.out.below HN.out.lt (by rw[HQ.out];exact hbk)) (fun hf=>by
    have h1:=Koq hf;have h2:=Qkz hf;have h3:massK ([]:List KSer)=0:=rfl
    omega)
   obtain ⟨E1,hE1⟩:∃E:ByteArray,(⟨(kencF out).1.toArray⟩:ByteArray)=E:=⟨_,rfl⟩;rw[hE1] at hen;have hEd:E1.data.toList=(kencF out).1:=by rw[←hE1]
   have HEN:=Jh hen;have HED:=Jh hEd;have HOZ:=Jh hoz;have HRR:=Jh hrr;have HSE:=Jh hsers;have c0:wk.cell? ⟨q,0,none⟩=some (.slice A ys.length c):=HBO.out.cell 0;have hqk:q < wk.heap.size:=HBO.out.lt;clear hkr hoz hom hrr hsers hbk hen hE1 hEd hmf;go_wp2_with fail
   refine HEN.out.mono ?_;rintro _ w7 ⟨rfl,hb7⟩;have hbo7:=HBO.out.below hb7 HBO.out.lt;have hbe7:=HBE.out.below hb7 HBE.out.lt;have hbl7:=HPNk.out.bl.trans (hb7.mono (by have:=HPNk.out.bl.size;have:=HQ.out;omega));have HSE7:=Jh (HSE.out.below hb7);have HBO7:=Jh hbo7;have HBE7:=Jh hbe7;have HBL7:=Jh hbl7;have c7:w7.cell? ⟨q,0,none⟩=some (.slice A ys.length c):=hbo7.cell 0;have e7:w7.cell? ⟨q+1,0,none⟩=some (.int .i64 0):=hbe7.cell 0;have f7:=hbo7.frozen 0;have g7:=hbe7.frozen 0;have l7:=hbe7.lt;clear c0 hb7 hbo7 hbe7 hbl7
   by_cases hES:E1=S
   ·subst hES
    have hok:fitK out=true∧encK out=E1.data.toList:=by
     have h1:=HED.out;unfold kencF at h1
     by_cases hf:fitK out=true
     ·rw[if_pos hf] at h1;exact ⟨hf,h1.symm⟩
     ·rw[if_neg hf] at h1;exfalso;have h2:=HR0.out;rw[h1] at h2;cases h2
    have hrr:=HRR.out;rw[if_pos hok] at hrr;subst hrr;have HLEN:=Jh HDR.out.len;clear hok;go_wp2_with fail
    refine leaves_cons (f:=44) (args:=#[.pointer (some ⟨q,0,none⟩),.pointer (some ⟨q+1,0,none⟩)]) (by simp) (by simp[go_sem]) ?_;refine (Knm _ _ _).mono ?_;rintro e u' w'' ⟨rfl,rfl,rfl⟩;have s0:w7.setCell ⟨q,0,none⟩ (.slice A ys.length c)=w7:=Kmc HBO7.out (i:=0) rfl;have s1:w7.setCell ⟨q+1,0,none⟩ (.int .i64 0)=w7:=Kmc HBE7.out (i:=0) rfl;rw[s0,s1];refine ⟨_,kres2 _ HBO7.out HBE7.out (by rfl) (by rfl),?_,by rw[HQ.out];exact HBL7.out⟩;exact ⟨A,c,by rw[←HLEN.out],by rw[←HLEN.out];exact HSE7.out,HOZ.out.1,by rw[←HLEN.out];exact hyl⟩
   ·obtain ⟨hd1,hd2,hd3,hd4⟩:=Ktd hES;have hrr:=HRR.out
    rw[if_neg (fun h=>hES (by
     have h1:=HED.out;unfold kencF at h1;rw[if_pos h.1,h.2] at h1
     exact Qoo h1))] at hrr
    subst hrr;go_wp2_with fail
    refine leaves_cons (f:=44) (args:=#[.pointer (some ⟨q,0,none⟩),.pointer (some ⟨q+1,0,none⟩)]) (by simp) (by simp[go_sem]) ?_;refine (Knm _ _ _).mono ?_;rintro e u' w'' ⟨rfl,rfl,rfl⟩;have k1:=(HBO7.out.set_ 0 (.slice none 0 0)).far (p:=⟨q+1,0,none⟩) (by show q≠q+1;omega) (.int .i64 150);have k2:=(HBE7.out.far (p:=⟨q,0,none⟩) (by show q+1≠q;omega) (.slice none 0 0)).set_ 0 (.int .i64 150);have k3:=(HBL7.out.setCell (p:=⟨q,0,none⟩) (Nat.le_refl q) (.slice none 0 0)).setCell (p:=⟨q+1,0,none⟩) (Nat.le_succ q) (.int .i64 150);refine ⟨_,kres2 _ k1 k2 (by rfl) (by rfl),rfl,by rw[HQ.out];exact k3⟩
  | succ g=>
   have el:decide (0 < g+1)=true:=by rw[decide_eq_true_eq];omega
   have hkr:=HKR.out;rw[Ked] at hkr;have htk:KTab wk.drew pr p t:=(HTB6.out.kept2 HK.out (by omega)).kept (Kept.of_below (Below.refl _ _).drew);have hbw:Below w.heap.size w wk.drew:=by rw[HQ.out];exact HPNk.out.bl.trans (Below.refl _ _).drew
   have hse:=Kxy HKE.out i wk.drew (HRDk.out.below (Below.refl _ _).drew) hi htk hbw;obtain ⟨Z,hZ⟩:∃Z,kserR t B.data.toList i=Z:=⟨_,rfl⟩;rw[hZ] at hse hkr;have HZ:=Jh hZ;have HKR2:=Jh hkr;have HSE:=Jh hse;have hS:wk.drew.cell? ⟨q,0,none⟩=some sv:=HBO.out.cell 0;have hqk:q < wk.heap.size:=HBO.out.lt;clear htk hbw hse hZ hkr;go_upto_region 10 with fail
   refine Qjy (KPan w q r [{ target:=Target.fn (Fn.func 44) #[.pointer (some ⟨q,0,none⟩),.pointer (some ⟨q+1,0,none⟩)],args:=#[] }]) ?_ ?_
   ·rintro c ⟨tmps,dfs⟩ we ⟨⟨tt,xx,rfl⟩,hpn,hnr,hd,ht2,ht3⟩;dsimp only at hd ht2 ht3;subst hd;refine leaves_cons (f:=44) (args:=#[.pointer (some ⟨q,0,none⟩),.pointer (some ⟨q+1,0,none⟩)]) (by simp) (by simp[go_sem]) ?_;refine (Kij we hpn _ _).mono ?_;rintro e u' w'' ⟨rfl,rfl,k1,k2,k3⟩;exact Koz k1 k2 k3 hnr ht2 ht3 HQ.out
   refine Kce (fun w'=>w'.cell? ⟨q,0,none⟩=some sv) 5 7 (by kernel_rfl) rfl ?_;rw[show Array.replicate 7 false = #[false,false,false,false,false,false,false] from rfl];refine Kap (i:=0) (d:=some 30) rfl rfl (by kernel_rfl) (by kernel_rfl) (by kernel_rfl) (by kernel_rfl) rfl (by first | exact fun _ _ _ h=>KPan.put (by decide) (by decide) h | exact fun _ _ _ h=>h) (.inl ⟨by rfl,fun w hw=>by (go_simp;try rfl)⟩) hS ?_;simp only[Act.put,Ja,Jb,Jc];refine Kaa (i:=1) (d:=some 31) rfl rfl (by kernel_rfl) (by kernel_rfl) (by kernel_rfl) rfl (by first | exact fun _ _ _ h=>KPan.put (by decide) (by decide) h | exact fun _ _ _ h=>h) (by rfl) (fun w=>by go_simp;try rfl) (fun _=>hS) ?_;simp only[Act.put,Ja,Jb,Jc];refine Kaa (i:=2) (d:=some 32) rfl rfl (by kernel_rfl) (by kernel_rfl) (by kernel_rfl) rfl (by first | exact fun _ _ _ h=>KPan.put (by decide) (by decide) h | exact fun _ _ _ h=>h) (by rfl) (fun w=>by go_simp;try rfl) (fun _=>hS) ?_;simp only[Act.put,Ja,Jb,Jc]
   cases Z with
   | none=>
    have HNONE:Hid (r = .error 150):=Jh (HNO.out HKR2.out.symm);refine Kak (i:=3) (by kernel_rfl) rfl rfl ?_;refine Oper.wp_calledK (d:=some 33) (w1:=wk.drew) (g:=49) (args:=#[.pointer (some ⟨pr,0,none⟩),.pointer (some ⟨p,0,none⟩)]) rfl (by go_simp;try rfl) (N:=fun _ _=>False) (HSE.out.mono ?_) (fun _ _ h=>h.elim);rintro e we ⟨⟨tt,xx,rfl⟩,hke⟩;refine .inr ⟨_,rfl,?_⟩;exact ⟨⟨_,_,rfl⟩,(HPNk.out.below (Below.refl _ _).drew).kept hke (fun k hk=>by rw[List.mem_singleton.1 hk];exact hprq),HNONE.out,rfl,rfl,rfl⟩
   | some x=>
    obtain ⟨s,i2⟩:=x;refine Kak (i:=3) (by kernel_rfl) rfl rfl ?_;refine Oper.wp_calledK (d:=some 33) (w1:=wk.drew) (g:=49) (args:=#[.pointer (some ⟨pr,0,none⟩),.pointer (some ⟨p,0,none⟩)]) rfl (by go_simp;try rfl) (N:=fun u w'=>∃h:KHd,u=kserV h s.max∧KRes w' wk.drew.heap.size h s∧Rdr pr B i2 w'∧Kept wk.drew.heap.size [pr] wk.drew w') (HSE.out.mono ?_) ?_
    ·rintro e we ⟨⟨h,rfl,h1⟩,h2,h3⟩;exact .inl ⟨_,rfl,h,rfl,h1,h2,h3⟩
    rintro u w7 ⟨h,rfl,hres,hrd7,hk7⟩;have hk7':Kept wk.heap.size [pr] wk w7:=(Kept.of_below (Below.refl _ _).drew).trans hk7;have hbo7:=HBO.out.kept hk7' HBO.out.lt (by simp;omega);have hbe7:=HBE.out.kept hk7' HBE.out.lt (by simp;omega);have hS:w7.cell? ⟨q,0,none⟩=some sv:=hbo7.cell 0;have hdr7:=HDR.out.kept hk7' hprQ;refine ⟨fun _=>hS,?_⟩;simp only[Act.put,Ja,Jb,Jc];obtain ⟨g7,hg7⟩:∃x,w7.heap.size=x:=⟨_,rfl⟩;have hb8:Below w7.heap.size w7 (w7.alloc (.cells (encKY ⟨h,s.max⟩).toArray 85)):=(Below.refl _ _).alloc (Nat.le_refl _) _;have hk8:Blk (w7.alloc (.cells (encKY ⟨h,s.max⟩).toArray 85)) g7 85 (encKY ⟨h,s.max⟩).toArray:=by rw[←hg7];exact Blk.new _ _ _
    refine Kak (i:=4) (by kernel_rfl) rfl rfl ?_;refine Oper.wp_ran (d:=some 34) (w':=w7.alloc (.cells (encKY ⟨h,s.max⟩).toArray 85)) (v:=.slice (some ⟨w7.heap.size,0,none⟩) 1 1) rfl (by unfold kserV encKY;go_simp;try rfl) ?_;obtain ⟨w8,hw8⟩:∃x,w7.alloc (.cells (encKY ⟨h,s.max⟩).toArray 85)=x:=⟨_,rfl⟩;rw[hw8] at hb8 hk8;rw[hw8,hg7];have hbo8:=hbo7.below hb8 hbo7.lt;have hbe8:=hbe7.below hb8 hbe7.lt;have hrd8:=hrd7.below hb8;have hS:w8.cell? ⟨q,0,none⟩=some sv:=hbo8.cell 0;have hk78:Kept wk.heap.size [pr] wk w8:=hk7'.trans ((Kept.of_below hb8).mono hk7'.size (fun _ _ h=>h));have hdr8:=HDR.out.kept hk78 hprQ;have hres8:=hres.kept (ex:=[]) (by simp) (Kept.of_below hb8);refine ⟨fun _=>hS,?_⟩;simp only[Act.put,Ja,Jb,Jc];refine Kak (i:=5) (by kernel_rfl) rfl rfl ?_;have hyl:ys.length≤268435456:=by rw[HDR.out.len];have:=HOL.out;omega
    refine OpW.of (wp_append_lies w8 _ _ _ rfl QQ 85 ib (.agg #[.slice none 0 0,.int .i64 0,.slice none 0 0,.slice none 0 0,.slice none 0 0,.slice none 0 0]) 6 128 Tryz.underlying22 hib hz0 hz1 hz2 rfl (by decide) sv ys.length (ys.flatMap encKY) rfl hdr8.own ⟨g7,0,none⟩ 1 1 (encKY ⟨h,s.max⟩) rfl rfl ?c1 ?c2 (by decide) (by unfold maxLen;omega) (by omega) ?c5 w8.heap.size rfl ?c6)
    case c1=>exact Kav (l:=encKY ⟨h,s.max⟩) hk8
    case c2=>
     intro u hu;simp only[encKY,List.mem_cons,List.not_mem_nil,or_false] at hu;rcases hu with rfl | rfl | rfl | rfl | rfl | rfl <;> rfl
    case c5=>have:=hk78.size;have:=HK.out.size;have:=HQQ.out;omega
    intro g9 cap w9 hown hgr hat hlt;have hsvlt:∀b,sv.ownBlock=some b→QQ≤b∧b < wk.heap.size:=fun b hb=>World.ownsRow.lt HDR.out.own b hb
    have hQ8:QQ≤w8.heap.size:=by have:=hk78.size;have:=HK.out.size;have:=HQQ.out;omega
    have hbo9:Blk w9 q 22 #[sv]:=(hgr.block q hbo8.lt (fun e=>by have:=(hsvlt q e.symm).1;omega)).trans hbo8;have hbe9:Blk w9 (q+1) 23 #[.int .i64 0]:=(hgr.block (q+1) hbe8.lt (fun e=>by have:=(hsvlt (q+1) e.symm).1;omega)).trans hbe8;have hrd9:Rdr pr B i2 w9:=(hgr.block pr (by omega) (fun e=>by have:=(hsvlt pr e.symm).1;omega)).trans hrd8;have hdr9:=hdr8.add hres8.at_ hres8.five (B:=wk.heap.size) (by have:=HK.out.size;have:=HQQ.out;omega) (fun b hb=>(hsvlt b hb).2) hown hgr hat
    have hk9:Kept w6.heap.size [q,pr] w6 w9:=by
     have h1:Kept w6.heap.size [q,pr] w6 w8:=HK.out.trans (hk78.mono HK.out.size (fun k _ h=>by simp at h ⊢;exact .inr h));exact h1.trans ⟨hgr.os,hgr.tape,hgr.output,hgr.size,fun k hlt _=>hgr.block k (by have:=h1.size;omega) (fun e=>by have:=(hsvlt k e.symm).1;have:=HQQ.out;omega)⟩
    refine ⟨fun h=>absurd h (by decide),?_⟩;simp only[Act.put,Ja,Jb,Jc];refine Kak (i:=6) (by kernel_rfl) rfl rfl ?_;have c9:w9.cell? ⟨q,0,none⟩=some sv:=hbo9.cell 0;have f9:=hbo9.frozen 0;have l9:=hbo9.lt;refine Oper.wp_skipped (w':=w9.setCell ⟨q,0,none⟩ (.slice (some ⟨g9,0,none⟩) (ys.length+1) cap)) rfl (by go_simp;try rfl) ?_;refine ⟨fun h=>absurd h (by decide),?_⟩;refine Kaw (by kernel_rfl) ?_ _;have HDR9:=Jh (hdr9.kept (pr:=q) ((Kept.refl _ _ _).setCell (p:=⟨q,0,none⟩) (.inl (by simp)) (.slice (some ⟨g9,0,none⟩) (ys.length+1) cap)) (by omega));have HBO9:=Jh (hbo9.set_ 0 (.slice (some ⟨g9,0,none⟩) (ys.length+1) cap));have HBE9:=Jh (hbe9.far (p:=⟨q,0,none⟩) (by show q+1≠q;omega) (.slice (some ⟨g9,0,none⟩) (ys.length+1) cap));have HRD9:Hid (Rdr pr B i2 (w9.setCell ⟨q,0,none⟩ (.slice (some ⟨g9,0,none⟩) (ys.length+1) cap))):=Jh ((show Blk w9 _ _ _ from hrd9).far (p:=⟨q,0,none⟩) (by show pr≠q;omega) _);have HK9:=Jh (hk9.setCell (p:=⟨q,0,none⟩) (.inl (by simp)) (.slice (some ⟨g9,0,none⟩) (ys.length+1) cap));have hsz9:=Kxx HZ.out (by rw[HSL.out];exact hi) (by rw[HSL.out];omega);rw[HSL.out] at hsz9;have HKR3:Hid (Ked t B.data.toList g (out ++ [s]) i2=G):=Jh HKR2.out;have hw64:IntKind.u64.wrap (((g+1:Nat):Int) - 1)=(g:Int):=by rw[IntKind.wrap_u64];omega
    have hw65:IntKind.u64.wrap ((g:Int)+1 - 1)=(g:Int):=by rw[IntKind.wrap_u64];omega
    dsimp only[Qgy];clear hS hk7 hk7' hbo7 hbe7 hdr7 hb8 hk8 hbo8 hbe8 hrd8 hk78 hdr8 hres8 hown hgr hat hlt hsvlt hQ8 hbo9 hbe9 hrd9 hdr9 hk9 c9 f9 l9 hrd7 hres hg7 hw8;go_wp2_with fail
    go_roundg g
    case measure=>omega
    case rel=>exact ⟨i2,out ++ [s],_,_,by first | rfl | go_num,by omega,HKR3.out,hsz9.2.2,by rw[List.length_append,List.length_singleton];have:=HOL.out;omega,HRD9.out,HBO9.out,HBE9.out,HDR9.out,HK9.out⟩
end
section
open Go.RowKit Go.Shelf Go.Sort
attribute [local go_sem ↓] Go.wp_at_zero Go.wp_at_succ
attribute [local go_sem] Later.cell
theorem Qhg:(Tryz.prog.info? 110).map (fun i=>(i.zero,i.size,i.bytes))=some (some (.agg #[.int .i64 0,.int .i64 0]),2,16):=by kernel_rfl
end
section
open Go.RowKit
attribute [local go_sem ↓] Go.wp_at_zero Go.wp_at_succ
attribute [local go_sem] Later.cell
theorem Elems.get {α : Type} [Inhabited α] {w:World} {B sz n:Nat} {enc:α→List Value} {A:Option Addr} {xs:List α} (h:Elems w B sz enc A n xs) {i:Nat} (hi:i < n):∃b off,A=some ⟨b,off,none⟩∧b < B∧∀j v,(enc xs[i]!)[j]? = some v→w.cell? ⟨b,off+i*sz+j,none⟩=some v:=by
 obtain ⟨b,off,e,hb,hc⟩:=h.2 (by omega);have hl:i < xs.length:=by have:=h.len;omega
 refine ⟨b,off,e,hb,fun j v hv=>hc i xs[i]! (by rw[getElem!_pos xs i hl];exact List.getElem?_eq_getElem hl) j v hv⟩
end
section
open Go.RowKit
open Lib renaming hid → Jh
attribute [local go_sem ↓] Go.wp_at_zero Go.wp_at_succ
attribute [local go_sem] Later.cell
theorem Qkl (m:List Lb):cmpL [] m=if m = [] then 0 else -1:=by cases m <;> rfl
theorem Qgk (m:List Lb):cmpL m []=if m = [] then 0 else 1:=by cases m <;> rfl
theorem Ksk (l m:List Lb) (A B:Option Addr) (n k ca cb:Nat) (w:World) (r:Int) (hr:cmpL l m=r) (hA:Elems w w.heap.size 2 encLb A n l) (hB:Elems w w.heap.size 2 encLb B k m) (hn:n≤140737488351232) (hk:k≤140737488351232) :
  Calls Tryz.prog 42 #[.slice A n ca,.slice B k cb] w fun e w'=>e = .returned (.int .i64 r)∧Below w.heap.size w w':=by
 have HR:=Jh hr;have HLN:=Jh hA.len;have HMK:=Jh hB.len;clear hr;go_enter Tryz.func42,Tryz.ntmps42
 go_wp2_with fail
 go_loopg [5] n (fun g s5 wr=>∃i:Nat,s5 = .int .i64 (i:Int)∧i+g=n∧i≤k∧cmpL (l.drop i) (m.drop i)=r∧Below w.heap.size w wr)
 case atStart=>exact ⟨0,rfl,by omega,Nat.zero_le _,HR.out,Below.refl _ _⟩
 case round=>
  obtain ⟨i,rfl,hig,hik,hcm,hB0⟩:=hrel;have HIG:=Jh hig;have HCM:=Jh hcm;clear hig hcm
  by_cases hi:i < n
  ·have el:decide (i < n)=true:=by rw[decide_eq_true_eq];exact hi
   by_cases hi2:i < k
   ·have el2:decide (i < k)=true:=by rw[decide_eq_true_eq];exact hi2
    obtain ⟨w0,rfl⟩:∃x,x=wr:=⟨_,rfl⟩;have hil:i < l.length:=by have:=HLN.out;omega
    have him:i < m.length:=by have:=HMK.out;omega
    have hn0:0 < n:=by omega
    have hk0:0 < k:=by omega
    obtain ⟨b,off,rfl,hbl,_⟩:=hA.2 hn0;obtain ⟨b',off',rfl,hbm,_⟩:=hB.2 hk0;obtain ⟨x,hx⟩:∃x,l[i]! = x:=⟨_,rfl⟩;obtain ⟨y,hy⟩:∃y,m[i]! = y:=⟨_,rfl⟩;obtain ⟨XN,hXN⟩:∃N:ByteArray,(⟨x.n.toArray⟩:ByteArray)=N:=⟨_,rfl⟩;obtain ⟨XV,hXV⟩:∃N:ByteArray,(⟨x.v.toArray⟩:ByteArray)=N:=⟨_,rfl⟩;obtain ⟨YN,hYN⟩:∃N:ByteArray,(⟨y.n.toArray⟩:ByteArray)=N:=⟨_,rfl⟩;obtain ⟨YV,hYV⟩:∃N:ByteArray,(⟨y.v.toArray⟩:ByteArray)=N:=⟨_,rfl⟩;have hdl:l.drop i=x :: l.drop (i+1):=by rw[←hx,getElem!_pos l i hil];exact List.drop_eq_getElem_cons hil
    have hdm:m.drop i=y :: m.drop (i+1):=by rw[←hy,getElem!_pos m i him];exact List.drop_eq_getElem_cons him
    have hcm:=HCM.out;rw[hdl,hdm,cmpL] at hcm;obtain ⟨q1,hq1⟩:∃q,Op.bytesLess XN.toList YN.toList=q:=⟨_,rfl⟩;obtain ⟨q2,hq2⟩:∃q,(XN.toList == YN.toList)=q:=⟨_,rfl⟩;obtain ⟨q3,hq3⟩:∃q,Op.bytesLess XV.toList YV.toList=q:=⟨_,rfl⟩;obtain ⟨q4,hq4⟩:∃q,(XV.toList == YV.toList)=q:=⟨_,rfl⟩;have k1:q1=decide (x.n < y.n):=by rw[←hq1,←hXN,Kkk,←hYN]
    have k2:q2=decide (x.n=y.n):=by rw[←hq2,←hXN,←hYN,ByteArray.toList_eq,ByteArray.toList_eq,Bool.eq_iff_iff];simp
    have k3:q3=decide (x.v < y.v):=by rw[←hq3,←hXV,Kkk,←hYV]
    have k4:q4=decide (x.v=y.v):=by rw[←hq4,←hXV,←hYV,ByteArray.toList_eq,ByteArray.toList_eq,Bool.eq_iff_iff];simp
    have HQ1:Hid (q1=true→r = -1):=Jh (fun h=>by rw[k1,decide_eq_true_eq] at h;rw[if_pos h] at hcm;exact hcm.symm);have HQ2:Hid (q1=false→q2=false→r=1):=Jh (fun h1 h=>by rw[k1,decide_eq_false_iff_not] at h1;rw[k2,decide_eq_false_iff_not] at h;rw[if_neg h1,if_pos (Decidable.byContradiction fun h3=>h (Kgm h1 h3))] at hcm;exact hcm.symm);have HQ3:Hid (q1=false→q2=true→q3=true→r = -1):=Jh (fun h1 h2 h=>by rw[k1,decide_eq_false_iff_not] at h1;rw[k2,decide_eq_true_eq] at h2;rw[k3,decide_eq_true_eq] at h;rw[if_neg h1,if_neg (by rw[h2];exact List.lt_irrefl _),if_pos h] at hcm;exact hcm.symm);have HQ4:Hid (q1=false→q2=true→q3=false→q4=false→r=1):=Jh (fun h1 h2 h3 h=>by rw[k1,decide_eq_false_iff_not] at h1;rw[k2,decide_eq_true_eq] at h2;rw[k3,decide_eq_false_iff_not] at h3;rw[k4,decide_eq_false_iff_not] at h;rw[if_neg h1,if_neg (by rw[h2];exact List.lt_irrefl _),if_neg h3,if_pos (Decidable.byContradiction fun h5=>h (Kgm h3 h5))] at hcm;exact hcm.symm);have HQ5:Hid (q1=false→q2=true→q3=false→q4=true→cmpL (l.drop (i+1)) (m.drop (i+1))=r):=Jh (fun h1 h2 h3 h=>by rw[k1,decide_eq_false_iff_not] at h1;rw[k2,decide_eq_true_eq] at h2;rw[k3,decide_eq_false_iff_not] at h3;rw[k4,decide_eq_true_eq] at h;rw[if_neg h1,if_neg (by rw[h2];exact List.lt_irrefl _),if_neg h3,if_neg (by rw[h];exact List.lt_irrefl _)] at hcm;exact hcm);have HX:=Jh hx;have HY:=Jh hy;have HXN:=Jh hXN;have HXV:=Jh hXV;have HYN:=Jh hYN;have HYV:=Jh hYV;obtain ⟨_,a0,a1⟩:=Kdi hA hn0 hB0 i hil;obtain ⟨_,d0,d1⟩:=Kdi hB hk0 hB0 i him;rw[hx,hXN] at a0;rw[hx,hXV] at a1;rw[hy,hYN] at d0;rw[hy,hYV] at d1;have hbl0:b < w0.heap.size:=by have:=hB0.size;omega
    have hbm0:b' < w0.heap.size:=by have:=hB0.size;omega
    clear k1 k2 k3 k4 hcm hdl hdm hx hy hXN hXV hYN hYV;go_upto_region 4 with fail
    refine Kab (by kernel_rfl) (by kernel_rfl) ?_
    repeat (go_big_quiet_step (fail))
    refine wpQuiet_nil ?_;rintro w1 ⟨⟨_,hb1⟩,rfl⟩;have hB1:Below w.heap.size w w1:=then_ hB0 hb1;obtain ⟨_,a0,a1⟩:=Kdi hA hn0 hB1 i hil;obtain ⟨_,d0,d1⟩:=Kdi hB hk0 hB1 i him;rw[HX.out,HXN.out] at a0;rw[HX.out,HXV.out] at a1;rw[HY.out,HYN.out] at d0;rw[HY.out,HYV.out] at d1;have hbl1:b < w1.heap.size:=by have:=hB1.size;omega
    have hbm1:b' < w1.heap.size:=by have:=hB1.size;omega
    cases q1 with
    | true=>
     have hre:r = -1:=HQ1.out rfl;subst hre;go_wp2_with fail
     go_ret
     exact ⟨rfl,hB1⟩
    | false=>
     go_upto_region 6 with fail
     refine Kab (by kernel_rfl) (by kernel_rfl) ?_
     repeat (go_big_quiet_step (fail))
     refine wpQuiet_nil ?_;rintro w2 ⟨⟨_,hb2⟩,rfl⟩;have hB2:Below w.heap.size w w2:=then_ hB1 hb2;obtain ⟨_,a0,a1⟩:=Kdi hA hn0 hB2 i hil;obtain ⟨_,d0,d1⟩:=Kdi hB hk0 hB2 i him;rw[HX.out,HXN.out] at a0;rw[HX.out,HXV.out] at a1;rw[HY.out,HYN.out] at d0;rw[HY.out,HYV.out] at d1;have hbl2:b < w2.heap.size:=by have:=hB2.size;omega
     have hbm2:b' < w2.heap.size:=by have:=hB2.size;omega
     cases q2 with
     | false=>
      have hre:r=1:=HQ2.out rfl rfl;subst hre;go_wp2_with fail
      go_ret
      exact ⟨rfl,hB2⟩
     | true=>
      go_upto_region 8 with fail
      refine Kab (by kernel_rfl) (by kernel_rfl) ?_
      repeat (go_big_quiet_step (fail))
      refine wpQuiet_nil ?_;rintro w3 ⟨⟨_,hb3⟩,rfl⟩;have hB3:Below w.heap.size w w3:=then_ hB2 hb3;obtain ⟨_,a0,a1⟩:=Kdi hA hn0 hB3 i hil;obtain ⟨_,d0,d1⟩:=Kdi hB hk0 hB3 i him;rw[HX.out,HXN.out] at a0;rw[HX.out,HXV.out] at a1;rw[HY.out,HYN.out] at d0;rw[HY.out,HYV.out] at d1;have hbl3:b < w3.heap.size:=by have:=hB3.size;omega
      have hbm3:b' < w3.heap.size:=by have:=hB3.size;omega
      cases q3 with
      | true=>
       have hre:r = -1:=HQ3.out rfl rfl rfl;subst hre;go_wp2_with fail
       go_ret
       exact ⟨rfl,hB3⟩
      | false=>
       go_upto_region 10 with fail
       refine Kab (by kernel_rfl) (by kernel_rfl) ?_
       repeat (go_big_quiet_step (fail))
       refine wpQuiet_nil ?_;rintro w4 ⟨⟨_,hb4⟩,rfl⟩;have hB4:Below w.heap.size w w4:=then_ hB3 hb4;obtain ⟨_,a0,a1⟩:=Kdi hA hn0 hB4 i hil;obtain ⟨_,d0,d1⟩:=Kdi hB hk0 hB4 i him;rw[HX.out,HXN.out] at a0;rw[HX.out,HXV.out] at a1;rw[HY.out,HYN.out] at d0;rw[HY.out,HYV.out] at d1;have hbl4:b < w4.heap.size:=by have:=hB4.size;omega
       have hbm4:b' < w4.heap.size:=by have:=hB4.size;omega
       cases q4 with
       | false=>
        have hre:r=1:=HQ4.out rfl rfl rfl rfl;subst hre;go_wp2_with fail
        go_ret
        exact ⟨rfl,hB4⟩
       | true=>
         go_wp2_with fail
         go_roundg (gk - 1)
         case measure=>have:=HIG.out;omega
         case rel=>exact ⟨i+1,by go_num,by have:=HIG.out;omega,by omega,by first | exact HQ5.out rfl rfl rfl rfl | simpa using HQ5.out,hB4⟩
   ·have el2:decide (i < k)=false:=by rw[decide_eq_false_iff_not];exact hi2
    have hik2:i=k:=by omega
    have hre:r=1:=by
     have h1:=HCM.out;rw[List.drop_eq_nil_of_le (show m.length≤i by have:=HMK.out;omega),Qgk,if_neg (by rw[List.drop_eq_nil_iff];have:=HLN.out;omega)] at h1;exact h1.symm
    have e1:decide (n < k)=false:=by rw[decide_eq_false_iff_not];omega
    have e2:decide (k < n)=true:=by rw[decide_eq_true_eq];omega
    subst hre;go_wp2_with fail
    go_ret
    exact ⟨rfl,hB0⟩
  ·have el:decide (i < n)=false:=by rw[decide_eq_false_iff_not];exact hi
   have hin:i=n:=by have:=HIG.out;omega
   have h1:=HCM.out;rw[List.drop_eq_nil_of_le (show l.length≤i by have:=HLN.out;omega),Qkl] at h1
   by_cases hnk:n < k
   ·have hre:r = -1:=by
     rw[if_neg (by rw[List.drop_eq_nil_iff];have:=HMK.out;omega)] at h1;exact h1.symm
    have e1:decide (n < k)=true:=by rw[decide_eq_true_eq];exact hnk
    subst hre;clear h1;go_wp2_with fail
    go_ret
    exact ⟨rfl,hB0⟩
   ·have hre:r=0:=by
     rw[if_pos (by rw[List.drop_eq_nil_iff];have:=HMK.out;omega)] at h1;exact h1.symm
    have e1:decide (n < k)=false:=by rw[decide_eq_false_iff_not];exact hnk
    have e2:decide (k < n)=false:=by rw[decide_eq_false_iff_not];omega
    subst hre;clear h1;go_wp2_with fail
    go_ret
    exact ⟨rfl,hB0⟩
end
section
open Go.RowKit Go.Shelf Go.Sort
attribute [local go_sem ↓] Go.wp_at_zero Go.wp_at_succ
attribute [local go_sem] Later.cell
theorem KSers.at_ {w:World} {A:Option Addr} {n i:Nat} {L:List KSer} (h:KSers w A n L) (hi:i < n):∃(b off:Nat) (hd:KHd),A=some ⟨b,off,none⟩∧b < w.heap.size∧
  w.cell? ⟨b,off+i*6,none⟩=some (.slice hd.l.A hd.l.n hd.l.c)∧w.cell? ⟨b,off+i*6+1,none⟩=some (.int .i64 L[i]!.max)∧w.cell? ⟨b,off+i*6+2,none⟩=some (.slice hd.g0.A hd.g0.n hd.g0.c)∧w.cell? ⟨b,off+i*6+3,none⟩=some (.slice hd.g1.A hd.g1.n hd.g1.c)∧w.cell? ⟨b,off+i*6+4,none⟩=some (.slice hd.g2.A hd.g2.n hd.g2.c)∧w.cell? ⟨b,off+i*6+5,none⟩=some (.slice hd.s.A hd.s.n hd.s.c)∧KAt w hd L[i]!:=by
 obtain ⟨ys,h1,h2,h3⟩:=h;obtain ⟨b,off,e,hb,hc⟩:=h1.getS hi;obtain ⟨e1,e2⟩:=h3 i hi;refine ⟨b,off,ys[i]!.h,e,hb,hc 0 _ rfl,?_,hc 2 _ rfl,hc 3 _ rfl,hc 4 _ rfl,hc 5 _ rfl,e2⟩;rw[←e1];exact hc 1 _ rfl
theorem KSers.len {w:World} {A:Option Addr} {n:Nat} {L:List KSer} (h:KSers w A n L):L.length=n:=by obtain ⟨_,_,h,_⟩:=h;exact h
end
section
open Go.RowKit Go.Shelf Go.Sort
open Lib renaming hid → Jh
attribute [local go_sem ↓] Go.wp_at_zero Go.wp_at_succ
attribute [local go_sem] Later.cell
theorem Qky {a b:KSer} (h1:a.labels=b.labels) (h2:a.max=b.max) (h3:∀i,i < 3→a.g i=b.g i) (h4:a.samples=b.samples):a=b:=by
 have k0:a.g0=b.g0:=h3 0 (by omega);have k1:a.g1=b.g1:=h3 1 (by omega);have k2:a.g2=b.g2:=h3 2 (by omega);cases a
 cases b
 dsimp only at h1 h2 h4 k0 k1 k2;rw[h1,h2,h4,k0,k1,k2]
instance kserEq:DecidableEq KSer:=fun a b=>by
 cases a
 cases b
 simp only[KSer.mk.injEq]
 infer_instance
theorem Kvl (La Lb:List KSer) (A B:Option Addr) (n m ca cb:Nat) (w:World) (hA:KSers w A n La) (hB:KSers w B m Lb) (hn:n≤1099511627776) (hm:m≤1099511627776)
  (hza:∀s∈La,KSz s) (hzb:∀s∈Lb,KSz s) :
  Calls Tryz.prog 50 #[.slice A n ca,.slice B m cb] w fun e w'=>e = .returned (.bool (decide (La=Lb)))∧Below w.heap.size w w':=by
 have HLA:=Jh hA.len;have HLB:=Jh hB.len;have HSA0:=Jh hA;have HSB0:=Jh hB;have HZA:=Jh hza;have HZB:=Jh hzb;obtain ⟨R,hR⟩:∃R,decide (La=Lb)=R:=⟨_,rfl⟩;rw[hR];have HR:=Jh hR;obtain ⟨q,hq⟩:∃q,w.heap.size=q:=⟨_,rfl⟩;have HQ:=Jh hq;rw[hq];clear hR hq hA hB hza hzb
 by_cases hnm:n=m
 ·subst hnm;go_enter Tryz.func50,Tryz.ntmps50
  go_wp2_with fail
  go_loopg [5] n (fun g s5 wr=>∃i:Nat,i+g=n∧s5 = .int .i64 (i:Int)∧(∀j,j < i→La[j]! = Lb[j]!)∧Below q w wr)
  case atStart=>exact ⟨0,by omega,rfl,fun j hj=>by omega,Below.refl _ _⟩
  case round=>
   obtain ⟨i,hig,rfl,hsame,hbr⟩:=hrel;have HIG:=Jh hig;have HSAME:=Jh hsame;have HBR0:=Jh hbr;clear hig hsame hbr
   by_cases hi:i < n
   ·have el:decide (i < n)=true:=by rw[decide_eq_true_eq];exact hi
    obtain ⟨wo,rfl⟩:∃x,x=wr:=⟨_,rfl⟩;have hBo:Below w.heap.size w wo:=by rw[HQ.out];exact HBR0.out
    have hila:i < La.length:=by have:=HLA.out;omega
    have hilb:i < Lb.length:=by have:=HLB.out;omega
    obtain ⟨b,off,x,rfl,hbl,c0,c1,c2,c3,c4,c5,hsa⟩:=HSA0.out.at_ hi;obtain ⟨b',off',x',rfl,hbl',d0,d1,d2,d3,d4,d5,hsb⟩:=HSB0.out.at_ hi;obtain ⟨⟨LA,ln,lc⟩,⟨GA0,gn0,gc0⟩,⟨GA1,gn1,gc1⟩,⟨GA2,gn2,gc2⟩,⟨SA,sn,sc⟩⟩:=x;obtain ⟨⟨LA',ln',lc'⟩,⟨GB0,hn0,hc0⟩,⟨GB1,hn1,hc1⟩,⟨GB2,hn2,hc2⟩,⟨SA',sn',sc'⟩⟩:=x';have hza:=HZA.out La[i]! (by rw[getElem!_pos _ i hila];exact List.getElem_mem hila);have hzb:=HZB.out Lb[i]! (by rw[getElem!_pos _ i hilb];exact List.getElem_mem hilb);obtain ⟨sra,hsra⟩:∃s,La[i]! = s:=⟨_,rfl⟩;obtain ⟨srb,hsrb⟩:∃s,Lb[i]! = s:=⟨_,rfl⟩;rw[hsra] at hsa hza c1;rw[hsrb] at hsb hzb d1;dsimp only at c0 c1 c2 c3 c4 c5 d0 d1 d2 d3 d4 d5;have a0:wo.cell? ⟨b,off+i*6,none⟩=some _:=later hBo c0;have b0:wo.cell? ⟨b',off'+i*6,none⟩=some _:=later hBo d0;have hzla:=hza.l;have hzlb:=hzb.l;have hlna:ln≤140737488351232:=by have h1:sra.labels.length=ln:=hsa.l.len;omega
    have hlnb:ln'≤140737488351232:=by have h1:srb.labels.length=ln':=hsb.l.len;omega
    have hsnz:sn≤1099511627776:=by have h1:sra.samples.length=sn:=hsa.s.len;have:=hza.n;omega
    obtain ⟨r,hr⟩:∃r,cmpL sra.labels srb.labels=r:=⟨_,rfl⟩;have HC:=Jh (fun u:Later wo=>Ksk sra.labels srb.labels LA LA' ln ln' lc lc' u.w r hr ((hsa.l.below (hBo.trans (u.h.mono hBo.size))).more (Nat.le_trans hBo.size u.h.size)) ((hsb.l.below (hBo.trans (u.h.mono hBo.size))).more (Nat.le_trans hBo.size u.h.size)) hlna hlnb);have HRC:=Jh hr;have HSRA:=Jh hsra;have HSRB:=Jh hsrb;have HA1:=Jh c1;have HA2:=Jh c2;have HA3:=Jh c3;have HA4:=Jh c4;have HA5:=Jh c5;have HB1:=Jh d1;have HB2:=Jh d2;have HB3:=Jh d3;have HB4:=Jh d4;have HB5:=Jh d5;have HSA:=Jh hsa.s;have HSB:=Jh hsb.s;have HKA:=Jh hsa;have HKB:=Jh hsb;have HZIA:=Jh hza;have HZIB:=Jh hzb;have hbo:b < wo.heap.size:=by have:=hBo.size;omega
    have hbo':b' < wo.heap.size:=by have:=hBo.size;omega
    have hne:sra≠srb→R=false:=fun h=>by
     rw[←HR.out,decide_eq_false_iff_not];intro e;apply h;rw[←HSRA.out,←HSRB.out,e]
    have HNE:=Jh hne;obtain ⟨mxa,hmxa⟩:∃m,sra.max=m:=⟨_,rfl⟩;obtain ⟨mxb,hmxb⟩:∃m,srb.max=m:=⟨_,rfl⟩;have hA1:=HA1.out;have hB1:=HB1.out;rw[hmxa] at hA1;rw[hmxb] at hB1;replace HA1:=Jh hA1;replace HB1:=Jh hB1;have HMA:=Jh hmxa;have HMB:=Jh hmxb;clear hr hsra hsrb c0 c1 c2 c3 c4 c5 d0 d1 d2 d3 d4 d5 hsa hsb hza hzb hBo hne hzla hzlb hA1 hB1 hmxa hmxb;go_upto_region 6 with fail
    refine Kab (by kernel_rfl) (by kernel_rfl) ?_
    repeat (go_big_quiet_step ((go_at_call 42;exact Kbe _ (HC.out _))))
    refine wpQuiet_nil ?_;rintro w2 ⟨⟨_,hb2⟩,rfl⟩;have hB2:Below w.heap.size w w2:=then_ (by rw[HQ.out];exact HBR0.out) hb2;have a1:w2.cell? ⟨b,off+i*6+1,none⟩=some _:=later hB2 HA1.out;have a5:w2.cell? ⟨b,off+i*6+5,none⟩=some _:=later hB2 HA5.out;have b1:w2.cell? ⟨b',off'+i*6+1,none⟩=some _:=later hB2 HB1.out;have b5:w2.cell? ⟨b',off'+i*6+5,none⟩=some _:=later hB2 HB5.out;have hbo2:b < w2.heap.size:=by have:=hB2.size;omega
    have hbo2':b' < w2.heap.size:=by have:=hB2.size;omega
    by_cases h1:r=0
    rotate_left
    ·have hre:R=false:=HNE.out (fun e=>h1 (by rw[←HRC.out,e];exact Kiu _));have e1:(r != 0)=true:=by rw[bne_iff_ne];exact h1
     have e1':decide (r=0)=false:=decide_eq_false h1;go_upto_region 7 with fail
     refine Kab (by kernel_rfl) (by kernel_rfl) ?_
     repeat (go_big_quiet_step (fail))
     refine wpQuiet_nil ?_;rintro w3 ⟨⟨_,hb3⟩,rfl⟩;have hB3:=Jh (then_ hB2 hb3);subst hre;go_wp2_with fail
     go_ret
     exact ⟨rfl,by rw[←HQ.out];exact hB3.out⟩
    subst h1;have hlab:sra.labels=srb.labels:=Kgs HRC.out
    by_cases h2:mxa=mxb
    rotate_left
    ·have hre:R=false:=HNE.out (fun e=>h2 (by rw[←HMA.out,←HMB.out,e]));have e2:(mxa != mxb)=true:=by rw[bne_iff_ne];exact h2
     have e2':decide (mxa=mxb)=false:=decide_eq_false h2;go_upto_region 7 with fail
     refine Kab (by kernel_rfl) (by kernel_rfl) ?_
     repeat (go_big_quiet_step (fail))
     refine wpQuiet_nil ?_;rintro w3 ⟨⟨_,hb3⟩,rfl⟩;have hB3:=Jh (then_ hB2 hb3);subst hre;go_wp2_with fail
     go_ret
     exact ⟨rfl,by rw[←HQ.out];exact hB3.out⟩
    subst h2
    by_cases h3:sn=sn'
    rotate_left
    ·have hre:R=false:=HNE.out (fun e=>h3 (by have a:=HSA.out.len;have b:=HSB.out.len;rw[e] at a;exact a.symm.trans b));have e3:((sn:Int) != (sn':Int))=true:=by rw[bne_iff_ne];omega
     have e3':(sn != sn')=true:=by rw[bne_iff_ne];exact h3
     go_upto_region 7 with fail
     refine Kab (by kernel_rfl) (by kernel_rfl) ?_
     repeat (go_big_quiet_step (fail))
     refine wpQuiet_nil ?_;rintro w3 ⟨⟨_,hb3⟩,rfl⟩;have hB3:=Jh (then_ hB2 hb3);subst hre;go_wp2_with fail
     go_ret
     exact ⟨rfl,by rw[←HQ.out];exact hB3.out⟩
    subst h3;have HLAB:=Jh hlab;go_upto_region 7 with fail
    refine Kab (by kernel_rfl) (by kernel_rfl) ?_
    repeat (go_big_quiet_step (fail))
    refine wpQuiet_nil ?_;rintro w3 ⟨⟨_,hb3⟩,rfl⟩;have hB3:=Jh (then_ hB2 hb3);have HBC:=Jh (show Below q w w3 by rw[←HQ.out];exact hB3.out);clear hlab hb3 a1 a5 b1 b5 a0 b0 hbo hbo' hbo2 hbo2';go_upto_block 2 with fail
    go_cut [] (fun wz=>(∀k,k < 3→sra.g k=srb.g k)∧Below q w wz)
    case first=>
     go_wp2_with fail
     go_loopg [7] 3 (fun g s7 wr=>∃k:Nat,k+g=3∧s7 = .int .i64 (k:Int)∧(∀j,j < k→sra.g j=srb.g j)∧Below q w wr)
     case atStart=>exact ⟨0,by omega,rfl,fun j hj=>by omega,HBC.out⟩
     case round=>
      obtain ⟨k,hkg,rfl,hall,hbr⟩:=hrel;have HKG:=Jh hkg;have HALL:=Jh hall;have HBR:=Jh hbr;clear hkg hall hbr;obtain ⟨wk,rfl⟩:∃x,x=wr:=⟨_,rfl⟩
      by_cases hk:k < 3
      ·have el:decide (k < 3)=true:=by rw[decide_eq_true_eq];exact hk
       have hk3:(k:Int) < 3:=by omega
       have hBk:Below w.heap.size w wk:=by rw[HQ.out];exact HBR.out
       obtain ⟨ha,hha⟩:∃h:KHd,h=⟨⟨LA,ln,lc⟩,⟨GA0,gn0,gc0⟩,⟨GA1,gn1,gc1⟩,⟨GA2,gn2,gc2⟩,⟨SA,sn,sc⟩⟩:=⟨_,rfl⟩;obtain ⟨hb,hhb⟩:∃h:KHd,h=⟨⟨LA',ln',lc'⟩,⟨GB0,hn0,hc0⟩,⟨GB1,hn1,hc1⟩,⟨GB2,hn2,hc2⟩,⟨SA',sn,sc'⟩⟩:=⟨_,rfl⟩;have hka:=HKA.out.below hBk;have hkb:=HKB.out.below hBk;rw[←hha] at hka;rw[←hhb] at hkb
       have ca:wk.cell? ⟨b,off+i*6+(2+k),none⟩=some (.slice (ha.g k).A (ha.g k).n (ha.g k).c):=by
        rw[hha];rcases (by omega:k=0∨k=1∨k=2) with rfl | rfl | rfl
        ·exact later hBk HA2.out
        ·exact later hBk HA3.out
        ·exact later hBk HA4.out
       have cb:wk.cell? ⟨b',off'+i*6+(2+k),none⟩=some (.slice (hb.g k).A (hb.g k).n (hb.g k).c):=by
        rw[hhb];rcases (by omega:k=0∨k=1∨k=2) with rfl | rfl | rfl
        ·exact later hBk HB2.out
        ·exact later hBk HB3.out
        ·exact later hBk HB4.out
       have ca2:wk.cell? ⟨b,off+i*6+2+k,none⟩=some (.slice (ha.g k).A (ha.g k).n (ha.g k).c):=by rw[Nat.add_assoc];exact ca
       have cb2:wk.cell? ⟨b',off'+i*6+2+k,none⟩=some (.slice (hb.g k).A (hb.g k).n (hb.g k).c):=by rw[Nat.add_assoc];exact cb
       have hblk:b < wk.heap.size:=by have:=hBk.size;omega
       have hblk':b' < wk.heap.size:=by have:=hBk.size;omega
       have hga:=hka.g k;have hgb:=hkb.g k;have hgla:=hga.len;have hglb:=hgb.len;have hgza:=(HZIA.out.gi k).1;have hgzb:=(HZIB.out.gi k).1;have HSP:=Jh (fun u:Later wk=>Ksn (sra.g k) (srb.g k) (ha.g k).A (ha.g k).n (ha.g k).c (hb.g k).A (hb.g k).n (hb.g k).c u.w ((hga.below u.h).more u.h.size) ((hgb.below u.h).more u.h.size) (by omega) (by omega));obtain ⟨GA,hGA⟩:∃x,(ha.g k).A=x:=⟨_,rfl⟩;obtain ⟨gn,hgn⟩:∃x,(ha.g k).n=x:=⟨_,rfl⟩;obtain ⟨gc,hgc⟩:∃x,(ha.g k).c=x:=⟨_,rfl⟩;obtain ⟨GB,hGB⟩:∃x,(hb.g k).A=x:=⟨_,rfl⟩;obtain ⟨hn_,hhn⟩:∃x,(hb.g k).n=x:=⟨_,rfl⟩;obtain ⟨hc_,hhc⟩:∃x,(hb.g k).c=x:=⟨_,rfl⟩;obtain ⟨dq,hdq⟩:∃d,decide (sra.g k=srb.g k)=d:=⟨_,rfl⟩;rw[hGA,hgn,hgc] at ca ca2;rw[hGB,hhn,hhc] at cb cb2;rw[hGA,hgn,hgc,hGB,hhn,hhc,hdq] at HSP;have HDQ:=Jh hdq;clear hdq hka hkb hga hgb hgla hglb hgza hgzb hGA hgn hgc hGB hhn hhc hha hhb;go_upto_region 12 with fail
       refine Kab (by kernel_rfl) (by kernel_rfl) ?_
       repeat (go_big_quiet_step ((go_at_call 96;exact Kbe _ (HSP.out _))))
       refine wpQuiet_nil ?_;rintro w5 ⟨⟨_,hb5⟩,rfl⟩;have HB5:=Jh (HBR.out.trans (hb5.mono (by have:=HBR.out.size;have:=HQ.out;omega)));clear hb5 ca cb ca2 cb2
       cases dq with
       | false=>
        have hre:R=false:=HNE.out (fun e=>of_decide_eq_false HDQ.out (by rw[e]));subst hre;go_wp2_with fail
        go_ret
        exact ⟨rfl,HB5.out⟩
       | true=>
        have hnew:∀j,j < k+1→sra.g j=srb.g j:=fun j hj=>by
         by_cases hji:j=k
         ·subst hji;exact of_decide_eq_true HDQ.out
         ·exact HALL.out j (by omega)
        have HNEW:=Jh hnew;clear hnew;go_wp2_with fail
        go_roundg (gk - 1)
        case measure=>have:=HKG.out;omega
        case rel=>exact ⟨k+1,by have:=HKG.out;omega,by first | rfl | go_num,HNEW.out,HB5.out⟩
      ·have el:decide (k < 3)=false:=by rw[decide_eq_false_iff_not];exact hk
       have hk3:k=3:=by have:=HKG.out;omega
       subst hk3;go_wp2_with fail
       go_meet
       exact ⟨HALL.out,HBR.out⟩
    obtain ⟨hgon,hBC⟩:=hcut;obtain ⟨ws9,rfl⟩:∃x,x=wc:=⟨_,rfl⟩;have HGON:=Jh hgon;have HBC:=Jh hBC;clear hgon hBC;go_wp2_with fail
    go_loopg [9] sn (fun g s9 wr=>∃k:Nat,k+g=sn∧s9 = .int .i64 (k:Int)∧(∀j,j < k→sra.samples[j]! = srb.samples[j]!)∧Below q w wr)
    case atStart=>exact ⟨0,by omega,rfl,fun j hj=>by omega,HBC.out⟩
    case round=>
     obtain ⟨k,hkg,rfl,hall,hbr⟩:=hrel;have HKG:=Jh hkg;have HALL:=Jh hall;have HBR:=Jh hbr;clear hkg hall hbr;obtain ⟨wk,rfl⟩:∃x,x=wr:=⟨_,rfl⟩;have hBk:Below w.heap.size w wk:=by rw[HQ.out];exact HBR.out
     have ba1:wk.cell? ⟨b,off+i*6+5,none⟩=some _:=later hBk HA5.out;have bb1:wk.cell? ⟨b',off'+i*6+5,none⟩=some _:=later hBk HB5.out;have hblk:b < wk.heap.size:=by have:=hBk.size;omega
     have hblk':b' < wk.heap.size:=by have:=hBk.size;omega
     by_cases hk:k < sn
     ·have el:decide (k < sn)=true:=by rw[decide_eq_true_eq];exact hk
      obtain ⟨b1,o1,hA1,hb1,hg1⟩:=(HSA.out.below hBk).get hk;obtain ⟨b2,o2,hA2,hb2,hg2⟩:=(HSB.out.below hBk).get hk
      try dsimp only at hA1 hA2
      subst hA1 hA2;obtain ⟨x,hx⟩:∃x,sra.samples[k]! = x:=⟨_,rfl⟩;obtain ⟨y,hy⟩:∃y,srb.samples[k]! = y:=⟨_,rfl⟩;rw[hx] at hg1;rw[hy] at hg2;have cx0:wk.cell? ⟨b1,o1+k*2,none⟩=some (.int .i64 x.t):=hg1 0 _ rfl;have cx1:wk.cell? ⟨b1,o1+k*2+1,none⟩=some (.int .u64 (x.v:Int)):=hg1 1 _ rfl;have cy0:wk.cell? ⟨b2,o2+k*2,none⟩=some (.int .i64 y.t):=hg2 0 _ rfl;have cy1:wk.cell? ⟨b2,o2+k*2+1,none⟩=some (.int .u64 (y.v:Int)):=hg2 1 _ rfl;have HX:=Jh hx;have HY:=Jh hy;have hb1k:b1 < wk.heap.size:=by have:=hBk.size;omega
      have hb2k:b2 < wk.heap.size:=by have:=hBk.size;omega
      have hrun:=Qny x y;obtain ⟨dq,hdq⟩:∃d,decide (x=y)=d:=⟨_,rfl⟩;rw[hdq] at hrun;have HDQ:=Jh hdq;clear hx hy hg1 hg2 hdq;go_upto_region 18 with fail
      refine Kab (by kernel_rfl) (by kernel_rfl) ?_
      repeat (go_big_quiet_step (fail))
      refine wpQuiet_nil ?_;rintro w5 ⟨⟨_,hb5⟩,rfl⟩;have HB5:=Jh (HBR.out.trans (hb5.mono (by have:=HBR.out.size;have:=HQ.out;omega)))
      cases dq with
      | false=>
       have hre:R=false:=HNE.out (fun e=>of_decide_eq_false HDQ.out (by rw[←HX.out,←HY.out,e]));subst hre;go_wp2_with fail
       go_ret
       exact ⟨rfl,HB5.out⟩
      | true=>
       have hnew:∀j,j < k+1→sra.samples[j]! = srb.samples[j]!:=fun j hj=>by
        by_cases hji:j=k
        ·subst hji;rw[HX.out,HY.out];exact of_decide_eq_true HDQ.out
        ·exact HALL.out j (by omega)
       have HNEW:=Jh hnew;clear hnew hb5;go_wp2_with fail
       go_roundg (gk - 1)
       case measure=>have:=HKG.out;omega
       case rel=>exact ⟨k+1,by have:=HKG.out;omega,by go_num,HNEW.out,HB5.out⟩
     ·have el:decide (k < sn)=false:=by rw[decide_eq_false_iff_not];exact hk
      have heqs:sra.samples=srb.samples:=Kiz (by have h1:sra.samples.length=sn:=HSA.out.len;have h2:srb.samples.length=sn:=HSB.out.len;omega) (fun j hj=>HALL.out j (by have h1:sra.samples.length=sn:=HSA.out.len;have:=HKG.out;omega));have heq:sra=srb:=Qky HLAB.out (by rw[HMA.out,HMB.out]) HGON.out heqs
      have hnew:∀j,j < i+1→La[j]! = Lb[j]!:=fun j hj=>by
       by_cases hji:j=i
       ·subst hji;rw[HSRA.out,HSRB.out,heq]
       ·exact HSAME.out j (by omega)
      have HNEW:=Jh hnew;clear heq hnew heqs;go_wp2_with fail
      go_roundg (n - i - 1)
      case measure=>have:=HIG.out;omega
      case rel=>exact ⟨i+1,by have:=HIG.out;omega,by go_num,HNEW.out,HBR.out⟩
   ·have el:decide (i < n)=false:=by rw[decide_eq_false_iff_not];exact hi
    have hre:R=true:=by
     rw[←HR.out,decide_eq_true_eq];exact Kiz (by have:=HLA.out;have:=HLB.out;omega) (fun j hj=>HSAME.out j (by have:=HLA.out;omega))
    subst hre;go_wp2_with fail
    go_ret
    exact ⟨rfl,HBR0.out⟩
 ·have hre:R=false:=by
   rw[←HR.out,decide_eq_false_iff_not];intro e;apply hnm;rw[←HLA.out,←HLB.out,e]
  have el:((n:Int) != (m:Int))=true:=by rw[bne_iff_ne];omega
  have el2:(n != m)=true:=by rw[bne_iff_ne];omega
  subst hre;go_enter Tryz.func50,Tryz.ntmps50
  go_wp2_with fail
  go_ret
  exact ⟨rfl,Below.refl _ _⟩
end
section
open Go.RowKit Go.Shelf Go.Sort
open Lib renaming hid → Jh
open List renaming setIfInBounds_toArray → Ja, set_cons_zero → Jb, set_cons_succ → Jc
attribute [local go_sem ↓] Go.wp_at_zero Go.wp_at_succ
attribute [local go_sem] Later.cell
theorem Qed:(Tryz.prog.info? 111).map (fun i=>(i.zero,i.size,i.bytes))=some (some (.agg #[.int .i64 0,.int .u64 0]),2,16):=by kernel_rfl
theorem Qec:(Tryz.prog.info? 103).map (fun i=>(i.zero,i.size,i.bytes))=some (some (.agg #[.slice none 0 0,.int .i64 0,.slice none 0 0,.slice none 0 0,.slice none 0 0,.slice none 0 0]),6,128):=by kernel_rfl
structure RfI (p Q:Nat) (T:TypeId) (cs:Array Value) (i:Nat) (v:Value) (n:Nat) (xs:List Value) (ws wz:World):Prop where
 b:Blk wz p 103 (cs.setIfInBounds i v)
 r:wz.ownsRow Q T 2 v n xs
 k:Kept ws.heap.size [p] ws wz
theorem RfI.step {p Q i n n':Nat} {T:TypeId} {cs:Array Value} {v v':Value} {xs xs':List Value} {ws wk w4 w5:World} (h:RfI p Q T cs i v n xs ws wk) (hQ:ws.heap.size=Q) (hp:p < Q) (h4:Below wk.heap.size wk w4) (hg:w4.grownBy w5 v.ownBlock) (hr:w5.ownsRow Q T 2 v' n' xs') :
  Blk w5 p 103 (cs.setIfInBounds i v)∧RfI p Q T cs i v' n' xs' ws (w5.setCell ⟨p,i,none⟩ v'):=by
 have hb4:=h.b.below h4 h.b.lt;have hob:∀b,v.ownBlock=some b→Q≤b:=fun b hb=>(World.ownsRow.lt h.r b hb).1
 have hb5:Blk w5 p 103 (cs.setIfInBounds i v):=(hg.block p hb4.lt (fun e=>by have:=hob p e.symm;omega)).trans hb4;have hk4:Kept ws.heap.size [p] ws w4:=h.k.trans ((Kept.of_below h4).mono h.k.size (fun _ _ h=>h));have hk5:Kept ws.heap.size [p] ws w5:=hk4.trans ⟨hg.os,hg.tape,hg.output,hg.size,fun k hlt _=>hg.block k (by have:=hk4.size;omega) (fun e=>by have:=hob k e.symm;omega)⟩;refine ⟨hb5,?_,Kjb hr (pr:=p) ((Kept.refl _ _ _).setCell (p:=⟨p,i,none⟩) (.inl (by simp)) _) hp,hk5.setCell (p:=⟨p,i,none⟩) (.inl (by simp)) _⟩;have:=hb5.set_ i v'
 have e:(cs.setIfInBounds i v).setIfInBounds i v'=cs.setIfInBounds i v':=by
  apply Array.ext_getElem?;intro j;simp only[Array.getElem?_setIfInBounds,Array.size_setIfInBounds]
  split <;> rfl
 rw[e] at this;exact this
theorem Qgc {hl:Hd} {mx:Int} {hg:Nat→Hd} {m:Nat} {h:Hd} {sv:Value} (hm:m < 3):(boxC hl mx hg sv).setIfInBounds (2+m) (hdV h)=boxC hl mx (updG hg m h) sv:=by
 rcases (by omega:m=0∨m=1∨m=2) with rfl | rfl | rfl <;> rfl
theorem Kmw {hl:Hd} {mx:Int} {hg:Nat→Hd} {m:Nat} {v sv:Value} (hm:m < 3):((boxC hl mx hg sv).setIfInBounds (2+m) v)[2+m]? = some v:=by
 rcases (by omega:m=0∨m=1∨m=2) with rfl | rfl | rfl <;> rfl
theorem Qgd {hl:Hd} {mx:Int} {hg:Nat→Hd} {m:Nat} {sv:Value} (hm:m < 3) (h:hg m=default):(boxC hl mx hg sv).setIfInBounds (2+m) (.slice none 0 0)=boxC hl mx hg sv:=by
 have e:(boxC hl mx hg sv).setIfInBounds (2+m) (hdV (hg m))=boxC hl mx hg sv:=by
  rw[Qgc hm]
  have:updG hg m (hg m)=hg:=by
   funext k;unfold updG
   split
   ·rename_i e;rw[e]
   ·rfl
  rw[this]
 rw[h] at e;exact e
set_option maxHeartbeats 16000000 in
theorem Kqd (L:List KSer) (A:Option Addr) (n c:Nat) (w:World) (hS:KSers w A n L) (hz:∀s∈L,KSz s) (hn:n≤1073741824) :
  Calls Tryz.prog 12 #[.slice A n c] w fun e w'=>(∃A' c',e = .returned (.slice A' n c')∧KSers w' A' n L)∧Below w.heap.size w w':=by
 obtain ⟨ib,hib,hz0,hz1,hz2⟩:=info_parts Qec;obtain ⟨il,hil0,hl0,hl1,hl2⟩:=info_parts Qhf;obtain ⟨ig,hig0,hg0,hg1,hg2⟩:=info_parts Qhg;obtain ⟨is,his,hs0,hs1,hs2⟩:=info_parts Qed;have HS:=Jh hS;have HL:=Jh hS.len;have HZ:=Jh hz;obtain ⟨q0,hq0⟩:∃x,w.heap.size=x:=⟨_,rfl⟩;have HQ0:=Jh hq0;rw[hq0];clear hS hz hq0;go_enter Tryz.func12,Tryz.ntmps12
 go_wp2_with fail
 go_loopg [3,17] n (fun g s3 s17 wr=>∃(i:Nat) (ys:List KY) (sv:Value),sv=s3∧i+g=n∧s17 = .int .i64 (i:Int)∧DRow 103 q0 sv ys (L.take i) wr∧Below q0 w wr)
 case atStart=>exact ⟨0,[],_,rfl,by omega,rfl,by rw[List.take_zero];exact DRow.nil _ _ _,Below.refl _ _⟩
 case round=>
  obtain ⟨i,ys,sv,rfl,hig,rfl,hdr,hb⟩:=hrel;have HIG:=Jh hig;have HDR:=Jh hdr;have HB:=Jh hb;clear hig hdr hb;obtain ⟨wo,rfl⟩:∃x,x=wr:=⟨_,rfl⟩
  by_cases hi:i < n
  ·have el:decide (i < n)=true:=by rw[decide_eq_true_eq];exact hi
   have hi2:(i:Int) < (n:Int):=by omega
   have hil:i < L.length:=by have:=HL.out;omega
   have hbo:Below w.heap.size w wo:=by rw[HQ0.out];exact HB.out
   obtain ⟨b,off,hd,rfl,hbl,c0,c1,c2,c3,c4,c5,hk⟩:=(HS.out.below hbo).at_ hi;have hzi:=HZ.out L[i]! (by rw[getElem!_pos L i hil];exact List.getElem_mem hil);obtain ⟨s,hs⟩:∃s,L[i]! = s:=⟨_,rfl⟩;rw[hs] at c1 hk hzi;obtain ⟨mx,hmx⟩:∃m,s.max=m:=⟨_,rfl⟩;rw[hmx] at c1;have HSI:=Jh hs;have HMX:=Jh hmx;have HK0:=Jh hk;have HZI:=Jh hzi;obtain ⟨⟨LA,ln,lc⟩,h0,h1,h2,⟨SA,sn,sc⟩⟩:=hd;dsimp only at c0 c5;clear hs hmx hk hzi hbo;go_upto_region 5 with fail
   obtain ⟨p5,hp5⟩:∃x,wo.heap.size=x:=⟨_,rfl⟩;have hb1:Below wo.heap.size wo (wo.alloc (.cells #[.slice LA ln lc,.int .i64 mx,.slice h0.A h0.n h0.c,.slice h1.A h1.n h1.c,.slice h2.A h2.n h2.c,.slice SA sn sc] 85)):=(Below.refl _ _).alloc (Nat.le_refl _) _;have hk5:Blk (wo.alloc (.cells #[.slice LA ln lc,.int .i64 mx,.slice h0.A h0.n h0.c,.slice h1.A h1.n h1.c,.slice h2.A h2.n h2.c,.slice SA sn sc] 85)) p5 85 #[.slice LA ln lc,.int .i64 mx,.slice h0.A h0.n h0.c,.slice h1.A h1.n h1.c,.slice h2.A h2.n h2.c,.slice SA sn sc]:=by rw[←hp5];exact Blk.new _ _ _
   obtain ⟨w1,hw1⟩:∃x,wo.alloc (.cells #[.slice LA ln lc,.int .i64 mx,.slice h0.A h0.n h0.c,.slice h1.A h1.n h1.c,.slice h2.A h2.n h2.c,.slice SA sn sc] 85)=x:=⟨_,rfl⟩;rw[hw1] at hb1 hk5;rw[hw1,hp5];have e1:w1.cell? ⟨p5,1,none⟩=some (.int .i64 mx):=hk5.cell 1;have hp51:=hk5.lt;go_upto_region 6 with fail
   obtain ⟨p,hp⟩:∃x,w1.heap.size=x:=⟨_,rfl⟩;have hb2:Below w1.heap.size w1 (w1.alloc (.cells #[.slice none 0 0,.int .i64 mx,.slice none 0 0,.slice none 0 0,.slice none 0 0,.slice none 0 0] 103)):=(Below.refl _ _).alloc (Nat.le_refl _) _;have hkx:Blk (w1.alloc (.cells #[.slice none 0 0,.int .i64 mx,.slice none 0 0,.slice none 0 0,.slice none 0 0,.slice none 0 0] 103)) p 103 (boxC default mx (fun _=>default) (.slice none 0 0)):=by rw[←hp];exact Blk.new _ _ _
   have hs2:(w1.alloc (.cells #[.slice none 0 0,.int .i64 mx,.slice none 0 0,.slice none 0 0,.slice none 0 0,.slice none 0 0] 103)).heap.size=p+1:=by simp;omega
   obtain ⟨w2,hw2⟩:∃x,w1.alloc (.cells #[.slice none 0 0,.int .i64 mx,.slice none 0 0,.slice none 0 0,.slice none 0 0,.slice none 0 0] 103)=x:=⟨_,rfl⟩;rw[hw2] at hb2 hkx hs2;rw[hw2,hp];have hk52:=hk5.below hb2 hp51;have hb12:Below wo.heap.size wo w2:=hb1.trans (hb2.mono hb1.size);have HK:=Jh (HK0.out.below hb12);have HK5:=Jh hk52;have HX:=Jh hkx;have HS2:=Jh hs2;have HB2:=Jh hb12;have hpp:p5 < p:=by omega
   have e0:w2.cell? ⟨p5,0,none⟩=some (.slice LA ln lc):=hk52.cell 0;have hp52:=hk52.lt;have hll:s.labels.length=ln:=HK.out.l.len;have hlz:ln≤1099511627776:=by have:=HZI.out.l;omega
   have hsll:s.samples.length=sn:=HK.out.s.len;have hsz:sn≤1099511627776:=by have:=HZI.out.n;omega
   have HLL:=Jh hll;have HSLL:=Jh hsll;have hwoz:wo.heap.size≤p:=by have:=hb1.size;omega
   clear hw1 hw2 hb1 hb2 hk5 hk52 hkx hs2 hb12 e1 hp51 c0 c1 c2 c3 c4 c5 hp5 hp hll hsll;have HSRCL:Hid (Off 0 [p] LA ln):=Jh (fun hp' a ha=>⟨Nat.zero_le _,by have h1:=HK0.out.l.blt hp' a ha;simp;omega⟩);have HSRCS:Hid (Off 0 [p] SA sn):=Jh (fun hp' a ha=>⟨Nat.zero_le _,by have h1:=HK0.out.s.blt hp' a ha;simp;omega⟩);have HSRCG:Hid (∀j,Off 0 [p] ((KHd.mk ⟨LA,ln,lc⟩ h0 h1 h2 ⟨SA,sn,sc⟩).g j).A ((KHd.mk ⟨LA,ln,lc⟩ h0 h1 h2 ⟨SA,sn,sc⟩).g j).n):=Jh (fun j hp' a ha=>⟨Nat.zero_le _,by have h1:=(HK0.out.g j).blt hp' a ha;simp;omega⟩);go_upto_block 2 with fail
   go_cut [] (fun wz=>∃hl:Hd,hl.n=ln∧KG wz p p (p+1) hl s.labels (fun _=>default) []∧Blk wz p 103 (boxC hl mx (fun _=>default) (.slice none 0 0))∧Kept w2.heap.size [p] w2 wz)
   case first=>
    go_wp2_with fail
    go_loopg [27] ln (fun g sk wz=>∃(k:Nat) (v:Value),k+g=ln∧sk = .int .i64 (k:Int)∧RfI p (p+1) 107 (boxC default mx (fun _=>default) (.slice none 0 0)) 0 v k ((s.labels.take k).flatMap encLb) w2 wz)
    case atStart=>exact ⟨0,.slice none 0 0,by omega,rfl,by exact HX.out,by rw[List.take_zero];exact World.ownsRow_nil _ _ _ _,Kept.refl _ _ _⟩
    case round=>
     obtain ⟨k,v,hkg,rfl,hst⟩:=hrel;have HKG:=Jh hkg;have HST:=Jh hst;clear hkg hst;obtain ⟨wk,rfl⟩:∃x,x=wr:=⟨_,rfl⟩;obtain ⟨VA,vc,rfl⟩:=Kdp HST.out.r
     by_cases hk:k < ln
     ·have elk:decide (k < ln)=true:=by rw[decide_eq_true_eq];exact hk
      have hk2:(k:Int) < (ln:Int):=by omega
      have hesrc:=(show Elems w2 w2.heap.size 2 encLb LA ln s.labels from HK.out.l).kx HSRCL.out HST.out.k;obtain ⟨bx,ox,hAx,hbx,hgx⟩:=hesrc.getS hk;subst hAx;have hkl:k < s.labels.length:=by have:=HLL.out;omega
      obtain ⟨x,hx⟩:∃x,s.labels[k]! = x:=⟨_,rfl⟩;rw[hx] at hgx;obtain ⟨N,hN⟩:∃N:ByteArray,(⟨x.n.toArray⟩:ByteArray)=N:=⟨_,rfl⟩;obtain ⟨V,hV⟩:∃N:ByteArray,(⟨x.v.toArray⟩:ByteArray)=N:=⟨_,rfl⟩;have c0x:wk.cell? ⟨bx,ox+k*2,none⟩=some (.string N):=by rw[←hN];exact hgx 0 _ rfl
      have c1x:wk.cell? ⟨bx,ox+k*2+1,none⟩=some (.string V):=by rw[←hV];exact hgx 1 _ rfl
      have HENC:Hid (encLb x = [.string N,.string V]):=Jh (by rw[←hN,←hV];rfl);clear hN hV;have hbxk:bx < wk.heap.size:=hbx;have htk:s.labels.take (k+1)=s.labels.take k ++ [x]:=by rw[List.take_succ_eq_append_getElem hkl,←hx,getElem!_pos _ k hkl]
      have HTK:=Jh htk;clear htk hx hgx hesrc;go_upto_region 9 with fail
      have hb4:Below wk.heap.size wk (wk.alloc (.cells #[.string N,.string V] 106)):=(Below.refl _ _).alloc (Nat.le_refl _) _;have hp8:Blk (wk.alloc (.cells #[.string N,.string V] 106)) wk.heap.size 106 #[.string N,.string V]:=Blk.new _ _ _;obtain ⟨w4,hw4e⟩:∃w4,wk.alloc (.cells #[.string N,.string V] 106)=w4:=⟨_,rfl⟩;obtain ⟨p8,hp8e⟩:∃p8,wk.heap.size=p8:=⟨_,rfl⟩;rw[hw4e] at hb4 hp8;rw[hw4e];rw[hp8e] at hp8
      try rw[hp8e]
      have u0:w4.cell? ⟨p8,0,none⟩=some (.string N):=hp8.cell 0;have u1:w4.cell? ⟨p8,1,none⟩=some (.string V):=hp8.cell 1;have hbx4:=HST.out.b.below hb4 HST.out.b.lt;have d1:w4.cell? ⟨p,0,none⟩=some (.slice VA k vc):=(hbx4.cell (0)).trans (rfl);have hplt:=hbx4.lt;have hrow4:=Kdk HST.out.r hb4;have HB4:=Jh hb4;have hqz:(p+1)≤w4.heap.size:=by have h1:=HST.out.k.size;have h2:=hb4.size;have h3:=HS2.out;omega
      have hp84:=hp8.lt;have HROW4:=Jh hrow4;clear hw4e hb4 hp8 hbx4 hp8e c0x c1x hrow4;go_wp2_with (at_builtin;refine wpList_append_own_at _ rfl _ _ 98 rfl (p+1) 107 il (.agg #[.string ⟨#[]⟩,.string ⟨#[]⟩]) 2 32 Tryz.underlying98 hil0 hl0 hl1 hl2 rfl (by decide) _ _ _ rfl (World.ownsRow.alloc HROW4.out _) ⟨w4.heap.size,0,none⟩ 1 1 [.string N,.string V] rfl rfl ?k1 ?k2 ?k3 ?k4 ?k5 ?_)
      try (case k1=>exact Kav (l:=[.string N,.string V]) (Blk.new w4 _ _))
      case k2=>
       first
       | exact ⟨rfl,rfl⟩
       | (intro u hu;simp only[List.mem_cons,List.not_mem_nil,or_false] at hu;rcases hu with rfl | rfl <;> rfl)
      case k3=>unfold maxLen;omega
      case k4=>omega
      case k5=>first | omega | (simp;omega)
      intro v' w5 hown' hgrow0 _ _
      have hgrow:w4.grownBy w5 (Value.slice VA k vc).ownBlock:=by
       first
       | exact (World.grownBy_alloc w4 _ _).trans hgrow0
       | exact hgrow0
      obtain ⟨hb5,hst5⟩:=HST.out.step HS2.out (by omega) HB4.out hgrow hown';have f1:=hb5.frozen (0);have hplt5:=hb5.lt;have d5:w5.cell? ⟨p,0,none⟩=some (.slice VA k vc):=(hb5.cell (0)).trans (rfl)
      have hst6:RfI p (p+1) 107 (boxC default mx (fun _=>default) (.slice none 0 0)) 0 v' (k+1) ((s.labels.take (k+1)).flatMap encLb) w2 (w5.setCell ⟨p,0,none⟩ v'):=by
       rw[HTK.out,List.flatMap_append,List.flatMap_singleton,HENC.out];exact hst5
      have HST6:=Jh hst6;obtain ⟨VA',vc',rfl⟩:=Kdp hown';clear hown' hgrow0 hgrow hb5 hst5 hst6;go_wp2_with fail
      go_roundg (gk - 1)
      case measure=>have:=HKG.out;omega
      case rel=>exact ⟨k+1,_,by have:=HKG.out;omega,by first | rfl | go_num,HST6.out⟩
     ·have elk:decide (k < ln)=false:=by rw[decide_eq_false_iff_not];exact hk
      have hkn:k=ln:=by have:=HKG.out;omega
      have htk:s.labels.take k=s.labels:=List.take_of_length_le (by have:=HLL.out;omega);have hst:=HST.out;rw[htk] at hst;have HSTd:=Jh hst;have hkl:s.labels.length=k:=by have:=HLL.out;omega
      obtain ⟨A8,c8,e8,k1,k2,k3⟩:=Elems.of_own (enc:=encLb) (fun x _=>Kda x) rfl hst.r hkl;injection e8 with e81 e82 e83;subst e81 e83;have HK1:=Jh k1;have HK2:=Jh k2;have HK3:=Jh k3;clear hst htk k1 k2 k3;go_wp2_with fail
      go_meet
      exact ⟨⟨VA,k,vc⟩,hkn,⟨HK1.out,HK3.out,fun _ a ha=>⟨by have:=HK2.out a ha;omega,by have:=HK2.out a ha;simp;omega⟩,fun j hj=>by simp at hj,fun j hj=>by simp at hj⟩,HSTd.out.b,HSTd.out.k⟩
   obtain ⟨hl,hhl,hkg,hbx,hkk⟩:=hcut;obtain ⟨w3,rfl⟩:∃x,x=wc:=⟨_,rfl⟩;have HKGl:=Jh hkg;have HBXl:=Jh hbx;have HKKl:=Jh hkk;have hk53:=HK5.out.kept hkk HK5.out.lt (by simp;omega);have HK53:=Jh hk53;have HHL:=Jh hhl;have g0:w3.cell? ⟨p5,2,none⟩=some (.slice h0.A h0.n h0.c):=hk53.cell 2;have g1:w3.cell? ⟨p5,3,none⟩=some (.slice h1.A h1.n h1.c):=hk53.cell 3;have g2:w3.cell? ⟨p5,4,none⟩=some (.slice h2.A h2.n h2.c):=hk53.cell 4;have hp53:=hk53.lt;clear hkg hbx hkk hk53 hhl e0 hp52;go_upto_block 4 with fail
   go_cut [] (fun wz=>∃hg:Nat→Hd,KG wz p p (p+1) hl s.labels hg ((List.range 3).map s.g)∧Blk wz p 103 (boxC hl mx hg (.slice none 0 0))∧Kept w3.heap.size [p] w3 wz)
   case first=>
    go_wp2_with fail
    go_loopg [44] 3 (fun g s44 wz=>∃(m:Nat) (hg:Nat→Hd),m+g=3∧s44 = .int .i64 (m:Int)∧(∀j,m≤j→hg j=default)∧KG wz p p (p+1) hl s.labels hg ((List.range m).map s.g)∧Blk wz p 103 (boxC hl mx hg (.slice none 0 0))∧Kept w3.heap.size [p] w3 wz)
    case atStart=>exact ⟨0,fun _=>default,by omega,rfl,fun _ _=>rfl,HKGl.out,HBXl.out,Kept.refl _ _ _⟩
    case round=>
     obtain ⟨m,hg,hmg,rfl,hdef,hkg,hbx,hkk⟩:=hrel;have HMG:=Jh hmg;have HDEF:=Jh hdef;have HKGm:=Jh hkg;have HBXm:=Jh hbx;have HKKm:=Jh hkk;clear hmg hdef hkg hbx hkk;obtain ⟨wm,rfl⟩:∃x,x=wr:=⟨_,rfl⟩
     by_cases hm:m < 3
     ·have elm:decide (m < 3)=true:=by rw[decide_eq_true_eq];exact hm
      have hm2:(m:Int) < 3:=by omega
      have ipt:∀W:World,(Instr.index 82 (.agg #[.slice h0.A h0.n h0.c,.slice h1.A h1.n h1.c,.slice h2.A h2.n h2.c]) (.int .i64 (m:Int))).run Tryz.prog W = .ok (.slice ((KHd.mk ⟨LA,ln,lc⟩ h0 h1 h2 ⟨SA,sn,sc⟩).g m).A ((KHd.mk ⟨LA,ln,lc⟩ h0 h1 h2 ⟨SA,sn,sc⟩).g m).n ((KHd.mk ⟨LA,ln,lc⟩ h0 h1 h2 ⟨SA,sn,sc⟩).g m).c) W:=fun W=>by
       rcases (by omega:m=0∨m=1∨m=2) with rfl | rfl | rfl
       ·kernel_rfl
       ·kernel_rfl
       ·kernel_rfl
      have hkm:=((HK.out.kx HKKl.out ⟨HSRCL.out,HSRCG.out 0,HSRCG.out 1,HSRCG.out 2,HSRCS.out⟩).kx HKKm.out ⟨HSRCL.out,HSRCG.out 0,HSRCG.out 1,HSRCG.out 2,HSRCS.out⟩).g m;have hoff:=HSRCG.out m;obtain ⟨gA,hgA⟩:∃x,((KHd.mk ⟨LA,ln,lc⟩ h0 h1 h2 ⟨SA,sn,sc⟩).g m).A=x:=⟨_,rfl⟩;obtain ⟨gn,hgn⟩:∃x,((KHd.mk ⟨LA,ln,lc⟩ h0 h1 h2 ⟨SA,sn,sc⟩).g m).n=x:=⟨_,rfl⟩;obtain ⟨gc,hgc⟩:∃x,((KHd.mk ⟨LA,ln,lc⟩ h0 h1 h2 ⟨SA,sn,sc⟩).g m).c=x:=⟨_,rfl⟩;rw[hgA,hgn] at hkm hoff;rw[hgA,hgn,hgc] at ipt;have HSRCm:=Jh hkm;have HOFFm:=Jh hoff;have HGLEN:Hid ((s.g m).length=gn):=Jh hkm.len;have hgnz:gn≤1099511627776:=by have h1:=hkm.len;have h2:=(HZI.out.gi m).1;omega
      obtain ⟨Qm,hQm⟩:∃x,wm.heap.size=x:=⟨_,rfl⟩;have HQm:=Jh hQm;have hpQm:p < Qm:=by rw[←hQm];exact HBXm.out.lt
      clear hkm hoff hgA hgn hgc hQm;go_upto_block 5 with fail
      go_cut [] (fun wz=>∃h:Hd,KG wz p p (p+1) hl s.labels (updG hg m h) ((List.range (m+1)).map s.g)∧Blk wz p 103 (boxC hl mx (updG hg m h) (.slice none 0 0))∧Kept wm.heap.size [p] wm wz)
      case first=>
       go_wp2_with fail
       go_loopg [50] gn (fun g sk wz=>∃(k:Nat) (v:Value),k+g=gn∧sk = .int .i64 (k:Int)∧RfI p Qm 110 (boxC hl mx hg (.slice none 0 0)) (2+m) v k (((s.g m).take k).flatMap Kac) wm wz)
       case atStart=>exact ⟨0,.slice none 0 0,by omega,rfl,by rw[Qgd hm (HDEF.out m (Nat.le_refl _))];exact HBXm.out,by rw[List.take_zero];exact World.ownsRow_nil _ _ _ _,Kept.refl _ _ _⟩
       case round=>
        obtain ⟨k,v,hkg,rfl,hst⟩:=hrel;have HKG:=Jh hkg;have HST:=Jh hst;clear hkg hst;obtain ⟨wk,rfl⟩:∃x,x=wr:=⟨_,rfl⟩;obtain ⟨VA,vc,rfl⟩:=Kdp HST.out.r
        by_cases hk:k < gn
        ·have elk:decide (k < gn)=true:=by rw[decide_eq_true_eq];exact hk
         have hk2:(k:Int) < (gn:Int):=by omega
         have hesrc:=HSRCm.out.kx HOFFm.out HST.out.k;obtain ⟨bx,ox,hAx,hbx,hgx⟩:=hesrc.getS hk;subst hAx;have hkl:k < (s.g m).length:=by have:=HGLEN.out;omega
         obtain ⟨x,hx⟩:∃x,(s.g m)[k]! = x:=⟨_,rfl⟩;rw[hx] at hgx;have c0x:wk.cell? ⟨bx,ox+k*2,none⟩=some (.int .i64 x.frm):=hgx 0 _ rfl;have c1x:wk.cell? ⟨bx,ox+k*2+1,none⟩=some (.int .i64 x.to_):=hgx 1 _ rfl;have hbxk:bx < wk.heap.size:=hbx;have htk:(s.g m).take (k+1)=(s.g m).take k ++ [x]:=by rw[List.take_succ_eq_append_getElem hkl,←hx,getElem!_pos _ k hkl]
         have HTK:=Jh htk;clear htk hx hgx hesrc;go_upto_region 17 with fail
         have hb4:Below wk.heap.size wk (wk.alloc (.cells #[.int .i64 x.frm,.int .i64 x.to_] 109)):=(Below.refl _ _).alloc (Nat.le_refl _) _;have hp8:Blk (wk.alloc (.cells #[.int .i64 x.frm,.int .i64 x.to_] 109)) wk.heap.size 109 #[.int .i64 x.frm,.int .i64 x.to_]:=Blk.new _ _ _;obtain ⟨w4,hw4e⟩:∃w4,wk.alloc (.cells #[.int .i64 x.frm,.int .i64 x.to_] 109)=w4:=⟨_,rfl⟩;obtain ⟨p8,hp8e⟩:∃p8,wk.heap.size=p8:=⟨_,rfl⟩;rw[hw4e] at hb4 hp8;rw[hw4e];rw[hp8e] at hp8
         try rw[hp8e]
         have u0:w4.cell? ⟨p8,0,none⟩=some (.int .i64 x.frm):=hp8.cell 0;have u1:w4.cell? ⟨p8,1,none⟩=some (.int .i64 x.to_):=hp8.cell 1;have hbx4:=HST.out.b.below hb4 HST.out.b.lt;have d1:w4.cell? ⟨p,(2+m),none⟩=some (.slice VA k vc):=(hbx4.cell ((2+m))).trans (Kmw hm);have hplt:=hbx4.lt;have hrow4:=Kdk HST.out.r hb4;have HB4:=Jh hb4;have hqz:Qm≤w4.heap.size:=by have h1:=HST.out.k.size;have h2:=hb4.size;have h3:=HQm.out;omega
         have hp84:=hp8.lt;have HROW4:=Jh hrow4;clear hw4e hb4 hp8 hbx4 hp8e c0x c1x hrow4;have hS:w4.drew.cell? ⟨p,2+m,none⟩=some (.slice VA k vc)∧w4.drew.cell? ⟨p8,0,none⟩=some (.int .i64 x.frm)∧w4.drew.cell? ⟨p8,1,none⟩=some (.int .i64 x.to_):=⟨d1,u0,u1⟩;have hS4:w4.drew.cell? ⟨p,2+m,none⟩=some (.slice VA k vc):=d1;have hb4b:Below w4.heap.size w4 (w4.drew.alloc (.cells #[.int .i64 x.frm,.int .i64 x.to_] 110)):=(Below.refl _ _).drew.alloc (Nat.le_refl _) _;have hp9:Blk (w4.drew.alloc (.cells #[.int .i64 x.frm,.int .i64 x.to_] 110)) w4.drew.heap.size 110 #[.int .i64 x.frm,.int .i64 x.to_]:=Blk.new _ _ _;obtain ⟨w4b,hw4b⟩:∃y,w4.drew.alloc (.cells #[.int .i64 x.frm,.int .i64 x.to_] 110)=y:=⟨_,rfl⟩;obtain ⟨p9,hp9e⟩:∃y,w4.drew.heap.size=y:=⟨_,rfl⟩;rw[hw4b] at hb4b hp9;rw[hp9e] at hp9;have hS5:w4b.cell? ⟨p,2+m,none⟩=some (.slice VA k vc):=(hb4b.cell (p:=⟨p,2+m,none⟩) hplt).trans d1;have hrow5:=Kdk HROW4.out hb4b;refine Kce (fun w'=>w'.cell? ⟨p,2+m,none⟩=some (.slice VA k vc)∧w'.cell? ⟨p8,0,none⟩=some (.int .i64 x.frm)∧w'.cell? ⟨p8,1,none⟩=some (.int .i64 x.to_)) 9 15 (by kernel_rfl) rfl ?_;rw[show Array.replicate 15 false = #[false,false,false,false,false,false,false,false,false,false,false,false,false,false,false] from rfl];refine Kaa (i:=0) (d:=some 54) rfl rfl (by kernel_rfl) (by kernel_rfl) (by kernel_rfl) rfl (fun _ _ _ h=>h) (by rfl) (fun w=>by go_simp;try rfl) (fun _=>hS) ?_;simp only[Act.put,Ja,Jb,Jc];refine Kaa (i:=1) (d:=some 55) rfl rfl (by kernel_rfl) (by kernel_rfl) (by kernel_rfl) rfl (fun _ _ _ h=>h) (by rfl) (fun w=>by go_simp;try rfl) (fun _=>hS) ?_;simp only[Act.put,Ja,Jb,Jc];refine Kaa (i:=2) (d:=some 56) rfl rfl (by kernel_rfl) (by kernel_rfl) (by kernel_rfl) rfl (fun _ _ _ h=>h) (by rfl) (fun w=>by go_simp;try rfl) (fun _=>hS) ?_;simp only[Act.put,Ja,Jb,Jc];refine Kaa (i:=3) (d:=some 57) rfl rfl (by kernel_rfl) (by kernel_rfl) (by kernel_rfl) rfl (fun _ _ _ h=>h) (by rfl) (fun w=>by go_simp;try rfl) (fun _=>hS) ?_;simp only[Act.put,Ja,Jb,Jc];refine Kaa (i:=5) (d:=some 59) rfl rfl (by kernel_rfl) (by kernel_rfl) (by kernel_rfl) rfl (fun _ _ _ h=>h) (by rfl) (fun w=>by go_simp;try rfl) (fun _=>hS) ?_;simp only[Act.put,Ja,Jb,Jc];refine Kaa (i:=7) (d:=some 61) rfl rfl (by kernel_rfl) (by kernel_rfl) (by kernel_rfl) rfl (fun _ _ _ h=>h) (by rfl) (fun w=>by go_simp;try rfl) (fun _=>hS) ?_;simp only[Act.put,Ja,Jb,Jc];refine Kaa (i:=12) (d:=some 66) rfl rfl (by kernel_rfl) (by kernel_rfl) (by kernel_rfl) rfl (fun _ _ _ h=>h) (by rfl) (fun w=>by go_simp;try rfl) (fun _=>hS) ?_;simp only[Act.put,Ja,Jb,Jc];refine Kap (i:=6) (d:=some 60) rfl rfl (by kernel_rfl) (by kernel_rfl) (by kernel_rfl) (by kernel_rfl) rfl (fun _ _ _ h=>h) (.inl ⟨by rfl,fun w hw=>by (obtain ⟨ha,hb,hc⟩:=hw;go_simp;try rfl)⟩) hS ?_;simp only[Act.put,Ja,Jb,Jc];refine Kap (i:=8) (d:=some 62) rfl rfl (by kernel_rfl) (by kernel_rfl) (by kernel_rfl) (by kernel_rfl) rfl (fun _ _ _ h=>h) (.inl ⟨by rfl,fun w hw=>by (obtain ⟨ha,hb,hc⟩:=hw;go_simp;try rfl)⟩) hS ?_;simp only[Act.put,Ja,Jb,Jc]
         refine Krp (i:=4) (j:=9) (by kernel_rfl) rfl rfl rfl rfl ?_ ?_
         ·refine Oper.wp_ran (d:=some 58) (w':=w4.drew) (v:=.slice VA k vc) rfl (by go_simp;try rfl) ?_;refine ⟨fun _=>hS,?_⟩;simp only[Act.put,Ja,Jb,Jc];refine Kak (i:=9) (by kernel_rfl) rfl rfl ?_;refine Oper.wp_ran (d:=some 63) (w':=w4.drew) (v:=.agg #[.int .i64 x.frm,.int .i64 x.to_]) rfl (by go_simp;try rfl) ?_;refine ⟨fun h=>absurd h (by decide),?_⟩;simp only[Act.put,Ja,Jb,Jc];refine Kak (i:=10) (by kernel_rfl) rfl rfl ?_;refine Oper.wp_ran (d:=some 64) (w':=w4.drew.alloc (.cells #[.int .i64 x.frm,.int .i64 x.to_] 110)) (v:=.slice (some ⟨w4.drew.heap.size,0,none⟩) 1 1) rfl (by go_simp;try rfl) ?_;rw[hw4b,hp9e];refine ⟨fun h=>absurd h (by decide),?_⟩;simp only[Act.put,Ja,Jb,Jc];refine Kak (i:=11) (by kernel_rfl) rfl rfl ?_;refine OpW.of (wp_append_lies w4b _ _ _ rfl Qm 110 ig (.agg #[.int .i64 0,.int .i64 0]) 2 16 Tryz.underlying99 hig0 hg0 hg1 hg2 rfl (by decide) (.slice VA k vc) k _ rfl hrow5 ⟨p9,0,none⟩ 1 1 [.int .i64 x.frm,.int .i64 x.to_] rfl rfl ?k1a ?k2a (by decide) (by unfold maxLen;omega) (by omega) ?k5a w4b.heap.size rfl ?k6a)
          case k1a=>exact Kav (l:=[.int .i64 x.frm,.int .i64 x.to_]) hp9
          case k2a=>
           intro u hu;simp only[List.mem_cons,List.not_mem_nil,or_false] at hu;rcases hu with rfl | rfl <;> rfl
          case k5a=>have:=hb4b.size;omega
          intro g9 cap w5 hown' hgrow _ _;obtain ⟨hb5,hst5⟩:=HST.out.step HQm.out (by omega) (HB4.out.trans (hb4b.mono HB4.out.size)) hgrow hown';have f1:=hb5.frozen (2+m);have hplt5:=hb5.lt;have d5:w5.cell? ⟨p,2+m,none⟩=some (.slice VA k vc):=(hb5.cell (2+m)).trans (Kmw hm)
          have hst6:RfI p Qm 110 (boxC hl mx hg (.slice none 0 0)) (2+m) (.slice (some ⟨g9,0,none⟩) (k+1) cap) (k+1) (((s.g m).take (k+1)).flatMap Kac) wm (w5.setCell ⟨p,2+m,none⟩ (.slice (some ⟨g9,0,none⟩) (k+1) cap)):=by
           rw[HTK.out,List.flatMap_append,List.flatMap_singleton];exact hst5
          have HST6:=Jh hst6;refine ⟨fun h=>absurd h (by decide),?_⟩;simp only[Act.put,Ja,Jb,Jc];refine Kaa (i:=13) (d:=some 67) rfl rfl (by kernel_rfl) (by kernel_rfl) (by kernel_rfl) rfl (fun _ _ _ h=>h) (by rfl) (fun w=>by go_simp;try rfl) (fun h=>absurd h (by decide)) ?_;simp only[Act.put,Ja,Jb,Jc];refine Kak (i:=14) (by kernel_rfl) rfl rfl ?_;refine Oper.wp_skipped (w':=w5.setCell ⟨p,2+m,none⟩ (.slice (some ⟨g9,0,none⟩) (k+1) cap)) rfl (by go_simp;try rfl) ?_;refine ⟨fun h=>absurd h (by decide),?_⟩;refine Kaw (by kernel_rfl) ?_ _;clear hown' hgrow hb5 hst5 hst6 hS hb4b hp9 hrow5 d5 f1 hS4 hS5;go_wp2_with fail
          go_roundg (gk - 1)
          case measure=>have:=HKG.out;omega
          case rel=>exact ⟨k+1,_,by have:=HKG.out;omega,by first | rfl | go_num,HST6.out⟩
         ·refine Oper.wp_ran (d:=some 63) (w':=w4.drew) (v:=.agg #[.int .i64 x.frm,.int .i64 x.to_]) rfl (by go_simp;try rfl) ?_;refine ⟨fun h=>absurd h (by decide),?_⟩;simp only[Act.put,Ja,Jb,Jc];refine Krp (i:=4) (j:=10) (by kernel_rfl) rfl rfl rfl rfl ?_ ?_
          ·refine Oper.wp_ran (d:=some 58) (w':=w4.drew) (v:=.slice VA k vc) rfl (by go_simp;try rfl) ?_;refine ⟨fun h=>absurd h (by decide),?_⟩;simp only[Act.put,Ja,Jb,Jc];refine Kak (i:=10) (by kernel_rfl) rfl rfl ?_;refine Oper.wp_ran (d:=some 64) (w':=w4.drew.alloc (.cells #[.int .i64 x.frm,.int .i64 x.to_] 110)) (v:=.slice (some ⟨w4.drew.heap.size,0,none⟩) 1 1) rfl (by go_simp;try rfl) ?_;rw[hw4b,hp9e];refine ⟨fun h=>absurd h (by decide),?_⟩;simp only[Act.put,Ja,Jb,Jc];refine Kak (i:=11) (by kernel_rfl) rfl rfl ?_;refine OpW.of (wp_append_lies w4b _ _ _ rfl Qm 110 ig (.agg #[.int .i64 0,.int .i64 0]) 2 16 Tryz.underlying99 hig0 hg0 hg1 hg2 rfl (by decide) (.slice VA k vc) k _ rfl hrow5 ⟨p9,0,none⟩ 1 1 [.int .i64 x.frm,.int .i64 x.to_] rfl rfl ?k1b ?k2b (by decide) (by unfold maxLen;omega) (by omega) ?k5b w4b.heap.size rfl ?k6b)
           case k1b=>exact Kav (l:=[.int .i64 x.frm,.int .i64 x.to_]) hp9
           case k2b=>
            intro u hu;simp only[List.mem_cons,List.not_mem_nil,or_false] at hu;rcases hu with rfl | rfl <;> rfl
           case k5b=>have:=hb4b.size;omega
           intro g9 cap w5 hown' hgrow _ _;obtain ⟨hb5,hst5⟩:=HST.out.step HQm.out (by omega) (HB4.out.trans (hb4b.mono HB4.out.size)) hgrow hown';have f1:=hb5.frozen (2+m);have hplt5:=hb5.lt;have d5:w5.cell? ⟨p,2+m,none⟩=some (.slice VA k vc):=(hb5.cell (2+m)).trans (Kmw hm)
           have hst6:RfI p Qm 110 (boxC hl mx hg (.slice none 0 0)) (2+m) (.slice (some ⟨g9,0,none⟩) (k+1) cap) (k+1) (((s.g m).take (k+1)).flatMap Kac) wm (w5.setCell ⟨p,2+m,none⟩ (.slice (some ⟨g9,0,none⟩) (k+1) cap)):=by
            rw[HTK.out,List.flatMap_append,List.flatMap_singleton];exact hst5
           have HST6:=Jh hst6;refine ⟨fun h=>absurd h (by decide),?_⟩;simp only[Act.put,Ja,Jb,Jc];refine Kaa (i:=13) (d:=some 67) rfl rfl (by kernel_rfl) (by kernel_rfl) (by kernel_rfl) rfl (fun _ _ _ h=>h) (by rfl) (fun w=>by go_simp;try rfl) (fun h=>absurd h (by decide)) ?_;simp only[Act.put,Ja,Jb,Jc];refine Kak (i:=14) (by kernel_rfl) rfl rfl ?_;refine Oper.wp_skipped (w':=w5.setCell ⟨p,2+m,none⟩ (.slice (some ⟨g9,0,none⟩) (k+1) cap)) rfl (by go_simp;try rfl) ?_;refine ⟨fun h=>absurd h (by decide),?_⟩;refine Kaw (by kernel_rfl) ?_ _;clear hown' hgrow hb5 hst5 hst6 hS hb4b hp9 hrow5 d5 f1 hS4 hS5;go_wp2_with fail
           go_roundg (gk - 1)
           case measure=>have:=HKG.out;omega
           case rel=>exact ⟨k+1,_,by have:=HKG.out;omega,by first | rfl | go_num,HST6.out⟩
          ·refine Oper.wp_ran (d:=some 64) (w':=w4.drew.alloc (.cells #[.int .i64 x.frm,.int .i64 x.to_] 110)) (v:=.slice (some ⟨w4.drew.heap.size,0,none⟩) 1 1) rfl (by go_simp;try rfl) ?_;rw[hw4b,hp9e];refine ⟨fun h=>absurd h (by decide),?_⟩;simp only[Act.put,Ja,Jb,Jc];refine Kak (i:=4) (by kernel_rfl) rfl rfl ?_;refine Oper.wp_ran (d:=some 58) (w':=w4b) (v:=.slice VA k vc) rfl (by go_simp;try rfl) ?_;refine ⟨fun h=>absurd h (by decide),?_⟩;simp only[Act.put,Ja,Jb,Jc];refine Kak (i:=11) (by kernel_rfl) rfl rfl ?_;refine OpW.of (wp_append_lies w4b _ _ _ rfl Qm 110 ig (.agg #[.int .i64 0,.int .i64 0]) 2 16 Tryz.underlying99 hig0 hg0 hg1 hg2 rfl (by decide) (.slice VA k vc) k _ rfl hrow5 ⟨p9,0,none⟩ 1 1 [.int .i64 x.frm,.int .i64 x.to_] rfl rfl ?k1c ?k2c (by decide) (by unfold maxLen;omega) (by omega) ?k5c w4b.heap.size rfl ?k6c)
           case k1c=>exact Kav (l:=[.int .i64 x.frm,.int .i64 x.to_]) hp9
           case k2c=>
            intro u hu;simp only[List.mem_cons,List.not_mem_nil,or_false] at hu;rcases hu with rfl | rfl <;> rfl
           case k5c=>have:=hb4b.size;omega
           intro g9 cap w5 hown' hgrow _ _;obtain ⟨hb5,hst5⟩:=HST.out.step HQm.out (by omega) (HB4.out.trans (hb4b.mono HB4.out.size)) hgrow hown';have f1:=hb5.frozen (2+m);have hplt5:=hb5.lt;have d5:w5.cell? ⟨p,2+m,none⟩=some (.slice VA k vc):=(hb5.cell (2+m)).trans (Kmw hm)
           have hst6:RfI p Qm 110 (boxC hl mx hg (.slice none 0 0)) (2+m) (.slice (some ⟨g9,0,none⟩) (k+1) cap) (k+1) (((s.g m).take (k+1)).flatMap Kac) wm (w5.setCell ⟨p,2+m,none⟩ (.slice (some ⟨g9,0,none⟩) (k+1) cap)):=by
            rw[HTK.out,List.flatMap_append,List.flatMap_singleton];exact hst5
           have HST6:=Jh hst6;refine ⟨fun h=>absurd h (by decide),?_⟩;simp only[Act.put,Ja,Jb,Jc];refine Kaa (i:=13) (d:=some 67) rfl rfl (by kernel_rfl) (by kernel_rfl) (by kernel_rfl) rfl (fun _ _ _ h=>h) (by rfl) (fun w=>by go_simp;try rfl) (fun h=>absurd h (by decide)) ?_;simp only[Act.put,Ja,Jb,Jc];refine Kak (i:=14) (by kernel_rfl) rfl rfl ?_;refine Oper.wp_skipped (w':=w5.setCell ⟨p,2+m,none⟩ (.slice (some ⟨g9,0,none⟩) (k+1) cap)) rfl (by go_simp;try rfl) ?_;refine ⟨fun h=>absurd h (by decide),?_⟩;refine Kaw (by kernel_rfl) ?_ _;clear hown' hgrow hb5 hst5 hst6 hS hb4b hp9 hrow5 d5 f1 hS4 hS5;go_wp2_with fail
           go_roundg (gk - 1)
           case measure=>have:=HKG.out;omega
           case rel=>exact ⟨k+1,_,by have:=HKG.out;omega,by first | rfl | go_num,HST6.out⟩
        ·have elk:decide (k < gn)=false:=by rw[decide_eq_false_iff_not];exact hk
         have hkn:k=gn:=by have:=HKG.out;omega
         have htk:(s.g m).take k=(s.g m):=List.take_of_length_le (by have:=HGLEN.out;omega);have hst:=HST.out;rw[htk] at hst;have HSTd:=Jh hst;have hkl:(s.g m).length=k:=by have:=HGLEN.out;omega
         obtain ⟨A8,c8,e8,k1,k2,k3⟩:=Elems.of_own (enc:=Kac) (fun x _=>Kcj x) rfl hst.r hkl;injection e8 with e81 e82 e83;subst e81 e83;have HK1:=Jh k1;have HK2:=Jh k2;have HK3:=Jh k3;clear hst htk k1 k2 k3;go_wp2_with fail
         go_meet
         have hkk:=HSTd.out.k;have hkg2:=HKGm.out.kept hkk.wide2;have hpw:p < wm.heap.size:=HBXm.out.lt;have hof:Off (p+1) [p,p] VA k:=fun _ a ha=>⟨by have:=HK2.out a ha;have:=HQm.out;omega,by have:=HK2.out a ha;have:=HQm.out;simp;omega⟩
         have hlm:((List.range m).map s.g).length=m:=by simp
         refine ⟨⟨VA,k,vc⟩,?_,by rw[←Qgc hm];exact HSTd.out.b,hkk⟩;rw[List.range_succ,List.map_append];exact hkg2.add hlm HK1.out hof
      obtain ⟨h,hkg,hbx,hkk⟩:=hcut;obtain ⟨wn,rfl⟩:∃x,x=wc:=⟨_,rfl⟩;have HKGn:=Jh hkg;have HBXn:=Jh hbx;have HKKn:=Jh (Kec HKKm.out hkk);clear hkg hbx hkk;go_wp2_with fail
      go_roundg (3 - m - 1)
      case measure=>have:=HMG.out;omega
      case rel=>exact ⟨m+1,updG hg m h,by omega,by first | rfl | go_num,fun j hj=>by unfold updG;rw[if_neg (by omega)];exact HDEF.out j (by omega),HKGn.out,HBXn.out,HKKn.out⟩
     ·have elm:decide (m < 3)=false:=by rw[decide_eq_false_iff_not];exact hm
      have hm3:m=3:=by have:=HMG.out;omega
      subst hm3;go_wp2_with fail
      go_meet
      exact ⟨hg,HKGm.out,HBXm.out,HKKm.out⟩
   obtain ⟨hg,hkg,hbx,hkk⟩:=hcut;obtain ⟨w6,rfl⟩:∃x,x=wc:=⟨_,rfl⟩;have HKGg:=Jh hkg;have HBXg:=Jh hbx;have HKKg:=Jh hkk;have hk56:=HK53.out.kept hkk HK53.out.lt (by simp;omega);have HK56:=Jh hk56;have s5:w6.cell? ⟨p5,5,none⟩=some (.slice SA sn sc):=hk56.cell 5;have hp56:=hk56.lt;have HSRC6:Hid (Elems w6 w6.heap.size 2 Kcb SA sn s.samples):=Jh ((HK.out.kx HKKl.out ⟨HSRCL.out,HSRCG.out 0,HSRCG.out 1,HSRCG.out 2,HSRCS.out⟩).kx hkk ⟨HSRCL.out,HSRCG.out 0,HSRCG.out 1,HSRCG.out 2,HSRCS.out⟩).s;obtain ⟨Q6,hQ6⟩:∃x,w6.heap.size=x:=⟨_,rfl⟩;have HQ6:=Jh hQ6;have hpQ6:p < Q6:=by rw[←hQ6];exact hbx.lt
   clear hkg hbx hkk hk56 hQ6 g0 g1 g2 hp53;go_upto_block 8 with fail
   go_cut [] (fun wz=>∃hs:Hd,Elems wz wz.heap.size 2 Kcb hs.A hs.n s.samples∧hs.n≤hs.c∧Off (p+1) [p] hs.A hs.n∧Blk wz p 103 (boxC hl mx hg (hdV hs))∧Kept w6.heap.size [p] w6 wz)
   case first=>
    go_wp2_with fail
    go_loopg [73] sn (fun g sk wz=>∃(k:Nat) (v:Value),k+g=sn∧sk = .int .i64 (k:Int)∧RfI p Q6 111 (boxC hl mx hg (.slice none 0 0)) 5 v k ((s.samples.take k).flatMap Kcb) w6 wz)
    case atStart=>exact ⟨0,.slice none 0 0,by omega,rfl,by exact HBXg.out,by rw[List.take_zero];exact World.ownsRow_nil _ _ _ _,Kept.refl _ _ _⟩
    case round=>
     obtain ⟨k,v,hkg,rfl,hst⟩:=hrel;have HKG:=Jh hkg;have HST:=Jh hst;clear hkg hst;obtain ⟨wk,rfl⟩:∃x,x=wr:=⟨_,rfl⟩;obtain ⟨VA,vc,rfl⟩:=Kdp HST.out.r
     by_cases hk:k < sn
     ·have elk:decide (k < sn)=true:=by rw[decide_eq_true_eq];exact hk
      have hk2:(k:Int) < (sn:Int):=by omega
      have hesrc:=HSRC6.out.kx HSRCS.out HST.out.k;obtain ⟨bx,ox,hAx,hbx,hgx⟩:=hesrc.getS hk;subst hAx;have hkl:k < s.samples.length:=by have:=HSLL.out;omega
      obtain ⟨x,hx⟩:∃x,s.samples[k]! = x:=⟨_,rfl⟩;rw[hx] at hgx;have c0x:wk.cell? ⟨bx,ox+k*2,none⟩=some (.int .i64 x.t):=hgx 0 _ rfl;have c1x:wk.cell? ⟨bx,ox+k*2+1,none⟩=some (.int .u64 (x.v:Int)):=hgx 1 _ rfl;have hbxk:bx < wk.heap.size:=hbx;have htk:s.samples.take (k+1)=s.samples.take k ++ [x]:=by rw[List.take_succ_eq_append_getElem hkl,←hx,getElem!_pos _ k hkl]
      have HTK:=Jh htk;clear htk hx hgx hesrc;go_upto_region 23 with fail
      have hb4:Below wk.heap.size wk (wk.alloc (.cells #[.int .i64 x.t,.int .u64 (x.v:Int)] 93)):=(Below.refl _ _).alloc (Nat.le_refl _) _;have hp8:Blk (wk.alloc (.cells #[.int .i64 x.t,.int .u64 (x.v:Int)] 93)) wk.heap.size 93 #[.int .i64 x.t,.int .u64 (x.v:Int)]:=Blk.new _ _ _;obtain ⟨w4,hw4e⟩:∃w4,wk.alloc (.cells #[.int .i64 x.t,.int .u64 (x.v:Int)] 93)=w4:=⟨_,rfl⟩;obtain ⟨p8,hp8e⟩:∃p8,wk.heap.size=p8:=⟨_,rfl⟩;rw[hw4e] at hb4 hp8;rw[hw4e];rw[hp8e] at hp8
      try rw[hp8e]
      have u0:w4.cell? ⟨p8,0,none⟩=some (.int .i64 x.t):=hp8.cell 0;have u1:w4.cell? ⟨p8,1,none⟩=some (.int .u64 (x.v:Int)):=hp8.cell 1;have hbx4:=HST.out.b.below hb4 HST.out.b.lt;have d1:w4.cell? ⟨p,5,none⟩=some (.slice VA k vc):=(hbx4.cell (5)).trans (rfl);have hplt:=hbx4.lt;have hrow4:=Kdk HST.out.r hb4;have HB4:=Jh hb4;have hqz:Q6≤w4.heap.size:=by have h1:=HST.out.k.size;have h2:=hb4.size;have h3:=HQ6.out;omega
      have hp84:=hp8.lt;have HROW4:=Jh hrow4;clear hw4e hb4 hp8 hbx4 hp8e c0x c1x hrow4;go_wp2_with (at_builtin;refine wpList_append_own_at _ rfl _ _ 101 rfl Q6 111 is (.agg #[.int .i64 0,.int .u64 0]) 2 16 Tryz.underlying101 his hs0 hs1 hs2 rfl (by decide) _ _ _ rfl (World.ownsRow.alloc HROW4.out _) ⟨w4.heap.size,0,none⟩ 1 1 [.int .i64 x.t,.int .u64 (x.v:Int)] rfl rfl ?k1 ?k2 ?k3 ?k4 ?k5 ?_)
      try (case k1=>exact Kav (l:=[.int .i64 x.t,.int .u64 (x.v:Int)]) (Blk.new w4 _ _))
      case k2=>
       first
       | exact ⟨rfl,rfl⟩
       | (intro u hu;simp only[List.mem_cons,List.not_mem_nil,or_false] at hu;rcases hu with rfl | rfl <;> rfl)
      case k3=>unfold maxLen;omega
      case k4=>omega
      case k5=>first | omega | (simp;omega)
      intro v' w5 hown' hgrow0 _ _
      have hgrow:w4.grownBy w5 (Value.slice VA k vc).ownBlock:=by
       first
       | exact (World.grownBy_alloc w4 _ _).trans hgrow0
       | exact hgrow0
      obtain ⟨hb5,hst5⟩:=HST.out.step HQ6.out (by omega) HB4.out hgrow hown';have f1:=hb5.frozen (5);have hplt5:=hb5.lt;have d5:w5.cell? ⟨p,5,none⟩=some (.slice VA k vc):=(hb5.cell (5)).trans (rfl)
      have hst6:RfI p Q6 111 (boxC hl mx hg (.slice none 0 0)) 5 v' (k+1) ((s.samples.take (k+1)).flatMap Kcb) w6 (w5.setCell ⟨p,5,none⟩ v'):=by
       rw[HTK.out,List.flatMap_append,List.flatMap_singleton];exact hst5
      have HST6:=Jh hst6;obtain ⟨VA',vc',rfl⟩:=Kdp hown';clear hown' hgrow0 hgrow hb5 hst5 hst6;go_wp2_with fail
      go_roundg (gk - 1)
      case measure=>have:=HKG.out;omega
      case rel=>exact ⟨k+1,_,by have:=HKG.out;omega,by first | rfl | go_num,HST6.out⟩
     ·have elk:decide (k < sn)=false:=by rw[decide_eq_false_iff_not];exact hk
      have hkn:k=sn:=by have:=HKG.out;omega
      have htk:s.samples.take k=s.samples:=List.take_of_length_le (by have:=HSLL.out;omega);have hst:=HST.out;rw[htk] at hst;have HSTd:=Jh hst;have hkl:s.samples.length=k:=by have:=HSLL.out;omega
      obtain ⟨A8,c8,e8,k1,k2,k3⟩:=Elems.of_own (enc:=Kcb) (fun x _=>Kfs x) rfl hst.r hkl;injection e8 with e81 e82 e83;subst e81 e83;have HK1:=Jh k1;have HK2:=Jh k2;have HK3:=Jh k3;clear hst htk k1 k2 k3;go_wp2_with fail
      go_meet
      exact ⟨⟨VA,k,vc⟩,HK1.out,HK3.out,fun _ a ha=>⟨by have:=HK2.out a ha;omega,by have:=HK2.out a ha;simp;omega⟩,HSTd.out.b,HSTd.out.k⟩
   obtain ⟨hs,hse,hsc,hso,hbx,hkk⟩:=hcut;obtain ⟨w7,rfl⟩:∃x,x=wc:=⟨_,rfl⟩;have hkg7:=HKGg.out.kept hkk.wide2;have hbx7:=hbx
   have hb27:Below wo.heap.size wo w7:=by
    have k1:=HKKl.out;have k2:=HKKg.out;have hB2:=HB2.out;refine hB2.trans ⟨(hkk.os.trans k2.os).trans k1.os,(hkk.tape.trans k2.tape).trans k1.tape,(hkk.output.trans k2.output).trans k1.output,by have:=k1.size;have:=k2.size;have:=hkk.size;omega,fun j hj=>?_⟩;have hj1:j < w2.heap.size:=by have:=hB2.size;omega
    have hjp:j∉[p]:=by simp;omega
    exact (hkk.block j (by have:=k1.size;have:=k2.size;omega) hjp).trans ((k2.block j (by have:=k1.size;omega) hjp).trans (k1.block j hj1 hjp))
   have hat7:KAt w7 ⟨hl,hg 0,hg 1,hg 2,hs⟩ s:=⟨hkg7.lab,hkg7.lc,hkg7.gon 0 (by simp),hkg7.gon 1 (by simp),hkg7.gon 2 (by simp),hse,hsc⟩
   have hof7:Off p [] hl.A hl.n∧Off p [] (hg 0).A (hg 0).n∧Off p [] (hg 1).A (hg 1).n∧Off p [] (hg 2).A (hg 2).n∧Off p [] hs.A hs.n:=by
    have hd:∀{ex:List Nat} {A:Option Addr} {n:Nat},Off (p+1) ex A n→Off p [] A n:=fun o hp' a ha=>⟨by have:=(o hp' a ha).1;omega,by simp⟩
    exact ⟨hd hkg7.lo,hd (hkg7.go 0 (by simp)),hd (hkg7.go 1 (by simp)),hd (hkg7.go 2 (by simp)),hd hso⟩
   have HB7:=Jh hb27;have HAT7:=Jh hat7;have HOF7:=Jh hof7;have y0:w7.cell? ⟨p,0,none⟩=some (.slice hl.A hl.n hl.c):=hbx.cell 0;have y1:w7.cell? ⟨p,1,none⟩=some (.int .i64 mx):=hbx.cell 1;have y2:w7.cell? ⟨p,2,none⟩=some (.slice (hg 0).A (hg 0).n (hg 0).c):=hbx.cell 2;have y3:w7.cell? ⟨p,3,none⟩=some (.slice (hg 1).A (hg 1).n (hg 1).c):=hbx.cell 3;have y4:w7.cell? ⟨p,4,none⟩=some (.slice (hg 2).A (hg 2).n (hg 2).c):=hbx.cell 4;have y5:w7.cell? ⟨p,5,none⟩=some (.slice hs.A hs.n hs.c):=hbx.cell 5;have hp7:=hbx.lt;clear hse hsc hso hbx hkk hkg7 hbx7 hb27 hat7 hof7 s5 hp56;have hyl:ys.length=i:=by rw[HDR.out.len,List.length_take];omega
   have HYL:=Jh hyl;have hyz:ys.length≤1073741824:=by omega
   have HDR7:=Jh (HDR.out.below HB7.out);have hq07:q0≤w7.heap.size:=by have:=HB7.out.size;have:=HB.out.size;have:=HQ0.out;omega
   have hsvlt:∀b,sv.ownBlock=some b→b < p:=fun b hb=>by have:=(World.ownsRow.lt HDR.out.own b hb).2;omega
   have HSV:=Jh hsvlt;have hq0p:q0≤p:=by have:=HB.out.size;have:=HQ0.out;omega
   clear hsvlt hyl;go_wp2_with (at_builtin;refine wpList_append_lies _ rfl _ _ 28 rfl q0 103 ib (.agg #[.slice none 0 0,.int .i64 0,.slice none 0 0,.slice none 0 0,.slice none 0 0,.slice none 0 0]) 6 128 Tryz.underlying28 hib hz0 hz1 hz2 rfl (by decide) sv ys.length (ys.flatMap encKY) rfl (World.ownsRow.alloc HDR7.out.own _) ⟨w7.heap.size,0,none⟩ 1 1 (encKY ⟨⟨hl,hg 0,hg 1,hg 2,hs⟩,mx⟩) rfl rfl ?k1 ?k2 (by decide) ?k3 ?k4 ?k5 _ rfl ?_)
   try (case k1=>exact Kav (l:=encKY ⟨⟨hl,hg 0,hg 1,hg 2,hs⟩,mx⟩) (Blk.new w7 _ _))
   case k2=>
    intro u hu;simp only[encKY,List.mem_cons,List.not_mem_nil,or_false] at hu;rcases hu with rfl | rfl | rfl | rfl | rfl | rfl <;> rfl
   case k3=>unfold maxLen;omega
   case k4=>omega
   case k5=>first | omega | (simp;omega)
   intro g9 cap w9 hown hgr hat hlt;rw[HYL.out] at hown;have h8:Below w7.heap.size w7 (w7.alloc (.cells #[.slice hl.A hl.n hl.c,.int .i64 mx,.slice (hg 0).A (hg 0).n (hg 0).c,.slice (hg 1).A (hg 1).n (hg 1).c,.slice (hg 2).A (hg 2).n (hg 2).c,.slice hs.A hs.n hs.c] 103)):=(Below.refl _ _).alloc (Nat.le_refl _) _;have hown2:w9.ownsRow q0 103 6 (.slice (some ⟨g9,0,none⟩) (ys.length+1) cap) (ys.length+1) (ys.flatMap encKY++encKY ⟨⟨hl,hg 0,hg 1,hg 2,hs⟩,s.max⟩):=by rw[HMX.out,HYL.out];exact hown
   have hdr9:=(HDR7.out.below h8).add (HAT7.out.below h8) HOF7.out hq0p HSV.out hown2 hgr (by simpa using hat);have htk:L.take (i+1)=L.take i ++ [s]:=by rw[List.take_succ_eq_append_getElem hil,←HSI.out,getElem!_pos L i hil]
   rw[←htk,HYL.out] at hdr9;have hb9:Below q0 w w9:=(HB.out.trans (HB7.out.mono (by have:=HB.out.size;have:=HQ0.out;omega))).trans ((h8.mono (by omega)).trans ⟨hgr.os,hgr.tape,hgr.output,hgr.size,fun j hj=>hgr.block j (by have:=h8.size;omega) (fun e=>by have:=(World.ownsRow.lt HDR.out.own j e.symm).1;omega)⟩);have HDR9:=Jh hdr9;have HB9:=Jh hb9;clear hown hgr hat hlt h8 hown2 hdr9 htk hb9 y0 y1 y2 y3 y4 y5;go_wp2_with fail
   go_roundg (n - i - 1)
   case measure=>have:=HIG.out;omega
   case rel=>exact ⟨i+1,_,.slice (some ⟨g9,0,none⟩) (i+1) cap,by rw[HYL.out],by omega,by first | rfl | go_num,HDR9.out,HB9.out⟩
  ·have el:decide (i < n)=false:=by rw[decide_eq_false_iff_not];exact hi
   have hin0:i=n:=by have:=HIG.out;omega
   subst hin0;have htk:L.take i=L:=List.take_of_length_le (by have:=HL.out;omega);have hdr:=HDR.out;rw[htk] at hdr;obtain ⟨A',c',rfl⟩:=Kdp hdr.own;have hyl:ys.length=i:=by rw[hdr.len];exact HL.out
   have hse:=hdr.sers.2;rw[hyl] at hse;have HSE:=Jh hse;rw[hyl];clear hdr hse htk hyl;go_wp2_with fail
   go_ret
   exact ⟨⟨_,_,rfl,HSE.out⟩,HB.out⟩
end
section
structure Inf where
 id:Int
 res:Int
 frm:Int
 to_:Int
 bytes:Int
deriving DecidableEq
instance:Inhabited Inf:=⟨⟨0,0,0,0,0⟩⟩
def i64 (v:Int):Prop:=-9223372036854775808≤v∧v≤9223372036854775807
instance (v:Int):Decidable (i64 v):=by unfold i64;infer_instance
end
end Go.Proofs.YtefpndiiedkmpaaGreatDoor
