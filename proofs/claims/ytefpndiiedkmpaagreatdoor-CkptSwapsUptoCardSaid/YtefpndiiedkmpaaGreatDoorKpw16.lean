/- Merged (what the claim wants of): KptSwapW, DskLaid, KptD, KptProofWF, KptProofW. -/
import Derived.Test.YtefpndiiedkmpaaGreatDoorKpw15
import Derived.Test.YtefpndiiedkmpaaGreatDoorKpw14
import Derived.Test.YtefpndiiedkmpaaGreatDoorRows
import Derived.Stop.LaidTwo
import Derived.Test.YtefpndiiedkmpaaGreatDoorCards
import Derived.Test.YtefpndiiedkmpaaGreatDoorTie
import Derived.WalkKit
import Derived.Deep.DeepHandedRow
import Derived.Deep.DeepWitnessRowRef
import Derived.Lib.LaidTab
import Derived.ProofKit
set_option linter.unusedVariables false
set_option linter.unusedSimpArgs false
set_option maxRecDepth 100000
set_option maxHeartbeats 8000000
namespace Go.Proofs.YtefpndiiedkmpaaGreatDoor
section
open Go.RowKit Go.Shelf Go.Sort
open Lib renaming hid → Jh
attribute [local go_sem ↓] Go.wp_at_zero Go.wp_at_succ
attribute [local go_sem] Later.cell
theorem Qds (cap:Nat) (P s:Txt) (n:Int):Kgt (putX cap P s) n=oneK P 0 [⟨P,false,0⟩] [] [byOk s] cap n.toNat:=rfl
theorem Qmj (cap:Nat) (P c s:Txt) (aw:Nat) (hP:nameB P=true) (hF:nameB (P++Kby)=true) (hr:c.length+s.length≤cap) (n:Int) (data:List Int) (z:Bool) :
  ((putD (oneK P 0 [⟨P,false,0⟩] [] [byOk c] cap aw) P s).1=1∧(putD (oneK P 0 [⟨P,false,0⟩] [] [byOk c] cap aw) P s).2.off=true∧(LeftK P (P++Kby) cap c (Kbc (putD (oneK P 0 [⟨P,false,0⟩] [] [byOk c] cap aw) P s).2 n data z)∨LeftK P (P++Kby) cap s (Kbc (putD (oneK P 0 [⟨P,false,0⟩] [] [byOk c] cap aw) P s).2 n data z)))∨
  ((putD (oneK P 0 [⟨P,false,0⟩] [] [byOk c] cap aw) P s).1=0∧(putD (oneK P 0 [⟨P,false,0⟩] [] [byOk c] cap aw) P s).2.off=false∧LeftK P (P++Kby) cap s (Kbc (putD (oneK P 0 [⟨P,false,0⟩] [] [byOk c] cap aw) P s).2 n data z)):=by
 obtain ⟨n1,n2⟩:=Qif P;obtain ⟨F,hFe⟩:∃F,P++Kby=F:=⟨_,rfl⟩;rw[hFe] at hF n1 n2 ⊢;unfold putD;rw[hFe,Qhn hF n2];rcases Qlq hP hF n2 n1 cap aw c s hr n data z with ⟨y,e,h1,h2⟩ | ⟨y,e,h1,h2⟩
 ·rw[e];exact .inl ⟨rfl,h1,h2⟩
 ·rw[e];exact .inr ⟨rfl,h1,h2⟩
section
variable {B0 : Nat} {a : Nat → Addr}
set_option maxHeartbeats 16000000 in
theorem Kpr (A1 A2 A:Option Addr) (n1 n2 nd c1 c2 c:Nat) (L1 L2:List KSer) (at_ names:Int) (data:List Int) (z:Bool) (w:World) (hS1:KSers w A1 n1 L1) (hS2:KSers w A2 n2 L2) (hL1:LSzK L1) (hL2:LSzK L2)
  (hat:-9223372036854775808≤at_∧at_≤9223372036854775807) (hnm:-9223372036854775808≤names∧names≤9223372036854775807) (hA:A=none→c=0) (hD:Ints3 w A nd data) (hdi:∀x∈data,-9223372036854775808≤x∧x≤9223372036854775807) (hdl:nd≤1048576) (hC:QCon B0 a) (hE:QEnv B0 a w) :
  Calls Tryz.prog 8 #[.agg #[.slice A1 n1 c1,.slice A2 n2 c2,.int .i64 at_,.int .i64 names,.slice A nd c,.bool z]] w fun e w'=>e = .returned (.bool true)∧Below w.heap.size w w':=by
 have hn1:n1≤1048576:=by rw[←hS1.len];exact hL1.n
 have hn2:n2≤1048576:=by rw[←hS2.len];exact hL2.n
 obtain ⟨W,hW⟩:∃W,w.alloc (.cells #[.slice A1 n1 c1,.slice A2 n2 c2,.int .i64 at_,.int .i64 names,.slice A nd c,.bool z] 63)=W:=⟨_,rfl⟩;obtain ⟨b,hb⟩:∃b,w.heap.size=b:=⟨_,rfl⟩;have hbl:Below w.heap.size w W:=by rw[←hW];exact (Below.refl _ _).alloc (Nat.le_refl _) _
 have HK:Hid (Blk W b 63 #[.slice A1 n1 c1,.slice A2 n2 c2,.int .i64 at_,.int .i64 names,.slice A nd c,.bool z]):=Jh (by rw[←hW,←hb];exact Blk.new _ _ _);have HW:=Jh hW;have HG:=Jh hb;have HB:=Jh hbl;have HC:=Jh hC;have HE:=Jh (hE.low hC hbl);have HS1:=Jh (hS1.below hbl);have HS2:=Jh (hS2.below hbl);have HDA:Hid (∀w',Below W.heap.size W w'→Ints3 w' A nd data):=Jh fun w' h=>((Elems.below hD hbl).more hbl.size |>.below h).more h.size
 have HZ1:=Jh hL1;have HZ2:=Jh hL2;have HN1:=Jh hn1;have HN2:=Jh hn2;have HI:=Jh (⟨hat,hnm⟩:_∧_);have HDI:=Jh hdi;have HDL:=Jh hdl;have HAC:=Jh hA;have HAL1:=Jh (fun (A':Option Addr) (c':Nat) W' h1 h2=>Khf L1 L1 A' A1 n1 n1 c' c1 W' h1 h2 (by omega) (by omega) hL1.z hL1.z);have HAL2:=Jh (fun (A':Option Addr) (c':Nat) W' h1 h2=>Khf L2 L2 A' A2 n2 n2 c' c2 W' h1 h2 (by omega) (by omega) hL2.z hL2.z);have HAL12:=Jh (fun (A':Option Addr) (c':Nat) W' h1 h2=>Khf L1 L2 A' A2 n1 n2 c' c2 W' h1 h2 (by omega) (by omega) hL1.z hL2.z);have HDE1:=Jh (fun hf=>Ksb (L:=L1) hf (hL1.bits hf));have HDE2:=Jh (fun hf=>Ksb (L:=L2) hf (hL2.bits hf));have HLN1:=Jh hS1.len;have HLN2:=Jh hS2.len;have HWK:=Jh (Kwa W hC HE.out);clear hS1 hS2 hL1 hL2 hD hC hE hat hnm hdi hdl hA hn1 hn2 hW hb hbl;go_enter Tryz.func8,Tryz.ntmps8
 go_upto_region 1 with fail
 have hW2:w.alloc (.cells #[.slice A1 n1 c1,.slice A2 n2 c2,.int .i64 at_,.int .i64 names,.slice A nd c,.bool z] 63)=W:=HW.out;have hg2:w.heap.size=b:=HG.out;rw[hW2,hg2];clear hW2 hg2;go_wp2_with fail
 refine HWK.out.mono ?_;rintro _ w1 ⟨rfl,hb1⟩;have HB1:=Jh hb1;clear hb1;have x0:w1.cell? ⟨b,0,none⟩=some (.slice A1 n1 c1):=(HK.out.below HB1.out HK.out.lt).cell 0;go_wp2_with fail
 refine (Qci L1 A1 n1 c1 w1 (HS1.out.below HB1.out) HZ1.out (HE.out.low HC.out HB1.out)).mono ?_;rintro _ w2 ⟨⟨S,rfl,hd,hz⟩,hb9⟩;have HDT1:=Jh hd;have HSZ1:=Jh hz;have HB2:=Jh (HB1.out.trans (hb9.mono HB1.out.size));obtain ⟨ev,hev⟩:∃x:Int,(if fitK L1=true then (0:Int) else 150)=x:=⟨_,rfl⟩;have HEV1:=Jh hev;rw[hev];clear hev hd hz hb9 x0;have x1:w2.cell? ⟨b,1,none⟩=some (.slice A2 n2 c2):=(HK.out.below HB2.out HK.out.lt).cell 1;go_wp2_with fail
 refine (Qci L2 A2 n2 c2 w2 (HS2.out.below HB2.out) HZ2.out (HE.out.low HC.out HB2.out)).mono ?_;rintro _ w2b ⟨⟨T,rfl,hd,hz⟩,hb9⟩;have HDT2:=Jh hd;have HSZ2:=Jh hz;have HB2b:=Jh (HB2.out.trans (hb9.mono HB2.out.size));obtain ⟨ew,hev⟩:∃x:Int,(if fitK L2=true then (0:Int) else 150)=x:=⟨_,rfl⟩;have HEV2:=Jh hev;rw[hev];clear hev hd hz hb9 x1;obtain ⟨f,hf⟩:∃f,fitK L1=f:=⟨_,rfl⟩;have HF1:=Jh hf;clear hf;obtain ⟨g,hg⟩:∃g,fitK L2=g:=⟨_,rfl⟩;have HF2:=Jh hg;clear hg
 cases f with
 | false=>
  have e1:ev=150:=by rw[←HEV1.out,HF1.out];rfl
  subst e1;go_wp2_with fail
  go_ret
  exact ⟨rfl,HB.out.trans (HB2b.out.mono HB.out.size)⟩
 | true=>
  have e1:ev=0:=by rw[←HEV1.out,HF1.out];rfl
  subst e1
  cases g with
  | false=>
   have e2:ew=150:=by rw[←HEV2.out,HF2.out];rfl
   subst e2;go_wp2_with fail
   go_ret
   exact ⟨rfl,HB.out.trans (HB2b.out.mono HB.out.size)⟩
  | true=>
   have e2:ew=0:=by rw[←HEV2.out,HF2.out];rfl
   subst e2;have hz1:=HSZ1.out;have hz2:=HSZ2.out
   by_cases hsz:1048576 < S.size+T.size
   ·have hx:decide ((1048576:Int) < (S.size:Int)+(T.size:Int))=true:=decide_eq_true (by omega);go_wp2_with fail
    go_ret
    exact ⟨rfl,HB.out.trans (HB2b.out.mono HB.out.size)⟩
   have hx:decide ((1048576:Int) < (S.size:Int)+(T.size:Int))=false:=decide_eq_false (by omega)
   have hl1:(encK L1).length≤1048576∧(encK L2).length≤1048576∧(encK L1).length+(encK L2).length≤1048576:=by
    have h1:S.data.toList=encK L1:=by rw[HDT1.out,HF1.out];rfl
    have h2:T.data.toList=encK L2:=by rw[HDT2.out,HF2.out];rfl
    rw[←h1,←h2];show S.size≤_∧T.size≤_∧S.size+T.size≤_
    omega
   obtain ⟨hl1,hl2,hl3⟩:=hl1;have HNEW:=Jh (Dk.made 67108864 (by decide) (by decide) w2b (HE.out.low HC.out HB2b.out).hb);rw[Qid] at HNEW;clear hz1 hz2;go_wp2_with fail
   refine HNEW.out.mono ?_;rintro e w3 ⟨p,R,rfl,hd3,hb3,hz3⟩;have HD3:=Jh hd3;have HZ3:Hid (∀k,k < W.heap.size→R k=0):=Jh fun k hk=>hz3 k (by have:=HB2b.out.size;omega)
   have HB3:=Jh (HB2b.out.trans (hb3.mono HB2b.out.size));have HE3:=Jh (HE.out.low HC.out HB3.out);obtain ⟨P,hP⟩:∃P:ByteArray,(⟨#[99]⟩:ByteArray)=P:=⟨_,rfl⟩;have hPd:P.data.toList=sC:=by rw[←hP];rfl
   have hPz:P.size≤1000000000:=by rw[←hP];decide
   have HPd:=Jh hPd;have HPz:=Jh hPz;have hsv:=Kdz L1 A1 n1 c1 P w3 (HS1.out.below HB3.out) HZ1.out.z HN1.out HF1.out (by omega) hd3 (by omega) HC.out HE3.out hPz;rw[hPd,Qcr 67108864 sC (encK L1) Kcn Kjv (by omega)] at hsv;have HSV:=Jh hsv;clear hd3 hb3 hz3 hPd hPz hsv;have x0:w3.cell? ⟨b,0,none⟩=some (.slice A1 n1 c1):=(HK.out.below HB3.out HK.out.lt).cell 0;go_wp2_with fail
   refine HSV.out.mono ?_;rintro e w4 ⟨v4,R4,rfl,hv4,hd4,ho4⟩;obtain rfl:v4 = .nilIface:=hv4;have HO4:=Jh ho4;have HB4:=Jh (HB3.out.trans (ho4.below HB3.out.size HZ3.out));have HD4:Hid (Dk B0 2000000 w4 R4 p (putX 67108864 sC (encK L1))):=Jh (hd4.more (by omega));have HCR:=Jh (HD4.out.crash at_ HI.out.1.2 HI.out.1.1);rw[Qds] at HCR;clear hd4 ho4 x0;have x2:w4.cell? ⟨b,2,none⟩=some (.int .i64 at_):=(HK.out.below HB4.out HK.out.lt).cell 2;go_wp2_with fail
   refine HCR.out.mono ?_;rintro e w4b ⟨rfl,hd4,ho4⟩;have HO4b:=Jh (HO4.out.trans ho4);have HB4b:=Jh (HB3.out.trans (HO4b.out.below HB3.out.size HZ3.out));have HE4b:=Jh (HE.out.low HC.out HB4b.out);have hsv:=Kdz L2 A2 n2 c2 P w4b (HS2.out.below HB4b.out) HZ2.out.z HN2.out HF2.out (by omega) hd4 (by omega) HC.out HE4b.out HPz.out;have hsp:=Qmj 67108864 sC (encK L1) (encK L2) at_.toNat Kcn Kjv (by omega) names data z;rw[HPd.out] at hsv;obtain ⟨r5,hr5⟩:∃r,putD (oneK sC 0 [⟨sC,false,0⟩] [] [byOk (encK L1)] 67108864 at_.toNat) sC (encK L2)=r:=⟨_,rfl⟩;rw[hr5] at hsv hsp;have HSV1:=Jh hsv;have HSP:=Jh hsp;clear hd4 ho4 hsv hsp hr5 x2;have x1:w4b.cell? ⟨b,1,none⟩=some (.slice A2 n2 c2):=(HK.out.below HB4b.out HK.out.lt).cell 1;go_wp2_with fail
   refine HSV1.out.mono ?_;rintro e w5 ⟨v5,R5,rfl,hv5,hd5,ho5⟩;have HV5:=Jh hv5;have HD5:Hid (Dk B0 10000000 w5 R5 p r5.2):=Jh (hd5.more (by omega));have HO5:=Jh (HO4b.out.trans ho5);have HB5:=Jh (HB3.out.trans (HO5.out.below HB3.out.size HZ3.out));have HOF:Hid (∀x:Later w5,Calls Tryz.prog 24 #[.pointer (some ⟨p,0,none⟩)] x.w fun e w'=>e = .returned (.bool r5.2.off)∧Below x.w.heap.size x.w w'):=Jh fun x=>((HD5.out.below x.h).off).mono fun e w' ⟨h1,h2⟩=>⟨h1,h2▸Below.refl _ _⟩
   clear hv5 hd5 ho5 x1;rcases HSP.out with ⟨hk1,hoff,hlf⟩ | ⟨hk0,hoff,hlf⟩
   ·obtain ⟨q5,op,path,rfl,_⟩:=HV5.out.some_ (by omega);rw[hoff] at HOF;go_upto_region 12 with fail
    refine Kab (by kernel_rfl) (by kernel_rfl) ?_
    repeat (go_big_quiet_step ((go_at_call 24;exact Kbe _ (HOF.out _))))
    refine wpQuiet_nil ?_;rintro w6 ⟨⟨_,hb6⟩,rfl⟩;have HD6:=Jh (HD5.out.below hb6);have HO6:=Jh (HO5.out.trans (Out.of_below (R:=R5) hb6));have HB6:=Jh (HB5.out.trans (hb6.mono HB5.out.size));clear hb6 hoff;go_upto_region 14 with fail
    obtain ⟨A7,c7,w7,hrun7,hint7,hb7,hA7⟩:=Kyt A nd c data w6.drew (HDA.out _ HB6.out.drew) HAC.out (by have:=HDL.out;omega);have HD6d:=Jh (HD6.out.below (Below.refl _ w6).drew);have HRUN:=Jh hrun7;have HB7:=Jh (HB6.out.drew.trans (hb7.mono HB6.out.drew.size));have HO7:Hid (Out R R5 w3 w7):=Jh (HO6.out.trans ((Out.of_below (R:=R5) (Below.refl _ w6).drew).trans (Out.of_below (R:=R5) hb7)));have HRS:=Jh ((HD6d.out.below hb7).restart (by decide) (HE.out.low HC.out HB7.out).hb names HI.out.2.1 HI.out.2.2 A7 nd c7 data z hint7 (fun x hx _=>HD6d.out.new (hA7 x hx)) HDI.out (by have:=HDL.out;omega));have HX7:Hid (w7.cell? ⟨b,3,none⟩=some (.int .i64 names)∧w7.cell? ⟨b,4,none⟩=some (.slice A nd c)∧w7.cell? ⟨b,5,none⟩=some (.bool z)):=Jh ⟨(HK.out.below HB7.out HK.out.lt).cell 3,(HK.out.below HB7.out HK.out.lt).cell 4,(HK.out.below HB7.out HK.out.lt).cell 5⟩;have x3:w6.cell? ⟨b,3,none⟩=some (.int .i64 names):=(HK.out.below HB6.out HK.out.lt).cell 3;have x4:w6.cell? ⟨b,4,none⟩=some (.slice A nd c):=(HK.out.below HB6.out HK.out.lt).cell 4;have x5:w6.cell? ⟨b,5,none⟩=some (.bool z):=(HK.out.below HB6.out HK.out.lt).cell 5;clear hrun7 hint7 hb7 hA7;go_region_held_law (fun w'=>w'.cell? ⟨b,3,none⟩=some (.int .i64 names)∧w'.cell? ⟨b,4,none⟩=some (.slice A nd c)∧w'.cell? ⟨b,5,none⟩=some (.bool z)) (first | (exact HX8.out) | (exact HX7.out) | go_keep) (first | (refine Krh rfl _ _ _ rfl _ _ _ rfl rfl HRUN.out ?_) | (go_at_call 25;refine HRS.out.mono ?_;rintro e w8 ⟨R8,rfl,hd8,ho8⟩;have HD8:=Jh hd8;have HO8:=Jh (HO7.out.trans ho8);have HB8:=Jh (HB3.out.trans (HO8.out.below HB3.out.size HZ3.out));have HX8:Hid (w8.cell? ⟨b,3,none⟩=some (.int .i64 names)∧w8.cell? ⟨b,4,none⟩=some (.slice A nd c)∧w8.cell? ⟨b,5,none⟩=some (.bool z)):=Jh ⟨(HK.out.below HB8.out HK.out.lt).cell 3,(HK.out.below HB8.out HK.out.lt).cell 4,(HK.out.below HB8.out HK.out.lt).cell 5⟩;clear hd8 ho8))
    clear x3 x4 x5;have HE8:=Jh (HE.out.low HC.out HB8.out);obtain ⟨y8,hy8⟩:∃y,Kbc r5.2 names data z=y:=⟨_,rfl⟩;rw[hy8] at HD8 hlf;clear hy8;rcases hlf with hlk | hlk
    ·skip
     have HLA:=Jh (Kpc Kcn hlk);have HPT:=Jh (Kpd (s:=encK L2) Kcn Kjv hlk (by omega));clear hlk;have hld:=Kdq P (encK L1) w8 (by rw[HPd.out];exact HLA.out) (by omega) HD8.out (by decide) HC.out HE8.out HPz.out;rw[HDE1.out HF1.out] at hld;have HLD:=Jh hld;clear hld;go_wp2_with fail
     refine HLD.out.mono ?_;rintro e w9 ⟨R9,⟨A9,c9,rfl,h9,_,_⟩,hd9,ho9⟩;rw[HLN1.out] at h9 ⊢;have H9:=Jh h9;have HD9:=Jh hd9;have HO9:=Jh (HO8.out.trans ho9);have HB9:=Jh (HB3.out.trans (HO9.out.below HB3.out.size HZ3.out));have HE9:=Jh (HE.out.low HC.out HB9.out);clear h9 hd9 ho9;have x0:w9.cell? ⟨b,0,none⟩=some (.slice A1 n1 c1):=(HK.out.below HB9.out HK.out.lt).cell 0;have x1:w9.cell? ⟨b,1,none⟩=some (.slice A2 n2 c2):=(HK.out.below HB9.out HK.out.lt).cell 1;go_wp2_with fail
     refine (HAL12.out A9 c9 w9 H9.out (HS2.out.below HB9.out)).mono ?_;rintro _ w10 ⟨rfl,hb10⟩;have HD10:=Jh (HD9.out.below hb10);have HO10:=Jh (HO9.out.trans (Out.of_below (R:=R9) hb10));have HB10:=Jh (HB9.out.trans (hb10.mono HB9.out.size));have HE10:=Jh (HE.out.low HC.out HB10.out);have H10:=Jh (H9.out.below hb10);clear hb10 x0 x1
     by_cases h12:L1=L2
     ·rw[show decide (L1=L2)=true by rw[h12];simp];obtain ⟨i11,fs11,hp11,hi11⟩:=HPT.out;have hsv:=Kdz L2 A2 n2 c2 P w10 (HS2.out.below HB10.out) HZ2.out.z HN2.out HF2.out (by omega) HD10.out (by omega) HC.out HE10.out HPz.out;rw[HPd.out,hp11] at hsv;have HSV2:=Jh hsv;have HI11:=Jh hi11;clear hsv hp11 hi11;have x1:w10.cell? ⟨b,1,none⟩=some (.slice A2 n2 c2):=(HK.out.below HB10.out HK.out.lt).cell 1;go_wp2_with fail
      refine HSV2.out.mono ?_;rintro e w12 ⟨v12,R12,rfl,hv12,hd12,ho12⟩;obtain rfl:v12 = .nilIface:=hv12;have HD12:Hid (Dk B0 20000000 w12 R12 p (oneK sC i11 [⟨sC,false,i11⟩] [] fs11 67108864 0)):=Jh (hd12.more (by omega));have HO12:=Jh (HO10.out.trans ho12);have HB12:=Jh (HB3.out.trans (HO12.out.below HB3.out.size HZ3.out));have HE12:=Jh (HE.out.low HC.out HB12.out);have hld:=Kdq P (encK L2) w12 (by rw[HPd.out];exact k_all Kcn i11 _ _ fs11 67108864 0 _ HI11.out) (by omega) HD12.out (by decide) HC.out HE12.out HPz.out;rw[HDE2.out HF2.out] at hld;have HLD2:=Jh hld;clear hd12 ho12 hld x1;go_wp2_with fail
      refine HLD2.out.mono ?_;rintro e w13 ⟨R13,⟨A13,c13,rfl,h13,_,_⟩,hd13,ho13⟩;rw[HLN2.out] at h13 ⊢;have H13:=Jh h13;have HD13:=Jh hd13;have HO13:=Jh (HO12.out.trans ho13);have HB13:=Jh (HB3.out.trans (HO13.out.below HB3.out.size HZ3.out));have HE13:=Jh (HE.out.low HC.out HB13.out);clear h13 hd13 ho13;go_wp2_with fail
      refine (HD13.out.listedK (a:=a) (by decide) HE13.out.hb HE13.out.e.f).mono ?_;rintro e w14 ⟨A14,c14,u14,rfl,hb14⟩;rw[(Kqb (P:=sC) Kcn i11 _ _ fs11 67108864 0).1];have HB14:=Jh (HB13.out.trans (hb14.mono HB13.out.size));have H14:=Jh (H13.out.below hb14);clear hb14;have x1:w14.cell? ⟨b,1,none⟩=some (.slice A2 n2 c2):=(HK.out.below HB14.out HK.out.lt).cell 1;go_wp2_with fail
      refine (HAL2.out A13 c13 w14 H14.out (HS2.out.below HB14.out)).mono ?_;rintro _ w15 ⟨rfl,hb15⟩
      try rw[show decide True=true by rfl]
      have HB15:=Jh (HB14.out.trans (hb15.mono HB14.out.size));clear hb15 x1;go_wp2_with fail
      go_ret
      exact ⟨rfl,HB.out.trans (HB15.out.mono HB.out.size)⟩
     ·rw[show decide (L1=L2)=false by simp[h12]];have x0:w10.cell? ⟨b,0,none⟩=some (.slice A1 n1 c1):=(HK.out.below HB10.out HK.out.lt).cell 0;go_wp2_with fail
      refine (HAL1.out A9 c9 w10 H10.out (HS1.out.below HB10.out)).mono ?_;rintro _ w11 ⟨rfl,hb11⟩
      try rw[show decide True=true by rfl]
      have HD11:=Jh (HD10.out.below hb11);have HO11:=Jh (HO10.out.trans (Out.of_below (R:=R9) hb11));have HB11:=Jh (HB10.out.trans (hb11.mono HB10.out.size));have HE11:=Jh (HE.out.low HC.out HB11.out);clear hb11 x0;obtain ⟨i11,fs11,hp11,hi11⟩:=HPT.out;have hsv:=Kdz L2 A2 n2 c2 P w11 (HS2.out.below HB11.out) HZ2.out.z HN2.out HF2.out (by omega) HD11.out (by omega) HC.out HE11.out HPz.out;rw[HPd.out,hp11] at hsv;have HSV2:=Jh hsv;have HI11:=Jh hi11;clear hsv hp11 hi11;have x1:w11.cell? ⟨b,1,none⟩=some (.slice A2 n2 c2):=(HK.out.below HB11.out HK.out.lt).cell 1;go_wp2_with fail
      refine HSV2.out.mono ?_;rintro e w12 ⟨v12,R12,rfl,hv12,hd12,ho12⟩;obtain rfl:v12 = .nilIface:=hv12;have HD12:Hid (Dk B0 20000000 w12 R12 p (oneK sC i11 [⟨sC,false,i11⟩] [] fs11 67108864 0)):=Jh (hd12.more (by omega));have HO12:=Jh (HO11.out.trans ho12);have HB12:=Jh (HB3.out.trans (HO12.out.below HB3.out.size HZ3.out));have HE12:=Jh (HE.out.low HC.out HB12.out);have hld:=Kdq P (encK L2) w12 (by rw[HPd.out];exact k_all Kcn i11 _ _ fs11 67108864 0 _ HI11.out) (by omega) HD12.out (by decide) HC.out HE12.out HPz.out;rw[HDE2.out HF2.out] at hld;have HLD2:=Jh hld;clear hd12 ho12 hld x1;go_wp2_with fail
      refine HLD2.out.mono ?_;rintro e w13 ⟨R13,⟨A13,c13,rfl,h13,_,_⟩,hd13,ho13⟩;rw[HLN2.out] at h13 ⊢;have H13:=Jh h13;have HD13:=Jh hd13;have HO13:=Jh (HO12.out.trans ho13);have HB13:=Jh (HB3.out.trans (HO13.out.below HB3.out.size HZ3.out));have HE13:=Jh (HE.out.low HC.out HB13.out);clear h13 hd13 ho13;go_wp2_with fail
      refine (HD13.out.listedK (a:=a) (by decide) HE13.out.hb HE13.out.e.f).mono ?_;rintro e w14 ⟨A14,c14,u14,rfl,hb14⟩;rw[(Kqb (P:=sC) Kcn i11 _ _ fs11 67108864 0).1];have HB14:=Jh (HB13.out.trans (hb14.mono HB13.out.size));have H14:=Jh (H13.out.below hb14);clear hb14;have x1:w14.cell? ⟨b,1,none⟩=some (.slice A2 n2 c2):=(HK.out.below HB14.out HK.out.lt).cell 1;go_wp2_with fail
      refine (HAL2.out A13 c13 w14 H14.out (HS2.out.below HB14.out)).mono ?_;rintro _ w15 ⟨rfl,hb15⟩
      try rw[show decide True=true by rfl]
      have HB15:=Jh (HB14.out.trans (hb15.mono HB14.out.size));clear hb15 x1;go_wp2_with fail
      go_ret
      exact ⟨rfl,HB.out.trans (HB15.out.mono HB.out.size)⟩
    ·skip
     have HLA:=Jh (Kpc Kcn hlk);have HPT:=Jh (Kpd (s:=encK L2) Kcn Kjv hlk (by omega));clear hlk;have hld:=Kdq P (encK L2) w8 (by rw[HPd.out];exact HLA.out) (by omega) HD8.out (by decide) HC.out HE8.out HPz.out;rw[HDE2.out HF2.out] at hld;have HLD:=Jh hld;clear hld;go_wp2_with fail
     refine HLD.out.mono ?_;rintro e w9 ⟨R9,⟨A9,c9,rfl,h9,_,_⟩,hd9,ho9⟩;rw[HLN2.out] at h9 ⊢;have H9:=Jh h9;have HD9:=Jh hd9;have HO9:=Jh (HO8.out.trans ho9);have HB9:=Jh (HB3.out.trans (HO9.out.below HB3.out.size HZ3.out));have HE9:=Jh (HE.out.low HC.out HB9.out);clear h9 hd9 ho9;have x0:w9.cell? ⟨b,0,none⟩=some (.slice A1 n1 c1):=(HK.out.below HB9.out HK.out.lt).cell 0;have x1:w9.cell? ⟨b,1,none⟩=some (.slice A2 n2 c2):=(HK.out.below HB9.out HK.out.lt).cell 1;go_wp2_with fail
     refine (HAL2.out A9 c9 w9 H9.out (HS2.out.below HB9.out)).mono ?_;rintro _ w10 ⟨rfl,hb10⟩
     try rw[show decide True=true by rfl]
     have HD10:=Jh (HD9.out.below hb10);have HO10:=Jh (HO9.out.trans (Out.of_below (R:=R9) hb10));have HB10:=Jh (HB9.out.trans (hb10.mono HB9.out.size));have HE10:=Jh (HE.out.low HC.out HB10.out);have H10:=Jh (H9.out.below hb10);clear hb10 x0 x1;obtain ⟨i11,fs11,hp11,hi11⟩:=HPT.out;have hsv:=Kdz L2 A2 n2 c2 P w10 (HS2.out.below HB10.out) HZ2.out.z HN2.out HF2.out (by omega) HD10.out (by omega) HC.out HE10.out HPz.out;rw[HPd.out,hp11] at hsv;have HSV2:=Jh hsv;have HI11:=Jh hi11;clear hsv hp11 hi11;have x1:w10.cell? ⟨b,1,none⟩=some (.slice A2 n2 c2):=(HK.out.below HB10.out HK.out.lt).cell 1;go_wp2_with fail
     refine HSV2.out.mono ?_;rintro e w12 ⟨v12,R12,rfl,hv12,hd12,ho12⟩;obtain rfl:v12 = .nilIface:=hv12;have HD12:Hid (Dk B0 20000000 w12 R12 p (oneK sC i11 [⟨sC,false,i11⟩] [] fs11 67108864 0)):=Jh (hd12.more (by omega));have HO12:=Jh (HO10.out.trans ho12);have HB12:=Jh (HB3.out.trans (HO12.out.below HB3.out.size HZ3.out));have HE12:=Jh (HE.out.low HC.out HB12.out);have hld:=Kdq P (encK L2) w12 (by rw[HPd.out];exact k_all Kcn i11 _ _ fs11 67108864 0 _ HI11.out) (by omega) HD12.out (by decide) HC.out HE12.out HPz.out;rw[HDE2.out HF2.out] at hld;have HLD2:=Jh hld;clear hd12 ho12 hld x1;go_wp2_with fail
     refine HLD2.out.mono ?_;rintro e w13 ⟨R13,⟨A13,c13,rfl,h13,_,_⟩,hd13,ho13⟩;rw[HLN2.out] at h13 ⊢;have H13:=Jh h13;have HD13:=Jh hd13;have HO13:=Jh (HO12.out.trans ho13);have HB13:=Jh (HB3.out.trans (HO13.out.below HB3.out.size HZ3.out));have HE13:=Jh (HE.out.low HC.out HB13.out);clear h13 hd13 ho13;go_wp2_with fail
     refine (HD13.out.listedK (a:=a) (by decide) HE13.out.hb HE13.out.e.f).mono ?_;rintro e w14 ⟨A14,c14,u14,rfl,hb14⟩;rw[(Kqb (P:=sC) Kcn i11 _ _ fs11 67108864 0).1];have HB14:=Jh (HB13.out.trans (hb14.mono HB13.out.size));have H14:=Jh (H13.out.below hb14);clear hb14;have x1:w14.cell? ⟨b,1,none⟩=some (.slice A2 n2 c2):=(HK.out.below HB14.out HK.out.lt).cell 1;go_wp2_with fail
     refine (HAL2.out A13 c13 w14 H14.out (HS2.out.below HB14.out)).mono ?_;rintro _ w15 ⟨rfl,hb15⟩
     try rw[show decide True=true by rfl]
     have HB15:=Jh (HB14.out.trans (hb15.mono HB14.out.size));clear hb15 x1;go_wp2_with fail
     go_ret
     exact ⟨rfl,HB.out.trans (HB15.out.mono HB.out.size)⟩
   ·obtain rfl:v5 = .nilIface:=HV5.out.nil hk0;rw[hoff] at HOF;go_upto_region 12 with fail
    refine Kab (by kernel_rfl) (by kernel_rfl) ?_
    repeat (go_big_quiet_step ((go_at_call 24;exact Kbe _ (HOF.out _))))
    refine wpQuiet_nil ?_;rintro w6 ⟨⟨_,hb6⟩,rfl⟩;have HD6:=Jh (HD5.out.below hb6);have HO6:=Jh (HO5.out.trans (Out.of_below (R:=R5) hb6));have HB6:=Jh (HB5.out.trans (hb6.mono HB5.out.size));clear hb6 hoff;go_upto_region 14 with fail
    obtain ⟨A7,c7,w7,hrun7,hint7,hb7,hA7⟩:=Kyt A nd c data w6.drew (HDA.out _ HB6.out.drew) HAC.out (by have:=HDL.out;omega);have HD6d:=Jh (HD6.out.below (Below.refl _ w6).drew);have HRUN:=Jh hrun7;have HB7:=Jh (HB6.out.drew.trans (hb7.mono HB6.out.drew.size));have HO7:Hid (Out R R5 w3 w7):=Jh (HO6.out.trans ((Out.of_below (R:=R5) (Below.refl _ w6).drew).trans (Out.of_below (R:=R5) hb7)));have HRS:=Jh ((HD6d.out.below hb7).restart (by decide) (HE.out.low HC.out HB7.out).hb names HI.out.2.1 HI.out.2.2 A7 nd c7 data z hint7 (fun x hx _=>HD6d.out.new (hA7 x hx)) HDI.out (by have:=HDL.out;omega));have HX7:Hid (w7.cell? ⟨b,3,none⟩=some (.int .i64 names)∧w7.cell? ⟨b,4,none⟩=some (.slice A nd c)∧w7.cell? ⟨b,5,none⟩=some (.bool z)):=Jh ⟨(HK.out.below HB7.out HK.out.lt).cell 3,(HK.out.below HB7.out HK.out.lt).cell 4,(HK.out.below HB7.out HK.out.lt).cell 5⟩;have x3:w6.cell? ⟨b,3,none⟩=some (.int .i64 names):=(HK.out.below HB6.out HK.out.lt).cell 3;have x4:w6.cell? ⟨b,4,none⟩=some (.slice A nd c):=(HK.out.below HB6.out HK.out.lt).cell 4;have x5:w6.cell? ⟨b,5,none⟩=some (.bool z):=(HK.out.below HB6.out HK.out.lt).cell 5;clear hrun7 hint7 hb7 hA7;go_region_held_law (fun w'=>w'.cell? ⟨b,3,none⟩=some (.int .i64 names)∧w'.cell? ⟨b,4,none⟩=some (.slice A nd c)∧w'.cell? ⟨b,5,none⟩=some (.bool z)) (first | (exact HX8.out) | (exact HX7.out) | go_keep) (first | (refine Krh rfl _ _ _ rfl _ _ _ rfl rfl HRUN.out ?_) | (go_at_call 25;refine HRS.out.mono ?_;rintro e w8 ⟨R8,rfl,hd8,ho8⟩;have HD8:=Jh hd8;have HO8:=Jh (HO7.out.trans ho8);have HB8:=Jh (HB3.out.trans (HO8.out.below HB3.out.size HZ3.out));have HX8:Hid (w8.cell? ⟨b,3,none⟩=some (.int .i64 names)∧w8.cell? ⟨b,4,none⟩=some (.slice A nd c)∧w8.cell? ⟨b,5,none⟩=some (.bool z)):=Jh ⟨(HK.out.below HB8.out HK.out.lt).cell 3,(HK.out.below HB8.out HK.out.lt).cell 4,(HK.out.below HB8.out HK.out.lt).cell 5⟩;clear hd8 ho8))
    clear x3 x4 x5;have HE8:=Jh (HE.out.low HC.out HB8.out);obtain ⟨y8,hy8⟩:∃y,Kbc r5.2 names data z=y:=⟨_,rfl⟩;rw[hy8] at HD8 hlf;clear hy8;have hlk:=hlf;clear hlf;have HLA:=Jh (Kpc Kcn hlk);have HPT:=Jh (Kpd (s:=encK L2) Kcn Kjv hlk (by omega));clear hlk;have hld:=Kdq P (encK L2) w8 (by rw[HPd.out];exact HLA.out) (by omega) HD8.out (by decide) HC.out HE8.out HPz.out;rw[HDE2.out HF2.out] at hld;have HLD:=Jh hld;clear hld;go_wp2_with fail
    refine HLD.out.mono ?_;rintro e w9 ⟨R9,⟨A9,c9,rfl,h9,_,_⟩,hd9,ho9⟩;rw[HLN2.out] at h9 ⊢;have H9:=Jh h9;have HD9:=Jh hd9;have HO9:=Jh (HO8.out.trans ho9);have HB9:=Jh (HB3.out.trans (HO9.out.below HB3.out.size HZ3.out));have HE9:=Jh (HE.out.low HC.out HB9.out);clear h9 hd9 ho9;have x0:w9.cell? ⟨b,0,none⟩=some (.slice A1 n1 c1):=(HK.out.below HB9.out HK.out.lt).cell 0;have x1:w9.cell? ⟨b,1,none⟩=some (.slice A2 n2 c2):=(HK.out.below HB9.out HK.out.lt).cell 1;go_wp2_with fail
    refine (HAL2.out A9 c9 w9 H9.out (HS2.out.below HB9.out)).mono ?_;rintro _ w10 ⟨rfl,hb10⟩
    try rw[show decide True=true by rfl]
    have HD10:=Jh (HD9.out.below hb10);have HO10:=Jh (HO9.out.trans (Out.of_below (R:=R9) hb10));have HB10:=Jh (HB9.out.trans (hb10.mono HB9.out.size));have HE10:=Jh (HE.out.low HC.out HB10.out);have H10:=Jh (H9.out.below hb10);clear hb10 x0 x1;obtain ⟨i11,fs11,hp11,hi11⟩:=HPT.out;have hsv:=Kdz L2 A2 n2 c2 P w10 (HS2.out.below HB10.out) HZ2.out.z HN2.out HF2.out (by omega) HD10.out (by omega) HC.out HE10.out HPz.out;rw[HPd.out,hp11] at hsv;have HSV2:=Jh hsv;have HI11:=Jh hi11;clear hsv hp11 hi11;have x1:w10.cell? ⟨b,1,none⟩=some (.slice A2 n2 c2):=(HK.out.below HB10.out HK.out.lt).cell 1;go_wp2_with fail
    refine HSV2.out.mono ?_;rintro e w12 ⟨v12,R12,rfl,hv12,hd12,ho12⟩;obtain rfl:v12 = .nilIface:=hv12;have HD12:Hid (Dk B0 20000000 w12 R12 p (oneK sC i11 [⟨sC,false,i11⟩] [] fs11 67108864 0)):=Jh (hd12.more (by omega));have HO12:=Jh (HO10.out.trans ho12);have HB12:=Jh (HB3.out.trans (HO12.out.below HB3.out.size HZ3.out));have HE12:=Jh (HE.out.low HC.out HB12.out);have hld:=Kdq P (encK L2) w12 (by rw[HPd.out];exact k_all Kcn i11 _ _ fs11 67108864 0 _ HI11.out) (by omega) HD12.out (by decide) HC.out HE12.out HPz.out;rw[HDE2.out HF2.out] at hld;have HLD2:=Jh hld;clear hd12 ho12 hld x1;go_wp2_with fail
    refine HLD2.out.mono ?_;rintro e w13 ⟨R13,⟨A13,c13,rfl,h13,_,_⟩,hd13,ho13⟩;rw[HLN2.out] at h13 ⊢;have H13:=Jh h13;have HD13:=Jh hd13;have HO13:=Jh (HO12.out.trans ho13);have HB13:=Jh (HB3.out.trans (HO13.out.below HB3.out.size HZ3.out));have HE13:=Jh (HE.out.low HC.out HB13.out);clear h13 hd13 ho13;go_wp2_with fail
    refine (HD13.out.listedK (a:=a) (by decide) HE13.out.hb HE13.out.e.f).mono ?_;rintro e w14 ⟨A14,c14,u14,rfl,hb14⟩;rw[(Kqb (P:=sC) Kcn i11 _ _ fs11 67108864 0).1];have HB14:=Jh (HB13.out.trans (hb14.mono HB13.out.size));have H14:=Jh (H13.out.below hb14);clear hb14;have x1:w14.cell? ⟨b,1,none⟩=some (.slice A2 n2 c2):=(HK.out.below HB14.out HK.out.lt).cell 1;go_wp2_with fail
    refine (HAL2.out A13 c13 w14 H14.out (HS2.out.below HB14.out)).mono ?_;rintro _ w15 ⟨rfl,hb15⟩
    try rw[show decide True=true by rfl]
    have HB15:=Jh (HB14.out.trans (hb15.mono HB14.out.size));clear hb15 x1;go_wp2_with fail
    go_ret
    exact ⟨rfl,HB.out.trans (HB15.out.mono HB.out.size)⟩
end
end
section
open Go.RowKit
theorem Kds {P:Program} {W:World} {x:String×DataW Unit} {r:List (String×DataW Unit)} (h:laidMet P (x :: r) W):laidMet P r W:=by
 obtain ⟨ps,⟨g,t,cs,f,p,q,hg,ht,hv,hd,hr,e⟩,hnd,hrows⟩:=h;subst e;refine ⟨q,hr,?_,fun b off hm=>hrows b off (by simp[hm])⟩
 first | exact (List.nodup_append.1 hnd).2.1 | exact (List.nodup_append.1 (List.nodup_append.1 hnd).2.1).2.1
theorem Kzc:"*" ++ "errors.errorString" = "*errors.errorString":=by decide
theorem Qns (u:TypeId) (h:Tryz.prog.typeName? 3 u=some "*errors.errorString"):u = 360:=
 typeName_ptr_named (nm:="errors.errorString") (by rw[Kzc];kernel_rfl) (by kernel_rfl) (by decide) u (by rw[Kzc];exact h)
theorem Kib {n:String} {text:List UInt8} {r:List (String×DataW Unit)} {W:World} {g:Nat}
  (h:laidMet Tryz.prog ((n,.iface "*errors.errorString" (.ptr (.agg [.lit (.string text)]))) :: r) W) (hg:Tryz.prog.globalNamed n=some g) (ht:(Tryz.prog.globals[g]?).map (·.type)=some 40) :
  ∃(a:Addr) (s:ByteArray),W.cell? ⟨g,0,none⟩=some (.iface 360 (.pointer (some a)))∧W.cell? a=some (.string s)∧s.data.toList=text∧∃c t,W.heap[a.block]? = some (.cells c t (0,0)):=by
 obtain ⟨ps,⟨g0',t0',cs0,f0,p0,q0,hg0',ht0',hv0,hd0,_,e0⟩,hnd,hrows⟩:=h;obtain rfl:=Option.some.inj (hg.symm.trans hg0');obtain rfl:=Option.some.inj (ht.symm.trans ht0');subst e0;obtain ⟨l0⟩:=cs0
 have ok0:∀u v,l0 = [.iface u v]→Value.okWide Tryz.prog W .any 0 u v:=fun u v e=>by
  subst e;exact (hrows g 0 (by simp[MemPlace.row])).2 u v (by simpa using World.var?_cell hg0' hv0 0)
 obtain ⟨a0,s0,rfl,hc0,hs0,hz0,rfl⟩:=errorString_of_trod Tryz.underlying40 Qns Tryz.underlying360 Tryz.underlying382 rfl rfl Tryz.underlying9 (by kernel_rfl) (by kernel_rfl) hd0 ok0;refine ⟨a0,s0,by simpa using World.var?_cell hg0' hv0 0,hc0,hs0,(hrows a0.block a0.off (by simp[MemPlace.row])).1⟩
def sentT:Nat→List UInt8
 | 1=>[116,104,101,32,112,111,119,101,114,32,105,115,32,111,102,102]
 | 2=>[110,111,32,112,97,116,104]
 | 3=>[97,32,100,105,114,101,99,116,111,114,121]
 | 4=>[110,111,116,32,116,104,101,114,101]
 | 5=>[116,104,101,114,101,32,97,108,114,101,97,100,121]
 | 6=>[111,117,116,32,111,102,32,114,97,110,103,101]
 | _=>[110,111,32,115,112,97,99,101]
theorem Qjd:∀i∈[1,2,3,4,5,6,7],∀j∈[1,2,3,4,5,6,7],i≠j→sentT i≠sentT j:=by decide
def Qfw (W:World) (k:Nat) (a:Addr):Prop:=W.cell? ⟨failG k,0,none⟩=some (.iface 360 (.pointer (some a)))∧(∃s:ByteArray,W.cell? a=some (.string s)∧s.data.toList=sentT k)∧∃c t,W.heap[a.block]? = some (.cells c t (0,0))
end
section
open Go.ChangeShapes Go.WideShapes Go.ChangeAt Go.RowKit Go.ChangeMaps
theorem Qme (a:Nat→Addr):∃x:Addr,x.block=(a 1).block∧∀k,1≤k→k≤7→x≠a k:=by
 refine ⟨⟨(a 1).block,(a 1).off+(a 2).off+(a 3).off+(a 4).off+(a 5).off+(a 6).off+(a 7).off+1,none⟩,rfl,fun k h1 h2 e=>?_⟩;have e2:(a k).off=(a 1).off+(a 2).off+(a 3).off+(a 4).off+(a 5).off+(a 6).off+(a 7).off+1:=by rw[←e]
 rcases (by omega:k=1∨k=2∨k=3∨k=4∨k=5∨k=6∨k=7) with rfl | rfl | rfl | rfl | rfl | rfl | rfl <;> omega
theorem Qhr {W:World} (h:laidMet Tryz.prog Rows.ckptBackRow.laid W):∃a,QCon W.heap.size a∧QEnv W.heap.size a W:=by
 have h1:=Kds h;have h2:=Kds h1;have h3:=Kds h2;have h4:=Kds h3;have h5:=Kds h4;have h6:=Kds h5;have h7:=Kds h6;obtain ⟨a1,s1,p1,q1,r1,b1⟩:=Kib h1 (g:=6) (by kernel_rfl) (by kernel_rfl);obtain ⟨a2,s2,p2,q2,r2,b2⟩:=Kib h2 (g:=5) (by kernel_rfl) (by kernel_rfl);obtain ⟨a3,s3,p3,q3,r3,b3⟩:=Kib h3 (g:=3) (by kernel_rfl) (by kernel_rfl);obtain ⟨a4,s4,p4,q4,r4,b4⟩:=Kib h4 (g:=2) (by kernel_rfl) (by kernel_rfl);obtain ⟨a5,s5,p5,q5,r5,b5⟩:=Kib h5 (g:=4) (by kernel_rfl) (by kernel_rfl);obtain ⟨a7,s7,p7,q7,r7,b7⟩:=Kib h6 (g:=0) (by kernel_rfl) (by kernel_rfl);have hdbT:Lib.TabIs Tryz.prog W "math/bits.deBruijn64tab" .u8 (Lib.deBruijn64tab.map fun n:Nat=>(n:Int)):=Lib.tabIs_of_head (g:=9) (t:=332) (e:=5) (n:=64) (by kernel_rfl) (by kernel_rfl) (by kernel_rfl) (by kernel_rfl) (by kernel_rfl) (by kernel_rfl) h
 have hdb:DbTab W:=fun i hi=>by
  rw[hdbT.cell (by kernel_rfl) i (by rw[List.length_map];exact hi)];congr 2;rw[List.getD_eq_getElem?_getD,List.getElem?_map,List.getD_eq_getElem?_getD,List.getElem?_eq_getElem hi];rfl
 have hnibT:Lib.TabIs Tryz.prog W "almanac/enc.nibbles" .u32 [0,274646895,549293790,820201905,1098587580,1361435347,1640403810,1905808397,2197175160,2460548119,2722870694,2987750089,3280807620,3553878443,3811616794,4084100981]:=Lib.tabIs_of_head (g:=7) (t:=245) (e:=184) (n:=16) (by kernel_rfl) (by kernel_rfl) (by kernel_rfl) (by kernel_rfl) (by kernel_rfl) (by kernel_rfl) h7
 have hnib:Kdu W:=fun i hi=>by
  rw[hnibT.cell (by kernel_rfl) i hi];rcases (by omega:i=0∨i=1∨i=2∨i=3∨i=4∨i=5∨i=6∨i=7∨i=8∨i=9∨i=10∨i=11∨i=12∨i=13∨i=14∨i=15) with rfl | rfl | rfl | rfl | rfl | rfl | rfl | rfl | rfl | rfl | rfl | rfl | rfl | rfl | rfl | rfl <;> rfl
 obtain ⟨x6,hx6,hx6n⟩:=Qme (fun k=>match k with | 1=>a1 | 2=>a2 | 3=>a3 | 4=>a4 | 5=>a5 | 6=>a7 | _=>a7)
 have hall:∀k,k≠6→Qfw W k (match k with | 1=>a1 | 2=>a2 | 3=>a3 | 4=>a4 | 5=>a5 | 6=>x6 | _=>a7):=by
  intro k hk
  match k,hk with
  | 1,_=>exact ⟨p1,⟨s1,q1,r1⟩,b1⟩
  | 2,_=>exact ⟨p2,⟨s2,q2,r2⟩,b2⟩
  | 3,_=>exact ⟨p3,⟨s3,q3,r3⟩,b3⟩
  | 4,_=>exact ⟨p4,⟨s4,q4,r4⟩,b4⟩
  | 5,_=>exact ⟨p5,⟨s5,q5,r5⟩,b5⟩
  | 6,h=>exact absurd rfl h
  | 0,_=>exact ⟨p7,⟨s7,q7,r7⟩,b7⟩
  | _+7,_=>exact ⟨p7,⟨s7,q7,r7⟩,b7⟩
 have h6b:∃cs t,W.heap[x6.block]? = some (.cells cs t (0,0)):=by rw[hx6];exact b1
 have h6n:x6≠a1∧x6≠a2∧x6≠a3∧x6≠a4∧x6≠a5∧x6≠a7:=⟨hx6n 1 (by omega) (by omega),hx6n 2 (by omega) (by omega),hx6n 3 (by omega) (by omega),hx6n 4 (by omega) (by omega),hx6n 5 (by omega) (by omega),hx6n 7 (by omega) (by omega)⟩
 have hap:∀k,1≤k→k≤7→k≠6→x6≠(match k with | 1=>a1 | 2=>a2 | 3=>a3 | 4=>a4 | 5=>a5 | 6=>x6 | _=>a7):=by
  intro k h1 h2 h6;rcases (by omega:k=1∨k=2∨k=3∨k=4∨k=5∨k=7) with rfl | rfl | rfl | rfl | rfl | rfl
  ·exact h6n.1
  ·exact h6n.2.1
  ·exact h6n.2.2.1
  ·exact h6n.2.2.2.1
  ·exact h6n.2.2.2.2.1
  ·exact h6n.2.2.2.2.2
 have ha6:(match 6 with | 1=>a1 | 2=>a2 | 3=>a3 | 4=>a4 | 5=>a5 | 6=>x6 | _=>a7)=x6:=rfl;obtain ⟨a,ha,ha6,hap⟩:∃a:Nat→Addr,(∀k,k≠6→Qfw W k (a k))∧a 6=x6∧∀k,1≤k→k≤7→k≠6→x6≠a k:=⟨_,hall,ha6,hap⟩;refine ⟨a,⟨fun i j hi1 hi2 hj1 hj2 hne e=>?_,Kaf (hnib 0 (by decide)),Kaf (hdb 0 (by decide))⟩,⟨⟨fun k hk=>⟨Kaf (ha k hk).1,(ha k hk).1⟩,fun k h1 h2=>?_⟩,hnib,hdb,Nat.le_refl _⟩⟩
 ·by_cases h6i:i=6
  ·subst h6i;rw[ha6] at e;exact hap j hj1 hj2 (fun h=>hne h.symm) e
  ·by_cases h6j:j=6
   ·subst h6j;rw[ha6] at e;exact hap i hi1 hi2 h6i e.symm
   ·obtain ⟨si,ci,ti⟩:=(ha i h6i).2.1;obtain ⟨sj,cj,tj⟩:=(ha j h6j).2.1;rw[e,cj] at ci;injection ci with ci;injection ci with ci;refine Qjd i ?_ j ?_ hne ?_
    ·simp;omega
    ·simp;omega
    ·rw[←ti,←tj,ci]
 ·by_cases h6:k=6
  ·subst h6;rw[ha6];obtain ⟨cs,t,e⟩:=h6b;exact ⟨(Array.getElem?_eq_some_iff.1 e).1,cs,t,e⟩
  ·obtain ⟨c,t,e⟩:=(ha k h6).2.2;exact ⟨(Array.getElem?_eq_some_iff.1 e).1,c,t,e⟩
def Qlb:DataW Unit→Array Value
 | .agg l=>(l.map fun | .lit (.int k v)=>Value.int k v | _=>undef).toArray
 | _=>#[]
noncomputable def Kpa (os:Os):World:=
 let N:=(World.settled Tryz.prog os).heap.size
 let w0:=World.holding Tryz.prog os ⟨#[
  .cells #[.string ⟨(sentT 1).toArray⟩] 382,.cells #[.string ⟨(sentT 2).toArray⟩] 382,.cells #[.string ⟨(sentT 3).toArray⟩] 382,
  .cells #[.string ⟨(sentT 4).toArray⟩] 382,.cells #[.string ⟨(sentT 5).toArray⟩] 382,.cells #[.string ⟨(sentT 7).toArray⟩] 382],#[],[]⟩
 let put (h:Array Obj) (g:Nat) (k:Nat):Array Obj:=h.modify g fun
  | .cells _ t frozen=>.cells #[.iface 360 (.pointer (some ⟨N+k,0,none⟩))] t frozen
  | o=>o
 let tab (h:Array Obj) (g:Nat) (d:DataW Unit):Array Obj:=h.modify g fun
  | .cells _ t frozen=>.cells (Qlb d) t frozen
  | o=>o
 { w0 with heap:=tab (tab (put (put (put (put (put (put w0.heap 6 0) 5 1) 3 2) 2 3) 4 4) 0 5)
  9 Rows.laid_math_bits_deBruijn64tab) 7 Rows.laid_almanac_enc_nibbles }
set_option maxRecDepth 1000000 in
theorem Qni (os:Os) (args:Array Value):laidMet Tryz.prog Rows.ckptBackRow.laid ((Kpa os).forCall (fun _ _=>0) ⟨#[],args,[]⟩).memory:=
 laidMet_of_run' 8 (by kernel_rfl) (by kernel_rfl)
theorem Qhs:(Rows.ckptSwapsUptoRow.inPlace == Tryz.pinned.checked.prog.inPlace 8)=true:=by kernel_rfl
theorem Qht:(Rows.ckptSwapsUptoRow.unfollowed == Tryz.pinned.checked.prog.unfollowed 8)=true:=by kernel_rfl
theorem Qhu:(Rows.ckptSwapsUptoRow.recurses == Tryz.pinned.checked.prog.recurses 8)=true:=by kernel_rfl
theorem Qhv:(Rows.ckptSwapsUptoRow.named == Tryz.pinned.checked.prog.varsNamed 8)=true:=by kernel_rfl
theorem Kxz:joinedFacts Tryz.pinned.checked.prog 8 Tryz.f8 (Rows.OpenSpec.upto Rows.ckptSwapsSpec).bare Rows.ckptSwapsUptoRow=true:=by
 unfold joinedFacts;simp only[Bool.and_eq_true]
 repeat' apply And.intro
 all_goals first | with_reducible exact Qhs | with_reducible exact Qht | with_reducible exact Qhu | with_reducible exact Qhv | kernel_rfl
theorem Kyb (os:Os) {H:Type} (enc:TypeId×Value→H):∃places,DataW.whole enc Tryz.prog ((Kpa os).forCall (fun _ _=>0) ⟨#[],#[.agg #[.slice none 0 0,.slice none 0 0,.int .i64 0,.int .i64 0,.slice none 0 0,.bool false]],[]⟩).memory Tryz.f8.params.toList Rows.ckptSwapsSpec.vars false #[Value.agg #[.slice none 0 0,.slice none 0 0,.int .i64 0,.int .i64 0,.slice none 0 0,.bool false]].toList 8=some ([.agg [.nil,.nil,.lit (.int .i64 0),.lit (.int .i64 0),.nil,.lit (.bool false)]],[],places):=
 ⟨[],by kernel_rfl⟩
theorem Kqe (H:Type) (enc:TypeId×Value→H) (W:World) (base:Nat) (args:Array Value) (ds gs:List (DataW H)) (before:List MemPlace)
  (hval0:∀(j:Nat) t v,Tryz.f8.params[j]? = some t→args[j]? = some v→Value.okWide Tryz.prog W .any base t v)
  (hW:DataW.Whole enc Tryz.prog Tryz.f8.params.toList Rows.ckptSwapsSpec.vars false W args.toList ds gs before) (hsz0:(DataW.weightsEach Tryz.prog (Tryz.f8.params.toList++Rows.ckptSwapsSpec.plain.varTypes Tryz.prog) (ds++gs)).all (·≤reachBytes)=true) (hk0:Rows.uptoSmall H (ds++gs)=true) (hL:laidMetH Tryz.prog Rows.ckptSwapsRow.laid W) :
  Calls Tryz.prog 8 args W fun e W'=>∃v,e = .returned v∧Rows.ckptSwapsSpec.post enc Tryz.prog Tryz.f8 false true false false W args v W':=by
 have hval:=hval0;have hW':=hW;have hsz:=hsz0;obtain ⟨p,q,hA0,hV,rfl,_,_⟩:=hW;have hA:DataW.TrodAll enc Tryz.prog W 0 (fun _=>true) true Tryz.f8.params.toList args.toList ds p:=hA0;rw[Tryz.params8] at hA hval hsz;obtain ⟨v0,d0,rfl,rfl,h0⟩:=trodAll_one hA;obtain ⟨rfl,rfl⟩:=trodVars_none hV;clear hA0 hval0 hsz0;simp only[List.append_nil] at hW';simp only[List.append_nil] at hk0;have hbulk:=Qkh hk0;simp only[Rows.uptoBulkAll,Nat.add_zero] at hbulk;have hlt:∀x∈p,x.block < W.heap.size:=fun x hx=>by simpa using hW'.lt x (by simpa using hx)
 have hargs:∀(W':World),Below W.heap.size W W'→DataW.TrodAll enc Tryz.prog W' 0 (fun b=>decide (b < W.heap.size)) true [63] [v0] [d0] (p):=
  fun W' hn=>trodAll_mk1 (Below.trod Tryz.laidOut (by kernel_rfl) (of_decide_eq_true (by kernel_rfl)) h0 hn (fun x hx=>hlt x (by simp[hx])))
 obtain ⟨y0,rfl,hat0,hnm0,hS0,hT0,hA0,hD0,hdi0,hb0⟩:=Qin (hval 0 63 v0 rfl rfl) h0;obtain ⟨hZ0,hY0,hdl0⟩:=hb0 (by dsimp only at *;omega);obtain ⟨a,hC,hE⟩:=Qhr hL;refine (Kpr y0.h1.A y0.h2.A y0.A y0.h1.n y0.h2.n y0.data.length y0.h1.c y0.h2.c y0.c y0.L1 y0.L2 y0.at_ y0.names y0.data y0.z W hS0 hT0 hZ0 hY0 hat0 hnm0 hA0 hD0 hdi0 hdl0 hC hE).mono fun e W' ⟨he,hb⟩=>?_
 subst he;exact ⟨_,rfl,_,_,_,[],_,[],hW',trodAll_mk1 (shut_bool Tryz.underlying4 true),hargs _ hb,rfl,hb.frame _,fun h=>by cases h⟩
theorem Kvf (os:Os) (started:os.Started) (H:Type) (enc:TypeId×Value→H) (F:Stop.Interp) :
  ReturnsInHanded {} Tryz.checked os 8 .any ((Rows.OpenSpec.upto Rows.ckptSwapsSpec).preRow enc Tryz.prog Tryz.f8 Rows.ckptSwapsUptoRow.domain false Rows.ckptSwapsUptoRow.laid) (((Rows.OpenSpec.upto Rows.ckptSwapsSpec).at F).post enc Tryz.prog Tryz.f8 false true false false):=by
 obtain ⟨places,hx⟩:=Kyb os enc
 refine returnsInHanded_of_row (C:=Tryz.checked) (s:=Rows.OpenSpec.upto Rows.ckptSwapsSpec) Tryz.own started (by kernel_rfl) Tryz.func8
  (witness_row_atRef (enc:=enc) (C:=Tryz.checked) false (Kpa os) #[.agg #[.slice none 0 0,.slice none 0 0,.int .i64 0,.int .i64 0,.slice none 0 0,.bool false]] rfl (by kernel_rfl) (by kernel_rfl) (by kernel_rfl)
   (OpenSpec.preRow_of_cond 8 hx (by kernel_rfl) (fun k hk=>by cases hk;kernel_rfl) (by kernel_rfl) (Qni os _))) ?_
 intro W base args ds gs before hval hW _ hcond hsz hL _ _;exact Kqe H enc W base args ds gs before hval hW hsz (hcond _ rfl) hL
theorem Qaw:Rows.CkptSwapsUptoSaid:=
 OpenClaim.holds_of_cond 8 Tryz.f8 rfl rfl rfl rfl rfl rfl rfl ⟨rfl,rfl,rfl,rfl,rfl⟩ rfl rfl rfl rfl rfl (by kernel_rfl) Tryz.func8 Kxz
  (of_decide_eq_true (by kernel_rfl)) (by unfold Func.isWrapper;first | (rw[if_pos (by decide +kernel)];kernel_rfl) | (rw[if_neg (by decide +kernel)];exact ⟨rfl,rfl⟩))
  (fun os started H enc _ F=>by rw[OpenClaim.pre_eq_preRow];exact Kvf os started H enc F)
theorem Kya (f:FuncId) (fn:Func) (hf:Tryz.pinned.checked.prog.funcNamed "almanac/almanaclaw17.CkptSwaps" = some f) (hfn:Tryz.pinned.checked.prog.funcs[f]? = some fn) :
  true = Tryz.pinned.checked.prog.looks []∧∀(j:Nat) t,fn.params[j]? = some t→Tryz.pinned.checked.prog.wantsStandIn t=false:=by
 obtain rfl:f = 8:=Option.some.inj ((show Tryz.prog.funcNamed "almanac/almanaclaw17.CkptSwaps" = some 8 by kernel_rfl).symm.trans hf) |>.symm;obtain rfl:fn = Tryz.f8:=(Option.some.inj (Tryz.func8.symm.trans hfn)).symm;refine ⟨by kernel_rfl,fun j t ht=>?_⟩;rw[Tryz.params8] at ht;have hm:t = 63:=by simpa using Array.mem_of_getElem? ht
 subst hm;exact (show Tryz.prog.wantsStandIn 63 = false by kernel_rfl)
theorem ckptSwaps_holds:Rows.CkptSwapsUptoCardSaid:=
 Claim7.holds_tied_plain_at .later [] _ _ _ _ Qaw (fun _ h=>by cases h) (by kernel_rfl) (fun _ h=>by cases h) ckptSwapsUpto_row_tie rfl ⟨rfl,rfl⟩ (by kernel_rfl) rfl Kya (by kernel_rfl)
end
end Go.Proofs.YtefpndiiedkmpaaGreatDoor
