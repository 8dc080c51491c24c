/- Merged (what the claim wants of): DskWalksM, DskWalksN, DskWalksO, DskWalksP, DskWalksS, DskWalksT, DskWalksU, DskWalksV, DskWalksW. -/
import Derived.Test.YtefpndiiedkmpaaGreatDoorKpw12
set_option linter.unusedVariables false
set_option linter.unusedSimpArgs false
set_option maxRecDepth 100000
set_option maxHeartbeats 8000000
namespace Go.Proofs.YtefpndiiedkmpaaGreatDoor
section
open Go.RowKit Go.Shelf Go.Maps Go.Sort
open Lib renaming hid → Jh
attribute [local go_sem ↓] Go.wp_at_zero Go.wp_at_succ
attribute [local go_sem] Later.cell
section
variable {B0 : Nat} {a : Nat → Addr} {R : Nat → Nat} {A : Adr} {d : Ds} {w w' : World}
def Keg (B0:Nat) (a:Nat→Addr) (R:Nat→Nat) (A:Adr) (r:Nat×Ds) (op s:ByteArray) (w:World) (e:Ending) (w':World):Prop:=
 ∃v R' A',e = .returned v∧ErrV a w' op s r.1 v∧CD B0 w' R' A' r.2∧Own R R' w w'∧A'.p=A.p∧∃ψ,A'.φ=A.φ++ψ
theorem Kae.weak {r:Nat×Ds} {op s:ByteArray} {e:Ending} (h:Kae B0 a R A r op s w e w'):Keg B0 a R A r op s w e w':=by
 obtain ⟨v,R',A',h1,h2,h3,h4,h5,h6⟩:=h;exact ⟨v,R',A',h1,h2,h3,h4,h5,[],by simpa using h6⟩
theorem Qbm (d:Ds) (fs:List By):stepD { d with files:=fs } = ((stepD d).1,{ (stepD d).2 with files:=fs }):=by
 unfold stepD
 split
 ·rfl
 ·split <;> rfl
theorem Khs (d:Ds):(stepD d).2.things=d.things∧(stepD d).2.safe=d.safe∧(stepD d).2.steps=d.steps∧(stepD d).2.files=d.files:=by
 unfold stepD
 split
 ·exact ⟨rfl,rfl,rfl,rfl⟩
 ·split <;> exact ⟨rfl,rfl,rfl,rfl⟩
theorem Kwq (S:ByteArray) (w:World) (h:CD B0 w R A d) (hf:Fit d) (hnu:Nums d) (hS:S.size≤1073741824) (hB:B0≤w.heap.size) (hF:Fails B0 a w) :
  Calls Tryz.prog 57 #[.pointer (some ⟨A.p,0,none⟩),.string S] w (Keg B0 a R A (Kbd d S.data.toList) ⟨#[99,114,101,97,116,101]⟩ S w):=by
 obtain ⟨rn,hrn⟩:∃r,pathB S.data.toList=r:=⟨_,rfl⟩;have HNM:=Jh (fun w=>Kfv S rn hrn hS w);have HRN:=Jh hrn;obtain ⟨p,hp⟩:∃p,A.p=p:=⟨_,rfl⟩;have HP:=Jh hp;rw[hp];have H0:=Jh h;clear hrn hp;go_enter Tryz.func57,Tryz.ntmps57
 go_upto_region 1 with fail
 obtain ⟨w1,hw1⟩:∃x,w.alloc (.cells #[.string S] 9)=x:=⟨_,rfl⟩;have hb1:Below w.heap.size w w1:=by rw[←hw1];exact (Below.refl _ _).alloc (Nat.le_refl _) _
 have hq:Blk w1 w.heap.size 9 #[.string S]:=by rw[←hw1];exact Blk.new _ _ _
 rw[hw1];obtain ⟨q,hqq⟩:∃q,w.heap.size=q:=⟨_,rfl⟩;have hR0:R q=0:=h.inw.new (by omega);rw[hqq] at hq hB ⊢;have HQ:=Jh hqq;have q0:_=some (Value.string S):=hq.cell 0;have hql:=hq.lt;clear hw1 hqq;refine Kag 4 (by kernel_rfl) (by kernel_rfl) ?_;simp only[List.take_succ_cons,List.take_zero,List.drop_succ_cons,List.drop_zero]
 repeat (go_big_quiet_step ((go_at_call 109;exact Kbe _ (HNM.out _))))
 refine wpQuiet_nil ?_;rintro w2 ⟨⟨_,hb2⟩,rfl⟩;have hB2:=then_ hb1 hb2;have hcd2:=h.below hB2;have hF2:Fails B0 a w2:=hF.below (hB2.mono (by have:=HQ.out;omega));have hoff:w2.cell? ⟨p,6,none⟩=some (.bool d.off):=by rw[←HP.out];exact Blk.cell hcd2.blk 6
 obtain ⟨k,hk⟩:∃k,Kcc d.off rn=k:=⟨_,rfl⟩;have HK:=Jh hk;have hq2:=hq.below hb2 hq.lt;have hready:=Kea (B0:=B0) (a:=a) p d.off rn ⟨#[99,114,101,97,116,101]⟩ S k hk w2 hoff hF2;have HRD:=Jh hready;clear hk hready hq q0 hql hb1 hb2;go_wp2_with fail
 refine HRD.out.mono ?_;rintro _ w3 ⟨v,rfl,hv3,hb3⟩;have hB3:=then_ hB2 hb3;have hcd3:=h.below hB3;have hF3:=hF2.below (hb3.mono (by have:=hB2.size;have:=HQ.out;omega));have hq3:=hq2.below hb3 hq2.lt;clear hcd2 hF2 hoff hq2 hb3 HRD hB2
 cases k with
 | succ k=>
  have hfin:Keg B0 a R A (Kbd d S.data.toList) ⟨#[99,114,101,97,116,101]⟩ S w (.returned v) w3:=by
   have e1:Kbd d S.data.toList=(k+1,d):=by
    have hk:=HK.out;unfold Kcc at hk;unfold Kbd;rw[←hk,HRN.out]
    cases ho:d.off with
    | true=>simp
    | false=>
     rw[ho] at hk
     cases rn with
     | true=>simp at hk
     | false=>simp
   rw[e1];exact (Kae.bad h hB3 hv3).weak
  obtain ⟨q4,rfl,_⟩:=hv3;have HFIN:=Jh hfin;clear hfin hcd3 hF3 hq3 hB3;go_wp2_with fail
  go_ret
  exact HFIN.out
 | zero=>
  obtain rfl:v = .nilIface:=hv3
  obtain ⟨ho,hn⟩:d.off=false∧rn=true:=by
   have hk:=HK.out;unfold Kcc at hk
   cases ho:d.off with
   | true=>rw[ho] at hk;simp at hk
   | false=>
    rw[ho] at hk
    cases rn with
    | true=>exact ⟨rfl,rfl⟩
    | false=>simp at hk
  have e1:Kbd d S.data.toList=if Kdd d.things S.data.toList=false then (4,d) else if isT d.things S.data.toList≠0 then (5,d) else if (stepD d).1≠0 then stepD d else (0,{ (Kbb d (.create S.data.toList d.files.length)).2 with files:=d.files ++ [⟨[],[],[]⟩] }):=by
   unfold Kbd;rw[ho,HRN.out,hn];simp
  have HE1:=Jh e1;obtain ⟨rp,hrp⟩:∃r,Kdd d.things S.data.toList=r:=⟨_,rfl⟩;have hpar:∀x:Later w3,Calls Tryz.prog 114 #[.agg #[.map (some A.md),.map (some A.mf)],.string S] x.w fun e w'=>e = .returned (.bool rp)∧Below x.w.heap.size x.w w':=fun x=>Khj A.md A.mf S rp hrp x.w (hcd3.dirs.1.below x.h hcd3.dirs.1.lt) hf.tw hS
  have HPAR:=Jh hpar;have HRP:=Jh hrp;have c0:w3.cell? ⟨p,0,none⟩=some (.map (some A.md)):=by rw[←HP.out];exact Blk.cell hcd3.blk 0
  have c1:w3.cell? ⟨p,1,none⟩=some (.map (some A.mf)):=by rw[←HP.out];exact Blk.cell hcd3.blk 1
  have q0:_=some (Value.string S):=hq3.cell 0;have hql:=hq3.lt;have hpl:p < w3.heap.size:=Kaf c0;have HNB:=Jh (HRN.out.trans hn);clear ho hn e1 HK hpar hrp;go_upto_region 4 with fail
  refine Kab (by kernel_rfl) (by kernel_rfl) ?_
  repeat (go_big_quiet_step ((go_at_call 114;exact Kbe _ (HPAR.out _))))
  refine wpQuiet_nil ?_;rintro w4 ⟨⟨_,hb4⟩,rfl⟩;have hB4:=then_ hB3 hb4;have hcd4:=h.below hB4;have hq4:=hq3.below hb4 hq3.lt;have hF4:=hF3.below (hb4.mono (by have:=hB3.size;have:=HQ.out;omega));clear hcd3 hF3 hq3 c0 c1 q0 hql hpl hb4 hB3 HPAR
  cases rp with
  | false=>
   have f4:_=some (failV a 4):=(hF4 4 (by decide)).2;have hfl:=Kbw (a:=a) ⟨#[99,114,101,97,116,101]⟩ S 3 w4;unfold failV at f4 hfl;simp only[failG] at f4;have HFL:=Jh hfl;have e2:Kbd d S.data.toList=(4,d):=by rw[HE1.out,if_pos HRP.out]
   have HE2:=Jh e2;have q0':_=some (Value.string S):=hq4.cell 0;clear hfl hF4 e2;go_wp2_with fail
   refine HFL.out.mono ?_;rintro e w5 ⟨v,rfl,hv5,hb5⟩
   have hfin:Keg B0 a R A (Kbd d S.data.toList) ⟨#[99,114,101,97,116,101]⟩ S w (.returned v) w5:=by
    rw[HE2.out];exact (Kae.bad h (then_ hB4 hb5) hv5).weak
   have HFIN:=Jh hfin;clear hfin hv5;go_wp2_with fail
   go_ret
   exact HFIN.out
  | true=>
   obtain ⟨P,hP,hlf⟩:=Kek hcd4 hf S hS;have c0:w4.cell? ⟨p,0,none⟩=some (.map (some A.md)):=by rw[←HP.out];exact Blk.cell hcd4.blk 0
   have c1:w4.cell? ⟨p,1,none⟩=some (.map (some A.mf)):=by rw[←HP.out];exact Blk.cell hcd4.blk 1
   have q0:_=some (Value.string S):=hq4.cell 0;have hql:=hq4.lt;have hpl:p < w4.heap.size:=Kaf c0;have HPP:=Jh hP;clear hP;go_upto_region 6 with fail
   rcases Kei d.things S.data.toList with h0 | h0 | h0
   ·obtain rfl:P=none:=HPP.out.2 (by rw[h0];omega);have hlk:=Kcf hcd4 hf S hS 0 (by rw[h0];rfl);refine Kab (by kernel_rfl) (by kernel_rfl) ?_
    repeat (go_big_quiet_step (fail))
    refine wpQuiet_nil ?_;rintro w5 ⟨⟨_,hb5⟩,rfl⟩;have hB5:=then_ hB4 hb5;have hq5:=hq4.below hb5 hq4.lt;have hF5:=hF4.below (hb5.mono (by have:=hB4.size;have:=HQ.out;omega));clear hlk hlf q0 c0 c1 hpl hql hcd4 hq4 hF4 hb5 hB4;go_upto_region 9 with fail
    obtain ⟨w6,hw6⟩:∃x,(w5.alloc (.cells #[.string ⟨#[]⟩,.string ⟨#[]⟩,.slice none 0 0] 137)).alloc (.cells #[.pointer (some ⟨w5.heap.size,0,none⟩)] 132)=x:=⟨_,rfl⟩;have hb6:Below w5.heap.size w5 w6:=by rw[←hw6];exact ((Below.refl _ _).alloc (Nat.le_refl _) _).alloc (by simp) _
    have hgf:Blk w6 w5.heap.size 137 #[.string ⟨#[]⟩,.string ⟨#[]⟩,.slice none 0 0]:=by rw[←hw6];exact (Blk.new _ _ _).alloc _
    have hvf:Blk w6 (w5.heap.size+1) 132 #[.pointer (some ⟨w5.heap.size,0,none⟩)]:=by rw[←hw6];exact Blk.newAt (by simp)
    rw[hw6];obtain ⟨gf,hgg⟩:∃q,w5.heap.size=q:=⟨_,rfl⟩;have hql5:=hq5.lt;have hB6:=then_ hB5 hb6;have hq6:=hq5.below hb6 hq5.lt;have hF6:=hF5.below (hb6.mono (by have:=hB5.size;have:=HQ.out;omega));have hsz5:=hB5.size;rw[hgg] at hgf hvf hql5 hsz5 ⊢;have hgW:w.heap.size≤gf:=hsz5;have hqW:=HQ.out;have hRg:R gf=0:=h.inw.new hgW;have hRv:R (gf+1)=0:=h.inw.new (by omega);have hcd6:=h.below hB6;have hcd7:CD B0 w6 (giv R q 5) A d:=hcd6.grant hq6.lt hR0 hB 5;have hcd8:CD B0 w6 (giv (giv R q 5) (gf+1) 5) A d:=hcd7.grant hvf.lt (by rw[Kax (by omega)];exact hRv) (by omega) 5;have hcd9:=hcd8.new_file hnu hgf (by rw[Kax (by omega),Kax (by omega)];exact hRg) (by omega);have hφl:=h.bytes.1
    have hST:StepM w6 (giv (giv (giv R q 5) (gf+1) 5) gf (10+2*d.files.length)) (A.φ ++ [gf]) (.create S.data.toList d.files.length) (.func (.func 115) #[] #[.pointer (some ⟨gf+1,0,none⟩),.pointer (some ⟨q,0,none⟩)]):=by
     have e:txtV S.data.toList = .string S:=by unfold txtV;rw[←Kcs rfl]
     have e2:fptr (A.φ ++ [gf]) d.files.length = .pointer (some ⟨gf,0,none⟩):=by unfold fptr;rw[List.getElem?_append_right (by omega),hφl];simp
     refine ⟨q,gf+1,rfl,?_,?_⟩
     ·rw[Box,e];exact ⟨hq6,by rw[Kax (by omega),Kax (by omega)];exact Kck _ _ _⟩
     ·rw[Box,e2];exact ⟨hvf,by rw[Kax (by omega)];exact Kck _ _ _⟩
    have htw:TW (d.files.length+1) d.things:=⟨hf.tw.nodup,hf.tw.dirs,hf.tw.paths,hf.tw.par,fun x hx hd=>by have:=hf.tw.ats x hx hd;omega,hf.tw.inj⟩;have hok:StOk (d.files.length+1) d.things (.create S.data.toList d.files.length):=⟨HNB.out,HRP.out,h0,by omega,fun x hx hd=>by have:=hf.tw.ats x hx hd;omega⟩;have hnm:=Kes (a:=a) ⟨#[99,114,101,97,116,101]⟩ S (.create S.data.toList d.files.length) _ _ w6 hcd9 hST (by simpa using htw) (by simpa using hok) (by have:=hf.tl;simpa using (by omega:d.things.length≤1073741824)) (by have:=hf.sl;simpa using (by omega:d.steps.length≤1073741824)) hf.aw (by have:=hB6.size;omega) hF6
    have hOw:Own R (giv (giv (giv R q 5) (gf+1) 5) gf (10+2*d.files.length)) w w6:=by
     have o1:Own R R w w6:=Own.of_below hB6;exact ⟨o1.os,o1.tape,o1.output,o1.size,o1.block,fun k hk=>by rw[Kax (by omega),Kax (by omega),Kax (by omega)]⟩
    have e2:Kbd d S.data.toList=if (stepD d).1≠0 then stepD d else (0,{ (Kbb d (.create S.data.toList d.files.length)).2 with files:=d.files ++ [⟨[],[],[]⟩] }):=by rw[HE1.out,if_neg (by rw[HRP.out];simp),if_neg (by rw[h0];simp)]
    have HE2:=Jh e2;have HOW:=Jh hOw;have HNM2:=Jh hnm;have HPL:=Jh hφl;have q0':_=some (Value.string S):=hq6.cell 0;simp only[HP.out] at HNM2;clear hnm hST hcd6 hcd7 hcd8 hcd9 hF6 e2 hOw htw hok hw6 hgg h0 hgf hvf hb6 hB6 hq6 hF5 hφl;go_wp2_with fail
    refine HNM2.out.mono ?_;rintro e w7 hN;obtain ⟨v,R',A',rfl,k2,k3,k4,k5,k6⟩:=hN
    have hfin:Keg B0 a R A (Kbd d S.data.toList) ⟨#[99,114,101,97,116,101]⟩ S w (.returned v) w7:=by
     have hss:=Khs d;have hsf:=Qbm d (d.files ++ [⟨[],[],[]⟩]);rw[HE2.out]
     by_cases hst:(stepD d).1=0
     ·rw[if_neg (by simpa using hst)]
      have e3:Kbb { d with files:=d.files ++ [⟨[],[],[]⟩] } (.create S.data.toList d.files.length)=(0,{ (Kbb d (.create S.data.toList d.files.length)).2 with files:=d.files ++ [⟨[],[],[]⟩] }):=by
       unfold Kbb;rw[hsf];simp only[hst];simp
      rw[e3] at k2 k3;exact ⟨v,R',A',rfl,k2,k3,HOW.out.trans k4,Eq.trans k5 HP.out.symm,⟨[gf],k6⟩⟩
     ·rw[if_pos hst]
      have e3:Kbb { d with files:=d.files ++ [⟨[],[],[]⟩] } (.create S.data.toList d.files.length)=((stepD d).1,{ (stepD d).2 with files:=d.files ++ [⟨[],[],[]⟩] }):=by
       unfold Kbb;rw[hsf,if_pos hst]
      rw[e3] at k2 k3;obtain ⟨p',md',mf',sd',sf',sv',φ'⟩:=A';simp only at k5 k6;subst k6
      have k7:=CD.drop_file (A:=⟨p',md',mf',sd',sf',sv',A.φ⟩) (d:=(stepD d).2) k3 (by rw[HPL.out]) (by
       rw[←hss.2.2.2]
       exact ⟨by rw[hss.1,hss.2.2.2];exact hnu.things,by rw[hss.2.1,hss.2.2.2];exact hnu.safe,by rw[hss.2.2.1,hss.2.2.2];exact hnu.steps⟩)
      have e4:({ (stepD d).2 with files:=d.files }:Ds)=(stepD d).2:=by rw[←hss.2.2.2]
      rw[e4] at k7;exact ⟨v,R',_,rfl,k2,k7,HOW.out.trans k4,Eq.trans k5 HP.out.symm,⟨[],by simp⟩⟩
    have HFIN:=Jh hfin;clear hfin k2 k3 k4 k5;go_wp2_with fail
    go_ret
    exact HFIN.out
   ·have hlk:=Kcf hcd4 hf S hS 0 (by rw[h0];rfl)
    obtain ⟨P',rfl⟩:∃P',P=some P':=by
     cases P with
     | none=>exact absurd h0 (HPP.out.1 rfl)
     | some P'=>exact ⟨P',rfl⟩
    refine Kab (by kernel_rfl) (by kernel_rfl) ?_
    repeat (go_big_quiet_step (fail))
    refine wpQuiet_nil ?_;rintro w5 ⟨⟨_,hb5⟩,rfl⟩;have hB5:=then_ hB4 hb5;have hq5:=hq4.below hb5 hq4.lt;have hF5:=hF4.below (hb5.mono (by have:=hB4.size;have:=HQ.out;omega));have f5:_=some (failV a 5):=(hF5 5 (by decide)).2;have hfl:=Kbw (a:=a) ⟨#[99,114,101,97,116,101]⟩ S 4 w5;unfold failV at f5 hfl;simp only[failG] at f5;have HFL:=Jh hfl;have e2:Kbd d S.data.toList=(5,d):=by rw[HE1.out,if_neg (by rw[HRP.out];simp),if_pos (by rw[h0];simp)]
    have HE2:=Jh e2;have q0':_=some (Value.string S):=hq5.cell 0;clear hfl hF5 e2 hlk hlf q0 c0 c1 h0;go_wp2_with fail
    refine HFL.out.mono ?_;rintro e w6 ⟨v,rfl,hv6,hb6⟩
    have hfin:Keg B0 a R A (Kbd d S.data.toList) ⟨#[99,114,101,97,116,101]⟩ S w (.returned v) w6:=by
     rw[HE2.out];exact (Kae.bad h (then_ hB5 hb6) hv6).weak
    have HFIN:=Jh hfin;clear hfin hv6;go_wp2_with fail
    go_ret
    exact HFIN.out
   ·have hlk:=Kcf hcd4 hf S hS 1 (by rw[h0];rfl);refine Kab (by kernel_rfl) (by kernel_rfl) ?_
    repeat (go_big_quiet_step (fail))
    refine wpQuiet_nil ?_;rintro w5 ⟨⟨_,hb5⟩,rfl⟩;have hB5:=then_ hB4 hb5;have hq5:=hq4.below hb5 hq4.lt;have hF5:=hF4.below (hb5.mono (by have:=hB4.size;have:=HQ.out;omega));have f5:_=some (failV a 5):=(hF5 5 (by decide)).2;have hfl:=Kbw (a:=a) ⟨#[99,114,101,97,116,101]⟩ S 4 w5;unfold failV at f5 hfl;simp only[failG] at f5;have HFL:=Jh hfl;have e2:Kbd d S.data.toList=(5,d):=by rw[HE1.out,if_neg (by rw[HRP.out];simp),if_pos (by rw[h0];simp)]
    have HE2:=Jh e2;have q0':_=some (Value.string S):=hq5.cell 0;clear hfl hF5 e2 hlk hlf q0 c0 c1 h0;go_wp2_with fail
    refine HFL.out.mono ?_;rintro e w6 ⟨v,rfl,hv6,hb6⟩
    have hfin:Keg B0 a R A (Kbd d S.data.toList) ⟨#[99,114,101,97,116,101]⟩ S w (.returned v) w6:=by
     rw[HE2.out];exact (Kae.bad h (then_ hB5 hb6) hv6).weak
    have HFIN:=Jh hfin;clear hfin hv6;go_wp2_with fail
    go_ret
    exact HFIN.out
end
section
variable {B0 : Nat} {a : Nat → Addr} {R : Nat → Nat} {A : Adr} {d : Ds} {w w' : World}
theorem Kni {l:List Th} (h:(l.map Th.path).Nodup) (s:Txt):(isT l s=0∧findT l s=none)∨(isT l s=1∧∃x∈l,findT l s=some x∧x.dir=false∧x.path=s)∨(isT l s=2∧∃x∈l,findT l s=some x∧x.dir=true∧x.path=s):=by
 unfold isT
 cases hf:findT l s with
 | none=>exact .inl ⟨rfl,rfl⟩
 | some x=>
  have h1:=List.find?_some hf;have h2:=List.mem_of_find?_eq_some hf
  cases hd:x.dir with
  | false=>exact .inr (.inl ⟨by simp[hd],x,h2,rfl,hd,by simpa using h1⟩)
  | true=>exact .inr (.inr ⟨by simp[hd],x,h2,rfl,hd,by simpa using h1⟩)
def Kjo (a:Nat→Addr) (A:Adr) (r:Except Nat Nat) (op s:ByteArray) (w:World) (e:Ending) (w':World):Prop:=
 Below w.heap.size w w'∧match r with
  | .error k=>k≠0∧∃v,e = .returned (.tuple #[.pointer none,v])∧ErrV a w' op s k v
  | .ok i=>e = .returned (.tuple #[fptr A.φ i,.nilIface])
theorem Kkg (op S:ByteArray) (w:World) (h:CD B0 w R A d) (hf:Fit d) (hS:S.size≤1073741824) (hB:B0≤w.heap.size) (hF:Fails B0 a w) :
  Calls Tryz.prog 52 #[.pointer (some ⟨A.p,0,none⟩),.string op,.string S] w (Kjo a A (fileD d S.data.toList) op S w):=by
 obtain ⟨rn,hrn⟩:∃r,pathB S.data.toList=r:=⟨_,rfl⟩;have HNM:=Jh (Kfv S rn hrn hS w);have HRN:=Jh hrn;obtain ⟨p,hp⟩:∃p,A.p=p:=⟨_,rfl⟩;have HP:=Jh hp;rw[hp];obtain ⟨r,hr⟩:∃r,fileD d S.data.toList=r:=⟨_,rfl⟩;have HR:=Jh hr;rw[hr];clear hrn hp hr;go_enter Tryz.func52,Tryz.ntmps52
 go_wp2_with fail
 refine HNM.out.mono ?_;rintro _ w2 ⟨rfl,hB2⟩;have hcd2:=h.below hB2;have hF2:Fails B0 a w2:=hF.below (hB2.mono hB);have hoff:w2.cell? ⟨p,6,none⟩=some (.bool d.off):=by rw[←HP.out];exact Blk.cell hcd2.blk 6
 obtain ⟨k,hk⟩:∃k,Kcc d.off rn=k:=⟨_,rfl⟩;have HK:=Jh hk;have HRD:=Jh (Kea (B0:=B0) (a:=a) p d.off rn op S k hk w2 hoff hF2);clear hk;go_wp2_with fail
 refine HRD.out.mono ?_;rintro _ w3 ⟨v,rfl,hv3,hb3⟩;have hB3:=then_ hB2 hb3;have hcd3:=h.below hB3;have hF3:=hF2.below (hb3.mono (by have:=hB2.size;omega));clear hcd2 hF2 hoff hb3 HRD hB2
 cases k with
 | succ k=>
  have hr:r = .error (k+1):=by
   have hk:=HK.out;unfold Kcc at hk;rw[←HR.out];unfold fileD;rw[HRN.out,←hk]
   cases ho:d.off with
   | true=>simp
   | false=>
    rw[ho] at hk
    cases rn with
    | true=>simp at hk
    | false=>simp
  subst hr;have hfin:Kjo a A (.error (k+1)) op S w (.returned (.tuple #[.pointer none,v])) w3:=⟨hB3,by omega,v,rfl,hv3⟩;obtain ⟨q4,rfl,_⟩:=hv3;have HFIN:=Jh hfin;clear hfin hcd3 hF3 hB3;go_wp2_with fail
  go_ret2
  exact HFIN.out
 | zero=>
  obtain rfl:v = .nilIface:=hv3
  obtain ⟨ho,hn⟩:d.off=false∧rn=true:=by
   have hk:=HK.out;unfold Kcc at hk
   cases ho:d.off with
   | true=>rw[ho] at hk;simp at hk
   | false=>
    rw[ho] at hk
    cases rn with
    | true=>exact ⟨rfl,rfl⟩
    | false=>simp at hk
  have hr:r=fileT d.things S.data.toList:=by
   rw[←HR.out];unfold fileD;rw[ho,HRN.out,hn];simp
  have c0:w3.cell? ⟨p,0,none⟩=some (.map (some A.md)):=by rw[←HP.out];exact Blk.cell hcd3.blk 0
  have c1:w3.cell? ⟨p,1,none⟩=some (.map (some A.mf)):=by rw[←HP.out];exact Blk.cell hcd3.blk 1
  have f3:_=some (failV a 3):=(hF3 3 (by decide)).2;have f4:_=some (failV a 4):=(hF3 4 (by decide)).2;have hfl:=fun k=>Kbw (a:=a) op S k w3
  unfold failV at f3 f4 hfl;simp only[failG] at f3 f4;have HFL:=Jh hfl;have hlz:=hcd3.files.1.look Tryz.underlying9 Tryz.underlying125 (Kkb w3) (s:=S) (by unfold maxLen;omega);have hone:=Kii (φ:=A.φ) hf.tw (x:=S.data.toList);clear ho hn HK hfl;rcases Kni hf.tw.nodup S.data.toList with ⟨h0,hx⟩ | ⟨h0,x,hxm,hx,hxd,hxp⟩ | ⟨h0,x,hxm,hx,hxd,hxp⟩
  ·obtain rfl:r = .error 4:=by rw[hr];unfold fileT;rw[hx]
   have hlk:=Kcf hcd3 hf S hS 0 (by rw[h0];rfl) ⟨w3,Below.refl _ _⟩
   have hn:filF A.φ d.things S.data.toList=none:=by
    cases hv:filF A.φ d.things S.data.toList with
    | none=>rfl
    | some v=>have:=hone.1 (by rw[hv];rfl);omega
   rw[hn] at hlz;simp only[Option.getD_none] at hlz;clear hone hn h0 hx hr;dsimp only at hlk;go_wp2_with fail
   refine (HFL.out 3).mono ?_;rintro e w5 ⟨v,rfl,hv5,hb5⟩;have hfin:Kjo a A (.error 4) op S w (.returned (.tuple #[.pointer none,v])) w5:=⟨then_ hB3 hb5,by omega,v,rfl,hv5⟩;have HFIN:=Jh hfin;clear hfin hv5;go_wp2_with fail
   go_ret2
   exact HFIN.out
  ·obtain rfl:r = .ok x.at_:=by rw[hr];unfold fileT;rw[hx];simp[hxd]
   have hlk:=Kcf hcd3 hf S hS 0 (by rw[h0];rfl) ⟨w3,Below.refl _ _⟩;have hn:filF A.φ d.things S.data.toList=some (fptr A.φ x.at_):=(Kca hf.tw.nodup).2 ⟨x,hxm,hxd,hxp,rfl⟩;rw[hn] at hlz;simp only[Option.getD_some] at hlz;have hfin:Kjo a A (.ok x.at_) op S w (.returned (.tuple #[fptr A.φ x.at_,.nilIface])) w3:=⟨hB3,rfl⟩;have HFIN:=Jh hfin;unfold fptr at hlz HFIN;clear hone hn h0 hx hfin hr;dsimp only at hlk;go_wp2_with fail
   go_ret2
   exact HFIN.out
  ·obtain rfl:r = .error 3:=by rw[hr];unfold fileT;rw[hx];simp[hxd]
   have hlk:=Kcf hcd3 hf S hS 1 (by rw[h0];rfl) ⟨w3,Below.refl _ _⟩
   have hn:filF A.φ d.things S.data.toList=none:=by
    cases hv:filF A.φ d.things S.data.toList with
    | none=>rfl
    | some v=>have:=hone.1 (by rw[hv];rfl);omega
   rw[hn] at hlz;simp only[Option.getD_none] at hlz;clear hone hn h0 hx hr;dsimp only at hlk;go_wp2_with fail
   refine (HFL.out 2).mono ?_;rintro e w5 ⟨v,rfl,hv5,hb5⟩;have hfin:Kjo a A (.error 3) op S w (.returned (.tuple #[.pointer none,v])) w5:=⟨then_ hB3 hb5,by omega,v,rfl,hv5⟩;have HFIN:=Jh hfin;clear hfin hv5;go_wp2_with fail
   go_ret2
   exact HFIN.out
end
section
variable {B0 : Nat} {a : Nat → Addr} {R : Nat → Nat} {A : Adr} {d : Ds} {w w' : World}
theorem Kou {s:Txt} {i:Nat} (hf:Fit d) (h:fileD d s = .ok i):i < d.files.length∧d.off=false∧∃x∈d.things,x.dir=false∧x.path=s∧x.at_=i:=by
 unfold fileD at h
 cases ho:d.off with
 | true=>rw[ho] at h;simp at h
 | false=>
  rw[ho] at h;simp only[Bool.false_eq_true,if_false] at h
  split at h
  ·cases h
  ·unfold fileT at h;rcases Kni hf.tw.nodup s with ⟨h0,hx⟩ | ⟨h0,x,hxm,hx,hxd,hxp⟩ | ⟨h0,x,hxm,hx,hxd,hxp⟩
   ·rw[hx] at h;cases h
   ·rw[hx] at h;simp only[hxd,Bool.false_eq_true,if_false] at h;injection h with h;exact ⟨h▸hf.tw.ats x hxm hxd,rfl,x,hxm,hxd,hxp,h⟩
   ·rw[hx] at h;simp only[hxd,if_true] at h;cases h
theorem Khz (h:CD B0 w R A d) {i:Nat} (hi:i < d.files.length):FileM w R i (A.φ[i]?.getD 0) (fAt d i):=by
 have hl:=h.bytes.1;have h1:A.φ[i]? = some A.φ[i]:=List.getElem?_eq_getElem (by omega);have h2:d.files[i]? = some d.files[i]:=List.getElem?_eq_getElem hi;unfold fAt;rw[h1,h2];exact h.bytes.2 i _ _ h1 h2
theorem Qdf (S:ByteArray) (w:World) (h:CD B0 w R A d) (hf:Fit d) (hS:S.size≤1073741824) (hB:B0≤w.heap.size) (hF:Fails B0 a w) :
  Calls Tryz.prog 21 #[.pointer (some ⟨A.p,0,none⟩),.string S] w fun e w'=>∃v,e = .returned (.tuple #[txtV (allD d S.data.toList).1,v])∧ErrV a w' ⟨#[114,101,97,100]⟩ S (allD d S.data.toList).2 v∧Below w.heap.size w w':=by
 have HF:=Jh (Kkg (a:=a) ⟨#[114,101,97,100]⟩ S w h hf hS hB hF);obtain ⟨r,hr⟩:∃r,fileD d S.data.toList=r:=⟨_,rfl⟩;have HR:=Jh hr;rw[hr] at HF;obtain ⟨p,hp⟩:∃p,A.p=p:=⟨_,rfl⟩;rw[hp] at HF ⊢;clear hr hp;go_enter Tryz.func21,Tryz.ntmps21
 go_wp2_with fail
 refine HF.out.mono ?_;rintro _ w1 ⟨hb1,hm⟩
 cases r with
 | error k=>
  obtain ⟨hk,v,rfl,hv⟩:=hm;have e1:allD d S.data.toList=([],k):=by unfold allD;rw[HR.out]
  have HE:=Jh e1;have HV:=Jh hv
  cases k with
  | zero=>exact absurd rfl hk
  | succ k=>
   obtain ⟨q,rfl,_⟩:=hv;clear e1;go_wp2_with fail
   go_ret2
   exact ⟨_,by rw[HE.out];rfl,by rw[HE.out];exact HV.out,hb1⟩
 | ok i=>
  have hm':_=Ending.returned (.tuple #[fptr A.φ i,.nilIface]):=hm;subst hm';obtain ⟨hi,_⟩:=Kou hf HR.out;obtain ⟨v,hblk,_⟩:=Khz (h.below hb1) hi;have e1:allD d S.data.toList=((fAt d i).now,0):=by unfold allD;rw[HR.out]
  have HE:=Jh e1;obtain ⟨T,hT⟩:∃T:ByteArray,(⟨(fAt d i).now.toArray⟩:ByteArray)=T:=⟨_,rfl⟩;have HT:=Jh hT;have c0:w1.cell? ⟨A.φ[i]?.getD 0,0,none⟩=some (.string T):=by rw[←hT];exact hblk.cell 0
  unfold fptr;obtain ⟨b,hb⟩:∃b,A.φ[i]?.getD 0=b:=⟨_,rfl⟩;rw[hb] at c0 ⊢;clear hblk e1 hT hb hi;go_wp2_with fail
  go_ret2
  exact ⟨_,by rw[HE.out];unfold txtV;rw[HT.out];rfl,by rw[HE.out];rfl,hb1⟩
theorem Qfk (S:ByteArray) (w:World) (h:CD B0 w R A d) (hf:Fit d) (hS:S.size≤1073741824) (hB:B0≤w.heap.size) (hF:Fails B0 a w) :
  Calls Tryz.prog 61 #[.pointer (some ⟨A.p,0,none⟩),.string S] w (Kae B0 a R A (syncD d S.data.toList) ⟨#[115,121,110,99]⟩ S w):=by
 have HF:=Jh (Kkg (a:=a) ⟨#[115,121,110,99]⟩ S w h hf hS hB hF);obtain ⟨r,hr⟩:∃r,fileD d S.data.toList=r:=⟨_,rfl⟩;have HR:=Jh hr;rw[hr] at HF;obtain ⟨p,hp⟩:∃p,A.p=p:=⟨_,rfl⟩;have HP:=Jh hp;rw[hp] at HF ⊢;clear hr hp;go_enter Tryz.func61,Tryz.ntmps61
 go_wp2_with fail
 refine HF.out.mono ?_;rintro _ w1 ⟨hb1,hm⟩
 cases r with
 | error k=>
  obtain ⟨hk,v,rfl,hv⟩:=hm
  have hfin:Kae B0 a R A (syncD d S.data.toList) ⟨#[115,121,110,99]⟩ S w (.returned v) w1:=by
   have e1:syncD d S.data.toList=(k,d):=by unfold syncD;rw[HR.out]
   rw[e1];exact Kae.bad h hb1 hv
  have HFIN:=Jh hfin
  cases k with
  | zero=>exact absurd rfl hk
  | succ k=>
   obtain ⟨q,rfl,_⟩:=hv;clear hfin;go_wp2_with fail
   go_ret
   exact HFIN.out
 | ok i=>
  have hm':_=Ending.returned (.tuple #[fptr A.φ i,.nilIface]):=hm;subst hm';obtain ⟨hi,_⟩:=Kou hf HR.out;have hcd1:=h.below hb1;have HST:=Jh (Kht (a:=a) ⟨#[115,121,110,99]⟩ S w1 hcd1 hf.aw (by have:=hb1.size;omega) (hF.below (hb1.mono hB)));rw[HP.out] at HST;have hss:=Khs d;have HSS:=Jh hss;obtain ⟨k,d1,hk⟩:∃k d1,stepD d=(k,d1):=⟨_,_,rfl⟩;have HK:=Jh hk;unfold fptr;obtain ⟨b,hb⟩:∃b,A.φ[i]?.getD 0=b:=⟨_,rfl⟩;have HBB:=Jh hb;rw[hb];clear hss hk hb hcd1;go_wp2_with fail
  refine HST.out.mono ?_;rintro _ w2 ⟨v,rfl,hv2,hcd2,hO2,_⟩;rw[HK.out] at hv2 hcd2
  cases k with
  | succ k=>
   have hfin:Kae B0 a R A (syncD d S.data.toList) ⟨#[115,121,110,99]⟩ S w (.returned v) w2:=by
    have e1:syncD d S.data.toList=(k+1,d1):=by unfold syncD;rw[HR.out,HK.out];simp
    rw[e1];exact ⟨v,R,A,rfl,hv2,hcd2,(Own.of_below hb1).trans hO2,rfl,rfl⟩
   have HFIN:=Jh hfin;obtain ⟨q,rfl,_⟩:=hv2;clear hfin hcd2 hO2;go_wp2_with fail
   go_ret
   exact HFIN.out
  | zero=>
   obtain rfl:v = .nilIface:=hv2;have hss:=HSS.out;rw[HK.out] at hss;have hi1:i < d1.files.length:=by rw[hss.2.2.2];exact hi
   obtain ⟨u,hblk,hrb,hrow⟩:=Khz hcd2 hi1;have efa:fAt d1 i=fAt d i:=by unfold fAt;rw[hss.2.2.2]
   rw[efa] at hblk;rw[HBB.out] at hblk hrb;obtain ⟨T,hT⟩:∃T:ByteArray,(⟨(fAt d i).now.toArray⟩:ByteArray)=T:=⟨_,rfl⟩;have hTv:txtV (fAt d i).now = .string T:=by unfold txtV;rw[hT]
   have hblk2:Blk ((w2.setCell ⟨b,1,none⟩ (.string T)).setCell ⟨b,2,none⟩ (.slice none 0 0)) b 137 #[txtV (fAt d i).now,txtV (fAt d i).now,.slice none 0 0]:=by
    have:=(hblk.set_ 1 (.string T)).set_ 2 (.slice none 0 0);rw[hTv] at this ⊢;exact this
   have hcd3:CD B0 ((w2.setCell ⟨b,1,none⟩ (.string T)).setCell ⟨b,2,none⟩ (.slice none 0 0)) R A (setF d1 i ⟨(fAt d i).now,(fAt d i).now,[]⟩):=by
    refine CD.file_only hcd2 hi1 (fun k h0 h1 h2=>⟨?_,rfl⟩) (fun k hk=>by have:=hcd2.inw k hk;simpa[World.setCell] using this) hcd2.low ?_
    ·have hne:k≠b:=by rintro rfl;exact h1 hrb
     exact (Below.heap_setCell _ _ _ k hne).trans (Below.heap_setCell _ _ _ k hne)
    ·rw[HBB.out];exact ⟨.slice none 0 0,hblk2,hrb,RowIs.nil⟩
   have hO3:Own R R w ((w2.setCell ⟨b,1,none⟩ (.string T)).setCell ⟨b,2,none⟩ (.slice none 0 0)):=((Own.of_below hb1).trans hO2).trans ((Own.of_set _ (by omega)).trans (Own.of_set _ (by omega)))
   have hfin:Kae B0 a R A (syncD d S.data.toList) ⟨#[115,121,110,99]⟩ S w (.returned .nilIface) ((w2.setCell ⟨b,1,none⟩ (.string T)).setCell ⟨b,2,none⟩ (.slice none 0 0)):=by
    have e1:syncD d S.data.toList=(0,setF d1 i ⟨(fAt d i).now,(fAt d i).now,[]⟩):=by unfold syncD;rw[HR.out,HK.out];simp
    rw[e1];exact ⟨.nilIface,R,A,rfl,rfl,hcd3,hO3,rfl,rfl⟩
   have HFIN:=Jh hfin;rw[hTv] at hblk;have c0:_=some (Value.string T):=hblk.cell 0;obtain ⟨X,hX⟩:∃X:ByteArray,(⟨(fAt d i).safe.toArray⟩:ByteArray)=X:=⟨_,rfl⟩;have c1:w2.cell? ⟨b,1,none⟩=some (.string X):=by rw[←hX];exact hblk.cell 1
   obtain ⟨A4,c4,hu,_⟩:∃A4 c4,u = .slice A4 (fAt d1 i).steps.length c4∧True:=by
    rcases hrow.1.2 with ⟨rfl,h0⟩ | ⟨g,cap,cur,rfl,_⟩
    ·exact ⟨none,0,by rw[h0],trivial⟩
    ·exact ⟨_,cap,rfl,trivial⟩
   rw[hu] at hblk;have c2:_=some (Value.slice A4 (fAt d1 i).steps.length c4):=hblk.cell 2;have g1:=hblk.frozen 1;have g2:=hblk.frozen 2;obtain ⟨m,hm⟩:∃m,(fAt d1 i).steps.length=m:=⟨_,rfl⟩;rw[hm] at c2;clear hfin hcd2 hO2 hcd3 hO3 hblk2 hblk hrow hu efa hT hTv hX hm hss;go_wp2_with fail
   go_ret
   exact HFIN.out
end
end
section
open Go.RowKit Go.Shelf Go.Maps Go.Sort
attribute [local go_sem ↓] Go.wp_at_zero Go.wp_at_succ
attribute [local go_sem] Later.cell
section
variable {B0 : Nat} {a : Nat → Addr} {R : Nat → Nat} {A : Adr} {d : Ds} {w w' : World}
theorem Qas:(Tryz.prog.info? 213).map (fun i=>(i.zero,i.size,i.bytes))=some (some (.agg #[.string ⟨#[]⟩,.int .i64 0]),2,24):=by kernel_rfl
theorem CD.file_step (h:CD B0 w R A d) {i b:Nat} (hi:i < d.files.length) (hb:A.φ[i]?.getD 0=b) {u v':Value} {N:Txt} {c:Ch} {w3:World} (hblk:Blk w b 137 #[txtV (fAt d i).now,txtV (fAt d i).safe,u]) (hrb:R b=10+2*i)
  (hrow:∀g,u.ownBlock=some g→R g=11+2*i) (hg:(w.setCell ⟨b,0,none⟩ (txtV N)).grownBy w3 u.ownBlock) (hrow3:w3.ownsRow 0 213 2 v' ((fAt d i).steps.length+1) ((fAt d i).steps.flatMap encC++encC c))
  (hat:v'.ownBlock=u.ownBlock∨∃g,v'.ownBlock=some g∧w.heap.size≤g) (hB:B0≤w.heap.size) :
  CD B0 (w3.setCell ⟨b,2,none⟩ v') (rowR R v' (11+2*i)) A (setF d i ⟨N,(fAt d i).safe,(fAt d i).steps ++ [c]⟩)∧Own R (rowR R v' (11+2*i)) w (w3.setCell ⟨b,2,none⟩ v'):=by
 have hold:∀k,k < w.heap.size→rowR R v' (11+2*i) k=R k:=fun k hk=>Kyr hrow hat hk
 have hbl:=hblk.lt;have hs1:(w.setCell ⟨b,0,none⟩ (txtV N)).heap.size=w.heap.size:=by simp[World.setCell]
 have hs3:(w3.setCell ⟨b,2,none⟩ v').heap.size=w3.heap.size:=by simp[World.setCell]
 have hsz:w.heap.size≤w3.heap.size:=by have:=hg.size;omega
 have hbu:some b≠u.ownBlock:=by
  intro e;have:=hrow _ e.symm;omega
 have hbv:v'.ownBlock≠some b:=by
  intro e;rcases hat with h1 | ⟨g,h1,h2⟩
  ·rw[h1] at e;exact hbu e.symm
  ·rw[h1] at e;injection e with e;omega
 have key:∀k,k < w.heap.size→k≠b→u.ownBlock≠some k→(w3.setCell ⟨b,2,none⟩ v').heap[k]? = w.heap[k]?:=by
  intro k hk h1 h2;exact ((Below.heap_setCell _ _ _ k h1).trans (hg.block k (by omega) (fun e=>h2 e.symm))).trans (Below.heap_setCell _ _ _ k h1)
 have hblk3:Blk (w3.setCell ⟨b,2,none⟩ v') b 137 #[txtV N,txtV (fAt d i).safe,v']:=(((hblk.set_ 0 (txtV N)).grown hg hbu).set_ 2 v');have hrow4:=ownsRow_setCell_other hrow3 (a:=⟨b,2,none⟩) hbv v';refine ⟨CD.file_only h hi (fun k h0 h1 h2=>⟨key k (h.inw k h0) (fun e=>h1 (e▸hrb)) (fun e=>h2 (hrow k e)),hold k (h.inw k h0)⟩) ?_ ?_ ?_,?_⟩
 ·intro k hk;rw[hs3];unfold rowR at hk
  split at hk
  ·rename_i e;exact (hrow3.lt k e).2
  ·exact Nat.lt_of_lt_of_le (h.inw k hk) hsz
 ·intro k hk;rw[hold k (by omega)];exact h.low k hk
 ·rw[hb];refine ⟨v',hblk3,by rw[hold b hbl];exact hrb,?_,fun g hg'=>by simp[rowR,hg']⟩;rw[List.length_append,List.flatMap_append];simpa using hrow4
 ·refine ⟨hg.os,hg.tape,hg.output,by rw[hs3];exact hsz,fun k hk hr=>key k hk (fun e=>by rw[e] at hr;omega) (fun e=>by have:=hrow k e;omega),hold⟩
end
end
section
open Go.RowKit Go.Shelf Go.Maps Go.Sort
open Lib renaming hid → Jh
attribute [local go_sem ↓] Go.wp_at_zero Go.wp_at_succ
attribute [local go_sem] Later.cell
section
variable {B0 : Nat} {a : Nat → Addr} {R : Nat → Nat} {A : Adr} {d : Ds} {w w' : World}
def safeW (w:World) (p x y:Nat):World:=((w.setCell ⟨p,2,none⟩ (.map (some x))).setCell ⟨p,3,none⟩ (.map (some y))).setCell ⟨p,4,none⟩ (.slice none 0 0)
theorem Kqx (w:World) (p x y:Nat):(safeW w p x y).heap.size=w.heap.size:=by simp[safeW,World.setCell]
theorem Khp (w:World) {p x y k:Nat} (h:k≠p):(safeW w p x y).heap[k]? = w.heap[k]?:=
 ((Below.heap_setCell _ _ _ k h).trans (Below.heap_setCell _ _ _ k h)).trans (Below.heap_setCell _ _ _ k h)
theorem CD.resafe (h:CD B0 w R A d) {w1:World} {x y:Nat} (hb:Below w.heap.size w w1) (hx:SM w1 x (dirF d.things)) (hy:SM w1 y (filF A.φ d.things)) (hxy:x≠y) (hxl:w.heap.size≤x) (hyl:w.heap.size≤y) (hB:B0≤w.heap.size) :
  CD B0 (safeW w1 A.p x y) (giv (giv R x 4) y 6) { A with sd:=x,sf:=y,sv:=.slice none 0 0 } { d with safe:=d.things,steps:=[] }∧Own R (giv (giv R x 4) y 6) w (safeW w1 A.p x y):=by
 have hpl:=Blk.lt h.blk;have hp0:A.p≠x:=by omega
 have hp1:A.p≠y:=by omega
 have hold:∀k,k < w.heap.size→giv (giv R x 4) y 6 k=R k:=fun k hk=>by rw[Kax (by omega),Kax (by omega)]
 have hblk:=Blk.below h.blk hb hpl;have hx1:=SMap.lt hx;have hy1:=SMap.lt hy
 have key:∀k,R k≠0→R k≠1→(safeW w1 A.p x y).heap[k]? = w.heap[k]?∧giv (giv R x 4) y 6 k=R k:=fun k hk h1=>
  ⟨(Khp w1 (fun e=>h1 (by rw[e];exact h.rp))).trans (hb.block k (h.inw k hk)),hold k (h.inw k hk)⟩
 have hin:InW (giv (giv R x 4) y 6) (safeW w1 A.p x y):=by
  intro k hk;rw[Kqx]
  by_cases e1:k=y
  ·omega
  by_cases e2:k=x
  ·omega
  rw[Kax e1,Kax e2] at hk;exact Nat.lt_of_lt_of_le (h.inw k hk) hb.size
 refine ⟨?_,?_⟩
 ·exact {
   blk:=((Blk.set_ hblk 2 _).set_ 3 _).set_ 4 _
   rp:=by rw[hold _ hpl];exact h.rp
   dirs:=h.dirs.same fun k hk=>key k (by omega) (by omega)
   files:=h.files.same fun k hk=>key k (by omega) (by omega)
   sdirs:=⟨hx.same (Khp w1 (Ne.symm hp0)),by show giv (giv R x 4) y 6 x=4;rw[Kax hxy,Kck]⟩
   sfiles:=⟨hy.same (Khp w1 (Ne.symm hp1)),Kck _ _ _⟩
   steps:=⟨[],RowIs.nil,rfl,fun i s f hs _=>by simp at hs⟩
   bytes:=h.bytes.same fun k hk=>key k (by omega) (by omega)
   inw:=hin
   low:=fun k hk=>by rw[hold k (by omega)];exact h.low k hk }
 ·exact ⟨hb.os,hb.tape,hb.output,by rw[Kqx];exact hb.size,fun k hk hr=>(Khp w1 (fun e=>by rw[e,h.rp] at hr;omega)).trans (hb.block k hk),hold⟩
theorem Krj (w:World) (h:CD B0 w R A d) (hf:Fit d) (hB:B0≤w.heap.size) (hF:Fails B0 a w) :
  Calls Tryz.prog 64 #[.pointer (some ⟨A.p,0,none⟩)] w (Kae B0 a R A (Kay d) ⟨#[110,97,109,101,115]⟩ ⟨#[]⟩ w):=by
 obtain ⟨p,hp⟩:∃p,A.p=p:=⟨_,rfl⟩;have HP:=Jh hp;have hoff:w.cell? ⟨p,6,none⟩=some (.bool d.off):=by rw[←hp];exact Blk.cell h.blk 6
 obtain ⟨k,hk⟩:∃k,Kcc d.off true=k:=⟨_,rfl⟩;have HK:=Jh hk;have HRD:=Jh (Kea (B0:=B0) (a:=a) p d.off true ⟨#[110,97,109,101,115]⟩ ⟨#[]⟩ k hk w hoff hF);rw[hp];clear hk hp hoff;go_enter Tryz.func64,Tryz.ntmps64
 go_wp2_with fail
 refine HRD.out.mono ?_;rintro _ w1 ⟨v,rfl,hv1,hb1⟩
 cases k with
 | succ k=>
  have hfin:Kae B0 a R A (Kay d) ⟨#[110,97,109,101,115]⟩ ⟨#[]⟩ w (.returned v) w1:=by
   have e1:Kay d=(k+1,d):=by
    have hk:=HK.out;unfold Kcc at hk;unfold Kay;rw[←hk]
    cases ho:d.off with
    | true=>simp
    | false=>rw[ho] at hk;simp at hk
   rw[e1];exact Kae.bad h hb1 hv1
  obtain ⟨q4,rfl,_⟩:=hv1;have HFIN:=Jh hfin;clear hfin;go_wp2_with fail
  go_ret
  exact HFIN.out
 | zero=>
  obtain rfl:v = .nilIface:=hv1
  have ho:d.off=false:=by
   have hk:=HK.out;unfold Kcc at hk
   cases ho:d.off with
   | true=>rw[ho] at hk;simp at hk
   | false=>rfl
  have hcd1:=h.below hb1;have HST:=Jh (Kht (a:=a) ⟨#[110,97,109,101,115]⟩ ⟨#[]⟩ w1 hcd1 hf.aw (by have:=hb1.size;omega) (hF.below (hb1.mono hB)));rw[HP.out] at HST;have HSS:=Jh (Khs d);obtain ⟨k,dd,hk⟩:∃k d1,stepD d=(k,d1):=⟨_,_,rfl⟩;have HKK:=Jh hk;have e1:Kay d=if k≠0 then (k,dd) else (0,{ dd with safe:=d.things,steps:=[] }):=by unfold Kay;rw[ho,hk];rfl
  have HE:=Jh e1;clear hk hcd1 e1 ho;go_wp2_with fail
  refine HST.out.mono ?_;rintro _ w2 ⟨v,rfl,hv2,hcd2,hO2,_⟩;rw[HKK.out] at hv2 hcd2
  cases k with
  | succ k=>
   have hfin:Kae B0 a R A (Kay d) ⟨#[110,97,109,101,115]⟩ ⟨#[]⟩ w (.returned v) w2:=by
    rw[HE.out];exact ⟨v,R,A,rfl,hv2,hcd2,(Own.of_below hb1).trans hO2,rfl,rfl⟩
   have HFIN:=Jh hfin;obtain ⟨q,rfl,_⟩:=hv2;clear hfin hcd2 hO2;go_wp2_with fail
   go_ret
   exact HFIN.out
  | zero=>
   obtain rfl:v = .nilIface:=hv2;have hss:=HSS.out;rw[HKK.out] at hss;have HTW:=Jh (Kgp A.md A.mf (dirF dd.things) (filF A.φ dd.things));have HBLK:=Jh hcd2.blk;have c0:w2.cell? ⟨A.p,0,none⟩=some (.map (some A.md)):=Blk.cell hcd2.blk 0;have c1:w2.cell? ⟨A.p,1,none⟩=some (.map (some A.mf)):=Blk.cell hcd2.blk 1;rw[HP.out] at c0 c1;obtain ⟨md,hmd⟩:∃x,A.md=x:=⟨_,rfl⟩;obtain ⟨mf,hmf⟩:∃x,A.mf=x:=⟨_,rfl⟩;rw[hmd] at c0 HTW;rw[hmf] at c1 HTW;have HC2:=Jh hcd2;have HO2:=Jh hO2;have HSM1:=Jh (show SM w2 md (dirF dd.things) by rw[←hmd];exact hcd2.dirs.1);have HSM2:=Jh (show SM w2 mf (filF A.φ dd.things) by rw[←hmf];exact hcd2.files.1);clear hcd2 hO2 hmd hmf;go_wp2_with fail
   refine (HTW.out w2 HSM1.out HSM2.out).mono ?_;rintro _ w3 ⟨x,y,rfl,hx,hy,hxy,hxl,hyl,hb3⟩;obtain ⟨hcd4,hO4⟩:=CD.resafe HC2.out hb3 hx hy hxy hxl hyl (by have:=hb1.size;have:=HO2.out.size;omega)
   have hfin:Kae B0 a R A (Kay d) ⟨#[110,97,109,101,115]⟩ ⟨#[]⟩ w (.returned .nilIface) (safeW w3 A.p x y):=by
    rw[HE.out,←hss.1];exact ⟨.nilIface,_,_,rfl,rfl,hcd4,((Own.of_below hb1).trans HO2.out).trans hO4,rfl,rfl⟩
   rw[HP.out] at hfin;unfold safeW at hfin;have HFIN:=Jh hfin;have hblk:=HBLK.out;unfold DBlk at hblk;rw[HP.out] at hblk;have hblk3:=Blk.below hblk hb3 (Blk.lt hblk);obtain ⟨sd,hsd⟩:∃x,A.sd=x:=⟨_,rfl⟩;obtain ⟨sf,hsf⟩:∃x,A.sf=x:=⟨_,rfl⟩;obtain ⟨sv,hsv⟩:∃x,A.sv=x:=⟨_,rfl⟩;rw[hsd,hsf,hsv] at hblk3;have k2:w3.cell? ⟨p,2,none⟩=some (.map (some sd)):=Blk.cell hblk3 2;have k3:w3.cell? ⟨p,3,none⟩=some (.map (some sf)):=Blk.cell hblk3 3;have k4:w3.cell? ⟨p,4,none⟩=some sv:=Blk.cell hblk3 4;have g2:=Blk.frozen hblk3 2;have g3:=Blk.frozen hblk3 3;have g4:=Blk.frozen hblk3 4;clear hfin hcd4 hO4 hx hy hxy hxl hyl hblk hblk3 hsd hsf hsv hss c0 c1 hb3;go_wp2_with fail
   go_ret
   exact HFIN.out
end
section
variable {B0 : Nat} {a : Nat → Addr} {R : Nat → Nat} {A : Adr} {d : Ds} {w w' : World}
def seenL (d:Ds) (left:Txt→Bool) (l:List Th):Nat:=(l.map fun x=>if x.dir || left x.path then 0 else (nowAt d x.at_).length).sum
theorem Qfh {left:Txt→Bool} {l:List Th} (h:∀x∈l,x.dir=false→left x.path=true):seenL d left l=0:=by
 unfold seenL
 induction l with
 | nil=>rfl
 | cons x l ih=>
  rw[List.map_cons,List.sum_cons,ih fun y hy=>h y (List.mem_cons_of_mem _ hy)]
  cases hd:x.dir with
  | true=>simp
  | false=>simp[h x (List.mem_cons_self) hd]
theorem Qjb {left:Txt→Bool} {l:List Th} (h:∀x,left x=false):seenL d left l=usedL d l:=by
 unfold seenL usedL;simp[h]
theorem Qmd {left:Txt→Bool} {l:List Th}:seenL d left l≤usedL d l:=by
 unfold seenL usedL
 induction l with
 | nil=>exact Nat.le_refl _
 | cons x l ih=>
  simp only[List.map_cons,List.sum_cons];refine Nat.add_le_add ?_ ih;cases x.dir <;> cases left x.path <;> simp
theorem Qfg {left left':Txt→Bool} {l:List Th} (h:∀x∈l,left' x.path=left x.path):seenL d left' l=seenL d left l:=by
 unfold seenL;congr 1;exact List.map_congr_left fun x hx=>by rw[h x hx]
theorem Qjc {left left':Txt→Bool} {l:List Th} (hn:(l.map Th.path).Nodup) {x:Th} (hx:x∈l) (hd:x.dir=false) (h1:left x.path=true) (h2:left' x.path=false) (h3:∀z,z≠x.path→left' z=left z) :
  seenL d left' l=seenL d left l+(nowAt d x.at_).length:=by
 induction l with
 | nil=>cases hx
 | cons y l ih=>
  rw[List.map_cons,List.nodup_cons] at hn;have e1:∀f,seenL d f (y :: l)=(if y.dir || f y.path then 0 else (nowAt d y.at_).length)+seenL d f l:=fun f=>by unfold seenL;rw[List.map_cons,List.sum_cons]
  rw[e1,e1];rcases List.mem_cons.1 hx with rfl | hx'
  ·rw[Qfg (left':=left') (left:=left) fun z hz=>h3 _ fun e=>hn.1 (by rw[←e];exact List.mem_map_of_mem hz),h1,h2,hd];simp;omega
  ·rw[ih hn.2 hx',h3 y.path fun e=>hn.1 (by rw[e];exact List.mem_map_of_mem hx')];omega
theorem Qfu (w:World) (h:CD B0 w R A d) (hf:Fit d) (hu:usedL d d.things≤4611686018427387904) :
  Calls Tryz.prog 117 #[.pointer (some ⟨A.p,0,none⟩)] w fun e w'=>e = .returned (.int .i64 (usedD d:Int))∧Below w.heap.size w w':=by
 obtain ⟨p,hp⟩:∃p,A.p=p:=⟨_,rfl⟩;have HP:=Jh hp;have hoff:w.cell? ⟨p,6,none⟩=some (.bool d.off):=by rw[←hp];exact Blk.cell h.blk 6
 obtain ⟨o,ho⟩:∃o,d.off=o:=⟨_,rfl⟩;rw[ho] at hoff;have HOF:=Jh (Ktx p o w hoff);obtain ⟨b,hb⟩:∃b,A.mf=b:=⟨_,rfl⟩;have c1:w.cell? ⟨p,1,none⟩=some (.map (some b)):=by rw[←hp,←hb];exact Blk.cell h.blk 1
 have hsm:SM w b (filF A.φ d.things):=by rw[←hb];exact h.files.1
 rw[hp];clear hp hb hoff;go_enter Tryz.func117,Tryz.ntmps117
 go_wp2_with fail
 refine HOF.out.mono ?_;rintro _ w1 ⟨rfl,rfl⟩
 cases o with
 | true=>
  have e1:usedD d=0:=by unfold usedD;rw[ho];rfl
  have HE:=Jh e1;clear c1 hsm e1;go_wp2_with fail
  go_ret
  exact ⟨by rw[HE.out];rfl,Below.refl _ _⟩
 | false=>
  have e1:usedD d=usedL d d.things:=by unfold usedD;rw[ho];rfl
  have HE:=Jh e1;obtain ⟨D,hown,hhas,hat⟩:=hsm;have hsize:=SMap.size_le Tryz.underlying9 hown (d.things.map Th.path) (fun x hx=>Kgg (φ:=A.φ) (by rw[←hhas];exact hx));rw[List.length_map] at hsize;have htl:=hf.tl;have HHAS:=Jh hhas;have HAT:=Jh hat;have H:=Jh h;clear hhas hat h e1 ho;have hbl:=hown.lt;go_wp2_with (at_range;refine wpList_range_own _ rfl _ 125 rfl 9 132 law3 Tryz.underlying125 HR b (Maps.size D) D rfl hown ?_;intro w0 hrg0 hg0 hs0)
  obtain ⟨r,hr⟩:∃r,w.heap.size=r:=⟨_,rfl⟩;have hB0:Below r w w0:=⟨hg0.os,hg0.tape,hg0.output,hg0.size,fun k hk=>hg0.block k (by omega) (by simp)⟩;have HRS:=Jh hr;rw[hr] at hrg0 ⊢;clear hr hs0;go_frame
  go_loopg [3] (Maps.size D) (fun g s3 wr=>∃(left:Lit→Bool) (cnt:Nat) (m:Nat),s3 = .int .i64 (m:Int)∧seenL d (fun z=>left (.string z)) d.things=m∧cnt≤g∧wr.ranges Tryz.prog 9 HR b r (Maps.size D) D left cnt∧Below r w wr)
  case atStart=>
   refine ⟨Maps.has D,Maps.size D,0,rfl,Qfh fun x hx hd=>?_,Nat.le_refl _,hrg0,hB0⟩;rw[HHAS.out x.path];exact Option.isSome_iff_exists.2 ⟨_,(Kca hf.tw.nodup).2 ⟨x,hx,hd,rfl,rfl⟩⟩
  case round=>
   obtain ⟨left,cnt,m,rfl,hsum,hcg,hrg,hB⟩:=hrel;have HSUM:=Jh hsum;clear hsum;go_wp2_with (at_next;refine wpList_next_ranges _ rfl _ rfl 9 law3 HR Value.string (fun v:Value=>v) (fun key kl hk=>by obtain ⟨x,e,_⟩:=Maps.keyOf_str Tryz.underlying9 hk;exact ⟨_,e⟩) (fun v _ _=>⟨v,rfl⟩) b r (Maps.size D) D left cnt rfl hrg ?_ ?_)
   ·intro hc0 hl0;have hm:m=usedD d:=by rw[HE.out,←HSUM.out];exact Qjb fun x=>by rw[hl0]
    have HM:=Jh hm;clear hc0 hl0 hm;go_wp2_with fail
    go_ret
    exact ⟨by rw[HM.out];rfl,by rw[HRS.out];exact hB⟩
   ·intro x c kl y y2 w2 cnt2 hkx hlk hv hat2 hrg2 hlt hg2 hs2 hen;clear hs2;obtain ⟨k,e1,rfl,_⟩:=Maps.keyOf_str Tryz.underlying9 hkx;have hfk:(filF A.φ d.things k).isSome=true:=by rw[←HHAS.out k];exact Maps.has_true_of_atKey hat2
    obtain ⟨v,hfv⟩:=Option.isSome_iff_exists.1 hfk
    have hcv:c=v:=by
     have h1:=HAT.out k v hfv (.held v);rw[hat2] at h1;unfold HR at hv;injection hv with hv;injection hv with hv;rw[←hv] at h1;injection h1
    subst hcv;obtain ⟨t,htm,htd,rfl,hct⟩:=(Kca hf.tw.nodup).1 hfv;have hB2:Below r w w2:=hB.trans ⟨hg2.os,hg2.tape,hg2.output,hg2.size,fun j hj=>hg2.block j (by have:=hB.size;have:=HRS.out;omega) (fun e=>by injection e with e;omega)⟩;have hi:=hf.tw.ats t htm htd;obtain ⟨u1,hblk1,_⟩:=Khz H.out hi;obtain ⟨g,hg⟩:∃g,A.φ[t.at_]?.getD 0=g:=⟨_,rfl⟩;unfold fptr at hct;rw[hg] at hblk1 hct;subst hct;obtain ⟨T,hT⟩:∃T:ByteArray,(⟨(fAt d t.at_).now.toArray⟩:ByteArray)=T:=⟨_,rfl⟩;have hTs:(nowAt d t.at_).length=T.size:=by rw[←hT];rfl
    have hblk2:=hblk1.below hB2 (by have:=hblk1.lt;have:=HRS.out;omega);have c0:w2.cell? ⟨g,0,none⟩=some (.string T):=by rw[←hT];exact hblk2.cell 0
    have hnext:seenL d (fun z=>left (.string z) && !(Lit.string z).sameKey (.string t.path)) d.things=m+T.size:=by
     rw[Qjc (left:=fun z=>left (.string z)) hf.tw.nodup htm htd hlk (by simp[Kgl.2 rfl]) (fun z hz=>by
      have:(Lit.string z).sameKey (.string t.path)=false:=by
       cases e:(Lit.string z).sameKey (.string t.path) with
       | false=>rfl
       | true=>exact absurd (Kgl.1 e) hz
      simp[this]),HSUM.out,hTs]
    have hle:m+T.size≤4611686018427387904:=by rw[←hnext];exact Nat.le_trans Qmd hu
    have HN:=Jh hnext;clear hnext hblk1 hblk2 hT hTs hg hi htm htd hfv hfk hv hat2 hkx e1 hlk hg2 hrg;go_wp2_with fail
    go_roundg (gk - 1)
    case measure=>omega
    case rel=>exact ⟨_,cnt2,m+T.size,by simp,HN.out,by omega,hrg2,hB2⟩
end
section
variable {B0 : Nat} {a : Nat → Addr} {R : Nat → Nat} {A : Adr} {d : Ds} {w w' : World}
theorem Ktp (l:List Txt):Lib.join l []=l.flatten:=by
 cases l with
 | nil=>rfl
 | cons x r=>rw[Lib.join_cons];simp[Lib.joinTail]
theorem Qat (Ao:Option Addr) (n c:Nat) (l:List Txt) (w:World) (h:Strs w Ao n l) (hc:n≤c) (hn:n≤140737488355328) (hl:l.flatten.length≤140737488355328) :
  Calls Tryz.prog 116 #[.slice Ao n c,.string ⟨#[]⟩] w fun e w'=>e = .returned (.string ⟨l.flatten.toArray⟩)∧Below w.heap.size w w':=by
 have hln:=h.len
 by_cases h0:n=0
 ·subst h0;obtain rfl:l = []:=List.eq_nil_of_length_eq_zero hln;refine (Tryz.strings_Join_none Ao c ⟨#[]⟩ w).mono ?_;rintro _ w1 ⟨rfl,rfl⟩;exact ⟨rfl,Below.refl _ _⟩
 ·obtain ⟨b,off,rfl,hb,_⟩:=h.at_ (i:=0) (by omega);have hm:(l.map fun t=>(⟨t.toArray⟩:ByteArray)).map (·.data.toList)=l:=by simp[Function.comp_def]
  have hk:=Tryz.strings_Join b off c (l.map fun t=>(⟨t.toArray⟩:ByteArray)) ⟨#[]⟩ w (fun j x hj=>by
   rw[List.getElem?_map] at hj;obtain ⟨t,ht,rfl⟩:=Option.map_eq_some_iff.1 hj;have:=h.cells j (txtV t) (by rw[List.getElem?_map,ht];rfl);rw[Addr.add_lit] at this
   exact this) hb (by simpa[hln] using hn) (by simpa[hln] using hc) (by rw[hm];show (Lib.join l []).length≤_;rw[Ktp];exact hl)
  rw[hm,List.length_map,hln] at hk;have e:Lib.join l (⟨#[]⟩:ByteArray).data.toList=l.flatten:=Ktp l;rw[e] at hk;exact hk
theorem Kus (S:ByteArray) (Ao:Option Addr) (pn pc:Nat) (l:List Txt) (w:World) (h:CD B0 w R A d) (hf:Fit d) (hS:S.size≤1073741824) (hB:B0≤w.heap.size) (hF:Fails B0 a w) (hl:Strs w Ao pn l) (hpc:pn≤pc) (hpn:pn≤140737488355328) (htl:l.flatten.length≤140737488355328) (hu:usedL d d.things≤4611686018427387904) (hcap:d.cap≤4611686018427387904) (hnl:∀i,(fAt d i).now.length≤1073741824) (hsl:∀i,(fAt d i).steps.length≤1073741824) :
  Calls Tryz.prog 59 #[.pointer (some ⟨A.p,0,none⟩),.string S,.slice Ao pn pc] w (Kae B0 a R A (Kbp d S.data.toList l.flatten) ⟨#[97,112,112,101,110,100]⟩ S w):=by
 obtain ⟨i0,hi0,hz0,hz1,hz2⟩:=info_parts Qas;have HF:=Jh (Kkg (a:=a) ⟨#[97,112,112,101,110,100]⟩ S w h hf hS hB hF);obtain ⟨r,hr⟩:∃r,fileD d S.data.toList=r:=⟨_,rfl⟩;have HR:=Jh hr;rw[hr] at HF;obtain ⟨p,hp⟩:∃p,A.p=p:=⟨_,rfl⟩;have HP:=Jh hp;have HNL:=Jh hnl;have HSL:=Jh hsl;have HJ:=Jh (fun w1 (hb:Below w.heap.size w w1)=>Qat Ao pn pc l w1 (hl.below hb) hpc hpn htl);obtain ⟨X,hX⟩:∃X:ByteArray,(⟨l.flatten.toArray⟩:ByteArray)=X:=⟨_,rfl⟩;have hXX:l.flatten=X.data.toList:=by rw[←hX]
 have hXs:X.size≤140737488355328:=by rw[←Kas,←hXX];exact htl
 rw[hX] at HJ;rw[hXX] at ⊢;rw[hp] at HF ⊢;clear hr hp hnl hsl hX hXX hl hpc hpn htl;go_enter Tryz.func59,Tryz.ntmps59
 go_wp2_with fail
 refine HF.out.mono ?_;rintro _ w1 ⟨hb1,hm⟩
 cases r with
 | error k=>
  obtain ⟨hk,v,rfl,hv⟩:=hm
  have hfin:Kae B0 a R A (Kbp d S.data.toList X.data.toList) ⟨#[97,112,112,101,110,100]⟩ S w (.returned v) w1:=by
   have e1:Kbp d S.data.toList X.data.toList=(k,d):=by unfold Kbp;rw[HR.out]
   rw[e1];exact Kae.bad h hb1 hv
  have HFIN:=Jh hfin
  cases k with
  | zero=>exact absurd rfl hk
  | succ k=>
   obtain ⟨q,rfl,_⟩:=hv;clear hfin;go_wp2_with fail
   go_ret
   exact HFIN.out
 | ok i=>
  have hm':_=Ending.returned (.tuple #[fptr A.φ i,.nilIface]):=hm;subst hm';obtain ⟨hi,_⟩:=Kou hf HR.out;unfold fptr;obtain ⟨b,hb⟩:∃b,A.φ[i]?.getD 0=b:=⟨_,rfl⟩;have HBB:=Jh hb;rw[hb];clear hb;go_wp2_with fail
  refine (HJ.out w1 hb1).mono ?_;rintro _ w2 ⟨rfl,hb2⟩;have hB2:=then_ hb1 hb2;have hcd2:=h.below hB2;have hF2:=hF.below (hB2.mono hB);have c5:w2.cell? ⟨p,5,none⟩=some (.int .i64 (d.cap:Int)):=by rw[←HP.out];exact Blk.cell hcd2.blk 5
  have HUS:=Jh (fun x:Later w2=>Qfu x.w (hcd2.below x.h) hf hu);rw[HP.out] at HUS;have hpl:p < w2.heap.size:=Kaf c5;obtain ⟨n,hn⟩:∃n,usedD d=n:=⟨_,rfl⟩;obtain ⟨cap,hcp⟩:∃n,d.cap=n:=⟨_,rfl⟩
  have hun:n≤4611686018427387904:=by
   rw[←hn];unfold usedD;split
   ·omega
   ·exact hu
  rw[hn] at HUS;rw[hcp] at c5 hcap;have HN:=Jh hn;have HCP:=Jh hcp;have HCD2:=Jh hcd2;have HF2:=Jh hF2;clear hn hcp hcd2 hF2 hb2 hb1
  have happ:Kbp d S.data.toList X.data.toList=if cap < n+X.size then (7,d) else if (stepD d).1≠0 then stepD d else (0,setF (stepD d).2 i { fAt d i with now:=(fAt d i).now++X.data.toList,steps:=(fAt d i).steps ++ [⟨X.data.toList,false,0⟩] }):=by
   unfold Kbp;rw[HR.out];simp only[];rw[HCP.out,HN.out,Kas]
  have HAPP:=Jh happ;clear happ;go_upto_region 5 with fail
  by_cases hfull:cap < n+X.size
  ·have d1:decide ((cap:Int) - (n:Int) < (X.size:Int))=true:=by simp;omega
   refine Kab (by kernel_rfl) (by kernel_rfl) ?_
   repeat (go_big_quiet_step ((go_at_call 117;exact Kbe _ (HUS.out _))))
   refine wpQuiet_nil ?_;rintro w3 ⟨⟨_,hb3⟩,rfl⟩;have e1:Kbp d S.data.toList X.data.toList=(7,d):=by rw[HAPP.out,if_pos hfull]
   have HE:=Jh e1;have hF3:=HF2.out.below (hb3.mono (by have:=hB2.size;omega));have f7:_=some (failV a 7):=(hF3 7 (by decide)).2;have hfl:=Kbw (a:=a) ⟨#[97,112,112,101,110,100]⟩ S 6 w3;unfold failV at f7 hfl;simp only[failG] at f7;have HFL:=Jh hfl;have HB3:=Jh (then_ hB2 hb3);clear e1 hfl hF3 hb3 c5 hpl;go_wp2_with fail
   refine HFL.out.mono ?_;rintro e w5 ⟨v,rfl,hv5,hb5⟩;have HFIN:=Jh (show Kae B0 a R A (Kbp d S.data.toList X.data.toList) ⟨#[97,112,112,101,110,100]⟩ S w (.returned v) w5 by rw[HE.out];exact Kae.bad h (then_ HB3.out hb5) hv5);clear hv5;go_wp2_with fail
   go_ret
   exact HFIN.out
  ·have d1:decide ((cap:Int) - (n:Int) < (X.size:Int))=false:=by simp;omega
   refine Kab (by kernel_rfl) (by kernel_rfl) ?_
   repeat (go_big_quiet_step ((go_at_call 117;exact Kbe _ (HUS.out _))))
   refine wpQuiet_nil ?_;rintro w3 ⟨⟨_,hb3⟩,rfl⟩;have hB3:=then_ hB2 hb3;have hcd3:=h.below hB3;have hF3:=hF.below (hB3.mono hB);have HST:=Jh (Kht (a:=a) ⟨#[97,112,112,101,110,100]⟩ S w3 hcd3 hf.aw (by have:=hB3.size;omega) hF3);rw[HP.out] at HST;have HSS:=Jh (Khs d);obtain ⟨k,dd,hk⟩:∃k d1,stepD d=(k,d1):=⟨_,_,rfl⟩;have HK:=Jh hk;have happ:=HAPP.out;rw[if_neg hfull] at happ;have HAP2:=Jh happ;clear hk hcd3 hF3 happ c5 hpl hb3 hfull d1;go_wp2_with fail
   refine HST.out.mono ?_;rintro _ w4 ⟨v,rfl,hv4,hcd4,hO4,_⟩;rw[HK.out] at hv4 hcd4
   cases k with
   | succ k=>
    have hfin:Kae B0 a R A (Kbp d S.data.toList X.data.toList) ⟨#[97,112,112,101,110,100]⟩ S w (.returned v) w4:=by
     rw[HAP2.out,HK.out];exact ⟨v,R,A,rfl,hv4,hcd4,(Own.of_below hB3).trans hO4,rfl,rfl⟩
    have HFIN:=Jh hfin;obtain ⟨q,rfl,_⟩:=hv4;clear hfin hcd4 hO4;go_wp2_with fail
    go_ret
    exact HFIN.out
   | zero=>
    obtain rfl:v = .nilIface:=hv4;have hss:=HSS.out;rw[HK.out] at hss;have hi1:i < dd.files.length:=by rw[hss.2.2.2];exact hi
    obtain ⟨u,hblk,hrb,hrow⟩:=Khz hcd4 hi1;have efa:fAt dd i=fAt d i:=by unfold fAt;rw[hss.2.2.2]
    rw[HBB.out] at hblk hrb;obtain ⟨T,hT⟩:∃T:ByteArray,(⟨(fAt d i).now.toArray⟩:ByteArray)=T:=⟨_,rfl⟩;have hTT:T.data.toList=(fAt d i).now:=by rw[←hT]
    have hTz:T.size≤1073741824:=by rw[←Kas,hTT];exact HNL.out i
    have hTv:txtV (fAt dd i).now = .string T:=by rw[efa];unfold txtV;rw[hT]
    obtain ⟨l0,hl⟩:∃l,(fAt dd i).steps.length=l:=⟨_,rfl⟩;have hrow':=hrow.1;rw[hl] at hrow';have hll:l0≤1073741824:=by rw[←hl,efa];exact HSL.out i
    obtain ⟨A4,c4,hu4⟩:∃A4 c4,u = .slice A4 l0 c4:=by
     rcases hrow'.2 with ⟨rfl,h0⟩ | ⟨g,cap,cur,rfl,_⟩
     ·exact ⟨none,0,by rw[h0]⟩
     ·exact ⟨_,cap,rfl⟩
    subst hu4;have c0':w4.cell? ⟨b,0,none⟩=some (.string T):=by rw[←hTv];exact hblk.cell 0
    have c2':w4.cell? ⟨b,2,none⟩=some (.slice A4 l0 c4):=hblk.cell 2;have g0:=hblk.frozen 0;have hNv:txtV ((fAt d i).now++X.data.toList) = .string (T++X):=by unfold txtV;rw[←hTT];exact congrArg _ (Kcs (by simp)).symm
    have HNV:=Jh hNv;have HBLK:=Jh hblk;have HCD4:=Jh hcd4;have HO4:=Jh hO4;have HROW:=Jh hrow.2;have HL:=Jh hl;have HEF:=Jh efa;have hbl2:=hblk.lt;clear hcd4 hO4 hTv hNv hblk hss hl efa hrow hT hTT;go_upto_region 11 with fail
    have hrow2:(w4.setCell ⟨b,0,none⟩ (.string (T++X))).ownsRow 0 213 2 (.slice A4 l0 c4) l0 ((fAt dd i).steps.flatMap encC):=ownsRow_setCell_other hrow' (a:=⟨b,0,none⟩) (fun e=>by have:=HROW.out b e;omega) _;have c2'':(w4.setCell ⟨b,0,none⟩ (.string (T++X))).cell? ⟨b,2,none⟩=some (.slice A4 l0 c4):=(HBLK.out.set_ 0 _).cell 2;have hblk5:=HBLK.out.set_ 0 (.string (T++X));obtain ⟨w5,hw5⟩:∃x,w4.setCell ⟨b,0,none⟩ (.string (T++X))=x:=⟨_,rfl⟩;have HW5:=Jh hw5;rw[hw5] at hrow2 c2'' hblk5 ⊢;clear hw5 c0' c2' g0 hrow';go_wp2_with (at_builtin;refine wpList_append_own_at _ rfl _ _ 135 rfl 0 213 i0 (.agg #[.string ⟨#[]⟩,.int .i64 0]) 2 24 Tryz.underlying135 hi0 hz0 hz1 hz2 rfl (by decide) _ _ _ rfl (hrow2.alloc _) ⟨w5.heap.size,0,none⟩ 1 1 [.string X,.int .i64 (-1)] rfl rfl ?p1 ?p2 ?p3 ?p4 ?p5 ?_)
    case p1=>exact Kav (l:=[.string X,.int .i64 (-1)]) (Blk.new w5 _ _)
    case p2=>intro u hu;simp at hu;rcases hu with rfl | rfl <;> rfl
    case p3=>unfold maxLen;omega
    case p4=>omega
    case p5=>exact Nat.zero_le _
    intro v' w6 hown' hgrow _ hat;have hall:w5.grownBy w6 (Value.slice A4 l0 c4).ownBlock:=(World.grownBy_alloc w5 _ _).trans hgrow;have hsz5:w5.heap.size=w4.heap.size:=by rw[←HW5.out];simp[World.setCell]
    obtain ⟨A6,c6,rfl⟩:∃A6 c6,v' = .slice A6 (l0+1) c6:=by
     rcases hown'.2 with ⟨rfl,h0⟩ | ⟨g,cap,cur,rfl,_⟩
     ·omega
     ·exact ⟨_,cap,rfl⟩
    have hat':(Value.slice A6 (l0+1) c6).ownBlock=(Value.slice A4 l0 c4).ownBlock∨∃g,(Value.slice A6 (l0+1) c6).ownBlock=some g∧w4.heap.size≤g:=by
     rcases hat with h1 | h1
     ·exact .inl h1
     ·exact .inr ⟨_,h1,by omega⟩
    have hencX:encC ⟨X.data.toList,false,0⟩ = [.string X,.int .i64 (-1)]:=by
     have:txtV X.data.toList = .string X:=by unfold txtV;rw[←Kcs rfl]
     unfold encC;rw[this];rfl
    have hmore:=CD.file_step HCD4.out hi1 HBB.out (u:=.slice A4 l0 c4) (v':=.slice A6 (l0+1) c6) (N:=(fAt d i).now++X.data.toList) (c:=⟨X.data.toList,false,0⟩) (w3:=w6) HBLK.out hrb HROW.out (by rw[HNV.out,HW5.out];exact hall) (by rw[HL.out,hencX];exact hown') hat' (by have:=hB3.size;have:=HO4.out.size;omega);obtain ⟨hc7,ho7⟩:=hmore
    have hbu:some b≠(Value.slice A4 l0 c4).ownBlock:=by
     intro e;have:=HROW.out b e.symm;omega
    have hblk6:=hblk5.grown hall hbu;have k2:w6.cell? ⟨b,2,none⟩=some (.slice A4 l0 c4):=hblk6.cell 2;have g2:=hblk6.frozen 2
    have hfin:Kae B0 a R A (Kbp d S.data.toList X.data.toList) ⟨#[97,112,112,101,110,100]⟩ S w (.returned .nilIface) (w6.setCell ⟨b,2,none⟩ (.slice A6 (l0+1) c6)):=by
     rw[HAP2.out,HK.out];rw[HEF.out] at hc7;exact ⟨.nilIface,_,A,rfl,rfl,hc7,((Own.of_below hB3).trans HO4.out).trans ho7,rfl,rfl⟩
    have HFIN:=Jh hfin;clear hfin hc7 ho7 hat hat' hall hgrow hown' hblk6 hblk5 hrow2 c2'' hsz5;go_wp2_with fail
    go_ret
    exact HFIN.out
end
section
variable {B0 : Nat} {a : Nat → Addr} {R : Nat → Nat} {A : Adr} {d : Ds} {w w' : World}
structure RS (w:World) (q:Nat) (S S2:ByteArray) (W:World):Prop where
 below:Below w.heap.size w W
 one:Blk W q 9 #[.string S]
 two:Blk W (q+1) 9 #[.string S2]
theorem RS.later {q:Nat} {S S2:ByteArray} {W W':World} (h:RS w q S S2 W) (hb:Below W.heap.size W W'):RS w q S S2 W':=⟨then_ h.below hb,h.one.below hb h.one.lt,h.two.below hb h.two.lt⟩
theorem Kyo (S S2:ByteArray) (w:World) (h:CD B0 w R A d) (hf:Fit d) (hS:S.size≤1073741824) (hS2:S2.size≤1073741824) (hB:B0≤w.heap.size) (hF:Fails B0 a w) :
  Calls Tryz.prog 63 #[.pointer (some ⟨A.p,0,none⟩),.string S,.string S2] w (Kae B0 a R A (Kal d S.data.toList S2.data.toList) ⟨#[114,101,110,97,109,101]⟩ S w):=by
 obtain ⟨r1,hr1⟩:∃r,pathB S.data.toList=r:=⟨_,rfl⟩;obtain ⟨r2,hr2⟩:∃r,pathB S2.data.toList=r:=⟨_,rfl⟩;have HN1:=Jh (fun w=>Kfv S r1 hr1 hS w);have HN2:=Jh (fun w=>Kfv S2 r2 hr2 hS2 w);have HR1:=Jh hr1;have HR2:=Jh hr2;obtain ⟨p,hp⟩:∃p,A.p=p:=⟨_,rfl⟩;have HP:=Jh hp;rw[hp];clear hr1 hr2 hp;go_enter Tryz.func63,Tryz.ntmps63
 go_upto_region 1 with fail
 obtain ⟨W,hw1⟩:∃x,(w.alloc (.cells #[.string S] 9)).alloc (.cells #[.string S2] 9)=x:=⟨_,rfl⟩;have hb1:Below w.heap.size w W:=by rw[←hw1];exact ((Below.refl _ _).alloc (Nat.le_refl _) _).alloc (by simp) _
 have hk1:Blk W w.heap.size 9 #[.string S]:=by rw[←hw1];exact (Blk.new _ _ _).alloc _
 have hk2:Blk W (w.heap.size+1) 9 #[.string S2]:=by rw[←hw1];exact Blk.newAt (by simp)
 rw[hw1];obtain ⟨q,hqq⟩:∃q,w.heap.size=q:=⟨_,rfl⟩;rw[hqq] at hk1 hk2 ⊢;have HQ:=Jh hqq;have HRS:=Jh (show RS w q S S2 W from ⟨hb1,hk1,hk2⟩);clear hw1 hqq hb1 hk1 hk2
 cases r1 with
 | false=>
  have hrs:=HRS.out;have hcd:=h.below hrs.below;have hF3:=hF.below (hrs.below.mono hB);have c0:W.cell? ⟨p,0,none⟩=some (.map (some A.md)):=by rw[←HP.out];exact Blk.cell hcd.blk 0
  have c1:W.cell? ⟨p,1,none⟩=some (.map (some A.mf)):=by rw[←HP.out];exact Blk.cell hcd.blk 1
  have q0:W.cell? ⟨q,0,none⟩=some (.string S):=hrs.one.cell 0;have q1:W.cell? ⟨q+1,0,none⟩=some (.string S2):=hrs.two.cell 0;have hql:=hrs.one.lt;have hql2:=hrs.two.lt;have hpl:p < W.heap.size:=Kaf c0;refine Kag 8 (by kernel_rfl) (by kernel_rfl) ?_;simp only[List.take_succ_cons,List.take_zero,List.drop_succ_cons,List.drop_zero]
  repeat (go_big_quiet_step ((go_at_call 109;exact Kbe _ (HN1.out _))))
  refine wpQuiet_nil ?_;rintro W ⟨⟨_,hb2⟩,rfl⟩;have hrs2:=HRS.out.later hb2;clear hrs hcd hF3 c0 c1 q0 q1 hql hql2 hpl hb2 HRS;have HRS:=Jh hrs2;clear hrs2;have hrs:=HRS.out;have hcd:=h.below hrs.below;have hoff:W.cell? ⟨p,6,none⟩=some (.bool d.off):=by rw[←HP.out];exact Blk.cell hcd.blk 6
  obtain ⟨k,hk⟩:∃k,Kcc d.off false=k:=⟨_,rfl⟩;have HK:=Jh hk;have HRD:=Jh (Kea (B0:=B0) (a:=a) p d.off false ⟨#[114,101,110,97,109,101]⟩ S k hk W hoff (hF.below (hrs.below.mono hB)));clear hk hcd hoff;go_wp2_with fail
  refine HRD.out.mono ?_;rintro _ W4 ⟨v,rfl,hv3,hb4⟩
  cases k with
  | succ k=>
   have hfin:Kae B0 a R A (Kal d S.data.toList S2.data.toList) ⟨#[114,101,110,97,109,101]⟩ S w (.returned v) W4:=by
    have e1:Kal d S.data.toList S2.data.toList=(k+1,d):=by
     have hk:=HK.out;unfold Kcc at hk;unfold Kal;rw[←hk,HR1.out,HR2.out]
     cases ho:d.off with
     | true=>simp
     | false=>
      rw[ho] at hk
      first
       | (simp;done)
       | (cases r2 with
         | true=>simp at hk
         | false=>simp)
    rw[e1];exact Kae.bad h (then_ hrs.below hb4) hv3
   obtain ⟨q4,rfl,_⟩:=hv3;have HFIN:=Jh hfin;clear hfin hb4 hrs;go_wp2_with fail
   go_ret
   exact HFIN.out
  | zero=>
   have hk:=HK.out;unfold Kcc at hk;cases ho:d.off <;> rw[ho] at hk <;> simp at hk
 | true=>
  have hrs:=HRS.out;have hcd:=h.below hrs.below;have hF3:=hF.below (hrs.below.mono hB);have c0:W.cell? ⟨p,0,none⟩=some (.map (some A.md)):=by rw[←HP.out];exact Blk.cell hcd.blk 0
  have c1:W.cell? ⟨p,1,none⟩=some (.map (some A.mf)):=by rw[←HP.out];exact Blk.cell hcd.blk 1
  have q0:W.cell? ⟨q,0,none⟩=some (.string S):=hrs.one.cell 0;have q1:W.cell? ⟨q+1,0,none⟩=some (.string S2):=hrs.two.cell 0;have hql:=hrs.one.lt;have hql2:=hrs.two.lt;have hpl:p < W.heap.size:=Kaf c0;refine Kag 8 (by kernel_rfl) (by kernel_rfl) ?_;simp only[List.take_succ_cons,List.take_zero,List.drop_succ_cons,List.drop_zero]
  repeat (go_big_quiet_step ((go_at_call 109;first | with_reducible exact Kbe _ (HN1.out _) | with_reducible exact Kbe _ (HN2.out _))))
  refine wpQuiet_nil ?_;rintro W ⟨⟨_,hb2⟩,rfl⟩;have hrs2:=HRS.out.later hb2;clear hrs hcd hF3 c0 c1 q0 q1 hql hql2 hpl hb2 HRS;have HRS:=Jh hrs2;clear hrs2;have hrs:=HRS.out;have hcd:=h.below hrs.below;have hoff:W.cell? ⟨p,6,none⟩=some (.bool d.off):=by rw[←HP.out];exact Blk.cell hcd.blk 6
  obtain ⟨k,hk⟩:∃k,Kcc d.off r2=k:=⟨_,rfl⟩;have HK:=Jh hk;have HRD:=Jh (Kea (B0:=B0) (a:=a) p d.off r2 ⟨#[114,101,110,97,109,101]⟩ S k hk W hoff (hF.below (hrs.below.mono hB)));clear hk hcd hoff;go_wp2_with fail
  refine HRD.out.mono ?_;rintro _ W4 ⟨v,rfl,hv3,hb4⟩
  cases k with
  | succ k=>
   have hfin:Kae B0 a R A (Kal d S.data.toList S2.data.toList) ⟨#[114,101,110,97,109,101]⟩ S w (.returned v) W4:=by
    have e1:Kal d S.data.toList S2.data.toList=(k+1,d):=by
     have hk:=HK.out;unfold Kcc at hk;unfold Kal;rw[←hk,HR1.out,HR2.out]
     cases ho:d.off with
     | true=>simp
     | false=>
      rw[ho] at hk
      first
       | (simp;done)
       | (cases r2 with
         | true=>simp at hk
         | false=>simp)
    rw[e1];exact Kae.bad h (then_ hrs.below hb4) hv3
   obtain ⟨q4,rfl,_⟩:=hv3;have HFIN:=Jh hfin;clear hfin hb4 hrs;go_wp2_with fail
   go_ret
   exact HFIN.out
  | zero=>
   obtain rfl:v = .nilIface:=hv3
   obtain ⟨ho,hn⟩:d.off=false∧r2=true:=by
    have hk:=HK.out;unfold Kcc at hk
    cases ho:d.off with
    | true=>rw[ho] at hk;simp at hk
    | false=>
     rw[ho] at hk
     cases r2 with
     | true=>exact ⟨rfl,rfl⟩
     | false=>simp at hk
   have e1:Kal d S.data.toList S2.data.toList=if isT d.things S.data.toList=2∧nameB S2.data.toList=false then (2,d) else if isT d.things S.data.toList=0∨Kdd d.things S2.data.toList=false then (4,d) else if isT d.things S2.data.toList=2∨(isT d.things S2.data.toList=1∧(isT d.things S.data.toList=2∨S.data.toList=S2.data.toList)) then (5,d) else Kbb d (.rename S.data.toList S2.data.toList):=by
    unfold Kal;rw[ho,HR1.out,HR2.out,hn];simp
   have HE1:=Jh e1;obtain rfl:r2=true:=hn;have hrs4:=hrs.later hb4;clear ho e1 HK hrs hb4 HRS HRD;have HRS:=Jh hrs4;clear hrs4 W
   revert W4
   intro W HRS;obtain ⟨rp,hrp⟩:∃r,Kdd d.things S2.data.toList=r:=⟨_,rfl⟩;have HRP:=Jh hrp;rcases Kei d.things S.data.toList with ka | ka | ka
   ·have hrs:=HRS.out;have hcd:=h.below hrs.below;have hF3:=hF.below (hrs.below.mono hB);have c0:W.cell? ⟨p,0,none⟩=some (.map (some A.md)):=by rw[←HP.out];exact Blk.cell hcd.blk 0
    have c1:W.cell? ⟨p,1,none⟩=some (.map (some A.mf)):=by rw[←HP.out];exact Blk.cell hcd.blk 1
    have q0:W.cell? ⟨q,0,none⟩=some (.string S):=hrs.one.cell 0;have q1:W.cell? ⟨q+1,0,none⟩=some (.string S2):=hrs.two.cell 0;have hql:=hrs.one.lt;have hql2:=hrs.two.lt;have hpl:p < W.heap.size:=Kaf c0;have hlk:=Kcf hcd hf S hS 0 (by rw[ka];rfl);go_upto_region 4 with fail
    refine Kab (by kernel_rfl) (by kernel_rfl) ?_
    repeat (go_big_quiet_step (fail))
    clear hlk;refine wpQuiet_nil ?_;rintro W ⟨⟨_,hb2⟩,rfl⟩;have hrs2:=HRS.out.later hb2;clear hrs hcd hF3 c0 c1 q0 q1 hql hql2 hpl hb2 HRS;have HRS:=Jh hrs2;clear hrs2;have hrs:=HRS.out;have hcd:=h.below hrs.below;have hF3:=hF.below (hrs.below.mono hB);have c0:W.cell? ⟨p,0,none⟩=some (.map (some A.md)):=by rw[←HP.out];exact Blk.cell hcd.blk 0
    have c1:W.cell? ⟨p,1,none⟩=some (.map (some A.mf)):=by rw[←HP.out];exact Blk.cell hcd.blk 1
    have q0:W.cell? ⟨q,0,none⟩=some (.string S):=hrs.one.cell 0;have q1:W.cell? ⟨q+1,0,none⟩=some (.string S2):=hrs.two.cell 0;have hql:=hrs.one.lt;have hql2:=hrs.two.lt;have hpl:p < W.heap.size:=Kaf c0;obtain ⟨P,hP,hlf⟩:=Kek hcd hf S hS;obtain rfl:P=none:=hP.2 (by rw[ka];omega);go_upto_region 7 with fail
    refine Kab (by kernel_rfl) (by kernel_rfl) ?_
    repeat (go_big_quiet_step (fail))
    clear hlf hP;refine wpQuiet_nil ?_;rintro W ⟨⟨_,hb2⟩,rfl⟩;have hrs2:=HRS.out.later hb2;clear hrs hcd hF3 c0 c1 q0 q1 hql hql2 hpl hb2 HRS;have HRS:=Jh hrs2;clear hrs2;have hrs:=HRS.out;have hF3:=hF.below (hrs.below.mono hB);have f0:_=some (failV a 4):=(hF3 4 (by decide)).2;have hfl:=Kbw (a:=a) ⟨#[114,101,110,97,109,101]⟩ S 3 W;unfold failV at f0 hfl;simp only[failG] at f0;have HFL:=Jh hfl;have e2:Kal d S.data.toList S2.data.toList=(4,d):=by (rw[HE1.out];(rw[if_neg (by rw[ka];simp),if_pos (.inl ka)]))
    have HE2:=Jh e2;have q0:W.cell? ⟨q,0,none⟩=some (.string S):=hrs.one.cell 0;clear hfl hF3 e2 hrs;go_wp2_with fail
    refine HFL.out.mono ?_;rintro e w5 ⟨v,rfl,hv5,hb5⟩
    have hfin:Kae B0 a R A (Kal d S.data.toList S2.data.toList) ⟨#[114,101,110,97,109,101]⟩ S w (.returned v) w5:=by
     rw[HE2.out];exact Kae.bad h (then_ HRS.out.below hb5) hv5
    have HFIN:=Jh hfin;clear hfin hv5;go_wp2_with fail
    go_ret
    exact HFIN.out
   ·have hrs:=HRS.out;have hcd:=h.below hrs.below;have hF3:=hF.below (hrs.below.mono hB);have c0:W.cell? ⟨p,0,none⟩=some (.map (some A.md)):=by rw[←HP.out];exact Blk.cell hcd.blk 0
    have c1:W.cell? ⟨p,1,none⟩=some (.map (some A.mf)):=by rw[←HP.out];exact Blk.cell hcd.blk 1
    have q0:W.cell? ⟨q,0,none⟩=some (.string S):=hrs.one.cell 0;have q1:W.cell? ⟨q+1,0,none⟩=some (.string S2):=hrs.two.cell 0;have hql:=hrs.one.lt;have hql2:=hrs.two.lt;have hpl:p < W.heap.size:=Kaf c0;have hlk:=Kcf hcd hf S hS 0 (by rw[ka];rfl);go_upto_region 4 with fail
    refine Kab (by kernel_rfl) (by kernel_rfl) ?_
    repeat (go_big_quiet_step (fail))
    clear hlk;refine wpQuiet_nil ?_;rintro W ⟨⟨_,hb2⟩,rfl⟩;have hrs2:=HRS.out.later hb2;clear hrs hcd hF3 c0 c1 q0 q1 hql hql2 hpl hb2 HRS;have HRS:=Jh hrs2;clear hrs2;have hrs:=HRS.out;have hcd:=h.below hrs.below;have hF3:=hF.below (hrs.below.mono hB);have c0:W.cell? ⟨p,0,none⟩=some (.map (some A.md)):=by rw[←HP.out];exact Blk.cell hcd.blk 0
    have c1:W.cell? ⟨p,1,none⟩=some (.map (some A.mf)):=by rw[←HP.out];exact Blk.cell hcd.blk 1
    have q0:W.cell? ⟨q,0,none⟩=some (.string S):=hrs.one.cell 0;have q1:W.cell? ⟨q+1,0,none⟩=some (.string S2):=hrs.two.cell 0;have hql:=hrs.one.lt;have hql2:=hrs.two.lt;have hpl:p < W.heap.size:=Kaf c0;obtain ⟨P,hP,hlf⟩:=Kek hcd hf S hS
    obtain ⟨P',rfl⟩:∃P',P=some P':=by
     cases P with
     | none=>exact absurd ka (hP.1 rfl)
     | some P'=>exact ⟨P',rfl⟩
    go_upto_region 7 with fail
    refine Kab (by kernel_rfl) (by kernel_rfl) ?_
    repeat (go_big_quiet_step (fail))
    clear hlf hP;refine wpQuiet_nil ?_;rintro W ⟨⟨_,hb2⟩,rfl⟩;have hrs2:=HRS.out.later hb2;clear hrs hcd hF3 c0 c1 q0 q1 hql hql2 hpl hb2 HRS;have HRS:=Jh hrs2;clear hrs2;have hrs:=HRS.out;have hcd:=h.below hrs.below;have hF3:=hF.below (hrs.below.mono hB);have c0:W.cell? ⟨p,0,none⟩=some (.map (some A.md)):=by rw[←HP.out];exact Blk.cell hcd.blk 0
    have c1:W.cell? ⟨p,1,none⟩=some (.map (some A.mf)):=by rw[←HP.out];exact Blk.cell hcd.blk 1
    have q0:W.cell? ⟨q,0,none⟩=some (.string S):=hrs.one.cell 0;have q1:W.cell? ⟨q+1,0,none⟩=some (.string S2):=hrs.two.cell 0;have hql:=hrs.one.lt;have hql2:=hrs.two.lt;have hpl:p < W.heap.size:=Kaf c0;have HPAR:=Jh (fun x:Later W=>Khj A.md A.mf S2 rp hrp x.w (hcd.dirs.1.below x.h hcd.dirs.1.lt) hf.tw hS2);go_upto_region 8 with fail
    refine Kab (by kernel_rfl) (by kernel_rfl) ?_
    repeat (go_big_quiet_step ((go_at_call 114;exact Kbe _ (HPAR.out _))))
    clear HPAR;refine wpQuiet_nil ?_;rintro W ⟨⟨_,hb2⟩,rfl⟩;have hrs2:=HRS.out.later hb2;clear hrs hcd hF3 c0 c1 q0 q1 hql hql2 hpl hb2 HRS;have HRS:=Jh hrs2;clear hrs2
    cases rp with
    | false=>
     have hrs:=HRS.out;have hF3:=hF.below (hrs.below.mono hB);have f0:_=some (failV a 4):=(hF3 4 (by decide)).2;have hfl:=Kbw (a:=a) ⟨#[114,101,110,97,109,101]⟩ S 3 W;unfold failV at f0 hfl;simp only[failG] at f0;have HFL:=Jh hfl;have e2:Kal d S.data.toList S2.data.toList=(4,d):=by (rw[HE1.out];(rw[if_neg (by rw[ka];simp),if_pos (.inr HRP.out)]))
     have HE2:=Jh e2;have q0:W.cell? ⟨q,0,none⟩=some (.string S):=hrs.one.cell 0;clear hfl hF3 e2 hrs;go_wp2_with fail
     refine HFL.out.mono ?_;rintro e w5 ⟨v,rfl,hv5,hb5⟩
     have hfin:Kae B0 a R A (Kal d S.data.toList S2.data.toList) ⟨#[114,101,110,97,109,101]⟩ S w (.returned v) w5:=by
      rw[HE2.out];exact Kae.bad h (then_ HRS.out.below hb5) hv5
     have HFIN:=Jh hfin;clear hfin hv5;go_wp2_with fail
     go_ret
     exact HFIN.out
    | true=>
     rcases Kei d.things S2.data.toList with kb | kb | kb
     ·have hrs:=HRS.out;have hcd:=h.below hrs.below;have hF3:=hF.below (hrs.below.mono hB);have c0:W.cell? ⟨p,0,none⟩=some (.map (some A.md)):=by rw[←HP.out];exact Blk.cell hcd.blk 0
      have c1:W.cell? ⟨p,1,none⟩=some (.map (some A.mf)):=by rw[←HP.out];exact Blk.cell hcd.blk 1
      have q0:W.cell? ⟨q,0,none⟩=some (.string S):=hrs.one.cell 0;have q1:W.cell? ⟨q+1,0,none⟩=some (.string S2):=hrs.two.cell 0;have hql:=hrs.one.lt;have hql2:=hrs.two.lt;have hpl:p < W.heap.size:=Kaf c0;have hlk:=Kcf hcd hf S2 hS2 0 (by rw[kb];rfl);go_upto_region 10 with fail
      refine Kab (by kernel_rfl) (by kernel_rfl) ?_
      repeat (go_big_quiet_step (fail))
      clear hlk;refine wpQuiet_nil ?_;rintro W ⟨⟨_,hb2⟩,rfl⟩;have hrs2:=HRS.out.later hb2;clear hrs hcd hF3 c0 c1 q0 q1 hql hql2 hpl hb2 HRS;have HRS:=Jh hrs2;clear hrs2;have hrs:=HRS.out;have hcd:=h.below hrs.below;have hF3:=hF.below (hrs.below.mono hB);have c0:W.cell? ⟨p,0,none⟩=some (.map (some A.md)):=by rw[←HP.out];exact Blk.cell hcd.blk 0
      have c1:W.cell? ⟨p,1,none⟩=some (.map (some A.mf)):=by rw[←HP.out];exact Blk.cell hcd.blk 1
      have q0:W.cell? ⟨q,0,none⟩=some (.string S):=hrs.one.cell 0;have q1:W.cell? ⟨q+1,0,none⟩=some (.string S2):=hrs.two.cell 0;have hql:=hrs.one.lt;have hql2:=hrs.two.lt;have hpl:p < W.heap.size:=Kaf c0;obtain ⟨P,hP,hlf⟩:=Kek hcd hf S2 hS2;obtain rfl:P=none:=hP.2 (by rw[kb];omega);go_upto_region 11 with fail
      refine Kab (by kernel_rfl) (by kernel_rfl) ?_
      repeat (go_big_quiet_step (fail))
      clear hlf hP;refine wpQuiet_nil ?_;rintro W ⟨⟨_,hb2⟩,rfl⟩;have hrs2:=HRS.out.later hb2;clear hrs hcd hF3 c0 c1 q0 q1 hql hql2 hpl hb2 HRS;have HRS:=Jh hrs2;clear hrs2;have HE5:=Jh (show Kal d S.data.toList S2.data.toList=Kbb d (.rename S.data.toList S2.data.toList) by rw[HE1.out,if_neg (by rw[ka];simp),if_neg (by rw[ka,HRP.out];simp),if_neg (by rw[kb];simp)]);have hrs:=HRS.out;have hF3:=hF.below (hrs.below.mono hB);have hcd:=h.below hrs.below;have hqW:=HQ.out;have hRq:R q=0:=h.inw.new (by omega);have hRq1:R (q+1)=0:=h.inw.new (by omega);have hcd7:CD B0 W (giv R q 5) A d:=hcd.grant hrs.one.lt hRq (by omega) 5;have hcd8:CD B0 W (giv (giv R q 5) (q+1) 5) A d:=hcd7.grant hrs.two.lt (by rw[Kax (by omega)];exact hRq1) (by omega) 5
      have hST:StepM W (giv (giv R q 5) (q+1) 5) A.φ (.rename S.data.toList S2.data.toList) (.func (.func 119) #[] #[.pointer (some ⟨q,0,none⟩),.pointer (some ⟨q+1,0,none⟩)]):=by
       have e:txtV S.data.toList = .string S:=by unfold txtV;rw[←Kcs rfl]
       have e2:txtV S2.data.toList = .string S2:=by unfold txtV;rw[←Kcs rfl]
       refine ⟨q,q+1,rfl,?_,?_⟩
       ·rw[Box,e];exact ⟨hrs.one,by rw[Kax (by omega)];exact Kck _ _ _⟩
       ·rw[Box,e2];exact ⟨hrs.two,Kck _ _ _⟩
      have hok:StOk d.files.length d.things (.rename S.data.toList S2.data.toList):=by (exact ⟨HR1.out,HR2.out,by rw[ka];omega,HRP.out,by rw[kb];omega,fun e=>(by rw[ka] at e;cases e),fun e=>by rw[e] at ka;rw[ka] at kb;cases kb⟩)
      have hnm:=Kes (a:=a) ⟨#[114,101,110,97,109,101]⟩ S (.rename S.data.toList S2.data.toList) _ _ W hcd8 hST hf.tw hok (by have:=hf.tl;omega) (by have:=hf.sl;omega) hf.aw (by have:=hrs.below.size;omega) hF3;rw[HP.out] at hnm
      have hOw:Own R (giv (giv R q 5) (q+1) 5) w W:=by
       have o1:Own R R w W:=Own.of_below hrs.below;exact ⟨o1.os,o1.tape,o1.output,o1.size,o1.block,fun k hk=>by rw[Kax (by omega),Kax (by omega)]⟩
      have HOW:=Jh hOw;have HNM2:=Jh hnm;have q0:W.cell? ⟨q,0,none⟩=some (.string S):=hrs.one.cell 0;clear hnm hST hcd hcd7 hcd8 hF3 hOw hok hrs hqW;go_wp2_with fail
      refine HNM2.out.mono ?_;rintro e w7 hN;obtain ⟨v,R',A',rfl,k2,k3,k4,k5,k6⟩:=hN
      have hfin:Kae B0 a R A (Kal d S.data.toList S2.data.toList) ⟨#[114,101,110,97,109,101]⟩ S w (.returned v) w7:=by
       rw[HE5.out];exact ⟨v,R',A',rfl,k2,k3,HOW.out.trans k4,k5,k6⟩
      have HFIN:=Jh hfin;clear hfin k2 k3 k4 k5;go_wp2_with fail
      go_ret
      exact HFIN.out
     ·have hrs:=HRS.out;have hcd:=h.below hrs.below;have hF3:=hF.below (hrs.below.mono hB);have c0:W.cell? ⟨p,0,none⟩=some (.map (some A.md)):=by rw[←HP.out];exact Blk.cell hcd.blk 0
      have c1:W.cell? ⟨p,1,none⟩=some (.map (some A.mf)):=by rw[←HP.out];exact Blk.cell hcd.blk 1
      have q0:W.cell? ⟨q,0,none⟩=some (.string S):=hrs.one.cell 0;have q1:W.cell? ⟨q+1,0,none⟩=some (.string S2):=hrs.two.cell 0;have hql:=hrs.one.lt;have hql2:=hrs.two.lt;have hpl:p < W.heap.size:=Kaf c0;have hlk:=Kcf hcd hf S2 hS2 0 (by rw[kb];rfl);go_upto_region 10 with fail
      refine Kab (by kernel_rfl) (by kernel_rfl) ?_
      repeat (go_big_quiet_step (fail))
      clear hlk;refine wpQuiet_nil ?_;rintro W ⟨⟨_,hb2⟩,rfl⟩;have hrs2:=HRS.out.later hb2;clear hrs hcd hF3 c0 c1 q0 q1 hql hql2 hpl hb2 HRS;have HRS:=Jh hrs2;clear hrs2
      by_cases hSS:S=S2
      ·have hs2:decide (S=S2)=true:=by simpa using hSS
       have hs3:(S.toList == S2.toList)=true:=by rw[hSS];simp
       have hs4:(S == S2)=true:=by rw[hSS,beq_toListBytes];simp
       have hs5:decide (S.toList=S2.toList)=true:=by rw[hSS];simp
       have HSS:=Jh hSS;clear hSS;have hrs:=HRS.out;have hcd:=h.below hrs.below;have hF3:=hF.below (hrs.below.mono hB);have c0:W.cell? ⟨p,0,none⟩=some (.map (some A.md)):=by rw[←HP.out];exact Blk.cell hcd.blk 0
       have c1:W.cell? ⟨p,1,none⟩=some (.map (some A.mf)):=by rw[←HP.out];exact Blk.cell hcd.blk 1
       have q0:W.cell? ⟨q,0,none⟩=some (.string S):=hrs.one.cell 0;have q1:W.cell? ⟨q+1,0,none⟩=some (.string S2):=hrs.two.cell 0;have hql:=hrs.one.lt;have hql2:=hrs.two.lt;have hpl:p < W.heap.size:=Kaf c0;obtain ⟨P,hP,hlf⟩:=Kek hcd hf S2 hS2
       obtain ⟨P',rfl⟩:∃P',P=some P':=by
        cases P with
        | none=>exact absurd kb (hP.1 rfl)
        | some P'=>exact ⟨P',rfl⟩
       go_upto_region 11 with fail
       refine Kab (by kernel_rfl) (by kernel_rfl) ?_
       repeat (go_big_quiet_step (fail))
       clear hlf hP;refine wpQuiet_nil ?_;rintro W ⟨⟨_,hb2⟩,rfl⟩;have hrs2:=HRS.out.later hb2;clear hrs hcd hF3 c0 c1 q0 q1 hql hql2 hpl hb2 HRS;have HRS:=Jh hrs2;clear hrs2;have hrs:=HRS.out;have hF3:=hF.below (hrs.below.mono hB);have f0:_=some (failV a 5):=(hF3 5 (by decide)).2;have hfl:=Kbw (a:=a) ⟨#[114,101,110,97,109,101]⟩ S 4 W;unfold failV at f0 hfl;simp only[failG] at f0;have HFL:=Jh hfl;have e2:Kal d S.data.toList S2.data.toList=(5,d):=by (rw[HE1.out];(rw[if_neg (by rw[ka];simp),if_neg (by rw[ka,HRP.out];simp),if_pos (.inr ⟨kb,.inr (by rw[HSS.out])⟩)]))
       have HE2:=Jh e2;have q0:W.cell? ⟨q,0,none⟩=some (.string S):=hrs.one.cell 0;clear hfl hF3 e2 hrs;go_wp2_with fail
       refine HFL.out.mono ?_;rintro e w5 ⟨v,rfl,hv5,hb5⟩
       have hfin:Kae B0 a R A (Kal d S.data.toList S2.data.toList) ⟨#[114,101,110,97,109,101]⟩ S w (.returned v) w5:=by
        rw[HE2.out];exact Kae.bad h (then_ HRS.out.below hb5) hv5
       have HFIN:=Jh hfin;clear hfin hv5;go_wp2_with fail
       go_ret
       exact HFIN.out
      ·have hs2:decide (S=S2)=false:=by simpa using hSS
       have hl2:S.toList≠S2.toList:=fun e=>hSS (by
        rw[ByteArray.toList_eq,ByteArray.toList_eq] at e
        exact Keh e)
       have hs3:(S.toList == S2.toList)=false:=by simpa using hl2
       have hs4:(S == S2)=false:=by rw[beq_toListBytes];exact hs3
       have hs5:decide (S.toList=S2.toList)=false:=by simpa using hl2
       clear hl2;have hrs:=HRS.out;have hcd:=h.below hrs.below;have hF3:=hF.below (hrs.below.mono hB);have c0:W.cell? ⟨p,0,none⟩=some (.map (some A.md)):=by rw[←HP.out];exact Blk.cell hcd.blk 0
       have c1:W.cell? ⟨p,1,none⟩=some (.map (some A.mf)):=by rw[←HP.out];exact Blk.cell hcd.blk 1
       have q0:W.cell? ⟨q,0,none⟩=some (.string S):=hrs.one.cell 0;have q1:W.cell? ⟨q+1,0,none⟩=some (.string S2):=hrs.two.cell 0;have hql:=hrs.one.lt;have hql2:=hrs.two.lt;have hpl:p < W.heap.size:=Kaf c0;obtain ⟨P,hP,hlf⟩:=Kek hcd hf S2 hS2
       obtain ⟨P',rfl⟩:∃P',P=some P':=by
        cases P with
        | none=>exact absurd kb (hP.1 rfl)
        | some P'=>exact ⟨P',rfl⟩
       go_upto_region 11 with fail
       refine Kab (by kernel_rfl) (by kernel_rfl) ?_
       repeat (go_big_quiet_step (fail))
       clear hlf hP;refine wpQuiet_nil ?_;rintro W ⟨⟨_,hb2⟩,rfl⟩;have hrs2:=HRS.out.later hb2;clear hrs hcd hF3 c0 c1 q0 q1 hql hql2 hpl hb2 HRS;have HRS:=Jh hrs2;clear hrs2;have hne:S.data.toList≠S2.data.toList:=fun e=>hSS (Keh e)
       have HE5:=Jh (show Kal d S.data.toList S2.data.toList=Kbb d (.rename S.data.toList S2.data.toList) by rw[HE1.out,if_neg (by rw[ka];simp),if_neg (by rw[ka,HRP.out];simp),if_neg (by rw[kb,ka];simpa using fun e=>hSS (Keh (by rw[e])))]);have hrs:=HRS.out;have hF3:=hF.below (hrs.below.mono hB);have hcd:=h.below hrs.below;have hqW:=HQ.out;have hRq:R q=0:=h.inw.new (by omega);have hRq1:R (q+1)=0:=h.inw.new (by omega);have hcd7:CD B0 W (giv R q 5) A d:=hcd.grant hrs.one.lt hRq (by omega) 5;have hcd8:CD B0 W (giv (giv R q 5) (q+1) 5) A d:=hcd7.grant hrs.two.lt (by rw[Kax (by omega)];exact hRq1) (by omega) 5
       have hST:StepM W (giv (giv R q 5) (q+1) 5) A.φ (.rename S.data.toList S2.data.toList) (.func (.func 119) #[] #[.pointer (some ⟨q,0,none⟩),.pointer (some ⟨q+1,0,none⟩)]):=by
        have e:txtV S.data.toList = .string S:=by unfold txtV;rw[←Kcs rfl]
        have e2:txtV S2.data.toList = .string S2:=by unfold txtV;rw[←Kcs rfl]
        refine ⟨q,q+1,rfl,?_,?_⟩
        ·rw[Box,e];exact ⟨hrs.one,by rw[Kax (by omega)];exact Kck _ _ _⟩
        ·rw[Box,e2];exact ⟨hrs.two,Kck _ _ _⟩
       have hok:StOk d.files.length d.things (.rename S.data.toList S2.data.toList):=by (exact ⟨HR1.out,HR2.out,by rw[ka];omega,HRP.out,by rw[kb];omega,fun e=>(by rw[ka] at e;cases e),hne⟩)
       have hnm:=Kes (a:=a) ⟨#[114,101,110,97,109,101]⟩ S (.rename S.data.toList S2.data.toList) _ _ W hcd8 hST hf.tw hok (by have:=hf.tl;omega) (by have:=hf.sl;omega) hf.aw (by have:=hrs.below.size;omega) hF3;rw[HP.out] at hnm
       have hOw:Own R (giv (giv R q 5) (q+1) 5) w W:=by
        have o1:Own R R w W:=Own.of_below hrs.below;exact ⟨o1.os,o1.tape,o1.output,o1.size,o1.block,fun k hk=>by rw[Kax (by omega),Kax (by omega)]⟩
       have HOW:=Jh hOw;have HNM2:=Jh hnm;have q0:W.cell? ⟨q,0,none⟩=some (.string S):=hrs.one.cell 0;clear hnm hST hcd hcd7 hcd8 hF3 hOw hok hrs hqW;go_wp2_with fail
       refine HNM2.out.mono ?_;rintro e w7 hN;obtain ⟨v,R',A',rfl,k2,k3,k4,k5,k6⟩:=hN
       have hfin:Kae B0 a R A (Kal d S.data.toList S2.data.toList) ⟨#[114,101,110,97,109,101]⟩ S w (.returned v) w7:=by
        rw[HE5.out];exact ⟨v,R',A',rfl,k2,k3,HOW.out.trans k4,k5,k6⟩
       have HFIN:=Jh hfin;clear hfin k2 k3 k4 k5;go_wp2_with fail
       go_ret
       exact HFIN.out
     ·have hrs:=HRS.out;have hcd:=h.below hrs.below;have hF3:=hF.below (hrs.below.mono hB);have c0:W.cell? ⟨p,0,none⟩=some (.map (some A.md)):=by rw[←HP.out];exact Blk.cell hcd.blk 0
      have c1:W.cell? ⟨p,1,none⟩=some (.map (some A.mf)):=by rw[←HP.out];exact Blk.cell hcd.blk 1
      have q0:W.cell? ⟨q,0,none⟩=some (.string S):=hrs.one.cell 0;have q1:W.cell? ⟨q+1,0,none⟩=some (.string S2):=hrs.two.cell 0;have hql:=hrs.one.lt;have hql2:=hrs.two.lt;have hpl:p < W.heap.size:=Kaf c0;have hlk:=Kcf hcd hf S2 hS2 1 (by rw[kb];rfl);go_upto_region 10 with fail
      refine Kab (by kernel_rfl) (by kernel_rfl) ?_
      repeat (go_big_quiet_step (fail))
      clear hlk;refine wpQuiet_nil ?_;rintro W ⟨⟨_,hb2⟩,rfl⟩;have hrs2:=HRS.out.later hb2;clear hrs hcd hF3 c0 c1 q0 q1 hql hql2 hpl hb2 HRS;have HRS:=Jh hrs2;clear hrs2;have hrs:=HRS.out;have hF3:=hF.below (hrs.below.mono hB);have f0:_=some (failV a 5):=(hF3 5 (by decide)).2;have hfl:=Kbw (a:=a) ⟨#[114,101,110,97,109,101]⟩ S 4 W;unfold failV at f0 hfl;simp only[failG] at f0;have HFL:=Jh hfl;have e2:Kal d S.data.toList S2.data.toList=(5,d):=by (rw[HE1.out];(rw[if_neg (by rw[ka];simp),if_neg (by rw[ka,HRP.out];simp),if_pos (.inl kb)]))
      have HE2:=Jh e2;have q0:W.cell? ⟨q,0,none⟩=some (.string S):=hrs.one.cell 0;clear hfl hF3 e2 hrs;go_wp2_with fail
      refine HFL.out.mono ?_;rintro e w5 ⟨v,rfl,hv5,hb5⟩
      have hfin:Kae B0 a R A (Kal d S.data.toList S2.data.toList) ⟨#[114,101,110,97,109,101]⟩ S w (.returned v) w5:=by
       rw[HE2.out];exact Kae.bad h (then_ HRS.out.below hb5) hv5
      have HFIN:=Jh hfin;clear hfin hv5;go_wp2_with fail
      go_ret
      exact HFIN.out
   ·have hrs:=HRS.out;have hcd:=h.below hrs.below;have hF3:=hF.below (hrs.below.mono hB);have c0:W.cell? ⟨p,0,none⟩=some (.map (some A.md)):=by rw[←HP.out];exact Blk.cell hcd.blk 0
    have c1:W.cell? ⟨p,1,none⟩=some (.map (some A.mf)):=by rw[←HP.out];exact Blk.cell hcd.blk 1
    have q0:W.cell? ⟨q,0,none⟩=some (.string S):=hrs.one.cell 0;have q1:W.cell? ⟨q+1,0,none⟩=some (.string S2):=hrs.two.cell 0;have hql:=hrs.one.lt;have hql2:=hrs.two.lt;have hpl:p < W.heap.size:=Kaf c0;have hlk:=Kcf hcd hf S hS 1 (by rw[ka];rfl);go_upto_region 4 with fail
    refine Kab (by kernel_rfl) (by kernel_rfl) ?_
    repeat (go_big_quiet_step (fail))
    clear hlk;refine wpQuiet_nil ?_;rintro W ⟨⟨_,hb2⟩,rfl⟩;have hrs2:=HRS.out.later hb2;clear hrs hcd hF3 c0 c1 q0 q1 hql hql2 hpl hb2 HRS;have HRS:=Jh hrs2;clear hrs2;obtain ⟨nb,hnb⟩:∃r,nameB S2.data.toList=r:=⟨_,rfl⟩;have HNB:=Jh hnb;have HNAME:=Jh (fun w=>Kkm S2 nb hnb hS2 w);clear hnb;have q1:W.cell? ⟨q+1,0,none⟩=some (.string S2):=HRS.out.two.cell 0;go_wp2_with fail
    refine (HNAME.out W).mono ?_;rintro _ W5 ⟨rfl,rfl⟩;clear q1
    cases nb with
    | false=>
     have hrs:=HRS.out;have hF3:=hF.below (hrs.below.mono hB);have f0:_=some (failV a 2):=(hF3 2 (by decide)).2;have hfl:=Kbw (a:=a) ⟨#[114,101,110,97,109,101]⟩ S 1 W;unfold failV at f0 hfl;simp only[failG] at f0;have HFL:=Jh hfl;have e2:Kal d S.data.toList S2.data.toList=(2,d):=by (rw[HE1.out];(rw[if_pos ⟨ka,HNB.out⟩]))
     have HE2:=Jh e2;have q0:W.cell? ⟨q,0,none⟩=some (.string S):=hrs.one.cell 0;clear hfl hF3 e2 hrs;go_wp2_with fail
     refine HFL.out.mono ?_;rintro e w5 ⟨v,rfl,hv5,hb5⟩
     have hfin:Kae B0 a R A (Kal d S.data.toList S2.data.toList) ⟨#[114,101,110,97,109,101]⟩ S w (.returned v) w5:=by
      rw[HE2.out];exact Kae.bad h (then_ HRS.out.below hb5) hv5
     have HFIN:=Jh hfin;clear hfin hv5;go_wp2_with fail
     go_ret
     exact HFIN.out
    | true=>
     go_upto_region 7 with fail
     have hrs:=HRS.out;have hcd:=h.below hrs.below;have hF3:=hF.below (hrs.below.mono hB);have c0:W.cell? ⟨p,0,none⟩=some (.map (some A.md)):=by rw[←HP.out];exact Blk.cell hcd.blk 0
     have c1:W.cell? ⟨p,1,none⟩=some (.map (some A.mf)):=by rw[←HP.out];exact Blk.cell hcd.blk 1
     have q0:W.cell? ⟨q,0,none⟩=some (.string S):=hrs.one.cell 0;have q1:W.cell? ⟨q+1,0,none⟩=some (.string S2):=hrs.two.cell 0;have hql:=hrs.one.lt;have hql2:=hrs.two.lt;have hpl:p < W.heap.size:=Kaf c0;refine Kab (by kernel_rfl) (by kernel_rfl) ?_
     repeat (go_big_quiet_step (fail))
     refine wpQuiet_nil ?_;rintro W ⟨⟨_,hb2⟩,rfl⟩;have hrs2:=HRS.out.later hb2;clear hrs hcd hF3 c0 c1 q0 q1 hql hql2 hpl hb2 HRS;have HRS:=Jh hrs2;clear hrs2;have hrs:=HRS.out;have hcd:=h.below hrs.below;have hF3:=hF.below (hrs.below.mono hB);have c0:W.cell? ⟨p,0,none⟩=some (.map (some A.md)):=by rw[←HP.out];exact Blk.cell hcd.blk 0
     have c1:W.cell? ⟨p,1,none⟩=some (.map (some A.mf)):=by rw[←HP.out];exact Blk.cell hcd.blk 1
     have q0:W.cell? ⟨q,0,none⟩=some (.string S):=hrs.one.cell 0;have q1:W.cell? ⟨q+1,0,none⟩=some (.string S2):=hrs.two.cell 0;have hql:=hrs.one.lt;have hql2:=hrs.two.lt;have hpl:p < W.heap.size:=Kaf c0;have HPAR:=Jh (fun x:Later W=>Khj A.md A.mf S2 rp hrp x.w (hcd.dirs.1.below x.h hcd.dirs.1.lt) hf.tw hS2);go_upto_region 8 with fail
     refine Kab (by kernel_rfl) (by kernel_rfl) ?_
     repeat (go_big_quiet_step ((go_at_call 114;exact Kbe _ (HPAR.out _))))
     clear HPAR;refine wpQuiet_nil ?_;rintro W ⟨⟨_,hb2⟩,rfl⟩;have hrs2:=HRS.out.later hb2;clear hrs hcd hF3 c0 c1 q0 q1 hql hql2 hpl hb2 HRS;have HRS:=Jh hrs2;clear hrs2
     cases rp with
     | false=>
      have hrs:=HRS.out;have hF3:=hF.below (hrs.below.mono hB);have f0:_=some (failV a 4):=(hF3 4 (by decide)).2;have hfl:=Kbw (a:=a) ⟨#[114,101,110,97,109,101]⟩ S 3 W;unfold failV at f0 hfl;simp only[failG] at f0;have HFL:=Jh hfl;have e2:Kal d S.data.toList S2.data.toList=(4,d):=by (rw[HE1.out];(rw[if_neg (fun e=>by rw[HNB.out] at e;cases e.2),if_pos (.inr HRP.out)]))
      have HE2:=Jh e2;have q0:W.cell? ⟨q,0,none⟩=some (.string S):=hrs.one.cell 0;clear hfl hF3 e2 hrs;go_wp2_with fail
      refine HFL.out.mono ?_;rintro e w5 ⟨v,rfl,hv5,hb5⟩
      have hfin:Kae B0 a R A (Kal d S.data.toList S2.data.toList) ⟨#[114,101,110,97,109,101]⟩ S w (.returned v) w5:=by
       rw[HE2.out];exact Kae.bad h (then_ HRS.out.below hb5) hv5
      have HFIN:=Jh hfin;clear hfin hv5;go_wp2_with fail
      go_ret
      exact HFIN.out
     | true=>
      rcases Kei d.things S2.data.toList with kb | kb | kb
      ·have hrs:=HRS.out;have hcd:=h.below hrs.below;have hF3:=hF.below (hrs.below.mono hB);have c0:W.cell? ⟨p,0,none⟩=some (.map (some A.md)):=by rw[←HP.out];exact Blk.cell hcd.blk 0
       have c1:W.cell? ⟨p,1,none⟩=some (.map (some A.mf)):=by rw[←HP.out];exact Blk.cell hcd.blk 1
       have q0:W.cell? ⟨q,0,none⟩=some (.string S):=hrs.one.cell 0;have q1:W.cell? ⟨q+1,0,none⟩=some (.string S2):=hrs.two.cell 0;have hql:=hrs.one.lt;have hql2:=hrs.two.lt;have hpl:p < W.heap.size:=Kaf c0;have hlk:=Kcf hcd hf S2 hS2 0 (by rw[kb];rfl);go_upto_region 10 with fail
       refine Kab (by kernel_rfl) (by kernel_rfl) ?_
       repeat (go_big_quiet_step (fail))
       clear hlk;refine wpQuiet_nil ?_;rintro W ⟨⟨_,hb2⟩,rfl⟩;have hrs2:=HRS.out.later hb2;clear hrs hcd hF3 c0 c1 q0 q1 hql hql2 hpl hb2 HRS;have HRS:=Jh hrs2;clear hrs2;have hrs:=HRS.out;have hcd:=h.below hrs.below;have hF3:=hF.below (hrs.below.mono hB);have c0:W.cell? ⟨p,0,none⟩=some (.map (some A.md)):=by rw[←HP.out];exact Blk.cell hcd.blk 0
       have c1:W.cell? ⟨p,1,none⟩=some (.map (some A.mf)):=by rw[←HP.out];exact Blk.cell hcd.blk 1
       have q0:W.cell? ⟨q,0,none⟩=some (.string S):=hrs.one.cell 0;have q1:W.cell? ⟨q+1,0,none⟩=some (.string S2):=hrs.two.cell 0;have hql:=hrs.one.lt;have hql2:=hrs.two.lt;have hpl:p < W.heap.size:=Kaf c0;obtain ⟨P,hP,hlf⟩:=Kek hcd hf S2 hS2;obtain rfl:P=none:=hP.2 (by rw[kb];omega);go_upto_region 11 with fail
       refine Kab (by kernel_rfl) (by kernel_rfl) ?_
       repeat (go_big_quiet_step (fail))
       clear hlf hP;refine wpQuiet_nil ?_;rintro W ⟨⟨_,hb2⟩,rfl⟩;have hrs2:=HRS.out.later hb2;clear hrs hcd hF3 c0 c1 q0 q1 hql hql2 hpl hb2 HRS;have HRS:=Jh hrs2;clear hrs2;have HE5:=Jh (show Kal d S.data.toList S2.data.toList=Kbb d (.rename S.data.toList S2.data.toList) by rw[HE1.out,if_neg (fun e=>by rw[HNB.out] at e;cases e.2),if_neg (by rw[ka,HRP.out];simp),if_neg (by rw[kb];simp)]);have hrs:=HRS.out;have hF3:=hF.below (hrs.below.mono hB);have hcd:=h.below hrs.below;have hqW:=HQ.out;have hRq:R q=0:=h.inw.new (by omega);have hRq1:R (q+1)=0:=h.inw.new (by omega);have hcd7:CD B0 W (giv R q 5) A d:=hcd.grant hrs.one.lt hRq (by omega) 5;have hcd8:CD B0 W (giv (giv R q 5) (q+1) 5) A d:=hcd7.grant hrs.two.lt (by rw[Kax (by omega)];exact hRq1) (by omega) 5
       have hST:StepM W (giv (giv R q 5) (q+1) 5) A.φ (.rename S.data.toList S2.data.toList) (.func (.func 119) #[] #[.pointer (some ⟨q,0,none⟩),.pointer (some ⟨q+1,0,none⟩)]):=by
        have e:txtV S.data.toList = .string S:=by unfold txtV;rw[←Kcs rfl]
        have e2:txtV S2.data.toList = .string S2:=by unfold txtV;rw[←Kcs rfl]
        refine ⟨q,q+1,rfl,?_,?_⟩
        ·rw[Box,e];exact ⟨hrs.one,by rw[Kax (by omega)];exact Kck _ _ _⟩
        ·rw[Box,e2];exact ⟨hrs.two,Kck _ _ _⟩
       have hok:StOk d.files.length d.things (.rename S.data.toList S2.data.toList):=by (exact ⟨HR1.out,HR2.out,by rw[ka];omega,HRP.out,by rw[kb];omega,fun e=>⟨HNB.out,kb⟩,fun e=>by rw[e] at ka;rw[ka] at kb;cases kb⟩)
       have hnm:=Kes (a:=a) ⟨#[114,101,110,97,109,101]⟩ S (.rename S.data.toList S2.data.toList) _ _ W hcd8 hST hf.tw hok (by have:=hf.tl;omega) (by have:=hf.sl;omega) hf.aw (by have:=hrs.below.size;omega) hF3;rw[HP.out] at hnm
       have hOw:Own R (giv (giv R q 5) (q+1) 5) w W:=by
        have o1:Own R R w W:=Own.of_below hrs.below;exact ⟨o1.os,o1.tape,o1.output,o1.size,o1.block,fun k hk=>by rw[Kax (by omega),Kax (by omega)]⟩
       have HOW:=Jh hOw;have HNM2:=Jh hnm;have q0:W.cell? ⟨q,0,none⟩=some (.string S):=hrs.one.cell 0;clear hnm hST hcd hcd7 hcd8 hF3 hOw hok hrs hqW;go_wp2_with fail
       refine HNM2.out.mono ?_;rintro e w7 hN;obtain ⟨v,R',A',rfl,k2,k3,k4,k5,k6⟩:=hN
       have hfin:Kae B0 a R A (Kal d S.data.toList S2.data.toList) ⟨#[114,101,110,97,109,101]⟩ S w (.returned v) w7:=by
        rw[HE5.out];exact ⟨v,R',A',rfl,k2,k3,HOW.out.trans k4,k5,k6⟩
       have HFIN:=Jh hfin;clear hfin k2 k3 k4 k5;go_wp2_with fail
       go_ret
       exact HFIN.out
      ·have hrs:=HRS.out;have hcd:=h.below hrs.below;have hF3:=hF.below (hrs.below.mono hB);have c0:W.cell? ⟨p,0,none⟩=some (.map (some A.md)):=by rw[←HP.out];exact Blk.cell hcd.blk 0
       have c1:W.cell? ⟨p,1,none⟩=some (.map (some A.mf)):=by rw[←HP.out];exact Blk.cell hcd.blk 1
       have q0:W.cell? ⟨q,0,none⟩=some (.string S):=hrs.one.cell 0;have q1:W.cell? ⟨q+1,0,none⟩=some (.string S2):=hrs.two.cell 0;have hql:=hrs.one.lt;have hql2:=hrs.two.lt;have hpl:p < W.heap.size:=Kaf c0;have hlk:=Kcf hcd hf S2 hS2 0 (by rw[kb];rfl);go_upto_region 10 with fail
       refine Kab (by kernel_rfl) (by kernel_rfl) ?_
       repeat (go_big_quiet_step (fail))
       clear hlk;refine wpQuiet_nil ?_;rintro W ⟨⟨_,hb2⟩,rfl⟩;have hrs2:=HRS.out.later hb2;clear hrs hcd hF3 c0 c1 q0 q1 hql hql2 hpl hb2 HRS;have HRS:=Jh hrs2;clear hrs2;have hrs:=HRS.out;have hcd:=h.below hrs.below;have hF3:=hF.below (hrs.below.mono hB);have c0:W.cell? ⟨p,0,none⟩=some (.map (some A.md)):=by rw[←HP.out];exact Blk.cell hcd.blk 0
       have c1:W.cell? ⟨p,1,none⟩=some (.map (some A.mf)):=by rw[←HP.out];exact Blk.cell hcd.blk 1
       have q0:W.cell? ⟨q,0,none⟩=some (.string S):=hrs.one.cell 0;have q1:W.cell? ⟨q+1,0,none⟩=some (.string S2):=hrs.two.cell 0;have hql:=hrs.one.lt;have hql2:=hrs.two.lt;have hpl:p < W.heap.size:=Kaf c0;obtain ⟨P,hP,hlf⟩:=Kek hcd hf S2 hS2
       obtain ⟨P',rfl⟩:∃P',P=some P':=by
        cases P with
        | none=>exact absurd kb (hP.1 rfl)
        | some P'=>exact ⟨P',rfl⟩
       go_upto_region 11 with fail
       refine Kab (by kernel_rfl) (by kernel_rfl) ?_
       repeat (go_big_quiet_step (fail))
       clear hlf hP;refine wpQuiet_nil ?_;rintro W ⟨⟨_,hb2⟩,rfl⟩;have hrs2:=HRS.out.later hb2;clear hrs hcd hF3 c0 c1 q0 q1 hql hql2 hpl hb2 HRS;have HRS:=Jh hrs2;clear hrs2;have hrs:=HRS.out;have hF3:=hF.below (hrs.below.mono hB);have f0:_=some (failV a 5):=(hF3 5 (by decide)).2;have hfl:=Kbw (a:=a) ⟨#[114,101,110,97,109,101]⟩ S 4 W;unfold failV at f0 hfl;simp only[failG] at f0;have HFL:=Jh hfl;have e2:Kal d S.data.toList S2.data.toList=(5,d):=by (rw[HE1.out];(rw[if_neg (fun e=>by rw[HNB.out] at e;cases e.2),if_neg (by rw[ka,HRP.out];simp),if_pos (.inr ⟨kb,.inl ka⟩)]))
       have HE2:=Jh e2;have q0:W.cell? ⟨q,0,none⟩=some (.string S):=hrs.one.cell 0;clear hfl hF3 e2 hrs;go_wp2_with fail
       refine HFL.out.mono ?_;rintro e w5 ⟨v,rfl,hv5,hb5⟩
       have hfin:Kae B0 a R A (Kal d S.data.toList S2.data.toList) ⟨#[114,101,110,97,109,101]⟩ S w (.returned v) w5:=by
        rw[HE2.out];exact Kae.bad h (then_ HRS.out.below hb5) hv5
       have HFIN:=Jh hfin;clear hfin hv5;go_wp2_with fail
       go_ret
       exact HFIN.out
      ·have hrs:=HRS.out;have hcd:=h.below hrs.below;have hF3:=hF.below (hrs.below.mono hB);have c0:W.cell? ⟨p,0,none⟩=some (.map (some A.md)):=by rw[←HP.out];exact Blk.cell hcd.blk 0
       have c1:W.cell? ⟨p,1,none⟩=some (.map (some A.mf)):=by rw[←HP.out];exact Blk.cell hcd.blk 1
       have q0:W.cell? ⟨q,0,none⟩=some (.string S):=hrs.one.cell 0;have q1:W.cell? ⟨q+1,0,none⟩=some (.string S2):=hrs.two.cell 0;have hql:=hrs.one.lt;have hql2:=hrs.two.lt;have hpl:p < W.heap.size:=Kaf c0;have hlk:=Kcf hcd hf S2 hS2 1 (by rw[kb];rfl);go_upto_region 10 with fail
       refine Kab (by kernel_rfl) (by kernel_rfl) ?_
       repeat (go_big_quiet_step (fail))
       clear hlk;refine wpQuiet_nil ?_;rintro W ⟨⟨_,hb2⟩,rfl⟩;have hrs2:=HRS.out.later hb2;clear hrs hcd hF3 c0 c1 q0 q1 hql hql2 hpl hb2 HRS;have HRS:=Jh hrs2;clear hrs2;have hrs:=HRS.out;have hF3:=hF.below (hrs.below.mono hB);have f0:_=some (failV a 5):=(hF3 5 (by decide)).2;have hfl:=Kbw (a:=a) ⟨#[114,101,110,97,109,101]⟩ S 4 W;unfold failV at f0 hfl;simp only[failG] at f0;have HFL:=Jh hfl;have e2:Kal d S.data.toList S2.data.toList=(5,d):=by (rw[HE1.out];(rw[if_neg (fun e=>by rw[HNB.out] at e;cases e.2),if_neg (by rw[ka,HRP.out];simp),if_pos (.inl kb)]))
       have HE2:=Jh e2;have q0:W.cell? ⟨q,0,none⟩=some (.string S):=hrs.one.cell 0;clear hfl hF3 e2 hrs;go_wp2_with fail
       refine HFL.out.mono ?_;rintro e w5 ⟨v,rfl,hv5,hb5⟩
       have hfin:Kae B0 a R A (Kal d S.data.toList S2.data.toList) ⟨#[114,101,110,97,109,101]⟩ S w (.returned v) w5:=by
        rw[HE2.out];exact Kae.bad h (then_ HRS.out.below hb5) hv5
       have HFIN:=Jh hfin;clear hfin hv5;go_wp2_with fail
       go_ret
       exact HFIN.out
end
end
section
open Go.RowKit Go.Shelf Go.Maps Go.Sort
attribute [local go_sem ↓] Go.wp_at_zero Go.wp_at_succ
attribute [local go_sem] Later.cell
theorem Kmn (wish:Int) (n:Nat):Kct wish n≤n:=by
 unfold Kct
 split
 ·omega
 ·have:=Nat.mod_lt wish.toNat (show 0 < n+1 by omega);omega
theorem Knw (wish:Int) (n:Nat) (w:World) (h1:-9223372036854775808≤wish) (h2:wish≤9223372036854775807) (hn:n≤4611686018427387904) :
  Calls Tryz.prog 72 #[.int .i64 wish,.int .i64 (n:Int)] w fun e w'=>e = .returned (.int .i64 (Kct wish n:Int))∧w=w':=by
 by_cases hneg:wish < 0
 ·have d1:decide (wish < 0)=true:=by simpa using hneg
  have e1:Kct wish n=0:=by unfold Kct;rw[if_pos hneg]
  rw[e1];go_enter Tryz.func72,Tryz.ntmps72
  go_wp2_with fail
  go_ret
  exact ⟨rfl,rfl⟩
 ·obtain ⟨m,rfl⟩:∃m:Nat,wish=(m:Int):=⟨wish.toNat,by omega⟩;have d1:decide ((m:Int) < 0)=false:=by simp
  have e0:Kct (m:Int) n=m % (n+1):=by unfold Kct;rw[if_neg hneg];simp
  clear hneg
  by_cases hle:m≤n
  ·have d2:decide ((m:Int)≤(n:Int))=true:=by simpa using hle
   have d3:decide (m≤n)=true:=by simpa using hle
   have e1:Kct (m:Int) n=m:=by rw[e0];exact Nat.mod_eq_of_lt (by omega)
   rw[e1];clear e0 e1;go_enter Tryz.func72,Tryz.ntmps72
   go_wp2_with fail
   go_ret
   exact ⟨rfl,rfl⟩
  ·have d2:decide ((m:Int)≤(n:Int))=false:=by simp;omega
   have d3:decide (m≤n)=false:=by simp;omega
   have e1:((Kct (m:Int) n:Nat):Int)=(m:Int) % ((n:Int)+1):=by rw[e0];simp
   rw[e1];have hne:(n:Int)+1≠0:=by omega
   clear e0 e1 hle;go_enter Tryz.func72,Tryz.ntmps72
   go_wp2_with fail
   go_ret
   refine ⟨?_,rfl⟩;simp[Int.tmod_eq_emod_of_nonneg]
def Kbu (M:Nat):List Ch→Nat→Prop
 | [],_=>True
 | c :: r,n=>if c.cut then c.size≤n∧Kbu M r c.size else n+c.text.length≤M∧Kbu M r (n+c.text.length)
end
end Go.Proofs.YtefpndiiedkmpaaGreatDoor
