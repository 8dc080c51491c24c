/- Merged (what the claim wants of): DskWalksV, DskWalksW, DskInv, RdkWalksC, DskLaw, DskStep, DskTwo, DskRun, StoDisk, ErrIs, StoPut, KptSave. -/
import Derived.Test.YtefpndiiedkmpaaGreatDoorKps12
import Derived.Test.YtefpndiiedkmpaaGreatDoorKps10
import Derived.Test.YtefpndiiedkmpaaGreatDoorKps03
import Derived.Laws.OwnMore
import Derived.Deep.AppendLies
import Derived.Deep.Onto
import Derived.Sort.Walk0
import Derived.Deep.RegionHeldLaw
import Derived.Laws.AppendOwnNone
import Derived.LaidEql
import Derived.Stop.Asserts
import Derived.RowKitTokens
import Derived.Test.YtefpndiiedkmpaaGreatDoorKps02
import Derived.Test.YtefpndiiedkmpaaGreatDoorKps05
set_option linter.unusedVariables false
set_option linter.unusedSimpArgs false
set_option maxRecDepth 100000
set_option maxHeartbeats 8000000
namespace Go.Proofs.YtefpndiiedkmpaaGreatDoor
section
open Go.RowKit Go.Shelf Go.Maps Go.Sort
open Lib renaming hid → Jh
attribute [local go_sem ↓] Go.wp_at_zero Go.wp_at_succ
attribute [local go_sem] Later.cell
section
variable {B0 : Nat} {a : Nat → Addr} {R : Nat → Nat} {A : Adr} {d : Ds} {w w' : World}
structure RS (w:World) (q:Nat) (S S2:ByteArray) (W:World):Prop where
 below:Below w.heap.size w W
 one:Blk W q 9 #[.string S]
 two:Blk W (q+1) 9 #[.string S2]
theorem RS.later {q:Nat} {S S2:ByteArray} {W W':World} (h:RS w q S S2 W) (hb:Below W.heap.size W W'):RS w q S S2 W':=⟨then_ h.below hb,h.one.below hb h.one.lt,h.two.below hb h.two.lt⟩
theorem Kwj (S S2:ByteArray) (w:World) (h:CD B0 w R A d) (hf:Fit d) (hS:S.size≤1073741824) (hS2:S2.size≤1073741824) (hB:B0≤w.heap.size) (hF:Fails B0 a w) :
  Calls Tryz.prog 63 #[.pointer (some ⟨A.p,0,none⟩),.string S,.string S2] w (Kac B0 a R A (Kak d S.data.toList S2.data.toList) ⟨#[114,101,110,97,109,101]⟩ S w):=by
 obtain ⟨r1,hr1⟩:∃r,pathB S.data.toList=r:=⟨_,rfl⟩;obtain ⟨r2,hr2⟩:∃r,pathB S2.data.toList=r:=⟨_,rfl⟩;have HN1:=Jh (fun w=>Kfl S r1 hr1 hS w);have HN2:=Jh (fun w=>Kfl S2 r2 hr2 hS2 w);have HR1:=Jh hr1;have HR2:=Jh hr2;obtain ⟨p,hp⟩:∃p,A.p=p:=⟨_,rfl⟩;have HP:=Jh hp;rw[hp];clear hr1 hr2 hp;go_enter Tryz.func63,Tryz.ntmps63
 go_upto_region 1 with fail
 obtain ⟨W,hw1⟩:∃x,(w.alloc (.cells #[.string S] 9)).alloc (.cells #[.string S2] 9)=x:=⟨_,rfl⟩;have hb1:Below w.heap.size w W:=by rw[←hw1];exact ((Below.refl _ _).alloc (Nat.le_refl _) _).alloc (by simp) _
 have hk1:Blk W w.heap.size 9 #[.string S]:=by rw[←hw1];exact (Blk.new _ _ _).alloc _
 have hk2:Blk W (w.heap.size+1) 9 #[.string S2]:=by rw[←hw1];exact Blk.newAt (by simp)
 rw[hw1];obtain ⟨q,hqq⟩:∃q,w.heap.size=q:=⟨_,rfl⟩;rw[hqq] at hk1 hk2 ⊢;have HQ:=Jh hqq;have HRS:=Jh (show RS w q S S2 W from ⟨hb1,hk1,hk2⟩);clear hw1 hqq hb1 hk1 hk2
 cases r1 with
 | false=>
  have hrs:=HRS.out;have hcd:=h.below hrs.below;have hF3:=hF.below (hrs.below.mono hB);have c0:W.cell? ⟨p,0,none⟩=some (.map (some A.md)):=by rw[←HP.out];exact Blk.cell hcd.blk 0
  have c1:W.cell? ⟨p,1,none⟩=some (.map (some A.mf)):=by rw[←HP.out];exact Blk.cell hcd.blk 1
  have q0:W.cell? ⟨q,0,none⟩=some (.string S):=hrs.one.cell 0;have q1:W.cell? ⟨q+1,0,none⟩=some (.string S2):=hrs.two.cell 0;have hql:=hrs.one.lt;have hql2:=hrs.two.lt;have hpl:p < W.heap.size:=Kag c0;refine Kaf 8 (by kernel_rfl) (by kernel_rfl) ?_;simp only[List.take_succ_cons,List.take_zero,List.drop_succ_cons,List.drop_zero]
  repeat (go_big_quiet_step ((go_at_call 109;exact Kbw _ (HN1.out _))))
  refine wpQuiet_nil ?_;rintro W ⟨⟨_,hb2⟩,rfl⟩;have hrs2:=HRS.out.later hb2;clear hrs hcd hF3 c0 c1 q0 q1 hql hql2 hpl hb2 HRS;have HRS:=Jh hrs2;clear hrs2;have hrs:=HRS.out;have hcd:=h.below hrs.below;have hoff:W.cell? ⟨p,6,none⟩=some (.bool d.off):=by rw[←HP.out];exact Blk.cell hcd.blk 6
  obtain ⟨k,hk⟩:∃k,Kcc d.off false=k:=⟨_,rfl⟩;have HK:=Jh hk;have HRD:=Jh (Kei (B0:=B0) (a:=a) p d.off false ⟨#[114,101,110,97,109,101]⟩ S k hk W hoff (hF.below (hrs.below.mono hB)));clear hk hcd hoff;go_wp2_with fail
  refine HRD.out.mono ?_;rintro _ W4 ⟨v,rfl,hv3,hb4⟩
  cases k with
  | succ k=>
   have hfin:Kac B0 a R A (Kak d S.data.toList S2.data.toList) ⟨#[114,101,110,97,109,101]⟩ S w (.returned v) W4:=by
    have e1:Kak d S.data.toList S2.data.toList=(k+1,d):=by
     have hk:=HK.out;unfold Kcc at hk;unfold Kak;rw[←hk,HR1.out,HR2.out]
     cases ho:d.off with
     | true=>simp
     | false=>
      rw[ho] at hk
      first
       | (simp;done)
       | (cases r2 with
         | true=>simp at hk
         | false=>simp)
    rw[e1];exact Kac.bad h (then_ hrs.below hb4) hv3
   obtain ⟨q4,rfl,_⟩:=hv3;have HFIN:=Jh hfin;clear hfin hb4 hrs;go_wp2_with fail
   go_ret
   exact HFIN.out
  | zero=>
   have hk:=HK.out;unfold Kcc at hk;cases ho:d.off <;> rw[ho] at hk <;> simp at hk
 | true=>
  have hrs:=HRS.out;have hcd:=h.below hrs.below;have hF3:=hF.below (hrs.below.mono hB);have c0:W.cell? ⟨p,0,none⟩=some (.map (some A.md)):=by rw[←HP.out];exact Blk.cell hcd.blk 0
  have c1:W.cell? ⟨p,1,none⟩=some (.map (some A.mf)):=by rw[←HP.out];exact Blk.cell hcd.blk 1
  have q0:W.cell? ⟨q,0,none⟩=some (.string S):=hrs.one.cell 0;have q1:W.cell? ⟨q+1,0,none⟩=some (.string S2):=hrs.two.cell 0;have hql:=hrs.one.lt;have hql2:=hrs.two.lt;have hpl:p < W.heap.size:=Kag c0;refine Kaf 8 (by kernel_rfl) (by kernel_rfl) ?_;simp only[List.take_succ_cons,List.take_zero,List.drop_succ_cons,List.drop_zero]
  repeat (go_big_quiet_step ((go_at_call 109;first | with_reducible exact Kbw _ (HN1.out _) | with_reducible exact Kbw _ (HN2.out _))))
  refine wpQuiet_nil ?_;rintro W ⟨⟨_,hb2⟩,rfl⟩;have hrs2:=HRS.out.later hb2;clear hrs hcd hF3 c0 c1 q0 q1 hql hql2 hpl hb2 HRS;have HRS:=Jh hrs2;clear hrs2;have hrs:=HRS.out;have hcd:=h.below hrs.below;have hoff:W.cell? ⟨p,6,none⟩=some (.bool d.off):=by rw[←HP.out];exact Blk.cell hcd.blk 6
  obtain ⟨k,hk⟩:∃k,Kcc d.off r2=k:=⟨_,rfl⟩;have HK:=Jh hk;have HRD:=Jh (Kei (B0:=B0) (a:=a) p d.off r2 ⟨#[114,101,110,97,109,101]⟩ S k hk W hoff (hF.below (hrs.below.mono hB)));clear hk hcd hoff;go_wp2_with fail
  refine HRD.out.mono ?_;rintro _ W4 ⟨v,rfl,hv3,hb4⟩
  cases k with
  | succ k=>
   have hfin:Kac B0 a R A (Kak d S.data.toList S2.data.toList) ⟨#[114,101,110,97,109,101]⟩ S w (.returned v) W4:=by
    have e1:Kak d S.data.toList S2.data.toList=(k+1,d):=by
     have hk:=HK.out;unfold Kcc at hk;unfold Kak;rw[←hk,HR1.out,HR2.out]
     cases ho:d.off with
     | true=>simp
     | false=>
      rw[ho] at hk
      first
       | (simp;done)
       | (cases r2 with
         | true=>simp at hk
         | false=>simp)
    rw[e1];exact Kac.bad h (then_ hrs.below hb4) hv3
   obtain ⟨q4,rfl,_⟩:=hv3;have HFIN:=Jh hfin;clear hfin hb4 hrs;go_wp2_with fail
   go_ret
   exact HFIN.out
  | zero=>
   obtain rfl:v = .nilIface:=hv3
   obtain ⟨ho,hn⟩:d.off=false∧r2=true:=by
    have hk:=HK.out;unfold Kcc at hk
    cases ho:d.off with
    | true=>rw[ho] at hk;simp at hk
    | false=>
     rw[ho] at hk
     cases r2 with
     | true=>exact ⟨rfl,rfl⟩
     | false=>simp at hk
   have e1:Kak d S.data.toList S2.data.toList=if isT d.things S.data.toList=2∧nameB S2.data.toList=false then (2,d) else if isT d.things S.data.toList=0∨Kcs d.things S2.data.toList=false then (4,d) else if isT d.things S2.data.toList=2∨(isT d.things S2.data.toList=1∧(isT d.things S.data.toList=2∨S.data.toList=S2.data.toList)) then (5,d) else Kav d (.rename S.data.toList S2.data.toList):=by
    unfold Kak;rw[ho,HR1.out,HR2.out,hn];simp
   have HE1:=Jh e1;obtain rfl:r2=true:=hn;have hrs4:=hrs.later hb4;clear ho e1 HK hrs hb4 HRS HRD;have HRS:=Jh hrs4;clear hrs4 W
   revert W4
   intro W HRS;obtain ⟨rp,hrp⟩:∃r,Kcs d.things S2.data.toList=r:=⟨_,rfl⟩;have HRP:=Jh hrp;rcases Kdu d.things S.data.toList with ka | ka | ka
   ·have hrs:=HRS.out;have hcd:=h.below hrs.below;have hF3:=hF.below (hrs.below.mono hB);have c0:W.cell? ⟨p,0,none⟩=some (.map (some A.md)):=by rw[←HP.out];exact Blk.cell hcd.blk 0
    have c1:W.cell? ⟨p,1,none⟩=some (.map (some A.mf)):=by rw[←HP.out];exact Blk.cell hcd.blk 1
    have q0:W.cell? ⟨q,0,none⟩=some (.string S):=hrs.one.cell 0;have q1:W.cell? ⟨q+1,0,none⟩=some (.string S2):=hrs.two.cell 0;have hql:=hrs.one.lt;have hql2:=hrs.two.lt;have hpl:p < W.heap.size:=Kag c0;have hlk:=Kbz hcd hf S hS 0 (by rw[ka];rfl);go_upto_region 4 with fail
    refine Kab (by kernel_rfl) (by kernel_rfl) ?_
    repeat (go_big_quiet_step (fail))
    clear hlk;refine wpQuiet_nil ?_;rintro W ⟨⟨_,hb2⟩,rfl⟩;have hrs2:=HRS.out.later hb2;clear hrs hcd hF3 c0 c1 q0 q1 hql hql2 hpl hb2 HRS;have HRS:=Jh hrs2;clear hrs2;have hrs:=HRS.out;have hcd:=h.below hrs.below;have hF3:=hF.below (hrs.below.mono hB);have c0:W.cell? ⟨p,0,none⟩=some (.map (some A.md)):=by rw[←HP.out];exact Blk.cell hcd.blk 0
    have c1:W.cell? ⟨p,1,none⟩=some (.map (some A.mf)):=by rw[←HP.out];exact Blk.cell hcd.blk 1
    have q0:W.cell? ⟨q,0,none⟩=some (.string S):=hrs.one.cell 0;have q1:W.cell? ⟨q+1,0,none⟩=some (.string S2):=hrs.two.cell 0;have hql:=hrs.one.lt;have hql2:=hrs.two.lt;have hpl:p < W.heap.size:=Kag c0;obtain ⟨P,hP,hlf⟩:=Kdw hcd hf S hS;obtain rfl:P=none:=hP.2 (by rw[ka];omega);go_upto_region 7 with fail
    refine Kab (by kernel_rfl) (by kernel_rfl) ?_
    repeat (go_big_quiet_step (fail))
    clear hlf hP;refine wpQuiet_nil ?_;rintro W ⟨⟨_,hb2⟩,rfl⟩;have hrs2:=HRS.out.later hb2;clear hrs hcd hF3 c0 c1 q0 q1 hql hql2 hpl hb2 HRS;have HRS:=Jh hrs2;clear hrs2;have hrs:=HRS.out;have hF3:=hF.below (hrs.below.mono hB);have f0:_=some (failV a 4):=(hF3 4 (by decide)).2;have hfl:=Kbn (a:=a) ⟨#[114,101,110,97,109,101]⟩ S 3 W;unfold failV at f0 hfl;simp only[failG] at f0;have HFL:=Jh hfl;have e2:Kak d S.data.toList S2.data.toList=(4,d):=by (rw[HE1.out];(rw[if_neg (by rw[ka];simp),if_pos (.inl ka)]))
    have HE2:=Jh e2;have q0:W.cell? ⟨q,0,none⟩=some (.string S):=hrs.one.cell 0;clear hfl hF3 e2 hrs;go_wp2_with fail
    refine HFL.out.mono ?_;rintro e w5 ⟨v,rfl,hv5,hb5⟩
    have hfin:Kac B0 a R A (Kak d S.data.toList S2.data.toList) ⟨#[114,101,110,97,109,101]⟩ S w (.returned v) w5:=by
     rw[HE2.out];exact Kac.bad h (then_ HRS.out.below hb5) hv5
    have HFIN:=Jh hfin;clear hfin hv5;go_wp2_with fail
    go_ret
    exact HFIN.out
   ·have hrs:=HRS.out;have hcd:=h.below hrs.below;have hF3:=hF.below (hrs.below.mono hB);have c0:W.cell? ⟨p,0,none⟩=some (.map (some A.md)):=by rw[←HP.out];exact Blk.cell hcd.blk 0
    have c1:W.cell? ⟨p,1,none⟩=some (.map (some A.mf)):=by rw[←HP.out];exact Blk.cell hcd.blk 1
    have q0:W.cell? ⟨q,0,none⟩=some (.string S):=hrs.one.cell 0;have q1:W.cell? ⟨q+1,0,none⟩=some (.string S2):=hrs.two.cell 0;have hql:=hrs.one.lt;have hql2:=hrs.two.lt;have hpl:p < W.heap.size:=Kag c0;have hlk:=Kbz hcd hf S hS 0 (by rw[ka];rfl);go_upto_region 4 with fail
    refine Kab (by kernel_rfl) (by kernel_rfl) ?_
    repeat (go_big_quiet_step (fail))
    clear hlk;refine wpQuiet_nil ?_;rintro W ⟨⟨_,hb2⟩,rfl⟩;have hrs2:=HRS.out.later hb2;clear hrs hcd hF3 c0 c1 q0 q1 hql hql2 hpl hb2 HRS;have HRS:=Jh hrs2;clear hrs2;have hrs:=HRS.out;have hcd:=h.below hrs.below;have hF3:=hF.below (hrs.below.mono hB);have c0:W.cell? ⟨p,0,none⟩=some (.map (some A.md)):=by rw[←HP.out];exact Blk.cell hcd.blk 0
    have c1:W.cell? ⟨p,1,none⟩=some (.map (some A.mf)):=by rw[←HP.out];exact Blk.cell hcd.blk 1
    have q0:W.cell? ⟨q,0,none⟩=some (.string S):=hrs.one.cell 0;have q1:W.cell? ⟨q+1,0,none⟩=some (.string S2):=hrs.two.cell 0;have hql:=hrs.one.lt;have hql2:=hrs.two.lt;have hpl:p < W.heap.size:=Kag c0;obtain ⟨P,hP,hlf⟩:=Kdw hcd hf S hS
    obtain ⟨P',rfl⟩:∃P',P=some P':=by
     cases P with
     | none=>exact absurd ka (hP.1 rfl)
     | some P'=>exact ⟨P',rfl⟩
    go_upto_region 7 with fail
    refine Kab (by kernel_rfl) (by kernel_rfl) ?_
    repeat (go_big_quiet_step (fail))
    clear hlf hP;refine wpQuiet_nil ?_;rintro W ⟨⟨_,hb2⟩,rfl⟩;have hrs2:=HRS.out.later hb2;clear hrs hcd hF3 c0 c1 q0 q1 hql hql2 hpl hb2 HRS;have HRS:=Jh hrs2;clear hrs2;have hrs:=HRS.out;have hcd:=h.below hrs.below;have hF3:=hF.below (hrs.below.mono hB);have c0:W.cell? ⟨p,0,none⟩=some (.map (some A.md)):=by rw[←HP.out];exact Blk.cell hcd.blk 0
    have c1:W.cell? ⟨p,1,none⟩=some (.map (some A.mf)):=by rw[←HP.out];exact Blk.cell hcd.blk 1
    have q0:W.cell? ⟨q,0,none⟩=some (.string S):=hrs.one.cell 0;have q1:W.cell? ⟨q+1,0,none⟩=some (.string S2):=hrs.two.cell 0;have hql:=hrs.one.lt;have hql2:=hrs.two.lt;have hpl:p < W.heap.size:=Kag c0;have HPAR:=Jh (fun x:Later W=>Kgl A.md A.mf S2 rp hrp x.w (hcd.dirs.1.below x.h hcd.dirs.1.lt) hf.tw hS2);go_upto_region 8 with fail
    refine Kab (by kernel_rfl) (by kernel_rfl) ?_
    repeat (go_big_quiet_step ((go_at_call 114;exact Kbw _ (HPAR.out _))))
    clear HPAR;refine wpQuiet_nil ?_;rintro W ⟨⟨_,hb2⟩,rfl⟩;have hrs2:=HRS.out.later hb2;clear hrs hcd hF3 c0 c1 q0 q1 hql hql2 hpl hb2 HRS;have HRS:=Jh hrs2;clear hrs2
    cases rp with
    | false=>
     have hrs:=HRS.out;have hF3:=hF.below (hrs.below.mono hB);have f0:_=some (failV a 4):=(hF3 4 (by decide)).2;have hfl:=Kbn (a:=a) ⟨#[114,101,110,97,109,101]⟩ S 3 W;unfold failV at f0 hfl;simp only[failG] at f0;have HFL:=Jh hfl;have e2:Kak d S.data.toList S2.data.toList=(4,d):=by (rw[HE1.out];(rw[if_neg (by rw[ka];simp),if_pos (.inr HRP.out)]))
     have HE2:=Jh e2;have q0:W.cell? ⟨q,0,none⟩=some (.string S):=hrs.one.cell 0;clear hfl hF3 e2 hrs;go_wp2_with fail
     refine HFL.out.mono ?_;rintro e w5 ⟨v,rfl,hv5,hb5⟩
     have hfin:Kac B0 a R A (Kak d S.data.toList S2.data.toList) ⟨#[114,101,110,97,109,101]⟩ S w (.returned v) w5:=by
      rw[HE2.out];exact Kac.bad h (then_ HRS.out.below hb5) hv5
     have HFIN:=Jh hfin;clear hfin hv5;go_wp2_with fail
     go_ret
     exact HFIN.out
    | true=>
     rcases Kdu d.things S2.data.toList with kb | kb | kb
     ·have hrs:=HRS.out;have hcd:=h.below hrs.below;have hF3:=hF.below (hrs.below.mono hB);have c0:W.cell? ⟨p,0,none⟩=some (.map (some A.md)):=by rw[←HP.out];exact Blk.cell hcd.blk 0
      have c1:W.cell? ⟨p,1,none⟩=some (.map (some A.mf)):=by rw[←HP.out];exact Blk.cell hcd.blk 1
      have q0:W.cell? ⟨q,0,none⟩=some (.string S):=hrs.one.cell 0;have q1:W.cell? ⟨q+1,0,none⟩=some (.string S2):=hrs.two.cell 0;have hql:=hrs.one.lt;have hql2:=hrs.two.lt;have hpl:p < W.heap.size:=Kag c0;have hlk:=Kbz hcd hf S2 hS2 0 (by rw[kb];rfl);go_upto_region 10 with fail
      refine Kab (by kernel_rfl) (by kernel_rfl) ?_
      repeat (go_big_quiet_step (fail))
      clear hlk;refine wpQuiet_nil ?_;rintro W ⟨⟨_,hb2⟩,rfl⟩;have hrs2:=HRS.out.later hb2;clear hrs hcd hF3 c0 c1 q0 q1 hql hql2 hpl hb2 HRS;have HRS:=Jh hrs2;clear hrs2;have hrs:=HRS.out;have hcd:=h.below hrs.below;have hF3:=hF.below (hrs.below.mono hB);have c0:W.cell? ⟨p,0,none⟩=some (.map (some A.md)):=by rw[←HP.out];exact Blk.cell hcd.blk 0
      have c1:W.cell? ⟨p,1,none⟩=some (.map (some A.mf)):=by rw[←HP.out];exact Blk.cell hcd.blk 1
      have q0:W.cell? ⟨q,0,none⟩=some (.string S):=hrs.one.cell 0;have q1:W.cell? ⟨q+1,0,none⟩=some (.string S2):=hrs.two.cell 0;have hql:=hrs.one.lt;have hql2:=hrs.two.lt;have hpl:p < W.heap.size:=Kag c0;obtain ⟨P,hP,hlf⟩:=Kdw hcd hf S2 hS2;obtain rfl:P=none:=hP.2 (by rw[kb];omega);go_upto_region 11 with fail
      refine Kab (by kernel_rfl) (by kernel_rfl) ?_
      repeat (go_big_quiet_step (fail))
      clear hlf hP;refine wpQuiet_nil ?_;rintro W ⟨⟨_,hb2⟩,rfl⟩;have hrs2:=HRS.out.later hb2;clear hrs hcd hF3 c0 c1 q0 q1 hql hql2 hpl hb2 HRS;have HRS:=Jh hrs2;clear hrs2;have HE5:=Jh (show Kak d S.data.toList S2.data.toList=Kav d (.rename S.data.toList S2.data.toList) by rw[HE1.out,if_neg (by rw[ka];simp),if_neg (by rw[ka,HRP.out];simp),if_neg (by rw[kb];simp)]);have hrs:=HRS.out;have hF3:=hF.below (hrs.below.mono hB);have hcd:=h.below hrs.below;have hqW:=HQ.out;have hRq:R q=0:=h.inw.new (by omega);have hRq1:R (q+1)=0:=h.inw.new (by omega);have hcd7:CD B0 W (giv R q 5) A d:=hcd.grant hrs.one.lt hRq (by omega) 5;have hcd8:CD B0 W (giv (giv R q 5) (q+1) 5) A d:=hcd7.grant hrs.two.lt (by rw[Kaw (by omega)];exact hRq1) (by omega) 5
      have hST:StepM W (giv (giv R q 5) (q+1) 5) A.φ (.rename S.data.toList S2.data.toList) (.func (.func 119) #[] #[.pointer (some ⟨q,0,none⟩),.pointer (some ⟨q+1,0,none⟩)]):=by
       have e:txtV S.data.toList = .string S:=by unfold txtV;rw[←Kde rfl]
       have e2:txtV S2.data.toList = .string S2:=by unfold txtV;rw[←Kde rfl]
       refine ⟨q,q+1,rfl,?_,?_⟩
       ·rw[Box,e];exact ⟨hrs.one,by rw[Kaw (by omega)];exact Kcn _ _ _⟩
       ·rw[Box,e2];exact ⟨hrs.two,Kcn _ _ _⟩
      have hok:StOk d.files.length d.things (.rename S.data.toList S2.data.toList):=by (exact ⟨HR1.out,HR2.out,by rw[ka];omega,HRP.out,by rw[kb];omega,fun e=>(by rw[ka] at e;cases e),fun e=>by rw[e] at ka;rw[ka] at kb;cases kb⟩)
      have hnm:=Keh (a:=a) ⟨#[114,101,110,97,109,101]⟩ S (.rename S.data.toList S2.data.toList) _ _ W hcd8 hST hf.tw hok (by have:=hf.tl;omega) (by have:=hf.sl;omega) hf.aw (by have:=hrs.below.size;omega) hF3;rw[HP.out] at hnm
      have hOw:Own R (giv (giv R q 5) (q+1) 5) w W:=by
       have o1:Own R R w W:=Own.of_below hrs.below;exact ⟨o1.os,o1.tape,o1.output,o1.size,o1.block,fun k hk=>by rw[Kaw (by omega),Kaw (by omega)]⟩
      have HOW:=Jh hOw;have HNM2:=Jh hnm;have q0:W.cell? ⟨q,0,none⟩=some (.string S):=hrs.one.cell 0;clear hnm hST hcd hcd7 hcd8 hF3 hOw hok hrs hqW;go_wp2_with fail
      refine HNM2.out.mono ?_;rintro e w7 hN;obtain ⟨v,R',A',rfl,k2,k3,k4,k5,k6⟩:=hN
      have hfin:Kac B0 a R A (Kak d S.data.toList S2.data.toList) ⟨#[114,101,110,97,109,101]⟩ S w (.returned v) w7:=by
       rw[HE5.out];exact ⟨v,R',A',rfl,k2,k3,HOW.out.trans k4,k5,k6⟩
      have HFIN:=Jh hfin;clear hfin k2 k3 k4 k5;go_wp2_with fail
      go_ret
      exact HFIN.out
     ·have hrs:=HRS.out;have hcd:=h.below hrs.below;have hF3:=hF.below (hrs.below.mono hB);have c0:W.cell? ⟨p,0,none⟩=some (.map (some A.md)):=by rw[←HP.out];exact Blk.cell hcd.blk 0
      have c1:W.cell? ⟨p,1,none⟩=some (.map (some A.mf)):=by rw[←HP.out];exact Blk.cell hcd.blk 1
      have q0:W.cell? ⟨q,0,none⟩=some (.string S):=hrs.one.cell 0;have q1:W.cell? ⟨q+1,0,none⟩=some (.string S2):=hrs.two.cell 0;have hql:=hrs.one.lt;have hql2:=hrs.two.lt;have hpl:p < W.heap.size:=Kag c0;have hlk:=Kbz hcd hf S2 hS2 0 (by rw[kb];rfl);go_upto_region 10 with fail
      refine Kab (by kernel_rfl) (by kernel_rfl) ?_
      repeat (go_big_quiet_step (fail))
      clear hlk;refine wpQuiet_nil ?_;rintro W ⟨⟨_,hb2⟩,rfl⟩;have hrs2:=HRS.out.later hb2;clear hrs hcd hF3 c0 c1 q0 q1 hql hql2 hpl hb2 HRS;have HRS:=Jh hrs2;clear hrs2
      by_cases hSS:S=S2
      ·have hs2:decide (S=S2)=true:=by simpa using hSS
       have hs3:(S.toList == S2.toList)=true:=by rw[hSS];simp
       have hs4:(S == S2)=true:=by rw[hSS,beq_toListBytes];simp
       have hs5:decide (S.toList=S2.toList)=true:=by rw[hSS];simp
       have HSS:=Jh hSS;clear hSS;have hrs:=HRS.out;have hcd:=h.below hrs.below;have hF3:=hF.below (hrs.below.mono hB);have c0:W.cell? ⟨p,0,none⟩=some (.map (some A.md)):=by rw[←HP.out];exact Blk.cell hcd.blk 0
       have c1:W.cell? ⟨p,1,none⟩=some (.map (some A.mf)):=by rw[←HP.out];exact Blk.cell hcd.blk 1
       have q0:W.cell? ⟨q,0,none⟩=some (.string S):=hrs.one.cell 0;have q1:W.cell? ⟨q+1,0,none⟩=some (.string S2):=hrs.two.cell 0;have hql:=hrs.one.lt;have hql2:=hrs.two.lt;have hpl:p < W.heap.size:=Kag c0;obtain ⟨P,hP,hlf⟩:=Kdw hcd hf S2 hS2
       obtain ⟨P',rfl⟩:∃P',P=some P':=by
        cases P with
        | none=>exact absurd kb (hP.1 rfl)
        | some P'=>exact ⟨P',rfl⟩
       go_upto_region 11 with fail
       refine Kab (by kernel_rfl) (by kernel_rfl) ?_
       repeat (go_big_quiet_step (fail))
       clear hlf hP;refine wpQuiet_nil ?_;rintro W ⟨⟨_,hb2⟩,rfl⟩;have hrs2:=HRS.out.later hb2;clear hrs hcd hF3 c0 c1 q0 q1 hql hql2 hpl hb2 HRS;have HRS:=Jh hrs2;clear hrs2;have hrs:=HRS.out;have hF3:=hF.below (hrs.below.mono hB);have f0:_=some (failV a 5):=(hF3 5 (by decide)).2;have hfl:=Kbn (a:=a) ⟨#[114,101,110,97,109,101]⟩ S 4 W;unfold failV at f0 hfl;simp only[failG] at f0;have HFL:=Jh hfl;have e2:Kak d S.data.toList S2.data.toList=(5,d):=by (rw[HE1.out];(rw[if_neg (by rw[ka];simp),if_neg (by rw[ka,HRP.out];simp),if_pos (.inr ⟨kb,.inr (by rw[HSS.out])⟩)]))
       have HE2:=Jh e2;have q0:W.cell? ⟨q,0,none⟩=some (.string S):=hrs.one.cell 0;clear hfl hF3 e2 hrs;go_wp2_with fail
       refine HFL.out.mono ?_;rintro e w5 ⟨v,rfl,hv5,hb5⟩
       have hfin:Kac B0 a R A (Kak d S.data.toList S2.data.toList) ⟨#[114,101,110,97,109,101]⟩ S w (.returned v) w5:=by
        rw[HE2.out];exact Kac.bad h (then_ HRS.out.below hb5) hv5
       have HFIN:=Jh hfin;clear hfin hv5;go_wp2_with fail
       go_ret
       exact HFIN.out
      ·have hs2:decide (S=S2)=false:=by simpa using hSS
       have hl2:S.toList≠S2.toList:=fun e=>hSS (by
        rw[ByteArray.toList_eq,ByteArray.toList_eq] at e
        exact Kdt e)
       have hs3:(S.toList == S2.toList)=false:=by simpa using hl2
       have hs4:(S == S2)=false:=by rw[beq_toListBytes];exact hs3
       have hs5:decide (S.toList=S2.toList)=false:=by simpa using hl2
       clear hl2;have hrs:=HRS.out;have hcd:=h.below hrs.below;have hF3:=hF.below (hrs.below.mono hB);have c0:W.cell? ⟨p,0,none⟩=some (.map (some A.md)):=by rw[←HP.out];exact Blk.cell hcd.blk 0
       have c1:W.cell? ⟨p,1,none⟩=some (.map (some A.mf)):=by rw[←HP.out];exact Blk.cell hcd.blk 1
       have q0:W.cell? ⟨q,0,none⟩=some (.string S):=hrs.one.cell 0;have q1:W.cell? ⟨q+1,0,none⟩=some (.string S2):=hrs.two.cell 0;have hql:=hrs.one.lt;have hql2:=hrs.two.lt;have hpl:p < W.heap.size:=Kag c0;obtain ⟨P,hP,hlf⟩:=Kdw hcd hf S2 hS2
       obtain ⟨P',rfl⟩:∃P',P=some P':=by
        cases P with
        | none=>exact absurd kb (hP.1 rfl)
        | some P'=>exact ⟨P',rfl⟩
       go_upto_region 11 with fail
       refine Kab (by kernel_rfl) (by kernel_rfl) ?_
       repeat (go_big_quiet_step (fail))
       clear hlf hP;refine wpQuiet_nil ?_;rintro W ⟨⟨_,hb2⟩,rfl⟩;have hrs2:=HRS.out.later hb2;clear hrs hcd hF3 c0 c1 q0 q1 hql hql2 hpl hb2 HRS;have HRS:=Jh hrs2;clear hrs2;have hne:S.data.toList≠S2.data.toList:=fun e=>hSS (Kdt e)
       have HE5:=Jh (show Kak d S.data.toList S2.data.toList=Kav d (.rename S.data.toList S2.data.toList) by rw[HE1.out,if_neg (by rw[ka];simp),if_neg (by rw[ka,HRP.out];simp),if_neg (by rw[kb,ka];simpa using fun e=>hSS (Kdt (by rw[e])))]);have hrs:=HRS.out;have hF3:=hF.below (hrs.below.mono hB);have hcd:=h.below hrs.below;have hqW:=HQ.out;have hRq:R q=0:=h.inw.new (by omega);have hRq1:R (q+1)=0:=h.inw.new (by omega);have hcd7:CD B0 W (giv R q 5) A d:=hcd.grant hrs.one.lt hRq (by omega) 5;have hcd8:CD B0 W (giv (giv R q 5) (q+1) 5) A d:=hcd7.grant hrs.two.lt (by rw[Kaw (by omega)];exact hRq1) (by omega) 5
       have hST:StepM W (giv (giv R q 5) (q+1) 5) A.φ (.rename S.data.toList S2.data.toList) (.func (.func 119) #[] #[.pointer (some ⟨q,0,none⟩),.pointer (some ⟨q+1,0,none⟩)]):=by
        have e:txtV S.data.toList = .string S:=by unfold txtV;rw[←Kde rfl]
        have e2:txtV S2.data.toList = .string S2:=by unfold txtV;rw[←Kde rfl]
        refine ⟨q,q+1,rfl,?_,?_⟩
        ·rw[Box,e];exact ⟨hrs.one,by rw[Kaw (by omega)];exact Kcn _ _ _⟩
        ·rw[Box,e2];exact ⟨hrs.two,Kcn _ _ _⟩
       have hok:StOk d.files.length d.things (.rename S.data.toList S2.data.toList):=by (exact ⟨HR1.out,HR2.out,by rw[ka];omega,HRP.out,by rw[kb];omega,fun e=>(by rw[ka] at e;cases e),hne⟩)
       have hnm:=Keh (a:=a) ⟨#[114,101,110,97,109,101]⟩ S (.rename S.data.toList S2.data.toList) _ _ W hcd8 hST hf.tw hok (by have:=hf.tl;omega) (by have:=hf.sl;omega) hf.aw (by have:=hrs.below.size;omega) hF3;rw[HP.out] at hnm
       have hOw:Own R (giv (giv R q 5) (q+1) 5) w W:=by
        have o1:Own R R w W:=Own.of_below hrs.below;exact ⟨o1.os,o1.tape,o1.output,o1.size,o1.block,fun k hk=>by rw[Kaw (by omega),Kaw (by omega)]⟩
       have HOW:=Jh hOw;have HNM2:=Jh hnm;have q0:W.cell? ⟨q,0,none⟩=some (.string S):=hrs.one.cell 0;clear hnm hST hcd hcd7 hcd8 hF3 hOw hok hrs hqW;go_wp2_with fail
       refine HNM2.out.mono ?_;rintro e w7 hN;obtain ⟨v,R',A',rfl,k2,k3,k4,k5,k6⟩:=hN
       have hfin:Kac B0 a R A (Kak d S.data.toList S2.data.toList) ⟨#[114,101,110,97,109,101]⟩ S w (.returned v) w7:=by
        rw[HE5.out];exact ⟨v,R',A',rfl,k2,k3,HOW.out.trans k4,k5,k6⟩
       have HFIN:=Jh hfin;clear hfin k2 k3 k4 k5;go_wp2_with fail
       go_ret
       exact HFIN.out
     ·have hrs:=HRS.out;have hcd:=h.below hrs.below;have hF3:=hF.below (hrs.below.mono hB);have c0:W.cell? ⟨p,0,none⟩=some (.map (some A.md)):=by rw[←HP.out];exact Blk.cell hcd.blk 0
      have c1:W.cell? ⟨p,1,none⟩=some (.map (some A.mf)):=by rw[←HP.out];exact Blk.cell hcd.blk 1
      have q0:W.cell? ⟨q,0,none⟩=some (.string S):=hrs.one.cell 0;have q1:W.cell? ⟨q+1,0,none⟩=some (.string S2):=hrs.two.cell 0;have hql:=hrs.one.lt;have hql2:=hrs.two.lt;have hpl:p < W.heap.size:=Kag c0;have hlk:=Kbz hcd hf S2 hS2 1 (by rw[kb];rfl);go_upto_region 10 with fail
      refine Kab (by kernel_rfl) (by kernel_rfl) ?_
      repeat (go_big_quiet_step (fail))
      clear hlk;refine wpQuiet_nil ?_;rintro W ⟨⟨_,hb2⟩,rfl⟩;have hrs2:=HRS.out.later hb2;clear hrs hcd hF3 c0 c1 q0 q1 hql hql2 hpl hb2 HRS;have HRS:=Jh hrs2;clear hrs2;have hrs:=HRS.out;have hF3:=hF.below (hrs.below.mono hB);have f0:_=some (failV a 5):=(hF3 5 (by decide)).2;have hfl:=Kbn (a:=a) ⟨#[114,101,110,97,109,101]⟩ S 4 W;unfold failV at f0 hfl;simp only[failG] at f0;have HFL:=Jh hfl;have e2:Kak d S.data.toList S2.data.toList=(5,d):=by (rw[HE1.out];(rw[if_neg (by rw[ka];simp),if_neg (by rw[ka,HRP.out];simp),if_pos (.inl kb)]))
      have HE2:=Jh e2;have q0:W.cell? ⟨q,0,none⟩=some (.string S):=hrs.one.cell 0;clear hfl hF3 e2 hrs;go_wp2_with fail
      refine HFL.out.mono ?_;rintro e w5 ⟨v,rfl,hv5,hb5⟩
      have hfin:Kac B0 a R A (Kak d S.data.toList S2.data.toList) ⟨#[114,101,110,97,109,101]⟩ S w (.returned v) w5:=by
       rw[HE2.out];exact Kac.bad h (then_ HRS.out.below hb5) hv5
      have HFIN:=Jh hfin;clear hfin hv5;go_wp2_with fail
      go_ret
      exact HFIN.out
   ·have hrs:=HRS.out;have hcd:=h.below hrs.below;have hF3:=hF.below (hrs.below.mono hB);have c0:W.cell? ⟨p,0,none⟩=some (.map (some A.md)):=by rw[←HP.out];exact Blk.cell hcd.blk 0
    have c1:W.cell? ⟨p,1,none⟩=some (.map (some A.mf)):=by rw[←HP.out];exact Blk.cell hcd.blk 1
    have q0:W.cell? ⟨q,0,none⟩=some (.string S):=hrs.one.cell 0;have q1:W.cell? ⟨q+1,0,none⟩=some (.string S2):=hrs.two.cell 0;have hql:=hrs.one.lt;have hql2:=hrs.two.lt;have hpl:p < W.heap.size:=Kag c0;have hlk:=Kbz hcd hf S hS 1 (by rw[ka];rfl);go_upto_region 4 with fail
    refine Kab (by kernel_rfl) (by kernel_rfl) ?_
    repeat (go_big_quiet_step (fail))
    clear hlk;refine wpQuiet_nil ?_;rintro W ⟨⟨_,hb2⟩,rfl⟩;have hrs2:=HRS.out.later hb2;clear hrs hcd hF3 c0 c1 q0 q1 hql hql2 hpl hb2 HRS;have HRS:=Jh hrs2;clear hrs2;obtain ⟨nb,hnb⟩:∃r,nameB S2.data.toList=r:=⟨_,rfl⟩;have HNB:=Jh hnb;have HNAME:=Jh (fun w=>Kje S2 nb hnb hS2 w);clear hnb;have q1:W.cell? ⟨q+1,0,none⟩=some (.string S2):=HRS.out.two.cell 0;go_wp2_with fail
    refine (HNAME.out W).mono ?_;rintro _ W5 ⟨rfl,rfl⟩;clear q1
    cases nb with
    | false=>
     have hrs:=HRS.out;have hF3:=hF.below (hrs.below.mono hB);have f0:_=some (failV a 2):=(hF3 2 (by decide)).2;have hfl:=Kbn (a:=a) ⟨#[114,101,110,97,109,101]⟩ S 1 W;unfold failV at f0 hfl;simp only[failG] at f0;have HFL:=Jh hfl;have e2:Kak d S.data.toList S2.data.toList=(2,d):=by (rw[HE1.out];(rw[if_pos ⟨ka,HNB.out⟩]))
     have HE2:=Jh e2;have q0:W.cell? ⟨q,0,none⟩=some (.string S):=hrs.one.cell 0;clear hfl hF3 e2 hrs;go_wp2_with fail
     refine HFL.out.mono ?_;rintro e w5 ⟨v,rfl,hv5,hb5⟩
     have hfin:Kac B0 a R A (Kak d S.data.toList S2.data.toList) ⟨#[114,101,110,97,109,101]⟩ S w (.returned v) w5:=by
      rw[HE2.out];exact Kac.bad h (then_ HRS.out.below hb5) hv5
     have HFIN:=Jh hfin;clear hfin hv5;go_wp2_with fail
     go_ret
     exact HFIN.out
    | true=>
     go_upto_region 7 with fail
     have hrs:=HRS.out;have hcd:=h.below hrs.below;have hF3:=hF.below (hrs.below.mono hB);have c0:W.cell? ⟨p,0,none⟩=some (.map (some A.md)):=by rw[←HP.out];exact Blk.cell hcd.blk 0
     have c1:W.cell? ⟨p,1,none⟩=some (.map (some A.mf)):=by rw[←HP.out];exact Blk.cell hcd.blk 1
     have q0:W.cell? ⟨q,0,none⟩=some (.string S):=hrs.one.cell 0;have q1:W.cell? ⟨q+1,0,none⟩=some (.string S2):=hrs.two.cell 0;have hql:=hrs.one.lt;have hql2:=hrs.two.lt;have hpl:p < W.heap.size:=Kag c0;refine Kab (by kernel_rfl) (by kernel_rfl) ?_
     repeat (go_big_quiet_step (fail))
     refine wpQuiet_nil ?_;rintro W ⟨⟨_,hb2⟩,rfl⟩;have hrs2:=HRS.out.later hb2;clear hrs hcd hF3 c0 c1 q0 q1 hql hql2 hpl hb2 HRS;have HRS:=Jh hrs2;clear hrs2;have hrs:=HRS.out;have hcd:=h.below hrs.below;have hF3:=hF.below (hrs.below.mono hB);have c0:W.cell? ⟨p,0,none⟩=some (.map (some A.md)):=by rw[←HP.out];exact Blk.cell hcd.blk 0
     have c1:W.cell? ⟨p,1,none⟩=some (.map (some A.mf)):=by rw[←HP.out];exact Blk.cell hcd.blk 1
     have q0:W.cell? ⟨q,0,none⟩=some (.string S):=hrs.one.cell 0;have q1:W.cell? ⟨q+1,0,none⟩=some (.string S2):=hrs.two.cell 0;have hql:=hrs.one.lt;have hql2:=hrs.two.lt;have hpl:p < W.heap.size:=Kag c0;have HPAR:=Jh (fun x:Later W=>Kgl A.md A.mf S2 rp hrp x.w (hcd.dirs.1.below x.h hcd.dirs.1.lt) hf.tw hS2);go_upto_region 8 with fail
     refine Kab (by kernel_rfl) (by kernel_rfl) ?_
     repeat (go_big_quiet_step ((go_at_call 114;exact Kbw _ (HPAR.out _))))
     clear HPAR;refine wpQuiet_nil ?_;rintro W ⟨⟨_,hb2⟩,rfl⟩;have hrs2:=HRS.out.later hb2;clear hrs hcd hF3 c0 c1 q0 q1 hql hql2 hpl hb2 HRS;have HRS:=Jh hrs2;clear hrs2
     cases rp with
     | false=>
      have hrs:=HRS.out;have hF3:=hF.below (hrs.below.mono hB);have f0:_=some (failV a 4):=(hF3 4 (by decide)).2;have hfl:=Kbn (a:=a) ⟨#[114,101,110,97,109,101]⟩ S 3 W;unfold failV at f0 hfl;simp only[failG] at f0;have HFL:=Jh hfl;have e2:Kak d S.data.toList S2.data.toList=(4,d):=by (rw[HE1.out];(rw[if_neg (fun e=>by rw[HNB.out] at e;cases e.2),if_pos (.inr HRP.out)]))
      have HE2:=Jh e2;have q0:W.cell? ⟨q,0,none⟩=some (.string S):=hrs.one.cell 0;clear hfl hF3 e2 hrs;go_wp2_with fail
      refine HFL.out.mono ?_;rintro e w5 ⟨v,rfl,hv5,hb5⟩
      have hfin:Kac B0 a R A (Kak d S.data.toList S2.data.toList) ⟨#[114,101,110,97,109,101]⟩ S w (.returned v) w5:=by
       rw[HE2.out];exact Kac.bad h (then_ HRS.out.below hb5) hv5
      have HFIN:=Jh hfin;clear hfin hv5;go_wp2_with fail
      go_ret
      exact HFIN.out
     | true=>
      rcases Kdu d.things S2.data.toList with kb | kb | kb
      ·have hrs:=HRS.out;have hcd:=h.below hrs.below;have hF3:=hF.below (hrs.below.mono hB);have c0:W.cell? ⟨p,0,none⟩=some (.map (some A.md)):=by rw[←HP.out];exact Blk.cell hcd.blk 0
       have c1:W.cell? ⟨p,1,none⟩=some (.map (some A.mf)):=by rw[←HP.out];exact Blk.cell hcd.blk 1
       have q0:W.cell? ⟨q,0,none⟩=some (.string S):=hrs.one.cell 0;have q1:W.cell? ⟨q+1,0,none⟩=some (.string S2):=hrs.two.cell 0;have hql:=hrs.one.lt;have hql2:=hrs.two.lt;have hpl:p < W.heap.size:=Kag c0;have hlk:=Kbz hcd hf S2 hS2 0 (by rw[kb];rfl);go_upto_region 10 with fail
       refine Kab (by kernel_rfl) (by kernel_rfl) ?_
       repeat (go_big_quiet_step (fail))
       clear hlk;refine wpQuiet_nil ?_;rintro W ⟨⟨_,hb2⟩,rfl⟩;have hrs2:=HRS.out.later hb2;clear hrs hcd hF3 c0 c1 q0 q1 hql hql2 hpl hb2 HRS;have HRS:=Jh hrs2;clear hrs2;have hrs:=HRS.out;have hcd:=h.below hrs.below;have hF3:=hF.below (hrs.below.mono hB);have c0:W.cell? ⟨p,0,none⟩=some (.map (some A.md)):=by rw[←HP.out];exact Blk.cell hcd.blk 0
       have c1:W.cell? ⟨p,1,none⟩=some (.map (some A.mf)):=by rw[←HP.out];exact Blk.cell hcd.blk 1
       have q0:W.cell? ⟨q,0,none⟩=some (.string S):=hrs.one.cell 0;have q1:W.cell? ⟨q+1,0,none⟩=some (.string S2):=hrs.two.cell 0;have hql:=hrs.one.lt;have hql2:=hrs.two.lt;have hpl:p < W.heap.size:=Kag c0;obtain ⟨P,hP,hlf⟩:=Kdw hcd hf S2 hS2;obtain rfl:P=none:=hP.2 (by rw[kb];omega);go_upto_region 11 with fail
       refine Kab (by kernel_rfl) (by kernel_rfl) ?_
       repeat (go_big_quiet_step (fail))
       clear hlf hP;refine wpQuiet_nil ?_;rintro W ⟨⟨_,hb2⟩,rfl⟩;have hrs2:=HRS.out.later hb2;clear hrs hcd hF3 c0 c1 q0 q1 hql hql2 hpl hb2 HRS;have HRS:=Jh hrs2;clear hrs2;have HE5:=Jh (show Kak d S.data.toList S2.data.toList=Kav d (.rename S.data.toList S2.data.toList) by rw[HE1.out,if_neg (fun e=>by rw[HNB.out] at e;cases e.2),if_neg (by rw[ka,HRP.out];simp),if_neg (by rw[kb];simp)]);have hrs:=HRS.out;have hF3:=hF.below (hrs.below.mono hB);have hcd:=h.below hrs.below;have hqW:=HQ.out;have hRq:R q=0:=h.inw.new (by omega);have hRq1:R (q+1)=0:=h.inw.new (by omega);have hcd7:CD B0 W (giv R q 5) A d:=hcd.grant hrs.one.lt hRq (by omega) 5;have hcd8:CD B0 W (giv (giv R q 5) (q+1) 5) A d:=hcd7.grant hrs.two.lt (by rw[Kaw (by omega)];exact hRq1) (by omega) 5
       have hST:StepM W (giv (giv R q 5) (q+1) 5) A.φ (.rename S.data.toList S2.data.toList) (.func (.func 119) #[] #[.pointer (some ⟨q,0,none⟩),.pointer (some ⟨q+1,0,none⟩)]):=by
        have e:txtV S.data.toList = .string S:=by unfold txtV;rw[←Kde rfl]
        have e2:txtV S2.data.toList = .string S2:=by unfold txtV;rw[←Kde rfl]
        refine ⟨q,q+1,rfl,?_,?_⟩
        ·rw[Box,e];exact ⟨hrs.one,by rw[Kaw (by omega)];exact Kcn _ _ _⟩
        ·rw[Box,e2];exact ⟨hrs.two,Kcn _ _ _⟩
       have hok:StOk d.files.length d.things (.rename S.data.toList S2.data.toList):=by (exact ⟨HR1.out,HR2.out,by rw[ka];omega,HRP.out,by rw[kb];omega,fun e=>⟨HNB.out,kb⟩,fun e=>by rw[e] at ka;rw[ka] at kb;cases kb⟩)
       have hnm:=Keh (a:=a) ⟨#[114,101,110,97,109,101]⟩ S (.rename S.data.toList S2.data.toList) _ _ W hcd8 hST hf.tw hok (by have:=hf.tl;omega) (by have:=hf.sl;omega) hf.aw (by have:=hrs.below.size;omega) hF3;rw[HP.out] at hnm
       have hOw:Own R (giv (giv R q 5) (q+1) 5) w W:=by
        have o1:Own R R w W:=Own.of_below hrs.below;exact ⟨o1.os,o1.tape,o1.output,o1.size,o1.block,fun k hk=>by rw[Kaw (by omega),Kaw (by omega)]⟩
       have HOW:=Jh hOw;have HNM2:=Jh hnm;have q0:W.cell? ⟨q,0,none⟩=some (.string S):=hrs.one.cell 0;clear hnm hST hcd hcd7 hcd8 hF3 hOw hok hrs hqW;go_wp2_with fail
       refine HNM2.out.mono ?_;rintro e w7 hN;obtain ⟨v,R',A',rfl,k2,k3,k4,k5,k6⟩:=hN
       have hfin:Kac B0 a R A (Kak d S.data.toList S2.data.toList) ⟨#[114,101,110,97,109,101]⟩ S w (.returned v) w7:=by
        rw[HE5.out];exact ⟨v,R',A',rfl,k2,k3,HOW.out.trans k4,k5,k6⟩
       have HFIN:=Jh hfin;clear hfin k2 k3 k4 k5;go_wp2_with fail
       go_ret
       exact HFIN.out
      ·have hrs:=HRS.out;have hcd:=h.below hrs.below;have hF3:=hF.below (hrs.below.mono hB);have c0:W.cell? ⟨p,0,none⟩=some (.map (some A.md)):=by rw[←HP.out];exact Blk.cell hcd.blk 0
       have c1:W.cell? ⟨p,1,none⟩=some (.map (some A.mf)):=by rw[←HP.out];exact Blk.cell hcd.blk 1
       have q0:W.cell? ⟨q,0,none⟩=some (.string S):=hrs.one.cell 0;have q1:W.cell? ⟨q+1,0,none⟩=some (.string S2):=hrs.two.cell 0;have hql:=hrs.one.lt;have hql2:=hrs.two.lt;have hpl:p < W.heap.size:=Kag c0;have hlk:=Kbz hcd hf S2 hS2 0 (by rw[kb];rfl);go_upto_region 10 with fail
       refine Kab (by kernel_rfl) (by kernel_rfl) ?_
       repeat (go_big_quiet_step (fail))
       clear hlk;refine wpQuiet_nil ?_;rintro W ⟨⟨_,hb2⟩,rfl⟩;have hrs2:=HRS.out.later hb2;clear hrs hcd hF3 c0 c1 q0 q1 hql hql2 hpl hb2 HRS;have HRS:=Jh hrs2;clear hrs2;have hrs:=HRS.out;have hcd:=h.below hrs.below;have hF3:=hF.below (hrs.below.mono hB);have c0:W.cell? ⟨p,0,none⟩=some (.map (some A.md)):=by rw[←HP.out];exact Blk.cell hcd.blk 0
       have c1:W.cell? ⟨p,1,none⟩=some (.map (some A.mf)):=by rw[←HP.out];exact Blk.cell hcd.blk 1
       have q0:W.cell? ⟨q,0,none⟩=some (.string S):=hrs.one.cell 0;have q1:W.cell? ⟨q+1,0,none⟩=some (.string S2):=hrs.two.cell 0;have hql:=hrs.one.lt;have hql2:=hrs.two.lt;have hpl:p < W.heap.size:=Kag c0;obtain ⟨P,hP,hlf⟩:=Kdw hcd hf S2 hS2
       obtain ⟨P',rfl⟩:∃P',P=some P':=by
        cases P with
        | none=>exact absurd kb (hP.1 rfl)
        | some P'=>exact ⟨P',rfl⟩
       go_upto_region 11 with fail
       refine Kab (by kernel_rfl) (by kernel_rfl) ?_
       repeat (go_big_quiet_step (fail))
       clear hlf hP;refine wpQuiet_nil ?_;rintro W ⟨⟨_,hb2⟩,rfl⟩;have hrs2:=HRS.out.later hb2;clear hrs hcd hF3 c0 c1 q0 q1 hql hql2 hpl hb2 HRS;have HRS:=Jh hrs2;clear hrs2;have hrs:=HRS.out;have hF3:=hF.below (hrs.below.mono hB);have f0:_=some (failV a 5):=(hF3 5 (by decide)).2;have hfl:=Kbn (a:=a) ⟨#[114,101,110,97,109,101]⟩ S 4 W;unfold failV at f0 hfl;simp only[failG] at f0;have HFL:=Jh hfl;have e2:Kak d S.data.toList S2.data.toList=(5,d):=by (rw[HE1.out];(rw[if_neg (fun e=>by rw[HNB.out] at e;cases e.2),if_neg (by rw[ka,HRP.out];simp),if_pos (.inr ⟨kb,.inl ka⟩)]))
       have HE2:=Jh e2;have q0:W.cell? ⟨q,0,none⟩=some (.string S):=hrs.one.cell 0;clear hfl hF3 e2 hrs;go_wp2_with fail
       refine HFL.out.mono ?_;rintro e w5 ⟨v,rfl,hv5,hb5⟩
       have hfin:Kac B0 a R A (Kak d S.data.toList S2.data.toList) ⟨#[114,101,110,97,109,101]⟩ S w (.returned v) w5:=by
        rw[HE2.out];exact Kac.bad h (then_ HRS.out.below hb5) hv5
       have HFIN:=Jh hfin;clear hfin hv5;go_wp2_with fail
       go_ret
       exact HFIN.out
      ·have hrs:=HRS.out;have hcd:=h.below hrs.below;have hF3:=hF.below (hrs.below.mono hB);have c0:W.cell? ⟨p,0,none⟩=some (.map (some A.md)):=by rw[←HP.out];exact Blk.cell hcd.blk 0
       have c1:W.cell? ⟨p,1,none⟩=some (.map (some A.mf)):=by rw[←HP.out];exact Blk.cell hcd.blk 1
       have q0:W.cell? ⟨q,0,none⟩=some (.string S):=hrs.one.cell 0;have q1:W.cell? ⟨q+1,0,none⟩=some (.string S2):=hrs.two.cell 0;have hql:=hrs.one.lt;have hql2:=hrs.two.lt;have hpl:p < W.heap.size:=Kag c0;have hlk:=Kbz hcd hf S2 hS2 1 (by rw[kb];rfl);go_upto_region 10 with fail
       refine Kab (by kernel_rfl) (by kernel_rfl) ?_
       repeat (go_big_quiet_step (fail))
       clear hlk;refine wpQuiet_nil ?_;rintro W ⟨⟨_,hb2⟩,rfl⟩;have hrs2:=HRS.out.later hb2;clear hrs hcd hF3 c0 c1 q0 q1 hql hql2 hpl hb2 HRS;have HRS:=Jh hrs2;clear hrs2;have hrs:=HRS.out;have hF3:=hF.below (hrs.below.mono hB);have f0:_=some (failV a 5):=(hF3 5 (by decide)).2;have hfl:=Kbn (a:=a) ⟨#[114,101,110,97,109,101]⟩ S 4 W;unfold failV at f0 hfl;simp only[failG] at f0;have HFL:=Jh hfl;have e2:Kak d S.data.toList S2.data.toList=(5,d):=by (rw[HE1.out];(rw[if_neg (fun e=>by rw[HNB.out] at e;cases e.2),if_neg (by rw[ka,HRP.out];simp),if_pos (.inl kb)]))
       have HE2:=Jh e2;have q0:W.cell? ⟨q,0,none⟩=some (.string S):=hrs.one.cell 0;clear hfl hF3 e2 hrs;go_wp2_with fail
       refine HFL.out.mono ?_;rintro e w5 ⟨v,rfl,hv5,hb5⟩
       have hfin:Kac B0 a R A (Kak d S.data.toList S2.data.toList) ⟨#[114,101,110,97,109,101]⟩ S w (.returned v) w5:=by
        rw[HE2.out];exact Kac.bad h (then_ HRS.out.below hb5) hv5
       have HFIN:=Jh hfin;clear hfin hv5;go_wp2_with fail
       go_ret
       exact HFIN.out
end
end
section
open Go.RowKit Go.Shelf Go.Maps Go.Sort
attribute [local go_sem ↓] Go.wp_at_zero Go.wp_at_succ
attribute [local go_sem] Later.cell
def Kcg (M:Nat):List Ch→Nat→Prop
 | [],_=>True
 | c :: r,n=>if c.cut then c.size≤n∧Kcg M r c.size else n+c.text.length≤M∧Kcg M r (n+c.text.length)
end
section
def Chain (n:Nat):List Th→List St→Prop
 | _,[]=>True
 | l,s :: r=>StOk n l s∧Chain n (Kaj l s) r
theorem Chain.append {n:Nat}:∀{l:List Th} {r:List St} {s:St},Chain n l r→StOk n (r.foldl Kaj l) s→Chain n l (r ++ [s])
 | _,[],_,_,h=>⟨h,trivial⟩
 | _,_ :: _,_,h,k=>⟨h.1,Chain.append h.2 k⟩
theorem StOk.more {n m:Nat} {l:List Th} {s:St} (h:StOk n l s) (hm:n≤m):StOk m l s:=by
 cases s with
 | mkdir a=>exact h
 | create a i=>exact ⟨h.1,h.2.1,h.2.2.1,by have:=h.2.2.2.1;omega,h.2.2.2.2⟩
 | remove a=>exact h
 | rename a b=>exact h
theorem Chain.more {n m:Nat} (hm:n≤m):∀{l:List Th} {r:List St},Chain n l r→Chain m l r
 | _,[],_=>trivial
 | _,_ :: _,h=>⟨h.1.more hm,Chain.more hm h.2⟩
theorem TW.more {n m:Nat} {l:List Th} (h:TW n l) (hm:n≤m):TW m l:=⟨h.nodup,h.dirs,h.paths,h.par,fun x hx hd=>by have:=h.ats x hx hd;omega,h.inj⟩
theorem Chain.tw {n:Nat}:∀{l:List Th} {r:List St},TW n l→Chain n l r→TW n (r.foldl Kaj l)
 | _,[],h,_=>h
 | l,s :: r,h,k=>by rw[List.foldl_cons];exact Chain.tw (h.apply k.1) k.2
theorem Chain.at_ {n:Nat}:∀{l:List Th} {r:List St} {i:Nat} {s:St},Chain n l r→r[i]? = some s→StOk n ((r.take i).foldl Kaj l) s
 | _,_ :: _,0,_,h,e=>by simp at e;subst e;exact h.1
 | _,_ :: _,_+1,_,h,e=>by simpa using Chain.at_ h.2 (by simpa using e)
theorem Qar (l:List Th) (s:St):(Kaj l s).length≤l.length+1:=by
 cases s with
 | mkdir a=>simp[Kaj]
 | create a i=>simp[Kaj]
 | remove a=>simp only[Kaj];exact Nat.le_succ_of_le (List.length_filter_le _ _)
 | rename a b=>simp only[Kaj,List.length_map];exact Nat.le_succ_of_le (List.length_filter_le _ _)
theorem Krp:∀(r:List St) (l:List Th),(r.foldl Kaj l).length≤l.length+r.length
 | [],_=>Nat.le_refl _
 | s :: r,l=>by
  have h1:=Krp r (Kaj l s);have h2:=Qar l s;simp only[List.foldl_cons,List.length_cons];omega
def lenOf:List Ch→Nat→Nat
 | [],n=>n
 | c :: r,n=>lenOf r (if c.cut then c.size else n+c.text.length)
theorem Kkv:∀(r:List Ch) (c:Ch) (n:Nat),lenOf (r ++ [c]) n=if c.cut then c.size else lenOf r n+c.text.length
 | [],c,n=>rfl
 | x :: r,c,n=>by rw[List.cons_append,lenOf,Kkv r c];rfl
theorem Kxg (r:List Ch) (c:Ch):units (r ++ [c])=units r+(c.text.length+if c.cut then 1 else 0):=by
 unfold units;simp
theorem Qcy (r:List Ch) (c:Ch):units (c :: r)=(c.text.length+if c.cut then 1 else 0)+units r:=by
 unfold units;simp
theorem Knw {M:Nat}:∀(r:List Ch) (n:Nat),Kcg M r n→lenOf r n≤n+units r
 | [],n,_=>by simp[lenOf]
 | c :: r,n,h=>by
  rw[lenOf,Qcy];unfold Kcg at h
  cases hc:c.cut with
  | true=>
   rw[hc] at h;simp only[if_true] at h ⊢;have:=Knw r c.size h.2;omega
  | false=>
   rw[hc] at h;simp only[Bool.false_eq_true,if_false] at h ⊢;have:=Knw r _ h.2;omega
theorem Kcg.more {M M':Nat} (hM:M≤M'):∀{r:List Ch} {n:Nat},Kcg M r n→Kcg M' r n
 | [],_,_=>trivial
 | c :: r,n,h=>by
  unfold Kcg at h ⊢
  split
  ·rename_i hc
   rw[if_pos hc] at h;exact ⟨h.1,Kcg.more hM h.2⟩
  ·rename_i hc
   rw[if_neg hc] at h;exact ⟨by omega,Kcg.more hM h.2⟩
theorem Kcg.append {M:Nat}:∀{r:List Ch} {c:Ch} {n:Nat},Kcg M r n→(if c.cut then c.size≤lenOf r n else lenOf r n+c.text.length≤M)→Kcg M (r ++ [c]) n
 | [],c,n,_,h=>by
  rw[List.nil_append];unfold Kcg
  split
  ·rename_i hc
   rw[if_pos hc] at h;exact ⟨h,trivial⟩
  ·rename_i hc
   rw[if_neg hc] at h;exact ⟨h,trivial⟩
 | x :: r,c,n,h,k=>by
  rw[List.cons_append];unfold Kcg at h ⊢;rw[lenOf] at k
  split
  ·rename_i hx
   rw[if_pos hx] at h k;exact ⟨h.1,Kcg.append h.2 k⟩
  ·rename_i hx
   rw[if_neg hx] at h k;exact ⟨h.1,Kcg.append h.2 k⟩
structure FOk (M:Nat) (f:By):Prop where
 ok:Kcg M f.steps f.safe.length
 len:lenOf f.steps f.safe.length=f.now.length
 sum:f.safe.length+units f.steps≤M
 sl:f.steps.length≤M
section
variable {M M' : Nat} {f : By}
theorem FOk.more (h:FOk M f) (hM:M≤M'):FOk M' f:=⟨h.ok.more hM,h.len,Nat.le_trans h.sum hM,Nat.le_trans h.sl hM⟩
theorem FOk.now (h:FOk M f):f.now.length≤M:=by
 have h1:=Knw _ _ h.ok;have h2:=h.len;have h3:=h.sum;omega
theorem FOk.plain {s:Txt} (h:s.length≤M):FOk M ⟨s,s,[]⟩:=⟨trivial,rfl,by simp[units];exact h,Nat.zero_le _⟩
theorem FOk.append (h:FOk M f) (t:Txt):FOk (M+t.length+1) { f with now:=f.now++t,steps:=f.steps ++ [⟨t,false,0⟩] } where
 ok:=(h.ok.more (by omega)).append (by
  have h1:=h.now;have h2:=h.len;simp only[Bool.false_eq_true,if_false]
  omega)
 len:=by
  have h2:=h.len;simp[Kkv,h2]
 sum:=by
  have h3:=h.sum;simp only[Kxg,Bool.false_eq_true,if_false];omega
 sl:=by
  have:=h.sl;simp;omega
end
structure WF (M:Nat) (d:Ds):Prop where
 safe:TW d.files.length d.safe
 chain:Chain d.files.length d.safe d.steps
 things:d.things=d.steps.foldl Kaj d.safe
 files:∀f∈d.files,FOk M f
 names:d.safe.length+d.steps.length≤M
 fl:d.files.length≤M
 aw:d.await≤9223372036854775807
 cap:d.cap≤67108864
section
variable {M M' : Nat} {d : Ds}
theorem WF.more (h:WF M d) (hM:M≤M'):WF M' d:=⟨h.safe,h.chain,h.things,fun f hf=>(h.files f hf).more hM,Nat.le_trans h.names hM,Nat.le_trans h.fl hM,h.aw,h.cap⟩
theorem WF.tw (h:WF M d):TW d.files.length d.things:=by rw[h.things];exact h.chain.tw h.safe
theorem WF.tl (h:WF M d):d.things.length≤M:=by
 rw[h.things];exact Nat.le_trans (Krp _ _) h.names
theorem WF.fit (h:WF M d) (hM:M≤536870912):Fit d:=⟨h.tw,Nat.le_trans h.tl hM,by have:=h.names;omega,Nat.le_trans h.fl hM,h.aw⟩
theorem WF.nums (h:WF M d):Nums d:=by
 refine ⟨h.tw.ats,h.safe.ats,fun s i hs=>?_⟩;obtain ⟨j,hj⟩:=List.mem_iff_getElem?.1 hs;exact (h.chain.at_ hj).2.2.2.1
theorem WF.fAt (h:WF M d) (i:Nat):FOk M (fAt d i):=by
 unfold Go.Proofs.YtefpndiiedkmpaaGreatDoor.fAt
 cases hf:d.files[i]? with
 | none=>exact FOk.plain (Nat.zero_le _)
 | some f=>exact h.files f (List.mem_of_getElem? hf)
theorem WF.new (n:Int):WF 0 (newD n) where
 safe:=⟨by simp[newD],by simp[newD],by simp[newD],by simp[newD],by simp[newD],by simp[newD]⟩
 chain:=trivial
 things:=rfl
 files:=by simp[newD]
 names:=by simp[newD]
 fl:=by simp[newD]
 aw:=by simp[newD]
 cap:=by simp[newD];omega
theorem WF.same (h:WF M d) {d':Ds} (h1:d'.things=d.things) (h2:d'.safe=d.safe) (h3:d'.steps=d.steps) (h4:d'.files=d.files) (h5:d'.await≤9223372036854775807) (h6:d'.cap=d.cap):WF M d':=
 ⟨by rw[h4,h2];exact h.safe,by rw[h4,h2,h3];exact h.chain,by rw[h1,h2,h3];exact h.things,by rw[h4];exact h.files,by rw[h2,h3];exact h.names,by rw[h4];exact h.fl,h5,by rw[h6];exact h.cap⟩
theorem Kgu (d:Ds):(stepD d).2.things=d.things∧(stepD d).2.safe=d.safe∧(stepD d).2.steps=d.steps∧(stepD d).2.files=d.files∧(stepD d).2.await≤d.await∧(stepD d).2.cap=d.cap:=by
 unfold stepD
 split
 ·exact ⟨rfl,rfl,rfl,rfl,Nat.le_refl _,rfl⟩
 ·split
  ·exact ⟨rfl,rfl,rfl,rfl,Nat.zero_le _,rfl⟩
  ·exact ⟨rfl,rfl,rfl,rfl,Nat.sub_le _ _,rfl⟩
theorem WF.step (h:WF M d):WF M (stepD d).2:=by
 obtain ⟨h1,h2,h3,h4,h5,h6⟩:=Kgu d;exact h.same h1 h2 h3 h4 (Nat.le_trans h5 h.aw) h6
theorem WF.names_ (h:WF M d) {s:St} (hs:StOk d.files.length d.things s):WF (M+1) (Kav d s).2:=by
 unfold Kav;obtain ⟨h1,h2,h3,h4,h5,h6⟩:=Kgu d
 split
 ·exact h.step.more (by omega)
 ·exact {
   safe:=by simp only[h2,h4];exact h.safe
   chain:=by simp only[h2,h4];exact h.chain.append (by rw[←h.things];exact hs)
   things:=by simp only[h2];rw[List.foldl_append,←h.things];rfl
   files:=by simp only[h4];exact fun f hf=>(h.files f hf).more (by omega)
   names:=by simp only[h2,List.length_append];have:=h.names;simp;omega
   fl:=by simp only[h4];have:=h.fl;omega
   aw:=Nat.le_trans h5 h.aw
   cap:=by simp only[h6];exact h.cap }
theorem WF.mkdir (h:WF M d) (s:Txt):WF (M+1) (Qez d s).2:=by
 unfold Qez
 split
 ·exact h.more (by omega)
 split
 ·exact h.more (by omega)
 split
 ·exact h.more (by omega)
 rename_i h1 h2 h3
 exact h.names_ ⟨by simpa using h2,by simpa using h3⟩
theorem WF.remove (h:WF M d) (s:Txt):WF (M+1) (Kas d s).2:=by
 unfold Kas
 split
 ·exact h.more (by omega)
 split
 ·exact h.more (by omega)
 split
 ·exact h.more (by omega)
 rename_i h1 h2 h3
 exact h.names_ ⟨by simpa using h2,by simpa using h3⟩
theorem WF.rename (h:WF M d) (a b:Txt):WF (M+1) (Kak d a b).2:=by
 unfold Kak
 split
 ·exact h.more (by omega)
 split
 ·exact h.more (by omega)
 split
 ·exact h.more (by omega)
 split
 ·exact h.more (by omega)
 split
 ·exact h.more (by omega)
 rename_i h1 h2 h3 h4 h5
 simp only[not_or,not_and,Bool.not_eq_false] at h2 h3 h4 h5;refine h.names_ ⟨h2.1,h2.2,h4.1,h4.2,h5.1,fun e=>⟨h3 e,?_⟩,?_⟩
 ·rcases Kdu d.things b with h0 | h0 | h0
  ·exact h0
  ·exact absurd e (h5.2 h0).1
  ·exact absurd h0 h5.1
 ·rintro rfl;rcases Kdu d.things a with h0 | h0 | h0
  ·exact h4.1 h0
  ·exact (h5.2 h0).2 rfl
  ·exact h5.1 h0
theorem WF.create (h:WF M d) (s:Txt):WF (M+1) (Kbk d s).2:=by
 unfold Kbk
 split
 ·exact h.more (by omega)
 split
 ·exact h.more (by omega)
 split
 ·exact h.more (by omega)
 split
 ·exact h.more (by omega)
 split
 ·exact h.step.more (by omega)
 rename_i h1 h2 h3 h4 h5
 obtain ⟨k1,k2,k3,k4,k5,k6⟩:=Kgu d
 have e:(Kav d (.create s d.files.length)).2 = { (stepD d).2 with things:=Kaj d.things (.create s d.files.length),steps:=d.steps ++ [.create s d.files.length] }:=by
  unfold Kav;rw[if_neg h5]
 rw[e];have hle:d.files.length≤(d.files ++ [(⟨[],[],[]⟩:By)]).length:=by simp
 exact {
  safe:=by simp only[k2];exact h.safe.more hle
  chain:=by
   simp only[k2];refine (h.chain.more hle).append ?_;rw[←h.things];exact ⟨by simpa using h2,by simpa using h3,by simpa using h4,by simp,fun x hx hd=>Nat.ne_of_lt (h.tw.ats x hx hd)⟩
  things:=by simp only[k2];rw[List.foldl_append,←h.things];rfl
  files:=by
   intro f hf;rcases List.mem_append.1 hf with hf | hf
   ·exact (h.files f hf).more (by omega)
   ·rw[List.mem_singleton.1 hf];exact FOk.plain (Nat.zero_le _)
  names:=by simp only[k2,List.length_append];have:=h.names;simp;omega
  fl:=by have:=h.fl;simp;omega
  aw:=Nat.le_trans k5 h.aw
  cap:=by simp only[k6];exact h.cap }
theorem WF.set_ (h:WF M d) {i:Nat} {f:By} (hf:FOk M' f) (hM:M≤M'):WF M' (setF d i f) where
 safe:=by simp only[setF,List.length_set];exact h.safe
 chain:=by simp only[setF,List.length_set];exact h.chain
 things:=h.things
 files:=by
  intro g hg;rcases List.mem_or_eq_of_mem_set hg with hg | rfl
  ·exact (h.files g hg).more hM
  ·exact hf
 names:=Nat.le_trans h.names hM
 fl:=by simp only[setF,List.length_set];exact Nat.le_trans h.fl hM
 aw:=h.aw
 cap:=h.cap
theorem WF.append (h:WF M d) (s t:Txt):WF (M+t.length+1) (Kbt d s t).2:=by
 unfold Kbt
 split
 ·exact h.more (by omega)
 split
 ·exact h.more (by omega)
 split
 ·exact h.step.more (by omega)
 rename_i i _ _ _
 exact h.step.set_ ((h.fAt i).append t) (by omega)
theorem WF.sync (h:WF M d) (s:Txt):WF (M+1) (syncD d s).2:=by
 unfold syncD
 split
 ·exact h.more (by omega)
 split
 ·exact h.step.more (by omega)
 rename_i i _ _
 exact h.step.set_ (FOk.plain (Nat.le_succ_of_le (h.fAt i).now)) (by omega)
theorem Qed {s:Txt} {k:Nat} (m:UInt8) (h:k < s.length):(flipT s k m).length=s.length:=by
 unfold flipT;simp;omega
theorem WF.flip (h:WF M d) (s:Txt) (k:Int) (m:UInt8):WF (M+1) (flipD d s k m).2:=by
 unfold flipD
 split
 ·exact h.more (by omega)
 split
 ·exact h.more (by omega)
 rename_i i _ hn
 refine h.set_ (FOk.plain ?_) (by omega);rw[Qed m (by omega)];exact Nat.le_succ_of_le (h.fAt i).now
theorem WF.syncNames (h:WF M d):WF (M+1) (Kbf d).2:=by
 unfold Kbf
 split
 ·exact h.more (by omega)
 split
 ·exact h.step.more (by omega)
 obtain ⟨k1,k2,k3,k4,k5,k6⟩:=Kgu d
 exact {
  safe:=by simp only[k4];exact h.tw
  chain:=trivial
  things:=by simp only[k1];rfl
  files:=by simp only[k4];exact fun f hf=>(h.files f hf).more (by omega)
  names:=by have:=h.tl;simp;omega
  fl:=by simp only[k4];have:=h.fl;omega
  aw:=Nat.le_trans k5 h.aw
  cap:=by simp only[k6];exact h.cap }
end
end
section
open Go.RowKit Go.Shelf Go.Maps Go.Sort
attribute [local go_sem ↓] Go.wp_at_zero Go.wp_at_succ
attribute [local go_sem] Later.cell
def one:St→Th→List Th
 | .mkdir _,x=>[x]
 | .create _ _,x=>[x]
 | .remove a,x=>if x.path == a || Kbu x.path a then [] else [x]
 | .rename a b,x=>if x.path == b then [] else [mv a b x]
section
variable {l : List Th} {X : Option Addr} {n c : Nat} {w : World}
end
def Apart (a:Nat→Addr):Prop:=∀i j,1≤i→i≤7→1≤j→j≤7→i≠j→a i≠a j
section
variable {B0 : Nat} {a : Nat → Addr}
def Sents (B0:Nat) (a:Nat→Addr) (w:World):Prop:=∀k,1≤k→k≤7→(a k).block < B0∧∃cs t,w.heap[(a k).block]? = some (.cells cs t (0,0))
theorem Sents.below {w w':World} (h:Sents B0 a w) (hb:Below B0 w w'):Sents B0 a w':=fun k h1 h2=>by
 obtain ⟨h3,cs,t,h4⟩:=h k h1 h2;exact ⟨h3,cs,t,(hb.block _ h3).trans h4⟩
theorem Kzr:(Tryz.prog.info? 360).map (·.comparable)=some true:=by kernel_rfl
theorem Kzs:(Tryz.prog.info? 382).map (·.size)=some 1:=by kernel_rfl
theorem Qlp (i:Nat) (w:World):(binOp .eql 40 (failV a i) (failV a i)).run Tryz.prog w = .ok (.bool true) w:=by
 obtain ⟨i0,h1,h2⟩:=Option.map_eq_some_iff.1 Kzr;obtain ⟨j0,h3,_⟩:=Option.map_eq_some_iff.1 Kzs;exact run_eql_iface_ptr_same w (a i) Tryz.underlying40 Tryz.underlying360 h1 h2 h3
theorem Qlq {i j:Nat} {w:World} (hs:Sents B0 a w) (ha:Apart a) (h1:1≤i) (h2:i≤7) (h3:1≤j) (h4:j≤7) (hne:i≠j):(binOp .eql 40 (failV a i) (failV a j)).run Tryz.prog w = .ok (.bool false) w:=by
 obtain ⟨i0,k1,k2⟩:=Option.map_eq_some_iff.1 Kzr;obtain ⟨j0,k3,k4⟩:=Option.map_eq_some_iff.1 Kzs;obtain ⟨_,ci,ti,hi⟩:=hs i h1 h2;obtain ⟨_,cj,tj,hj⟩:=hs j h3 h4;exact run_eql_iface_ptr_other w Tryz.underlying40 Tryz.underlying360 k1 k2 k3 (by rw[k4];decide) (ha i j h1 h2 h3 h4 hne) hi hj
end
structure OpV where
 kind:Int
 a:ByteArray
 b:ByteArray
 n:Int
 m:Int
 pa:Option Addr
 pn:Nat
 pc:Nat
 da:Option Addr
 dn:Nat
 dc:Nat
 yes:Bool
section
variable {M : Value → World → Prop} {N : World → Prop} {k : Nat}
end
end
section
open Go.RowKit Go.Shelf Go.Maps Go.Sort
section
variable {B0 M : Nat} {a : Nat → Addr} {R R' S S' : Nat → Nat} {A A' : Adr} {d d' : Ds} {w w' w'' : World}
theorem Qjd (d:Ds):(stepD d).1≤7:=by
 unfold stepD
 repeat' split
 all_goals simp
theorem Qfb (d:Ds) (s:St):(Kav d s).1≤7:=by
 unfold Kav;have:=Qjd d
 repeat' split
 all_goals first | exact this | simp
theorem Qch (d:Ds) (s:Txt):(Kas d s).1≤7:=by
 unfold Kas;have:=Qfb d (.remove s)
 repeat' split
 all_goals first | exact this | simp
theorem WF.nl (h:WF M d) (hM:M≤536870912):∀i,(Go.Proofs.YtefpndiiedkmpaaGreatDoor.fAt d i).now.length≤1073741824:=fun i=>by have:=(h.fAt i).now;omega
theorem WF.sl (h:WF M d) (hM:M≤536870912):∀i,(Go.Proofs.YtefpndiiedkmpaaGreatDoor.fAt d i).steps.length≤1073741824:=fun i=>by have:=(h.fAt i).sl;omega
theorem WF.usedL (h:WF M d):∀l:List Th,Go.Proofs.YtefpndiiedkmpaaGreatDoor.usedL d l≤l.length*M
 | []=>by simp[Go.Proofs.YtefpndiiedkmpaaGreatDoor.usedL]
 | x :: l=>by
  have h1:=h.usedL l
  have h2:(if x.dir then 0 else (nowAt d x.at_).length)≤M:=by
   split
   ·omega
   ·have:=(h.fAt x.at_).now;exact this
  have h3:Go.Proofs.YtefpndiiedkmpaaGreatDoor.usedL d (x :: l)=(if x.dir then 0 else (nowAt d x.at_).length)+Go.Proofs.YtefpndiiedkmpaaGreatDoor.usedL d l:=by simp[Go.Proofs.YtefpndiiedkmpaaGreatDoor.usedL]
  rw[h3,List.length_cons,Nat.add_mul];omega
theorem WF.used (h:WF M d) (hM:M≤536870912):Go.Proofs.YtefpndiiedkmpaaGreatDoor.usedL d d.things≤4611686018427387904:=by
 have h1:=h.usedL d.things;have h2:=h.tl;have h3:d.things.length*M≤536870912*536870912:=Nat.mul_le_mul (by omega) hM;omega
theorem WF.capl (h:WF M d):d.cap≤4611686018427387904:=by have:=h.cap;omega
end
structure OpE where
 o:OpV
 parts:List Txt
 data:List Int
instance:Inhabited OpE:=⟨⟨⟨0,⟨#[]⟩,⟨#[]⟩,0,0,none,0,0,none,0,0,false⟩,[],[]⟩⟩
section
variable {a : Nat → Addr} {M : Nat} {W w w' : World} {p q : Nat} {d : Ds}
end
structure Out (R R':Nat→Nat) (w w':World):Prop where
 os:w'.os=w.os
 tape:w'.tape=w.tape
 output:w'.output=w.output
 size:w.heap.size≤w'.heap.size
 block:∀k,k < w.heap.size→R k=0→w'.heap[k]? = w.heap[k]?
 old:∀k,k < w.heap.size→R k=0→R' k=0
section
variable {R R' R'' : Nat → Nat} {w w' w'' : World} {a : Nat → Addr} {B0 M M' p k : Nat} {d d' : Ds} {A : Adr} {v : Value}
theorem Knt {R:Nat→Nat} {k:Nat} (h:R k=0) (q:Nat):giv R q 0 k=0:=by
 unfold giv
 split
 ·rfl
 ·exact h
theorem Out.of_own (h:Own R R' w w'):Out R R' w w':=⟨h.os,h.tape,h.output,h.size,h.block,fun k hk h0=>(h.old k hk).trans h0⟩
theorem Out.trans (h:Out R R' w w') (k:Out R' R'' w' w''):Out R R'' w w'':=
 ⟨k.os.trans h.os,k.tape.trans h.tape,k.output.trans h.output,Nat.le_trans h.size k.size,
  fun i hi hr=>(k.block i (Nat.lt_of_lt_of_le hi h.size) (h.old i hi hr)).trans (h.block i hi hr),
  fun i hi hr=>k.old i (Nat.lt_of_lt_of_le hi h.size) (h.old i hi hr)⟩
theorem Out.of_below (h:Below w.heap.size w w'):Out R R w w':=⟨h.os,h.tape,h.output,h.size,fun k hk _=>h.block k hk,fun _ _ h=>h⟩
theorem Out.below {B:Nat} (h:Out R R' w w') (hB:B≤w.heap.size) (hR:∀k,k < B→R k=0):Below B w w':=
 ⟨h.os,h.tape,h.output,h.size,fun k hk=>h.block k (by omega) (hR k hk)⟩
theorem Out.free (h:Out R R' w w') (q:Nat):Out R (giv R' q 0) w w':=
 ⟨h.os,h.tape,h.output,h.size,h.block,fun k hk h0=>Knt (h.old k hk h0) q⟩
theorem Out.blk {g:Nat} {t:TypeId} {cs:Array Value} (h:Out R R' w w') (hg:Blk w g t cs) (h0:R g=0):Blk w' g t cs:=(h.block g hg.lt h0).trans hg
theorem RowIs.free {r:Nat} {T T2:TypeId} {sz n q:Nat} {xs:List Value} {cs:Array Value} (h:RowIs w R r T sz v n xs) (hq:Blk w q T2 cs) (hne:T≠T2):RowIs w (giv R q 0) r T sz v n xs:=by
 refine ⟨h.1,fun g hg=>?_⟩;rw[Kaw,h.2 g hg];rintro rfl;rcases h.1.2 with ⟨rfl,_⟩ | ⟨g,cap,cur,rfl,_,h4,_⟩
 ·cases hg
 ·injection hg with hg;subst hg;exact (Blk.ne_ (t:=T) (cs:=cur) h4 hq hne) rfl
theorem Box.free {b q:Nat} {T T2:TypeId} {cs:Array Value} (h:Box w R b T v) (hq:Blk w q T2 cs) (hne:T≠T2):Box w (giv R q 0) b T v:=⟨h.1,by rw[Kaw (Blk.ne_ h.1 hq hne)];exact h.2⟩
theorem MapM.free {r b q:Nat} {f:Txt→Option Value} {T2:TypeId} {cs:Array Value} (h:MapM w R r b f) (hq:Blk w q T2 cs):MapM w (giv R q 0) r b f:=by
 refine ⟨h.1,?_⟩;rw[Kaw]
 ·exact h.2
 ·rintro rfl;obtain ⟨D,⟨es,clock,h1,_⟩,_⟩:=h.1;unfold Blk at hq;rw[hq] at h1;cases h1
theorem CD.free {q:Nat} {cs:Array Value} (h:CD B0 w R A d) (hq:Blk w q 59 cs):CD B0 w (giv R q 0) A d where
 blk:=h.blk
 rp:=by rw[Kaw (Blk.ne_ h.blk hq (by decide))];exact h.rp
 dirs:=h.dirs.free hq
 files:=h.files.free hq
 sdirs:=h.sdirs.free hq
 sfiles:=h.sfiles.free hq
 steps:=by
  obtain ⟨fs,h1,h2,h3⟩:=h.steps;refine ⟨fs,h1.free hq (by decide),h2,fun i s f hs hf=>?_⟩;have h4:=h3 i s f hs hf
  cases s with
  | mkdir a=>exact (show False from h4).elim
  | create a i=>obtain ⟨b,c,e,h5,h6⟩:=h4;exact ⟨b,c,e,h5.free hq (by decide),h6.free hq (by decide)⟩
  | rename a a'=>obtain ⟨b,c,e,h5,h6⟩:=h4;exact ⟨b,c,e,h5.free hq (by decide),h6.free hq (by decide)⟩
  | remove a=>obtain ⟨b,e,h5⟩:=h4;exact ⟨b,e,h5.free hq (by decide)⟩
 bytes:=⟨h.bytes.1,fun i b f hb hf=>by
  obtain ⟨v,h1,h2,h3⟩:=h.bytes.2 i b f hb hf
  exact ⟨v,h1,by rw[Kaw (Blk.ne_ h1 hq (by decide))];exact h2,h3.free hq (by decide)⟩⟩
 inw:=fun k hk=>h.inw k fun e=>hk (Knt e q)
 low:=fun k hk=>Knt (h.low k hk) q
structure Dk (B0 M:Nat) (w:World) (R:Nat→Nat) (p:Nat) (d:Ds):Prop where
 ex:∃A,CD B0 w R A d∧A.p=p
 wf:WF M d
theorem Dk.below (h:Dk B0 M w R p d) (hb:Below w.heap.size w w'):Dk B0 M w' R p d:=by
 obtain ⟨A,h1,h2⟩:=h.ex;exact ⟨⟨A,h1.below hb,h2⟩,h.wf⟩
theorem Dk.more (h:Dk B0 M w R p d) (hM:M≤M'):Dk B0 M' w R p d:=⟨h.ex,h.wf.more hM⟩
theorem Dk.low (h:Dk B0 M w R p d):∀k,k < B0→R k=0:=by
 obtain ⟨A,h1,h2⟩:=h.ex;exact h1.low
theorem Dk.new (h:Dk B0 M w R p d) {k:Nat} (hk:w.heap.size≤k):R k=0:=by
 obtain ⟨A,h1,h2⟩:=h.ex;exact h1.inw.new hk
def ErrW (a:Nat→Addr) (w:World) (R:Nat→Nat):Nat→Value→Prop
 | 0,v=>v = .nilIface
 | k+1,v=>∃q op path,v = .iface 56 (.pointer (some ⟨q,0,none⟩))∧Blk w q 59 #[.string op,.string path,failV a (k+1)]∧R q=0
theorem ErrW.out (h:ErrW a w R k v) (ho:Out R R' w w'):ErrW a w' R' k v:=by
 cases k with
 | zero=>exact h
 | succ k=>
  obtain ⟨q,op,path,h1,h2,h3⟩:=h;exact ⟨q,op,path,h1,ho.blk h2 h3,ho.old q h2.lt h3⟩
theorem ErrW.nil (h:ErrW a w R k v) (hk:k=0):v = .nilIface:=by subst hk;exact h
theorem ErrW.some_ (h:ErrW a w R k v) (hk:k≠0):∃q op path,v = .iface 56 (.pointer (some ⟨q,0,none⟩))∧Blk w q 59 #[.string op,.string path,failV a k]∧R q=0:=by
 cases k with
 | zero=>exact absurd rfl hk
 | succ k=>exact h
def DkOut (a:Nat→Addr) (B0 M:Nat) (R:Nat→Nat) (p:Nat) (r:Nat×Ds) (w:World) (e:Ending) (w':World):Prop:=
 ∃v R',e = .returned v∧ErrW a w' R' r.1 v∧Dk B0 M w' R' p r.2∧Out R R' w w'
theorem DkOut.mk' {op s:ByteArray} {R':Nat→Nat} (h1:ErrV a w' op s k v) (h2:CD B0 w' R' A d') (h3:Out R R' w w') (hw:WF M d') :
  ∃R'',ErrW a w' R'' k v∧Dk B0 M w' R'' A.p d'∧Out R R'' w w':=by
 cases k with
 | zero=>exact ⟨R',h1,⟨⟨A,h2,rfl⟩,hw⟩,h3⟩
 | succ k=>
  obtain ⟨q,e,h4⟩:=h1;exact ⟨giv R' q 0,⟨q,op,s,e,h4,Kcn _ _ _⟩,⟨⟨A,h2.free h4,rfl⟩,hw⟩,h3.free q⟩
theorem DkOut.of {r:Nat×Ds} {op s:ByteArray} {e:Ending} (h:Kds B0 a R A r op s w e w') (hw:WF M r.2):DkOut a B0 M R A.p r w e w':=by
 obtain ⟨v,R',A',rfl,h1,h2,h3,h4,_⟩:=h;obtain ⟨R'',k1,k2,k3⟩:=DkOut.mk' h1 h2 (Out.of_own h3) hw;rw[h4] at k2;exact ⟨v,R'',rfl,k1,k2,k3⟩
theorem Dk.create (h:Dk B0 M w R p d) (hM:M≤536870912) (hB:B0≤w.heap.size) (hF:Fails B0 a w) (S:ByteArray) (hS:S.size≤1073741824) :
  Calls Tryz.prog 57 #[.pointer (some ⟨p,0,none⟩),.string S] w (DkOut a B0 (M+1) R p (Kbk d S.data.toList) w):=by
 obtain ⟨A,hc,rfl⟩:=h.ex;exact (Kun S w hc (h.wf.fit hM) h.wf.nums hS hB hF).mono fun _ _ k=>.of k (h.wf.create _)
theorem Dk.append (h:Dk B0 M w R p d) (hM:M≤536870912) (hB:B0≤w.heap.size) (hF:Fails B0 a w) (S:ByteArray) (hS:S.size≤1073741824) (Ao:Option Addr) (t:Txt) (hl:Strs w Ao 1 [t]) (ht:t.length≤140737488351232) :
  Calls Tryz.prog 59 #[.pointer (some ⟨p,0,none⟩),.string S,.slice Ao 1 1] w (DkOut a B0 (M+t.length+1) R p (Kbt d S.data.toList t) w):=by
 obtain ⟨A,hc,rfl⟩:=h.ex;have e:[t].flatten=t:=by simp
 have hk:=Kss (a:=a) S Ao 1 1 [t] w hc (h.wf.fit hM) hS hB hF hl (by decide) (by decide) (by rw[e];omega) (h.wf.used hM) h.wf.capl (h.wf.nl hM) (h.wf.sl hM);rw[e] at hk;exact hk.mono fun _ _ k=>.of k.weak (h.wf.append _ _)
theorem Dk.sync (h:Dk B0 M w R p d) (hM:M≤536870912) (hB:B0≤w.heap.size) (hF:Fails B0 a w) (S:ByteArray) (hS:S.size≤1073741824) :
  Calls Tryz.prog 61 #[.pointer (some ⟨p,0,none⟩),.string S] w (DkOut a B0 (M+1) R p (syncD d S.data.toList) w):=by
 obtain ⟨A,hc,rfl⟩:=h.ex;exact (Qcq S w hc (h.wf.fit hM) hS hB hF).mono fun _ _ k=>.of k.weak (h.wf.sync _)
theorem Dk.syncNames (h:Dk B0 M w R p d) (hM:M≤536870912) (hB:B0≤w.heap.size) (hF:Fails B0 a w) :
  Calls Tryz.prog 64 #[.pointer (some ⟨p,0,none⟩)] w (DkOut a B0 (M+1) R p (Kbf d) w):=by
 obtain ⟨A,hc,rfl⟩:=h.ex;exact (Kpy w hc (h.wf.fit hM) hB hF).mono fun _ _ k=>.of k.weak h.wf.syncNames
theorem Dk.rename (h:Dk B0 M w R p d) (hM:M≤536870912) (hB:B0≤w.heap.size) (hF:Fails B0 a w) (S S2:ByteArray) (hS:S.size≤1073741824) (hS2:S2.size≤1073741824) :
  Calls Tryz.prog 63 #[.pointer (some ⟨p,0,none⟩),.string S,.string S2] w (DkOut a B0 (M+1) R p (Kak d S.data.toList S2.data.toList) w):=by
 obtain ⟨A,hc,rfl⟩:=h.ex;exact (Kwj S S2 w hc (h.wf.fit hM) hS hS2 hB hF).mono fun _ _ k=>.of k.weak (h.wf.rename _ _)
theorem Dk.remove (h:Dk B0 M w R p d) (hM:M≤536870912) (hB:B0≤w.heap.size) (hF:Fails B0 a w) (S:ByteArray) (hS:S.size≤1073741824) :
  Calls Tryz.prog 54 #[.pointer (some ⟨p,0,none⟩),.string S] w (DkOut a B0 (M+1) R p (Kas d S.data.toList) w):=by
 obtain ⟨A,hc,rfl⟩:=h.ex;exact (Kwi S w hc (h.wf.fit hM) hS hB hF).mono fun _ _ k=>.of k.weak (h.wf.remove _)
def Qlg (a:Nat→Addr) (B0 M:Nat) (R:Nat→Nat) (p:Nat) (d:Ds) (P:Value→World→Prop) (k:Nat) (w:World) (e:Ending) (w':World):Prop:=
 ∃u v R',e = .returned (.tuple #[u,v])∧P u w'∧ErrW a w' R' k v∧Dk B0 M w' R' p d∧Out R R' w w'
theorem Dk.all (h:Dk B0 M w R p d) (hM:M≤536870912) (hB:B0≤w.heap.size) (hF:Fails B0 a w) (S:ByteArray) (hS:S.size≤1073741824) :
  Calls Tryz.prog 21 #[.pointer (some ⟨p,0,none⟩),.string S] w (Qlg a B0 M R p d (fun u _=>u=txtV (allD d S.data.toList).1) (allD d S.data.toList).2 w):=by
 obtain ⟨A,hc,rfl⟩:=h.ex;refine (Qap S w hc (h.wf.fit hM) hS hB hF).mono ?_;rintro e w2 ⟨v,rfl,hv,hb⟩;obtain ⟨R'',k1,k2,k3⟩:=DkOut.mk' hv (hc.below hb) (Out.of_below (R:=R) hb) h.wf;exact ⟨_,v,R'',rfl,rfl,k1,k2,k3⟩
theorem Dk.made (n:Int) (hn:n≤9223372036854775807) (hn':-9223372036854775808≤n) (w:World) (hB:B0≤w.heap.size) :
  Calls Tryz.prog 16 #[.int .i64 n] w fun x w1=>∃p R,x = .returned (.pointer (some ⟨p,0,none⟩))∧Dk B0 0 w1 R p (newD n)∧Below w.heap.size w w1∧∀k,k < w.heap.size→R k=0:=
 (Qfd w.heap.size n w (Nat.le_refl _) hn hn').mono fun x w1 ⟨R,A,e,h1,h2,h3⟩=>⟨A.p,R,e,⟨⟨A,⟨h1.blk,h1.rp,h1.dirs,h1.files,h1.sdirs,h1.sfiles,h1.steps,h1.bytes,h1.inw,fun k hk=>h1.low k (by omega)⟩,rfl⟩,WF.new n⟩,h2,h1.low⟩
end
end
section
open Go.RowKit Go.Extern.Stop Go.Stop Go.Extern
attribute [local go_sem ↓] Go.wp_at_zero Go.wp_at_succ
theorem Qeo (v:Value) (w:World):(Extern.ReflectliteType.typeOf #[.iface 360 v]).run Tryz.prog w = .ok (.iface 259 (.agg #[.pointer (some ⟨Tryz.prog.globals.size,360,none⟩)])) w:=by kernel_rfl
def cmpM:Array Value→Sem Value:=Extern.ReflectliteType.method fun t=>do Extern.Rtype.noPackHeld "Comparable" t;pure (.bool (←typeInfo t).comparable)
theorem Ktc (w:World):(cmpM #[.agg #[.pointer (some ⟨Tryz.prog.globals.size,360,none⟩)]]).run Tryz.prog w = .ok (.bool true) w:=by kernel_rfl
theorem Qhp (v:Value) (xT:TypeId) (w:World):(Instr.typeAssert (.iface 360 v) xT 261 true).run Tryz.prog w = .ok (.tuple #[.nilIface,.bool false]) w:=run_typeAssert_lacksB Tryz.underlying261 (by kernel_rfl) (by kernel_rfl) v xT w
theorem Kvl (v:Value) (xT:TypeId) (w:World):(Instr.typeAssert (.iface 360 v) xT 264 true).run Tryz.prog w = .ok (.tuple #[.nilIface,.bool false]) w:=run_typeAssert_lacksB Tryz.underlying264 (by kernel_rfl) (by kernel_rfl) v xT w
theorem Kte (v:Value) (xT:TypeId) (w:World):(Instr.typeAssert (.iface 360 v) xT 265 true).run Tryz.prog w = .ok (.tuple #[.nilIface,.bool false]) w:=run_typeAssert_lacksB Tryz.underlying265 (by kernel_rfl) (by kernel_rfl) v xT w
theorem Qhq (v:Value) (xT:TypeId) (w:World):(Instr.typeAssert (.iface 56 v) xT 261 true).run Tryz.prog w = .ok (.tuple #[.nilIface,.bool false]) w:=run_typeAssert_lacksB Tryz.underlying261 (by kernel_rfl) (by kernel_rfl) v xT w
theorem Ktd (v:Value) (xT:TypeId) (w:World):(Instr.typeAssert (.iface 56 v) xT 264 true).run Tryz.prog w = .ok (.tuple #[.iface 56 v,.bool true]) w:=run_typeAssert_hasB Tryz.underlying264 (by kernel_rfl) v xT w
section
variable {B0 : Nat} {a : Nat → Addr}
theorem Qbn (q i j:Nat) (op path:ByteArray) (w:World) (hq:Blk w q 59 #[.string op,.string path,failV a i]) (hs:Sents B0 a w) (ha:Apart a) (h1:1≤i) (h2:i≤7) (h3:1≤j) (h4:j≤7) :
  Calls Tryz.prog 113 #[.iface 56 (.pointer (some ⟨q,0,none⟩)),failV a j,.bool true] w fun e w'=>e = .returned (.bool (decide (i=j)))∧w=w':=by
 have m2:w.cell? ⟨q,2,none⟩=some (failV a i):=hq.cell 2;have nF:=Qhq;have uF:=Ktd;have nE:=Qhp;have uE:=Kvl;have vE:=Kte;have hty:=run_eql_iface_types (P:=Tryz.prog) 56 360 (.pointer (some ⟨q,0,none⟩)) (.pointer (some (a j))) Tryz.underlying40 (by decide) w
 by_cases hij:i=j
 ·subst hij;have heq:=Qlp (a:=a) i w;rw[decide_eq_true rfl];unfold failV at m2 heq ⊢;clear hq hs ha;go_enter Tryz.func113,Tryz.ntmps113
  go_wp2
  refine wp_loop_rounds 2 ?_;rw[rounds_succ];go_wp2
  rw[rounds_succ];go_wp2
  go_ret
  exact ⟨rfl,rfl⟩
 ·have hne:=Qlq (w:=w) hs ha h1 h2 h3 h4 hij;rw[decide_eq_false hij];unfold failV at m2 hne ⊢;clear hq hs ha;go_enter Tryz.func113,Tryz.ntmps113
  go_wp2
  refine wp_loop_rounds 2 ?_;rw[rounds_succ];go_wp2
  rw[rounds_succ];go_wp2
  go_ret
  exact ⟨rfl,rfl⟩
theorem Qen (q i j:Nat) (op path:ByteArray) (w:World) (hq:Blk w q 59 #[.string op,.string path,failV a i]) (hs:Sents B0 a w) (ha:Apart a) (h1:1≤i) (h2:i≤7) (h3:1≤j) (h4:j≤7) :
  Calls Tryz.prog 55 #[.iface 56 (.pointer (some ⟨q,0,none⟩)),failV a j] w fun e w'=>e = .returned (.bool (decide (i=j)))∧w=w':=by
 have HI:=Lib.hid (Qbn q i j op path w hq hs ha h1 h2 h3 h4);have h8:=@run_callFunc_extern Tryz.prog 112 _ Extern.ReflectliteType.typeOf Tryz.func112 (by kernel_rfl) (by kernel_rfl) (by kernel_rfl) (by kernel_rfl);have h32:=@run_callFunc_extern Tryz.prog 299 _ cmpM Tryz.func299 (by kernel_rfl) (by kernel_rfl) (by kernel_rfl) (by kernel_rfl);have tT:=Qeo;have cT:=Ktc;obtain ⟨gs,hgs⟩:∃g,Tryz.prog.globals.size=g:=⟨_,rfl⟩;rw[hgs] at cT;simp only[hgs] at tT;clear hgs;unfold failV at HI ⊢;clear hq hs ha;go_enter Tryz.func55,Tryz.ntmps55
 go_wp2_with fail
 refine HI.out.mono ?_;rintro e w' ⟨rfl,rfl⟩;go_wp2_with fail
 go_ret
 exact ⟨rfl,rfl⟩
theorem Kvk (j:Nat) (w:World) :
  Calls Tryz.prog 55 #[.nilIface,failV a j] w fun e w'=>e = .returned (.bool false)∧w=w':=by
 have hn:=run_eql_iface_nil_left (P:=Tryz.prog) w 360 (.pointer (some (a j))) Tryz.underlying40;unfold failV;go_enter Tryz.func55,Tryz.ntmps55
 go_wp2_with fail
 go_ret
 exact ⟨rfl,rfl⟩
end
end
section
open Go.RowKit Go.Shelf Go.Sort
open Lib renaming hid → Jh
attribute [local go_sem ↓] Go.wp_at_zero Go.wp_at_succ
attribute [local go_sem] Later.cell
section
variable {B0 M p : Nat} {a : Nat → Addr} {R : Nat → Nat} {d : Ds}
theorem Qca (bd bf:Nat) (F:ByteArray) (w:World) (hD:Dk B0 M w R p d) (hM:M≤536870912) (hB:B0≤w.heap.size) (hF:Fails B0 a w) (hS:F.size≤1073741824)
  (h1:Blk w bd 37 #[.pointer (some ⟨p,0,none⟩)]) (h2:Blk w bf 9 #[.string F]) :
  Calls Tryz.prog 56 #[.pointer (some ⟨bd,0,none⟩),.pointer (some ⟨bf,0,none⟩)] w (DkOut a B0 (M+1) R p (Kbk d F.data.toList) w):=by
 have m1:=h1.cell 0;have m2:=h2.cell 0;have HC:=Jh (hD.create hM hB hF F hS);clear hD hF h1 h2;go_enter Tryz.func56,Tryz.ntmps56
 go_wp2_with fail
 refine HC.out.mono ?_;rintro e w1 ⟨v,R1,rfl,hk⟩;go_wp2_with fail
 go_ret
 exact ⟨v,R1,rfl,hk⟩
theorem Qcb (bd bf bt:Nat) (F T:ByteArray) (w:World) (hD:Dk B0 M w R p d) (hM:M≤536870912) (hB:B0≤w.heap.size) (hF:Fails B0 a w) (hS:F.size≤1073741824) (hT:T.size≤140737488351232)
  (h1:Blk w bd 37 #[.pointer (some ⟨p,0,none⟩)]) (h2:Blk w bf 9 #[.string F]) (h3:Blk w bt 9 #[.string T]) :
  Calls Tryz.prog 58 #[.pointer (some ⟨bd,0,none⟩),.pointer (some ⟨bf,0,none⟩),.pointer (some ⟨bt,0,none⟩)] w (DkOut a B0 (M+T.size+1) R p (Kbt d F.data.toList T.data.toList) w):=by
 have m1:=h1.cell 0;have m2:=h2.cell 0;have m3:=h3.cell 0;have hb:Below w.heap.size w (w.alloc (.cells #[.string T] 9)):=(Below.refl _ _).alloc (Nat.le_refl _) _;have HC:=Jh ((hD.below hb).append hM (by have:=hb.size;omega) (hF.below (hb.mono hB)) F hS _ _ (Kwz (Blk.new w 9 #[.string T])) hT);have HB:=Jh hb;clear hD hF h1 h2 h3 hb;go_enter Tryz.func58,Tryz.ntmps58
 go_wp2_with fail
 refine HC.out.mono ?_;rintro e w1 ⟨v,R1,rfl,hk1,hk2,hk3⟩;go_wp2_with fail
 go_ret
 exact ⟨v,R1,rfl,hk1,hk2,(Out.of_below HB.out).trans hk3⟩
theorem Qcc (bd bf:Nat) (F:ByteArray) (w:World) (hD:Dk B0 M w R p d) (hM:M≤536870912) (hB:B0≤w.heap.size) (hF:Fails B0 a w) (hS:F.size≤1073741824)
  (h1:Blk w bd 37 #[.pointer (some ⟨p,0,none⟩)]) (h2:Blk w bf 9 #[.string F]) :
  Calls Tryz.prog 60 #[.pointer (some ⟨bd,0,none⟩),.pointer (some ⟨bf,0,none⟩)] w (DkOut a B0 (M+1) R p (syncD d F.data.toList) w):=by
 have m1:=h1.cell 0;have m2:=h2.cell 0;have HC:=Jh (hD.sync hM hB hF F hS);clear hD hF h1 h2;go_enter Tryz.func60,Tryz.ntmps60
 go_wp2_with fail
 refine HC.out.mono ?_;rintro e w1 ⟨v,R1,rfl,hk⟩;go_wp2_with fail
 go_ret
 exact ⟨v,R1,rfl,hk⟩
theorem Qcd (bd bf bp:Nat) (F P:ByteArray) (w:World) (hD:Dk B0 M w R p d) (hM:M≤536870912) (hB:B0≤w.heap.size) (hF:Fails B0 a w) (hS:F.size≤1073741824) (hP:P.size≤1073741824)
  (h1:Blk w bd 37 #[.pointer (some ⟨p,0,none⟩)]) (h2:Blk w bf 9 #[.string F]) (h3:Blk w bp 9 #[.string P]) :
  Calls Tryz.prog 62 #[.pointer (some ⟨bd,0,none⟩),.pointer (some ⟨bf,0,none⟩),.pointer (some ⟨bp,0,none⟩)] w (DkOut a B0 (M+1) R p (Kak d F.data.toList P.data.toList) w):=by
 have m1:=h1.cell 0;have m2:=h2.cell 0;have m3:=h3.cell 0;have HC:=Jh (hD.rename hM hB hF F P hS hP);clear hD hF h1 h2 h3;go_enter Tryz.func62,Tryz.ntmps62
 go_wp2_with fail
 refine HC.out.mono ?_;rintro e w1 ⟨v,R1,rfl,hk⟩;go_wp2_with fail
 go_ret
 exact ⟨v,R1,rfl,hk⟩
structure Env5 (B0:Nat) (a:Nat→Addr) (w:World):Prop where
 f:Fails B0 a w
 s:Sents B0 a w
theorem Env5.below {w w':World} (h:Env5 B0 a w) (hb:Below B0 w w'):Env5 B0 a w':=⟨h.f.below hb,h.s.below hb⟩
theorem Env5.out {R R':Nat→Nat} {w w':World} {M':Nat} (h:Env5 B0 a w) (ho:Out R R' w w') (hB:B0≤w.heap.size) (hD:Dk B0 M' w R p d):Env5 B0 a w':=h.below (ho.below hB hD.low)
theorem Qbm {w:World} {k:Nat} {v:Value} (hv:ErrW a w R k v) (hk:k≤7) (hs:Sents B0 a w) (ha:Apart a) :
  Calls Tryz.prog 55 #[v,.iface 360 (.pointer (some (a 4)))] w fun e w'=>e = .returned (.bool (decide (k=4)))∧w=w':=by
 cases k with
 | zero=>
  obtain rfl:v = .nilIface:=hv;exact Kvk 4 w
 | succ k=>
  obtain ⟨q,op,path,rfl,h1,h2⟩:=hv;exact Qen q (k+1) 4 op path w h1 hs ha (by omega) hk (by omega) (by omega)
theorem Kge {F:Txt} {f:Ds→Nat×Ds} {l:List (Ds→Nat×Ds)} {r:Nat×Ds} (h:r.1≠0):putL F (f :: l) r=(r.1,(Kas r.2 F).2):=by rw[putL,if_neg h]
theorem Kim {F:Txt} {f:Ds→Nat×Ds} {l:List (Ds→Nat×Ds)} {r:Nat×Ds} (h:r.1=0):putL F (f :: l) r=putL F l (f r.2):=by rw[putL,if_pos h]
structure PutB (b p:Nat) (P T F:ByteArray) (w:World) (R:Nat→Nat):Prop where
 bd:Blk w b 37 #[.pointer (some ⟨p,0,none⟩)]
 bp:Blk w (b+1) 9 #[.string P]
 bt:Blk w (b+2) 9 #[.string T]
 bf:Blk w (b+3) 9 #[.string F]
 rd:R b=0
 rp:R (b+1)=0
 rt:R (b+2)=0
 rf:R (b+3)=0
theorem PutB.out {b:Nat} {P T F:ByteArray} {w w':World} {R R':Nat→Nat} (h:PutB b p P T F w R) (ho:Out R R' w w'):PutB b p P T F w' R':=
 ⟨ho.blk h.bd h.rd,ho.blk h.bp h.rp,ho.blk h.bt h.rt,ho.blk h.bf h.rf,ho.old _ h.bd.lt h.rd,ho.old _ h.bp.lt h.rp,ho.old _ h.bt.lt h.rt,ho.old _ h.bf.lt h.rf⟩
def putF (b p i:Nat):Value:=
 #[.func (.func 56) #[] #[.pointer (some ⟨b,0,none⟩),.pointer (some ⟨b+3,0,none⟩)],.func (.func 58) #[] #[.pointer (some ⟨b,0,none⟩),.pointer (some ⟨b+3,0,none⟩),.pointer (some ⟨b+2,0,none⟩)],
  .func (.func 60) #[] #[.pointer (some ⟨b,0,none⟩),.pointer (some ⟨b+3,0,none⟩)],.func (.func 62) #[] #[.pointer (some ⟨b,0,none⟩),.pointer (some ⟨b+3,0,none⟩),.pointer (some ⟨b+1,0,none⟩)],
  .func (.func 64) #[.pointer (some ⟨p,0,none⟩)] #[]].getD i undef
def putRow (b p:Nat):Array Value:=#[putF b p 0,putF b p 1,putF b p 2,putF b p 3,putF b p 4]
def Ken (F P T:Txt):List (Ds→Nat×Ds):=[(Kbk · F),(Kbt · F T),(syncD · F),(Kak · F P),Kbf]
def putM (M t i:Nat):Nat:=M+1+i+(if i < 2 then 0 else t)
structure PutI (B0 M p:Nat) (a:Nat→Addr) (R:Nat→Nat) (w:World) (b g:Nat) (P T F:ByteArray) (res:Nat×Ds) (i:Nat) (v:Value) (R':Nat→Nat) (r:Nat×Ds) (wr:World):Prop where
 blks:PutB b p P T F wr R'
 row:Blk wr g 141 (putRow b p)
 rr:R' g=0
 err:ErrW a wr R' r.1 v
 dk:Dk B0 (putM M T.size i) wr R' p r.2
 out:Out R R' w wr
 env:Env5 B0 a wr
 left:putL F.data.toList ((Ken F.data.toList P.data.toList T.data.toList).drop i) r=res
theorem Kth (P T:ByteArray) (w:World) (hD:Dk B0 M w R p d) (hM:M+T.size+8≤536870912) (hB:B0≤w.heap.size) (hE:Env5 B0 a w) (hA:Apart a) (hP:P.size≤1000000000) :
  Calls Tryz.prog 20 #[.pointer (some ⟨p,0,none⟩),.string P,.string T] w (DkOut a B0 (M+T.size+7) R p (putD d P.data.toList T.data.toList) w):=by
 obtain ⟨b,hb⟩:∃b,w.heap.size=b:=⟨_,rfl⟩;have HB:=Jh hb;obtain ⟨F,hF⟩:∃F:ByteArray,P++(⟨#[46,110,101,119]⟩:ByteArray)=F:=⟨_,rfl⟩;have hFd:F.data.toList=P.data.toList++Kdf:=by rw[←hF];simp[Kdf]
 have hFs:F.size≤1073741824:=by rw[←hF,ByteArray.size_append];show P.size+4≤_;omega
 obtain ⟨W,hW⟩:∃W,(((w.alloc (.cells #[.pointer (some ⟨p,0,none⟩)] 37)).alloc (.cells #[.string P] 9)).alloc (.cells #[.string T] 9)).alloc (.cells #[.string F] 9)=W:=⟨_,rfl⟩;have hbl:Below w.heap.size w W:=by rw[←hW];exact ((((Below.refl _ _).alloc (Nat.le_refl _) _).alloc (by simp) _).alloc (by simp;omega) _).alloc (by simp;omega) _
 have HPB:Hid (PutB b p P T F W R):=Jh (by
  rw[←hW,←hb]
  exact ⟨(((Blk.new _ _ _).alloc _).alloc _).alloc _,((Blk.newAt (by simp)).alloc _).alloc _,(Blk.newAt (by simp)).alloc _,Blk.newAt (by simp),hD.new (by omega),hD.new (by omega),hD.new (by omega),hD.new (by omega)⟩)
 have HD:=Jh (hD.below hbl);have HE:=Jh (hE.below (hbl.mono hB));have HO:Hid (Out R R w W):=Jh (Out.of_below hbl);have HBW:Hid (B0≤W.heap.size):=Jh (Nat.le_trans hB hbl.size);have HA:=Jh hA;have HB0:=Jh hB;have HW:=Jh hW;have HFD:=Jh hFd;clear hD hE hA hbl hb hW hFd hB;go_enter Tryz.func20,Tryz.ntmps20
 go_upto_region 2 with fail
 have hW2:(((w.alloc (.cells #[.pointer (some ⟨p,0,none⟩)] 37)).alloc (.cells #[.string P] 9)).alloc (.cells #[.string T] 9)).alloc (.cells #[.string F] 9)=W:=HW.out;have hb2:w.heap.size=b:=HB.out;rw[hW2,hb2];clear hW2 hb2;have x0:W.cell? ⟨b,0,none⟩=some (.pointer (some ⟨p,0,none⟩)):=HPB.out.bd.cell 0;have x3:W.cell? ⟨b+3,0,none⟩=some (.string F):=HPB.out.bf.cell 0;go_wp2_with fail
 refine (HD.out.remove (by omega) HBW.out HE.out.f F hFs).mono ?_;rintro e w1 ⟨v1,R1,rfl,hv1,hd1,ho1⟩;have HB1:=Jh (HPB.out.out ho1);have HO1:=Jh (HO.out.trans ho1);have HE1:=Jh (HE.out.out ho1 HBW.out HD.out);have HW1:Hid (B0≤w1.heap.size):=Jh (Nat.le_trans HBW.out ho1.size);have HK:=Jh (Qch d F.data.toList);have HG:Hid (goneD d F.data.toList=(if (Kas d F.data.toList).1=4 then 0 else (Kas d F.data.toList).1,(Kas d F.data.toList).2)):=Jh rfl;obtain ⟨r1,hr1⟩:∃r,Kas d F.data.toList=r:=⟨_,rfl⟩;rw[hr1] at hv1 hd1 HK HG;have HV1:=Jh hv1;have HD1:=Jh hd1;have m4:w1.cell? ⟨2,0,none⟩=some (.iface 360 (.pointer (some (a 4)))):=(HE1.out.f 4 (by decide)).2;clear hr1 hv1 hd1 ho1 x0 x3;go_upto_if 18 with (go_at_call 55;refine (Qbm HV1.out HK.out HE1.out.s HA.out).mono ?_;rintro e w2 ⟨rfl,rfl⟩)
 go_cut [8] (fun s8 wz=>∃v2:Value,v2=s8∧wz=w1∧ErrW a w1 R1 (if r1.1=4 then 0 else r1.1) v2)
 case first=>
  by_cases h4:r1.1=4
  ·have d4:decide (r1.1=4)=true:=decide_eq_true h4;go_wp2_with fail
   go_meet
   refine ⟨_,rfl,rfl,?_⟩;rw[if_pos h4];rfl
  ·have d4:decide (r1.1=4)=false:=decide_eq_false h4;go_wp2_with fail
   go_meet
   refine ⟨_,rfl,rfl,?_⟩;rw[if_neg h4];exact HV1.out
 case rest=>
  obtain ⟨v2,rfl,rfl,hv2⟩:=hcut;obtain ⟨r2,hr2⟩:∃r:Nat×Ds,((if r1.1=4 then 0 else r1.1,r1.2):Nat×Ds)=r:=⟨_,rfl⟩;have hv3:ErrW a wc R1 r2.1 v2:=by rw[←hr2];exact hv2
  have hd3:Dk B0 (M+1) wc R1 p r2.2:=by rw[←hr2];exact HD1.out
  obtain ⟨res,hres⟩:∃r,putD d P.data.toList T.data.toList=r:=⟨_,rfl⟩
  have hl3:putL F.data.toList (Ken F.data.toList P.data.toList T.data.toList) r2=res:=by
   rw[←hres,←hr2,←HG.out];unfold putD Ken;rw[←HFD.out]
  have HRES:=Jh hres;have HL3:=Jh hl3;have HV3:=Jh hv3;have HD3:=Jh hd3;clear hr2 hv2 hv3 hd3 hl3 hres m4;obtain ⟨w1,rfl⟩:∃x,x=wc:=⟨_,rfl⟩;have x0:w1.cell? ⟨b,0,none⟩=some (.pointer (some ⟨p,0,none⟩)):=HB1.out.bd.cell 0;go_upto_region 6 with fail
  obtain ⟨g,hg⟩:∃g,w1.heap.size=g:=⟨_,rfl⟩;obtain ⟨w2,hw2⟩:∃x,w1.alloc (.cells (putRow b p) 141)=x:=⟨_,rfl⟩;have hb2:Below w1.heap.size w1 w2:=by rw[←hw2];exact (Below.refl _ _).alloc (Nat.le_refl _) _
  have HI:Hid (PutI B0 M p a R w b g P T F res 0 v2 R1 r2 w2):=Jh (by
   have ho:=Out.of_below (R:=R1) hb2;refine ⟨HB1.out.out ho,?_,?_,HV3.out.out ho,?_,HO1.out.trans ho,HE1.out.below (hb2.mono HW1.out),HL3.out⟩
   ·rw[←hw2,←hg];exact Blk.new _ _ _
   ·rw[←hg];exact HD3.out.new (Nat.le_refl _)
   ·exact (HD3.out.below hb2))
  have HBG:Hid (B0≤w2.heap.size):=Jh (Nat.le_trans HW1.out hb2.size)
  have hrow:(Obj.cells #[.func (.func 56) #[] #[.pointer (some ⟨b,0,none⟩),.pointer (some ⟨b+1+1+1,0,none⟩)],.func (.func 58) #[] #[.pointer (some ⟨b,0,none⟩),.pointer (some ⟨b+1+1+1,0,none⟩),.pointer (some ⟨b+1+1,0,none⟩)],
   .func (.func 60) #[] #[.pointer (some ⟨b,0,none⟩),.pointer (some ⟨b+1+1+1,0,none⟩)],.func (.func 62) #[] #[.pointer (some ⟨b,0,none⟩),.pointer (some ⟨b+1+1+1,0,none⟩),.pointer (some ⟨b+1,0,none⟩)],
   .func (.func 64) #[.pointer (some ⟨p,0,none⟩)] #[]] 141 : Obj) = .cells (putRow b p) 141:=rfl
  rw[hrow,hw2,hg];clear hrow hw2 hg hb2 x0;go_loopg [8,27] 5 (fun gh s8 s27 wr=>∃(i:Nat) (R':Nat→Nat) (r:Nat×Ds) (v:Value),i+gh=5∧v=s8∧s27 = .int .i64 (i:Int)∧PutI B0 M p a R w b g P T F res i v R' r wr)
  case atStart=>exact ⟨0,R1,r2,_,rfl,rfl,rfl,HI.out⟩
  case round=>
   obtain ⟨i,R',r,v,hig,rfl,rfl,hi⟩:=hrel
   by_cases h5:i < 5
   ·have el:decide ((i:Int) < 5)=true:=by simp;omega
    rcases (by omega:i=0∨i=1∨i=2∨i=3∨i=4) with rfl | rfl | rfl | rfl | rfl
    ·
     have hBr:B0≤wr.heap.size:=Nat.le_trans HB0.out hi.out.size;have m0:wr.cell? ⟨g,0,none⟩=some (putF b p 0):=hi.row.cell 0;have HC:=Jh (Qca b (b+3) F wr hi.dk (by show M+1+0+0≤_;omega) hBr hi.env.f hFs hi.blks.bd hi.blks.bf);have HX:=Jh (hi.dk.remove (a:=a) (by show M+1+0+0≤_;omega) hBr hi.env.f F hFs);have x0:wr.cell? ⟨b,0,none⟩=some (.pointer (some ⟨p,0,none⟩)):=hi.blks.bd.cell 0;have x3:wr.cell? ⟨b+3,0,none⟩=some (.string F):=hi.blks.bf.cell 0;have HI2:=Jh hi;have HBR:=Jh hBr;unfold putF at m0;simp at m0;clear hi hBr;rcases Nat.eq_zero_or_pos r.1 with hz | hz
     ·obtain rfl:=HI2.out.err.nil hz;have HZ:=Jh hz;clear hz;go_wp2_with fail
      refine HC.out.mono ?_;rintro e w3 ⟨v3,R3,rfl,hv3,hd3,ho3⟩
      have HI3:Hid (PutI B0 M p a R w b g P T F res 1 v3 R3 (Kbk r.2 F.data.toList) w3):=Jh
       ⟨HI2.out.blks.out ho3,ho3.blk HI2.out.row HI2.out.rr,ho3.old _ HI2.out.row.lt HI2.out.rr,hv3,hd3.more (by show _≤M+1+1+0;show M+1+0+0+1≤_;omega),HI2.out.out.trans ho3,HI2.out.env.out ho3 HBR.out HI2.out.dk,by
        rw[←HI2.out.left]
        exact (Kim (f:=(Kbk · F.data.toList)) (l:=(Ken F.data.toList P.data.toList T.data.toList).drop 1) HZ.out).symm⟩
      clear hv3 hd3 ho3 m0 x0 x3;go_wp2_with fail
      go_roundg (gk - 1)
      case measure=>omega
      case rel=>exact ⟨1,R3,_,_,by omega,rfl,by go_num,HI3.out⟩
     ·obtain ⟨q,op,path,rfl,hq1,hq2⟩:=HI2.out.err.some_ (by omega);have HZ:=Jh hz;clear hz hq1 hq2;go_wp2_with fail
      refine HX.out.mono ?_;rintro e w3 ⟨v3,R3,rfl,hv3,hd3,ho3⟩;have HO3:=Jh ho3;have HD3:=Jh hd3;clear hv3 hd3 ho3 m0 x0 x3;go_wp2_with fail
      go_ret
      have hres:res=(r.1,(Kas r.2 F.data.toList).2):=by
       rw[←HI2.out.left];exact Kge (by have:=HZ.out;omega)
      rw[HRES.out,hres];exact ⟨_,R3,rfl,HI2.out.err.out HO3.out,HD3.out.more (by show M+1+0+0+1≤_;omega),HI2.out.out.trans HO3.out⟩
    ·
     have hBr:B0≤wr.heap.size:=Nat.le_trans HB0.out hi.out.size;have m0:wr.cell? ⟨g,1,none⟩=some (putF b p 1):=hi.row.cell 1;have HC:=Jh (Qcb b (b+3) (b+2) F T wr hi.dk (by show M+1+1+0≤_;omega) hBr hi.env.f hFs (by omega) hi.blks.bd hi.blks.bf hi.blks.bt);have HX:=Jh (hi.dk.remove (a:=a) (by show M+1+1+0≤_;omega) hBr hi.env.f F hFs);have x0:wr.cell? ⟨b,0,none⟩=some (.pointer (some ⟨p,0,none⟩)):=hi.blks.bd.cell 0;have x3:wr.cell? ⟨b+3,0,none⟩=some (.string F):=hi.blks.bf.cell 0;have HI2:=Jh hi;have HBR:=Jh hBr;unfold putF at m0;simp at m0;clear hi hBr;rcases Nat.eq_zero_or_pos r.1 with hz | hz
     ·obtain rfl:=HI2.out.err.nil hz;have HZ:=Jh hz;clear hz;go_wp2_with fail
      refine HC.out.mono ?_;rintro e w3 ⟨v3,R3,rfl,hv3,hd3,ho3⟩
      have HI3:Hid (PutI B0 M p a R w b g P T F res 2 v3 R3 (Kbt r.2 F.data.toList T.data.toList) w3):=Jh
       ⟨HI2.out.blks.out ho3,ho3.blk HI2.out.row HI2.out.rr,ho3.old _ HI2.out.row.lt HI2.out.rr,hv3,hd3.more (by show _≤M+1+2+T.size;show M+1+1+0+T.size+1≤_;omega),HI2.out.out.trans ho3,HI2.out.env.out ho3 HBR.out HI2.out.dk,by
        rw[←HI2.out.left]
        exact (Kim (f:=(Kbt · F.data.toList T.data.toList)) (l:=(Ken F.data.toList P.data.toList T.data.toList).drop 2) HZ.out).symm⟩
      clear hv3 hd3 ho3 m0 x0 x3;go_wp2_with fail
      go_roundg (gk - 1)
      case measure=>omega
      case rel=>exact ⟨2,R3,_,_,by omega,rfl,by go_num,HI3.out⟩
     ·obtain ⟨q,op,path,rfl,hq1,hq2⟩:=HI2.out.err.some_ (by omega);have HZ:=Jh hz;clear hz hq1 hq2;go_wp2_with fail
      refine HX.out.mono ?_;rintro e w3 ⟨v3,R3,rfl,hv3,hd3,ho3⟩;have HO3:=Jh ho3;have HD3:=Jh hd3;clear hv3 hd3 ho3 m0 x0 x3;go_wp2_with fail
      go_ret
      have hres:res=(r.1,(Kas r.2 F.data.toList).2):=by
       rw[←HI2.out.left];exact Kge (by have:=HZ.out;omega)
      rw[HRES.out,hres];exact ⟨_,R3,rfl,HI2.out.err.out HO3.out,HD3.out.more (by show M+1+1+0+1≤_;omega),HI2.out.out.trans HO3.out⟩
    ·
     have hBr:B0≤wr.heap.size:=Nat.le_trans HB0.out hi.out.size;have m0:wr.cell? ⟨g,2,none⟩=some (putF b p 2):=hi.row.cell 2;have HC:=Jh (Qcc b (b+3) F wr hi.dk (by show M+1+2+T.size≤_;omega) hBr hi.env.f hFs hi.blks.bd hi.blks.bf);have HX:=Jh (hi.dk.remove (a:=a) (by show M+1+2+T.size≤_;omega) hBr hi.env.f F hFs);have x0:wr.cell? ⟨b,0,none⟩=some (.pointer (some ⟨p,0,none⟩)):=hi.blks.bd.cell 0;have x3:wr.cell? ⟨b+3,0,none⟩=some (.string F):=hi.blks.bf.cell 0;have HI2:=Jh hi;have HBR:=Jh hBr;unfold putF at m0;simp at m0;clear hi hBr;rcases Nat.eq_zero_or_pos r.1 with hz | hz
     ·obtain rfl:=HI2.out.err.nil hz;have HZ:=Jh hz;clear hz;go_wp2_with fail
      refine HC.out.mono ?_;rintro e w3 ⟨v3,R3,rfl,hv3,hd3,ho3⟩
      have HI3:Hid (PutI B0 M p a R w b g P T F res 3 v3 R3 (syncD r.2 F.data.toList) w3):=Jh
       ⟨HI2.out.blks.out ho3,ho3.blk HI2.out.row HI2.out.rr,ho3.old _ HI2.out.row.lt HI2.out.rr,hv3,hd3.more (by show _≤M+1+3+T.size;show M+1+2+T.size+1≤_;omega),HI2.out.out.trans ho3,HI2.out.env.out ho3 HBR.out HI2.out.dk,by
        rw[←HI2.out.left]
        exact (Kim (f:=(syncD · F.data.toList)) (l:=(Ken F.data.toList P.data.toList T.data.toList).drop 3) HZ.out).symm⟩
      clear hv3 hd3 ho3 m0 x0 x3;go_wp2_with fail
      go_roundg (gk - 1)
      case measure=>omega
      case rel=>exact ⟨3,R3,_,_,by omega,rfl,by go_num,HI3.out⟩
     ·obtain ⟨q,op,path,rfl,hq1,hq2⟩:=HI2.out.err.some_ (by omega);have HZ:=Jh hz;clear hz hq1 hq2;go_wp2_with fail
      refine HX.out.mono ?_;rintro e w3 ⟨v3,R3,rfl,hv3,hd3,ho3⟩;have HO3:=Jh ho3;have HD3:=Jh hd3;clear hv3 hd3 ho3 m0 x0 x3;go_wp2_with fail
      go_ret
      have hres:res=(r.1,(Kas r.2 F.data.toList).2):=by
       rw[←HI2.out.left];exact Kge (by have:=HZ.out;omega)
      rw[HRES.out,hres];exact ⟨_,R3,rfl,HI2.out.err.out HO3.out,HD3.out.more (by show M+1+2+T.size+1≤_;omega),HI2.out.out.trans HO3.out⟩
    ·
     have hBr:B0≤wr.heap.size:=Nat.le_trans HB0.out hi.out.size;have m0:wr.cell? ⟨g,3,none⟩=some (putF b p 3):=hi.row.cell 3;have HC:=Jh (Qcd b (b+3) (b+1) F P wr hi.dk (by show M+1+3+T.size≤_;omega) hBr hi.env.f hFs (by omega) hi.blks.bd hi.blks.bf hi.blks.bp);have HX:=Jh (hi.dk.remove (a:=a) (by show M+1+3+T.size≤_;omega) hBr hi.env.f F hFs);have x0:wr.cell? ⟨b,0,none⟩=some (.pointer (some ⟨p,0,none⟩)):=hi.blks.bd.cell 0;have x3:wr.cell? ⟨b+3,0,none⟩=some (.string F):=hi.blks.bf.cell 0;have HI2:=Jh hi;have HBR:=Jh hBr;unfold putF at m0;simp at m0;clear hi hBr;rcases Nat.eq_zero_or_pos r.1 with hz | hz
     ·obtain rfl:=HI2.out.err.nil hz;have HZ:=Jh hz;clear hz;go_wp2_with fail
      refine HC.out.mono ?_;rintro e w3 ⟨v3,R3,rfl,hv3,hd3,ho3⟩
      have HI3:Hid (PutI B0 M p a R w b g P T F res 4 v3 R3 (Kak r.2 F.data.toList P.data.toList) w3):=Jh
       ⟨HI2.out.blks.out ho3,ho3.blk HI2.out.row HI2.out.rr,ho3.old _ HI2.out.row.lt HI2.out.rr,hv3,hd3.more (by show _≤M+1+4+T.size;show M+1+3+T.size+1≤_;omega),HI2.out.out.trans ho3,HI2.out.env.out ho3 HBR.out HI2.out.dk,by
        rw[←HI2.out.left]
        exact (Kim (f:=(Kak · F.data.toList P.data.toList)) (l:=(Ken F.data.toList P.data.toList T.data.toList).drop 4) HZ.out).symm⟩
      clear hv3 hd3 ho3 m0 x0 x3;go_wp2_with fail
      go_roundg (gk - 1)
      case measure=>omega
      case rel=>exact ⟨4,R3,_,_,by omega,rfl,by go_num,HI3.out⟩
     ·obtain ⟨q,op,path,rfl,hq1,hq2⟩:=HI2.out.err.some_ (by omega);have HZ:=Jh hz;clear hz hq1 hq2;go_wp2_with fail
      refine HX.out.mono ?_;rintro e w3 ⟨v3,R3,rfl,hv3,hd3,ho3⟩;have HO3:=Jh ho3;have HD3:=Jh hd3;clear hv3 hd3 ho3 m0 x0 x3;go_wp2_with fail
      go_ret
      have hres:res=(r.1,(Kas r.2 F.data.toList).2):=by
       rw[←HI2.out.left];exact Kge (by have:=HZ.out;omega)
      rw[HRES.out,hres];exact ⟨_,R3,rfl,HI2.out.err.out HO3.out,HD3.out.more (by show M+1+3+T.size+1≤_;omega),HI2.out.out.trans HO3.out⟩
    ·
     have hBr:B0≤wr.heap.size:=Nat.le_trans HB0.out hi.out.size;have m0:wr.cell? ⟨g,4,none⟩=some (putF b p 4):=hi.row.cell 4;have HC:=Jh (hi.dk.syncNames (by show M+1+4+T.size≤_;omega) hBr hi.env.f);have HX:=Jh (hi.dk.remove (a:=a) (by show M+1+4+T.size≤_;omega) hBr hi.env.f F hFs);have x0:wr.cell? ⟨b,0,none⟩=some (.pointer (some ⟨p,0,none⟩)):=hi.blks.bd.cell 0;have x3:wr.cell? ⟨b+3,0,none⟩=some (.string F):=hi.blks.bf.cell 0;have HI2:=Jh hi;have HBR:=Jh hBr;unfold putF at m0;simp at m0;clear hi hBr;rcases Nat.eq_zero_or_pos r.1 with hz | hz
     ·obtain rfl:=HI2.out.err.nil hz;have HZ:=Jh hz;clear hz;go_wp2_with fail
      refine HC.out.mono ?_;rintro e w3 ⟨v3,R3,rfl,hv3,hd3,ho3⟩
      have HI3:Hid (PutI B0 M p a R w b g P T F res 5 v3 R3 (Kbf r.2) w3):=Jh
       ⟨HI2.out.blks.out ho3,ho3.blk HI2.out.row HI2.out.rr,ho3.old _ HI2.out.row.lt HI2.out.rr,hv3,hd3.more (by show _≤M+1+5+T.size;show M+1+4+T.size+1≤_;omega),HI2.out.out.trans ho3,HI2.out.env.out ho3 HBR.out HI2.out.dk,by
        rw[←HI2.out.left]
        exact (Kim (f:=Kbf) (l:=(Ken F.data.toList P.data.toList T.data.toList).drop 5) HZ.out).symm⟩
      clear hv3 hd3 ho3 m0 x0 x3;go_wp2_with fail
      go_roundg (gk - 1)
      case measure=>omega
      case rel=>exact ⟨5,R3,_,_,by omega,rfl,by go_num,HI3.out⟩
     ·obtain ⟨q,op,path,rfl,hq1,hq2⟩:=HI2.out.err.some_ (by omega);have HZ:=Jh hz;clear hz hq1 hq2;go_wp2_with fail
      refine HX.out.mono ?_;rintro e w3 ⟨v3,R3,rfl,hv3,hd3,ho3⟩;have HO3:=Jh ho3;have HD3:=Jh hd3;clear hv3 hd3 ho3 m0 x0 x3;go_wp2_with fail
      go_ret
      have hres:res=(r.1,(Kas r.2 F.data.toList).2):=by
       rw[←HI2.out.left];exact Kge (by have:=HZ.out;omega)
      rw[HRES.out,hres];exact ⟨_,R3,rfl,HI2.out.err.out HO3.out,HD3.out.more (by show M+1+4+T.size+1≤_;omega),HI2.out.out.trans HO3.out⟩
   ·have el:decide ((i:Int) < 5)=false:=by simp;omega
    obtain rfl:i=5:=by omega
    have HI2:=Jh hi;clear hi;go_wp2_with fail
    go_ret
    have hres:res=r:=by
     rw[←HI2.out.left];rfl
    rw[HRES.out,hres];exact ⟨_,R',rfl,HI2.out.err,HI2.out.dk.more (by show M+1+5+T.size≤_;omega),HI2.out.out⟩
end
structure QEnv (B0:Nat) (a:Nat→Addr) (w:World):Prop where
 e:Env5 B0 a w
 nib:Kdc w
 db:DbTab w
 hb:B0≤w.heap.size
structure QCon (B0:Nat) (a:Nat→Addr):Prop where
 ap:Apart a
 nib:7 < B0
 db:9 < B0
section
variable {B0 M p : Nat} {a : Nat → Addr} {R R' : Nat → Nat} {d : Ds} {w w' : World}
theorem QEnv.below (h:QEnv B0 a w) (hc:QCon B0 a) (hb:Below B0 w w'):QEnv B0 a w':=
 ⟨h.e.below hb,h.nib.below hc.nib hb,fun j hj=>(hb.cell (p:=⟨_,j,none⟩) hc.db).trans (h.db j hj),Nat.le_trans h.hb hb.size⟩
theorem QEnv.low (h:QEnv B0 a w) (hc:QCon B0 a) (hb:Below w.heap.size w w'):QEnv B0 a w':=h.below hc (hb.mono h.hb)
theorem QEnv.out (h:QEnv B0 a w) (hc:QCon B0 a) (hD:Dk B0 M w R p d) (ho:Out R R' w w'):QEnv B0 a w':=h.below hc (ho.below h.hb hD.low)
theorem Kix (L:List KSer):(encK L).length=(bodyK L).length+4:=by
 unfold encK sealT;rw[List.length_append];rfl
theorem Kmj (L:List KSer) (A:Option Addr) (n c:Nat) (P:ByteArray) (w:World) (hS:KSers w A n L) (hz:∀s∈L,KSz s) (hn:n≤1048576) (hf:fitK L=true) (hsz:(encK L).length≤268435456) (hD:Dk B0 M w R p d) (hM:M+(encK L).length+8≤536870912) (hC:QCon B0 a) (hE:QEnv B0 a w) (hP:P.size≤1000000000) :
  Calls Tryz.prog 17 #[.pointer (some ⟨p,0,none⟩),.string P,.slice A n c] w (DkOut a B0 (M+(encK L).length+7) R p (putD d P.data.toList (encK L)) w):=by
 have hen:=Kgi L A n c w hS hz (by omega) hE.db hE.nib (fun _=>by have:=Kix L;omega);unfold kencF at hen;rw[if_pos hf] at hen;dsimp only at hen;obtain ⟨E1,hE1⟩:∃E:ByteArray,(⟨(encK L).toArray⟩:ByteArray)=E:=⟨_,rfl⟩;rw[hE1] at hen;have hEd:E1.data.toList=encK L:=by rw[←hE1]
 have hEs:E1.size=(encK L).length:=by rw[←hEd];rfl
 have HEN:=Jh hen;have HED:=Jh hEd
 have HP:Hid (∀w1,Below w.heap.size w w1→Calls Tryz.prog 20 #[.pointer (some ⟨p,0,none⟩),.string P,.string E1] w1 (DkOut a B0 (M+(encK L).length+7) R p (putD d P.data.toList (encK L)) w1)):=Jh (fun w1 hb=>by
  have:=Kth P E1 w1 (hD.below hb) (by rw[hEs];exact hM) (hE.low hC hb).hb (hE.low hC hb).e hC.ap hP;rw[hEd,hEs] at this
  exact this)
 clear hen hE1 hEd hEs hS hz hD hM hC hE hsz;go_enter Tryz.func17,Tryz.ntmps17
 go_wp2_with fail
 refine HEN.out.mono ?_;rintro _ w1 ⟨rfl,hb1⟩;have HB1:=Jh hb1;clear hb1;go_wp2_with fail
 refine (HP.out w1 HB1.out).mono ?_;rintro e w2 ⟨v,R2,rfl,hv,hd,ho⟩;have HV:=Jh hv;have HD:=Jh hd;have HO:=Jh ho;clear hv hd ho;go_wp2_with fail
 go_ret
 exact ⟨v,R2,rfl,HV.out,HD.out,(Out.of_below HB1.out).trans HO.out⟩
def Qlh (P:ByteArray) (R':Nat→Nat) (w':World) (r:Except Nat (List KSer)) (e:Ending):Prop:=match r with
 | .ok L=>∃A c,e = .returned (.tuple #[.slice A L.length c,.nilIface])∧KSers w' A L.length L∧(∀s∈L,KSz s)∧L.length≤268435456
 | .error f=>∃q,e = .returned (.tuple #[.slice none 0 0,.iface 45 (.pointer (some ⟨q,0,none⟩))])∧Blk w' q 48 #[.string P,.int .i64 ((f:Nat):Int)]
theorem Kmi (P:ByteArray) (S:Txt) (w:World) (hall:allD d P.data.toList=(S,0)) (hS:S.length≤268435456) (hD:Dk B0 M w R p d) (hM:M≤536870912) (hC:QCon B0 a) (hE:QEnv B0 a w) (hP:P.size≤1000000000) :
  Calls Tryz.prog 19 #[.pointer (some ⟨p,0,none⟩),.string P] w fun e w'=>∃R',Qlh P R' w' (decK S) e∧Dk B0 M w' R' p d∧Out R R' w w':=by
 have hal:=hD.all (a:=a) hM hE.hb hE.e.f P (by omega);rw[hall] at hal;obtain ⟨T,hT⟩:∃T:ByteArray,(⟨S.toArray⟩:ByteArray)=T:=⟨_,rfl⟩;unfold txtV at hal;rw[hT] at hal;have hTd:T.data.toList=S:=by rw[←hT]
 have hTs:T.size≤268435456:=by
  have h1:T.data.toList.length=T.size:=rfl;rw[hTd] at h1;omega
 have HAL:=Jh hal;have HTD:=Jh hTd;have HC:=Jh hC;have HE:=Jh hE;have HD0:=Jh hD
 have hce:∀c:Nat,decK S = .error c→((c:Int) != 0)=true:=fun c h=>by
  have:=Kop h;simp;omega
 have HCE:=Jh hce;clear hal hT hTd hC hE hall hce hD;go_enter Tryz.func19,Tryz.ntmps19
 go_wp2_with fail
 refine HAL.out.mono ?_;rintro e w1 ⟨u,v,R1,rfl,rfl,hv1,hd1,ho1⟩;obtain rfl:v = .nilIface:=hv1.nil rfl;have HE1:=Jh (HE.out.out HC.out HD0.out ho1);have HO1:=Jh ho1;have HD1:=Jh hd1;have hde:=Kkc T w1 hTs HE1.out.nib HE1.out.db;rw[HTD.out] at hde;obtain ⟨r,hr⟩:∃r,decK S=r:=⟨_,rfl⟩;rw[hr] at hde;have HDE:=Jh hde;have HR:=Jh hr;clear hv1 hd1 ho1 hde hr;go_wp2_with fail
 refine HDE.out.mono ?_;rintro e w2 ⟨h2,hb2⟩;have HB2:=Jh hb2;clear hb2
 cases r with
 | ok L=>
  obtain ⟨A,c,rfl,h3,h4,h5⟩:=h2;have H3:=Jh h3;have H4:=Jh h4;clear h3 h4;obtain ⟨ln,hln⟩:∃x,L.length=x:=⟨_,rfl⟩;have HLN:=Jh hln;have H5:=Jh h5;rw[hln];clear hln h5;go_wp2_with fail
  go_ret2
  exact ⟨R1,by rw[HR.out];exact ⟨A,c,by rw[HLN.out];rfl,H3.out,H4.out,H5.out⟩,HD1.out.below HB2.out,HO1.out.trans (Out.of_below HB2.out)⟩
 | error f=>
  obtain rfl:=h2;have hne:=HCE.out f HR.out;go_upto_region 6 with fail
  have hb3:Below w2.heap.size w2 (w2.alloc (.cells #[.string P,.int .i64 (f:Int)] 48)):=(Below.refl _ _).alloc (Nat.le_refl _) _;have hk3:Blk (w2.alloc (.cells #[.string P,.int .i64 (f:Int)] 48)) w2.heap.size 48 #[.string P,.int .i64 (f:Int)]:=Blk.new _ _ _;have HB3:=Jh (HB2.out.trans (hb3.mono HB2.out.size));have HK3:=Jh hk3;clear hb3 hk3;go_wp2_with fail
  go_ret2
  exact ⟨R1,by rw[HR.out];exact ⟨_,rfl,HK3.out⟩,HD1.out.below HB3.out,HO1.out.trans (Out.of_below HB3.out)⟩
end
end
end Go.Proofs.YtefpndiiedkmpaaGreatDoor
