/- Merged (what the claim wants of): DskWalksV, DskWalksW, DskInv, RdkWalksC, RdkWalksL, DskWalksZ, DskList, DskListA, DskLaw, DskStep, DskTwo, DskRun, StoDisk. -/
import Derived.Test.YtefpndiiedkmpaaGreatDoorKpf12
import Derived.Test.YtefpndiiedkmpaaGreatDoorKpf10
import Derived.Test.YtefpndiiedkmpaaGreatDoorKpf03
import Derived.Laws.OwnMore
import Derived.Deep.AppendLies
import Derived.Deep.Onto
import Derived.Sort.Walk0
import Derived.Deep.RegionHeldLaw
import Derived.Laws.AppendOwnNone
set_option linter.unusedVariables false
set_option linter.unusedSimpArgs false
set_option maxRecDepth 100000
set_option maxHeartbeats 8000000
namespace Go.Proofs.YtefpndiiedkmpaaGreatDoor
section
open Go.RowKit Go.Shelf Go.Maps Go.Sort
open Lib renaming hid → Jh
attribute [local go_sem ↓] Go.wp_at_zero Go.wp_at_succ
attribute [local go_sem] Later.cell
section
variable {B0 : Nat} {a : Nat → Addr} {R : Nat → Nat} {A : Adr} {d : Ds} {w w' : World}
structure RS (w:World) (q:Nat) (S S2:ByteArray) (W:World):Prop where
 below:Below w.heap.size w W
 one:Blk W q 9 #[.string S]
 two:Blk W (q+1) 9 #[.string S2]
theorem RS.later {q:Nat} {S S2:ByteArray} {W W':World} (h:RS w q S S2 W) (hb:Below W.heap.size W W'):RS w q S S2 W':=⟨then_ h.below hb,h.one.below hb h.one.lt,h.two.below hb h.two.lt⟩
theorem Kvo (S S2:ByteArray) (w:World) (h:CD B0 w R A d) (hf:Fit d) (hS:S.size≤1073741824) (hS2:S2.size≤1073741824) (hB:B0≤w.heap.size) (hF:Fails B0 a w) :
  Calls Tryz.prog 63 #[.pointer (some ⟨A.p,0,none⟩),.string S,.string S2] w (Kac B0 a R A (Kak d S.data.toList S2.data.toList) ⟨#[114,101,110,97,109,101]⟩ S w):=by
 obtain ⟨r1,hr1⟩:∃r,pathB S.data.toList=r:=⟨_,rfl⟩;obtain ⟨r2,hr2⟩:∃r,pathB S2.data.toList=r:=⟨_,rfl⟩;have HN1:=Jh (fun w=>Kfl S r1 hr1 hS w);have HN2:=Jh (fun w=>Kfl S2 r2 hr2 hS2 w);have HR1:=Jh hr1;have HR2:=Jh hr2;obtain ⟨p,hp⟩:∃p,A.p=p:=⟨_,rfl⟩;have HP:=Jh hp;rw[hp];clear hr1 hr2 hp;go_enter Tryz.func63,Tryz.ntmps63
 go_upto_region 1 with fail
 obtain ⟨W,hw1⟩:∃x,(w.alloc (.cells #[.string S] 9)).alloc (.cells #[.string S2] 9)=x:=⟨_,rfl⟩;have hb1:Below w.heap.size w W:=by rw[←hw1];exact ((Below.refl _ _).alloc (Nat.le_refl _) _).alloc (by simp) _
 have hk1:Blk W w.heap.size 9 #[.string S]:=by rw[←hw1];exact (Blk.new _ _ _).alloc _
 have hk2:Blk W (w.heap.size+1) 9 #[.string S2]:=by rw[←hw1];exact Blk.newAt (by simp)
 rw[hw1];obtain ⟨q,hqq⟩:∃q,w.heap.size=q:=⟨_,rfl⟩;rw[hqq] at hk1 hk2 ⊢;have HQ:=Jh hqq;have HRS:=Jh (show RS w q S S2 W from ⟨hb1,hk1,hk2⟩);clear hw1 hqq hb1 hk1 hk2
 cases r1 with
 | false=>
  have hrs:=HRS.out;have hcd:=h.below hrs.below;have hF3:=hF.below (hrs.below.mono hB);have c0:W.cell? ⟨p,0,none⟩=some (.map (some A.md)):=by rw[←HP.out];exact Blk.cell hcd.blk 0
  have c1:W.cell? ⟨p,1,none⟩=some (.map (some A.mf)):=by rw[←HP.out];exact Blk.cell hcd.blk 1
  have q0:W.cell? ⟨q,0,none⟩=some (.string S):=hrs.one.cell 0;have q1:W.cell? ⟨q+1,0,none⟩=some (.string S2):=hrs.two.cell 0;have hql:=hrs.one.lt;have hql2:=hrs.two.lt;have hpl:p < W.heap.size:=Kah c0;refine Kaf 8 (by kernel_rfl) (by kernel_rfl) ?_;simp only[List.take_succ_cons,List.take_zero,List.drop_succ_cons,List.drop_zero]
  repeat (go_big_quiet_step ((go_at_call 109;exact Kbw _ (HN1.out _))))
  refine wpQuiet_nil ?_;rintro W ⟨⟨_,hb2⟩,rfl⟩;have hrs2:=HRS.out.later hb2;clear hrs hcd hF3 c0 c1 q0 q1 hql hql2 hpl hb2 HRS;have HRS:=Jh hrs2;clear hrs2;have hrs:=HRS.out;have hcd:=h.below hrs.below;have hoff:W.cell? ⟨p,6,none⟩=some (.bool d.off):=by rw[←HP.out];exact Blk.cell hcd.blk 6
  obtain ⟨k,hk⟩:∃k,Kbv d.off false=k:=⟨_,rfl⟩;have HK:=Jh hk;have HRD:=Jh (Kdn (B0:=B0) (a:=a) p d.off false ⟨#[114,101,110,97,109,101]⟩ S k hk W hoff (hF.below (hrs.below.mono hB)));clear hk hcd hoff;go_wp2_with fail
  refine HRD.out.mono ?_;rintro _ W4 ⟨v,rfl,hv3,hb4⟩
  cases k with
  | succ k=>
   have hfin:Kac B0 a R A (Kak d S.data.toList S2.data.toList) ⟨#[114,101,110,97,109,101]⟩ S w (.returned v) W4:=by
    have e1:Kak d S.data.toList S2.data.toList=(k+1,d):=by
     have hk:=HK.out;unfold Kbv at hk;unfold Kak;rw[←hk,HR1.out,HR2.out]
     cases ho:d.off with
     | true=>simp
     | false=>
      rw[ho] at hk
      first
       | (simp;done)
       | (cases r2 with
         | true=>simp at hk
         | false=>simp)
    rw[e1];exact Kac.bad h (then_ hrs.below hb4) hv3
   obtain ⟨q4,rfl,_⟩:=hv3;have HFIN:=Jh hfin;clear hfin hb4 hrs;go_wp2_with fail
   go_ret
   exact HFIN.out
  | zero=>
   have hk:=HK.out;unfold Kbv at hk;cases ho:d.off <;> rw[ho] at hk <;> simp at hk
 | true=>
  have hrs:=HRS.out;have hcd:=h.below hrs.below;have hF3:=hF.below (hrs.below.mono hB);have c0:W.cell? ⟨p,0,none⟩=some (.map (some A.md)):=by rw[←HP.out];exact Blk.cell hcd.blk 0
  have c1:W.cell? ⟨p,1,none⟩=some (.map (some A.mf)):=by rw[←HP.out];exact Blk.cell hcd.blk 1
  have q0:W.cell? ⟨q,0,none⟩=some (.string S):=hrs.one.cell 0;have q1:W.cell? ⟨q+1,0,none⟩=some (.string S2):=hrs.two.cell 0;have hql:=hrs.one.lt;have hql2:=hrs.two.lt;have hpl:p < W.heap.size:=Kah c0;refine Kaf 8 (by kernel_rfl) (by kernel_rfl) ?_;simp only[List.take_succ_cons,List.take_zero,List.drop_succ_cons,List.drop_zero]
  repeat (go_big_quiet_step ((go_at_call 109;first | with_reducible exact Kbw _ (HN1.out _) | with_reducible exact Kbw _ (HN2.out _))))
  refine wpQuiet_nil ?_;rintro W ⟨⟨_,hb2⟩,rfl⟩;have hrs2:=HRS.out.later hb2;clear hrs hcd hF3 c0 c1 q0 q1 hql hql2 hpl hb2 HRS;have HRS:=Jh hrs2;clear hrs2;have hrs:=HRS.out;have hcd:=h.below hrs.below;have hoff:W.cell? ⟨p,6,none⟩=some (.bool d.off):=by rw[←HP.out];exact Blk.cell hcd.blk 6
  obtain ⟨k,hk⟩:∃k,Kbv d.off r2=k:=⟨_,rfl⟩;have HK:=Jh hk;have HRD:=Jh (Kdn (B0:=B0) (a:=a) p d.off r2 ⟨#[114,101,110,97,109,101]⟩ S k hk W hoff (hF.below (hrs.below.mono hB)));clear hk hcd hoff;go_wp2_with fail
  refine HRD.out.mono ?_;rintro _ W4 ⟨v,rfl,hv3,hb4⟩
  cases k with
  | succ k=>
   have hfin:Kac B0 a R A (Kak d S.data.toList S2.data.toList) ⟨#[114,101,110,97,109,101]⟩ S w (.returned v) W4:=by
    have e1:Kak d S.data.toList S2.data.toList=(k+1,d):=by
     have hk:=HK.out;unfold Kbv at hk;unfold Kak;rw[←hk,HR1.out,HR2.out]
     cases ho:d.off with
     | true=>simp
     | false=>
      rw[ho] at hk
      first
       | (simp;done)
       | (cases r2 with
         | true=>simp at hk
         | false=>simp)
    rw[e1];exact Kac.bad h (then_ hrs.below hb4) hv3
   obtain ⟨q4,rfl,_⟩:=hv3;have HFIN:=Jh hfin;clear hfin hb4 hrs;go_wp2_with fail
   go_ret
   exact HFIN.out
  | zero=>
   obtain rfl:v = .nilIface:=hv3
   obtain ⟨ho,hn⟩:d.off=false∧r2=true:=by
    have hk:=HK.out;unfold Kbv at hk
    cases ho:d.off with
    | true=>rw[ho] at hk;simp at hk
    | false=>
     rw[ho] at hk
     cases r2 with
     | true=>exact ⟨rfl,rfl⟩
     | false=>simp at hk
   have e1:Kak d S.data.toList S2.data.toList=if isT d.things S.data.toList=2∧nameB S2.data.toList=false then (2,d) else if isT d.things S.data.toList=0∨Kct d.things S2.data.toList=false then (4,d) else if isT d.things S2.data.toList=2∨(isT d.things S2.data.toList=1∧(isT d.things S.data.toList=2∨S.data.toList=S2.data.toList)) then (5,d) else Kav d (.rename S.data.toList S2.data.toList):=by
    unfold Kak;rw[ho,HR1.out,HR2.out,hn];simp
   have HE1:=Jh e1;obtain rfl:r2=true:=hn;have hrs4:=hrs.later hb4;clear ho e1 HK hrs hb4 HRS HRD;have HRS:=Jh hrs4;clear hrs4 W
   revert W4
   intro W HRS;obtain ⟨rp,hrp⟩:∃r,Kct d.things S2.data.toList=r:=⟨_,rfl⟩;have HRP:=Jh hrp;rcases Kdw d.things S.data.toList with ka | ka | ka
   ·have hrs:=HRS.out;have hcd:=h.below hrs.below;have hF3:=hF.below (hrs.below.mono hB);have c0:W.cell? ⟨p,0,none⟩=some (.map (some A.md)):=by rw[←HP.out];exact Blk.cell hcd.blk 0
    have c1:W.cell? ⟨p,1,none⟩=some (.map (some A.mf)):=by rw[←HP.out];exact Blk.cell hcd.blk 1
    have q0:W.cell? ⟨q,0,none⟩=some (.string S):=hrs.one.cell 0;have q1:W.cell? ⟨q+1,0,none⟩=some (.string S2):=hrs.two.cell 0;have hql:=hrs.one.lt;have hql2:=hrs.two.lt;have hpl:p < W.heap.size:=Kah c0;have hlk:=Kbz hcd hf S hS 0 (by rw[ka];rfl);go_upto_region 4 with fail
    refine Kab (by kernel_rfl) (by kernel_rfl) ?_
    repeat (go_big_quiet_step (fail))
    clear hlk;refine wpQuiet_nil ?_;rintro W ⟨⟨_,hb2⟩,rfl⟩;have hrs2:=HRS.out.later hb2;clear hrs hcd hF3 c0 c1 q0 q1 hql hql2 hpl hb2 HRS;have HRS:=Jh hrs2;clear hrs2;have hrs:=HRS.out;have hcd:=h.below hrs.below;have hF3:=hF.below (hrs.below.mono hB);have c0:W.cell? ⟨p,0,none⟩=some (.map (some A.md)):=by rw[←HP.out];exact Blk.cell hcd.blk 0
    have c1:W.cell? ⟨p,1,none⟩=some (.map (some A.mf)):=by rw[←HP.out];exact Blk.cell hcd.blk 1
    have q0:W.cell? ⟨q,0,none⟩=some (.string S):=hrs.one.cell 0;have q1:W.cell? ⟨q+1,0,none⟩=some (.string S2):=hrs.two.cell 0;have hql:=hrs.one.lt;have hql2:=hrs.two.lt;have hpl:p < W.heap.size:=Kah c0;obtain ⟨P,hP,hlf⟩:=Kdy hcd hf S hS;obtain rfl:P=none:=hP.2 (by rw[ka];omega);go_upto_region 7 with fail
    refine Kab (by kernel_rfl) (by kernel_rfl) ?_
    repeat (go_big_quiet_step (fail))
    clear hlf hP;refine wpQuiet_nil ?_;rintro W ⟨⟨_,hb2⟩,rfl⟩;have hrs2:=HRS.out.later hb2;clear hrs hcd hF3 c0 c1 q0 q1 hql hql2 hpl hb2 HRS;have HRS:=Jh hrs2;clear hrs2;have hrs:=HRS.out;have hF3:=hF.below (hrs.below.mono hB);have f0:_=some (failV a 4):=(hF3 4 (by decide)).2;have hfl:=Kbs (a:=a) ⟨#[114,101,110,97,109,101]⟩ S 3 W;unfold failV at f0 hfl;simp only[failG] at f0;have HFL:=Jh hfl;have e2:Kak d S.data.toList S2.data.toList=(4,d):=by (rw[HE1.out];(rw[if_neg (by rw[ka];simp),if_pos (.inl ka)]))
    have HE2:=Jh e2;have q0:W.cell? ⟨q,0,none⟩=some (.string S):=hrs.one.cell 0;clear hfl hF3 e2 hrs;go_wp2_with fail
    refine HFL.out.mono ?_;rintro e w5 ⟨v,rfl,hv5,hb5⟩
    have hfin:Kac B0 a R A (Kak d S.data.toList S2.data.toList) ⟨#[114,101,110,97,109,101]⟩ S w (.returned v) w5:=by
     rw[HE2.out];exact Kac.bad h (then_ HRS.out.below hb5) hv5
    have HFIN:=Jh hfin;clear hfin hv5;go_wp2_with fail
    go_ret
    exact HFIN.out
   ·have hrs:=HRS.out;have hcd:=h.below hrs.below;have hF3:=hF.below (hrs.below.mono hB);have c0:W.cell? ⟨p,0,none⟩=some (.map (some A.md)):=by rw[←HP.out];exact Blk.cell hcd.blk 0
    have c1:W.cell? ⟨p,1,none⟩=some (.map (some A.mf)):=by rw[←HP.out];exact Blk.cell hcd.blk 1
    have q0:W.cell? ⟨q,0,none⟩=some (.string S):=hrs.one.cell 0;have q1:W.cell? ⟨q+1,0,none⟩=some (.string S2):=hrs.two.cell 0;have hql:=hrs.one.lt;have hql2:=hrs.two.lt;have hpl:p < W.heap.size:=Kah c0;have hlk:=Kbz hcd hf S hS 0 (by rw[ka];rfl);go_upto_region 4 with fail
    refine Kab (by kernel_rfl) (by kernel_rfl) ?_
    repeat (go_big_quiet_step (fail))
    clear hlk;refine wpQuiet_nil ?_;rintro W ⟨⟨_,hb2⟩,rfl⟩;have hrs2:=HRS.out.later hb2;clear hrs hcd hF3 c0 c1 q0 q1 hql hql2 hpl hb2 HRS;have HRS:=Jh hrs2;clear hrs2;have hrs:=HRS.out;have hcd:=h.below hrs.below;have hF3:=hF.below (hrs.below.mono hB);have c0:W.cell? ⟨p,0,none⟩=some (.map (some A.md)):=by rw[←HP.out];exact Blk.cell hcd.blk 0
    have c1:W.cell? ⟨p,1,none⟩=some (.map (some A.mf)):=by rw[←HP.out];exact Blk.cell hcd.blk 1
    have q0:W.cell? ⟨q,0,none⟩=some (.string S):=hrs.one.cell 0;have q1:W.cell? ⟨q+1,0,none⟩=some (.string S2):=hrs.two.cell 0;have hql:=hrs.one.lt;have hql2:=hrs.two.lt;have hpl:p < W.heap.size:=Kah c0;obtain ⟨P,hP,hlf⟩:=Kdy hcd hf S hS
    obtain ⟨P',rfl⟩:∃P',P=some P':=by
     cases P with
     | none=>exact absurd ka (hP.1 rfl)
     | some P'=>exact ⟨P',rfl⟩
    go_upto_region 7 with fail
    refine Kab (by kernel_rfl) (by kernel_rfl) ?_
    repeat (go_big_quiet_step (fail))
    clear hlf hP;refine wpQuiet_nil ?_;rintro W ⟨⟨_,hb2⟩,rfl⟩;have hrs2:=HRS.out.later hb2;clear hrs hcd hF3 c0 c1 q0 q1 hql hql2 hpl hb2 HRS;have HRS:=Jh hrs2;clear hrs2;have hrs:=HRS.out;have hcd:=h.below hrs.below;have hF3:=hF.below (hrs.below.mono hB);have c0:W.cell? ⟨p,0,none⟩=some (.map (some A.md)):=by rw[←HP.out];exact Blk.cell hcd.blk 0
    have c1:W.cell? ⟨p,1,none⟩=some (.map (some A.mf)):=by rw[←HP.out];exact Blk.cell hcd.blk 1
    have q0:W.cell? ⟨q,0,none⟩=some (.string S):=hrs.one.cell 0;have q1:W.cell? ⟨q+1,0,none⟩=some (.string S2):=hrs.two.cell 0;have hql:=hrs.one.lt;have hql2:=hrs.two.lt;have hpl:p < W.heap.size:=Kah c0;have HPAR:=Jh (fun x:Later W=>Kgp A.md A.mf S2 rp hrp x.w (hcd.dirs.1.below x.h hcd.dirs.1.lt) hf.tw hS2);go_upto_region 8 with fail
    refine Kab (by kernel_rfl) (by kernel_rfl) ?_
    repeat (go_big_quiet_step ((go_at_call 114;exact Kbw _ (HPAR.out _))))
    clear HPAR;refine wpQuiet_nil ?_;rintro W ⟨⟨_,hb2⟩,rfl⟩;have hrs2:=HRS.out.later hb2;clear hrs hcd hF3 c0 c1 q0 q1 hql hql2 hpl hb2 HRS;have HRS:=Jh hrs2;clear hrs2
    cases rp with
    | false=>
     have hrs:=HRS.out;have hF3:=hF.below (hrs.below.mono hB);have f0:_=some (failV a 4):=(hF3 4 (by decide)).2;have hfl:=Kbs (a:=a) ⟨#[114,101,110,97,109,101]⟩ S 3 W;unfold failV at f0 hfl;simp only[failG] at f0;have HFL:=Jh hfl;have e2:Kak d S.data.toList S2.data.toList=(4,d):=by (rw[HE1.out];(rw[if_neg (by rw[ka];simp),if_pos (.inr HRP.out)]))
     have HE2:=Jh e2;have q0:W.cell? ⟨q,0,none⟩=some (.string S):=hrs.one.cell 0;clear hfl hF3 e2 hrs;go_wp2_with fail
     refine HFL.out.mono ?_;rintro e w5 ⟨v,rfl,hv5,hb5⟩
     have hfin:Kac B0 a R A (Kak d S.data.toList S2.data.toList) ⟨#[114,101,110,97,109,101]⟩ S w (.returned v) w5:=by
      rw[HE2.out];exact Kac.bad h (then_ HRS.out.below hb5) hv5
     have HFIN:=Jh hfin;clear hfin hv5;go_wp2_with fail
     go_ret
     exact HFIN.out
    | true=>
     rcases Kdw d.things S2.data.toList with kb | kb | kb
     ·have hrs:=HRS.out;have hcd:=h.below hrs.below;have hF3:=hF.below (hrs.below.mono hB);have c0:W.cell? ⟨p,0,none⟩=some (.map (some A.md)):=by rw[←HP.out];exact Blk.cell hcd.blk 0
      have c1:W.cell? ⟨p,1,none⟩=some (.map (some A.mf)):=by rw[←HP.out];exact Blk.cell hcd.blk 1
      have q0:W.cell? ⟨q,0,none⟩=some (.string S):=hrs.one.cell 0;have q1:W.cell? ⟨q+1,0,none⟩=some (.string S2):=hrs.two.cell 0;have hql:=hrs.one.lt;have hql2:=hrs.two.lt;have hpl:p < W.heap.size:=Kah c0;have hlk:=Kbz hcd hf S2 hS2 0 (by rw[kb];rfl);go_upto_region 10 with fail
      refine Kab (by kernel_rfl) (by kernel_rfl) ?_
      repeat (go_big_quiet_step (fail))
      clear hlk;refine wpQuiet_nil ?_;rintro W ⟨⟨_,hb2⟩,rfl⟩;have hrs2:=HRS.out.later hb2;clear hrs hcd hF3 c0 c1 q0 q1 hql hql2 hpl hb2 HRS;have HRS:=Jh hrs2;clear hrs2;have hrs:=HRS.out;have hcd:=h.below hrs.below;have hF3:=hF.below (hrs.below.mono hB);have c0:W.cell? ⟨p,0,none⟩=some (.map (some A.md)):=by rw[←HP.out];exact Blk.cell hcd.blk 0
      have c1:W.cell? ⟨p,1,none⟩=some (.map (some A.mf)):=by rw[←HP.out];exact Blk.cell hcd.blk 1
      have q0:W.cell? ⟨q,0,none⟩=some (.string S):=hrs.one.cell 0;have q1:W.cell? ⟨q+1,0,none⟩=some (.string S2):=hrs.two.cell 0;have hql:=hrs.one.lt;have hql2:=hrs.two.lt;have hpl:p < W.heap.size:=Kah c0;obtain ⟨P,hP,hlf⟩:=Kdy hcd hf S2 hS2;obtain rfl:P=none:=hP.2 (by rw[kb];omega);go_upto_region 11 with fail
      refine Kab (by kernel_rfl) (by kernel_rfl) ?_
      repeat (go_big_quiet_step (fail))
      clear hlf hP;refine wpQuiet_nil ?_;rintro W ⟨⟨_,hb2⟩,rfl⟩;have hrs2:=HRS.out.later hb2;clear hrs hcd hF3 c0 c1 q0 q1 hql hql2 hpl hb2 HRS;have HRS:=Jh hrs2;clear hrs2;have HE5:=Jh (show Kak d S.data.toList S2.data.toList=Kav d (.rename S.data.toList S2.data.toList) by rw[HE1.out,if_neg (by rw[ka];simp),if_neg (by rw[ka,HRP.out];simp),if_neg (by rw[kb];simp)]);have hrs:=HRS.out;have hF3:=hF.below (hrs.below.mono hB);have hcd:=h.below hrs.below;have hqW:=HQ.out;have hRq:R q=0:=h.inw.new (by omega);have hRq1:R (q+1)=0:=h.inw.new (by omega);have hcd7:CD B0 W (giv R q 5) A d:=hcd.grant hrs.one.lt hRq (by omega) 5;have hcd8:CD B0 W (giv (giv R q 5) (q+1) 5) A d:=hcd7.grant hrs.two.lt (by rw[Kaw (by omega)];exact hRq1) (by omega) 5
      have hST:StepM W (giv (giv R q 5) (q+1) 5) A.φ (.rename S.data.toList S2.data.toList) (.func (.func 119) #[] #[.pointer (some ⟨q,0,none⟩),.pointer (some ⟨q+1,0,none⟩)]):=by
       have e:txtV S.data.toList = .string S:=by unfold txtV;rw[←Kcs rfl]
       have e2:txtV S2.data.toList = .string S2:=by unfold txtV;rw[←Kcs rfl]
       refine ⟨q,q+1,rfl,?_,?_⟩
       ·rw[Box,e];exact ⟨hrs.one,by rw[Kaw (by omega)];exact Kcm _ _ _⟩
       ·rw[Box,e2];exact ⟨hrs.two,Kcm _ _ _⟩
      have hok:StOk d.files.length d.things (.rename S.data.toList S2.data.toList):=by (exact ⟨HR1.out,HR2.out,by rw[ka];omega,HRP.out,by rw[kb];omega,fun e=>(by rw[ka] at e;cases e),fun e=>by rw[e] at ka;rw[ka] at kb;cases kb⟩)
      have hnm:=Keh (a:=a) ⟨#[114,101,110,97,109,101]⟩ S (.rename S.data.toList S2.data.toList) _ _ W hcd8 hST hf.tw hok (by have:=hf.tl;omega) (by have:=hf.sl;omega) hf.aw (by have:=hrs.below.size;omega) hF3;rw[HP.out] at hnm
      have hOw:Own R (giv (giv R q 5) (q+1) 5) w W:=by
       have o1:Own R R w W:=Own.of_below hrs.below;exact ⟨o1.os,o1.tape,o1.output,o1.size,o1.block,fun k hk=>by rw[Kaw (by omega),Kaw (by omega)]⟩
      have HOW:=Jh hOw;have HNM2:=Jh hnm;have q0:W.cell? ⟨q,0,none⟩=some (.string S):=hrs.one.cell 0;clear hnm hST hcd hcd7 hcd8 hF3 hOw hok hrs hqW;go_wp2_with fail
      refine HNM2.out.mono ?_;rintro e w7 hN;obtain ⟨v,R',A',rfl,k2,k3,k4,k5,k6⟩:=hN
      have hfin:Kac B0 a R A (Kak d S.data.toList S2.data.toList) ⟨#[114,101,110,97,109,101]⟩ S w (.returned v) w7:=by
       rw[HE5.out];exact ⟨v,R',A',rfl,k2,k3,HOW.out.trans k4,k5,k6⟩
      have HFIN:=Jh hfin;clear hfin k2 k3 k4 k5;go_wp2_with fail
      go_ret
      exact HFIN.out
     ·have hrs:=HRS.out;have hcd:=h.below hrs.below;have hF3:=hF.below (hrs.below.mono hB);have c0:W.cell? ⟨p,0,none⟩=some (.map (some A.md)):=by rw[←HP.out];exact Blk.cell hcd.blk 0
      have c1:W.cell? ⟨p,1,none⟩=some (.map (some A.mf)):=by rw[←HP.out];exact Blk.cell hcd.blk 1
      have q0:W.cell? ⟨q,0,none⟩=some (.string S):=hrs.one.cell 0;have q1:W.cell? ⟨q+1,0,none⟩=some (.string S2):=hrs.two.cell 0;have hql:=hrs.one.lt;have hql2:=hrs.two.lt;have hpl:p < W.heap.size:=Kah c0;have hlk:=Kbz hcd hf S2 hS2 0 (by rw[kb];rfl);go_upto_region 10 with fail
      refine Kab (by kernel_rfl) (by kernel_rfl) ?_
      repeat (go_big_quiet_step (fail))
      clear hlk;refine wpQuiet_nil ?_;rintro W ⟨⟨_,hb2⟩,rfl⟩;have hrs2:=HRS.out.later hb2;clear hrs hcd hF3 c0 c1 q0 q1 hql hql2 hpl hb2 HRS;have HRS:=Jh hrs2;clear hrs2
      by_cases hSS:S=S2
      ·have hs2:decide (S=S2)=true:=by simpa using hSS
       have hs3:(S.toList == S2.toList)=true:=by rw[hSS];simp
       have hs4:(S == S2)=true:=by rw[hSS,beq_toListBytes];simp
       have hs5:decide (S.toList=S2.toList)=true:=by rw[hSS];simp
       have HSS:=Jh hSS;clear hSS;have hrs:=HRS.out;have hcd:=h.below hrs.below;have hF3:=hF.below (hrs.below.mono hB);have c0:W.cell? ⟨p,0,none⟩=some (.map (some A.md)):=by rw[←HP.out];exact Blk.cell hcd.blk 0
       have c1:W.cell? ⟨p,1,none⟩=some (.map (some A.mf)):=by rw[←HP.out];exact Blk.cell hcd.blk 1
       have q0:W.cell? ⟨q,0,none⟩=some (.string S):=hrs.one.cell 0;have q1:W.cell? ⟨q+1,0,none⟩=some (.string S2):=hrs.two.cell 0;have hql:=hrs.one.lt;have hql2:=hrs.two.lt;have hpl:p < W.heap.size:=Kah c0;obtain ⟨P,hP,hlf⟩:=Kdy hcd hf S2 hS2
       obtain ⟨P',rfl⟩:∃P',P=some P':=by
        cases P with
        | none=>exact absurd kb (hP.1 rfl)
        | some P'=>exact ⟨P',rfl⟩
       go_upto_region 11 with fail
       refine Kab (by kernel_rfl) (by kernel_rfl) ?_
       repeat (go_big_quiet_step (fail))
       clear hlf hP;refine wpQuiet_nil ?_;rintro W ⟨⟨_,hb2⟩,rfl⟩;have hrs2:=HRS.out.later hb2;clear hrs hcd hF3 c0 c1 q0 q1 hql hql2 hpl hb2 HRS;have HRS:=Jh hrs2;clear hrs2;have hrs:=HRS.out;have hF3:=hF.below (hrs.below.mono hB);have f0:_=some (failV a 5):=(hF3 5 (by decide)).2;have hfl:=Kbs (a:=a) ⟨#[114,101,110,97,109,101]⟩ S 4 W;unfold failV at f0 hfl;simp only[failG] at f0;have HFL:=Jh hfl;have e2:Kak d S.data.toList S2.data.toList=(5,d):=by (rw[HE1.out];(rw[if_neg (by rw[ka];simp),if_neg (by rw[ka,HRP.out];simp),if_pos (.inr ⟨kb,.inr (by rw[HSS.out])⟩)]))
       have HE2:=Jh e2;have q0:W.cell? ⟨q,0,none⟩=some (.string S):=hrs.one.cell 0;clear hfl hF3 e2 hrs;go_wp2_with fail
       refine HFL.out.mono ?_;rintro e w5 ⟨v,rfl,hv5,hb5⟩
       have hfin:Kac B0 a R A (Kak d S.data.toList S2.data.toList) ⟨#[114,101,110,97,109,101]⟩ S w (.returned v) w5:=by
        rw[HE2.out];exact Kac.bad h (then_ HRS.out.below hb5) hv5
       have HFIN:=Jh hfin;clear hfin hv5;go_wp2_with fail
       go_ret
       exact HFIN.out
      ·have hs2:decide (S=S2)=false:=by simpa using hSS
       have hl2:S.toList≠S2.toList:=fun e=>hSS (by
        rw[ByteArray.toList_eq,ByteArray.toList_eq] at e
        exact Kdv e)
       have hs3:(S.toList == S2.toList)=false:=by simpa using hl2
       have hs4:(S == S2)=false:=by rw[beq_toListBytes];exact hs3
       have hs5:decide (S.toList=S2.toList)=false:=by simpa using hl2
       clear hl2;have hrs:=HRS.out;have hcd:=h.below hrs.below;have hF3:=hF.below (hrs.below.mono hB);have c0:W.cell? ⟨p,0,none⟩=some (.map (some A.md)):=by rw[←HP.out];exact Blk.cell hcd.blk 0
       have c1:W.cell? ⟨p,1,none⟩=some (.map (some A.mf)):=by rw[←HP.out];exact Blk.cell hcd.blk 1
       have q0:W.cell? ⟨q,0,none⟩=some (.string S):=hrs.one.cell 0;have q1:W.cell? ⟨q+1,0,none⟩=some (.string S2):=hrs.two.cell 0;have hql:=hrs.one.lt;have hql2:=hrs.two.lt;have hpl:p < W.heap.size:=Kah c0;obtain ⟨P,hP,hlf⟩:=Kdy hcd hf S2 hS2
       obtain ⟨P',rfl⟩:∃P',P=some P':=by
        cases P with
        | none=>exact absurd kb (hP.1 rfl)
        | some P'=>exact ⟨P',rfl⟩
       go_upto_region 11 with fail
       refine Kab (by kernel_rfl) (by kernel_rfl) ?_
       repeat (go_big_quiet_step (fail))
       clear hlf hP;refine wpQuiet_nil ?_;rintro W ⟨⟨_,hb2⟩,rfl⟩;have hrs2:=HRS.out.later hb2;clear hrs hcd hF3 c0 c1 q0 q1 hql hql2 hpl hb2 HRS;have HRS:=Jh hrs2;clear hrs2;have hne:S.data.toList≠S2.data.toList:=fun e=>hSS (Kdv e)
       have HE5:=Jh (show Kak d S.data.toList S2.data.toList=Kav d (.rename S.data.toList S2.data.toList) by rw[HE1.out,if_neg (by rw[ka];simp),if_neg (by rw[ka,HRP.out];simp),if_neg (by rw[kb,ka];simpa using fun e=>hSS (Kdv (by rw[e])))]);have hrs:=HRS.out;have hF3:=hF.below (hrs.below.mono hB);have hcd:=h.below hrs.below;have hqW:=HQ.out;have hRq:R q=0:=h.inw.new (by omega);have hRq1:R (q+1)=0:=h.inw.new (by omega);have hcd7:CD B0 W (giv R q 5) A d:=hcd.grant hrs.one.lt hRq (by omega) 5;have hcd8:CD B0 W (giv (giv R q 5) (q+1) 5) A d:=hcd7.grant hrs.two.lt (by rw[Kaw (by omega)];exact hRq1) (by omega) 5
       have hST:StepM W (giv (giv R q 5) (q+1) 5) A.φ (.rename S.data.toList S2.data.toList) (.func (.func 119) #[] #[.pointer (some ⟨q,0,none⟩),.pointer (some ⟨q+1,0,none⟩)]):=by
        have e:txtV S.data.toList = .string S:=by unfold txtV;rw[←Kcs rfl]
        have e2:txtV S2.data.toList = .string S2:=by unfold txtV;rw[←Kcs rfl]
        refine ⟨q,q+1,rfl,?_,?_⟩
        ·rw[Box,e];exact ⟨hrs.one,by rw[Kaw (by omega)];exact Kcm _ _ _⟩
        ·rw[Box,e2];exact ⟨hrs.two,Kcm _ _ _⟩
       have hok:StOk d.files.length d.things (.rename S.data.toList S2.data.toList):=by (exact ⟨HR1.out,HR2.out,by rw[ka];omega,HRP.out,by rw[kb];omega,fun e=>(by rw[ka] at e;cases e),hne⟩)
       have hnm:=Keh (a:=a) ⟨#[114,101,110,97,109,101]⟩ S (.rename S.data.toList S2.data.toList) _ _ W hcd8 hST hf.tw hok (by have:=hf.tl;omega) (by have:=hf.sl;omega) hf.aw (by have:=hrs.below.size;omega) hF3;rw[HP.out] at hnm
       have hOw:Own R (giv (giv R q 5) (q+1) 5) w W:=by
        have o1:Own R R w W:=Own.of_below hrs.below;exact ⟨o1.os,o1.tape,o1.output,o1.size,o1.block,fun k hk=>by rw[Kaw (by omega),Kaw (by omega)]⟩
       have HOW:=Jh hOw;have HNM2:=Jh hnm;have q0:W.cell? ⟨q,0,none⟩=some (.string S):=hrs.one.cell 0;clear hnm hST hcd hcd7 hcd8 hF3 hOw hok hrs hqW;go_wp2_with fail
       refine HNM2.out.mono ?_;rintro e w7 hN;obtain ⟨v,R',A',rfl,k2,k3,k4,k5,k6⟩:=hN
       have hfin:Kac B0 a R A (Kak d S.data.toList S2.data.toList) ⟨#[114,101,110,97,109,101]⟩ S w (.returned v) w7:=by
        rw[HE5.out];exact ⟨v,R',A',rfl,k2,k3,HOW.out.trans k4,k5,k6⟩
       have HFIN:=Jh hfin;clear hfin k2 k3 k4 k5;go_wp2_with fail
       go_ret
       exact HFIN.out
     ·have hrs:=HRS.out;have hcd:=h.below hrs.below;have hF3:=hF.below (hrs.below.mono hB);have c0:W.cell? ⟨p,0,none⟩=some (.map (some A.md)):=by rw[←HP.out];exact Blk.cell hcd.blk 0
      have c1:W.cell? ⟨p,1,none⟩=some (.map (some A.mf)):=by rw[←HP.out];exact Blk.cell hcd.blk 1
      have q0:W.cell? ⟨q,0,none⟩=some (.string S):=hrs.one.cell 0;have q1:W.cell? ⟨q+1,0,none⟩=some (.string S2):=hrs.two.cell 0;have hql:=hrs.one.lt;have hql2:=hrs.two.lt;have hpl:p < W.heap.size:=Kah c0;have hlk:=Kbz hcd hf S2 hS2 1 (by rw[kb];rfl);go_upto_region 10 with fail
      refine Kab (by kernel_rfl) (by kernel_rfl) ?_
      repeat (go_big_quiet_step (fail))
      clear hlk;refine wpQuiet_nil ?_;rintro W ⟨⟨_,hb2⟩,rfl⟩;have hrs2:=HRS.out.later hb2;clear hrs hcd hF3 c0 c1 q0 q1 hql hql2 hpl hb2 HRS;have HRS:=Jh hrs2;clear hrs2;have hrs:=HRS.out;have hF3:=hF.below (hrs.below.mono hB);have f0:_=some (failV a 5):=(hF3 5 (by decide)).2;have hfl:=Kbs (a:=a) ⟨#[114,101,110,97,109,101]⟩ S 4 W;unfold failV at f0 hfl;simp only[failG] at f0;have HFL:=Jh hfl;have e2:Kak d S.data.toList S2.data.toList=(5,d):=by (rw[HE1.out];(rw[if_neg (by rw[ka];simp),if_neg (by rw[ka,HRP.out];simp),if_pos (.inl kb)]))
      have HE2:=Jh e2;have q0:W.cell? ⟨q,0,none⟩=some (.string S):=hrs.one.cell 0;clear hfl hF3 e2 hrs;go_wp2_with fail
      refine HFL.out.mono ?_;rintro e w5 ⟨v,rfl,hv5,hb5⟩
      have hfin:Kac B0 a R A (Kak d S.data.toList S2.data.toList) ⟨#[114,101,110,97,109,101]⟩ S w (.returned v) w5:=by
       rw[HE2.out];exact Kac.bad h (then_ HRS.out.below hb5) hv5
      have HFIN:=Jh hfin;clear hfin hv5;go_wp2_with fail
      go_ret
      exact HFIN.out
   ·have hrs:=HRS.out;have hcd:=h.below hrs.below;have hF3:=hF.below (hrs.below.mono hB);have c0:W.cell? ⟨p,0,none⟩=some (.map (some A.md)):=by rw[←HP.out];exact Blk.cell hcd.blk 0
    have c1:W.cell? ⟨p,1,none⟩=some (.map (some A.mf)):=by rw[←HP.out];exact Blk.cell hcd.blk 1
    have q0:W.cell? ⟨q,0,none⟩=some (.string S):=hrs.one.cell 0;have q1:W.cell? ⟨q+1,0,none⟩=some (.string S2):=hrs.two.cell 0;have hql:=hrs.one.lt;have hql2:=hrs.two.lt;have hpl:p < W.heap.size:=Kah c0;have hlk:=Kbz hcd hf S hS 1 (by rw[ka];rfl);go_upto_region 4 with fail
    refine Kab (by kernel_rfl) (by kernel_rfl) ?_
    repeat (go_big_quiet_step (fail))
    clear hlk;refine wpQuiet_nil ?_;rintro W ⟨⟨_,hb2⟩,rfl⟩;have hrs2:=HRS.out.later hb2;clear hrs hcd hF3 c0 c1 q0 q1 hql hql2 hpl hb2 HRS;have HRS:=Jh hrs2;clear hrs2;obtain ⟨nb,hnb⟩:∃r,nameB S2.data.toList=r:=⟨_,rfl⟩;have HNB:=Jh hnb;have HNAME:=Jh (fun w=>Kjd S2 nb hnb hS2 w);clear hnb;have q1:W.cell? ⟨q+1,0,none⟩=some (.string S2):=HRS.out.two.cell 0;go_wp2_with fail
    refine (HNAME.out W).mono ?_;rintro _ W5 ⟨rfl,rfl⟩;clear q1
    cases nb with
    | false=>
     have hrs:=HRS.out;have hF3:=hF.below (hrs.below.mono hB);have f0:_=some (failV a 2):=(hF3 2 (by decide)).2;have hfl:=Kbs (a:=a) ⟨#[114,101,110,97,109,101]⟩ S 1 W;unfold failV at f0 hfl;simp only[failG] at f0;have HFL:=Jh hfl;have e2:Kak d S.data.toList S2.data.toList=(2,d):=by (rw[HE1.out];(rw[if_pos ⟨ka,HNB.out⟩]))
     have HE2:=Jh e2;have q0:W.cell? ⟨q,0,none⟩=some (.string S):=hrs.one.cell 0;clear hfl hF3 e2 hrs;go_wp2_with fail
     refine HFL.out.mono ?_;rintro e w5 ⟨v,rfl,hv5,hb5⟩
     have hfin:Kac B0 a R A (Kak d S.data.toList S2.data.toList) ⟨#[114,101,110,97,109,101]⟩ S w (.returned v) w5:=by
      rw[HE2.out];exact Kac.bad h (then_ HRS.out.below hb5) hv5
     have HFIN:=Jh hfin;clear hfin hv5;go_wp2_with fail
     go_ret
     exact HFIN.out
    | true=>
     go_upto_region 7 with fail
     have hrs:=HRS.out;have hcd:=h.below hrs.below;have hF3:=hF.below (hrs.below.mono hB);have c0:W.cell? ⟨p,0,none⟩=some (.map (some A.md)):=by rw[←HP.out];exact Blk.cell hcd.blk 0
     have c1:W.cell? ⟨p,1,none⟩=some (.map (some A.mf)):=by rw[←HP.out];exact Blk.cell hcd.blk 1
     have q0:W.cell? ⟨q,0,none⟩=some (.string S):=hrs.one.cell 0;have q1:W.cell? ⟨q+1,0,none⟩=some (.string S2):=hrs.two.cell 0;have hql:=hrs.one.lt;have hql2:=hrs.two.lt;have hpl:p < W.heap.size:=Kah c0;refine Kab (by kernel_rfl) (by kernel_rfl) ?_
     repeat (go_big_quiet_step (fail))
     refine wpQuiet_nil ?_;rintro W ⟨⟨_,hb2⟩,rfl⟩;have hrs2:=HRS.out.later hb2;clear hrs hcd hF3 c0 c1 q0 q1 hql hql2 hpl hb2 HRS;have HRS:=Jh hrs2;clear hrs2;have hrs:=HRS.out;have hcd:=h.below hrs.below;have hF3:=hF.below (hrs.below.mono hB);have c0:W.cell? ⟨p,0,none⟩=some (.map (some A.md)):=by rw[←HP.out];exact Blk.cell hcd.blk 0
     have c1:W.cell? ⟨p,1,none⟩=some (.map (some A.mf)):=by rw[←HP.out];exact Blk.cell hcd.blk 1
     have q0:W.cell? ⟨q,0,none⟩=some (.string S):=hrs.one.cell 0;have q1:W.cell? ⟨q+1,0,none⟩=some (.string S2):=hrs.two.cell 0;have hql:=hrs.one.lt;have hql2:=hrs.two.lt;have hpl:p < W.heap.size:=Kah c0;have HPAR:=Jh (fun x:Later W=>Kgp A.md A.mf S2 rp hrp x.w (hcd.dirs.1.below x.h hcd.dirs.1.lt) hf.tw hS2);go_upto_region 8 with fail
     refine Kab (by kernel_rfl) (by kernel_rfl) ?_
     repeat (go_big_quiet_step ((go_at_call 114;exact Kbw _ (HPAR.out _))))
     clear HPAR;refine wpQuiet_nil ?_;rintro W ⟨⟨_,hb2⟩,rfl⟩;have hrs2:=HRS.out.later hb2;clear hrs hcd hF3 c0 c1 q0 q1 hql hql2 hpl hb2 HRS;have HRS:=Jh hrs2;clear hrs2
     cases rp with
     | false=>
      have hrs:=HRS.out;have hF3:=hF.below (hrs.below.mono hB);have f0:_=some (failV a 4):=(hF3 4 (by decide)).2;have hfl:=Kbs (a:=a) ⟨#[114,101,110,97,109,101]⟩ S 3 W;unfold failV at f0 hfl;simp only[failG] at f0;have HFL:=Jh hfl;have e2:Kak d S.data.toList S2.data.toList=(4,d):=by (rw[HE1.out];(rw[if_neg (fun e=>by rw[HNB.out] at e;cases e.2),if_pos (.inr HRP.out)]))
      have HE2:=Jh e2;have q0:W.cell? ⟨q,0,none⟩=some (.string S):=hrs.one.cell 0;clear hfl hF3 e2 hrs;go_wp2_with fail
      refine HFL.out.mono ?_;rintro e w5 ⟨v,rfl,hv5,hb5⟩
      have hfin:Kac B0 a R A (Kak d S.data.toList S2.data.toList) ⟨#[114,101,110,97,109,101]⟩ S w (.returned v) w5:=by
       rw[HE2.out];exact Kac.bad h (then_ HRS.out.below hb5) hv5
      have HFIN:=Jh hfin;clear hfin hv5;go_wp2_with fail
      go_ret
      exact HFIN.out
     | true=>
      rcases Kdw d.things S2.data.toList with kb | kb | kb
      ·have hrs:=HRS.out;have hcd:=h.below hrs.below;have hF3:=hF.below (hrs.below.mono hB);have c0:W.cell? ⟨p,0,none⟩=some (.map (some A.md)):=by rw[←HP.out];exact Blk.cell hcd.blk 0
       have c1:W.cell? ⟨p,1,none⟩=some (.map (some A.mf)):=by rw[←HP.out];exact Blk.cell hcd.blk 1
       have q0:W.cell? ⟨q,0,none⟩=some (.string S):=hrs.one.cell 0;have q1:W.cell? ⟨q+1,0,none⟩=some (.string S2):=hrs.two.cell 0;have hql:=hrs.one.lt;have hql2:=hrs.two.lt;have hpl:p < W.heap.size:=Kah c0;have hlk:=Kbz hcd hf S2 hS2 0 (by rw[kb];rfl);go_upto_region 10 with fail
       refine Kab (by kernel_rfl) (by kernel_rfl) ?_
       repeat (go_big_quiet_step (fail))
       clear hlk;refine wpQuiet_nil ?_;rintro W ⟨⟨_,hb2⟩,rfl⟩;have hrs2:=HRS.out.later hb2;clear hrs hcd hF3 c0 c1 q0 q1 hql hql2 hpl hb2 HRS;have HRS:=Jh hrs2;clear hrs2;have hrs:=HRS.out;have hcd:=h.below hrs.below;have hF3:=hF.below (hrs.below.mono hB);have c0:W.cell? ⟨p,0,none⟩=some (.map (some A.md)):=by rw[←HP.out];exact Blk.cell hcd.blk 0
       have c1:W.cell? ⟨p,1,none⟩=some (.map (some A.mf)):=by rw[←HP.out];exact Blk.cell hcd.blk 1
       have q0:W.cell? ⟨q,0,none⟩=some (.string S):=hrs.one.cell 0;have q1:W.cell? ⟨q+1,0,none⟩=some (.string S2):=hrs.two.cell 0;have hql:=hrs.one.lt;have hql2:=hrs.two.lt;have hpl:p < W.heap.size:=Kah c0;obtain ⟨P,hP,hlf⟩:=Kdy hcd hf S2 hS2;obtain rfl:P=none:=hP.2 (by rw[kb];omega);go_upto_region 11 with fail
       refine Kab (by kernel_rfl) (by kernel_rfl) ?_
       repeat (go_big_quiet_step (fail))
       clear hlf hP;refine wpQuiet_nil ?_;rintro W ⟨⟨_,hb2⟩,rfl⟩;have hrs2:=HRS.out.later hb2;clear hrs hcd hF3 c0 c1 q0 q1 hql hql2 hpl hb2 HRS;have HRS:=Jh hrs2;clear hrs2;have HE5:=Jh (show Kak d S.data.toList S2.data.toList=Kav d (.rename S.data.toList S2.data.toList) by rw[HE1.out,if_neg (fun e=>by rw[HNB.out] at e;cases e.2),if_neg (by rw[ka,HRP.out];simp),if_neg (by rw[kb];simp)]);have hrs:=HRS.out;have hF3:=hF.below (hrs.below.mono hB);have hcd:=h.below hrs.below;have hqW:=HQ.out;have hRq:R q=0:=h.inw.new (by omega);have hRq1:R (q+1)=0:=h.inw.new (by omega);have hcd7:CD B0 W (giv R q 5) A d:=hcd.grant hrs.one.lt hRq (by omega) 5;have hcd8:CD B0 W (giv (giv R q 5) (q+1) 5) A d:=hcd7.grant hrs.two.lt (by rw[Kaw (by omega)];exact hRq1) (by omega) 5
       have hST:StepM W (giv (giv R q 5) (q+1) 5) A.φ (.rename S.data.toList S2.data.toList) (.func (.func 119) #[] #[.pointer (some ⟨q,0,none⟩),.pointer (some ⟨q+1,0,none⟩)]):=by
        have e:txtV S.data.toList = .string S:=by unfold txtV;rw[←Kcs rfl]
        have e2:txtV S2.data.toList = .string S2:=by unfold txtV;rw[←Kcs rfl]
        refine ⟨q,q+1,rfl,?_,?_⟩
        ·rw[Box,e];exact ⟨hrs.one,by rw[Kaw (by omega)];exact Kcm _ _ _⟩
        ·rw[Box,e2];exact ⟨hrs.two,Kcm _ _ _⟩
       have hok:StOk d.files.length d.things (.rename S.data.toList S2.data.toList):=by (exact ⟨HR1.out,HR2.out,by rw[ka];omega,HRP.out,by rw[kb];omega,fun e=>⟨HNB.out,kb⟩,fun e=>by rw[e] at ka;rw[ka] at kb;cases kb⟩)
       have hnm:=Keh (a:=a) ⟨#[114,101,110,97,109,101]⟩ S (.rename S.data.toList S2.data.toList) _ _ W hcd8 hST hf.tw hok (by have:=hf.tl;omega) (by have:=hf.sl;omega) hf.aw (by have:=hrs.below.size;omega) hF3;rw[HP.out] at hnm
       have hOw:Own R (giv (giv R q 5) (q+1) 5) w W:=by
        have o1:Own R R w W:=Own.of_below hrs.below;exact ⟨o1.os,o1.tape,o1.output,o1.size,o1.block,fun k hk=>by rw[Kaw (by omega),Kaw (by omega)]⟩
       have HOW:=Jh hOw;have HNM2:=Jh hnm;have q0:W.cell? ⟨q,0,none⟩=some (.string S):=hrs.one.cell 0;clear hnm hST hcd hcd7 hcd8 hF3 hOw hok hrs hqW;go_wp2_with fail
       refine HNM2.out.mono ?_;rintro e w7 hN;obtain ⟨v,R',A',rfl,k2,k3,k4,k5,k6⟩:=hN
       have hfin:Kac B0 a R A (Kak d S.data.toList S2.data.toList) ⟨#[114,101,110,97,109,101]⟩ S w (.returned v) w7:=by
        rw[HE5.out];exact ⟨v,R',A',rfl,k2,k3,HOW.out.trans k4,k5,k6⟩
       have HFIN:=Jh hfin;clear hfin k2 k3 k4 k5;go_wp2_with fail
       go_ret
       exact HFIN.out
      ·have hrs:=HRS.out;have hcd:=h.below hrs.below;have hF3:=hF.below (hrs.below.mono hB);have c0:W.cell? ⟨p,0,none⟩=some (.map (some A.md)):=by rw[←HP.out];exact Blk.cell hcd.blk 0
       have c1:W.cell? ⟨p,1,none⟩=some (.map (some A.mf)):=by rw[←HP.out];exact Blk.cell hcd.blk 1
       have q0:W.cell? ⟨q,0,none⟩=some (.string S):=hrs.one.cell 0;have q1:W.cell? ⟨q+1,0,none⟩=some (.string S2):=hrs.two.cell 0;have hql:=hrs.one.lt;have hql2:=hrs.two.lt;have hpl:p < W.heap.size:=Kah c0;have hlk:=Kbz hcd hf S2 hS2 0 (by rw[kb];rfl);go_upto_region 10 with fail
       refine Kab (by kernel_rfl) (by kernel_rfl) ?_
       repeat (go_big_quiet_step (fail))
       clear hlk;refine wpQuiet_nil ?_;rintro W ⟨⟨_,hb2⟩,rfl⟩;have hrs2:=HRS.out.later hb2;clear hrs hcd hF3 c0 c1 q0 q1 hql hql2 hpl hb2 HRS;have HRS:=Jh hrs2;clear hrs2;have hrs:=HRS.out;have hcd:=h.below hrs.below;have hF3:=hF.below (hrs.below.mono hB);have c0:W.cell? ⟨p,0,none⟩=some (.map (some A.md)):=by rw[←HP.out];exact Blk.cell hcd.blk 0
       have c1:W.cell? ⟨p,1,none⟩=some (.map (some A.mf)):=by rw[←HP.out];exact Blk.cell hcd.blk 1
       have q0:W.cell? ⟨q,0,none⟩=some (.string S):=hrs.one.cell 0;have q1:W.cell? ⟨q+1,0,none⟩=some (.string S2):=hrs.two.cell 0;have hql:=hrs.one.lt;have hql2:=hrs.two.lt;have hpl:p < W.heap.size:=Kah c0;obtain ⟨P,hP,hlf⟩:=Kdy hcd hf S2 hS2
       obtain ⟨P',rfl⟩:∃P',P=some P':=by
        cases P with
        | none=>exact absurd kb (hP.1 rfl)
        | some P'=>exact ⟨P',rfl⟩
       go_upto_region 11 with fail
       refine Kab (by kernel_rfl) (by kernel_rfl) ?_
       repeat (go_big_quiet_step (fail))
       clear hlf hP;refine wpQuiet_nil ?_;rintro W ⟨⟨_,hb2⟩,rfl⟩;have hrs2:=HRS.out.later hb2;clear hrs hcd hF3 c0 c1 q0 q1 hql hql2 hpl hb2 HRS;have HRS:=Jh hrs2;clear hrs2;have hrs:=HRS.out;have hF3:=hF.below (hrs.below.mono hB);have f0:_=some (failV a 5):=(hF3 5 (by decide)).2;have hfl:=Kbs (a:=a) ⟨#[114,101,110,97,109,101]⟩ S 4 W;unfold failV at f0 hfl;simp only[failG] at f0;have HFL:=Jh hfl;have e2:Kak d S.data.toList S2.data.toList=(5,d):=by (rw[HE1.out];(rw[if_neg (fun e=>by rw[HNB.out] at e;cases e.2),if_neg (by rw[ka,HRP.out];simp),if_pos (.inr ⟨kb,.inl ka⟩)]))
       have HE2:=Jh e2;have q0:W.cell? ⟨q,0,none⟩=some (.string S):=hrs.one.cell 0;clear hfl hF3 e2 hrs;go_wp2_with fail
       refine HFL.out.mono ?_;rintro e w5 ⟨v,rfl,hv5,hb5⟩
       have hfin:Kac B0 a R A (Kak d S.data.toList S2.data.toList) ⟨#[114,101,110,97,109,101]⟩ S w (.returned v) w5:=by
        rw[HE2.out];exact Kac.bad h (then_ HRS.out.below hb5) hv5
       have HFIN:=Jh hfin;clear hfin hv5;go_wp2_with fail
       go_ret
       exact HFIN.out
      ·have hrs:=HRS.out;have hcd:=h.below hrs.below;have hF3:=hF.below (hrs.below.mono hB);have c0:W.cell? ⟨p,0,none⟩=some (.map (some A.md)):=by rw[←HP.out];exact Blk.cell hcd.blk 0
       have c1:W.cell? ⟨p,1,none⟩=some (.map (some A.mf)):=by rw[←HP.out];exact Blk.cell hcd.blk 1
       have q0:W.cell? ⟨q,0,none⟩=some (.string S):=hrs.one.cell 0;have q1:W.cell? ⟨q+1,0,none⟩=some (.string S2):=hrs.two.cell 0;have hql:=hrs.one.lt;have hql2:=hrs.two.lt;have hpl:p < W.heap.size:=Kah c0;have hlk:=Kbz hcd hf S2 hS2 1 (by rw[kb];rfl);go_upto_region 10 with fail
       refine Kab (by kernel_rfl) (by kernel_rfl) ?_
       repeat (go_big_quiet_step (fail))
       clear hlk;refine wpQuiet_nil ?_;rintro W ⟨⟨_,hb2⟩,rfl⟩;have hrs2:=HRS.out.later hb2;clear hrs hcd hF3 c0 c1 q0 q1 hql hql2 hpl hb2 HRS;have HRS:=Jh hrs2;clear hrs2;have hrs:=HRS.out;have hF3:=hF.below (hrs.below.mono hB);have f0:_=some (failV a 5):=(hF3 5 (by decide)).2;have hfl:=Kbs (a:=a) ⟨#[114,101,110,97,109,101]⟩ S 4 W;unfold failV at f0 hfl;simp only[failG] at f0;have HFL:=Jh hfl;have e2:Kak d S.data.toList S2.data.toList=(5,d):=by (rw[HE1.out];(rw[if_neg (fun e=>by rw[HNB.out] at e;cases e.2),if_neg (by rw[ka,HRP.out];simp),if_pos (.inl kb)]))
       have HE2:=Jh e2;have q0:W.cell? ⟨q,0,none⟩=some (.string S):=hrs.one.cell 0;clear hfl hF3 e2 hrs;go_wp2_with fail
       refine HFL.out.mono ?_;rintro e w5 ⟨v,rfl,hv5,hb5⟩
       have hfin:Kac B0 a R A (Kak d S.data.toList S2.data.toList) ⟨#[114,101,110,97,109,101]⟩ S w (.returned v) w5:=by
        rw[HE2.out];exact Kac.bad h (then_ HRS.out.below hb5) hv5
       have HFIN:=Jh hfin;clear hfin hv5;go_wp2_with fail
       go_ret
       exact HFIN.out
end
end
section
open Go.RowKit Go.Shelf Go.Maps Go.Sort
attribute [local go_sem ↓] Go.wp_at_zero Go.wp_at_succ
attribute [local go_sem] Later.cell
def Kcf (M:Nat):List Ch→Nat→Prop
 | [],_=>True
 | c :: r,n=>if c.cut then c.size≤n∧Kcf M r c.size else n+c.text.length≤M∧Kcf M r (n+c.text.length)
end
section
def Chain (n:Nat):List Th→List St→Prop
 | _,[]=>True
 | l,s :: r=>StOk n l s∧Chain n (Kaj l s) r
theorem Chain.append {n:Nat}:∀{l:List Th} {r:List St} {s:St},Chain n l r→StOk n (r.foldl Kaj l) s→Chain n l (r ++ [s])
 | _,[],_,_,h=>⟨h,trivial⟩
 | _,_ :: _,_,h,k=>⟨h.1,Chain.append h.2 k⟩
theorem StOk.more {n m:Nat} {l:List Th} {s:St} (h:StOk n l s) (hm:n≤m):StOk m l s:=by
 cases s with
 | mkdir a=>exact h
 | create a i=>exact ⟨h.1,h.2.1,h.2.2.1,by have:=h.2.2.2.1;omega,h.2.2.2.2⟩
 | remove a=>exact h
 | rename a b=>exact h
theorem Chain.more {n m:Nat} (hm:n≤m):∀{l:List Th} {r:List St},Chain n l r→Chain m l r
 | _,[],_=>trivial
 | _,_ :: _,h=>⟨h.1.more hm,Chain.more hm h.2⟩
theorem TW.more {n m:Nat} {l:List Th} (h:TW n l) (hm:n≤m):TW m l:=⟨h.nodup,h.dirs,h.paths,h.par,fun x hx hd=>by have:=h.ats x hx hd;omega,h.inj⟩
theorem Chain.tw {n:Nat}:∀{l:List Th} {r:List St},TW n l→Chain n l r→TW n (r.foldl Kaj l)
 | _,[],h,_=>h
 | l,s :: r,h,k=>by rw[List.foldl_cons];exact Chain.tw (h.apply k.1) k.2
theorem Chain.at_ {n:Nat}:∀{l:List Th} {r:List St} {i:Nat} {s:St},Chain n l r→r[i]? = some s→StOk n ((r.take i).foldl Kaj l) s
 | _,_ :: _,0,_,h,e=>by simp at e;subst e;exact h.1
 | _,_ :: _,_+1,_,h,e=>by simpa using Chain.at_ h.2 (by simpa using e)
theorem Qad (l:List Th) (s:St):(Kaj l s).length≤l.length+1:=by
 cases s with
 | mkdir a=>simp[Kaj]
 | create a i=>simp[Kaj]
 | remove a=>simp only[Kaj];exact Nat.le_succ_of_le (List.length_filter_le _ _)
 | rename a b=>simp only[Kaj,List.length_map];exact Nat.le_succ_of_le (List.length_filter_le _ _)
theorem Krd:∀(r:List St) (l:List Th),(r.foldl Kaj l).length≤l.length+r.length
 | [],_=>Nat.le_refl _
 | s :: r,l=>by
  have h1:=Krd r (Kaj l s);have h2:=Qad l s;simp only[List.foldl_cons,List.length_cons];omega
def lenOf:List Ch→Nat→Nat
 | [],n=>n
 | c :: r,n=>lenOf r (if c.cut then c.size else n+c.text.length)
theorem Kkt:∀(r:List Ch) (c:Ch) (n:Nat),lenOf (r ++ [c]) n=if c.cut then c.size else lenOf r n+c.text.length
 | [],c,n=>rfl
 | x :: r,c,n=>by rw[List.cons_append,lenOf,Kkt r c];rfl
theorem Kwl (r:List Ch) (c:Ch):units (r ++ [c])=units r+(c.text.length+if c.cut then 1 else 0):=by
 unfold units;simp
theorem Qcb (r:List Ch) (c:Ch):units (c :: r)=(c.text.length+if c.cut then 1 else 0)+units r:=by
 unfold units;simp
theorem Knl {M:Nat}:∀(r:List Ch) (n:Nat),Kcf M r n→lenOf r n≤n+units r
 | [],n,_=>by simp[lenOf]
 | c :: r,n,h=>by
  rw[lenOf,Qcb];unfold Kcf at h
  cases hc:c.cut with
  | true=>
   rw[hc] at h;simp only[if_true] at h ⊢;have:=Knl r c.size h.2;omega
  | false=>
   rw[hc] at h;simp only[Bool.false_eq_true,if_false] at h ⊢;have:=Knl r _ h.2;omega
theorem Kcf.more {M M':Nat} (hM:M≤M'):∀{r:List Ch} {n:Nat},Kcf M r n→Kcf M' r n
 | [],_,_=>trivial
 | c :: r,n,h=>by
  unfold Kcf at h ⊢
  split
  ·rename_i hc
   rw[if_pos hc] at h;exact ⟨h.1,Kcf.more hM h.2⟩
  ·rename_i hc
   rw[if_neg hc] at h;exact ⟨by omega,Kcf.more hM h.2⟩
theorem Kcf.append {M:Nat}:∀{r:List Ch} {c:Ch} {n:Nat},Kcf M r n→(if c.cut then c.size≤lenOf r n else lenOf r n+c.text.length≤M)→Kcf M (r ++ [c]) n
 | [],c,n,_,h=>by
  rw[List.nil_append];unfold Kcf
  split
  ·rename_i hc
   rw[if_pos hc] at h;exact ⟨h,trivial⟩
  ·rename_i hc
   rw[if_neg hc] at h;exact ⟨h,trivial⟩
 | x :: r,c,n,h,k=>by
  rw[List.cons_append];unfold Kcf at h ⊢;rw[lenOf] at k
  split
  ·rename_i hx
   rw[if_pos hx] at h k;exact ⟨h.1,Kcf.append h.2 k⟩
  ·rename_i hx
   rw[if_neg hx] at h k;exact ⟨h.1,Kcf.append h.2 k⟩
structure FOk (M:Nat) (f:By):Prop where
 ok:Kcf M f.steps f.safe.length
 len:lenOf f.steps f.safe.length=f.now.length
 sum:f.safe.length+units f.steps≤M
 sl:f.steps.length≤M
section
variable {M M' : Nat} {f : By}
theorem FOk.more (h:FOk M f) (hM:M≤M'):FOk M' f:=⟨h.ok.more hM,h.len,Nat.le_trans h.sum hM,Nat.le_trans h.sl hM⟩
theorem FOk.now (h:FOk M f):f.now.length≤M:=by
 have h1:=Knl _ _ h.ok;have h2:=h.len;have h3:=h.sum;omega
theorem FOk.plain {s:Txt} (h:s.length≤M):FOk M ⟨s,s,[]⟩:=⟨trivial,rfl,by simp[units];exact h,Nat.zero_le _⟩
theorem FOk.append (h:FOk M f) (t:Txt):FOk (M+t.length+1) { f with now:=f.now++t,steps:=f.steps ++ [⟨t,false,0⟩] } where
 ok:=(h.ok.more (by omega)).append (by
  have h1:=h.now;have h2:=h.len;simp only[Bool.false_eq_true,if_false]
  omega)
 len:=by
  have h2:=h.len;simp[Kkt,h2]
 sum:=by
  have h3:=h.sum;simp only[Kwl,Bool.false_eq_true,if_false];omega
 sl:=by
  have:=h.sl;simp;omega
end
structure WF (M:Nat) (d:Ds):Prop where
 safe:TW d.files.length d.safe
 chain:Chain d.files.length d.safe d.steps
 things:d.things=d.steps.foldl Kaj d.safe
 files:∀f∈d.files,FOk M f
 names:d.safe.length+d.steps.length≤M
 fl:d.files.length≤M
 aw:d.await≤9223372036854775807
 cap:d.cap≤67108864
section
variable {M M' : Nat} {d : Ds}
theorem WF.more (h:WF M d) (hM:M≤M'):WF M' d:=⟨h.safe,h.chain,h.things,fun f hf=>(h.files f hf).more hM,Nat.le_trans h.names hM,Nat.le_trans h.fl hM,h.aw,h.cap⟩
theorem WF.tw (h:WF M d):TW d.files.length d.things:=by rw[h.things];exact h.chain.tw h.safe
theorem WF.tl (h:WF M d):d.things.length≤M:=by
 rw[h.things];exact Nat.le_trans (Krd _ _) h.names
theorem WF.fit (h:WF M d) (hM:M≤536870912):Fit d:=⟨h.tw,Nat.le_trans h.tl hM,by have:=h.names;omega,Nat.le_trans h.fl hM,h.aw⟩
theorem WF.nums (h:WF M d):Nums d:=by
 refine ⟨h.tw.ats,h.safe.ats,fun s i hs=>?_⟩;obtain ⟨j,hj⟩:=List.mem_iff_getElem?.1 hs;exact (h.chain.at_ hj).2.2.2.1
theorem WF.fAt (h:WF M d) (i:Nat):FOk M (fAt d i):=by
 unfold Go.Proofs.YtefpndiiedkmpaaGreatDoor.fAt
 cases hf:d.files[i]? with
 | none=>exact FOk.plain (Nat.zero_le _)
 | some f=>exact h.files f (List.mem_of_getElem? hf)
theorem WF.new (n:Int):WF 0 (newD n) where
 safe:=⟨by simp[newD],by simp[newD],by simp[newD],by simp[newD],by simp[newD],by simp[newD]⟩
 chain:=trivial
 things:=rfl
 files:=by simp[newD]
 names:=by simp[newD]
 fl:=by simp[newD]
 aw:=by simp[newD]
 cap:=by simp[newD];omega
theorem WF.same (h:WF M d) {d':Ds} (h1:d'.things=d.things) (h2:d'.safe=d.safe) (h3:d'.steps=d.steps) (h4:d'.files=d.files) (h5:d'.await≤9223372036854775807) (h6:d'.cap=d.cap):WF M d':=
 ⟨by rw[h4,h2];exact h.safe,by rw[h4,h2,h3];exact h.chain,by rw[h1,h2,h3];exact h.things,by rw[h4];exact h.files,by rw[h2,h3];exact h.names,by rw[h4];exact h.fl,h5,by rw[h6];exact h.cap⟩
theorem Kgx (d:Ds):(stepD d).2.things=d.things∧(stepD d).2.safe=d.safe∧(stepD d).2.steps=d.steps∧(stepD d).2.files=d.files∧(stepD d).2.await≤d.await∧(stepD d).2.cap=d.cap:=by
 unfold stepD
 split
 ·exact ⟨rfl,rfl,rfl,rfl,Nat.le_refl _,rfl⟩
 ·split
  ·exact ⟨rfl,rfl,rfl,rfl,Nat.zero_le _,rfl⟩
  ·exact ⟨rfl,rfl,rfl,rfl,Nat.sub_le _ _,rfl⟩
theorem WF.step (h:WF M d):WF M (stepD d).2:=by
 obtain ⟨h1,h2,h3,h4,h5,h6⟩:=Kgx d;exact h.same h1 h2 h3 h4 (Nat.le_trans h5 h.aw) h6
theorem WF.names_ (h:WF M d) {s:St} (hs:StOk d.files.length d.things s):WF (M+1) (Kav d s).2:=by
 unfold Kav;obtain ⟨h1,h2,h3,h4,h5,h6⟩:=Kgx d
 split
 ·exact h.step.more (by omega)
 ·exact {
   safe:=by simp only[h2,h4];exact h.safe
   chain:=by simp only[h2,h4];exact h.chain.append (by rw[←h.things];exact hs)
   things:=by simp only[h2];rw[List.foldl_append,←h.things];rfl
   files:=by simp only[h4];exact fun f hf=>(h.files f hf).more (by omega)
   names:=by simp only[h2,List.length_append];have:=h.names;simp;omega
   fl:=by simp only[h4];have:=h.fl;omega
   aw:=Nat.le_trans h5 h.aw
   cap:=by simp only[h6];exact h.cap }
theorem WF.mkdir (h:WF M d) (s:Txt):WF (M+1) (Qdz d s).2:=by
 unfold Qdz
 split
 ·exact h.more (by omega)
 split
 ·exact h.more (by omega)
 split
 ·exact h.more (by omega)
 rename_i h1 h2 h3
 exact h.names_ ⟨by simpa using h2,by simpa using h3⟩
theorem WF.remove (h:WF M d) (s:Txt):WF (M+1) (Kaq d s).2:=by
 unfold Kaq
 split
 ·exact h.more (by omega)
 split
 ·exact h.more (by omega)
 split
 ·exact h.more (by omega)
 rename_i h1 h2 h3
 exact h.names_ ⟨by simpa using h2,by simpa using h3⟩
theorem WF.rename (h:WF M d) (a b:Txt):WF (M+1) (Kak d a b).2:=by
 unfold Kak
 split
 ·exact h.more (by omega)
 split
 ·exact h.more (by omega)
 split
 ·exact h.more (by omega)
 split
 ·exact h.more (by omega)
 split
 ·exact h.more (by omega)
 rename_i h1 h2 h3 h4 h5
 simp only[not_or,not_and,Bool.not_eq_false] at h2 h3 h4 h5;refine h.names_ ⟨h2.1,h2.2,h4.1,h4.2,h5.1,fun e=>⟨h3 e,?_⟩,?_⟩
 ·rcases Kdw d.things b with h0 | h0 | h0
  ·exact h0
  ·exact absurd e (h5.2 h0).1
  ·exact absurd h0 h5.1
 ·rintro rfl;rcases Kdw d.things a with h0 | h0 | h0
  ·exact h4.1 h0
  ·exact (h5.2 h0).2 rfl
  ·exact h5.1 h0
theorem WF.create (h:WF M d) (s:Txt):WF (M+1) (Kbe d s).2:=by
 unfold Kbe
 split
 ·exact h.more (by omega)
 split
 ·exact h.more (by omega)
 split
 ·exact h.more (by omega)
 split
 ·exact h.more (by omega)
 split
 ·exact h.step.more (by omega)
 rename_i h1 h2 h3 h4 h5
 obtain ⟨k1,k2,k3,k4,k5,k6⟩:=Kgx d
 have e:(Kav d (.create s d.files.length)).2 = { (stepD d).2 with things:=Kaj d.things (.create s d.files.length),steps:=d.steps ++ [.create s d.files.length] }:=by
  unfold Kav;rw[if_neg h5]
 rw[e];have hle:d.files.length≤(d.files ++ [(⟨[],[],[]⟩:By)]).length:=by simp
 exact {
  safe:=by simp only[k2];exact h.safe.more hle
  chain:=by
   simp only[k2];refine (h.chain.more hle).append ?_;rw[←h.things];exact ⟨by simpa using h2,by simpa using h3,by simpa using h4,by simp,fun x hx hd=>Nat.ne_of_lt (h.tw.ats x hx hd)⟩
  things:=by simp only[k2];rw[List.foldl_append,←h.things];rfl
  files:=by
   intro f hf;rcases List.mem_append.1 hf with hf | hf
   ·exact (h.files f hf).more (by omega)
   ·rw[List.mem_singleton.1 hf];exact FOk.plain (Nat.zero_le _)
  names:=by simp only[k2,List.length_append];have:=h.names;simp;omega
  fl:=by have:=h.fl;simp;omega
  aw:=Nat.le_trans k5 h.aw
  cap:=by simp only[k6];exact h.cap }
theorem WF.set_ (h:WF M d) {i:Nat} {f:By} (hf:FOk M' f) (hM:M≤M'):WF M' (setF d i f) where
 safe:=by simp only[setF,List.length_set];exact h.safe
 chain:=by simp only[setF,List.length_set];exact h.chain
 things:=h.things
 files:=by
  intro g hg;rcases List.mem_or_eq_of_mem_set hg with hg | rfl
  ·exact (h.files g hg).more hM
  ·exact hf
 names:=Nat.le_trans h.names hM
 fl:=by simp only[setF,List.length_set];exact Nat.le_trans h.fl hM
 aw:=h.aw
 cap:=h.cap
theorem WF.append (h:WF M d) (s t:Txt):WF (M+t.length+1) (Kbk d s t).2:=by
 unfold Kbk
 split
 ·exact h.more (by omega)
 split
 ·exact h.more (by omega)
 split
 ·exact h.step.more (by omega)
 rename_i i _ _ _
 exact h.step.set_ ((h.fAt i).append t) (by omega)
theorem WF.sync (h:WF M d) (s:Txt):WF (M+1) (syncD d s).2:=by
 unfold syncD
 split
 ·exact h.more (by omega)
 split
 ·exact h.step.more (by omega)
 rename_i i _ _
 exact h.step.set_ (FOk.plain (Nat.le_succ_of_le (h.fAt i).now)) (by omega)
theorem WF.syncNames (h:WF M d):WF (M+1) (Kax d).2:=by
 unfold Kax
 split
 ·exact h.more (by omega)
 split
 ·exact h.step.more (by omega)
 obtain ⟨k1,k2,k3,k4,k5,k6⟩:=Kgx d
 exact {
  safe:=by simp only[k4];exact h.tw
  chain:=trivial
  things:=by simp only[k1];rfl
  files:=by simp only[k4];exact fun f hf=>(h.files f hf).more (by omega)
  names:=by have:=h.tl;simp;omega
  fl:=by simp only[k4];have:=h.fl;omega
  aw:=Nat.le_trans k5 h.aw
  cap:=by simp only[k6];exact h.cap }
end
end
section
open Go.RowKit Go.Shelf Go.Maps Go.Sort
attribute [local go_sem ↓] Go.wp_at_zero Go.wp_at_succ
attribute [local go_sem] Later.cell
def one:St→Th→List Th
 | .mkdir _,x=>[x]
 | .create _ _,x=>[x]
 | .remove a,x=>if x.path == a || Kbh x.path a then [] else [x]
 | .rename a b,x=>if x.path == b then [] else [mv a b x]
section
variable {l : List Th} {X : Option Addr} {n c : Nat} {w : World}
end
def encEn (e:En):List Value:=[txtV e.name,.bool e.dir,.int .i64 (e.size:Int)]
theorem Kzc:∀{m:List En} {j:Nat} {e:En} (k:Nat),m[j]? = some e→k < 3→(m.flatMap encEn)[j*3+k]? = (encEn e)[k]?
 | [],_,_,_,h,_=>by simp at h
 | f :: m,0,e,k,h,hk=>by
  simp at h;subst h;rw[List.flatMap_cons,Nat.zero_mul,Nat.zero_add,List.getElem?_append_left (by simpa[encEn] using hk)]
 | f :: m,j+1,e,k,h,hk=>by
  rw[List.flatMap_cons,List.getElem?_append_right (by simp[encEn];omega)];rw[show (j+1)*3+k - (encEn f).length=j*3+k by simp[encEn];omega];exact Kzc k (by simpa using h) hk
theorem Kyw:∀a b:Txt,Lib.compareBytes a b < 0↔a < b
 | [],[]=>by simp[Lib.compareBytes]
 | [],_ :: _=>by simp[Lib.compareBytes]
 | _ :: _,[]=>by simp[Lib.compareBytes]
 | a :: p,b :: q=>by
  rw[Lib.compareBytes,List.cons_lt_cons_iff]
  by_cases h1:a < b
  ·simp[h1]
  ·rw[if_neg h1]
   by_cases h2:b < a
   ·rw[if_pos h2];have hne:a≠b:=fun e=>by subst e;exact UInt8.lt_irrefl _ h2
    simp[h1,hne]
   ·rw[if_neg h2,Kyw p q];have he:a=b:=UInt8.le_antisymm (UInt8.not_lt.1 h2) (UInt8.not_lt.1 h1);simp[h1,he]
def cfE (x y:En):Int:=Lib.compareBytes x.name y.name
theorem ltE (x y:En):ltOf cfE x y=decide (x.name < y.name):=by
 unfold ltOf cfE;rw[decide_eq_decide];exact Kyw _ _
theorem swoE:SWO (ltOf cfE) where
 irrefl x:=by rw[ltE];simp[List.lt_irrefl]
 trans x y z h1 h2:=by
  rw[ltE,decide_eq_true_eq] at h1 h2 ⊢;exact List.lt_trans h1 h2
 ntrans x y z h1 h2:=by
  rw[ltE,decide_eq_false_iff_not] at h1 h2 ⊢;exact List.not_lt.2 (List.le_trans (List.not_lt.1 h2) (List.not_lt.1 h1))
theorem Knc (x:En):(encEn x).length=3:=rfl
theorem Qgg (x:En):∀v∈encEn x,v.oneCell'=true:=by
 intro v hv;simp[encEn] at hv;rcases hv with rfl | rfl | rfl <;> rfl
theorem Krb (l:List En):(l.flatMap encEn).length=l.length*3:=by
 induction l with
 | nil=>rfl
 | cons x l ih=>rw[List.flatMap_cons,List.length_append,ih,Knc,List.length_cons];omega
theorem Kra {l:List En} {t:Nat} (h:t < l.length*3):(l.flatMap encEn)[t]? = some ((encEn l[t / 3]!)[t % 3]!):=by
 have hl:t / 3 < l.length:=by omega
 have h1:l[t / 3]? = some l[t / 3]!:=by rw[getElem!_pos l _ hl,List.getElem?_eq_getElem hl]
 have h2:=Kzc (t % 3) h1 (by omega);rw[show t / 3*3+t % 3=t by omega] at h2;have h3:t % 3 < (encEn l[t / 3]!).length:=by rw[Knc];omega
 rw[h2,List.getElem?_eq_getElem h3,getElem!_pos (encEn l[t / 3]!) _ h3]
set_option maxHeartbeats 400000 in
theorem Qaz (x y:En) (W:World) :
  Calls Tryz.prog 70 #[.agg (encEn x).toArray,.agg (encEn y).toArray] W fun e w'=>e = .returned (.int .i64 (cfE x y))∧∃q os',w'=grow (W.drewN q) os':=by
 obtain ⟨xn,xd,xs⟩:=x;obtain ⟨yn,yd,ys⟩:=y;have hcon:=fun W'=>Tryz.strings_Compare ⟨xn.toArray⟩ ⟨yn.toArray⟩ W'
 simp only[List.toList_toArray] at hcon;unfold cfE;obtain ⟨r,hr⟩:∃r,Lib.compareBytes xn yn=r:=⟨_,rfl⟩;simp only[hr] at hcon ⊢;have HC:=Lib.hid hcon;clear hcon hr;unfold encEn txtV;obtain ⟨X,hX⟩:∃X:ByteArray,(⟨xn.toArray⟩:ByteArray)=X:=⟨_,rfl⟩;obtain ⟨Y,hY⟩:∃X:ByteArray,(⟨yn.toArray⟩:ByteArray)=X:=⟨_,rfl⟩;simp only[hX,hY] at HC ⊢;clear hX hY;go_enter Tryz.func70,Tryz.ntmps70
 go_wp2_with fail
 refine (HC.out _).mono ?_;rintro e w' ⟨rfl,rfl⟩;go_wp2_with fail
 go_ret
 exact ⟨rfl,0,_,by rw[alloc_eq_grow,alloc_eq_grow,grow_grow];rfl⟩
theorem Kus {α : Type} [Inhabited α] (enc:α→List Value) (k:Nat) (w:World) (blk off n:Nat) (d:Array α) (os:Array Obj):w.grownBy (sortWorldK enc k w blk off n d os) (some blk):=by
 refine ⟨rfl,rfl,rfl,?_,?_⟩
 ·simp[sortWorldK,grow,putRowK,putRow,mapBlock,Sort.ahead]
 ·intro j hj hne;have hb:¬blk=j:=fun e=>hne (by rw[e])
  simp only[sortWorldK,grow,putRowK,putRow,mapBlock,Sort.ahead];rw[Array.getElem?_append_left (by simpa using hj),Array.getElem?_modify,if_neg hb]
def Qis (w:World) (B g n cap:Nat) (l:List En) (e:Ending) (w':World):Prop:=
 e = .returned (.tuple #[])∧∃l':List En,l'.Perm l∧l'.Pairwise LeE∧w'.ownsRow B 148 3 (.slice (some ⟨g,0,none⟩) n cap) n (l'.flatMap encEn)∧w.grownBy w' (some g)
theorem Ksz (l:List En) (g cap n B:Nat) (w:World) (hown:w.ownsRow B 148 3 (.slice (some ⟨g,0,none⟩) n cap) n (l.flatMap encEn)) (hl:l.length=n) (hn:n≤1073741824) :
  Calls Tryz.prog 69 #[.slice (some ⟨g,0,none⟩) n cap,.func (.func 70) #[] #[]] w (Qis w B g n cap l):=by
 have hlt:=World.ownsRow.lt hown g rfl;rcases hown.2 with ⟨he,_⟩ | ⟨g',cap',cur,he,h1,h2,h3,h4,h5,h6⟩
 ·cases he
 ·injection he with he _ hcc;injection he with he;injection he with he _ _;subst he hcc
  have hH:HoldsK encEn 3 w g 0 l.toArray:=by
   intro t ht;rw[size_flatK] at ht;have ht':t < l.length*3:=by simpa using ht
   refine ⟨?_,by simp[World.frozen?,h2]⟩;rw[get_flatK _ _ _ _ ht,Nat.zero_add,cell_of_row w g t cur _ (0,0) h2]
   have e1:cur[t]? = (l.flatMap encEn)[t]?:=by
    rw[←h6,List.getElem?_take_of_lt (by omega)];simp
   rw[e1,Kra ht'];simp only[List.getElem!_toArray,id]
  have eg:∀args w,(callFunc 70 args).run Tryz.prog w = .ok (.enter 70 args) w:=enters_of Tryz.func70 (by kernel_rfl) rfl;have hcon:=AnyQ.slices_SortFunc Tryz.laysSFE 3 Tryz.isAgg148 Tryz.sizeOf148 encEn Knc Qgg cfE swoE 70 #[] g 0 cap l.toArray w eg (fun _ _ _ _ x y=>Qaz x y _) hH hlt.2 (by simp;omega);simp only[List.size_toArray,hl] at hcon;refine hcon.mono ?_;rintro e w' ⟨rfl,d',m,os,hp,hs,rfl⟩;obtain ⟨hsz,_,hpm⟩:=hp;have hsz':d'.size=n:=by rw[hsz];simpa using hl
  have hpm':d'.toList.Perm l:=by
   have e1:(d'.extract 0 n)=d':=by rw[←hsz'];simp
   have e2:(l.toArray.extract 0 n)=l.toArray:=by rw[←hl];simp
   rw[e1,e2] at hpm;simpa using hpm
  refine ⟨rfl,d'.toList,hpm',?_,?_,Kus _ _ _ _ _ _ _ _⟩
  ·rw[List.pairwise_iff_getElem];intro i j hi hj hij;have hi':i < d'.size:=by simpa using hi
   have hj':j < d'.size:=by simpa using hj
   have:=hs i j (Nat.zero_le _) hij (by omega);rw[ltE,decide_eq_false_iff_not,getElem!_pos d' j hj',getElem!_pos d' i hi'] at this;exact this
  ·refine ⟨by rw[Krb];simp[hsz'],.inr ⟨g,cap,putCells id 0 (flatK encEn 3 d') cur,rfl,h1,?_,h3,h4,by simp[putCells,h5],?_⟩⟩
   ·simp only[sortWorldK,grow,putRowK,putRow,mapBlock,Sort.ahead];rw[Array.getElem?_append_left (by simpa using hlt.2),Array.getElem?_modify,if_pos rfl,h2];rfl
   ·apply List.ext_getElem?;intro t
    by_cases ht:t < n*3
    ·rw[List.getElem?_take_of_lt ht,Kra (by simpa[hsz'] using ht)];have htc:t < cur.size:=by rw[h5];exact Nat.lt_of_lt_of_le ht (Nat.mul_le_mul_right 3 h3)
     have hts:t < (flatK encEn 3 d').size:=by rw[size_flatK,hsz'];exact ht
     simp only[putCells,Array.getElem?_toList,Array.getElem?_mapIdx,Array.getElem?_eq_getElem htc,Option.map_some];rw[if_pos ⟨Nat.zero_le _,by simpa using hts⟩,Nat.sub_zero,get_flatK _ _ _ _ (by rw[hsz'];exact ht)];congr 2;have hq:t / 3 < d'.size:=by omega
     rw[getElem!_pos d' _ hq,getElem!_pos d'.toList _ (by simpa using hq)];simp
    ·rw[List.getElem?_eq_none (by rw[List.length_take];omega),List.getElem?_eq_none (by rw[Krb];simp[hsz'];omega)]
end
section
open Go.RowKit Go.Shelf Go.Maps Go.Sort
theorem Qjq {out tgt:List En} (h1:(out.map En.name).Nodup) (h2:(tgt.map En.name).Nodup) (h:∀e,e∈out↔e∈tgt):out.Perm tgt:=
 (List.perm_ext_iff_of_nodup (Khp h1) (Khp h2)).2 h
theorem Kri (left:Lit→Bool) (k z:Txt):(left (.string z) && !(Lit.string z).sameKey (.string k))=false↔(left (.string z)=false∨z=k):=by
 cases h1:left (.string z) with
 | false=>simp
 | true=>
  rw[Bool.true_and];constructor
  ·intro h2;right;exact Kfz.1 (by simpa using h2)
  ·rintro (h2 | h2)
   ·cases h2
   ·rw[Kfz.2 h2];rfl
def Inv1 (l:List Th) (left:Txt→Bool) (out:List En):Prop:=
 (out.map En.name).Nodup∧∀e,e∈out↔∃x∈l,x.dir=true∧left x.path=false∧e=⟨x.path,true,0⟩
def Inv2 (d:Ds) (l:List Th) (left:Txt→Bool) (out:List En):Prop:=
 (out.map En.name).Nodup∧∀e,e∈out↔(∃x∈l,x.dir=true∧e=⟨x.path,true,0⟩)∨∃x∈l,x.dir=false∧Kag x.path=none∧left x.path=false∧e=⟨x.path,false,(nowAt d x.at_).length⟩
section
variable {d : Ds} {l : List Th} {n : Nat} {left left' : Txt → Bool} {out : List En}
theorem Inv1.start (h:∀x∈l,x.dir=true→left x.path=true):Inv1 l left []:=by
 refine ⟨by simp,fun e=>⟨fun h=>by simp at h,?_⟩⟩;rintro ⟨x,hx,h1,h2,_⟩;rw[h x hx h1] at h2;cases h2
theorem Inv1.step (hw:TW n l) (h:Inv1 l left out) {k:Txt} (hk:∃x∈l,x.dir=true∧x.path=k) (hlk:left k=true) (hl:∀z,left' z=false↔(left z=false∨z=k)):Inv1 l left' (out ++ [⟨k,true,0⟩]):=by
 obtain ⟨y,hy,hyd,rfl⟩:=hk;refine ⟨?_,fun e=>?_⟩
 ·rw[List.map_append,List.nodup_append];refine ⟨h.1,by simp,?_⟩;intro a ha b hb e;simp at hb;subst hb e;obtain ⟨e1,he1,hne⟩:=List.mem_map.1 ha;obtain ⟨x,hx,_,hx2,rfl⟩:=(h.2 e1).1 he1;simp only at hne;rw[hne] at hx2;rw[hx2] at hlk;cases hlk
 ·rw[List.mem_append,h.2 e,List.mem_singleton];constructor
  ·rintro (⟨x,hx,h1,h2,rfl⟩ | rfl)
   ·exact ⟨x,hx,h1,(hl _).2 (.inl h2),rfl⟩
   ·exact ⟨y,hy,hyd,(hl _).2 (.inr rfl),rfl⟩
  ·rintro ⟨x,hx,h1,h2,rfl⟩;rcases (hl _).1 h2 with h3 | h3
   ·exact .inl ⟨x,hx,h1,h3,rfl⟩
   ·exact .inr (by rw[h3])
theorem Inv1.to_two (hw:TW n l) (h:Inv1 l left out) (h0:∀x,left x=false) (hs:∀x∈l,x.dir=false→left' x.path=true):Inv2 d l left' out:=by
 refine ⟨h.1,fun e=>?_⟩;rw[h.2 e];constructor
 ·rintro ⟨x,hx,h1,_,rfl⟩;exact .inl ⟨x,hx,h1,rfl⟩
 ·rintro (⟨x,hx,h1,rfl⟩ | ⟨x,hx,h1,_,h3,rfl⟩)
  ·exact ⟨x,hx,h1,h0 _,rfl⟩
  ·rw[hs x hx h1] at h3;cases h3
theorem Inv2.step (hw:TW n l) (h:Inv2 d l left out) {x:Th} (hx:x∈l) (hd:x.dir=false) (hs:Kag x.path=none) (hlk:left x.path=true) (hl:∀z,left' z=false↔(left z=false∨z=x.path)):Inv2 d l left' (out ++ [⟨x.path,false,(nowAt d x.at_).length⟩]):=by
 refine ⟨?_,fun e=>?_⟩
 ·rw[List.map_append,List.nodup_append];refine ⟨h.1,by simp,?_⟩;intro a ha b hb e;simp at hb;subst hb e;obtain ⟨e1,he1,hne⟩:=List.mem_map.1 ha;rcases (h.2 e1).1 he1 with ⟨y,hy,hyd,rfl⟩ | ⟨y,hy,hyd,_,hy2,rfl⟩
  ·have:=Kfg hw.nodup hy hx hne;rw[this,hd] at hyd;cases hyd
  ·simp only at hne;rw[hne,hlk] at hy2;cases hy2
 ·rw[List.mem_append,h.2 e,List.mem_singleton];constructor
  ·rintro ((h1 | ⟨y,hy,h1,h2,h3,rfl⟩) | rfl)
   ·exact .inl h1
   ·exact .inr ⟨y,hy,h1,h2,(hl _).2 (.inl h3),rfl⟩
   ·exact .inr ⟨x,hx,hd,hs,(hl _).2 (.inr rfl),rfl⟩
  ·rintro (h1 | ⟨y,hy,h1,h2,h3,rfl⟩)
   ·exact .inl (.inl h1)
   ·rcases (hl _).1 h3 with h4 | h4
    ·exact .inl (.inr ⟨y,hy,h1,h2,h4,rfl⟩)
    ·have:=Kfg hw.nodup hy hx h4;subst this;exact .inr rfl
theorem Inv2.skip (hw:TW n l) (h:Inv2 d l left out) {x:Th} (hx:x∈l) (hs:Kag x.path≠none) (hl:∀z,left' z=false↔(left z=false∨z=x.path)):Inv2 d l left' out:=by
 refine ⟨h.1,fun e=>?_⟩;rw[h.2 e];constructor
 ·rintro (h1 | ⟨y,hy,h1,h2,h3,rfl⟩)
  ·exact .inl h1
  ·exact .inr ⟨y,hy,h1,h2,(hl _).2 (.inl h3),rfl⟩
 ·rintro (h1 | ⟨y,hy,h1,h2,h3,rfl⟩)
  ·exact .inl h1
  ·rcases (hl _).1 h3 with h4 | h4
   ·exact .inr ⟨y,hy,h1,h2,h4,rfl⟩
   ·rw[h4] at h2;exact absurd h2 hs
theorem Inv1.len (h:Inv1 l left out):out.length≤l.length:=by
 have:=Kgf (out.map En.name) (l.map Th.path) h.1 (fun z hz=>by
  obtain ⟨e,he,rfl⟩:=List.mem_map.1 hz;obtain ⟨x,hx,_,_,rfl⟩:=(h.2 e).1 he
  exact List.mem_map.2 ⟨x,hx,rfl⟩)
 simpa using this
theorem Inv2.len (h:Inv2 d l left out):out.length≤l.length:=by
 have:=Kgf (out.map En.name) (l.map Th.path) h.1 (fun z hz=>by
  obtain ⟨e,he,rfl⟩:=List.mem_map.1 hz;rcases (h.2 e).1 he with ⟨x,hx,_,rfl⟩ | ⟨x,hx,_,_,_,rfl⟩
  ·exact List.mem_map.2 ⟨x,hx,rfl⟩
  ·exact List.mem_map.2 ⟨x,hx,rfl⟩)
 simpa using this
theorem Inv2.all (hw:TW n d.things) (h:Inv2 d d.things left out) (h0:∀x,left x=false):out.Perm (entD d []):=by
 refine Qjq h.1 (Kob hw.nodup []) fun e=>?_
 rw[h.2 e];unfold entD;rw[List.mem_filterMap];constructor
 ·rintro (⟨x,hx,h1,rfl⟩ | ⟨x,hx,h1,h2,_,rfl⟩)
  ·refine ⟨x,hx,?_⟩;rw[if_pos rfl,Kbo (hw.dirs x hx h1),h1];rfl
  ·refine ⟨x,hx,?_⟩;rw[if_pos rfl,h2,h1];rfl
 ·rintro ⟨x,hx,h1⟩;rw[if_pos rfl] at h1
  cases hs:Kag x.path with
  | some k=>rw[hs] at h1;simp at h1
  | none=>
   rw[hs] at h1;simp only[Option.isSome_none,Bool.false_eq_true,if_false,Option.some.injEq] at h1
   cases hd:x.dir with
   | true=>exact .inl ⟨x,hx,hd,by rw[←h1,hd];rfl⟩
   | false=>exact .inr ⟨x,hx,hd,hs,h0 _,by rw[←h1,hd];rfl⟩
end
theorem Qgz {d:Ds} {n:Nat} (hw:TW n d.things) {dir:Txt} {l:List En} (hp:l.Perm (entD d dir)) (hs:l.Pairwise LeE):l=sortE (entD d dir):=Qfa hw.nodup hp hs
end
section
open Go.RowKit Go.Shelf Go.Maps Go.Sort
open Lib renaming hid → Jh
attribute [local go_sem ↓] Go.wp_at_zero Go.wp_at_succ
attribute [local go_sem] Later.cell
def Kdd (w:World) (B:Nat) (v:Value) (l:List En):Prop:=w.ownsRow B 148 3 v l.length (l.flatMap encEn)
def Khd (a:Nat→Addr) (r:List En×Nat) (s:ByteArray) (w:World) (e:Ending) (w':World):Prop:=
 ∃v u,e = .returned (.tuple #[v,u])∧ErrV a w' ⟨#[108,105,115,116]⟩ s r.2 u∧Kdd w' w.heap.size v r.1∧Below w.heap.size w w'
theorem Qdj:(Tryz.prog.info? 148).map (fun i=>(i.zero,i.size,i.bytes))=some (some (.agg #[.string ⟨#[]⟩,.bool false,.int .i64 0]),3,32):=by kernel_rfl
theorem Khd.bad {a:Nat→Addr} {w w':World} {s:ByteArray} {k:Nat} {u:Value} (hu:ErrV a w' ⟨#[108,105,115,116]⟩ s k u) (hb:Below w.heap.size w w'):Khd a ([],k) s w (.returned (.tuple #[.slice none 0 0,u])) w':=⟨_,_,rfl,hu,World.ownsRow_nil _ _ _ _,hb⟩
theorem Kdd.slice {w:World} {B:Nat} {v:Value} {l:List En} (h:Kdd w B v l):(l = []∧v = .slice none 0 0)∨∃g c,v = .slice (some ⟨g,0,none⟩) l.length c:=by
 rcases h.2 with ⟨h1,h0⟩ | ⟨g,cap,cur,h1,_⟩
 ·exact .inl ⟨List.eq_nil_of_length_eq_zero h0,h1⟩
 ·exact .inr ⟨g,cap,h1⟩
def Qir (w:World) (B:Nat) (v:Value) (l:List En) (e:Ending) (w':World):Prop:=
 e = .returned (.tuple #[])∧∃l':List En,l'.Perm l∧l'.Pairwise LeE∧Kdd w' B v l'∧w.grownBy w' v.ownBlock
theorem Ksy (l:List En) (B:Nat) (v:Value) (w:World) (h:Kdd w B v l) (hn:l.length≤1073741824) :
  Calls Tryz.prog 69 #[v,.func (.func 70) #[] #[]] w (Qir w B v l):=by
 rcases h.slice with ⟨rfl,rfl⟩ | ⟨g,c,rfl⟩
 ·refine (AnyF.slices_SortFunc_none Tryz.laysSFE none 0 _ w).mono ?_;rintro e w' ⟨rfl,rfl⟩;exact ⟨rfl,[],.refl _,List.Pairwise.nil,h,⟨rfl,rfl,rfl,Nat.le_refl _,fun _ _ _=>rfl⟩⟩
 ·refine (Ksz l g c l.length B w h rfl hn).mono ?_;rintro e w' ⟨rfl,l',h1,h2,h3,h4⟩;refine ⟨rfl,l',h1,h2,?_,h4⟩;unfold Kdd;rw[h1.length_eq];exact h3
theorem Kpw (s:ByteArray):(decide (0≤Lib.indexByte s.data.toList 47))=(Kag s.data.toList).isSome:=by
 rw[Kie]
 cases Kag s.data.toList with
 | none=>rfl
 | some k=>simp
section
variable {B0 : Nat} {a : Nat → Addr} {R : Nat → Nat} {A : Adr} {d : Ds}
theorem Qdw (w:World) (h:CD B0 w R A d) (hf:Fit d) (hB:B0≤w.heap.size) (hF:Fails B0 a w) (hnl:∀i,(fAt d i).now.length≤1073741824) :
  Calls Tryz.prog 22 #[.pointer (some ⟨A.p,0,none⟩),.string ⟨#[]⟩] w (Khd a (listD d []) ⟨#[]⟩ w):=by
 obtain ⟨i0,hi0,hz0,hz1,hz2⟩:=info_parts Qdj;obtain ⟨p,hp⟩:∃p,A.p=p:=⟨_,rfl⟩;have HP:=Jh hp;have hoff:w.cell? ⟨p,6,none⟩=some (.bool d.off):=by rw[←hp];exact Blk.cell h.blk 6
 obtain ⟨k,hk⟩:∃k,Kbv d.off true=k:=⟨_,rfl⟩;have HK:=Jh hk;have HRD:=Jh (Kdn (B0:=B0) (a:=a) p d.off true ⟨#[108,105,115,116]⟩ ⟨#[]⟩ k hk w hoff hF);obtain ⟨LD,hLD⟩:∃r,listD d []=r:=⟨_,rfl⟩;have hld:LD=if d.off=true then ([],1) else (sortE (entD d []),0):=by rw[←hLD];unfold listD;simp
 have HLD:=Jh hld;rw[hLD,hp];have HNL:=Jh hnl;clear hk hp hoff hLD hld hnl;go_enter Tryz.func22,Tryz.ntmps22
 go_wp2_with fail
 refine HRD.out.mono ?_;rintro _ w1 ⟨v,rfl,hv1,hb1⟩
 cases k with
 | succ k=>
  have hfin:Khd a LD ⟨#[]⟩ w (.returned (.tuple #[.slice none 0 0,v])) w1:=by
   have e1:LD=([],k+1):=by
    have hk:=HK.out;unfold Kbv at hk;rw[HLD.out,←hk]
    cases ho:d.off with
    | true=>rfl
    | false=>rw[ho] at hk;simp at hk
   rw[e1];exact Khd.bad hv1 hb1
  obtain ⟨q4,rfl,_⟩:=hv1;have HFIN:=Jh hfin;clear hfin;go_wp2_with fail
  go_ret2
  exact HFIN.out
 | zero=>
  obtain rfl:v = .nilIface:=hv1
  have ho:d.off=false:=by
   have hk:=HK.out;unfold Kbv at hk
   cases ho:d.off with
   | true=>rw[ho] at hk;simp at hk
   | false=>rfl
  have hld:LD=(sortE (entD d []),0):=by rw[HLD.out,ho];rfl
  have HLE:=Jh hld;have hcd1:=h.below hb1;obtain ⟨md,hmd⟩:∃x,A.md=x:=⟨_,rfl⟩;obtain ⟨mf,hmf⟩:∃x,A.mf=x:=⟨_,rfl⟩;have c0:w1.cell? ⟨p,0,none⟩=some (.map (some md)):=by rw[←HP.out,←hmd];exact Blk.cell hcd1.blk 0
  have c1:w1.cell? ⟨p,1,none⟩=some (.map (some mf)):=by rw[←HP.out,←hmf];exact Blk.cell hcd1.blk 1
  have hsd:SM w1 md (dirF d.things):=by rw[←hmd];exact hcd1.dirs.1
  have hsf:SM w1 mf (filF A.φ d.things):=by rw[←hmf];exact hcd1.files.1
  have HCD1:=Jh hcd1;have HSF:=Jh hsf;have HB1:=Jh hb1;have hpl:p < w1.heap.size:=Kah c0;have htl:=hf.tl;clear hcd1 hmd hmf hsf hld ho hb1;obtain ⟨D,hown,hhas,hat⟩:=hsd;have hsize:=SMap.size_le Tryz.underlying9 hown (d.things.map Th.path) (fun x hx=>Kzb (by rw[←hhas];exact hx));rw[List.length_map] at hsize;have HHAS:=Jh hhas;have hbl:=hown.lt;clear hhas hat;go_upto_block 0 with fail
  go_cut [7] (fun s7 wz=>∃v7 out,v7=s7∧Kdd wz w.heap.size v7 out∧out.Perm (entD d [])∧Below w.heap.size w wz)
  case first=>
   go_upto_block 3 with (at_range;refine wpList_range_own _ rfl _ 124 rfl 9 3 law3 Tryz.underlying124 HR md (Maps.size D) D rfl hown ?_;intro w0 hrg0 hg0 hs0)
   obtain ⟨r,hr⟩:∃r,w1.heap.size=r:=⟨_,rfl⟩;have hB0:Below r w1 w0:=⟨hg0.os,hg0.tape,hg0.output,hg0.size,fun k hk=>hg0.block k (by omega) (by simp)⟩;have HRS:=Jh hr;rw[hr] at hrg0 ⊢;clear hr hs0;go_frame
   go_cut [7] (fun s7 wz=>∃v7 out,v7=s7∧Kdd wz (r+1) v7 out∧Inv1 d.things (fun _=>false) out∧Below r w1 wz)
   case first=>
    go_wp2_with fail
    go_loopg [7] (Maps.size D) (fun g s7 wr=>∃(left:Lit→Bool) (cnt:Nat) (out:List En) (v7:Value),v7=s7∧cnt≤g∧wr.ranges Tryz.prog 9 HR md r (Maps.size D) D left cnt∧Kdd wr (r+1) v7 out∧Inv1 d.things (fun z=>left (.string z)) out∧Below r w1 wr)
    case atStart=>
     refine ⟨Maps.has D,Maps.size D,[],_,rfl,Nat.le_refl _,hrg0,World.ownsRow_nil _ _ _ _,Inv1.start fun x hx hd=>?_,hB0⟩;rw[HHAS.out x.path];exact Kcv.2 ⟨x,hx,hd,rfl⟩
    case round=>
     obtain ⟨left,cnt,out,v7,rfl,hcg,hrg,hrow,hinv,hB⟩:=hrel;have HINV:=Jh hinv;have HROW:=Jh hrow;have hol:=hinv.len;clear hinv;go_wp2_with (at_next;refine wpList_next_ranges _ rfl _ rfl 9 law3 HR Value.string (fun v:Value=>v) (fun key kl hk=>by obtain ⟨x,e,_⟩:=Maps.keyOf_str Tryz.underlying9 hk;exact ⟨_,e⟩) (fun v _ _=>⟨v,rfl⟩) md r (Maps.size D) D left cnt rfl hrg ?_ ?_)
     ·intro hc0 hl0
      have hfin:Inv1 d.things (fun _=>false) out:=by
       have h1:=HINV.out;have e:(fun z:Txt=>left (.string z))=fun _=>false:=by funext z;rw[hl0]
       rw[e] at h1;exact h1
      have HFI:=Jh hfin;clear hfin hc0 hl0;go_wp2_with fail
      go_meet
      exact ⟨v7,out,rfl,HROW.out,HFI.out,hB⟩
     ·intro x c kl y y2 w2 cnt2 hkx hlk hv hat2 hrg2 hlt hg2 hs2 hen;clear hs2;obtain ⟨k,e1,rfl,_⟩:=Maps.keyOf_str Tryz.underlying9 hkx
      have hxk:x.data.toList=k:=by
       have:(Value.string x)=encStr k:=e1;unfold encStr at this;injection this with this;rw[this]
      have hfk:(dirF d.things k).isSome=true:=by rw[←HHAS.out k];exact Maps.has_true_of_atKey hat2
      have hB2:Below r w1 w2:=hB.trans ⟨hg2.os,hg2.tape,hg2.output,hg2.size,fun j hj=>hg2.block j (by have:=hB.size;have:=HRS.out;omega) (fun e=>by injection e with e;omega)⟩
      have hrow2:w2.ownsRow (r+1) 148 3 v7 out.length (out.flatMap encEn):=World.ownsRow.kept hrow hg2 (.inr fun e=>by
       have:=(World.ownsRow.lt hrow r e).1
       omega)
      have hinv2:Inv1 d.things (fun z=>left (.string z) && !(Lit.string z).sameKey (.string k)) (out ++ [⟨k,true,0⟩]):=HINV.out.step hf.tw (Kcv.1 hfk) hlk (fun z=>Kri left k z)
      have henc:(out ++ [(⟨k,true,0⟩:En)]).flatMap encEn=out.flatMap encEn ++ [.string x,.bool true,.int .i64 0]:=by
       rw[List.flatMap_append,←hxk];simp[encEn];unfold txtV;rw[←Kcs rfl]
      have HENC:=Jh henc;have HINV2:=Jh hinv2;obtain ⟨m,hm⟩:∃m,out.length=m:=⟨_,rfl⟩;have HM:=Jh hm;rw[hm] at hrow2 hol;have hrl2:r+1≤w2.heap.size:=hrg2.lt;clear henc hinv2 hm hfk hv hat2 hkx e1 hlk hg2 hrg hxk;go_wp2_with (at_builtin;refine wpList_append_own_at _ rfl _ _ 53 rfl (r+1) 148 i0 (.agg #[.string ⟨#[]⟩,.bool false,.int .i64 0]) 3 32 Tryz.underlying53 hi0 hz0 hz1 hz2 rfl (by decide) _ _ _ rfl (hrow2.alloc _) ⟨w2.heap.size,0,none⟩ 1 1 [.string x,.bool true,.int .i64 0] rfl rfl ?p1 ?p2 ?p3 ?p4 ?p5 ?_)
      case p1=>exact Kbp (l:=[.string x,.bool true,.int .i64 0]) (Blk.new w2 _ _)
      case p2=>intro u hu;simp at hu;rcases hu with rfl | rfl | rfl <;> rfl
      case p3=>unfold maxLen;omega
      case p4=>omega
      case p5=>simp;omega
      intro v' w4 hown' hgrow _ _;have hall:w2.grownBy w4 v7.ownBlock:=(World.grownBy_alloc w2 _ _).trans hgrow;have hB4:Below r w1 w4:=hB2.trans ⟨hall.os,hall.tape,hall.output,hall.size,fun j hj=>hall.block j (by have:=hB2.size;omega) (fun e=>by have:=(World.ownsRow.lt hrow2 j e.symm).1;omega)⟩;have hrg4:=hrg2.kept hall (fun e=>by have:=(World.ownsRow.lt hrow2 md e.symm).1;have:=HRS.out;omega) (fun e=>by have:=(World.ownsRow.lt hrow2 r e.symm).1;omega)
      have hrow4:Kdd w4 (r+1) v' (out ++ [⟨k,true,0⟩]):=by
       unfold Kdd;rw[HENC.out,List.length_append,HM.out];exact hown'
      clear hown' hgrow hall hrow2 hrg2;go_wp2_with fail
      go_roundg (gk - 1)
      case measure=>omega
      case rel=>exact ⟨_,cnt2,_,_,rfl,by omega,hrg4,hrow4,HINV2.out,hB4⟩
   case rest=>
    obtain ⟨v7,out1,rfl,hrow,hinv,hB⟩:=hcut;obtain ⟨w5,rfl⟩:∃x,x=wc:=⟨_,rfl⟩;have hsf5:=HSF.out.below (by rw[HRS.out];exact hB) HSF.out.lt;obtain ⟨D2,hown2,hhas2,hat2⟩:=hsf5;have hsize2:=SMap.size_le Tryz.underlying9 hown2 (d.things.map Th.path) (fun x hx=>Khe (φ:=A.φ) (by rw[←hhas2];exact hx));rw[List.length_map] at hsize2;have HHAS2:=Jh hhas2;have HAT2:=Jh hat2;have HINV1:=Jh hinv;have HROW1:=Jh hrow;have HB5:=Jh hB;have c1':w5.cell? ⟨p,1,none⟩=some (.map (some mf)):=(hB.cell (p:=⟨p,1,none⟩) (by rw[←HRS.out];exact hpl)).trans c1;have hmfl:mf < w1.heap.size:=HSF.out.lt;have hr5:r≤w5.heap.size:=by have:=hB.size;have:=HRS.out;omega
    clear hhas2 hat2 hinv hrow hB c0 c1 hrg0 hg0 hB0 hown;go_upto_block 5 with (at_range;refine wpList_range_own _ rfl _ 125 rfl 9 132 law3 Tryz.underlying125 HR mf (Maps.size D2) D2 rfl hown2 ?_;intro w6 hrg6 hg6 hs6)
    obtain ⟨r2,hr2⟩:∃r,w5.heap.size=r:=⟨_,rfl⟩;have hB6:Below r w1 w6:=HB5.out.trans ⟨hg6.os,hg6.tape,hg6.output,hg6.size,fun k hk=>hg6.block k (by omega) (by simp)⟩
    have hrow6:Kdd w6 (r+1) v7 out1:=World.ownsRow.kept HROW1.out hg6 (by
     cases v7.ownBlock with
     | none=>exact .inl rfl
     | some g=>exact .inr (by simp))
    have hvr:∀g,v7.ownBlock=some g→g≠r2:=fun g hg=>by have:=(World.ownsRow.lt HROW1.out g hg).2;omega
    have HRS2:=Jh hr2;rw[hr2] at hrg6 ⊢;clear hr2 hs6;go_frame
    go_wp2_with fail
    go_loopg [7] (Maps.size D2) (fun g s7 wr=>∃(left:Lit→Bool) (cnt:Nat) (out:List En) (v7:Value),v7=s7∧cnt≤g∧wr.ranges Tryz.prog 9 HR mf r2 (Maps.size D2) D2 left cnt∧Kdd wr (r+1) v7 out∧Inv2 d d.things (fun z=>left (.string z)) out∧Below r w1 wr∧(∀g,v7.ownBlock=some g→g≠r2))
    case atStart=>
     refine ⟨Maps.has D2,Maps.size D2,out1,_,rfl,Nat.le_refl _,hrg6,hrow6,HINV1.out.to_two hf.tw (fun _=>rfl) (fun x hx hd=>?_),hB6,hvr⟩;rw[HHAS2.out x.path];exact Option.isSome_iff_exists.2 ⟨_,(Kby hf.tw.nodup).2 ⟨x,hx,hd,rfl,rfl⟩⟩
    case round=>
     obtain ⟨left,cnt,out,v7,rfl,hcg,hrg,hrow,hinv,hB,hvr⟩:=hrel;have HINV:=Jh hinv;have HROW:=Jh hrow;have HVR:=Jh hvr;have hol:=hinv.len;clear hinv hvr;go_wp2_with (at_next;refine wpList_next_ranges _ rfl _ rfl 9 law3 HR Value.string (fun v:Value=>v) (fun key kl hk=>by obtain ⟨x,e,_⟩:=Maps.keyOf_str Tryz.underlying9 hk;exact ⟨_,e⟩) (fun v _ _=>⟨v,rfl⟩) mf r2 (Maps.size D2) D2 left cnt rfl hrg ?_ ?_)
     ·intro hc0 hl0;have hfin:out.Perm (entD d []):=HINV.out.all hf.tw (fun x=>by rw[hl0]);have hB':Below w.heap.size w wr:=HB1.out.trans ((show Below w1.heap.size w1 wr by rw[HRS.out];exact hB).mono HB1.out.size);have HFI:=Jh hfin;have HB':=Jh hB';have HRW:=Jh (show Kdd wr w.heap.size v7 out from World.ownsRow.mono HROW.out (by have:=HB1.out.size;have:=HRS.out;omega));clear hfin hc0 hl0 hB';go_wp2_with fail
      go_meet
      exact ⟨v7,out,rfl,HRW.out,HFI.out,HB'.out⟩
     ·intro x c kl y y2 w2 cnt2 hkx hlk hv hat2 hrg2 hlt hg2 hs2 hen;clear hs2;obtain ⟨k,e1,rfl,_⟩:=Maps.keyOf_str Tryz.underlying9 hkx
      have hxk:x.data.toList=k:=by
       have:(Value.string x)=encStr k:=e1;unfold encStr at this;injection this with this;rw[this]
      have hfk:(filF A.φ d.things k).isSome=true:=by rw[←HHAS2.out k];exact Maps.has_true_of_atKey hat2
      obtain ⟨v,hfv⟩:=Option.isSome_iff_exists.1 hfk
      have hcv:c=v:=by
       have h1:=HAT2.out k v hfv (.held v);rw[hat2] at h1;unfold HR at hv;injection hv with hv;injection hv with hv;rw[←hv] at h1;injection h1
      subst hcv;obtain ⟨t,htm,htd,rfl,hct⟩:=(Kby hf.tw.nodup).1 hfv;have hB2:Below r w1 w2:=hB.trans ⟨hg2.os,hg2.tape,hg2.output,hg2.size,fun j hj=>hg2.block j (by have:=hB.size;have:=HRS.out;omega) (fun e=>by injection e with e;have:=HRS2.out;omega)⟩;have hi:=hf.tw.ats t htm htd;obtain ⟨u1,hblk1,_⟩:=Kil HCD1.out hi;obtain ⟨g,hg⟩:∃g,A.φ[t.at_]?.getD 0=g:=⟨_,rfl⟩;unfold fptr at hct;rw[hg] at hblk1 hct;subst hct;obtain ⟨T,hT⟩:∃T:ByteArray,(⟨(fAt d t.at_).now.toArray⟩:ByteArray)=T:=⟨_,rfl⟩;have hTs:(nowAt d t.at_).length=T.size:=by rw[←hT];rfl
      have hTz:T.size≤1073741824:=by rw[←hTs];exact HNL.out t.at_
      have hblk2:=hblk1.below hB2 (by have:=hblk1.lt;have:=HRS.out;omega);have f0:w2.cell? ⟨g,0,none⟩=some (.string T):=by rw[←hT];exact hblk2.cell 0
      have hrow2:w2.ownsRow (r+1) 148 3 v7 out.length (out.flatMap encEn):=World.ownsRow.kept hrow hg2 (.inr fun e=>HVR.out r2 e rfl);obtain ⟨cs,hcs⟩:∃b,(Kag t.path).isSome=b:=⟨_,rfl⟩;have HCON:=Jh (fun w=>Tryz.strings_Contains_one x 47 w);have hcd:decide (0≤Lib.indexByte x.data.toList 47)=cs:=by rw[Kpw,hxk,hcs]
      rw[hcd] at HCON;have HHRG:=Jh hrg2;have HB2:=Jh hB2;have HR2:=Jh hrow2;have hls:=fun z=>Kri left t.path z
      cases cs with
      | true=>
       have hinv2:Inv2 d d.things (fun z=>left (.string z) && !(Lit.string z).sameKey (.string t.path)) out:=HINV.out.skip hf.tw htm (by intro e;rw[e] at hcs;cases hcs) hls;have HINV2:=Jh hinv2;clear hinv2 hblk1 hblk2 hT hg hi htm htd hfv hfk hv hat2 hkx e1 hlk hg2 hrg hxk hcs hcd hls hB2 hrow2 hrg2;go_wp2_with fail
       refine (HCON.out _).mono ?_;rintro e w3 ⟨rfl,rfl⟩;go_wp2_with fail
       go_roundg (gk - 1)
       case measure=>omega
       case rel=>exact ⟨_,cnt2,out,_,rfl,by omega,HHRG.out,HR2.out,HINV2.out,HB2.out,HVR.out⟩
      | false=>
       have hs0:Kag t.path=none:=by
        cases e:Kag t.path with
        | none=>rfl
        | some j=>rw[e] at hcs;cases hcs
       have hinv2:Inv2 d d.things (fun z=>left (.string z) && !(Lit.string z).sameKey (.string t.path)) (out ++ [⟨t.path,false,(nowAt d t.at_).length⟩]):=HINV.out.step hf.tw htm htd hs0 hlk hls;rw[hTs] at hinv2
       have henc:(out ++ [(⟨t.path,false,T.size⟩:En)]).flatMap encEn=out.flatMap encEn ++ [.string x,.bool false,.int .i64 (T.size:Int)]:=by
        rw[List.flatMap_append,←hxk];simp[encEn];unfold txtV;rw[←Kcs rfl]
       have HENC:=Jh henc;have HINV2:=Jh hinv2;obtain ⟨m,hm⟩:∃m,out.length=m:=⟨_,rfl⟩;have HM:=Jh hm;rw[hm] at hrow2 hol;have hrl2:r2 < w2.heap.size:=hrg2.lt;clear henc hinv2 hm hblk1 hblk2 hT hg hi htm htd hfv hfk hv hat2 hkx e1 hlk hg2 hrg hxk hcs hcd hls hs0 hrg2;go_wp2_with fail
       refine (HCON.out _).mono ?_;rintro e w3 ⟨rfl,rfl⟩;have hrr:r+1≤w3.heap.size:=by have:=HRS2.out;omega
       go_wp2_with (at_builtin;refine wpList_append_own_at _ rfl _ _ 53 rfl (r+1) 148 i0 (.agg #[.string ⟨#[]⟩,.bool false,.int .i64 0]) 3 32 Tryz.underlying53 hi0 hz0 hz1 hz2 rfl (by decide) _ _ _ rfl (hrow2.alloc _) ⟨w3.heap.size,0,none⟩ 1 1 [.string x,.bool false,.int .i64 (T.size:Int)] rfl rfl ?p1 ?p2 ?p3 ?p4 ?p5 ?_)
       case p1=>exact Kbp (l:=[.string x,.bool false,.int .i64 (T.size:Int)]) (Blk.new w3 _ _)
       case p2=>intro u hu;simp at hu;rcases hu with rfl | rfl | rfl <;> rfl
       case p3=>unfold maxLen;omega
       case p4=>omega
       case p5=>simp;omega
       intro v' w4 hown' hgrow _ hat';have hall:w3.grownBy w4 v7.ownBlock:=(World.grownBy_alloc w3 _ _).trans hgrow;have hB4:Below r w1 w4:=HB2.out.trans ⟨hall.os,hall.tape,hall.output,hall.size,fun j hj=>hall.block j (by have:=HB2.out.size;have:=HRS.out;omega) (fun e=>by have:=(World.ownsRow.lt hrow2 j e.symm).1;omega)⟩;have hrg4:=HHRG.out.kept hall (fun e=>by have:=(World.ownsRow.lt hrow2 mf e.symm).1;have:=HRS.out;omega) (fun e=>HVR.out r2 e.symm rfl)
       have hrow4:Kdd w4 (r+1) v' (out ++ [⟨t.path,false,T.size⟩]):=by
        unfold Kdd;rw[HENC.out,List.length_append,HM.out];exact hown'
       have hvr4:∀g,v'.ownBlock=some g→g≠r2:=by
        intro g hg;rcases hat' with h1 | h1
        ·exact HVR.out g (by rw[←h1];exact hg)
        ·rw[h1] at hg;injection hg with hg;omega
       clear hown' hgrow hall hrow2 hat';go_wp2_with fail
       go_roundg (gk - 1)
       case measure=>omega
       case rel=>exact ⟨_,cnt2,_,_,rfl,by omega,hrg4,hrow4,HINV2.out,hB4,hvr4⟩
  case rest=>
   obtain ⟨v7,out,rfl,hrow,hperm,hB⟩:=hcut;obtain ⟨w7,rfl⟩:∃x,x=wc:=⟨_,rfl⟩
   have hol:out.length≤1073741824:=by
    rw[hperm.length_eq];unfold entD;have:=List.length_filterMap_le (fun x:Th=>if ([]:Txt) = [] then (if (Kag x.path).isSome then none else some (⟨x.path,x.dir,if x.dir then 0 else (nowAt d x.at_).length⟩:En)) else if Kbh x.path [] then some ⟨x.path.drop (([]:Txt).length+1),x.dir,if x.dir then 0 else (nowAt d x.at_).length⟩ else none) d.things;omega
   have HSO:=Jh (Ksy out w.heap.size v7 w7 hrow hol);have HROW:=Jh hrow;have HPM:=Jh hperm;have HB:=Jh hB;clear hrow hperm hB hown c0 c1 hol;go_wp2_with fail
   refine HSO.out.mono ?_;rintro e w8 ⟨rfl,l',hp',hs',hrow8,hg8⟩
   have hb8:Below w.heap.size w w8:=by
    have hb:=HB.out;exact hb.trans ⟨hg8.os,hg8.tape,hg8.output,hg8.size,fun k hk=>hg8.block k (by have:=hb.size;omega) (fun e=>by have:=(World.ownsRow.lt HROW.out k e.symm).1;omega)⟩
   have hfin:Khd a LD ⟨#[]⟩ w (.returned (.tuple #[v7,.nilIface])) w8:=by
    rw[HLE.out,←Qgz hf.tw (hp'.trans HPM.out) hs'];exact ⟨_,_,rfl,rfl,hrow8,hb8⟩
   have HFIN:=Jh hfin;clear hfin hb8 hrow8 hg8 hp' hs';go_wp2_with fail
   go_ret2
   exact HFIN.out
end
end
section
open Go.RowKit Go.Shelf Go.Maps Go.Sort
attribute [local go_sem ↓] Go.wp_at_zero Go.wp_at_succ
attribute [local go_sem] Later.cell
def Apart (a:Nat→Addr):Prop:=∀i j,1≤i→i≤7→1≤j→j≤7→i≠j→a i≠a j
section
variable {B0 : Nat} {a : Nat → Addr}
theorem Kvs (v:Value) (w:World):(Instr.typeAssert (.iface 56 v) 40 56 true).run Tryz.prog w = .ok (.tuple #[v,.bool true]) w:=by
 simp[Instr.typeAssert,run_underlying Tryz.underlying56,go_sem,Result.andThen]
def Sents (B0:Nat) (a:Nat→Addr) (w:World):Prop:=∀k,1≤k→k≤7→(a k).block < B0∧∃cs t,w.heap[(a k).block]? = some (.cells cs t (0,0))
theorem Sents.below {w w':World} (h:Sents B0 a w) (hb:Below B0 w w'):Sents B0 a w':=fun k h1 h2=>by
 obtain ⟨h3,cs,t,h4⟩:=h k h1 h2;exact ⟨h3,cs,t,(hb.block _ h3).trans h4⟩
theorem Kze:(Tryz.prog.info? 360).map (·.comparable)=some true:=by kernel_rfl
theorem Kzf:(Tryz.prog.info? 382).map (·.size)=some 1:=by kernel_rfl
theorem Qdc (i:Nat) (w:World):(binOp .eql 40 (failV a i) (failV a i)).run Tryz.prog w = .ok (.bool true) w:=by
 obtain ⟨i0,h1,h2⟩:=Option.map_eq_some_iff.1 Kze;obtain ⟨j0,h3,_⟩:=Option.map_eq_some_iff.1 Kzf;exact run_eql_iface_ptr_same w (a i) Tryz.underlying40 Tryz.underlying360 h1 h2 h3
theorem Qkq {i j:Nat} {w:World} (hs:Sents B0 a w) (ha:Apart a) (h1:1≤i) (h2:i≤7) (h3:1≤j) (h4:j≤7) (hne:i≠j):(binOp .eql 40 (failV a i) (failV a j)).run Tryz.prog w = .ok (.bool false) w:=by
 obtain ⟨i0,k1,k2⟩:=Option.map_eq_some_iff.1 Kze;obtain ⟨j0,k3,k4⟩:=Option.map_eq_some_iff.1 Kzf;obtain ⟨_,ci,ti,hi⟩:=hs i h1 h2;obtain ⟨_,cj,tj,hj⟩:=hs j h3 h4;exact run_eql_iface_ptr_other w Tryz.underlying40 Tryz.underlying360 k1 k2 k3 (by rw[k4];decide) (ha i j h1 h2 h3 h4 hne) hi hj
end
structure OpV where
 kind:Int
 a:ByteArray
 b:ByteArray
 n:Int
 m:Int
 pa:Option Addr
 pn:Nat
 pc:Nat
 da:Option Addr
 dn:Nat
 dc:Nat
 yes:Bool
section
variable {M : Value → World → Prop} {N : World → Prop} {k : Nat}
end
end
section
open Go.RowKit Go.Shelf Go.Maps Go.Sort
section
variable {B0 M : Nat} {a : Nat → Addr} {R R' S S' : Nat → Nat} {A A' : Adr} {d d' : Ds} {w w' w'' : World}
theorem Qie (d:Ds):(stepD d).1≤7:=by
 unfold stepD
 repeat' split
 all_goals simp
theorem Qeb (d:Ds) (s:St):(Kav d s).1≤7:=by
 unfold Kav;have:=Qie d
 repeat' split
 all_goals first | exact this | simp
theorem Qbk (d:Ds) (s:Txt):(Kaq d s).1≤7:=by
 unfold Kaq;have:=Qeb d (.remove s)
 repeat' split
 all_goals first | exact this | simp
theorem WF.nl (h:WF M d) (hM:M≤536870912):∀i,(Go.Proofs.YtefpndiiedkmpaaGreatDoor.fAt d i).now.length≤1073741824:=fun i=>by have:=(h.fAt i).now;omega
theorem WF.sl (h:WF M d) (hM:M≤536870912):∀i,(Go.Proofs.YtefpndiiedkmpaaGreatDoor.fAt d i).steps.length≤1073741824:=fun i=>by have:=(h.fAt i).sl;omega
theorem WF.usedL (h:WF M d):∀l:List Th,Go.Proofs.YtefpndiiedkmpaaGreatDoor.usedL d l≤l.length*M
 | []=>by simp[Go.Proofs.YtefpndiiedkmpaaGreatDoor.usedL]
 | x :: l=>by
  have h1:=h.usedL l
  have h2:(if x.dir then 0 else (nowAt d x.at_).length)≤M:=by
   split
   ·omega
   ·have:=(h.fAt x.at_).now;exact this
  have h3:Go.Proofs.YtefpndiiedkmpaaGreatDoor.usedL d (x :: l)=(if x.dir then 0 else (nowAt d x.at_).length)+Go.Proofs.YtefpndiiedkmpaaGreatDoor.usedL d l:=by simp[Go.Proofs.YtefpndiiedkmpaaGreatDoor.usedL]
  rw[h3,List.length_cons,Nat.add_mul];omega
theorem WF.used (h:WF M d) (hM:M≤536870912):Go.Proofs.YtefpndiiedkmpaaGreatDoor.usedL d d.things≤4611686018427387904:=by
 have h1:=h.usedL d.things;have h2:=h.tl;have h3:d.things.length*M≤536870912*536870912:=Nat.mul_le_mul (by omega) hM;omega
theorem WF.capl (h:WF M d):d.cap≤4611686018427387904:=by have:=h.cap;omega
end
structure OpE where
 o:OpV
 parts:List Txt
 data:List Int
instance:Inhabited OpE:=⟨⟨⟨0,⟨#[]⟩,⟨#[]⟩,0,0,none,0,0,none,0,0,false⟩,[],[]⟩⟩
section
variable {a : Nat → Addr} {M : Nat} {W w w' : World} {p q : Nat} {d : Ds}
end
structure Out (R R':Nat→Nat) (w w':World):Prop where
 os:w'.os=w.os
 tape:w'.tape=w.tape
 output:w'.output=w.output
 size:w.heap.size≤w'.heap.size
 block:∀k,k < w.heap.size→R k=0→w'.heap[k]? = w.heap[k]?
 old:∀k,k < w.heap.size→R k=0→R' k=0
section
variable {R R' R'' : Nat → Nat} {w w' w'' : World} {a : Nat → Addr} {B0 M M' p k : Nat} {d d' : Ds} {A : Adr} {v : Value}
theorem Knh {R:Nat→Nat} {k:Nat} (h:R k=0) (q:Nat):giv R q 0 k=0:=by
 unfold giv
 split
 ·rfl
 ·exact h
theorem Out.of_own (h:Own R R' w w'):Out R R' w w':=⟨h.os,h.tape,h.output,h.size,h.block,fun k hk h0=>(h.old k hk).trans h0⟩
theorem Out.trans (h:Out R R' w w') (k:Out R' R'' w' w''):Out R R'' w w'':=
 ⟨k.os.trans h.os,k.tape.trans h.tape,k.output.trans h.output,Nat.le_trans h.size k.size,
  fun i hi hr=>(k.block i (Nat.lt_of_lt_of_le hi h.size) (h.old i hi hr)).trans (h.block i hi hr),
  fun i hi hr=>k.old i (Nat.lt_of_lt_of_le hi h.size) (h.old i hi hr)⟩
theorem Out.of_below (h:Below w.heap.size w w'):Out R R w w':=⟨h.os,h.tape,h.output,h.size,fun k hk _=>h.block k hk,fun _ _ h=>h⟩
theorem Out.below {B:Nat} (h:Out R R' w w') (hB:B≤w.heap.size) (hR:∀k,k < B→R k=0):Below B w w':=
 ⟨h.os,h.tape,h.output,h.size,fun k hk=>h.block k (by omega) (hR k hk)⟩
theorem Out.free (h:Out R R' w w') (q:Nat):Out R (giv R' q 0) w w':=
 ⟨h.os,h.tape,h.output,h.size,h.block,fun k hk h0=>Knh (h.old k hk h0) q⟩
theorem Out.blk {g:Nat} {t:TypeId} {cs:Array Value} (h:Out R R' w w') (hg:Blk w g t cs) (h0:R g=0):Blk w' g t cs:=(h.block g hg.lt h0).trans hg
theorem RowIs.free {r:Nat} {T T2:TypeId} {sz n q:Nat} {xs:List Value} {cs:Array Value} (h:RowIs w R r T sz v n xs) (hq:Blk w q T2 cs) (hne:T≠T2):RowIs w (giv R q 0) r T sz v n xs:=by
 refine ⟨h.1,fun g hg=>?_⟩;rw[Kaw,h.2 g hg];rintro rfl;rcases h.1.2 with ⟨rfl,_⟩ | ⟨g,cap,cur,rfl,_,h4,_⟩
 ·cases hg
 ·injection hg with hg;subst hg;exact (Blk.ne_ (t:=T) (cs:=cur) h4 hq hne) rfl
theorem Box.free {b q:Nat} {T T2:TypeId} {cs:Array Value} (h:Box w R b T v) (hq:Blk w q T2 cs) (hne:T≠T2):Box w (giv R q 0) b T v:=⟨h.1,by rw[Kaw (Blk.ne_ h.1 hq hne)];exact h.2⟩
theorem MapM.free {r b q:Nat} {f:Txt→Option Value} {T2:TypeId} {cs:Array Value} (h:MapM w R r b f) (hq:Blk w q T2 cs):MapM w (giv R q 0) r b f:=by
 refine ⟨h.1,?_⟩;rw[Kaw]
 ·exact h.2
 ·rintro rfl;obtain ⟨D,⟨es,clock,h1,_⟩,_⟩:=h.1;unfold Blk at hq;rw[hq] at h1;cases h1
theorem CD.free {q:Nat} {cs:Array Value} (h:CD B0 w R A d) (hq:Blk w q 59 cs):CD B0 w (giv R q 0) A d where
 blk:=h.blk
 rp:=by rw[Kaw (Blk.ne_ h.blk hq (by decide))];exact h.rp
 dirs:=h.dirs.free hq
 files:=h.files.free hq
 sdirs:=h.sdirs.free hq
 sfiles:=h.sfiles.free hq
 steps:=by
  obtain ⟨fs,h1,h2,h3⟩:=h.steps;refine ⟨fs,h1.free hq (by decide),h2,fun i s f hs hf=>?_⟩;have h4:=h3 i s f hs hf
  cases s with
  | mkdir a=>exact (show False from h4).elim
  | create a i=>obtain ⟨b,c,e,h5,h6⟩:=h4;exact ⟨b,c,e,h5.free hq (by decide),h6.free hq (by decide)⟩
  | rename a a'=>obtain ⟨b,c,e,h5,h6⟩:=h4;exact ⟨b,c,e,h5.free hq (by decide),h6.free hq (by decide)⟩
  | remove a=>obtain ⟨b,e,h5⟩:=h4;exact ⟨b,e,h5.free hq (by decide)⟩
 bytes:=⟨h.bytes.1,fun i b f hb hf=>by
  obtain ⟨v,h1,h2,h3⟩:=h.bytes.2 i b f hb hf
  exact ⟨v,h1,by rw[Kaw (Blk.ne_ h1 hq (by decide))];exact h2,h3.free hq (by decide)⟩⟩
 inw:=fun k hk=>h.inw k fun e=>hk (Knh e q)
 low:=fun k hk=>Knh (h.low k hk) q
structure Dk (B0 M:Nat) (w:World) (R:Nat→Nat) (p:Nat) (d:Ds):Prop where
 ex:∃A,CD B0 w R A d∧A.p=p
 wf:WF M d
theorem Dk.below (h:Dk B0 M w R p d) (hb:Below w.heap.size w w'):Dk B0 M w' R p d:=by
 obtain ⟨A,h1,h2⟩:=h.ex;exact ⟨⟨A,h1.below hb,h2⟩,h.wf⟩
theorem Dk.more (h:Dk B0 M w R p d) (hM:M≤M'):Dk B0 M' w R p d:=⟨h.ex,h.wf.more hM⟩
theorem Dk.low (h:Dk B0 M w R p d):∀k,k < B0→R k=0:=by
 obtain ⟨A,h1,h2⟩:=h.ex;exact h1.low
theorem Dk.new (h:Dk B0 M w R p d) {k:Nat} (hk:w.heap.size≤k):R k=0:=by
 obtain ⟨A,h1,h2⟩:=h.ex;exact h1.inw.new hk
def ErrW (a:Nat→Addr) (w:World) (R:Nat→Nat):Nat→Value→Prop
 | 0,v=>v = .nilIface
 | k+1,v=>∃q op path,v = .iface 56 (.pointer (some ⟨q,0,none⟩))∧Blk w q 59 #[.string op,.string path,failV a (k+1)]∧R q=0
theorem ErrW.out (h:ErrW a w R k v) (ho:Out R R' w w'):ErrW a w' R' k v:=by
 cases k with
 | zero=>exact h
 | succ k=>
  obtain ⟨q,op,path,h1,h2,h3⟩:=h;exact ⟨q,op,path,h1,ho.blk h2 h3,ho.old q h2.lt h3⟩
theorem ErrW.below (h:ErrW a w R k v) (hb:Below w.heap.size w w'):ErrW a w' R k v:=h.out (Out.of_below hb)
theorem ErrW.nil (h:ErrW a w R k v) (hk:k=0):v = .nilIface:=by subst hk;exact h
theorem ErrW.some_ (h:ErrW a w R k v) (hk:k≠0):∃q op path,v = .iface 56 (.pointer (some ⟨q,0,none⟩))∧Blk w q 59 #[.string op,.string path,failV a k]∧R q=0:=by
 cases k with
 | zero=>exact absurd rfl hk
 | succ k=>exact h
def DkOut (a:Nat→Addr) (B0 M:Nat) (R:Nat→Nat) (p:Nat) (r:Nat×Ds) (w:World) (e:Ending) (w':World):Prop:=
 ∃v R',e = .returned v∧ErrW a w' R' r.1 v∧Dk B0 M w' R' p r.2∧Out R R' w w'
theorem DkOut.mk' {op s:ByteArray} {R':Nat→Nat} (h1:ErrV a w' op s k v) (h2:CD B0 w' R' A d') (h3:Out R R' w w') (hw:WF M d') :
  ∃R'',ErrW a w' R'' k v∧Dk B0 M w' R'' A.p d'∧Out R R'' w w':=by
 cases k with
 | zero=>exact ⟨R',h1,⟨⟨A,h2,rfl⟩,hw⟩,h3⟩
 | succ k=>
  obtain ⟨q,e,h4⟩:=h1;exact ⟨giv R' q 0,⟨q,op,s,e,h4,Kcm _ _ _⟩,⟨⟨A,h2.free h4,rfl⟩,hw⟩,h3.free q⟩
theorem DkOut.of {r:Nat×Ds} {op s:ByteArray} {e:Ending} (h:Kdu B0 a R A r op s w e w') (hw:WF M r.2):DkOut a B0 M R A.p r w e w':=by
 obtain ⟨v,R',A',rfl,h1,h2,h3,h4,_⟩:=h;obtain ⟨R'',k1,k2,k3⟩:=DkOut.mk' h1 h2 (Out.of_own h3) hw;rw[h4] at k2;exact ⟨v,R'',rfl,k1,k2,k3⟩
theorem Dk.create (h:Dk B0 M w R p d) (hM:M≤536870912) (hB:B0≤w.heap.size) (hF:Fails B0 a w) (S:ByteArray) (hS:S.size≤1073741824) :
  Calls Tryz.prog 57 #[.pointer (some ⟨p,0,none⟩),.string S] w (DkOut a B0 (M+1) R p (Kbe d S.data.toList) w):=by
 obtain ⟨A,hc,rfl⟩:=h.ex;exact (Ktx S w hc (h.wf.fit hM) h.wf.nums hS hB hF).mono fun _ _ k=>.of k (h.wf.create _)
theorem Dk.append (h:Dk B0 M w R p d) (hM:M≤536870912) (hB:B0≤w.heap.size) (hF:Fails B0 a w) (S:ByteArray) (hS:S.size≤1073741824) (Ao:Option Addr) (t:Txt) (hl:Strs w Ao 1 [t]) (ht:t.length≤140737488351232) :
  Calls Tryz.prog 59 #[.pointer (some ⟨p,0,none⟩),.string S,.slice Ao 1 1] w (DkOut a B0 (M+t.length+1) R p (Kbk d S.data.toList t) w):=by
 obtain ⟨A,hc,rfl⟩:=h.ex;have e:[t].flatten=t:=by simp
 have hk:=Kse (a:=a) S Ao 1 1 [t] w hc (h.wf.fit hM) hS hB hF hl (by decide) (by decide) (by rw[e];omega) (h.wf.used hM) h.wf.capl (h.wf.nl hM) (h.wf.sl hM);rw[e] at hk;exact hk.mono fun _ _ k=>.of k.weak (h.wf.append _ _)
theorem Dk.sync (h:Dk B0 M w R p d) (hM:M≤536870912) (hB:B0≤w.heap.size) (hF:Fails B0 a w) (S:ByteArray) (hS:S.size≤1073741824) :
  Calls Tryz.prog 61 #[.pointer (some ⟨p,0,none⟩),.string S] w (DkOut a B0 (M+1) R p (syncD d S.data.toList) w):=by
 obtain ⟨A,hc,rfl⟩:=h.ex;exact (Qbu S w hc (h.wf.fit hM) hS hB hF).mono fun _ _ k=>.of k.weak (h.wf.sync _)
theorem Dk.syncNames (h:Dk B0 M w R p d) (hM:M≤536870912) (hB:B0≤w.heap.size) (hF:Fails B0 a w) :
  Calls Tryz.prog 64 #[.pointer (some ⟨p,0,none⟩)] w (DkOut a B0 (M+1) R p (Kax d) w):=by
 obtain ⟨A,hc,rfl⟩:=h.ex;exact (Kph w hc (h.wf.fit hM) hB hF).mono fun _ _ k=>.of k.weak h.wf.syncNames
theorem Dk.rename (h:Dk B0 M w R p d) (hM:M≤536870912) (hB:B0≤w.heap.size) (hF:Fails B0 a w) (S S2:ByteArray) (hS:S.size≤1073741824) (hS2:S2.size≤1073741824) :
  Calls Tryz.prog 63 #[.pointer (some ⟨p,0,none⟩),.string S,.string S2] w (DkOut a B0 (M+1) R p (Kak d S.data.toList S2.data.toList) w):=by
 obtain ⟨A,hc,rfl⟩:=h.ex;exact (Kvo S S2 w hc (h.wf.fit hM) hS hS2 hB hF).mono fun _ _ k=>.of k.weak (h.wf.rename _ _)
theorem Dk.remove (h:Dk B0 M w R p d) (hM:M≤536870912) (hB:B0≤w.heap.size) (hF:Fails B0 a w) (S:ByteArray) (hS:S.size≤1073741824) :
  Calls Tryz.prog 54 #[.pointer (some ⟨p,0,none⟩),.string S] w (DkOut a B0 (M+1) R p (Kaq d S.data.toList) w):=by
 obtain ⟨A,hc,rfl⟩:=h.ex;exact (Kvn S w hc (h.wf.fit hM) hS hB hF).mono fun _ _ k=>.of k.weak (h.wf.remove _)
def Qkh (a:Nat→Addr) (B0 M:Nat) (R:Nat→Nat) (p:Nat) (d:Ds) (P:Value→World→Prop) (k:Nat) (w:World) (e:Ending) (w':World):Prop:=
 ∃u v R',e = .returned (.tuple #[u,v])∧P u w'∧ErrW a w' R' k v∧Dk B0 M w' R' p d∧Out R R' w w'
theorem Dk.all (h:Dk B0 M w R p d) (hM:M≤536870912) (hB:B0≤w.heap.size) (hF:Fails B0 a w) (S:ByteArray) (hS:S.size≤1073741824) :
  Calls Tryz.prog 21 #[.pointer (some ⟨p,0,none⟩),.string S] w (Qkh a B0 M R p d (fun u _=>u=txtV (allD d S.data.toList).1) (allD d S.data.toList).2 w):=by
 obtain ⟨A,hc,rfl⟩:=h.ex;refine (Qab S w hc (h.wf.fit hM) hS hB hF).mono ?_;rintro e w2 ⟨v,rfl,hv,hb⟩;obtain ⟨R'',k1,k2,k3⟩:=DkOut.mk' hv (hc.below hb) (Out.of_below (R:=R) hb) h.wf;exact ⟨_,v,R'',rfl,rfl,k1,k2,k3⟩
theorem Dk.made (n:Int) (hn:n≤9223372036854775807) (hn':-9223372036854775808≤n) (w:World) (hB:B0≤w.heap.size) :
  Calls Tryz.prog 16 #[.int .i64 n] w fun x w1=>∃p R,x = .returned (.pointer (some ⟨p,0,none⟩))∧Dk B0 0 w1 R p (newD n)∧Below w.heap.size w w1∧∀k,k < w.heap.size→R k=0:=
 (Qed w.heap.size n w (Nat.le_refl _) hn hn').mono fun x w1 ⟨R,A,e,h1,h2,h3⟩=>⟨A.p,R,e,⟨⟨A,⟨h1.blk,h1.rp,h1.dirs,h1.files,h1.sdirs,h1.sfiles,h1.steps,h1.bytes,h1.inw,fun k hk=>h1.low k (by omega)⟩,rfl⟩,WF.new n⟩,h2,h1.low⟩
end
end
end Go.Proofs.YtefpndiiedkmpaaGreatDoor
