/- Merged (what the claim wants of): DskWalksU, DskWalksV, DskWalksW, DskInv, RdkWalksC, DskLaw, DskStep, DskTwo, DskRun, StoDisk, ErrIs. -/
import Derived.Test.YtefpndiiedkmpaaGreatDoorKpb13
import Derived.Test.YtefpndiiedkmpaaGreatDoorKpb12
import Derived.Test.YtefpndiiedkmpaaGreatDoorKpb03
import Derived.Laws.OwnMore
import Derived.Deep.AppendLies
import Derived.Deep.Onto
import Derived.Sort.Walk0
import Derived.Deep.RegionHeldLaw
import Derived.Laws.AppendOwnNone
import Derived.LaidEql
import Derived.Stop.Asserts
import Derived.RowKitTokens
import Derived.Test.YtefpndiiedkmpaaGreatDoorKpb02
import Derived.Test.YtefpndiiedkmpaaGreatDoorKpb05
set_option linter.unusedVariables false
set_option linter.unusedSimpArgs false
set_option maxRecDepth 100000
set_option maxHeartbeats 8000000
namespace Go.Proofs.YtefpndiiedkmpaaGreatDoor
section
open Go.RowKit Go.Shelf Go.Maps Go.Sort
open Lib renaming hid → Jh
attribute [local go_sem ↓] Go.wp_at_zero Go.wp_at_succ
attribute [local go_sem] Later.cell
section
variable {B0 : Nat} {a : Nat → Addr} {R : Nat → Nat} {A : Adr} {d : Ds} {w w' : World}
theorem Krs (l:List Txt):Lib.join l []=l.flatten:=by
 cases l with
 | nil=>rfl
 | cons x r=>rw[Lib.join_cons];simp[Lib.joinTail]
theorem Kyi (Ao:Option Addr) (n c:Nat) (l:List Txt) (w:World) (h:Strs w Ao n l) (hc:n≤c) (hn:n≤140737488355328) (hl:l.flatten.length≤140737488355328) :
  Calls Tryz.prog 116 #[.slice Ao n c,.string ⟨#[]⟩] w fun e w'=>e = .returned (.string ⟨l.flatten.toArray⟩)∧Below w.heap.size w w':=by
 have hln:=h.len
 by_cases h0:n=0
 ·subst h0;obtain rfl:l = []:=List.eq_nil_of_length_eq_zero hln;refine (Tryz.strings_Join_none Ao c ⟨#[]⟩ w).mono ?_;rintro _ w1 ⟨rfl,rfl⟩;exact ⟨rfl,Below.refl _ _⟩
 ·obtain ⟨b,off,rfl,hb,_⟩:=h.at_ (i:=0) (by omega);have hm:(l.map fun t=>(⟨t.toArray⟩:ByteArray)).map (·.data.toList)=l:=by simp[Function.comp_def]
  have hk:=Tryz.strings_Join b off c (l.map fun t=>(⟨t.toArray⟩:ByteArray)) ⟨#[]⟩ w (fun j x hj=>by
   rw[List.getElem?_map] at hj;obtain ⟨t,ht,rfl⟩:=Option.map_eq_some_iff.1 hj;have:=h.cells j (txtV t) (by rw[List.getElem?_map,ht];rfl);rw[Addr.add_lit] at this
   exact this) hb (by simpa[hln] using hn) (by simpa[hln] using hc) (by rw[hm];show (Lib.join l []).length≤_;rw[Krs];exact hl)
  rw[hm,List.length_map,hln] at hk;have e:Lib.join l (⟨#[]⟩:ByteArray).data.toList=l.flatten:=Krs l;rw[e] at hk;exact hk
theorem Kst (S:ByteArray) (Ao:Option Addr) (pn pc:Nat) (l:List Txt) (w:World) (h:CD B0 w R A d) (hf:Fit d) (hS:S.size≤1073741824) (hB:B0≤w.heap.size) (hF:Fails B0 a w) (hl:Strs w Ao pn l) (hpc:pn≤pc) (hpn:pn≤140737488355328) (htl:l.flatten.length≤140737488355328) (hu:usedL d d.things≤4611686018427387904) (hcap:d.cap≤4611686018427387904) (hnl:∀i,(fAt d i).now.length≤1073741824) (hsl:∀i,(fAt d i).steps.length≤1073741824) :
  Calls Tryz.prog 59 #[.pointer (some ⟨A.p,0,none⟩),.string S,.slice Ao pn pc] w (Kad B0 a R A (Kbx d S.data.toList l.flatten) ⟨#[97,112,112,101,110,100]⟩ S w):=by
 obtain ⟨i0,hi0,hz0,hz1,hz2⟩:=info_parts Kyh;have HF:=Jh (Kjj (a:=a) ⟨#[97,112,112,101,110,100]⟩ S w h hf hS hB hF);obtain ⟨r,hr⟩:∃r,fileD d S.data.toList=r:=⟨_,rfl⟩;have HR:=Jh hr;rw[hr] at HF;obtain ⟨p,hp⟩:∃p,A.p=p:=⟨_,rfl⟩;have HP:=Jh hp;have HNL:=Jh hnl;have HSL:=Jh hsl;have HJ:=Jh (fun w1 (hb:Below w.heap.size w w1)=>Kyi Ao pn pc l w1 (hl.below hb) hpc hpn htl);obtain ⟨X,hX⟩:∃X:ByteArray,(⟨l.flatten.toArray⟩:ByteArray)=X:=⟨_,rfl⟩;have hXX:l.flatten=X.data.toList:=by rw[←hX]
 have hXs:X.size≤140737488355328:=by rw[←Kbo,←hXX];exact htl
 rw[hX] at HJ;rw[hXX] at ⊢;rw[hp] at HF ⊢;clear hr hp hnl hsl hX hXX hl hpc hpn htl;go_enter Tryz.func59,Tryz.ntmps59
 go_wp2_with fail
 refine HF.out.mono ?_;rintro _ w1 ⟨hb1,hm⟩
 cases r with
 | error k=>
  obtain ⟨hk,v,rfl,hv⟩:=hm
  have hfin:Kad B0 a R A (Kbx d S.data.toList X.data.toList) ⟨#[97,112,112,101,110,100]⟩ S w (.returned v) w1:=by
   have e1:Kbx d S.data.toList X.data.toList=(k,d):=by unfold Kbx;rw[HR.out]
   rw[e1];exact Kad.bad h hb1 hv
  have HFIN:=Jh hfin
  cases k with
  | zero=>exact absurd rfl hk
  | succ k=>
   obtain ⟨q,rfl,_⟩:=hv;clear hfin;go_wp2_with fail
   go_ret
   exact HFIN.out
 | ok i=>
  have hm':_=Ending.returned (.tuple #[fptr A.φ i,.nilIface]):=hm;subst hm';obtain ⟨hi,_⟩:=Knn hf HR.out;unfold fptr;obtain ⟨b,hb⟩:∃b,A.φ[i]?.getD 0=b:=⟨_,rfl⟩;have HBB:=Jh hb;rw[hb];clear hb;go_wp2_with fail
  refine (HJ.out w1 hb1).mono ?_;rintro _ w2 ⟨rfl,hb2⟩;have hB2:=then_ hb1 hb2;have hcd2:=h.below hB2;have hF2:=hF.below (hB2.mono hB);have c5:w2.cell? ⟨p,5,none⟩=some (.int .i64 (d.cap:Int)):=by rw[←HP.out];exact Blk.cell hcd2.blk 5
  have HUS:=Jh (fun x:Later w2=>Qdg x.w (hcd2.below x.h) hf hu);rw[HP.out] at HUS;have hpl:p < w2.heap.size:=Kah c5;obtain ⟨n,hn⟩:∃n,usedD d=n:=⟨_,rfl⟩;obtain ⟨cap,hcp⟩:∃n,d.cap=n:=⟨_,rfl⟩
  have hun:n≤4611686018427387904:=by
   rw[←hn];unfold usedD;split
   ·omega
   ·exact hu
  rw[hn] at HUS;rw[hcp] at c5 hcap;have HN:=Jh hn;have HCP:=Jh hcp;have HCD2:=Jh hcd2;have HF2:=Jh hF2;clear hn hcp hcd2 hF2 hb2 hb1
  have happ:Kbx d S.data.toList X.data.toList=if cap < n+X.size then (7,d) else if (stepD d).1≠0 then stepD d else (0,setF (stepD d).2 i { fAt d i with now:=(fAt d i).now++X.data.toList,steps:=(fAt d i).steps ++ [⟨X.data.toList,false,0⟩] }):=by
   unfold Kbx;rw[HR.out];simp only[];rw[HCP.out,HN.out,Kbo]
  have HAPP:=Jh happ;clear happ;go_upto_region 5 with fail
  by_cases hfull:cap < n+X.size
  ·have d1:decide ((cap:Int) - (n:Int) < (X.size:Int))=true:=by simp;omega
   refine Kab (by kernel_rfl) (by kernel_rfl) ?_
   repeat (go_big_quiet_step ((go_at_call 117;exact Kbf _ (HUS.out _))))
   refine wpQuiet_nil ?_;rintro w3 ⟨⟨_,hb3⟩,rfl⟩;have e1:Kbx d S.data.toList X.data.toList=(7,d):=by rw[HAPP.out,if_pos hfull]
   have HE:=Jh e1;have hF3:=HF2.out.below (hb3.mono (by have:=hB2.size;omega));have f7:_=some (failV a 7):=(hF3 7 (by decide)).2;have hfl:=Kbr (a:=a) ⟨#[97,112,112,101,110,100]⟩ S 6 w3;unfold failV at f7 hfl;simp only[failG] at f7;have HFL:=Jh hfl;have HB3:=Jh (then_ hB2 hb3);clear e1 hfl hF3 hb3 c5 hpl;go_wp2_with fail
   refine HFL.out.mono ?_;rintro e w5 ⟨v,rfl,hv5,hb5⟩;have HFIN:=Jh (show Kad B0 a R A (Kbx d S.data.toList X.data.toList) ⟨#[97,112,112,101,110,100]⟩ S w (.returned v) w5 by rw[HE.out];exact Kad.bad h (then_ HB3.out hb5) hv5);clear hv5;go_wp2_with fail
   go_ret
   exact HFIN.out
  ·have d1:decide ((cap:Int) - (n:Int) < (X.size:Int))=false:=by simp;omega
   refine Kab (by kernel_rfl) (by kernel_rfl) ?_
   repeat (go_big_quiet_step ((go_at_call 117;exact Kbf _ (HUS.out _))))
   refine wpQuiet_nil ?_;rintro w3 ⟨⟨_,hb3⟩,rfl⟩;have hB3:=then_ hB2 hb3;have hcd3:=h.below hB3;have hF3:=hF.below (hB3.mono hB);have HST:=Jh (Khe (a:=a) ⟨#[97,112,112,101,110,100]⟩ S w3 hcd3 hf.aw (by have:=hB3.size;omega) hF3);rw[HP.out] at HST;have HSS:=Jh (Khd d);obtain ⟨k,dd,hk⟩:∃k d1,stepD d=(k,d1):=⟨_,_,rfl⟩;have HK:=Jh hk;have happ:=HAPP.out;rw[if_neg hfull] at happ;have HAP2:=Jh happ;clear hk hcd3 hF3 happ c5 hpl hb3 hfull d1;go_wp2_with fail
   refine HST.out.mono ?_;rintro _ w4 ⟨v,rfl,hv4,hcd4,hO4,_⟩;rw[HK.out] at hv4 hcd4
   cases k with
   | succ k=>
    have hfin:Kad B0 a R A (Kbx d S.data.toList X.data.toList) ⟨#[97,112,112,101,110,100]⟩ S w (.returned v) w4:=by
     rw[HAP2.out,HK.out];exact ⟨v,R,A,rfl,hv4,hcd4,(Own.of_below hB3).trans hO4,rfl,rfl⟩
    have HFIN:=Jh hfin;obtain ⟨q,rfl,_⟩:=hv4;clear hfin hcd4 hO4;go_wp2_with fail
    go_ret
    exact HFIN.out
   | zero=>
    obtain rfl:v = .nilIface:=hv4;have hss:=HSS.out;rw[HK.out] at hss;have hi1:i < dd.files.length:=by rw[hss.2.2.2];exact hi
    obtain ⟨u,hblk,hrb,hrow⟩:=Klu hcd4 hi1;have efa:fAt dd i=fAt d i:=by unfold fAt;rw[hss.2.2.2]
    rw[HBB.out] at hblk hrb;obtain ⟨T,hT⟩:∃T:ByteArray,(⟨(fAt d i).now.toArray⟩:ByteArray)=T:=⟨_,rfl⟩;have hTT:T.data.toList=(fAt d i).now:=by rw[←hT]
    have hTz:T.size≤1073741824:=by rw[←Kbo,hTT];exact HNL.out i
    have hTv:txtV (fAt dd i).now = .string T:=by rw[efa];unfold txtV;rw[hT]
    obtain ⟨l0,hl⟩:∃l,(fAt dd i).steps.length=l:=⟨_,rfl⟩;have hrow':=hrow.1;rw[hl] at hrow';have hll:l0≤1073741824:=by rw[←hl,efa];exact HSL.out i
    obtain ⟨A4,c4,hu4⟩:∃A4 c4,u = .slice A4 l0 c4:=by
     rcases hrow'.2 with ⟨rfl,h0⟩ | ⟨g,cap,cur,rfl,_⟩
     ·exact ⟨none,0,by rw[h0]⟩
     ·exact ⟨_,cap,rfl⟩
    subst hu4;have c0':w4.cell? ⟨b,0,none⟩=some (.string T):=by rw[←hTv];exact hblk.cell 0
    have c2':w4.cell? ⟨b,2,none⟩=some (.slice A4 l0 c4):=hblk.cell 2;have g0:=hblk.frozen 0;have hNv:txtV ((fAt d i).now++X.data.toList) = .string (T++X):=by unfold txtV;rw[←hTT];exact congrArg _ (Kdi (by simp)).symm
    have HNV:=Jh hNv;have HBLK:=Jh hblk;have HCD4:=Jh hcd4;have HO4:=Jh hO4;have HROW:=Jh hrow.2;have HL:=Jh hl;have HEF:=Jh efa;have hbl2:=hblk.lt;clear hcd4 hO4 hTv hNv hblk hss hl efa hrow hT hTT;go_upto_region 11 with fail
    have hrow2:(w4.setCell ⟨b,0,none⟩ (.string (T++X))).ownsRow 0 213 2 (.slice A4 l0 c4) l0 ((fAt dd i).steps.flatMap encC):=ownsRow_setCell_other hrow' (a:=⟨b,0,none⟩) (fun e=>by have:=HROW.out b e;omega) _;have c2'':(w4.setCell ⟨b,0,none⟩ (.string (T++X))).cell? ⟨b,2,none⟩=some (.slice A4 l0 c4):=(HBLK.out.set_ 0 _).cell 2;have hblk5:=HBLK.out.set_ 0 (.string (T++X));obtain ⟨w5,hw5⟩:∃x,w4.setCell ⟨b,0,none⟩ (.string (T++X))=x:=⟨_,rfl⟩;have HW5:=Jh hw5;rw[hw5] at hrow2 c2'' hblk5 ⊢;clear hw5 c0' c2' g0 hrow';go_wp2_with (at_builtin;refine wpList_append_own_at _ rfl _ _ 135 rfl 0 213 i0 (.agg #[.string ⟨#[]⟩,.int .i64 0]) 2 24 Tryz.underlying135 hi0 hz0 hz1 hz2 rfl (by decide) _ _ _ rfl (hrow2.alloc _) ⟨w5.heap.size,0,none⟩ 1 1 [.string X,.int .i64 (-1)] rfl rfl ?p1 ?p2 ?p3 ?p4 ?p5 ?_)
    case p1=>exact Kas (l:=[.string X,.int .i64 (-1)]) (Blk.new w5 _ _)
    case p2=>intro u hu;simp at hu;rcases hu with rfl | rfl <;> rfl
    case p3=>unfold maxLen;omega
    case p4=>omega
    case p5=>exact Nat.zero_le _
    intro v' w6 hown' hgrow _ hat;have hall:w5.grownBy w6 (Value.slice A4 l0 c4).ownBlock:=(World.grownBy_alloc w5 _ _).trans hgrow;have hsz5:w5.heap.size=w4.heap.size:=by rw[←HW5.out];simp[World.setCell]
    obtain ⟨A6,c6,rfl⟩:∃A6 c6,v' = .slice A6 (l0+1) c6:=by
     rcases hown'.2 with ⟨rfl,h0⟩ | ⟨g,cap,cur,rfl,_⟩
     ·omega
     ·exact ⟨_,cap,rfl⟩
    have hat':(Value.slice A6 (l0+1) c6).ownBlock=(Value.slice A4 l0 c4).ownBlock∨∃g,(Value.slice A6 (l0+1) c6).ownBlock=some g∧w4.heap.size≤g:=by
     rcases hat with h1 | h1
     ·exact .inl h1
     ·exact .inr ⟨_,h1,by omega⟩
    have hencX:encC ⟨X.data.toList,false,0⟩ = [.string X,.int .i64 (-1)]:=by
     have:txtV X.data.toList = .string X:=by unfold txtV;rw[←Kdi rfl]
     unfold encC;rw[this];rfl
    have hmore:=CD.file_step HCD4.out hi1 HBB.out (u:=.slice A4 l0 c4) (v':=.slice A6 (l0+1) c6) (N:=(fAt d i).now++X.data.toList) (c:=⟨X.data.toList,false,0⟩) (w3:=w6) HBLK.out hrb HROW.out (by rw[HNV.out,HW5.out];exact hall) (by rw[HL.out,hencX];exact hown') hat' (by have:=hB3.size;have:=HO4.out.size;omega);obtain ⟨hc7,ho7⟩:=hmore
    have hbu:some b≠(Value.slice A4 l0 c4).ownBlock:=by
     intro e;have:=HROW.out b e.symm;omega
    have hblk6:=hblk5.grown hall hbu;have k2:w6.cell? ⟨b,2,none⟩=some (.slice A4 l0 c4):=hblk6.cell 2;have g2:=hblk6.frozen 2
    have hfin:Kad B0 a R A (Kbx d S.data.toList X.data.toList) ⟨#[97,112,112,101,110,100]⟩ S w (.returned .nilIface) (w6.setCell ⟨b,2,none⟩ (.slice A6 (l0+1) c6)):=by
     rw[HAP2.out,HK.out];rw[HEF.out] at hc7;exact ⟨.nilIface,_,A,rfl,rfl,hc7,((Own.of_below hB3).trans HO4.out).trans ho7,rfl,rfl⟩
    have HFIN:=Jh hfin;clear hfin hc7 ho7 hat hat' hall hgrow hown' hblk6 hblk5 hrow2 c2'' hsz5;go_wp2_with fail
    go_ret
    exact HFIN.out
end
section
variable {B0 : Nat} {a : Nat → Addr} {R : Nat → Nat} {A : Adr} {d : Ds} {w w' : World}
structure RS (w:World) (q:Nat) (S S2:ByteArray) (W:World):Prop where
 below:Below w.heap.size w W
 one:Blk W q 9 #[.string S]
 two:Blk W (q+1) 9 #[.string S2]
theorem RS.later {q:Nat} {S S2:ByteArray} {W W':World} (h:RS w q S S2 W) (hb:Below W.heap.size W W'):RS w q S S2 W':=⟨then_ h.below hb,h.one.below hb h.one.lt,h.two.below hb h.two.lt⟩
theorem Kwe (S S2:ByteArray) (w:World) (h:CD B0 w R A d) (hf:Fit d) (hS:S.size≤1073741824) (hS2:S2.size≤1073741824) (hB:B0≤w.heap.size) (hF:Fails B0 a w) :
  Calls Tryz.prog 63 #[.pointer (some ⟨A.p,0,none⟩),.string S,.string S2] w (Kad B0 a R A (Kal d S.data.toList S2.data.toList) ⟨#[114,101,110,97,109,101]⟩ S w):=by
 obtain ⟨r1,hr1⟩:∃r,pathB S.data.toList=r:=⟨_,rfl⟩;obtain ⟨r2,hr2⟩:∃r,pathB S2.data.toList=r:=⟨_,rfl⟩;have HN1:=Jh (fun w=>Kfn S r1 hr1 hS w);have HN2:=Jh (fun w=>Kfn S2 r2 hr2 hS2 w);have HR1:=Jh hr1;have HR2:=Jh hr2;obtain ⟨p,hp⟩:∃p,A.p=p:=⟨_,rfl⟩;have HP:=Jh hp;rw[hp];clear hr1 hr2 hp;go_enter Tryz.func63,Tryz.ntmps63
 go_upto_region 1 with fail
 obtain ⟨W,hw1⟩:∃x,(w.alloc (.cells #[.string S] 9)).alloc (.cells #[.string S2] 9)=x:=⟨_,rfl⟩;have hb1:Below w.heap.size w W:=by rw[←hw1];exact ((Below.refl _ _).alloc (Nat.le_refl _) _).alloc (by simp) _
 have hk1:Blk W w.heap.size 9 #[.string S]:=by rw[←hw1];exact (Blk.new _ _ _).alloc _
 have hk2:Blk W (w.heap.size+1) 9 #[.string S2]:=by rw[←hw1];exact Blk.newAt (by simp)
 rw[hw1];obtain ⟨q,hqq⟩:∃q,w.heap.size=q:=⟨_,rfl⟩;rw[hqq] at hk1 hk2 ⊢;have HQ:=Jh hqq;have HRS:=Jh (show RS w q S S2 W from ⟨hb1,hk1,hk2⟩);clear hw1 hqq hb1 hk1 hk2
 cases r1 with
 | false=>
  have hrs:=HRS.out;have hcd:=h.below hrs.below;have hF3:=hF.below (hrs.below.mono hB);have c0:W.cell? ⟨p,0,none⟩=some (.map (some A.md)):=by rw[←HP.out];exact Blk.cell hcd.blk 0
  have c1:W.cell? ⟨p,1,none⟩=some (.map (some A.mf)):=by rw[←HP.out];exact Blk.cell hcd.blk 1
  have q0:W.cell? ⟨q,0,none⟩=some (.string S):=hrs.one.cell 0;have q1:W.cell? ⟨q+1,0,none⟩=some (.string S2):=hrs.two.cell 0;have hql:=hrs.one.lt;have hql2:=hrs.two.lt;have hpl:p < W.heap.size:=Kah c0;refine Kaf 8 (by kernel_rfl) (by kernel_rfl) ?_;simp only[List.take_succ_cons,List.take_zero,List.drop_succ_cons,List.drop_zero]
  repeat (go_big_quiet_step ((go_at_call 109;exact Kbf _ (HN1.out _))))
  refine wpQuiet_nil ?_;rintro W ⟨⟨_,hb2⟩,rfl⟩;have hrs2:=HRS.out.later hb2;clear hrs hcd hF3 c0 c1 q0 q1 hql hql2 hpl hb2 HRS;have HRS:=Jh hrs2;clear hrs2;have hrs:=HRS.out;have hcd:=h.below hrs.below;have hoff:W.cell? ⟨p,6,none⟩=some (.bool d.off):=by rw[←HP.out];exact Blk.cell hcd.blk 6
  obtain ⟨k,hk⟩:∃k,Kcf d.off false=k:=⟨_,rfl⟩;have HK:=Jh hk;have HRD:=Jh (Kek (B0:=B0) (a:=a) p d.off false ⟨#[114,101,110,97,109,101]⟩ S k hk W hoff (hF.below (hrs.below.mono hB)));clear hk hcd hoff;go_wp2_with fail
  refine HRD.out.mono ?_;rintro _ W4 ⟨v,rfl,hv3,hb4⟩
  cases k with
  | succ k=>
   have hfin:Kad B0 a R A (Kal d S.data.toList S2.data.toList) ⟨#[114,101,110,97,109,101]⟩ S w (.returned v) W4:=by
    have e1:Kal d S.data.toList S2.data.toList=(k+1,d):=by
     have hk:=HK.out;unfold Kcf at hk;unfold Kal;rw[←hk,HR1.out,HR2.out]
     cases ho:d.off with
     | true=>simp
     | false=>
      rw[ho] at hk
      first
       | (simp;done)
       | (cases r2 with
         | true=>simp at hk
         | false=>simp)
    rw[e1];exact Kad.bad h (then_ hrs.below hb4) hv3
   obtain ⟨q4,rfl,_⟩:=hv3;have HFIN:=Jh hfin;clear hfin hb4 hrs;go_wp2_with fail
   go_ret
   exact HFIN.out
  | zero=>
   have hk:=HK.out;unfold Kcf at hk;cases ho:d.off <;> rw[ho] at hk <;> simp at hk
 | true=>
  have hrs:=HRS.out;have hcd:=h.below hrs.below;have hF3:=hF.below (hrs.below.mono hB);have c0:W.cell? ⟨p,0,none⟩=some (.map (some A.md)):=by rw[←HP.out];exact Blk.cell hcd.blk 0
  have c1:W.cell? ⟨p,1,none⟩=some (.map (some A.mf)):=by rw[←HP.out];exact Blk.cell hcd.blk 1
  have q0:W.cell? ⟨q,0,none⟩=some (.string S):=hrs.one.cell 0;have q1:W.cell? ⟨q+1,0,none⟩=some (.string S2):=hrs.two.cell 0;have hql:=hrs.one.lt;have hql2:=hrs.two.lt;have hpl:p < W.heap.size:=Kah c0;refine Kaf 8 (by kernel_rfl) (by kernel_rfl) ?_;simp only[List.take_succ_cons,List.take_zero,List.drop_succ_cons,List.drop_zero]
  repeat (go_big_quiet_step ((go_at_call 109;first | with_reducible exact Kbf _ (HN1.out _) | with_reducible exact Kbf _ (HN2.out _))))
  refine wpQuiet_nil ?_;rintro W ⟨⟨_,hb2⟩,rfl⟩;have hrs2:=HRS.out.later hb2;clear hrs hcd hF3 c0 c1 q0 q1 hql hql2 hpl hb2 HRS;have HRS:=Jh hrs2;clear hrs2;have hrs:=HRS.out;have hcd:=h.below hrs.below;have hoff:W.cell? ⟨p,6,none⟩=some (.bool d.off):=by rw[←HP.out];exact Blk.cell hcd.blk 6
  obtain ⟨k,hk⟩:∃k,Kcf d.off r2=k:=⟨_,rfl⟩;have HK:=Jh hk;have HRD:=Jh (Kek (B0:=B0) (a:=a) p d.off r2 ⟨#[114,101,110,97,109,101]⟩ S k hk W hoff (hF.below (hrs.below.mono hB)));clear hk hcd hoff;go_wp2_with fail
  refine HRD.out.mono ?_;rintro _ W4 ⟨v,rfl,hv3,hb4⟩
  cases k with
  | succ k=>
   have hfin:Kad B0 a R A (Kal d S.data.toList S2.data.toList) ⟨#[114,101,110,97,109,101]⟩ S w (.returned v) W4:=by
    have e1:Kal d S.data.toList S2.data.toList=(k+1,d):=by
     have hk:=HK.out;unfold Kcf at hk;unfold Kal;rw[←hk,HR1.out,HR2.out]
     cases ho:d.off with
     | true=>simp
     | false=>
      rw[ho] at hk
      first
       | (simp;done)
       | (cases r2 with
         | true=>simp at hk
         | false=>simp)
    rw[e1];exact Kad.bad h (then_ hrs.below hb4) hv3
   obtain ⟨q4,rfl,_⟩:=hv3;have HFIN:=Jh hfin;clear hfin hb4 hrs;go_wp2_with fail
   go_ret
   exact HFIN.out
  | zero=>
   obtain rfl:v = .nilIface:=hv3
   obtain ⟨ho,hn⟩:d.off=false∧r2=true:=by
    have hk:=HK.out;unfold Kcf at hk
    cases ho:d.off with
    | true=>rw[ho] at hk;simp at hk
    | false=>
     rw[ho] at hk
     cases r2 with
     | true=>exact ⟨rfl,rfl⟩
     | false=>simp at hk
   have e1:Kal d S.data.toList S2.data.toList=if isT d.things S.data.toList=2∧nameB S2.data.toList=false then (2,d) else if isT d.things S.data.toList=0∨Kcx d.things S2.data.toList=false then (4,d) else if isT d.things S2.data.toList=2∨(isT d.things S2.data.toList=1∧(isT d.things S.data.toList=2∨S.data.toList=S2.data.toList)) then (5,d) else Kaz d (.rename S.data.toList S2.data.toList):=by
    unfold Kal;rw[ho,HR1.out,HR2.out,hn];simp
   have HE1:=Jh e1;obtain rfl:r2=true:=hn;have hrs4:=hrs.later hb4;clear ho e1 HK hrs hb4 HRS HRD;have HRS:=Jh hrs4;clear hrs4 W
   revert W4
   intro W HRS;obtain ⟨rp,hrp⟩:∃r,Kcx d.things S2.data.toList=r:=⟨_,rfl⟩;have HRP:=Jh hrp;rcases Kdy d.things S.data.toList with ka | ka | ka
   ·have hrs:=HRS.out;have hcd:=h.below hrs.below;have hF3:=hF.below (hrs.below.mono hB);have c0:W.cell? ⟨p,0,none⟩=some (.map (some A.md)):=by rw[←HP.out];exact Blk.cell hcd.blk 0
    have c1:W.cell? ⟨p,1,none⟩=some (.map (some A.mf)):=by rw[←HP.out];exact Blk.cell hcd.blk 1
    have q0:W.cell? ⟨q,0,none⟩=some (.string S):=hrs.one.cell 0;have q1:W.cell? ⟨q+1,0,none⟩=some (.string S2):=hrs.two.cell 0;have hql:=hrs.one.lt;have hql2:=hrs.two.lt;have hpl:p < W.heap.size:=Kah c0;have hlk:=Kcb hcd hf S hS 0 (by rw[ka];rfl);go_upto_region 4 with fail
    refine Kab (by kernel_rfl) (by kernel_rfl) ?_
    repeat (go_big_quiet_step (fail))
    clear hlk;refine wpQuiet_nil ?_;rintro W ⟨⟨_,hb2⟩,rfl⟩;have hrs2:=HRS.out.later hb2;clear hrs hcd hF3 c0 c1 q0 q1 hql hql2 hpl hb2 HRS;have HRS:=Jh hrs2;clear hrs2;have hrs:=HRS.out;have hcd:=h.below hrs.below;have hF3:=hF.below (hrs.below.mono hB);have c0:W.cell? ⟨p,0,none⟩=some (.map (some A.md)):=by rw[←HP.out];exact Blk.cell hcd.blk 0
    have c1:W.cell? ⟨p,1,none⟩=some (.map (some A.mf)):=by rw[←HP.out];exact Blk.cell hcd.blk 1
    have q0:W.cell? ⟨q,0,none⟩=some (.string S):=hrs.one.cell 0;have q1:W.cell? ⟨q+1,0,none⟩=some (.string S2):=hrs.two.cell 0;have hql:=hrs.one.lt;have hql2:=hrs.two.lt;have hpl:p < W.heap.size:=Kah c0;obtain ⟨P,hP,hlf⟩:=Kea hcd hf S hS;obtain rfl:P=none:=hP.2 (by rw[ka];omega);go_upto_region 7 with fail
    refine Kab (by kernel_rfl) (by kernel_rfl) ?_
    repeat (go_big_quiet_step (fail))
    clear hlf hP;refine wpQuiet_nil ?_;rintro W ⟨⟨_,hb2⟩,rfl⟩;have hrs2:=HRS.out.later hb2;clear hrs hcd hF3 c0 c1 q0 q1 hql hql2 hpl hb2 HRS;have HRS:=Jh hrs2;clear hrs2;have hrs:=HRS.out;have hF3:=hF.below (hrs.below.mono hB);have f0:_=some (failV a 4):=(hF3 4 (by decide)).2;have hfl:=Kbr (a:=a) ⟨#[114,101,110,97,109,101]⟩ S 3 W;unfold failV at f0 hfl;simp only[failG] at f0;have HFL:=Jh hfl;have e2:Kal d S.data.toList S2.data.toList=(4,d):=by (rw[HE1.out];(rw[if_neg (by rw[ka];simp),if_pos (.inl ka)]))
    have HE2:=Jh e2;have q0:W.cell? ⟨q,0,none⟩=some (.string S):=hrs.one.cell 0;clear hfl hF3 e2 hrs;go_wp2_with fail
    refine HFL.out.mono ?_;rintro e w5 ⟨v,rfl,hv5,hb5⟩
    have hfin:Kad B0 a R A (Kal d S.data.toList S2.data.toList) ⟨#[114,101,110,97,109,101]⟩ S w (.returned v) w5:=by
     rw[HE2.out];exact Kad.bad h (then_ HRS.out.below hb5) hv5
    have HFIN:=Jh hfin;clear hfin hv5;go_wp2_with fail
    go_ret
    exact HFIN.out
   ·have hrs:=HRS.out;have hcd:=h.below hrs.below;have hF3:=hF.below (hrs.below.mono hB);have c0:W.cell? ⟨p,0,none⟩=some (.map (some A.md)):=by rw[←HP.out];exact Blk.cell hcd.blk 0
    have c1:W.cell? ⟨p,1,none⟩=some (.map (some A.mf)):=by rw[←HP.out];exact Blk.cell hcd.blk 1
    have q0:W.cell? ⟨q,0,none⟩=some (.string S):=hrs.one.cell 0;have q1:W.cell? ⟨q+1,0,none⟩=some (.string S2):=hrs.two.cell 0;have hql:=hrs.one.lt;have hql2:=hrs.two.lt;have hpl:p < W.heap.size:=Kah c0;have hlk:=Kcb hcd hf S hS 0 (by rw[ka];rfl);go_upto_region 4 with fail
    refine Kab (by kernel_rfl) (by kernel_rfl) ?_
    repeat (go_big_quiet_step (fail))
    clear hlk;refine wpQuiet_nil ?_;rintro W ⟨⟨_,hb2⟩,rfl⟩;have hrs2:=HRS.out.later hb2;clear hrs hcd hF3 c0 c1 q0 q1 hql hql2 hpl hb2 HRS;have HRS:=Jh hrs2;clear hrs2;have hrs:=HRS.out;have hcd:=h.below hrs.below;have hF3:=hF.below (hrs.below.mono hB);have c0:W.cell? ⟨p,0,none⟩=some (.map (some A.md)):=by rw[←HP.out];exact Blk.cell hcd.blk 0
    have c1:W.cell? ⟨p,1,none⟩=some (.map (some A.mf)):=by rw[←HP.out];exact Blk.cell hcd.blk 1
    have q0:W.cell? ⟨q,0,none⟩=some (.string S):=hrs.one.cell 0;have q1:W.cell? ⟨q+1,0,none⟩=some (.string S2):=hrs.two.cell 0;have hql:=hrs.one.lt;have hql2:=hrs.two.lt;have hpl:p < W.heap.size:=Kah c0;obtain ⟨P,hP,hlf⟩:=Kea hcd hf S hS
    obtain ⟨P',rfl⟩:∃P',P=some P':=by
     cases P with
     | none=>exact absurd ka (hP.1 rfl)
     | some P'=>exact ⟨P',rfl⟩
    go_upto_region 7 with fail
    refine Kab (by kernel_rfl) (by kernel_rfl) ?_
    repeat (go_big_quiet_step (fail))
    clear hlf hP;refine wpQuiet_nil ?_;rintro W ⟨⟨_,hb2⟩,rfl⟩;have hrs2:=HRS.out.later hb2;clear hrs hcd hF3 c0 c1 q0 q1 hql hql2 hpl hb2 HRS;have HRS:=Jh hrs2;clear hrs2;have hrs:=HRS.out;have hcd:=h.below hrs.below;have hF3:=hF.below (hrs.below.mono hB);have c0:W.cell? ⟨p,0,none⟩=some (.map (some A.md)):=by rw[←HP.out];exact Blk.cell hcd.blk 0
    have c1:W.cell? ⟨p,1,none⟩=some (.map (some A.mf)):=by rw[←HP.out];exact Blk.cell hcd.blk 1
    have q0:W.cell? ⟨q,0,none⟩=some (.string S):=hrs.one.cell 0;have q1:W.cell? ⟨q+1,0,none⟩=some (.string S2):=hrs.two.cell 0;have hql:=hrs.one.lt;have hql2:=hrs.two.lt;have hpl:p < W.heap.size:=Kah c0;have HPAR:=Jh (fun x:Later W=>Kgu A.md A.mf S2 rp hrp x.w (hcd.dirs.1.below x.h hcd.dirs.1.lt) hf.tw hS2);go_upto_region 8 with fail
    refine Kab (by kernel_rfl) (by kernel_rfl) ?_
    repeat (go_big_quiet_step ((go_at_call 114;exact Kbf _ (HPAR.out _))))
    clear HPAR;refine wpQuiet_nil ?_;rintro W ⟨⟨_,hb2⟩,rfl⟩;have hrs2:=HRS.out.later hb2;clear hrs hcd hF3 c0 c1 q0 q1 hql hql2 hpl hb2 HRS;have HRS:=Jh hrs2;clear hrs2
    cases rp with
    | false=>
     have hrs:=HRS.out;have hF3:=hF.below (hrs.below.mono hB);have f0:_=some (failV a 4):=(hF3 4 (by decide)).2;have hfl:=Kbr (a:=a) ⟨#[114,101,110,97,109,101]⟩ S 3 W;unfold failV at f0 hfl;simp only[failG] at f0;have HFL:=Jh hfl;have e2:Kal d S.data.toList S2.data.toList=(4,d):=by (rw[HE1.out];(rw[if_neg (by rw[ka];simp),if_pos (.inr HRP.out)]))
     have HE2:=Jh e2;have q0:W.cell? ⟨q,0,none⟩=some (.string S):=hrs.one.cell 0;clear hfl hF3 e2 hrs;go_wp2_with fail
     refine HFL.out.mono ?_;rintro e w5 ⟨v,rfl,hv5,hb5⟩
     have hfin:Kad B0 a R A (Kal d S.data.toList S2.data.toList) ⟨#[114,101,110,97,109,101]⟩ S w (.returned v) w5:=by
      rw[HE2.out];exact Kad.bad h (then_ HRS.out.below hb5) hv5
     have HFIN:=Jh hfin;clear hfin hv5;go_wp2_with fail
     go_ret
     exact HFIN.out
    | true=>
     rcases Kdy d.things S2.data.toList with kb | kb | kb
     ·have hrs:=HRS.out;have hcd:=h.below hrs.below;have hF3:=hF.below (hrs.below.mono hB);have c0:W.cell? ⟨p,0,none⟩=some (.map (some A.md)):=by rw[←HP.out];exact Blk.cell hcd.blk 0
      have c1:W.cell? ⟨p,1,none⟩=some (.map (some A.mf)):=by rw[←HP.out];exact Blk.cell hcd.blk 1
      have q0:W.cell? ⟨q,0,none⟩=some (.string S):=hrs.one.cell 0;have q1:W.cell? ⟨q+1,0,none⟩=some (.string S2):=hrs.two.cell 0;have hql:=hrs.one.lt;have hql2:=hrs.two.lt;have hpl:p < W.heap.size:=Kah c0;have hlk:=Kcb hcd hf S2 hS2 0 (by rw[kb];rfl);go_upto_region 10 with fail
      refine Kab (by kernel_rfl) (by kernel_rfl) ?_
      repeat (go_big_quiet_step (fail))
      clear hlk;refine wpQuiet_nil ?_;rintro W ⟨⟨_,hb2⟩,rfl⟩;have hrs2:=HRS.out.later hb2;clear hrs hcd hF3 c0 c1 q0 q1 hql hql2 hpl hb2 HRS;have HRS:=Jh hrs2;clear hrs2;have hrs:=HRS.out;have hcd:=h.below hrs.below;have hF3:=hF.below (hrs.below.mono hB);have c0:W.cell? ⟨p,0,none⟩=some (.map (some A.md)):=by rw[←HP.out];exact Blk.cell hcd.blk 0
      have c1:W.cell? ⟨p,1,none⟩=some (.map (some A.mf)):=by rw[←HP.out];exact Blk.cell hcd.blk 1
      have q0:W.cell? ⟨q,0,none⟩=some (.string S):=hrs.one.cell 0;have q1:W.cell? ⟨q+1,0,none⟩=some (.string S2):=hrs.two.cell 0;have hql:=hrs.one.lt;have hql2:=hrs.two.lt;have hpl:p < W.heap.size:=Kah c0;obtain ⟨P,hP,hlf⟩:=Kea hcd hf S2 hS2;obtain rfl:P=none:=hP.2 (by rw[kb];omega);go_upto_region 11 with fail
      refine Kab (by kernel_rfl) (by kernel_rfl) ?_
      repeat (go_big_quiet_step (fail))
      clear hlf hP;refine wpQuiet_nil ?_;rintro W ⟨⟨_,hb2⟩,rfl⟩;have hrs2:=HRS.out.later hb2;clear hrs hcd hF3 c0 c1 q0 q1 hql hql2 hpl hb2 HRS;have HRS:=Jh hrs2;clear hrs2;have HE5:=Jh (show Kal d S.data.toList S2.data.toList=Kaz d (.rename S.data.toList S2.data.toList) by rw[HE1.out,if_neg (by rw[ka];simp),if_neg (by rw[ka,HRP.out];simp),if_neg (by rw[kb];simp)]);have hrs:=HRS.out;have hF3:=hF.below (hrs.below.mono hB);have hcd:=h.below hrs.below;have hqW:=HQ.out;have hRq:R q=0:=h.inw.new (by omega);have hRq1:R (q+1)=0:=h.inw.new (by omega);have hcd7:CD B0 W (giv R q 5) A d:=hcd.grant hrs.one.lt hRq (by omega) 5;have hcd8:CD B0 W (giv (giv R q 5) (q+1) 5) A d:=hcd7.grant hrs.two.lt (by rw[Kba (by omega)];exact hRq1) (by omega) 5
      have hST:StepM W (giv (giv R q 5) (q+1) 5) A.φ (.rename S.data.toList S2.data.toList) (.func (.func 119) #[] #[.pointer (some ⟨q,0,none⟩),.pointer (some ⟨q+1,0,none⟩)]):=by
       have e:txtV S.data.toList = .string S:=by unfold txtV;rw[←Kdi rfl]
       have e2:txtV S2.data.toList = .string S2:=by unfold txtV;rw[←Kdi rfl]
       refine ⟨q,q+1,rfl,?_,?_⟩
       ·rw[Box,e];exact ⟨hrs.one,by rw[Kba (by omega)];exact Kcq _ _ _⟩
       ·rw[Box,e2];exact ⟨hrs.two,Kcq _ _ _⟩
      have hok:StOk d.files.length d.things (.rename S.data.toList S2.data.toList):=by (exact ⟨HR1.out,HR2.out,by rw[ka];omega,HRP.out,by rw[kb];omega,fun e=>(by rw[ka] at e;cases e),fun e=>by rw[e] at ka;rw[ka] at kb;cases kb⟩)
      have hnm:=Kej (a:=a) ⟨#[114,101,110,97,109,101]⟩ S (.rename S.data.toList S2.data.toList) _ _ W hcd8 hST hf.tw hok (by have:=hf.tl;omega) (by have:=hf.sl;omega) hf.aw (by have:=hrs.below.size;omega) hF3;rw[HP.out] at hnm
      have hOw:Own R (giv (giv R q 5) (q+1) 5) w W:=by
       have o1:Own R R w W:=Own.of_below hrs.below;exact ⟨o1.os,o1.tape,o1.output,o1.size,o1.block,fun k hk=>by rw[Kba (by omega),Kba (by omega)]⟩
      have HOW:=Jh hOw;have HNM2:=Jh hnm;have q0:W.cell? ⟨q,0,none⟩=some (.string S):=hrs.one.cell 0;clear hnm hST hcd hcd7 hcd8 hF3 hOw hok hrs hqW;go_wp2_with fail
      refine HNM2.out.mono ?_;rintro e w7 hN;obtain ⟨v,R',A',rfl,k2,k3,k4,k5,k6⟩:=hN
      have hfin:Kad B0 a R A (Kal d S.data.toList S2.data.toList) ⟨#[114,101,110,97,109,101]⟩ S w (.returned v) w7:=by
       rw[HE5.out];exact ⟨v,R',A',rfl,k2,k3,HOW.out.trans k4,k5,k6⟩
      have HFIN:=Jh hfin;clear hfin k2 k3 k4 k5;go_wp2_with fail
      go_ret
      exact HFIN.out
     ·have hrs:=HRS.out;have hcd:=h.below hrs.below;have hF3:=hF.below (hrs.below.mono hB);have c0:W.cell? ⟨p,0,none⟩=some (.map (some A.md)):=by rw[←HP.out];exact Blk.cell hcd.blk 0
      have c1:W.cell? ⟨p,1,none⟩=some (.map (some A.mf)):=by rw[←HP.out];exact Blk.cell hcd.blk 1
      have q0:W.cell? ⟨q,0,none⟩=some (.string S):=hrs.one.cell 0;have q1:W.cell? ⟨q+1,0,none⟩=some (.string S2):=hrs.two.cell 0;have hql:=hrs.one.lt;have hql2:=hrs.two.lt;have hpl:p < W.heap.size:=Kah c0;have hlk:=Kcb hcd hf S2 hS2 0 (by rw[kb];rfl);go_upto_region 10 with fail
      refine Kab (by kernel_rfl) (by kernel_rfl) ?_
      repeat (go_big_quiet_step (fail))
      clear hlk;refine wpQuiet_nil ?_;rintro W ⟨⟨_,hb2⟩,rfl⟩;have hrs2:=HRS.out.later hb2;clear hrs hcd hF3 c0 c1 q0 q1 hql hql2 hpl hb2 HRS;have HRS:=Jh hrs2;clear hrs2
      by_cases hSS:S=S2
      ·have hs2:decide (S=S2)=true:=by simpa using hSS
       have hs3:(S.toList == S2.toList)=true:=by rw[hSS];simp
       have hs4:(S == S2)=true:=by rw[hSS,beq_toListBytes];simp
       have hs5:decide (S.toList=S2.toList)=true:=by rw[hSS];simp
       have HSS:=Jh hSS;clear hSS;have hrs:=HRS.out;have hcd:=h.below hrs.below;have hF3:=hF.below (hrs.below.mono hB);have c0:W.cell? ⟨p,0,none⟩=some (.map (some A.md)):=by rw[←HP.out];exact Blk.cell hcd.blk 0
       have c1:W.cell? ⟨p,1,none⟩=some (.map (some A.mf)):=by rw[←HP.out];exact Blk.cell hcd.blk 1
       have q0:W.cell? ⟨q,0,none⟩=some (.string S):=hrs.one.cell 0;have q1:W.cell? ⟨q+1,0,none⟩=some (.string S2):=hrs.two.cell 0;have hql:=hrs.one.lt;have hql2:=hrs.two.lt;have hpl:p < W.heap.size:=Kah c0;obtain ⟨P,hP,hlf⟩:=Kea hcd hf S2 hS2
       obtain ⟨P',rfl⟩:∃P',P=some P':=by
        cases P with
        | none=>exact absurd kb (hP.1 rfl)
        | some P'=>exact ⟨P',rfl⟩
       go_upto_region 11 with fail
       refine Kab (by kernel_rfl) (by kernel_rfl) ?_
       repeat (go_big_quiet_step (fail))
       clear hlf hP;refine wpQuiet_nil ?_;rintro W ⟨⟨_,hb2⟩,rfl⟩;have hrs2:=HRS.out.later hb2;clear hrs hcd hF3 c0 c1 q0 q1 hql hql2 hpl hb2 HRS;have HRS:=Jh hrs2;clear hrs2;have hrs:=HRS.out;have hF3:=hF.below (hrs.below.mono hB);have f0:_=some (failV a 5):=(hF3 5 (by decide)).2;have hfl:=Kbr (a:=a) ⟨#[114,101,110,97,109,101]⟩ S 4 W;unfold failV at f0 hfl;simp only[failG] at f0;have HFL:=Jh hfl;have e2:Kal d S.data.toList S2.data.toList=(5,d):=by (rw[HE1.out];(rw[if_neg (by rw[ka];simp),if_neg (by rw[ka,HRP.out];simp),if_pos (.inr ⟨kb,.inr (by rw[HSS.out])⟩)]))
       have HE2:=Jh e2;have q0:W.cell? ⟨q,0,none⟩=some (.string S):=hrs.one.cell 0;clear hfl hF3 e2 hrs;go_wp2_with fail
       refine HFL.out.mono ?_;rintro e w5 ⟨v,rfl,hv5,hb5⟩
       have hfin:Kad B0 a R A (Kal d S.data.toList S2.data.toList) ⟨#[114,101,110,97,109,101]⟩ S w (.returned v) w5:=by
        rw[HE2.out];exact Kad.bad h (then_ HRS.out.below hb5) hv5
       have HFIN:=Jh hfin;clear hfin hv5;go_wp2_with fail
       go_ret
       exact HFIN.out
      ·have hs2:decide (S=S2)=false:=by simpa using hSS
       have hl2:S.toList≠S2.toList:=fun e=>hSS (by
        rw[ByteArray.toList_eq,ByteArray.toList_eq] at e
        exact Kdx e)
       have hs3:(S.toList == S2.toList)=false:=by simpa using hl2
       have hs4:(S == S2)=false:=by rw[beq_toListBytes];exact hs3
       have hs5:decide (S.toList=S2.toList)=false:=by simpa using hl2
       clear hl2;have hrs:=HRS.out;have hcd:=h.below hrs.below;have hF3:=hF.below (hrs.below.mono hB);have c0:W.cell? ⟨p,0,none⟩=some (.map (some A.md)):=by rw[←HP.out];exact Blk.cell hcd.blk 0
       have c1:W.cell? ⟨p,1,none⟩=some (.map (some A.mf)):=by rw[←HP.out];exact Blk.cell hcd.blk 1
       have q0:W.cell? ⟨q,0,none⟩=some (.string S):=hrs.one.cell 0;have q1:W.cell? ⟨q+1,0,none⟩=some (.string S2):=hrs.two.cell 0;have hql:=hrs.one.lt;have hql2:=hrs.two.lt;have hpl:p < W.heap.size:=Kah c0;obtain ⟨P,hP,hlf⟩:=Kea hcd hf S2 hS2
       obtain ⟨P',rfl⟩:∃P',P=some P':=by
        cases P with
        | none=>exact absurd kb (hP.1 rfl)
        | some P'=>exact ⟨P',rfl⟩
       go_upto_region 11 with fail
       refine Kab (by kernel_rfl) (by kernel_rfl) ?_
       repeat (go_big_quiet_step (fail))
       clear hlf hP;refine wpQuiet_nil ?_;rintro W ⟨⟨_,hb2⟩,rfl⟩;have hrs2:=HRS.out.later hb2;clear hrs hcd hF3 c0 c1 q0 q1 hql hql2 hpl hb2 HRS;have HRS:=Jh hrs2;clear hrs2;have hne:S.data.toList≠S2.data.toList:=fun e=>hSS (Kdx e)
       have HE5:=Jh (show Kal d S.data.toList S2.data.toList=Kaz d (.rename S.data.toList S2.data.toList) by rw[HE1.out,if_neg (by rw[ka];simp),if_neg (by rw[ka,HRP.out];simp),if_neg (by rw[kb,ka];simpa using fun e=>hSS (Kdx (by rw[e])))]);have hrs:=HRS.out;have hF3:=hF.below (hrs.below.mono hB);have hcd:=h.below hrs.below;have hqW:=HQ.out;have hRq:R q=0:=h.inw.new (by omega);have hRq1:R (q+1)=0:=h.inw.new (by omega);have hcd7:CD B0 W (giv R q 5) A d:=hcd.grant hrs.one.lt hRq (by omega) 5;have hcd8:CD B0 W (giv (giv R q 5) (q+1) 5) A d:=hcd7.grant hrs.two.lt (by rw[Kba (by omega)];exact hRq1) (by omega) 5
       have hST:StepM W (giv (giv R q 5) (q+1) 5) A.φ (.rename S.data.toList S2.data.toList) (.func (.func 119) #[] #[.pointer (some ⟨q,0,none⟩),.pointer (some ⟨q+1,0,none⟩)]):=by
        have e:txtV S.data.toList = .string S:=by unfold txtV;rw[←Kdi rfl]
        have e2:txtV S2.data.toList = .string S2:=by unfold txtV;rw[←Kdi rfl]
        refine ⟨q,q+1,rfl,?_,?_⟩
        ·rw[Box,e];exact ⟨hrs.one,by rw[Kba (by omega)];exact Kcq _ _ _⟩
        ·rw[Box,e2];exact ⟨hrs.two,Kcq _ _ _⟩
       have hok:StOk d.files.length d.things (.rename S.data.toList S2.data.toList):=by (exact ⟨HR1.out,HR2.out,by rw[ka];omega,HRP.out,by rw[kb];omega,fun e=>(by rw[ka] at e;cases e),hne⟩)
       have hnm:=Kej (a:=a) ⟨#[114,101,110,97,109,101]⟩ S (.rename S.data.toList S2.data.toList) _ _ W hcd8 hST hf.tw hok (by have:=hf.tl;omega) (by have:=hf.sl;omega) hf.aw (by have:=hrs.below.size;omega) hF3;rw[HP.out] at hnm
       have hOw:Own R (giv (giv R q 5) (q+1) 5) w W:=by
        have o1:Own R R w W:=Own.of_below hrs.below;exact ⟨o1.os,o1.tape,o1.output,o1.size,o1.block,fun k hk=>by rw[Kba (by omega),Kba (by omega)]⟩
       have HOW:=Jh hOw;have HNM2:=Jh hnm;have q0:W.cell? ⟨q,0,none⟩=some (.string S):=hrs.one.cell 0;clear hnm hST hcd hcd7 hcd8 hF3 hOw hok hrs hqW;go_wp2_with fail
       refine HNM2.out.mono ?_;rintro e w7 hN;obtain ⟨v,R',A',rfl,k2,k3,k4,k5,k6⟩:=hN
       have hfin:Kad B0 a R A (Kal d S.data.toList S2.data.toList) ⟨#[114,101,110,97,109,101]⟩ S w (.returned v) w7:=by
        rw[HE5.out];exact ⟨v,R',A',rfl,k2,k3,HOW.out.trans k4,k5,k6⟩
       have HFIN:=Jh hfin;clear hfin k2 k3 k4 k5;go_wp2_with fail
       go_ret
       exact HFIN.out
     ·have hrs:=HRS.out;have hcd:=h.below hrs.below;have hF3:=hF.below (hrs.below.mono hB);have c0:W.cell? ⟨p,0,none⟩=some (.map (some A.md)):=by rw[←HP.out];exact Blk.cell hcd.blk 0
      have c1:W.cell? ⟨p,1,none⟩=some (.map (some A.mf)):=by rw[←HP.out];exact Blk.cell hcd.blk 1
      have q0:W.cell? ⟨q,0,none⟩=some (.string S):=hrs.one.cell 0;have q1:W.cell? ⟨q+1,0,none⟩=some (.string S2):=hrs.two.cell 0;have hql:=hrs.one.lt;have hql2:=hrs.two.lt;have hpl:p < W.heap.size:=Kah c0;have hlk:=Kcb hcd hf S2 hS2 1 (by rw[kb];rfl);go_upto_region 10 with fail
      refine Kab (by kernel_rfl) (by kernel_rfl) ?_
      repeat (go_big_quiet_step (fail))
      clear hlk;refine wpQuiet_nil ?_;rintro W ⟨⟨_,hb2⟩,rfl⟩;have hrs2:=HRS.out.later hb2;clear hrs hcd hF3 c0 c1 q0 q1 hql hql2 hpl hb2 HRS;have HRS:=Jh hrs2;clear hrs2;have hrs:=HRS.out;have hF3:=hF.below (hrs.below.mono hB);have f0:_=some (failV a 5):=(hF3 5 (by decide)).2;have hfl:=Kbr (a:=a) ⟨#[114,101,110,97,109,101]⟩ S 4 W;unfold failV at f0 hfl;simp only[failG] at f0;have HFL:=Jh hfl;have e2:Kal d S.data.toList S2.data.toList=(5,d):=by (rw[HE1.out];(rw[if_neg (by rw[ka];simp),if_neg (by rw[ka,HRP.out];simp),if_pos (.inl kb)]))
      have HE2:=Jh e2;have q0:W.cell? ⟨q,0,none⟩=some (.string S):=hrs.one.cell 0;clear hfl hF3 e2 hrs;go_wp2_with fail
      refine HFL.out.mono ?_;rintro e w5 ⟨v,rfl,hv5,hb5⟩
      have hfin:Kad B0 a R A (Kal d S.data.toList S2.data.toList) ⟨#[114,101,110,97,109,101]⟩ S w (.returned v) w5:=by
       rw[HE2.out];exact Kad.bad h (then_ HRS.out.below hb5) hv5
      have HFIN:=Jh hfin;clear hfin hv5;go_wp2_with fail
      go_ret
      exact HFIN.out
   ·have hrs:=HRS.out;have hcd:=h.below hrs.below;have hF3:=hF.below (hrs.below.mono hB);have c0:W.cell? ⟨p,0,none⟩=some (.map (some A.md)):=by rw[←HP.out];exact Blk.cell hcd.blk 0
    have c1:W.cell? ⟨p,1,none⟩=some (.map (some A.mf)):=by rw[←HP.out];exact Blk.cell hcd.blk 1
    have q0:W.cell? ⟨q,0,none⟩=some (.string S):=hrs.one.cell 0;have q1:W.cell? ⟨q+1,0,none⟩=some (.string S2):=hrs.two.cell 0;have hql:=hrs.one.lt;have hql2:=hrs.two.lt;have hpl:p < W.heap.size:=Kah c0;have hlk:=Kcb hcd hf S hS 1 (by rw[ka];rfl);go_upto_region 4 with fail
    refine Kab (by kernel_rfl) (by kernel_rfl) ?_
    repeat (go_big_quiet_step (fail))
    clear hlk;refine wpQuiet_nil ?_;rintro W ⟨⟨_,hb2⟩,rfl⟩;have hrs2:=HRS.out.later hb2;clear hrs hcd hF3 c0 c1 q0 q1 hql hql2 hpl hb2 HRS;have HRS:=Jh hrs2;clear hrs2;obtain ⟨nb,hnb⟩:∃r,nameB S2.data.toList=r:=⟨_,rfl⟩;have HNB:=Jh hnb;have HNAME:=Jh (fun w=>Kjp S2 nb hnb hS2 w);clear hnb;have q1:W.cell? ⟨q+1,0,none⟩=some (.string S2):=HRS.out.two.cell 0;go_wp2_with fail
    refine (HNAME.out W).mono ?_;rintro _ W5 ⟨rfl,rfl⟩;clear q1
    cases nb with
    | false=>
     have hrs:=HRS.out;have hF3:=hF.below (hrs.below.mono hB);have f0:_=some (failV a 2):=(hF3 2 (by decide)).2;have hfl:=Kbr (a:=a) ⟨#[114,101,110,97,109,101]⟩ S 1 W;unfold failV at f0 hfl;simp only[failG] at f0;have HFL:=Jh hfl;have e2:Kal d S.data.toList S2.data.toList=(2,d):=by (rw[HE1.out];(rw[if_pos ⟨ka,HNB.out⟩]))
     have HE2:=Jh e2;have q0:W.cell? ⟨q,0,none⟩=some (.string S):=hrs.one.cell 0;clear hfl hF3 e2 hrs;go_wp2_with fail
     refine HFL.out.mono ?_;rintro e w5 ⟨v,rfl,hv5,hb5⟩
     have hfin:Kad B0 a R A (Kal d S.data.toList S2.data.toList) ⟨#[114,101,110,97,109,101]⟩ S w (.returned v) w5:=by
      rw[HE2.out];exact Kad.bad h (then_ HRS.out.below hb5) hv5
     have HFIN:=Jh hfin;clear hfin hv5;go_wp2_with fail
     go_ret
     exact HFIN.out
    | true=>
     go_upto_region 7 with fail
     have hrs:=HRS.out;have hcd:=h.below hrs.below;have hF3:=hF.below (hrs.below.mono hB);have c0:W.cell? ⟨p,0,none⟩=some (.map (some A.md)):=by rw[←HP.out];exact Blk.cell hcd.blk 0
     have c1:W.cell? ⟨p,1,none⟩=some (.map (some A.mf)):=by rw[←HP.out];exact Blk.cell hcd.blk 1
     have q0:W.cell? ⟨q,0,none⟩=some (.string S):=hrs.one.cell 0;have q1:W.cell? ⟨q+1,0,none⟩=some (.string S2):=hrs.two.cell 0;have hql:=hrs.one.lt;have hql2:=hrs.two.lt;have hpl:p < W.heap.size:=Kah c0;refine Kab (by kernel_rfl) (by kernel_rfl) ?_
     repeat (go_big_quiet_step (fail))
     refine wpQuiet_nil ?_;rintro W ⟨⟨_,hb2⟩,rfl⟩;have hrs2:=HRS.out.later hb2;clear hrs hcd hF3 c0 c1 q0 q1 hql hql2 hpl hb2 HRS;have HRS:=Jh hrs2;clear hrs2;have hrs:=HRS.out;have hcd:=h.below hrs.below;have hF3:=hF.below (hrs.below.mono hB);have c0:W.cell? ⟨p,0,none⟩=some (.map (some A.md)):=by rw[←HP.out];exact Blk.cell hcd.blk 0
     have c1:W.cell? ⟨p,1,none⟩=some (.map (some A.mf)):=by rw[←HP.out];exact Blk.cell hcd.blk 1
     have q0:W.cell? ⟨q,0,none⟩=some (.string S):=hrs.one.cell 0;have q1:W.cell? ⟨q+1,0,none⟩=some (.string S2):=hrs.two.cell 0;have hql:=hrs.one.lt;have hql2:=hrs.two.lt;have hpl:p < W.heap.size:=Kah c0;have HPAR:=Jh (fun x:Later W=>Kgu A.md A.mf S2 rp hrp x.w (hcd.dirs.1.below x.h hcd.dirs.1.lt) hf.tw hS2);go_upto_region 8 with fail
     refine Kab (by kernel_rfl) (by kernel_rfl) ?_
     repeat (go_big_quiet_step ((go_at_call 114;exact Kbf _ (HPAR.out _))))
     clear HPAR;refine wpQuiet_nil ?_;rintro W ⟨⟨_,hb2⟩,rfl⟩;have hrs2:=HRS.out.later hb2;clear hrs hcd hF3 c0 c1 q0 q1 hql hql2 hpl hb2 HRS;have HRS:=Jh hrs2;clear hrs2
     cases rp with
     | false=>
      have hrs:=HRS.out;have hF3:=hF.below (hrs.below.mono hB);have f0:_=some (failV a 4):=(hF3 4 (by decide)).2;have hfl:=Kbr (a:=a) ⟨#[114,101,110,97,109,101]⟩ S 3 W;unfold failV at f0 hfl;simp only[failG] at f0;have HFL:=Jh hfl;have e2:Kal d S.data.toList S2.data.toList=(4,d):=by (rw[HE1.out];(rw[if_neg (fun e=>by rw[HNB.out] at e;cases e.2),if_pos (.inr HRP.out)]))
      have HE2:=Jh e2;have q0:W.cell? ⟨q,0,none⟩=some (.string S):=hrs.one.cell 0;clear hfl hF3 e2 hrs;go_wp2_with fail
      refine HFL.out.mono ?_;rintro e w5 ⟨v,rfl,hv5,hb5⟩
      have hfin:Kad B0 a R A (Kal d S.data.toList S2.data.toList) ⟨#[114,101,110,97,109,101]⟩ S w (.returned v) w5:=by
       rw[HE2.out];exact Kad.bad h (then_ HRS.out.below hb5) hv5
      have HFIN:=Jh hfin;clear hfin hv5;go_wp2_with fail
      go_ret
      exact HFIN.out
     | true=>
      rcases Kdy d.things S2.data.toList with kb | kb | kb
      ·have hrs:=HRS.out;have hcd:=h.below hrs.below;have hF3:=hF.below (hrs.below.mono hB);have c0:W.cell? ⟨p,0,none⟩=some (.map (some A.md)):=by rw[←HP.out];exact Blk.cell hcd.blk 0
       have c1:W.cell? ⟨p,1,none⟩=some (.map (some A.mf)):=by rw[←HP.out];exact Blk.cell hcd.blk 1
       have q0:W.cell? ⟨q,0,none⟩=some (.string S):=hrs.one.cell 0;have q1:W.cell? ⟨q+1,0,none⟩=some (.string S2):=hrs.two.cell 0;have hql:=hrs.one.lt;have hql2:=hrs.two.lt;have hpl:p < W.heap.size:=Kah c0;have hlk:=Kcb hcd hf S2 hS2 0 (by rw[kb];rfl);go_upto_region 10 with fail
       refine Kab (by kernel_rfl) (by kernel_rfl) ?_
       repeat (go_big_quiet_step (fail))
       clear hlk;refine wpQuiet_nil ?_;rintro W ⟨⟨_,hb2⟩,rfl⟩;have hrs2:=HRS.out.later hb2;clear hrs hcd hF3 c0 c1 q0 q1 hql hql2 hpl hb2 HRS;have HRS:=Jh hrs2;clear hrs2;have hrs:=HRS.out;have hcd:=h.below hrs.below;have hF3:=hF.below (hrs.below.mono hB);have c0:W.cell? ⟨p,0,none⟩=some (.map (some A.md)):=by rw[←HP.out];exact Blk.cell hcd.blk 0
       have c1:W.cell? ⟨p,1,none⟩=some (.map (some A.mf)):=by rw[←HP.out];exact Blk.cell hcd.blk 1
       have q0:W.cell? ⟨q,0,none⟩=some (.string S):=hrs.one.cell 0;have q1:W.cell? ⟨q+1,0,none⟩=some (.string S2):=hrs.two.cell 0;have hql:=hrs.one.lt;have hql2:=hrs.two.lt;have hpl:p < W.heap.size:=Kah c0;obtain ⟨P,hP,hlf⟩:=Kea hcd hf S2 hS2;obtain rfl:P=none:=hP.2 (by rw[kb];omega);go_upto_region 11 with fail
       refine Kab (by kernel_rfl) (by kernel_rfl) ?_
       repeat (go_big_quiet_step (fail))
       clear hlf hP;refine wpQuiet_nil ?_;rintro W ⟨⟨_,hb2⟩,rfl⟩;have hrs2:=HRS.out.later hb2;clear hrs hcd hF3 c0 c1 q0 q1 hql hql2 hpl hb2 HRS;have HRS:=Jh hrs2;clear hrs2;have HE5:=Jh (show Kal d S.data.toList S2.data.toList=Kaz d (.rename S.data.toList S2.data.toList) by rw[HE1.out,if_neg (fun e=>by rw[HNB.out] at e;cases e.2),if_neg (by rw[ka,HRP.out];simp),if_neg (by rw[kb];simp)]);have hrs:=HRS.out;have hF3:=hF.below (hrs.below.mono hB);have hcd:=h.below hrs.below;have hqW:=HQ.out;have hRq:R q=0:=h.inw.new (by omega);have hRq1:R (q+1)=0:=h.inw.new (by omega);have hcd7:CD B0 W (giv R q 5) A d:=hcd.grant hrs.one.lt hRq (by omega) 5;have hcd8:CD B0 W (giv (giv R q 5) (q+1) 5) A d:=hcd7.grant hrs.two.lt (by rw[Kba (by omega)];exact hRq1) (by omega) 5
       have hST:StepM W (giv (giv R q 5) (q+1) 5) A.φ (.rename S.data.toList S2.data.toList) (.func (.func 119) #[] #[.pointer (some ⟨q,0,none⟩),.pointer (some ⟨q+1,0,none⟩)]):=by
        have e:txtV S.data.toList = .string S:=by unfold txtV;rw[←Kdi rfl]
        have e2:txtV S2.data.toList = .string S2:=by unfold txtV;rw[←Kdi rfl]
        refine ⟨q,q+1,rfl,?_,?_⟩
        ·rw[Box,e];exact ⟨hrs.one,by rw[Kba (by omega)];exact Kcq _ _ _⟩
        ·rw[Box,e2];exact ⟨hrs.two,Kcq _ _ _⟩
       have hok:StOk d.files.length d.things (.rename S.data.toList S2.data.toList):=by (exact ⟨HR1.out,HR2.out,by rw[ka];omega,HRP.out,by rw[kb];omega,fun e=>⟨HNB.out,kb⟩,fun e=>by rw[e] at ka;rw[ka] at kb;cases kb⟩)
       have hnm:=Kej (a:=a) ⟨#[114,101,110,97,109,101]⟩ S (.rename S.data.toList S2.data.toList) _ _ W hcd8 hST hf.tw hok (by have:=hf.tl;omega) (by have:=hf.sl;omega) hf.aw (by have:=hrs.below.size;omega) hF3;rw[HP.out] at hnm
       have hOw:Own R (giv (giv R q 5) (q+1) 5) w W:=by
        have o1:Own R R w W:=Own.of_below hrs.below;exact ⟨o1.os,o1.tape,o1.output,o1.size,o1.block,fun k hk=>by rw[Kba (by omega),Kba (by omega)]⟩
       have HOW:=Jh hOw;have HNM2:=Jh hnm;have q0:W.cell? ⟨q,0,none⟩=some (.string S):=hrs.one.cell 0;clear hnm hST hcd hcd7 hcd8 hF3 hOw hok hrs hqW;go_wp2_with fail
       refine HNM2.out.mono ?_;rintro e w7 hN;obtain ⟨v,R',A',rfl,k2,k3,k4,k5,k6⟩:=hN
       have hfin:Kad B0 a R A (Kal d S.data.toList S2.data.toList) ⟨#[114,101,110,97,109,101]⟩ S w (.returned v) w7:=by
        rw[HE5.out];exact ⟨v,R',A',rfl,k2,k3,HOW.out.trans k4,k5,k6⟩
       have HFIN:=Jh hfin;clear hfin k2 k3 k4 k5;go_wp2_with fail
       go_ret
       exact HFIN.out
      ·have hrs:=HRS.out;have hcd:=h.below hrs.below;have hF3:=hF.below (hrs.below.mono hB);have c0:W.cell? ⟨p,0,none⟩=some (.map (some A.md)):=by rw[←HP.out];exact Blk.cell hcd.blk 0
       have c1:W.cell? ⟨p,1,none⟩=some (.map (some A.mf)):=by rw[←HP.out];exact Blk.cell hcd.blk 1
       have q0:W.cell? ⟨q,0,none⟩=some (.string S):=hrs.one.cell 0;have q1:W.cell? ⟨q+1,0,none⟩=some (.string S2):=hrs.two.cell 0;have hql:=hrs.one.lt;have hql2:=hrs.two.lt;have hpl:p < W.heap.size:=Kah c0;have hlk:=Kcb hcd hf S2 hS2 0 (by rw[kb];rfl);go_upto_region 10 with fail
       refine Kab (by kernel_rfl) (by kernel_rfl) ?_
       repeat (go_big_quiet_step (fail))
       clear hlk;refine wpQuiet_nil ?_;rintro W ⟨⟨_,hb2⟩,rfl⟩;have hrs2:=HRS.out.later hb2;clear hrs hcd hF3 c0 c1 q0 q1 hql hql2 hpl hb2 HRS;have HRS:=Jh hrs2;clear hrs2;have hrs:=HRS.out;have hcd:=h.below hrs.below;have hF3:=hF.below (hrs.below.mono hB);have c0:W.cell? ⟨p,0,none⟩=some (.map (some A.md)):=by rw[←HP.out];exact Blk.cell hcd.blk 0
       have c1:W.cell? ⟨p,1,none⟩=some (.map (some A.mf)):=by rw[←HP.out];exact Blk.cell hcd.blk 1
       have q0:W.cell? ⟨q,0,none⟩=some (.string S):=hrs.one.cell 0;have q1:W.cell? ⟨q+1,0,none⟩=some (.string S2):=hrs.two.cell 0;have hql:=hrs.one.lt;have hql2:=hrs.two.lt;have hpl:p < W.heap.size:=Kah c0;obtain ⟨P,hP,hlf⟩:=Kea hcd hf S2 hS2
       obtain ⟨P',rfl⟩:∃P',P=some P':=by
        cases P with
        | none=>exact absurd kb (hP.1 rfl)
        | some P'=>exact ⟨P',rfl⟩
       go_upto_region 11 with fail
       refine Kab (by kernel_rfl) (by kernel_rfl) ?_
       repeat (go_big_quiet_step (fail))
       clear hlf hP;refine wpQuiet_nil ?_;rintro W ⟨⟨_,hb2⟩,rfl⟩;have hrs2:=HRS.out.later hb2;clear hrs hcd hF3 c0 c1 q0 q1 hql hql2 hpl hb2 HRS;have HRS:=Jh hrs2;clear hrs2;have hrs:=HRS.out;have hF3:=hF.below (hrs.below.mono hB);have f0:_=some (failV a 5):=(hF3 5 (by decide)).2;have hfl:=Kbr (a:=a) ⟨#[114,101,110,97,109,101]⟩ S 4 W;unfold failV at f0 hfl;simp only[failG] at f0;have HFL:=Jh hfl;have e2:Kal d S.data.toList S2.data.toList=(5,d):=by (rw[HE1.out];(rw[if_neg (fun e=>by rw[HNB.out] at e;cases e.2),if_neg (by rw[ka,HRP.out];simp),if_pos (.inr ⟨kb,.inl ka⟩)]))
       have HE2:=Jh e2;have q0:W.cell? ⟨q,0,none⟩=some (.string S):=hrs.one.cell 0;clear hfl hF3 e2 hrs;go_wp2_with fail
       refine HFL.out.mono ?_;rintro e w5 ⟨v,rfl,hv5,hb5⟩
       have hfin:Kad B0 a R A (Kal d S.data.toList S2.data.toList) ⟨#[114,101,110,97,109,101]⟩ S w (.returned v) w5:=by
        rw[HE2.out];exact Kad.bad h (then_ HRS.out.below hb5) hv5
       have HFIN:=Jh hfin;clear hfin hv5;go_wp2_with fail
       go_ret
       exact HFIN.out
      ·have hrs:=HRS.out;have hcd:=h.below hrs.below;have hF3:=hF.below (hrs.below.mono hB);have c0:W.cell? ⟨p,0,none⟩=some (.map (some A.md)):=by rw[←HP.out];exact Blk.cell hcd.blk 0
       have c1:W.cell? ⟨p,1,none⟩=some (.map (some A.mf)):=by rw[←HP.out];exact Blk.cell hcd.blk 1
       have q0:W.cell? ⟨q,0,none⟩=some (.string S):=hrs.one.cell 0;have q1:W.cell? ⟨q+1,0,none⟩=some (.string S2):=hrs.two.cell 0;have hql:=hrs.one.lt;have hql2:=hrs.two.lt;have hpl:p < W.heap.size:=Kah c0;have hlk:=Kcb hcd hf S2 hS2 1 (by rw[kb];rfl);go_upto_region 10 with fail
       refine Kab (by kernel_rfl) (by kernel_rfl) ?_
       repeat (go_big_quiet_step (fail))
       clear hlk;refine wpQuiet_nil ?_;rintro W ⟨⟨_,hb2⟩,rfl⟩;have hrs2:=HRS.out.later hb2;clear hrs hcd hF3 c0 c1 q0 q1 hql hql2 hpl hb2 HRS;have HRS:=Jh hrs2;clear hrs2;have hrs:=HRS.out;have hF3:=hF.below (hrs.below.mono hB);have f0:_=some (failV a 5):=(hF3 5 (by decide)).2;have hfl:=Kbr (a:=a) ⟨#[114,101,110,97,109,101]⟩ S 4 W;unfold failV at f0 hfl;simp only[failG] at f0;have HFL:=Jh hfl;have e2:Kal d S.data.toList S2.data.toList=(5,d):=by (rw[HE1.out];(rw[if_neg (fun e=>by rw[HNB.out] at e;cases e.2),if_neg (by rw[ka,HRP.out];simp),if_pos (.inl kb)]))
       have HE2:=Jh e2;have q0:W.cell? ⟨q,0,none⟩=some (.string S):=hrs.one.cell 0;clear hfl hF3 e2 hrs;go_wp2_with fail
       refine HFL.out.mono ?_;rintro e w5 ⟨v,rfl,hv5,hb5⟩
       have hfin:Kad B0 a R A (Kal d S.data.toList S2.data.toList) ⟨#[114,101,110,97,109,101]⟩ S w (.returned v) w5:=by
        rw[HE2.out];exact Kad.bad h (then_ HRS.out.below hb5) hv5
       have HFIN:=Jh hfin;clear hfin hv5;go_wp2_with fail
       go_ret
       exact HFIN.out
end
end
section
open Go.RowKit Go.Shelf Go.Maps Go.Sort
attribute [local go_sem ↓] Go.wp_at_zero Go.wp_at_succ
attribute [local go_sem] Later.cell
def Kck (M:Nat):List Ch→Nat→Prop
 | [],_=>True
 | c :: r,n=>if c.cut then c.size≤n∧Kck M r c.size else n+c.text.length≤M∧Kck M r (n+c.text.length)
end
section
def Chain (n:Nat):List Th→List St→Prop
 | _,[]=>True
 | l,s :: r=>StOk n l s∧Chain n (Kak l s) r
theorem Chain.append {n:Nat}:∀{l:List Th} {r:List St} {s:St},Chain n l r→StOk n (r.foldl Kak l) s→Chain n l (r ++ [s])
 | _,[],_,_,h=>⟨h,trivial⟩
 | _,_ :: _,_,h,k=>⟨h.1,Chain.append h.2 k⟩
theorem StOk.more {n m:Nat} {l:List Th} {s:St} (h:StOk n l s) (hm:n≤m):StOk m l s:=by
 cases s with
 | mkdir a=>exact h
 | create a i=>exact ⟨h.1,h.2.1,h.2.2.1,by have:=h.2.2.2.1;omega,h.2.2.2.2⟩
 | remove a=>exact h
 | rename a b=>exact h
theorem Chain.more {n m:Nat} (hm:n≤m):∀{l:List Th} {r:List St},Chain n l r→Chain m l r
 | _,[],_=>trivial
 | _,_ :: _,h=>⟨h.1.more hm,Chain.more hm h.2⟩
theorem TW.more {n m:Nat} {l:List Th} (h:TW n l) (hm:n≤m):TW m l:=⟨h.nodup,h.dirs,h.paths,h.par,fun x hx hd=>by have:=h.ats x hx hd;omega,h.inj⟩
theorem Chain.tw {n:Nat}:∀{l:List Th} {r:List St},TW n l→Chain n l r→TW n (r.foldl Kak l)
 | _,[],h,_=>h
 | l,s :: r,h,k=>by rw[List.foldl_cons];exact Chain.tw (h.apply k.1) k.2
theorem Chain.at_ {n:Nat}:∀{l:List Th} {r:List St} {i:Nat} {s:St},Chain n l r→r[i]? = some s→StOk n ((r.take i).foldl Kak l) s
 | _,_ :: _,0,_,h,e=>by simp at e;subst e;exact h.1
 | _,_ :: _,_+1,_,h,e=>by simpa using Chain.at_ h.2 (by simpa using e)
theorem Qay (l:List Th) (s:St):(Kak l s).length≤l.length+1:=by
 cases s with
 | mkdir a=>simp[Kak]
 | create a i=>simp[Kak]
 | remove a=>simp only[Kak];exact Nat.le_succ_of_le (List.length_filter_le _ _)
 | rename a b=>simp only[Kak,List.length_map];exact Nat.le_succ_of_le (List.length_filter_le _ _)
theorem Kro:∀(r:List St) (l:List Th),(r.foldl Kak l).length≤l.length+r.length
 | [],_=>Nat.le_refl _
 | s :: r,l=>by
  have h1:=Kro r (Kak l s);have h2:=Qay l s;simp only[List.foldl_cons,List.length_cons];omega
def lenOf:List Ch→Nat→Nat
 | [],n=>n
 | c :: r,n=>lenOf r (if c.cut then c.size else n+c.text.length)
theorem Kkz:∀(r:List Ch) (c:Ch) (n:Nat),lenOf (r ++ [c]) n=if c.cut then c.size else lenOf r n+c.text.length
 | [],c,n=>rfl
 | x :: r,c,n=>by rw[List.cons_append,lenOf,Kkz r c];rfl
theorem Kxe (r:List Ch) (c:Ch):units (r ++ [c])=units r+(c.text.length+if c.cut then 1 else 0):=by
 unfold units;simp
theorem Qde (r:List Ch) (c:Ch):units (c :: r)=(c.text.length+if c.cut then 1 else 0)+units r:=by
 unfold units;simp
theorem Knt {M:Nat}:∀(r:List Ch) (n:Nat),Kck M r n→lenOf r n≤n+units r
 | [],n,_=>by simp[lenOf]
 | c :: r,n,h=>by
  rw[lenOf,Qde];unfold Kck at h
  cases hc:c.cut with
  | true=>
   rw[hc] at h;simp only[if_true] at h ⊢;have:=Knt r c.size h.2;omega
  | false=>
   rw[hc] at h;simp only[Bool.false_eq_true,if_false] at h ⊢;have:=Knt r _ h.2;omega
theorem Kck.more {M M':Nat} (hM:M≤M'):∀{r:List Ch} {n:Nat},Kck M r n→Kck M' r n
 | [],_,_=>trivial
 | c :: r,n,h=>by
  unfold Kck at h ⊢
  split
  ·rename_i hc
   rw[if_pos hc] at h;exact ⟨h.1,Kck.more hM h.2⟩
  ·rename_i hc
   rw[if_neg hc] at h;exact ⟨by omega,Kck.more hM h.2⟩
theorem Kck.append {M:Nat}:∀{r:List Ch} {c:Ch} {n:Nat},Kck M r n→(if c.cut then c.size≤lenOf r n else lenOf r n+c.text.length≤M)→Kck M (r ++ [c]) n
 | [],c,n,_,h=>by
  rw[List.nil_append];unfold Kck
  split
  ·rename_i hc
   rw[if_pos hc] at h;exact ⟨h,trivial⟩
  ·rename_i hc
   rw[if_neg hc] at h;exact ⟨h,trivial⟩
 | x :: r,c,n,h,k=>by
  rw[List.cons_append];unfold Kck at h ⊢;rw[lenOf] at k
  split
  ·rename_i hx
   rw[if_pos hx] at h k;exact ⟨h.1,Kck.append h.2 k⟩
  ·rename_i hx
   rw[if_neg hx] at h k;exact ⟨h.1,Kck.append h.2 k⟩
structure FOk (M:Nat) (f:By):Prop where
 ok:Kck M f.steps f.safe.length
 len:lenOf f.steps f.safe.length=f.now.length
 sum:f.safe.length+units f.steps≤M
 sl:f.steps.length≤M
section
variable {M M' : Nat} {f : By}
theorem FOk.more (h:FOk M f) (hM:M≤M'):FOk M' f:=⟨h.ok.more hM,h.len,Nat.le_trans h.sum hM,Nat.le_trans h.sl hM⟩
theorem FOk.now (h:FOk M f):f.now.length≤M:=by
 have h1:=Knt _ _ h.ok;have h2:=h.len;have h3:=h.sum;omega
theorem FOk.plain {s:Txt} (h:s.length≤M):FOk M ⟨s,s,[]⟩:=⟨trivial,rfl,by simp[units];exact h,Nat.zero_le _⟩
theorem FOk.append (h:FOk M f) (t:Txt):FOk (M+t.length+1) { f with now:=f.now++t,steps:=f.steps ++ [⟨t,false,0⟩] } where
 ok:=(h.ok.more (by omega)).append (by
  have h1:=h.now;have h2:=h.len;simp only[Bool.false_eq_true,if_false]
  omega)
 len:=by
  have h2:=h.len;simp[Kkz,h2]
 sum:=by
  have h3:=h.sum;simp only[Kxe,Bool.false_eq_true,if_false];omega
 sl:=by
  have:=h.sl;simp;omega
end
structure WF (M:Nat) (d:Ds):Prop where
 safe:TW d.files.length d.safe
 chain:Chain d.files.length d.safe d.steps
 things:d.things=d.steps.foldl Kak d.safe
 files:∀f∈d.files,FOk M f
 names:d.safe.length+d.steps.length≤M
 fl:d.files.length≤M
 aw:d.await≤9223372036854775807
 cap:d.cap≤67108864
section
variable {M M' : Nat} {d : Ds}
theorem WF.more (h:WF M d) (hM:M≤M'):WF M' d:=⟨h.safe,h.chain,h.things,fun f hf=>(h.files f hf).more hM,Nat.le_trans h.names hM,Nat.le_trans h.fl hM,h.aw,h.cap⟩
theorem WF.tw (h:WF M d):TW d.files.length d.things:=by rw[h.things];exact h.chain.tw h.safe
theorem WF.tl (h:WF M d):d.things.length≤M:=by
 rw[h.things];exact Nat.le_trans (Kro _ _) h.names
theorem WF.fit (h:WF M d) (hM:M≤536870912):Fit d:=⟨h.tw,Nat.le_trans h.tl hM,by have:=h.names;omega,Nat.le_trans h.fl hM,h.aw⟩
theorem WF.nums (h:WF M d):Nums d:=by
 refine ⟨h.tw.ats,h.safe.ats,fun s i hs=>?_⟩;obtain ⟨j,hj⟩:=List.mem_iff_getElem?.1 hs;exact (h.chain.at_ hj).2.2.2.1
theorem WF.fAt (h:WF M d) (i:Nat):FOk M (fAt d i):=by
 unfold Go.Proofs.YtefpndiiedkmpaaGreatDoor.fAt
 cases hf:d.files[i]? with
 | none=>exact FOk.plain (Nat.zero_le _)
 | some f=>exact h.files f (List.mem_of_getElem? hf)
theorem WF.new (n:Int):WF 0 (newD n) where
 safe:=⟨by simp[newD],by simp[newD],by simp[newD],by simp[newD],by simp[newD],by simp[newD]⟩
 chain:=trivial
 things:=rfl
 files:=by simp[newD]
 names:=by simp[newD]
 fl:=by simp[newD]
 aw:=by simp[newD]
 cap:=by simp[newD];omega
theorem WF.same (h:WF M d) {d':Ds} (h1:d'.things=d.things) (h2:d'.safe=d.safe) (h3:d'.steps=d.steps) (h4:d'.files=d.files) (h5:d'.await≤9223372036854775807) (h6:d'.cap=d.cap):WF M d':=
 ⟨by rw[h4,h2];exact h.safe,by rw[h4,h2,h3];exact h.chain,by rw[h1,h2,h3];exact h.things,by rw[h4];exact h.files,by rw[h2,h3];exact h.names,by rw[h4];exact h.fl,h5,by rw[h6];exact h.cap⟩
theorem Khc (d:Ds):(stepD d).2.things=d.things∧(stepD d).2.safe=d.safe∧(stepD d).2.steps=d.steps∧(stepD d).2.files=d.files∧(stepD d).2.await≤d.await∧(stepD d).2.cap=d.cap:=by
 unfold stepD
 split
 ·exact ⟨rfl,rfl,rfl,rfl,Nat.le_refl _,rfl⟩
 ·split
  ·exact ⟨rfl,rfl,rfl,rfl,Nat.zero_le _,rfl⟩
  ·exact ⟨rfl,rfl,rfl,rfl,Nat.sub_le _ _,rfl⟩
theorem WF.step (h:WF M d):WF M (stepD d).2:=by
 obtain ⟨h1,h2,h3,h4,h5,h6⟩:=Khc d;exact h.same h1 h2 h3 h4 (Nat.le_trans h5 h.aw) h6
theorem WF.names_ (h:WF M d) {s:St} (hs:StOk d.files.length d.things s):WF (M+1) (Kaz d s).2:=by
 unfold Kaz;obtain ⟨h1,h2,h3,h4,h5,h6⟩:=Khc d
 split
 ·exact h.step.more (by omega)
 ·exact {
   safe:=by simp only[h2,h4];exact h.safe
   chain:=by simp only[h2,h4];exact h.chain.append (by rw[←h.things];exact hs)
   things:=by simp only[h2];rw[List.foldl_append,←h.things];rfl
   files:=by simp only[h4];exact fun f hf=>(h.files f hf).more (by omega)
   names:=by simp only[h2,List.length_append];have:=h.names;simp;omega
   fl:=by simp only[h4];have:=h.fl;omega
   aw:=Nat.le_trans h5 h.aw
   cap:=by simp only[h6];exact h.cap }
theorem WF.mkdir (h:WF M d) (s:Txt):WF (M+1) (Qfd d s).2:=by
 unfold Qfd
 split
 ·exact h.more (by omega)
 split
 ·exact h.more (by omega)
 split
 ·exact h.more (by omega)
 rename_i h1 h2 h3
 exact h.names_ ⟨by simpa using h2,by simpa using h3⟩
theorem WF.remove (h:WF M d) (s:Txt):WF (M+1) (Kaw d s).2:=by
 unfold Kaw
 split
 ·exact h.more (by omega)
 split
 ·exact h.more (by omega)
 split
 ·exact h.more (by omega)
 rename_i h1 h2 h3
 exact h.names_ ⟨by simpa using h2,by simpa using h3⟩
theorem WF.rename (h:WF M d) (a b:Txt):WF (M+1) (Kal d a b).2:=by
 unfold Kal
 split
 ·exact h.more (by omega)
 split
 ·exact h.more (by omega)
 split
 ·exact h.more (by omega)
 split
 ·exact h.more (by omega)
 split
 ·exact h.more (by omega)
 rename_i h1 h2 h3 h4 h5
 simp only[not_or,not_and,Bool.not_eq_false] at h2 h3 h4 h5;refine h.names_ ⟨h2.1,h2.2,h4.1,h4.2,h5.1,fun e=>⟨h3 e,?_⟩,?_⟩
 ·rcases Kdy d.things b with h0 | h0 | h0
  ·exact h0
  ·exact absurd e (h5.2 h0).1
  ·exact absurd h0 h5.1
 ·rintro rfl;rcases Kdy d.things a with h0 | h0 | h0
  ·exact h4.1 h0
  ·exact (h5.2 h0).2 rfl
  ·exact h5.1 h0
theorem WF.create (h:WF M d) (s:Txt):WF (M+1) (Kbm d s).2:=by
 unfold Kbm
 split
 ·exact h.more (by omega)
 split
 ·exact h.more (by omega)
 split
 ·exact h.more (by omega)
 split
 ·exact h.more (by omega)
 split
 ·exact h.step.more (by omega)
 rename_i h1 h2 h3 h4 h5
 obtain ⟨k1,k2,k3,k4,k5,k6⟩:=Khc d
 have e:(Kaz d (.create s d.files.length)).2 = { (stepD d).2 with things:=Kak d.things (.create s d.files.length),steps:=d.steps ++ [.create s d.files.length] }:=by
  unfold Kaz;rw[if_neg h5]
 rw[e];have hle:d.files.length≤(d.files ++ [(⟨[],[],[]⟩:By)]).length:=by simp
 exact {
  safe:=by simp only[k2];exact h.safe.more hle
  chain:=by
   simp only[k2];refine (h.chain.more hle).append ?_;rw[←h.things];exact ⟨by simpa using h2,by simpa using h3,by simpa using h4,by simp,fun x hx hd=>Nat.ne_of_lt (h.tw.ats x hx hd)⟩
  things:=by simp only[k2];rw[List.foldl_append,←h.things];rfl
  files:=by
   intro f hf;rcases List.mem_append.1 hf with hf | hf
   ·exact (h.files f hf).more (by omega)
   ·rw[List.mem_singleton.1 hf];exact FOk.plain (Nat.zero_le _)
  names:=by simp only[k2,List.length_append];have:=h.names;simp;omega
  fl:=by have:=h.fl;simp;omega
  aw:=Nat.le_trans k5 h.aw
  cap:=by simp only[k6];exact h.cap }
theorem WF.set_ (h:WF M d) {i:Nat} {f:By} (hf:FOk M' f) (hM:M≤M'):WF M' (setF d i f) where
 safe:=by simp only[setF,List.length_set];exact h.safe
 chain:=by simp only[setF,List.length_set];exact h.chain
 things:=h.things
 files:=by
  intro g hg;rcases List.mem_or_eq_of_mem_set hg with hg | rfl
  ·exact (h.files g hg).more hM
  ·exact hf
 names:=Nat.le_trans h.names hM
 fl:=by simp only[setF,List.length_set];exact Nat.le_trans h.fl hM
 aw:=h.aw
 cap:=h.cap
theorem WF.append (h:WF M d) (s t:Txt):WF (M+t.length+1) (Kbx d s t).2:=by
 unfold Kbx
 split
 ·exact h.more (by omega)
 split
 ·exact h.more (by omega)
 split
 ·exact h.step.more (by omega)
 rename_i i _ _ _
 exact h.step.set_ ((h.fAt i).append t) (by omega)
theorem WF.sync (h:WF M d) (s:Txt):WF (M+1) (syncD d s).2:=by
 unfold syncD
 split
 ·exact h.more (by omega)
 split
 ·exact h.step.more (by omega)
 rename_i i _ _
 exact h.step.set_ (FOk.plain (Nat.le_succ_of_le (h.fAt i).now)) (by omega)
theorem WF.syncNames (h:WF M d):WF (M+1) (Kbh d).2:=by
 unfold Kbh
 split
 ·exact h.more (by omega)
 split
 ·exact h.step.more (by omega)
 obtain ⟨k1,k2,k3,k4,k5,k6⟩:=Khc d
 exact {
  safe:=by simp only[k4];exact h.tw
  chain:=trivial
  things:=by simp only[k1];rfl
  files:=by simp only[k4];exact fun f hf=>(h.files f hf).more (by omega)
  names:=by have:=h.tl;simp;omega
  fl:=by simp only[k4];have:=h.fl;omega
  aw:=Nat.le_trans k5 h.aw
  cap:=by simp only[k6];exact h.cap }
end
end
section
open Go.RowKit Go.Shelf Go.Maps Go.Sort
attribute [local go_sem ↓] Go.wp_at_zero Go.wp_at_succ
attribute [local go_sem] Later.cell
def one:St→Th→List Th
 | .mkdir _,x=>[x]
 | .create _ _,x=>[x]
 | .remove a,x=>if x.path == a || Kby x.path a then [] else [x]
 | .rename a b,x=>if x.path == b then [] else [mv a b x]
section
variable {l : List Th} {X : Option Addr} {n c : Nat} {w : World}
end
def Apart (a:Nat→Addr):Prop:=∀i j,1≤i→i≤7→1≤j→j≤7→i≠j→a i≠a j
section
variable {B0 : Nat} {a : Nat → Addr}
def Sents (B0:Nat) (a:Nat→Addr) (w:World):Prop:=∀k,1≤k→k≤7→(a k).block < B0∧∃cs t,w.heap[(a k).block]? = some (.cells cs t (0,0))
theorem Sents.below {w w':World} (h:Sents B0 a w) (hb:Below B0 w w'):Sents B0 a w':=fun k h1 h2=>by
 obtain ⟨h3,cs,t,h4⟩:=h k h1 h2;exact ⟨h3,cs,t,(hb.block _ h3).trans h4⟩
theorem Qab:(Tryz.prog.info? 360).map (·.comparable)=some true:=by kernel_rfl
theorem Qac:(Tryz.prog.info? 382).map (·.size)=some 1:=by kernel_rfl
theorem Qls (i:Nat) (w:World):(binOp .eql 40 (failV a i) (failV a i)).run Tryz.prog w = .ok (.bool true) w:=by
 obtain ⟨i0,h1,h2⟩:=Option.map_eq_some_iff.1 Qab;obtain ⟨j0,h3,_⟩:=Option.map_eq_some_iff.1 Qac;exact run_eql_iface_ptr_same w (a i) Tryz.underlying40 Tryz.underlying360 h1 h2 h3
theorem Qlt {i j:Nat} {w:World} (hs:Sents B0 a w) (ha:Apart a) (h1:1≤i) (h2:i≤7) (h3:1≤j) (h4:j≤7) (hne:i≠j):(binOp .eql 40 (failV a i) (failV a j)).run Tryz.prog w = .ok (.bool false) w:=by
 obtain ⟨i0,k1,k2⟩:=Option.map_eq_some_iff.1 Qab;obtain ⟨j0,k3,k4⟩:=Option.map_eq_some_iff.1 Qac;obtain ⟨_,ci,ti,hi⟩:=hs i h1 h2;obtain ⟨_,cj,tj,hj⟩:=hs j h3 h4;exact run_eql_iface_ptr_other w Tryz.underlying40 Tryz.underlying360 k1 k2 k3 (by rw[k4];decide) (ha i j h1 h2 h3 h4 hne) hi hj
end
structure OpV where
 kind:Int
 a:ByteArray
 b:ByteArray
 n:Int
 m:Int
 pa:Option Addr
 pn:Nat
 pc:Nat
 da:Option Addr
 dn:Nat
 dc:Nat
 yes:Bool
section
variable {M : Value → World → Prop} {N : World → Prop} {k : Nat}
end
end
section
open Go.RowKit Go.Shelf Go.Maps Go.Sort
section
variable {B0 M : Nat} {a : Nat → Addr} {R R' S S' : Nat → Nat} {A A' : Adr} {d d' : Ds} {w w' w'' : World}
theorem Qjg (d:Ds):(stepD d).1≤7:=by
 unfold stepD
 repeat' split
 all_goals simp
theorem Qff (d:Ds) (s:St):(Kaz d s).1≤7:=by
 unfold Kaz;have:=Qjg d
 repeat' split
 all_goals first | exact this | simp
theorem Qcn (d:Ds) (s:Txt):(Kaw d s).1≤7:=by
 unfold Kaw;have:=Qff d (.remove s)
 repeat' split
 all_goals first | exact this | simp
theorem WF.nl (h:WF M d) (hM:M≤536870912):∀i,(Go.Proofs.YtefpndiiedkmpaaGreatDoor.fAt d i).now.length≤1073741824:=fun i=>by have:=(h.fAt i).now;omega
theorem WF.sl (h:WF M d) (hM:M≤536870912):∀i,(Go.Proofs.YtefpndiiedkmpaaGreatDoor.fAt d i).steps.length≤1073741824:=fun i=>by have:=(h.fAt i).sl;omega
theorem WF.usedL (h:WF M d):∀l:List Th,Go.Proofs.YtefpndiiedkmpaaGreatDoor.usedL d l≤l.length*M
 | []=>by simp[Go.Proofs.YtefpndiiedkmpaaGreatDoor.usedL]
 | x :: l=>by
  have h1:=h.usedL l
  have h2:(if x.dir then 0 else (nowAt d x.at_).length)≤M:=by
   split
   ·omega
   ·have:=(h.fAt x.at_).now;exact this
  have h3:Go.Proofs.YtefpndiiedkmpaaGreatDoor.usedL d (x :: l)=(if x.dir then 0 else (nowAt d x.at_).length)+Go.Proofs.YtefpndiiedkmpaaGreatDoor.usedL d l:=by simp[Go.Proofs.YtefpndiiedkmpaaGreatDoor.usedL]
  rw[h3,List.length_cons,Nat.add_mul];omega
theorem WF.used (h:WF M d) (hM:M≤536870912):Go.Proofs.YtefpndiiedkmpaaGreatDoor.usedL d d.things≤4611686018427387904:=by
 have h1:=h.usedL d.things;have h2:=h.tl;have h3:d.things.length*M≤536870912*536870912:=Nat.mul_le_mul (by omega) hM;omega
theorem WF.capl (h:WF M d):d.cap≤4611686018427387904:=by have:=h.cap;omega
end
structure OpE where
 o:OpV
 parts:List Txt
 data:List Int
instance:Inhabited OpE:=⟨⟨⟨0,⟨#[]⟩,⟨#[]⟩,0,0,none,0,0,none,0,0,false⟩,[],[]⟩⟩
section
variable {a : Nat → Addr} {M : Nat} {W w w' : World} {p q : Nat} {d : Ds}
end
structure Out (R R':Nat→Nat) (w w':World):Prop where
 os:w'.os=w.os
 tape:w'.tape=w.tape
 output:w'.output=w.output
 size:w.heap.size≤w'.heap.size
 block:∀k,k < w.heap.size→R k=0→w'.heap[k]? = w.heap[k]?
 old:∀k,k < w.heap.size→R k=0→R' k=0
section
variable {R R' R'' : Nat → Nat} {w w' w'' : World} {a : Nat → Addr} {B0 M M' p k : Nat} {d d' : Ds} {A : Adr} {v : Value}
theorem Knp {R:Nat→Nat} {k:Nat} (h:R k=0) (q:Nat):giv R q 0 k=0:=by
 unfold giv
 split
 ·rfl
 ·exact h
theorem Out.of_own (h:Own R R' w w'):Out R R' w w':=⟨h.os,h.tape,h.output,h.size,h.block,fun k hk h0=>(h.old k hk).trans h0⟩
theorem Out.trans (h:Out R R' w w') (k:Out R' R'' w' w''):Out R R'' w w'':=
 ⟨k.os.trans h.os,k.tape.trans h.tape,k.output.trans h.output,Nat.le_trans h.size k.size,
  fun i hi hr=>(k.block i (Nat.lt_of_lt_of_le hi h.size) (h.old i hi hr)).trans (h.block i hi hr),
  fun i hi hr=>k.old i (Nat.lt_of_lt_of_le hi h.size) (h.old i hi hr)⟩
theorem Out.of_below (h:Below w.heap.size w w'):Out R R w w':=⟨h.os,h.tape,h.output,h.size,fun k hk _=>h.block k hk,fun _ _ h=>h⟩
theorem Out.below {B:Nat} (h:Out R R' w w') (hB:B≤w.heap.size) (hR:∀k,k < B→R k=0):Below B w w':=
 ⟨h.os,h.tape,h.output,h.size,fun k hk=>h.block k (by omega) (hR k hk)⟩
theorem Out.free (h:Out R R' w w') (q:Nat):Out R (giv R' q 0) w w':=
 ⟨h.os,h.tape,h.output,h.size,h.block,fun k hk h0=>Knp (h.old k hk h0) q⟩
theorem Out.blk {g:Nat} {t:TypeId} {cs:Array Value} (h:Out R R' w w') (hg:Blk w g t cs) (h0:R g=0):Blk w' g t cs:=(h.block g hg.lt h0).trans hg
theorem RowIs.free {r:Nat} {T T2:TypeId} {sz n q:Nat} {xs:List Value} {cs:Array Value} (h:RowIs w R r T sz v n xs) (hq:Blk w q T2 cs) (hne:T≠T2):RowIs w (giv R q 0) r T sz v n xs:=by
 refine ⟨h.1,fun g hg=>?_⟩;rw[Kba,h.2 g hg];rintro rfl;rcases h.1.2 with ⟨rfl,_⟩ | ⟨g,cap,cur,rfl,_,h4,_⟩
 ·cases hg
 ·injection hg with hg;subst hg;exact (Blk.ne_ (t:=T) (cs:=cur) h4 hq hne) rfl
theorem Box.free {b q:Nat} {T T2:TypeId} {cs:Array Value} (h:Box w R b T v) (hq:Blk w q T2 cs) (hne:T≠T2):Box w (giv R q 0) b T v:=⟨h.1,by rw[Kba (Blk.ne_ h.1 hq hne)];exact h.2⟩
theorem MapM.free {r b q:Nat} {f:Txt→Option Value} {T2:TypeId} {cs:Array Value} (h:MapM w R r b f) (hq:Blk w q T2 cs):MapM w (giv R q 0) r b f:=by
 refine ⟨h.1,?_⟩;rw[Kba]
 ·exact h.2
 ·rintro rfl;obtain ⟨D,⟨es,clock,h1,_⟩,_⟩:=h.1;unfold Blk at hq;rw[hq] at h1;cases h1
theorem CD.free {q:Nat} {cs:Array Value} (h:CD B0 w R A d) (hq:Blk w q 59 cs):CD B0 w (giv R q 0) A d where
 blk:=h.blk
 rp:=by rw[Kba (Blk.ne_ h.blk hq (by decide))];exact h.rp
 dirs:=h.dirs.free hq
 files:=h.files.free hq
 sdirs:=h.sdirs.free hq
 sfiles:=h.sfiles.free hq
 steps:=by
  obtain ⟨fs,h1,h2,h3⟩:=h.steps;refine ⟨fs,h1.free hq (by decide),h2,fun i s f hs hf=>?_⟩;have h4:=h3 i s f hs hf
  cases s with
  | mkdir a=>exact (show False from h4).elim
  | create a i=>obtain ⟨b,c,e,h5,h6⟩:=h4;exact ⟨b,c,e,h5.free hq (by decide),h6.free hq (by decide)⟩
  | rename a a'=>obtain ⟨b,c,e,h5,h6⟩:=h4;exact ⟨b,c,e,h5.free hq (by decide),h6.free hq (by decide)⟩
  | remove a=>obtain ⟨b,e,h5⟩:=h4;exact ⟨b,e,h5.free hq (by decide)⟩
 bytes:=⟨h.bytes.1,fun i b f hb hf=>by
  obtain ⟨v,h1,h2,h3⟩:=h.bytes.2 i b f hb hf
  exact ⟨v,h1,by rw[Kba (Blk.ne_ h1 hq (by decide))];exact h2,h3.free hq (by decide)⟩⟩
 inw:=fun k hk=>h.inw k fun e=>hk (Knp e q)
 low:=fun k hk=>Knp (h.low k hk) q
structure Dk (B0 M:Nat) (w:World) (R:Nat→Nat) (p:Nat) (d:Ds):Prop where
 ex:∃A,CD B0 w R A d∧A.p=p
 wf:WF M d
theorem Dk.below (h:Dk B0 M w R p d) (hb:Below w.heap.size w w'):Dk B0 M w' R p d:=by
 obtain ⟨A,h1,h2⟩:=h.ex;exact ⟨⟨A,h1.below hb,h2⟩,h.wf⟩
theorem Dk.more (h:Dk B0 M w R p d) (hM:M≤M'):Dk B0 M' w R p d:=⟨h.ex,h.wf.more hM⟩
theorem Dk.low (h:Dk B0 M w R p d):∀k,k < B0→R k=0:=by
 obtain ⟨A,h1,h2⟩:=h.ex;exact h1.low
theorem Dk.new (h:Dk B0 M w R p d) {k:Nat} (hk:w.heap.size≤k):R k=0:=by
 obtain ⟨A,h1,h2⟩:=h.ex;exact h1.inw.new hk
def ErrW (a:Nat→Addr) (w:World) (R:Nat→Nat):Nat→Value→Prop
 | 0,v=>v = .nilIface
 | k+1,v=>∃q op path,v = .iface 56 (.pointer (some ⟨q,0,none⟩))∧Blk w q 59 #[.string op,.string path,failV a (k+1)]∧R q=0
theorem ErrW.out (h:ErrW a w R k v) (ho:Out R R' w w'):ErrW a w' R' k v:=by
 cases k with
 | zero=>exact h
 | succ k=>
  obtain ⟨q,op,path,h1,h2,h3⟩:=h;exact ⟨q,op,path,h1,ho.blk h2 h3,ho.old q h2.lt h3⟩
theorem ErrW.nil (h:ErrW a w R k v) (hk:k=0):v = .nilIface:=by subst hk;exact h
theorem ErrW.some_ (h:ErrW a w R k v) (hk:k≠0):∃q op path,v = .iface 56 (.pointer (some ⟨q,0,none⟩))∧Blk w q 59 #[.string op,.string path,failV a k]∧R q=0:=by
 cases k with
 | zero=>exact absurd rfl hk
 | succ k=>exact h
def DkOut (a:Nat→Addr) (B0 M:Nat) (R:Nat→Nat) (p:Nat) (r:Nat×Ds) (w:World) (e:Ending) (w':World):Prop:=
 ∃v R',e = .returned v∧ErrW a w' R' r.1 v∧Dk B0 M w' R' p r.2∧Out R R' w w'
theorem DkOut.mk' {op s:ByteArray} {R':Nat→Nat} (h1:ErrV a w' op s k v) (h2:CD B0 w' R' A d') (h3:Out R R' w w') (hw:WF M d') :
  ∃R'',ErrW a w' R'' k v∧Dk B0 M w' R'' A.p d'∧Out R R'' w w':=by
 cases k with
 | zero=>exact ⟨R',h1,⟨⟨A,h2,rfl⟩,hw⟩,h3⟩
 | succ k=>
  obtain ⟨q,e,h4⟩:=h1;exact ⟨giv R' q 0,⟨q,op,s,e,h4,Kcq _ _ _⟩,⟨⟨A,h2.free h4,rfl⟩,hw⟩,h3.free q⟩
theorem DkOut.of {r:Nat×Ds} {op s:ByteArray} {e:Ending} (h:Kdw B0 a R A r op s w e w') (hw:WF M r.2):DkOut a B0 M R A.p r w e w':=by
 obtain ⟨v,R',A',rfl,h1,h2,h3,h4,_⟩:=h;obtain ⟨R'',k1,k2,k3⟩:=DkOut.mk' h1 h2 (Out.of_own h3) hw;rw[h4] at k2;exact ⟨v,R'',rfl,k1,k2,k3⟩
theorem Dk.create (h:Dk B0 M w R p d) (hM:M≤536870912) (hB:B0≤w.heap.size) (hF:Fails B0 a w) (S:ByteArray) (hS:S.size≤1073741824) :
  Calls Tryz.prog 57 #[.pointer (some ⟨p,0,none⟩),.string S] w (DkOut a B0 (M+1) R p (Kbm d S.data.toList) w):=by
 obtain ⟨A,hc,rfl⟩:=h.ex;exact (Kum S w hc (h.wf.fit hM) h.wf.nums hS hB hF).mono fun _ _ k=>.of k (h.wf.create _)
theorem Dk.append (h:Dk B0 M w R p d) (hM:M≤536870912) (hB:B0≤w.heap.size) (hF:Fails B0 a w) (S:ByteArray) (hS:S.size≤1073741824) (Ao:Option Addr) (t:Txt) (hl:Strs w Ao 1 [t]) (ht:t.length≤140737488351232) :
  Calls Tryz.prog 59 #[.pointer (some ⟨p,0,none⟩),.string S,.slice Ao 1 1] w (DkOut a B0 (M+t.length+1) R p (Kbx d S.data.toList t) w):=by
 obtain ⟨A,hc,rfl⟩:=h.ex;have e:[t].flatten=t:=by simp
 have hk:=Kst (a:=a) S Ao 1 1 [t] w hc (h.wf.fit hM) hS hB hF hl (by decide) (by decide) (by rw[e];omega) (h.wf.used hM) h.wf.capl (h.wf.nl hM) (h.wf.sl hM);rw[e] at hk;exact hk.mono fun _ _ k=>.of k.weak (h.wf.append _ _)
theorem Dk.sync (h:Dk B0 M w R p d) (hM:M≤536870912) (hB:B0≤w.heap.size) (hF:Fails B0 a w) (S:ByteArray) (hS:S.size≤1073741824) :
  Calls Tryz.prog 61 #[.pointer (some ⟨p,0,none⟩),.string S] w (DkOut a B0 (M+1) R p (syncD d S.data.toList) w):=by
 obtain ⟨A,hc,rfl⟩:=h.ex;exact (Qcx S w hc (h.wf.fit hM) hS hB hF).mono fun _ _ k=>.of k.weak (h.wf.sync _)
theorem Dk.syncNames (h:Dk B0 M w R p d) (hM:M≤536870912) (hB:B0≤w.heap.size) (hF:Fails B0 a w) :
  Calls Tryz.prog 64 #[.pointer (some ⟨p,0,none⟩)] w (DkOut a B0 (M+1) R p (Kbh d) w):=by
 obtain ⟨A,hc,rfl⟩:=h.ex;exact (Kps w hc (h.wf.fit hM) hB hF).mono fun _ _ k=>.of k.weak h.wf.syncNames
theorem Dk.rename (h:Dk B0 M w R p d) (hM:M≤536870912) (hB:B0≤w.heap.size) (hF:Fails B0 a w) (S S2:ByteArray) (hS:S.size≤1073741824) (hS2:S2.size≤1073741824) :
  Calls Tryz.prog 63 #[.pointer (some ⟨p,0,none⟩),.string S,.string S2] w (DkOut a B0 (M+1) R p (Kal d S.data.toList S2.data.toList) w):=by
 obtain ⟨A,hc,rfl⟩:=h.ex;exact (Kwe S S2 w hc (h.wf.fit hM) hS hS2 hB hF).mono fun _ _ k=>.of k.weak (h.wf.rename _ _)
theorem Dk.remove (h:Dk B0 M w R p d) (hM:M≤536870912) (hB:B0≤w.heap.size) (hF:Fails B0 a w) (S:ByteArray) (hS:S.size≤1073741824) :
  Calls Tryz.prog 54 #[.pointer (some ⟨p,0,none⟩),.string S] w (DkOut a B0 (M+1) R p (Kaw d S.data.toList) w):=by
 obtain ⟨A,hc,rfl⟩:=h.ex;exact (Kwd S w hc (h.wf.fit hM) hS hB hF).mono fun _ _ k=>.of k.weak (h.wf.remove _)
def Qli (a:Nat→Addr) (B0 M:Nat) (R:Nat→Nat) (p:Nat) (d:Ds) (P:Value→World→Prop) (k:Nat) (w:World) (e:Ending) (w':World):Prop:=
 ∃u v R',e = .returned (.tuple #[u,v])∧P u w'∧ErrW a w' R' k v∧Dk B0 M w' R' p d∧Out R R' w w'
theorem Dk.all (h:Dk B0 M w R p d) (hM:M≤536870912) (hB:B0≤w.heap.size) (hF:Fails B0 a w) (S:ByteArray) (hS:S.size≤1073741824) :
  Calls Tryz.prog 21 #[.pointer (some ⟨p,0,none⟩),.string S] w (Qli a B0 M R p d (fun u _=>u=txtV (allD d S.data.toList).1) (allD d S.data.toList).2 w):=by
 obtain ⟨A,hc,rfl⟩:=h.ex;refine (Qax S w hc (h.wf.fit hM) hS hB hF).mono ?_;rintro e w2 ⟨v,rfl,hv,hb⟩;obtain ⟨R'',k1,k2,k3⟩:=DkOut.mk' hv (hc.below hb) (Out.of_below (R:=R) hb) h.wf;exact ⟨_,v,R'',rfl,rfl,k1,k2,k3⟩
theorem Dk.made (n:Int) (hn:n≤9223372036854775807) (hn':-9223372036854775808≤n) (w:World) (hB:B0≤w.heap.size) :
  Calls Tryz.prog 16 #[.int .i64 n] w fun x w1=>∃p R,x = .returned (.pointer (some ⟨p,0,none⟩))∧Dk B0 0 w1 R p (newD n)∧Below w.heap.size w w1∧∀k,k < w.heap.size→R k=0:=
 (Qfg w.heap.size n w (Nat.le_refl _) hn hn').mono fun x w1 ⟨R,A,e,h1,h2,h3⟩=>⟨A.p,R,e,⟨⟨A,⟨h1.blk,h1.rp,h1.dirs,h1.files,h1.sdirs,h1.sfiles,h1.steps,h1.bytes,h1.inw,fun k hk=>h1.low k (by omega)⟩,rfl⟩,WF.new n⟩,h2,h1.low⟩
end
end
section
open Go.RowKit Go.Extern.Stop Go.Stop Go.Extern
attribute [local go_sem ↓] Go.wp_at_zero Go.wp_at_succ
theorem Qew (v:Value) (w:World):(Extern.ReflectliteType.typeOf #[.iface 360 v]).run Tryz.prog w = .ok (.iface 259 (.agg #[.pointer (some ⟨Tryz.prog.globals.size,360,none⟩)])) w:=by kernel_rfl
def cmpM:Array Value→Sem Value:=Extern.ReflectliteType.method fun t=>do Extern.Rtype.noPackHeld "Comparable" t;pure (.bool (←typeInfo t).comparable)
theorem Ktd (w:World):(cmpM #[.agg #[.pointer (some ⟨Tryz.prog.globals.size,360,none⟩)]]).run Tryz.prog w = .ok (.bool true) w:=by kernel_rfl
theorem Qhp (v:Value) (xT:TypeId) (w:World):(Instr.typeAssert (.iface 360 v) xT 261 true).run Tryz.prog w = .ok (.tuple #[.nilIface,.bool false]) w:=run_typeAssert_lacksB Tryz.underlying261 (by kernel_rfl) (by kernel_rfl) v xT w
theorem Kvk (v:Value) (xT:TypeId) (w:World):(Instr.typeAssert (.iface 360 v) xT 264 true).run Tryz.prog w = .ok (.tuple #[.nilIface,.bool false]) w:=run_typeAssert_lacksB Tryz.underlying264 (by kernel_rfl) (by kernel_rfl) v xT w
theorem Ktf (v:Value) (xT:TypeId) (w:World):(Instr.typeAssert (.iface 360 v) xT 265 true).run Tryz.prog w = .ok (.tuple #[.nilIface,.bool false]) w:=run_typeAssert_lacksB Tryz.underlying265 (by kernel_rfl) (by kernel_rfl) v xT w
theorem Qhq (v:Value) (xT:TypeId) (w:World):(Instr.typeAssert (.iface 56 v) xT 261 true).run Tryz.prog w = .ok (.tuple #[.nilIface,.bool false]) w:=run_typeAssert_lacksB Tryz.underlying261 (by kernel_rfl) (by kernel_rfl) v xT w
theorem Kte (v:Value) (xT:TypeId) (w:World):(Instr.typeAssert (.iface 56 v) xT 264 true).run Tryz.prog w = .ok (.tuple #[.iface 56 v,.bool true]) w:=run_typeAssert_hasB Tryz.underlying264 (by kernel_rfl) v xT w
section
variable {B0 : Nat} {a : Nat → Addr}
theorem Qbt (q i j:Nat) (op path:ByteArray) (w:World) (hq:Blk w q 59 #[.string op,.string path,failV a i]) (hs:Sents B0 a w) (ha:Apart a) (h1:1≤i) (h2:i≤7) (h3:1≤j) (h4:j≤7) :
  Calls Tryz.prog 113 #[.iface 56 (.pointer (some ⟨q,0,none⟩)),failV a j,.bool true] w fun e w'=>e = .returned (.bool (decide (i=j)))∧w=w':=by
 have m2:w.cell? ⟨q,2,none⟩=some (failV a i):=hq.cell 2;have nF:=Qhq;have uF:=Kte;have nE:=Qhp;have uE:=Kvk;have vE:=Ktf;have hty:=run_eql_iface_types (P:=Tryz.prog) 56 360 (.pointer (some ⟨q,0,none⟩)) (.pointer (some (a j))) Tryz.underlying40 (by decide) w
 by_cases hij:i=j
 ·subst hij;have heq:=Qls (a:=a) i w;rw[decide_eq_true rfl];unfold failV at m2 heq ⊢;clear hq hs ha;go_enter Tryz.func113,Tryz.ntmps113
  go_wp2
  refine wp_loop_rounds 2 ?_;rw[rounds_succ];go_wp2
  rw[rounds_succ];go_wp2
  go_ret
  exact ⟨rfl,rfl⟩
 ·have hne:=Qlt (w:=w) hs ha h1 h2 h3 h4 hij;rw[decide_eq_false hij];unfold failV at m2 hne ⊢;clear hq hs ha;go_enter Tryz.func113,Tryz.ntmps113
  go_wp2
  refine wp_loop_rounds 2 ?_;rw[rounds_succ];go_wp2
  rw[rounds_succ];go_wp2
  go_ret
  exact ⟨rfl,rfl⟩
theorem Qev (q i j:Nat) (op path:ByteArray) (w:World) (hq:Blk w q 59 #[.string op,.string path,failV a i]) (hs:Sents B0 a w) (ha:Apart a) (h1:1≤i) (h2:i≤7) (h3:1≤j) (h4:j≤7) :
  Calls Tryz.prog 55 #[.iface 56 (.pointer (some ⟨q,0,none⟩)),failV a j] w fun e w'=>e = .returned (.bool (decide (i=j)))∧w=w':=by
 have HI:=Lib.hid (Qbt q i j op path w hq hs ha h1 h2 h3 h4);have h8:=@run_callFunc_extern Tryz.prog 112 _ Extern.ReflectliteType.typeOf Tryz.func112 (by kernel_rfl) (by kernel_rfl) (by kernel_rfl) (by kernel_rfl);have h32:=@run_callFunc_extern Tryz.prog 299 _ cmpM Tryz.func299 (by kernel_rfl) (by kernel_rfl) (by kernel_rfl) (by kernel_rfl);have tT:=Qew;have cT:=Ktd;obtain ⟨gs,hgs⟩:∃g,Tryz.prog.globals.size=g:=⟨_,rfl⟩;rw[hgs] at cT;simp only[hgs] at tT;clear hgs;unfold failV at HI ⊢;clear hq hs ha;go_enter Tryz.func55,Tryz.ntmps55
 go_wp2_with fail
 refine HI.out.mono ?_;rintro e w' ⟨rfl,rfl⟩;go_wp2_with fail
 go_ret
 exact ⟨rfl,rfl⟩
theorem Kvj (j:Nat) (w:World) :
  Calls Tryz.prog 55 #[.nilIface,failV a j] w fun e w'=>e = .returned (.bool false)∧w=w':=by
 have hn:=run_eql_iface_nil_left (P:=Tryz.prog) w 360 (.pointer (some (a j))) Tryz.underlying40;unfold failV;go_enter Tryz.func55,Tryz.ntmps55
 go_wp2_with fail
 go_ret
 exact ⟨rfl,rfl⟩
end
end
end Go.Proofs.YtefpndiiedkmpaaGreatDoor
