/- Merged (what the claim wants of): KptLawA, KptLawB, KptLawC, OpenS, OpenBulk, OpenSym, OpenLab, OpenSets, KptOpen, KptSpoil, DskLaid, KptD, KptProofSF, KptProofS. -/
import Derived.Test.YtefpndiiedkmpaaGreatDoorKps13
import Derived.Test.YtefpndiiedkmpaaGreatDoorKps10
import Derived.Test.YtefpndiiedkmpaaGreatDoorRows
import Derived.ProofKit
import Derived.SizedLaws
import Derived.OpenShut
import Derived.ChangeMaps5
import Derived.Test.YtefpndiiedkmpaaGreatDoorKps01
import Derived.Deep.Slices
import Derived.Test.YtefpndiiedkmpaaGreatDoorKps03
import Derived.Test.YtefpndiiedkmpaaGreatDoorKps06
import Derived.Stop.LaidTwo
import Derived.Test.YtefpndiiedkmpaaGreatDoorCards
import Derived.Test.YtefpndiiedkmpaaGreatDoorTie
import Derived.WalkKit
import Derived.Deep.DeepHandedRow
import Derived.Deep.DeepWitnessRowRef
import Derived.Lib.LaidTab
set_option linter.unusedVariables false
set_option linter.unusedSimpArgs false
set_option maxRecDepth 100000
set_option maxHeartbeats 8000000
namespace Go.Proofs.YtefpndiiedkmpaaGreatDoor
section
open Go.RowKit Go.Shelf Go.Sort
attribute [local go_sem ↓] Go.wp_at_zero Go.wp_at_succ
attribute [local go_sem] Later.cell
def wakeS:KSer:=⟨[⟨[97],[120]⟩],9,[],[],[],[⟨3,4⟩,⟨9,5⟩]⟩
theorem Kjw:fitK [wakeS]=true:=by decide
theorem Khq:(encK [wakeS]).length≤1000:=by
 have h1:=Kno Kjw;have h2:labsK [wakeS]=1:=rfl;have h3:massK [wakeS]=2:=rfl
 have h4:(encK [wakeS]).length=(bodyK [wakeS]).length+4:=by
  unfold encK sealT;rw[List.length_append];rfl
 simp only[List.length_singleton] at h1;omega
theorem Qlc:KSz wakeS:=⟨by decide,by decide,by decide,by decide,⟨fun x hx=>(nomatch hx),fun x hx=>(nomatch hx),fun x hx=>(nomatch hx)⟩,by decide,by decide⟩
theorem Kxl:∀s∈[wakeS],KSz s:=fun s hs=>by
 rw[List.mem_singleton] at hs;rw[hs];exact Qlc
theorem Qjl:decK (encK [wakeS]) = .ok [wakeS]:=Qjy Kjw (Qhs Kjw Kxl (by decide))
theorem Qld {w:World} {q:Nat} (h0:Blk w q 106 #[.string ⟨#[97]⟩,.string ⟨#[120]⟩]) (h1:Blk w (q+1) 93 #[.int .i64 3,.int .u64 4,.int .i64 9,.int .u64 5]) :
  KAt w ⟨⟨some ⟨q,0,none⟩,1,1⟩,⟨none,0,0⟩,⟨none,0,0⟩,⟨none,0,0⟩,⟨some ⟨q+1,0,none⟩,2,2⟩⟩ wakeS:=by
 refine ⟨⟨rfl,fun _=>⟨q,0,rfl,h0.lt,fun i x hx j v hv=>?_⟩⟩,Nat.le_refl _,Elems.nil_,Elems.nil_,Elems.nil_,⟨rfl,fun _=>⟨q+1,0,rfl,h1.lt,fun i x hx j v hv=>?_⟩⟩,Nat.le_refl _⟩
 ·match i,hx with
  | 0,hx=>
   injection hx with hx;subst hx
   match j,hv with
   | 0,hv=>injection hv with hv;subst hv;exact h0.cell 0
   | 1,hv=>injection hv with hv;subst hv;exact h0.cell 1
 ·match i,hx with
  | 0,hx=>
   injection hx with hx;subst hx
   match j,hv with
   | 0,hv=>injection hv with hv;subst hv;exact h1.cell 0
   | 1,hv=>injection hv with hv;subst hv;exact h1.cell 1
  | 1,hx=>
   injection hx with hx;subst hx
   match j,hv with
   | 0,hv=>injection hv with hv;subst hv;exact h1.cell 2
   | 1,hv=>injection hv with hv;subst hv;exact h1.cell 3
theorem Qls {w:World} {q:Nat} {h:KHd} {s:KSer} (hk:KAt w h s) (hq:Blk w q 85 (encKY ⟨h,s.max⟩).toArray):KSers w (some ⟨q,0,none⟩) 1 [s]:=by
 refine ⟨[⟨h,s.max⟩],⟨rfl,fun _=>⟨q,0,rfl,hq.lt,fun i x hx j v hv=>?_⟩⟩,rfl,fun i hi=>?_⟩
 ·match i,hx with
  | 0,hx=>
   injection hx with hx;subst hx
   match j,hv with
   | 0,hv=>injection hv with hv;subst hv;exact hq.cell 0
   | 1,hv=>injection hv with hv;subst hv;exact hq.cell 1
   | 2,hv=>injection hv with hv;subst hv;exact hq.cell 2
   | 3,hv=>injection hv with hv;subst hv;exact hq.cell 3
   | 4,hv=>injection hv with hv;subst hv;exact hq.cell 4
   | 5,hv=>injection hv with hv;subst hv;exact hq.cell 5
 ·obtain rfl:i=0:=by omega
  exact ⟨rfl,hk⟩
theorem Kto (w:World):Calls Tryz.prog 40 #[] w fun e w'=>(∃h:KHd,e = .returned (kserV h 9)∧KAt w' h wakeS)∧Below w.heap.size w w':=by
 go_enter Tryz.func40,Tryz.ntmps40
 go_upto_region 1 with fail
 go_wp2_with fail
 obtain ⟨q,hq⟩:∃q,w.heap.size=q:=⟨_,rfl⟩;have hb1:Below w.heap.size w (((w.alloc (.cells #[.slice (some ⟨w.heap.size+1,0,none⟩) 1 1,.int .i64 9,.slice none 0 0,.slice none 0 0,.slice none 0 0,.slice (some ⟨w.heap.size+1+1,0,none⟩) 2 2] 85)).alloc (.cells #[.string ⟨#[97]⟩,.string ⟨#[120]⟩] 106)).alloc (.cells #[.int .i64 3,.int .u64 4,.int .i64 9,.int .u64 5] 93)):=((((Below.refl _ _).alloc (Nat.le_refl _) _).alloc (by simp) _).alloc (by simp;omega) _);have k0:Blk (((w.alloc (.cells #[.slice (some ⟨w.heap.size+1,0,none⟩) 1 1,.int .i64 9,.slice none 0 0,.slice none 0 0,.slice none 0 0,.slice (some ⟨w.heap.size+1+1,0,none⟩) 2 2] 85)).alloc (.cells #[.string ⟨#[97]⟩,.string ⟨#[120]⟩] 106)).alloc (.cells #[.int .i64 3,.int .u64 4,.int .i64 9,.int .u64 5] 93)) w.heap.size 85 #[.slice (some ⟨w.heap.size+1,0,none⟩) 1 1,.int .i64 9,.slice none 0 0,.slice none 0 0,.slice none 0 0,.slice (some ⟨w.heap.size+1+1,0,none⟩) 2 2]:=((Blk.new _ _ _).alloc _).alloc _;have k1:Blk (((w.alloc (.cells #[.slice (some ⟨w.heap.size+1,0,none⟩) 1 1,.int .i64 9,.slice none 0 0,.slice none 0 0,.slice none 0 0,.slice (some ⟨w.heap.size+1+1,0,none⟩) 2 2] 85)).alloc (.cells #[.string ⟨#[97]⟩,.string ⟨#[120]⟩] 106)).alloc (.cells #[.int .i64 3,.int .u64 4,.int .i64 9,.int .u64 5] 93)) (w.heap.size+1) 106 #[.string ⟨#[97]⟩,.string ⟨#[120]⟩]:=(Blk.newAt (by simp)).alloc _;have k2:Blk (((w.alloc (.cells #[.slice (some ⟨w.heap.size+1,0,none⟩) 1 1,.int .i64 9,.slice none 0 0,.slice none 0 0,.slice none 0 0,.slice (some ⟨w.heap.size+1+1,0,none⟩) 2 2] 85)).alloc (.cells #[.string ⟨#[97]⟩,.string ⟨#[120]⟩] 106)).alloc (.cells #[.int .i64 3,.int .u64 4,.int .i64 9,.int .u64 5] 93)) (w.heap.size+1+1) 93 #[.int .i64 3,.int .u64 4,.int .i64 9,.int .u64 5]:=Blk.newAt (by simp);obtain ⟨w1,hw1⟩:∃x,(((w.alloc (.cells #[.slice (some ⟨w.heap.size+1,0,none⟩) 1 1,.int .i64 9,.slice none 0 0,.slice none 0 0,.slice none 0 0,.slice (some ⟨w.heap.size+1+1,0,none⟩) 2 2] 85)).alloc (.cells #[.string ⟨#[97]⟩,.string ⟨#[120]⟩] 106)).alloc (.cells #[.int .i64 3,.int .u64 4,.int .i64 9,.int .u64 5] 93))=x:=⟨_,rfl⟩;rw[hw1] at hb1 k0 k1 k2 ⊢;rw[hq] at k0 k1 k2 ⊢;refine bodyPost_ret (Kee rfl _ _ ⟨q,0,none⟩ (kserV ⟨⟨some ⟨q+1,0,none⟩,1,1⟩,⟨none,0,0⟩,⟨none,0,0⟩,⟨none,0,0⟩,⟨some ⟨q+1+1,0,none⟩,2,2⟩⟩ 9) rfl (run_loadVar_row _ q 85 85 _ (0,0) _ k0 Tryz.underlying85 rfl (by kernel_rfl))) rfl ?_;exact ⟨⟨_,rfl,Qld k1 k2⟩,hq▸hb1⟩
end
section
open Go.RowKit Go.Shelf Go.Sort
open Lib renaming hid → Jh
attribute [local go_sem ↓] Go.wp_at_zero Go.wp_at_succ
attribute [local go_sem] Later.cell
def sC:Txt:=[99]
theorem Klv:nameB sC=true:=by decide
theorem Qfy:nameB (sC++Kdf)=true:=by decide
theorem Qib:newD 100000=roomD 100000:=rfl
theorem Qgu {w:World} {A:Option Addr} (h:KSers w A 1 [wakeS]):∃b off sb so sc,A=some ⟨b,off,none⟩∧b < w.heap.size∧sb < w.heap.size∧w.cell? ⟨b,off+5,none⟩=some (.slice (some ⟨sb,so,none⟩) 2 sc)∧w.cell? ⟨sb,so+3,none⟩=some (.int .u64 5):=by
 obtain ⟨b,off,hd,e,hb,_,_,_,_,_,h5,hk⟩:=h.at_ (i:=0) (by decide);obtain ⟨sb,so,e2,hsb,hc⟩:=hk.s.get (i:=1) (by rw[←hk.s.1];decide);have hn:hd.s.n=2:=hk.s.1.symm;refine ⟨b,off,sb,so,hd.s.c,e,hb,hsb,?_,hc 1 (.int .u64 5) rfl⟩;rw[e2,hn] at h5;exact h5
section
variable {B0 : Nat} {a : Nat → Addr}
theorem Ktw (w:World) (hC:QCon B0 a) (hE:QEnv B0 a w):Calls Tryz.prog 10 #[] w fun e w'=>e = .returned (.bool true)∧Below w.heap.size w w':=by
 have HC:=Jh hC;have HE0:=Jh hE;have HN:=Jh (Dk.made 100000 (by decide) (by decide) w hE.hb);clear hC hE;go_enter Tryz.func10,Tryz.ntmps10
 go_wp2_with fail
 refine HN.out.mono ?_;rintro e w1 ⟨p,R,rfl,hd1,hb1,hz1⟩;rw[Qib] at hd1;have HZ:=Jh hz1;have HB1:=Jh hb1;have HE1:=Jh (HE0.out.low HC.out hb1);have HD1:=Jh hd1;clear hd1 hb1 hz1;go_wp2_with fail
 refine (Kto w1).mono ?_;rintro _ w2 ⟨⟨h,rfl,hk⟩,hb2⟩;have HK:=Jh hk;have HB2:=Jh hb2;clear hk hb2;unfold kserV;obtain ⟨S,hS⟩:∃S:ByteArray,(⟨#[99]⟩:ByteArray)=S:=⟨_,rfl⟩;have hSd:S.data.toList=sC:=by rw[←hS];rfl
 have hSz:S.size=1:=by rw[←hS];rfl
 have HS:=Jh hSd;have HSz:=Jh hSz;have hk3:KSers (w2.alloc (.cells (encKY ⟨h,wakeS.max⟩).toArray 85)) (some ⟨w2.heap.size,0,none⟩) 1 [wakeS]:=Qls (HK.out.below ((Below.refl _ _).alloc (Nat.le_refl _) _)) (Blk.new _ _ _);have hb3:Below w2.heap.size w2 (w2.alloc (.cells (encKY ⟨h,wakeS.max⟩).toArray 85)):=(Below.refl _ _).alloc (Nat.le_refl _) _;obtain ⟨w3,hw3⟩:∃x,w2.alloc (.cells (encKY ⟨h,wakeS.max⟩).toArray 85)=x:=⟨_,rfl⟩;obtain ⟨q,hq⟩:∃x,w2.heap.size=x:=⟨_,rfl⟩;rw[hw3] at hk3 hb3;have HO3:Hid (Out R R w1 w3):=Jh (Out.of_below (HB2.out.trans (hb3.mono HB2.out.size)));have hd3:=HD1.out.below (HB2.out.trans (hb3.mono HB2.out.size));have he3:=HE1.out.low HC.out (HB2.out.trans (hb3.mono HB2.out.size));have hsv:=Kmj [wakeS] (some ⟨q,0,none⟩) 1 1 S w3 (by rw[←hq];exact hk3) Kxl (by decide) Kjw (by have:=Khq;omega) hd3 (by have:=Khq;omega) HC.out he3 (by rw[hSz];decide);rw[hSd,Qac 100000 sC (encK [wakeS]) Klv Qfy (by have:=Khq;omega)] at hsv;have HSV:=Jh hsv;have HD3:=Jh hd3;have HE3:=Jh he3;have hwx:w2.alloc (.cells #[.slice h.l.A h.l.n h.l.c,.int .i64 9,.slice h.g0.A h.g0.n h.g0.c,.slice h.g1.A h.g1.n h.g1.c,.slice h.g2.A h.g2.n h.g2.c,.slice h.s.A h.s.n h.s.c] 85)=w3:=hw3;clear hk3 hb3 hd3 he3 hsv hw3 hSd hSz;go_upto_region 2 with fail
 go_wp2_with fail
 refine HSV.out.mono ?_;rintro e w4 ⟨v4,R4,rfl,hv4,hd4,ho4⟩;obtain rfl:v4 = .nilIface:=hv4;have HD4:=Jh hd4;have HE4:=Jh (HE3.out.out HC.out HD3.out ho4);have HO4:=Jh (HO3.out.trans ho4);have hld:=Kmi S (encK [wakeS]) w4 (by rw[HS.out];exact Qio 100000 sC _ Klv) (by have:=Khq;omega) HD4.out (by have:=Khq;omega) HC.out HE4.out (by rw[HSz.out];decide);rw[Qjl] at hld;have HLD:=Jh hld;clear hd4 ho4 hld hwx;go_wp2_with fail
 refine HLD.out.mono ?_;rintro e w5 ⟨R5,⟨A,c,rfl,h5,_,_⟩,hd5,ho5⟩;have hn1:[wakeS].length=1:=rfl;rw[hn1] at h5 ⊢;have HE5:=Jh (HE4.out.out HC.out HD4.out ho5);have HO5:=Jh (HO4.out.trans ho5);have HB5:=Jh (HB1.out.trans (HO5.out.below HB1.out.size HZ.out));have H5:=Jh h5;have hde:=Kkc ⟨#[]⟩ w5 (by decide) HE5.out.nib HE5.out.db;have hdn:decK (⟨#[]⟩:ByteArray).data.toList = .error 20:=rfl;rw[hdn] at hde;have HDE:=Jh hde;clear hd5 ho5 h5 hde hdn hn1 hS;go_wp2_with fail
 refine HDE.out.mono ?_;rintro e w6 ⟨h6,hb6⟩;obtain rfl:=h6;have HB6:=Jh (HB5.out.trans (hb6.mono HB5.out.size));obtain ⟨b,off,sb,so,sc,rfl,hbz,hsz,x5,x3⟩:=Qgu (H5.out.below hb6);have x3':w6.cell? ⟨sb,so+2+1,none⟩=some (.int .u64 5):=x3;clear hb6;go_wp2_with fail
 go_ret
 exact ⟨rfl,HB6.out⟩
end
end
section
open Go.RowKit Go.Shelf Go.Sort
attribute [local go_sem ↓] Go.wp_at_zero Go.wp_at_succ
attribute [local go_sem] Later.cell
structure LSzK (L:List KSer):Prop where
 n:L.length≤1048576
 k:labsK L≤349525
 m:massK L≤1048576
 z:∀s∈L,KSz s
theorem LSzK.len {L:List KSer} (h:LSzK L) (hf:fitK L=true):(encK L).length≤200000000:=by
 have h1:=Kno hf;have h2:=Kix L;have:=h.n;have:=h.k;have:=h.m;omega
section
variable {B0 : Nat} {a : Nat → Addr}
theorem Qke (L:List KSer) (A:Option Addr) (n c:Nat) (w:World) (hS:KSers w A n L) (hL:LSzK L) (hE:QEnv B0 a w) :
  Calls Tryz.prog 9 #[.slice A n c] w fun e w'=>(∃S:ByteArray,e = .returned (.tuple #[.string S,.int .i64 (if fitK L=true then 0 else 150)])∧S.data.toList=(if fitK L=true then encK L else [])∧S.size≤200000000)∧Below w.heap.size w w':=by
 have hn:n≤1048576:=by rw[←hS.len];exact hL.n
 refine (Kgi L A n c w hS hL.z (by omega) hE.db hE.nib (fun hf=>by have:=hL.len hf;have:=Kix L;omega)).mono ?_;rintro e w' ⟨rfl,hb⟩
 by_cases hf:fitK L=true
 ·refine ⟨⟨⟨(encK L).toArray⟩,?_,?_,hL.len hf⟩,hb⟩
  ·unfold kencF;rw[if_pos hf,if_pos hf];rfl
  ·rw[if_pos hf]
 ·refine ⟨⟨⟨#[]⟩,?_,?_,Nat.zero_le _⟩,hb⟩
  ·unfold kencF;rw[if_neg hf,if_neg hf];rfl
  ·rw[if_neg hf]
end
end
section
open Go.ChangeShapes Go.WideShapes Go.ChangeAt Go.RowKit
theorem Tryz.own:ownKnob Tryz.prog.godebug=none:=by kernel_rfl
theorem Tryz.laidOut:laidOutB Tryz.prog=true:=by kernel_rfl
end
section
open Go.ChangeShapes Go.WideShapes Go.ChangeAt Go.RowKit Go.Deep
section
variable {H : Type} {enc : TypeId × Value → H} {P : Program} {w : World} {base : Nat} {spare : Nat → Bool} {held : Bool}
theorem Khw {α : Type} [Inhabited α] {t e:TypeId} {sz:Nat} {ea:α→List Value} {Q:DataW H→α→Prop} (ht:P.underlying t=some (.slice e)) (hc:P.cellsOf e=sz) (h0:0 < sz) (hz:∀y,(ea y).length=sz)
  (ho:∀(fuel:Nat) (l:List Value) (x:DataW H×List MemPlace),DataW.trod enc P w base spare held fuel e l=some x→∃y,l=ea y∧Q x.1 y)
  {fuel:Nat} {v:Value} {x:DataW H×List MemPlace} (h:DataW.trod enc P w base spare held fuel t [v]=some x) :
  ∃A n c ys,v = .slice A n c∧(A=none→c=0)∧n≤c∧Elems w w.heap.size sz ea A n ys∧∃ds sp,(x.1 = .slice ds sp∨(x.1 = .nil∧ds = []))∧ds.length=ys.length∧∀(i:Nat) d y,ds[i]? = some d→ys[i]? = some y→Q d y:=by
 rcases open_slice ht h with ⟨hcs,hx⟩ | ⟨a,len,cap,m,n,D,Pl,hcs,_,hl,_,hmm,hx,hi⟩
 ·simp at hcs;subst hcs;exact ⟨none,0,0,[],rfl,fun _=>rfl,Nat.le_refl _,Elems.nil_,[],[],.inr ⟨by rw[hx],rfl⟩,rfl,fun i d y hd=>by simp at hd⟩
 ·simp at hcs;subst hcs;rw[hc] at hi;have hlm:len≤m:=by rw[hmm];split <;> omega
  obtain ⟨f,hf⟩:=choose_lt (α:=α) (n:=len) (p:=fun i y=>(∀j u,(ea y)[j]? = some u→w.cell? (a.add (i*sz+j))=some u)∧Q (D i) y) (by
   intro i hlt;obtain ⟨cs',hc',ht'⟩:=hi i (by omega);obtain ⟨y,rfl,hq⟩:=ho _ _ _ ht';obtain ⟨_,hcl,hat⟩:=World.cells?_some hc';refine ⟨y,fun j u hu=>?_,hq⟩;have hj:j < sz:=by have:=(List.getElem?_eq_some_iff.1 hu).1;rw[hz] at this;exact this
   have:=hat j hj;rw[Go.Deep.add_add] at this
   rw[this,hu])
  refine ⟨some a,len,cap,(List.range len).map f,rfl,(fun h=>by cases h),hl,⟨by simp,fun h0'=>?_⟩,(List.range len).map D,_,.inl (by rw[hx]),by simp,fun i d y hd hy=>?_⟩
  ·obtain ⟨b,off,spot⟩:=a;have hp:0 < (ea (f 0)).length:=by rw[hz];exact h0
   have h00:=(hf 0 h0').1 0 _ (List.getElem?_eq_getElem hp);have hspot:spot=none:=by simpa[Addr.add] using World.cell?_spot h00
   subst hspot;refine ⟨b,off,rfl,by simpa[Addr.add] using Kag h00,fun i x hx j u hu=>?_⟩;have hil:i < len:=by have:=(List.getElem?_eq_some_iff.1 hx).1;simpa using this
   have hxe:f i=x:=by simpa[hil] using hx
   subst hxe;have:=(hf i hil).1 j u hu;rw[add_plain] at this;rw[←this,Nat.add_assoc]
  ·have hil:i < len:=by have:=(List.getElem?_eq_some_iff.1 hd).1;simpa using this
   have h1:D i=d:=by simpa[hil] using hd
   have h2:f i=y:=by simpa[hil] using hy
   rw[←h1,←h2];exact (hf i hil).2
end
theorem Kit {H:Type} (d:DataW H):1≤Rows.uptoBulk d:=by
 cases d with
 | lit l=>cases l <;> simp[Rows.uptoBulk]
 | nil=>simp[Rows.uptoBulk]
 | ptr d=>simp[Rows.uptoBulk]
 | slice elems spare=>simp[Rows.uptoBulk]
 | agg parts=>simp[Rows.uptoBulk]
 | iface t d=>simp[Rows.uptoBulk]
 | map entries=>simp[Rows.uptoBulk]
 | held h=>simp[Rows.uptoBulk]
theorem Qas {H:Type} (l sp:List (DataW H)):Rows.uptoBulkAll l+1≤Rows.uptoBulk (.slice l sp):=by simp only[Rows.uptoBulk];omega
theorem Qhf {H:Type} {l:List (DataW H)} (hk:Rows.uptoSmall H l=true):Rows.uptoBulkAll l≤1048576:=of_decide_eq_true hk
theorem Kuh {H α : Type} (mu:α→Nat):∀(ds:List (DataW H)) (ys:List α),ds.length=ys.length→(∀(i:Nat) d y,ds[i]? = some d→ys[i]? = some y→mu y≤Rows.uptoBulk d)→(ys.map mu).sum≤Rows.uptoBulkAll ds
 | [],[],_,_=>by simp
 | d :: ds,y :: ys,hl,h=>by
  have h1:=h 0 d y rfl rfl;have h2:=Kuh mu ds ys (by simpa using hl) (fun i d' y' hd hy=>h (i+1) d' y' (by simpa using hd) (by simpa using hy));simp only[List.map_cons,List.sum_cons,Rows.uptoBulkAll];omega
 | [],_ :: _,hl,_=>by simp at hl
 | _ :: _,[],hl,_=>by simp at hl
theorem Kiu {H α : Type} (mu:α→Nat) {d:DataW H} {ds sp:List (DataW H)} {ys:List α} (hd:d = .slice ds sp∨(d = .nil∧ds = [])) (hl:ds.length=ys.length) (h:∀(i:Nat) d y,ds[i]? = some d→ys[i]? = some y→mu y≤Rows.uptoBulk d):(ys.map mu).sum+1≤Rows.uptoBulk d:=by
 have:=Kuh mu ds ys hl h;rcases hd with rfl | ⟨rfl,rfl⟩
 ·have:=Qas ds sp;omega
 ·obtain rfl:ys = []:=List.eq_nil_of_length_eq_zero (by simpa using hl.symm);simp[Rows.uptoBulk]
section
variable {H : Type} {enc : TypeId × Value → H} {w : World} {base : Nat} {spare : Nat → Bool} {held : Bool}
theorem Kuk:Tryz.prog.cellsOf 9 = 1:=by kernel_rfl
def litT (s:Txt):DataW H:=.lit (.string s)
theorem Kwd {fuel:Nat} {l:List Value} {x:DataW H×List MemPlace} (h:DataW.trod enc Tryz.prog w base spare held fuel 9 l=some x):∃s:Txt,l = [txtV s]∧x.1=litT s:=by
 obtain ⟨s,rfl,rfl,_⟩:=DataW.trod_string Tryz.underlying9 h;exact ⟨s.data.toList,rfl,rfl⟩
end
section
variable {H : Type} {enc : TypeId × Value → H} {w : World} {base : Nat} {spare : Nat → Bool} {held : Bool}
theorem Krg:Tryz.prog.cellsOf 106 = 2:=by kernel_rfl
theorem Qih {fuel:Nat} {l:List Value} {x:DataW H×List MemPlace} (h:DataW.trod enc Tryz.prog w base spare held fuel 106 l=some x):∃y:Lb,l=encLb y∧x.1 = .agg [litT y.n,litT y.v]:=by
 obtain ⟨xs,n,_,hx,hcl,hlen,hg⟩:=DataW.trod_struct Tryz.underlying106 h;rw[Krg] at hcl
 match l,hcl,xs,hlen with
 | [c0,c1],_,[x0,x1],_=>
  have g0:=hg 0 _ rfl;have g1:=hg 1 _ rfl;simp[Kuk] at g0 g1;obtain ⟨a,e0,f0⟩:=Kwd g0;obtain ⟨b,e1,f1⟩:=Kwd g1;simp at e0 e1;subst e0 e1;refine ⟨⟨a,b⟩,rfl,?_⟩;rw[hx];simp[f0,f1]
end
section
variable {H : Type} {enc : TypeId × Value → H} {w : World} {base : Nat} {spare : Nat → Bool} {held : Bool}
def Lb.mass (x:Lb):Nat:=x.n.length+x.v.length+3
def massL (l:List Lb):Nat:=(l.map Lb.mass).sum+1
theorem Krv:∀l:List Lb,2*l.length+1≤massL l
 | []=>by simp[massL]
 | x :: l=>by have:=Krv l;simp only[massL,List.map_cons,List.sum_cons,List.length_cons,Lb.mass] at *;omega
theorem Qey {l:List Lb} {x:Lb} (h:x∈l):x.n.length≤massL l∧x.v.length≤massL l:=by
 induction l with
 | nil=>cases h
 | cons y l ih=>
  simp only[massL,List.map_cons,List.sum_cons,Lb.mass] at *;rcases List.mem_cons.1 h with rfl | h
  ·omega
  ·have:=ih h;omega
theorem Qaw:Tryz.prog.cellsOf 80 = 1:=by kernel_rfl
theorem Kwc {fuel:Nat} {v:Value} {x:DataW H×List MemPlace} (h:DataW.trod enc Tryz.prog w base spare held fuel 80 [v]=some x) :
  ∃A n c l,v = .slice A n c∧n≤c∧Elems w w.heap.size 2 encLb A n l∧massL l≤Rows.uptoBulk x.1:=by
 obtain ⟨A,n,c,l,rfl,_,h2,h3,ds,sp,hx,hl,hQ⟩:=Khw (ea:=encLb) (Q:=fun d s=>d = .agg [litT s.n,litT s.v]) Tryz.underlying80 Krg (by omega) (fun _=>rfl) (fun _ _ _ h=>Qih h) h;refine ⟨A,n,c,l,rfl,h2,h3,Kiu Lb.mass hx hl fun i d y hd hy=>?_⟩;rw[hQ i d y hd hy];simp[Rows.uptoBulk,Rows.uptoBulkAll,litT,Lb.mass];omega
theorem Qaj {α : Type} (f:α→Nat):∀{l:List α} {x:α},x∈l→f x≤(l.map f).sum
 | y :: l,x,h=>by
  simp only[List.map_cons,List.sum_cons];rcases List.mem_cons.1 h with rfl | h
  ·omega
  ·have:=Qaj f h;omega
end
theorem Kiv:Tryz.prog.cellsOf 2 = 1:=by kernel_rfl
theorem Qaz:Tryz.prog.cellsOf 79 = 1:=by kernel_rfl
theorem Krh:Tryz.prog.cellsOf 93 = 2:=by kernel_rfl
theorem Koj:Tryz.prog.cellsOf 109 = 2:=by kernel_rfl
theorem Qax:Tryz.prog.cellsOf 83 = 1:=by kernel_rfl
theorem Qay:Tryz.prog.cellsOf 81 = 1:=by kernel_rfl
theorem Qav:Tryz.prog.cellsOf 82 = 3:=by kernel_rfl
theorem Koi:Tryz.prog.cellsOf 85 = 6:=by kernel_rfl
theorem Kly {n:Int} (h:(Lit.int .i64 n).wf=true):-9223372036854775808≤n∧n≤9223372036854775807:=by
 have h1:IntKind.i64.min = -9223372036854775808:=rfl;have h2:IntKind.i64.max=9223372036854775807:=rfl;simp only[Lit.wf,Bool.and_eq_true,decide_eq_true_eq] at h;omega
theorem Qlw {z:Int} (h:(Lit.int .u64 z).wf=true):∃n:Nat,z=(n:Int)∧n < 2 ^ 64:=by
 have h1:IntKind.u64.min=0:=rfl;have h2:IntKind.u64.max=18446744073709551615:=rfl;simp only[Lit.wf,Bool.and_eq_true,decide_eq_true_eq] at h;exact ⟨z.toNat,by omega,by omega⟩
theorem Qlx {z:Int} (h:(Lit.int .u8 z).wf=true):∃m:UInt8,z=(m.toNat:Int):=by
 have h1:IntKind.u8.min=0:=rfl;have h2:IntKind.u8.max=255:=rfl;simp only[Lit.wf,Bool.and_eq_true,decide_eq_true_eq] at h;refine ⟨UInt8.ofNat z.toNat,?_⟩;rw[UInt8.toNat_ofNat'];have:z.toNat % 2 ^ 8=z.toNat:=Nat.mod_eq_of_lt (by omega);rw[this];omega
section
variable {H : Type} {enc : TypeId × Value → H} {w : World} {base : Nat} {spare : Nat → Bool} {held : Bool}
theorem Qii {fuel:Nat} {l:List Value} {x:DataW H×List MemPlace} (h:DataW.trod enc Tryz.prog w base spare held fuel 93 l=some x):∃y:Smp,l=Kck y∧(y.v < 2 ^ 64∧1≤Rows.uptoBulk x.1):=by
 obtain ⟨xs,n,_,hx,hcl,hlen,hg⟩:=DataW.trod_struct Tryz.underlying93 h;rw[Krh] at hcl
 match l,hcl,xs,hlen with
 | [c0,c1],_,[x0,x1],_=>
  have g0:=hg 0 _ rfl;have g1:=hg 1 _ rfl;simp[Kiv,Qaz] at g0 g1;obtain ⟨a,e0,_,_⟩:=DataW.trod_int Tryz.underlying2 g0;obtain ⟨b,e1,_,wb⟩:=DataW.trod_int Tryz.underlying79 g1;simp at e0 e1;subst e0 e1;obtain ⟨v,rfl,hv⟩:=Qlw wb;exact ⟨⟨a,v⟩,rfl,hv,Kit _⟩
theorem Koa {α : Type}:∀l:List α,(l.map fun _=>1).sum=l.length
 | []=>rfl
 | x :: l=>by rw[List.map_cons,List.sum_cons,Koa l,List.length_cons];omega
theorem Qfk {fuel:Nat} {v:Value} {x:DataW H×List MemPlace} (h:DataW.trod enc Tryz.prog w base spare held fuel 83 [v]=some x) :
  ∃A n c l,v = .slice A n c∧n≤c∧Elems w w.heap.size 2 Kck A n l∧(∀y∈l,y.v < 2 ^ 64)∧l.length+1≤Rows.uptoBulk x.1:=by
 obtain ⟨A,n,c,l,rfl,_,h2,h3,ds,sp,hx,hl,hQ⟩:=Khw (ea:=Kck) (Q:=fun d (y:Smp)=>y.v < 2 ^ 64∧1≤Rows.uptoBulk d) Tryz.underlying83 Krh (by omega) (fun _=>rfl) (fun _ _ _ h=>Qii h) h;refine ⟨A,n,c,l,rfl,h2,h3,fun y hy=>?_,?_⟩
 ·obtain ⟨i,hi,rfl⟩:=List.mem_iff_getElem.1 hy;exact (hQ i (ds[i]'(by omega)) l[i] (List.getElem?_eq_getElem _) (List.getElem?_eq_getElem hi)).1
 ·have:=Kiu (fun _:Smp=>1) hx hl fun i d y hd hy=>(hQ i d y hd hy).2
  rwa[Koa] at this
theorem Qfl {fuel:Nat} {l:List Value} {x:DataW H×List MemPlace} (h:DataW.trod enc Tryz.prog w base spare held fuel 109 l=some x):∃y:Spn,l=Kad y∧(SpnIn y∧1≤Rows.uptoBulk x.1):=by
 obtain ⟨xs,n,_,hx,hcl,hlen,hg⟩:=DataW.trod_struct Tryz.underlying109 h;rw[Koj] at hcl
 match l,hcl,xs,hlen with
 | [c0,c1],_,[x0,x1],_=>
  have g0:=hg 0 _ rfl;have g1:=hg 1 _ rfl;simp[Kiv] at g0 g1;obtain ⟨a,e0,_,wa⟩:=DataW.trod_int Tryz.underlying2 g0;obtain ⟨b,e1,_,wb⟩:=DataW.trod_int Tryz.underlying2 g1;simp at e0 e1;subst e0 e1;have ha:=Kly wa;have hb:=Kly wb;exact ⟨⟨a,b⟩,rfl,⟨ha.1,ha.2,hb.1,hb.2⟩,Kit _⟩
theorem Kjf {fuel:Nat} {v:Value} {x:DataW H×List MemPlace} (h:DataW.trod enc Tryz.prog w base spare held fuel 81 [v]=some x) :
  ∃A n c l,v = .slice A n c∧n≤c∧Elems w w.heap.size 2 Kad A n l∧(∀y∈l,SpnIn y)∧l.length+1≤Rows.uptoBulk x.1:=by
 obtain ⟨A,n,c,l,rfl,_,h2,h3,ds,sp,hx,hl,hQ⟩:=Khw (ea:=Kad) (Q:=fun d (y:Spn)=>SpnIn y∧1≤Rows.uptoBulk d) Tryz.underlying81 Koj (by omega) (fun _=>rfl) (fun _ _ _ h=>Qfl h) h;refine ⟨A,n,c,l,rfl,h2,h3,fun y hy=>?_,?_⟩
 ·obtain ⟨i,hi,rfl⟩:=List.mem_iff_getElem.1 hy;exact (hQ i (ds[i]'(by omega)) l[i] (List.getElem?_eq_getElem _) (List.getElem?_eq_getElem hi)).1
 ·have:=Kiu (fun _:Spn=>1) hx hl fun i d y hd hy=>(hQ i d y hd hy).2
  rwa[Koa] at this
theorem Qfi {fuel:Nat} {c0 c1 c2:Value} {x:DataW H×List MemPlace} (h:DataW.trod enc Tryz.prog w base spare held fuel 82 [c0,c1,c2]=some x) :
  ∃(h0 h1 h2:Hd) (l0 l1 l2:List Spn),(c0 = .slice h0.A h0.n h0.c∧c1 = .slice h1.A h1.n h1.c∧c2 = .slice h2.A h2.n h2.c)∧(Elems w w.heap.size 2 Kad h0.A h0.n l0∧Elems w w.heap.size 2 Kad h1.A h1.n l1∧Elems w w.heap.size 2 Kad h2.A h2.n l2)∧
   ((∀y∈l0,SpnIn y)∧(∀y∈l1,SpnIn y)∧(∀y∈l2,SpnIn y))∧l0.length+l1.length+l2.length+3≤Rows.uptoBulk x.1:=by
 obtain ⟨xs,m,_,hx,_,hl,hg⟩:=DataW.trod_array Tryz.underlying82 h;rw[Qay] at hg
 match xs,hl with
 | [x0,x1,x2],_=>
  have g0:=hg 0 (by omega);have g1:=hg 1 (by omega);have g2:=hg 2 (by omega);simp at g0 g1 g2;obtain ⟨A0,n0,k0,l0,rfl,a1,a2,a3,a4⟩:=Kjf g0;obtain ⟨A1,n1,k1,l1,rfl,b1,b2,b3,b4⟩:=Kjf g1;obtain ⟨A2,n2,k2,l2,rfl,d1,d2,d3,d4⟩:=Kjf g2;refine ⟨⟨A0,n0,k0⟩,⟨A1,n1,k1⟩,⟨A2,n2,k2⟩,l0,l1,l2,⟨rfl,rfl,rfl⟩,⟨a2,b2,d2⟩,⟨a3,b3,d3⟩,?_⟩;rw[hx];simp only[List.map_cons,List.map_nil,Rows.uptoBulk,Rows.uptoBulkAll];omega
def KSer.weight (s:KSer):Nat:=massL s.labels+s.g0.length+s.g1.length+s.g2.length+s.samples.length+4
structure KIn (w:World) (y:KY) (s:KSer):Prop where
 at_:KAt w y.h s
 m:y.m=s.max
 mx:-9223372036854775808≤s.max∧s.max≤9223372036854775807
 i:(∀x∈s.g0,SpnIn x)∧(∀x∈s.g1,SpnIn x)∧(∀x∈s.g2,SpnIn x)
 v:∀x∈s.samples,x.v < 2 ^ 64
theorem Qfj {fuel:Nat} {l:List Value} {x:DataW H×List MemPlace} (h:DataW.trod enc Tryz.prog w base spare held fuel 85 l=some x):∃y:KY,l=encKY y∧∃s,KIn w y s∧KSer.weight s≤Rows.uptoBulk x.1:=by
 obtain ⟨xs,n,_,hx,hcl,hlen,hg⟩:=DataW.trod_struct Tryz.underlying85 h;rw[Koi] at hcl
 match l,hcl,xs,hlen with
 | [c0,c1,c2,c3,c4,c5],_,[x0,x1,x2,x3],_=>
  have g0:=hg 0 _ rfl;have g1:=hg 1 _ rfl;have g2:=hg 2 _ rfl;have g3:=hg 3 _ rfl;simp[Qaw,Qax,Qav,Kiv] at g0 g1 g2 g3;obtain ⟨A0,n0,k0,l0,rfl,a1,a2,a3⟩:=Kwc g0;obtain ⟨mx,e1,_,wm⟩:=DataW.trod_int Tryz.underlying2 g1;obtain ⟨h0,h1,h2,p0,p1,p2,⟨rfl,rfl,rfl⟩,⟨b0,b1,b2⟩,b3,b4⟩:=Qfi g2;obtain ⟨A3,n3,k3,l3,rfl,d1,d2,d3,d4⟩:=Qfk g3;simp at e1;subst e1;refine ⟨⟨⟨⟨A0,n0,k0⟩,h0,h1,h2,⟨A3,n3,k3⟩⟩,mx⟩,rfl,⟨l0,mx,p0,p1,p2,l3⟩,⟨⟨a2,a1,b0,b1,b2,d2,d1⟩,rfl,Kly wm,b3,d3⟩,?_⟩;rw[hx];have hb1:=Kit x1.1;simp only[List.map_cons,List.map_nil,Rows.uptoBulk,Rows.uptoBulkAll,KSer.weight];omega
theorem Kox:∀l:List Lb,3*l.length+1≤massL l
 | []=>by simp[massL]
 | x :: l=>by have:=Kox l;simp only[massL,List.map_cons,List.sum_cons,List.length_cons,Lb.mass] at *;omega
theorem Knh:∀L:List KSer,massK L+L.length+3*labsK L≤(L.map KSer.weight).sum
 | []=>by simp[massK,labsK]
 | s :: L=>by
  have:=Knh L;have:=Kox s.labels;simp only[massK,labsK,List.map_cons,List.sum_cons,List.length_cons,KSer.weight,KSer.mass] at *;omega
theorem Qbx {fuel:Nat} {v:Value} {x:DataW H×List MemPlace} (h:DataW.trod enc Tryz.prog w base spare held fuel 22 [v]=some x) :
  ∃A n c L,v = .slice A n c∧n≤c∧KSers w A n L∧(Rows.uptoBulk x.1≤1048576→LSzK L):=by
 obtain ⟨A,n,c,hs,rfl,_,h2,h3,ds,sp,hx,hl,hQ⟩:=Khw (ea:=encKY) (Q:=fun d y=>∃s,KIn w y s∧KSer.weight s≤Rows.uptoBulk d) Tryz.underlying22 Koi (by omega) (fun _=>rfl) (fun _ _ _ h=>Qfj h) h;have hn:=h3.len
 obtain ⟨f,hf⟩:=choose_lt (α:=KSer) (n:=n) (p:=fun i s=>∀d y,ds[i]? = some d→hs[i]? = some y→KIn w y s∧KSer.weight s≤Rows.uptoBulk d) (by
  intro i hi;have h1:i < hs.length:=by omega
  have h4:i < ds.length:=by omega
  obtain ⟨l,hl'⟩:=hQ i ds[i] hs[i] (List.getElem?_eq_getElem h4) (List.getElem?_eq_getElem h1);refine ⟨l,fun d y hd hy=>?_⟩;rw[List.getElem?_eq_getElem h4] at hd;rw[List.getElem?_eq_getElem h1] at hy;injection hd with hd;injection hy with hy;subst hd hy
  exact hl')
 have hget:∀i,i < n→((List.range n).map f)[i]! = f i:=fun i hi=>by
  rw[getElem!_pos _ i (by simpa using hi)];simp
 have hS:KSers w A n ((List.range n).map f):=⟨hs,h3,by simp,fun i hi=>by
  have h1:i < hs.length:=by omega
  have h4:i < ds.length:=by omega
  obtain ⟨a1,a2⟩:=hf i hi ds[i] hs[i] (List.getElem?_eq_getElem h4) (List.getElem?_eq_getElem h1);rw[hget i hi,getElem!_pos hs i h1]
  exact ⟨a1.m,a1.at_⟩⟩
 refine ⟨A,n,c,(List.range n).map f,rfl,h2,hS,fun hb=>?_⟩
 have hsum:(((List.range n).map f).map KSer.weight).sum+1≤Rows.uptoBulk x.1:=by
  refine Kiu KSer.weight hx (by simp;omega) fun i d l hd hl'=>?_
  have hi:i < n:=by have:=(List.getElem?_eq_some_iff.1 hl').1;simpa using this
  have e:f i=l:=by simpa[hi] using hl'
  have h1:i < hs.length:=by omega
  rw[←e];exact (hf i hi d hs[i] hd (List.getElem?_eq_getElem h1)).2
 have hm:=Knh ((List.range n).map f);refine ⟨by omega,by omega,by omega,fun s hs9=>?_⟩;have h5:=Qaj KSer.weight hs9;obtain ⟨i,hi,rfl⟩:=List.mem_map.1 hs9;have hi:i < n:=List.mem_range.1 hi;have h1:i < hs.length:=by omega
 have h4:i < ds.length:=by omega
 obtain ⟨a1,a2⟩:=hf i hi ds[i] hs[i] (List.getElem?_eq_getElem h4) (List.getElem?_eq_getElem h1);have h7:massL (f i).labels+(f i).g0.length+(f i).g1.length+(f i).g2.length+(f i).samples.length+4≤(((List.range n).map f).map KSer.weight).sum:=h5;have h6:=Krv (f i).labels;refine ⟨by omega,fun y hy=>?_,a1.mx,⟨by omega,by omega,by omega⟩,a1.i,by omega,a1.v⟩;have:=Qey hy;omega
instance:Inhabited Trn:=⟨⟨0,0,[]⟩⟩
end
end
section
open Go.RowKit Go.Shelf Go.Sort
open Lib renaming hid → Jh
attribute [local go_sem ↓] Go.wp_at_zero Go.wp_at_succ
attribute [local go_sem] Later.cell
theorem Qle {a x:UInt8} (hx:x≠0):a≠a ^^^ x:=by
 intro h;apply hx;have h1:a ^^^ a=a ^^^ (a ^^^ x):=by rw[←h]
 rw[←UInt8.xor_assoc,UInt8.xor_self,UInt8.zero_xor] at h1;exact h1.symm
theorem Qkv {L:List KSer} {k:Nat} (hk:k < (encK L).length) {m:UInt8} (hm:m≠0):decK (flipT (encK L) k m) = .error 22:=by
 have h1:encK L=(encK L).take k ++ [((encK L)[k],(encK L)[k] ^^^ m)].map Prod.fst++(encK L).drop (k+1):=by
  simp
 have h2:=Kza (bodyK L) (P:=(encK L).take k) (Q:=(encK L).drop (k+1)) (l:=[((encK L)[k],(encK L)[k] ^^^ m)]) h1 (by simp) ⟨_,List.mem_singleton.2 rfl,Qle hm⟩
 have h3:flipT (encK L) k m=(encK L).take k ++ [((encK L)[k],(encK L)[k] ^^^ m)].map Prod.snd++(encK L).drop (k+1):=by
  unfold flipT;rw[List.getElem?_eq_getElem hk];rfl
 rw[h3];unfold decK;rw[h2]
theorem Qhl (s:Txt) (k:Nat) (m:UInt8):(flipT s k m).length≤s.length+1:=by
 unfold flipT;simp only[List.length_append,List.length_take,List.length_drop,List.length_singleton];omega
theorem Qee (cap:Nat) (P s:Txt) (hP:nameB P=true) (k:Nat) (hk:k < s.length) (m:UInt8) :
  (flipD (putX cap P s) P (k:Int) m).1=0∧allD (flipD (putX cap P s) P (k:Int) m).2 P=(flipT s k m,0):=by
 have hf:fileD (putX cap P s) P = .ok 0:=Klp rfl (Kdz hP) (show findT [⟨P,false,0⟩] P=some ⟨P,false,0⟩ by simp[findT])
 have e:flipD (putX cap P s) P (k:Int) m=(0,setF (putX cap P s) 0 ⟨flipT s k m,flipT s k m,[]⟩):=by
  unfold flipD;rw[hf];have h1:(fAt (putX cap P s) 0).now=s:=rfl;simp only[h1];rw[if_neg (by omega)];rfl
 rw[e];refine ⟨rfl,?_⟩;have hf2:fileD (setF (putX cap P s) 0 ⟨flipT s k m,flipT s k m,[]⟩) P = .ok 0:=Klp rfl (Kdz hP) (show findT [⟨P,false,0⟩] P=some ⟨P,false,0⟩ by simp[findT]);unfold allD;rw[hf2];rfl
section
variable {B0 M p : Nat} {a : Nat → Addr} {R R' : Nat → Nat} {d : Ds} {w w' : World}
theorem Dk.flipK (h:Dk B0 M w R p d) (hM:M≤536870912) (hB:B0≤w.heap.size) (hF:Fails B0 a w) (hF6:Fail6 B0 a w) (S:ByteArray) (k:Nat) (m:UInt8) (hS:S.size≤1073741824) (hk:k≤1073741824) :
  Calls Tryz.prog 18 #[.pointer (some ⟨p,0,none⟩),.string S,.int .i64 (k:Int),.int .u8 m.toNat] w (DkOut a B0 (M+1) R p (flipD d S.data.toList (k:Int) m) w):=by
 obtain ⟨A,hc,rfl⟩:=h.ex;exact (Qbh S k m w hc (h.wf.fit hM) hS hB hF hF6 (by omega) (by omega) (h.wf.nl hM)).mono fun _ _ k=>.of k.weak (h.wf.flip _ _ _)
theorem Ktk (v:Value) (w:World):(Instr.typeAssert (.iface 45 v) 40 45 true).run Tryz.prog w = .ok (.tuple #[v,.bool true]) w:=by
 simp[Instr.typeAssert,run_underlying Tryz.underlying45,go_sem,Result.andThen]
theorem Knq (L:List KSer) (A:Option Addr) (n c:Nat) (at_:Int) (m:UInt8) (w:World) (hS:KSers w A n L) (hL:LSzK L) (hat:-9223372036854775808≤at_∧at_≤9223372036854775807) (hC:QCon B0 a) (hE:QEnv B0 a w) (h6:Fail6 B0 a w) :
  Calls Tryz.prog 6 #[.slice A n c,.int .i64 at_,.int .u8 m.toNat] w fun e w'=>e = .returned (.bool true)∧Below w.heap.size w w':=by
 have hn:n≤1048576:=by rw[←hS.len];exact hL.n
 have HENC:=Jh (fun W h he=>Qke L A n c W h hL (a:=a) (B0:=B0) he);have HS0:=Jh hS;have HL:=Jh hL;have HE0:=Jh hE;have HC:=Jh hC;have H60:=Jh h6;have HAT:=Jh hat;have HNB:=Jh hn;have HWK:=Jh (Ktw w hC hE);clear hS hL hC hE h6 hn;obtain ⟨hat1,hat2⟩:=hat;go_enter Tryz.func6,Tryz.ntmps6
 go_wp2_with fail
 refine HWK.out.mono ?_;rintro _ w1 ⟨rfl,hb1⟩;have HB1:=Jh hb1;clear hb1;go_wp2_with fail
 refine (HENC.out w1 (HS0.out.below HB1.out) (HE0.out.low HC.out HB1.out)).mono ?_;rintro _ w2 ⟨⟨S,rfl,hd,hz⟩,hb2⟩;have HB2:=Jh (HB1.out.trans (hb2.mono HB1.out.size));have HZ:=Jh hz;have HD:=Jh hd;clear hb2 hd;obtain ⟨ev,hev⟩:∃x:Int,(if fitK L=true then (0:Int) else 150)=x:=⟨_,rfl⟩;have HEV:=Jh hev;rw[hev];clear hev;obtain ⟨f,hf⟩:∃f,fitK L=f:=⟨_,rfl⟩;have HF:=Jh hf;clear hf
 cases f with
 | false=>
  have e1:ev=150:=by rw[←HEV.out,HF.out];rfl
  subst e1;go_wp2_with fail
  go_ret
  exact ⟨rfl,HB2.out⟩
 | true=>
  have e1:ev=0:=by rw[←HEV.out,HF.out];rfl
  subst e1
  by_cases hsz:1048576 < S.size
  ·have hx:(1048576:Int) < (S.size:Int):=by omega
   go_wp2_with fail
   go_ret
   exact ⟨rfl,HB2.out⟩
  ·have hx:¬(1048576:Int) < (S.size:Int):=by omega
   have hx2:decide ((1048576:Int) < (S.size:Int))=false:=decide_eq_false hx
   by_cases hm:m=0
   ·subst hm;have hm0:(UInt8.toNat 0:Int)=0:=rfl;go_wp2_with fail
    go_ret
    exact ⟨rfl,HB2.out⟩
   ·have hm0:¬(m.toNat:Int)=0:=by
     intro h;apply hm;have h1:m.toNat=0:=by omega
     exact UInt8.toNat_inj.1 h1
    have hm1:((m.toNat:Int) == 0)=false:=by rw[beq_eq_false_iff_ne];exact hm0
    have hEd:S.data.toList=encK L:=by rw[HD.out,HF.out];rfl
    have hEs:(encK L).length=S.size:=by rw[←hEd];rfl
    have HEd:=Jh hEd;have HEs:=Jh hEs;have hS4:4≤S.size:=by have:=Kix L;omega
    obtain ⟨o,ho,hol⟩:∃o:Nat,max 0 at_ % (S.size:Int)=(o:Int)∧o < S.size:=by
     have h1:=Int.emod_nonneg (max 0 at_) (show (S.size:Int)≠0 by omega);have h2:=Int.emod_lt_of_pos (max 0 at_) (show 0 < (S.size:Int) by omega);exact ⟨(max 0 at_ % (S.size:Int)).toNat,by omega,by omega⟩
    have HOL:=Jh hol;have HSZ:Hid (S.size≤1048576):=Jh (by omega);have HM:=Jh hm;have HN:=Jh (Dk.made 67108864 (by decide) (by decide) w2 (HE0.out.low HC.out HB2.out).hb);clear hEd hEs hm;go_wp2_with fail
    refine HN.out.mono ?_;rintro e w3 ⟨p,R,rfl,hd3,hb3,hz3⟩;rw[Qfc] at hd3;have HZ3:=Jh hz3;have HB3:=Jh (HB2.out.trans (hb3.mono HB2.out.size));have HE3:=Jh (HE0.out.low HC.out HB3.out);have HD3:=Jh hd3;have HS3:=Jh (HS0.out.below HB3.out);have HQ:Hid (w.heap.size≤w2.heap.size):=Jh HB2.out.size;obtain ⟨P,hP⟩:∃P:ByteArray,(⟨#[99]⟩:ByteArray)=P:=⟨_,rfl⟩;have hPd:P.data.toList=sC:=by rw[←hP];rfl
    have hPz:P.size=1:=by rw[←hP];rfl
    have HPd:=Jh hPd;have HPz:=Jh hPz;have hsv:=Kmj L A n c P w3 HS3.out HL.out.z HNB.out HF.out (by rw[HEs.out];omega) hd3 (by rw[HEs.out];omega) HC.out HE3.out (by rw[hPz];decide);rw[hPd,Qac 67108864 sC (encK L) Klv Qfy (by rw[HEs.out];omega)] at hsv;have HSV:=Jh hsv;clear hd3 hb3 hz3 hPd hPz hsv;go_wp2_with fail
    refine HSV.out.mono ?_;rintro e w4 ⟨v4,R4,rfl,hv4,hd4,ho4⟩;obtain rfl:v4 = .nilIface:=hv4;have HD4:=Jh hd4;have HE4:=Jh (HE3.out.out HC.out HD3.out ho4);have h64:=(H60.out.below (HB3.out.mono HE0.out.hb)).below (ho4.below HE3.out.hb HD3.out.low);have hfl:=hd4.flipK (a:=a) (by rw[HEs.out];omega) HE4.out.hb HE4.out.e.f h64 P o m (by rw[HPz.out];decide) (by omega);have hfp:=Qee 67108864 sC (encK L) Klv o (by rw[HEs.out];exact hol) m;obtain ⟨X,hX⟩:∃X,flipD (putX 67108864 sC (encK L)) sC (o:Int) m=X:=⟨_,rfl⟩;rw[HPd.out,hX] at hfl;rw[hX] at hfp;obtain ⟨x1,d5⟩:=X;obtain ⟨hx1,hal⟩:=hfp;dsimp only at hx1 hal;subst hx1;have HAL:=Jh hal;have HFL:=Jh hfl;have HO4:=Jh ho4;clear hd4 ho4 h64 hfl hal hX;go_wp2_with fail
    refine HFL.out.mono ?_;rintro e w5 ⟨v5,R5,rfl,hv5,hd5,ho5⟩;obtain rfl:v5 = .nilIface:=hv5;have HE5:=Jh (HE4.out.out HC.out HD4.out ho5);have HO5:=Jh (HO4.out.trans ho5);have hfz:=Qhl (encK L) o m;have hld:=Kmi P (flipT (encK L) o m) w5 (by rw[HPd.out];exact HAL.out) (by rw[HEs.out] at hfz;omega) hd5 (by rw[HEs.out];omega) HC.out HE5.out (by rw[HPz.out];decide);rw[Qkv (by rw[HEs.out];exact HOL.out) HM.out] at hld;have HLD:=Jh hld;clear hd5 ho5 hfz hld;go_wp2_with fail
    refine HLD.out.mono ?_;rintro e w6 ⟨R6,⟨q,rfl,hq⟩,hd6,ho6⟩;have HB6:=Jh (HB3.out.trans ((HO5.out.trans ho6).below HB3.out.size fun k hk=>HZ3.out k (Nat.lt_of_lt_of_le hk HQ.out)));have q0:w6.cell? ⟨q,0,none⟩=some (.string P):=hq.cell 0;have q1:w6.cell? ⟨q,1,none⟩=some (.int .i64 22):=hq.cell 1;have hta:=fun v w=>Ktk v w
    clear hd6 ho6;go_wp2_with fail
    go_ret
    exact ⟨rfl,HB6.out⟩
end
end
section
open Go.RowKit
theorem Kbe {P:Program} {W:World} {x:String×DataW Unit} {r:List (String×DataW Unit)} (h:laidMet P (x :: r) W):laidMet P r W:=by
 obtain ⟨ps,⟨g,t,cs,f,p,q,hg,ht,hv,hd,hr,e⟩,hnd,hrows⟩:=h;subst e;refine ⟨q,hr,?_,fun b off hm=>hrows b off (by simp[hm])⟩
 first | exact (List.nodup_append.1 hnd).2.1 | exact (List.nodup_append.1 (List.nodup_append.1 hnd).2.1).2.1
theorem Kww:"*" ++ "errors.errorString" = "*errors.errorString":=by decide
theorem Qkn (u:TypeId) (h:Tryz.prog.typeName? 3 u=some "*errors.errorString"):u = 360:=
 typeName_ptr_named (nm:="errors.errorString") (by rw[Kww];kernel_rfl) (by kernel_rfl) (by decide) u (by rw[Kww];exact h)
theorem Kdb {n:String} {text:List UInt8} {r:List (String×DataW Unit)} {W:World} {g:Nat}
  (h:laidMet Tryz.prog ((n,.iface "*errors.errorString" (.ptr (.agg [.lit (.string text)]))) :: r) W) (hg:Tryz.prog.globalNamed n=some g) (ht:(Tryz.prog.globals[g]?).map (·.type)=some 40) :
  ∃(a:Addr) (s:ByteArray),W.cell? ⟨g,0,none⟩=some (.iface 360 (.pointer (some a)))∧W.cell? a=some (.string s)∧s.data.toList=text∧∃c t,W.heap[a.block]? = some (.cells c t (0,0)):=by
 obtain ⟨ps,⟨g0',t0',cs0,f0,p0,q0,hg0',ht0',hv0,hd0,_,e0⟩,hnd,hrows⟩:=h;obtain rfl:=Option.some.inj (hg.symm.trans hg0');obtain rfl:=Option.some.inj (ht.symm.trans ht0');subst e0;obtain ⟨l0⟩:=cs0
 have ok0:∀u v,l0 = [.iface u v]→Value.okWide Tryz.prog W .any 0 u v:=fun u v e=>by
  subst e;exact (hrows g 0 (by simp[MemPlace.row])).2 u v (by simpa using World.var?_cell hg0' hv0 0)
 obtain ⟨a0,s0,rfl,hc0,hs0,hz0,rfl⟩:=errorString_of_trod Tryz.underlying40 Qkn Tryz.underlying360 Tryz.underlying382 rfl rfl Tryz.underlying9 (by kernel_rfl) (by kernel_rfl) hd0 ok0;refine ⟨a0,s0,by simpa using World.var?_cell hg0' hv0 0,hc0,hs0,(hrows a0.block a0.off (by simp[MemPlace.row])).1⟩
def sentT:Nat→List UInt8
 | 1=>[116,104,101,32,112,111,119,101,114,32,105,115,32,111,102,102]
 | 2=>[110,111,32,112,97,116,104]
 | 3=>[97,32,100,105,114,101,99,116,111,114,121]
 | 4=>[110,111,116,32,116,104,101,114,101]
 | 5=>[116,104,101,114,101,32,97,108,114,101,97,100,121]
 | 6=>[111,117,116,32,111,102,32,114,97,110,103,101]
 | _=>[110,111,32,115,112,97,99,101]
theorem Kse:∀i∈[1,2,3,4,5,6,7],∀j∈[1,2,3,4,5,6,7],i≠j→sentT i≠sentT j:=by decide
def Koe (W:World) (k:Nat) (a:Addr):Prop:=W.cell? ⟨failG k,0,none⟩=some (.iface 360 (.pointer (some a)))∧(∃s:ByteArray,W.cell? a=some (.string s)∧s.data.toList=sentT k)∧∃c t,W.heap[a.block]? = some (.cells c t (0,0))
end
section
open Go.ChangeShapes Go.WideShapes Go.ChangeAt Go.RowKit Go.ChangeMaps
theorem Qja (a:Nat→Addr):∃x:Addr,x.block=(a 1).block∧∀k,1≤k→k≤7→x≠a k:=by
 refine ⟨⟨(a 1).block,(a 1).off+(a 2).off+(a 3).off+(a 4).off+(a 5).off+(a 6).off+(a 7).off+1,none⟩,rfl,fun k h1 h2 e=>?_⟩;have e2:(a k).off=(a 1).off+(a 2).off+(a 3).off+(a 4).off+(a 5).off+(a 6).off+(a 7).off+1:=by rw[←e]
 rcases (by omega:k=1∨k=2∨k=3∨k=4∨k=5∨k=6∨k=7) with rfl | rfl | rfl | rfl | rfl | rfl | rfl <;> omega
theorem kpt_start {W:World} (h:laidMet Tryz.prog Rows.ckptBackRow.laid W):∃a,QCon W.heap.size a∧QEnv W.heap.size a W:=by
 have h1:=Kbe h;have h2:=Kbe h1;have h3:=Kbe h2;have h4:=Kbe h3;have h5:=Kbe h4;have h6:=Kbe h5;have h7:=Kbe h6;obtain ⟨a1,s1,p1,q1,r1,b1⟩:=Kdb h1 (g:=6) (by kernel_rfl) (by kernel_rfl);obtain ⟨a2,s2,p2,q2,r2,b2⟩:=Kdb h2 (g:=5) (by kernel_rfl) (by kernel_rfl);obtain ⟨a3,s3,p3,q3,r3,b3⟩:=Kdb h3 (g:=3) (by kernel_rfl) (by kernel_rfl);obtain ⟨a4,s4,p4,q4,r4,b4⟩:=Kdb h4 (g:=2) (by kernel_rfl) (by kernel_rfl);obtain ⟨a5,s5,p5,q5,r5,b5⟩:=Kdb h5 (g:=4) (by kernel_rfl) (by kernel_rfl);obtain ⟨a7,s7,p7,q7,r7,b7⟩:=Kdb h6 (g:=0) (by kernel_rfl) (by kernel_rfl);have hdbT:Lib.TabIs Tryz.prog W "math/bits.deBruijn64tab" .u8 (Lib.deBruijn64tab.map fun n:Nat=>(n:Int)):=Lib.tabIs_of_head (g:=9) (t:=332) (e:=5) (n:=64) (by kernel_rfl) (by kernel_rfl) (by kernel_rfl) (by kernel_rfl) (by kernel_rfl) (by kernel_rfl) h
 have hdb:DbTab W:=fun i hi=>by
  rw[hdbT.cell (by kernel_rfl) i (by rw[List.length_map];exact hi)];congr 2;rw[List.getD_eq_getElem?_getD,List.getElem?_map,List.getD_eq_getElem?_getD,List.getElem?_eq_getElem hi];rfl
 have hnibT:Lib.TabIs Tryz.prog W "almanac/enc.nibbles" .u32 [0,274646895,549293790,820201905,1098587580,1361435347,1640403810,1905808397,2197175160,2460548119,2722870694,2987750089,3280807620,3553878443,3811616794,4084100981]:=Lib.tabIs_of_head (g:=7) (t:=245) (e:=184) (n:=16) (by kernel_rfl) (by kernel_rfl) (by kernel_rfl) (by kernel_rfl) (by kernel_rfl) (by kernel_rfl) h7
 have hnib:Kdc W:=fun i hi=>by
  rw[hnibT.cell (by kernel_rfl) i hi];rcases (by omega:i=0∨i=1∨i=2∨i=3∨i=4∨i=5∨i=6∨i=7∨i=8∨i=9∨i=10∨i=11∨i=12∨i=13∨i=14∨i=15) with rfl | rfl | rfl | rfl | rfl | rfl | rfl | rfl | rfl | rfl | rfl | rfl | rfl | rfl | rfl | rfl <;> rfl
 obtain ⟨x6,hx6,hx6n⟩:=Qja (fun k=>match k with | 1=>a1 | 2=>a2 | 3=>a3 | 4=>a4 | 5=>a5 | 6=>a7 | _=>a7)
 have hall:∀k,k≠6→Koe W k (match k with | 1=>a1 | 2=>a2 | 3=>a3 | 4=>a4 | 5=>a5 | 6=>x6 | _=>a7):=by
  intro k hk
  match k,hk with
  | 1,_=>exact ⟨p1,⟨s1,q1,r1⟩,b1⟩
  | 2,_=>exact ⟨p2,⟨s2,q2,r2⟩,b2⟩
  | 3,_=>exact ⟨p3,⟨s3,q3,r3⟩,b3⟩
  | 4,_=>exact ⟨p4,⟨s4,q4,r4⟩,b4⟩
  | 5,_=>exact ⟨p5,⟨s5,q5,r5⟩,b5⟩
  | 6,h=>exact absurd rfl h
  | 0,_=>exact ⟨p7,⟨s7,q7,r7⟩,b7⟩
  | _+7,_=>exact ⟨p7,⟨s7,q7,r7⟩,b7⟩
 have h6b:∃cs t,W.heap[x6.block]? = some (.cells cs t (0,0)):=by rw[hx6];exact b1
 have h6n:x6≠a1∧x6≠a2∧x6≠a3∧x6≠a4∧x6≠a5∧x6≠a7:=⟨hx6n 1 (by omega) (by omega),hx6n 2 (by omega) (by omega),hx6n 3 (by omega) (by omega),hx6n 4 (by omega) (by omega),hx6n 5 (by omega) (by omega),hx6n 7 (by omega) (by omega)⟩
 have hap:∀k,1≤k→k≤7→k≠6→x6≠(match k with | 1=>a1 | 2=>a2 | 3=>a3 | 4=>a4 | 5=>a5 | 6=>x6 | _=>a7):=by
  intro k h1 h2 h6;rcases (by omega:k=1∨k=2∨k=3∨k=4∨k=5∨k=7) with rfl | rfl | rfl | rfl | rfl | rfl
  ·exact h6n.1
  ·exact h6n.2.1
  ·exact h6n.2.2.1
  ·exact h6n.2.2.2.1
  ·exact h6n.2.2.2.2.1
  ·exact h6n.2.2.2.2.2
 have ha6:(match 6 with | 1=>a1 | 2=>a2 | 3=>a3 | 4=>a4 | 5=>a5 | 6=>x6 | _=>a7)=x6:=rfl;obtain ⟨a,ha,ha6,hap⟩:∃a:Nat→Addr,(∀k,k≠6→Koe W k (a k))∧a 6=x6∧∀k,1≤k→k≤7→k≠6→x6≠a k:=⟨_,hall,ha6,hap⟩;refine ⟨a,⟨fun i j hi1 hi2 hj1 hj2 hne e=>?_,Kag (hnib 0 (by decide)),Kag (hdb 0 (by decide))⟩,⟨⟨fun k hk=>⟨Kag (ha k hk).1,(ha k hk).1⟩,fun k h1 h2=>?_⟩,hnib,hdb,Nat.le_refl _⟩⟩
 ·by_cases h6i:i=6
  ·subst h6i;rw[ha6] at e;exact hap j hj1 hj2 (fun h=>hne h.symm) e
  ·by_cases h6j:j=6
   ·subst h6j;rw[ha6] at e;exact hap i hi1 hi2 h6i e.symm
   ·obtain ⟨si,ci,ti⟩:=(ha i h6i).2.1;obtain ⟨sj,cj,tj⟩:=(ha j h6j).2.1;rw[e,cj] at ci;injection ci with ci;injection ci with ci;refine Kse i ?_ j ?_ hne ?_
    ·simp;omega
    ·simp;omega
    ·rw[←ti,←tj,ci]
 ·by_cases h6:k=6
  ·subst h6;rw[ha6];obtain ⟨cs,t,e⟩:=h6b;exact ⟨(Array.getElem?_eq_some_iff.1 e).1,cs,t,e⟩
  ·obtain ⟨c,t,e⟩:=(ha k h6).2.2;exact ⟨(Array.getElem?_eq_some_iff.1 e).1,c,t,e⟩
theorem Qbr {W:World} (h:laidMet Tryz.prog Rows.ckptSpoiltRow.laid W):∃a,QCon W.heap.size a∧QEnv W.heap.size a W∧Fail6 W.heap.size a W:=by
 have h1:=Kbe h;have h2:=Kbe h1;have h3:=Kbe h2;have h4:=Kbe h3;have h5:=Kbe h4;have h6:=Kbe h5;have h7:=Kbe h6;have h8:=Kbe h7;obtain ⟨a1,s1,p1,q1,r1,b1⟩:=Kdb h1 (g:=6) (by kernel_rfl) (by kernel_rfl);obtain ⟨a2,s2,p2,q2,r2,b2⟩:=Kdb h2 (g:=5) (by kernel_rfl) (by kernel_rfl);obtain ⟨a3,s3,p3,q3,r3,b3⟩:=Kdb h3 (g:=3) (by kernel_rfl) (by kernel_rfl);obtain ⟨a4,s4,p4,q4,r4,b4⟩:=Kdb h4 (g:=2) (by kernel_rfl) (by kernel_rfl);obtain ⟨a5,s5,p5,q5,r5,b5⟩:=Kdb h5 (g:=4) (by kernel_rfl) (by kernel_rfl);obtain ⟨a6,s6,p6,q6,r6,b6⟩:=Kdb h6 (g:=1) (by kernel_rfl) (by kernel_rfl);obtain ⟨a7,s7,p7,q7,r7,b7⟩:=Kdb h7 (g:=0) (by kernel_rfl) (by kernel_rfl);have hdbT:Lib.TabIs Tryz.prog W "math/bits.deBruijn64tab" .u8 (Lib.deBruijn64tab.map fun n:Nat=>(n:Int)):=Lib.tabIs_of_head (g:=9) (t:=332) (e:=5) (n:=64) (by kernel_rfl) (by kernel_rfl) (by kernel_rfl) (by kernel_rfl) (by kernel_rfl) (by kernel_rfl) h
 have hdb:DbTab W:=fun i hi=>by
  rw[hdbT.cell (by kernel_rfl) i (by rw[List.length_map];exact hi)];congr 2;rw[List.getD_eq_getElem?_getD,List.getElem?_map,List.getD_eq_getElem?_getD,List.getElem?_eq_getElem hi];rfl
 have hnibT:Lib.TabIs Tryz.prog W "almanac/enc.nibbles" .u32 [0,274646895,549293790,820201905,1098587580,1361435347,1640403810,1905808397,2197175160,2460548119,2722870694,2987750089,3280807620,3553878443,3811616794,4084100981]:=Lib.tabIs_of_head (g:=7) (t:=245) (e:=184) (n:=16) (by kernel_rfl) (by kernel_rfl) (by kernel_rfl) (by kernel_rfl) (by kernel_rfl) (by kernel_rfl) h8
 have hnib:Kdc W:=fun i hi=>by
  rw[hnibT.cell (by kernel_rfl) i hi];rcases (by omega:i=0∨i=1∨i=2∨i=3∨i=4∨i=5∨i=6∨i=7∨i=8∨i=9∨i=10∨i=11∨i=12∨i=13∨i=14∨i=15) with rfl | rfl | rfl | rfl | rfl | rfl | rfl | rfl | rfl | rfl | rfl | rfl | rfl | rfl | rfl | rfl <;> rfl
 have hall:∀k,Koe W k (match k with | 1=>a1 | 2=>a2 | 3=>a3 | 4=>a4 | 5=>a5 | 6=>a6 | _=>a7):=by
  intro k
  match k with
  | 1=>exact ⟨p1,⟨s1,q1,r1⟩,b1⟩
  | 2=>exact ⟨p2,⟨s2,q2,r2⟩,b2⟩
  | 3=>exact ⟨p3,⟨s3,q3,r3⟩,b3⟩
  | 4=>exact ⟨p4,⟨s4,q4,r4⟩,b4⟩
  | 5=>exact ⟨p5,⟨s5,q5,r5⟩,b5⟩
  | 6=>exact ⟨p6,⟨s6,q6,r6⟩,b6⟩
  | 0=>exact ⟨p7,⟨s7,q7,r7⟩,b7⟩
  | _+7=>exact ⟨p7,⟨s7,q7,r7⟩,b7⟩
 obtain ⟨a,ha⟩:∃a:Nat→Addr,∀k,Koe W k (a k):=⟨_,hall⟩;refine ⟨a,⟨fun i j hi1 hi2 hj1 hj2 hne e=>?_,Kag (hnib 0 (by decide)),Kag (hdb 0 (by decide))⟩,⟨⟨fun k hk=>⟨Kag (ha k).1,(ha k).1⟩,fun k h1 h2=>?_⟩,hnib,hdb,Nat.le_refl _⟩,⟨Kag (ha 6).1,(ha 6).1⟩⟩
 ·obtain ⟨si,ci,ti⟩:=(ha i).2.1;obtain ⟨sj,cj,tj⟩:=(ha j).2.1;rw[e,cj] at ci;injection ci with ci;injection ci with ci;refine Kse i ?_ j ?_ hne ?_
  ·simp;omega
  ·simp;omega
  ·rw[←ti,←tj,ci]
 ·obtain ⟨c,t,e⟩:=(ha k).2.2;exact ⟨(Array.getElem?_eq_some_iff.1 e).1,c,t,e⟩
def Kvv:DataW Unit→Array Value
 | .agg l=>(l.map fun | .lit (.int k v)=>Value.int k v | _=>undef).toArray
 | _=>#[]
noncomputable def kptWorld (os:Os):World:=
 let N:=(World.settled Tryz.prog os).heap.size
 let w0:=World.holding Tryz.prog os ⟨#[
  .cells #[.string ⟨(sentT 1).toArray⟩] 382,.cells #[.string ⟨(sentT 2).toArray⟩] 382,.cells #[.string ⟨(sentT 3).toArray⟩] 382,
  .cells #[.string ⟨(sentT 4).toArray⟩] 382,.cells #[.string ⟨(sentT 5).toArray⟩] 382,.cells #[.string ⟨(sentT 7).toArray⟩] 382],#[],[]⟩
 let put (h:Array Obj) (g:Nat) (k:Nat):Array Obj:=h.modify g fun
  | .cells _ t frozen=>.cells #[.iface 360 (.pointer (some ⟨N+k,0,none⟩))] t frozen
  | o=>o
 let tab (h:Array Obj) (g:Nat) (d:DataW Unit):Array Obj:=h.modify g fun
  | .cells _ t frozen=>.cells (Kvv d) t frozen
  | o=>o
 { w0 with heap:=tab (tab (put (put (put (put (put (put w0.heap 6 0) 5 1) 3 2) 2 3) 4 4) 0 5)
  9 Rows.laid_math_bits_deBruijn64tab) 7 Rows.laid_almanac_enc_nibbles }
noncomputable def Kkt (os:Os):World:=
 let N:=(World.settled Tryz.prog os).heap.size
 let w0:=World.holding Tryz.prog os ⟨#[
  .cells #[.string ⟨(sentT 1).toArray⟩] 382,.cells #[.string ⟨(sentT 2).toArray⟩] 382,.cells #[.string ⟨(sentT 3).toArray⟩] 382,
  .cells #[.string ⟨(sentT 4).toArray⟩] 382,.cells #[.string ⟨(sentT 5).toArray⟩] 382,.cells #[.string ⟨(sentT 6).toArray⟩] 382,.cells #[.string ⟨(sentT 7).toArray⟩] 382],#[],[]⟩
 let put (h:Array Obj) (g:Nat) (k:Nat):Array Obj:=h.modify g fun
  | .cells _ t frozen=>.cells #[.iface 360 (.pointer (some ⟨N+k,0,none⟩))] t frozen
  | o=>o
 let tab (h:Array Obj) (g:Nat) (d:DataW Unit):Array Obj:=h.modify g fun
  | .cells _ t frozen=>.cells (Kvv d) t frozen
  | o=>o
 { w0 with heap:=tab (tab (put (put (put (put (put (put (put w0.heap 6 0) 5 1) 3 2) 2 3) 4 4) 1 5) 0 6)
  9 Rows.laid_math_bits_deBruijn64tab) 7 Rows.laid_almanac_enc_nibbles }
set_option maxRecDepth 1000000 in
theorem Qhu (os:Os) (args:Array Value):laidMet Tryz.prog Rows.ckptSpoiltRow.laid ((Kkt os).forCall (fun _ _=>0) ⟨#[],args,[]⟩).memory:=
 laidMet_of_run' 8 (by kernel_rfl) (by kernel_rfl)
theorem Qer:(Rows.ckptSpoiltUptoRow.inPlace == Tryz.pinned.checked.prog.inPlace 6)=true:=by kernel_rfl
theorem Qes:(Rows.ckptSpoiltUptoRow.unfollowed == Tryz.pinned.checked.prog.unfollowed 6)=true:=by kernel_rfl
theorem Qet:(Rows.ckptSpoiltUptoRow.recurses == Tryz.pinned.checked.prog.recurses 6)=true:=by kernel_rfl
theorem Qeu:(Rows.ckptSpoiltUptoRow.named == Tryz.pinned.checked.prog.varsNamed 6)=true:=by kernel_rfl
theorem Kvp:joinedFacts Tryz.pinned.checked.prog 6 Tryz.f6 (Rows.OpenSpec.upto Rows.ckptSpoiltSpec).bare Rows.ckptSpoiltUptoRow=true:=by
 unfold joinedFacts;simp only[Bool.and_eq_true]
 repeat' apply And.intro
 all_goals first | with_reducible exact Qer | with_reducible exact Qes | with_reducible exact Qet | with_reducible exact Qeu | kernel_rfl
theorem Kvr (os:Os) {H:Type} (enc:TypeId×Value→H):∃places,DataW.whole enc Tryz.prog ((Kkt os).forCall (fun _ _=>0) ⟨#[],#[.slice none 0 0,.int .i64 0,.int .u8 0],[]⟩).memory Tryz.f6.params.toList Rows.ckptSpoiltSpec.vars false #[Value.slice none 0 0,.int .i64 0,.int .u8 0].toList 8=some ([.nil,.lit (.int .i64 0),.lit (.int .u8 0)],[],places):=
 ⟨[],by kernel_rfl⟩
theorem Kou (H:Type) (enc:TypeId×Value→H) (W:World) (base:Nat) (args:Array Value) (ds gs:List (DataW H)) (before:List MemPlace)
  (hval0:∀(j:Nat) t v,Tryz.f6.params[j]? = some t→args[j]? = some v→Value.okWide Tryz.prog W .any base t v)
  (hW:DataW.Whole enc Tryz.prog Tryz.f6.params.toList Rows.ckptSpoiltSpec.vars false W args.toList ds gs before) (hsz0:(DataW.weightsEach Tryz.prog (Tryz.f6.params.toList++Rows.ckptSpoiltSpec.plain.varTypes Tryz.prog) (ds++gs)).all (·≤reachBytes)=true) (hk0:Rows.uptoSmall H (ds++gs)=true) (hL:laidMetH Tryz.prog Rows.ckptSpoiltRow.laid W) :
  Calls Tryz.prog 6 args W fun e W'=>∃v,e = .returned v∧Rows.ckptSpoiltSpec.post enc Tryz.prog Tryz.f6 false true false false W args v W':=by
 have hval:=hval0;have hW':=hW;have hsz:=hsz0;obtain ⟨p,q,hA0,hV,rfl,_,_⟩:=hW;have hA:DataW.TrodAll enc Tryz.prog W 0 (fun _=>true) true Tryz.f6.params.toList args.toList ds p:=hA0;rw[Tryz.params6] at hA hval hsz;obtain ⟨v0,v1,v2,d0,d1,d2,p0,p1,p2,rfl,rfl,rfl,h0,h1,h2⟩:=trodAll_three hA;obtain ⟨rfl,rfl⟩:=trodVars_none hV;clear hA0 hval0 hsz0;simp only[List.append_nil] at hW';simp only[List.append_nil] at hk0;have hbulk:=Qhf hk0;simp only[Rows.uptoBulkAll,Nat.add_zero] at hbulk;have hlt:∀x∈p0++(p1++p2),x.block < W.heap.size:=fun x hx=>by simpa using hW'.lt x (by simpa using hx)
 have hargs:∀(W':World),Below W.heap.size W W'→DataW.TrodAll enc Tryz.prog W' 0 (fun b=>decide (b < W.heap.size)) true [22,3,5] [v0,v1,v2] [d0,d1,d2] (p0++(p1++p2)):=
  fun W' hn=>trodAll_mk3 (Below.trod Tryz.laidOut (by kernel_rfl) (of_decide_eq_true (by kernel_rfl)) h0 hn (fun x hx=>hlt x (by simp[hx]))) (Below.trod Tryz.laidOut (by kernel_rfl) (of_decide_eq_true (by kernel_rfl)) h1 hn (fun x hx=>hlt x (by simp[hx]))) (Below.trod Tryz.laidOut (by kernel_rfl) (of_decide_eq_true (by kernel_rfl)) h2 hn (fun x hx=>hlt x (by simp[hx])))
 obtain ⟨fu0,hf0⟩:=id h0;obtain ⟨x0,y0,z0,rfl⟩:=okWide_slice Tryz.underlying22 (hval 0 22 v0 rfl rfl);obtain ⟨A0,n0,c0,L0,he0,hA0,hS0,hb0⟩:=Qbx hf0;injection he0 with x0e y0e z0e;subst x0e y0e z0e;obtain ⟨z1,rfl,rfl,rfl,hz1⟩:=open_int Tryz.underlying3 (hval 1 3 v1 rfl rfl) h1;obtain ⟨z2,rfl,rfl,rfl,hz2⟩:=open_int Tryz.underlying5 (hval 2 5 v2 rfl rfl) h2;have hU0:=Kit d0;obtain ⟨a,hC,hE,h6⟩:=Qbr hL;obtain ⟨m,rfl⟩:=Qlx hz2;refine (Knq L0 x0 y0 z0 z1 m W hS0 (hb0 (by dsimp only at *;omega)) (Kly hz1) hC hE h6).mono fun e W' ⟨he,hb⟩=>?_
 subst he;exact ⟨_,rfl,_,_,_,[],_,[],hW',trodAll_mk1 (shut_bool Tryz.underlying4 true),hargs _ hb,rfl,hb.frame _,fun h=>by cases h⟩
theorem Ktf (os:Os) (started:os.Started) (H:Type) (enc:TypeId×Value→H) (F:Stop.Interp) :
  ReturnsInHanded {} Tryz.checked os 6 .any ((Rows.OpenSpec.upto Rows.ckptSpoiltSpec).preRow enc Tryz.prog Tryz.f6 Rows.ckptSpoiltUptoRow.domain false Rows.ckptSpoiltUptoRow.laid) (((Rows.OpenSpec.upto Rows.ckptSpoiltSpec).at F).post enc Tryz.prog Tryz.f6 false true false false):=by
 obtain ⟨places,hx⟩:=Kvr os enc
 refine returnsInHanded_of_row (C:=Tryz.checked) (s:=Rows.OpenSpec.upto Rows.ckptSpoiltSpec) Tryz.own started (by kernel_rfl) Tryz.func6
  (witness_row_atRef (enc:=enc) (C:=Tryz.checked) false (Kkt os) #[.slice none 0 0,.int .i64 0,.int .u8 0] rfl (by kernel_rfl) (by kernel_rfl) (by kernel_rfl)
   (OpenSpec.preRow_of_cond 8 hx (by kernel_rfl) (fun k hk=>by cases hk;kernel_rfl) (by kernel_rfl) (Qhu os _))) ?_
 intro W base args ds gs before hval hW _ hcond hsz hL _ _;exact Kou H enc W base args ds gs before hval hW hsz (hcond _ rfl) hL
theorem Kyl:Rows.CkptSpoiltUptoSaid:=
 OpenClaim.holds_of_cond 6 Tryz.f6 rfl rfl rfl rfl rfl rfl rfl ⟨rfl,rfl,rfl,rfl,rfl⟩ rfl rfl rfl rfl rfl (by kernel_rfl) Tryz.func6 Kvp
  (of_decide_eq_true (by kernel_rfl)) (by unfold Func.isWrapper;first | (rw[if_pos (by decide +kernel)];kernel_rfl) | (rw[if_neg (by decide +kernel)];exact ⟨rfl,rfl⟩))
  (fun os started H enc _ F=>by rw[OpenClaim.pre_eq_preRow];exact Ktf os started H enc F)
theorem Kvq (f:FuncId) (fn:Func) (hf:Tryz.pinned.checked.prog.funcNamed "almanac/almanaclaw17.CkptSpoilt" = some f) (hfn:Tryz.pinned.checked.prog.funcs[f]? = some fn) :
  true = Tryz.pinned.checked.prog.looks []∧∀(j:Nat) t,fn.params[j]? = some t→Tryz.pinned.checked.prog.wantsStandIn t=false:=by
 obtain rfl:f = 6:=Option.some.inj ((show Tryz.prog.funcNamed "almanac/almanaclaw17.CkptSpoilt" = some 6 by kernel_rfl).symm.trans hf) |>.symm;obtain rfl:fn = Tryz.f6:=(Option.some.inj (Tryz.func6.symm.trans hfn)).symm;refine ⟨by kernel_rfl,fun j t ht=>?_⟩;rw[Tryz.params6] at ht;have hm:t = 22∨t = 3∨t = 5:=by simpa using Array.mem_of_getElem? ht
 rcases hm with rfl | rfl | rfl
 ·exact (show Tryz.prog.wantsStandIn 22 = false by kernel_rfl)
 ·exact (show Tryz.prog.wantsStandIn 3 = false by kernel_rfl)
 ·exact (show Tryz.prog.wantsStandIn 5 = false by kernel_rfl)
theorem ckptSpoilt_holds:Rows.CkptSpoiltUptoCardSaid:=
 Claim7.holds_tied_plain_at .later [] _ _ _ _ Kyl (fun _ h=>by cases h) (by kernel_rfl) (fun _ h=>by cases h) ckptSpoiltUpto_row_tie rfl ⟨rfl,rfl⟩ (by kernel_rfl) rfl Kvq (by kernel_rfl)
end
end Go.Proofs.YtefpndiiedkmpaaGreatDoor
