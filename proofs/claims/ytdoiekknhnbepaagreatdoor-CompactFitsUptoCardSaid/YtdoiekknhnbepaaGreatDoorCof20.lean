/- Merged (what the claim wants of): CLawA, BlkD, CProofFF, CProofF. -/
import Derived.Test.YtdoiekknhnbepaaGreatDoorCof17
import Derived.Test.YtdoiekknhnbepaaGreatDoorCof18
import Derived.Test.YtdoiekknhnbepaaGreatDoorCof19
import Derived.Test.YtdoiekknhnbepaaGreatDoorCards
import Derived.Test.YtdoiekknhnbepaaGreatDoorTie
import Derived.WalkKit
import Derived.Deep.DeepHandedRow
import Derived.Deep.DeepWitnessRowRef
import Derived.Lib.LaidTab
import Derived.Stop.LaidTwo
import Derived.Test.YtdoiekknhnbepaaGreatDoorRows
import Derived.ProofKit
set_option linter.unusedVariables false
set_option linter.unusedSimpArgs false
set_option maxRecDepth 100000
set_option maxHeartbeats 8000000
namespace Go.Proofs.YtdoiekknhnbepaaGreatDoor
section
open Go.Shelf Go.RowKit Go.Lib Go.Sort
open Lib renaming hid → Jh
attribute [local go_sem ↓] Go.wp_at_zero Go.wp_at_succ
attribute [local go_sem] Later.cell
section
set_option maxHeartbeats 4000000
set_option maxRecDepth 100000
def ser0:Ser:=⟨[⟨[97],[120]⟩],[⟨3,0⟩,⟨9,0⟩,⟨25,0⟩],[]⟩
theorem all0:allF 0 [ser0] = [ser0]:=by rfl
theorem Qeo {L:List Int} (h:Kff 10 (Kas (allF 0 [ser0])) L):L = [0,20]:=by
 rw[all0] at h;have e:Kbs 10 (Kas [ser0]) = [0,0,20]:=by rfl
 refine Kih id h.asc (by decide) fun x=>?_
 rw[h.mem x,e];simp
def cont0:Cont:=Kbt 0 10 [ser0] 0
def cont1:Cont:=Kbt 0 10 [ser0] 20
theorem fit0:([cont0,cont1].all fitB)=true:=by rfl
theorem ok0:okAll [cont0,cont1]=true:=by rfl
theorem out0:outC [cont0,cont1]=(0,0,30):=by rfl
theorem mrg0:Kbm 0 [] (Kan ([cont0,cont1].map Cont.series).flatten) = [ser0]:=by rfl
theorem ssz0:SSz [ser0]:=⟨by decide,by decide,by decide,fun s hs=>by
 rw[List.mem_singleton] at hs;subst hs
 exact ⟨by decide,by decide,by decide,by decide,fun x hx=>(by cases hx),by decide⟩⟩
theorem Gones.nil (w:World):Gones w none 0 []:=⟨Elems.nil_,fun x hx=>by simp at hx,by omega⟩
theorem sers0 {w w1:World} (hw:w1=((w.alloc (.cells #[.string ⟨#[97]⟩,.string ⟨#[120]⟩] 99)).alloc (.cells #[.int .i64 3,.int .u64 0,.int .i64 9,.int .u64 0,.int .i64 25,.int .u64 0] 102)).alloc (.cells #[.slice (some ⟨w.heap.size,0,none⟩) 1 1,.slice (some ⟨w.heap.size+1,0,none⟩) 3 3,.slice none 0 0] 58)) :
  Sers w1 (some ⟨w.heap.size+2,0,none⟩) 1 [ser0]:=by
 have h0:Blk w1 w.heap.size 99 #[.string ⟨#[97]⟩,.string ⟨#[120]⟩]:=by rw[hw];exact ((Blk.new _ _ _).alloc _).alloc _
 have h1:Blk w1 (w.heap.size+1) 102 #[.int .i64 3,.int .u64 0,.int .i64 9,.int .u64 0,.int .i64 25,.int .u64 0]:=by rw[hw];exact (Blk.newAt (by simp)).alloc _
 have h2:Blk w1 (w.heap.size+2) 58 #[.slice (some ⟨w.heap.size,0,none⟩) 1 1,.slice (some ⟨w.heap.size+1,0,none⟩) 3 3,.slice none 0 0]:=by rw[hw];exact Blk.newAt (by simp)
 refine ⟨[⟨⟨some ⟨w.heap.size,0,none⟩,1,1⟩,⟨some ⟨w.heap.size+1,0,none⟩,3,3⟩,⟨none,0,0⟩⟩],⟨rfl,fun _=>⟨w.heap.size+2,0,rfl,h2.lt,fun i x hx j v hv=>?_⟩⟩,rfl,fun i hd hi=>?_⟩
 ·cases i with
  | zero=>
   simp only[List.getElem?_cons_zero,Option.some.injEq] at hx;subst hx;rw[h2.cell];simpa[encH3] using hv
  | succ i=>simp at hx
 ·cases i with
  | zero=>
   simp only[List.getElem?_cons_zero,Option.some.injEq] at hi;subst hi;refine ⟨⟨rfl,fun _=>⟨w.heap.size,0,rfl,h0.lt,fun i x hx j v hv=>?_⟩⟩,Nat.le_refl _,⟨rfl,fun _=>⟨w.heap.size+1,0,rfl,h1.lt,fun i x hx j v hv=>?_⟩⟩,Nat.le_refl _,⟨rfl,fun h=>absurd h (Nat.lt_irrefl _)⟩,Nat.le_refl _⟩
   ·cases i with
    | zero=>
     have e:x=⟨[97],[120]⟩:=by have:some _=some x:=hx;injection this with this;exact this.symm
     subst e;rw[h0.cell];simpa[encLb] using hv
    | succ i=>simp[ser0] at hx
   ·match i,hx with
    | 0,hx=>
     have e:x=⟨3,0⟩:=by have:some _=some x:=hx;injection this with this;exact this.symm
     subst e;rw[h1.cell]
     match j,hv with
     | 0,hv=>simpa[Kad] using hv
     | 1,hv=>simpa[Kad] using hv
     | j+2,hv=>simp[Kad] at hv
    | 1,hx=>
     have e:x=⟨9,0⟩:=by have:some _=some x:=hx;injection this with this;exact this.symm
     subst e;rw[h1.cell]
     match j,hv with
     | 0,hv=>simpa[Kad] using hv
     | 1,hv=>simpa[Kad] using hv
     | j+2,hv=>simp[Kad] at hv
    | 2,hx=>
     have e:x=⟨25,0⟩:=by have:some _=some x:=hx;injection this with this;exact this.symm
     subst e;rw[h1.cell]
     match j,hv with
     | 0,hv=>simpa[Kad] using hv
     | 1,hv=>simpa[Kad] using hv
     | j+2,hv=>simp[Kad] at hv
    | i+3,hx=>simp[ser0] at hx
  | succ i=>simp at hi
theorem Kga (w:World) (hE:BEnv w):Calls Tryz.prog 16 #[] w fun e w'=>e = .returned (.bool true)∧Below w.heap.size w w':=by
 obtain ⟨w1,hw1⟩:∃x,x=((w.alloc (.cells #[.string ⟨#[97]⟩,.string ⟨#[120]⟩] 99)).alloc (.cells #[.int .i64 3,.int .u64 0,.int .i64 9,.int .u64 0,.int .i64 25,.int .u64 0] 102)).alloc (.cells #[.slice (some ⟨w.heap.size,0,none⟩) 1 1,.slice (some ⟨w.heap.size+1,0,none⟩) 3 3,.slice none 0 0] 58):=⟨_,rfl⟩;have hS:=sers0 hw1;have hb1:Below w.heap.size w w1:=by rw[hw1];exact (((Below.refl _ _).alloc (Nat.le_refl _) _).alloc (by simp) _).alloc (by simp;omega) _
 have HSP:=Jh (Kvu 0 10 (some ⟨w.heap.size+2,0,none⟩) 1 1 [ser0] w1 hS (Nat.le_refl _) ssz0 (hE.below hb1));rw[hw1] at HSP;have HB1:=Jh hb1;have HE:=Jh hE;have HW1:=Jh hw1;clear hS hb1 hE hw1;go_enter Tryz.func16,Tryz.ntmps16
 go_wp2_with fail
 refine HSP.out.mono ?_;rw[←HW1.out];rintro e2 w2 ⟨hor,hb2⟩
 have hor2:∃(A':Option Addr) (c':Nat) (xs:List CH),e2 = .returned (.tuple #[.slice A' 2 c',.int .i64 0])∧Kdr w2 A' 2 xs [cont0,cont1]∧2≤c':=by
  rcases hor with ⟨h,_⟩ | ⟨_,h,_⟩ | ⟨_,_,L,hL,h⟩
  ·exact absurd ⟨by decide,by decide⟩ h
  ·exact absurd ⟨by decide,by decide⟩ h
  ·obtain rfl:=Qeo hL;rw[all0] at h;rcases h with ⟨h,_⟩ | ⟨_,A',n',c',xs,he,hc,hn⟩
   ·have h2:([cont0,cont1].all fitB)=false:=h;rw[fit0] at h2;cases h2
   ·have hl:n'=2:=hc.l.symm;subst hl;exact ⟨A',c',xs,he,hc,hn⟩
 clear hor;obtain ⟨A2,c2,xs,rfl,hC,hc2⟩:=hor2;have HB2:Hid (Below w.heap.size w w2):=HB1.out.trans (hb2.mono HB1.out.size);have HC:=Jh hC;obtain ⟨b,off,hA,hb,hcell⟩:=hC.e.2 (by decide);have hxl:=hC.e.len
 match xs,hxl with
 | [x0,x1],_=>
  have k0:=hC.k 0 x0 rfl;have k1:=hC.k 1 x1 rfl;have hx0:x0.h.n=1:=by have:=k0.2.2.2.1.s.len;exact this.symm
  have hx1:x1.f=20:=by have:=k1.2.1;exact this.symm
  have o1:w2.cell? ⟨b,off+4+1,none⟩=some (.int .i64 20):=by
   have:=hcell 1 x1 rfl 1 _ rfl;rw[hx1] at this;simpa using this
  have o0:w2.cell? ⟨b,off+3,none⟩=some (.slice x0.h.A 1 x0.h.c):=by
   have:=hcell 0 x0 rfl 3 _ rfl;rw[hx0] at this;simpa using this
  subst hA;have HCC:=Jh (Kjd none 0 0 [] (some ⟨b,off,none⟩) 2 c2 [x0,x1] [cont0,cont1] w2 hC (Gones.nil w2) (HE.out.below HB2.out) (by decide) (by decide));clear hC hcell hxl k0 k1 hx0 hx1 hb2 HSP;obtain ⟨x0A,hx0A⟩:∃q,q=x0.h.A:=⟨_,rfl⟩;obtain ⟨x0c,hx0c⟩:∃q,q=x0.h.c:=⟨_,rfl⟩;rw[←hx0A,←hx0c] at o0;clear hx0A hx0c;go_wp2_with fail
  refine HCC.out.mono ?_;rintro e3 w3 ⟨hor,hb3⟩
  have hor2:∃(A':Option Addr) (c':Nat),e3 = .returned (.tuple #[.agg #[.int .i64 0,.int .i64 0,.int .i64 30,.slice A' 1 c'],.int .i64 0])∧Sers w3 A' 1 [ser0]:=by
   rcases hor with ⟨h,_⟩ | ⟨_,A',n',c',he,hs,_⟩
   ·rcases h with h | h
    ·exact absurd h (by decide)
    ·rw[ok0] at h;cases h
   ·rw[out0] at he hs
    have hs2:Sers w3 A' n' [ser0]:=by
     have h0:=hs;dsimp only at h0;rw[mrg0] at h0;exact h0
    have hl:n'=1:=hs2.len.symm;subst hl;exact ⟨A',c',he,hs2⟩
  clear hor;obtain ⟨A3,c3,rfl,hs3⟩:=hor2;obtain ⟨hs,hE3,_,hat⟩:=hs3;have hhl:=hE3.len;obtain ⟨b3,off3,hA3,hb3l,hcell3⟩:=hE3.2 (by decide)
  match hs,hhl with
  | [hd],_=>
   have hsn:hd.s.n=3:=by have:=(hat 0 hd rfl).s.len;exact this.symm
   obtain ⟨w4,hw4⟩:∃y,y=w3.alloc (.cells #[.int .i64 0,.int .i64 0,.int .i64 30,.slice A3 1 c3] 28):=⟨_,rfl⟩;have hb4:Below w3.heap.size w3 w4:=by rw[hw4];exact (Below.refl _ _).alloc (Nat.le_refl _) _
   have HBX:Hid (Blk w4 w3.heap.size 28 #[.int .i64 0,.int .i64 0,.int .i64 30,.slice A3 1 c3]):=by show Blk _ _ _ _;rw[hw4];exact Blk.new _ _ _
   have HB4:Hid (Below w.heap.size w w4):=by
    have h1:=HB2.out.trans (hb3.mono HB2.out.size);exact h1.trans (hb4.mono h1.size)
   have z0:w4.cell? ⟨b3,off3+1,none⟩=some (.slice hd.s.A 3 hd.s.c):=by
    have:=(hb4.cell (p:=⟨b3,off3+0*3+1,none⟩) hb3l).trans (hcell3 0 hd rfl 1 _ rfl);rw[hsn] at this;simpa using this
   have zl:b3 < w4.heap.size:=Nat.lt_of_lt_of_le hb3l hb4.size;have HW4:=Jh hw4;subst hA3;clear hat hE3 hhl hcell3 hsn hb3 hb4 hw4 hb3l HCC HC;obtain ⟨sA,hsA⟩:∃q,q=hd.s.A:=⟨_,rfl⟩;obtain ⟨sc,hsc⟩:∃q,q=hd.s.c:=⟨_,rfl⟩;rw[←hsA,←hsc] at z0;clear hsA hsc;go_upto_region 5 with fail
   try rw[←HW4.out]
   have q2:=HBX.out.cell 2;have q3:=HBX.out.cell 3;simp at q2 q3;have ql:=HBX.out.lt;clear HW4;go_wp2_with fail
   go_ret
   exact ⟨rfl,HB4.out⟩
theorem Kku (gB:Option Addr) (gN gC:Nat) (ghs:List (Hd4×GoneP)) (A:Option Addr) (n c:Nat) (xs:List CH) (cs:List Cont) (w:World) (h:Kwb w A n xs cs) (hG:Gones w gB gN ghs) (hE:BEnv w) :
  Calls Tryz.prog 4 #[.slice gB gN gC,.slice A n c] w fun e w'=>e = .returned (.bool true)∧Below w.heap.size w w':=by
 have HCC:=Jh (Kjd gB gN gC ghs A n c xs cs w h.c hG hE (by have:=h.n;omega) (by have:=h.m;omega));have HSZ:Hid (SSz (Kbm (outC cs).1 ghs (Kan (cs.map Cont.series).flatten))):=(SSz.mk h.n h.m h.k h.z).sub ((Kgp _).trans (Kqj _ _ _));have HE:=Jh hE;have HNN:Hid (n=0→cs = []):=fun h0=>List.eq_nil_of_length_eq_zero (by rw[h.c.l,h0])
 have HLN:Hid (cs = []→n=0):=fun h0=>by rw[←h.c.l,h0];rfl
 clear h hG hE;go_enter Tryz.func4,Tryz.ntmps4
 go_wp2_with fail
 refine HCC.out.mono ?_;rintro e1 w1 ⟨hor,hb1⟩;have HB1:=Jh hb1;rcases hor with ⟨_,rfl⟩ | ⟨⟨hn,hok⟩,A1,n1,c1,rfl,hs1,hc1⟩
 ·obtain ⟨w2,hw2⟩:∃y,y=w1.alloc (.cells #[.int .i64 0,.int .i64 0,.int .i64 0,.slice none 0 0] 28):=⟨_,rfl⟩;have HB2:Hid (Below w.heap.size w w2):=by show Below _ _ _;rw[hw2];exact HB1.out.alloc HB1.out.size _
  have HWK:=Jh (Kga w2 (HE.out.below HB2.out));have HW2:=Jh hw2;clear hb1 hw2;go_upto_region 2 with fail
  try rw[←HW2.out]
  clear HW2;go_wp2_with fail
  refine HWK.out.mono ?_;rintro _ w3 ⟨rfl,hb3⟩;have HB3:Hid (Below w.heap.size w w3):=HB2.out.trans (hb3.mono HB2.out.size);have HWK3:=Jh (Kga w3 (HE.out.below HB3.out));clear hb3 HWK;go_wp2_with fail
  refine HWK3.out.mono ?_;rintro _ w4 ⟨rfl,hb4⟩;have HB4:Hid (Below w.heap.size w w4):=HB3.out.trans (hb4.mono HB3.out.size);clear hb4 HWK3;go_wp2_with fail
  go_ret
  exact ⟨rfl,HB4.out⟩
 ·obtain ⟨cc,hcc⟩:∃cc:Cont,cc=⟨(outC cs).1,(outC cs).2.1,(outC cs).2.2,Kbm (outC cs).1 ghs (Kan (cs.map Cont.series).flatten)⟩:=⟨_,rfl⟩;have hfit:fitB cc=true:=by rw[hcc];exact Kxl (fun e=>hn (HLN.out e)) hok ghs
  have hcz:CSz cc:=by rw[hcc];exact HSZ.out.csz _ _ _
  obtain ⟨r,hr⟩:∃r,r=(outC cs).1:=⟨_,rfl⟩;obtain ⟨f,hf⟩:∃r,r=(outC cs).2.1:=⟨_,rfl⟩;obtain ⟨t,ht⟩:∃r,r=(outC cs).2.2:=⟨_,rfl⟩;have hso:Ket w1 A1 n1 cc.series:=by rw[hcc];exact HSZ.out.ok hs1
  have hq:cc.res=r∧cc.frm=f∧cc.to_=t:=by rw[hcc,hr,hf,ht];exact ⟨rfl,rfl,rfl⟩
  rw[←hr,←hf,←ht];obtain ⟨w2,hw2⟩:∃y,y=w1.alloc (.cells #[.int .i64 r,.int .i64 f,.int .i64 t,.slice A1 n1 c1] 28):=⟨_,rfl⟩;obtain ⟨p,hp⟩:∃p,p=w1.heap.size:=⟨_,rfl⟩;have hb2:Below w1.heap.size w1 w2:=by rw[hw2];exact (Below.refl _ _).alloc (Nat.le_refl _) _
  have HBX:Hid (Blk w2 p 28 #[.int .i64 r,.int .i64 f,.int .i64 t,.slice A1 n1 c1]):=by show Blk _ _ _ _;rw[hw2,hp];exact Blk.new _ _ _
  have HB2:Hid (Below w.heap.size w w2):=HB1.out.trans (hb2.mono HB1.out.size);have HSO:Hid (Ket w2 A1 n1 cc.series):=hso.below hb2;have HQ:=Jh hq;have HFIT:=Jh hfit;have HCZ:=Jh hcz;have HWK:=Jh (Kga w2 (HE.out.below HB2.out));have HW2:=Jh hw2;have HP:=Jh hp;clear hb1 hw2 hb2 hso hq hfit hcz hcc hr hf ht hs1 hc1 hp hok hn HSZ HNN HLN HCC;go_upto_region 2 with fail
  rw[←HW2.out,←HP.out];clear HW2 HP;go_wp2_with fail
  refine HWK.out.mono ?_;rintro _ w3 ⟨rfl,hb3⟩;have HB3:Hid (Below w.heap.size w w3):=HB2.out.trans (hb3.mono HB2.out.size);have HBX3:Hid (Blk w3 p 28 #[.int .i64 r,.int .i64 f,.int .i64 t,.slice A1 n1 c1]):=HBX.out.below hb3 HBX.out.lt
  have HBL:Hid (Calls Tryz.prog 19 #[.agg #[.int .i64 r,.int .i64 f,.int .i64 t,.slice A1 n1 c1]] w3 fun e w'=>(∃S0 S1 S2,e = .returned (.tuple #[.agg #[.string S0,.string S1,.string S2],.int .i64 0]))∧Below w3.heap.size w3 w'):=by
   have:=Klu cc A1 n1 c1 w3 (HSO.out.below hb3) HCZ.out (HE.out.below HB3.out);rw[HQ.out.1,HQ.out.2.1,HQ.out.2.2,if_pos HFIT.out] at this;refine this.mono ?_;rintro e w' ⟨⟨S0,S1,S2,he,_⟩,hb⟩;exact ⟨⟨S0,S1,S2,he⟩,hb⟩
  have z0:=HBX3.out.cell 0;have z1:=HBX3.out.cell 1;have z2:=HBX3.out.cell 2;have z3:=HBX3.out.cell 3;simp at z0 z1 z2 z3;have zl:=HBX3.out.lt;clear hb3 HWK HBX HSO;go_wp2_with fail
  refine HBL.out.mono ?_;rintro _ w4 ⟨⟨S0,S1,S2,rfl⟩,hb4⟩;have HB4:Hid (Below w.heap.size w w4):=HB3.out.trans (hb4.mono HB3.out.size);clear hb4 HBL;go_wp2_with fail
  go_ret
  exact ⟨rfl,HB4.out⟩
end
end
section
open Go.ChangeShapes Go.WideShapes Go.ChangeAt Go.RowKit Go.ChangeMaps
theorem Ksv {P:Program} {W:World} {x:String×DataW Unit} {r:List (String×DataW Unit)} (h:laidMet P (x :: r) W):laidMet P r W:=by
 obtain ⟨ps,⟨g,t,cs,f,p,q,hg,ht,hv,hd,hr,e⟩,hnd,hrows⟩:=h;subst e;refine ⟨q,hr,?_,fun b off hm=>hrows b off (by simp[hm])⟩
 first | exact (List.nodup_append.1 hnd).2.1 | exact (List.nodup_append.1 (List.nodup_append.1 hnd).2.1).2.1
theorem Kze {W:World} (h:laidMet Tryz.prog Rows.blockBackRow.laid W):BEnv W:=by
 have h1:=Ksv h;have hdbT:Lib.TabIs Tryz.prog W "math/bits.deBruijn64tab" .u8 (Lib.deBruijn64tab.map fun n:Nat=>(n:Int)):=Lib.tabIs_of_head (g:=2) (t:=348) (e:=5) (n:=64) (by kernel_rfl) (by kernel_rfl) (by kernel_rfl) (by kernel_rfl) (by kernel_rfl) (by kernel_rfl) h;have hnibT:Lib.TabIs Tryz.prog W "almanac/enc.nibbles" .u32 [0,274646895,549293790,820201905,1098587580,1361435347,1640403810,1905808397,2197175160,2460548119,2722870694,2987750089,3280807620,3553878443,3811616794,4084100981]:=Lib.tabIs_of_head (g:=0) (t:=276) (e:=74) (n:=16) (by kernel_rfl) (by kernel_rfl) (by kernel_rfl) (by kernel_rfl) (by kernel_rfl) (by kernel_rfl) h1;refine ⟨fun i hi=>?_,fun i hi=>?_⟩
 ·rw[hnibT.cell (by kernel_rfl) i hi];rcases (by omega:i=0∨i=1∨i=2∨i=3∨i=4∨i=5∨i=6∨i=7∨i=8∨i=9∨i=10∨i=11∨i=12∨i=13∨i=14∨i=15) with rfl | rfl | rfl | rfl | rfl | rfl | rfl | rfl | rfl | rfl | rfl | rfl | rfl | rfl | rfl | rfl <;> rfl
 ·rw[hdbT.cell (by kernel_rfl) i (by rw[List.length_map];exact hi)];congr 2;rw[List.getD_eq_getElem?_getD,List.getElem?_map,List.getD_eq_getElem?_getD,List.getElem?_eq_getElem hi];rfl
def Qcp:DataW Unit→Array Value
 | .agg l=>(l.map fun | .lit (.int k v)=>Value.int k v | _=>undef).toArray
 | _=>#[]
noncomputable def Klt (os:Os):World:=
 let w0:=World.settled Tryz.prog os
 let tab (h:Array Obj) (g:Nat) (d:DataW Unit):Array Obj:=h.modify g fun
  | .cells _ t frozen=>.cells (Qcp d) t frozen
  | o=>o
 { w0 with heap:=tab (tab w0.heap 2 Rows.laid_math_bits_deBruijn64tab) 0 Rows.laid_almanac_enc_nibbles }
set_option maxRecDepth 1000000 in
theorem Qdu (os:Os) (args:Array Value):laidMet Tryz.prog Rows.blockBackRow.laid ((Klt os).forCall (fun _ _=>0) ⟨#[],args,[]⟩).memory:=
 laidMet_of_run' 8 (by kernel_rfl) (by kernel_rfl)
theorem Qbv:(Rows.compactFitsUptoRow.inPlace == Tryz.pinned.checked.prog.inPlace 4)=true:=by kernel_rfl
theorem Qbw:(Rows.compactFitsUptoRow.unfollowed == Tryz.pinned.checked.prog.unfollowed 4)=true:=by kernel_rfl
theorem Qbx:(Rows.compactFitsUptoRow.recurses == Tryz.pinned.checked.prog.recurses 4)=true:=by kernel_rfl
theorem Qby:(Rows.compactFitsUptoRow.named == Tryz.pinned.checked.prog.varsNamed 4)=true:=by kernel_rfl
theorem Kuf:joinedFacts Tryz.pinned.checked.prog 4 Tryz.f4 (Rows.OpenSpec.upto Rows.compactFitsSpec).bare Rows.compactFitsUptoRow=true:=by
 unfold joinedFacts;simp only[Bool.and_eq_true]
 repeat' apply And.intro
 all_goals first | with_reducible exact Qbv | with_reducible exact Qbw | with_reducible exact Qbx | with_reducible exact Qby | kernel_rfl
theorem Kuh (os:Os) {H:Type} (enc:TypeId×Value→H):∃places,DataW.whole enc Tryz.prog ((Klt os).forCall (fun _ _=>0) ⟨#[],#[.slice none 0 0,.slice none 0 0],[]⟩).memory Tryz.f4.params.toList Rows.compactFitsSpec.vars false #[Value.slice none 0 0,.slice none 0 0].toList 8=some ([.nil,.nil],[],places):=
 ⟨[],by kernel_rfl⟩
theorem Koj (H:Type) (enc:TypeId×Value→H) (W:World) (base:Nat) (args:Array Value) (ds gs:List (DataW H)) (before:List MemPlace)
  (hval0:∀(j:Nat) t v,Tryz.f4.params[j]? = some t→args[j]? = some v→Value.okWide Tryz.prog W .any base t v)
  (hW:DataW.Whole enc Tryz.prog Tryz.f4.params.toList Rows.compactFitsSpec.vars false W args.toList ds gs before) (hsz0:(DataW.weightsEach Tryz.prog (Tryz.f4.params.toList++Rows.compactFitsSpec.plain.varTypes Tryz.prog) (ds++gs)).all (·≤reachBytes)=true) (hk0:Rows.uptoSmall H (ds++gs)=true) (hL:laidMetH Tryz.prog Rows.compactFitsRow.laid W) :
  Calls Tryz.prog 4 args W fun e W'=>∃v,e = .returned v∧Rows.compactFitsSpec.post enc Tryz.prog Tryz.f4 false true false false W args v W':=by
 have hval:=hval0;have hW':=hW;have hsz:=hsz0;obtain ⟨p,q,hA0,hV,rfl,_,_⟩:=hW;have hA:DataW.TrodAll enc Tryz.prog W 0 (fun _=>true) true Tryz.f4.params.toList args.toList ds p:=hA0;rw[Tryz.params4] at hA hval hsz;obtain ⟨v0,v1,d0,d1,p0,p1,rfl,rfl,rfl,h0,h1⟩:=trodAll_two hA;obtain ⟨rfl,rfl⟩:=trodVars_none hV;clear hA0 hval0 hsz0;simp only[List.append_nil] at hW';simp only[List.append_nil] at hk0;have hbulk:=Qbt hk0;simp only[Rows.uptoBulkAll,Nat.add_zero] at hbulk;have hlt:∀x∈p0++p1,x.block < W.heap.size:=fun x hx=>by simpa using hW'.lt x (by simpa using hx)
 have hargs:∀(W':World),Below W.heap.size W W'→DataW.TrodAll enc Tryz.prog W' 0 (fun b=>decide (b < W.heap.size)) true [22,23] [v0,v1] [d0,d1] (p0++p1):=
  fun W' hn=>trodAll_mk2 (Below.trod Tryz.laidOut (by kernel_rfl) (of_decide_eq_true (by kernel_rfl)) h0 hn (fun x hx=>hlt x (by simp[hx]))) (Below.trod Tryz.laidOut (by kernel_rfl) (of_decide_eq_true (by kernel_rfl)) h1 hn (fun x hx=>hlt x (by simp[hx])))
 obtain ⟨fu0,hf0⟩:=id h0;obtain ⟨x0,y0,z0,rfl⟩:=okWide_slice Tryz.underlying22 (hval 0 22 v0 rfl rfl);obtain ⟨A0,n0,c0,g0,he0,hA0,hb0⟩:=Kyf hf0;injection he0 with x0e y0e z0e;subst x0e y0e z0e;obtain ⟨fu1,hf1⟩:=id h1;obtain ⟨x1,y1,z1,rfl⟩:=okWide_slice Tryz.underlying23 (hval 1 23 v1 rfl rfl);obtain ⟨A1,n1,c1,xs1,cs1,he1,hA1,hb1⟩:=Kye hf1;injection he1 with x1e y1e z1e;subst x1e y1e z1e;have hU0:=Kfg d0;have hU1:=Kfg d1;have hE:=Kze hL;refine (Kku x0 y0 z0 g0 x1 y1 z1 xs1 cs1 W (hb1 (by dsimp only at *;omega)) (hb0 (by dsimp only at *;omega)) hE).mono fun e W' ⟨he,hb⟩=>?_
 subst he;exact ⟨_,rfl,_,_,_,[],_,[],hW',trodAll_mk1 (shut_bool Tryz.underlying4 true),hargs _ hb,rfl,hb.frame _,fun h=>by cases h⟩
theorem Kru (os:Os) (started:os.Started) (H:Type) (enc:TypeId×Value→H) (F:Stop.Interp) :
  ReturnsInHanded {} Tryz.checked os 4 .any ((Rows.OpenSpec.upto Rows.compactFitsSpec).preRow enc Tryz.prog Tryz.f4 Rows.compactFitsUptoRow.domain false Rows.compactFitsUptoRow.laid) (((Rows.OpenSpec.upto Rows.compactFitsSpec).at F).post enc Tryz.prog Tryz.f4 false true false false):=by
 obtain ⟨places,hx⟩:=Kuh os enc
 refine returnsInHanded_of_row (C:=Tryz.checked) (s:=Rows.OpenSpec.upto Rows.compactFitsSpec) Tryz.own started (by kernel_rfl) Tryz.func4
  (witness_row_atRef (enc:=enc) (C:=Tryz.checked) false (Klt os) #[.slice none 0 0,.slice none 0 0] rfl (by kernel_rfl) (by kernel_rfl) (by kernel_rfl)
   (OpenSpec.preRow_of_cond 8 hx (by kernel_rfl) (fun k hk=>by cases hk;kernel_rfl) (by kernel_rfl) (Qdu os _))) ?_
 intro W base args ds gs before hval hW _ hcond hsz hL _ _;exact Koj H enc W base args ds gs before hval hW hsz (hcond _ rfl) hL
theorem Kxf:Rows.CompactFitsUptoSaid:=
 OpenClaim.holds_of_cond 4 Tryz.f4 rfl rfl rfl rfl rfl rfl rfl ⟨rfl,rfl,rfl,rfl,rfl⟩ rfl rfl rfl rfl rfl (by kernel_rfl) Tryz.func4 Kuf
  (of_decide_eq_true (by kernel_rfl)) (by unfold Func.isWrapper;first | (rw[if_pos (by decide +kernel)];kernel_rfl) | (rw[if_neg (by decide +kernel)];exact ⟨rfl,rfl⟩))
  (fun os started H enc _ F=>by rw[OpenClaim.pre_eq_preRow];exact Kru os started H enc F)
theorem Kug (f:FuncId) (fn:Func) (hf:Tryz.pinned.checked.prog.funcNamed "almanac/almanaclaw23.CompactFits" = some f) (hfn:Tryz.pinned.checked.prog.funcs[f]? = some fn) :
  true = Tryz.pinned.checked.prog.looks []∧∀(j:Nat) t,fn.params[j]? = some t→Tryz.pinned.checked.prog.wantsStandIn t=false:=by
 obtain rfl:f = 4:=Option.some.inj ((show Tryz.prog.funcNamed "almanac/almanaclaw23.CompactFits" = some 4 by kernel_rfl).symm.trans hf) |>.symm;obtain rfl:fn = Tryz.f4:=(Option.some.inj (Tryz.func4.symm.trans hfn)).symm;refine ⟨by kernel_rfl,fun j t ht=>?_⟩;rw[Tryz.params4] at ht;have hm:t = 22∨t = 23:=by simpa using Array.mem_of_getElem? ht
 rcases hm with rfl | rfl
 ·exact (show Tryz.prog.wantsStandIn 22 = false by kernel_rfl)
 ·exact (show Tryz.prog.wantsStandIn 23 = false by kernel_rfl)
theorem compactFits_holds:Rows.CompactFitsUptoCardSaid:=
 Claim7.holds_tied_plain_at .later [] _ _ _ _ Kxf (fun _ h=>by cases h) (by kernel_rfl) (fun _ h=>by cases h) compactFitsUpto_row_tie rfl ⟨rfl,rfl⟩ (by kernel_rfl) rfl Kug (by kernel_rfl)
end
end Go.Proofs.YtdoiekknhnbepaaGreatDoor
