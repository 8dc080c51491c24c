/- Merged (what the claim wants of): ChkWalksA, ShelfC, ChkWalksB, ChkWalksC, ChkWalksD, ChkWalksE, RegTake, ChkRdE, AggWalksA. -/
import Derived.Test.YtdoiekknhnbepaaGreatDoorCob05
import Derived.Shelf.Spec.TrailingZeros
import Derived.Test.YtdoiekknhnbepaaGreatDoorProg
import Derived.Test.YtdoiekknhnbepaaGreatDoorCob01
import Derived.Laws.BytesArg
import Derived.Test.YtdoiekknhnbepaaGreatDoorCob02
import Derived.OrdersHeld
import Derived.Maps.AppendAt
import Derived.Deep.Onto
set_option linter.unusedVariables false
set_option linter.unusedSimpArgs false
set_option maxRecDepth 100000
set_option maxHeartbeats 8000000
namespace Go.Proofs.YtdoiekknhnbepaaGreatDoor
section
open Go.RowKit
open Lib renaming hid → Jh
attribute [local go_sem ↓] Go.wp_at_zero Go.wp_at_succ
attribute [local go_sem] Later.cell
def restC (c:Cst):List Value:=[.int .i64 (c.n:Int),.int .i64 c.last.t,.int .u64 (c.last.v:Int),.int .i64 c.step,.int .i64 (c.lead:Int),.int .i64 (c.tail:Int),.bool c.window]
def ChAt (B b:Nat) (c:Cst) (l:List Bool) (w:World):Prop:=WrAt B b 271 (restC c) l w
theorem WrAt.far {B b:Nat} {T:TypeId} {rest:List Value} {l:List Bool} {w:World} (h:WrAt B b T rest l w) {w':World} (hb:Below w.heap.size w w'):WrAt B b T rest l w':=by
 obtain ⟨h0,v,h1,h2,h3⟩:=h;exact ⟨h0,v,h1.below hb h1.lt,Kfc h2 hb,h3⟩
theorem WrAt.rest_set {B b:Nat} {T:TypeId} {rest:List Value} {l:List Bool} {w:World} (h:WrAt B b T rest l w) (i:Nat) (u:Value):WrAt B b T (rest.set i u) l (w.setCell ⟨b,i+2,none⟩ u):=by
 obtain ⟨h0,v,h1,h2,h3⟩:=h;refine ⟨h0,v,?_,Kiq h2 h3 _,h3⟩;have:=h1.set_ (i+2) u;simpa using this
theorem ChAt.cells {B b:Nat} {c:Cst} {l:List Bool} {w:World} (h:ChAt B b c l w) :
  w.cell? ⟨b,2,none⟩=some (.int .i64 (c.n:Int))∧w.cell? ⟨b,3,none⟩=some (.int .i64 c.last.t)∧w.cell? ⟨b,4,none⟩=some (.int .u64 (c.last.v:Int))∧w.cell? ⟨b,5,none⟩=some (.int .i64 c.step)∧
  w.cell? ⟨b,6,none⟩=some (.int .i64 (c.lead:Int))∧w.cell? ⟨b,7,none⟩=some (.int .i64 (c.tail:Int))∧w.cell? ⟨b,8,none⟩=some (.bool c.window)∧∀i,w.frozen? ⟨b,i,none⟩=false:=by
 obtain ⟨h0,v,h1,h2,h3⟩:=h;exact ⟨h1.cell 2,h1.cell 3,h1.cell 4,h1.cell 5,h1.cell 6,h1.cell 7,h1.cell 8,h1.frozen⟩
theorem Kgc (z:Int):IntKind.u64.wrap z=((u64N z:Nat):Int):=by
 rw[IntKind.wrap_u64];unfold u64N;omega
theorem Kie (z:Int):u64N z < 2 ^ 64:=by
 unfold u64N;omega
set_option maxHeartbeats 400000 in
theorem Kwe (w:World):Calls Tryz.prog 243 #[] w fun e w'=>e = .returned (.agg #[.int .u64 2,.int .i64 2,.int .i64 7,.int .u64 6,.int .i64 3,.int .i64 9,.int .u64 14,.int .i64 4,.int .i64 12,.int .u64 15,.int .i64 4,.int .i64 64])∧Below w.heap.size w w':=by
 go_enter Tryz.func243,Tryz.ntmps243
 go_wp2_with fail
 refine bodyPost_ret (Kjg rfl _ _ ⟨w.heap.size,0,none⟩ _ rfl (run_loadVar_row _ w.heap.size 335 335 _ (0,0) _ (heap_alloc_new w _) Tryz.underlying335 rfl (by kernel_rfl))) rfl ?_;exact ⟨rfl,(Below.refl _ _).alloc (Nat.le_refl _) _⟩
def Kkk:Value:=.agg #[.int .u64 2,.int .i64 2,.int .i64 7,.int .u64 6,.int .i64 3,.int .i64 9,.int .u64 14,.int .i64 4,.int .i64 12,.int .u64 15,.int .i64 4,.int .i64 64]
theorem size0 (w:World):(Instr.index 335 Kkk (.int .i64 0)).run Tryz.prog w = .ok (.agg #[.int .u64 2,.int .i64 2,.int .i64 7]) w:=by kernel_rfl
theorem size1 (w:World):(Instr.index 335 Kkk (.int .i64 1)).run Tryz.prog w = .ok (.agg #[.int .u64 6,.int .i64 3,.int .i64 9]) w:=by kernel_rfl
theorem size2 (w:World):(Instr.index 335 Kkk (.int .i64 2)).run Tryz.prog w = .ok (.agg #[.int .u64 14,.int .i64 4,.int .i64 12]) w:=by kernel_rfl
theorem size3 (w:World):(Instr.index 335 Kkk (.int .i64 3)).run Tryz.prog w = .ok (.agg #[.int .u64 15,.int .i64 4,.int .i64 64]) w:=by kernel_rfl
theorem Kzb (B b:Nat) (c:Cst) (l:List Bool) (st:Int) (w:World) (h:ChAt B b c l w) (h1:-1125899906842624≤c.step) (h2:c.step≤1125899906842624) (h3:-1125899906842624≤st) (h4:st≤1125899906842624) (hlen:l.length≤1099511627000) (hB:B≤w.heap.size) :
  Calls Tryz.prog 200 #[.pointer (some ⟨b,0,none⟩),.int .i64 st] w fun e w'=>e = .returned (.tuple #[])∧ChAt B b { c with step:=st } (l++Kcn (st - c.step)) w'∧Below B w w'∧KeepT b w w':=by
 have hc:=h.cells;have c3:=hc.2.2.2.1;have z3:=hc.2.2.2.2.2.2.2 5;have H:=Jh h;have H0:=Jh h.1;clear h hc;have hw:wrap64 (st - c.step)=st - c.step:=by unfold wrap64;omega
 obtain ⟨ch,hch⟩:∃ch,st - c.step=ch:=⟨_,rfl⟩;rw[hch] at hw ⊢;have b1:-2251799813685248≤ch:=by omega
 have b2:ch≤2251799813685248:=by omega
 have HCH:=Jh hch;go_enter Tryz.func200,Tryz.ntmps200
 go_upto_region 2 with fail
 have H1:Hid (ChAt B b { c with step:=st } l (w.setCell ⟨b,5,none⟩ (.int .i64 st))):=Jh (H.out.rest_set 3 _);have HB1:Hid (Below B w (w.setCell ⟨b,5,none⟩ (.int .i64 st))):=Jh ((Below.refl _ _).setCell (p:=⟨b,5,none⟩) H0.out _);have HK1:Hid (KeepT b w (w.setCell ⟨b,5,none⟩ (.int .i64 st))):=Jh KeepT.own;have hBw:B≤(w.setCell ⟨b,5,none⟩ (.int .i64 st)).heap.size:=by simpa[World.setCell] using hB
 obtain ⟨w1,hw1⟩:∃w1,w.setCell ⟨b,5,none⟩ (.int .i64 st)=w1:=⟨_,rfl⟩;rw[hw1] at H1 HB1 HK1 hBw;rw[hw1];clear hw1 c3 z3 hw
 by_cases h0:ch=0
 ·subst h0;go_wp2_with fail
  refine (Kbj B b _ _ l 0 1 w1 H1.out (by omega) (by omega) (by decide) hBw).mono ?_;rintro _ w2 ⟨rfl,h5,h6,h6k⟩;go_wp2_with fail
  refine bodyPost_ret (results_none rfl _ _ _) rfl ?_;exact ⟨rfl,h5,HB1.out.trans h6,HK1.out.trans h6k⟩
 ·have e0:(ch == 0)=false:=by simp[h0]
  have H0':=Jh h0;go_wp2_with fail
  refine (Kwe w1).mono ?_;rintro _ w2 ⟨rfl,hb2⟩;obtain ⟨vs,hvs⟩:∃vs,Kkk=vs:=⟨_,rfl⟩;have i0:=size0;have i1:=size1;have i2:=size2;have i3:=size3;rw[hvs] at i0 i1 i2 i3;rw[show (Value.agg #[.int .u64 2,.int .i64 2,.int .i64 7,.int .u64 6,.int .i64 3,.int .i64 9,.int .u64 14,.int .i64 4,.int .i64 12,.int .u64 15,.int .i64 4,.int .i64 64])=vs from hvs];clear hvs;have H2:Hid (ChAt B b { c with step:=st } l w2):=Jh (H1.out.far hb2);have HB2:=Jh (HB1.out.trans (hb2.mono hBw));have HK2:=Jh (HK1.out.trans (KeepT.of_below (b:=b) hb2));have hBw2:B≤w2.heap.size:=Nat.le_trans hBw hb2.size;clear hb2;go_wp2_with fail
  go_loopg [25] 4 (fun g s25 wr=>∃i:Nat,i+g=4∧s25 = .int .i64 (i:Int)∧(1≤i→¬(-64≤ch∧ch < 64))∧(2≤i→¬(-256≤ch∧ch < 256))∧(3≤i→¬(-2048≤ch∧ch < 2048))∧i≤3∧ChAt B b { c with step:=st } l wr∧Below B w wr∧KeepT b w wr)
  case atStart=>exact ⟨0,rfl,rfl,by omega,by omega,by omega,by omega,H2.out,HB2.out,HK2.out⟩
  case round=>
   obtain ⟨i,hi,rfl,n1,n2,n3,h3,hcr,hbr,hkr⟩:=hrel;have HKR:=Jh hkr;clear hkr;have N1:=Jh n1;have N2:=Jh n2;have N3:=Jh n3;have HC:=Jh hcr;have HBR:=Jh hbr;have hBr:B≤wr.heap.size:=Nat.le_trans hB hbr.size;clear n1 n2 n3 hcr hbr;rcases (by omega:i=0∨i=1∨i=2∨i=3) with rfl | rfl | rfl | rfl
   ·obtain rfl:gk=4:=by omega
    by_cases hf:-64≤ch∧ch < 64
    ·have f1:decide (-64≤ch)=true:=by simp;omega
     have f2:decide (ch < 64)=true:=by simp;omega
     have f3:=hf.1;have f4:=hf.2;go_upto_region 9 with fail
     have hsb:Blk (wr.alloc (.cells #[.int .u64 2,.int .i64 2,.int .i64 7] 334)) wr.heap.size 334 #[.int .u64 2,.int .i64 2,.int .i64 7]:=Blk.new _ _ _;have ha:Below wr.heap.size wr (wr.alloc (.cells #[.int .u64 2,.int .i64 2,.int .i64 7] 334)):=(Below.refl _ _).alloc (Nat.le_refl _) _;obtain ⟨w3,hw3⟩:∃w3,wr.alloc (.cells #[.int .u64 2,.int .i64 2,.int .i64 7] 334)=w3:=⟨_,rfl⟩;obtain ⟨q,hq⟩:∃q,wr.heap.size=q:=⟨_,rfl⟩;rw[hw3] at hsb ha;rw[hw3];rw[hq] at hsb;have hqb:q≠b:=by have:=HC.out.lt;omega
     rw[hq];have HQ:=Jh hq;have HSB:=Jh hsb;have HA:=Jh ha;clear hw3 hq ha;have s0:w3.cell? ⟨q,0,none⟩=_:=hsb.cell 0;have s1:w3.cell? ⟨q,1,none⟩=_:=hsb.cell 1;have sl:=hsb.lt;clear hsb;refine Kaj 7 (by kernel_rfl) (by kernel_rfl) ?_;simp only[List.take_succ_cons,List.take_zero,List.drop_succ_cons,List.drop_zero]
     repeat (go_big_quiet_step (fail))
     refine wpQuiet_nil ?_;rintro w4 ⟨⟨_,hb4⟩,rfl⟩;have HA4:=Jh (then_ HA.out hb4);have HB4:=Jh (HBR.out.trans (HA4.out.mono hBr));have HS4:=Jh (HSB.out.below hb4 sl);have hB4:B≤w4.heap.size:=Nat.le_trans hBr HA4.out.size;have HK4:=Jh (HKR.out.trans (KeepT.of_below (b:=b) HA4.out));clear s0 s1 sl hb4;go_wp2_with fail
     refine (Kbj B b _ _ l 2 2 w4 (HC.out.far HA4.out) (by decide) (by omega) (by decide) hB4).mono ?_;rintro _ w5 ⟨rfl,h5,h6,h6k⟩;have hqB:q < w4.heap.size:=HS4.out.lt;have H5:=Jh h5;have H6:=Jh h6;have HB5:=Jh (HB4.out.trans h6);have hB5:B≤w5.heap.size:=Nat.le_trans hB4 h6.size;have HS5:Hid (Blk w5 q 334 #[.int .u64 2,.int .i64 2,.int .i64 7]):=Jh (h6k _ _ _ HS4.out (fun e=>hqb e) (by decide));have HK5:=Jh (HK4.out.trans h6k);clear h5 h6 h6k;go_upto_region 10 with fail
     have s2:w5.cell? ⟨q,2,none⟩=_:=HS5.out.cell 2;have sl:=HS5.out.lt;refine Kaj 7 (by kernel_rfl) (by kernel_rfl) ?_;simp only[List.take_succ_cons,List.take_zero,List.drop_succ_cons,List.drop_zero]
     repeat (go_big_quiet_step (fail))
     refine wpQuiet_nil ?_;rintro w6 ⟨⟨_,hb6⟩,rfl⟩;rw[Kgc];have H7:=Jh (WrAt.far H5.out hb6);have HK7:=Jh (HK5.out.trans (KeepT.of_below (b:=b) hb6));have HB7:=Jh (HB5.out.trans (hb6.mono hB5));have hB7:B≤w6.heap.size:=Nat.le_trans hB5 hb6.size;clear s2 sl hb6;go_wp2_with fail
     refine (Kbj B b _ _ (l++putN 2 2) (u64N ch) 7 w6 H7.out (by decide) (by rw[List.length_append,Kbg];omega) (Kie _) hB7).mono ?_;rintro _ w7 ⟨rfl,h8,h9,h9k⟩;go_wp2_with fail
     refine bodyPost_ret (results_none rfl _ _ _) rfl ?_;refine ⟨rfl,?_,HB7.out.trans h9,HK7.out.trans h9k⟩;rw[List.append_assoc] at h8
     have hcw:Kcn ch=putN 2 2++putN (u64N ch) 7:=by
      unfold Kcn;rw[if_neg H0'.out,if_pos hf]
     rw[hcw];exact h8
    ·by_cases hf1:-64≤ch
     ·have hf2:¬ch < 64:=fun h=>hf ⟨hf1,h⟩
      have f1:decide (-64≤ch)=true:=by simp;omega
      have f2:decide (ch < 64)=false:=by simp;omega
      go_wp2_with fail
      go_roundg 3
      case measure=>omega
      case rel=>exact ⟨1,rfl,rfl,fun _=>hf,by omega,by omega,by omega,HC.out.far ((Below.refl _ _).alloc (Nat.le_refl _) _),HBR.out.trans ((Below.refl _ _).alloc hBr _),HKR.out.trans (KeepT.of_below ((Below.refl _ _).alloc (Nat.le_refl _) _))⟩
     ·have f1:decide (-64≤ch)=false:=by simp;omega
      go_wp2_with fail
      go_roundg 3
      case measure=>omega
      case rel=>exact ⟨1,rfl,rfl,fun _=>hf,by omega,by omega,by omega,HC.out.far ((Below.refl _ _).alloc (Nat.le_refl _) _),HBR.out.trans ((Below.refl _ _).alloc hBr _),HKR.out.trans (KeepT.of_below ((Below.refl _ _).alloc (Nat.le_refl _) _))⟩
   ·obtain rfl:gk=3:=by omega
    by_cases hf:-256≤ch∧ch < 256
    ·have f1:decide (-256≤ch)=true:=by simp;omega
     have f2:decide (ch < 256)=true:=by simp;omega
     have f3:=hf.1;have f4:=hf.2;go_upto_region 9 with fail
     have hsb:Blk (wr.alloc (.cells #[.int .u64 6,.int .i64 3,.int .i64 9] 334)) wr.heap.size 334 #[.int .u64 6,.int .i64 3,.int .i64 9]:=Blk.new _ _ _;have ha:Below wr.heap.size wr (wr.alloc (.cells #[.int .u64 6,.int .i64 3,.int .i64 9] 334)):=(Below.refl _ _).alloc (Nat.le_refl _) _;obtain ⟨w3,hw3⟩:∃w3,wr.alloc (.cells #[.int .u64 6,.int .i64 3,.int .i64 9] 334)=w3:=⟨_,rfl⟩;obtain ⟨q,hq⟩:∃q,wr.heap.size=q:=⟨_,rfl⟩;rw[hw3] at hsb ha;rw[hw3];rw[hq] at hsb;have hqb:q≠b:=by have:=HC.out.lt;omega
     rw[hq];have HQ:=Jh hq;have HSB:=Jh hsb;have HA:=Jh ha;clear hw3 hq ha;have s0:w3.cell? ⟨q,0,none⟩=_:=hsb.cell 0;have s1:w3.cell? ⟨q,1,none⟩=_:=hsb.cell 1;have sl:=hsb.lt;clear hsb;refine Kaj 7 (by kernel_rfl) (by kernel_rfl) ?_;simp only[List.take_succ_cons,List.take_zero,List.drop_succ_cons,List.drop_zero]
     repeat (go_big_quiet_step (fail))
     refine wpQuiet_nil ?_;rintro w4 ⟨⟨_,hb4⟩,rfl⟩;have HA4:=Jh (then_ HA.out hb4);have HB4:=Jh (HBR.out.trans (HA4.out.mono hBr));have HS4:=Jh (HSB.out.below hb4 sl);have hB4:B≤w4.heap.size:=Nat.le_trans hBr HA4.out.size;have HK4:=Jh (HKR.out.trans (KeepT.of_below (b:=b) HA4.out));clear s0 s1 sl hb4;go_wp2_with fail
     refine (Kbj B b _ _ l 6 3 w4 (HC.out.far HA4.out) (by decide) (by omega) (by decide) hB4).mono ?_;rintro _ w5 ⟨rfl,h5,h6,h6k⟩;have hqB:q < w4.heap.size:=HS4.out.lt;have H5:=Jh h5;have H6:=Jh h6;have HB5:=Jh (HB4.out.trans h6);have hB5:B≤w5.heap.size:=Nat.le_trans hB4 h6.size;have HS5:Hid (Blk w5 q 334 #[.int .u64 6,.int .i64 3,.int .i64 9]):=Jh (h6k _ _ _ HS4.out (fun e=>hqb e) (by decide));have HK5:=Jh (HK4.out.trans h6k);clear h5 h6 h6k;go_upto_region 10 with fail
     have s2:w5.cell? ⟨q,2,none⟩=_:=HS5.out.cell 2;have sl:=HS5.out.lt;refine Kaj 7 (by kernel_rfl) (by kernel_rfl) ?_;simp only[List.take_succ_cons,List.take_zero,List.drop_succ_cons,List.drop_zero]
     repeat (go_big_quiet_step (fail))
     refine wpQuiet_nil ?_;rintro w6 ⟨⟨_,hb6⟩,rfl⟩;rw[Kgc];have H7:=Jh (WrAt.far H5.out hb6);have HK7:=Jh (HK5.out.trans (KeepT.of_below (b:=b) hb6));have HB7:=Jh (HB5.out.trans (hb6.mono hB5));have hB7:B≤w6.heap.size:=Nat.le_trans hB5 hb6.size;clear s2 sl hb6;go_wp2_with fail
     refine (Kbj B b _ _ (l++putN 6 3) (u64N ch) 9 w6 H7.out (by decide) (by rw[List.length_append,Kbg];omega) (Kie _) hB7).mono ?_;rintro _ w7 ⟨rfl,h8,h9,h9k⟩;go_wp2_with fail
     refine bodyPost_ret (results_none rfl _ _ _) rfl ?_;refine ⟨rfl,?_,HB7.out.trans h9,HK7.out.trans h9k⟩;rw[List.append_assoc] at h8
     have hcw:Kcn ch=putN 6 3++putN (u64N ch) 9:=by
      unfold Kcn;rw[if_neg H0'.out,if_neg (N1.out (by decide)),if_pos hf]
     rw[hcw];exact h8
    ·by_cases hf1:-256≤ch
     ·have hf2:¬ch < 256:=fun h=>hf ⟨hf1,h⟩
      have f1:decide (-256≤ch)=true:=by simp;omega
      have f2:decide (ch < 256)=false:=by simp;omega
      go_wp2_with fail
      go_roundg 2
      case measure=>omega
      case rel=>exact ⟨2,rfl,rfl,fun _=>N1.out (by decide),fun _=>hf,by omega,by omega,HC.out.far ((Below.refl _ _).alloc (Nat.le_refl _) _),HBR.out.trans ((Below.refl _ _).alloc hBr _),HKR.out.trans (KeepT.of_below ((Below.refl _ _).alloc (Nat.le_refl _) _))⟩
     ·have f1:decide (-256≤ch)=false:=by simp;omega
      go_wp2_with fail
      go_roundg 2
      case measure=>omega
      case rel=>exact ⟨2,rfl,rfl,fun _=>N1.out (by decide),fun _=>hf,by omega,by omega,HC.out.far ((Below.refl _ _).alloc (Nat.le_refl _) _),HBR.out.trans ((Below.refl _ _).alloc hBr _),HKR.out.trans (KeepT.of_below ((Below.refl _ _).alloc (Nat.le_refl _) _))⟩
   ·obtain rfl:gk=2:=by omega
    by_cases hf:-2048≤ch∧ch < 2048
    ·have f1:decide (-2048≤ch)=true:=by simp;omega
     have f2:decide (ch < 2048)=true:=by simp;omega
     have f3:=hf.1;have f4:=hf.2;go_upto_region 9 with fail
     have hsb:Blk (wr.alloc (.cells #[.int .u64 14,.int .i64 4,.int .i64 12] 334)) wr.heap.size 334 #[.int .u64 14,.int .i64 4,.int .i64 12]:=Blk.new _ _ _;have ha:Below wr.heap.size wr (wr.alloc (.cells #[.int .u64 14,.int .i64 4,.int .i64 12] 334)):=(Below.refl _ _).alloc (Nat.le_refl _) _;obtain ⟨w3,hw3⟩:∃w3,wr.alloc (.cells #[.int .u64 14,.int .i64 4,.int .i64 12] 334)=w3:=⟨_,rfl⟩;obtain ⟨q,hq⟩:∃q,wr.heap.size=q:=⟨_,rfl⟩;rw[hw3] at hsb ha;rw[hw3];rw[hq] at hsb;have hqb:q≠b:=by have:=HC.out.lt;omega
     rw[hq];have HQ:=Jh hq;have HSB:=Jh hsb;have HA:=Jh ha;clear hw3 hq ha;have s0:w3.cell? ⟨q,0,none⟩=_:=hsb.cell 0;have s1:w3.cell? ⟨q,1,none⟩=_:=hsb.cell 1;have sl:=hsb.lt;clear hsb;refine Kaj 7 (by kernel_rfl) (by kernel_rfl) ?_;simp only[List.take_succ_cons,List.take_zero,List.drop_succ_cons,List.drop_zero]
     repeat (go_big_quiet_step (fail))
     refine wpQuiet_nil ?_;rintro w4 ⟨⟨_,hb4⟩,rfl⟩;have HA4:=Jh (then_ HA.out hb4);have HB4:=Jh (HBR.out.trans (HA4.out.mono hBr));have HS4:=Jh (HSB.out.below hb4 sl);have hB4:B≤w4.heap.size:=Nat.le_trans hBr HA4.out.size;have HK4:=Jh (HKR.out.trans (KeepT.of_below (b:=b) HA4.out));clear s0 s1 sl hb4;go_wp2_with fail
     refine (Kbj B b _ _ l 14 4 w4 (HC.out.far HA4.out) (by decide) (by omega) (by decide) hB4).mono ?_;rintro _ w5 ⟨rfl,h5,h6,h6k⟩;have hqB:q < w4.heap.size:=HS4.out.lt;have H5:=Jh h5;have H6:=Jh h6;have HB5:=Jh (HB4.out.trans h6);have hB5:B≤w5.heap.size:=Nat.le_trans hB4 h6.size;have HS5:Hid (Blk w5 q 334 #[.int .u64 14,.int .i64 4,.int .i64 12]):=Jh (h6k _ _ _ HS4.out (fun e=>hqb e) (by decide));have HK5:=Jh (HK4.out.trans h6k);clear h5 h6 h6k;go_upto_region 10 with fail
     have s2:w5.cell? ⟨q,2,none⟩=_:=HS5.out.cell 2;have sl:=HS5.out.lt;refine Kaj 7 (by kernel_rfl) (by kernel_rfl) ?_;simp only[List.take_succ_cons,List.take_zero,List.drop_succ_cons,List.drop_zero]
     repeat (go_big_quiet_step (fail))
     refine wpQuiet_nil ?_;rintro w6 ⟨⟨_,hb6⟩,rfl⟩;rw[Kgc];have H7:=Jh (WrAt.far H5.out hb6);have HK7:=Jh (HK5.out.trans (KeepT.of_below (b:=b) hb6));have HB7:=Jh (HB5.out.trans (hb6.mono hB5));have hB7:B≤w6.heap.size:=Nat.le_trans hB5 hb6.size;clear s2 sl hb6;go_wp2_with fail
     refine (Kbj B b _ _ (l++putN 14 4) (u64N ch) 12 w6 H7.out (by decide) (by rw[List.length_append,Kbg];omega) (Kie _) hB7).mono ?_;rintro _ w7 ⟨rfl,h8,h9,h9k⟩;go_wp2_with fail
     refine bodyPost_ret (results_none rfl _ _ _) rfl ?_;refine ⟨rfl,?_,HB7.out.trans h9,HK7.out.trans h9k⟩;rw[List.append_assoc] at h8
     have hcw:Kcn ch=putN 14 4++putN (u64N ch) 12:=by
      unfold Kcn;rw[if_neg H0'.out,if_neg (N1.out (by decide)),if_neg (N2.out (by decide)),if_pos hf]
     rw[hcw];exact h8
    ·by_cases hf1:-2048≤ch
     ·have hf2:¬ch < 2048:=fun h=>hf ⟨hf1,h⟩
      have f1:decide (-2048≤ch)=true:=by simp;omega
      have f2:decide (ch < 2048)=false:=by simp;omega
      go_wp2_with fail
      go_roundg 1
      case measure=>omega
      case rel=>exact ⟨3,rfl,rfl,fun _=>N1.out (by decide),fun _=>N2.out (by decide),fun _=>hf,by omega,HC.out.far ((Below.refl _ _).alloc (Nat.le_refl _) _),HBR.out.trans ((Below.refl _ _).alloc hBr _),HKR.out.trans (KeepT.of_below ((Below.refl _ _).alloc (Nat.le_refl _) _))⟩
     ·have f1:decide (-2048≤ch)=false:=by simp;omega
      go_wp2_with fail
      go_roundg 1
      case measure=>omega
      case rel=>exact ⟨3,rfl,rfl,fun _=>N1.out (by decide),fun _=>N2.out (by decide),fun _=>hf,by omega,HC.out.far ((Below.refl _ _).alloc (Nat.le_refl _) _),HBR.out.trans ((Below.refl _ _).alloc hBr _),HKR.out.trans (KeepT.of_below ((Below.refl _ _).alloc (Nat.le_refl _) _))⟩
   ·obtain rfl:gk=1:=by omega
    go_upto_region 9 with fail
    have hsb:Blk (wr.alloc (.cells #[.int .u64 15,.int .i64 4,.int .i64 64] 334)) wr.heap.size 334 #[.int .u64 15,.int .i64 4,.int .i64 64]:=Blk.new _ _ _;have ha:Below wr.heap.size wr (wr.alloc (.cells #[.int .u64 15,.int .i64 4,.int .i64 64] 334)):=(Below.refl _ _).alloc (Nat.le_refl _) _;obtain ⟨w3,hw3⟩:∃w3,wr.alloc (.cells #[.int .u64 15,.int .i64 4,.int .i64 64] 334)=w3:=⟨_,rfl⟩;obtain ⟨q,hq⟩:∃q,wr.heap.size=q:=⟨_,rfl⟩;rw[hw3] at hsb ha;rw[hw3];rw[hq] at hsb;have hqb:q≠b:=by have:=HC.out.lt;omega
    rw[hq];have HQ:=Jh hq;have HSB:=Jh hsb;have HA:=Jh ha;clear hw3 hq ha;have s0:w3.cell? ⟨q,0,none⟩=_:=hsb.cell 0;have s1:w3.cell? ⟨q,1,none⟩=_:=hsb.cell 1;have sl:=hsb.lt;clear hsb;refine Kaj 7 (by kernel_rfl) (by kernel_rfl) ?_;simp only[List.take_succ_cons,List.take_zero,List.drop_succ_cons,List.drop_zero]
    repeat (go_big_quiet_step (fail))
    refine wpQuiet_nil ?_;rintro w4 ⟨⟨_,hb4⟩,rfl⟩;have HA4:=Jh (then_ HA.out hb4);have HB4:=Jh (HBR.out.trans (HA4.out.mono hBr));have HS4:=Jh (HSB.out.below hb4 sl);have hB4:B≤w4.heap.size:=Nat.le_trans hBr HA4.out.size;have HK4:=Jh (HKR.out.trans (KeepT.of_below (b:=b) HA4.out));clear s0 s1 sl hb4;go_wp2_with fail
    refine (Kbj B b _ _ l 15 4 w4 (HC.out.far HA4.out) (by decide) (by omega) (by decide) hB4).mono ?_;rintro _ w5 ⟨rfl,h5,h6,h6k⟩;have hqB:q < w4.heap.size:=HS4.out.lt;have H5:=Jh h5;have H6:=Jh h6;have HB5:=Jh (HB4.out.trans h6);have hB5:B≤w5.heap.size:=Nat.le_trans hB4 h6.size;have HS5:Hid (Blk w5 q 334 #[.int .u64 15,.int .i64 4,.int .i64 64]):=Jh (h6k _ _ _ HS4.out (fun e=>hqb e) (by decide));have HK5:=Jh (HK4.out.trans h6k);clear h5 h6 h6k;go_upto_region 10 with fail
    have s2:w5.cell? ⟨q,2,none⟩=_:=HS5.out.cell 2;have sl:=HS5.out.lt;refine Kaj 7 (by kernel_rfl) (by kernel_rfl) ?_;simp only[List.take_succ_cons,List.take_zero,List.drop_succ_cons,List.drop_zero]
    repeat (go_big_quiet_step (fail))
    refine wpQuiet_nil ?_;rintro w6 ⟨⟨_,hb6⟩,rfl⟩;rw[Kgc];have H7:=Jh (WrAt.far H5.out hb6);have HK7:=Jh (HK5.out.trans (KeepT.of_below (b:=b) hb6));have HB7:=Jh (HB5.out.trans (hb6.mono hB5));have hB7:B≤w6.heap.size:=Nat.le_trans hB5 hb6.size;clear s2 sl hb6;go_wp2_with fail
    refine (Kbj B b _ _ (l++putN 15 4) (u64N ch) 64 w6 H7.out (by decide) (by rw[List.length_append,Kbg];omega) (Kie _) hB7).mono ?_;rintro _ w7 ⟨rfl,h8,h9,h9k⟩;go_wp2_with fail
    refine bodyPost_ret (results_none rfl _ _ _) rfl ?_;refine ⟨rfl,?_,HB7.out.trans h9,HK7.out.trans h9k⟩;rw[List.append_assoc] at h8
    have hcw:Kcn ch=putN 15 4++putN (u64N ch) 64:=by
     unfold Kcn;rw[if_neg H0'.out,if_neg (N1.out (by decide)),if_neg (N2.out (by decide)),if_neg (N3.out (by decide))]
    rw[hcw];exact h8
end
end Go.Proofs.YtdoiekknhnbepaaGreatDoor
namespace Go.Proofs
open Go.Shelf
def Tryz.lays7_29_ren:Go.Shelf.Ren:=⟨fun | 29=>245 | n=>n,fun | 22=>100 | 3=>3 | 4=>4 | 25=>200 | 54=>348 | 0=>0 | 5=>5 | n=>n,fun | 1=>2 | n=>n⟩
theorem Tryz.lays7_29:Go.Proofs.Lays7.n29 Tryz.prog Tryz.lays7_29_ren:={
 mixed:=by kernel_rfl
 f29:=Tryz.func245.trans (congrArg some (by kernel_rfl))
 t0:=Tryz.underlying0
 a0:=Tryz.isAgg0
 z0:=Tryz.sizeOf0
 v0:=Tryz.zeroValue0
 i0:=by kernel_rfl
 t3:=Tryz.underlying3
 a3:=Tryz.isAgg3
 z3:=Tryz.sizeOf3
 v3:=Tryz.zeroValue3
 i3:=by kernel_rfl
 t4:=Tryz.underlying4
 a4:=Tryz.isAgg4
 z4:=Tryz.sizeOf4
 v4:=Tryz.zeroValue4
 i4:=by kernel_rfl
 t5:=Tryz.underlying5
 a5:=Tryz.isAgg5
 z5:=Tryz.sizeOf5
 v5:=Tryz.zeroValue5
 i5:=by kernel_rfl
 t22:=Tryz.underlying100
 a22:=Tryz.isAgg100
 z22:=Tryz.sizeOf100
 v22:=Tryz.zeroValue100
 i22:=by kernel_rfl
 t25:=Tryz.underlying200
 a25:=Tryz.isAgg200
 z25:=Tryz.sizeOf200
 v25:=Tryz.zeroValue200
 i25:=by kernel_rfl
 t54:=Tryz.underlying348
 a54:=Tryz.isAgg348
 z54:=Tryz.sizeOf348
 g1:=by kernel_rfl }
end Go.Proofs
namespace Go.Proofs.YtdoiekknhnbepaaGreatDoor
section
open Go.RowKit
open Lib renaming hid → Jh
open List renaming length_append → Jd
attribute [local go_sem ↓] Go.wp_at_zero Go.wp_at_succ
attribute [local go_sem] Later.cell
theorem Kww:∀(f x:Nat),x < 2 ^ f→Lib.bitLenAux f x=if x=0 then 0 else x.log2+1
 | 0,x,h=>by
  have:x=0:=by omega
  simp[Lib.bitLenAux,this]
 | f+1,x,h=>by
  rw[Lib.bitLenAux]
  by_cases h0:x=0
  ·rw[if_pos h0,if_pos h0]
  ·rw[if_neg h0,if_neg h0,Kww f (x / 2) (by rw[Nat.pow_succ] at h;omega)]
   by_cases h1:x / 2=0
   ·rw[if_pos h1];have:x=1:=by omega
    subst this;decide
   ·rw[if_neg h1];rw[Nat.log2_def x,if_pos (by omega)];omega
theorem Qep {x:Nat} (h:x < 2 ^ 64):(64:Int) - (Lib.bitLen x:Int)=((clzN x:Nat):Int):=by
 unfold Lib.bitLen clzN;rw[Kww 64 x h]
 by_cases h0:x=0
 ·rw[if_pos h0];rfl
 ·rw[if_neg h0];have:=(Nat.log2_lt h0).2 h;omega
theorem Kwq:∀(f x:Nat),Lib.ctzFrom f x=ctzF x f
 | 0,_=>rfl
 | f+1,x=>by
  rw[Lib.ctzFrom,ctzF,Kwq f (x / 2)]
  split
  ·rfl
  ·omega
theorem Qet {x:Nat} (h0:x≠0):Lib.ctz 64 x=ctzN x:=by
 unfold Lib.ctz ctzN;rw[if_neg h0,Kwq]
def DbTab (w:World):Prop:=Go.Proofs.TabAt 2 Lib.deBruijn64tab w
theorem DbTab.below {w w':World} (h:DbTab w) (hb:Below w.heap.size w w'):DbTab w':=fun j hj=>later hb (h j hj)
theorem Kzp (x:Nat) (hx:x < 2 ^ 64) (w:World):Calls Tryz.prog 244 #[.int .u64 (x:Int)] w fun e w'=>e = .returned (.int .i64 ((clzN x:Nat):Int))∧w'=w:=by
 have:=Tryz.bits_LeadingZeros64 (x:Int) w (by omega) (by omega);rw[Int.toNat_natCast,Qep hx] at this;exact this
theorem Kzt (x:Nat) (hx:x < 2 ^ 64) (h0:x≠0) (w:World) (hT:DbTab w):Calls Tryz.prog 245 #[.int .u64 (x:Int)] w fun e w'=>e = .returned (.int .i64 ((ctzN x:Nat):Int))∧w'=w:=by
 have:=Any7.bits_TrailingZeros64 Tryz.lays7_29 x hx w (fun _=>hT);rw[Qet h0] at this;exact this
theorem Kwi (B b:Nat) (c:Cst) (l:List Bool) (x:Nat) (w:World) (h:ChAt B b c l w) (hc:c.Ok) (hx:x < 2 ^ 64) (hlen:l.length≤1099511627000) (hB:B≤w.heap.size) (hT:DbTab w) :
  Calls Tryz.prog 201 #[.pointer (some ⟨b,0,none⟩),.int .u64 (x:Int)] w fun e w'=>e = .returned (.tuple #[])∧ChAt B b (Kbl c x).2 (l++(Kbl c x).1) w'∧Below B w w'∧KeepT b w w':=by
 have hcc:=h.cells;have c6:=hcc.2.2.2.2.1;have c7:=hcc.2.2.2.2.2.1;have c8:=hcc.2.2.2.2.2.2.1;have z6:=hcc.2.2.2.2.2.2.2 6;have z7:=hcc.2.2.2.2.2.2.2 7;have z8:=hcc.2.2.2.2.2.2.2 8;have H:=Jh h;have H0:=Jh h.1;clear h hcc
 by_cases h0:x=0
 ·subst h0;go_enter Tryz.func201,Tryz.ntmps201
  go_wp2_with fail
  refine (Kbj B b _ _ l 0 1 w H.out (by omega) (by omega) (by decide) hB).mono ?_;rintro _ w2 ⟨rfl,h5,h6,h6k⟩;go_wp2_with fail
  refine bodyPost_ret (results_none rfl _ _ _) rfl ?_;exact ⟨rfl,h5,h6,h6k⟩
 ·have e0:((x:Int) == 0)=false:=by simp[h0]
  have H0':=Jh h0;have HCL:=Jh (Kzp x hx w);have HCT:=Jh (Kzt x hx h0 w hT);have hcz:=Kwo h0 hx;obtain ⟨cl,hcl⟩:∃cl,clzN x=cl:=⟨_,rfl⟩;obtain ⟨ct,hct⟩:∃ct,ctzN x=ct:=⟨_,rfl⟩;rw[hcl] at HCL hcz;rw[hct] at HCT hcz;have HCLE:=Jh hcl;have HCTE:=Jh hct;clear hcl hct;obtain ⟨ld,hld⟩:∃ld,min cl 31=ld:=⟨_,rfl⟩;have HLD:=Jh hld;have hl31:ld≤31:=by omega
  have hlc:ld+ct≤63:=by omega
  go_enter Tryz.func201,Tryz.ntmps201
  go_upto_region 2 with fail
  go_cut [4,5] (fun s4 s5 wx=>s4 = .int .i64 (ld:Int)∧s5 = .int .i64 (ct:Int)∧wx=w)
  case first=>
   clear hld;go_wp2_with fail
   refine HCL.out.mono ?_;rintro _ _ ⟨rfl,rfl⟩;go_wp2_with fail
   refine HCT.out.mono ?_;rintro _ _ ⟨rfl,rfl⟩;go_wp2_with fail
   go_meet
   exact ⟨vi (by have:=HLD.out;omega),rfl,rfl⟩
  case rest=>
   obtain ⟨rfl,rfl,rfl⟩:=hcut;go_upto_region 3 with fail
   have hce:=hc.2
   by_cases hwin:c.window=true∧c.lead≤ld∧c.tail≤ct
   ·have f1:=hwin.1;have f2:decide ((c.lead:Int)≤(ld:Int))=true:=by simp;omega
    have f3:decide ((c.tail:Int)≤(ct:Int))=true:=by simp;omega
    have g2:(c.lead:Int)≤(ld:Int):=by omega
    have g3:(c.tail:Int)≤(ct:Int):=by omega
    rw[f1] at c8;go_wp2_with fail
    refine (Kbj B b _ _ l 2 2 wc H.out (by omega) (by omega) (by decide) hB).mono ?_;rintro _ w2 ⟨rfl,h5,h6,h6k⟩;have HX:Hid (ChAt B b c (l++putN 2 2) w2):=Jh h5;have HXB:=Jh h6;have HXK:=Jh h6k;have hBx:B≤w2.heap.size:=Nat.le_trans hB h6.size;clear h5 h6 h6k c6 c7 c8 z6 z7 z8;go_upto_region 9 with fail
    have hcc:=HX.out.cells;have c6:=hcc.2.2.2.2.1;have c7:=hcc.2.2.2.2.2.1;have sl:=HX.out.lt;clear hcc;have ht63:c.tail≤63:=by omega
    have e1:wrap64 (64 - (c.lead:Int) - (c.tail:Int))=64 - (c.lead:Int) - (c.tail:Int):=by unfold wrap64;omega
    refine Kaj 19 (by kernel_rfl) (by kernel_rfl) ?_;simp only[List.take_succ_cons,List.take_zero,List.drop_succ_cons,List.drop_zero]
    repeat (go_big_quiet_step (fail))
    refine wpQuiet_nil ?_;rintro w4 ⟨⟨_,hb4⟩,rfl⟩;have H4:=Jh (WrAt.far HX.out hb4);have HB4:=Jh (HXB.out.trans (hb4.mono hBx));have HK4:=Jh (HXK.out.trans (KeepT.of_below (b:=b) hb4));have hB4:B≤w4.heap.size:=Nat.le_trans hBx hb4.size;clear hb4 sl c6 c7;have hsh:(x:Int) / 2 ^ c.tail=((x >>> c.tail:Nat):Int):=by rw[Nat.shiftRight_eq_div_pow];simp
    have hwd:(64:Int) - (c.lead:Int) - (c.tail:Int)=((64 - c.lead - c.tail:Nat):Int):=by omega
    rw[hsh,hwd];have hsl:x >>> c.tail < 2 ^ 64:=Nat.lt_of_le_of_lt (Nat.shiftRight_le _ _) hx;obtain ⟨sx,hsx⟩:∃sx,x >>> c.tail=sx:=⟨_,rfl⟩;obtain ⟨wd,hwd2⟩:∃wd,64 - c.lead - c.tail=wd:=⟨_,rfl⟩;rw[hsx] at hsl;rw[hsx,hwd2];have HSX:=Jh hsx;have HWD:=Jh hwd2;clear hsh hwd hsx;go_wp2_with fail
    refine (Kbj B b _ _ (l++putN 2 2) sx wd w4 H4.out (by omega) (by rw[Jd];rw[Kbg];omega) hsl hB4).mono ?_;rintro _ w5 ⟨rfl,h5,h6,h6k⟩;go_wp2_with fail
    go_end0
    rw[List.append_assoc] at h5
    have hd:Kbl c x=(putN 2 2++putN sx wd,c):=by
     unfold Kbl;rw[if_neg H0'.out,HCLE.out,HCTE.out,HLD.out,if_pos hwin];rw[HSX.out,HWD.out]
    rw[hd];exact ⟨rfl,h5,HB4.out.trans h6,HK4.out.trans h6k⟩
   ·go_cut [36] (fun s36 wx=>s36 = .bool false∧wx=wc)
    case first=>
     cases hw:c.window with
     | false=>
      rw[hw] at c8;go_wp2_with fail
      go_meet
      exact ⟨rfl,rfl⟩
     | true=>
      rw[hw] at c8
      by_cases k2:c.lead≤ld
      ·have f2:decide ((c.lead:Int)≤(ld:Int))=true:=by simp;omega
       have k3:¬c.tail≤ct:=fun h=>hwin ⟨hw,k2,h⟩
       have f3:decide ((c.tail:Int)≤(ct:Int))=false:=by simp;omega
       have g2:(c.lead:Int)≤(ld:Int):=by omega
       go_wp2_with fail
       go_meet
       exact ⟨rfl,rfl⟩
      ·have f2:decide ((c.lead:Int)≤(ld:Int))=false:=by simp;omega
       go_wp2_with fail
       go_meet
       exact ⟨rfl,rfl⟩
    case rest=>
     obtain ⟨rfl,rfl⟩:=hcut
     have HX0:Hid (ChAt B b { c with lead:=ld,tail:=ct,window:=true } l (((wc.setCell ⟨b,6,none⟩ (.int .i64 (ld:Int))).setCell ⟨b,7,none⟩ (.int .i64 (ct:Int))).setCell ⟨b,8,none⟩ (.bool true))):=
      Jh (((H.out.rest_set 4 (.int .i64 (ld:Int))).rest_set 5 (.int .i64 (ct:Int))).rest_set 6 (.bool true))
     have HB0:Hid (Below B wc (((wc.setCell ⟨b,6,none⟩ (.int .i64 (ld:Int))).setCell ⟨b,7,none⟩ (.int .i64 (ct:Int))).setCell ⟨b,8,none⟩ (.bool true))):=
      Jh ((((Below.refl _ _).setCell (p:=⟨b,6,none⟩) H0.out _).setCell (p:=⟨b,7,none⟩) H0.out _).setCell (p:=⟨b,8,none⟩) H0.out _)
     have HK0:Hid (KeepT b wc (((wc.setCell ⟨b,6,none⟩ (.int .i64 (ld:Int))).setCell ⟨b,7,none⟩ (.int .i64 (ct:Int))).setCell ⟨b,8,none⟩ (.bool true))):=Jh ((KeepT.own.trans KeepT.own).trans KeepT.own);go_upto_region 6 with fail
     obtain ⟨w1,hw1⟩:∃w1,(((wc.setCell ⟨b,6,none⟩ (.int .i64 (ld:Int))).setCell ⟨b,7,none⟩ (.int .i64 (ct:Int))).setCell ⟨b,8,none⟩ (.bool true))=w1:=⟨_,rfl⟩;rw[hw1] at HX0 HB0 HK0;rw[hw1];have hB1:B≤w1.heap.size:=Nat.le_trans hB HB0.out.size;clear hw1 c6 c7 c8 z6 z7 z8;go_wp2_with fail
     refine (Kbj B b _ _ l 3 2 w1 HX0.out (by omega) (by omega) (by decide) hB1).mono ?_;rintro _ w2 ⟨rfl,h5,h6,h6k⟩;have HX2:=Jh h5;have HB2:=Jh (HB0.out.trans h6);have HK2:=Jh (HK0.out.trans h6k);have hB2:B≤w2.heap.size:=Nat.le_trans hB1 h6.size;clear h5 h6 h6k;have hldu:IntKind.u64.wrap (ld:Int)=(ld:Int):=Kku _ (by omega) (by omega);go_wp2_with fail
     refine (Kbj B b _ _ (l++putN 3 2) ld 5 w2 HX2.out (by omega) (by rw[Jd,Kbg];omega) (by omega) hB2).mono ?_;rintro _ w3 ⟨rfl,h5,h6,h6k⟩;have HX3:=Jh h5;have HB3:=Jh (HB2.out.trans h6);have HK3:=Jh (HK2.out.trans h6k);have hB3:B≤w3.heap.size:=Nat.le_trans hB2 h6.size;clear h5 h6 h6k;have e2:wrap64 (63 - (ld:Int) - (ct:Int))=((63 - ld - ct:Nat):Int):=by unfold wrap64;omega
     have e3:(63:Int) - (ld:Int) - (ct:Int)=((63 - ld - ct:Nat):Int):=by omega
     have e4:IntKind.u64.wrap ((63 - ld - ct:Nat):Int)=((63 - ld - ct:Nat):Int):=Kku _ (by omega) (by omega);obtain ⟨mm,hmm⟩:∃mm,63 - ld - ct=mm:=⟨_,rfl⟩;have HMM:=Jh hmm;rw[hmm] at e2 e3 e4;clear hmm;go_wp2_with fail
     refine (Kbj B b _ _ (l++putN 3 2++putN ld 5) mm 6 w3 HX3.out (by omega) (by rw[Jd,Jd,Kbg,Kbg];omega) (by have:=HMM.out;omega) hB3).mono ?_;rintro _ w4 ⟨rfl,h5,h6,h6k⟩
     have HX:Hid (ChAt B b { c with lead:=ld,tail:=ct,window:=true } (l++(putN 3 2++putN ld 5++putN (63 - ld - ct) 6)) w4):=Jh (by
      rw[←List.append_assoc,←List.append_assoc,HMM.out]
      exact h5)
     have HXB:=Jh (HB3.out.trans h6);have HXK:=Jh (HK3.out.trans h6k);have hBx:B≤w4.heap.size:=Nat.le_trans hB3 h6.size;clear h5 h6 h6k;go_upto_region 9 with fail
     have hcc:=HX.out.cells;have c6:=hcc.2.2.2.2.1;have c7:=hcc.2.2.2.2.2.1;have sl:=HX.out.lt;clear hcc;have ht63:ct≤63:=by omega
     have e1:wrap64 (64 - (ld:Int) - (ct:Int))=64 - (ld:Int) - (ct:Int):=by unfold wrap64;omega
     refine Kaj 19 (by kernel_rfl) (by kernel_rfl) ?_;simp only[List.take_succ_cons,List.take_zero,List.drop_succ_cons,List.drop_zero]
     repeat (go_big_quiet_step (fail))
     refine wpQuiet_nil ?_;rintro w4 ⟨⟨_,hb4⟩,rfl⟩;have H4:=Jh (WrAt.far HX.out hb4);have HB4:=Jh (HXB.out.trans (hb4.mono hBx));have HK4:=Jh (HXK.out.trans (KeepT.of_below (b:=b) hb4));have hB4:B≤w4.heap.size:=Nat.le_trans hBx hb4.size;clear hb4 sl c6 c7;have hsh:(x:Int) / 2 ^ ct=((x >>> ct:Nat):Int):=by rw[Nat.shiftRight_eq_div_pow];simp
     have hwd:(64:Int) - (ld:Int) - (ct:Int)=((64 - ld - ct:Nat):Int):=by omega
     rw[hsh,hwd];have hsl:x >>> ct < 2 ^ 64:=Nat.lt_of_le_of_lt (Nat.shiftRight_le _ _) hx;obtain ⟨sx,hsx⟩:∃sx,x >>> ct=sx:=⟨_,rfl⟩;obtain ⟨wd,hwd2⟩:∃wd,64 - ld - ct=wd:=⟨_,rfl⟩;rw[hsx] at hsl;rw[hsx,hwd2];have HSX:=Jh hsx;have HWD:=Jh hwd2;clear hsh hwd hsx;go_wp2_with fail
     refine (Kbj B b _ _ (l++(putN 3 2++putN ld 5++putN (63 - ld - ct) 6)) sx wd w4 H4.out (by omega) (by rw[Jd];rw[Jd,Jd,Kbg,Kbg,Kbg];omega) hsl hB4).mono ?_;rintro _ w5 ⟨rfl,h5,h6,h6k⟩;go_wp2_with fail
     go_end0
     rw[List.append_assoc] at h5
     have hd:Kbl c x=((putN 3 2++putN ld 5++putN (63 - ld - ct) 6)++putN sx wd,{ c with lead:=ld,tail:=ct,window:=true }):=by
      unfold Kbl;rw[if_neg H0'.out,HCLE.out,HCTE.out,HLD.out,if_neg hwin];rw[HSX.out,HWD.out]
     rw[hd];exact ⟨rfl,h5,HB4.out.trans h6,HK4.out.trans h6k⟩
end
section
open Go.RowKit
open Lib renaming hid → Jh
attribute [local go_sem ↓] Go.wp_at_zero Go.wp_at_succ
attribute [local go_sem] Later.cell
def stepE (c:Cst) (s:Smp):Nat:=if s.t < 0∨1125899906842624 < s.t then 91 else if 0 < c.n∧s.t≤c.last.t then 90 else if c.n=120 then 92 else 0
theorem Kmt (ch:Int):(Kcn ch).length≤70:=by
 unfold Kcn
 repeat' split
 all_goals simp[Kbg]
def DbAt (B:Nat) (w:World):Prop:=DbTab w∧2 < B
theorem DbAt.below {B:Nat} {w w':World} (h:DbAt B w) (hb:Below B w w'):DbAt B w':=⟨fun j hj=>(hb.cell (p:=⟨2,j,none⟩) h.2).trans (h.1 j hj),h.2⟩
theorem Qcv (c:Cst) (x:Nat):(Kbl c x).2.n=c.n:=by
 unfold Kbl
 split
 ·rfl
 ·split <;> rfl
def Qfq (B b:Nat) (c:Cst) (l:List Bool) (s:Smp) (E:Nat) (w:World) (e:Ending) (w':World):Prop:=
 e = .returned (.int .i64 (E:Nat))∧(E=0→ChAt B b (Kbn c s).2 (l++(Kbn c s).1) w')∧Below B w w'∧KeepT b w w'
theorem Krq (B b:Nat) (c:Cst) (l:List Bool) (s:Smp) (w:World) (h:ChAt B b c l w) (hg:c.Good) (hn:c.n≤120) (hv:s.v < 2 ^ 64) (hlen:l.length≤1000000) (hB:B≤w.heap.size) (hT:DbAt B w) :
  Calls Tryz.prog 171 #[.pointer (some ⟨b,0,none⟩),.int .i64 s.t,.int .u64 (s.v:Int)] w (Qfq B b c l s (stepE c s) w):=by
 obtain ⟨t,v⟩:=s;have hcc:=h.cells;have c2:=hcc.1;have c3:=hcc.2.1;have c4:=hcc.2.2.1;have z2:=hcc.2.2.2.2.2.2.2 2;have H:=Jh h;have H0:=Jh h.1;have HG:=Jh hg;clear h hcc;dsimp only at hv ⊢;obtain ⟨E,hE⟩:∃E,stepE c ⟨t,v⟩=E:=⟨_,rfl⟩;have HE:=Jh hE;rw[hE];unfold stepE at hE;dsimp only at hE
 by_cases b1:t < 0
 ·rw[if_pos (.inl b1)] at hE;have d1:decide (t < 0)=true:=by simp[b1]
  subst hE;go_enter Tryz.func171,Tryz.ntmps171
  go_wp2_with fail
  go_ret
  exact ⟨rfl,fun h=>absurd h (by decide),Below.refl _ _,KeepT.refl _ _⟩
 by_cases b2:1125899906842624 < t
 ·rw[if_pos (.inr b2)] at hE;have d1:decide (t < 0)=false:=by simp;omega
  have d2:decide (1125899906842624 < t)=true:=by simp;omega
  subst hE;go_enter Tryz.func171,Tryz.ntmps171
  go_wp2_with fail
  go_ret
  exact ⟨rfl,fun h=>absurd h (by decide),Below.refl _ _,KeepT.refl _ _⟩
 rw[if_neg (by omega)] at hE;have d1:decide (t < 0)=false:=by simp;omega
 have d2:decide (1125899906842624 < t)=false:=by simp;omega
 cases hn0:c.n with
 | zero=>
  rw[hn0] at hE c2;rw[if_neg (by omega),if_neg (by omega)] at hE;subst hE;have htu:IntKind.u64.wrap t=((u64N t:Nat):Int):=Kgc t;go_enter Tryz.func171,Tryz.ntmps171
  go_wp2_with fail
  refine (Kbj B b _ _ l (u64N t) 64 w H.out (by omega) (by omega) (Kie _) hB).mono ?_;rintro _ w2 ⟨rfl,h5,h6,h6k⟩;have HX2:=Jh h5;have HB2:=Jh h6;have HK2:=Jh h6k;have hB2:B≤w2.heap.size:=Nat.le_trans hB h6.size;clear h5 h6 h6k;go_wp2_with fail
  refine (Kbj B b _ _ (l++putN (u64N t) 64) v 64 w2 HX2.out (by omega) (by rw[List.length_append,Kbg];omega) hv hB2).mono ?_;rintro _ w3 ⟨rfl,h5,h6,h6k⟩;have HX3:Hid (ChAt B b c (l++putN (u64N t) 64++putN v 64) w3):=Jh h5;have HB3:=Jh (HB2.out.trans h6);have HK3:=Jh (HK2.out.trans h6k);clear h5 h6 h6k c2 c3 c4 z2;have hcc:=HX3.out.cells;have c2:=hcc.1;have c3:=hcc.2.1;have c4:=hcc.2.2.1;have z2:=hcc.2.2.2.2.2.2.2 2;have z3:=hcc.2.2.2.2.2.2.2 3;have z4:=hcc.2.2.2.2.2.2.2 4;rw[hn0] at c2;clear hcc;go_wp2_with fail
  go_ret
  refine ⟨rfl,fun _=>?_,((HB3.out.setCell (p:=⟨b,3,none⟩) H0.out _).setCell (p:=⟨b,4,none⟩) H0.out _).setCell (p:=⟨b,2,none⟩) H0.out _,((HK3.out.trans KeepT.own).trans KeepT.own).trans KeepT.own⟩;have:=((HX3.out.rest_set 1 (.int .i64 t)).rest_set 2 (.int .u64 (v:Int))).rest_set 0 (.int .i64 1);unfold Kbn;rw[if_pos hn0];rw[List.append_assoc] at this;exact this
 | succ n=>
  rw[hn0] at hE c2 hn;have d3:decide ((0:Int) < (n:Int)+1)=true:=by rw[decide_eq_true_eq];omega
  by_cases b3:t≤c.last.t
  ·rw[if_pos ⟨by omega,b3⟩] at hE;have d4:decide (t≤c.last.t)=true:=by simp;omega
   subst hE;go_enter Tryz.func171,Tryz.ntmps171
   go_wp2_with fail
   go_ret
   exact ⟨rfl,fun h=>absurd h (by decide),Below.refl _ _,KeepT.refl _ _⟩
  rw[if_neg (by omega)] at hE;have d4:decide (t≤c.last.t)=false:=by simp;omega
  by_cases b4:n+1=120
  ·rw[if_pos b4] at hE;have d5:(((n:Int)+1) == 120)=true:=by simp;omega
   subst hE;go_enter Tryz.func171,Tryz.ntmps171
   go_wp2_with fail
   go_ret
   exact ⟨rfl,fun h=>absurd h (by decide),Below.refl _ _,KeepT.refl _ _⟩
  rw[if_neg b4] at hE;have d5:(((n:Int)+1) == 120)=false:=by simp;omega
  have d6:(((n:Int)+1) == 0)=false:=by simp;omega
  subst hE;have g1:=HG.out.t0;have g2:=HG.out.t1;have g3:=HG.out.v;have g4:=HG.out.s0;have g5:=HG.out.s1;have hst:wrap64 (t - c.last.t)=t - c.last.t:=by unfold wrap64;omega
  obtain ⟨st,hste⟩:∃st,t - c.last.t=st:=⟨_,rfl⟩;rw[hste] at hst;have HST:=Jh hste;have hxor:bits .xor .u64 (v:Int) (c.last.v:Int)=((v ^^^ c.last.v:Nat):Int):=bits_xor_u64_nat _ _ (by omega) (by omega);obtain ⟨xv,hxv⟩:∃xv,v ^^^ c.last.v=xv:=⟨_,rfl⟩;have hxl:xv < 2 ^ 64:=by rw[←hxv];exact Nat.xor_lt_two_pow hv g3
  rw[hxv] at hxor;have HXV:=Jh hxv;have hs1:-1125899906842624≤st:=by omega
  have hs2:st≤1125899906842624:=by omega
  clear hxv;go_enter Tryz.func171,Tryz.ntmps171
  go_wp2_with fail
  refine (Kzb B b c l st w H.out g4 g5 hs1 hs2 (by omega) hB).mono ?_;rintro _ w2 ⟨rfl,h5,h6,h6k⟩;obtain ⟨tb,htb⟩:∃tb,Kcn (st - c.step)=tb:=⟨_,rfl⟩;have htl:tb.length≤70:=by rw[←htb];exact Kmt _
  rw[htb] at h5;have HTB:=Jh htb;clear htb;have HX2:=Jh h5;have HB2:=Jh h6;have HK2:=Jh h6k;have hB2:B≤w2.heap.size:=Nat.le_trans hB h6.size;have HT2:=Jh (hT.below h6);clear h5 h6 h6k c2 c3 c4 z2;have hcc:=HX2.out.cells;have c4:w2.cell? ⟨b,4,none⟩=some (.int .u64 (c.last.v:Int)):=hcc.2.2.1;clear hcc;go_wp2_with fail
  refine (Kwi B b _ (l++tb) xv w2 HX2.out (HG.out.ok.step st) hxl (by rw[List.length_append];omega) hB2 HT2.out.1).mono ?_;rintro _ w3 ⟨rfl,h5,h6,h6k⟩;have HX3:=Jh h5;have HB3:=Jh (HB2.out.trans h6);have HK3:=Jh (HK2.out.trans h6k);clear h5 h6 h6k c4;have hcc:=HX3.out.cells;have hdn:(Kbl { c with step:=st } xv).2.n=n+1:=(Qcv _ _).trans hn0;have c2:=hcc.1;rw[hdn] at c2;have c3:=hcc.2.1;have c4:=hcc.2.2.1;have z2:=hcc.2.2.2.2.2.2.2 2;have z3:=hcc.2.2.2.2.2.2.2 3;have z4:=hcc.2.2.2.2.2.2.2 4;clear hcc;obtain ⟨D,hD⟩:∃D,Kbl { c with step:=st } xv=D:=⟨_,rfl⟩;rw[hD] at c3 c4 HX3 hdn;have HD:=Jh hD;clear hD;go_wp2_with fail
  go_ret
  refine ⟨rfl,fun _=>?_,((HB3.out.setCell (p:=⟨b,3,none⟩) H0.out _).setCell (p:=⟨b,4,none⟩) H0.out _).setCell (p:=⟨b,2,none⟩) H0.out _,((HK3.out.trans KeepT.own).trans KeepT.own).trans KeepT.own⟩;have:=((HX3.out.rest_set 1 (.int .i64 t)).rest_set 2 (.int .u64 (v:Int))).rest_set 0 (.int .i64 ((n:Int)+1+1));unfold Kbn;rw[if_neg (by omega)];dsimp only;rw[HST.out,HXV.out,HTB.out,HD.out,hn0];rw[List.append_assoc] at this;exact this
end
section
open Go.RowKit
attribute [local go_sem ↓] Go.wp_at_zero Go.wp_at_succ
attribute [local go_sem] Later.cell
theorem Qdu {w:World} {B n:Nat} {v:Value} {s:List UInt8} (h:w.ownsRow B 5 1 v n (Lib.byteCells s)) (hn:s.length=n):(convert 76 9 v).run Tryz.prog w = .ok (.string ⟨s.toArray⟩) w:=by
 subst hn
 by_cases h0:s = []
 ·subst h0;rcases h.2 with ⟨rfl,_⟩ | ⟨g',cap,cur,rfl,_⟩
  ·kernel_rfl
  ·kernel_rfl
 ·obtain ⟨a,cap,rfl,hc⟩:=Klv.text (l:=s) h h0;exact hc
theorem Kuh (B b:Nat) (T:TypeId) (rest:List Value) (l:List Bool) (w:World) (h:WrAt B b T rest l w) :
  Calls Tryz.prog 202 #[.pointer (some ⟨b,0,none⟩)] w fun e w'=>e = .returned (.string ⟨(packB l).toArray⟩)∧w=w':=by
 obtain ⟨h0,v,h1,h2,h3⟩:=h;have hc:=Qdu h2 (Kfp l).len;have c0:w.cell? ⟨b,0,none⟩=some v:=h1.cell 0;obtain ⟨S,hS⟩:∃S:ByteArray,(⟨(packB l).toArray⟩:ByteArray)=S:=⟨_,rfl⟩;rw[hS] at hc ⊢;clear h1 h2 h3 hS;go_enter Tryz.func202,Tryz.ntmps202
 go_wp2_with fail
 go_ret
 exact ⟨rfl,rfl⟩
theorem Kum (B b:Nat) (c:Cst) (l:List Bool) (w:World) (h:ChAt B b c l w) (hn:c.n≤120) (hlen:l.length≤2000000) (hB:B≤w.heap.size) :
  Calls Tryz.prog 172 #[.pointer (some ⟨b,0,none⟩)] w fun e w'=>e = .returned (.string ⟨(uintT c.n++packB l).toArray⟩)∧Below w.heap.size w w':=by
 have c2:=h.cells.1;have hbl:=h.lt;have H:=Lib.hid h;obtain ⟨n,hn2⟩:∃n,c.n=n:=⟨_,rfl⟩;rw[hn2] at c2 hn ⊢;clear h hn2;have hu:=fun w=>Kau n (by omega) w
 obtain ⟨U,hU⟩:∃U:ByteArray,(⟨(uintT n).toArray⟩:ByteArray)=U:=⟨_,rfl⟩;obtain ⟨V,hV⟩:∃V:ByteArray,(⟨(packB l).toArray⟩:ByteArray)=V:=⟨_,rfl⟩;have hUz:U.size≤11:=by rw[←hU];simp only[ByteArray.size,List.size_toArray];exact (Kab n).2
 have hVz:V.size≤2000000:=by rw[←hV];simp only[ByteArray.size,List.size_toArray];rw[(Kfp l).len];omega
 have hUV:U++V=(⟨(uintT n++packB l).toArray⟩:ByteArray):=by rw[←hU,←hV];apply ByteArray.ext;simp[ByteArray.data_append]
 have HW:=Lib.hid (fun (w':World) (hb:Below w.heap.size w w')=>Kuh B b _ _ l w' (H.out.far hb));simp only[hU] at hu;rw[hV] at HW;have HU:=Lib.hid hu;have HUV:=Lib.hid hUV;clear hu hU hV hUV;go_enter Tryz.func172,Tryz.ntmps172
 go_upto_region 3 with fail
 refine Kah (by kernel_rfl) (by kernel_rfl) ?_
 repeat (go_big_quiet_step ((first | (go_at_call 42;exact Kal _ (HU.out _)) | (go_at_call 202;exact Knp _ (HW.out _ (Later.h _))))))
 refine wpQuiet_nil ?_;rintro w2 ⟨⟨_,hb2⟩,rfl⟩;go_wp2_with fail
 go_ret
 rw[HUV.out];exact ⟨rfl,hb2⟩
end
section
open Go.RowKit
open Lib renaming hid → Jh
attribute [local go_sem ↓] Go.wp_at_zero Go.wp_at_succ
attribute [local go_sem] Later.cell
def stW:Cst→List Smp→Cst
 | c,[]=>c
 | c,s :: l=>stW (Kbn c s).2 l
def encE:Cst→List Smp→Nat
 | _,[]=>0
 | c,s :: l=>if stepE c s≠0 then stepE c s else encE (Kbn c s).2 l
theorem Kit:∀(l:List Smp) (c:Cst) (s:Smp),stW c (l ++ [s])=(Kbn (stW c l) s).2
 | [],_,_=>rfl
 | x :: l,c,s=>Kit l (Kbn c x).2 s
theorem Kgf:∀(l:List Smp) (c:Cst) (s:Smp),Kbv c (l ++ [s])=Kbv c l++(Kbn (stW c l) s).1
 | [],c,s=>by simp[Kbv,stW]
 | x :: l,c,s=>by rw[List.cons_append,Kbv,Kbv,Kgf l,stW,List.append_assoc]
theorem stW_n:∀(l:List Smp) (c:Cst),(stW c l).n=c.n+l.length
 | [],c=>rfl
 | x :: l,c=>by rw[stW,stW_n l,(Khn c x).1,List.length_cons];omega
theorem Kxq (c:Cst) (h:c.Ok) (x:Nat):(Kbl c x).1.length≤80:=by
 have:=h.2;unfold Kbl
 repeat' split
 all_goals simp[Kbg]
 all_goals omega
theorem Kyt (c:Cst) (h:c.Ok) (s:Smp):(Kbn c s).1.length≤150:=by
 unfold Kbn
 split
 ·simp[Kbg]
 ·have h1:=Kmt (s.t - c.last.t - c.step);have h2:=Kxq { c with step:=s.t - c.last.t } h (s.v ^^^ c.last.v);simp only[List.length_append];omega
theorem Ktv {c:Cst} {s:Smp} (h:stepE c s=0):0≤s.t∧s.t≤1125899906842624∧(c.n=0∨c.last.t < s.t)∧c.n≠120:=by
 unfold stepE at h
 split at h
 ·omega
 ·split at h
  ·omega
  ·split at h
   ·omega
   ·exact ⟨by omega,by omega,by omega,by omega⟩
def prevB (prev:Option Smp) (x:Smp):Bool:=match prev with | none=>true | some y=>decide (y.t < x.t)
theorem Kpp (prev:Option Smp) (n:Nat) (x:Smp) (l:List Smp):fitC prev n (x :: l)=(decide (0≤x.t) && decide (x.t≤1125899906842624) && prevB prev x && decide (n < 120) && fitC (some x) (n+1) l):=by cases prev <;> rfl
theorem Ksh:∀(l:List Smp) (c:Cst) (prev:Option Smp),c.n≤120→(∀p,prev=some p→c.n≠0∧c.last=p)→(prev=none→c.n=0)→(encE c l=0↔fitC prev c.n l=true)
 | [],c,prev,_,_,_=>by cases prev <;> simp[encE,fitC]
 | x :: l,c,prev,hn,h1,h2=>by
  have ih:=fun h=>Ksh l (Kbn c x).2 (some x) h (fun p hp=>by injection hp with hp;subst hp;exact ⟨by rw[(Khn c x).1];omega,(Khn c x).2⟩) (fun h=>by cases h)
  rw[(Khn c x).1] at ih;rw[encE]
  by_cases h0:stepE c x=0
  ·rw[if_neg (by simp[h0])];obtain ⟨a1,a2,a3,a4⟩:=Ktv h0;rw[ih (by omega)]
   have hp:prevB prev x=true:=by
    cases prev with
    | none=>rfl
    | some p=>obtain ⟨q1,q2⟩:=h1 p rfl;subst q2;exact decide_eq_true (by omega)
   rw[Kpp,hp,decide_eq_true a1,decide_eq_true a2,decide_eq_true (show c.n < 120 by omega)];simp
  ·rw[if_pos h0];constructor
   ·intro h;exact absurd h h0
   ·intro h;exfalso;apply h0;rw[Kpp] at h;simp only[Bool.and_eq_true,decide_eq_true_eq] at h;obtain ⟨⟨⟨⟨a1,a2⟩,a3⟩,a4⟩,_⟩:=h;unfold stepE;rw[if_neg (by omega),if_neg,if_neg (by omega)];rintro ⟨q1,q2⟩
    cases prev with
    | none=>have:=h2 rfl;omega
    | some p=>
     rw[(h1 p rfl).2] at q2;have a3':p.t < x.t:=of_decide_eq_true a3;omega
theorem Kzw (l:List Smp):encE cst0 l=0↔fitC none 0 l=true:=Ksh l cst0 none (by decide) (fun p h=>by cases h) (fun _=>rfl)
def Kei (l:List Smp):List UInt8×Nat:=if encE cst0 l=0 then (Kcz l,0) else ([],encE cst0 l)
theorem Kqs (l:List Smp) (A:Option Addr) (n cap:Nat) (w:World) (hE:Elems w w.heap.size 2 Kad A n l) (hn:n≤140737488351232) (hv:∀x∈l,x.v < 2 ^ 64) (hT:DbTab w) :
  Calls Tryz.prog 117 #[.slice A n cap] w fun e w'=>e = .returned (.tuple #[.string ⟨(Kei l).1.toArray⟩,.int .i64 ((Kei l).2:Nat)])∧Below w.heap.size w w':=by
 have hlen:=hE.len;have HE:=Jh hE;have HV:=Jh hv;have hTB:DbAt w.heap.size w:=⟨hT,Kfa (hT 0 (by decide))⟩;have HTB:=Jh hTB;obtain ⟨E,hEE⟩:∃E,encE cst0 l=E:=⟨_,rfl⟩;have HEE:=Jh hEE;have HLEN:=Jh hlen
 have h0:ChAt w.heap.size w.heap.size cst0 [] (w.alloc (.cells #[.slice none 0 0,.int .i64 0,.int .i64 0,.int .i64 0,.int .u64 0,.int .i64 0,.int .i64 0,.int .i64 0,.bool false] 271)):=
  ⟨Nat.le_refl _,.slice none 0 0,Blk.new _ _ _,World.ownsRow_nil _ _ _ _,by simp[Value.ownBlock]⟩
 have hb0:Below w.heap.size w (w.alloc (.cells #[.slice none 0 0,.int .i64 0,.int .i64 0,.int .i64 0,.int .u64 0,.int .i64 0,.int .i64 0,.int .i64 0,.bool false] 271)):=(Below.refl _ _).alloc (Nat.le_refl _) _;clear hE hv hTB hT hEE hlen;go_enter Tryz.func117,Tryz.ntmps117
 go_upto_region 2 with fail
 obtain ⟨w1,hw1⟩:∃w1,w.alloc (.cells #[.slice none 0 0,.int .i64 0,.int .i64 0,.int .i64 0,.int .u64 0,.int .i64 0,.int .i64 0,.int .i64 0,.bool false] 271)=w1:=⟨_,rfl⟩;rw[hw1] at h0 hb0;rw[hw1];obtain ⟨B,hB⟩:∃B,w.heap.size=B:=⟨_,rfl⟩;rw[hB] at h0 hb0 HE HTB ⊢;have HB:=Jh hB;have H1:=Jh h0;have HB1:=Jh hb0;clear hw1 h0 hb0 hB;go_wp2_with fail
 go_loopg [10] n (fun g s10 wr=>∃i:Nat,i+g=n∧s10 = .int .i64 (i:Int)∧i≤120∧encE (stW cst0 (l.take i)) (l.drop i)=E∧(stW cst0 (l.take i)).Good∧(Kbv cst0 (l.take i)).length≤150*i∧ChAt B B (stW cst0 (l.take i)) (Kbv cst0 (l.take i)) wr∧Below B w wr)
 case atStart=>exact ⟨0,by omega,rfl,by omega,HEE.out,Cst.good0,by simp[Kbv],H1.out,HB1.out⟩
 case round=>
  obtain ⟨i,hi,rfl,h120,he,hg,hsl,hch,hb⟩:=hrel;have HI:=Jh hi;have HEI:=Jh he;have HG:=Jh hg;have HSL:=Jh hsl;have HCH:=Jh hch;have HBR:=Jh hb;have hBr:B≤wr.heap.size:=Nat.le_trans (by rw[HB.out];exact Nat.le_refl _) hb.size;clear he hg hsl hch hb
  by_cases hin:i < n
  ·have hil:i < l.length:=by have:=HLEN.out;omega
   obtain ⟨bk,off,rfl,hbk,hcell⟩:=HE.out.2 (by omega);have m0:wr.cell? ⟨bk,off+i*2,none⟩=some (.int .i64 l[i].t):=(HBR.out.cell (p:=⟨bk,off+i*2,none⟩) hbk).trans (by simpa using hcell i l[i] (List.getElem?_eq_getElem hil) 0 _ rfl);have m1:wr.cell? ⟨bk,off+i*2+1,none⟩=some (.int .u64 (l[i].v:Int)):=(HBR.out.cell (p:=⟨bk,off+i*2+1,none⟩) hbk).trans (by simpa using hcell i l[i] (List.getElem?_eq_getElem hil) 1 _ rfl);have hvi:=HV.out l[i] (List.getElem_mem hil);have hdr:l.drop i=l[i] :: l.drop (i+1):=List.drop_eq_getElem_cons hil;have htk:l.take (i+1)=l.take i ++ [l[i]]:=List.take_succ_eq_append_getElem hil;obtain ⟨x,hx⟩:∃x,l[i]=x:=⟨_,rfl⟩;rw[hx] at m0 m1 hvi hdr htk;have HDR:=Jh hdr;have HTK:=Jh htk
   have hnn:(stW cst0 (l.take i)).n=i:=by
    rw[stW_n,List.length_take];show 0+_=i
    omega
   obtain ⟨C,hC⟩:∃C,stW cst0 (l.take i)=C:=⟨_,rfl⟩;obtain ⟨L,hL⟩:∃L,Kbv cst0 (l.take i)=L:=⟨_,rfl⟩;rw[hC] at HEI HG HCH hnn;rw[hL] at HSL HCH;have HCC:=Jh hC;have HLL:=Jh hL;have HX:=Jh hx;have el:decide ((i:Int) < (n:Int))=true:=by simp;omega
   have el2:(i:Int) < (n:Int):=by omega
   clear hi hdr htk hC hL hx hcell;go_upto_region 5 with fail
   have ha:Below wr.heap.size wr (wr.alloc (.cells #[.int .i64 x.t,.int .u64 (x.v:Int)] 102)):=(Below.refl _ _).alloc (Nat.le_refl _) _;have hq:Blk (wr.alloc (.cells #[.int .i64 x.t,.int .u64 (x.v:Int)] 102)) wr.heap.size 102 #[.int .i64 x.t,.int .u64 (x.v:Int)]:=Blk.new _ _ _;obtain ⟨w2,hw2⟩:∃w2,wr.alloc (.cells #[.int .i64 x.t,.int .u64 (x.v:Int)] 102)=w2:=⟨_,rfl⟩;obtain ⟨q,hqq⟩:∃q,wr.heap.size=q:=⟨_,rfl⟩;rw[hw2] at ha hq;rw[hw2];rw[hqq] at hq;rw[hqq];have q0:w2.cell? ⟨q,0,none⟩=_:=hq.cell 0;have q1:w2.cell? ⟨q,1,none⟩=_:=hq.cell 1;have HCH2:=Jh (HCH.out.far ha);have HB2:=Jh (HBR.out.trans (ha.mono hBr));have hB2:B≤w2.heap.size:=Nat.le_trans hBr ha.size;have HAP:=Jh (Krq B B C L x w2 HCH2.out HG.out (by omega) hvi (by have:=HSL.out;omega) hB2 (HTB.out.below HB2.out));obtain ⟨se,hse⟩:∃se,stepE C x=se:=⟨_,rfl⟩;rw[hse] at HAP;have HSE:=Jh hse;have hei:=HEI.out;rw[HDR.out,encE,hse] at hei;have hse92:se≤92:=by (rw[←hse];unfold stepE;repeat' split);all_goals omega
   clear ha hq hw2 hqq hse;go_wp2_with fail
   refine HAP.out.mono ?_;rintro _ w3 ⟨rfl,h5,h6,_⟩;have H5:=Jh h5;have HB3:=Jh (HB2.out.trans h6);have hB3:B≤w3.heap.size:=Nat.le_trans hB2 h6.size;clear h5 h6 q0 q1
   by_cases hs0:se=0
   ·subst hs0;rw[if_neg (by simp)] at hei;have HEN:=Jh hei;clear hei;have hok:=Ktv HSE.out;go_wp2_with fail
    go_roundg (gk - 1)
    case measure=>have:=HI.out;omega
    case rel=>
     refine ⟨i+1,by have:=HI.out;omega,by go_num,by have:=hok.2.2.2;omega,?_,?_,?_,?_,HB3.out⟩
     ·rw[HTK.out,Kit,HCC.out];exact HEN.out
     ·rw[HTK.out,Kit,HCC.out];exact Kwc HG.out ⟨hok.1,hok.2.1,hvi⟩
     ·rw[HTK.out,Kgf,HCC.out,HLL.out,List.length_append];have:=Kyt C HG.out.ok x;have:=HSL.out;omega
     ·rw[HTK.out,Kit,Kgf,HCC.out,HLL.out];exact H5.out trivial
   ·rw[if_pos hs0] at hei;have e0:((se:Int) != 0)=true:=by simp;omega
    have HEN:=Jh hei;have HS0:=Jh hs0;clear hei;go_wp2_with fail
    go_ret2
    unfold Kei;rw[if_neg (by rw[HEE.out,←HEN.out];exact HS0.out),HEE.out,←HEN.out];exact ⟨rfl,by rw[HB.out];exact HB3.out⟩
  ·have el:decide ((i:Int) < (n:Int))=false:=by simp;omega
   have hi3:i=n:=by have:=HI.out;omega
   subst hi3;have htk:l.take i=l:=List.take_of_length_le (by have:=HLEN.out;omega);have hdr:l.drop i = []:=List.drop_eq_nil_of_le (by have:=HLEN.out;omega)
   have hE0:E=0:=by
    have:=HEI.out;rw[hdr] at this;exact this.symm
   rw[htk] at HCH HSL HG
   have hnn:(stW cst0 l).n=i:=by
    rw[stW_n,HLEN.out];show 0+_=i
    omega
   have HBY:=Jh (Kum B B _ _ wr HCH.out (by omega) (by have:=HSL.out;omega) hBr)
   have ho:Kei l=(uintT i++packB (Kbv cst0 l),0):=by
    unfold Kei;rw[if_pos (by rw[HEE.out,hE0]),Kcz,HLEN.out]
   rw[hnn] at HBY;have HO:=Jh ho;obtain ⟨S,hS⟩:∃S:ByteArray,(⟨(uintT i++packB (Kbv cst0 l)).toArray⟩:ByteArray)=S:=⟨_,rfl⟩;rw[hS] at HBY;have HS:=Jh hS;clear hnn ho hS htk hdr hE0;go_wp2_with fail
   refine HBY.out.mono ?_;rintro _ w3 ⟨rfl,h6⟩;go_wp2_with fail
   go_ret2
   rw[HO.out,←HS.out];exact ⟨rfl,by rw[HB.out];exact HBR.out.trans (h6.mono hBr)⟩
end
section
open Go.RowKit
section
variable {P : Program} {ops : Array Oper} {Q : Exit → Act → World → Prop} {md : Region.Mode} {S : World → Prop} {k : Nat}
def Kcr (P:Program) (md:Region.Mode) (ops:Array Oper) (Q:Exit→Act→World→Prop) (S:World→Prop) (k:Nat):Nat→Array Bool→Act→World→Prop
 | 0,L,a,w=>Region.ready md ops L = []∧Q .normal a w
 | f+1,L,a,w=>(Region.ready md ops L = []→Q .normal a w)∧∀i∈Region.ready md ops L,wpOp P ops Q i (fun a' w'=>((L.setIfInBounds i true).getD k false=false→S w')∧Kcr P md ops Q S k f (L.setIfInBounds i true) a' w') a w
theorem Kod:∀(f:Nat) (L:Array Bool) (a:Act) (w:World),Kcr P md ops Q S k f L a w→wpAny P md ops Q f L a w
 | 0,_,_,_,h=>h
 | f+1,_,_,_,h=>⟨h.1,fun i hi=>wpOp_mono (fun a' w' h'=>Kod f _ a' w' h'.2) (h.2 i hi)⟩
theorem Kui {i:Nat} {oi:Oper} {v:Value} (hi:ops[i]? = some oi) (hsel:∀(j:Nat) (o:Oper) cs b,ops[j]? = some o→o.op≠.select cs b)
  (hQ:∀c a w,Q (.panic c) (a.put oi.dst v) w→Q (.panic c) a w) (hki:k≠i) (hkw:∀ok,ops[k]? = some ok→∃e∈ok.after,Region.binds md e=true∧e.on=i) :
  ∀(f:Nat) (L:Array Bool) (a:Act) (w:World),
   (∀j oj,ops[j]? = some oj→j≠i→L.getD j true=false→(∀e∈oj.after,Region.binds md e=true→e.on≠i)→oi.apart ops oj=true)→
   i∈Region.ready md ops L→YieldsIf P ops S oi v a→L.getD k false=false→S w→
   Kcr P md ops Q S k f (L.setIfInBounds i true) (a.put oi.dst v) w→Kcr P md ops Q S k (f+1) L a w:=by
 intro f
 induction f with
 | zero=>
  intro L a w hfree hr hy hl hS H;refine ⟨fun h=>(by rw[h] at hr;cases hr),fun j hj=>?_⟩
  by_cases hji:j=i
  ·subst hji;exact hy.wpOp hi hS ⟨fun _=>hS,H⟩
  ·have:=ready_mono hj hji;rw[H.1] at this;cases this
 | succ f ih=>
  intro L a w hfree hr hy hl hS H;refine ⟨fun h=>(by rw[h] at hr;cases hr),fun j hj=>?_⟩
  by_cases hji:j=i
  ·subst hji;exact hy.wpOp hi hS ⟨fun _=>hS,H⟩
  ·have h1:=H.2 j (ready_mono hj hji);obtain ⟨hjun,oj,hoj,hall⟩:=mem_ready.1 hj
   have hnot:∀e∈oj.after,Region.binds md e=true→e.on≠i:=fun e he hb heq=>by
    have h1:=hall e he hb;have h0:=(mem_ready.1 hr).1;rw[heq] at h1;rcases Nat.lt_or_ge i L.size with h' | h'
    ·simp[h'] at h0 h1;rw[h0] at h1;cases h1
    ·simp[Array.getElem?_eq_none h'] at h1
   have hjk:j≠k:=by
    rintro rfl;obtain ⟨e,he,hb,heq⟩:=hkw oj hoj;exact hnot e he hb heq
   have h2:=wpOp_putIf hoj (hfree j oj hoj hji hjun hnot) (fun cs b=>hsel i oi cs b hi) (fun cs b=>hsel j oj cs b hoj) hQ hy h1
   have hfree':∀k ok,ops[k]? = some ok→k≠i→(L.setIfInBounds j true).getD k true=false→
     (∀e∈ok.after,Region.binds md e=true→e.on≠i)→oi.apart ops ok=true:=fun k ok hk hki hun hno=>by
    refine hfree k ok hk hki ?_ hno
    by_cases hjk:j=k
    ·subst hjk;exact hjun
    ·rw[getD_set_ne true hjk] at hun;exact hun
   have hl1:(L.setIfInBounds j true).getD k false=false:=by rw[getD_set_ne false hjk];exact hl
   have hl2:((L.setIfInBounds i true).setIfInBounds j true).getD k false=false:=by rw[getD_set_ne false hjk,getD_set_ne false (Ne.symm hki)];exact hl
   refine wpOp_mono (fun a' w' h3=>⟨fun _=>h3.2.1 hl2,ih (L.setIfInBounds j true) a' w' hfree' (ready_mono hr (Ne.symm hji)) h3.1 hl1 (h3.2.1 hl2) ?_⟩) h2;rw[Array.setIfInBounds_comm _ _ hji];exact h3.2.2
theorem Krn {i:Nat} {oi:Oper} {v:Value} (hi:ops[i]? = some oi) (hsel:∀(j:Nat) (o:Oper) cs b,ops[j]? = some o→o.op≠.select cs b)
  (hQ:∀c a w,Q (.panic c) (a.put oi.dst v) w→Q (.panic c) a w) (hki:k≠i) :
  ∀(f:Nat) (L:Array Bool) (a:Act) (w:World),
   (∀j oj,ops[j]? = some oj→j≠i→L.getD j true=false→(∀e∈oj.after,Region.binds md e=true→e.on≠i)→oi.apart ops oj=true)→
   i∈Region.ready md ops L→YieldsIf P ops (fun _=>True) oi v a→(L.getD k false=false→S w)→
   Kcr P md ops Q S k f (L.setIfInBounds i true) (a.put oi.dst v) w→Kcr P md ops Q S k (f+1) L a w:=by
 have same:∀L:Array Bool,(L.setIfInBounds i true).getD k false=L.getD k false:=fun L=>getD_set_ne false (Ne.symm hki)
 intro f
 induction f with
 | zero=>
  intro L a w hfree hr hy hS H;refine ⟨fun h=>(by rw[h] at hr;cases hr),fun j hj=>?_⟩
  by_cases hji:j=i
  ·subst hji;exact hy.wpOp hi trivial ⟨fun h=>hS (by rw[same] at h;exact h),H⟩
  ·have:=ready_mono hj hji;rw[H.1] at this;cases this
 | succ f ih=>
  intro L a w hfree hr hy hS H;refine ⟨fun h=>(by rw[h] at hr;cases hr),fun j hj=>?_⟩
  by_cases hji:j=i
  ·subst hji;exact hy.wpOp hi trivial ⟨fun h=>hS (by rw[same] at h;exact h),H⟩
  ·have h1:=H.2 j (ready_mono hj hji);obtain ⟨hjun,oj,hoj,hall⟩:=mem_ready.1 hj
   have hnot:∀e∈oj.after,Region.binds md e=true→e.on≠i:=fun e he hb heq=>by
    have h1:=hall e he hb;have h0:=(mem_ready.1 hr).1;rw[heq] at h1;rcases Nat.lt_or_ge i L.size with h' | h'
    ·simp[h'] at h0 h1;rw[h0] at h1;cases h1
    ·simp[Array.getElem?_eq_none h'] at h1
   have h2:=wpOp_putIf hoj (hfree j oj hoj hji hjun hnot) (fun cs b=>hsel i oi cs b hi) (fun cs b=>hsel j oj cs b hoj) hQ hy h1
   have hfree':∀k ok,ops[k]? = some ok→k≠i→(L.setIfInBounds j true).getD k true=false→
     (∀e∈ok.after,Region.binds md e=true→e.on≠i)→oi.apart ops ok=true:=fun k ok hk hki hun hno=>by
    refine hfree k ok hk hki ?_ hno
    by_cases hjk:j=k
    ·subst hjk;exact hjun
    ·rw[getD_set_ne true hjk] at hun;exact hun
   have hl2:((L.setIfInBounds i true).setIfInBounds j true).getD k false=(L.setIfInBounds j true).getD k false:=by
    rw[Array.setIfInBounds_comm _ _ (Ne.symm hji),same]
   refine wpOp_mono (fun a' w' h3=>⟨fun h=>h3.2.1 (by rw[hl2];exact h),ih (L.setIfInBounds j true) a' w' hfree' (ready_mono hr (Ne.symm hji)) h3.1 (fun h=>h3.2.1 (by rw[hl2];exact h)) ?_⟩) h2;rw[Array.setIfInBounds_comm _ _ hji];exact h3.2.2
def Kuf (md:Region.Mode) (ops:Array Oper) (k i:Nat):Bool:=k != i && match ops[k]? with | some ok=>ok.after.any fun e=>Region.binds md e && e.on == i | none=>true
theorem Kbd {i:Nat} {oi:Oper} {v:Value} {f:Nat} {L:Array Bool} {a:Act} {w:World} {d:Option Tmp} (hi:ops[i]? = some oi) (hd:oi.dst=d)
  (hs:Region.noSelect ops=true) (hf:Region.free md ops L i=true) (hr:(Region.ready md ops L).contains i=true) (hkw:Kuf md ops k i=true) (hl:L.getD k false=false)
  (hQ:∀c a w,Q (.panic c) (a.put oi.dst v) w→Q (.panic c) a w) (hy:YieldsIf P ops S oi v a) (hS:S w)
  (h:Kcr P md ops Q S k f (L.setIfInBounds i true) (a.put d v) w):Kcr P md ops Q S k (f+1) L a w:=by
 subst hd;simp only[Kuf,Bool.and_eq_true,bne_iff_ne,ne_eq] at hkw;refine Kui hi (Region.noSelect_spec hs) hQ hkw.1 (fun ok hok=>?_) f L a w (Region.free_spec hi hf) (by simpa using hr) hy hl hS h;have h2:=hkw.2;rw[hok] at h2;obtain ⟨e,he,hb⟩:=Array.any_eq_true'.1 h2;simp only[Bool.and_eq_true,beq_iff_eq] at hb;exact ⟨e,he,hb.1,hb.2⟩
theorem Kaa {i:Nat} {oi:Oper} {v:Value} {f:Nat} {L:Array Bool} {a:Act} {w:World} {d:Option Tmp} (hi:ops[i]? = some oi) (hd:oi.dst=d)
  (hs:Region.noSelect ops=true) (hf:Region.free md ops L i=true) (hr:(Region.ready md ops L).contains i=true) (hki:(k != i)=true)
  (hQ:∀c a w,Q (.panic c) (a.put oi.dst v) w→Q (.panic c) a w) (hw:Region.wanted oi (yielded ops a.tmps)=true) (hy:∀w,(execOp a.eval oi).run P w = .ok (.value v) w) (hS:L.getD k false=false→S w)
  (h:Kcr P md ops Q S k f (L.setIfInBounds i true) (a.put d v) w):Kcr P md ops Q S k (f+1) L a w:=by
 subst hd;exact Krn hi (Region.noSelect_spec hs) hQ (by simpa using hki) f L a w (Region.free_spec hi hf) (by simpa using hr) (.inl ⟨hw,fun w _=>hy w⟩) hS h
@[irreducible] def OpW (o:Oper) (P:Program) (a:Act) (w:World) (K:Act→World→Prop) (Q:Exit→Act→World→Prop):Prop:=o.wp P a w K Q
theorem OpW.of {o:Oper} {P:Program} {a:Act} {w:World} {K:Act→World→Prop} {Q:Exit→Act→World→Prop} (h:o.wp P a w K Q):OpW o P a w K Q:=by
 unfold OpW;exact h
theorem OpW.out {o:Oper} {P:Program} {a:Act} {w:World} {K:Act→World→Prop} {Q:Exit→Act→World→Prop} (h:OpW o P a w K Q):o.wp P a w K Q:=by
 unfold OpW at h;exact h
theorem Kac {i:Nat} {o:Oper} {f:Nat} {L:Array Bool} {a:Act} {w:World} (hr0:(Region.ready md ops L == [i])=true) (ho:ops[i]? = some o) (hg:o.guard=none)
  (h:OpW o P a w (fun a' w'=>((L.setIfInBounds i true).getD k false=false→S w')∧Kcr P md ops Q S k f (L.setIfInBounds i true) a' w') Q):Kcr P md ops Q S k (f+1) L a w:=by
 have hr:Region.ready md ops L = [i]:=eq_of_beq hr0;refine ⟨fun h0=>absurd (hr.symm.trans h0) (by simp),fun j hj=>?_⟩;rw[hr] at hj;obtain rfl:j=i:=by simpa using hj
 unfold wpOp;simp only[ho];rw[if_pos (by simp[Region.wanted,hg])];exact .inl h.out
theorem Kfg {i j:Nat} {o o':Oper} {f:Nat} {L:Array Bool} {a:Act} {w:World} (hr0:(Region.ready md ops L == [i,j])=true) (ho:ops[i]? = some o) (hg:o.guard=none) (ho':ops[j]? = some o') (hg':o'.guard=none)
  (h:OpW o P a w (fun a' w'=>((L.setIfInBounds i true).getD k false=false→S w')∧Kcr P md ops Q S k f (L.setIfInBounds i true) a' w') Q)
  (h':OpW o' P a w (fun a' w'=>((L.setIfInBounds j true).getD k false=false→S w')∧Kcr P md ops Q S k f (L.setIfInBounds j true) a' w') Q):Kcr P md ops Q S k (f+1) L a w:=by
 have hr:Region.ready md ops L = [i,j]:=eq_of_beq hr0;refine ⟨fun h0=>absurd (hr.symm.trans h0) (by simp),fun l hl=>?_⟩;rw[hr] at hl;rcases (by simpa using hl:l=i∨l=j) with rfl | rfl
 ·unfold wpOp;simp only[ho];rw[if_pos (by simp[Region.wanted,hg])];exact .inl h.out
 ·unfold wpOp;simp only[ho'];rw[if_pos (by simp[Region.wanted,hg'])];exact .inl h'.out
theorem Kbh {L:Array Bool} {a:Act} {w:World} (hr:(Region.ready md ops L == [])=true) (h:Q .normal a w):∀f,Kcr P md ops Q S k f L a w
 | 0=>⟨eq_of_beq hr,h⟩
 | _+1=>⟨fun _=>h,by rw[eq_of_beq hr];simp⟩
theorem Kcd {id:Nat} {a:Act} {w:World} (S:World→Prop) (k n:Nat) (hm:P.follows .mixedOrders=true) (hn:ops.size=n)
  (h:Kcr P .any ops Q S k n (Array.replicate n false) a w.drew):(Code.region id ops true).wp P Q a w:=by
 subst hn;exact wp_region_any hm (Kod _ _ _ _ h)
theorem Oper.wp_ran {o:Oper} {a:Act} {w w':World} {v:Value} {d:Option Tmp} {K:Act→World→Prop} (hd:o.dst=d) (h:(execOp a.eval o).run P w = .ok (.value v) w') (hK:K (a.put d v) w'):OpW o P a w K Q:=.of <| by
 subst hd;unfold Oper.wp;rw[h];exact hK
theorem Oper.wp_skipped {o:Oper} {a:Act} {w w':World} {K:Act→World→Prop} (hd:o.dst=none) (h:(execOp a.eval o).run P w = .ok .skip w') (hK:K (a.put none undef) w'):OpW o P a w K Q:=.of <| by
 unfold Oper.wp;rw[h];show K (a.put o.dst undef) w'
 rw[hd];exact hK
theorem Oper.wp_called {o:Oper} {a:Act} {w w1:World} {g:FuncId} {args:Array Value} {d:Option Tmp} {K:Act→World→Prop} (hd:o.dst=d) (h:(execOp a.eval o).run P w = .ok (.enter g args) w1) {N:Value→World→Prop}
  (hc:Calls P g args w1 fun e w'=>∃u,e = .returned u∧N u w') (hK:∀u w',N u w'→K (a.put d u) w'):OpW o P a w K Q:=.of <| by
 subst hd;unfold Oper.wp;rw[h];refine Calls.mono hc ?_;rintro e w' ⟨u,rfl,hn⟩;exact hK u w' hn
end
end
section
open Go.RowKit
attribute [local go_sem ↓] Go.wp_at_zero Go.wp_at_succ
attribute [local go_sem] Later.cell
theorem Qdn {w w':World} {base:Nat} {T:TypeId} {sz n:Nat} {v:Value} {xs:List Value} (h:w.ownsRow base T sz v n xs) (hb:∀g,v.ownBlock=some g→w'.heap[g]? = w.heap[g]?):w'.ownsRow base T sz v n xs:=by
 refine ⟨h.1,?_⟩;rcases h.2 with h2 | ⟨g,cap,cur,rfl,h3,h4,h5⟩
 ·exact .inl h2
 ·exact .inr ⟨g,cap,cur,rfl,h3,(hb g rfl).trans h4,h5⟩
def wndV (w:Wnd):Value:=.agg #[.int .i64 w.start,.int .i64 w.count,.int .u64 (w.sum:Int),.int .u64 (w.min:Int),.int .u64 (w.max:Int),.int .u64 (w.last:Int)]
def Kde (w a:Wnd) (first:Bool):Nat:=
 if w.start < 0∨1125899906842624 < w.start then 91 else if first=false∧w.start≤a.start then 90 else if w.count < 1∨4611686018427387904 < w.count then 110 else 0
theorem Kje (w a:Wnd) (first:Bool):Kde w a first=0↔Kgv w a first=0:=by
 unfold Kde Kgv
 split
 ·simp
 ·split
  ·simp
  ·split <;> simp
theorem Kqx (x a:Wnd) (first:Bool) (w:World) :
  Calls Tryz.prog 155 #[wndV x,wndV a,.bool first] w fun e w'=>e = .returned (.int .i64 (Kde x a first:Nat))∧Below w.heap.size w w':=by
 obtain ⟨r,hr⟩:∃r,Kde x a first=r:=⟨_,rfl⟩
 rw[hr];unfold Kde at hr
 have hb:Below w.heap.size w ((w.alloc (.cells #[.int .i64 x.start,.int .i64 x.count,.int .u64 (x.sum:Int),.int .u64 (x.min:Int),.int .u64 (x.max:Int),.int .u64 (x.last:Int)] 135)).alloc (.cells #[.int .i64 a.start,.int .i64 a.count,.int .u64 (a.sum:Int),.int .u64 (a.min:Int),.int .u64 (a.max:Int),.int .u64 (a.last:Int)] 135)):=
  ((Below.refl _ _).alloc (Nat.le_refl _) _).alloc (by simp) _
 have HB:=Lib.hid hb;unfold wndV
 by_cases b1:x.start < 0
 ·rw[if_pos (.inl b1)] at hr;subst hr;have d1:decide (x.start < 0)=true:=decide_eq_true b1;go_enter Tryz.func155,Tryz.ntmps155
  go_wp2_with fail
  go_ret
  exact ⟨rfl,HB.out⟩
 have d1:decide (x.start < 0)=false:=decide_eq_false b1
 by_cases b2:1125899906842624 < x.start
 ·rw[if_pos (.inr b2)] at hr;subst hr;have d2:decide (1125899906842624 < x.start)=true:=decide_eq_true b2;go_enter Tryz.func155,Tryz.ntmps155
  go_wp2_with fail
  go_ret
  exact ⟨rfl,HB.out⟩
 have d2:decide (1125899906842624 < x.start)=false:=decide_eq_false b2;rw[if_neg (by omega)] at hr
 by_cases b3:first=false∧x.start≤a.start
 ·obtain ⟨rfl,b3⟩:=b3;rw[if_pos ⟨rfl,b3⟩] at hr;subst hr;have d3:decide (x.start≤a.start)=true:=decide_eq_true b3;go_enter Tryz.func155,Tryz.ntmps155
  go_wp2_with fail
  go_ret
  exact ⟨rfl,HB.out⟩
 rw[if_neg b3] at hr;have HF:Hid (first=true∨(first=false∧¬x.start≤a.start)):=Lib.hid (by cases first <;> simp_all);clear b3
 by_cases b4:x.count < 1
 ·rw[if_pos (.inl b4)] at hr;subst hr;have d4:decide (x.count < 1)=true:=decide_eq_true b4;rcases HF.out with rfl | ⟨rfl,b3⟩
  ·go_enter Tryz.func155,Tryz.ntmps155
   go_wp2_with fail
   go_ret
   exact ⟨rfl,HB.out⟩
  ·have d3:decide (x.start≤a.start)=false:=decide_eq_false b3;go_enter Tryz.func155,Tryz.ntmps155
   go_wp2_with fail
   go_ret
   exact ⟨rfl,HB.out⟩
 have d4:decide (x.count < 1)=false:=decide_eq_false b4
 by_cases b5:4611686018427387904 < x.count
 ·rw[if_pos (.inr b5)] at hr;subst hr;have d5:decide (4611686018427387904 < x.count)=true:=decide_eq_true b5;rcases HF.out with rfl | ⟨rfl,b3⟩
  ·go_enter Tryz.func155,Tryz.ntmps155
   go_wp2_with fail
   go_ret
   exact ⟨rfl,HB.out⟩
  ·have d3:decide (x.start≤a.start)=false:=decide_eq_false b3;go_enter Tryz.func155,Tryz.ntmps155
   go_wp2_with fail
   go_ret
   exact ⟨rfl,HB.out⟩
 have d5:decide (4611686018427387904 < x.count)=false:=decide_eq_false b5;rw[if_neg (by omega)] at hr;subst hr;rcases HF.out with rfl | ⟨rfl,b3⟩
 ·go_enter Tryz.func155,Tryz.ntmps155
  go_wp2_with fail
  go_ret
  exact ⟨rfl,HB.out⟩
 ·have d3:decide (x.start≤a.start)=false:=decide_eq_false b3;go_enter Tryz.func155,Tryz.ntmps155
  go_wp2_with fail
  go_ret
  exact ⟨rfl,HB.out⟩
def fldsV (q:Nat):Value:=.agg #[.pointer (some ⟨q,2,none⟩),.pointer (some ⟨q,3,none⟩),.pointer (some ⟨q,4,none⟩),.pointer (some ⟨q,5,none⟩)]
theorem Kjw (q:Nat) (w:World):Calls Tryz.prog 154 #[.pointer (some ⟨q,0,none⟩)] w fun e w'=>e = .returned (fldsV q)∧Below w.heap.size w w':=by
 go_enter Tryz.func154,Tryz.ntmps154
 go_upto_region 1 with fail
 have hb:Below w.heap.size w (w.alloc (.cells #[.pointer none,.pointer none,.pointer none,.pointer none] 246)):=(Below.refl _ _).alloc (Nat.le_refl _) _;have hq:Blk (w.alloc (.cells #[.pointer none,.pointer none,.pointer none,.pointer none] 246)) w.heap.size 246 #[.pointer none,.pointer none,.pointer none,.pointer none]:=Blk.new _ _ _;obtain ⟨w1,hw1⟩:∃w1,w.alloc (.cells #[.pointer none,.pointer none,.pointer none,.pointer none] 246)=w1:=⟨_,rfl⟩;obtain ⟨p,hp⟩:∃p,w.heap.size=p:=⟨_,rfl⟩;rw[hw1,hp] at hb hq;rw[hw1];rw[hp];clear hw1;refine Kaj 13 (by kernel_rfl) (by kernel_rfl) ?_;simp only[List.take_succ_cons,List.take_zero,List.drop_succ_cons,List.drop_zero]
 repeat (go_big_quiet_step (fail))
 refine wpQuiet_nil ?_;rintro w2 ⟨⟨_,hb2⟩,rfl⟩;have hq2:=hq.below hb2 hq.lt;have p0:w2.cell? ⟨p,0,none⟩=some (.pointer none):=hq2.cell 0;have p1:w2.cell? ⟨p,1,none⟩=some (.pointer none):=hq2.cell 1;have p2:w2.cell? ⟨p,2,none⟩=some (.pointer none):=hq2.cell 2;have p3:w2.cell? ⟨p,3,none⟩=some (.pointer none):=hq2.cell 3;have z:=hq2.frozen;have z0:=z 0;have z1:=z 1;have z2:=z 2;have z3:=z 3;clear z;go_wp2_with fail
 have hq3:=(((hq2.set_ 0 (.pointer (some ⟨q,2,none⟩))).set_ 1 (.pointer (some ⟨q,3,none⟩))).set_ 2 (.pointer (some ⟨q,4,none⟩))).set_ 3 (.pointer (some ⟨q,5,none⟩));have hb3:=((((hb.trans (hb2.mono (by have:=hb.size;omega))).setCell (p:=⟨p,0,none⟩) (Nat.le_refl _) (.pointer (some ⟨q,2,none⟩))).setCell (p:=⟨p,1,none⟩) (Nat.le_refl _) (.pointer (some ⟨q,3,none⟩))).setCell (p:=⟨p,2,none⟩) (Nat.le_refl _) (.pointer (some ⟨q,4,none⟩))).setCell (p:=⟨p,3,none⟩) (Nat.le_refl _) (.pointer (some ⟨q,5,none⟩));refine bodyPost_ret (Kjg rfl _ _ ⟨p,0,none⟩ _ rfl (run_loadVar_row _ p 246 246 _ (0,0) _ hq3 Tryz.underlying246 rfl (by kernel_rfl))) rfl ?_;exact ⟨rfl,by rw[hp];exact hb3⟩
end
end Go.Proofs.YtdoiekknhnbepaaGreatDoor
