/- Merged (what the claim wants of): CompactW. -/
import Derived.Test.YtdoiekknhnbepaaGreatDoorCof17
import Derived.Test.YtdoiekknhnbepaaGreatDoorCof18
set_option linter.unusedVariables false
set_option linter.unusedSimpArgs false
set_option maxRecDepth 100000
set_option maxHeartbeats 8000000
namespace Go.Proofs.YtdoiekknhnbepaaGreatDoor
section
open Go.Shelf Go.RowKit Go.Lib Go.Sort
open Lib renaming hid → Jh
open List renaming setIfInBounds_toArray → Ja, set_cons_zero → Jb, set_cons_succ → Jc
attribute [local go_sem ↓] Go.wp_at_zero Go.wp_at_succ
attribute [local go_sem] Later.cell
section
set_option maxHeartbeats 4000000
set_option maxRecDepth 100000
theorem Kgf:(Tryz.prog.info? 26).map (fun i=>(i.zero,i.size,i.bytes))=some (some (.slice none 0 0),1,24):=by kernel_rfl
theorem Kjd (gB:Option Addr) (gN gC:Nat) (ghs:List (Hd4×GoneP)) (A:Option Addr) (n c:Nat) (xs:List CH) (cs:List Cont) (w:World) (h:Kdr w A n xs cs) (hG:Gones w gB gN ghs) (hE:BEnv w)
  (hN:(cs.map Cont.series).flatten.length≤1073741824) (hsum:sumS (cs.map Cont.series).flatten≤1073741824) :
  Calls Tryz.prog 13 #[.slice gB gN gC,.slice A n c] w fun e w'=>
   ((n=0∨okAll cs=false)∧e = .returned (.tuple #[.agg #[.int .i64 0,.int .i64 0,.int .i64 0,.slice none 0 0],.int .i64 190])∨
    (n≠0∧okAll cs=true)∧∃(A':Option Addr) (n' c':Nat),e = .returned (.tuple #[.agg #[.int .i64 (outC cs).1,.int .i64 (outC cs).2.1,.int .i64 (outC cs).2.2,.slice A' n' c'],.int .i64 0])∧Sers w' A' n' (Kbm (outC cs).1 ghs (Kan (cs.map Cont.series).flatten))∧n'≤c')∧Below w.heap.size w w':=by
 obtain ⟨q,hq⟩:∃q,q=w.heap.size:=⟨_,rfl⟩;obtain ⟨r0,hr0⟩:∃r0,r0=(outC cs).1:=⟨_,rfl⟩;have HH:=Jh h;have HG:=Jh hG;have HE:=Jh hE;have HN:=Jh hN;have HSUM:=Jh hsum;have HR0:=Jh hr0;have hn:=h.n;have HQ0:=Jh hq;clear h hG hE hN hsum hr0;go_enter Tryz.func13,Tryz.ntmps13
 go_upto_region 2 with fail
 obtain ⟨wa,hwa⟩:∃x,x=(w.alloc (.cells #[.int .i64 0,.int .i64 0,.int .i64 0,.slice none 0 0] 28)).alloc (.cells #[.int .i64 0,.int .i64 0,.int .i64 0,.slice none 0 0] 28):=⟨_,rfl⟩;have HQ:Hid (Blk wa q 28 #[.int .i64 0,.int .i64 0,.int .i64 0,.slice none 0 0]):=by show Blk _ _ _ _;rw[hwa,hq];exact (Blk.new _ _ _).alloc _
 have HO:Hid (Blk wa (q+1) 28 #[.int .i64 (outC (cs.take 0)).1,.int .i64 (outC (cs.take 0)).2.1,.int .i64 (outC (cs.take 0)).2.2,.slice none 0 0]):=by show Blk _ _ _ _;rw[hwa,hq];exact Blk.newAt (by simp)
 have HB:Hid (Below q w wa):=by show Below _ _ _;rw[hwa,hq];exact ((Below.refl _ _).alloc (Nat.le_refl _) _).alloc (by simp) _
 have HZ:Hid (q+2≤wa.heap.size):=by show _≤_;rw[hwa,hq];simp
 rw[←hwa,←hq];clear hwa hq;go_wp2_with fail
 go_loopg [7,14] n (fun kx s7 s14 wr=>∃i:Nat,s14 = .int .i64 (i:Int)∧i+kx=n∧Hid (Below q w wr)∧Hid (Blk wr q 28 #[.int .i64 0,.int .i64 0,.int .i64 0,.slice none 0 0])∧Hid (Blk wr (q+1) 28 #[.int .i64 (outC (cs.take i)).1,.int .i64 (outC (cs.take i)).2.1,.int .i64 (outC (cs.take i)).2.2,.slice none 0 0])∧Hid (wr.ownsRow (q+2) 26 1 s7 i (((xs.take i).map CH.h).flatMap Kbp))∧Hid (okFor r0 (cs.take i)=true)∧Hid (q+2≤wr.heap.size))
 case atStart=>exact ⟨0,rfl,by omega,HB,HQ,HO,(show Hid _ from World.ownsRow_nil _ _ _ _),(rfl:okFor r0 (cs.take 0)=true),HZ⟩
 case round=>
  clear HB HQ HO HZ;obtain ⟨i,rfl,hi,HB,HQ,HO,HR,HOK,HZ⟩:=hrel;rcases Nat.lt_or_ge i n with hlt | hge
  ·have hlz:(i:Int) < (n:Int):=by omega
   obtain ⟨A7,c7,hv7⟩:=Kar HR.out;subst hv7;have HBw:Hid (Below w.heap.size w wr):=by show Below _ _ _;rw[←HQ0.out];exact HB.out
   have hC:=HH.out.below HBw.out;obtain ⟨b0,off0,hA0,hb0,hc0⟩:=hC.e.2 (by omega);have hl0:=hC.e.len;obtain ⟨x,hx⟩:∃x,xs[i]? = some x:=⟨xs[i]'(by omega),List.getElem?_eq_getElem _⟩;obtain ⟨x0,hx0⟩:∃x,xs[0]? = some x:=⟨xs[0]'(by omega),List.getElem?_eq_getElem _⟩;obtain ⟨k1,k2,k3,k4,k5⟩:=hC.k i x hx;have k10:=(hC.k 0 x0 hx0).1
   have hr0:r0=x0.r:=by
    rw[HR0.out,←k10];have hl:=hC.l
    cases cs with
    | nil=>simp at hl;omega
    | cons y l=>rfl
   obtain ⟨cc,hcc⟩:∃cc,cc=cs[i]!:=⟨_,rfl⟩;rw[←hcc] at k1 k2 k3 k4;have hmem:cc∈cs:=by rw[hcc,getElem!_pos cs i (by rw[hC.l];exact hlt)];exact List.getElem_mem _
   have hcz:=hC.z cc hmem;have htk:cs.take (i+1)=cs.take i ++ [cc]:=by rw[List.take_add_one,List.getElem?_eq_getElem (by rw[hC.l];exact hlt),hcc,getElem!_pos cs i (by rw[hC.l];exact hlt)];rfl
   have htx:(xs.take (i+1)).map CH.h=(xs.take i).map CH.h ++ [x.h]:=by rw[List.take_add_one,hx,List.map_append];rfl
   have hcell:∀r v,r < 4→(encCH x)[r]? = some v→wr.cell? ⟨b0,off0+i*4+r,none⟩=some v:=fun r v _ hv=>hc0 i x hx r v hv
   have hcell0:wr.cell? ⟨b0,off0,none⟩=some (.int .i64 r0):=by
    have:=hc0 0 x0 hx0 0 _ rfl;rw[hr0];simpa using this
   subst hA0;have HTK:=Jh htk;have HTX:=Jh htx;have HMEM:=Jh hmem;have HBE:Hid (BEnv wr):=HE.out.below HBw.out
   have HBUILD:Hid (∀W,Below wr.heap.size wr W→Calls Tryz.prog 19 #[.agg #[.int .i64 x.r,.int .i64 x.f,.int .i64 x.t,.slice x.h.A x.h.n x.h.c]] W fun e w'=>(∃S0 S1 S2,e = .returned (.tuple #[.agg #[.string S0,.string S1,.string S2],.int .i64 (if fitB cc=true then 0 else 190)])∧Built cc S0 S1 S2)∧Below W.heap.size W w'):=fun W hb=>by
    have:=Klu cc x.h.A x.h.n x.h.c W (k4.below hb) hcz (HBE.out.below hb);rw[k1,k2,k3] at this;exact this
   have HX1:Hid (cc.res=x.r∧cc.frm=x.f∧cc.to_=x.t):=⟨k1,k2,k3⟩;obtain ⟨xr,xf,xt,⟨hA,hn_,hc_⟩⟩:=x;dsimp only at HBUILD HX1 HTX;have y0:=hcell 0 (.int .i64 xr) (by decide) rfl;have y1:=hcell 1 (.int .i64 xf) (by decide) rfl;have y2:=hcell 2 (.int .i64 xt) (by decide) rfl;have y3:=hcell 3 (.slice hA hn_ hc_) (by decide) rfl;rw[Nat.add_zero] at y0;clear hC hc0 hl0 hx hx0 k1 k2 k3 k4 k5 k10 hr0 hcc hmem hcz htk htx hcell;go_upto_region 6 with fail
   obtain ⟨wp,hwp⟩:∃x,x=wr.alloc (.cells #[.int .i64 xr,.int .i64 xf,.int .i64 xt,.slice hA hn_ hc_] 28):=⟨_,rfl⟩;obtain ⟨p9,hp9⟩:∃p,p=wr.heap.size:=⟨_,rfl⟩;have hbp:Below wr.heap.size wr wp:=by rw[hwp];exact (Below.refl _ _).alloc (Nat.le_refl _) _
   have HBX:Hid (Blk wp p9 28 #[.int .i64 xr,.int .i64 xf,.int .i64 xt,.slice hA hn_ hc_]):=by show Blk _ _ _ _;rw[hwp,hp9];exact Blk.new _ _ _
   have z0:=HBX.out.cell 0;have z1:=HBX.out.cell 1;have z2:=HBX.out.cell 2;have z3:=HBX.out.cell 3;simp at z0 z1 z2 z3;have zl:=HBX.out.lt;have HBP:=Jh hbp;have HPN:Hid (p9≠q∧p9≠q+1∧q+2≤p9):=by have:=HZ.out;exact ⟨by omega,by omega,by omega⟩
   rw[←hwp,←hp9];clear hwp hp9 hbp y0 y1 y2 y3;go_wp2_with fail
   refine (HBUILD.out _ HBP.out).mono ?_;rintro _ w4 ⟨⟨S0,S1,S2,rfl,hbu⟩,hb4⟩;have hbr4:Below wr.heap.size wr w4:=HBP.out.trans (hb4.mono HBP.out.size);obtain ⟨w5,hw5⟩:∃y,y=w4.alloc (.cells #[.string S0,.string S1,.string S2] 44):=⟨_,rfl⟩;have hb5:Below wr.heap.size wr w5:=by rw[hw5];exact hbr4.alloc hbr4.size _
   have HB5:=Jh hb5
   have HBX5:Hid (Blk w5 p9 28 #[.int .i64 xr,.int .i64 xf,.int .i64 xt,.slice hA hn_ hc_]):=by
    show Blk _ _ _ _
    rw[hw5];exact (HBX.out.below hb4 HBX.out.lt).alloc _
   have HQ5:Hid (Blk w5 q 28 #[.int .i64 0,.int .i64 0,.int .i64 0,.slice none 0 0]):=HQ.out.below hb5 HQ.out.lt;have HO5:Hid (Blk w5 (q+1) 28 #[.int .i64 (outC (cs.take i)).1,.int .i64 (outC (cs.take i)).2.1,.int .i64 (outC (cs.take i)).2.2,.slice none 0 0]):=HO.out.below hb5 HO.out.lt;have HR5:Hid (w5.ownsRow (q+2) 26 1 (.slice A7 i c7) i (((xs.take i).map CH.h).flatMap Kbp)):=Kaq HR.out hb5;have hc5:w5.cell? ⟨b0,off0,none⟩=some (.int .i64 r0):=(hb5.cell (p:=⟨b0,off0,none⟩) hb0).trans hcell0;have hb05:b0 < w5.heap.size:=Nat.lt_of_lt_of_le hb0 hb5.size
   have HQW5:Hid (Below q w w5∧q≤w5.heap.size):=by
    have h1:=HZ.out;have h2:=hb5.size;exact ⟨HB.out.trans (hb5.mono (by omega)),by omega⟩
   clear hb4 hbr4 hb5 hbu HQ HO HR HB HBw HBX HBP HBUILD hcell0 hb0 z0 z1 z2 z3 zl HBE;go_upto_region 7 with fail
   try rw[←hw5]
   clear hw5;obtain ⟨wf,hwf⟩:∃q,q=fitB cc:=⟨_,rfl⟩;rw[←hwf];have HWF:Hid (wf=fitB cc):=hwf;clear hwf
   have HBAD:Hid (wf=false∨xr≠r0→okAll cs=false):=fun hh=>by
    show okAll cs=false
    refine List.all_eq_false.2 ⟨cc,HMEM.out,?_⟩;rcases hh with hh | hh
    ·rw[←HWF.out,hh];simp
    ·rw[HX1.out.1,←HR0.out,decide_eq_false hh];simp
   cases wf with
   | false=>
    have h190:(if false=true then (0:Int) else 190)=190:=rfl;rw[h190];refine Kau (by kernel_rfl) (by kernel_rfl) ?_
    repeat (go_big_quiet_step (fail))
    refine wpQuiet_nil ?_;rintro wz ⟨⟨_,hbz⟩,rfl⟩;have HQZ:=Jh (HQ5.out.below hbz HQ5.out.lt);have HBZW:Hid (Below q w wz):=HQW5.out.1.trans (hbz.mono HQW5.out.2);have HNO:Hid (okAll cs=false):=HBAD.out (.inl rfl);clear hbz;have g0:=HQZ.out.cell 0;have g1:=HQZ.out.cell 1;have g2:=HQZ.out.cell 2;have g3:=HQZ.out.cell 3;simp at g0 g1 g2 g3;have f0:=HQZ.out.frozen 0;have f1:=HQZ.out.frozen 1;have f2:=HQZ.out.frozen 2;have f3:=HQZ.out.frozen 3;have gl:=HQZ.out.lt;go_wp2_with fail
    (try simp only[Exit.inBlock,Exit.then])
    refine bodyPost_ret (Kcp rfl _ _ ⟨q,0,none⟩ (.agg #[.int .i64 0,.int .i64 0,.int .i64 0,.slice none 0 0]) rfl (run_loadVar_row _ q 28 28 _ (0,0) _ ((((HQZ.out.set_ 0 _).set_ 1 _).set_ 2 _).set_ 3 _) Tryz.underlying28 rfl (by kernel_rfl))) rfl ?_;refine ⟨.inl ⟨.inr HNO.out,rfl⟩,?_⟩;rw[←HQ0.out];exact (((HBZW.out.setCell (p:=⟨q,0,none⟩) (Nat.le_refl _) _).setCell (p:=⟨q,1,none⟩) (Nat.le_refl _) _).setCell (p:=⟨q,2,none⟩) (Nat.le_refl _) _).setCell (p:=⟨q,3,none⟩) (Nat.le_refl _) _
   | true=>
    have h0e:(if true=true then (0:Int) else 190)=0:=rfl;rw[h0e];have z0:=HBX5.out.cell 0;simp at z0;have zl:=HBX5.out.lt;rcases Int.decEq xr r0 with hxr | hxr
    ·have d1:(xr != r0)=true:=bne_iff_ne.2 hxr;have d2:(xr == r0)=false:=beq_eq_false_iff_ne.2 hxr;have d3:decide (xr=r0)=false:=decide_eq_false hxr;refine Kau (by kernel_rfl) (by kernel_rfl) ?_
     repeat (go_big_quiet_step (fail))
     refine wpQuiet_nil ?_;rintro wz ⟨⟨_,hbz⟩,rfl⟩;have HQZ:=Jh (HQ5.out.below hbz HQ5.out.lt);have HBZW:Hid (Below q w wz):=HQW5.out.1.trans (hbz.mono HQW5.out.2);have HNO:Hid (okAll cs=false):=HBAD.out (.inr hxr);clear hbz;have g0:=HQZ.out.cell 0;have g1:=HQZ.out.cell 1;have g2:=HQZ.out.cell 2;have g3:=HQZ.out.cell 3;simp at g0 g1 g2 g3;have f0:=HQZ.out.frozen 0;have f1:=HQZ.out.frozen 1;have f2:=HQZ.out.frozen 2;have f3:=HQZ.out.frozen 3;have gl:=HQZ.out.lt;go_wp2_with fail
     (try simp only[Exit.inBlock,Exit.then])
     refine bodyPost_ret (Kcp rfl _ _ ⟨q,0,none⟩ (.agg #[.int .i64 0,.int .i64 0,.int .i64 0,.slice none 0 0]) rfl (run_loadVar_row _ q 28 28 _ (0,0) _ ((((HQZ.out.set_ 0 _).set_ 1 _).set_ 2 _).set_ 3 _) Tryz.underlying28 rfl (by kernel_rfl))) rfl ?_;refine ⟨.inl ⟨.inr HNO.out,rfl⟩,?_⟩;rw[←HQ0.out];exact (((HBZW.out.setCell (p:=⟨q,0,none⟩) (Nat.le_refl _) _).setCell (p:=⟨q,1,none⟩) (Nat.le_refl _) _).setCell (p:=⟨q,2,none⟩) (Nat.le_refl _) _).setCell (p:=⟨q,3,none⟩) (Nat.le_refl _) _
    ·have HOKN:Hid (okFor r0 (cs.take (i+1))=true):=by
      show _=true
      have h1:=HOK.out;unfold okFor at h1 ⊢;rw[HTK.out,List.all_append,h1,List.all_cons,List.all_nil,←HWF.out,HX1.out.1,hxr];simp
     subst hxr;have d1:(xr != xr)=false:=by simp
     refine Kau (by kernel_rfl) (by kernel_rfl) ?_
     repeat (go_big_quiet_step (fail))
     refine wpQuiet_nil ?_;rintro wz ⟨⟨_,hbz⟩,rfl⟩;have HBX6:Hid (Blk wz p9 28 #[.int .i64 xr,.int .i64 xf,.int .i64 xt,.slice hA hn_ hc_]):=HBX5.out.below hbz HBX5.out.lt;have HQ6:=Jh (HQ5.out.below hbz HQ5.out.lt);have HO6:=Jh (HO5.out.below hbz HO5.out.lt);have HR6:Hid (wz.ownsRow (q+2) 26 1 (.slice A7 i c7) i (((xs.take i).map CH.h).flatMap Kbp)):=Kaq HR5.out hbz;have HW6:Hid (Below q w wz∧q+2≤wz.heap.size):=⟨HQW5.out.1.trans (hbz.mono HQW5.out.2),by have h1:=HZ.out;have h2:=HB5.out.size;have h3:=hbz.size;omega⟩;clear hbz HBX5 HQ5 HO5 HR5 HQW5 HB5 HZ hc5 hb05 z0 zl HBAD;rcases Nat.eq_zero_or_pos i with h0 | h0
     ·have di:((i:Int) == 0)=true:=by rw[beq_iff_eq];omega
      have HOUT:Hid (outC (cs.take (i+1))=(xr,min xf xf,max xt xt)):=by
       show _=_
       rw[HTK.out,h0,List.take_zero,List.nil_append];show (cc.res,cc.frm,cc.to_)=_
       rw[HX1.out.1,HX1.out.2.1,HX1.out.2.2];simp
      have e0:=HBX6.out.cell 0;have e1:=HBX6.out.cell 1;have e2:=HBX6.out.cell 2;simp at e0 e1 e2;have el:=HBX6.out.lt;have g0:=HO6.out.cell 0;have g1:=HO6.out.cell 1;have g2:=HO6.out.cell 2;have g3:=HO6.out.cell 3;simp at g0 g1 g2 g3;have f0:=HO6.out.frozen 0;have f1:=HO6.out.frozen 1;have f2:=HO6.out.frozen 2;have f3:=HO6.out.frozen 3;have gl:=HO6.out.lt;go_upto_region 11 with fail
      obtain ⟨wj,hwj⟩:∃x,x=(((wz.setCell ⟨q+1,0,none⟩ (.int .i64 xr)).setCell ⟨q+1,1,none⟩ (.int .i64 xf)).setCell ⟨q+1,2,none⟩ (.int .i64 xt)).setCell ⟨q+1,3,none⟩ (.slice none 0 0):=⟨_,rfl⟩;have hqq:∀o,(⟨q+1,o,none⟩:Addr).block=q+1:=fun _=>rfl
      have HOW:Hid (Blk wj (q+1) 28 #[.int .i64 xr,.int .i64 xf,.int .i64 xt,.slice none 0 0]):=by show Blk _ _ _ _;rw[hwj];exact (((HO6.out.set_ 0 _).set_ 1 _).set_ 2 _).set_ 3 _
      have HBW2:Hid (Blk wj p9 28 #[.int .i64 xr,.int .i64 xf,.int .i64 xt,.slice hA hn_ hc_]):=by show Blk _ _ _ _;rw[hwj];exact (((HBX6.out.far HPN.out.2.1 _).far HPN.out.2.1 _).far HPN.out.2.1 _).far HPN.out.2.1 _
      have HQW2:Hid (Blk wj q 28 #[.int .i64 0,.int .i64 0,.int .i64 0,.slice none 0 0]):=by show Blk _ _ _ _;rw[hwj];exact (((HQ6.out.far (p:=⟨q+1,0,none⟩) (by show q≠q+1;omega) _).far (p:=⟨q+1,1,none⟩) (by show q≠q+1;omega) _).far (p:=⟨q+1,2,none⟩) (by show q≠q+1;omega) _).far (p:=⟨q+1,3,none⟩) (by show q≠q+1;omega) _
      have HRW2:Hid (wj.ownsRow (q+2) 26 1 (.slice A7 i c7) i (((xs.take i).map CH.h).flatMap Kbp)):=by
       show World.ownsRow _ _ _ _ _ _ _
       rw[hwj];exact Kch (Kch (Kch (Kch HR6.out HO6.out (by decide)) (HO6.out.set_ 0 _) (by decide)) ((HO6.out.set_ 0 _).set_ 1 _) (by decide)) (((HO6.out.set_ 0 _).set_ 1 _).set_ 2 _) (by decide)
      have HW2:Hid (Below q w wj∧q+2≤wj.heap.size):=by
       show _∧_
       rw[hwj];exact ⟨(((HW6.out.1.setCell (p:=⟨q+1,0,none⟩) (Nat.le_succ q) _).setCell (p:=⟨q+1,1,none⟩) (Nat.le_succ q) _).setCell (p:=⟨q+1,2,none⟩) (Nat.le_succ q) _).setCell (p:=⟨q+1,3,none⟩) (Nat.le_succ q) _,by simpa[World.setCell] using HW6.out.2⟩
      try rw[←hwj]
      clear hwj e0 e1 e2 el g0 g1 g2 g3 f0 f1 f2 f3 gl HBX6 HQ6 HO6 HR6 HW6 h0 di hqq;obtain ⟨ro,hro⟩:∃x,x=xr:=⟨_,rfl⟩;obtain ⟨fo,hfo⟩:∃x,x=xf:=⟨_,rfl⟩;obtain ⟨to_,hto⟩:∃x,x=xt:=⟨_,rfl⟩;have HOW0:Hid (Blk wj (q+1) 28 #[.int .i64 ro,.int .i64 fo,.int .i64 to_,.slice none 0 0]):=by show Blk _ _ _ _;rw[hro,hfo,hto];exact HOW.out
      have HOUT0:Hid (outC (cs.take (i+1))=(ro,min fo xf,max to_ xt)):=by show _=_;rw[hro,hfo,hto];exact HOUT.out
      clear HOW HOUT hro hfo hto;have HOW:=Jh HOW0.out;have HOUT:=Jh HOUT0.out;clear HOW0 HOUT0;have hoy:Blk wj.drew (q+1) 28 #[.int .i64 ro,.int .i64 fo,.int .i64 to_,.slice none 0 0]:=HOW.out;have HOY:=Jh hoy;have HBY:Hid (Blk wj.drew p9 28 #[.int .i64 xr,.int .i64 xf,.int .i64 xt,.slice hA hn_ hc_]):=HBW2.out;have HQY:Hid (Blk wj.drew q 28 #[.int .i64 0,.int .i64 0,.int .i64 0,.slice none 0 0]):=HQW2.out;have HRY:Hid (wj.drew.ownsRow (q+2) 26 1 (.slice A7 i c7) i (((xs.take i).map CH.h).flatMap Kbp)):=Kaq HRW2.out (Below.refl _ _).drew;have HBWY:Hid (Below q w wj.drew∧q+2≤wj.drew.heap.size):=⟨HW2.out.1.drew,HW2.out.2⟩;have o1:wj.drew.cell? ⟨q+1,1,none⟩=some (.int .i64 fo):=hoy.cell 1;have o2:wj.drew.cell? ⟨q+1,2,none⟩=some (.int .i64 to_):=hoy.cell 2;have b1:wj.drew.cell? ⟨p9,1,none⟩=some (.int .i64 xf):=HBY.out.cell 1;have b2:wj.drew.cell? ⟨p9,2,none⟩=some (.int .i64 xt):=HBY.out.cell 2;have f1:=hoy.frozen 1;have hk1:=hoy.set_ 1 (.int .i64 (min fo xf));have f2:=hk1.frozen 2;have o3:(wj.drew.setCell ⟨q+1,1,none⟩ (.int .i64 (min fo xf))).cell? ⟨q+1,2,none⟩=some (.int .i64 to_):=hk1.cell 2;have b3:(wj.drew.setCell ⟨q+1,1,none⟩ (.int .i64 (min fo xf))).cell? ⟨p9,2,none⟩=some (.int .i64 xt):=(HBY.out.far HPN.out.2.1 _).cell 2;have hS:wj.drew.cell? ⟨q+1,2,none⟩=some (.int .i64 to_)∧wj.drew.cell? ⟨p9,2,none⟩=some (.int .i64 xt):=⟨o2,b2⟩;have hS2:(wj.drew.setCell ⟨q+1,1,none⟩ (.int .i64 (min fo xf))).cell? ⟨q+1,2,none⟩=some (.int .i64 to_)∧(wj.drew.setCell ⟨q+1,1,none⟩ (.int .i64 (min fo xf))).cell? ⟨p9,2,none⟩=some (.int .i64 xt):=⟨o3,b3⟩;clear hoy hk1 HOW HBW2 HQW2 HRW2 HW2;refine Kbx (fun w'=>w'.cell? ⟨q+1,2,none⟩=some (.int .i64 to_)∧w'.cell? ⟨p9,2,none⟩=some (.int .i64 xt)) 13 14 (by kernel_rfl) rfl ?_;rw[show Array.replicate 14 false = #[false,false,false,false,false,false,false,false,false,false,false,false,false,false] from rfl];obtain ⟨wy,hwy⟩:∃x,x=wj.drew:=⟨_,rfl⟩;rw[←hwy] at HOY HBY HQY HRY HBWY o1 o2 o3 b1 b2 b3 f1 f2 hS hS2 ⊢;clear hwy;refine Kaa (i:=0) (d:=some 45) rfl rfl (by kernel_rfl) (by kernel_rfl) (by kernel_rfl) rfl (fun _ _ _ h=>h) (by rfl) (fun w=>by go_simp;try rfl) (fun _=>hS) ?_;simp only[Act.put,Ja,Jb,Jc];refine Kaa (i:=2) (d:=some 47) rfl rfl (by kernel_rfl) (by kernel_rfl) (by kernel_rfl) rfl (fun _ _ _ h=>h) (by rfl) (fun w=>by go_simp;try rfl) (fun _=>hS) ?_;simp only[Act.put,Ja,Jb,Jc];refine Kaa (i:=5) (d:=some 50) rfl rfl (by kernel_rfl) (by kernel_rfl) (by kernel_rfl) rfl (fun _ _ _ h=>h) (by rfl) (fun w=>by go_simp;try rfl) (fun _=>hS) ?_;simp only[Act.put,Ja,Jb,Jc];refine Kaa (i:=7) (d:=some 52) rfl rfl (by kernel_rfl) (by kernel_rfl) (by kernel_rfl) rfl (fun _ _ _ h=>h) (by rfl) (fun w=>by go_simp;try rfl) (fun _=>hS) ?_;simp only[Act.put,Ja,Jb,Jc];refine Kaz (i:=6) (d:=some 51) rfl rfl (by kernel_rfl) (by kernel_rfl) (by kernel_rfl) (by kernel_rfl) rfl (fun _ _ _ h=>h) (.inl ⟨by rfl,fun w hw=>by (obtain ⟨ha,hb⟩:=hw;go_simp;try rfl)⟩) hS ?_;simp only[Act.put,Ja,Jb,Jc];refine Kaz (i:=8) (d:=some 53) rfl rfl (by kernel_rfl) (by kernel_rfl) (by kernel_rfl) (by kernel_rfl) rfl (fun _ _ _ h=>h) (.inl ⟨by rfl,fun w hw=>by (obtain ⟨ha,hb⟩:=hw;go_simp;try rfl)⟩) hS ?_;simp only[Act.put,Ja,Jb,Jc]
      refine Kaa (i:=9) (d:=some 54) rfl rfl (by kernel_rfl) (by kernel_rfl) (by kernel_rfl) rfl (fun _ _ _ h=>h) (by rfl) (fun w=>by go_simp;try rfl) (fun _=>hS) ?_;simp only[Act.put,Ja,Jb,Jc];refine Kfd (i:=1) (j:=3) (by kernel_rfl) rfl rfl rfl rfl ?_ ?_
      ·refine Oper.wp_ran (d:=some 46) (w':=wy) (v:=.int .i64 fo) rfl (by go_simp;try rfl) ?_;refine ⟨fun _=>hS,?_⟩;simp only[Act.put,Ja,Jb,Jc];refine Kac (i:=3) (by kernel_rfl) rfl rfl ?_;refine Oper.wp_ran (d:=some 48) (w':=wy) (v:=.int .i64 xf) rfl (by go_simp;try rfl) ?_;refine ⟨fun _=>hS,?_⟩;simp only[Act.put,Ja,Jb,Jc];refine Kaa (i:=4) (d:=some 49) rfl rfl (by kernel_rfl) (by kernel_rfl) (by kernel_rfl) rfl (fun _ _ _ h=>h) (by rfl) (fun w=>by go_simp;try rfl) (fun _=>hS) ?_;simp only[Act.put,Ja,Jb,Jc];refine Kaa (i:=10) (d:=some 55) rfl rfl (by kernel_rfl) (by kernel_rfl) (by kernel_rfl) rfl (fun _ _ _ h=>h) (by rfl) (fun w=>by go_simp;try rfl) (fun _=>hS) ?_;simp only[Act.put,Ja,Jb,Jc];refine Kac (i:=11) (by kernel_rfl) rfl rfl ?_;refine Oper.wp_skipped (w':=wy.setCell ⟨q+1,1,none⟩ (.int .i64 (min fo xf))) rfl (by go_simp;try rfl) ?_;refine ⟨fun _=>hS2,?_⟩;simp only[Act.put,Ja,Jb,Jc];refine Kaa (i:=12) (d:=some 56) rfl rfl (by kernel_rfl) (by kernel_rfl) (by kernel_rfl) rfl (fun _ _ _ h=>h) (by rfl) (fun w=>by go_simp;try rfl) (fun _=>hS2) ?_;simp only[Act.put,Ja,Jb,Jc];refine Kac (i:=13) (by kernel_rfl) rfl rfl ?_;refine Oper.wp_skipped (w':=(wy.setCell ⟨q+1,1,none⟩ (.int .i64 (min fo xf))).setCell ⟨q+1,2,none⟩ (.int .i64 (max to_ xt))) rfl (by go_simp;try rfl) ?_;refine ⟨fun h=>absurd h (by decide),?_⟩;refine Kbd (by kernel_rfl) ?_ _;obtain ⟨wv,hwv⟩:∃x,x=(wy.setCell ⟨q+1,1,none⟩ (.int .i64 (min fo xf))).setCell ⟨q+1,2,none⟩ (.int .i64 (max to_ xt)):=⟨_,rfl⟩;have HOV:Hid (Blk wv (q+1) 28 #[.int .i64 ro,.int .i64 (min fo xf),.int .i64 (max to_ xt),.slice none 0 0]):=by show Blk _ _ _ _;rw[hwv];exact (HOY.out.set_ 1 _).set_ 2 _
       have HBV:Hid (Blk wv p9 28 #[.int .i64 xr,.int .i64 xf,.int .i64 xt,.slice hA hn_ hc_]):=by show Blk _ _ _ _;rw[hwv];exact (HBY.out.far HPN.out.2.1 _).far HPN.out.2.1 _
       have HQV:Hid (Blk wv q 28 #[.int .i64 0,.int .i64 0,.int .i64 0,.slice none 0 0]):=by show Blk _ _ _ _;rw[hwv];exact (HQY.out.far (p:=⟨q+1,1,none⟩) (by show q≠q+1;omega) _).far (p:=⟨q+1,2,none⟩) (by show q≠q+1;omega) _
       have HRV:Hid (wv.ownsRow (q+2) 26 1 (.slice A7 i c7) i (((xs.take i).map CH.h).flatMap Kbp)):=by
        show World.ownsRow _ _ _ _ _ _ _
        rw[hwv];exact Kch (Kch HRY.out HOY.out (by decide)) (HOY.out.set_ 1 _) (by decide)
       have HWV:Hid (Below q w wv∧q+2≤wv.heap.size):=by
        show _∧_
        rw[hwv];exact ⟨(HBWY.out.1.setCell (p:=⟨q+1,1,none⟩) (Nat.le_succ q) _).setCell (p:=⟨q+1,2,none⟩) (Nat.le_succ q) _,by simpa[World.setCell] using HBWY.out.2⟩
       rw[←hwv];clear hwv HOY HBY HQY HRY HBWY hS hS2 o1 o2 o3 b1 b2 b3 f1 f2;have b3:=HBV.out.cell 3;simp at b3;have bl:=HBV.out.lt;obtain ⟨i1,hi1,hz0,hz1,hz2⟩:=info_parts Kgf;obtain ⟨w6,hw6⟩:∃y,y=wv.alloc (.cells #[.slice hA hn_ hc_] 26):=⟨_,rfl⟩;have hb6:Below wv.heap.size wv w6:=by rw[hw6];exact (Below.refl _ _).alloc (Nat.le_refl _) _
       have hnew6:Blk w6 wv.heap.size 26 #[.slice hA hn_ hc_]:=by rw[hw6];exact Blk.new _ _ _
       have hrow6:w6.ownsRow (q+2) 26 1 (.slice A7 i c7) i (((xs.take i).map CH.h).flatMap Kbp):=Kaq HRV.out hb6;have HROW6:=Jh hrow6;have HB6:=Jh hb6;have hz6:q+2≤w6.heap.size:=Nat.le_trans HWV.out.2 hb6.size;clear hb6;go_wp2_with (at_builtin;(try rw[←hw6]);refine wpList_append_own_at _ rfl _ _ 80 rfl (q+2) 26 i1 (.slice none 0 0) 1 24 Tryz.underlying80 hi1 hz0 hz1 hz2 rfl (by decide) (.slice A7 i c7) i _ rfl hrow6 ⟨wv.heap.size,0,none⟩ 1 1 [.slice hA hn_ hc_] rfl rfl (Kbg (l:=[.slice hA hn_ hc_]) hnew6) ?p2 ?p3 ?p4 ?p5 ?_)
       case p2=>rfl
       case p3=>unfold maxLen;omega
       case p4=>omega
       case p5=>have:=HWV.out.2;omega
       intro v9 w9 hown' hgrow _ _;rw[←hw6] at hgrow;have hlow:∀k,(Value.slice A7 i c7).ownBlock=some k→q+2≤k:=fun k hk=>(HROW6.out.lt k hk).1
       have HBN:Hid (Below q w w9):=(HWV.out.1.trans (HB6.out.mono (by have:=HWV.out.2;omega))).grown hgrow (by omega) (fun k hk=>by have:=hlow k hk;omega);have HQN:Hid (Blk w9 q 28 #[.int .i64 0,.int .i64 0,.int .i64 0,.slice none 0 0]):=(HQV.out.below HB6.out HQV.out.lt).grown hgrow (Kag (HQV.out.below HB6.out HQV.out.lt) HROW6.out (by decide))
       have HON:Hid (Blk w9 (q+1) 28 #[.int .i64 (outC (cs.take (i+1))).1,.int .i64 (outC (cs.take (i+1))).2.1,.int .i64 (outC (cs.take (i+1))).2.2,.slice none 0 0]):=by
        show Blk _ _ _ _
        rw[HOUT.out];exact (HOV.out.below HB6.out HOV.out.lt).grown hgrow (Kag (HOV.out.below HB6.out HOV.out.lt) HROW6.out (by decide))
       have HRN:Hid (w9.ownsRow (q+2) 26 1 v9 (i+1) (((xs.take (i+1)).map CH.h).flatMap Kbp)):=by
        show World.ownsRow _ _ _ _ _ _ _
        rw[HTX.out,List.flatMap_append,List.flatMap_singleton,List.map_take];exact hown'
       have HZN:Hid (q+2≤w9.heap.size):=Nat.le_trans hz6 hgrow.size;clear hown' hgrow hlow hrow6 hnew6 HROW6 HB6 hw6 hz6 HOV HBV HQV HRV HWV b3 bl hi1 hz0 hz1 hz2 HOUT;go_wp2_with fail
       go_roundg (n - (i+1))
       case measure=>omega
       case rel=>exact ⟨i+1,by first | rfl | go_num,by omega,HBN,HQN,HON,HRN,HOKN,HZN⟩
      ·refine Oper.wp_ran (d:=some 48) (w':=wy) (v:=.int .i64 xf) rfl (by go_simp;try rfl) ?_;refine ⟨fun _=>hS,?_⟩;simp only[Act.put,Ja,Jb,Jc];refine Kac (i:=1) (by kernel_rfl) rfl rfl ?_;refine Oper.wp_ran (d:=some 46) (w':=wy) (v:=.int .i64 fo) rfl (by go_simp;try rfl) ?_;refine ⟨fun _=>hS,?_⟩;simp only[Act.put,Ja,Jb,Jc];refine Kaa (i:=4) (d:=some 49) rfl rfl (by kernel_rfl) (by kernel_rfl) (by kernel_rfl) rfl (fun _ _ _ h=>h) (by rfl) (fun w=>by go_simp;try rfl) (fun _=>hS) ?_;simp only[Act.put,Ja,Jb,Jc];refine Kaa (i:=10) (d:=some 55) rfl rfl (by kernel_rfl) (by kernel_rfl) (by kernel_rfl) rfl (fun _ _ _ h=>h) (by rfl) (fun w=>by go_simp;try rfl) (fun _=>hS) ?_;simp only[Act.put,Ja,Jb,Jc];refine Kac (i:=11) (by kernel_rfl) rfl rfl ?_;refine Oper.wp_skipped (w':=wy.setCell ⟨q+1,1,none⟩ (.int .i64 (min fo xf))) rfl (by go_simp;try rfl) ?_;refine ⟨fun _=>hS2,?_⟩;simp only[Act.put,Ja,Jb,Jc];refine Kaa (i:=12) (d:=some 56) rfl rfl (by kernel_rfl) (by kernel_rfl) (by kernel_rfl) rfl (fun _ _ _ h=>h) (by rfl) (fun w=>by go_simp;try rfl) (fun _=>hS2) ?_;simp only[Act.put,Ja,Jb,Jc];refine Kac (i:=13) (by kernel_rfl) rfl rfl ?_;refine Oper.wp_skipped (w':=(wy.setCell ⟨q+1,1,none⟩ (.int .i64 (min fo xf))).setCell ⟨q+1,2,none⟩ (.int .i64 (max to_ xt))) rfl (by go_simp;try rfl) ?_;refine ⟨fun h=>absurd h (by decide),?_⟩;refine Kbd (by kernel_rfl) ?_ _;obtain ⟨wv,hwv⟩:∃x,x=(wy.setCell ⟨q+1,1,none⟩ (.int .i64 (min fo xf))).setCell ⟨q+1,2,none⟩ (.int .i64 (max to_ xt)):=⟨_,rfl⟩;have HOV:Hid (Blk wv (q+1) 28 #[.int .i64 ro,.int .i64 (min fo xf),.int .i64 (max to_ xt),.slice none 0 0]):=by show Blk _ _ _ _;rw[hwv];exact (HOY.out.set_ 1 _).set_ 2 _
       have HBV:Hid (Blk wv p9 28 #[.int .i64 xr,.int .i64 xf,.int .i64 xt,.slice hA hn_ hc_]):=by show Blk _ _ _ _;rw[hwv];exact (HBY.out.far HPN.out.2.1 _).far HPN.out.2.1 _
       have HQV:Hid (Blk wv q 28 #[.int .i64 0,.int .i64 0,.int .i64 0,.slice none 0 0]):=by show Blk _ _ _ _;rw[hwv];exact (HQY.out.far (p:=⟨q+1,1,none⟩) (by show q≠q+1;omega) _).far (p:=⟨q+1,2,none⟩) (by show q≠q+1;omega) _
       have HRV:Hid (wv.ownsRow (q+2) 26 1 (.slice A7 i c7) i (((xs.take i).map CH.h).flatMap Kbp)):=by
        show World.ownsRow _ _ _ _ _ _ _
        rw[hwv];exact Kch (Kch HRY.out HOY.out (by decide)) (HOY.out.set_ 1 _) (by decide)
       have HWV:Hid (Below q w wv∧q+2≤wv.heap.size):=by
        show _∧_
        rw[hwv];exact ⟨(HBWY.out.1.setCell (p:=⟨q+1,1,none⟩) (Nat.le_succ q) _).setCell (p:=⟨q+1,2,none⟩) (Nat.le_succ q) _,by simpa[World.setCell] using HBWY.out.2⟩
       rw[←hwv];clear hwv HOY HBY HQY HRY HBWY hS hS2 o1 o2 o3 b1 b2 b3 f1 f2;have b3:=HBV.out.cell 3;simp at b3;have bl:=HBV.out.lt;obtain ⟨i1,hi1,hz0,hz1,hz2⟩:=info_parts Kgf;obtain ⟨w6,hw6⟩:∃y,y=wv.alloc (.cells #[.slice hA hn_ hc_] 26):=⟨_,rfl⟩;have hb6:Below wv.heap.size wv w6:=by rw[hw6];exact (Below.refl _ _).alloc (Nat.le_refl _) _
       have hnew6:Blk w6 wv.heap.size 26 #[.slice hA hn_ hc_]:=by rw[hw6];exact Blk.new _ _ _
       have hrow6:w6.ownsRow (q+2) 26 1 (.slice A7 i c7) i (((xs.take i).map CH.h).flatMap Kbp):=Kaq HRV.out hb6;have HROW6:=Jh hrow6;have HB6:=Jh hb6;have hz6:q+2≤w6.heap.size:=Nat.le_trans HWV.out.2 hb6.size;clear hb6;go_wp2_with (at_builtin;(try rw[←hw6]);refine wpList_append_own_at _ rfl _ _ 80 rfl (q+2) 26 i1 (.slice none 0 0) 1 24 Tryz.underlying80 hi1 hz0 hz1 hz2 rfl (by decide) (.slice A7 i c7) i _ rfl hrow6 ⟨wv.heap.size,0,none⟩ 1 1 [.slice hA hn_ hc_] rfl rfl (Kbg (l:=[.slice hA hn_ hc_]) hnew6) ?p2 ?p3 ?p4 ?p5 ?_)
       case p2=>rfl
       case p3=>unfold maxLen;omega
       case p4=>omega
       case p5=>have:=HWV.out.2;omega
       intro v9 w9 hown' hgrow _ _;rw[←hw6] at hgrow;have hlow:∀k,(Value.slice A7 i c7).ownBlock=some k→q+2≤k:=fun k hk=>(HROW6.out.lt k hk).1
       have HBN:Hid (Below q w w9):=(HWV.out.1.trans (HB6.out.mono (by have:=HWV.out.2;omega))).grown hgrow (by omega) (fun k hk=>by have:=hlow k hk;omega);have HQN:Hid (Blk w9 q 28 #[.int .i64 0,.int .i64 0,.int .i64 0,.slice none 0 0]):=(HQV.out.below HB6.out HQV.out.lt).grown hgrow (Kag (HQV.out.below HB6.out HQV.out.lt) HROW6.out (by decide))
       have HON:Hid (Blk w9 (q+1) 28 #[.int .i64 (outC (cs.take (i+1))).1,.int .i64 (outC (cs.take (i+1))).2.1,.int .i64 (outC (cs.take (i+1))).2.2,.slice none 0 0]):=by
        show Blk _ _ _ _
        rw[HOUT.out];exact (HOV.out.below HB6.out HOV.out.lt).grown hgrow (Kag (HOV.out.below HB6.out HOV.out.lt) HROW6.out (by decide))
       have HRN:Hid (w9.ownsRow (q+2) 26 1 v9 (i+1) (((xs.take (i+1)).map CH.h).flatMap Kbp)):=by
        show World.ownsRow _ _ _ _ _ _ _
        rw[HTX.out,List.flatMap_append,List.flatMap_singleton,List.map_take];exact hown'
       have HZN:Hid (q+2≤w9.heap.size):=Nat.le_trans hz6 hgrow.size;clear hown' hgrow hlow hrow6 hnew6 HROW6 HB6 hw6 hz6 HOV HBV HQV HRV HWV b3 bl hi1 hz0 hz1 hz2 HOUT;go_wp2_with fail
       go_roundg (n - (i+1))
       case measure=>omega
       case rel=>exact ⟨i+1,by first | rfl | go_num,by omega,HBN,HQN,HON,HRN,HOKN,HZN⟩
     ·have di:((i:Int) == 0)=false:=beq_eq_false_iff_ne.2 (by omega);have di2:¬(i:Int)=0:=by omega
      obtain ⟨ro,hro⟩:∃x,x=(outC (cs.take i)).1:=⟨_,rfl⟩;obtain ⟨fo,hfo⟩:∃x,x=(outC (cs.take i)).2.1:=⟨_,rfl⟩;obtain ⟨to_,hto⟩:∃x,x=(outC (cs.take i)).2.2:=⟨_,rfl⟩
      have HOUT:Hid (outC (cs.take (i+1))=(ro,min fo xf,max to_ xt)):=by
       show _=_
       rw[HTK.out,Qao _ _ (fun e=>by
        have h1:=congrArg List.length e;rw[List.length_take,HH.out.l] at h1;simp at h1
        omega),HX1.out.2.1,HX1.out.2.2,hro,hfo,hto]
      have HOW:Hid (Blk wz (q+1) 28 #[.int .i64 ro,.int .i64 fo,.int .i64 to_,.slice none 0 0]):=by show Blk _ _ _ _;rw[hro,hfo,hto];exact HO6.out
      have HBW2:=Jh HBX6.out;have HQW2:=Jh HQ6.out;have HRW2:=Jh HR6.out;have HW2:=Jh HW6.out;clear hro hfo hto HBX6 HQ6 HO6 HR6 HW6;go_upto_region 11 with fail
      clear h0 di di2;have hoy:Blk wz.drew (q+1) 28 #[.int .i64 ro,.int .i64 fo,.int .i64 to_,.slice none 0 0]:=HOW.out;have HOY:=Jh hoy;have HBY:Hid (Blk wz.drew p9 28 #[.int .i64 xr,.int .i64 xf,.int .i64 xt,.slice hA hn_ hc_]):=HBW2.out;have HQY:Hid (Blk wz.drew q 28 #[.int .i64 0,.int .i64 0,.int .i64 0,.slice none 0 0]):=HQW2.out;have HRY:Hid (wz.drew.ownsRow (q+2) 26 1 (.slice A7 i c7) i (((xs.take i).map CH.h).flatMap Kbp)):=Kaq HRW2.out (Below.refl _ _).drew;have HBWY:Hid (Below q w wz.drew∧q+2≤wz.drew.heap.size):=⟨HW2.out.1.drew,HW2.out.2⟩;have o1:wz.drew.cell? ⟨q+1,1,none⟩=some (.int .i64 fo):=hoy.cell 1;have o2:wz.drew.cell? ⟨q+1,2,none⟩=some (.int .i64 to_):=hoy.cell 2;have b1:wz.drew.cell? ⟨p9,1,none⟩=some (.int .i64 xf):=HBY.out.cell 1;have b2:wz.drew.cell? ⟨p9,2,none⟩=some (.int .i64 xt):=HBY.out.cell 2;have f1:=hoy.frozen 1;have hk1:=hoy.set_ 1 (.int .i64 (min fo xf));have f2:=hk1.frozen 2;have o3:(wz.drew.setCell ⟨q+1,1,none⟩ (.int .i64 (min fo xf))).cell? ⟨q+1,2,none⟩=some (.int .i64 to_):=hk1.cell 2;have b3:(wz.drew.setCell ⟨q+1,1,none⟩ (.int .i64 (min fo xf))).cell? ⟨p9,2,none⟩=some (.int .i64 xt):=(HBY.out.far HPN.out.2.1 _).cell 2;have hS:wz.drew.cell? ⟨q+1,2,none⟩=some (.int .i64 to_)∧wz.drew.cell? ⟨p9,2,none⟩=some (.int .i64 xt):=⟨o2,b2⟩;have hS2:(wz.drew.setCell ⟨q+1,1,none⟩ (.int .i64 (min fo xf))).cell? ⟨q+1,2,none⟩=some (.int .i64 to_)∧(wz.drew.setCell ⟨q+1,1,none⟩ (.int .i64 (min fo xf))).cell? ⟨p9,2,none⟩=some (.int .i64 xt):=⟨o3,b3⟩;clear hoy hk1 HOW HBW2 HQW2 HRW2 HW2;refine Kbx (fun w'=>w'.cell? ⟨q+1,2,none⟩=some (.int .i64 to_)∧w'.cell? ⟨p9,2,none⟩=some (.int .i64 xt)) 13 14 (by kernel_rfl) rfl ?_;rw[show Array.replicate 14 false = #[false,false,false,false,false,false,false,false,false,false,false,false,false,false] from rfl];obtain ⟨wy,hwy⟩:∃x,x=wz.drew:=⟨_,rfl⟩;rw[←hwy] at HOY HBY HQY HRY HBWY o1 o2 o3 b1 b2 b3 f1 f2 hS hS2 ⊢;clear hwy;refine Kaa (i:=0) (d:=some 45) rfl rfl (by kernel_rfl) (by kernel_rfl) (by kernel_rfl) rfl (fun _ _ _ h=>h) (by rfl) (fun w=>by go_simp;try rfl) (fun _=>hS) ?_;simp only[Act.put,Ja,Jb,Jc];refine Kaa (i:=2) (d:=some 47) rfl rfl (by kernel_rfl) (by kernel_rfl) (by kernel_rfl) rfl (fun _ _ _ h=>h) (by rfl) (fun w=>by go_simp;try rfl) (fun _=>hS) ?_;simp only[Act.put,Ja,Jb,Jc];refine Kaa (i:=5) (d:=some 50) rfl rfl (by kernel_rfl) (by kernel_rfl) (by kernel_rfl) rfl (fun _ _ _ h=>h) (by rfl) (fun w=>by go_simp;try rfl) (fun _=>hS) ?_;simp only[Act.put,Ja,Jb,Jc];refine Kaa (i:=7) (d:=some 52) rfl rfl (by kernel_rfl) (by kernel_rfl) (by kernel_rfl) rfl (fun _ _ _ h=>h) (by rfl) (fun w=>by go_simp;try rfl) (fun _=>hS) ?_;simp only[Act.put,Ja,Jb,Jc];refine Kaz (i:=6) (d:=some 51) rfl rfl (by kernel_rfl) (by kernel_rfl) (by kernel_rfl) (by kernel_rfl) rfl (fun _ _ _ h=>h) (.inl ⟨by rfl,fun w hw=>by (obtain ⟨ha,hb⟩:=hw;go_simp;try rfl)⟩) hS ?_;simp only[Act.put,Ja,Jb,Jc];refine Kaz (i:=8) (d:=some 53) rfl rfl (by kernel_rfl) (by kernel_rfl) (by kernel_rfl) (by kernel_rfl) rfl (fun _ _ _ h=>h) (.inl ⟨by rfl,fun w hw=>by (obtain ⟨ha,hb⟩:=hw;go_simp;try rfl)⟩) hS ?_;simp only[Act.put,Ja,Jb,Jc];refine Kaa (i:=9) (d:=some 54) rfl rfl (by kernel_rfl) (by kernel_rfl) (by kernel_rfl) rfl (fun _ _ _ h=>h) (by rfl) (fun w=>by go_simp;try rfl) (fun _=>hS) ?_
      simp only[Act.put,Ja,Jb,Jc];refine Kfd (i:=1) (j:=3) (by kernel_rfl) rfl rfl rfl rfl ?_ ?_
      ·refine Oper.wp_ran (d:=some 46) (w':=wy) (v:=.int .i64 fo) rfl (by go_simp;try rfl) ?_;refine ⟨fun _=>hS,?_⟩;simp only[Act.put,Ja,Jb,Jc];refine Kac (i:=3) (by kernel_rfl) rfl rfl ?_;refine Oper.wp_ran (d:=some 48) (w':=wy) (v:=.int .i64 xf) rfl (by go_simp;try rfl) ?_;refine ⟨fun _=>hS,?_⟩;simp only[Act.put,Ja,Jb,Jc];refine Kaa (i:=4) (d:=some 49) rfl rfl (by kernel_rfl) (by kernel_rfl) (by kernel_rfl) rfl (fun _ _ _ h=>h) (by rfl) (fun w=>by go_simp;try rfl) (fun _=>hS) ?_;simp only[Act.put,Ja,Jb,Jc];refine Kaa (i:=10) (d:=some 55) rfl rfl (by kernel_rfl) (by kernel_rfl) (by kernel_rfl) rfl (fun _ _ _ h=>h) (by rfl) (fun w=>by go_simp;try rfl) (fun _=>hS) ?_;simp only[Act.put,Ja,Jb,Jc];refine Kac (i:=11) (by kernel_rfl) rfl rfl ?_;refine Oper.wp_skipped (w':=wy.setCell ⟨q+1,1,none⟩ (.int .i64 (min fo xf))) rfl (by go_simp;try rfl) ?_;refine ⟨fun _=>hS2,?_⟩;simp only[Act.put,Ja,Jb,Jc];refine Kaa (i:=12) (d:=some 56) rfl rfl (by kernel_rfl) (by kernel_rfl) (by kernel_rfl) rfl (fun _ _ _ h=>h) (by rfl) (fun w=>by go_simp;try rfl) (fun _=>hS2) ?_;simp only[Act.put,Ja,Jb,Jc];refine Kac (i:=13) (by kernel_rfl) rfl rfl ?_;refine Oper.wp_skipped (w':=(wy.setCell ⟨q+1,1,none⟩ (.int .i64 (min fo xf))).setCell ⟨q+1,2,none⟩ (.int .i64 (max to_ xt))) rfl (by go_simp;try rfl) ?_;refine ⟨fun h=>absurd h (by decide),?_⟩;refine Kbd (by kernel_rfl) ?_ _;obtain ⟨wv,hwv⟩:∃x,x=(wy.setCell ⟨q+1,1,none⟩ (.int .i64 (min fo xf))).setCell ⟨q+1,2,none⟩ (.int .i64 (max to_ xt)):=⟨_,rfl⟩;have HOV:Hid (Blk wv (q+1) 28 #[.int .i64 ro,.int .i64 (min fo xf),.int .i64 (max to_ xt),.slice none 0 0]):=by show Blk _ _ _ _;rw[hwv];exact (HOY.out.set_ 1 _).set_ 2 _
       have HBV:Hid (Blk wv p9 28 #[.int .i64 xr,.int .i64 xf,.int .i64 xt,.slice hA hn_ hc_]):=by show Blk _ _ _ _;rw[hwv];exact (HBY.out.far HPN.out.2.1 _).far HPN.out.2.1 _
       have HQV:Hid (Blk wv q 28 #[.int .i64 0,.int .i64 0,.int .i64 0,.slice none 0 0]):=by show Blk _ _ _ _;rw[hwv];exact (HQY.out.far (p:=⟨q+1,1,none⟩) (by show q≠q+1;omega) _).far (p:=⟨q+1,2,none⟩) (by show q≠q+1;omega) _
       have HRV:Hid (wv.ownsRow (q+2) 26 1 (.slice A7 i c7) i (((xs.take i).map CH.h).flatMap Kbp)):=by
        show World.ownsRow _ _ _ _ _ _ _
        rw[hwv];exact Kch (Kch HRY.out HOY.out (by decide)) (HOY.out.set_ 1 _) (by decide)
       have HWV:Hid (Below q w wv∧q+2≤wv.heap.size):=by
        show _∧_
        rw[hwv];exact ⟨(HBWY.out.1.setCell (p:=⟨q+1,1,none⟩) (Nat.le_succ q) _).setCell (p:=⟨q+1,2,none⟩) (Nat.le_succ q) _,by simpa[World.setCell] using HBWY.out.2⟩
       rw[←hwv];clear hwv HOY HBY HQY HRY HBWY hS hS2 o1 o2 o3 b1 b2 b3 f1 f2;have b3:=HBV.out.cell 3;simp at b3;have bl:=HBV.out.lt;obtain ⟨i1,hi1,hz0,hz1,hz2⟩:=info_parts Kgf;obtain ⟨w6,hw6⟩:∃y,y=wv.alloc (.cells #[.slice hA hn_ hc_] 26):=⟨_,rfl⟩;have hb6:Below wv.heap.size wv w6:=by rw[hw6];exact (Below.refl _ _).alloc (Nat.le_refl _) _
       have hnew6:Blk w6 wv.heap.size 26 #[.slice hA hn_ hc_]:=by rw[hw6];exact Blk.new _ _ _
       have hrow6:w6.ownsRow (q+2) 26 1 (.slice A7 i c7) i (((xs.take i).map CH.h).flatMap Kbp):=Kaq HRV.out hb6;have HROW6:=Jh hrow6;have HB6:=Jh hb6;have hz6:q+2≤w6.heap.size:=Nat.le_trans HWV.out.2 hb6.size;clear hb6;go_wp2_with (at_builtin;(try rw[←hw6]);refine wpList_append_own_at _ rfl _ _ 80 rfl (q+2) 26 i1 (.slice none 0 0) 1 24 Tryz.underlying80 hi1 hz0 hz1 hz2 rfl (by decide) (.slice A7 i c7) i _ rfl hrow6 ⟨wv.heap.size,0,none⟩ 1 1 [.slice hA hn_ hc_] rfl rfl (Kbg (l:=[.slice hA hn_ hc_]) hnew6) ?p2 ?p3 ?p4 ?p5 ?_)
       case p2=>rfl
       case p3=>unfold maxLen;omega
       case p4=>omega
       case p5=>have:=HWV.out.2;omega
       intro v9 w9 hown' hgrow _ _;rw[←hw6] at hgrow;have hlow:∀k,(Value.slice A7 i c7).ownBlock=some k→q+2≤k:=fun k hk=>(HROW6.out.lt k hk).1
       have HBN:Hid (Below q w w9):=(HWV.out.1.trans (HB6.out.mono (by have:=HWV.out.2;omega))).grown hgrow (by omega) (fun k hk=>by have:=hlow k hk;omega);have HQN:Hid (Blk w9 q 28 #[.int .i64 0,.int .i64 0,.int .i64 0,.slice none 0 0]):=(HQV.out.below HB6.out HQV.out.lt).grown hgrow (Kag (HQV.out.below HB6.out HQV.out.lt) HROW6.out (by decide))
       have HON:Hid (Blk w9 (q+1) 28 #[.int .i64 (outC (cs.take (i+1))).1,.int .i64 (outC (cs.take (i+1))).2.1,.int .i64 (outC (cs.take (i+1))).2.2,.slice none 0 0]):=by
        show Blk _ _ _ _
        rw[HOUT.out];exact (HOV.out.below HB6.out HOV.out.lt).grown hgrow (Kag (HOV.out.below HB6.out HOV.out.lt) HROW6.out (by decide))
       have HRN:Hid (w9.ownsRow (q+2) 26 1 v9 (i+1) (((xs.take (i+1)).map CH.h).flatMap Kbp)):=by
        show World.ownsRow _ _ _ _ _ _ _
        rw[HTX.out,List.flatMap_append,List.flatMap_singleton,List.map_take];exact hown'
       have HZN:Hid (q+2≤w9.heap.size):=Nat.le_trans hz6 hgrow.size;clear hown' hgrow hlow hrow6 hnew6 HROW6 HB6 hw6 hz6 HOV HBV HQV HRV HWV b3 bl hi1 hz0 hz1 hz2 HOUT;go_wp2_with fail
       go_roundg (n - (i+1))
       case measure=>omega
       case rel=>exact ⟨i+1,by first | rfl | go_num,by omega,HBN,HQN,HON,HRN,HOKN,HZN⟩
      ·refine Oper.wp_ran (d:=some 48) (w':=wy) (v:=.int .i64 xf) rfl (by go_simp;try rfl) ?_;refine ⟨fun _=>hS,?_⟩;simp only[Act.put,Ja,Jb,Jc];refine Kac (i:=1) (by kernel_rfl) rfl rfl ?_;refine Oper.wp_ran (d:=some 46) (w':=wy) (v:=.int .i64 fo) rfl (by go_simp;try rfl) ?_;refine ⟨fun _=>hS,?_⟩;simp only[Act.put,Ja,Jb,Jc];refine Kaa (i:=4) (d:=some 49) rfl rfl (by kernel_rfl) (by kernel_rfl) (by kernel_rfl) rfl (fun _ _ _ h=>h) (by rfl) (fun w=>by go_simp;try rfl) (fun _=>hS) ?_;simp only[Act.put,Ja,Jb,Jc];refine Kaa (i:=10) (d:=some 55) rfl rfl (by kernel_rfl) (by kernel_rfl) (by kernel_rfl) rfl (fun _ _ _ h=>h) (by rfl) (fun w=>by go_simp;try rfl) (fun _=>hS) ?_;simp only[Act.put,Ja,Jb,Jc];refine Kac (i:=11) (by kernel_rfl) rfl rfl ?_;refine Oper.wp_skipped (w':=wy.setCell ⟨q+1,1,none⟩ (.int .i64 (min fo xf))) rfl (by go_simp;try rfl) ?_;refine ⟨fun _=>hS2,?_⟩;simp only[Act.put,Ja,Jb,Jc];refine Kaa (i:=12) (d:=some 56) rfl rfl (by kernel_rfl) (by kernel_rfl) (by kernel_rfl) rfl (fun _ _ _ h=>h) (by rfl) (fun w=>by go_simp;try rfl) (fun _=>hS2) ?_;simp only[Act.put,Ja,Jb,Jc];refine Kac (i:=13) (by kernel_rfl) rfl rfl ?_;refine Oper.wp_skipped (w':=(wy.setCell ⟨q+1,1,none⟩ (.int .i64 (min fo xf))).setCell ⟨q+1,2,none⟩ (.int .i64 (max to_ xt))) rfl (by go_simp;try rfl) ?_;refine ⟨fun h=>absurd h (by decide),?_⟩;refine Kbd (by kernel_rfl) ?_ _;obtain ⟨wv,hwv⟩:∃x,x=(wy.setCell ⟨q+1,1,none⟩ (.int .i64 (min fo xf))).setCell ⟨q+1,2,none⟩ (.int .i64 (max to_ xt)):=⟨_,rfl⟩;have HOV:Hid (Blk wv (q+1) 28 #[.int .i64 ro,.int .i64 (min fo xf),.int .i64 (max to_ xt),.slice none 0 0]):=by show Blk _ _ _ _;rw[hwv];exact (HOY.out.set_ 1 _).set_ 2 _
       have HBV:Hid (Blk wv p9 28 #[.int .i64 xr,.int .i64 xf,.int .i64 xt,.slice hA hn_ hc_]):=by show Blk _ _ _ _;rw[hwv];exact (HBY.out.far HPN.out.2.1 _).far HPN.out.2.1 _
       have HQV:Hid (Blk wv q 28 #[.int .i64 0,.int .i64 0,.int .i64 0,.slice none 0 0]):=by show Blk _ _ _ _;rw[hwv];exact (HQY.out.far (p:=⟨q+1,1,none⟩) (by show q≠q+1;omega) _).far (p:=⟨q+1,2,none⟩) (by show q≠q+1;omega) _
       have HRV:Hid (wv.ownsRow (q+2) 26 1 (.slice A7 i c7) i (((xs.take i).map CH.h).flatMap Kbp)):=by
        show World.ownsRow _ _ _ _ _ _ _
        rw[hwv];exact Kch (Kch HRY.out HOY.out (by decide)) (HOY.out.set_ 1 _) (by decide)
       have HWV:Hid (Below q w wv∧q+2≤wv.heap.size):=by
        show _∧_
        rw[hwv];exact ⟨(HBWY.out.1.setCell (p:=⟨q+1,1,none⟩) (Nat.le_succ q) _).setCell (p:=⟨q+1,2,none⟩) (Nat.le_succ q) _,by simpa[World.setCell] using HBWY.out.2⟩
       rw[←hwv];clear hwv HOY HBY HQY HRY HBWY hS hS2 o1 o2 o3 b1 b2 b3 f1 f2;have b3:=HBV.out.cell 3;simp at b3;have bl:=HBV.out.lt;obtain ⟨i1,hi1,hz0,hz1,hz2⟩:=info_parts Kgf;obtain ⟨w6,hw6⟩:∃y,y=wv.alloc (.cells #[.slice hA hn_ hc_] 26):=⟨_,rfl⟩;have hb6:Below wv.heap.size wv w6:=by rw[hw6];exact (Below.refl _ _).alloc (Nat.le_refl _) _
       have hnew6:Blk w6 wv.heap.size 26 #[.slice hA hn_ hc_]:=by rw[hw6];exact Blk.new _ _ _
       have hrow6:w6.ownsRow (q+2) 26 1 (.slice A7 i c7) i (((xs.take i).map CH.h).flatMap Kbp):=Kaq HRV.out hb6;have HROW6:=Jh hrow6;have HB6:=Jh hb6;have hz6:q+2≤w6.heap.size:=Nat.le_trans HWV.out.2 hb6.size;clear hb6;go_wp2_with (at_builtin;(try rw[←hw6]);refine wpList_append_own_at _ rfl _ _ 80 rfl (q+2) 26 i1 (.slice none 0 0) 1 24 Tryz.underlying80 hi1 hz0 hz1 hz2 rfl (by decide) (.slice A7 i c7) i _ rfl hrow6 ⟨wv.heap.size,0,none⟩ 1 1 [.slice hA hn_ hc_] rfl rfl (Kbg (l:=[.slice hA hn_ hc_]) hnew6) ?p2 ?p3 ?p4 ?p5 ?_)
       case p2=>rfl
       case p3=>unfold maxLen;omega
       case p4=>omega
       case p5=>have:=HWV.out.2;omega
       intro v9 w9 hown' hgrow _ _;rw[←hw6] at hgrow;have hlow:∀k,(Value.slice A7 i c7).ownBlock=some k→q+2≤k:=fun k hk=>(HROW6.out.lt k hk).1
       have HBN:Hid (Below q w w9):=(HWV.out.1.trans (HB6.out.mono (by have:=HWV.out.2;omega))).grown hgrow (by omega) (fun k hk=>by have:=hlow k hk;omega);have HQN:Hid (Blk w9 q 28 #[.int .i64 0,.int .i64 0,.int .i64 0,.slice none 0 0]):=(HQV.out.below HB6.out HQV.out.lt).grown hgrow (Kag (HQV.out.below HB6.out HQV.out.lt) HROW6.out (by decide))
       have HON:Hid (Blk w9 (q+1) 28 #[.int .i64 (outC (cs.take (i+1))).1,.int .i64 (outC (cs.take (i+1))).2.1,.int .i64 (outC (cs.take (i+1))).2.2,.slice none 0 0]):=by
        show Blk _ _ _ _
        rw[HOUT.out];exact (HOV.out.below HB6.out HOV.out.lt).grown hgrow (Kag (HOV.out.below HB6.out HOV.out.lt) HROW6.out (by decide))
       have HRN:Hid (w9.ownsRow (q+2) 26 1 v9 (i+1) (((xs.take (i+1)).map CH.h).flatMap Kbp)):=by
        show World.ownsRow _ _ _ _ _ _ _
        rw[HTX.out,List.flatMap_append,List.flatMap_singleton,List.map_take];exact hown'
       have HZN:Hid (q+2≤w9.heap.size):=Nat.le_trans hz6 hgrow.size;clear hown' hgrow hlow hrow6 hnew6 HROW6 HB6 hw6 hz6 HOV HBV HQV HRV HWV b3 bl hi1 hz0 hz1 hz2 HOUT;go_wp2_with fail
       go_roundg (n - (i+1))
       case measure=>omega
       case rel=>exact ⟨i+1,by first | rfl | go_num,by omega,HBN,HQN,HON,HRN,HOKN,HZN⟩
  ·have hlz:¬(i:Int) < (n:Int):=by omega
   have hin:i=n:=by omega
   obtain ⟨A7,c7,hv7⟩:=Kar HR.out;subst hv7;have HBw:Hid (Below w.heap.size w wr):=by show Below _ _ _;rw[←HQ0.out];exact HB.out
   have hC:=HH.out.below HBw.out;have htl:cs.take i=cs:=List.take_of_length_le (by rw[hC.l];omega);have htx:xs.take i=xs:=List.take_of_length_le (by rw[hC.e.len];omega);rw[htl] at HO HOK;rw[htx] at HR;have HLS:Hid (Lists wr A7 i (xs.map CH.h) (cs.map Cont.series)):=by have h:=hC;rw[←hin] at h;exact h.lists HR.out
   have HOKA:Hid (okAll cs=true):=by show _=true;have h:=HOK.out;unfold okFor at h;rw[HR0.out] at h;exact h
   have hcl:=hC.l;have hczs:=hC.z;clear hC htl htx HR HOK;rcases Nat.eq_zero_or_pos i with h0 | h0
   ·have di:((i:Int) == 0)=true:=by rw[beq_iff_eq];omega
    have hcs:cs = []:=List.eq_nil_of_length_eq_zero (by omega);have HO0:Hid (Blk wr (q+1) 28 #[.int .i64 0,.int .i64 0,.int .i64 0,.slice none 0 0]):=by have h:=HO.out;rw[hcs] at h;exact h
    clear HO;have o0:=HO0.out.cell 0;have o1:=HO0.out.cell 1;have o2:=HO0.out.cell 2;have o3:=HO0.out.cell 3;simp at o0 o1 o2 o3;have ol:=HO0.out.lt;have g0:=HQ.out.cell 0;have g1:=HQ.out.cell 1;have g2:=HQ.out.cell 2;have g3:=HQ.out.cell 3;simp at g0 g1 g2 g3;have f0:=HQ.out.frozen 0;have f1:=HQ.out.frozen 1;have f2:=HQ.out.frozen 2;have f3:=HQ.out.frozen 3;have gl:=HQ.out.lt;have HNZ:Hid (n=0):=by show _=_;omega
    clear hcs hcl hczs hin h0 HLS;go_wp2_with fail
    (try simp only[Exit.inBlock,Exit.then])
    refine bodyPost_ret (Kcp rfl _ _ ⟨q,0,none⟩ (.agg #[.int .i64 0,.int .i64 0,.int .i64 0,.slice none 0 0]) rfl (run_loadVar_row _ q 28 28 _ (0,0) _ ((((HQ.out.set_ 0 _).set_ 1 _).set_ 2 _).set_ 3 _) Tryz.underlying28 rfl (by kernel_rfl))) rfl ?_;refine ⟨.inl ⟨.inl HNZ.out,rfl⟩,?_⟩;rw[←HQ0.out];exact (((HB.out.setCell (p:=⟨q,0,none⟩) (Nat.le_refl _) _).setCell (p:=⟨q,1,none⟩) (Nat.le_refl _) _).setCell (p:=⟨q,2,none⟩) (Nat.le_refl _) _).setCell (p:=⟨q,3,none⟩) (Nat.le_refl _) _
   ·have di:((i:Int) == 0)=false:=by rw[beq_eq_false_iff_ne];omega
    obtain ⟨ro,hro⟩:∃x,x=(outC cs).1:=⟨_,rfl⟩;obtain ⟨fo,hfo⟩:∃x,x=(outC cs).2.1:=⟨_,rfl⟩;obtain ⟨to_,hto⟩:∃x,x=(outC cs).2.2:=⟨_,rfl⟩;rw[←hro,←hfo,←hto] at HO;have HRO:Hid ((outC cs).1=ro∧(outC cs).2.1=fo∧(outC cs).2.2=to_):=⟨hro.symm,hfo.symm,hto.symm⟩
    have hlz2:∀s∈(cs.map Cont.series).flatten,s.labels.length≤1099511627776:=fun s hs=>by
     obtain ⟨M,hM,hsM⟩:=List.mem_flatten.1 hs;obtain ⟨c,hc,rfl⟩:=List.mem_map.1 hM;exact ((hczs c hc).z s hsM).l
    have HMG:Hid (∀W,Below wr.heap.size wr W→Calls Tryz.prog 24 #[.slice A7 i c7] W fun e w'=>∃u,e = .returned u∧∃A' n' c',u = .slice A' n' c'∧SersZ w' A' n' (Kan (cs.map Cont.series).flatten)∧Below W.heap.size W w'):=fun W hb=>by
     refine (Kpv A7 i c7 _ _ (HLS.out.below hb) (by omega) (by have:=HN.out;omega) (by have:=HSUM.out;omega)).mono ?_;rintro e w' ⟨A',n',c',rfl,s1,_,s3⟩;exact ⟨_,rfl,A',n',c',rfl,Kxi s1 hlz2 (by have:=HN.out;omega) (by have:=HSUM.out;omega),s3⟩
    have HST:Hid (∀(A':Option Addr) (n' c':Nat) W,SersZ W A' n' (Kan (cs.map Cont.series).flatten)→Below wr.heap.size wr W→Calls Tryz.prog 34 #[.int .i64 ro,.slice A' n' c',.slice gB gN gC] W fun e w'=>∃u,e = .returned u∧∃A' n' c',u = .slice A' n' c'∧(Sers w' A' n' (Kbm ro ghs (Kan (cs.map Cont.series).flatten))∧n'≤c')∧Below W.heap.size W w'):=fun A' n' c' W hs hb=>by
     refine (Klm ro A' n' c' _ gB gN gC ghs W hs ((HG.out.below HBw.out).below hb)).mono ?_;rintro e w' ⟨A2,n2,c2,rfl,s1,s2,s3⟩;exact ⟨_,rfl,A2,n2,c2,rfl,⟨s1,s2⟩,s3⟩
    clear hro hfo hto hlz2 hcl hczs HLS HBw;go_upto_region 16 with fail
    refine Kbx (fun _=>True) 7 8 (by kernel_rfl) rfl ?_;rw[show Array.replicate 8 false = #[false,false,false,false,false,false,false,false] from rfl];obtain ⟨wy,hwy⟩:∃x,x=wr.drew:=⟨_,rfl⟩;have hb6:Below wr.heap.size wr wy:=by rw[hwy];exact (Below.refl _ _).drew
    have hoy:Blk wy (q+1) 28 #[.int .i64 ro,.int .i64 fo,.int .i64 to_,.slice none 0 0]:=HO.out.below hb6 HO.out.lt;rw[←hwy];clear hwy;have o0:wy.cell? ⟨q+1,0,none⟩=some (.int .i64 ro):=hoy.cell 0;have ol:=hoy.lt;clear hoy;refine Kaa (i:=0) (d:=some 67) rfl rfl (by kernel_rfl) (by kernel_rfl) (by kernel_rfl) rfl (fun _ _ _ h=>h) (by rfl) (fun w=>by go_simp;try rfl) (fun _=>trivial) ?_;simp only[Act.put,Ja,Jb,Jc];refine Kaa (i:=2) (d:=some 69) rfl rfl (by kernel_rfl) (by kernel_rfl) (by kernel_rfl) rfl (fun _ _ _ h=>h) (by rfl) (fun w=>by go_simp;try rfl) (fun _=>trivial) ?_;simp only[Act.put,Ja,Jb,Jc];refine Kaa (i:=4) (d:=some 71) rfl rfl (by kernel_rfl) (by kernel_rfl) (by kernel_rfl) rfl (fun _ _ _ h=>h) (by rfl) (fun w=>by go_simp;try rfl) (fun _=>trivial) ?_;simp only[Act.put,Ja,Jb,Jc];refine Kfd (i:=1) (j:=3) (by kernel_rfl) rfl rfl rfl rfl ?_ ?_
    ·refine Oper.wp_ran (d:=some 68) (w':=wy) (v:=.int .i64 ro) rfl (by go_simp;try rfl) ?_;refine ⟨fun _=>trivial,?_⟩;simp only[Act.put,Ja,Jb,Jc];refine Kac (i:=3) (by kernel_rfl) rfl rfl ?_;refine Oper.wp_called (d:=some 70) (w1:=wy) (g:=24) (args:=#[.slice A7 i c7]) rfl (by go_simp;try rfl) (N:=fun u w'=>∃A' n' c',u = .slice A' n' c'∧SersZ w' A' n' (Kan (cs.map Cont.series).flatten)∧Below wy.heap.size wy w') (HMG.out _ hb6) ?_;rintro _ w6 ⟨A5,n5,c5,rfl,hs5,hb5⟩;refine ⟨fun _=>trivial,?_⟩;simp only[Act.put,Ja,Jb,Jc];refine Kac (i:=5) (by kernel_rfl) rfl rfl ?_;refine Oper.wp_called (d:=some 72) (w1:=w6) (g:=34) (args:=#[.int .i64 ro,.slice A5 n5 c5,.slice gB gN gC]) rfl (by go_simp;try rfl) (N:=fun u w'=>∃A' n' c',u = .slice A' n' c'∧(Sers w' A' n' (Kbm ro ghs (Kan (cs.map Cont.series).flatten))∧n'≤c')∧Below w6.heap.size w6 w') (HST.out A5 n5 c5 _ hs5 (hb6.trans (hb5.mono hb6.size))) ?_;rintro _ w7 ⟨A2,n2,c2,rfl,hs7,hb7⟩;have hb67:Below wr.heap.size wr w7:=(hb6.trans (hb5.mono hb6.size)).trans (hb7.mono (Nat.le_trans hb6.size hb5.size));refine ⟨fun _=>trivial,?_⟩;simp only[Act.put,Ja,Jb,Jc];have HO7:Hid (Blk w7 (q+1) 28 #[.int .i64 ro,.int .i64 fo,.int .i64 to_,.slice none 0 0]):=HO.out.below hb67 HO.out.lt;have HQ7:Hid (Blk w7 q 28 #[.int .i64 0,.int .i64 0,.int .i64 0,.slice none 0 0]):=HQ.out.below hb67 HQ.out.lt;have HB7:Hid (Below q w w7):=HB.out.trans (hb67.mono (by have:=HZ.out;omega));have HS7:Hid (Sers w7 A2 n2 (Kbm ro ghs (Kan (cs.map Cont.series).flatten))∧n2≤c2):=hs7;clear hb67 hb7 hs7 hb5 hs5 hb6;refine Kac (i:=6) (by kernel_rfl) rfl rfl ?_;refine Oper.wp_ran (d:=some 73) (w':=w7) (v:=.pointer (some ⟨q+1,3,none⟩)) rfl (by go_simp;try rfl) ?_;refine ⟨fun _=>trivial,?_⟩;simp only[Act.put,Ja,Jb,Jc];have u3:w7.cell? ⟨q+1,3,none⟩=some (.slice none 0 0):=HO7.out.cell 3;have v3:=HO7.out.frozen 3;have vl:=HO7.out.lt;refine Kac (i:=7) (by kernel_rfl) rfl rfl ?_;refine Oper.wp_skipped (w':=w7.setCell ⟨q+1,3,none⟩ (.slice A2 n2 c2)) rfl (by go_simp;try rfl) ?_;refine ⟨fun h=>absurd h (by decide),?_⟩;refine Kbd (by kernel_rfl) ?_ _;obtain ⟨w8,hw8⟩:∃x,x=w7.setCell ⟨q+1,3,none⟩ (.slice A2 n2 c2):=⟨_,rfl⟩;have HO8:Hid (Blk w8 (q+1) 28 #[.int .i64 ro,.int .i64 fo,.int .i64 to_,.slice A2 n2 c2]):=by show Blk _ _ _ _;rw[hw8];exact HO7.out.set_ 3 _
     have HQ8:Hid (Blk w8 q 28 #[.int .i64 0,.int .i64 0,.int .i64 0,.slice none 0 0]):=by show Blk _ _ _ _;rw[hw8];exact HQ7.out.far (p:=⟨q+1,3,none⟩) (by show q≠q+1;omega) _
     have HB8:Hid (Below q w w8):=by show Below _ _ _;rw[hw8];exact HB7.out.setCell (p:=⟨q+1,3,none⟩) (Nat.le_succ q) _
     have HS8:Hid (Sers w8 A2 n2 (Kbm ro ghs (Kan (cs.map Cont.series).flatten))∧n2≤c2):=by show _∧_;rw[hw8];exact ⟨HS7.out.1.setBox HO7.out 3 _,HS7.out.2⟩
     rw[←hw8];clear hw8 HO7 HQ7 HB7 HS7 u3 v3 vl;have o0:=HO8.out.cell 0;have o1:=HO8.out.cell 1;have o2:=HO8.out.cell 2;have o3:=HO8.out.cell 3;simp at o0 o1 o2 o3;have ol:=HO8.out.lt;have g0:=HQ8.out.cell 0;have g1:=HQ8.out.cell 1;have g2:=HQ8.out.cell 2;have g3:=HQ8.out.cell 3;simp at g0 g1 g2 g3;have f0:=HQ8.out.frozen 0;have f1:=HQ8.out.frozen 1;have f2:=HQ8.out.frozen 2;have f3:=HQ8.out.frozen 3;have gl:=HQ8.out.lt;go_wp2_with fail
     (try simp only[Exit.inBlock,Exit.then])
     have q1:=HQ8.out.set_ 0 (.int .i64 ro);have q2:=q1.set_ 1 (.int .i64 fo);have q3:=q2.set_ 2 (.int .i64 to_);have q4:=q3.set_ 3 (.slice A2 n2 c2);refine bodyPost_ret (Kcp rfl _ _ ⟨q,0,none⟩ (.agg #[.int .i64 ro,.int .i64 fo,.int .i64 to_,.slice A2 n2 c2]) rfl (run_loadVar_row _ q 28 28 _ (0,0) _ q4 Tryz.underlying28 rfl (by kernel_rfl))) rfl ?_;have s1:=HS8.out.1.setBox HQ8.out 0 (.int .i64 ro);have s2:=s1.setBox (a:=ro) (b:=0) (c:=0) (Z:=none) (k:=0) (d:=0) q1 1 (.int .i64 fo);have s3:=s2.setBox (a:=ro) (b:=fo) (c:=0) (Z:=none) (k:=0) (d:=0) q2 2 (.int .i64 to_);have s4:=s3.setBox (a:=ro) (b:=fo) (c:=to_) (Z:=none) (k:=0) (d:=0) q3 3 (.slice A2 n2 c2);refine ⟨.inr ⟨⟨by omega,HOKA.out⟩,A2,n2,c2,?_,?_,HS8.out.2⟩,?_⟩
     ·rw[HRO.out.1,HRO.out.2.1,HRO.out.2.2];rfl
     ·rw[HRO.out.1];exact s4
     ·rw[←HQ0.out];exact (((HB8.out.setCell (p:=⟨q,0,none⟩) (Nat.le_refl _) _).setCell (p:=⟨q,1,none⟩) (Nat.le_refl _) _).setCell (p:=⟨q,2,none⟩) (Nat.le_refl _) _).setCell (p:=⟨q,3,none⟩) (Nat.le_refl _) _
    ·refine Oper.wp_called (d:=some 70) (w1:=wy) (g:=24) (args:=#[.slice A7 i c7]) rfl (by go_simp;try rfl) (N:=fun u w'=>∃A' n' c',u = .slice A' n' c'∧SersZ w' A' n' (Kan (cs.map Cont.series).flatten)∧Below wy.heap.size wy w') (HMG.out _ hb6) ?_;rintro _ w6 ⟨A5,n5,c5,rfl,hs5,hb5⟩;refine ⟨fun _=>trivial,?_⟩;simp only[Act.put,Ja,Jb,Jc];have o0':w6.cell? ⟨q+1,0,none⟩=some (.int .i64 ro):=(HO.out.below (hb6.trans (hb5.mono hb6.size)) HO.out.lt).cell 0;have ol':=(HO.out.below (hb6.trans (hb5.mono hb6.size)) HO.out.lt).lt;refine Kac (i:=1) (by kernel_rfl) rfl rfl ?_;refine Oper.wp_ran (d:=some 68) (w':=w6) (v:=.int .i64 ro) rfl (by go_simp;try rfl) ?_;refine ⟨fun _=>trivial,?_⟩;simp only[Act.put,Ja,Jb,Jc];clear o0' ol';refine Kac (i:=5) (by kernel_rfl) rfl rfl ?_;refine Oper.wp_called (d:=some 72) (w1:=w6) (g:=34) (args:=#[.int .i64 ro,.slice A5 n5 c5,.slice gB gN gC]) rfl (by go_simp;try rfl) (N:=fun u w'=>∃A' n' c',u = .slice A' n' c'∧(Sers w' A' n' (Kbm ro ghs (Kan (cs.map Cont.series).flatten))∧n'≤c')∧Below w6.heap.size w6 w') (HST.out A5 n5 c5 _ hs5 (hb6.trans (hb5.mono hb6.size))) ?_;rintro _ w7 ⟨A2,n2,c2,rfl,hs7,hb7⟩;have hb67:Below wr.heap.size wr w7:=(hb6.trans (hb5.mono hb6.size)).trans (hb7.mono (Nat.le_trans hb6.size hb5.size));refine ⟨fun _=>trivial,?_⟩;simp only[Act.put,Ja,Jb,Jc];have HO7:Hid (Blk w7 (q+1) 28 #[.int .i64 ro,.int .i64 fo,.int .i64 to_,.slice none 0 0]):=HO.out.below hb67 HO.out.lt;have HQ7:Hid (Blk w7 q 28 #[.int .i64 0,.int .i64 0,.int .i64 0,.slice none 0 0]):=HQ.out.below hb67 HQ.out.lt;have HB7:Hid (Below q w w7):=HB.out.trans (hb67.mono (by have:=HZ.out;omega));have HS7:Hid (Sers w7 A2 n2 (Kbm ro ghs (Kan (cs.map Cont.series).flatten))∧n2≤c2):=hs7;clear hb67 hb7 hs7 hb5 hs5 hb6;refine Kac (i:=6) (by kernel_rfl) rfl rfl ?_;refine Oper.wp_ran (d:=some 73) (w':=w7) (v:=.pointer (some ⟨q+1,3,none⟩)) rfl (by go_simp;try rfl) ?_;refine ⟨fun _=>trivial,?_⟩;simp only[Act.put,Ja,Jb,Jc];have u3:w7.cell? ⟨q+1,3,none⟩=some (.slice none 0 0):=HO7.out.cell 3;have v3:=HO7.out.frozen 3;have vl:=HO7.out.lt;refine Kac (i:=7) (by kernel_rfl) rfl rfl ?_;refine Oper.wp_skipped (w':=w7.setCell ⟨q+1,3,none⟩ (.slice A2 n2 c2)) rfl (by go_simp;try rfl) ?_;refine ⟨fun h=>absurd h (by decide),?_⟩;refine Kbd (by kernel_rfl) ?_ _;obtain ⟨w8,hw8⟩:∃x,x=w7.setCell ⟨q+1,3,none⟩ (.slice A2 n2 c2):=⟨_,rfl⟩;have HO8:Hid (Blk w8 (q+1) 28 #[.int .i64 ro,.int .i64 fo,.int .i64 to_,.slice A2 n2 c2]):=by show Blk _ _ _ _;rw[hw8];exact HO7.out.set_ 3 _
     have HQ8:Hid (Blk w8 q 28 #[.int .i64 0,.int .i64 0,.int .i64 0,.slice none 0 0]):=by show Blk _ _ _ _;rw[hw8];exact HQ7.out.far (p:=⟨q+1,3,none⟩) (by show q≠q+1;omega) _
     have HB8:Hid (Below q w w8):=by show Below _ _ _;rw[hw8];exact HB7.out.setCell (p:=⟨q+1,3,none⟩) (Nat.le_succ q) _
     have HS8:Hid (Sers w8 A2 n2 (Kbm ro ghs (Kan (cs.map Cont.series).flatten))∧n2≤c2):=by show _∧_;rw[hw8];exact ⟨HS7.out.1.setBox HO7.out 3 _,HS7.out.2⟩
     rw[←hw8];clear hw8 HO7 HQ7 HB7 HS7 u3 v3 vl;have o0:=HO8.out.cell 0;have o1:=HO8.out.cell 1;have o2:=HO8.out.cell 2;have o3:=HO8.out.cell 3;simp at o0 o1 o2 o3;have ol:=HO8.out.lt;have g0:=HQ8.out.cell 0;have g1:=HQ8.out.cell 1;have g2:=HQ8.out.cell 2;have g3:=HQ8.out.cell 3;simp at g0 g1 g2 g3;have f0:=HQ8.out.frozen 0;have f1:=HQ8.out.frozen 1;have f2:=HQ8.out.frozen 2;have f3:=HQ8.out.frozen 3;have gl:=HQ8.out.lt;go_wp2_with fail
     (try simp only[Exit.inBlock,Exit.then])
     have q1:=HQ8.out.set_ 0 (.int .i64 ro);have q2:=q1.set_ 1 (.int .i64 fo);have q3:=q2.set_ 2 (.int .i64 to_);have q4:=q3.set_ 3 (.slice A2 n2 c2);refine bodyPost_ret (Kcp rfl _ _ ⟨q,0,none⟩ (.agg #[.int .i64 ro,.int .i64 fo,.int .i64 to_,.slice A2 n2 c2]) rfl (run_loadVar_row _ q 28 28 _ (0,0) _ q4 Tryz.underlying28 rfl (by kernel_rfl))) rfl ?_;have s1:=HS8.out.1.setBox HQ8.out 0 (.int .i64 ro);have s2:=s1.setBox (a:=ro) (b:=0) (c:=0) (Z:=none) (k:=0) (d:=0) q1 1 (.int .i64 fo);have s3:=s2.setBox (a:=ro) (b:=fo) (c:=0) (Z:=none) (k:=0) (d:=0) q2 2 (.int .i64 to_);have s4:=s3.setBox (a:=ro) (b:=fo) (c:=to_) (Z:=none) (k:=0) (d:=0) q3 3 (.slice A2 n2 c2);refine ⟨.inr ⟨⟨by omega,HOKA.out⟩,A2,n2,c2,?_,?_,HS8.out.2⟩,?_⟩
     ·rw[HRO.out.1,HRO.out.2.1,HRO.out.2.2];rfl
     ·rw[HRO.out.1];exact s4
     ·rw[←HQ0.out];exact (((HB8.out.setCell (p:=⟨q,0,none⟩) (Nat.le_refl _) _).setCell (p:=⟨q,1,none⟩) (Nat.le_refl _) _).setCell (p:=⟨q,2,none⟩) (Nat.le_refl _) _).setCell (p:=⟨q,3,none⟩) (Nat.le_refl _) _
end
end
end Go.Proofs.YtdoiekknhnbepaaGreatDoor
