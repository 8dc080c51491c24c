/- Merged (what the claim wants of): CompactW, CLawA, CBackP. -/
import Derived.Test.YtdoiekknhnbepaaGreatDoorCob18
set_option linter.unusedVariables false
set_option linter.unusedSimpArgs false
set_option maxRecDepth 100000
set_option maxHeartbeats 8000000
namespace Go.Proofs.YtdoiekknhnbepaaGreatDoor
section
open Go.Shelf Go.RowKit Go.Lib Go.Sort
open Lib renaming hid → Jh
open List renaming setIfInBounds_toArray → Ja, set_cons_zero → Jb, set_cons_succ → Jc
attribute [local go_sem ↓] Go.wp_at_zero Go.wp_at_succ
attribute [local go_sem] Later.cell
section
set_option maxHeartbeats 4000000
set_option maxRecDepth 100000
theorem Kgj:(Tryz.prog.info? 26).map (fun i=>(i.zero,i.size,i.bytes))=some (some (.slice none 0 0),1,24):=by kernel_rfl
theorem Kjd (gB:Option Addr) (gN gC:Nat) (ghs:List (Hd4×GoneP)) (A:Option Addr) (n c:Nat) (xs:List CH) (cs:List Cont) (w:World) (h:Kdg w A n xs cs) (hG:Gones w gB gN ghs) (hE:BEnv w)
  (hN:(cs.map Cont.series).flatten.length≤1073741824) (hsum:sumS (cs.map Cont.series).flatten≤1073741824) :
  Calls Tryz.prog 13 #[.slice gB gN gC,.slice A n c] w fun e w'=>
   ((n=0∨okAll cs=false)∧e = .returned (.tuple #[.agg #[.int .i64 0,.int .i64 0,.int .i64 0,.slice none 0 0],.int .i64 190])∨
    (n≠0∧okAll cs=true)∧∃(A':Option Addr) (n' c':Nat),e = .returned (.tuple #[.agg #[.int .i64 (outC cs).1,.int .i64 (outC cs).2.1,.int .i64 (outC cs).2.2,.slice A' n' c'],.int .i64 0])∧Sers w' A' n' (Kbr (outC cs).1 ghs (Kam (cs.map Cont.series).flatten))∧n'≤c')∧Below w.heap.size w w':=by
 obtain ⟨q,hq⟩:∃q,q=w.heap.size:=⟨_,rfl⟩;obtain ⟨r0,hr0⟩:∃r0,r0=(outC cs).1:=⟨_,rfl⟩;have HH:=Jh h;have HG:=Jh hG;have HE:=Jh hE;have HN:=Jh hN;have HSUM:=Jh hsum;have HR0:=Jh hr0;have hn:=h.n;have HQ0:=Jh hq;clear h hG hE hN hsum hr0;go_enter Tryz.func13,Tryz.ntmps13
 go_upto_region 2 with fail
 obtain ⟨wa,hwa⟩:∃x,x=(w.alloc (.cells #[.int .i64 0,.int .i64 0,.int .i64 0,.slice none 0 0] 28)).alloc (.cells #[.int .i64 0,.int .i64 0,.int .i64 0,.slice none 0 0] 28):=⟨_,rfl⟩;have HQ:Hid (Blk wa q 28 #[.int .i64 0,.int .i64 0,.int .i64 0,.slice none 0 0]):=by show Blk _ _ _ _;rw[hwa,hq];exact (Blk.new _ _ _).alloc _
 have HO:Hid (Blk wa (q+1) 28 #[.int .i64 (outC (cs.take 0)).1,.int .i64 (outC (cs.take 0)).2.1,.int .i64 (outC (cs.take 0)).2.2,.slice none 0 0]):=by show Blk _ _ _ _;rw[hwa,hq];exact Blk.newAt (by simp)
 have HB:Hid (Below q w wa):=by show Below _ _ _;rw[hwa,hq];exact ((Below.refl _ _).alloc (Nat.le_refl _) _).alloc (by simp) _
 have HZ:Hid (q+2≤wa.heap.size):=by show _≤_;rw[hwa,hq];simp
 rw[←hwa,←hq];clear hwa hq;go_wp2_with fail
 go_loopg [7,14] n (fun kx s7 s14 wr=>∃i:Nat,s14 = .int .i64 (i:Int)∧i+kx=n∧Hid (Below q w wr)∧Hid (Blk wr q 28 #[.int .i64 0,.int .i64 0,.int .i64 0,.slice none 0 0])∧Hid (Blk wr (q+1) 28 #[.int .i64 (outC (cs.take i)).1,.int .i64 (outC (cs.take i)).2.1,.int .i64 (outC (cs.take i)).2.2,.slice none 0 0])∧Hid (wr.ownsRow (q+2) 26 1 s7 i (((xs.take i).map CH.h).flatMap Kbt))∧Hid (okFor r0 (cs.take i)=true)∧Hid (q+2≤wr.heap.size))
 case atStart=>exact ⟨0,rfl,by omega,HB,HQ,HO,(show Hid _ from World.ownsRow_nil _ _ _ _),(rfl:okFor r0 (cs.take 0)=true),HZ⟩
 case round=>
  clear HB HQ HO HZ;obtain ⟨i,rfl,hi,HB,HQ,HO,HR,HOK,HZ⟩:=hrel;rcases Nat.lt_or_ge i n with hlt | hge
  ·have hlz:(i:Int) < (n:Int):=by omega
   obtain ⟨A7,c7,hv7⟩:=Kan HR.out;subst hv7;have HBw:Hid (Below w.heap.size w wr):=by show Below _ _ _;rw[←HQ0.out];exact HB.out
   have hC:=HH.out.below HBw.out;obtain ⟨b0,off0,hA0,hb0,hc0⟩:=hC.e.2 (by omega);have hl0:=hC.e.len;obtain ⟨x,hx⟩:∃x,xs[i]? = some x:=⟨xs[i]'(by omega),List.getElem?_eq_getElem _⟩;obtain ⟨x0,hx0⟩:∃x,xs[0]? = some x:=⟨xs[0]'(by omega),List.getElem?_eq_getElem _⟩;obtain ⟨k1,k2,k3,k4,k5⟩:=hC.k i x hx;have k10:=(hC.k 0 x0 hx0).1
   have hr0:r0=x0.r:=by
    rw[HR0.out,←k10];have hl:=hC.l
    cases cs with
    | nil=>simp at hl;omega
    | cons y l=>rfl
   obtain ⟨cc,hcc⟩:∃cc,cc=cs[i]!:=⟨_,rfl⟩;rw[←hcc] at k1 k2 k3 k4;have hmem:cc∈cs:=by rw[hcc,getElem!_pos cs i (by rw[hC.l];exact hlt)];exact List.getElem_mem _
   have hcz:=hC.z cc hmem;have htk:cs.take (i+1)=cs.take i ++ [cc]:=by rw[List.take_add_one,List.getElem?_eq_getElem (by rw[hC.l];exact hlt),hcc,getElem!_pos cs i (by rw[hC.l];exact hlt)];rfl
   have htx:(xs.take (i+1)).map CH.h=(xs.take i).map CH.h ++ [x.h]:=by rw[List.take_add_one,hx,List.map_append];rfl
   have hcell:∀r v,r < 4→(encCH x)[r]? = some v→wr.cell? ⟨b0,off0+i*4+r,none⟩=some v:=fun r v _ hv=>hc0 i x hx r v hv
   have hcell0:wr.cell? ⟨b0,off0,none⟩=some (.int .i64 r0):=by
    have:=hc0 0 x0 hx0 0 _ rfl;rw[hr0];simpa using this
   subst hA0;have HTK:=Jh htk;have HTX:=Jh htx;have HMEM:=Jh hmem;have HBE:Hid (BEnv wr):=HE.out.below HBw.out
   have HBUILD:Hid (∀W,Below wr.heap.size wr W→Calls Tryz.prog 19 #[.agg #[.int .i64 x.r,.int .i64 x.f,.int .i64 x.t,.slice x.h.A x.h.n x.h.c]] W fun e w'=>(∃S0 S1 S2,e = .returned (.tuple #[.agg #[.string S0,.string S1,.string S2],.int .i64 (if fitB cc=true then 0 else 190)])∧Built cc S0 S1 S2)∧Below W.heap.size W w'):=fun W hb=>by
    have:=Krt cc x.h.A x.h.n x.h.c W (k4.below hb) hcz (HBE.out.below hb);rw[k1,k2,k3] at this;exact this
   have HX1:Hid (cc.res=x.r∧cc.frm=x.f∧cc.to_=x.t):=⟨k1,k2,k3⟩;obtain ⟨xr,xf,xt,⟨hA,hn_,hc_⟩⟩:=x;dsimp only at HBUILD HX1 HTX;have y0:=hcell 0 (.int .i64 xr) (by decide) rfl;have y1:=hcell 1 (.int .i64 xf) (by decide) rfl;have y2:=hcell 2 (.int .i64 xt) (by decide) rfl;have y3:=hcell 3 (.slice hA hn_ hc_) (by decide) rfl;rw[Nat.add_zero] at y0;clear hC hc0 hl0 hx hx0 k1 k2 k3 k4 k5 k10 hr0 hcc hmem hcz htk htx hcell;go_upto_region 6 with fail
   obtain ⟨wp,hwp⟩:∃x,x=wr.alloc (.cells #[.int .i64 xr,.int .i64 xf,.int .i64 xt,.slice hA hn_ hc_] 28):=⟨_,rfl⟩;obtain ⟨p9,hp9⟩:∃p,p=wr.heap.size:=⟨_,rfl⟩;have hbp:Below wr.heap.size wr wp:=by rw[hwp];exact (Below.refl _ _).alloc (Nat.le_refl _) _
   have HBX:Hid (Blk wp p9 28 #[.int .i64 xr,.int .i64 xf,.int .i64 xt,.slice hA hn_ hc_]):=by show Blk _ _ _ _;rw[hwp,hp9];exact Blk.new _ _ _
   have z0:=HBX.out.cell 0;have z1:=HBX.out.cell 1;have z2:=HBX.out.cell 2;have z3:=HBX.out.cell 3;simp at z0 z1 z2 z3;have zl:=HBX.out.lt;have HBP:=Jh hbp;have HPN:Hid (p9≠q∧p9≠q+1∧q+2≤p9):=by have:=HZ.out;exact ⟨by omega,by omega,by omega⟩
   rw[←hwp,←hp9];clear hwp hp9 hbp y0 y1 y2 y3;go_wp2_with fail
   refine (HBUILD.out _ HBP.out).mono ?_;rintro _ w4 ⟨⟨S0,S1,S2,rfl,hbu⟩,hb4⟩;have hbr4:Below wr.heap.size wr w4:=HBP.out.trans (hb4.mono HBP.out.size);obtain ⟨w5,hw5⟩:∃y,y=w4.alloc (.cells #[.string S0,.string S1,.string S2] 44):=⟨_,rfl⟩;have hb5:Below wr.heap.size wr w5:=by rw[hw5];exact hbr4.alloc hbr4.size _
   have HB5:=Jh hb5
   have HBX5:Hid (Blk w5 p9 28 #[.int .i64 xr,.int .i64 xf,.int .i64 xt,.slice hA hn_ hc_]):=by
    show Blk _ _ _ _
    rw[hw5];exact (HBX.out.below hb4 HBX.out.lt).alloc _
   have HQ5:Hid (Blk w5 q 28 #[.int .i64 0,.int .i64 0,.int .i64 0,.slice none 0 0]):=HQ.out.below hb5 HQ.out.lt;have HO5:Hid (Blk w5 (q+1) 28 #[.int .i64 (outC (cs.take i)).1,.int .i64 (outC (cs.take i)).2.1,.int .i64 (outC (cs.take i)).2.2,.slice none 0 0]):=HO.out.below hb5 HO.out.lt;have HR5:Hid (w5.ownsRow (q+2) 26 1 (.slice A7 i c7) i (((xs.take i).map CH.h).flatMap Kbt)):=Kaq HR.out hb5;have hc5:w5.cell? ⟨b0,off0,none⟩=some (.int .i64 r0):=(hb5.cell (p:=⟨b0,off0,none⟩) hb0).trans hcell0;have hb05:b0 < w5.heap.size:=Nat.lt_of_lt_of_le hb0 hb5.size
   have HQW5:Hid (Below q w w5∧q≤w5.heap.size):=by
    have h1:=HZ.out;have h2:=hb5.size;exact ⟨HB.out.trans (hb5.mono (by omega)),by omega⟩
   clear hb4 hbr4 hb5 hbu HQ HO HR HB HBw HBX HBP HBUILD hcell0 hb0 z0 z1 z2 z3 zl HBE;go_upto_region 7 with fail
   try rw[←hw5]
   clear hw5;obtain ⟨wf,hwf⟩:∃q,q=fitB cc:=⟨_,rfl⟩;rw[←hwf];have HWF:Hid (wf=fitB cc):=hwf;clear hwf
   have HBAD:Hid (wf=false∨xr≠r0→okAll cs=false):=fun hh=>by
    show okAll cs=false
    refine List.all_eq_false.2 ⟨cc,HMEM.out,?_⟩;rcases hh with hh | hh
    ·rw[←HWF.out,hh];simp
    ·rw[HX1.out.1,←HR0.out,decide_eq_false hh];simp
   cases wf with
   | false=>
    have h190:(if false=true then (0:Int) else 190)=190:=rfl;rw[h190];refine Kah (by kernel_rfl) (by kernel_rfl) ?_
    repeat (go_big_quiet_step (fail))
    refine wpQuiet_nil ?_;rintro wz ⟨⟨_,hbz⟩,rfl⟩;have HQZ:=Jh (HQ5.out.below hbz HQ5.out.lt);have HBZW:Hid (Below q w wz):=HQW5.out.1.trans (hbz.mono HQW5.out.2);have HNO:Hid (okAll cs=false):=HBAD.out (.inl rfl);clear hbz;have g0:=HQZ.out.cell 0;have g1:=HQZ.out.cell 1;have g2:=HQZ.out.cell 2;have g3:=HQZ.out.cell 3;simp at g0 g1 g2 g3;have f0:=HQZ.out.frozen 0;have f1:=HQZ.out.frozen 1;have f2:=HQZ.out.frozen 2;have f3:=HQZ.out.frozen 3;have gl:=HQZ.out.lt;go_wp2_with fail
    (try simp only[Exit.inBlock,Exit.then])
    refine bodyPost_ret (Kcu rfl _ _ ⟨q,0,none⟩ (.agg #[.int .i64 0,.int .i64 0,.int .i64 0,.slice none 0 0]) rfl (run_loadVar_row _ q 28 28 _ (0,0) _ ((((HQZ.out.set_ 0 _).set_ 1 _).set_ 2 _).set_ 3 _) Tryz.underlying28 rfl (by kernel_rfl))) rfl ?_;refine ⟨.inl ⟨.inr HNO.out,rfl⟩,?_⟩;rw[←HQ0.out];exact (((HBZW.out.setCell (p:=⟨q,0,none⟩) (Nat.le_refl _) _).setCell (p:=⟨q,1,none⟩) (Nat.le_refl _) _).setCell (p:=⟨q,2,none⟩) (Nat.le_refl _) _).setCell (p:=⟨q,3,none⟩) (Nat.le_refl _) _
   | true=>
    have h0e:(if true=true then (0:Int) else 190)=0:=rfl;rw[h0e];have z0:=HBX5.out.cell 0;simp at z0;have zl:=HBX5.out.lt;rcases Int.decEq xr r0 with hxr | hxr
    ·have d1:(xr != r0)=true:=bne_iff_ne.2 hxr;have d2:(xr == r0)=false:=beq_eq_false_iff_ne.2 hxr;have d3:decide (xr=r0)=false:=decide_eq_false hxr;refine Kah (by kernel_rfl) (by kernel_rfl) ?_
     repeat (go_big_quiet_step (fail))
     refine wpQuiet_nil ?_;rintro wz ⟨⟨_,hbz⟩,rfl⟩;have HQZ:=Jh (HQ5.out.below hbz HQ5.out.lt);have HBZW:Hid (Below q w wz):=HQW5.out.1.trans (hbz.mono HQW5.out.2);have HNO:Hid (okAll cs=false):=HBAD.out (.inr hxr);clear hbz;have g0:=HQZ.out.cell 0;have g1:=HQZ.out.cell 1;have g2:=HQZ.out.cell 2;have g3:=HQZ.out.cell 3;simp at g0 g1 g2 g3;have f0:=HQZ.out.frozen 0;have f1:=HQZ.out.frozen 1;have f2:=HQZ.out.frozen 2;have f3:=HQZ.out.frozen 3;have gl:=HQZ.out.lt;go_wp2_with fail
     (try simp only[Exit.inBlock,Exit.then])
     refine bodyPost_ret (Kcu rfl _ _ ⟨q,0,none⟩ (.agg #[.int .i64 0,.int .i64 0,.int .i64 0,.slice none 0 0]) rfl (run_loadVar_row _ q 28 28 _ (0,0) _ ((((HQZ.out.set_ 0 _).set_ 1 _).set_ 2 _).set_ 3 _) Tryz.underlying28 rfl (by kernel_rfl))) rfl ?_;refine ⟨.inl ⟨.inr HNO.out,rfl⟩,?_⟩;rw[←HQ0.out];exact (((HBZW.out.setCell (p:=⟨q,0,none⟩) (Nat.le_refl _) _).setCell (p:=⟨q,1,none⟩) (Nat.le_refl _) _).setCell (p:=⟨q,2,none⟩) (Nat.le_refl _) _).setCell (p:=⟨q,3,none⟩) (Nat.le_refl _) _
    ·have HOKN:Hid (okFor r0 (cs.take (i+1))=true):=by
      show _=true
      have h1:=HOK.out;unfold okFor at h1 ⊢;rw[HTK.out,List.all_append,h1,List.all_cons,List.all_nil,←HWF.out,HX1.out.1,hxr];simp
     subst hxr;have d1:(xr != xr)=false:=by simp
     refine Kah (by kernel_rfl) (by kernel_rfl) ?_
     repeat (go_big_quiet_step (fail))
     refine wpQuiet_nil ?_;rintro wz ⟨⟨_,hbz⟩,rfl⟩;have HBX6:Hid (Blk wz p9 28 #[.int .i64 xr,.int .i64 xf,.int .i64 xt,.slice hA hn_ hc_]):=HBX5.out.below hbz HBX5.out.lt;have HQ6:=Jh (HQ5.out.below hbz HQ5.out.lt);have HO6:=Jh (HO5.out.below hbz HO5.out.lt);have HR6:Hid (wz.ownsRow (q+2) 26 1 (.slice A7 i c7) i (((xs.take i).map CH.h).flatMap Kbt)):=Kaq HR5.out hbz;have HW6:Hid (Below q w wz∧q+2≤wz.heap.size):=⟨HQW5.out.1.trans (hbz.mono HQW5.out.2),by have h1:=HZ.out;have h2:=HB5.out.size;have h3:=hbz.size;omega⟩;clear hbz HBX5 HQ5 HO5 HR5 HQW5 HB5 HZ hc5 hb05 z0 zl HBAD;rcases Nat.eq_zero_or_pos i with h0 | h0
     ·have di:((i:Int) == 0)=true:=by rw[beq_iff_eq];omega
      have HOUT:Hid (outC (cs.take (i+1))=(xr,min xf xf,max xt xt)):=by
       show _=_
       rw[HTK.out,h0,List.take_zero,List.nil_append];show (cc.res,cc.frm,cc.to_)=_
       rw[HX1.out.1,HX1.out.2.1,HX1.out.2.2];simp
      have e0:=HBX6.out.cell 0;have e1:=HBX6.out.cell 1;have e2:=HBX6.out.cell 2;simp at e0 e1 e2;have el:=HBX6.out.lt;have g0:=HO6.out.cell 0;have g1:=HO6.out.cell 1;have g2:=HO6.out.cell 2;have g3:=HO6.out.cell 3;simp at g0 g1 g2 g3;have f0:=HO6.out.frozen 0;have f1:=HO6.out.frozen 1;have f2:=HO6.out.frozen 2;have f3:=HO6.out.frozen 3;have gl:=HO6.out.lt;go_upto_region 11 with fail
      obtain ⟨wj,hwj⟩:∃x,x=(((wz.setCell ⟨q+1,0,none⟩ (.int .i64 xr)).setCell ⟨q+1,1,none⟩ (.int .i64 xf)).setCell ⟨q+1,2,none⟩ (.int .i64 xt)).setCell ⟨q+1,3,none⟩ (.slice none 0 0):=⟨_,rfl⟩;have hqq:∀o,(⟨q+1,o,none⟩:Addr).block=q+1:=fun _=>rfl
      have HOW:Hid (Blk wj (q+1) 28 #[.int .i64 xr,.int .i64 xf,.int .i64 xt,.slice none 0 0]):=by show Blk _ _ _ _;rw[hwj];exact (((HO6.out.set_ 0 _).set_ 1 _).set_ 2 _).set_ 3 _
      have HBW2:Hid (Blk wj p9 28 #[.int .i64 xr,.int .i64 xf,.int .i64 xt,.slice hA hn_ hc_]):=by show Blk _ _ _ _;rw[hwj];exact (((HBX6.out.far HPN.out.2.1 _).far HPN.out.2.1 _).far HPN.out.2.1 _).far HPN.out.2.1 _
      have HQW2:Hid (Blk wj q 28 #[.int .i64 0,.int .i64 0,.int .i64 0,.slice none 0 0]):=by show Blk _ _ _ _;rw[hwj];exact (((HQ6.out.far (p:=⟨q+1,0,none⟩) (by show q≠q+1;omega) _).far (p:=⟨q+1,1,none⟩) (by show q≠q+1;omega) _).far (p:=⟨q+1,2,none⟩) (by show q≠q+1;omega) _).far (p:=⟨q+1,3,none⟩) (by show q≠q+1;omega) _
      have HRW2:Hid (wj.ownsRow (q+2) 26 1 (.slice A7 i c7) i (((xs.take i).map CH.h).flatMap Kbt)):=by
       show World.ownsRow _ _ _ _ _ _ _
       rw[hwj];exact Kbp (Kbp (Kbp (Kbp HR6.out HO6.out (by decide)) (HO6.out.set_ 0 _) (by decide)) ((HO6.out.set_ 0 _).set_ 1 _) (by decide)) (((HO6.out.set_ 0 _).set_ 1 _).set_ 2 _) (by decide)
      have HW2:Hid (Below q w wj∧q+2≤wj.heap.size):=by
       show _∧_
       rw[hwj];exact ⟨(((HW6.out.1.setCell (p:=⟨q+1,0,none⟩) (Nat.le_succ q) _).setCell (p:=⟨q+1,1,none⟩) (Nat.le_succ q) _).setCell (p:=⟨q+1,2,none⟩) (Nat.le_succ q) _).setCell (p:=⟨q+1,3,none⟩) (Nat.le_succ q) _,by simpa[World.setCell] using HW6.out.2⟩
      try rw[←hwj]
      clear hwj e0 e1 e2 el g0 g1 g2 g3 f0 f1 f2 f3 gl HBX6 HQ6 HO6 HR6 HW6 h0 di hqq;obtain ⟨ro,hro⟩:∃x,x=xr:=⟨_,rfl⟩;obtain ⟨fo,hfo⟩:∃x,x=xf:=⟨_,rfl⟩;obtain ⟨to_,hto⟩:∃x,x=xt:=⟨_,rfl⟩;have HOW0:Hid (Blk wj (q+1) 28 #[.int .i64 ro,.int .i64 fo,.int .i64 to_,.slice none 0 0]):=by show Blk _ _ _ _;rw[hro,hfo,hto];exact HOW.out
      have HOUT0:Hid (outC (cs.take (i+1))=(ro,min fo xf,max to_ xt)):=by show _=_;rw[hro,hfo,hto];exact HOUT.out
      clear HOW HOUT hro hfo hto;have HOW:=Jh HOW0.out;have HOUT:=Jh HOUT0.out;clear HOW0 HOUT0;have hoy:Blk wj.drew (q+1) 28 #[.int .i64 ro,.int .i64 fo,.int .i64 to_,.slice none 0 0]:=HOW.out;have HOY:=Jh hoy;have HBY:Hid (Blk wj.drew p9 28 #[.int .i64 xr,.int .i64 xf,.int .i64 xt,.slice hA hn_ hc_]):=HBW2.out;have HQY:Hid (Blk wj.drew q 28 #[.int .i64 0,.int .i64 0,.int .i64 0,.slice none 0 0]):=HQW2.out;have HRY:Hid (wj.drew.ownsRow (q+2) 26 1 (.slice A7 i c7) i (((xs.take i).map CH.h).flatMap Kbt)):=Kaq HRW2.out (Below.refl _ _).drew;have HBWY:Hid (Below q w wj.drew∧q+2≤wj.drew.heap.size):=⟨HW2.out.1.drew,HW2.out.2⟩;have o1:wj.drew.cell? ⟨q+1,1,none⟩=some (.int .i64 fo):=hoy.cell 1;have o2:wj.drew.cell? ⟨q+1,2,none⟩=some (.int .i64 to_):=hoy.cell 2;have b1:wj.drew.cell? ⟨p9,1,none⟩=some (.int .i64 xf):=HBY.out.cell 1;have b2:wj.drew.cell? ⟨p9,2,none⟩=some (.int .i64 xt):=HBY.out.cell 2;have f1:=hoy.frozen 1;have hk1:=hoy.set_ 1 (.int .i64 (min fo xf));have f2:=hk1.frozen 2;have o3:(wj.drew.setCell ⟨q+1,1,none⟩ (.int .i64 (min fo xf))).cell? ⟨q+1,2,none⟩=some (.int .i64 to_):=hk1.cell 2;have b3:(wj.drew.setCell ⟨q+1,1,none⟩ (.int .i64 (min fo xf))).cell? ⟨p9,2,none⟩=some (.int .i64 xt):=(HBY.out.far HPN.out.2.1 _).cell 2;have hS:wj.drew.cell? ⟨q+1,2,none⟩=some (.int .i64 to_)∧wj.drew.cell? ⟨p9,2,none⟩=some (.int .i64 xt):=⟨o2,b2⟩;have hS2:(wj.drew.setCell ⟨q+1,1,none⟩ (.int .i64 (min fo xf))).cell? ⟨q+1,2,none⟩=some (.int .i64 to_)∧(wj.drew.setCell ⟨q+1,1,none⟩ (.int .i64 (min fo xf))).cell? ⟨p9,2,none⟩=some (.int .i64 xt):=⟨o3,b3⟩;clear hoy hk1 HOW HBW2 HQW2 HRW2 HW2;refine Kcd (fun w'=>w'.cell? ⟨q+1,2,none⟩=some (.int .i64 to_)∧w'.cell? ⟨p9,2,none⟩=some (.int .i64 xt)) 13 14 (by kernel_rfl) rfl ?_;rw[show Array.replicate 14 false = #[false,false,false,false,false,false,false,false,false,false,false,false,false,false] from rfl];obtain ⟨wy,hwy⟩:∃x,x=wj.drew:=⟨_,rfl⟩;rw[←hwy] at HOY HBY HQY HRY HBWY o1 o2 o3 b1 b2 b3 f1 f2 hS hS2 ⊢;clear hwy;refine Kaa (i:=0) (d:=some 45) rfl rfl (by kernel_rfl) (by kernel_rfl) (by kernel_rfl) rfl (fun _ _ _ h=>h) (by rfl) (fun w=>by go_simp;try rfl) (fun _=>hS) ?_;simp only[Act.put,Ja,Jb,Jc];refine Kaa (i:=2) (d:=some 47) rfl rfl (by kernel_rfl) (by kernel_rfl) (by kernel_rfl) rfl (fun _ _ _ h=>h) (by rfl) (fun w=>by go_simp;try rfl) (fun _=>hS) ?_;simp only[Act.put,Ja,Jb,Jc];refine Kaa (i:=5) (d:=some 50) rfl rfl (by kernel_rfl) (by kernel_rfl) (by kernel_rfl) rfl (fun _ _ _ h=>h) (by rfl) (fun w=>by go_simp;try rfl) (fun _=>hS) ?_;simp only[Act.put,Ja,Jb,Jc];refine Kaa (i:=7) (d:=some 52) rfl rfl (by kernel_rfl) (by kernel_rfl) (by kernel_rfl) rfl (fun _ _ _ h=>h) (by rfl) (fun w=>by go_simp;try rfl) (fun _=>hS) ?_;simp only[Act.put,Ja,Jb,Jc];refine Kbd (i:=6) (d:=some 51) rfl rfl (by kernel_rfl) (by kernel_rfl) (by kernel_rfl) (by kernel_rfl) rfl (fun _ _ _ h=>h) (.inl ⟨by rfl,fun w hw=>by (obtain ⟨ha,hb⟩:=hw;go_simp;try rfl)⟩) hS ?_;simp only[Act.put,Ja,Jb,Jc];refine Kbd (i:=8) (d:=some 53) rfl rfl (by kernel_rfl) (by kernel_rfl) (by kernel_rfl) (by kernel_rfl) rfl (fun _ _ _ h=>h) (.inl ⟨by rfl,fun w hw=>by (obtain ⟨ha,hb⟩:=hw;go_simp;try rfl)⟩) hS ?_;simp only[Act.put,Ja,Jb,Jc]
      refine Kaa (i:=9) (d:=some 54) rfl rfl (by kernel_rfl) (by kernel_rfl) (by kernel_rfl) rfl (fun _ _ _ h=>h) (by rfl) (fun w=>by go_simp;try rfl) (fun _=>hS) ?_;simp only[Act.put,Ja,Jb,Jc];refine Kfg (i:=1) (j:=3) (by kernel_rfl) rfl rfl rfl rfl ?_ ?_
      ·refine Oper.wp_ran (d:=some 46) (w':=wy) (v:=.int .i64 fo) rfl (by go_simp;try rfl) ?_;refine ⟨fun _=>hS,?_⟩;simp only[Act.put,Ja,Jb,Jc];refine Kac (i:=3) (by kernel_rfl) rfl rfl ?_;refine Oper.wp_ran (d:=some 48) (w':=wy) (v:=.int .i64 xf) rfl (by go_simp;try rfl) ?_;refine ⟨fun _=>hS,?_⟩;simp only[Act.put,Ja,Jb,Jc];refine Kaa (i:=4) (d:=some 49) rfl rfl (by kernel_rfl) (by kernel_rfl) (by kernel_rfl) rfl (fun _ _ _ h=>h) (by rfl) (fun w=>by go_simp;try rfl) (fun _=>hS) ?_;simp only[Act.put,Ja,Jb,Jc];refine Kaa (i:=10) (d:=some 55) rfl rfl (by kernel_rfl) (by kernel_rfl) (by kernel_rfl) rfl (fun _ _ _ h=>h) (by rfl) (fun w=>by go_simp;try rfl) (fun _=>hS) ?_;simp only[Act.put,Ja,Jb,Jc];refine Kac (i:=11) (by kernel_rfl) rfl rfl ?_;refine Oper.wp_skipped (w':=wy.setCell ⟨q+1,1,none⟩ (.int .i64 (min fo xf))) rfl (by go_simp;try rfl) ?_;refine ⟨fun _=>hS2,?_⟩;simp only[Act.put,Ja,Jb,Jc];refine Kaa (i:=12) (d:=some 56) rfl rfl (by kernel_rfl) (by kernel_rfl) (by kernel_rfl) rfl (fun _ _ _ h=>h) (by rfl) (fun w=>by go_simp;try rfl) (fun _=>hS2) ?_;simp only[Act.put,Ja,Jb,Jc];refine Kac (i:=13) (by kernel_rfl) rfl rfl ?_;refine Oper.wp_skipped (w':=(wy.setCell ⟨q+1,1,none⟩ (.int .i64 (min fo xf))).setCell ⟨q+1,2,none⟩ (.int .i64 (max to_ xt))) rfl (by go_simp;try rfl) ?_;refine ⟨fun h=>absurd h (by decide),?_⟩;refine Kbh (by kernel_rfl) ?_ _;obtain ⟨wv,hwv⟩:∃x,x=(wy.setCell ⟨q+1,1,none⟩ (.int .i64 (min fo xf))).setCell ⟨q+1,2,none⟩ (.int .i64 (max to_ xt)):=⟨_,rfl⟩;have HOV:Hid (Blk wv (q+1) 28 #[.int .i64 ro,.int .i64 (min fo xf),.int .i64 (max to_ xt),.slice none 0 0]):=by show Blk _ _ _ _;rw[hwv];exact (HOY.out.set_ 1 _).set_ 2 _
       have HBV:Hid (Blk wv p9 28 #[.int .i64 xr,.int .i64 xf,.int .i64 xt,.slice hA hn_ hc_]):=by show Blk _ _ _ _;rw[hwv];exact (HBY.out.far HPN.out.2.1 _).far HPN.out.2.1 _
       have HQV:Hid (Blk wv q 28 #[.int .i64 0,.int .i64 0,.int .i64 0,.slice none 0 0]):=by show Blk _ _ _ _;rw[hwv];exact (HQY.out.far (p:=⟨q+1,1,none⟩) (by show q≠q+1;omega) _).far (p:=⟨q+1,2,none⟩) (by show q≠q+1;omega) _
       have HRV:Hid (wv.ownsRow (q+2) 26 1 (.slice A7 i c7) i (((xs.take i).map CH.h).flatMap Kbt)):=by
        show World.ownsRow _ _ _ _ _ _ _
        rw[hwv];exact Kbp (Kbp HRY.out HOY.out (by decide)) (HOY.out.set_ 1 _) (by decide)
       have HWV:Hid (Below q w wv∧q+2≤wv.heap.size):=by
        show _∧_
        rw[hwv];exact ⟨(HBWY.out.1.setCell (p:=⟨q+1,1,none⟩) (Nat.le_succ q) _).setCell (p:=⟨q+1,2,none⟩) (Nat.le_succ q) _,by simpa[World.setCell] using HBWY.out.2⟩
       rw[←hwv];clear hwv HOY HBY HQY HRY HBWY hS hS2 o1 o2 o3 b1 b2 b3 f1 f2;have b3:=HBV.out.cell 3;simp at b3;have bl:=HBV.out.lt;obtain ⟨i1,hi1,hz0,hz1,hz2⟩:=info_parts Kgj;obtain ⟨w6,hw6⟩:∃y,y=wv.alloc (.cells #[.slice hA hn_ hc_] 26):=⟨_,rfl⟩;have hb6:Below wv.heap.size wv w6:=by rw[hw6];exact (Below.refl _ _).alloc (Nat.le_refl _) _
       have hnew6:Blk w6 wv.heap.size 26 #[.slice hA hn_ hc_]:=by rw[hw6];exact Blk.new _ _ _
       have hrow6:w6.ownsRow (q+2) 26 1 (.slice A7 i c7) i (((xs.take i).map CH.h).flatMap Kbt):=Kaq HRV.out hb6;have HROW6:=Jh hrow6;have HB6:=Jh hb6;have hz6:q+2≤w6.heap.size:=Nat.le_trans HWV.out.2 hb6.size;clear hb6;go_wp2_with (at_builtin;(try rw[←hw6]);refine wpList_append_own_at _ rfl _ _ 80 rfl (q+2) 26 i1 (.slice none 0 0) 1 24 Tryz.underlying80 hi1 hz0 hz1 hz2 rfl (by decide) (.slice A7 i c7) i _ rfl hrow6 ⟨wv.heap.size,0,none⟩ 1 1 [.slice hA hn_ hc_] rfl rfl (Kav (l:=[.slice hA hn_ hc_]) hnew6) ?p2 ?p3 ?p4 ?p5 ?_)
       case p2=>rfl
       case p3=>unfold maxLen;omega
       case p4=>omega
       case p5=>have:=HWV.out.2;omega
       intro v9 w9 hown' hgrow _ _;rw[←hw6] at hgrow;have hlow:∀k,(Value.slice A7 i c7).ownBlock=some k→q+2≤k:=fun k hk=>(HROW6.out.lt k hk).1
       have HBN:Hid (Below q w w9):=(HWV.out.1.trans (HB6.out.mono (by have:=HWV.out.2;omega))).grown hgrow (by omega) (fun k hk=>by have:=hlow k hk;omega);have HQN:Hid (Blk w9 q 28 #[.int .i64 0,.int .i64 0,.int .i64 0,.slice none 0 0]):=(HQV.out.below HB6.out HQV.out.lt).grown hgrow (Kag (HQV.out.below HB6.out HQV.out.lt) HROW6.out (by decide))
       have HON:Hid (Blk w9 (q+1) 28 #[.int .i64 (outC (cs.take (i+1))).1,.int .i64 (outC (cs.take (i+1))).2.1,.int .i64 (outC (cs.take (i+1))).2.2,.slice none 0 0]):=by
        show Blk _ _ _ _
        rw[HOUT.out];exact (HOV.out.below HB6.out HOV.out.lt).grown hgrow (Kag (HOV.out.below HB6.out HOV.out.lt) HROW6.out (by decide))
       have HRN:Hid (w9.ownsRow (q+2) 26 1 v9 (i+1) (((xs.take (i+1)).map CH.h).flatMap Kbt)):=by
        show World.ownsRow _ _ _ _ _ _ _
        rw[HTX.out,List.flatMap_append,List.flatMap_singleton,List.map_take];exact hown'
       have HZN:Hid (q+2≤w9.heap.size):=Nat.le_trans hz6 hgrow.size;clear hown' hgrow hlow hrow6 hnew6 HROW6 HB6 hw6 hz6 HOV HBV HQV HRV HWV b3 bl hi1 hz0 hz1 hz2 HOUT;go_wp2_with fail
       go_roundg (n - (i+1))
       case measure=>omega
       case rel=>exact ⟨i+1,by first | rfl | go_num,by omega,HBN,HQN,HON,HRN,HOKN,HZN⟩
      ·refine Oper.wp_ran (d:=some 48) (w':=wy) (v:=.int .i64 xf) rfl (by go_simp;try rfl) ?_;refine ⟨fun _=>hS,?_⟩;simp only[Act.put,Ja,Jb,Jc];refine Kac (i:=1) (by kernel_rfl) rfl rfl ?_;refine Oper.wp_ran (d:=some 46) (w':=wy) (v:=.int .i64 fo) rfl (by go_simp;try rfl) ?_;refine ⟨fun _=>hS,?_⟩;simp only[Act.put,Ja,Jb,Jc];refine Kaa (i:=4) (d:=some 49) rfl rfl (by kernel_rfl) (by kernel_rfl) (by kernel_rfl) rfl (fun _ _ _ h=>h) (by rfl) (fun w=>by go_simp;try rfl) (fun _=>hS) ?_;simp only[Act.put,Ja,Jb,Jc];refine Kaa (i:=10) (d:=some 55) rfl rfl (by kernel_rfl) (by kernel_rfl) (by kernel_rfl) rfl (fun _ _ _ h=>h) (by rfl) (fun w=>by go_simp;try rfl) (fun _=>hS) ?_;simp only[Act.put,Ja,Jb,Jc];refine Kac (i:=11) (by kernel_rfl) rfl rfl ?_;refine Oper.wp_skipped (w':=wy.setCell ⟨q+1,1,none⟩ (.int .i64 (min fo xf))) rfl (by go_simp;try rfl) ?_;refine ⟨fun _=>hS2,?_⟩;simp only[Act.put,Ja,Jb,Jc];refine Kaa (i:=12) (d:=some 56) rfl rfl (by kernel_rfl) (by kernel_rfl) (by kernel_rfl) rfl (fun _ _ _ h=>h) (by rfl) (fun w=>by go_simp;try rfl) (fun _=>hS2) ?_;simp only[Act.put,Ja,Jb,Jc];refine Kac (i:=13) (by kernel_rfl) rfl rfl ?_;refine Oper.wp_skipped (w':=(wy.setCell ⟨q+1,1,none⟩ (.int .i64 (min fo xf))).setCell ⟨q+1,2,none⟩ (.int .i64 (max to_ xt))) rfl (by go_simp;try rfl) ?_;refine ⟨fun h=>absurd h (by decide),?_⟩;refine Kbh (by kernel_rfl) ?_ _;obtain ⟨wv,hwv⟩:∃x,x=(wy.setCell ⟨q+1,1,none⟩ (.int .i64 (min fo xf))).setCell ⟨q+1,2,none⟩ (.int .i64 (max to_ xt)):=⟨_,rfl⟩;have HOV:Hid (Blk wv (q+1) 28 #[.int .i64 ro,.int .i64 (min fo xf),.int .i64 (max to_ xt),.slice none 0 0]):=by show Blk _ _ _ _;rw[hwv];exact (HOY.out.set_ 1 _).set_ 2 _
       have HBV:Hid (Blk wv p9 28 #[.int .i64 xr,.int .i64 xf,.int .i64 xt,.slice hA hn_ hc_]):=by show Blk _ _ _ _;rw[hwv];exact (HBY.out.far HPN.out.2.1 _).far HPN.out.2.1 _
       have HQV:Hid (Blk wv q 28 #[.int .i64 0,.int .i64 0,.int .i64 0,.slice none 0 0]):=by show Blk _ _ _ _;rw[hwv];exact (HQY.out.far (p:=⟨q+1,1,none⟩) (by show q≠q+1;omega) _).far (p:=⟨q+1,2,none⟩) (by show q≠q+1;omega) _
       have HRV:Hid (wv.ownsRow (q+2) 26 1 (.slice A7 i c7) i (((xs.take i).map CH.h).flatMap Kbt)):=by
        show World.ownsRow _ _ _ _ _ _ _
        rw[hwv];exact Kbp (Kbp HRY.out HOY.out (by decide)) (HOY.out.set_ 1 _) (by decide)
       have HWV:Hid (Below q w wv∧q+2≤wv.heap.size):=by
        show _∧_
        rw[hwv];exact ⟨(HBWY.out.1.setCell (p:=⟨q+1,1,none⟩) (Nat.le_succ q) _).setCell (p:=⟨q+1,2,none⟩) (Nat.le_succ q) _,by simpa[World.setCell] using HBWY.out.2⟩
       rw[←hwv];clear hwv HOY HBY HQY HRY HBWY hS hS2 o1 o2 o3 b1 b2 b3 f1 f2;have b3:=HBV.out.cell 3;simp at b3;have bl:=HBV.out.lt;obtain ⟨i1,hi1,hz0,hz1,hz2⟩:=info_parts Kgj;obtain ⟨w6,hw6⟩:∃y,y=wv.alloc (.cells #[.slice hA hn_ hc_] 26):=⟨_,rfl⟩;have hb6:Below wv.heap.size wv w6:=by rw[hw6];exact (Below.refl _ _).alloc (Nat.le_refl _) _
       have hnew6:Blk w6 wv.heap.size 26 #[.slice hA hn_ hc_]:=by rw[hw6];exact Blk.new _ _ _
       have hrow6:w6.ownsRow (q+2) 26 1 (.slice A7 i c7) i (((xs.take i).map CH.h).flatMap Kbt):=Kaq HRV.out hb6;have HROW6:=Jh hrow6;have HB6:=Jh hb6;have hz6:q+2≤w6.heap.size:=Nat.le_trans HWV.out.2 hb6.size;clear hb6;go_wp2_with (at_builtin;(try rw[←hw6]);refine wpList_append_own_at _ rfl _ _ 80 rfl (q+2) 26 i1 (.slice none 0 0) 1 24 Tryz.underlying80 hi1 hz0 hz1 hz2 rfl (by decide) (.slice A7 i c7) i _ rfl hrow6 ⟨wv.heap.size,0,none⟩ 1 1 [.slice hA hn_ hc_] rfl rfl (Kav (l:=[.slice hA hn_ hc_]) hnew6) ?p2 ?p3 ?p4 ?p5 ?_)
       case p2=>rfl
       case p3=>unfold maxLen;omega
       case p4=>omega
       case p5=>have:=HWV.out.2;omega
       intro v9 w9 hown' hgrow _ _;rw[←hw6] at hgrow;have hlow:∀k,(Value.slice A7 i c7).ownBlock=some k→q+2≤k:=fun k hk=>(HROW6.out.lt k hk).1
       have HBN:Hid (Below q w w9):=(HWV.out.1.trans (HB6.out.mono (by have:=HWV.out.2;omega))).grown hgrow (by omega) (fun k hk=>by have:=hlow k hk;omega);have HQN:Hid (Blk w9 q 28 #[.int .i64 0,.int .i64 0,.int .i64 0,.slice none 0 0]):=(HQV.out.below HB6.out HQV.out.lt).grown hgrow (Kag (HQV.out.below HB6.out HQV.out.lt) HROW6.out (by decide))
       have HON:Hid (Blk w9 (q+1) 28 #[.int .i64 (outC (cs.take (i+1))).1,.int .i64 (outC (cs.take (i+1))).2.1,.int .i64 (outC (cs.take (i+1))).2.2,.slice none 0 0]):=by
        show Blk _ _ _ _
        rw[HOUT.out];exact (HOV.out.below HB6.out HOV.out.lt).grown hgrow (Kag (HOV.out.below HB6.out HOV.out.lt) HROW6.out (by decide))
       have HRN:Hid (w9.ownsRow (q+2) 26 1 v9 (i+1) (((xs.take (i+1)).map CH.h).flatMap Kbt)):=by
        show World.ownsRow _ _ _ _ _ _ _
        rw[HTX.out,List.flatMap_append,List.flatMap_singleton,List.map_take];exact hown'
       have HZN:Hid (q+2≤w9.heap.size):=Nat.le_trans hz6 hgrow.size;clear hown' hgrow hlow hrow6 hnew6 HROW6 HB6 hw6 hz6 HOV HBV HQV HRV HWV b3 bl hi1 hz0 hz1 hz2 HOUT;go_wp2_with fail
       go_roundg (n - (i+1))
       case measure=>omega
       case rel=>exact ⟨i+1,by first | rfl | go_num,by omega,HBN,HQN,HON,HRN,HOKN,HZN⟩
     ·have di:((i:Int) == 0)=false:=beq_eq_false_iff_ne.2 (by omega);have di2:¬(i:Int)=0:=by omega
      obtain ⟨ro,hro⟩:∃x,x=(outC (cs.take i)).1:=⟨_,rfl⟩;obtain ⟨fo,hfo⟩:∃x,x=(outC (cs.take i)).2.1:=⟨_,rfl⟩;obtain ⟨to_,hto⟩:∃x,x=(outC (cs.take i)).2.2:=⟨_,rfl⟩
      have HOUT:Hid (outC (cs.take (i+1))=(ro,min fo xf,max to_ xt)):=by
       show _=_
       rw[HTK.out,Qay _ _ (fun e=>by
        have h1:=congrArg List.length e;rw[List.length_take,HH.out.l] at h1;simp at h1
        omega),HX1.out.2.1,HX1.out.2.2,hro,hfo,hto]
      have HOW:Hid (Blk wz (q+1) 28 #[.int .i64 ro,.int .i64 fo,.int .i64 to_,.slice none 0 0]):=by show Blk _ _ _ _;rw[hro,hfo,hto];exact HO6.out
      have HBW2:=Jh HBX6.out;have HQW2:=Jh HQ6.out;have HRW2:=Jh HR6.out;have HW2:=Jh HW6.out;clear hro hfo hto HBX6 HQ6 HO6 HR6 HW6;go_upto_region 11 with fail
      clear h0 di di2;have hoy:Blk wz.drew (q+1) 28 #[.int .i64 ro,.int .i64 fo,.int .i64 to_,.slice none 0 0]:=HOW.out;have HOY:=Jh hoy;have HBY:Hid (Blk wz.drew p9 28 #[.int .i64 xr,.int .i64 xf,.int .i64 xt,.slice hA hn_ hc_]):=HBW2.out;have HQY:Hid (Blk wz.drew q 28 #[.int .i64 0,.int .i64 0,.int .i64 0,.slice none 0 0]):=HQW2.out;have HRY:Hid (wz.drew.ownsRow (q+2) 26 1 (.slice A7 i c7) i (((xs.take i).map CH.h).flatMap Kbt)):=Kaq HRW2.out (Below.refl _ _).drew;have HBWY:Hid (Below q w wz.drew∧q+2≤wz.drew.heap.size):=⟨HW2.out.1.drew,HW2.out.2⟩;have o1:wz.drew.cell? ⟨q+1,1,none⟩=some (.int .i64 fo):=hoy.cell 1;have o2:wz.drew.cell? ⟨q+1,2,none⟩=some (.int .i64 to_):=hoy.cell 2;have b1:wz.drew.cell? ⟨p9,1,none⟩=some (.int .i64 xf):=HBY.out.cell 1;have b2:wz.drew.cell? ⟨p9,2,none⟩=some (.int .i64 xt):=HBY.out.cell 2;have f1:=hoy.frozen 1;have hk1:=hoy.set_ 1 (.int .i64 (min fo xf));have f2:=hk1.frozen 2;have o3:(wz.drew.setCell ⟨q+1,1,none⟩ (.int .i64 (min fo xf))).cell? ⟨q+1,2,none⟩=some (.int .i64 to_):=hk1.cell 2;have b3:(wz.drew.setCell ⟨q+1,1,none⟩ (.int .i64 (min fo xf))).cell? ⟨p9,2,none⟩=some (.int .i64 xt):=(HBY.out.far HPN.out.2.1 _).cell 2;have hS:wz.drew.cell? ⟨q+1,2,none⟩=some (.int .i64 to_)∧wz.drew.cell? ⟨p9,2,none⟩=some (.int .i64 xt):=⟨o2,b2⟩;have hS2:(wz.drew.setCell ⟨q+1,1,none⟩ (.int .i64 (min fo xf))).cell? ⟨q+1,2,none⟩=some (.int .i64 to_)∧(wz.drew.setCell ⟨q+1,1,none⟩ (.int .i64 (min fo xf))).cell? ⟨p9,2,none⟩=some (.int .i64 xt):=⟨o3,b3⟩;clear hoy hk1 HOW HBW2 HQW2 HRW2 HW2;refine Kcd (fun w'=>w'.cell? ⟨q+1,2,none⟩=some (.int .i64 to_)∧w'.cell? ⟨p9,2,none⟩=some (.int .i64 xt)) 13 14 (by kernel_rfl) rfl ?_;rw[show Array.replicate 14 false = #[false,false,false,false,false,false,false,false,false,false,false,false,false,false] from rfl];obtain ⟨wy,hwy⟩:∃x,x=wz.drew:=⟨_,rfl⟩;rw[←hwy] at HOY HBY HQY HRY HBWY o1 o2 o3 b1 b2 b3 f1 f2 hS hS2 ⊢;clear hwy;refine Kaa (i:=0) (d:=some 45) rfl rfl (by kernel_rfl) (by kernel_rfl) (by kernel_rfl) rfl (fun _ _ _ h=>h) (by rfl) (fun w=>by go_simp;try rfl) (fun _=>hS) ?_;simp only[Act.put,Ja,Jb,Jc];refine Kaa (i:=2) (d:=some 47) rfl rfl (by kernel_rfl) (by kernel_rfl) (by kernel_rfl) rfl (fun _ _ _ h=>h) (by rfl) (fun w=>by go_simp;try rfl) (fun _=>hS) ?_;simp only[Act.put,Ja,Jb,Jc];refine Kaa (i:=5) (d:=some 50) rfl rfl (by kernel_rfl) (by kernel_rfl) (by kernel_rfl) rfl (fun _ _ _ h=>h) (by rfl) (fun w=>by go_simp;try rfl) (fun _=>hS) ?_;simp only[Act.put,Ja,Jb,Jc];refine Kaa (i:=7) (d:=some 52) rfl rfl (by kernel_rfl) (by kernel_rfl) (by kernel_rfl) rfl (fun _ _ _ h=>h) (by rfl) (fun w=>by go_simp;try rfl) (fun _=>hS) ?_;simp only[Act.put,Ja,Jb,Jc];refine Kbd (i:=6) (d:=some 51) rfl rfl (by kernel_rfl) (by kernel_rfl) (by kernel_rfl) (by kernel_rfl) rfl (fun _ _ _ h=>h) (.inl ⟨by rfl,fun w hw=>by (obtain ⟨ha,hb⟩:=hw;go_simp;try rfl)⟩) hS ?_;simp only[Act.put,Ja,Jb,Jc];refine Kbd (i:=8) (d:=some 53) rfl rfl (by kernel_rfl) (by kernel_rfl) (by kernel_rfl) (by kernel_rfl) rfl (fun _ _ _ h=>h) (.inl ⟨by rfl,fun w hw=>by (obtain ⟨ha,hb⟩:=hw;go_simp;try rfl)⟩) hS ?_;simp only[Act.put,Ja,Jb,Jc];refine Kaa (i:=9) (d:=some 54) rfl rfl (by kernel_rfl) (by kernel_rfl) (by kernel_rfl) rfl (fun _ _ _ h=>h) (by rfl) (fun w=>by go_simp;try rfl) (fun _=>hS) ?_
      simp only[Act.put,Ja,Jb,Jc];refine Kfg (i:=1) (j:=3) (by kernel_rfl) rfl rfl rfl rfl ?_ ?_
      ·refine Oper.wp_ran (d:=some 46) (w':=wy) (v:=.int .i64 fo) rfl (by go_simp;try rfl) ?_;refine ⟨fun _=>hS,?_⟩;simp only[Act.put,Ja,Jb,Jc];refine Kac (i:=3) (by kernel_rfl) rfl rfl ?_;refine Oper.wp_ran (d:=some 48) (w':=wy) (v:=.int .i64 xf) rfl (by go_simp;try rfl) ?_;refine ⟨fun _=>hS,?_⟩;simp only[Act.put,Ja,Jb,Jc];refine Kaa (i:=4) (d:=some 49) rfl rfl (by kernel_rfl) (by kernel_rfl) (by kernel_rfl) rfl (fun _ _ _ h=>h) (by rfl) (fun w=>by go_simp;try rfl) (fun _=>hS) ?_;simp only[Act.put,Ja,Jb,Jc];refine Kaa (i:=10) (d:=some 55) rfl rfl (by kernel_rfl) (by kernel_rfl) (by kernel_rfl) rfl (fun _ _ _ h=>h) (by rfl) (fun w=>by go_simp;try rfl) (fun _=>hS) ?_;simp only[Act.put,Ja,Jb,Jc];refine Kac (i:=11) (by kernel_rfl) rfl rfl ?_;refine Oper.wp_skipped (w':=wy.setCell ⟨q+1,1,none⟩ (.int .i64 (min fo xf))) rfl (by go_simp;try rfl) ?_;refine ⟨fun _=>hS2,?_⟩;simp only[Act.put,Ja,Jb,Jc];refine Kaa (i:=12) (d:=some 56) rfl rfl (by kernel_rfl) (by kernel_rfl) (by kernel_rfl) rfl (fun _ _ _ h=>h) (by rfl) (fun w=>by go_simp;try rfl) (fun _=>hS2) ?_;simp only[Act.put,Ja,Jb,Jc];refine Kac (i:=13) (by kernel_rfl) rfl rfl ?_;refine Oper.wp_skipped (w':=(wy.setCell ⟨q+1,1,none⟩ (.int .i64 (min fo xf))).setCell ⟨q+1,2,none⟩ (.int .i64 (max to_ xt))) rfl (by go_simp;try rfl) ?_;refine ⟨fun h=>absurd h (by decide),?_⟩;refine Kbh (by kernel_rfl) ?_ _;obtain ⟨wv,hwv⟩:∃x,x=(wy.setCell ⟨q+1,1,none⟩ (.int .i64 (min fo xf))).setCell ⟨q+1,2,none⟩ (.int .i64 (max to_ xt)):=⟨_,rfl⟩;have HOV:Hid (Blk wv (q+1) 28 #[.int .i64 ro,.int .i64 (min fo xf),.int .i64 (max to_ xt),.slice none 0 0]):=by show Blk _ _ _ _;rw[hwv];exact (HOY.out.set_ 1 _).set_ 2 _
       have HBV:Hid (Blk wv p9 28 #[.int .i64 xr,.int .i64 xf,.int .i64 xt,.slice hA hn_ hc_]):=by show Blk _ _ _ _;rw[hwv];exact (HBY.out.far HPN.out.2.1 _).far HPN.out.2.1 _
       have HQV:Hid (Blk wv q 28 #[.int .i64 0,.int .i64 0,.int .i64 0,.slice none 0 0]):=by show Blk _ _ _ _;rw[hwv];exact (HQY.out.far (p:=⟨q+1,1,none⟩) (by show q≠q+1;omega) _).far (p:=⟨q+1,2,none⟩) (by show q≠q+1;omega) _
       have HRV:Hid (wv.ownsRow (q+2) 26 1 (.slice A7 i c7) i (((xs.take i).map CH.h).flatMap Kbt)):=by
        show World.ownsRow _ _ _ _ _ _ _
        rw[hwv];exact Kbp (Kbp HRY.out HOY.out (by decide)) (HOY.out.set_ 1 _) (by decide)
       have HWV:Hid (Below q w wv∧q+2≤wv.heap.size):=by
        show _∧_
        rw[hwv];exact ⟨(HBWY.out.1.setCell (p:=⟨q+1,1,none⟩) (Nat.le_succ q) _).setCell (p:=⟨q+1,2,none⟩) (Nat.le_succ q) _,by simpa[World.setCell] using HBWY.out.2⟩
       rw[←hwv];clear hwv HOY HBY HQY HRY HBWY hS hS2 o1 o2 o3 b1 b2 b3 f1 f2;have b3:=HBV.out.cell 3;simp at b3;have bl:=HBV.out.lt;obtain ⟨i1,hi1,hz0,hz1,hz2⟩:=info_parts Kgj;obtain ⟨w6,hw6⟩:∃y,y=wv.alloc (.cells #[.slice hA hn_ hc_] 26):=⟨_,rfl⟩;have hb6:Below wv.heap.size wv w6:=by rw[hw6];exact (Below.refl _ _).alloc (Nat.le_refl _) _
       have hnew6:Blk w6 wv.heap.size 26 #[.slice hA hn_ hc_]:=by rw[hw6];exact Blk.new _ _ _
       have hrow6:w6.ownsRow (q+2) 26 1 (.slice A7 i c7) i (((xs.take i).map CH.h).flatMap Kbt):=Kaq HRV.out hb6;have HROW6:=Jh hrow6;have HB6:=Jh hb6;have hz6:q+2≤w6.heap.size:=Nat.le_trans HWV.out.2 hb6.size;clear hb6;go_wp2_with (at_builtin;(try rw[←hw6]);refine wpList_append_own_at _ rfl _ _ 80 rfl (q+2) 26 i1 (.slice none 0 0) 1 24 Tryz.underlying80 hi1 hz0 hz1 hz2 rfl (by decide) (.slice A7 i c7) i _ rfl hrow6 ⟨wv.heap.size,0,none⟩ 1 1 [.slice hA hn_ hc_] rfl rfl (Kav (l:=[.slice hA hn_ hc_]) hnew6) ?p2 ?p3 ?p4 ?p5 ?_)
       case p2=>rfl
       case p3=>unfold maxLen;omega
       case p4=>omega
       case p5=>have:=HWV.out.2;omega
       intro v9 w9 hown' hgrow _ _;rw[←hw6] at hgrow;have hlow:∀k,(Value.slice A7 i c7).ownBlock=some k→q+2≤k:=fun k hk=>(HROW6.out.lt k hk).1
       have HBN:Hid (Below q w w9):=(HWV.out.1.trans (HB6.out.mono (by have:=HWV.out.2;omega))).grown hgrow (by omega) (fun k hk=>by have:=hlow k hk;omega);have HQN:Hid (Blk w9 q 28 #[.int .i64 0,.int .i64 0,.int .i64 0,.slice none 0 0]):=(HQV.out.below HB6.out HQV.out.lt).grown hgrow (Kag (HQV.out.below HB6.out HQV.out.lt) HROW6.out (by decide))
       have HON:Hid (Blk w9 (q+1) 28 #[.int .i64 (outC (cs.take (i+1))).1,.int .i64 (outC (cs.take (i+1))).2.1,.int .i64 (outC (cs.take (i+1))).2.2,.slice none 0 0]):=by
        show Blk _ _ _ _
        rw[HOUT.out];exact (HOV.out.below HB6.out HOV.out.lt).grown hgrow (Kag (HOV.out.below HB6.out HOV.out.lt) HROW6.out (by decide))
       have HRN:Hid (w9.ownsRow (q+2) 26 1 v9 (i+1) (((xs.take (i+1)).map CH.h).flatMap Kbt)):=by
        show World.ownsRow _ _ _ _ _ _ _
        rw[HTX.out,List.flatMap_append,List.flatMap_singleton,List.map_take];exact hown'
       have HZN:Hid (q+2≤w9.heap.size):=Nat.le_trans hz6 hgrow.size;clear hown' hgrow hlow hrow6 hnew6 HROW6 HB6 hw6 hz6 HOV HBV HQV HRV HWV b3 bl hi1 hz0 hz1 hz2 HOUT;go_wp2_with fail
       go_roundg (n - (i+1))
       case measure=>omega
       case rel=>exact ⟨i+1,by first | rfl | go_num,by omega,HBN,HQN,HON,HRN,HOKN,HZN⟩
      ·refine Oper.wp_ran (d:=some 48) (w':=wy) (v:=.int .i64 xf) rfl (by go_simp;try rfl) ?_;refine ⟨fun _=>hS,?_⟩;simp only[Act.put,Ja,Jb,Jc];refine Kac (i:=1) (by kernel_rfl) rfl rfl ?_;refine Oper.wp_ran (d:=some 46) (w':=wy) (v:=.int .i64 fo) rfl (by go_simp;try rfl) ?_;refine ⟨fun _=>hS,?_⟩;simp only[Act.put,Ja,Jb,Jc];refine Kaa (i:=4) (d:=some 49) rfl rfl (by kernel_rfl) (by kernel_rfl) (by kernel_rfl) rfl (fun _ _ _ h=>h) (by rfl) (fun w=>by go_simp;try rfl) (fun _=>hS) ?_;simp only[Act.put,Ja,Jb,Jc];refine Kaa (i:=10) (d:=some 55) rfl rfl (by kernel_rfl) (by kernel_rfl) (by kernel_rfl) rfl (fun _ _ _ h=>h) (by rfl) (fun w=>by go_simp;try rfl) (fun _=>hS) ?_;simp only[Act.put,Ja,Jb,Jc];refine Kac (i:=11) (by kernel_rfl) rfl rfl ?_;refine Oper.wp_skipped (w':=wy.setCell ⟨q+1,1,none⟩ (.int .i64 (min fo xf))) rfl (by go_simp;try rfl) ?_;refine ⟨fun _=>hS2,?_⟩;simp only[Act.put,Ja,Jb,Jc];refine Kaa (i:=12) (d:=some 56) rfl rfl (by kernel_rfl) (by kernel_rfl) (by kernel_rfl) rfl (fun _ _ _ h=>h) (by rfl) (fun w=>by go_simp;try rfl) (fun _=>hS2) ?_;simp only[Act.put,Ja,Jb,Jc];refine Kac (i:=13) (by kernel_rfl) rfl rfl ?_;refine Oper.wp_skipped (w':=(wy.setCell ⟨q+1,1,none⟩ (.int .i64 (min fo xf))).setCell ⟨q+1,2,none⟩ (.int .i64 (max to_ xt))) rfl (by go_simp;try rfl) ?_;refine ⟨fun h=>absurd h (by decide),?_⟩;refine Kbh (by kernel_rfl) ?_ _;obtain ⟨wv,hwv⟩:∃x,x=(wy.setCell ⟨q+1,1,none⟩ (.int .i64 (min fo xf))).setCell ⟨q+1,2,none⟩ (.int .i64 (max to_ xt)):=⟨_,rfl⟩;have HOV:Hid (Blk wv (q+1) 28 #[.int .i64 ro,.int .i64 (min fo xf),.int .i64 (max to_ xt),.slice none 0 0]):=by show Blk _ _ _ _;rw[hwv];exact (HOY.out.set_ 1 _).set_ 2 _
       have HBV:Hid (Blk wv p9 28 #[.int .i64 xr,.int .i64 xf,.int .i64 xt,.slice hA hn_ hc_]):=by show Blk _ _ _ _;rw[hwv];exact (HBY.out.far HPN.out.2.1 _).far HPN.out.2.1 _
       have HQV:Hid (Blk wv q 28 #[.int .i64 0,.int .i64 0,.int .i64 0,.slice none 0 0]):=by show Blk _ _ _ _;rw[hwv];exact (HQY.out.far (p:=⟨q+1,1,none⟩) (by show q≠q+1;omega) _).far (p:=⟨q+1,2,none⟩) (by show q≠q+1;omega) _
       have HRV:Hid (wv.ownsRow (q+2) 26 1 (.slice A7 i c7) i (((xs.take i).map CH.h).flatMap Kbt)):=by
        show World.ownsRow _ _ _ _ _ _ _
        rw[hwv];exact Kbp (Kbp HRY.out HOY.out (by decide)) (HOY.out.set_ 1 _) (by decide)
       have HWV:Hid (Below q w wv∧q+2≤wv.heap.size):=by
        show _∧_
        rw[hwv];exact ⟨(HBWY.out.1.setCell (p:=⟨q+1,1,none⟩) (Nat.le_succ q) _).setCell (p:=⟨q+1,2,none⟩) (Nat.le_succ q) _,by simpa[World.setCell] using HBWY.out.2⟩
       rw[←hwv];clear hwv HOY HBY HQY HRY HBWY hS hS2 o1 o2 o3 b1 b2 b3 f1 f2;have b3:=HBV.out.cell 3;simp at b3;have bl:=HBV.out.lt;obtain ⟨i1,hi1,hz0,hz1,hz2⟩:=info_parts Kgj;obtain ⟨w6,hw6⟩:∃y,y=wv.alloc (.cells #[.slice hA hn_ hc_] 26):=⟨_,rfl⟩;have hb6:Below wv.heap.size wv w6:=by rw[hw6];exact (Below.refl _ _).alloc (Nat.le_refl _) _
       have hnew6:Blk w6 wv.heap.size 26 #[.slice hA hn_ hc_]:=by rw[hw6];exact Blk.new _ _ _
       have hrow6:w6.ownsRow (q+2) 26 1 (.slice A7 i c7) i (((xs.take i).map CH.h).flatMap Kbt):=Kaq HRV.out hb6;have HROW6:=Jh hrow6;have HB6:=Jh hb6;have hz6:q+2≤w6.heap.size:=Nat.le_trans HWV.out.2 hb6.size;clear hb6;go_wp2_with (at_builtin;(try rw[←hw6]);refine wpList_append_own_at _ rfl _ _ 80 rfl (q+2) 26 i1 (.slice none 0 0) 1 24 Tryz.underlying80 hi1 hz0 hz1 hz2 rfl (by decide) (.slice A7 i c7) i _ rfl hrow6 ⟨wv.heap.size,0,none⟩ 1 1 [.slice hA hn_ hc_] rfl rfl (Kav (l:=[.slice hA hn_ hc_]) hnew6) ?p2 ?p3 ?p4 ?p5 ?_)
       case p2=>rfl
       case p3=>unfold maxLen;omega
       case p4=>omega
       case p5=>have:=HWV.out.2;omega
       intro v9 w9 hown' hgrow _ _;rw[←hw6] at hgrow;have hlow:∀k,(Value.slice A7 i c7).ownBlock=some k→q+2≤k:=fun k hk=>(HROW6.out.lt k hk).1
       have HBN:Hid (Below q w w9):=(HWV.out.1.trans (HB6.out.mono (by have:=HWV.out.2;omega))).grown hgrow (by omega) (fun k hk=>by have:=hlow k hk;omega);have HQN:Hid (Blk w9 q 28 #[.int .i64 0,.int .i64 0,.int .i64 0,.slice none 0 0]):=(HQV.out.below HB6.out HQV.out.lt).grown hgrow (Kag (HQV.out.below HB6.out HQV.out.lt) HROW6.out (by decide))
       have HON:Hid (Blk w9 (q+1) 28 #[.int .i64 (outC (cs.take (i+1))).1,.int .i64 (outC (cs.take (i+1))).2.1,.int .i64 (outC (cs.take (i+1))).2.2,.slice none 0 0]):=by
        show Blk _ _ _ _
        rw[HOUT.out];exact (HOV.out.below HB6.out HOV.out.lt).grown hgrow (Kag (HOV.out.below HB6.out HOV.out.lt) HROW6.out (by decide))
       have HRN:Hid (w9.ownsRow (q+2) 26 1 v9 (i+1) (((xs.take (i+1)).map CH.h).flatMap Kbt)):=by
        show World.ownsRow _ _ _ _ _ _ _
        rw[HTX.out,List.flatMap_append,List.flatMap_singleton,List.map_take];exact hown'
       have HZN:Hid (q+2≤w9.heap.size):=Nat.le_trans hz6 hgrow.size;clear hown' hgrow hlow hrow6 hnew6 HROW6 HB6 hw6 hz6 HOV HBV HQV HRV HWV b3 bl hi1 hz0 hz1 hz2 HOUT;go_wp2_with fail
       go_roundg (n - (i+1))
       case measure=>omega
       case rel=>exact ⟨i+1,by first | rfl | go_num,by omega,HBN,HQN,HON,HRN,HOKN,HZN⟩
  ·have hlz:¬(i:Int) < (n:Int):=by omega
   have hin:i=n:=by omega
   obtain ⟨A7,c7,hv7⟩:=Kan HR.out;subst hv7;have HBw:Hid (Below w.heap.size w wr):=by show Below _ _ _;rw[←HQ0.out];exact HB.out
   have hC:=HH.out.below HBw.out;have htl:cs.take i=cs:=List.take_of_length_le (by rw[hC.l];omega);have htx:xs.take i=xs:=List.take_of_length_le (by rw[hC.e.len];omega);rw[htl] at HO HOK;rw[htx] at HR;have HLS:Hid (Lists wr A7 i (xs.map CH.h) (cs.map Cont.series)):=by have h:=hC;rw[←hin] at h;exact h.lists HR.out
   have HOKA:Hid (okAll cs=true):=by show _=true;have h:=HOK.out;unfold okFor at h;rw[HR0.out] at h;exact h
   have hcl:=hC.l;have hczs:=hC.z;clear hC htl htx HR HOK;rcases Nat.eq_zero_or_pos i with h0 | h0
   ·have di:((i:Int) == 0)=true:=by rw[beq_iff_eq];omega
    have hcs:cs = []:=List.eq_nil_of_length_eq_zero (by omega);have HO0:Hid (Blk wr (q+1) 28 #[.int .i64 0,.int .i64 0,.int .i64 0,.slice none 0 0]):=by have h:=HO.out;rw[hcs] at h;exact h
    clear HO;have o0:=HO0.out.cell 0;have o1:=HO0.out.cell 1;have o2:=HO0.out.cell 2;have o3:=HO0.out.cell 3;simp at o0 o1 o2 o3;have ol:=HO0.out.lt;have g0:=HQ.out.cell 0;have g1:=HQ.out.cell 1;have g2:=HQ.out.cell 2;have g3:=HQ.out.cell 3;simp at g0 g1 g2 g3;have f0:=HQ.out.frozen 0;have f1:=HQ.out.frozen 1;have f2:=HQ.out.frozen 2;have f3:=HQ.out.frozen 3;have gl:=HQ.out.lt;have HNZ:Hid (n=0):=by show _=_;omega
    clear hcs hcl hczs hin h0 HLS;go_wp2_with fail
    (try simp only[Exit.inBlock,Exit.then])
    refine bodyPost_ret (Kcu rfl _ _ ⟨q,0,none⟩ (.agg #[.int .i64 0,.int .i64 0,.int .i64 0,.slice none 0 0]) rfl (run_loadVar_row _ q 28 28 _ (0,0) _ ((((HQ.out.set_ 0 _).set_ 1 _).set_ 2 _).set_ 3 _) Tryz.underlying28 rfl (by kernel_rfl))) rfl ?_;refine ⟨.inl ⟨.inl HNZ.out,rfl⟩,?_⟩;rw[←HQ0.out];exact (((HB.out.setCell (p:=⟨q,0,none⟩) (Nat.le_refl _) _).setCell (p:=⟨q,1,none⟩) (Nat.le_refl _) _).setCell (p:=⟨q,2,none⟩) (Nat.le_refl _) _).setCell (p:=⟨q,3,none⟩) (Nat.le_refl _) _
   ·have di:((i:Int) == 0)=false:=by rw[beq_eq_false_iff_ne];omega
    obtain ⟨ro,hro⟩:∃x,x=(outC cs).1:=⟨_,rfl⟩;obtain ⟨fo,hfo⟩:∃x,x=(outC cs).2.1:=⟨_,rfl⟩;obtain ⟨to_,hto⟩:∃x,x=(outC cs).2.2:=⟨_,rfl⟩;rw[←hro,←hfo,←hto] at HO;have HRO:Hid ((outC cs).1=ro∧(outC cs).2.1=fo∧(outC cs).2.2=to_):=⟨hro.symm,hfo.symm,hto.symm⟩
    have hlz2:∀s∈(cs.map Cont.series).flatten,s.labels.length≤1099511627776:=fun s hs=>by
     obtain ⟨M,hM,hsM⟩:=List.mem_flatten.1 hs;obtain ⟨c,hc,rfl⟩:=List.mem_map.1 hM;exact ((hczs c hc).z s hsM).l
    have HMG:Hid (∀W,Below wr.heap.size wr W→Calls Tryz.prog 24 #[.slice A7 i c7] W fun e w'=>∃u,e = .returned u∧∃A' n' c',u = .slice A' n' c'∧SersZ w' A' n' (Kam (cs.map Cont.series).flatten)∧Below W.heap.size W w'):=fun W hb=>by
     refine (Kkc A7 i c7 _ _ (HLS.out.below hb) (by omega) (by have:=HN.out;omega) (by have:=HSUM.out;omega)).mono ?_;rintro e w' ⟨A',n',c',rfl,s1,_,s3⟩;exact ⟨_,rfl,A',n',c',rfl,Kxr s1 hlz2 (by have:=HN.out;omega) (by have:=HSUM.out;omega),s3⟩
    have HST:Hid (∀(A':Option Addr) (n' c':Nat) W,SersZ W A' n' (Kam (cs.map Cont.series).flatten)→Below wr.heap.size wr W→Calls Tryz.prog 34 #[.int .i64 ro,.slice A' n' c',.slice gB gN gC] W fun e w'=>∃u,e = .returned u∧∃A' n' c',u = .slice A' n' c'∧(Sers w' A' n' (Kbr ro ghs (Kam (cs.map Cont.series).flatten))∧n'≤c')∧Below W.heap.size W w'):=fun A' n' c' W hs hb=>by
     refine (Kls ro A' n' c' _ gB gN gC ghs W hs ((HG.out.below HBw.out).below hb)).mono ?_;rintro e w' ⟨A2,n2,c2,rfl,s1,s2,s3⟩;exact ⟨_,rfl,A2,n2,c2,rfl,⟨s1,s2⟩,s3⟩
    clear hro hfo hto hlz2 hcl hczs HLS HBw;go_upto_region 16 with fail
    refine Kcd (fun _=>True) 7 8 (by kernel_rfl) rfl ?_;rw[show Array.replicate 8 false = #[false,false,false,false,false,false,false,false] from rfl];obtain ⟨wy,hwy⟩:∃x,x=wr.drew:=⟨_,rfl⟩;have hb6:Below wr.heap.size wr wy:=by rw[hwy];exact (Below.refl _ _).drew
    have hoy:Blk wy (q+1) 28 #[.int .i64 ro,.int .i64 fo,.int .i64 to_,.slice none 0 0]:=HO.out.below hb6 HO.out.lt;rw[←hwy];clear hwy;have o0:wy.cell? ⟨q+1,0,none⟩=some (.int .i64 ro):=hoy.cell 0;have ol:=hoy.lt;clear hoy;refine Kaa (i:=0) (d:=some 67) rfl rfl (by kernel_rfl) (by kernel_rfl) (by kernel_rfl) rfl (fun _ _ _ h=>h) (by rfl) (fun w=>by go_simp;try rfl) (fun _=>trivial) ?_;simp only[Act.put,Ja,Jb,Jc];refine Kaa (i:=2) (d:=some 69) rfl rfl (by kernel_rfl) (by kernel_rfl) (by kernel_rfl) rfl (fun _ _ _ h=>h) (by rfl) (fun w=>by go_simp;try rfl) (fun _=>trivial) ?_;simp only[Act.put,Ja,Jb,Jc];refine Kaa (i:=4) (d:=some 71) rfl rfl (by kernel_rfl) (by kernel_rfl) (by kernel_rfl) rfl (fun _ _ _ h=>h) (by rfl) (fun w=>by go_simp;try rfl) (fun _=>trivial) ?_;simp only[Act.put,Ja,Jb,Jc];refine Kfg (i:=1) (j:=3) (by kernel_rfl) rfl rfl rfl rfl ?_ ?_
    ·refine Oper.wp_ran (d:=some 68) (w':=wy) (v:=.int .i64 ro) rfl (by go_simp;try rfl) ?_;refine ⟨fun _=>trivial,?_⟩;simp only[Act.put,Ja,Jb,Jc];refine Kac (i:=3) (by kernel_rfl) rfl rfl ?_;refine Oper.wp_called (d:=some 70) (w1:=wy) (g:=24) (args:=#[.slice A7 i c7]) rfl (by go_simp;try rfl) (N:=fun u w'=>∃A' n' c',u = .slice A' n' c'∧SersZ w' A' n' (Kam (cs.map Cont.series).flatten)∧Below wy.heap.size wy w') (HMG.out _ hb6) ?_;rintro _ w6 ⟨A5,n5,c5,rfl,hs5,hb5⟩;refine ⟨fun _=>trivial,?_⟩;simp only[Act.put,Ja,Jb,Jc];refine Kac (i:=5) (by kernel_rfl) rfl rfl ?_;refine Oper.wp_called (d:=some 72) (w1:=w6) (g:=34) (args:=#[.int .i64 ro,.slice A5 n5 c5,.slice gB gN gC]) rfl (by go_simp;try rfl) (N:=fun u w'=>∃A' n' c',u = .slice A' n' c'∧(Sers w' A' n' (Kbr ro ghs (Kam (cs.map Cont.series).flatten))∧n'≤c')∧Below w6.heap.size w6 w') (HST.out A5 n5 c5 _ hs5 (hb6.trans (hb5.mono hb6.size))) ?_;rintro _ w7 ⟨A2,n2,c2,rfl,hs7,hb7⟩;have hb67:Below wr.heap.size wr w7:=(hb6.trans (hb5.mono hb6.size)).trans (hb7.mono (Nat.le_trans hb6.size hb5.size));refine ⟨fun _=>trivial,?_⟩;simp only[Act.put,Ja,Jb,Jc];have HO7:Hid (Blk w7 (q+1) 28 #[.int .i64 ro,.int .i64 fo,.int .i64 to_,.slice none 0 0]):=HO.out.below hb67 HO.out.lt;have HQ7:Hid (Blk w7 q 28 #[.int .i64 0,.int .i64 0,.int .i64 0,.slice none 0 0]):=HQ.out.below hb67 HQ.out.lt;have HB7:Hid (Below q w w7):=HB.out.trans (hb67.mono (by have:=HZ.out;omega));have HS7:Hid (Sers w7 A2 n2 (Kbr ro ghs (Kam (cs.map Cont.series).flatten))∧n2≤c2):=hs7;clear hb67 hb7 hs7 hb5 hs5 hb6;refine Kac (i:=6) (by kernel_rfl) rfl rfl ?_;refine Oper.wp_ran (d:=some 73) (w':=w7) (v:=.pointer (some ⟨q+1,3,none⟩)) rfl (by go_simp;try rfl) ?_;refine ⟨fun _=>trivial,?_⟩;simp only[Act.put,Ja,Jb,Jc];have u3:w7.cell? ⟨q+1,3,none⟩=some (.slice none 0 0):=HO7.out.cell 3;have v3:=HO7.out.frozen 3;have vl:=HO7.out.lt;refine Kac (i:=7) (by kernel_rfl) rfl rfl ?_;refine Oper.wp_skipped (w':=w7.setCell ⟨q+1,3,none⟩ (.slice A2 n2 c2)) rfl (by go_simp;try rfl) ?_;refine ⟨fun h=>absurd h (by decide),?_⟩;refine Kbh (by kernel_rfl) ?_ _;obtain ⟨w8,hw8⟩:∃x,x=w7.setCell ⟨q+1,3,none⟩ (.slice A2 n2 c2):=⟨_,rfl⟩;have HO8:Hid (Blk w8 (q+1) 28 #[.int .i64 ro,.int .i64 fo,.int .i64 to_,.slice A2 n2 c2]):=by show Blk _ _ _ _;rw[hw8];exact HO7.out.set_ 3 _
     have HQ8:Hid (Blk w8 q 28 #[.int .i64 0,.int .i64 0,.int .i64 0,.slice none 0 0]):=by show Blk _ _ _ _;rw[hw8];exact HQ7.out.far (p:=⟨q+1,3,none⟩) (by show q≠q+1;omega) _
     have HB8:Hid (Below q w w8):=by show Below _ _ _;rw[hw8];exact HB7.out.setCell (p:=⟨q+1,3,none⟩) (Nat.le_succ q) _
     have HS8:Hid (Sers w8 A2 n2 (Kbr ro ghs (Kam (cs.map Cont.series).flatten))∧n2≤c2):=by show _∧_;rw[hw8];exact ⟨HS7.out.1.setBox HO7.out 3 _,HS7.out.2⟩
     rw[←hw8];clear hw8 HO7 HQ7 HB7 HS7 u3 v3 vl;have o0:=HO8.out.cell 0;have o1:=HO8.out.cell 1;have o2:=HO8.out.cell 2;have o3:=HO8.out.cell 3;simp at o0 o1 o2 o3;have ol:=HO8.out.lt;have g0:=HQ8.out.cell 0;have g1:=HQ8.out.cell 1;have g2:=HQ8.out.cell 2;have g3:=HQ8.out.cell 3;simp at g0 g1 g2 g3;have f0:=HQ8.out.frozen 0;have f1:=HQ8.out.frozen 1;have f2:=HQ8.out.frozen 2;have f3:=HQ8.out.frozen 3;have gl:=HQ8.out.lt;go_wp2_with fail
     (try simp only[Exit.inBlock,Exit.then])
     have q1:=HQ8.out.set_ 0 (.int .i64 ro);have q2:=q1.set_ 1 (.int .i64 fo);have q3:=q2.set_ 2 (.int .i64 to_);have q4:=q3.set_ 3 (.slice A2 n2 c2);refine bodyPost_ret (Kcu rfl _ _ ⟨q,0,none⟩ (.agg #[.int .i64 ro,.int .i64 fo,.int .i64 to_,.slice A2 n2 c2]) rfl (run_loadVar_row _ q 28 28 _ (0,0) _ q4 Tryz.underlying28 rfl (by kernel_rfl))) rfl ?_;have s1:=HS8.out.1.setBox HQ8.out 0 (.int .i64 ro);have s2:=s1.setBox (a:=ro) (b:=0) (c:=0) (Z:=none) (k:=0) (d:=0) q1 1 (.int .i64 fo);have s3:=s2.setBox (a:=ro) (b:=fo) (c:=0) (Z:=none) (k:=0) (d:=0) q2 2 (.int .i64 to_);have s4:=s3.setBox (a:=ro) (b:=fo) (c:=to_) (Z:=none) (k:=0) (d:=0) q3 3 (.slice A2 n2 c2);refine ⟨.inr ⟨⟨by omega,HOKA.out⟩,A2,n2,c2,?_,?_,HS8.out.2⟩,?_⟩
     ·rw[HRO.out.1,HRO.out.2.1,HRO.out.2.2];rfl
     ·rw[HRO.out.1];exact s4
     ·rw[←HQ0.out];exact (((HB8.out.setCell (p:=⟨q,0,none⟩) (Nat.le_refl _) _).setCell (p:=⟨q,1,none⟩) (Nat.le_refl _) _).setCell (p:=⟨q,2,none⟩) (Nat.le_refl _) _).setCell (p:=⟨q,3,none⟩) (Nat.le_refl _) _
    ·refine Oper.wp_called (d:=some 70) (w1:=wy) (g:=24) (args:=#[.slice A7 i c7]) rfl (by go_simp;try rfl) (N:=fun u w'=>∃A' n' c',u = .slice A' n' c'∧SersZ w' A' n' (Kam (cs.map Cont.series).flatten)∧Below wy.heap.size wy w') (HMG.out _ hb6) ?_;rintro _ w6 ⟨A5,n5,c5,rfl,hs5,hb5⟩;refine ⟨fun _=>trivial,?_⟩;simp only[Act.put,Ja,Jb,Jc];have o0':w6.cell? ⟨q+1,0,none⟩=some (.int .i64 ro):=(HO.out.below (hb6.trans (hb5.mono hb6.size)) HO.out.lt).cell 0;have ol':=(HO.out.below (hb6.trans (hb5.mono hb6.size)) HO.out.lt).lt;refine Kac (i:=1) (by kernel_rfl) rfl rfl ?_;refine Oper.wp_ran (d:=some 68) (w':=w6) (v:=.int .i64 ro) rfl (by go_simp;try rfl) ?_;refine ⟨fun _=>trivial,?_⟩;simp only[Act.put,Ja,Jb,Jc];clear o0' ol';refine Kac (i:=5) (by kernel_rfl) rfl rfl ?_;refine Oper.wp_called (d:=some 72) (w1:=w6) (g:=34) (args:=#[.int .i64 ro,.slice A5 n5 c5,.slice gB gN gC]) rfl (by go_simp;try rfl) (N:=fun u w'=>∃A' n' c',u = .slice A' n' c'∧(Sers w' A' n' (Kbr ro ghs (Kam (cs.map Cont.series).flatten))∧n'≤c')∧Below w6.heap.size w6 w') (HST.out A5 n5 c5 _ hs5 (hb6.trans (hb5.mono hb6.size))) ?_;rintro _ w7 ⟨A2,n2,c2,rfl,hs7,hb7⟩;have hb67:Below wr.heap.size wr w7:=(hb6.trans (hb5.mono hb6.size)).trans (hb7.mono (Nat.le_trans hb6.size hb5.size));refine ⟨fun _=>trivial,?_⟩;simp only[Act.put,Ja,Jb,Jc];have HO7:Hid (Blk w7 (q+1) 28 #[.int .i64 ro,.int .i64 fo,.int .i64 to_,.slice none 0 0]):=HO.out.below hb67 HO.out.lt;have HQ7:Hid (Blk w7 q 28 #[.int .i64 0,.int .i64 0,.int .i64 0,.slice none 0 0]):=HQ.out.below hb67 HQ.out.lt;have HB7:Hid (Below q w w7):=HB.out.trans (hb67.mono (by have:=HZ.out;omega));have HS7:Hid (Sers w7 A2 n2 (Kbr ro ghs (Kam (cs.map Cont.series).flatten))∧n2≤c2):=hs7;clear hb67 hb7 hs7 hb5 hs5 hb6;refine Kac (i:=6) (by kernel_rfl) rfl rfl ?_;refine Oper.wp_ran (d:=some 73) (w':=w7) (v:=.pointer (some ⟨q+1,3,none⟩)) rfl (by go_simp;try rfl) ?_;refine ⟨fun _=>trivial,?_⟩;simp only[Act.put,Ja,Jb,Jc];have u3:w7.cell? ⟨q+1,3,none⟩=some (.slice none 0 0):=HO7.out.cell 3;have v3:=HO7.out.frozen 3;have vl:=HO7.out.lt;refine Kac (i:=7) (by kernel_rfl) rfl rfl ?_;refine Oper.wp_skipped (w':=w7.setCell ⟨q+1,3,none⟩ (.slice A2 n2 c2)) rfl (by go_simp;try rfl) ?_;refine ⟨fun h=>absurd h (by decide),?_⟩;refine Kbh (by kernel_rfl) ?_ _;obtain ⟨w8,hw8⟩:∃x,x=w7.setCell ⟨q+1,3,none⟩ (.slice A2 n2 c2):=⟨_,rfl⟩;have HO8:Hid (Blk w8 (q+1) 28 #[.int .i64 ro,.int .i64 fo,.int .i64 to_,.slice A2 n2 c2]):=by show Blk _ _ _ _;rw[hw8];exact HO7.out.set_ 3 _
     have HQ8:Hid (Blk w8 q 28 #[.int .i64 0,.int .i64 0,.int .i64 0,.slice none 0 0]):=by show Blk _ _ _ _;rw[hw8];exact HQ7.out.far (p:=⟨q+1,3,none⟩) (by show q≠q+1;omega) _
     have HB8:Hid (Below q w w8):=by show Below _ _ _;rw[hw8];exact HB7.out.setCell (p:=⟨q+1,3,none⟩) (Nat.le_succ q) _
     have HS8:Hid (Sers w8 A2 n2 (Kbr ro ghs (Kam (cs.map Cont.series).flatten))∧n2≤c2):=by show _∧_;rw[hw8];exact ⟨HS7.out.1.setBox HO7.out 3 _,HS7.out.2⟩
     rw[←hw8];clear hw8 HO7 HQ7 HB7 HS7 u3 v3 vl;have o0:=HO8.out.cell 0;have o1:=HO8.out.cell 1;have o2:=HO8.out.cell 2;have o3:=HO8.out.cell 3;simp at o0 o1 o2 o3;have ol:=HO8.out.lt;have g0:=HQ8.out.cell 0;have g1:=HQ8.out.cell 1;have g2:=HQ8.out.cell 2;have g3:=HQ8.out.cell 3;simp at g0 g1 g2 g3;have f0:=HQ8.out.frozen 0;have f1:=HQ8.out.frozen 1;have f2:=HQ8.out.frozen 2;have f3:=HQ8.out.frozen 3;have gl:=HQ8.out.lt;go_wp2_with fail
     (try simp only[Exit.inBlock,Exit.then])
     have q1:=HQ8.out.set_ 0 (.int .i64 ro);have q2:=q1.set_ 1 (.int .i64 fo);have q3:=q2.set_ 2 (.int .i64 to_);have q4:=q3.set_ 3 (.slice A2 n2 c2);refine bodyPost_ret (Kcu rfl _ _ ⟨q,0,none⟩ (.agg #[.int .i64 ro,.int .i64 fo,.int .i64 to_,.slice A2 n2 c2]) rfl (run_loadVar_row _ q 28 28 _ (0,0) _ q4 Tryz.underlying28 rfl (by kernel_rfl))) rfl ?_;have s1:=HS8.out.1.setBox HQ8.out 0 (.int .i64 ro);have s2:=s1.setBox (a:=ro) (b:=0) (c:=0) (Z:=none) (k:=0) (d:=0) q1 1 (.int .i64 fo);have s3:=s2.setBox (a:=ro) (b:=fo) (c:=0) (Z:=none) (k:=0) (d:=0) q2 2 (.int .i64 to_);have s4:=s3.setBox (a:=ro) (b:=fo) (c:=to_) (Z:=none) (k:=0) (d:=0) q3 3 (.slice A2 n2 c2);refine ⟨.inr ⟨⟨by omega,HOKA.out⟩,A2,n2,c2,?_,?_,HS8.out.2⟩,?_⟩
     ·rw[HRO.out.1,HRO.out.2.1,HRO.out.2.2];rfl
     ·rw[HRO.out.1];exact s4
     ·rw[←HQ0.out];exact (((HB8.out.setCell (p:=⟨q,0,none⟩) (Nat.le_refl _) _).setCell (p:=⟨q,1,none⟩) (Nat.le_refl _) _).setCell (p:=⟨q,2,none⟩) (Nat.le_refl _) _).setCell (p:=⟨q,3,none⟩) (Nat.le_refl _) _
end
end
section
open Go.Shelf Go.RowKit Go.Lib Go.Sort
open Lib renaming hid → Jh
attribute [local go_sem ↓] Go.wp_at_zero Go.wp_at_succ
attribute [local go_sem] Later.cell
section
set_option maxHeartbeats 4000000
set_option maxRecDepth 100000
def ser0:Ser:=⟨[⟨[97],[120]⟩],[⟨3,0⟩,⟨9,0⟩,⟨25,0⟩],[]⟩
theorem all0:allF 0 [ser0] = [ser0]:=by rfl
theorem Qfj {L:List Int} (h:Kcm 10 (Kar (allF 0 [ser0])) L):L = [0,20]:=by
 rw[all0] at h;have e:Kby 10 (Kar [ser0]) = [0,0,20]:=by rfl
 refine Kig id h.asc (by decide) fun x=>?_
 rw[h.mem x,e];simp
def cont0:Cont:=Kbo 0 10 [ser0] 0
def cont1:Cont:=Kbo 0 10 [ser0] 20
theorem fit0:([cont0,cont1].all fitB)=true:=by rfl
theorem ok0:okAll [cont0,cont1]=true:=by rfl
theorem out0:outC [cont0,cont1]=(0,0,30):=by rfl
theorem mrg0:Kbr 0 [] (Kam ([cont0,cont1].map Cont.series).flatten) = [ser0]:=by rfl
theorem ssz0:SSz [ser0]:=⟨by decide,by decide,by decide,fun s hs=>by
 rw[List.mem_singleton] at hs;subst hs
 exact ⟨by decide,by decide,by decide,by decide,fun x hx=>(by cases hx),by decide⟩⟩
theorem Gones.nil (w:World):Gones w none 0 []:=⟨Elems.nil_,fun x hx=>by simp at hx,by omega⟩
theorem sers0 {w w1:World} (hw:w1=((w.alloc (.cells #[.string ⟨#[97]⟩,.string ⟨#[120]⟩] 99)).alloc (.cells #[.int .i64 3,.int .u64 0,.int .i64 9,.int .u64 0,.int .i64 25,.int .u64 0] 102)).alloc (.cells #[.slice (some ⟨w.heap.size,0,none⟩) 1 1,.slice (some ⟨w.heap.size+1,0,none⟩) 3 3,.slice none 0 0] 58)) :
  Sers w1 (some ⟨w.heap.size+2,0,none⟩) 1 [ser0]:=by
 have h0:Blk w1 w.heap.size 99 #[.string ⟨#[97]⟩,.string ⟨#[120]⟩]:=by rw[hw];exact ((Blk.new _ _ _).alloc _).alloc _
 have h1:Blk w1 (w.heap.size+1) 102 #[.int .i64 3,.int .u64 0,.int .i64 9,.int .u64 0,.int .i64 25,.int .u64 0]:=by rw[hw];exact (Blk.newAt (by simp)).alloc _
 have h2:Blk w1 (w.heap.size+2) 58 #[.slice (some ⟨w.heap.size,0,none⟩) 1 1,.slice (some ⟨w.heap.size+1,0,none⟩) 3 3,.slice none 0 0]:=by rw[hw];exact Blk.newAt (by simp)
 refine ⟨[⟨⟨some ⟨w.heap.size,0,none⟩,1,1⟩,⟨some ⟨w.heap.size+1,0,none⟩,3,3⟩,⟨none,0,0⟩⟩],⟨rfl,fun _=>⟨w.heap.size+2,0,rfl,h2.lt,fun i x hx j v hv=>?_⟩⟩,rfl,fun i hd hi=>?_⟩
 ·cases i with
  | zero=>
   simp only[List.getElem?_cons_zero,Option.some.injEq] at hx;subst hx;rw[h2.cell];simpa[encH3] using hv
  | succ i=>simp at hx
 ·cases i with
  | zero=>
   simp only[List.getElem?_cons_zero,Option.some.injEq] at hi;subst hi;refine ⟨⟨rfl,fun _=>⟨w.heap.size,0,rfl,h0.lt,fun i x hx j v hv=>?_⟩⟩,Nat.le_refl _,⟨rfl,fun _=>⟨w.heap.size+1,0,rfl,h1.lt,fun i x hx j v hv=>?_⟩⟩,Nat.le_refl _,⟨rfl,fun h=>absurd h (Nat.lt_irrefl _)⟩,Nat.le_refl _⟩
   ·cases i with
    | zero=>
     have e:x=⟨[97],[120]⟩:=by have:some _=some x:=hx;injection this with this;exact this.symm
     subst e;rw[h0.cell];simpa[encLb] using hv
    | succ i=>simp[ser0] at hx
   ·match i,hx with
    | 0,hx=>
     have e:x=⟨3,0⟩:=by have:some _=some x:=hx;injection this with this;exact this.symm
     subst e;rw[h1.cell]
     match j,hv with
     | 0,hv=>simpa[Kad] using hv
     | 1,hv=>simpa[Kad] using hv
     | j+2,hv=>simp[Kad] at hv
    | 1,hx=>
     have e:x=⟨9,0⟩:=by have:some _=some x:=hx;injection this with this;exact this.symm
     subst e;rw[h1.cell]
     match j,hv with
     | 0,hv=>simpa[Kad] using hv
     | 1,hv=>simpa[Kad] using hv
     | j+2,hv=>simp[Kad] at hv
    | 2,hx=>
     have e:x=⟨25,0⟩:=by have:some _=some x:=hx;injection this with this;exact this.symm
     subst e;rw[h1.cell]
     match j,hv with
     | 0,hv=>simpa[Kad] using hv
     | 1,hv=>simpa[Kad] using hv
     | j+2,hv=>simp[Kad] at hv
    | i+3,hx=>simp[ser0] at hx
  | succ i=>simp at hi
theorem Krm (w:World) (hE:BEnv w):Calls Tryz.prog 16 #[] w fun e w'=>e = .returned (.bool true)∧Below w.heap.size w w':=by
 obtain ⟨w1,hw1⟩:∃x,x=((w.alloc (.cells #[.string ⟨#[97]⟩,.string ⟨#[120]⟩] 99)).alloc (.cells #[.int .i64 3,.int .u64 0,.int .i64 9,.int .u64 0,.int .i64 25,.int .u64 0] 102)).alloc (.cells #[.slice (some ⟨w.heap.size,0,none⟩) 1 1,.slice (some ⟨w.heap.size+1,0,none⟩) 3 3,.slice none 0 0] 58):=⟨_,rfl⟩;have hS:=sers0 hw1;have hb1:Below w.heap.size w w1:=by rw[hw1];exact (((Below.refl _ _).alloc (Nat.le_refl _) _).alloc (by simp) _).alloc (by simp;omega) _
 have HSP:=Jh (Klr 0 10 (some ⟨w.heap.size+2,0,none⟩) 1 1 [ser0] w1 hS (Nat.le_refl _) ssz0 (hE.below hb1));rw[hw1] at HSP;have HB1:=Jh hb1;have HE:=Jh hE;have HW1:=Jh hw1;clear hS hb1 hE hw1;go_enter Tryz.func16,Tryz.ntmps16
 go_wp2_with fail
 refine HSP.out.mono ?_;rw[←HW1.out];rintro e2 w2 ⟨hor,hb2⟩
 have hor2:∃(A':Option Addr) (c':Nat) (xs:List CH),e2 = .returned (.tuple #[.slice A' 2 c',.int .i64 0])∧Kdg w2 A' 2 xs [cont0,cont1]∧2≤c':=by
  rcases hor with ⟨h,_⟩ | ⟨_,h,_⟩ | ⟨_,_,L,hL,h⟩
  ·exact absurd ⟨by decide,by decide⟩ h
  ·exact absurd ⟨by decide,by decide⟩ h
  ·obtain rfl:=Qfj hL;rw[all0] at h;rcases h with ⟨h,_⟩ | ⟨_,A',n',c',xs,he,hc,hn⟩
   ·have h2:([cont0,cont1].all fitB)=false:=h;rw[fit0] at h2;cases h2
   ·have hl:n'=2:=hc.l.symm;subst hl;exact ⟨A',c',xs,he,hc,hn⟩
 clear hor;obtain ⟨A2,c2,xs,rfl,hC,hc2⟩:=hor2;have HB2:Hid (Below w.heap.size w w2):=HB1.out.trans (hb2.mono HB1.out.size);have HC:=Jh hC;obtain ⟨b,off,hA,hb,hcell⟩:=hC.e.2 (by decide);have hxl:=hC.e.len
 match xs,hxl with
 | [x0,x1],_=>
  have k0:=hC.k 0 x0 rfl;have k1:=hC.k 1 x1 rfl;have hx0:x0.h.n=1:=by have:=k0.2.2.2.1.s.len;exact this.symm
  have hx1:x1.f=20:=by have:=k1.2.1;exact this.symm
  have o1:w2.cell? ⟨b,off+4+1,none⟩=some (.int .i64 20):=by
   have:=hcell 1 x1 rfl 1 _ rfl;rw[hx1] at this;simpa using this
  have o0:w2.cell? ⟨b,off+3,none⟩=some (.slice x0.h.A 1 x0.h.c):=by
   have:=hcell 0 x0 rfl 3 _ rfl;rw[hx0] at this;simpa using this
  subst hA;have HCC:=Jh (Kjd none 0 0 [] (some ⟨b,off,none⟩) 2 c2 [x0,x1] [cont0,cont1] w2 hC (Gones.nil w2) (HE.out.below HB2.out) (by decide) (by decide));clear hC hcell hxl k0 k1 hx0 hx1 hb2 HSP;obtain ⟨x0A,hx0A⟩:∃q,q=x0.h.A:=⟨_,rfl⟩;obtain ⟨x0c,hx0c⟩:∃q,q=x0.h.c:=⟨_,rfl⟩;rw[←hx0A,←hx0c] at o0;clear hx0A hx0c;go_wp2_with fail
  refine HCC.out.mono ?_;rintro e3 w3 ⟨hor,hb3⟩
  have hor2:∃(A':Option Addr) (c':Nat),e3 = .returned (.tuple #[.agg #[.int .i64 0,.int .i64 0,.int .i64 30,.slice A' 1 c'],.int .i64 0])∧Sers w3 A' 1 [ser0]:=by
   rcases hor with ⟨h,_⟩ | ⟨_,A',n',c',he,hs,_⟩
   ·rcases h with h | h
    ·exact absurd h (by decide)
    ·rw[ok0] at h;cases h
   ·rw[out0] at he hs
    have hs2:Sers w3 A' n' [ser0]:=by
     have h0:=hs;dsimp only at h0;rw[mrg0] at h0;exact h0
    have hl:n'=1:=hs2.len.symm;subst hl;exact ⟨A',c',he,hs2⟩
  clear hor;obtain ⟨A3,c3,rfl,hs3⟩:=hor2;obtain ⟨hs,hE3,_,hat⟩:=hs3;have hhl:=hE3.len;obtain ⟨b3,off3,hA3,hb3l,hcell3⟩:=hE3.2 (by decide)
  match hs,hhl with
  | [hd],_=>
   have hsn:hd.s.n=3:=by have:=(hat 0 hd rfl).s.len;exact this.symm
   obtain ⟨w4,hw4⟩:∃y,y=w3.alloc (.cells #[.int .i64 0,.int .i64 0,.int .i64 30,.slice A3 1 c3] 28):=⟨_,rfl⟩;have hb4:Below w3.heap.size w3 w4:=by rw[hw4];exact (Below.refl _ _).alloc (Nat.le_refl _) _
   have HBX:Hid (Blk w4 w3.heap.size 28 #[.int .i64 0,.int .i64 0,.int .i64 30,.slice A3 1 c3]):=by show Blk _ _ _ _;rw[hw4];exact Blk.new _ _ _
   have HB4:Hid (Below w.heap.size w w4):=by
    have h1:=HB2.out.trans (hb3.mono HB2.out.size);exact h1.trans (hb4.mono h1.size)
   have z0:w4.cell? ⟨b3,off3+1,none⟩=some (.slice hd.s.A 3 hd.s.c):=by
    have:=(hb4.cell (p:=⟨b3,off3+0*3+1,none⟩) hb3l).trans (hcell3 0 hd rfl 1 _ rfl);rw[hsn] at this;simpa using this
   have zl:b3 < w4.heap.size:=Nat.lt_of_lt_of_le hb3l hb4.size;have HW4:=Jh hw4;subst hA3;clear hat hE3 hhl hcell3 hsn hb3 hb4 hw4 hb3l HCC HC;obtain ⟨sA,hsA⟩:∃q,q=hd.s.A:=⟨_,rfl⟩;obtain ⟨sc,hsc⟩:∃q,q=hd.s.c:=⟨_,rfl⟩;rw[←hsA,←hsc] at z0;clear hsA hsc;go_upto_region 5 with fail
   try rw[←HW4.out]
   have q2:=HBX.out.cell 2;have q3:=HBX.out.cell 3;simp at q2 q3;have ql:=HBX.out.lt;clear HW4;go_wp2_with fail
   go_ret
   exact ⟨rfl,HB4.out⟩
end
end
section
def noWnd (s:Ser):Ser:=⟨s.labels,s.samples,[]⟩
def Kbz (ss:List Ser):List Ser:=(clipF 0 1125899906842624 ss).map noWnd
def Kbe (width:Int) (ss:List Ser) (L:List Int):List Cont:=L.map (Kbo 0 width (allF 0 ss))
theorem Kvt {α : Type} {k:α→Int} {xs l:List α} (hi:∀x∈xs,∀y∈xs,k x=k y→x=y) (ha:l.Pairwise fun a b=>k a < k b) (hm:∀x,x∈l↔x∈xs):Kaw k xs l:=by
 refine ⟨ha,fun x=>?_⟩;rw[hm x];constructor
 ·intro hx
  cases hf:xs.find? (fun y=>k y == k x) with
  | none=>
   have:=List.find?_eq_none.1 hf x hx;simp at this
  | some z=>
   have h1:=List.mem_of_find?_eq_some hf;have h2:=List.find?_some hf;rw[hi z h1 x hx (by simpa using h2)]
 ·intro h;exact List.mem_of_find?_eq_some h
theorem Kvs {α : Type} {k:α→Int} {xs l:List α} (h:Kaw k xs l) (p:Int→Bool):Kaw k (xs.filter fun x=>p (k x)) (l.filter fun x=>p (k x)):=by
 refine ⟨h.asc.filter _,fun x=>?_⟩;rw[List.mem_filter,h.mem x,List.find?_filter]
 cases hp:p (k x) with
 | false=>
  constructor
  ·rintro ⟨_,h2⟩;cases h2
  ·intro h2;have h3:=List.find?_some h2;rw[hp] at h3;simp at h3
 | true=>
  have e:(fun a=>decide (p (k a)=true∧(k a == k x)=true))=fun a=>k a == k x:=by
   funext a
   by_cases hk:k a=k x
   ·simp[hk,hp]
   ·simp[hk]
  rw[e];exact ⟨fun h=>h.1,fun h=>⟨h,rfl⟩⟩
theorem Kkw (fS:Ser→Smp→Bool) (fW:Ser→Wnd→Bool) (p:Smp→Bool) (hp:∀s x,fS s x=p x) (L:List Lb):∀l:List Ser,gS (keptF fS fW l) L=(gS l L).filter p
 | []=>rfl
 | s :: l=>by
  have e:keptF fS fW (s :: l)=(if Kba (keepS fS fW s)=true then [keepS fS fW s] else [])++keptF fS fW l:=by
   unfold keptF;rw[List.map_cons,List.filter_cons]
   split <;> rfl
  have hf:s.samples.filter (fS s)=s.samples.filter p:=by
   congr 1;funext x;exact hp s x
  have ec:gS (s :: l) L=(if s.labels=L then s.samples else [])++gS l L:=by
   have:=Kel [s] l L;rw[Kfy] at this;simpa using this
  rw[e,Kel,Kkw fS fW p hp L l,ec,List.filter_append];congr 1
  by_cases hg:Kba (keepS fS fW s)=true
  ·rw[if_pos hg,Kfy];show (if s.labels=L then s.samples.filter (fS s) else [])=_
   split
   ·exact hf
   ·rfl
  ·rw[if_neg hg]
   have h0:s.samples.filter (fS s) = []:=by
    have:=fun q=>hg ((Kda _).2 q)
    rcases Nat.eq_zero_or_pos (s.samples.filter (fS s)).length with q | q
    ·exact List.eq_nil_of_length_eq_zero q
    ·exact absurd (.inl q) this
   split
   ·rw[←hf,h0];rfl
   ·rfl
theorem Koo {l:List Ser} (h:∀s∈l,s.windows = []) (L:List Lb):gW l L = []:=by
 unfold gW;rw[List.flatMap_eq_nil_iff];intro s hs;exact h s (List.mem_filter.1 hs).1
theorem Qfz (l:List Ser) (L:List Lb):gS (l.map noWnd) L=gS l L:=by
 induction l with
 | nil=>rfl
 | cons s l ih=>
  have e1:=Kel [noWnd s] (l.map noWnd) L;have e2:=Kel [s] l L;rw[Kfy] at e1 e2;simp only[List.singleton_append] at e1 e2;rw[List.map_cons,e1,e2,ih];rfl
theorem Qga {l out:List Ser} (h:IsMrg l out) (L:List Lb):gS out L=onceL Smp.t (gS l L):=by
 have key:∀o:List Ser,ascS o→(∀g∈o,g.labels=L→g.samples=onceL Smp.t (gS l L))→((∃g∈o,g.labels=L)→gS o L=onceL Smp.t (gS l L))∧((¬∃g∈o,g.labels=L)→gS o L = []):=by
  intro o
  induction o with
  | nil=>intro _ _;exact ⟨fun ⟨g,hg,_⟩=>by simp at hg,fun _=>rfl⟩
  | cons s o ih=>
   intro ha hs;obtain ⟨a1,a2⟩:=List.pairwise_cons.1 ha;obtain ⟨i1,i2⟩:=ih a2 fun g hg=>hs g (List.mem_cons_of_mem _ hg)
   have e:=Kel [s] o L;rw[Kfy,List.singleton_append] at e
   by_cases hl:s.labels=L
   ·have hno:¬∃g∈o,g.labels=L:=fun ⟨g,hg,hgl⟩=>Kjo (a1 g hg) (by rw[hl,hgl])
    rw[if_pos hl,i2 hno,List.append_nil] at e;exact ⟨fun _=>by rw[e];exact hs s (List.mem_cons_self ..) hl,fun h0=>absurd ⟨s,List.mem_cons_self ..,hl⟩ h0⟩
   ·rw[if_neg hl,List.nil_append] at e;rw[e];refine ⟨fun ⟨g,hg,hgl⟩=>i1 ?_,fun h0=>i2 fun ⟨g,hg,hgl⟩=>h0 ⟨g,List.mem_cons_of_mem _ hg,hgl⟩⟩;rcases List.mem_cons.1 hg with rfl | hg
    ·exact absurd hgl hl
    ·exact ⟨g,hg,hgl⟩
 obtain ⟨k1,k2⟩:=key out h.asc fun g hg hgl=>by have:=((h.mem g).1 hg).2.1;rw[hgl] at this;exact this
 by_cases hex:∃g∈out,g.labels=L
 ·exact k1 hex
 ·rw[k2 hex];refine Eq.symm (List.eq_nil_of_length_eq_zero ?_);rcases Nat.eq_zero_or_pos (onceL Smp.t (gS l L)).length with q | q
  ·exact q
  ·exact absurd ⟨⟨L,onceL Smp.t (gS l L),onceL Wnd.start (gW l L)⟩,(h.mem _).2 ⟨(Kda _).2 (.inl q),rfl,rfl⟩,rfl⟩ hex
theorem Koh (ss:List Ser):∀s∈allF 0 ss,s.windows = []:=fun s hs=>by
 unfold allF Kbr at hs;rw[if_pos (by decide)] at hs;obtain ⟨x,_,rfl,_⟩:=Kfl hs;unfold keepS;dsimp only;rw[List.filter_eq_nil_iff];intro y _;simp
theorem Qcq {a b:Int} {l:List Ser} (h:∀s∈l,s.windows = []):∀s∈clipF a b l,s.windows = []:=fun s hs=>by
 obtain ⟨x,hx,rfl,_⟩:=Kfl hs;unfold keepS;dsimp only;rw[h x hx];rfl
theorem Qac (ss:List Ser) (L:List Lb):gS (allF 0 ss) L=onceL Smp.t (gS ss L):=by
 unfold allF Kbr;rw[if_pos (by decide),Kkw _ _ (fun _=>true) (fun s x=>by simp[Kcq]),Qga (Kcb ss)];simp
theorem Qcx (width:Int) (ss:List Ser) (L:List Int) (K:List Lb):gS ((Kbe width ss L).map Cont.series).flatten K=L.flatMap fun f=>(onceL Smp.t (gS ss K)).filter fun x=>inR f (min (f+width) 1125899906842625 - 1) x.t:=by
 induction L with
 | nil=>rfl
 | cons f L ih=>
  have e:((Kbe width ss (f :: L)).map Cont.series).flatten=clipF f (min (f+width) 1125899906842625 - 1) (allF 0 ss)++((Kbe width ss L).map Cont.series).flatten:=rfl;rw[e,Kel,ih,List.flatMap_cons];congr 1;unfold clipF;rw[Kkw _ _ (fun x=>inR f (min (f+width) 1125899906842625 - 1) x.t) (fun _ _=>rfl),Qac]
theorem Kpx {t width:Int} (hw:1≤width):(t - t % width) % width=0:=by
 have h1:=Int.emod_add_mul_ediv t width;have e:t - t % width=width*(t / width):=by omega
 rw[e];exact Int.mul_emod_right _ _
theorem Kti {t width:Int} (hw:1≤width):t < t - t % width+width:=by
 have:=Int.emod_lt_of_pos t (show 0 < width by omega);omega
theorem Kyo {width:Int} (hw:1≤width) {ss:List Ser} {L:List Int} (hL:Kcm width (Kar (allF 0 ss)) L) (K:List Lb) :
  Kaw Smp.t (gS ((Kbe width ss L).map Cont.series).flatten K) ((onceL Smp.t (gS ss K)).filter fun x=>inR 0 1125899906842624 x.t):=by
 rw[Qcx];have hA:=Kfn Smp.t (gS ss K)
 have hinj:∀x∈onceL Smp.t (gS ss K),∀y∈onceL Smp.t (gS ss K),x.t=y.t→x=y:=fun x hx y hy e=>by
  have h1:=(hA.mem x).1 hx;have h2:=(hA.mem y).1 hy;rw[e,h2] at h1;injection h1 with h1;exact h1.symm
 have hto:∀{f:Int} {L:List Int} {g:Int→List Smp} {x:Smp},x∈L.flatMap g↔∃f∈L,x∈g f:=List.mem_flatMap;refine Kvt (fun x hx y hy e=>?_) (hA.asc.filter _) fun x=>?_
 ·obtain ⟨f,_,hx⟩:=List.mem_flatMap.1 hx;obtain ⟨g,_,hy⟩:=List.mem_flatMap.1 hy;exact hinj x (List.mem_filter.1 hx).1 y (List.mem_filter.1 hy).1 e
 ·rw[List.mem_filter,List.mem_flatMap];constructor
  ·rintro ⟨hx,hr⟩;unfold inR at hr;rw[Bool.and_eq_true,decide_eq_true_eq,decide_eq_true_eq] at hr
   have htm:x.t∈Kar (allF 0 ss):=by
    rw[←Qac] at hx;obtain ⟨s,hs,_,hxs⟩:=Ktj hx;exact List.mem_flatMap.2 ⟨s,hs,List.mem_append_left _ (List.mem_map_of_mem hxs)⟩
   have hst:x.t - x.t % width∈L:=(hL.mem _).2 (List.mem_map.2 ⟨x.t,List.mem_filter.2 ⟨htm,Kfj.2 hr⟩,rfl⟩);refine ⟨_,hst,List.mem_filter.2 ⟨hx,?_⟩⟩;have h1:=Kgp x.t width hr.1 hw;have h2:=Kti (t:=x.t) hw;unfold inR;rw[Bool.and_eq_true,decide_eq_true_eq,decide_eq_true_eq];omega
  ·rintro ⟨f,hf,hx⟩;obtain ⟨hx,hr⟩:=List.mem_filter.1 hx;unfold inR at hr ⊢;rw[Bool.and_eq_true,decide_eq_true_eq,decide_eq_true_eq] at hr ⊢;have:=Kkm hw hL hf;exact ⟨hx,by omega⟩
theorem Kyq (ss:List Ser) (K:List Lb):Kaw Smp.t (gS (Kbz ss) K) ((onceL Smp.t (gS ss K)).filter fun x=>inR 0 1125899906842624 x.t):=by
 unfold Kbz clipF;rw[Qfz,Kkw _ _ (fun x=>inR 0 1125899906842624 x.t) (fun _ _=>rfl)];exact Kvs (Kfn Smp.t (gS ss K)) fun t=>inR 0 1125899906842624 t
theorem Qbe (width:Int) (ss:List Ser) (L:List Int):∀s∈((Kbe width ss L).map Cont.series).flatten,s.windows = []:=fun s hs=>by
 obtain ⟨M,hM,hs⟩:=List.mem_flatten.1 hs;obtain ⟨c,hc,rfl⟩:=List.mem_map.1 hM;obtain ⟨f,_,rfl⟩:=List.mem_map.1 hc;exact Qcq (Koh ss) s hs
theorem Kqf (ss:List Ser):∀s∈Kbz ss,s.windows = []:=fun s hs=>by
 obtain ⟨x,_,rfl⟩:=List.mem_map.1 hs;rfl
theorem Kmq {width:Int} (hw:1≤width) {ss:List Ser} {L:List Int} (hL:Kcm width (Kar (allF 0 ss)) L):Kam ((Kbe width ss L).map Cont.series).flatten=Kam (Kbz ss):=by
 have h1:=Kcb ((Kbe width ss L).map Cont.series).flatten;have h2:=Kcb (Kbz ss);refine IsMrg.unique (l:=Kbz ss) ⟨h1.asc,fun g=>?_⟩ h2;rw[h1.mem g,Koo (Qbe width ss L),Koo (Kqf ss)];have e:=(Kfn Smp.t (gS ((Kbe width ss L).map Cont.series).flatten g.labels)).unique _ (Kyo hw hL g.labels);have e2:=(Kfn Smp.t (gS (Kbz ss) g.labels)).unique _ (Kyq ss g.labels);rw[e,e2]
theorem Qdh {l out:List Ser} (h:IsMrg l out) (hl:∀s∈l,s.windows = []):∀s∈out,s.windows = []:=fun s hs=>by
 have:=((h.mem s).1 hs).2.2;rw[Koo hl] at this;simpa[onceL] using this
theorem Kyx {l:List Ser} (h1:∀s∈l,s.windows = []) (h2:∀s∈l,Kba s=true):Kbr 0 [] l=l:=by
 unfold Kbr keptF;rw[if_pos (by decide)]
 have e:l.map (keepS (fun s x=>decide ((0:Int).toNat=0) && !Kcq [] (0:Int).toNat s.labels x.t) (fun s x=>decide ((0:Int).toNat≠0) && !Kcq [] (0:Int).toNat s.labels x.start))=l:=by
  refine (List.map_congr_left fun s hs=>?_).trans (List.map_id l);have:=h1 s hs;obtain ⟨a,b,c⟩:=s;dsimp only at this;subst this;unfold keepS;simp[Kcq]
 rw[e];exact List.filter_eq_self.2 h2
theorem Kxi {width:Int} (hw:1≤width) {ss:List Ser} {L:List Int} (hL:Kcm width (Kar (allF 0 ss)) L):Kbr 0 [] (Kam ((Kbe width ss L).map Cont.series).flatten)=Kam (Kbz ss):=by
 rw[Kmq hw hL];exact Kyx (Qdh (Kcb _) (Kqf ss)) fun s hs=>(((Kcb (Kbz ss)).mem s).1 hs).1
theorem Kzk {width:Int} (hw:1≤width) {ss:List Ser} (hL:Kcm width (Kar (allF 0 ss)) []):Kam (Kbz ss) = []:=by
 rw[←Kmq hw hL];rfl
theorem Kqe {width:Int} {ss:List Ser} {L:List Int} (hne:L≠[]):(outC (Kbe width ss L)).1=0:=by
 cases L with
 | nil=>exact absurd rfl hne
 | cons f L=>rfl
theorem Qbc {width:Int} {ss:List Ser} {L:List Int} (hfit:(Kbe width ss L).all fitB=true):okAll (Kbe width ss L)=true:=by
 cases L with
 | nil=>rfl
 | cons f L=>
  unfold okAll;rw[List.all_eq_true] at hfit ⊢;intro c hc;rw[hfit c hc,Bool.true_and,decide_eq_true_eq,Kqe (by simp)];obtain ⟨g,_,rfl⟩:=List.mem_map.1 hc;rfl
theorem Qff {width:Int} (hw:1≤width) {ss:List Ser} {L:List Int} (hL:Kcm width (Kar (allF 0 ss)) L) {i:Nat} {f:Int} (hi:L[i]? = some f) :
  f % width=0∧(∀g,0 < i→L[i - 1]? = some g→min (g+width) 1125899906842625≤f)∧(Kbo 0 width (allF 0 ss) f).series≠[]:=by
 have hm:=List.mem_of_getElem? hi
 have hmod:∀{f:Int},f∈L→f % width=0:=fun {f} hf=>by
  obtain ⟨t,ht,rfl⟩:=List.mem_map.1 ((hL.mem f).1 hf);exact Kpx hw
 refine ⟨hmod hm,fun g h0 hg=>?_,?_⟩
 ·have hgm:=List.mem_of_getElem? hg
  have hlt:g < f:=by
   have hil:=(List.getElem?_eq_some_iff.1 hi).1;have:=List.pairwise_iff_getElem.1 hL.asc (i - 1) i (by omega) hil (by omega);rw[(List.getElem?_eq_some_iff.1 hg).2,(List.getElem?_eq_some_iff.1 hi).2] at this;exact this
  have h1:=hmod hm;have h2:=hmod hgm;have e1:f=width*(f / width):=by have:=Int.emod_add_mul_ediv f width;omega
  have e2:g=width*(g / width):=by have:=Int.emod_add_mul_ediv g width;omega
  have h3:g / width < f / width:=by
   refine Int.not_le.1 fun hle=>?_
   have:=Int.mul_le_mul_of_nonneg_left hle (show 0≤width by omega);omega
  have h4:width*(g / width+1)≤width*(f / width):=Int.mul_le_mul_of_nonneg_left (by omega) (by omega);rw[Int.mul_add,Int.mul_one] at h4;omega
 ·obtain ⟨t,ht,hft⟩:=List.mem_map.1 ((hL.mem f).1 hm);obtain ⟨ht,hin⟩:=List.mem_filter.1 ht;have hin2:=Kfj.1 hin;obtain ⟨s,hs,hts⟩:=List.mem_flatMap.1 ht;have hsw:=Koh ss s hs;unfold Kiy at hts;rw[hsw,List.map_nil,List.append_nil] at hts;obtain ⟨x,hx,rfl⟩:=List.mem_map.1 hts;have h1:=Kgp x.t width hin2.1 hw;have h2:=Kti (t:=x.t) hw;intro hnil
  have hmem:keepS (fun _ x=>inR f (min (f+width) 1125899906842625 - 1) x.t) (fun _ x=>inR f (min (f+width) 1125899906842625 - 1) x.start) s∈(Kbo 0 width (allF 0 ss) f).series:=by
   refine List.mem_filter.2 ⟨List.mem_map_of_mem hs,(Kda _).2 (.inl ?_)⟩;refine List.length_pos_of_mem (a:=x) (List.mem_filter.2 ⟨hx,?_⟩);unfold inR;rw[Bool.and_eq_true,decide_eq_true_eq,decide_eq_true_eq];omega
  rw[hnil] at hmem;simp at hmem
theorem Kmk {β : Type} (a b:β→Nat):∀L:List β,(L.map fun f=>a f+b f).sum=(L.map a).sum+(L.map b).sum
 | []=>rfl
 | f :: L=>by
  have:=Kmk a b L;simp only[List.map_cons,List.sum_cons];omega
theorem Ktz {α β : Type} (p:β→α→Bool) (x:α):∀L:List β,(L.Pairwise fun f g=>∀x,p f x=true→p g x=false)→(L.map fun f=>if p f x=true then 1 else 0).sum≤1
 | [],_=>by simp
 | f :: L,h=>by
  obtain ⟨h1,h2⟩:=List.pairwise_cons.1 h;rw[List.map_cons,List.sum_cons]
  by_cases hp:p f x=true
  ·have h0:∀M:List β,(∀g∈M,p g x=false)→(M.map fun f=>if p f x=true then 1 else 0).sum=0:=by
    intro M
    induction M with
    | nil=>intro _;rfl
    | cons g M ih=>
     intro hM;rw[List.map_cons,List.sum_cons,ih fun z hz=>hM z (List.mem_cons_of_mem _ hz),hM g (List.mem_cons_self ..)];simp
   rw[if_pos hp,h0 L fun g hg=>h1 g hg x hp];omega
  ·rw[if_neg hp];have:=Ktz p x L h2;omega
theorem Kmz {α β : Type} (p:β→α→Bool) (L:List β) (hd:L.Pairwise fun f g=>∀x,p f x=true→p g x=false):∀xs:List α,(L.map fun f=>(xs.filter (p f)).length).sum≤xs.length
 | []=>by
  have:(L.map fun f=>(([]:List α).filter (p f)).length)=L.map fun _=>0:=rfl
  rw[this];clear this hd
  induction L with
  | nil=>simp
  | cons f L ih=>simpa using ih
 | x :: xs=>by
  have ih:=Kmz p L hd xs
  have e:(L.map fun f=>((x :: xs).filter (p f)).length)=L.map fun f=>(if p f x=true then 1 else 0)+(xs.filter (p f)).length:=by
   refine List.map_congr_left fun f _=>?_
   rw[List.filter_cons]
   by_cases hp:p f x=true
   ·rw[if_pos hp,if_pos hp,List.length_cons];omega
   ·rw[if_neg hp,if_neg hp];omega
  have h1:=Ktz p x L hd;rw[e,Kmk,List.length_cons];omega
theorem Kyv {width:Int} (hw:1≤width) {ts L:List Int} (hL:Kcm width ts L) {f g:Int} (hf:f∈L) (hg:g∈L) (h:f < g):f+width≤g:=by
 have hmod:∀{f:Int},f∈L→f % width=0:=fun {f} hf=>by
  obtain ⟨t,ht,rfl⟩:=List.mem_map.1 ((hL.mem f).1 hf);exact Kpx hw
 have h1:=hmod hf;have h2:=hmod hg;have e1:f=width*(f / width):=by have:=Int.emod_add_mul_ediv f width;omega
 have e2:g=width*(g / width):=by have:=Int.emod_add_mul_ediv g width;omega
 have h3:f / width < g / width:=by
  refine Int.not_le.1 fun hle=>?_
  have:=Int.mul_le_mul_of_nonneg_left hle (show 0≤width by omega);omega
 have h4:width*(f / width+1)≤width*(g / width):=Int.mul_le_mul_of_nonneg_left (by omega) (by omega);rw[Int.mul_add,Int.mul_one] at h4;omega
theorem Klk:∀{l:List Ser},(∀s∈l,Kba s=true)→l.length≤sumS l
 | [],_=>by simp
 | s :: l,h=>by
  have h1:=Klk (l:=l) fun x hx=>h x (List.mem_cons_of_mem _ hx)
  have h2:=h s (List.mem_cons_self ..);unfold Kba at h2;rw[decide_eq_true_eq] at h2;rw[Kbc,List.length_cons];omega
theorem Kry (a b:Int):∀{l:List Ser},(∀s∈l,s.windows = [])→sumS (clipF a b l)≤(l.map fun s=>(s.samples.filter fun x=>inR a b x.t).length).sum
 | [],_=>by simp[clipF,keptF,sumS]
 | s :: l,h=>by
  have h1:=Kry a b (l:=l) fun x hx=>h x (List.mem_cons_of_mem _ hx)
  have h2:=h s (List.mem_cons_self ..)
  have e:clipF a b (s :: l)=(if Kba (keepS (fun _ x=>inR a b x.t) (fun _ x=>inR a b x.start) s)=true then [keepS (fun _ x=>inR a b x.t) (fun _ x=>inR a b x.start) s] else [])++clipF a b l:=by
   unfold clipF keptF;rw[List.map_cons,List.filter_cons]
   split <;> rfl
  rw[e,Kiu,List.map_cons,List.sum_cons]
  split
  ·unfold keepS;rw[h2];simp only[sumS,List.map_cons,List.map_nil,List.sum_cons,List.sum_nil,List.filter_nil,List.length_nil] at h1 ⊢;omega
  ·have e0:sumS []=0:=rfl;omega
theorem Kua {β : Type} (L:List β) (c:β→Ser→Nat) (hc:∀s:Ser,(L.map fun f=>c f s).sum≤s.samples.length):∀l:List Ser,(L.map fun f=>(l.map (c f)).sum).sum≤sumS l
 | []=>by
  have:(L.map fun f=>(([]:List Ser).map (c f)).sum)=L.map fun _=>0:=rfl
  rw[this];clear this hc
  induction L with
  | nil=>simp
  | cons f L ih=>simpa[sumS] using ih
 | s :: l=>by
  have ih:=Kua L c hc l;have h1:=hc s;have e:(L.map fun f=>((s :: l).map (c f)).sum)=L.map fun f=>c f s+(l.map (c f)).sum:=rfl
  rw[e,Kmk,Kbc];omega
theorem Qbd {width:Int} (hw:1≤width) {ss:List Ser} {L:List Int} (hL:Kcm width (Kar (allF 0 ss)) L) :
  sumS ((Kbe width ss L).map Cont.series).flatten≤sumS (allF 0 ss)∧((Kbe width ss L).map Cont.series).flatten.length≤sumS (allF 0 ss):=by
 have hgood:∀s∈((Kbe width ss L).map Cont.series).flatten,Kba s=true:=fun s hs=>by
  obtain ⟨M,hM,hs⟩:=List.mem_flatten.1 hs;obtain ⟨c,hc,rfl⟩:=List.mem_map.1 hM;obtain ⟨f,_,rfl⟩:=List.mem_map.1 hc;obtain ⟨x,_,rfl,hg⟩:=Kfl (l:=allF 0 ss) hs;exact hg
 have hsum:∀M:List Int,sumS ((Kbe width ss M).map Cont.series).flatten≤(M.map fun f=>((allF 0 ss).map fun s=>(s.samples.filter fun x=>inR f (min (f+width) 1125899906842625 - 1) x.t).length).sum).sum:=by
  intro M
  induction M with
  | nil=>exact Nat.le_refl 0
  | cons f M ih=>
   have e:((Kbe width ss (f :: M)).map Cont.series).flatten=clipF f (min (f+width) 1125899906842625 - 1) (allF 0 ss)++((Kbe width ss M).map Cont.series).flatten:=rfl;have h1:=Kry f (min (f+width) 1125899906842625 - 1) (Koh ss);rw[e,Kiu,List.map_cons,List.sum_cons];omega
 have hdis:L.Pairwise fun f g=>∀x:Smp,inR f (min (f+width) 1125899906842625 - 1) x.t=true→inR g (min (g+width) 1125899906842625 - 1) x.t=false:=by
  refine hL.asc.imp_of_mem fun {f g} hf hg hlt x hx=>?_
  have h1:=Kyv hw hL hf hg hlt;unfold inR at hx ⊢;rw[Bool.and_eq_true,decide_eq_true_eq,decide_eq_true_eq] at hx;rw[Bool.and_eq_false_iff];left;rw[decide_eq_false_iff_not];omega
 have hswap:=Kua L (fun f s=>(s.samples.filter fun x=>inR f (min (f+width) 1125899906842625 - 1) x.t).length) (fun s=>Kmz (fun f (x:Smp)=>inR f (min (f+width) 1125899906842625 - 1) x.t) L hdis s.samples) (allF 0 ss);have h1:=Nat.le_trans (hsum L) hswap;exact ⟨h1,Nat.le_trans (Klk hgood) h1⟩
end
end Go.Proofs.YtdoiekknhnbepaaGreatDoor
