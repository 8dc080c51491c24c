/- Merged (what the claim wants of): MrgMerge. -/
import Derived.Test.YtdoiekknhnbepaaGreatDoorCob07
import Derived.Test.YtdoiekknhnbepaaGreatDoorCob02
import Derived.Test.YtdoiekknhnbepaaGreatDoorCob10
import Derived.Test.YtdoiekknhnbepaaGreatDoorCob12
set_option linter.unusedVariables false
set_option linter.unusedSimpArgs false
set_option maxRecDepth 100000
set_option maxHeartbeats 8000000
namespace Go.Proofs.YtdoiekknhnbepaaGreatDoor
section
open Go.Shelf Go.RowKit Go.Lib Go.Sort
open Lib renaming hid → Jh
open List renaming setIfInBounds_toArray → Ja, set_cons_zero → Jb, set_cons_succ → Jc, length_append → Jd
attribute [local go_sem ↓] Go.wp_at_zero Go.wp_at_succ
attribute [local go_sem] Later.cell
section
set_option maxHeartbeats 4000000
set_option maxRecDepth 100000
theorem Khg:(Tryz.prog.info? 102).map (fun i=>(i.zero,i.size,i.bytes))=some (some (.agg #[.int .i64 0,.int .u64 0]),2,16):=by kernel_rfl
theorem Khh:(Tryz.prog.info? 135).map (fun i=>(i.zero,i.size,i.bytes))=some (some (.agg #[.int .i64 0,.int .i64 0,.int .u64 0,.int .u64 0,.int .u64 0,.int .u64 0]),6,48):=by kernel_rfl
theorem Qcy {w0:World} (ys:List (MS w0)) {i:Nat} (hi:i < ys.length):grpG ((ys.take (i+1)).map MS.s)=addG (openG (grpG ((ys.take i).map MS.s)) ys[i]!.s) ys[i]!.s:=by
 rw[List.take_add_one,List.getElem?_eq_getElem hi,List.map_append,getElem!_pos ys i hi];unfold grpG;rw[List.foldl_append];rfl
theorem Kws (l:List Ser):∀gs:List Ser,(l.foldl stepG gs).length≤gs.length+l.length:=by
 induction l with
 | nil=>intro gs;simp
 | cons s l ih=>
  intro gs;have h1:=ih (stepG gs s)
  have h2:(stepG gs s).length≤gs.length+1:=by
   unfold stepG;rw[Qew];unfold openG
   split <;> simp
  rw[List.foldl_cons,List.length_cons];omega
theorem Qdz {w0:World} (ys:List (MS w0)) (i:Nat):sumS (grpG ((ys.take i).map MS.s))≤sumS (ys.map MS.s):=by
 unfold grpG;rw[Kty]
 conv=>rhs;rw[←List.take_append_drop i ys,List.map_append,Kiu]
 simp[sumS]
theorem Kdn {w:World} {B B' n sz:Nat} {T:TypeId} {v:Value} {xs:List Value} (h:w.ownsRow B T sz v n xs) (hB:B'≤B):w.ownsRow B' T sz v n xs:=
 ⟨h.1,h.2.imp id fun ⟨g,cap,cur,e,h1,h2⟩=>⟨g,cap,cur,e,Nat.le_trans hB h1,h2⟩⟩
theorem Kaq {w w':World} {B n sz:Nat} {T:TypeId} {v:Value} {xs:List Value} (h:w.ownsRow B T sz v n xs) (hb:Below w.heap.size w w'):w'.ownsRow B T sz v n xs:=
 Kck h hb.size fun k hk=>hb.block k (h.lt k hk).2
theorem Qfl {w0:World} (ys:List (MS w0)) {i:Nat} (hi:i < ys.length):ys[i]!.s.samples.length+ys[i]!.s.windows.length≤sumS (ys.map MS.s):=by
 have:=Keg (gs:=ys.map MS.s) (k:=i) (by simpa using hi);rw[show (ys.map MS.s)[i]! = ys[i]!.s by rw[getElem!_pos _ i (by simpa using hi),getElem!_pos ys i hi,List.getElem_map]] at this;exact this
theorem Qdy {a b:List Ser} (h:a.Perm b):sumS a=sumS b:=(h.map _).sum_nat
attribute [local go_sem] Kbs.cell
theorem Kvl {w0:World} (xs:List (MS w0)) (A:Option Addr) (n c:Nat) (hs0:List Hd) (Ks:List (List Hd3)) (hF:Ks.flatten=xs.map MS.h) (h:CatIn w0 A n hs0 Ks) (hN:xs.length≤274877906944) (hn:n≤140737488355328) (hsum:sumS (xs.map MS.s)≤137438953472) :
  Calls Tryz.prog 24 #[.slice A n c] w0 fun e w'=>∃(ys:List (MS w0)) (A':Option Addr) (n' c':Nat),e = .returned (.slice A' n' c')∧Stab (ltOf cfM) xs ys∧Sers w' A' n' (Keo (ys.map MS.s))∧n'≤c'∧Below w0.heap.size w0 w':=by
 obtain ⟨ib,hib,hz0,hz1,hz2⟩:=info_parts Kfz;have HCAT:=Jh (Kse A n c hs0 Ks (xs.map MS.h) hF w0 h (by simpa using hN) hn);have HSUMX:=Jh hsum;have HNX:=Jh hN;clear h hF hsum hn hN;go_enter Tryz.func24,Tryz.ntmps24
 go_wp2_with fail
 refine HCAT.out.mono ?_;rintro e1 w1 ⟨va,rfl,ha1,ha2⟩
 have hrow1:w1.ownsRow w0.heap.size 58 3 va xs.length (xs.flatMap encMS):=by
  rw[List.length_map,List.flatMap_map] at ha1;exact ha1
 have hsort:Calls Tryz.prog 58 #[va,.func (.func 59) #[] #[]] w1 fun e w'=>e = .returned (.tuple #[])∧∃ys:List (MS w0),Stab (ltOf cfM) xs ys∧w'.ownsRow w0.heap.size 58 3 va xs.length (ys.flatMap encMS)∧Below w0.heap.size w0 w':=by
  rcases hrow1.2 with ⟨e0,h0⟩ | ⟨g,cap,cur,e0,_⟩
  ·subst e0;refine (Koy _ w1).mono ?_;rintro e w' ⟨rfl,rfl⟩;exact ⟨rfl,xs,by rw[List.eq_nil_of_length_eq_zero h0];exact Stab.nil,hrow1,ha2⟩
  ·subst e0;refine (Kre xs w0.heap.size xs.length g cap w1 ha2 (Nat.le_refl _) hrow1 rfl (by have:=HNX.out;omega)).mono ?_;rintro e w' ⟨rfl,ys,h1,h2,h3⟩;exact ⟨rfl,ys,h1,h2,ha2.grown h3 ha2.size (fun k hk=>by injection hk with hk;have:=(hrow1.lt g rfl).1;omega)⟩
 obtain ⟨AV,cV0,rfl⟩:=Kan hrow1;have HSORT:=Jh hsort;clear ha1 ha2 hrow1 hsort;go_wp2_with fail
 refine HSORT.out.mono ?_;rintro e2 w2 ⟨rfl,ys,hst,hrow2,hb2⟩;have HST:=Jh hst;have HROW2:=Jh hrow2;have HB2:=Jh hb2;have HB02:Hid (w0.heap.size≤w2.heap.size):=hb2.size;obtain ⟨N,hN⟩:∃N,N=xs.length:=⟨_,rfl⟩;have HYL:Hid (ys.length=N):=by show _=_;rw[hN];exact hst.len
 have HSUMY:Hid (sumS (ys.map MS.s)≤137438953472):=by show _≤_;rw[Qdy (hst.perm.map _)];exact HSUMX.out
 rw[←hN] at hrow2 ⊢;have HROW2:Hid (w2.ownsRow w0.heap.size 58 3 (.slice AV N cV0) N (ys.flatMap encMS)):=hrow2;have hNz:N≤274877906944:=by rw[hN];exact HNX.out
 have M0:Hid (MSt w0 w2 w2 (.slice none 0 0) [] (grpG ((ys.take 0).map MS.s))):=⟨hb2,Below.refl _ _,World.ownsRow_nil _ _ _ _,⟨rfl,fun i h hi=>by simp at hi,fun i j h h' hi=>by simp at hi⟩⟩;clear hst hrow2 hb2 HSORT HCAT hN;go_wp2_with fail
 go_loopg [4,16] N (fun kx s4 s16 wr=>∃(i:Nat) (hs:List Hd3),s16 = .int .i64 (i:Int)∧i+kx=N∧Hid (MSt w0 w2 wr s4 hs (grpG ((ys.take i).map MS.s))))
 case atStart=>exact ⟨0,[],rfl,by omega,M0⟩
 case round=>
  clear M0;obtain ⟨i,hs,rfl,hi,HM⟩:=hrel;rcases Nat.lt_or_ge i N with hlt | hge
  ·have hlz:(i:Int) < (N:Int):=by omega
   obtain ⟨A4,cV,hv4⟩:=Kan HM.out.row;obtain ⟨m,hm⟩:∃m,m=hs.length:=⟨_,rfl⟩;rw[←hm] at hv4;subst hv4;have HML0:Hid (hs.length=m):=hm.symm
   have hmz:m≤274877906944:=by
    have h1:=HM.out.rows.len;have h2:=Kws ((ys.take i).map MS.s) [];rw[List.length_map,List.length_take,List.length_nil] at h2;unfold grpG at h1;omega
   obtain ⟨gs0,hgs0⟩:∃q,q=grpG ((ys.take i).map MS.s):=⟨_,rfl⟩;rw[←hgs0] at HM;have HG0:=Jh hgs0;clear hgs0 hm;have hil:i < ys.length:=by rw[HYL.out];exact hlt
   obtain ⟨gA,hgA⟩:∃gA,AV=some ⟨gA,0,none⟩:=by
    rcases HROW2.out.2 with ⟨e0,h0⟩ | ⟨g,cap,cur,e0,_⟩
    ·omega
    ·injection e0 with e0;exact ⟨g,e0⟩
   subst hgA;obtain ⟨y,hy⟩:∃y,y=ys[i]!:=⟨_,rfl⟩;have hyi:ys[i]? = some y:=by rw[hy,getElem!_pos ys i hil];exact List.getElem?_eq_getElem hil
   have hcell:∀j v,j < 3→(encMS y)[j]? = some v→wr.cell? ⟨gA,i*3+j,none⟩=some v:=fun j v hj hv=>by
    have h1:=HROW2.out.cells (g:=gA) rfl (i*3+j) v (by rw[Kct Khe ys i j y hyi hj];exact hv)
    have ea:(⟨gA,0,none⟩:Addr).add (i*3+j)=⟨gA,i*3+j,none⟩:=by
     unfold Addr.add
     split
     ·rename_i h0;simp at h0 ⊢;(try omega)
     ·simp
    rw[ea] at h1;exact (HM.out.b2.cell (p:=⟨gA,i*3+j,none⟩) (HROW2.out.lt gA rfl).2).trans h1
   have hGRP:grpG ((ys.take (i+1)).map MS.s)=addG (openG gs0 y.s) y.s:=by rw[Qcy ys hil,←HG0.out,hy]
   have hSO:y.s.samples.length+y.s.windows.length≤137438953472:=by rw[hy];exact Nat.le_trans (Qfl ys hil) HSUMY.out
   have hSG:sumS gs0≤137438953472:=by rw[HG0.out];exact Nat.le_trans (Qdz ys i) HSUMY.out
   clear hy hyi;obtain ⟨⟨⟨lA,ln,lc⟩,⟨sA,sn,sc⟩,⟨wA,wn,wc⟩⟩,s,sat,sz⟩:=y;have c0:=hcell 0 (.slice lA ln lc) (by decide) rfl;have c1:=hcell 1 (.slice sA sn sc) (by decide) rfl;have c2:=hcell 2 (.slice wA wn wc) (by decide) rfl;rw[Nat.add_zero] at c0;dsimp only at hGRP hSO sz;have HS:Hid (Elems w0 w0.heap.size 2 Kad sA sn s.samples):=sat.s;have HW:Hid (Elems w0 w0.heap.size 6 Kai wA wn s.windows):=sat.w;have HL:Hid (Elems w0 w0.heap.size 2 encLb lA ln s.labels):=sat.l;have HLC:Hid (ln≤lc):=sat.lc
   have HNL:Hid (sn≤1099511627776∧wn≤1099511627776):=by
    have h1:=sat.s.len;have h2:=sat.w.len;dsimp only at h1 h2;exact ⟨by omega,by omega⟩
   have HLS:Hid (s.samples.length≤137438953472∧s.windows.length≤137438953472):=⟨by omega,by omega⟩;have HGRP1:Hid (addG (openG gs0 s) s=grpG ((ys.take (i+1)).map MS.s)):=hGRP.symm;have HSG:Hid (sumS gs0≤137438953472):=hSG;clear sat hGRP hSO hSG hcell;have hgAl:gA < wr.heap.size:=Nat.lt_of_lt_of_le (HROW2.out.lt gA rfl).2 HM.out.b2.size;go_upto_region 7 with fail
   obtain ⟨wb,hwb⟩:∃x,x=wr.alloc (.cells #[.slice lA ln lc,.slice sA sn sc,.slice wA wn wc] 58):=⟨_,rfl⟩;obtain ⟨p,hp⟩:∃p,p=wr.heap.size:=⟨_,rfl⟩;have HBP:Hid (Blk wb p 58 #[.slice lA ln lc,.slice sA sn sc,.slice wA wn wc]):=by show Blk _ _ _ _;rw[hwb,hp];exact Blk.new _ _ _
   have HMB:Hid (MSt w0 w2 wb (.slice A4 m cV) hs gs0):=by show MSt _ _ _ _ _ _;rw[hwb];exact HM.out.below ((Below.refl _ _).alloc (Nat.le_refl _) _)
   have HBW:Hid (Below w0.heap.size w0 wb):=HMB.out.b0;have HPR:Hid (∀k,(Value.slice A4 m cV).ownBlock=some k→k≠p):=fun k hk=>by have:=(HM.out.row.lt k hk).2;omega
   rw[←hwb,←hp];clear hwb hp HM c0 c1 c2 hgAl
   have HCL:Hid (∀W,Below w0.heap.size w0 W→Calls Tryz.prog 61 #[.slice lA ln lc] W fun e w'=>(∃A' c',e = .returned (.slice A' ln c')∧ln≤c'∧(ln=0∨w'.ownsRow W.heap.size 99 2 (.slice A' ln c') ln (s.labels.flatMap encLb)))∧Below W.heap.size W w'):=fun W hb=>
    Khc s.labels lA ln lc W ((HL.out.below hb).more hb.size) (by omega)
   have hbp0:wb.cell? ⟨p,0,none⟩=some (.slice lA ln lc):=HBP.out.cell 0;have hpl:p < wb.heap.size:=HBP.out.lt;rcases Nat.eq_zero_or_pos m with h0 | h0
   ·have hgs0:gs0 = []:=List.eq_nil_of_length_eq_zero (by rw[←HMB.out.rows.len,HML0.out,h0]);have HOP:Hid (openG gs0 s=gs0 ++ [⟨s.labels,[],[]⟩]):=by show _=_;unfold openG;rw[if_pos (.inl hgs0)]
    obtain ⟨last,hla⟩:∃last:Int,(m:Int) - 1=last:=⟨_,rfl⟩;have hla2:last < 0:=by omega
    have hla3:last+1=(m:Int):=by omega
    clear hgs0 h0;go_upto_region 8 with fail
    refine Kah (by kernel_rfl) (by kernel_rfl) ?_
    repeat (go_big_quiet_step (fail))
    refine wpQuiet_nil ?_;rintro wq ⟨⟨_,hbq⟩,rfl⟩;have HBP2:Hid (Blk wq p 58 #[.slice lA ln lc,.slice sA sn sc,.slice wA wn wc]):=HBP.out.below hbq HBP.out.lt;have HMB2:Hid (MSt w0 w2 wq (.slice A4 m cV) hs gs0):=HMB.out.below hbq;clear HBP HMB HBW hbp0 hpl hbq;have hbq0:Below w0.heap.size w0 wq:=HMB2.out.b0;have hbpq:wq.cell? ⟨p,0,none⟩=some (.slice lA ln lc):=HBP2.out.cell 0;have hbpl:=HBP2.out.lt;go_wp2_with fail
    refine (HCL.out wq hbq0).mono ?_;rintro _ w4 ⟨⟨A6,c6,rfl,hc6,hown6⟩,hb4⟩;have hM4:MSt w0 w2 w4 (.slice A4 m cV) hs gs0:=HMB2.out.below hb4;obtain ⟨w5,hw5⟩:∃y,y=w4.alloc (.cells #[.slice A6 ln c6,.slice none 0 0,.slice none 0 0] 58):=⟨_,rfl⟩;have hb5:Below w4.heap.size w4 w5:=by rw[hw5];exact (Below.refl _ _).alloc (Nat.le_refl _) _
    have hM5:MSt w0 w2 w5 (.slice A4 m cV) hs gs0:=hM4.below hb5;have hBP5:Blk w5 p 58 #[.slice lA ln lc,.slice sA sn sc,.slice wA wn wc]:=(HBP2.out.below hb4 HBP2.out.lt).below hb5 (HBP2.out.below hb4 HBP2.out.lt).lt;have hnew5:Blk w5 w4.heap.size 58 #[.slice A6 ln c6,.slice none 0 0,.slice none 0 0]:=by rw[hw5];exact Blk.new _ _ _
    have hrow5:w5.ownsRow w2.heap.size 58 3 (.slice A4 m cV) m (hs.flatMap encH3):=by have:=hM5.row;rw[HML0.out] at this;exact this
    have hlab5:ln=0∨w5.ownsRow w2.heap.size 99 2 (.slice A6 ln c6) ln (s.labels.flatMap encLb):=hown6.imp id fun y=>Kdn (Kaq y hb5) HMB2.out.b2.size
    have HM5:=Jh hM5;have HBP5:=Jh hBP5;have HLAB5:=Jh hlab5;have HPR2:Hid (∀k,(Value.slice A4 m cV).ownBlock=some k→k≠p):=HPR.out;have HPQ:Hid (p < w5.heap.size):=hBP5.lt;have hz5:=hM5.b2.size;have HC6:Hid (ln≤c6):=hc6;clear hbpq hbpl hbq0 hown6 hM4 hM5 hBP5 hlab5 HMB2 HBP2 hb4 hb5;go_wp2_with (at_builtin;(try rw[←hw5]);refine wpList_append_own_at _ rfl _ _ 26 rfl w2.heap.size 58 ib (.agg #[.slice none 0 0,.slice none 0 0,.slice none 0 0]) 3 72 Tryz.underlying26 hib hz0 hz1 hz2 rfl (by decide) (.slice A4 m cV) m _ rfl hrow5 ⟨w4.heap.size,0,none⟩ 1 1 [.slice A6 ln c6,.slice none 0 0,.slice none 0 0] rfl rfl (Kav (l:=[.slice A6 ln c6,.slice none 0 0,.slice none 0 0]) hnew5) ?p2 ?p3 ?p4 ?p5 ?_)
    case p2=>intro u hu;simp only[List.mem_cons,List.not_mem_nil,or_false] at hu;rcases hu with rfl | rfl | rfl <;> rfl
    case p3=>unfold maxLen;omega
    case p4=>omega
    case p5=>exact hz5
    intro v6 wb hown' hgrow _ hat;rw[←hw5] at hgrow;obtain ⟨A7,cV,rfl⟩:=Kan hown'
    have hmore:MSt w0 w2 wb (.slice A7 (m+1) cV) (hs ++ [⟨⟨A6,ln,c6⟩,⟨none,0,0⟩,⟨none,0,0⟩⟩]) (gs0 ++ [⟨s.labels,[],[]⟩]):=by
     refine HM5.out.more HB02.out hgrow (by rw[HML0.out];exact hown') ⟨?_,HL.out.len,HC6.out,World.ownsRow_nil _ _ _ _,World.ownsRow_nil _ _ _ _⟩ rfl rfl;rcases HLAB5.out with e | e
     ·exact .inl ⟨e,List.eq_nil_of_length_eq_zero (by rw[HL.out.len];exact e)⟩
     ·refine .inr ?_;rw[HL.out.len];exact e
    have hBP6:Blk wb p 58 #[.slice lA ln lc,.slice sA sn sc,.slice wA wn wc]:=HBP5.out.grown hgrow (fun e=>HPR2.out p e.symm rfl)
    obtain ⟨g,hg7⟩:∃g,A7=some ⟨g,0,none⟩:=by
     rcases hown'.2 with ⟨e0,h1⟩ | ⟨g,cap,cur,e0,_⟩
     ·omega
     ·injection e0 with e0;exact ⟨g,e0⟩
    subst hg7
    have hgp6:g≠p:=by
     rcases hat with e | e
     ·exact HPR2.out g (by rw[←e];rfl)
     ·have e2:g=w5.heap.size:=by
       first
       | (have e3:some g=some w5.heap.size:=e;injection e3)
       | (have e3:some g=some (w4.heap.size+1):=e;injection e3 with e4;rw[e4,hw5];simp)
       | (rw[←hw5] at e;injection e)
       | (rw[hw5];injection e)
      have:=HPQ.out;omega
    have hlk:(hs ++ [(⟨⟨A6,ln,c6⟩,⟨none,0,0⟩,⟨none,0,0⟩⟩:Hd3)]).length=m+1:=by rw[Jd,HML0.out];rfl
    rw[←HOP.out] at hmore;generalize hs ++ [(⟨⟨A6,ln,c6⟩,⟨none,0,0⟩,⟨none,0,0⟩⟩:Hd3)]=hs at hmore hlk;obtain ⟨gs,hgs⟩:∃q,q=openG gs0 s:=⟨_,rfl⟩;rw[←hgs] at hmore;have MST:Hid (MSt w0 w2 wb (.slice (some ⟨g,0,none⟩) (m+1) cV) hs gs):=hmore;have HML:Hid (hs.length=m+1):=hlk;have HBP:Hid (Blk wb p 58 #[.slice lA ln lc,.slice sA sn sc,.slice wA wn wc]):=hBP6;have HBW:Hid (Below w0.heap.size w0 wb):=hmore.b0;have HGP:Hid (g≠p):=hgp6;have HGRP:Hid (addG gs s=grpG ((ys.take (i+1)).map MS.s)):=by show _=_;rw[hgs];exact HGRP1.out
    have HSUM:Hid (sumS gs≤137438953472):=by show _≤_;rw[hgs,Kko];exact HSG.out
    have hmL:m < m+1:=by omega
    have hmLz:(m:Int) < (m:Int)+1:=by omega
    clear hown' hgrow hat hmore hBP6 hgp6 hlk hgs hrow5 hnew5 hz5 HM5 HBP5 HLAB5 HC6 HPR2 HPQ HOP HGRP1 HSG HML0 hw5;clear HPR HCL;go_wp2_with fail
    obtain ⟨x,hx⟩:∃x,hs[m]? = some x:=⟨hs[m]'(by have:=HML.out;omega),List.getElem?_eq_getElem _⟩;have hMd:MSt w0 w2 wb.drew (.slice (some ⟨g,0,none⟩) (m+1) cV) hs gs:=MST.out.below (Below.refl _ _).drew;have hax:=hMd.rows.at_ m x hx;have hgk:gs[m]! = lastS gs:=by unfold lastS;rw[show gs.length - 1=m by have:=HML.out;have:=hMd.rows.len;omega]
    rw[hgk] at hax;have hdl:wb.drew.heap.size=wb.heap.size:=rfl;obtain ⟨i1,hi1,hy0,hy1,hy2⟩:=info_parts Khg;have hEl:Elems wb.drew wb.drew.heap.size 2 Kad sA sn s.samples:=(HS.out.below HBW.out.drew).more HBW.out.size;have hlim:(lastS gs).samples.length≤1099511627776:=by have:=HSUM.out;have h3:=Keg (gs:=gs) (k:=m) (by have:=HML.out;have:=hMd.rows.len;omega);rw[hgk] at h3;omega
    have hnn:sn≤1099511627776:=HNL.out.1;obtain ⟨v9,w9,hr9,ho9,hg9,hb9⟩:=Kcy (P:=Tryz.prog) w2.heap.size 55 55 102 i1 (.agg #[.int .i64 0,.int .u64 0]) 2 16 Tryz.underlying55 hi1 hy0 hy1 hy2 rfl (by decide) Kep Kis (spM x) (lastS gs).samples hax.sm sA sn sc s.samples hEl (by unfold maxLen;omega) (by omega) hMd.b2.size;obtain ⟨A9,c9,rfl⟩:=Kan ho9;obtain ⟨n9,hn9⟩:∃n9,n9=((lastS gs).samples++s.samples).length:=⟨_,rfl⟩;rw[←hn9] at hr9 ho9 hb9;have hput:=(hMd.put HB02.out (k:=m) (x:=x) (x':=⟨x.l,⟨A9,n9,c9⟩,x.w⟩) (s':=⟨(lastS gs).labels,(lastS gs).samples++s.samples,(lastS gs).windows⟩) (w4:=w9) hx hg9.os hg9.tape hg9.output hg9.size (fun j hj h1 h2=>hg9.block j hj h1) rfl (by rw[hgk]) (by show w9.ownsRow _ _ _ (.slice A9 n9 c9) ((lastS gs).samples++s.samples).length _;rw[←hn9];exact ho9) (Kck (v:=wpM x) hax.wd hg9.size (fun j hj=>hg9.block j (hax.wd.lt j hj).2 (fun e=>(Kbq hax.wd hax.sm (by decide)).elim (fun q=>by rw[q] at hj;cases hj) (fun q=>q (hj.trans e))))) hb9 (.inl rfl)).1 rfl
    have hcell:wb.drew.cell? ⟨g,m*3+1,none⟩=some (.slice x.s.A x.s.n x.s.c):=by
     have h1:=hMd.row.cells (g:=g) rfl (m*3+1) (.slice x.s.A x.s.n x.s.c) (by rw[Kct Kcc hs m 1 x hx (by decide)];rfl);have ea:(⟨g,0,none⟩:Addr).add (m*3+1)=⟨g,m*3+1,none⟩:=by unfold Addr.add;simp
     rw[ea] at h1;exact h1
    have hbp:Blk wb.drew p 58 #[.slice lA ln lc,.slice sA sn sc,.slice wA wn wc]:=HBP.out;have hbc:wb.drew.cell? ⟨p,1,none⟩=some (.slice sA sn sc):=hbp.cell 1;have hgz:g < wb.drew.heap.size:=(hMd.row.lt g rfl).2;have hgr:g≠p:=HGP.out
    have hcell9:w9.cell? ⟨g,m*3+1,none⟩=some (.slice x.s.A x.s.n x.s.c):=by
     obtain ⟨cur,hcur⟩:=Kax hMd.row (r:=g) rfl;have hgb:Blk wb.drew g 58 cur:=hcur;exact (World.cell?_of_block (w:=wb.drew) (hg9.block g hgz (Kag hgb hax.sm (by decide)))).trans hcell
    have hfr9:w9.frozen? ⟨g,m*3+1,none⟩=false:=by
     obtain ⟨cur,hcur⟩:=Kax hMd.row (r:=g) rfl;have hgb:Blk wb.drew g 58 cur:=hcur;exact (hgb.grown hg9 (Kag hgb hax.sm (by decide))).frozen _
    have hbp9:Blk w9 p 58 #[.slice lA ln lc,.slice sA sn sc,.slice wA wn wc]:=hbp.grown hg9 (Kag hbp hax.sm (by decide));have hbp10:Blk (w9.setCell ⟨g,m*3+1,none⟩ (.slice A9 n9 c9)) p 58 #[.slice lA ln lc,.slice sA sn sc,.slice wA wn wc]:=hbp9.far (fun e=>hgr e.symm) _;have hbz:Below wb.heap.size wb (w9.setCell ⟨g,m*3+1,none⟩ (.slice A9 n9 c9))∨True:=.inr trivial;have hbw2:Below w0.heap.size w0 (w9.setCell ⟨g,m*3+1,none⟩ (.slice A9 n9 c9)):=hput.b0
    have hsumP:sumS (gs.set m ⟨(lastS gs).labels,(lastS gs).samples++s.samples,(lastS gs).windows⟩)=sumS gs+s.samples.length:=by
     have h3:=Kdo gs m ⟨(lastS gs).labels,(lastS gs).samples++s.samples,(lastS gs).windows⟩ (by have:=HML.out;have:=hMd.rows.len;omega);rw[hgk] at h3;simp only[Jd] at h3;omega
    have hlast2:lastS (gs.set m ⟨(lastS gs).labels,(lastS gs).samples++s.samples,(lastS gs).windows⟩)=⟨(lastS gs).labels,(lastS gs).samples++s.samples,(lastS gs).windows⟩:=by
     unfold lastS;rw[List.length_set,show gs.length - 1=m by have:=HML.out;have:=hMd.rows.len;omega,getElem!_pos _ m (by rw[List.length_set];have:=HML.out;have:=hMd.rows.len;omega),List.getElem_set_self]
    have hS:wb.drew.cell? ⟨g,m*3+1,none⟩=some (.slice x.s.A x.s.n x.s.c)∧wb.drew.cell? ⟨p,1,none⟩=some (.slice sA sn sc):=⟨hcell,hbc⟩;have hvw:spM x = .slice x.s.A x.s.n x.s.c:=rfl;rw[hvw] at hr9;obtain ⟨xA,hxA⟩:∃q,q=x.s.A:=⟨_,rfl⟩;obtain ⟨xn,hxn⟩:∃q,q=x.s.n:=⟨_,rfl⟩;obtain ⟨xc,hxc⟩:∃q,q=x.s.c:=⟨_,rfl⟩;rw[←hxA,←hxn,←hxc] at hS hr9 hcell9;have HPUT:=Jh hput;have HBPN:=Jh hbp10;have HSUMP:=Jh hsumP;have HLASTP:=Jh hlast2;have HG9:=Jh hgk;have HX9:=Jh hx;clear hMd hax hgk hdl hEl hlim hnn ho9 hg9 hb9 hput hcell hbp hbc hbp9 hbp10 hbz hbw2 hsumP hlast2 hvw hxA hxn hxc hn9 hx hi1 hy0 hy1 hy2;refine Kcd (fun w'=>w'.cell? ⟨g,m*3+1,none⟩=some (.slice xA xn xc)∧w'.cell? ⟨p,1,none⟩=some (.slice sA sn sc)) 9 13 (by kernel_rfl) rfl ?_;rw[show Array.replicate 13 false = #[false,false,false,false,false,false,false,false,false,false,false,false,false] from rfl];refine Kaa (i:=0) (d:=some 45) rfl rfl (by kernel_rfl) (by kernel_rfl) (by kernel_rfl) rfl (fun _ _ _ h=>h) (by rfl) (fun w=>by go_simp;try rfl) (fun _=>hS) ?_;simp only[Act.put,Ja,Jb,Jc];refine Kaa (i:=1) (d:=some 46) rfl rfl (by kernel_rfl) (by kernel_rfl) (by kernel_rfl) rfl (fun _ _ _ h=>h) (by rfl) (fun w=>by go_simp;try rfl) (fun _=>hS) ?_;simp only[Act.put,Ja,Jb,Jc];refine Kaa (i:=2) (d:=some 47) rfl rfl (by kernel_rfl) (by kernel_rfl) (by kernel_rfl) rfl (fun _ _ _ h=>h) (by rfl) (fun w=>by go_simp;try rfl) (fun _=>hS) ?_;simp only[Act.put,Ja,Jb,Jc];refine Kaa (i:=3) (d:=some 48) rfl rfl (by kernel_rfl) (by kernel_rfl) (by kernel_rfl) rfl (fun _ _ _ h=>h) (by rfl) (fun w=>by go_simp;try rfl) (fun _=>hS) ?_;simp only[Act.put,Ja,Jb,Jc];refine Kaa (i:=4) (d:=some 49) rfl rfl (by kernel_rfl) (by kernel_rfl) (by kernel_rfl) rfl (fun _ _ _ h=>h) (by rfl) (fun w=>by go_simp;try rfl) (fun _=>hS) ?_;simp only[Act.put,Ja,Jb,Jc];refine Kaa (i:=5) (d:=some 50) rfl rfl (by kernel_rfl) (by kernel_rfl) (by kernel_rfl) rfl (fun _ _ _ h=>h) (by rfl) (fun w=>by go_simp;try rfl) (fun _=>hS) ?_;simp only[Act.put,Ja,Jb,Jc];refine Kaa (i:=7) (d:=some 52) rfl rfl (by kernel_rfl) (by kernel_rfl) (by kernel_rfl) rfl (fun _ _ _ h=>h) (by rfl) (fun w=>by go_simp;try rfl) (fun _=>hS) ?_;simp only[Act.put,Ja,Jb,Jc];refine Kbd (i:=6) (d:=some 51) rfl rfl (by kernel_rfl) (by kernel_rfl) (by kernel_rfl) (by kernel_rfl) rfl (fun _ _ _ h=>h) (.inl ⟨by rfl,fun w hw=>by (obtain ⟨ha,hb⟩:=hw;go_simp;try rfl)⟩) hS ?_;simp only[Act.put,Ja,Jb,Jc];refine Kbd (i:=8) (d:=some 53) rfl rfl (by kernel_rfl) (by kernel_rfl) (by kernel_rfl) (by kernel_rfl) rfl (fun _ _ _ h=>h) (.inl ⟨by rfl,fun w hw=>by (obtain ⟨ha,hb⟩:=hw;go_simp;try rfl)⟩) hS ?_;simp only[Act.put,Ja,Jb,Jc];refine Kac (i:=9) (by kernel_rfl) rfl rfl ?_;refine Oper.wp_ran (d:=some 54) (w':=w9) (v:=.slice A9 n9 c9) rfl (Kdr _ _ _ rfl rfl rfl hr9) ?_;refine ⟨fun h=>absurd h (by decide),?_⟩;simp only[Act.put,Ja,Jb,Jc];refine Kaa (i:=10) (d:=some 55) rfl rfl (by kernel_rfl) (by kernel_rfl) (by kernel_rfl) rfl (fun _ _ _ h=>h) (by rfl) (fun w=>by go_simp;try rfl) (fun h=>absurd h (by decide)) ?_
    simp only[Act.put,Ja,Jb,Jc];refine Kaa (i:=11) (d:=some 56) rfl rfl (by kernel_rfl) (by kernel_rfl) (by kernel_rfl) rfl (fun _ _ _ h=>h) (by rfl) (fun w=>by go_simp;try rfl) (fun h=>absurd h (by decide)) ?_;simp only[Act.put,Ja,Jb,Jc];refine Kac (i:=12) (by kernel_rfl) rfl rfl ?_;refine Oper.wp_skipped (w':=w9.setCell ⟨g,m*3+1,none⟩ (.slice A9 n9 c9)) rfl (by go_simp;try rfl) ?_;refine ⟨fun h=>absurd h (by decide),?_⟩;refine Kbh (by kernel_rfl) ?_ _;obtain ⟨wb2,hwb2⟩:∃y,y=w9.setCell ⟨g,m*3+1,none⟩ (.slice A9 n9 c9):=⟨_,rfl⟩;have HPUT2:Hid (MSt w0 w2 wb2 (.slice (some ⟨g,0,none⟩) (m+1) cV) (hs.set m ⟨x.l,⟨A9,n9,c9⟩,x.w⟩) (gs.set m ⟨(lastS gs).labels,(lastS gs).samples++s.samples,(lastS gs).windows⟩)):=by show MSt _ _ _ _ _ _;rw[hwb2];exact HPUT.out
    have HBPN2:Hid (Blk wb2 p 58 #[.slice lA ln lc,.slice sA sn sc,.slice wA wn wc]):=by show Blk _ _ _ _;rw[hwb2];exact HBPN.out
    have HML2:Hid ((hs.set m ⟨x.l,⟨A9,n9,c9⟩,x.w⟩).length=m+1):=by show _=_;rw[List.length_set];exact HML.out
    rw[←hwb2];clear hwb2 hS hr9 hcell9 hfr9 HPUT HBPN hgz hgr;have HBW2:Hid (Below w0.heap.size w0 wb2):=HPUT2.out.b0
    have HSUM2:Hid (sumS (gs.set m ⟨(lastS gs).labels,(lastS gs).samples++s.samples,(lastS gs).windows⟩)≤274877906944):=by
     show _≤_
     rw[HSUMP.out];have:=HSUM.out;have:=HLS.out.1;omega
    obtain ⟨hs2,hhs2⟩:∃q,q=hs.set m ⟨x.l,⟨A9,n9,c9⟩,x.w⟩:=⟨_,rfl⟩;obtain ⟨gs2,hgs2⟩:∃q,q=gs.set m ⟨(lastS gs).labels,(lastS gs).samples++s.samples,(lastS gs).windows⟩:=⟨_,rfl⟩;have HMST2:Hid (MSt w0 w2 wb2 (.slice (some ⟨g,0,none⟩) (m+1) cV) hs2 gs2):=by show MSt _ _ _ _ _ _;rw[hhs2,hgs2];exact HPUT2.out
    have HML3:Hid (hs2.length=m+1):=by show _=_;rw[hhs2];exact HML2.out
    have HSUM3:Hid (sumS gs2≤274877906944):=by show _≤_;rw[hgs2];exact HSUM2.out
    have HADD:Hid (gs2.set m ⟨(lastS gs2).labels,(lastS gs2).samples,(lastS gs2).windows++s.windows⟩=addG gs s):=by
     show _=_
     rw[hgs2,HLASTP.out,List.set_set];unfold addG;rw[show gs.length - 1=m by have h1:=MST.out.rows.len;have:=HML.out;omega]
    clear hhs2 hgs2 HPUT2 HML2 HSUM2 HSUMP HLASTP HG9 HX9 MST HML HSUM HBP HBW;have MST:Hid (MSt w0 w2 wb2 (.slice (some ⟨g,0,none⟩) (m+1) cV) hs2 gs2):=HMST2.out;have HML:Hid (hs2.length=m+1):=HML3.out;have HSUM:Hid (sumS gs2≤274877906944):=HSUM3.out;have HBP:Hid (Blk wb2 p 58 #[.slice lA ln lc,.slice sA sn sc,.slice wA wn wc]):=HBPN2.out;have HBW:Hid (Below w0.heap.size w0 wb2):=HBW2.out;clear HMST2 HML3 HSUM3 HBPN2 HBW2;go_wp2_with fail
    obtain ⟨x,hx⟩:∃x,hs2[m]? = some x:=⟨hs2[m]'(by have:=HML.out;omega),List.getElem?_eq_getElem _⟩;have hMd:MSt w0 w2 wb2.drew (.slice (some ⟨g,0,none⟩) (m+1) cV) hs2 gs2:=MST.out.below (Below.refl _ _).drew;have hax:=hMd.rows.at_ m x hx;have hgk:gs2[m]! = lastS gs2:=by unfold lastS;rw[show gs2.length - 1=m by have:=HML.out;have:=hMd.rows.len;omega]
    rw[hgk] at hax;have hdl:wb2.drew.heap.size=wb2.heap.size:=rfl;obtain ⟨i1,hi1,hy0,hy1,hy2⟩:=info_parts Khh;have hEl:Elems wb2.drew wb2.drew.heap.size 6 Kai wA wn s.windows:=(HW.out.below HBW.out.drew).more HBW.out.size;have hlim:(lastS gs2).windows.length≤1099511627776:=by have:=HSUM.out;have h3:=Keg (gs:=gs2) (k:=m) (by have:=HML.out;have:=hMd.rows.len;omega);rw[hgk] at h3;omega
    have hnn:wn≤1099511627776:=HNL.out.2;obtain ⟨v9,w9,hr9,ho9,hg9,hb9⟩:=Kcy (P:=Tryz.prog) w2.heap.size 56 56 135 i1 (.agg #[.int .i64 0,.int .i64 0,.int .u64 0,.int .u64 0,.int .u64 0,.int .u64 0]) 6 48 Tryz.underlying56 hi1 hy0 hy1 hy2 rfl (by decide) Ket Kiz (wpM x) (lastS gs2).windows hax.wd wA wn wc s.windows hEl (by unfold maxLen;omega) (by omega) hMd.b2.size;obtain ⟨A9,c9,rfl⟩:=Kan ho9;obtain ⟨n9,hn9⟩:∃n9,n9=((lastS gs2).windows++s.windows).length:=⟨_,rfl⟩;rw[←hn9] at hr9 ho9 hb9;have hput:=(hMd.put HB02.out (k:=m) (x:=x) (x':=⟨x.l,x.s,⟨A9,n9,c9⟩⟩) (s':=⟨(lastS gs2).labels,(lastS gs2).samples,(lastS gs2).windows++s.windows⟩) (w4:=w9) hx hg9.os hg9.tape hg9.output hg9.size (fun j hj h1 h2=>hg9.block j hj h2) rfl (by rw[hgk]) (Kck (v:=spM x) hax.sm hg9.size (fun j hj=>hg9.block j (hax.sm.lt j hj).2 (fun e=>(Kbq hax.sm hax.wd (by decide)).elim (fun q=>by rw[q] at hj;cases hj) (fun q=>q (hj.trans e))))) (by show w9.ownsRow _ _ _ (.slice A9 n9 c9) ((lastS gs2).windows++s.windows).length _;rw[←hn9];exact ho9) (.inl rfl) hb9).2.1 rfl
    have hcell:wb2.drew.cell? ⟨g,m*3+2,none⟩=some (.slice x.w.A x.w.n x.w.c):=by
     have h1:=hMd.row.cells (g:=g) rfl (m*3+2) (.slice x.w.A x.w.n x.w.c) (by rw[Kct Kcc hs2 m 2 x hx (by decide)];rfl);have ea:(⟨g,0,none⟩:Addr).add (m*3+2)=⟨g,m*3+2,none⟩:=by unfold Addr.add;simp
     rw[ea] at h1;exact h1
    have hbp:Blk wb2.drew p 58 #[.slice lA ln lc,.slice sA sn sc,.slice wA wn wc]:=HBP.out;have hbc:wb2.drew.cell? ⟨p,2,none⟩=some (.slice wA wn wc):=hbp.cell 2;have hgz:g < wb2.drew.heap.size:=(hMd.row.lt g rfl).2;have hgr:g≠p:=HGP.out
    have hcell9:w9.cell? ⟨g,m*3+2,none⟩=some (.slice x.w.A x.w.n x.w.c):=by
     obtain ⟨cur,hcur⟩:=Kax hMd.row (r:=g) rfl;have hgb:Blk wb2.drew g 58 cur:=hcur;exact (World.cell?_of_block (w:=wb2.drew) (hg9.block g hgz (Kag hgb hax.wd (by decide)))).trans hcell
    have hfr9:w9.frozen? ⟨g,m*3+2,none⟩=false:=by
     obtain ⟨cur,hcur⟩:=Kax hMd.row (r:=g) rfl;have hgb:Blk wb2.drew g 58 cur:=hcur;exact (hgb.grown hg9 (Kag hgb hax.wd (by decide))).frozen _
    have hbp9:Blk w9 p 58 #[.slice lA ln lc,.slice sA sn sc,.slice wA wn wc]:=hbp.grown hg9 (Kag hbp hax.wd (by decide));have hbp10:Blk (w9.setCell ⟨g,m*3+2,none⟩ (.slice A9 n9 c9)) p 58 #[.slice lA ln lc,.slice sA sn sc,.slice wA wn wc]:=hbp9.far (fun e=>hgr e.symm) _;have hbz:Below wb2.heap.size wb2 (w9.setCell ⟨g,m*3+2,none⟩ (.slice A9 n9 c9))∨True:=.inr trivial;have hbw2:Below w0.heap.size w0 (w9.setCell ⟨g,m*3+2,none⟩ (.slice A9 n9 c9)):=hput.b0
    have hsumP:sumS (gs2.set m ⟨(lastS gs2).labels,(lastS gs2).samples,(lastS gs2).windows++s.windows⟩)=sumS gs2+s.windows.length:=by
     have h3:=Kdo gs2 m ⟨(lastS gs2).labels,(lastS gs2).samples,(lastS gs2).windows++s.windows⟩ (by have:=HML.out;have:=hMd.rows.len;omega);rw[hgk] at h3;simp only[Jd] at h3;omega
    have hlast2:lastS (gs2.set m ⟨(lastS gs2).labels,(lastS gs2).samples,(lastS gs2).windows++s.windows⟩)=⟨(lastS gs2).labels,(lastS gs2).samples,(lastS gs2).windows++s.windows⟩:=by
     unfold lastS;rw[List.length_set,show gs2.length - 1=m by have:=HML.out;have:=hMd.rows.len;omega,getElem!_pos _ m (by rw[List.length_set];have:=HML.out;have:=hMd.rows.len;omega),List.getElem_set_self]
    have hS:wb2.drew.cell? ⟨g,m*3+2,none⟩=some (.slice x.w.A x.w.n x.w.c)∧wb2.drew.cell? ⟨p,2,none⟩=some (.slice wA wn wc):=⟨hcell,hbc⟩;have hvw:wpM x = .slice x.w.A x.w.n x.w.c:=rfl;rw[hvw] at hr9;obtain ⟨xA,hxA⟩:∃q,q=x.w.A:=⟨_,rfl⟩;obtain ⟨xn,hxn⟩:∃q,q=x.w.n:=⟨_,rfl⟩;obtain ⟨xc,hxc⟩:∃q,q=x.w.c:=⟨_,rfl⟩;rw[←hxA,←hxn,←hxc] at hS hr9 hcell9;have HPUT:=Jh hput;have HBPN:=Jh hbp10;have HSUMP:=Jh hsumP;have HLASTP:=Jh hlast2;have HG9:=Jh hgk;have HX9:=Jh hx;clear hMd hax hgk hdl hEl hlim hnn ho9 hg9 hb9 hput hcell hbp hbc hbp9 hbp10 hbz hbw2 hsumP hlast2 hvw hxA hxn hxc hn9 hx hi1 hy0 hy1 hy2;refine Kcd (fun w'=>w'.cell? ⟨g,m*3+2,none⟩=some (.slice xA xn xc)∧w'.cell? ⟨p,2,none⟩=some (.slice wA wn wc)) 9 13 (by kernel_rfl) rfl ?_;rw[show Array.replicate 13 false = #[false,false,false,false,false,false,false,false,false,false,false,false,false] from rfl];refine Kaa (i:=0) (d:=some 57) rfl rfl (by kernel_rfl) (by kernel_rfl) (by kernel_rfl) rfl (fun _ _ _ h=>h) (by rfl) (fun w=>by go_simp;try rfl) (fun _=>hS) ?_;simp only[Act.put,Ja,Jb,Jc];refine Kaa (i:=1) (d:=some 58) rfl rfl (by kernel_rfl) (by kernel_rfl) (by kernel_rfl) rfl (fun _ _ _ h=>h) (by rfl) (fun w=>by go_simp;try rfl) (fun _=>hS) ?_;simp only[Act.put,Ja,Jb,Jc];refine Kaa (i:=2) (d:=some 59) rfl rfl (by kernel_rfl) (by kernel_rfl) (by kernel_rfl) rfl (fun _ _ _ h=>h) (by rfl) (fun w=>by go_simp;try rfl) (fun _=>hS) ?_;simp only[Act.put,Ja,Jb,Jc];refine Kaa (i:=3) (d:=some 60) rfl rfl (by kernel_rfl) (by kernel_rfl) (by kernel_rfl) rfl (fun _ _ _ h=>h) (by rfl) (fun w=>by go_simp;try rfl) (fun _=>hS) ?_;simp only[Act.put,Ja,Jb,Jc];refine Kaa (i:=4) (d:=some 61) rfl rfl (by kernel_rfl) (by kernel_rfl) (by kernel_rfl) rfl (fun _ _ _ h=>h) (by rfl) (fun w=>by go_simp;try rfl) (fun _=>hS) ?_;simp only[Act.put,Ja,Jb,Jc];refine Kaa (i:=5) (d:=some 62) rfl rfl (by kernel_rfl) (by kernel_rfl) (by kernel_rfl) rfl (fun _ _ _ h=>h) (by rfl) (fun w=>by go_simp;try rfl) (fun _=>hS) ?_;simp only[Act.put,Ja,Jb,Jc];refine Kaa (i:=7) (d:=some 64) rfl rfl (by kernel_rfl) (by kernel_rfl) (by kernel_rfl) rfl (fun _ _ _ h=>h) (by rfl) (fun w=>by go_simp;try rfl) (fun _=>hS) ?_;simp only[Act.put,Ja,Jb,Jc];refine Kbd (i:=6) (d:=some 63) rfl rfl (by kernel_rfl) (by kernel_rfl) (by kernel_rfl) (by kernel_rfl) rfl (fun _ _ _ h=>h) (.inl ⟨by rfl,fun w hw=>by (obtain ⟨ha,hb⟩:=hw;go_simp;try rfl)⟩) hS ?_;simp only[Act.put,Ja,Jb,Jc];refine Kbd (i:=8) (d:=some 65) rfl rfl (by kernel_rfl) (by kernel_rfl) (by kernel_rfl) (by kernel_rfl) rfl (fun _ _ _ h=>h) (.inl ⟨by rfl,fun w hw=>by (obtain ⟨ha,hb⟩:=hw;go_simp;try rfl)⟩) hS ?_;simp only[Act.put,Ja,Jb,Jc];refine Kac (i:=9) (by kernel_rfl) rfl rfl ?_;refine Oper.wp_ran (d:=some 66) (w':=w9) (v:=.slice A9 n9 c9) rfl (Kdr _ _ _ rfl rfl rfl hr9) ?_;refine ⟨fun h=>absurd h (by decide),?_⟩;simp only[Act.put,Ja,Jb,Jc];refine Kaa (i:=10) (d:=some 67) rfl rfl (by kernel_rfl) (by kernel_rfl) (by kernel_rfl) rfl (fun _ _ _ h=>h) (by rfl) (fun w=>by go_simp;try rfl) (fun h=>absurd h (by decide)) ?_
    simp only[Act.put,Ja,Jb,Jc];refine Kaa (i:=11) (d:=some 68) rfl rfl (by kernel_rfl) (by kernel_rfl) (by kernel_rfl) rfl (fun _ _ _ h=>h) (by rfl) (fun w=>by go_simp;try rfl) (fun h=>absurd h (by decide)) ?_;simp only[Act.put,Ja,Jb,Jc];refine Kac (i:=12) (by kernel_rfl) rfl rfl ?_;refine Oper.wp_skipped (w':=w9.setCell ⟨g,m*3+2,none⟩ (.slice A9 n9 c9)) rfl (by go_simp;try rfl) ?_;refine ⟨fun h=>absurd h (by decide),?_⟩;refine Kbh (by kernel_rfl) ?_ _;obtain ⟨wb3,hwb3⟩:∃y,y=w9.setCell ⟨g,m*3+2,none⟩ (.slice A9 n9 c9):=⟨_,rfl⟩;have HPUT2:Hid (MSt w0 w2 wb3 (.slice (some ⟨g,0,none⟩) (m+1) cV) (hs2.set m ⟨x.l,x.s,⟨A9,n9,c9⟩⟩) (gs2.set m ⟨(lastS gs2).labels,(lastS gs2).samples,(lastS gs2).windows++s.windows⟩)):=by show MSt _ _ _ _ _ _;rw[hwb3];exact HPUT.out
    have HBPN2:Hid (Blk wb3 p 58 #[.slice lA ln lc,.slice sA sn sc,.slice wA wn wc]):=by show Blk _ _ _ _;rw[hwb3];exact HBPN.out
    have HML2:Hid ((hs2.set m ⟨x.l,x.s,⟨A9,n9,c9⟩⟩).length=m+1):=by show _=_;rw[List.length_set];exact HML.out
    rw[←hwb3];clear hwb3 hS hr9 hcell9 hfr9 HPUT HBPN hgz hgr
    have HGN:Hid (MSt w0 w2 wb3 (.slice (some ⟨g,0,none⟩) (m+1) cV) (hs2.set m ⟨x.l,x.s,⟨A9,n9,c9⟩⟩) ((ys.take (i+1)).map MS.s |> grpG)):=by
     show MSt _ _ _ _ _ _
     rw[←HGRP.out,←HADD.out];exact HPUT2.out
    generalize hs2.set m ⟨x.l,x.s,⟨A9,n9,c9⟩⟩=hs3 at HGN HML2;clear HPUT2 HSUMP HLASTP HG9 HX9 HADD HGRP MST HML HSUM HBP HBW HBPN2;go_wp2_with fail
    go_roundg (N - (i+1))
    case measure=>omega
    case rel=>exact ⟨i+1,hs3,by first | rfl | go_num,by omega,HGN⟩
   ·obtain ⟨k,hk⟩:∃k,m=k+1:=⟨m - 1,by omega⟩;have hkz:¬(k:Int) < 0:=by omega
    have hkz2:(m:Int) - 1=(k:Int):=by omega
    have hkz3:(k:Int) < (m:Int):=by omega
    have hkz4:k < m:=by omega
    have HKM:Hid (m=k+1):=hk;have HML1:Hid (hs.length=k+1):=by show _=_;rw[HML0.out,hk]
    obtain ⟨g,hg4⟩:∃g,A4=some ⟨g,0,none⟩:=by
     rcases HMB.out.row.2 with ⟨e0,h1⟩ | ⟨g,cap,cur,e0,_⟩
     ·rw[HML1.out] at h1;omega
     ·injection e0 with e0;exact ⟨g,e0⟩
    subst hg4;obtain ⟨x,hx⟩:∃x,hs[k]? = some x:=⟨hs[k]'(by have:=HML1.out;omega),List.getElem?_eq_getElem _⟩;have hgk:gs0[k]! = lastS gs0:=by unfold lastS;rw[show gs0.length - 1=k by have:=HML1.out;have:=HMB.out.rows.len;omega]
    have hcx:wb.cell? ⟨g,k*3,none⟩=some (.slice x.l.A x.l.n x.l.c):=by
     have h1:=HMB.out.row.cells (g:=g) rfl (k*3+0) (.slice x.l.A x.l.n x.l.c) (by rw[Kct Kcc hs k 0 x hx (by decide)];rfl)
     have ea:(⟨g,0,none⟩:Addr).add (k*3+0)=⟨g,k*3,none⟩:=by
      unfold Addr.add
      split
      ·rename_i h0;simp at h0 ⊢;(try omega)
      ·simp
     rw[ea] at h1;exact h1
    have hglt:g < wb.heap.size:=(HMB.out.row.lt g rfl).2;have hel:=(HMB.out.rows.sers k x hx).l;rw[hgk] at hel
    have hxn:x.l.n≤1099511627776:=by
     have h1:=(HMB.out.rows.at_ k x hx).ln;rw[←h1]
     have h2:=Kxw (fun l=>l.length≤1099511627776) ((ys.take i).map MS.s) [] (fun _ h=>absurd h List.not_mem_nil) (fun s hs=>by
      obtain ⟨y,_,rfl⟩:=List.mem_map.1 hs;have h3:=y.a.l.len;rw[h3]
      exact y.z)
     have h4:grpG ((ys.take i).map MS.s)=gs0:=HG0.out.symm;unfold grpG at h4;rw[h4] at h2;have hkl:k < gs0.length:=by have:=HML1.out;have:=HMB.out.rows.len;omega
     rw[getElem!_pos gs0 k hkl];exact h2 _ (List.getElem_mem _)
    obtain ⟨cc,hcc⟩:∃cc,cc=cmpL (lastS gs0).labels s.labels:=⟨_,rfl⟩
    have HCMP:Hid (∀X:Kbs wb,Calls Tryz.prog 60 #[.slice x.l.A x.l.n x.l.c,.slice lA ln lc] X.w fun e w'=>e = .returned (.int .i64 cc)∧Grown X.w w'):=fun X=>
     Kdv (lastS gs0).labels s.labels x.l.A lA x.l.n ln _ _ X.w cc hcc.symm ((hel.below X.h.below).more X.h.below.size) ((HL.out.below (HBW.out.trans (X.h.below.mono HBW.out.size))).more (HBW.out.trans (X.h.below.mono HBW.out.size)).size) (by omega) (by omega)
    have HCC:Hid (cc=cmpL (lastS gs0).labels s.labels):=hcc;obtain ⟨xA,hxA⟩:∃q,q=x.l.A:=⟨_,rfl⟩;obtain ⟨xn,hxn'⟩:∃q,q=x.l.n:=⟨_,rfl⟩;obtain ⟨xc,hxc⟩:∃q,q=x.l.c:=⟨_,rfl⟩;rw[←hxA,←hxn',←hxc] at HCMP hcx;have HGP:Hid (g≠p):=HPR.out g rfl;clear hx hgk hel hxn hcc hxA hxn' hxc hk h0;go_upto_region 8 with fail
    refine Kas 10 (by kernel_rfl) (by kernel_rfl) ?_;simp only[List.take_succ_cons,List.take_zero,List.drop_succ_cons,List.drop_zero]
    repeat (go_big_quiet_step (fail))
    refine wpQuiet_nil ?_;rintro wq0 ⟨X,rfl⟩;go_wp2_with fail
    refine (HCMP.out X).mono ?_;rintro _ wq ⟨rfl,hg3⟩;have hbq:Below wb.heap.size wb wq:=X.h.below.trans (hg3.below.mono X.h.below.size);have HBP2:Hid (Blk wq p 58 #[.slice lA ln lc,.slice sA sn sc,.slice wA wn wc]):=HBP.out.below hbq HBP.out.lt;have HMB2:Hid (MSt w0 w2 wq (.slice (some ⟨g,0,none⟩) m cV) hs gs0):=HMB.out.below hbq
    have HNE:Hid (gs0≠[]):=fun e=>by
     have h1:=HMB.out.rows.len;rw[e,HML1.out] at h1;simp at h1
    clear HBP HMB HBW hbp0 hpl hbq hg3 HCMP hcx hglt;rcases Int.decEq cc 0 with hcc | hcc
    ·have HOP:Hid (openG gs0 s=gs0 ++ [⟨s.labels,[],[]⟩]):=by show _=_;unfold openG;rw[if_pos (.inr (by rw[←HCC.out];exact hcc))]
     have hc1:(cc == 0)=false:=beq_eq_false_iff_ne.2 hcc;have hc2:(cc != 0)=true:=bne_iff_ne.2 hcc;have hc3:decide (cc=0)=false:=decide_eq_false hcc;have hla3:(k:Int)+1=(m:Int):=by have:=HKM.out;omega
     clear HCC HKM HML1 HNE HGP;obtain ⟨A4,hA4⟩:∃q:Option Addr,q=some ⟨g,0,none⟩:=⟨_,rfl⟩;rw[←hA4] at HMB2 HPR ⊢;clear hA4;have hbq0:Below w0.heap.size w0 wq:=HMB2.out.b0;have hbpq:wq.cell? ⟨p,0,none⟩=some (.slice lA ln lc):=HBP2.out.cell 0;have hbpl:=HBP2.out.lt;go_wp2_with fail
     refine (HCL.out wq hbq0).mono ?_;rintro _ w4 ⟨⟨A6,c6,rfl,hc6,hown6⟩,hb4⟩;have hM4:MSt w0 w2 w4 (.slice A4 m cV) hs gs0:=HMB2.out.below hb4;obtain ⟨w5,hw5⟩:∃y,y=w4.alloc (.cells #[.slice A6 ln c6,.slice none 0 0,.slice none 0 0] 58):=⟨_,rfl⟩;have hb5:Below w4.heap.size w4 w5:=by rw[hw5];exact (Below.refl _ _).alloc (Nat.le_refl _) _
     have hM5:MSt w0 w2 w5 (.slice A4 m cV) hs gs0:=hM4.below hb5;have hBP5:Blk w5 p 58 #[.slice lA ln lc,.slice sA sn sc,.slice wA wn wc]:=(HBP2.out.below hb4 HBP2.out.lt).below hb5 (HBP2.out.below hb4 HBP2.out.lt).lt;have hnew5:Blk w5 w4.heap.size 58 #[.slice A6 ln c6,.slice none 0 0,.slice none 0 0]:=by rw[hw5];exact Blk.new _ _ _
     have hrow5:w5.ownsRow w2.heap.size 58 3 (.slice A4 m cV) m (hs.flatMap encH3):=by have:=hM5.row;rw[HML0.out] at this;exact this
     have hlab5:ln=0∨w5.ownsRow w2.heap.size 99 2 (.slice A6 ln c6) ln (s.labels.flatMap encLb):=hown6.imp id fun y=>Kdn (Kaq y hb5) HMB2.out.b2.size
     have HM5:=Jh hM5;have HBP5:=Jh hBP5;have HLAB5:=Jh hlab5;have HPR2:Hid (∀k,(Value.slice A4 m cV).ownBlock=some k→k≠p):=HPR.out;have HPQ:Hid (p < w5.heap.size):=hBP5.lt;have hz5:=hM5.b2.size;have HC6:Hid (ln≤c6):=hc6;clear hbpq hbpl hbq0 hown6 hM4 hM5 hBP5 hlab5 HMB2 HBP2 hb4 hb5;go_wp2_with (at_builtin;(try rw[←hw5]);refine wpList_append_own_at _ rfl _ _ 26 rfl w2.heap.size 58 ib (.agg #[.slice none 0 0,.slice none 0 0,.slice none 0 0]) 3 72 Tryz.underlying26 hib hz0 hz1 hz2 rfl (by decide) (.slice A4 m cV) m _ rfl hrow5 ⟨w4.heap.size,0,none⟩ 1 1 [.slice A6 ln c6,.slice none 0 0,.slice none 0 0] rfl rfl (Kav (l:=[.slice A6 ln c6,.slice none 0 0,.slice none 0 0]) hnew5) ?p2 ?p3 ?p4 ?p5 ?_)
     case p2=>intro u hu;simp only[List.mem_cons,List.not_mem_nil,or_false] at hu;rcases hu with rfl | rfl | rfl <;> rfl
     case p3=>unfold maxLen;omega
     case p4=>omega
     case p5=>exact hz5
     intro v6 wb hown' hgrow _ hat;rw[←hw5] at hgrow;obtain ⟨A7,cV,rfl⟩:=Kan hown'
     have hmore:MSt w0 w2 wb (.slice A7 (m+1) cV) (hs ++ [⟨⟨A6,ln,c6⟩,⟨none,0,0⟩,⟨none,0,0⟩⟩]) (gs0 ++ [⟨s.labels,[],[]⟩]):=by
      refine HM5.out.more HB02.out hgrow (by rw[HML0.out];exact hown') ⟨?_,HL.out.len,HC6.out,World.ownsRow_nil _ _ _ _,World.ownsRow_nil _ _ _ _⟩ rfl rfl;rcases HLAB5.out with e | e
      ·exact .inl ⟨e,List.eq_nil_of_length_eq_zero (by rw[HL.out.len];exact e)⟩
      ·refine .inr ?_;rw[HL.out.len];exact e
     have hBP6:Blk wb p 58 #[.slice lA ln lc,.slice sA sn sc,.slice wA wn wc]:=HBP5.out.grown hgrow (fun e=>HPR2.out p e.symm rfl)
     obtain ⟨g,hg7⟩:∃g,A7=some ⟨g,0,none⟩:=by
      rcases hown'.2 with ⟨e0,h1⟩ | ⟨g,cap,cur,e0,_⟩
      ·omega
      ·injection e0 with e0;exact ⟨g,e0⟩
     subst hg7
     have hgp6:g≠p:=by
      rcases hat with e | e
      ·exact HPR2.out g (by rw[←e];rfl)
      ·have e2:g=w5.heap.size:=by
        first
        | (have e3:some g=some w5.heap.size:=e;injection e3)
        | (have e3:some g=some (w4.heap.size+1):=e;injection e3 with e4;rw[e4,hw5];simp)
        | (rw[←hw5] at e;injection e)
        | (rw[hw5];injection e)
       have:=HPQ.out;omega
     have hlk:(hs ++ [(⟨⟨A6,ln,c6⟩,⟨none,0,0⟩,⟨none,0,0⟩⟩:Hd3)]).length=m+1:=by rw[Jd,HML0.out];rfl
     rw[←HOP.out] at hmore;generalize hs ++ [(⟨⟨A6,ln,c6⟩,⟨none,0,0⟩,⟨none,0,0⟩⟩:Hd3)]=hs at hmore hlk;obtain ⟨gs,hgs⟩:∃q,q=openG gs0 s:=⟨_,rfl⟩;rw[←hgs] at hmore;have MST:Hid (MSt w0 w2 wb (.slice (some ⟨g,0,none⟩) (m+1) cV) hs gs):=hmore;have HML:Hid (hs.length=m+1):=hlk;have HBP:Hid (Blk wb p 58 #[.slice lA ln lc,.slice sA sn sc,.slice wA wn wc]):=hBP6;have HBW:Hid (Below w0.heap.size w0 wb):=hmore.b0;have HGP:Hid (g≠p):=hgp6;have HGRP:Hid (addG gs s=grpG ((ys.take (i+1)).map MS.s)):=by show _=_;rw[hgs];exact HGRP1.out
     have HSUM:Hid (sumS gs≤137438953472):=by show _≤_;rw[hgs,Kko];exact HSG.out
     have hmL:m < m+1:=by omega
     have hmLz:(m:Int) < (m:Int)+1:=by omega
     clear hown' hgrow hat hmore hBP6 hgp6 hlk hgs hrow5 hnew5 hz5 HM5 HBP5 HLAB5 HC6 HPR2 HPQ HOP HGRP1 HSG HML0 hw5;clear HPR HCL;go_wp2_with fail
     obtain ⟨x,hx⟩:∃x,hs[m]? = some x:=⟨hs[m]'(by have:=HML.out;omega),List.getElem?_eq_getElem _⟩;have hMd:MSt w0 w2 wb.drew (.slice (some ⟨g,0,none⟩) (m+1) cV) hs gs:=MST.out.below (Below.refl _ _).drew;have hax:=hMd.rows.at_ m x hx;have hgk:gs[m]! = lastS gs:=by unfold lastS;rw[show gs.length - 1=m by have:=HML.out;have:=hMd.rows.len;omega]
     rw[hgk] at hax;have hdl:wb.drew.heap.size=wb.heap.size:=rfl;obtain ⟨i1,hi1,hy0,hy1,hy2⟩:=info_parts Khg;have hEl:Elems wb.drew wb.drew.heap.size 2 Kad sA sn s.samples:=(HS.out.below HBW.out.drew).more HBW.out.size;have hlim:(lastS gs).samples.length≤1099511627776:=by have:=HSUM.out;have h3:=Keg (gs:=gs) (k:=m) (by have:=HML.out;have:=hMd.rows.len;omega);rw[hgk] at h3;omega
     have hnn:sn≤1099511627776:=HNL.out.1;obtain ⟨v9,w9,hr9,ho9,hg9,hb9⟩:=Kcy (P:=Tryz.prog) w2.heap.size 55 55 102 i1 (.agg #[.int .i64 0,.int .u64 0]) 2 16 Tryz.underlying55 hi1 hy0 hy1 hy2 rfl (by decide) Kep Kis (spM x) (lastS gs).samples hax.sm sA sn sc s.samples hEl (by unfold maxLen;omega) (by omega) hMd.b2.size;obtain ⟨A9,c9,rfl⟩:=Kan ho9;obtain ⟨n9,hn9⟩:∃n9,n9=((lastS gs).samples++s.samples).length:=⟨_,rfl⟩;rw[←hn9] at hr9 ho9 hb9;have hput:=(hMd.put HB02.out (k:=m) (x:=x) (x':=⟨x.l,⟨A9,n9,c9⟩,x.w⟩) (s':=⟨(lastS gs).labels,(lastS gs).samples++s.samples,(lastS gs).windows⟩) (w4:=w9) hx hg9.os hg9.tape hg9.output hg9.size (fun j hj h1 h2=>hg9.block j hj h1) rfl (by rw[hgk]) (by show w9.ownsRow _ _ _ (.slice A9 n9 c9) ((lastS gs).samples++s.samples).length _;rw[←hn9];exact ho9) (Kck (v:=wpM x) hax.wd hg9.size (fun j hj=>hg9.block j (hax.wd.lt j hj).2 (fun e=>(Kbq hax.wd hax.sm (by decide)).elim (fun q=>by rw[q] at hj;cases hj) (fun q=>q (hj.trans e))))) hb9 (.inl rfl)).1 rfl
     have hcell:wb.drew.cell? ⟨g,m*3+1,none⟩=some (.slice x.s.A x.s.n x.s.c):=by
      have h1:=hMd.row.cells (g:=g) rfl (m*3+1) (.slice x.s.A x.s.n x.s.c) (by rw[Kct Kcc hs m 1 x hx (by decide)];rfl);have ea:(⟨g,0,none⟩:Addr).add (m*3+1)=⟨g,m*3+1,none⟩:=by unfold Addr.add;simp
      rw[ea] at h1;exact h1
     have hbp:Blk wb.drew p 58 #[.slice lA ln lc,.slice sA sn sc,.slice wA wn wc]:=HBP.out;have hbc:wb.drew.cell? ⟨p,1,none⟩=some (.slice sA sn sc):=hbp.cell 1;have hgz:g < wb.drew.heap.size:=(hMd.row.lt g rfl).2;have hgr:g≠p:=HGP.out
     have hcell9:w9.cell? ⟨g,m*3+1,none⟩=some (.slice x.s.A x.s.n x.s.c):=by
      obtain ⟨cur,hcur⟩:=Kax hMd.row (r:=g) rfl;have hgb:Blk wb.drew g 58 cur:=hcur;exact (World.cell?_of_block (w:=wb.drew) (hg9.block g hgz (Kag hgb hax.sm (by decide)))).trans hcell
     have hfr9:w9.frozen? ⟨g,m*3+1,none⟩=false:=by
      obtain ⟨cur,hcur⟩:=Kax hMd.row (r:=g) rfl;have hgb:Blk wb.drew g 58 cur:=hcur;exact (hgb.grown hg9 (Kag hgb hax.sm (by decide))).frozen _
     have hbp9:Blk w9 p 58 #[.slice lA ln lc,.slice sA sn sc,.slice wA wn wc]:=hbp.grown hg9 (Kag hbp hax.sm (by decide));have hbp10:Blk (w9.setCell ⟨g,m*3+1,none⟩ (.slice A9 n9 c9)) p 58 #[.slice lA ln lc,.slice sA sn sc,.slice wA wn wc]:=hbp9.far (fun e=>hgr e.symm) _;have hbz:Below wb.heap.size wb (w9.setCell ⟨g,m*3+1,none⟩ (.slice A9 n9 c9))∨True:=.inr trivial;have hbw2:Below w0.heap.size w0 (w9.setCell ⟨g,m*3+1,none⟩ (.slice A9 n9 c9)):=hput.b0
     have hsumP:sumS (gs.set m ⟨(lastS gs).labels,(lastS gs).samples++s.samples,(lastS gs).windows⟩)=sumS gs+s.samples.length:=by
      have h3:=Kdo gs m ⟨(lastS gs).labels,(lastS gs).samples++s.samples,(lastS gs).windows⟩ (by have:=HML.out;have:=hMd.rows.len;omega);rw[hgk] at h3;simp only[Jd] at h3;omega
     have hlast2:lastS (gs.set m ⟨(lastS gs).labels,(lastS gs).samples++s.samples,(lastS gs).windows⟩)=⟨(lastS gs).labels,(lastS gs).samples++s.samples,(lastS gs).windows⟩:=by
      unfold lastS;rw[List.length_set,show gs.length - 1=m by have:=HML.out;have:=hMd.rows.len;omega,getElem!_pos _ m (by rw[List.length_set];have:=HML.out;have:=hMd.rows.len;omega),List.getElem_set_self]
     have hS:wb.drew.cell? ⟨g,m*3+1,none⟩=some (.slice x.s.A x.s.n x.s.c)∧wb.drew.cell? ⟨p,1,none⟩=some (.slice sA sn sc):=⟨hcell,hbc⟩;have hvw:spM x = .slice x.s.A x.s.n x.s.c:=rfl;rw[hvw] at hr9;obtain ⟨xA,hxA⟩:∃q,q=x.s.A:=⟨_,rfl⟩;obtain ⟨xn,hxn⟩:∃q,q=x.s.n:=⟨_,rfl⟩;obtain ⟨xc,hxc⟩:∃q,q=x.s.c:=⟨_,rfl⟩;rw[←hxA,←hxn,←hxc] at hS hr9 hcell9;have HPUT:=Jh hput;have HBPN:=Jh hbp10;have HSUMP:=Jh hsumP;have HLASTP:=Jh hlast2;have HG9:=Jh hgk;have HX9:=Jh hx;clear hMd hax hgk hdl hEl hlim hnn ho9 hg9 hb9 hput hcell hbp hbc hbp9 hbp10 hbz hbw2 hsumP hlast2 hvw hxA hxn hxc hn9 hx hi1 hy0 hy1 hy2;refine Kcd (fun w'=>w'.cell? ⟨g,m*3+1,none⟩=some (.slice xA xn xc)∧w'.cell? ⟨p,1,none⟩=some (.slice sA sn sc)) 9 13 (by kernel_rfl) rfl ?_;rw[show Array.replicate 13 false = #[false,false,false,false,false,false,false,false,false,false,false,false,false] from rfl];refine Kaa (i:=0) (d:=some 45) rfl rfl (by kernel_rfl) (by kernel_rfl) (by kernel_rfl) rfl (fun _ _ _ h=>h) (by rfl) (fun w=>by go_simp;try rfl) (fun _=>hS) ?_;simp only[Act.put,Ja,Jb,Jc];refine Kaa (i:=1) (d:=some 46) rfl rfl (by kernel_rfl) (by kernel_rfl) (by kernel_rfl) rfl (fun _ _ _ h=>h) (by rfl) (fun w=>by go_simp;try rfl) (fun _=>hS) ?_;simp only[Act.put,Ja,Jb,Jc];refine Kaa (i:=2) (d:=some 47) rfl rfl (by kernel_rfl) (by kernel_rfl) (by kernel_rfl) rfl (fun _ _ _ h=>h) (by rfl) (fun w=>by go_simp;try rfl) (fun _=>hS) ?_;simp only[Act.put,Ja,Jb,Jc];refine Kaa (i:=3) (d:=some 48) rfl rfl (by kernel_rfl) (by kernel_rfl) (by kernel_rfl) rfl (fun _ _ _ h=>h) (by rfl) (fun w=>by go_simp;try rfl) (fun _=>hS) ?_;simp only[Act.put,Ja,Jb,Jc];refine Kaa (i:=4) (d:=some 49) rfl rfl (by kernel_rfl) (by kernel_rfl) (by kernel_rfl) rfl (fun _ _ _ h=>h) (by rfl) (fun w=>by go_simp;try rfl) (fun _=>hS) ?_;simp only[Act.put,Ja,Jb,Jc];refine Kaa (i:=5) (d:=some 50) rfl rfl (by kernel_rfl) (by kernel_rfl) (by kernel_rfl) rfl (fun _ _ _ h=>h) (by rfl) (fun w=>by go_simp;try rfl) (fun _=>hS) ?_;simp only[Act.put,Ja,Jb,Jc];refine Kaa (i:=7) (d:=some 52) rfl rfl (by kernel_rfl) (by kernel_rfl) (by kernel_rfl) rfl (fun _ _ _ h=>h) (by rfl) (fun w=>by go_simp;try rfl) (fun _=>hS) ?_;simp only[Act.put,Ja,Jb,Jc];refine Kbd (i:=6) (d:=some 51) rfl rfl (by kernel_rfl) (by kernel_rfl) (by kernel_rfl) (by kernel_rfl) rfl (fun _ _ _ h=>h) (.inl ⟨by rfl,fun w hw=>by (obtain ⟨ha,hb⟩:=hw;go_simp;try rfl)⟩) hS ?_;simp only[Act.put,Ja,Jb,Jc];refine Kbd (i:=8) (d:=some 53) rfl rfl (by kernel_rfl) (by kernel_rfl) (by kernel_rfl) (by kernel_rfl) rfl (fun _ _ _ h=>h) (.inl ⟨by rfl,fun w hw=>by (obtain ⟨ha,hb⟩:=hw;go_simp;try rfl)⟩) hS ?_;simp only[Act.put,Ja,Jb,Jc];refine Kac (i:=9) (by kernel_rfl) rfl rfl ?_;refine Oper.wp_ran (d:=some 54) (w':=w9) (v:=.slice A9 n9 c9) rfl (Kdr _ _ _ rfl rfl rfl hr9) ?_;refine ⟨fun h=>absurd h (by decide),?_⟩;simp only[Act.put,Ja,Jb,Jc];refine Kaa (i:=10) (d:=some 55) rfl rfl (by kernel_rfl) (by kernel_rfl) (by kernel_rfl) rfl (fun _ _ _ h=>h) (by rfl) (fun w=>by go_simp;try rfl) (fun h=>absurd h (by decide)) ?_
     simp only[Act.put,Ja,Jb,Jc];refine Kaa (i:=11) (d:=some 56) rfl rfl (by kernel_rfl) (by kernel_rfl) (by kernel_rfl) rfl (fun _ _ _ h=>h) (by rfl) (fun w=>by go_simp;try rfl) (fun h=>absurd h (by decide)) ?_;simp only[Act.put,Ja,Jb,Jc];refine Kac (i:=12) (by kernel_rfl) rfl rfl ?_;refine Oper.wp_skipped (w':=w9.setCell ⟨g,m*3+1,none⟩ (.slice A9 n9 c9)) rfl (by go_simp;try rfl) ?_;refine ⟨fun h=>absurd h (by decide),?_⟩;refine Kbh (by kernel_rfl) ?_ _;obtain ⟨wb2,hwb2⟩:∃y,y=w9.setCell ⟨g,m*3+1,none⟩ (.slice A9 n9 c9):=⟨_,rfl⟩;have HPUT2:Hid (MSt w0 w2 wb2 (.slice (some ⟨g,0,none⟩) (m+1) cV) (hs.set m ⟨x.l,⟨A9,n9,c9⟩,x.w⟩) (gs.set m ⟨(lastS gs).labels,(lastS gs).samples++s.samples,(lastS gs).windows⟩)):=by show MSt _ _ _ _ _ _;rw[hwb2];exact HPUT.out
     have HBPN2:Hid (Blk wb2 p 58 #[.slice lA ln lc,.slice sA sn sc,.slice wA wn wc]):=by show Blk _ _ _ _;rw[hwb2];exact HBPN.out
     have HML2:Hid ((hs.set m ⟨x.l,⟨A9,n9,c9⟩,x.w⟩).length=m+1):=by show _=_;rw[List.length_set];exact HML.out
     rw[←hwb2];clear hwb2 hS hr9 hcell9 hfr9 HPUT HBPN hgz hgr;have HBW2:Hid (Below w0.heap.size w0 wb2):=HPUT2.out.b0
     have HSUM2:Hid (sumS (gs.set m ⟨(lastS gs).labels,(lastS gs).samples++s.samples,(lastS gs).windows⟩)≤274877906944):=by
      show _≤_
      rw[HSUMP.out];have:=HSUM.out;have:=HLS.out.1;omega
     obtain ⟨hs2,hhs2⟩:∃q,q=hs.set m ⟨x.l,⟨A9,n9,c9⟩,x.w⟩:=⟨_,rfl⟩;obtain ⟨gs2,hgs2⟩:∃q,q=gs.set m ⟨(lastS gs).labels,(lastS gs).samples++s.samples,(lastS gs).windows⟩:=⟨_,rfl⟩;have HMST2:Hid (MSt w0 w2 wb2 (.slice (some ⟨g,0,none⟩) (m+1) cV) hs2 gs2):=by show MSt _ _ _ _ _ _;rw[hhs2,hgs2];exact HPUT2.out
     have HML3:Hid (hs2.length=m+1):=by show _=_;rw[hhs2];exact HML2.out
     have HSUM3:Hid (sumS gs2≤274877906944):=by show _≤_;rw[hgs2];exact HSUM2.out
     have HADD:Hid (gs2.set m ⟨(lastS gs2).labels,(lastS gs2).samples,(lastS gs2).windows++s.windows⟩=addG gs s):=by
      show _=_
      rw[hgs2,HLASTP.out,List.set_set];unfold addG;rw[show gs.length - 1=m by have h1:=MST.out.rows.len;have:=HML.out;omega]
     clear hhs2 hgs2 HPUT2 HML2 HSUM2 HSUMP HLASTP HG9 HX9 MST HML HSUM HBP HBW;have MST:Hid (MSt w0 w2 wb2 (.slice (some ⟨g,0,none⟩) (m+1) cV) hs2 gs2):=HMST2.out;have HML:Hid (hs2.length=m+1):=HML3.out;have HSUM:Hid (sumS gs2≤274877906944):=HSUM3.out;have HBP:Hid (Blk wb2 p 58 #[.slice lA ln lc,.slice sA sn sc,.slice wA wn wc]):=HBPN2.out;have HBW:Hid (Below w0.heap.size w0 wb2):=HBW2.out;clear HMST2 HML3 HSUM3 HBPN2 HBW2;go_wp2_with fail
     obtain ⟨x,hx⟩:∃x,hs2[m]? = some x:=⟨hs2[m]'(by have:=HML.out;omega),List.getElem?_eq_getElem _⟩;have hMd:MSt w0 w2 wb2.drew (.slice (some ⟨g,0,none⟩) (m+1) cV) hs2 gs2:=MST.out.below (Below.refl _ _).drew;have hax:=hMd.rows.at_ m x hx;have hgk:gs2[m]! = lastS gs2:=by unfold lastS;rw[show gs2.length - 1=m by have:=HML.out;have:=hMd.rows.len;omega]
     rw[hgk] at hax;have hdl:wb2.drew.heap.size=wb2.heap.size:=rfl;obtain ⟨i1,hi1,hy0,hy1,hy2⟩:=info_parts Khh;have hEl:Elems wb2.drew wb2.drew.heap.size 6 Kai wA wn s.windows:=(HW.out.below HBW.out.drew).more HBW.out.size;have hlim:(lastS gs2).windows.length≤1099511627776:=by have:=HSUM.out;have h3:=Keg (gs:=gs2) (k:=m) (by have:=HML.out;have:=hMd.rows.len;omega);rw[hgk] at h3;omega
     have hnn:wn≤1099511627776:=HNL.out.2;obtain ⟨v9,w9,hr9,ho9,hg9,hb9⟩:=Kcy (P:=Tryz.prog) w2.heap.size 56 56 135 i1 (.agg #[.int .i64 0,.int .i64 0,.int .u64 0,.int .u64 0,.int .u64 0,.int .u64 0]) 6 48 Tryz.underlying56 hi1 hy0 hy1 hy2 rfl (by decide) Ket Kiz (wpM x) (lastS gs2).windows hax.wd wA wn wc s.windows hEl (by unfold maxLen;omega) (by omega) hMd.b2.size;obtain ⟨A9,c9,rfl⟩:=Kan ho9;obtain ⟨n9,hn9⟩:∃n9,n9=((lastS gs2).windows++s.windows).length:=⟨_,rfl⟩;rw[←hn9] at hr9 ho9 hb9;have hput:=(hMd.put HB02.out (k:=m) (x:=x) (x':=⟨x.l,x.s,⟨A9,n9,c9⟩⟩) (s':=⟨(lastS gs2).labels,(lastS gs2).samples,(lastS gs2).windows++s.windows⟩) (w4:=w9) hx hg9.os hg9.tape hg9.output hg9.size (fun j hj h1 h2=>hg9.block j hj h2) rfl (by rw[hgk]) (Kck (v:=spM x) hax.sm hg9.size (fun j hj=>hg9.block j (hax.sm.lt j hj).2 (fun e=>(Kbq hax.sm hax.wd (by decide)).elim (fun q=>by rw[q] at hj;cases hj) (fun q=>q (hj.trans e))))) (by show w9.ownsRow _ _ _ (.slice A9 n9 c9) ((lastS gs2).windows++s.windows).length _;rw[←hn9];exact ho9) (.inl rfl) hb9).2.1 rfl
     have hcell:wb2.drew.cell? ⟨g,m*3+2,none⟩=some (.slice x.w.A x.w.n x.w.c):=by
      have h1:=hMd.row.cells (g:=g) rfl (m*3+2) (.slice x.w.A x.w.n x.w.c) (by rw[Kct Kcc hs2 m 2 x hx (by decide)];rfl);have ea:(⟨g,0,none⟩:Addr).add (m*3+2)=⟨g,m*3+2,none⟩:=by unfold Addr.add;simp
      rw[ea] at h1;exact h1
     have hbp:Blk wb2.drew p 58 #[.slice lA ln lc,.slice sA sn sc,.slice wA wn wc]:=HBP.out;have hbc:wb2.drew.cell? ⟨p,2,none⟩=some (.slice wA wn wc):=hbp.cell 2;have hgz:g < wb2.drew.heap.size:=(hMd.row.lt g rfl).2;have hgr:g≠p:=HGP.out
     have hcell9:w9.cell? ⟨g,m*3+2,none⟩=some (.slice x.w.A x.w.n x.w.c):=by
      obtain ⟨cur,hcur⟩:=Kax hMd.row (r:=g) rfl;have hgb:Blk wb2.drew g 58 cur:=hcur;exact (World.cell?_of_block (w:=wb2.drew) (hg9.block g hgz (Kag hgb hax.wd (by decide)))).trans hcell
     have hfr9:w9.frozen? ⟨g,m*3+2,none⟩=false:=by
      obtain ⟨cur,hcur⟩:=Kax hMd.row (r:=g) rfl;have hgb:Blk wb2.drew g 58 cur:=hcur;exact (hgb.grown hg9 (Kag hgb hax.wd (by decide))).frozen _
     have hbp9:Blk w9 p 58 #[.slice lA ln lc,.slice sA sn sc,.slice wA wn wc]:=hbp.grown hg9 (Kag hbp hax.wd (by decide));have hbp10:Blk (w9.setCell ⟨g,m*3+2,none⟩ (.slice A9 n9 c9)) p 58 #[.slice lA ln lc,.slice sA sn sc,.slice wA wn wc]:=hbp9.far (fun e=>hgr e.symm) _;have hbz:Below wb2.heap.size wb2 (w9.setCell ⟨g,m*3+2,none⟩ (.slice A9 n9 c9))∨True:=.inr trivial;have hbw2:Below w0.heap.size w0 (w9.setCell ⟨g,m*3+2,none⟩ (.slice A9 n9 c9)):=hput.b0
     have hsumP:sumS (gs2.set m ⟨(lastS gs2).labels,(lastS gs2).samples,(lastS gs2).windows++s.windows⟩)=sumS gs2+s.windows.length:=by
      have h3:=Kdo gs2 m ⟨(lastS gs2).labels,(lastS gs2).samples,(lastS gs2).windows++s.windows⟩ (by have:=HML.out;have:=hMd.rows.len;omega);rw[hgk] at h3;simp only[Jd] at h3;omega
     have hlast2:lastS (gs2.set m ⟨(lastS gs2).labels,(lastS gs2).samples,(lastS gs2).windows++s.windows⟩)=⟨(lastS gs2).labels,(lastS gs2).samples,(lastS gs2).windows++s.windows⟩:=by
      unfold lastS;rw[List.length_set,show gs2.length - 1=m by have:=HML.out;have:=hMd.rows.len;omega,getElem!_pos _ m (by rw[List.length_set];have:=HML.out;have:=hMd.rows.len;omega),List.getElem_set_self]
     have hS:wb2.drew.cell? ⟨g,m*3+2,none⟩=some (.slice x.w.A x.w.n x.w.c)∧wb2.drew.cell? ⟨p,2,none⟩=some (.slice wA wn wc):=⟨hcell,hbc⟩;have hvw:wpM x = .slice x.w.A x.w.n x.w.c:=rfl;rw[hvw] at hr9;obtain ⟨xA,hxA⟩:∃q,q=x.w.A:=⟨_,rfl⟩;obtain ⟨xn,hxn⟩:∃q,q=x.w.n:=⟨_,rfl⟩;obtain ⟨xc,hxc⟩:∃q,q=x.w.c:=⟨_,rfl⟩;rw[←hxA,←hxn,←hxc] at hS hr9 hcell9;have HPUT:=Jh hput;have HBPN:=Jh hbp10;have HSUMP:=Jh hsumP;have HLASTP:=Jh hlast2;have HG9:=Jh hgk;have HX9:=Jh hx;clear hMd hax hgk hdl hEl hlim hnn ho9 hg9 hb9 hput hcell hbp hbc hbp9 hbp10 hbz hbw2 hsumP hlast2 hvw hxA hxn hxc hn9 hx hi1 hy0 hy1 hy2;refine Kcd (fun w'=>w'.cell? ⟨g,m*3+2,none⟩=some (.slice xA xn xc)∧w'.cell? ⟨p,2,none⟩=some (.slice wA wn wc)) 9 13 (by kernel_rfl) rfl ?_;rw[show Array.replicate 13 false = #[false,false,false,false,false,false,false,false,false,false,false,false,false] from rfl];refine Kaa (i:=0) (d:=some 57) rfl rfl (by kernel_rfl) (by kernel_rfl) (by kernel_rfl) rfl (fun _ _ _ h=>h) (by rfl) (fun w=>by go_simp;try rfl) (fun _=>hS) ?_;simp only[Act.put,Ja,Jb,Jc];refine Kaa (i:=1) (d:=some 58) rfl rfl (by kernel_rfl) (by kernel_rfl) (by kernel_rfl) rfl (fun _ _ _ h=>h) (by rfl) (fun w=>by go_simp;try rfl) (fun _=>hS) ?_;simp only[Act.put,Ja,Jb,Jc];refine Kaa (i:=2) (d:=some 59) rfl rfl (by kernel_rfl) (by kernel_rfl) (by kernel_rfl) rfl (fun _ _ _ h=>h) (by rfl) (fun w=>by go_simp;try rfl) (fun _=>hS) ?_;simp only[Act.put,Ja,Jb,Jc];refine Kaa (i:=3) (d:=some 60) rfl rfl (by kernel_rfl) (by kernel_rfl) (by kernel_rfl) rfl (fun _ _ _ h=>h) (by rfl) (fun w=>by go_simp;try rfl) (fun _=>hS) ?_;simp only[Act.put,Ja,Jb,Jc];refine Kaa (i:=4) (d:=some 61) rfl rfl (by kernel_rfl) (by kernel_rfl) (by kernel_rfl) rfl (fun _ _ _ h=>h) (by rfl) (fun w=>by go_simp;try rfl) (fun _=>hS) ?_;simp only[Act.put,Ja,Jb,Jc];refine Kaa (i:=5) (d:=some 62) rfl rfl (by kernel_rfl) (by kernel_rfl) (by kernel_rfl) rfl (fun _ _ _ h=>h) (by rfl) (fun w=>by go_simp;try rfl) (fun _=>hS) ?_;simp only[Act.put,Ja,Jb,Jc];refine Kaa (i:=7) (d:=some 64) rfl rfl (by kernel_rfl) (by kernel_rfl) (by kernel_rfl) rfl (fun _ _ _ h=>h) (by rfl) (fun w=>by go_simp;try rfl) (fun _=>hS) ?_;simp only[Act.put,Ja,Jb,Jc];refine Kbd (i:=6) (d:=some 63) rfl rfl (by kernel_rfl) (by kernel_rfl) (by kernel_rfl) (by kernel_rfl) rfl (fun _ _ _ h=>h) (.inl ⟨by rfl,fun w hw=>by (obtain ⟨ha,hb⟩:=hw;go_simp;try rfl)⟩) hS ?_;simp only[Act.put,Ja,Jb,Jc];refine Kbd (i:=8) (d:=some 65) rfl rfl (by kernel_rfl) (by kernel_rfl) (by kernel_rfl) (by kernel_rfl) rfl (fun _ _ _ h=>h) (.inl ⟨by rfl,fun w hw=>by (obtain ⟨ha,hb⟩:=hw;go_simp;try rfl)⟩) hS ?_;simp only[Act.put,Ja,Jb,Jc];refine Kac (i:=9) (by kernel_rfl) rfl rfl ?_;refine Oper.wp_ran (d:=some 66) (w':=w9) (v:=.slice A9 n9 c9) rfl (Kdr _ _ _ rfl rfl rfl hr9) ?_;refine ⟨fun h=>absurd h (by decide),?_⟩;simp only[Act.put,Ja,Jb,Jc];refine Kaa (i:=10) (d:=some 67) rfl rfl (by kernel_rfl) (by kernel_rfl) (by kernel_rfl) rfl (fun _ _ _ h=>h) (by rfl) (fun w=>by go_simp;try rfl) (fun h=>absurd h (by decide)) ?_
     simp only[Act.put,Ja,Jb,Jc];refine Kaa (i:=11) (d:=some 68) rfl rfl (by kernel_rfl) (by kernel_rfl) (by kernel_rfl) rfl (fun _ _ _ h=>h) (by rfl) (fun w=>by go_simp;try rfl) (fun h=>absurd h (by decide)) ?_;simp only[Act.put,Ja,Jb,Jc];refine Kac (i:=12) (by kernel_rfl) rfl rfl ?_;refine Oper.wp_skipped (w':=w9.setCell ⟨g,m*3+2,none⟩ (.slice A9 n9 c9)) rfl (by go_simp;try rfl) ?_;refine ⟨fun h=>absurd h (by decide),?_⟩;refine Kbh (by kernel_rfl) ?_ _;obtain ⟨wb3,hwb3⟩:∃y,y=w9.setCell ⟨g,m*3+2,none⟩ (.slice A9 n9 c9):=⟨_,rfl⟩;have HPUT2:Hid (MSt w0 w2 wb3 (.slice (some ⟨g,0,none⟩) (m+1) cV) (hs2.set m ⟨x.l,x.s,⟨A9,n9,c9⟩⟩) (gs2.set m ⟨(lastS gs2).labels,(lastS gs2).samples,(lastS gs2).windows++s.windows⟩)):=by show MSt _ _ _ _ _ _;rw[hwb3];exact HPUT.out
     have HBPN2:Hid (Blk wb3 p 58 #[.slice lA ln lc,.slice sA sn sc,.slice wA wn wc]):=by show Blk _ _ _ _;rw[hwb3];exact HBPN.out
     have HML2:Hid ((hs2.set m ⟨x.l,x.s,⟨A9,n9,c9⟩⟩).length=m+1):=by show _=_;rw[List.length_set];exact HML.out
     rw[←hwb3];clear hwb3 hS hr9 hcell9 hfr9 HPUT HBPN hgz hgr
     have HGN:Hid (MSt w0 w2 wb3 (.slice (some ⟨g,0,none⟩) (m+1) cV) (hs2.set m ⟨x.l,x.s,⟨A9,n9,c9⟩⟩) ((ys.take (i+1)).map MS.s |> grpG)):=by
      show MSt _ _ _ _ _ _
      rw[←HGRP.out,←HADD.out];exact HPUT2.out
     generalize hs2.set m ⟨x.l,x.s,⟨A9,n9,c9⟩⟩=hs3 at HGN HML2;clear HPUT2 HSUMP HLASTP HG9 HX9 HADD HGRP MST HML HSUM HBP HBW HBPN2;go_wp2_with fail
     go_roundg (N - (i+1))
     case measure=>omega
     case rel=>exact ⟨i+1,hs3,by first | rfl | go_num,by omega,HGN⟩
    ·subst hcc;have HOP:Hid (openG gs0 s=gs0):=by show _=_;unfold openG;rw[if_neg (fun h=>h.elim HNE.out fun h=>h HCC.out.symm)]
     obtain ⟨gs,hgs⟩:∃q,q=gs0:=⟨_,rfl⟩;rw[←hgs] at HMB2;have MST:Hid (MSt w0 w2 wq (.slice (some ⟨g,0,none⟩) m cV) hs gs):=HMB2.out;have HML:Hid (hs.length=k+1):=HML1.out;have HBP:Hid (Blk wq p 58 #[.slice lA ln lc,.slice sA sn sc,.slice wA wn wc]):=HBP2.out;have HBW:Hid (Below w0.heap.size w0 wq):=HMB2.out.b0;have HGRP:Hid (addG gs s=grpG ((ys.take (i+1)).map MS.s)):=by show _=_;rw[hgs,←HOP.out];exact HGRP1.out
     have HSUM:Hid (sumS gs≤137438953472):=by show _≤_;rw[hgs];exact HSG.out
     clear HMB2 HBP2 HCC HNE HOP hgs HPR HCL HGRP1 HSG HML0 HML1 HKM;obtain ⟨wb,hwb⟩:∃y,y=wq:=⟨_,rfl⟩;subst hwb;go_wp2_with fail
     obtain ⟨x,hx⟩:∃x,hs[k]? = some x:=⟨hs[k]'(by have:=HML.out;omega),List.getElem?_eq_getElem _⟩;have hMd:MSt w0 w2 wb.drew (.slice (some ⟨g,0,none⟩) m cV) hs gs:=MST.out.below (Below.refl _ _).drew;have hax:=hMd.rows.at_ k x hx;have hgk:gs[k]! = lastS gs:=by unfold lastS;rw[show gs.length - 1=k by have:=HML.out;have:=hMd.rows.len;omega]
     rw[hgk] at hax;have hdl:wb.drew.heap.size=wb.heap.size:=rfl;obtain ⟨i1,hi1,hy0,hy1,hy2⟩:=info_parts Khg;have hEl:Elems wb.drew wb.drew.heap.size 2 Kad sA sn s.samples:=(HS.out.below HBW.out.drew).more HBW.out.size;have hlim:(lastS gs).samples.length≤1099511627776:=by have:=HSUM.out;have h3:=Keg (gs:=gs) (k:=k) (by have:=HML.out;have:=hMd.rows.len;omega);rw[hgk] at h3;omega
     have hnn:sn≤1099511627776:=HNL.out.1;obtain ⟨v9,w9,hr9,ho9,hg9,hb9⟩:=Kcy (P:=Tryz.prog) w2.heap.size 55 55 102 i1 (.agg #[.int .i64 0,.int .u64 0]) 2 16 Tryz.underlying55 hi1 hy0 hy1 hy2 rfl (by decide) Kep Kis (spM x) (lastS gs).samples hax.sm sA sn sc s.samples hEl (by unfold maxLen;omega) (by omega) hMd.b2.size;obtain ⟨A9,c9,rfl⟩:=Kan ho9;obtain ⟨n9,hn9⟩:∃n9,n9=((lastS gs).samples++s.samples).length:=⟨_,rfl⟩;rw[←hn9] at hr9 ho9 hb9;have hput:=(hMd.put HB02.out (k:=k) (x:=x) (x':=⟨x.l,⟨A9,n9,c9⟩,x.w⟩) (s':=⟨(lastS gs).labels,(lastS gs).samples++s.samples,(lastS gs).windows⟩) (w4:=w9) hx hg9.os hg9.tape hg9.output hg9.size (fun j hj h1 h2=>hg9.block j hj h1) rfl (by rw[hgk]) (by show w9.ownsRow _ _ _ (.slice A9 n9 c9) ((lastS gs).samples++s.samples).length _;rw[←hn9];exact ho9) (Kck (v:=wpM x) hax.wd hg9.size (fun j hj=>hg9.block j (hax.wd.lt j hj).2 (fun e=>(Kbq hax.wd hax.sm (by decide)).elim (fun q=>by rw[q] at hj;cases hj) (fun q=>q (hj.trans e))))) hb9 (.inl rfl)).1 rfl
     have hcell:wb.drew.cell? ⟨g,k*3+1,none⟩=some (.slice x.s.A x.s.n x.s.c):=by
      have h1:=hMd.row.cells (g:=g) rfl (k*3+1) (.slice x.s.A x.s.n x.s.c) (by rw[Kct Kcc hs k 1 x hx (by decide)];rfl);have ea:(⟨g,0,none⟩:Addr).add (k*3+1)=⟨g,k*3+1,none⟩:=by unfold Addr.add;simp
      rw[ea] at h1;exact h1
     have hbp:Blk wb.drew p 58 #[.slice lA ln lc,.slice sA sn sc,.slice wA wn wc]:=HBP.out;have hbc:wb.drew.cell? ⟨p,1,none⟩=some (.slice sA sn sc):=hbp.cell 1;have hgz:g < wb.drew.heap.size:=(hMd.row.lt g rfl).2;have hgr:g≠p:=HGP.out
     have hcell9:w9.cell? ⟨g,k*3+1,none⟩=some (.slice x.s.A x.s.n x.s.c):=by
      obtain ⟨cur,hcur⟩:=Kax hMd.row (r:=g) rfl;have hgb:Blk wb.drew g 58 cur:=hcur;exact (World.cell?_of_block (w:=wb.drew) (hg9.block g hgz (Kag hgb hax.sm (by decide)))).trans hcell
     have hfr9:w9.frozen? ⟨g,k*3+1,none⟩=false:=by
      obtain ⟨cur,hcur⟩:=Kax hMd.row (r:=g) rfl;have hgb:Blk wb.drew g 58 cur:=hcur;exact (hgb.grown hg9 (Kag hgb hax.sm (by decide))).frozen _
     have hbp9:Blk w9 p 58 #[.slice lA ln lc,.slice sA sn sc,.slice wA wn wc]:=hbp.grown hg9 (Kag hbp hax.sm (by decide));have hbp10:Blk (w9.setCell ⟨g,k*3+1,none⟩ (.slice A9 n9 c9)) p 58 #[.slice lA ln lc,.slice sA sn sc,.slice wA wn wc]:=hbp9.far (fun e=>hgr e.symm) _;have hbz:Below wb.heap.size wb (w9.setCell ⟨g,k*3+1,none⟩ (.slice A9 n9 c9))∨True:=.inr trivial;have hbw2:Below w0.heap.size w0 (w9.setCell ⟨g,k*3+1,none⟩ (.slice A9 n9 c9)):=hput.b0
     have hsumP:sumS (gs.set k ⟨(lastS gs).labels,(lastS gs).samples++s.samples,(lastS gs).windows⟩)=sumS gs+s.samples.length:=by
      have h3:=Kdo gs k ⟨(lastS gs).labels,(lastS gs).samples++s.samples,(lastS gs).windows⟩ (by have:=HML.out;have:=hMd.rows.len;omega);rw[hgk] at h3;simp only[Jd] at h3;omega
     have hlast2:lastS (gs.set k ⟨(lastS gs).labels,(lastS gs).samples++s.samples,(lastS gs).windows⟩)=⟨(lastS gs).labels,(lastS gs).samples++s.samples,(lastS gs).windows⟩:=by
      unfold lastS;rw[List.length_set,show gs.length - 1=k by have:=HML.out;have:=hMd.rows.len;omega,getElem!_pos _ k (by rw[List.length_set];have:=HML.out;have:=hMd.rows.len;omega),List.getElem_set_self]
     have hS:wb.drew.cell? ⟨g,k*3+1,none⟩=some (.slice x.s.A x.s.n x.s.c)∧wb.drew.cell? ⟨p,1,none⟩=some (.slice sA sn sc):=⟨hcell,hbc⟩;have hvw:spM x = .slice x.s.A x.s.n x.s.c:=rfl;rw[hvw] at hr9;obtain ⟨xA,hxA⟩:∃q,q=x.s.A:=⟨_,rfl⟩;obtain ⟨xn,hxn⟩:∃q,q=x.s.n:=⟨_,rfl⟩;obtain ⟨xc,hxc⟩:∃q,q=x.s.c:=⟨_,rfl⟩;rw[←hxA,←hxn,←hxc] at hS hr9 hcell9;have HPUT:=Jh hput;have HBPN:=Jh hbp10;have HSUMP:=Jh hsumP;have HLASTP:=Jh hlast2;have HG9:=Jh hgk;have HX9:=Jh hx;clear hMd hax hgk hdl hEl hlim hnn ho9 hg9 hb9 hput hcell hbp hbc hbp9 hbp10 hbz hbw2 hsumP hlast2 hvw hxA hxn hxc hn9 hx hi1 hy0 hy1 hy2;refine Kcd (fun w'=>w'.cell? ⟨g,k*3+1,none⟩=some (.slice xA xn xc)∧w'.cell? ⟨p,1,none⟩=some (.slice sA sn sc)) 9 13 (by kernel_rfl) rfl ?_;rw[show Array.replicate 13 false = #[false,false,false,false,false,false,false,false,false,false,false,false,false] from rfl];refine Kaa (i:=0) (d:=some 45) rfl rfl (by kernel_rfl) (by kernel_rfl) (by kernel_rfl) rfl (fun _ _ _ h=>h) (by rfl) (fun w=>by go_simp;try rfl) (fun _=>hS) ?_;simp only[Act.put,Ja,Jb,Jc];refine Kaa (i:=1) (d:=some 46) rfl rfl (by kernel_rfl) (by kernel_rfl) (by kernel_rfl) rfl (fun _ _ _ h=>h) (by rfl) (fun w=>by go_simp;try rfl) (fun _=>hS) ?_;simp only[Act.put,Ja,Jb,Jc];refine Kaa (i:=2) (d:=some 47) rfl rfl (by kernel_rfl) (by kernel_rfl) (by kernel_rfl) rfl (fun _ _ _ h=>h) (by rfl) (fun w=>by go_simp;try rfl) (fun _=>hS) ?_;simp only[Act.put,Ja,Jb,Jc];refine Kaa (i:=3) (d:=some 48) rfl rfl (by kernel_rfl) (by kernel_rfl) (by kernel_rfl) rfl (fun _ _ _ h=>h) (by rfl) (fun w=>by go_simp;try rfl) (fun _=>hS) ?_;simp only[Act.put,Ja,Jb,Jc];refine Kaa (i:=4) (d:=some 49) rfl rfl (by kernel_rfl) (by kernel_rfl) (by kernel_rfl) rfl (fun _ _ _ h=>h) (by rfl) (fun w=>by go_simp;try rfl) (fun _=>hS) ?_;simp only[Act.put,Ja,Jb,Jc];refine Kaa (i:=5) (d:=some 50) rfl rfl (by kernel_rfl) (by kernel_rfl) (by kernel_rfl) rfl (fun _ _ _ h=>h) (by rfl) (fun w=>by go_simp;try rfl) (fun _=>hS) ?_;simp only[Act.put,Ja,Jb,Jc];refine Kaa (i:=7) (d:=some 52) rfl rfl (by kernel_rfl) (by kernel_rfl) (by kernel_rfl) rfl (fun _ _ _ h=>h) (by rfl) (fun w=>by go_simp;try rfl) (fun _=>hS) ?_;simp only[Act.put,Ja,Jb,Jc];refine Kbd (i:=6) (d:=some 51) rfl rfl (by kernel_rfl) (by kernel_rfl) (by kernel_rfl) (by kernel_rfl) rfl (fun _ _ _ h=>h) (.inl ⟨by rfl,fun w hw=>by (obtain ⟨ha,hb⟩:=hw;go_simp;try rfl)⟩) hS ?_;simp only[Act.put,Ja,Jb,Jc];refine Kbd (i:=8) (d:=some 53) rfl rfl (by kernel_rfl) (by kernel_rfl) (by kernel_rfl) (by kernel_rfl) rfl (fun _ _ _ h=>h) (.inl ⟨by rfl,fun w hw=>by (obtain ⟨ha,hb⟩:=hw;go_simp;try rfl)⟩) hS ?_;simp only[Act.put,Ja,Jb,Jc];refine Kac (i:=9) (by kernel_rfl) rfl rfl ?_;refine Oper.wp_ran (d:=some 54) (w':=w9) (v:=.slice A9 n9 c9) rfl (Kdr _ _ _ rfl rfl rfl hr9) ?_;refine ⟨fun h=>absurd h (by decide),?_⟩;simp only[Act.put,Ja,Jb,Jc];refine Kaa (i:=10) (d:=some 55) rfl rfl (by kernel_rfl) (by kernel_rfl) (by kernel_rfl) rfl (fun _ _ _ h=>h) (by rfl) (fun w=>by go_simp;try rfl) (fun h=>absurd h (by decide)) ?_
     simp only[Act.put,Ja,Jb,Jc];refine Kaa (i:=11) (d:=some 56) rfl rfl (by kernel_rfl) (by kernel_rfl) (by kernel_rfl) rfl (fun _ _ _ h=>h) (by rfl) (fun w=>by go_simp;try rfl) (fun h=>absurd h (by decide)) ?_;simp only[Act.put,Ja,Jb,Jc];refine Kac (i:=12) (by kernel_rfl) rfl rfl ?_;refine Oper.wp_skipped (w':=w9.setCell ⟨g,k*3+1,none⟩ (.slice A9 n9 c9)) rfl (by go_simp;try rfl) ?_;refine ⟨fun h=>absurd h (by decide),?_⟩;refine Kbh (by kernel_rfl) ?_ _;obtain ⟨wb2,hwb2⟩:∃y,y=w9.setCell ⟨g,k*3+1,none⟩ (.slice A9 n9 c9):=⟨_,rfl⟩;have HPUT2:Hid (MSt w0 w2 wb2 (.slice (some ⟨g,0,none⟩) m cV) (hs.set k ⟨x.l,⟨A9,n9,c9⟩,x.w⟩) (gs.set k ⟨(lastS gs).labels,(lastS gs).samples++s.samples,(lastS gs).windows⟩)):=by show MSt _ _ _ _ _ _;rw[hwb2];exact HPUT.out
     have HBPN2:Hid (Blk wb2 p 58 #[.slice lA ln lc,.slice sA sn sc,.slice wA wn wc]):=by show Blk _ _ _ _;rw[hwb2];exact HBPN.out
     have HML2:Hid ((hs.set k ⟨x.l,⟨A9,n9,c9⟩,x.w⟩).length=k+1):=by show _=_;rw[List.length_set];exact HML.out
     rw[←hwb2];clear hwb2 hS hr9 hcell9 hfr9 HPUT HBPN hgz hgr;have HBW2:Hid (Below w0.heap.size w0 wb2):=HPUT2.out.b0
     have HSUM2:Hid (sumS (gs.set k ⟨(lastS gs).labels,(lastS gs).samples++s.samples,(lastS gs).windows⟩)≤274877906944):=by
      show _≤_
      rw[HSUMP.out];have:=HSUM.out;have:=HLS.out.1;omega
     obtain ⟨hs2,hhs2⟩:∃q,q=hs.set k ⟨x.l,⟨A9,n9,c9⟩,x.w⟩:=⟨_,rfl⟩;obtain ⟨gs2,hgs2⟩:∃q,q=gs.set k ⟨(lastS gs).labels,(lastS gs).samples++s.samples,(lastS gs).windows⟩:=⟨_,rfl⟩;have HMST2:Hid (MSt w0 w2 wb2 (.slice (some ⟨g,0,none⟩) m cV) hs2 gs2):=by show MSt _ _ _ _ _ _;rw[hhs2,hgs2];exact HPUT2.out
     have HML3:Hid (hs2.length=k+1):=by show _=_;rw[hhs2];exact HML2.out
     have HSUM3:Hid (sumS gs2≤274877906944):=by show _≤_;rw[hgs2];exact HSUM2.out
     have HADD:Hid (gs2.set k ⟨(lastS gs2).labels,(lastS gs2).samples,(lastS gs2).windows++s.windows⟩=addG gs s):=by
      show _=_
      rw[hgs2,HLASTP.out,List.set_set];unfold addG;rw[show gs.length - 1=k by have h1:=MST.out.rows.len;have:=HML.out;omega]
     clear hhs2 hgs2 HPUT2 HML2 HSUM2 HSUMP HLASTP HG9 HX9 MST HML HSUM HBP HBW;have MST:Hid (MSt w0 w2 wb2 (.slice (some ⟨g,0,none⟩) m cV) hs2 gs2):=HMST2.out;have HML:Hid (hs2.length=k+1):=HML3.out;have HSUM:Hid (sumS gs2≤274877906944):=HSUM3.out;have HBP:Hid (Blk wb2 p 58 #[.slice lA ln lc,.slice sA sn sc,.slice wA wn wc]):=HBPN2.out;have HBW:Hid (Below w0.heap.size w0 wb2):=HBW2.out;clear HMST2 HML3 HSUM3 HBPN2 HBW2;go_wp2_with fail
     obtain ⟨x,hx⟩:∃x,hs2[k]? = some x:=⟨hs2[k]'(by have:=HML.out;omega),List.getElem?_eq_getElem _⟩;have hMd:MSt w0 w2 wb2.drew (.slice (some ⟨g,0,none⟩) m cV) hs2 gs2:=MST.out.below (Below.refl _ _).drew;have hax:=hMd.rows.at_ k x hx;have hgk:gs2[k]! = lastS gs2:=by unfold lastS;rw[show gs2.length - 1=k by have:=HML.out;have:=hMd.rows.len;omega]
     rw[hgk] at hax;have hdl:wb2.drew.heap.size=wb2.heap.size:=rfl;obtain ⟨i1,hi1,hy0,hy1,hy2⟩:=info_parts Khh;have hEl:Elems wb2.drew wb2.drew.heap.size 6 Kai wA wn s.windows:=(HW.out.below HBW.out.drew).more HBW.out.size;have hlim:(lastS gs2).windows.length≤1099511627776:=by have:=HSUM.out;have h3:=Keg (gs:=gs2) (k:=k) (by have:=HML.out;have:=hMd.rows.len;omega);rw[hgk] at h3;omega
     have hnn:wn≤1099511627776:=HNL.out.2;obtain ⟨v9,w9,hr9,ho9,hg9,hb9⟩:=Kcy (P:=Tryz.prog) w2.heap.size 56 56 135 i1 (.agg #[.int .i64 0,.int .i64 0,.int .u64 0,.int .u64 0,.int .u64 0,.int .u64 0]) 6 48 Tryz.underlying56 hi1 hy0 hy1 hy2 rfl (by decide) Ket Kiz (wpM x) (lastS gs2).windows hax.wd wA wn wc s.windows hEl (by unfold maxLen;omega) (by omega) hMd.b2.size;obtain ⟨A9,c9,rfl⟩:=Kan ho9;obtain ⟨n9,hn9⟩:∃n9,n9=((lastS gs2).windows++s.windows).length:=⟨_,rfl⟩;rw[←hn9] at hr9 ho9 hb9;have hput:=(hMd.put HB02.out (k:=k) (x:=x) (x':=⟨x.l,x.s,⟨A9,n9,c9⟩⟩) (s':=⟨(lastS gs2).labels,(lastS gs2).samples,(lastS gs2).windows++s.windows⟩) (w4:=w9) hx hg9.os hg9.tape hg9.output hg9.size (fun j hj h1 h2=>hg9.block j hj h2) rfl (by rw[hgk]) (Kck (v:=spM x) hax.sm hg9.size (fun j hj=>hg9.block j (hax.sm.lt j hj).2 (fun e=>(Kbq hax.sm hax.wd (by decide)).elim (fun q=>by rw[q] at hj;cases hj) (fun q=>q (hj.trans e))))) (by show w9.ownsRow _ _ _ (.slice A9 n9 c9) ((lastS gs2).windows++s.windows).length _;rw[←hn9];exact ho9) (.inl rfl) hb9).2.1 rfl
     have hcell:wb2.drew.cell? ⟨g,k*3+2,none⟩=some (.slice x.w.A x.w.n x.w.c):=by
      have h1:=hMd.row.cells (g:=g) rfl (k*3+2) (.slice x.w.A x.w.n x.w.c) (by rw[Kct Kcc hs2 k 2 x hx (by decide)];rfl);have ea:(⟨g,0,none⟩:Addr).add (k*3+2)=⟨g,k*3+2,none⟩:=by unfold Addr.add;simp
      rw[ea] at h1;exact h1
     have hbp:Blk wb2.drew p 58 #[.slice lA ln lc,.slice sA sn sc,.slice wA wn wc]:=HBP.out;have hbc:wb2.drew.cell? ⟨p,2,none⟩=some (.slice wA wn wc):=hbp.cell 2;have hgz:g < wb2.drew.heap.size:=(hMd.row.lt g rfl).2;have hgr:g≠p:=HGP.out
     have hcell9:w9.cell? ⟨g,k*3+2,none⟩=some (.slice x.w.A x.w.n x.w.c):=by
      obtain ⟨cur,hcur⟩:=Kax hMd.row (r:=g) rfl;have hgb:Blk wb2.drew g 58 cur:=hcur;exact (World.cell?_of_block (w:=wb2.drew) (hg9.block g hgz (Kag hgb hax.wd (by decide)))).trans hcell
     have hfr9:w9.frozen? ⟨g,k*3+2,none⟩=false:=by
      obtain ⟨cur,hcur⟩:=Kax hMd.row (r:=g) rfl;have hgb:Blk wb2.drew g 58 cur:=hcur;exact (hgb.grown hg9 (Kag hgb hax.wd (by decide))).frozen _
     have hbp9:Blk w9 p 58 #[.slice lA ln lc,.slice sA sn sc,.slice wA wn wc]:=hbp.grown hg9 (Kag hbp hax.wd (by decide));have hbp10:Blk (w9.setCell ⟨g,k*3+2,none⟩ (.slice A9 n9 c9)) p 58 #[.slice lA ln lc,.slice sA sn sc,.slice wA wn wc]:=hbp9.far (fun e=>hgr e.symm) _;have hbz:Below wb2.heap.size wb2 (w9.setCell ⟨g,k*3+2,none⟩ (.slice A9 n9 c9))∨True:=.inr trivial;have hbw2:Below w0.heap.size w0 (w9.setCell ⟨g,k*3+2,none⟩ (.slice A9 n9 c9)):=hput.b0
     have hsumP:sumS (gs2.set k ⟨(lastS gs2).labels,(lastS gs2).samples,(lastS gs2).windows++s.windows⟩)=sumS gs2+s.windows.length:=by
      have h3:=Kdo gs2 k ⟨(lastS gs2).labels,(lastS gs2).samples,(lastS gs2).windows++s.windows⟩ (by have:=HML.out;have:=hMd.rows.len;omega);rw[hgk] at h3;simp only[Jd] at h3;omega
     have hlast2:lastS (gs2.set k ⟨(lastS gs2).labels,(lastS gs2).samples,(lastS gs2).windows++s.windows⟩)=⟨(lastS gs2).labels,(lastS gs2).samples,(lastS gs2).windows++s.windows⟩:=by
      unfold lastS;rw[List.length_set,show gs2.length - 1=k by have:=HML.out;have:=hMd.rows.len;omega,getElem!_pos _ k (by rw[List.length_set];have:=HML.out;have:=hMd.rows.len;omega),List.getElem_set_self]
     have hS:wb2.drew.cell? ⟨g,k*3+2,none⟩=some (.slice x.w.A x.w.n x.w.c)∧wb2.drew.cell? ⟨p,2,none⟩=some (.slice wA wn wc):=⟨hcell,hbc⟩;have hvw:wpM x = .slice x.w.A x.w.n x.w.c:=rfl;rw[hvw] at hr9;obtain ⟨xA,hxA⟩:∃q,q=x.w.A:=⟨_,rfl⟩;obtain ⟨xn,hxn⟩:∃q,q=x.w.n:=⟨_,rfl⟩;obtain ⟨xc,hxc⟩:∃q,q=x.w.c:=⟨_,rfl⟩;rw[←hxA,←hxn,←hxc] at hS hr9 hcell9;have HPUT:=Jh hput;have HBPN:=Jh hbp10;have HSUMP:=Jh hsumP;have HLASTP:=Jh hlast2;have HG9:=Jh hgk;have HX9:=Jh hx;clear hMd hax hgk hdl hEl hlim hnn ho9 hg9 hb9 hput hcell hbp hbc hbp9 hbp10 hbz hbw2 hsumP hlast2 hvw hxA hxn hxc hn9 hx hi1 hy0 hy1 hy2;refine Kcd (fun w'=>w'.cell? ⟨g,k*3+2,none⟩=some (.slice xA xn xc)∧w'.cell? ⟨p,2,none⟩=some (.slice wA wn wc)) 9 13 (by kernel_rfl) rfl ?_;rw[show Array.replicate 13 false = #[false,false,false,false,false,false,false,false,false,false,false,false,false] from rfl];refine Kaa (i:=0) (d:=some 57) rfl rfl (by kernel_rfl) (by kernel_rfl) (by kernel_rfl) rfl (fun _ _ _ h=>h) (by rfl) (fun w=>by go_simp;try rfl) (fun _=>hS) ?_;simp only[Act.put,Ja,Jb,Jc];refine Kaa (i:=1) (d:=some 58) rfl rfl (by kernel_rfl) (by kernel_rfl) (by kernel_rfl) rfl (fun _ _ _ h=>h) (by rfl) (fun w=>by go_simp;try rfl) (fun _=>hS) ?_;simp only[Act.put,Ja,Jb,Jc];refine Kaa (i:=2) (d:=some 59) rfl rfl (by kernel_rfl) (by kernel_rfl) (by kernel_rfl) rfl (fun _ _ _ h=>h) (by rfl) (fun w=>by go_simp;try rfl) (fun _=>hS) ?_;simp only[Act.put,Ja,Jb,Jc];refine Kaa (i:=3) (d:=some 60) rfl rfl (by kernel_rfl) (by kernel_rfl) (by kernel_rfl) rfl (fun _ _ _ h=>h) (by rfl) (fun w=>by go_simp;try rfl) (fun _=>hS) ?_;simp only[Act.put,Ja,Jb,Jc];refine Kaa (i:=4) (d:=some 61) rfl rfl (by kernel_rfl) (by kernel_rfl) (by kernel_rfl) rfl (fun _ _ _ h=>h) (by rfl) (fun w=>by go_simp;try rfl) (fun _=>hS) ?_;simp only[Act.put,Ja,Jb,Jc];refine Kaa (i:=5) (d:=some 62) rfl rfl (by kernel_rfl) (by kernel_rfl) (by kernel_rfl) rfl (fun _ _ _ h=>h) (by rfl) (fun w=>by go_simp;try rfl) (fun _=>hS) ?_;simp only[Act.put,Ja,Jb,Jc];refine Kaa (i:=7) (d:=some 64) rfl rfl (by kernel_rfl) (by kernel_rfl) (by kernel_rfl) rfl (fun _ _ _ h=>h) (by rfl) (fun w=>by go_simp;try rfl) (fun _=>hS) ?_;simp only[Act.put,Ja,Jb,Jc];refine Kbd (i:=6) (d:=some 63) rfl rfl (by kernel_rfl) (by kernel_rfl) (by kernel_rfl) (by kernel_rfl) rfl (fun _ _ _ h=>h) (.inl ⟨by rfl,fun w hw=>by (obtain ⟨ha,hb⟩:=hw;go_simp;try rfl)⟩) hS ?_;simp only[Act.put,Ja,Jb,Jc];refine Kbd (i:=8) (d:=some 65) rfl rfl (by kernel_rfl) (by kernel_rfl) (by kernel_rfl) (by kernel_rfl) rfl (fun _ _ _ h=>h) (.inl ⟨by rfl,fun w hw=>by (obtain ⟨ha,hb⟩:=hw;go_simp;try rfl)⟩) hS ?_;simp only[Act.put,Ja,Jb,Jc];refine Kac (i:=9) (by kernel_rfl) rfl rfl ?_;refine Oper.wp_ran (d:=some 66) (w':=w9) (v:=.slice A9 n9 c9) rfl (Kdr _ _ _ rfl rfl rfl hr9) ?_;refine ⟨fun h=>absurd h (by decide),?_⟩;simp only[Act.put,Ja,Jb,Jc];refine Kaa (i:=10) (d:=some 67) rfl rfl (by kernel_rfl) (by kernel_rfl) (by kernel_rfl) rfl (fun _ _ _ h=>h) (by rfl) (fun w=>by go_simp;try rfl) (fun h=>absurd h (by decide)) ?_
     simp only[Act.put,Ja,Jb,Jc];refine Kaa (i:=11) (d:=some 68) rfl rfl (by kernel_rfl) (by kernel_rfl) (by kernel_rfl) rfl (fun _ _ _ h=>h) (by rfl) (fun w=>by go_simp;try rfl) (fun h=>absurd h (by decide)) ?_;simp only[Act.put,Ja,Jb,Jc];refine Kac (i:=12) (by kernel_rfl) rfl rfl ?_;refine Oper.wp_skipped (w':=w9.setCell ⟨g,k*3+2,none⟩ (.slice A9 n9 c9)) rfl (by go_simp;try rfl) ?_;refine ⟨fun h=>absurd h (by decide),?_⟩;refine Kbh (by kernel_rfl) ?_ _;obtain ⟨wb3,hwb3⟩:∃y,y=w9.setCell ⟨g,k*3+2,none⟩ (.slice A9 n9 c9):=⟨_,rfl⟩;have HPUT2:Hid (MSt w0 w2 wb3 (.slice (some ⟨g,0,none⟩) m cV) (hs2.set k ⟨x.l,x.s,⟨A9,n9,c9⟩⟩) (gs2.set k ⟨(lastS gs2).labels,(lastS gs2).samples,(lastS gs2).windows++s.windows⟩)):=by show MSt _ _ _ _ _ _;rw[hwb3];exact HPUT.out
     have HBPN2:Hid (Blk wb3 p 58 #[.slice lA ln lc,.slice sA sn sc,.slice wA wn wc]):=by show Blk _ _ _ _;rw[hwb3];exact HBPN.out
     have HML2:Hid ((hs2.set k ⟨x.l,x.s,⟨A9,n9,c9⟩⟩).length=k+1):=by show _=_;rw[List.length_set];exact HML.out
     rw[←hwb3];clear hwb3 hS hr9 hcell9 hfr9 HPUT HBPN hgz hgr
     have HGN:Hid (MSt w0 w2 wb3 (.slice (some ⟨g,0,none⟩) m cV) (hs2.set k ⟨x.l,x.s,⟨A9,n9,c9⟩⟩) ((ys.take (i+1)).map MS.s |> grpG)):=by
      show MSt _ _ _ _ _ _
      rw[←HGRP.out,←HADD.out];exact HPUT2.out
     generalize hs2.set k ⟨x.l,x.s,⟨A9,n9,c9⟩⟩=hs3 at HGN HML2;clear HPUT2 HSUMP HLASTP HG9 HX9 HADD HGRP MST HML HSUM HBP HBW HBPN2;go_wp2_with fail
     go_roundg (N - (i+1))
     case measure=>omega
     case rel=>exact ⟨i+1,hs3,by first | rfl | go_num,by omega,HGN⟩
  ·have hlz:¬(i:Int) < (N:Int):=by omega
   have hiN:i=N:=by omega
   obtain ⟨gs,hgs⟩:∃q,q=grpG (ys.map MS.s):=⟨_,rfl⟩;have htk:grpG ((ys.take i).map MS.s)=gs:=by rw[hgs,List.take_of_length_le (by rw[HYL.out];omega)]
   rw[htk] at HM;have HGS:Hid (gs=grpG (ys.map MS.s)):=hgs
   have HSUM:Hid (sumS gs≤137438953472):=by
    show _≤_
    rw[hgs];unfold grpG;rw[Kty];have:=HSUMY.out;simpa[sumS] using this
   obtain ⟨A4,cV,hv4⟩:=Kan HM.out.row;obtain ⟨m,hm⟩:∃m,m=hs.length:=⟨_,rfl⟩;rw[←hm] at hv4
   have hmz:m≤274877906944:=by
    have h1:=HM.out.rows.len;have h2:=Kws ((ys.take i).map MS.s) [];rw[List.length_map,List.length_take,List.length_nil] at h2;have h3:grpG ((ys.take i).map MS.s)=gs:=htk;unfold grpG at h3;rw[h3] at h2;omega
   have HGL:Hid (gs.length=m):=by show _=_;rw[hm];exact HM.out.rows.len.symm
   have M1:Hid (MSt w0 w2 wr (.slice A4 m cV) hs ((gs.take 0).map Kay++gs.drop 0)):=by
    show MSt _ _ _ _ _ _
    rw[←hv4];simpa using HM.out
   subst hv4;clear hgs htk hm HM hiN hi;go_wp2_with fail
   go_loopg [72] m (fun kx s72 wr=>∃(i:Nat) (hs:List Hd3),s72 = .int .i64 (i:Int)∧i+kx=m∧Hid (MSt w0 w2 wr (.slice A4 m cV) hs ((gs.take i).map Kay++gs.drop i)))
   case atStart=>exact ⟨0,hs,rfl,by omega,M1⟩
   case round=>
    clear M1;clear hs;obtain ⟨i,hs,rfl,hi,HM⟩:=hrel;rcases Nat.lt_or_ge i m with hlt | hge
    ·have hlz:(i:Int) < (m:Int):=by omega
     obtain ⟨g,hg4⟩:∃g,A4=some ⟨g,0,none⟩:=by
      rcases HM.out.row.2 with ⟨e0,h1⟩ | ⟨g,cap,cur,e0,_⟩
      ·injection e0 with _ e1;omega
      ·injection e0 with e0;exact ⟨g,e0⟩
     subst hg4;have hgl:i < gs.length:=by rw[HGL.out];exact hlt
     obtain ⟨st1,st2⟩:=Qau gs hgl
     have hsl:hs.length=m:=by
      rcases HM.out.row.2 with ⟨e0,_⟩ | ⟨g',cap,cur,e0,_⟩
      ·cases e0
      ·injection e0 with _ e1;exact e1.symm
     obtain ⟨x,hx⟩:∃x,hs[i]? = some x:=⟨hs[i]'(by omega),List.getElem?_eq_getElem _⟩
     have hcell:∀j v,j < 3→(encH3 x)[j]? = some v→wr.cell? ⟨g,i*3+j,none⟩=some v:=fun j v hj hv=>by
      have h1:=HM.out.row.cells (g:=g) rfl (i*3+j) v (by rw[Kct Kcc hs i j x hx hj];exact hv)
      have ea:(⟨g,0,none⟩:Addr).add (i*3+j)=⟨g,i*3+j,none⟩:=by
       unfold Addr.add
       split
       ·rename_i h0;simp at h0 ⊢;(try omega)
       ·simp
      rw[ea] at h1;exact h1
     have hsz1:=Keg hgl;have hSL:gs[i]!.samples.length≤137438953472∧gs[i]!.windows.length≤137438953472:=by have:=HSUM.out;omega
     obtain ⟨si,hsi⟩:∃q,q=gs[i]!:=⟨_,rfl⟩;obtain ⟨cur,hcur⟩:∃q,q=(gs.take i).map Kay++gs.drop i:=⟨_,rfl⟩;rw[←hsi] at st1 st2 hSL;rw[←hcur] at st1 st2 HM;have HST1:Hid (cur.set i (Kay si)=(gs.take (i+1)).map Kay++gs.drop (i+1)):=st1;have HST2:Hid (cur[i]! = si):=st2;have HSL:Hid (si.samples.length≤137438953472∧si.windows.length≤137438953472):=hSL;have hglt:g < wr.heap.size:=(HM.out.row.lt g rfl).2;obtain ⟨⟨xA,xn,xc⟩,⟨sA,sn,sc⟩,⟨wA,wn,wc⟩⟩:=x;have c0:=hcell 0 (.slice xA xn xc) (by decide) rfl;have c1:=hcell 1 (.slice sA sn sc) (by decide) rfl;have c2:=hcell 2 (.slice wA wn wc) (by decide) rfl;rw[Nat.add_zero] at c0;have HX:Hid (hs[i]? = some ⟨⟨xA,xn,xc⟩,⟨sA,sn,sc⟩,⟨wA,wn,wc⟩⟩):=hx;clear st1 st2 hSL hsz1 hcell hx hcur hsi;go_upto_region 17 with fail
     obtain ⟨wb,hwb⟩:∃x,x=wr.alloc (.cells #[.slice xA xn xc,.slice sA sn sc,.slice wA wn wc] 58):=⟨_,rfl⟩;obtain ⟨p,hp⟩:∃p,p=wr.heap.size:=⟨_,rfl⟩;have hbp:Blk wb p 58 #[.slice xA xn xc,.slice sA sn sc,.slice wA wn wc]:=by rw[hwb,hp];exact Blk.new _ _ _
     have hMd:MSt w0 w2 wb.drew (.slice (some ⟨g,0,none⟩) m cV) hs cur:=by
      have:MSt w0 w2 wb (.slice (some ⟨g,0,none⟩) m cV) hs cur:=by rw[hwb];exact HM.out.below ((Below.refl _ _).alloc (Nat.le_refl _) _)
      exact this.below (Below.refl _ _).drew
     rw[←hwb,←hp];have hbpd:Blk wb.drew p 58 #[.slice xA xn xc,.slice sA sn sc,.slice wA wn wc]:=hbp;obtain ⟨xl,hxl⟩:∃q:Hd,q=⟨xA,xn,xc⟩:=⟨_,rfl⟩;have hax:=hMd.rows.at_ i _ HX.out;rw[HST2.out] at hax;have hN1:Hid (∃N1:Value→World→Prop,(∀u w',N1 u w'↔∃zs,Kaw Smp.t si.samples zs∧w'.ownsRow w2.heap.size 102 2 u zs.length (zs.flatMap Kad)∧u.ownBlock=(Value.slice sA sn sc).ownBlock∧wb.drew.grownBy w' (Value.slice sA sn sc).ownBlock)):=⟨fun u w'=>_,fun u w'=>Iff.rfl⟩;obtain ⟨N1,hN1⟩:=hN1.out;have hN2:Hid (∃N2:World→Value→World→Prop,(∀w6 u w',N2 w6 u w'↔∃zs,Kaw Wnd.start si.windows zs∧w'.ownsRow w2.heap.size 135 6 u zs.length (zs.flatMap Kai)∧u.ownBlock=(Value.slice wA wn wc).ownBlock∧w6.grownBy w' (Value.slice wA wn wc).ownBlock)):=⟨fun w6 u w'=>_,fun w6 u w'=>Iff.rfl⟩;obtain ⟨N2,hN2⟩:=hN2.out;have hsm:wb.drew.ownsRow w2.heap.size 102 2 (.slice sA sn sc) si.samples.length (si.samples.flatMap Kad):=hax.sm;have hwd:wb.drew.ownsRow w2.heap.size 135 6 (.slice wA wn wc) si.windows.length (si.windows.flatMap Kai):=hax.wd;have hne:∀j,(Value.slice wA wn wc).ownBlock=some j→some j≠(Value.slice sA sn sc).ownBlock:=fun j hj e=>(Kbq hwd hsm (by decide)).elim (fun q=>by rw[q] at hj;cases hj) (fun q=>q (hj.trans e))
     have HCS:Hid (Calls Tryz.prog 62 #[.slice sA sn sc,.func (.func 63) #[] #[]] wb.drew fun e w'=>∃u,e = .returned u∧N1 u w'):=by
      refine (Kvn si.samples w2.heap.size si.samples.length _ wb.drew hsm rfl (by have:=HSL.out;omega)).mono ?_;rintro e w' ⟨v',zs,rfl,h1,h2,h3,h4⟩;exact ⟨_,rfl,(hN1 _ _).2 ⟨zs,h1,h2,h3,h4⟩⟩
     have hwd6:∀u1 w6,N1 u1 w6→w6.ownsRow w2.heap.size 135 6 (.slice wA wn wc) si.windows.length (si.windows.flatMap Kai):=fun u1 w6 h=>by
      obtain ⟨zs,_,_,_,h4⟩:=(hN1 _ _).1 h;exact Kck hwd h4.size fun j hj=>h4.block j (hwd.lt j hj).2 (hne j hj)
     have HCW:Hid (∀u1 w6,N1 u1 w6→Calls Tryz.prog 64 #[.slice wA wn wc,.func (.func 65) #[] #[]] w6 fun e w'=>∃u,e = .returned u∧N2 w6 u w'):=fun u1 w6 h=>by
      refine (Kvr si.windows w2.heap.size si.windows.length _ w6 (hwd6 u1 w6 h) rfl (by have:=HSL.out;omega)).mono ?_;rintro e w' ⟨v',zs,rfl,h1,h2,h3,h4⟩;exact ⟨_,rfl,(hN2 _ _ _).2 ⟨zs,h1,h2,h3,h4⟩⟩
     have HP6:Hid (∀u1 w6,N1 u1 w6→w6.cell? ⟨p,2,none⟩=some (.slice wA wn wc)):=fun u1 w6 h=>by
      obtain ⟨zs,_,_,_,h4⟩:=(hN1 _ _).1 h;have hb:Blk w6 p 58 #[.slice xA xn xc,.slice sA sn sc,.slice wA wn wc]:=hbpd.grown h4 (Kag hbpd hsm (by decide));exact hb.cell 2
     have HU1:Hid (∀u w',N1 u w'→∃A n c,u = .slice A n c):=fun u w' h=>by
      obtain ⟨zs,_,h2,_⟩:=(hN1 _ _).1 h;obtain ⟨A1,c1,e⟩:=Kan h2;exact ⟨A1,_,c1,e⟩
     have HU2:Hid (∀w6 u w',N2 w6 u w'→∃A n c,u = .slice A n c):=fun w6 u w' h=>by
      obtain ⟨zs,_,h2,_⟩:=(hN2 _ _ _).1 h;obtain ⟨A1,c1,e⟩:=Kan h2;exact ⟨A1,_,c1,e⟩
     have hlow:∀{u1 w6 u2 w7},N1 u1 w6→N2 w6 u2 w7→∀j,j < wb.drew.heap.size→some j≠(Value.slice sA sn sc).ownBlock→some j≠(Value.slice wA wn wc).ownBlock→w7.heap[j]? = wb.drew.heap[j]?:=fun {u1 w6 u2 w7} h h' j hj n1 n2=>by
      obtain ⟨_,_,_,_,h4⟩:=(hN1 _ _).1 h;obtain ⟨_,_,_,_,k4⟩:=(hN2 _ _ _).1 h';exact (k4.block j (Nat.lt_of_lt_of_le hj h4.size) n2).trans (h4.block j hj n1)
     have HFIN:Hid (∀A1 n1 c1 w6 A2 n2 c2 w7,N1 (.slice A1 n1 c1) w6→N2 w6 (.slice A2 n2 c2) w7→MSt w0 w2 ((w7.setCell ⟨g,i*3+1,none⟩ (.slice A1 n1 c1)).setCell ⟨g,i*3+2,none⟩ (.slice A2 n2 c2)) (.slice (some ⟨g,0,none⟩) m cV) (hs.set i ⟨xl,⟨A1,n1,c1⟩,⟨A2,n2,c2⟩⟩) ((gs.take (i+1)).map Kay++gs.drop (i+1))):=fun A1 n1 c1 w6 A2 n2 c2 w7 h h'=>by
      obtain ⟨zs,a1,a2,a3,a4⟩:=(hN1 _ _).1 h;obtain ⟨ws,b1,b2,b3,b4⟩:=(hN2 _ _ _).1 h';have e1:=Kvp a1;have e2:=Kvq b1;rw[←HST1.out]
      have hS7:w7.ownsRow w2.heap.size 102 2 (.slice A1 n1 c1) (Kay si).samples.length ((Kay si).samples.flatMap Kad):=by
       rw[e1];refine Kck a2 b4.size fun j hj=>b4.block j (a2.lt j hj).2 fun e=>?_
       have h6:=hwd6 _ _ h;exact (Kbq h6 a2 (by decide)).elim (fun q=>by rw[q] at e;cases e) (fun q=>q (e.symm.trans hj.symm))
      have hW7:w7.ownsRow w2.heap.size 135 6 (.slice A2 n2 c2) (Kay si).windows.length ((Kay si).windows.flatMap Kai):=by
       rw[e2];exact b2
      exact (hMd.put HB02.out (k:=i) (x:=⟨⟨xA,xn,xc⟩,⟨sA,sn,sc⟩,⟨wA,wn,wc⟩⟩) (x':=⟨xl,⟨A1,n1,c1⟩,⟨A2,n2,c2⟩⟩) (s':=Kay si) (w4:=w7) HX.out (b4.os.trans a4.os) (b4.tape.trans a4.tape) (b4.output.trans a4.output) (Nat.le_trans a4.size b4.size) (hlow h h') hxl (by rw[HST2.out];rfl) hS7 hW7 (.inl a3) (.inl b3)).2.2
     have HCE:Hid (∀u1 w6 u2 w7,N1 u1 w6→N2 w6 u2 w7→w7.cell? ⟨g,i*3+1,none⟩=some (.slice sA sn sc)∧w7.cell? ⟨g,i*3+2,none⟩=some (.slice wA wn wc)∧w7.frozen? ⟨g,i*3+1,none⟩=false∧w7.frozen? ⟨g,i*3+2,none⟩=false):=fun u1 w6 u2 w7 h h'=>by
      obtain ⟨cu,hcu⟩:=Kax hMd.row (r:=g) rfl;have hgb:Blk wb.drew g 58 cu:=hcu;have hs7:=hlow h h' g (hMd.row.lt g rfl).2 (Kag hgb hsm (by decide)) (Kag hgb hwd (by decide));have hgb7:Blk w7 g 58 cu:=hs7.trans hgb
      have hcc:∀j v,j < 3→(encH3 ⟨⟨xA,xn,xc⟩,⟨sA,sn,sc⟩,⟨wA,wn,wc⟩⟩)[j]? = some v→wb.drew.cell? ⟨g,i*3+j,none⟩=some v:=fun j v hj hv=>by
       have h1:=hMd.row.cells (g:=g) rfl (i*3+j) v (by rw[Kct Kcc hs i j _ HX.out hj];exact hv)
       have ea:(⟨g,0,none⟩:Addr).add (i*3+j)=⟨g,i*3+j,none⟩:=by
        unfold Addr.add
        split
        ·rename_i h0;simp at h0 ⊢;(try omega)
        ·simp
       rw[ea] at h1;exact h1
      exact ⟨(World.cell?_of_block hs7).trans (hcc 1 _ (by decide) rfl),(World.cell?_of_block hs7).trans (hcc 2 _ (by decide) rfl),hgb7.frozen _,hgb7.frozen _⟩
     have hb1:wb.drew.cell? ⟨p,1,none⟩=some (.slice sA sn sc):=hbpd.cell 1;have hb2:wb.drew.cell? ⟨p,2,none⟩=some (.slice wA wn wc):=hbpd.cell 2;clear hwb hp hbp hMd hbpd hax hN1 hN2 hsm hwd hne hwd6 hlow c0 c1 c2 hglt hsl hgl HM hxl;refine Kcd (fun _=>True) 6 16 (by kernel_rfl) rfl ?_;rw[show Array.replicate 16 false = #[false,false,false,false,false,false,false,false,false,false,false,false,false,false,false,false] from rfl];refine Kaa (i:=0) (d:=some 77) rfl rfl (by kernel_rfl) (by kernel_rfl) (by kernel_rfl) rfl (fun _ _ _ h=>h) (by rfl) (fun w=>by go_simp;try rfl) (fun _=>trivial) ?_;simp only[Act.put,Ja,Jb,Jc];refine Kaa (i:=1) (d:=some 78) rfl rfl (by kernel_rfl) (by kernel_rfl) (by kernel_rfl) rfl (fun _ _ _ h=>h) (by rfl) (fun w=>by go_simp;try rfl) (fun _=>trivial) ?_;simp only[Act.put,Ja,Jb,Jc];refine Kaa (i:=2) (d:=some 79) rfl rfl (by kernel_rfl) (by kernel_rfl) (by kernel_rfl) rfl (fun _ _ _ h=>h) (by rfl) (fun w=>by go_simp;try rfl) (fun _=>trivial) ?_;simp only[Act.put,Ja,Jb,Jc];refine Kaa (i:=3) (d:=some 80) rfl rfl (by kernel_rfl) (by kernel_rfl) (by kernel_rfl) rfl (fun _ _ _ h=>h) (by rfl) (fun w=>by go_simp;try rfl) (fun _=>trivial) ?_;simp only[Act.put,Ja,Jb,Jc];refine Kaa (i:=4) (d:=some 81) rfl rfl (by kernel_rfl) (by kernel_rfl) (by kernel_rfl) rfl (fun _ _ _ h=>h) (by rfl) (fun w=>by go_simp;try rfl) (fun _=>trivial) ?_;simp only[Act.put,Ja,Jb,Jc];refine Kaa (i:=7) (d:=some 84) rfl rfl (by kernel_rfl) (by kernel_rfl) (by kernel_rfl) rfl (fun _ _ _ h=>h) (by rfl) (fun w=>by go_simp;try rfl) (fun _=>trivial) ?_;simp only[Act.put,Ja,Jb,Jc];refine Kfg (i:=5) (j:=8) (by kernel_rfl) rfl rfl rfl rfl ?_ ?_
     ·refine Oper.wp_ran (d:=some 82) (w':=wb.drew) (v:=.slice sA sn sc) rfl (by go_simp;try rfl) ?_;refine ⟨fun _=>trivial,?_⟩;simp only[Act.put,Ja,Jb,Jc];refine Kfg (i:=6) (j:=8) (by kernel_rfl) rfl rfl rfl rfl ?_ ?_
      ·refine Oper.wp_called (d:=some 83) (g:=62) (args:=#[.slice sA sn sc,.func (.func 63) #[] #[]]) rfl (by go_simp;try rfl) HCS.out ?_;rintro u1 w6 hN1;refine ⟨fun _=>trivial,?_⟩;simp only[Act.put,Ja,Jb,Jc];have h62:=HP6.out u1 w6 hN1;refine Kac (i:=8) (by kernel_rfl) rfl rfl ?_;refine Oper.wp_ran (d:=some 85) (w':=w6) (v:=.slice wA wn wc) rfl (by go_simp;try rfl) ?_;refine ⟨fun _=>trivial,?_⟩;simp only[Act.put,Ja,Jb,Jc];refine Kac (i:=9) (by kernel_rfl) rfl rfl ?_;refine Oper.wp_called (d:=some 86) (g:=64) (args:=#[.slice wA wn wc,.func (.func 65) #[] #[]]) rfl (by go_simp;try rfl) (HCW.out u1 w6 hN1) ?_;rintro u2 w7 hN2;refine ⟨fun _=>trivial,?_⟩;simp only[Act.put,Ja,Jb,Jc];obtain ⟨A1,n1,c1,rfl⟩:=HU1.out u1 w6 hN1;obtain ⟨A2,n2,c2,rfl⟩:=HU2.out w6 u2 w7 hN2;have hput:=HFIN.out A1 n1 c1 w6 A2 n2 c2 w7 hN1 hN2;obtain ⟨hce1,hce2,hfr1,hfr2⟩:=HCE.out _ w6 _ w7 hN1 hN2;have HPT:=Jh hput;clear hput hN1 hN2;refine Kaa (i:=10) (d:=some 87) rfl rfl (by kernel_rfl) (by kernel_rfl) (by kernel_rfl) rfl (fun _ _ _ h=>h) (by rfl) (fun w=>by go_simp;try rfl) (fun _=>trivial) ?_;simp only[Act.put,Ja,Jb,Jc];refine Kaa (i:=11) (d:=some 88) rfl rfl (by kernel_rfl) (by kernel_rfl) (by kernel_rfl) rfl (fun _ _ _ h=>h) (by rfl) (fun w=>by go_simp;try rfl) (fun _=>trivial) ?_;simp only[Act.put,Ja,Jb,Jc];refine Kac (i:=12) (by kernel_rfl) rfl rfl ?_;refine Oper.wp_skipped (w':=w7.setCell ⟨g,i*3+1,none⟩ (.slice A1 n1 c1)) rfl (by go_simp;try rfl) ?_;refine ⟨fun _=>trivial,?_⟩;simp only[Act.put,Ja,Jb,Jc];refine Kaa (i:=13) (d:=some 89) rfl rfl (by kernel_rfl) (by kernel_rfl) (by kernel_rfl) rfl (fun _ _ _ h=>h) (by rfl) (fun w=>by go_simp;try rfl) (fun _=>trivial) ?_;simp only[Act.put,Ja,Jb,Jc];refine Kaa (i:=14) (d:=some 90) rfl rfl (by kernel_rfl) (by kernel_rfl) (by kernel_rfl) rfl (fun _ _ _ h=>h) (by rfl) (fun w=>by go_simp;try rfl) (fun _=>trivial) ?_;simp only[Act.put,Ja,Jb,Jc];refine Kac (i:=15) (by kernel_rfl) rfl rfl ?_;have hce3:(w7.setCell ⟨g,i*3+1,none⟩ (.slice A1 n1 c1)).cell? ⟨g,i*3+2,none⟩=some (.slice wA wn wc):=by rw[World.cell?_setCell_other _ _ _ _ (by simp)];exact hce2
       have hfr3:(w7.setCell ⟨g,i*3+1,none⟩ (.slice A1 n1 c1)).frozen? ⟨g,i*3+2,none⟩=false:=by rw[World.frozen?_setCell];exact hfr2
       refine Oper.wp_skipped (w':=(w7.setCell ⟨g,i*3+1,none⟩ (.slice A1 n1 c1)).setCell ⟨g,i*3+2,none⟩ (.slice A2 n2 c2)) rfl (by go_simp;try rfl) ?_;refine ⟨fun _=>trivial,?_⟩;refine Kbh (by kernel_rfl) ?_ _;clear hce1 hce2 hfr1 hfr2 hce3 hfr3;generalize hs.set i ⟨xl,⟨A1,n1,c1⟩,⟨A2,n2,c2⟩⟩=hsn at HPT;clear HCS HCW HP6 HU1 HU2 HFIN HCE;go_wp2_with fail
       go_roundg (m - (i+1))
       case measure=>omega
       case rel=>exact ⟨i+1,hsn,by first | rfl | go_num,by omega,HPT⟩
      ·refine Oper.wp_ran (d:=some 85) (w':=wb.drew) (v:=.slice wA wn wc) rfl (by go_simp;try rfl) ?_;refine ⟨fun _=>trivial,?_⟩;simp only[Act.put,Ja,Jb,Jc];refine Kac (i:=6) (by kernel_rfl) rfl rfl ?_;refine Oper.wp_called (d:=some 83) (g:=62) (args:=#[.slice sA sn sc,.func (.func 63) #[] #[]]) rfl (by go_simp;try rfl) HCS.out ?_;rintro u1 w6 hN1;refine ⟨fun _=>trivial,?_⟩;simp only[Act.put,Ja,Jb,Jc];have h62:=HP6.out u1 w6 hN1;refine Kac (i:=9) (by kernel_rfl) rfl rfl ?_;refine Oper.wp_called (d:=some 86) (g:=64) (args:=#[.slice wA wn wc,.func (.func 65) #[] #[]]) rfl (by go_simp;try rfl) (HCW.out u1 w6 hN1) ?_;rintro u2 w7 hN2;refine ⟨fun _=>trivial,?_⟩;simp only[Act.put,Ja,Jb,Jc];obtain ⟨A1,n1,c1,rfl⟩:=HU1.out u1 w6 hN1;obtain ⟨A2,n2,c2,rfl⟩:=HU2.out w6 u2 w7 hN2;have hput:=HFIN.out A1 n1 c1 w6 A2 n2 c2 w7 hN1 hN2;obtain ⟨hce1,hce2,hfr1,hfr2⟩:=HCE.out _ w6 _ w7 hN1 hN2;have HPT:=Jh hput;clear hput hN1 hN2;refine Kaa (i:=10) (d:=some 87) rfl rfl (by kernel_rfl) (by kernel_rfl) (by kernel_rfl) rfl (fun _ _ _ h=>h) (by rfl) (fun w=>by go_simp;try rfl) (fun _=>trivial) ?_;simp only[Act.put,Ja,Jb,Jc];refine Kaa (i:=11) (d:=some 88) rfl rfl (by kernel_rfl) (by kernel_rfl) (by kernel_rfl) rfl (fun _ _ _ h=>h) (by rfl) (fun w=>by go_simp;try rfl) (fun _=>trivial) ?_;simp only[Act.put,Ja,Jb,Jc];refine Kac (i:=12) (by kernel_rfl) rfl rfl ?_;refine Oper.wp_skipped (w':=w7.setCell ⟨g,i*3+1,none⟩ (.slice A1 n1 c1)) rfl (by go_simp;try rfl) ?_;refine ⟨fun _=>trivial,?_⟩;simp only[Act.put,Ja,Jb,Jc];refine Kaa (i:=13) (d:=some 89) rfl rfl (by kernel_rfl) (by kernel_rfl) (by kernel_rfl) rfl (fun _ _ _ h=>h) (by rfl) (fun w=>by go_simp;try rfl) (fun _=>trivial) ?_;simp only[Act.put,Ja,Jb,Jc];refine Kaa (i:=14) (d:=some 90) rfl rfl (by kernel_rfl) (by kernel_rfl) (by kernel_rfl) rfl (fun _ _ _ h=>h) (by rfl) (fun w=>by go_simp;try rfl) (fun _=>trivial) ?_;simp only[Act.put,Ja,Jb,Jc];refine Kac (i:=15) (by kernel_rfl) rfl rfl ?_;have hce3:(w7.setCell ⟨g,i*3+1,none⟩ (.slice A1 n1 c1)).cell? ⟨g,i*3+2,none⟩=some (.slice wA wn wc):=by rw[World.cell?_setCell_other _ _ _ _ (by simp)];exact hce2
       have hfr3:(w7.setCell ⟨g,i*3+1,none⟩ (.slice A1 n1 c1)).frozen? ⟨g,i*3+2,none⟩=false:=by rw[World.frozen?_setCell];exact hfr2
       refine Oper.wp_skipped (w':=(w7.setCell ⟨g,i*3+1,none⟩ (.slice A1 n1 c1)).setCell ⟨g,i*3+2,none⟩ (.slice A2 n2 c2)) rfl (by go_simp;try rfl) ?_;refine ⟨fun _=>trivial,?_⟩;refine Kbh (by kernel_rfl) ?_ _;clear hce1 hce2 hfr1 hfr2 hce3 hfr3;generalize hs.set i ⟨xl,⟨A1,n1,c1⟩,⟨A2,n2,c2⟩⟩=hsn at HPT;clear HCS HCW HP6 HU1 HU2 HFIN HCE;go_wp2_with fail
       go_roundg (m - (i+1))
       case measure=>omega
       case rel=>exact ⟨i+1,hsn,by first | rfl | go_num,by omega,HPT⟩
     ·refine Oper.wp_ran (d:=some 85) (w':=wb.drew) (v:=.slice wA wn wc) rfl (by go_simp;try rfl) ?_;refine ⟨fun _=>trivial,?_⟩;simp only[Act.put,Ja,Jb,Jc];refine Kac (i:=5) (by kernel_rfl) rfl rfl ?_;refine Oper.wp_ran (d:=some 82) (w':=wb.drew) (v:=.slice sA sn sc) rfl (by go_simp;try rfl) ?_;refine ⟨fun _=>trivial,?_⟩;simp only[Act.put,Ja,Jb,Jc];refine Kac (i:=6) (by kernel_rfl) rfl rfl ?_;refine Oper.wp_called (d:=some 83) (g:=62) (args:=#[.slice sA sn sc,.func (.func 63) #[] #[]]) rfl (by go_simp;try rfl) HCS.out ?_;rintro u1 w6 hN1;refine ⟨fun _=>trivial,?_⟩;simp only[Act.put,Ja,Jb,Jc];have h62:=HP6.out u1 w6 hN1;refine Kac (i:=9) (by kernel_rfl) rfl rfl ?_;refine Oper.wp_called (d:=some 86) (g:=64) (args:=#[.slice wA wn wc,.func (.func 65) #[] #[]]) rfl (by go_simp;try rfl) (HCW.out u1 w6 hN1) ?_;rintro u2 w7 hN2;refine ⟨fun _=>trivial,?_⟩;simp only[Act.put,Ja,Jb,Jc];obtain ⟨A1,n1,c1,rfl⟩:=HU1.out u1 w6 hN1;obtain ⟨A2,n2,c2,rfl⟩:=HU2.out w6 u2 w7 hN2;have hput:=HFIN.out A1 n1 c1 w6 A2 n2 c2 w7 hN1 hN2;obtain ⟨hce1,hce2,hfr1,hfr2⟩:=HCE.out _ w6 _ w7 hN1 hN2;have HPT:=Jh hput;clear hput hN1 hN2;refine Kaa (i:=10) (d:=some 87) rfl rfl (by kernel_rfl) (by kernel_rfl) (by kernel_rfl) rfl (fun _ _ _ h=>h) (by rfl) (fun w=>by go_simp;try rfl) (fun _=>trivial) ?_;simp only[Act.put,Ja,Jb,Jc];refine Kaa (i:=11) (d:=some 88) rfl rfl (by kernel_rfl) (by kernel_rfl) (by kernel_rfl) rfl (fun _ _ _ h=>h) (by rfl) (fun w=>by go_simp;try rfl) (fun _=>trivial) ?_;simp only[Act.put,Ja,Jb,Jc];refine Kac (i:=12) (by kernel_rfl) rfl rfl ?_;refine Oper.wp_skipped (w':=w7.setCell ⟨g,i*3+1,none⟩ (.slice A1 n1 c1)) rfl (by go_simp;try rfl) ?_;refine ⟨fun _=>trivial,?_⟩;simp only[Act.put,Ja,Jb,Jc];refine Kaa (i:=13) (d:=some 89) rfl rfl (by kernel_rfl) (by kernel_rfl) (by kernel_rfl) rfl (fun _ _ _ h=>h) (by rfl) (fun w=>by go_simp;try rfl) (fun _=>trivial) ?_;simp only[Act.put,Ja,Jb,Jc];refine Kaa (i:=14) (d:=some 90) rfl rfl (by kernel_rfl) (by kernel_rfl) (by kernel_rfl) rfl (fun _ _ _ h=>h) (by rfl) (fun w=>by go_simp;try rfl) (fun _=>trivial) ?_;simp only[Act.put,Ja,Jb,Jc];refine Kac (i:=15) (by kernel_rfl) rfl rfl ?_;have hce3:(w7.setCell ⟨g,i*3+1,none⟩ (.slice A1 n1 c1)).cell? ⟨g,i*3+2,none⟩=some (.slice wA wn wc):=by rw[World.cell?_setCell_other _ _ _ _ (by simp)];exact hce2
      have hfr3:(w7.setCell ⟨g,i*3+1,none⟩ (.slice A1 n1 c1)).frozen? ⟨g,i*3+2,none⟩=false:=by rw[World.frozen?_setCell];exact hfr2
      refine Oper.wp_skipped (w':=(w7.setCell ⟨g,i*3+1,none⟩ (.slice A1 n1 c1)).setCell ⟨g,i*3+2,none⟩ (.slice A2 n2 c2)) rfl (by go_simp;try rfl) ?_;refine ⟨fun _=>trivial,?_⟩;refine Kbh (by kernel_rfl) ?_ _;clear hce1 hce2 hfr1 hfr2 hce3 hfr3;generalize hs.set i ⟨xl,⟨A1,n1,c1⟩,⟨A2,n2,c2⟩⟩=hsn at HPT;clear HCS HCW HP6 HU1 HU2 HFIN HCE;go_wp2_with fail
      go_roundg (m - (i+1))
      case measure=>omega
      case rel=>exact ⟨i+1,hsn,by first | rfl | go_num,by omega,HPT⟩
    ·have hlz:¬(i:Int) < (m:Int):=by omega
     have hM:MSt w0 w2 wr (.slice A4 m cV) hs (gs.map Kay):=by
      have h:=HM.out;rw[List.take_of_length_le (by rw[HGL.out];exact hge),List.drop_of_length_le (by rw[HGL.out];exact hge),List.append_nil] at h;exact h
     have HDEL:Hid (Calls Tryz.prog 66 #[.slice A4 m cV,.func (.func 67) #[] #[]] wr fun e w'=>∃A' n' c',e = .returned (.slice A' n' c')∧Sers w' A' n' (Keo (ys.map MS.s))∧n'≤c'∧Below w0.heap.size w0 w'):=by
      have hmo:Keo (ys.map MS.s)=(gs.map Kay).filter Kba:=by unfold Keo;rw[HGS.out]
      rcases hM.row.2 with ⟨e0,h0⟩ | ⟨g,cap,cur,e0,_⟩
      ·injection e0 with e1 e2 e3;subst e1 e2 e3;refine (Kqu wr).mono ?_;rintro e w' ⟨rfl,rfl⟩;have hgn:gs.map Kay = []:=List.eq_nil_of_length_eq_zero (by rw[←hM.rows.len,h0]);refine ⟨none,0,0,rfl,?_,Nat.le_refl _,hM.b0⟩;rw[hmo,hgn];exact Sers.nil _
      ·injection e0 with e1 e2 e3;subst e1 e3;have hlt:=hM.row.lt g rfl;have hrow:wr.ownsRow w2.heap.size 58 3 (.slice (some ⟨g,0,none⟩) m cV) m (hs.flatMap encH3):=by have:=hM.row;rw[←e2] at this;exact this
       have hsl:hs.length=m:=e2.symm;have R:RowK encH3 3 wr g 0 hs.toArray:=⟨Kcc,Kop,Key Kcc (by decide) hrow hsl,hlt.2⟩
       have hP:=Pairs.of (R:=fun (h:Hd3) (s:Ser)=>SerAt wr h s∧h.s.n=s.samples.length∧h.w.n=s.windows.length) hM.rows.len (fun i h hi=>by
        have a:=hM.rows.at_ i h hi;have b:=hM.rows.sers i h hi
        exact ⟨b,b.s.len.symm,b.w.len.symm⟩)
       have hbig:∀i,i < (gs.map Kay).length→(gs.map Kay)[i]!.samples.length≤137438953472∧(gs.map Kay)[i]!.windows.length≤137438953472:=fun i hi=>by
        have hi2:i < gs.length:=by simpa using hi
        rw[getElem!_pos _ i hi,List.getElem_map,←getElem!_pos gs i hi2];have h1:=Kvo gs[i]!;have h2:=Keg hi2;have:=HSUM.out;omega
       have hx:∀h∈hs,szH h:=fun h hh=>by
        obtain ⟨i,hi⟩:=List.mem_iff_getElem?.1 hh;obtain ⟨_,h1,h2⟩:=hP.at_ i h hi;have h3:=hbig i (by rw[←hM.rows.len];exact (List.getElem?_eq_some_iff.1 hi).1);unfold szH;omega
       have hcap:m≤cV:=by
        rcases hrow.2 with ⟨e,_⟩ | ⟨g',cap',cur',e,_,_,h3,_⟩
        ·cases e
        ·injection e with _ _ e4;subst e4;exact h3
       refine (Ksf (cap:=cV) R (by simpa using hsl) (by omega) hs hx wr hsl hcap (SWK.start R.hH)).mono ?_;rintro e w' ⟨rfl,zs,z1,z2,z3⟩;have hby:=SWK.by z3
       refine ⟨_,_,_,rfl,?_,?_,hM.b0.grown hby hM.b0.size (fun k hk=>by injection hk with hk;have:=HB02.out;omega)⟩
       ·have hle:(hs.filter goodH).length≤m:=by rw[←hsl];exact List.length_filter_le _ _
        obtain ⟨mm,os,rfl⟩:=z3;have ho:=Kfd Kcc (by decide) hrow hsl zs.toArray (by simpa using z1) mm os;have h4:=Kmj ho hle
        rw[show (zs.toArray.toList.flatMap encH3).take ((hs.filter goodH).length*3)=(hs.filter goodH).flatMap encH3 by
         have hzz:zs=zs.take (hs.filter goodH).length++zs.drop (hs.filter goodH).length:=(List.take_append_drop _ _).symm;rw[show zs.toArray.toList=zs by simp]
         conv=>lhs;rw[hzz]
         rw[List.flatMap_append,List.take_left' (by rw[Kdd Kcc,z2]),z2]] at h4
        obtain ⟨A9,c9,e9,hE,_,_⟩:=Elems.of_own (xs:=hs.filter goodH) (fun x _=>Kcc x) rfl h4 rfl;injection e9 with e9 _ _;rw[←e9] at hE
        have hrf:=hM.rows.frame hby (fun r e=>by
         injection e with e;subst e;obtain ⟨cu,hcu⟩:=Kax hrow (r:=g) rfl
         exact ⟨_,cu,hcu,by decide,by decide,by decide⟩)
        have hP2:=Pairs.of (R:=fun (h:Hd3) (s:Ser)=>SerAt (sortWorldK encH3 3 wr g 0 mm zs.toArray os) h s∧h.s.n=s.samples.length∧h.w.n=s.windows.length) hrf.len (fun i h hi=>by
         have b:=hrf.sers i h hi
         exact ⟨b,b.s.len.symm,b.w.len.symm⟩)
        have hP3:=hP2.filter (f:=goodH) (g:=Kba) (fun h s ⟨_,h1,h2⟩=>by unfold goodH Kba;rw[h1,h2]);rw[hmo];exact ⟨hs.filter goodH,hE,hP3.len.symm,fun i h hi=>(hP3.at_ i h hi).1⟩
       ·exact Nat.le_trans (by rw[←hsl];exact List.length_filter_le _ _) hcap
     have HFST:Hid (Stab (ltOf cfM) xs ys):=HST.out;clear hM HM;go_wp2_with fail
     refine HDEL.out.mono ?_;rintro e9 w9 ⟨A',n',c',rfl,h1,h2,h3⟩;have HR:=Jh (And.intro h1 (And.intro h2 h3));clear h1 h2 h3;go_wp2_with fail
     go_ret
     exact ⟨ys,A',n',c',rfl,HFST.out,HR.out.1,HR.out.2.1,HR.out.2.2⟩
end
end
end Go.Proofs.YtdoiekknhnbepaaGreatDoor
