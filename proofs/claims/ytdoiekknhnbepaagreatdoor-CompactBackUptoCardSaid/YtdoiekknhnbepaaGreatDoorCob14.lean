/- Merged (what the claim wants of): MrgKept, MrgClip, MrgStrip, MrgLaw4, MrgLaw5, IMap. -/
import Derived.Test.YtdoiekknhnbepaaGreatDoorCob13
import Derived.Laws.EntriesVeiled
import Derived.Test.YtdoiekknhnbepaaGreatDoorCob05
import Derived.Test.YtdoiekknhnbepaaGreatDoorCob03
import Derived.Test.YtdoiekknhnbepaaGreatDoorCob01
import Derived.Maps.RangeWalk
import Derived.Maps.OwnSet
import Derived.Maps.Views
import Derived.Sort.OwnSortedInts
import Derived.Maps.Keyed
set_option linter.unusedVariables false
set_option linter.unusedSimpArgs false
set_option maxRecDepth 100000
set_option maxHeartbeats 8000000
namespace Go.Proofs.YtdoiekknhnbepaaGreatDoor
section
open Go.Shelf Go.RowKit Go.Lib Go.Sort
open Lib renaming hid → Jh
attribute [local go_sem ↓] Go.wp_at_zero Go.wp_at_succ
attribute [local go_sem] Later.cell
section
set_option maxHeartbeats 4000000
set_option maxRecDepth 100000
theorem MRows.snoc2 {B:Nat} {w1 w:World} {hs:List Hd3} {gs:List Ser} (m:MRows B w1 hs gs) (hb:Below w1.heap.size w1 w) {h:Hd3} {s:Ser} (hm:MRow B w h s) (h1:∀b,(spM h).ownBlock=some b→w1.heap.size≤b) (h2:∀b,(wpM h).ownBlock=some b→w1.heap.size≤b):MRows B w (hs ++ [h]) (gs ++ [s]):=by
 have mw:=m.below hb
 have hcase:∀(i:Nat) (x:Hd3),(hs ++ [h])[i]? = some x→(hs[i]? = some x∧i < hs.length)∨(x=h∧i=hs.length):=fun i x hi=>by
  rcases Nat.lt_or_ge i hs.length with hl | hl
  ·rw[List.getElem?_append_left hl] at hi;exact .inl ⟨hi,hl⟩
  ·rw[List.getElem?_append_right hl] at hi;rcases Nat.eq_zero_or_pos (i - hs.length) with h0 | h0
   ·rw[h0] at hi;exact .inr ⟨by simpa using hi.symm,by omega⟩
   ·rw[List.getElem?_eq_none (by simp;omega)] at hi;cases hi
 have far:∀(i:Nat) (x:Hd3),hs[i]? = some x→((spM x).ownBlock=none∨(spM x).ownBlock≠(spM h).ownBlock)∧((wpM x).ownBlock=none∨(wpM x).ownBlock≠(wpM h).ownBlock):=fun i x hi=>by
  have a:=m.at_ i x hi;refine ⟨?_,?_⟩
  ·cases hq:(spM x).ownBlock with
   | none=>exact .inl rfl
   | some c=>
         refine .inr fun e=>?_
         have:=h1 c e.symm;have:=(a.sm.lt c hq).2;omega
  ·cases hq:(wpM x).ownBlock with
   | none=>exact .inl rfl
   | some c=>
         refine .inr fun e=>?_
         have:=h2 c e.symm;have:=(a.wd.lt c hq).2;omega
 have flip:∀{a b:Option Nat},(a=none∨a≠b)→(b=none∨b≠a):=fun {a b} q=>by
  cases b with
  | none=>exact .inl rfl
  | some c=>
        refine .inr fun e=>?_
        rcases q with q | q
        ·rw[q] at e;cases e
        ·exact q e.symm
 refine ⟨by simp[m.len],fun i x hi=>?_,fun i j x y hi hj hij=>?_⟩
 ·rcases hcase i x hi with ⟨hi,hl⟩ | ⟨e1,e2⟩
  ·rw[show (gs ++ [s])[i]! = gs[i]! by rw[getElem!_pos _ i (by have:=m.len;simp;omega),getElem!_pos gs i (by have:=m.len;omega),List.getElem_append_left]];exact mw.at_ i x hi
  ·rw[e1,e2,show (gs ++ [s])[hs.length]! = s by rw[m.len];simp];exact hm
 ·rcases hcase i x hi with ⟨hi,hl⟩ | ⟨e1,e2⟩
  ·rcases hcase j y hj with ⟨hj,hl2⟩ | ⟨e3,e4⟩
   ·exact m.sep i j x y hi hj hij
   ·rw[e3];exact far i x hi
  ·rcases hcase j y hj with ⟨hj,hl2⟩ | ⟨e3,e4⟩
   ·rw[e1];have f:=far j y hj;exact ⟨flip f.1,flip f.2⟩
   ·omega
def keepS (fS:Ser→Smp→Bool) (fW:Ser→Wnd→Bool) (s:Ser):Ser:=⟨s.labels,s.samples.filter (fS s),s.windows.filter (fW s)⟩
def keptF (fS:Ser→Smp→Bool) (fW:Ser→Wnd→Bool) (l:List Ser):List Ser:=(l.map (keepS fS fW)).filter Kba
def Kif {β : Type} (P:Program) (g:Nat) (cb:Array Value) (enc:β→List Value) (f:Ser→β→Bool) (hs:List Hd3) (ss:List Ser) (of:Ser→List β) (w0:World):Prop:=
 ∀W,Below w0.heap.size w0 W→∀(i:Nat) (h:Hd3) (s:Ser),hs[i]? = some h→ss[i]! = s→∀y,y∈of s→Calls P g (#[.agg (encH3 h).toArray,.agg (enc y).toArray]++cb) W fun e w'=>e = .returned (.bool (f s y))∧Grown W w'
def Kbi (w:World) (B:Nat) (A:Option Addr) (n c:Nat) (L:List Ser):Prop:=
 ∃hs:List Hd3,hs.length=n∧w.ownsRow B 58 3 (.slice A n c) n (hs.flatMap encH3)∧MRows B w hs L
theorem Kbi.sers {w:World} {B:Nat} {A:Option Addr} {n c:Nat} {L:List Ser} (h:Kbi w B A n c L):Sers w A n L∧n≤c:=by
 obtain ⟨hs,rfl,h1,h2⟩:=h;obtain ⟨A9,c9,e9,hE,_,hcc⟩:=Elems.of_own (xs:=hs) (fun x _=>Kcc x) rfl h1 rfl;injection e9 with e9 _ e8;subst e9 e8;exact ⟨⟨hs,hE,h2.len.symm,fun i h hi=>h2.sers i h hi⟩,hcc⟩
theorem Kbi.grown {w w':World} {B:Nat} {A:Option Addr} {n c:Nat} {L:List Ser} {row:Option Nat} (h:Kbi w B A n c L) (hg:w.grownBy w' row)
  (hrow:∀r,row=some r→∃t cs,Blk w r t cs∧t≠58∧t≠99∧t≠102∧t≠135):Kbi w' B A n c L:=by
 obtain ⟨hs,h0,h1,h2⟩:=h;refine ⟨hs,h0,Kck h1 hg.size fun k hk=>hg.block k (h1.lt k hk).2 fun e=>?_,h2.frame hg fun r e=>?_⟩
 ·obtain ⟨t,cs,hb,ht,_⟩:=hrow k e.symm;exact Kag hb h1 ht hk.symm
 ·obtain ⟨t,cs,hb,_,ht⟩:=hrow r e;exact ⟨t,cs,hb,ht⟩
theorem MRows.mono {B B':Nat} {w:World} {hs:List Hd3} {gs:List Ser} (m:MRows B w hs gs) (hB:B'≤B):MRows B' w hs gs:=
 ⟨m.len,fun i h hi=>⟨(m.at_ i h hi).lb.imp id fun x=>Kdn x hB,(m.at_ i h hi).ln,(m.at_ i h hi).lc,Kdn (m.at_ i h hi).sm hB,Kdn (m.at_ i h hi).wd hB⟩,m.sep⟩
theorem Kbi.mono {w:World} {B B':Nat} {A:Option Addr} {n c:Nat} {L:List Ser} (h:Kbi w B A n c L) (hB:B'≤B):Kbi w B' A n c L:=by
 obtain ⟨hs,h0,h1,h2⟩:=h;exact ⟨hs,h0,Kdn h1 hB,h2.mono hB⟩
theorem Kbi.below {w w':World} {B:Nat} {A:Option Addr} {n c:Nat} {L:List Ser} (h:Kbi w B A n c L) (hb:Below w.heap.size w w'):Kbi w' B A n c L:=
 h.grown (row:=none) ⟨hb.os,hb.tape,hb.output,hb.size,fun k hk _=>hb.block k hk⟩ fun r e=>by cases e
theorem Klj {w0:World} (fS:Ser→Smp→Bool) (fW:Ser→Wnd→Bool) (gS gW:Nat) (cS cW:Array Value) (A:Option Addr) (n c:Nat) (hs0:List Hd3) (ss:List Ser)
  (egS:∀args w,(callFunc gS args).run Tryz.prog w = .ok (.enter gS args) w) (egW:∀args w,(callFunc gW args).run Tryz.prog w = .ok (.enter gW args) w)
  (hE:Elems w0 w0.heap.size 3 encH3 A n hs0) (hss:ss.length=n) (hat:∀(i:Nat) (h:Hd3),hs0[i]? = some h→SerAt w0 h ss[i]!)
  (hz:∀s∈ss,s.labels.length≤1099511627776∧s.samples.length≤137438953472∧s.windows.length≤137438953472) (hn:n≤274877906944)
  (hS:Kif Tryz.prog gS cS Kad fS hs0 ss Ser.samples w0) (hW:Kif Tryz.prog gW cW Kai fW hs0 ss Ser.windows w0) :
  Calls Tryz.prog 54 #[.slice A n c,.func (.func gS) #[] cS,.func (.func gW) #[] cW] w0 fun e w'=>∃(A':Option Addr) (n' c':Nat),e = .returned (.slice A' n' c')∧Kbi w' w0.heap.size A' n' c' (keptF fS fW ss)∧n'≤c'∧Below w0.heap.size w0 w':=by
 obtain ⟨ib,hib,hz0,hz1,hz2⟩:=info_parts Kfz;have HE:=Jh hE;have HSS:=Jh hss;have HAT:=Jh hat;have HZ:=Jh hz;have HFS:Hid (∀W,Below w0.heap.size w0 W→∀(i:Nat) (h:Hd3) (s:Ser),hs0[i]? = some h→ss[i]! = s→∀y,y∈s.samples→Calls Tryz.prog gS (#[.agg (encH3 h).toArray,.agg (Kad y).toArray]++cS) W fun e w'=>e = .returned (.bool (fS s y))∧Grown W w'):=hS;have HFW:Hid (∀W,Below w0.heap.size w0 W→∀(i:Nat) (h:Hd3) (s:Ser),hs0[i]? = some h→ss[i]! = s→∀y,y∈s.windows→Calls Tryz.prog gW (#[.agg (encH3 h).toArray,.agg (Kai y).toArray]++cW) W fun e w'=>e = .returned (.bool (fW s y))∧Grown W w'):=hW;have M0:Hid (MSt w0 w0 w0 (.slice none 0 0) [] (((ss.take 0).map (keepS fS fW)).filter Kba)):=⟨Below.refl _ _,Below.refl _ _,World.ownsRow_nil _ _ _ _,⟨rfl,fun i h hi=>by simp at hi,fun i j h h' hi=>by simp at hi⟩⟩;clear hE hss hat hz hS hW;go_enter Tryz.func54,Tryz.ntmps54
 go_wp2
 go_loopg [7,17] n (fun kx s7 s17 wr=>∃(i:Nat) (hs:List Hd3),s17 = .int .i64 (i:Int)∧i+kx=n∧Hid (MSt w0 w0 wr s7 hs (((ss.take i).map (keepS fS fW)).filter Kba)))
 case atStart=>exact ⟨0,[],rfl,by omega,M0⟩
 case round=>
  clear M0;obtain ⟨i,hs,rfl,hi,HM⟩:=hrel;rcases Nat.lt_or_ge i n with hlt | hge
  ·have hlz:(i:Int) < (n:Int):=by omega
   obtain ⟨A4,cV,hv4⟩:=Kan HM.out.row;obtain ⟨m,hm⟩:∃m,m=hs.length:=⟨_,rfl⟩;rw[←hm] at hv4;subst hv4;have HML:Hid (hs.length=m):=hm.symm;obtain ⟨gs,hgs⟩:∃q,q=((ss.take i).map (keepS fS fW)).filter Kba:=⟨_,rfl⟩;rw[←hgs] at HM;have HGS:Hid (gs=((ss.take i).map (keepS fS fW)).filter Kba):=hgs
   have hmz:m≤274877906944:=by
    have h1:=HM.out.rows.len
    have h2:gs.length≤i:=by
     rw[hgs];refine Nat.le_trans (List.length_filter_le _ _) ?_;rw[List.length_map,List.length_take];omega
    omega
   clear hm hgs;obtain ⟨b0,off0,hA0,hb0,hc0⟩:=HE.out.2 (by omega);have hl0:=HE.out.len;obtain ⟨h,hh⟩:∃h,hs0[i]? = some h:=⟨hs0[i]'(by omega),List.getElem?_eq_getElem _⟩;obtain ⟨s,hs_⟩:∃s,ss[i]! = s:=⟨_,rfl⟩;have HHI:Hid (hs0[i]? = some h):=hh;have HSI:Hid (ss[i]! = s):=hs_;have hsat:=HAT.out i h hh;rw[hs_] at hsat;have hmem:s∈ss:=by rw[←hs_,getElem!_pos ss i (by rw[HSS.out];exact hlt)];exact List.getElem_mem _
   have HZS:=Jh (HZ.out s hmem);have hcell:∀r v,r < 3→(encH3 h)[r]? = some v→wr.cell? ⟨b0,off0+i*3+r,none⟩=some v:=fun r v _ hv=>(HM.out.b0.cell (p:=⟨b0,off0+i*3+r,none⟩) hb0).trans (hc0 i h hh r v hv)
   have hbl0:b0 < wr.heap.size:=Nat.lt_of_lt_of_le hb0 HM.out.b0.size;subst hA0;obtain ⟨lA,hlA⟩:∃q,q=h.l.A:=⟨_,rfl⟩;obtain ⟨ln,hln⟩:∃q,q=h.l.n:=⟨_,rfl⟩;obtain ⟨lc,hlc⟩:∃q,q=h.l.c:=⟨_,rfl⟩;obtain ⟨sA,hsA⟩:∃q,q=h.s.A:=⟨_,rfl⟩;obtain ⟨sn,hsn⟩:∃q,q=h.s.n:=⟨_,rfl⟩;obtain ⟨sc,hsc⟩:∃q,q=h.s.c:=⟨_,rfl⟩;obtain ⟨wA,hwA⟩:∃q,q=h.w.A:=⟨_,rfl⟩;obtain ⟨wn,hwn⟩:∃q,q=h.w.n:=⟨_,rfl⟩;obtain ⟨wc,hwc⟩:∃q,q=h.w.c:=⟨_,rfl⟩;have HHV:Hid ((encH3 h).toArray = #[.slice lA ln lc,.slice sA sn sc,.slice wA wn wc]):=by show _=_;rw[hlA,hln,hlc,hsA,hsn,hsc,hwA,hwn,hwc];rfl
   have k0:wr.cell? ⟨b0,off0+i*3,none⟩=some (.slice lA ln lc):=by rw[hlA,hln,hlc];exact hcell 0 _ (by decide) rfl
   have k1:wr.cell? ⟨b0,off0+i*3+1,none⟩=some (.slice sA sn sc):=by rw[hsA,hsn,hsc];exact hcell 1 _ (by decide) rfl
   have k2:wr.cell? ⟨b0,off0+i*3+2,none⟩=some (.slice wA wn wc):=by rw[hwA,hwn,hwc];exact hcell 2 _ (by decide) rfl
   have HES:Hid (Elems w0 w0.heap.size 2 Kad sA sn s.samples):=by show Elems _ _ _ _ _ _ _;rw[hsA,hsn];exact hsat.s
   have HEW:Hid (Elems w0 w0.heap.size 6 Kai wA wn s.windows):=by show Elems _ _ _ _ _ _ _;rw[hwA,hwn];exact hsat.w
   have HEL:Hid (Elems w0 w0.heap.size 2 encLb lA ln s.labels):=by show Elems _ _ _ _ _ _ _;rw[hlA,hln];exact hsat.l
   have HLIM:Hid (sn≤137438953472∧wn≤137438953472∧ln≤1099511627776):=by
    have h1:=HES.out.len;have h2:=HEW.out.len;have h3:=HEL.out.len;obtain ⟨z1,z2,z3⟩:=HZS.out;exact ⟨by omega,by omega,by omega⟩
   have hlim:=HLIM.out;clear hc0 hl0 hh hs_ hsat hmem hcell hb0 hlA hln hlc hsA hsn hsc hwA hwn hwc;go_upto_region 5 with fail
   obtain ⟨wa,hwa⟩:∃x,x=wr.alloc (.cells #[.slice lA ln lc,.slice sA sn sc,.slice wA wn wc] 58):=⟨_,rfl⟩;obtain ⟨p1,hp1⟩:∃p,p=wr.heap.size:=⟨_,rfl⟩;have HPA:Hid (Blk wa p1 58 #[.slice lA ln lc,.slice sA sn sc,.slice wA wn wc]):=by show Blk _ _ _ _;rw[hwa,hp1];exact Blk.new _ _ _
   have HMA:Hid (MSt w0 w0 wa (.slice A4 m cV) hs gs):=by show MSt _ _ _ _ _ _;rw[hwa];exact HM.out.below ((Below.refl _ _).alloc (Nat.le_refl _) _)
   rw[←hwa,←hp1];have l0:=HPA.out.cell 0;simp at l0;have hpa:=HPA.out.lt;have HCL:=Jh (Khc s.labels lA ln lc wa ((HEL.out.below HMA.out.b0).more HMA.out.b0.size) hlim.2.2);clear hwa hp1 HM k0 k1 k2 hbl0;go_wp2_with fail
   refine HCL.out.mono ?_;rintro _ w1 ⟨⟨lA6,lc6,rfl,hlc6,hlab6⟩,hb1⟩;have HM1:Hid (MSt w0 w0 w1 (.slice A4 m cV) hs gs):=HMA.out.below hb1;have HP1:Hid (Blk w1 p1 58 #[.slice lA ln lc,.slice sA sn sc,.slice wA wn wc]):=HPA.out.below hb1 HPA.out.lt;have HLAB:Hid (ln=0∨w1.ownsRow w0.heap.size 99 2 (.slice lA6 ln lc6) ln (s.labels.flatMap encLb)):=hlab6.imp id fun y=>Kdn y HMA.out.b0.size
   have HLC6:Hid (ln≤lc6):=hlc6;have HB0w:Hid (Below w0.heap.size w0 w1):=HM1.out.b0;have HB01:Hid (w0.heap.size≤w1.heap.size):=HM1.out.b0.size;have l1:=HP1.out.cell 1;have l2:=HP1.out.cell 2;simp at l1 l2;have hp1l:=HP1.out.lt;clear hb1 hlab6 hlc6 HMA HPA HCL l0 hpa;go_upto_region 6 with fail
   obtain ⟨wq,hwq⟩:∃x,x=w1.alloc (.cells #[.slice lA6 ln lc6,.slice none 0 0,.slice none 0 0] 58):=⟨_,rfl⟩;obtain ⟨p2,hp2⟩:∃p,p=w1.heap.size:=⟨_,rfl⟩;have HP2:Hid (Blk wq p2 58 #[.slice lA6 ln lc6,.slice none 0 0,.slice none 0 0]):=by show Blk _ _ _ _;rw[hwq,hp2];exact Blk.new _ _ _
   have HB1:Hid (Below w1.heap.size w1 wq):=by show Below _ _ _;rw[hwq];exact (Below.refl _ _).alloc (Nat.le_refl _) _
   have HP2L:Hid (w1.heap.size≤p2):=by show _≤_;omega
   have l1q:wq.cell? ⟨p1,1,none⟩=some (.slice sA sn sc):=(HP1.out.below HB1.out HP1.out.lt).cell 1;have hp1q:p1 < wq.heap.size:=Nat.lt_of_lt_of_le HP1.out.lt HB1.out.size;rw[←hwq,←hp2];clear hwq hp2 l1 l2 hp1l;go_wp2_with fail
   go_loopg [28] sn (fun kx sj wr=>∃(j vn vc:Nat) (vA:Option Addr),sj = .int .i64 (j:Int)∧j+kx=sn∧vn≤j∧Hid (Below w1.heap.size w1 wr)∧Hid (Blk wr p2 58 #[.slice lA6 ln lc6,.slice vA vn vc,.slice none 0 0])∧Hid (wr.ownsRow w1.heap.size 102 2 (.slice vA vn vc) vn (((s.samples.take j).filter (fS s)).flatMap Kad))∧Hid (((s.samples.take j).filter (fS s)).length=vn))
   case atStart=>exact ⟨0,0,0,none,rfl,by omega,by omega,HB1,HP2,(show Hid _ from World.ownsRow_nil _ _ _ _),rfl⟩
   case round=>
    clear HB1 HP2;obtain ⟨j,vn,vc,vA,rfl,hj,hvj,HB1,HP2,HR,HVL⟩:=hrel;rcases Nat.lt_or_ge j sn with hlt | hge
    ·have hlz:(j:Int) < (sn:Int):=by omega
     obtain ⟨b,off,hA,hb,hc⟩:=HES.out.2 (by omega);have hl:=HES.out.len;obtain ⟨y,hy⟩:∃y,s.samples[j]? = some y:=⟨s.samples[j]'(by omega),List.getElem?_eq_getElem _⟩;have hcell:∀r v,r < 2→(Kad y)[r]? = some v→wr.cell? ⟨b,off+j*2+r,none⟩=some v:=fun r v _ hv=>(HB1.out.cell (p:=⟨b,off+j*2+r,none⟩) (Nat.lt_of_lt_of_le hb HB01.out)).trans ((HB0w.out.cell (p:=⟨b,off+j*2+r,none⟩) hb).trans (hc j y hy r v hv))
     have htk:(s.samples.take (j+1)).filter (fS s)=(s.samples.take j).filter (fS s)++(if fS s y=true then [y] else []):=by
      rw[List.take_add_one,hy,List.filter_append];congr 1;simp only[Option.toList,List.filter_cons,List.filter_nil]
     have HTK:Hid ((s.samples.take (j+1)).filter (fS s)=(s.samples.take j).filter (fS s)++(if fS s y=true then [y] else [])):=htk;have HCY:Hid (∀W,Below w1.heap.size w1 W→Calls Tryz.prog gS (#[.agg (encH3 h).toArray,.agg (Kad y).toArray]++cS) W fun e w'=>e = .returned (.bool (fS s y))∧Grown W w'):=fun W hW=>HFS.out W (HB0w.out.trans (hW.mono HB01.out)) i h s HHI.out HSI.out y (List.mem_of_getElem? hy)
     subst hA;obtain ⟨r,hr⟩:∃r,r=fS s y:=⟨_,rfl⟩;rw[←hr] at HCY HTK;obtain ⟨hh,hhh⟩:∃q,q=h:=⟨_,rfl⟩;have HHH:Hid (hh=h):=hhh;obtain ⟨y1,y2⟩:=y
     have HCY2:Hid (∀W,Below w1.heap.size w1 W→Calls Tryz.prog gS (#[.agg #[.slice lA ln lc,.slice (some ⟨b,off,none⟩) sn sc,.slice wA wn wc],.agg #[.int .i64 y1,.int .u64 (y2:Int)]]++cS) W fun e w'=>e = .returned (.bool r)∧Grown W w'):=fun W hW=>by
      have:=HCY.out W hW;rw[HHV.out] at this;exact this
     have k0:wr.cell? ⟨b,off+j*2,none⟩=some (.int .i64 y1):=hcell 0 _ (by decide) rfl;have k1:wr.cell? ⟨b,off+j*2+1,none⟩=some (.int .u64 (y2:Int)):=hcell 1 _ (by decide) rfl;have hbl:b < wr.heap.size:=Nat.lt_of_lt_of_le (Nat.lt_of_lt_of_le hb HB01.out) HB1.out.size;clear hc hl hcell htk hr hhh hy HCY hb;clear hh HHH;go_upto_region 9 with fail
     obtain ⟨wb,hwb⟩:∃x,x=wr.alloc (.cells #[.int .i64 y1,.int .u64 (y2:Int)] 102):=⟨_,rfl⟩;obtain ⟨p3,hp3⟩:∃p3,p3=wr.heap.size:=⟨_,rfl⟩;have hbp3:Blk wb p3 102 #[.int .i64 y1,.int .u64 (y2:Int)]:=by rw[hwb,hp3];exact Blk.new _ _ _
     have hb4:Below wr.heap.size wr wb:=by rw[hwb];exact (Below.refl _ _).alloc (Nat.le_refl _) _
     have HB4:Hid (Below w1.heap.size w1 wb):=HB1.out.trans (hb4.mono HB1.out.size);have HP4:Hid (Blk wb p2 58 #[.slice lA6 ln lc6,.slice vA vn vc,.slice none 0 0]):=HP2.out.below hb4 HP2.out.lt;have HR4:Hid (wb.ownsRow w1.heap.size 102 2 (.slice vA vn vc) vn (((s.samples.take j).filter (fS s)).flatMap Kad)):=Kaq HR.out hb4;have HP31:Hid (Blk wb p3 102 #[.int .i64 y1,.int .u64 (y2:Int)]):=hbp3;have HP1b:Hid (Blk wb p1 58 #[.slice lA ln lc,.slice (some ⟨b,off,none⟩) sn sc,.slice wA wn wc]):=HP1.out.below HB4.out HP1.out.lt;rw[←hwb,←hp3];have q0:=HP31.out.cell 0;have q1:=HP31.out.cell 1;have r0:=HP1b.out.cell 0;have r1:=HP1b.out.cell 1;have r2:=HP1b.out.cell 2;simp at q0 q1 r0 r1 r2;have hpl3:=HP31.out.lt;have hpl1:=HP1b.out.lt;clear hwb hp3 hbp3 hb4 HB1 HP2 HR k0 k1 hbl;go_wp2_with fail
     refine (HCY2.out _ HB4.out).mono ?_;rintro _ w5 ⟨rfl,hg5⟩;have hb5:=hg5.below;have HB5:Hid (Below w1.heap.size w1 w5):=HB4.out.trans (hb5.mono HB4.out.size);have HP5:Hid (Blk w5 p2 58 #[.slice lA6 ln lc6,.slice vA vn vc,.slice none 0 0]):=HP4.out.below hb5 HP4.out.lt;have HR5:Hid (w5.ownsRow w1.heap.size 102 2 (.slice vA vn vc) vn (((s.samples.take j).filter (fS s)).flatMap Kad)):=Kaq HR4.out hb5;have HP35:Hid (Blk w5 p3 102 #[.int .i64 y1,.int .u64 (y2:Int)]):=HP31.out.below hb5 HP31.out.lt;clear hg5 hb5 HB4 HP4 HR4 HP31 HP1b q0 q1 r0 r1 r2 hpl3 hpl1
     cases r with
     | false=>
      have hE:(s.samples.take (j+1)).filter (fS s)=(s.samples.take j).filter (fS s):=by rw[HTK.out];simp
      have HR6:Hid (w5.ownsRow w1.heap.size 102 2 (.slice vA vn vc) vn (((s.samples.take (j+1)).filter (fS s)).flatMap Kad)):=by show World.ownsRow _ _ _ _ _ _ _;rw[hE];exact HR5.out
      have HVL6:Hid (((s.samples.take (j+1)).filter (fS s)).length=vn):=by show _=_;rw[hE];exact HVL.out
      clear hE HR5 HVL HTK;go_wp2_with fail
      go_roundg (sn - (j+1))
      case measure=>omega
      case rel=>exact ⟨j+1,vn,vc,vA,by first | rfl | go_num,by omega,by omega,HB5,HP5,HR6,HVL6⟩
     | true=>
      have hE:(s.samples.take (j+1)).filter (fS s)=(s.samples.take j).filter (fS s) ++ [⟨y1,y2⟩]:=by rw[HTK.out];simp
      have HEE:Hid ((s.samples.take (j+1)).filter (fS s)=(s.samples.take j).filter (fS s) ++ [⟨y1,y2⟩]):=hE;have e0:=HP5.out.cell 1;simp at e0;have q0:=HP35.out.cell 0;have q1:=HP35.out.cell 1;simp at q0 q1;have hpl2:=HP5.out.lt;have hpl3:=HP35.out.lt;obtain ⟨i1,hi1,hy0,hy1,hy2⟩:=info_parts Khg;obtain ⟨w6,hw6⟩:∃y,y=w5.alloc (.cells #[.int .i64 y1,.int .u64 (y2:Int)] 102):=⟨_,rfl⟩;have hb6:Below w5.heap.size w5 w6:=by rw[hw6];exact (Below.refl _ _).alloc (Nat.le_refl _) _
      have hnew6:Blk w6 w5.heap.size 102 #[.int .i64 y1,.int .u64 (y2:Int)]:=by rw[hw6];exact Blk.new _ _ _
      have hrow6:w6.ownsRow w1.heap.size 102 2 (.slice vA vn vc) vn (((s.samples.take j).filter (fS s)).flatMap Kad):=Kaq HR5.out hb6;have HROW6:=Jh hrow6;have HB6:Hid (Below w1.heap.size w1 w6):=HB5.out.trans (hb6.mono HB5.out.size);have HP6:Hid (Blk w6 p2 58 #[.slice lA6 ln lc6,.slice vA vn vc,.slice none 0 0]):=HP5.out.below hb6 HP5.out.lt;have hz6:=HB6.out.size;have hvn:vn≤1099511627776:=by have:=HLIM.out;omega
      clear hE hb6 HR5 HTK HP35;go_wp2_with (at_builtin;(try rw[←hw6]);refine wpList_append_own_at _ rfl _ _ 55 rfl w1.heap.size 102 i1 (.agg #[.int .i64 0,.int .u64 0]) 2 16 Tryz.underlying55 hi1 hy0 hy1 hy2 rfl (by decide) (.slice vA vn vc) vn _ rfl hrow6 ⟨w5.heap.size,0,none⟩ 1 1 [.int .i64 y1,.int .u64 (y2:Int)] rfl rfl (Kav (l:=[.int .i64 y1,.int .u64 (y2:Int)]) hnew6) ?p2 ?p3 ?p4 ?p5 ?_)
      case p2=>intro u hu;simp only[List.mem_cons,List.not_mem_nil,or_false] at hu;rcases hu with rfl | rfl <;> rfl
      case p3=>unfold maxLen;omega
      case p4=>omega
      case p5=>exact hz6
      intro v6 w7 hown' hgrow _ hat;rw[←hw6] at hgrow;obtain ⟨A7,c7,rfl⟩:=Kan hown';have hlow:∀k,(Value.slice vA vn vc).ownBlock=some k→w1.heap.size≤k:=fun k hk=>(HROW6.out.lt k hk).1
      have hb7:Below w1.heap.size w1 w7:=HB6.out.grown hgrow HB6.out.size hlow;have hp7:Blk w7 p2 58 #[.slice lA6 ln lc6,.slice vA vn vc,.slice none 0 0]:=HP6.out.grown hgrow (Kag HP6.out HROW6.out (by decide));have HB8:Hid (Below w1.heap.size w1 (w7.setCell ⟨p2,1,none⟩ (.slice A7 (vn+1) c7))):=hb7.setCell (p:=⟨p2,1,none⟩) HP2L.out _;have HP8:Hid (Blk (w7.setCell ⟨p2,1,none⟩ (.slice A7 (vn+1) c7)) p2 58 #[.slice lA6 ln lc6,.slice A7 (vn+1) c7,.slice none 0 0]):=hp7.set_ 1 _
      have HR8:Hid ((w7.setCell ⟨p2,1,none⟩ (.slice A7 (vn+1) c7)).ownsRow w1.heap.size 102 2 (.slice A7 (vn+1) c7) (vn+1) (((s.samples.take (j+1)).filter (fS s)).flatMap Kad)):=by
       show World.ownsRow _ _ _ _ _ _ _
       rw[HEE.out,List.flatMap_append,List.flatMap_singleton];exact Kbp hown' hp7 (by decide)
      have HVL8:Hid (((s.samples.take (j+1)).filter (fS s)).length=vn+1):=by show _=_;rw[HEE.out,List.length_append,HVL.out];rfl
      have d7:=hp7.cell 1;simp at d7;have f7:=hp7.frozen 1;have hp7l:=hp7.lt;clear hown' hgrow hat hlow hb7 hp7 hrow6 hnew6 HROW6 HB6 HP6 HEE HVL HP5 HB5 e0 q0 q1 hw6 hz6 hvn hi1 hy0 hy1 hy2;go_wp2_with fail
      go_roundg (sn - (j+1))
      case measure=>omega
      case rel=>exact ⟨j+1,vn+1,c7,A7,by first | rfl | go_num,by omega,by omega,HB8,HP8,HR8,HVL8⟩
    ·have hlz:¬(j:Int) < (sn:Int):=by omega
     clear l1q hp1q;obtain ⟨SA,hSA⟩:∃q,q=vA:=⟨_,rfl⟩;obtain ⟨SN,hSN⟩:∃q,q=vn:=⟨_,rfl⟩;obtain ⟨SC,hSC⟩:∃q,q=vc:=⟨_,rfl⟩;obtain ⟨SL,hSL⟩:∃q,q=s.samples.filter (fS s):=⟨_,rfl⟩;have htk:s.samples.take j=s.samples:=List.take_of_length_le (by have:=HES.out.len;omega);have HSLF:Hid (SL=s.samples.filter (fS s)):=hSL
     have HSR0:Hid (wr.ownsRow w1.heap.size 102 2 (.slice SA SN SC) SN (SL.flatMap Kad)):=by
      have h1:=HR.out;rw[htk,←hSL,←hSA,←hSN,←hSC] at h1;exact h1
     have HSN:Hid (SL.length=SN):=by
      have h1:=HVL.out;rw[htk,←hSL,←hSN] at h1;exact h1
     rw[←hSA,←hSN,←hSC] at HP2;have hSNj:SN≤137438953472:=by rw[hSN];omega
     have l2q:wr.cell? ⟨p1,2,none⟩=some (.slice wA wn wc):=(HP1.out.below HB1.out HP1.out.lt).cell 2;have hp1q:p1 < wr.heap.size:=Nat.lt_of_lt_of_le HP1.out.lt HB1.out.size;clear hSA hSN hSC hSL htk HR HVL hvj;clear vA vn vc;go_wp2_with fail
     go_loopg [46] wn (fun kx sj wr=>∃(j vn vc:Nat) (vA:Option Addr),sj = .int .i64 (j:Int)∧j+kx=wn∧vn≤j∧Hid (Below w1.heap.size w1 wr)∧Hid (Blk wr p2 58 #[.slice lA6 ln lc6,.slice SA SN SC,.slice vA vn vc])∧Hid (wr.ownsRow w1.heap.size 135 6 (.slice vA vn vc) vn (((s.windows.take j).filter (fW s)).flatMap Kai))∧Hid (((s.windows.take j).filter (fW s)).length=vn)∧Hid (wr.ownsRow w1.heap.size 102 2 (.slice SA SN SC) SN (SL.flatMap Kad)))
     case atStart=>exact ⟨0,0,0,none,rfl,by omega,by omega,HB1,HP2,(show Hid _ from World.ownsRow_nil _ _ _ _),rfl,HSR0⟩
     case round=>
      clear HB1 HP2 HSR0;obtain ⟨j,vn,vc,vA,rfl,hj,hvj,HB1,HP2,HR,HVL,HSR⟩:=hrel;rcases Nat.lt_or_ge j wn with hlt | hge
      ·have hlz:(j:Int) < (wn:Int):=by omega
       obtain ⟨b,off,hA,hb,hc⟩:=HEW.out.2 (by omega);have hl:=HEW.out.len;obtain ⟨y,hy⟩:∃y,s.windows[j]? = some y:=⟨s.windows[j]'(by omega),List.getElem?_eq_getElem _⟩;have hcell:∀r v,r < 6→(Kai y)[r]? = some v→wr.cell? ⟨b,off+j*6+r,none⟩=some v:=fun r v _ hv=>(HB1.out.cell (p:=⟨b,off+j*6+r,none⟩) (Nat.lt_of_lt_of_le hb HB01.out)).trans ((HB0w.out.cell (p:=⟨b,off+j*6+r,none⟩) hb).trans (hc j y hy r v hv))
       have htk:(s.windows.take (j+1)).filter (fW s)=(s.windows.take j).filter (fW s)++(if fW s y=true then [y] else []):=by
        rw[List.take_add_one,hy,List.filter_append];congr 1;simp only[Option.toList,List.filter_cons,List.filter_nil]
       have HTK:Hid ((s.windows.take (j+1)).filter (fW s)=(s.windows.take j).filter (fW s)++(if fW s y=true then [y] else [])):=htk;have HCY:Hid (∀W,Below w1.heap.size w1 W→Calls Tryz.prog gW (#[.agg (encH3 h).toArray,.agg (Kai y).toArray]++cW) W fun e w'=>e = .returned (.bool (fW s y))∧Grown W w'):=fun W hW=>HFW.out W (HB0w.out.trans (hW.mono HB01.out)) i h s HHI.out HSI.out y (List.mem_of_getElem? hy)
       subst hA;obtain ⟨r,hr⟩:∃r,r=fW s y:=⟨_,rfl⟩;rw[←hr] at HCY HTK;obtain ⟨hh,hhh⟩:∃q,q=h:=⟨_,rfl⟩;have HHH:Hid (hh=h):=hhh;obtain ⟨y1,y2,y3,y4,y5,y6⟩:=y
       have HCY2:Hid (∀W,Below w1.heap.size w1 W→Calls Tryz.prog gW (#[.agg #[.slice lA ln lc,.slice sA sn sc,.slice (some ⟨b,off,none⟩) wn wc],.agg #[.int .i64 y1,.int .i64 y2,.int .u64 (y3:Int),.int .u64 (y4:Int),.int .u64 (y5:Int),.int .u64 (y6:Int)]]++cW) W fun e w'=>e = .returned (.bool r)∧Grown W w'):=fun W hW=>by
        have:=HCY.out W hW;rw[HHV.out] at this;exact this
       have k0:wr.cell? ⟨b,off+j*6,none⟩=some (.int .i64 y1):=hcell 0 _ (by decide) rfl;have k1:wr.cell? ⟨b,off+j*6+1,none⟩=some (.int .i64 y2):=hcell 1 _ (by decide) rfl;have k2:wr.cell? ⟨b,off+j*6+2,none⟩=some (.int .u64 (y3:Int)):=hcell 2 _ (by decide) rfl;have k3:wr.cell? ⟨b,off+j*6+3,none⟩=some (.int .u64 (y4:Int)):=hcell 3 _ (by decide) rfl;have k4:wr.cell? ⟨b,off+j*6+4,none⟩=some (.int .u64 (y5:Int)):=hcell 4 _ (by decide) rfl;have k5:wr.cell? ⟨b,off+j*6+5,none⟩=some (.int .u64 (y6:Int)):=hcell 5 _ (by decide) rfl;have hbl:b < wr.heap.size:=Nat.lt_of_lt_of_le (Nat.lt_of_lt_of_le hb HB01.out) HB1.out.size;clear hc hl hcell htk hr hhh hy HCY hb;clear hh HHH;go_upto_region 15 with fail
       obtain ⟨wb,hwb⟩:∃x,x=wr.alloc (.cells #[.int .i64 y1,.int .i64 y2,.int .u64 (y3:Int),.int .u64 (y4:Int),.int .u64 (y5:Int),.int .u64 (y6:Int)] 135):=⟨_,rfl⟩;obtain ⟨p3,hp3⟩:∃p3,p3=wr.heap.size:=⟨_,rfl⟩;have hbp3:Blk wb p3 135 #[.int .i64 y1,.int .i64 y2,.int .u64 (y3:Int),.int .u64 (y4:Int),.int .u64 (y5:Int),.int .u64 (y6:Int)]:=by rw[hwb,hp3];exact Blk.new _ _ _
       have hb4:Below wr.heap.size wr wb:=by rw[hwb];exact (Below.refl _ _).alloc (Nat.le_refl _) _
       have HB4:Hid (Below w1.heap.size w1 wb):=HB1.out.trans (hb4.mono HB1.out.size);have HP4:Hid (Blk wb p2 58 #[.slice lA6 ln lc6,.slice SA SN SC,.slice vA vn vc]):=HP2.out.below hb4 HP2.out.lt;have HR4:Hid (wb.ownsRow w1.heap.size 135 6 (.slice vA vn vc) vn (((s.windows.take j).filter (fW s)).flatMap Kai)):=Kaq HR.out hb4;have HP31:Hid (Blk wb p3 135 #[.int .i64 y1,.int .i64 y2,.int .u64 (y3:Int),.int .u64 (y4:Int),.int .u64 (y5:Int),.int .u64 (y6:Int)]):=hbp3;have HP1b:Hid (Blk wb p1 58 #[.slice lA ln lc,.slice sA sn sc,.slice (some ⟨b,off,none⟩) wn wc]):=HP1.out.below HB4.out HP1.out.lt;have HSR4:Hid (wb.ownsRow w1.heap.size 102 2 (.slice SA SN SC) SN (SL.flatMap Kad)):=Kaq HSR.out hb4;rw[←hwb,←hp3];have q0:=HP31.out.cell 0;have q1:=HP31.out.cell 1;have q2:=HP31.out.cell 2;have q3:=HP31.out.cell 3;have q4:=HP31.out.cell 4;have q5:=HP31.out.cell 5;have r0:=HP1b.out.cell 0;have r1:=HP1b.out.cell 1;have r2:=HP1b.out.cell 2;simp at q0 q1 q2 q3 q4 q5 r0 r1 r2;have hpl3:=HP31.out.lt;have hpl1:=HP1b.out.lt;clear hwb hp3 hbp3 hb4 HB1 HP2 HR k0 k1 k2 k3 k4 k5 hbl HSR;go_wp2_with fail
       refine (HCY2.out _ HB4.out).mono ?_;rintro _ w5 ⟨rfl,hg5⟩;have hb5:=hg5.below;have HB5:Hid (Below w1.heap.size w1 w5):=HB4.out.trans (hb5.mono HB4.out.size);have HP5:Hid (Blk w5 p2 58 #[.slice lA6 ln lc6,.slice SA SN SC,.slice vA vn vc]):=HP4.out.below hb5 HP4.out.lt;have HR5:Hid (w5.ownsRow w1.heap.size 135 6 (.slice vA vn vc) vn (((s.windows.take j).filter (fW s)).flatMap Kai)):=Kaq HR4.out hb5;have HP35:Hid (Blk w5 p3 135 #[.int .i64 y1,.int .i64 y2,.int .u64 (y3:Int),.int .u64 (y4:Int),.int .u64 (y5:Int),.int .u64 (y6:Int)]):=HP31.out.below hb5 HP31.out.lt;have HSR5:Hid (w5.ownsRow w1.heap.size 102 2 (.slice SA SN SC) SN (SL.flatMap Kad)):=Kaq HSR4.out hb5;clear hg5 hb5 HB4 HP4 HR4 HP31 HP1b q0 q1 q2 q3 q4 q5 r0 r1 r2 hpl3 hpl1 HSR4
       cases r with
       | false=>
        have hE:(s.windows.take (j+1)).filter (fW s)=(s.windows.take j).filter (fW s):=by rw[HTK.out];simp
        have HR6:Hid (w5.ownsRow w1.heap.size 135 6 (.slice vA vn vc) vn (((s.windows.take (j+1)).filter (fW s)).flatMap Kai)):=by show World.ownsRow _ _ _ _ _ _ _;rw[hE];exact HR5.out
        have HVL6:Hid (((s.windows.take (j+1)).filter (fW s)).length=vn):=by show _=_;rw[hE];exact HVL.out
        clear hE HR5 HVL HTK;go_wp2_with fail
        go_roundg (wn - (j+1))
        case measure=>omega
        case rel=>exact ⟨j+1,vn,vc,vA,by first | rfl | go_num,by omega,by omega,HB5,HP5,HR6,HVL6,HSR5⟩
       | true=>
        have hE:(s.windows.take (j+1)).filter (fW s)=(s.windows.take j).filter (fW s) ++ [⟨y1,y2,y3,y4,y5,y6⟩]:=by rw[HTK.out];simp
        have HEE:Hid ((s.windows.take (j+1)).filter (fW s)=(s.windows.take j).filter (fW s) ++ [⟨y1,y2,y3,y4,y5,y6⟩]):=hE;have e0:=HP5.out.cell 2;simp at e0;have q0:=HP35.out.cell 0;have q1:=HP35.out.cell 1;have q2:=HP35.out.cell 2;have q3:=HP35.out.cell 3;have q4:=HP35.out.cell 4;have q5:=HP35.out.cell 5;simp at q0 q1 q2 q3 q4 q5;have hpl2:=HP5.out.lt;have hpl3:=HP35.out.lt;obtain ⟨i1,hi1,hy0,hy1,hy2⟩:=info_parts Khh;obtain ⟨w6,hw6⟩:∃y,y=w5.alloc (.cells #[.int .i64 y1,.int .i64 y2,.int .u64 (y3:Int),.int .u64 (y4:Int),.int .u64 (y5:Int),.int .u64 (y6:Int)] 135):=⟨_,rfl⟩;have hb6:Below w5.heap.size w5 w6:=by rw[hw6];exact (Below.refl _ _).alloc (Nat.le_refl _) _
        have hnew6:Blk w6 w5.heap.size 135 #[.int .i64 y1,.int .i64 y2,.int .u64 (y3:Int),.int .u64 (y4:Int),.int .u64 (y5:Int),.int .u64 (y6:Int)]:=by rw[hw6];exact Blk.new _ _ _
        have hrow6:w6.ownsRow w1.heap.size 135 6 (.slice vA vn vc) vn (((s.windows.take j).filter (fW s)).flatMap Kai):=Kaq HR5.out hb6;have HROW6:=Jh hrow6;have HB6:Hid (Below w1.heap.size w1 w6):=HB5.out.trans (hb6.mono HB5.out.size);have HP6:Hid (Blk w6 p2 58 #[.slice lA6 ln lc6,.slice SA SN SC,.slice vA vn vc]):=HP5.out.below hb6 HP5.out.lt;have HSR6:Hid (w6.ownsRow w1.heap.size 102 2 (.slice SA SN SC) SN (SL.flatMap Kad)):=Kaq HSR5.out hb6;have hz6:=HB6.out.size;have hvn:vn≤1099511627776:=by have:=HLIM.out;omega
        clear hE hb6 HR5 HTK HP35 HSR5;go_wp2_with (at_builtin;(try rw[←hw6]);refine wpList_append_own_at _ rfl _ _ 56 rfl w1.heap.size 135 i1 (.agg #[.int .i64 0,.int .i64 0,.int .u64 0,.int .u64 0,.int .u64 0,.int .u64 0]) 6 48 Tryz.underlying56 hi1 hy0 hy1 hy2 rfl (by decide) (.slice vA vn vc) vn _ rfl hrow6 ⟨w5.heap.size,0,none⟩ 1 1 [.int .i64 y1,.int .i64 y2,.int .u64 (y3:Int),.int .u64 (y4:Int),.int .u64 (y5:Int),.int .u64 (y6:Int)] rfl rfl (Kav (l:=[.int .i64 y1,.int .i64 y2,.int .u64 (y3:Int),.int .u64 (y4:Int),.int .u64 (y5:Int),.int .u64 (y6:Int)]) hnew6) ?p2 ?p3 ?p4 ?p5 ?_)
        case p2=>intro u hu;simp only[List.mem_cons,List.not_mem_nil,or_false] at hu;rcases hu with rfl | rfl | rfl | rfl | rfl | rfl <;> rfl
        case p3=>unfold maxLen;omega
        case p4=>omega
        case p5=>exact hz6
        intro v6 w7 hown' hgrow _ hat;rw[←hw6] at hgrow;obtain ⟨A7,c7,rfl⟩:=Kan hown';have hlow:∀k,(Value.slice vA vn vc).ownBlock=some k→w1.heap.size≤k:=fun k hk=>(HROW6.out.lt k hk).1
        have hb7:Below w1.heap.size w1 w7:=HB6.out.grown hgrow HB6.out.size hlow;have hp7:Blk w7 p2 58 #[.slice lA6 ln lc6,.slice SA SN SC,.slice vA vn vc]:=HP6.out.grown hgrow (Kag HP6.out HROW6.out (by decide));have HB8:Hid (Below w1.heap.size w1 (w7.setCell ⟨p2,2,none⟩ (.slice A7 (vn+1) c7))):=hb7.setCell (p:=⟨p2,2,none⟩) HP2L.out _;have HP8:Hid (Blk (w7.setCell ⟨p2,2,none⟩ (.slice A7 (vn+1) c7)) p2 58 #[.slice lA6 ln lc6,.slice SA SN SC,.slice A7 (vn+1) c7]):=hp7.set_ 2 _
        have HR8:Hid ((w7.setCell ⟨p2,2,none⟩ (.slice A7 (vn+1) c7)).ownsRow w1.heap.size 135 6 (.slice A7 (vn+1) c7) (vn+1) (((s.windows.take (j+1)).filter (fW s)).flatMap Kai)):=by
         show World.ownsRow _ _ _ _ _ _ _
         rw[HEE.out,List.flatMap_append,List.flatMap_singleton];exact Kbp hown' hp7 (by decide)
        have HVL8:Hid (((s.windows.take (j+1)).filter (fW s)).length=vn+1):=by show _=_;rw[HEE.out,List.length_append,HVL.out];rfl
        have HSR8:Hid ((w7.setCell ⟨p2,2,none⟩ (.slice A7 (vn+1) c7)).ownsRow w1.heap.size 102 2 (.slice SA SN SC) SN (SL.flatMap Kad)):=by
         have h7:w7.ownsRow w1.heap.size 102 2 (.slice SA SN SC) SN (SL.flatMap Kad):=Kck HSR6.out hgrow.size fun k hk=>hgrow.block k (HSR6.out.lt k hk).2 fun e=>(Kbq HSR6.out HROW6.out (by decide)).elim (fun q=>by rw[q] at hk;cases hk) (fun q=>q (hk.trans e))
         exact Kbp h7 hp7 (by decide)
        have d7:=hp7.cell 2;simp at d7;have f7:=hp7.frozen 2;have hp7l:=hp7.lt;clear hown' hgrow hat hlow hb7 hp7 hrow6 hnew6 HROW6 HB6 HP6 HEE HVL HP5 HB5 e0 q0 q1 q2 q3 q4 q5 hw6 hz6 hvn hi1 hy0 hy1 hy2 HSR6;go_wp2_with fail
        go_roundg (wn - (j+1))
        case measure=>omega
        case rel=>exact ⟨j+1,vn+1,c7,A7,by first | rfl | go_num,by omega,by omega,HB8,HP8,HR8,HVL8,HSR8⟩
      ·have hlz:¬(j:Int) < (wn:Int):=by omega
       have htk:s.windows.take j=s.windows:=List.take_of_length_le (by have:=HEW.out.len;omega)
       have HRW:Hid (wr.ownsRow w1.heap.size 135 6 (.slice vA vn vc) vn ((s.windows.filter (fW s)).flatMap Kai)):=by
        have h1:=HR.out;rw[htk] at h1;exact h1
       have HWN:Hid ((s.windows.filter (fW s)).length=vn):=by
        have h1:=HVL.out;rw[htk] at h1;exact h1
       have HSOME:=Jh (fun W=>Knt ⟨⟨lA6,ln,lc6⟩,⟨SA,SN,SC⟩,⟨vA,vn,vc⟩⟩ ⟨by show SN≤_;omega,by show vn≤_;have:=HLIM.out;omega⟩ W);have e0:=HP2.out.cell 0;have e1:=HP2.out.cell 1;have e2:=HP2.out.cell 2;simp at e0 e1 e2;have hpl2:=HP2.out.lt;clear htk HR HVL l2q hp1q;obtain ⟨rr,hrr⟩:∃q,q=goodH ⟨⟨lA6,ln,lc6⟩,⟨SA,SN,SC⟩,⟨vA,vn,vc⟩⟩:=⟨_,rfl⟩
       have HRR:Hid (rr=Kba (keepS fS fW s)):=by
        show _=_
        rw[hrr];unfold goodH Kba keepS;dsimp only;rw[←HSLF.out,HSN.out,HWN.out]
       rw[←hrr] at HSOME;unfold encH3 at HSOME;dsimp only at HSOME
       have hgstep:((ss.take (i+1)).map (keepS fS fW)).filter Kba=gs++(if rr=true then [keepS fS fW s] else []):=by
        have hil:i < ss.length:=by rw[HSS.out];exact hlt
        rw[List.take_add_one,List.getElem?_eq_getElem hil,List.map_append,List.filter_append,←HGS.out,HRR.out];congr 1;rw[show ss[i]=s by rw[←HSI.out,getElem!_pos ss i hil]];simp[List.filter_cons]
       have HGST:Hid (((ss.take (i+1)).map (keepS fS fW)).filter Kba=gs++(if rr=true then [keepS fS fW s] else [])):=hgstep;clear hrr hgstep;go_wp2_with fail
       refine (HSOME.out _).mono ?_;rintro _ w8 ⟨rfl,hg8⟩;have hb8:=hg8.below;have HB8:Hid (Below w1.heap.size w1 w8):=HB1.out.trans (hb8.mono HB1.out.size);have HP8:Hid (Blk w8 p2 58 #[.slice lA6 ln lc6,.slice SA SN SC,.slice vA vn vc]):=HP2.out.below hb8 HP2.out.lt;have HS8:Hid (w8.ownsRow w1.heap.size 102 2 (.slice SA SN SC) SN (SL.flatMap Kad)):=Kaq HSR.out hb8;have HW8:Hid (w8.ownsRow w1.heap.size 135 6 (.slice vA vn vc) vn ((s.windows.filter (fW s)).flatMap Kai)):=Kaq HRW.out hb8;clear hg8 hb8 HB1 HP2 HSR HRW HSOME e0 e1 e2 hpl2
       cases rr with
       | false=>
        have HMN:Hid (MSt w0 w0 w8 (.slice A4 m cV) hs (((ss.take (i+1)).map (keepS fS fW)).filter Kba)):=by
         show MSt _ _ _ _ _ _
         rw[HGST.out];simpa using HM1.out.below HB8.out
        clear HGST HS8 HW8 HP8;go_wp2_with fail
        go_roundg (n - (i+1))
        case measure=>omega
        case rel=>exact ⟨i+1,hs,by first | rfl | go_num,by omega,HMN⟩
       | true=>
        have e0:=HP8.out.cell 0;have e1:=HP8.out.cell 1;have e2:=HP8.out.cell 2;simp at e0 e1 e2;have hpl2:=HP8.out.lt;obtain ⟨w9,hw9⟩:∃y,y=w8.alloc (.cells #[.slice lA6 ln lc6,.slice SA SN SC,.slice vA vn vc] 58):=⟨_,rfl⟩;have hb9:Below w8.heap.size w8 w9:=by rw[hw9];exact (Below.refl _ _).alloc (Nat.le_refl _) _
        have hnew9:Blk w9 w8.heap.size 58 #[.slice lA6 ln lc6,.slice SA SN SC,.slice vA vn vc]:=by rw[hw9];exact Blk.new _ _ _
        have hb19:Below w1.heap.size w1 w9:=HB8.out.trans (hb9.mono HB8.out.size);have HM9:Hid (MSt w0 w0 w9 (.slice A4 m cV) hs gs):=HM1.out.below hb19;have hrow9:w9.ownsRow w0.heap.size 58 3 (.slice A4 m cV) m (hs.flatMap encH3):=by have:=HM9.out.row;rw[HML.out] at this;exact this
        have hmr:MRow w0.heap.size w9 ⟨⟨lA6,ln,lc6⟩,⟨SA,SN,SC⟩,⟨vA,vn,vc⟩⟩ (keepS fS fW s):=by
         refine ⟨?_,HEL.out.len,HLC6.out,?_,?_⟩
         ·rcases HLAB.out with e | e
          ·exact .inl ⟨e,List.eq_nil_of_length_eq_zero (by show s.labels.length=0;rw[HEL.out.len];exact e)⟩
          ·refine .inr ?_;show w9.ownsRow _ _ _ _ s.labels.length _
           rw[HEL.out.len];exact Kck e hb19.size fun k hk=>hb19.block k (e.lt k hk).2
         ·show w9.ownsRow _ _ _ _ (s.samples.filter (fS s)).length ((s.samples.filter (fS s)).flatMap Kad)
          rw[←HSLF.out,HSN.out];exact Kdn (Kaq HS8.out hb9) HB01.out
         ·show w9.ownsRow _ _ _ _ (s.windows.filter (fW s)).length ((s.windows.filter (fW s)).flatMap Kai)
          rw[HWN.out];exact Kdn (Kaq HW8.out hb9) HB01.out
        have HRW9:Hid (MRows w0.heap.size w9 (hs ++ [⟨⟨lA6,ln,lc6⟩,⟨SA,SN,SC⟩,⟨vA,vn,vc⟩⟩]) (gs ++ [keepS fS fW s])):=HM1.out.rows.snoc2 hb19 hmr (fun b hb=>(HS8.out.lt b hb).1) (fun b hb=>(HW8.out.lt b hb).1);have hz9:=HM9.out.b0.size;clear hmr hb9 hb19 HS8 HW8 HP8 HB8;go_wp2_with (at_builtin;(try rw[←hw9]);refine wpList_append_own_at _ rfl _ _ 26 rfl w0.heap.size 58 ib (.agg #[.slice none 0 0,.slice none 0 0,.slice none 0 0]) 3 72 Tryz.underlying26 hib hz0 hz1 hz2 rfl (by decide) (.slice A4 m cV) m _ rfl hrow9 ⟨w8.heap.size,0,none⟩ 1 1 [.slice lA6 ln lc6,.slice SA SN SC,.slice vA vn vc] rfl rfl (Kav (l:=[.slice lA6 ln lc6,.slice SA SN SC,.slice vA vn vc]) hnew9) ?p2 ?p3 ?p4 ?p5 ?_)
        case p2=>intro u hu;simp only[List.mem_cons,List.not_mem_nil,or_false] at hu;rcases hu with rfl | rfl | rfl <;> rfl
        case p3=>unfold maxLen;omega
        case p4=>omega
        case p5=>exact hz9
        intro v9 wz hown' hgrow _ hat;rw[←hw9] at hgrow;obtain ⟨A9,c9,rfl⟩:=Kan hown'
        have HMN:Hid (MSt w0 w0 wz (.slice A9 (m+1) c9) (hs ++ [⟨⟨lA6,ln,lc6⟩,⟨SA,SN,SC⟩,⟨vA,vn,vc⟩⟩]) (((ss.take (i+1)).map (keepS fS fW)).filter Kba)):=by
         show MSt _ _ _ _ _ _
         rw[HGST.out];obtain ⟨q1,q2⟩:=HM9.out.low (Nat.le_refl _) hgrow (fun k hk=>(HM9.out.row.lt k hk).1);refine ⟨q1,q2,?_,?_⟩
         ·rw[List.flatMap_append,List.flatMap_singleton,List.length_append,HML.out];exact hown'
         ·refine HRW9.out.frame hgrow fun r e=>?_
          obtain ⟨cu,hcu⟩:=Kax HM9.out.row e;exact ⟨_,cu,hcu,by decide,by decide,by decide⟩
        generalize hs ++ [(⟨⟨lA6,ln,lc6⟩,⟨SA,SN,SC⟩,⟨vA,vn,vc⟩⟩:Hd3)]=hsn at HMN;clear hown' hgrow hat hrow9 hnew9 HM9 HRW9 HGST hw9 hz9 e0 e1 e2 hpl2;go_wp2_with fail
        go_roundg (n - (i+1))
        case measure=>omega
        case rel=>exact ⟨i+1,hsn,by first | rfl | go_num,by omega,HMN⟩
  ·have hlz:¬(i:Int) < (n:Int):=by omega
   obtain ⟨A4,cV,hv4⟩:=Kan HM.out.row;subst hv4
   have hft:((ss.take i).map (keepS fS fW)).filter Kba=keptF fS fW ss:=by
    unfold keptF;rw[List.take_of_length_le (by rw[HSS.out];exact hge)]
   have hM:=HM.out;rw[hft] at hM
   have HF:Hid (Kbi wr w0.heap.size A4 hs.length cV (keptF fS fW ss)∧hs.length≤cV∧Below w0.heap.size w0 wr):=by
    have h1:Kbi wr w0.heap.size A4 hs.length cV (keptF fS fW ss):=⟨hs,rfl,hM.row,hM.rows⟩;exact ⟨h1,h1.sers.2,hM.b0⟩
   obtain ⟨m,hm⟩:∃m,m=hs.length:=⟨_,rfl⟩;rw[←hm] at HF ⊢;clear hM hft HM hm;go_wp2_with fail
   go_ret
   exact ⟨A4,m,cV,rfl,HF.out.1,HF.out.2.1,HF.out.2.2⟩
theorem Kya {w0:World} (fS:Ser→Smp→Bool) (fW:Ser→Wnd→Bool) (gS gW:Nat) (cS cW:Array Value) (A:Option Addr) (n c:Nat) (hs0:List Hd3) (ss:List Ser)
  (egS:∀args w,(callFunc gS args).run Tryz.prog w = .ok (.enter gS args) w) (egW:∀args w,(callFunc gW args).run Tryz.prog w = .ok (.enter gW args) w)
  (hE:Elems w0 w0.heap.size 3 encH3 A n hs0) (hss:ss.length=n) (hat:∀(i:Nat) (h:Hd3),hs0[i]? = some h→SerAt w0 h ss[i]!)
  (hz:∀s∈ss,s.labels.length≤1099511627776∧s.samples.length≤137438953472∧s.windows.length≤137438953472) (hn:n≤274877906944)
  (hS:Kif Tryz.prog gS cS Kad fS hs0 ss Ser.samples w0) (hW:Kif Tryz.prog gW cW Kai fW hs0 ss Ser.windows w0) :
  Calls Tryz.prog 54 #[.slice A n c,.func (.func gS) #[] cS,.func (.func gW) #[] cW] w0 fun e w'=>∃(A':Option Addr) (n' c':Nat),e = .returned (.slice A' n' c')∧Sers w' A' n' (keptF fS fW ss)∧n'≤c'∧Below w0.heap.size w0 w':=
 (Klj fS fW gS gW cS cW A n c hs0 ss egS egW hE hss hat hz hn hS hW).mono fun _ _ h=>by
  obtain ⟨A',n',c',he,h1,h2,h3⟩:=h;exact ⟨A',n',c',he,h1.sers.1,h2,h3⟩
end
section
set_option maxHeartbeats 1000000
set_option maxRecDepth 100000
def inR (a b t:Int):Bool:=decide (a≤t) && decide (t≤b)
theorem Klh (a b t:Int) (pf pt:Nat) (W:World) (hf:Blk W pf 2 #[.int .i64 a]) (ht:Blk W pt 2 #[.int .i64 b]) :
  Calls Tryz.prog 53 #[.int .i64 t,.pointer (some ⟨pf,0,none⟩),.pointer (some ⟨pt,0,none⟩)] W fun e w'=>e = .returned (.bool (inR a b t))∧Grown W w':=by
 have f0:=hf.cell 0;have t0:=ht.cell 0;simp at f0 t0;have hfl:=hf.lt;have htl:=ht.lt;obtain ⟨r,hr⟩:∃r,r=inR a b t:=⟨_,rfl⟩;rw[←hr];have HR:=Jh hr;clear hr hf ht
 by_cases h1:a≤t
 ·obtain ⟨r2,hr2⟩:∃r2,decide (t≤b)=r2:=⟨_,rfl⟩;have e:r=r2:=by rw[HR.out];unfold inR;rw[decide_eq_true h1,hr2];rfl
  subst e;have d1:decide (a≤t)=true:=decide_eq_true h1;go_enter Tryz.func53,Tryz.ntmps53
  go_wp2_with fail
  go_ret
  exact ⟨by first | rfl | (rw[←hr2];rfl),Grown.refl _⟩
 ·have e:r=false:=by rw[HR.out];unfold inR;rw[decide_eq_false h1];rfl
  subst e;have d1:decide (a≤t)=false:=decide_eq_false h1;go_enter Tryz.func53,Tryz.ntmps53
  go_wp2_with fail
  go_ret
  exact ⟨rfl,Grown.refl _⟩
theorem Kus (a b:Int) (h:Hd3) (y:Smp) (p pf pt:Nat) (W:World) (hp:Blk W p 137 #[.func (.func 53) #[] #[.pointer (some ⟨pf,0,none⟩),.pointer (some ⟨pt,0,none⟩)]]) (hf:Blk W pf 2 #[.int .i64 a]) (ht:Blk W pt 2 #[.int .i64 b]) :
  Calls Tryz.prog 55 #[.agg (encH3 h).toArray,.agg (Kad y).toArray,.pointer (some ⟨p,0,none⟩)] W fun e w'=>e = .returned (.bool (inR a b y.t))∧Grown W w':=by
 have hc:∀W',Below W.heap.size W W'→Calls Tryz.prog 53 #[.int .i64 y.t,.pointer (some ⟨pf,0,none⟩),.pointer (some ⟨pt,0,none⟩)] W' fun e w'=>e = .returned (.bool (inR a b y.t))∧Grown W' w':=fun W' hb=>Klh a b y.t pf pt W' (hf.below hb hf.lt) (ht.below hb ht.lt)
 have egT:∀args w,(callFunc 53 args).run Tryz.prog w = .ok (.enter 53 args) w:=enters_of Tryz.func53 (by kernel_rfl) rfl;obtain ⟨r,hr⟩:∃r,r=inR a b y.t:=⟨_,rfl⟩;rw[←hr] at hc ⊢;have HC:=Jh hc;clear hc hr;obtain ⟨⟨A1,n1,c1⟩,⟨A2,n2,c2⟩,⟨A3,n3,c3⟩⟩:=h;obtain ⟨y1,y2⟩:=y;unfold encH3 Kad;dsimp only at HC ⊢;have p0:=hp.cell 0;simp at p0;have hpl:=hp.lt;clear hp hf ht;go_enter Tryz.func55,Tryz.ntmps55
 go_wp2_with fail
 refine (HC.out _ (((Below.refl _ _).alloc (Nat.le_refl _) _).alloc (by simp) _)).mono ?_;rintro _ w1 ⟨rfl,hg⟩;have HG:=Jh hg;clear hg;go_wp2_with fail
 go_ret
 exact ⟨rfl,(((Grown.refl _).alloc _).alloc _).trans HG.out⟩
theorem Kut (a b:Int) (h:Hd3) (y:Wnd) (p pf pt:Nat) (W:World) (hp:Blk W p 137 #[.func (.func 53) #[] #[.pointer (some ⟨pf,0,none⟩),.pointer (some ⟨pt,0,none⟩)]]) (hf:Blk W pf 2 #[.int .i64 a]) (ht:Blk W pt 2 #[.int .i64 b]) :
  Calls Tryz.prog 56 #[.agg (encH3 h).toArray,.agg (Kai y).toArray,.pointer (some ⟨p,0,none⟩)] W fun e w'=>e = .returned (.bool (inR a b y.start))∧Grown W w':=by
 have hc:∀W',Below W.heap.size W W'→Calls Tryz.prog 53 #[.int .i64 y.start,.pointer (some ⟨pf,0,none⟩),.pointer (some ⟨pt,0,none⟩)] W' fun e w'=>e = .returned (.bool (inR a b y.start))∧Grown W' w':=fun W' hb=>Klh a b y.start pf pt W' (hf.below hb hf.lt) (ht.below hb ht.lt)
 have egT:∀args w,(callFunc 53 args).run Tryz.prog w = .ok (.enter 53 args) w:=enters_of Tryz.func53 (by kernel_rfl) rfl;obtain ⟨r,hr⟩:∃r,r=inR a b y.start:=⟨_,rfl⟩;rw[←hr] at hc ⊢;have HC:=Jh hc;clear hc hr;obtain ⟨⟨A1,n1,c1⟩,⟨A2,n2,c2⟩,⟨A3,n3,c3⟩⟩:=h;obtain ⟨y1,y2,y3,y4,y5,y6⟩:=y;unfold encH3 Kai;dsimp only at HC ⊢;have p0:=hp.cell 0;simp at p0;have hpl:=hp.lt;clear hp hf ht;go_enter Tryz.func56,Tryz.ntmps56
 go_wp2_with fail
 refine (HC.out _ (((Below.refl _ _).alloc (Nat.le_refl _) _).alloc (by simp) _)).mono ?_;rintro _ w1 ⟨rfl,hg⟩;have HG:=Jh hg;clear hg;go_wp2_with fail
 go_ret
 exact ⟨rfl,(((Grown.refl _).alloc _).alloc _).trans HG.out⟩
structure SersZ (w:World) (A:Option Addr) (n:Nat) (L:List Ser):Prop where
 s:Sers w A n L
 z:∀s∈L,s.labels.length≤1099511627776∧s.samples.length≤137438953472∧s.windows.length≤137438953472
 n:n≤274877906944
theorem Kkb (a b:Int) (A:Option Addr) (n c:Nat) (ss:List Ser) (w:World) (h:SersZ w A n ss) :
  Calls Tryz.prog 23 #[.slice A n c,.int .i64 a,.int .i64 b] w fun e w'=>∃(A':Option Addr) (n' c':Nat),e = .returned (.slice A' n' c')∧Kbi w' w.heap.size A' n' c' (keptF (fun _ x=>inR a b x.t) (fun _ x=>inR a b x.start) ss)∧n'≤c'∧Below w.heap.size w w':=by
 obtain ⟨w3,hw3⟩:∃x,x=((w.alloc (.cells #[.int .i64 a] 2)).alloc (.cells #[.int .i64 b] 2)).alloc (.cells #[.func (.func 53) #[] #[.pointer (some ⟨w.heap.size,0,none⟩),.pointer (some ⟨w.heap.size+1,0,none⟩)]] 137):=⟨_,rfl⟩;have hb3:Below w.heap.size w w3:=by rw[hw3];exact (((Below.refl _ _).alloc (Nat.le_refl _) _).alloc (by simp) _).alloc (by simp;omega) _
 have hf:Blk w3 w.heap.size 2 #[.int .i64 a]:=by rw[hw3];exact ((Blk.new _ _ _).alloc _).alloc _
 have ht:Blk w3 (w.heap.size+1) 2 #[.int .i64 b]:=by rw[hw3];exact (Blk.newAt (by simp)).alloc _
 have hp:Blk w3 (w.heap.size+2) 137 #[.func (.func 53) #[] #[.pointer (some ⟨w.heap.size,0,none⟩),.pointer (some ⟨w.heap.size+1,0,none⟩)]]:=by rw[hw3];exact Blk.newAt (by simp)
 obtain ⟨pf,hpf⟩:∃x,x=w.heap.size:=⟨_,rfl⟩;obtain ⟨q1,hq1⟩:∃x,x=w.heap.size+1:=⟨_,rfl⟩;obtain ⟨q2,hq2⟩:∃x,x=w.heap.size+2:=⟨_,rfl⟩;have egS:∀args w,(callFunc 55 args).run Tryz.prog w = .ok (.enter 55 args) w:=enters_of Tryz.func55 (by kernel_rfl) rfl;have egW:∀args w,(callFunc 56 args).run Tryz.prog w = .ok (.enter 56 args) w:=enters_of Tryz.func56 (by kernel_rfl) rfl;obtain ⟨hs,hE,hl,hat⟩:=h.s.below hb3
 have HK:=Jh (Klj (w0:=w3) (fun _ x=>inR a b x.t) (fun _ x=>inR a b x.start) 55 56 #[.pointer (some ⟨w.heap.size+2,0,none⟩)] #[.pointer (some ⟨w.heap.size+2,0,none⟩)] A n c hs ss egS egW hE hl hat h.z h.n
  (fun W hW i h s _ _ y _=>Kus a b h y _ _ _ W (hp.below hW hp.lt) (hf.below hW hf.lt) (ht.below hW ht.lt))
  (fun W hW i h s _ _ y _=>Kut a b h y _ _ _ W (hp.below hW hp.lt) (hf.below hW hf.lt) (ht.below hW ht.lt)))
 have HB3:=Jh hb3;have HW3:=Jh hw3;clear hf ht hp egS egW hE hl hat h hb3 hw3;clear hpf hq1 hq2 pf q1 q2;go_enter Tryz.func23,Tryz.ntmps23
 go_upto_region 2 with fail
 have hw3:=HW3.out;rw[←hw3];clear hw3;go_wp2_with fail
 refine HK.out.mono ?_;rintro _ w4 ⟨A',n',c',rfl,h1,h2,h3⟩;have HF:=Jh (And.intro (h1.mono HB3.out.size) (And.intro h2 (HB3.out.trans (h3.mono HB3.out.size))));clear h1 h2 h3 HK;go_wp2_with fail
 go_ret
 exact ⟨A',n',c',rfl,HF.out.1,HF.out.2.1,HF.out.2.2⟩
end
section
set_option maxHeartbeats 1000000
set_option maxRecDepth 100000
def Kej (s:Spn):List Value:=[.int .i64 s.frm,.int .i64 s.to_]
structure Hd4 where
 l:Hd
 s0:Hd
 s1:Hd
 s2:Hd
def encH4 (h:Hd4):List Value:=[.slice h.l.A h.l.n h.l.c,.slice h.s0.A h.s0.n h.s0.c,.slice h.s1.A h.s1.n h.s1.c,.slice h.s2.A h.s2.n h.s2.c]
structure GoneP where
 labels:List Lb
 sp:Nat→List Spn
def encHG (x:Hd4×GoneP):List Value:=encH4 x.1
theorem Kso (f:Spn→Bool) (gc:Nat) (cb:Array Value) (A:Option Addr) (n c:Nat) (l:List Spn) (w:World) (eg:∀args w,(callFunc gc args).run Tryz.prog w = .ok (.enter gc args) w) (hE:Elems w w.heap.size 2 Kej A n l) (hn:n≤1099511627776)
  (hf:∀W,Below w.heap.size w W→∀(i:Nat) (y:Spn),l[i]? = some y→Calls Tryz.prog gc (#[.agg (Kej y).toArray]++cb) W fun e w'=>e = .returned (.bool (f y))∧Grown W w') :
  Calls Tryz.prog 190 #[.slice A n c,.func (.func gc) #[] cb] w fun e w'=>(∃k:Int,e = .returned (.int .i64 k)∧decide (0≤k)=l.any f)∧Grown w w':=by
 have HE:=Jh hE;have HF:=Jh hf;clear hE hf;go_enter Tryz.func190,Tryz.ntmps190
 go_wp2
 go_loopg [8] n (fun kx s8 wr=>∃i:Nat,s8 = .int .i64 (i:Int)∧i+kx=n∧Hid ((l.take i).any f=false)∧Hid (Grown w wr))
 case atStart=>exact ⟨0,rfl,by omega,(by rw[List.take_zero];rfl:(l.take 0).any f=false),Grown.refl _⟩
 case round=>
  obtain ⟨i,rfl,hi,HA,HG⟩:=hrel;rcases Nat.lt_or_ge i n with hlt | hge
  ·have hlz:(i:Int) < (n:Int):=by omega
   obtain ⟨b,off,hA,hb,hc⟩:=HE.out.2 (by omega);have hl:=HE.out.len;obtain ⟨y,hy⟩:∃y,l[i]? = some y:=⟨l[i]'(by omega),List.getElem?_eq_getElem _⟩;have hcell:∀r v,r < 2→(Kej y)[r]? = some v→wr.cell? ⟨b,off+i*2+r,none⟩=some v:=fun r v _ hv=>(HG.out.below.cell (p:=⟨b,off+i*2+r,none⟩) hb).trans (hc i y hy r v hv)
   have hbl:b < wr.heap.size:=Nat.lt_of_lt_of_le hb HG.out.below.size;have hcy:=HF.out wr HG.out.below i y hy
   have HTK:Hid ((l.take (i+1)).any f=f y):=by
    show _=_
    rw[List.take_add_one,hy,List.any_append,HA.out];simp
   have HAN:Hid (f y=true→l.any f=true):=fun h=>List.any_eq_true.2 ⟨y,List.mem_of_getElem? hy,h⟩
   subst hA;obtain ⟨r,hr⟩:∃r,r=f y:=⟨_,rfl⟩;rw[←hr] at hcy HTK HAN;obtain ⟨y1,y2⟩:=y;unfold Kej at hcy;dsimp only at hcy;have HCY:=Jh hcy;have k0:wr.cell? ⟨b,off+i*2,none⟩=some (.int .i64 y1):=hcell 0 _ (by decide) rfl;have k1:wr.cell? ⟨b,off+i*2+1,none⟩=some (.int .i64 y2):=hcell 1 _ (by decide) rfl;clear hc hl hcell hcy hr hy hb;go_wp2_with fail
   refine (HCY.out).mono ?_;rintro _ w5 ⟨rfl,hg5⟩;have HG5:Hid (Grown w w5):=HG.out.trans hg5;clear hg5 HG k0 k1 hbl HCY
   cases r with
   | true=>
    go_wp2_with fail
    go_ret
    exact ⟨⟨(i:Int),rfl,by rw[HAN.out (by first | exact rfl | trivial)];exact decide_eq_true (by omega)⟩,HG5.out⟩
   | false=>
    clear HAN;go_wp2_with fail
    go_roundg (n - (i+1))
    case measure=>omega
    case rel=>exact ⟨i+1,by first | rfl | go_num,by omega,HTK,HG5⟩
  ·have hlz:¬(i:Int) < (n:Int):=by omega
   go_wp2_with fail
   go_ret
   refine ⟨⟨-1,rfl,?_⟩,HG.out⟩;have h:=HA.out;rw[List.take_of_length_le (by rw[HE.out.len];exact hge)] at h;rw[h];rfl
theorem Kmy (f:Spn→Bool) (gc:Nat) (cb:Array Value) (A:Option Addr) (n c:Nat) (l:List Spn) (w:World) (eg:∀args w,(callFunc gc args).run Tryz.prog w = .ok (.enter gc args) w) (hE:Elems w w.heap.size 2 Kej A n l) (hn:n≤1099511627776)
  (hf:∀W,Below w.heap.size w W→∀(i:Nat) (y:Spn),l[i]? = some y→Calls Tryz.prog gc (#[.agg (Kej y).toArray]++cb) W fun e w'=>e = .returned (.bool (f y))∧Grown W w') :
  Calls Tryz.prog 157 #[.slice A n c,.func (.func gc) #[] cb] w fun e w'=>e = .returned (.bool (l.any f))∧Grown w w':=by
 have HI:=Jh (Kso f gc cb A n c l w eg hE hn hf);clear hE hf;go_enter Tryz.func157,Tryz.ntmps157
 go_wp2_with fail
 refine (HI.out).mono ?_;rintro _ w1 ⟨⟨k,rfl,hk⟩,hg⟩;have HG:=Jh hg;have HK:=Jh hk;clear hg hk;go_wp2_with fail
 go_ret
 exact ⟨by first | (rw[←HK.out];rfl) | (rw[←HK.out]),HG.out⟩
theorem Ksn (f:(Hd4×GoneP)→Bool) (gc:Nat) (cb:Array Value) (A:Option Addr) (n c:Nat) (l:List (Hd4×GoneP)) (w:World) (eg:∀args w,(callFunc gc args).run Tryz.prog w = .ok (.enter gc args) w) (hE:Elems w w.heap.size 4 encHG A n l) (hn:n≤1099511627776)
  (hf:∀W,Below w.heap.size w W→∀(i:Nat) (y:(Hd4×GoneP)),l[i]? = some y→Calls Tryz.prog gc (#[.agg (encHG y).toArray]++cb) W fun e w'=>e = .returned (.bool (f y))∧Grown W w') :
  Calls Tryz.prog 156 #[.slice A n c,.func (.func gc) #[] cb] w fun e w'=>(∃k:Int,e = .returned (.int .i64 k)∧decide (0≤k)=l.any f)∧Grown w w':=by
 have HE:=Jh hE;have HF:=Jh hf;clear hE hf;go_enter Tryz.func156,Tryz.ntmps156
 go_wp2
 go_loopg [8] n (fun kx s8 wr=>∃i:Nat,s8 = .int .i64 (i:Int)∧i+kx=n∧Hid ((l.take i).any f=false)∧Hid (Grown w wr))
 case atStart=>exact ⟨0,rfl,by omega,(by rw[List.take_zero];rfl:(l.take 0).any f=false),Grown.refl _⟩
 case round=>
  obtain ⟨i,rfl,hi,HA,HG⟩:=hrel;rcases Nat.lt_or_ge i n with hlt | hge
  ·have hlz:(i:Int) < (n:Int):=by omega
   obtain ⟨b,off,hA,hb,hc⟩:=HE.out.2 (by omega);have hl:=HE.out.len;obtain ⟨y,hy⟩:∃y,l[i]? = some y:=⟨l[i]'(by omega),List.getElem?_eq_getElem _⟩;have hcell:∀r v,r < 4→(encHG y)[r]? = some v→wr.cell? ⟨b,off+i*4+r,none⟩=some v:=fun r v _ hv=>(HG.out.below.cell (p:=⟨b,off+i*4+r,none⟩) hb).trans (hc i y hy r v hv)
   have hbl:b < wr.heap.size:=Nat.lt_of_lt_of_le hb HG.out.below.size;have hcy:=HF.out wr HG.out.below i y hy
   have HTK:Hid ((l.take (i+1)).any f=f y):=by
    show _=_
    rw[List.take_add_one,hy,List.any_append,HA.out];simp
   have HAN:Hid (f y=true→l.any f=true):=fun h=>List.any_eq_true.2 ⟨y,List.mem_of_getElem? hy,h⟩
   subst hA;obtain ⟨r,hr⟩:∃r,r=f y:=⟨_,rfl⟩;rw[←hr] at hcy HTK HAN;obtain ⟨⟨⟨A1,n1,c1⟩,⟨A2,n2,c2⟩,⟨A3,n3,c3⟩,⟨A4,n4,c4⟩⟩,gp⟩:=y;unfold encHG encH4 at hcy;dsimp only at hcy;have HCY:=Jh hcy;have k0:wr.cell? ⟨b,off+i*4,none⟩=some (.slice A1 n1 c1):=hcell 0 _ (by decide) rfl;have k1:wr.cell? ⟨b,off+i*4+1,none⟩=some (.slice A2 n2 c2):=hcell 1 _ (by decide) rfl;have k2:wr.cell? ⟨b,off+i*4+2,none⟩=some (.slice A3 n3 c3):=hcell 2 _ (by decide) rfl;have k3:wr.cell? ⟨b,off+i*4+3,none⟩=some (.slice A4 n4 c4):=hcell 3 _ (by decide) rfl;clear hc hl hcell hcy hr hy hb;go_wp2_with fail
   refine (HCY.out).mono ?_;rintro _ w5 ⟨rfl,hg5⟩;have HG5:Hid (Grown w w5):=HG.out.trans hg5;clear hg5 HG k0 k1 k2 k3 hbl HCY
   cases r with
   | true=>
    go_wp2_with fail
    go_ret
    exact ⟨⟨(i:Int),rfl,by rw[HAN.out (by first | exact rfl | trivial)];exact decide_eq_true (by omega)⟩,HG5.out⟩
   | false=>
    clear HAN;go_wp2_with fail
    go_roundg (n - (i+1))
    case measure=>omega
    case rel=>exact ⟨i+1,by first | rfl | go_num,by omega,HTK,HG5⟩
  ·have hlz:¬(i:Int) < (n:Int):=by omega
   go_wp2_with fail
   go_ret
   refine ⟨⟨-1,rfl,?_⟩,HG.out⟩;have h:=HA.out;rw[List.take_of_length_le (by rw[HE.out.len];exact hge)] at h;rw[h];rfl
theorem Kmx (f:(Hd4×GoneP)→Bool) (gc:Nat) (cb:Array Value) (A:Option Addr) (n c:Nat) (l:List (Hd4×GoneP)) (w:World) (eg:∀args w,(callFunc gc args).run Tryz.prog w = .ok (.enter gc args) w) (hE:Elems w w.heap.size 4 encHG A n l) (hn:n≤1099511627776)
  (hf:∀W,Below w.heap.size w W→∀(i:Nat) (y:(Hd4×GoneP)),l[i]? = some y→Calls Tryz.prog gc (#[.agg (encHG y).toArray]++cb) W fun e w'=>e = .returned (.bool (f y))∧Grown W w') :
  Calls Tryz.prog 95 #[.slice A n c,.func (.func gc) #[] cb] w fun e w'=>e = .returned (.bool (l.any f))∧Grown w w':=by
 have HI:=Jh (Ksn f gc cb A n c l w eg hE hn hf);clear hE hf;go_enter Tryz.func95,Tryz.ntmps95
 go_wp2_with fail
 refine (HI.out).mono ?_;rintro _ w1 ⟨⟨k,rfl,hk⟩,hg⟩;have HG:=Jh hg;have HK:=Jh hk;clear hg hk;go_wp2_with fail
 go_ret
 exact ⟨by first | (rw[←HK.out];rfl) | (rw[←HK.out]),HG.out⟩
def inS (t:Int) (s:Spn):Bool:=decide (s.frm≤t) && decide (t≤s.to_)
def hasF (l:List Spn) (t:Int):Bool:=l.any (inS t)
theorem Kxx (s:Spn) (t:Int) (p:Nat) (W:World) (hp:Blk W p 2 #[.int .i64 t]):Calls Tryz.prog 158 #[.agg (Kej s).toArray,.pointer (some ⟨p,0,none⟩)] W fun e w'=>e = .returned (.bool (inS t s))∧Grown W w':=by
 obtain ⟨a,b⟩:=s;have p0:=hp.cell 0;simp at p0;have hpl:=hp.lt;obtain ⟨r,hr⟩:∃r,r=inS t ⟨a,b⟩:=⟨_,rfl⟩;rw[←hr];have HR:=Jh hr;unfold Kej;dsimp only;clear hr hp
 by_cases h1:a≤t
 ·obtain ⟨r2,hr2⟩:∃r2,decide (t≤b)=r2:=⟨_,rfl⟩;have e:r=r2:=by rw[HR.out];unfold inS;dsimp only;rw[decide_eq_true h1,hr2];rfl
  subst e;have d1:decide (a≤t)=true:=decide_eq_true h1;go_enter Tryz.func158,Tryz.ntmps158
  go_wp2_with fail
  go_ret
  exact ⟨by first | rfl | (rw[←hr2];rfl),(Grown.refl _).alloc _⟩
 ·have e:r=false:=by rw[HR.out];unfold inS;dsimp only;rw[decide_eq_false h1];rfl
  subst e;have d1:decide (a≤t)=false:=decide_eq_false h1;go_enter Tryz.func158,Tryz.ntmps158
  go_wp2_with fail
  go_ret
  exact ⟨rfl,(Grown.refl _).alloc _⟩
theorem Qae (l:List Spn) (t:Int) (A:Option Addr) (n c:Nat) (w:World) (hE:Elems w w.heap.size 2 Kej A n l) (hn:n≤1099511627776) :
  Calls Tryz.prog 97 #[.slice A n c,.int .i64 t] w fun e w'=>e = .returned (.bool (hasF l t))∧Grown w w':=by
 obtain ⟨w1,hw1⟩:∃x,x=w.alloc (.cells #[.int .i64 t] 2):=⟨_,rfl⟩;have hg1:Grown w w1:=by rw[hw1];exact (Grown.refl _).alloc _
 have hb:Blk w1 w.heap.size 2 #[.int .i64 t]:=by rw[hw1];exact Blk.new _ _ _
 have eg:∀args w,(callFunc 158 args).run Tryz.prog w = .ok (.enter 158 args) w:=enters_of Tryz.func158 (by kernel_rfl) rfl;have HC:=Jh (Kmy (inS t) 158 #[.pointer (some ⟨w.heap.size,0,none⟩)] A n c l w1 eg ((hE.below hg1.below).more hg1.below.size) hn (fun W hW i y _=>Kxx y t _ W (hb.below hW hb.lt)));have HG:=Jh hg1;have HW1:=Jh hw1;clear hg1 hb hw1 hE eg;go_enter Tryz.func97,Tryz.ntmps97
 go_upto_region 1 with fail
 have hw1:=HW1.out;rw[←hw1];clear hw1;go_wp2_with fail
 refine (HC.out).mono ?_;rintro _ w2 ⟨rfl,hg⟩;have HG2:=Jh (HG.out.trans hg);clear hg;go_wp2_with fail
 go_ret
 exact ⟨rfl,HG2.out⟩
def Hd4.sp (h:Hd4) (r:Nat):Hd:=if r=0 then h.s0 else if r=1 then h.s1 else h.s2
structure Kjk (w:World) (h:Hd4) (g:GoneP):Prop where
 l:Elems w w.heap.size 2 encLb h.l.A h.l.n g.labels
 z:h.l.n≤1099511627776
 s:∀r,r < 3→Elems w w.heap.size 2 Kej (h.sp r).A (h.sp r).n (g.sp r)∧(h.sp r).n≤1099511627776
theorem Kjk.below {w w':World} {h:Hd4} {g:GoneP} (x:Kjk w h g) (hb:Below w.heap.size w w'):Kjk w' h g:=
 ⟨(x.l.below hb).more hb.size,x.z,fun r hr=>⟨((x.s r hr).1.below hb).more hb.size,(x.s r hr).2⟩⟩
def goneF (r:Nat) (l:List Lb) (t:Int) (g:GoneP):Bool:=decide (cmpL g.labels l=0) && hasF (g.sp r) t
attribute [local go_sem] Kbs.cell
theorem Kri (r:Nat) (hr:r < 3) (l:List Lb) (t:Int) (h:Hd4) (g:GoneP) (hs:Hd3) (ps pr pt:Nat) (W:World) (hat:Kjk W h g) (hl:Elems W W.heap.size 2 encLb hs.l.A hs.l.n l) (hlz:hs.l.n≤1099511627776)
  (hps:Blk W ps 58 (encH3 hs).toArray) (hpr:Blk W pr 3 #[.int .i64 (r:Int)]) (hpt:Blk W pt 2 #[.int .i64 t]) :
  Calls Tryz.prog 96 #[.agg (encH4 h).toArray,.pointer (some ⟨ps,0,none⟩),.pointer (some ⟨pr,0,none⟩),.pointer (some ⟨pt,0,none⟩)] W fun e w'=>e = .returned (.bool (goneF r l t g))∧Grown W w':=by
 obtain ⟨cc,hcc⟩:∃cc,cc=cmpL g.labels l:=⟨_,rfl⟩
 have hcmp:∀X:World,Below W.heap.size W X→Calls Tryz.prog 60 #[.slice h.l.A h.l.n h.l.c,.slice hs.l.A hs.l.n hs.l.c] X fun e w'=>e = .returned (.int .i64 cc)∧Grown X w':=fun X hb=>
  Kdv g.labels l h.l.A hs.l.A h.l.n hs.l.n _ _ X cc hcc.symm ((hat.l.below hb).more hb.size) ((hl.below hb).more hb.size) (Nat.le_trans hat.z (by decide)) (Nat.le_trans hlz (by decide))
 have hhas:∀X:World,Below W.heap.size W X→Calls Tryz.prog 97 #[.slice (h.sp r).A (h.sp r).n (h.sp r).c,.int .i64 t] X fun e w'=>e = .returned (.bool (hasF (g.sp r) t))∧Grown X w':=fun X hb=>
  Qae (g.sp r) t _ _ _ X (((hat.s r hr).1.below hb).more hb.size) (hat.s r hr).2
 have HCMP:=Jh hcmp;have HHAS:=Jh hhas;obtain ⟨hv,hhv⟩:∃q,q=hasF (g.sp r) t:=⟨_,rfl⟩;have HRES:Hid (goneF r l t g=(decide (cc=0) && hv)):=by show _=_;unfold goneF;rw[hcc,hhv]
 rw[←hhv] at HHAS;obtain ⟨⟨A1,n1,c1⟩,⟨A2,n2,c2⟩,⟨A3,n3,c3⟩,⟨A4,n4,c4⟩⟩:=h;obtain ⟨⟨lA,ln,lc⟩,⟨sA,sn,sc⟩,⟨wA,wn,wc⟩⟩:=hs;unfold encH3 at hps;unfold encH4;dsimp only at HCMP HHAS hps ⊢;clear hcmp hhas hcc hhv hat hl hlz;obtain ⟨res,hres⟩:∃q,q=goneF r l t g:=⟨_,rfl⟩;rw[←hres];have HRES2:Hid (res=(decide (cc=0) && hv)):=by show _=_;rw[hres];exact HRES.out
 clear hres HRES;rcases (by omega:r=0∨r=1∨r=2) with rfl | rfl | rfl
 ·have HHS:Hid (∀X:World,Below W.heap.size W X→Calls Tryz.prog 97 #[.slice A2 n2 c2,.int .i64 t] X fun e w'=>e = .returned (.bool hv)∧Grown X w'):=HHAS.out;have s0:=hps.cell 0;have r0:=hpr.cell 0;have t0:=hpt.cell 0;simp at s0 r0 t0;have HPS:=Jh hps;have HPR:=Jh hpr;have HPT:=Jh hpt;clear HHAS s0 r0 t0 hps hpr hpt;go_enter Tryz.func96,Tryz.ntmps96
  go_upto_region 1 with fail
  obtain ⟨w1,hw1⟩:∃x,x=W.alloc (.cells #[.slice A1 n1 c1,.slice A2 n2 c2,.slice A3 n3 c3,.slice A4 n4 c4] 88):=⟨_,rfl⟩;obtain ⟨q,hq⟩:∃q,q=W.heap.size:=⟨_,rfl⟩;have hg1:Grown W w1:=by rw[hw1];exact (Grown.refl _).alloc _
  have hbq:Blk w1 q 88 #[.slice A1 n1 c1,.slice A2 n2 c2,.slice A3 n3 c3,.slice A4 n4 c4]:=by rw[hw1,hq];exact Blk.new _ _ _
  have HC1:Hid (∀X:Kbs w1,Calls Tryz.prog 60 #[.slice A1 n1 c1,.slice lA ln lc] X.w fun e w'=>e = .returned (.int .i64 cc)∧Grown X.w w'):=fun X=>HCMP.out X.w (hg1.below.trans (X.h.below.mono hg1.below.size))
  have HC2:Hid (∀X:Kbs w1,Calls Tryz.prog 97 #[.slice A2 n2 c2,.int .i64 t] X.w fun e w'=>e = .returned (.bool hv)∧Grown X.w w'):=fun X=>HHS.out X.w (hg1.below.trans (X.h.below.mono hg1.below.size))
  have HG1:=Jh hg1;have s0:=(HPS.out.below hg1.below HPS.out.lt).cell 0;have r0:=(HPR.out.below hg1.below HPR.out.lt).cell 0;have t0:=(HPT.out.below hg1.below HPT.out.lt).cell 0;have g0:=hbq.cell 0;have g1:=hbq.cell 1;simp at s0 r0 t0 g0 g1;have l1:=(HPS.out.below hg1.below HPS.out.lt).lt;have l2:=(HPR.out.below hg1.below HPR.out.lt).lt;have l3:=(HPT.out.below hg1.below HPT.out.lt).lt;have l4:=hbq.lt;rw[←hw1,←hq];clear hw1 hq hg1 hbq HCMP HHS;rcases Int.decEq cc 0 with hc | hc
  ·have d1:(cc == 0)=false:=beq_eq_false_iff_ne.2 hc;have d2:decide (cc=0)=false:=decide_eq_false hc;have hre:res=false:=by rw[HRES2.out,d2];rfl
   subst hre;clear HRES2;refine Kas 13 (by kernel_rfl) (by kernel_rfl) ?_;simp only[List.take_succ_cons,List.take_zero,List.drop_succ_cons,List.drop_zero]
   repeat (go_big_quiet_step (first | (go_at_call 60;exact Kat _ (HC1.out _)) | (go_at_call 97;exact Kat _ (HC2.out _))))
   refine wpQuiet_nil ?_;rintro w2 ⟨⟨_,hb2⟩,rfl⟩;have HB2:=Jh (HG1.out.trans hb2);clear hb2;go_wp2_with fail
   go_ret
   exact ⟨rfl,HB2.out⟩
  ·subst hc;have hre:res=hv:=by rw[HRES2.out];rfl
   subst hre;clear HRES2;refine Kas 13 (by kernel_rfl) (by kernel_rfl) ?_;simp only[List.take_succ_cons,List.take_zero,List.drop_succ_cons,List.drop_zero]
   repeat (go_big_quiet_step (first | (go_at_call 60;exact Kat _ (HC1.out _)) | (go_at_call 97;exact Kat _ (HC2.out _))))
   refine wpQuiet_nil ?_;rintro w2 ⟨⟨_,hb2⟩,rfl⟩;have HB2:=Jh (HG1.out.trans hb2);clear hb2;go_wp2_with fail
   go_ret
   exact ⟨rfl,HB2.out⟩
 ·have HHS:Hid (∀X:World,Below W.heap.size W X→Calls Tryz.prog 97 #[.slice A3 n3 c3,.int .i64 t] X fun e w'=>e = .returned (.bool hv)∧Grown X w'):=HHAS.out;have s0:=hps.cell 0;have r0:=hpr.cell 0;have t0:=hpt.cell 0;simp at s0 r0 t0;have HPS:=Jh hps;have HPR:=Jh hpr;have HPT:=Jh hpt;clear HHAS s0 r0 t0 hps hpr hpt;go_enter Tryz.func96,Tryz.ntmps96
  go_upto_region 1 with fail
  obtain ⟨w1,hw1⟩:∃x,x=W.alloc (.cells #[.slice A1 n1 c1,.slice A2 n2 c2,.slice A3 n3 c3,.slice A4 n4 c4] 88):=⟨_,rfl⟩;obtain ⟨q,hq⟩:∃q,q=W.heap.size:=⟨_,rfl⟩;have hg1:Grown W w1:=by rw[hw1];exact (Grown.refl _).alloc _
  have hbq:Blk w1 q 88 #[.slice A1 n1 c1,.slice A2 n2 c2,.slice A3 n3 c3,.slice A4 n4 c4]:=by rw[hw1,hq];exact Blk.new _ _ _
  have HC1:Hid (∀X:Kbs w1,Calls Tryz.prog 60 #[.slice A1 n1 c1,.slice lA ln lc] X.w fun e w'=>e = .returned (.int .i64 cc)∧Grown X.w w'):=fun X=>HCMP.out X.w (hg1.below.trans (X.h.below.mono hg1.below.size))
  have HC2:Hid (∀X:Kbs w1,Calls Tryz.prog 97 #[.slice A3 n3 c3,.int .i64 t] X.w fun e w'=>e = .returned (.bool hv)∧Grown X.w w'):=fun X=>HHS.out X.w (hg1.below.trans (X.h.below.mono hg1.below.size))
  have HG1:=Jh hg1;have s0:=(HPS.out.below hg1.below HPS.out.lt).cell 0;have r0:=(HPR.out.below hg1.below HPR.out.lt).cell 0;have t0:=(HPT.out.below hg1.below HPT.out.lt).cell 0;have g0:=hbq.cell 0;have g1:=hbq.cell 2;simp at s0 r0 t0 g0 g1;have l1:=(HPS.out.below hg1.below HPS.out.lt).lt;have l2:=(HPR.out.below hg1.below HPR.out.lt).lt;have l3:=(HPT.out.below hg1.below HPT.out.lt).lt;have l4:=hbq.lt;rw[←hw1,←hq];clear hw1 hq hg1 hbq HCMP HHS;rcases Int.decEq cc 0 with hc | hc
  ·have d1:(cc == 0)=false:=beq_eq_false_iff_ne.2 hc;have d2:decide (cc=0)=false:=decide_eq_false hc;have hre:res=false:=by rw[HRES2.out,d2];rfl
   subst hre;clear HRES2;refine Kas 13 (by kernel_rfl) (by kernel_rfl) ?_;simp only[List.take_succ_cons,List.take_zero,List.drop_succ_cons,List.drop_zero]
   repeat (go_big_quiet_step (first | (go_at_call 60;exact Kat _ (HC1.out _)) | (go_at_call 97;exact Kat _ (HC2.out _))))
   refine wpQuiet_nil ?_;rintro w2 ⟨⟨_,hb2⟩,rfl⟩;have HB2:=Jh (HG1.out.trans hb2);clear hb2;go_wp2_with fail
   go_ret
   exact ⟨rfl,HB2.out⟩
  ·subst hc;have hre:res=hv:=by rw[HRES2.out];rfl
   subst hre;clear HRES2;refine Kas 13 (by kernel_rfl) (by kernel_rfl) ?_;simp only[List.take_succ_cons,List.take_zero,List.drop_succ_cons,List.drop_zero]
   repeat (go_big_quiet_step (first | (go_at_call 60;exact Kat _ (HC1.out _)) | (go_at_call 97;exact Kat _ (HC2.out _))))
   refine wpQuiet_nil ?_;rintro w2 ⟨⟨_,hb2⟩,rfl⟩;have HB2:=Jh (HG1.out.trans hb2);clear hb2;go_wp2_with fail
   go_ret
   exact ⟨rfl,HB2.out⟩
 ·have HHS:Hid (∀X:World,Below W.heap.size W X→Calls Tryz.prog 97 #[.slice A4 n4 c4,.int .i64 t] X fun e w'=>e = .returned (.bool hv)∧Grown X w'):=HHAS.out;have s0:=hps.cell 0;have r0:=hpr.cell 0;have t0:=hpt.cell 0;simp at s0 r0 t0;have HPS:=Jh hps;have HPR:=Jh hpr;have HPT:=Jh hpt;clear HHAS s0 r0 t0 hps hpr hpt;go_enter Tryz.func96,Tryz.ntmps96
  go_upto_region 1 with fail
  obtain ⟨w1,hw1⟩:∃x,x=W.alloc (.cells #[.slice A1 n1 c1,.slice A2 n2 c2,.slice A3 n3 c3,.slice A4 n4 c4] 88):=⟨_,rfl⟩;obtain ⟨q,hq⟩:∃q,q=W.heap.size:=⟨_,rfl⟩;have hg1:Grown W w1:=by rw[hw1];exact (Grown.refl _).alloc _
  have hbq:Blk w1 q 88 #[.slice A1 n1 c1,.slice A2 n2 c2,.slice A3 n3 c3,.slice A4 n4 c4]:=by rw[hw1,hq];exact Blk.new _ _ _
  have HC1:Hid (∀X:Kbs w1,Calls Tryz.prog 60 #[.slice A1 n1 c1,.slice lA ln lc] X.w fun e w'=>e = .returned (.int .i64 cc)∧Grown X.w w'):=fun X=>HCMP.out X.w (hg1.below.trans (X.h.below.mono hg1.below.size))
  have HC2:Hid (∀X:Kbs w1,Calls Tryz.prog 97 #[.slice A4 n4 c4,.int .i64 t] X.w fun e w'=>e = .returned (.bool hv)∧Grown X.w w'):=fun X=>HHS.out X.w (hg1.below.trans (X.h.below.mono hg1.below.size))
  have HG1:=Jh hg1;have s0:=(HPS.out.below hg1.below HPS.out.lt).cell 0;have r0:=(HPR.out.below hg1.below HPR.out.lt).cell 0;have t0:=(HPT.out.below hg1.below HPT.out.lt).cell 0;have g0:=hbq.cell 0;have g1:=hbq.cell 3;simp at s0 r0 t0 g0 g1;have l1:=(HPS.out.below hg1.below HPS.out.lt).lt;have l2:=(HPR.out.below hg1.below HPR.out.lt).lt;have l3:=(HPT.out.below hg1.below HPT.out.lt).lt;have l4:=hbq.lt;rw[←hw1,←hq];clear hw1 hq hg1 hbq HCMP HHS;rcases Int.decEq cc 0 with hc | hc
  ·have d1:(cc == 0)=false:=beq_eq_false_iff_ne.2 hc;have d2:decide (cc=0)=false:=decide_eq_false hc;have hre:res=false:=by rw[HRES2.out,d2];rfl
   subst hre;clear HRES2;refine Kas 13 (by kernel_rfl) (by kernel_rfl) ?_;simp only[List.take_succ_cons,List.take_zero,List.drop_succ_cons,List.drop_zero]
   repeat (go_big_quiet_step (first | (go_at_call 60;exact Kat _ (HC1.out _)) | (go_at_call 97;exact Kat _ (HC2.out _))))
   refine wpQuiet_nil ?_;rintro w2 ⟨⟨_,hb2⟩,rfl⟩;have HB2:=Jh (HG1.out.trans hb2);clear hb2;go_wp2_with fail
   go_ret
   exact ⟨rfl,HB2.out⟩
  ·subst hc;have hre:res=hv:=by rw[HRES2.out];rfl
   subst hre;clear HRES2;refine Kas 13 (by kernel_rfl) (by kernel_rfl) ?_;simp only[List.take_succ_cons,List.take_zero,List.drop_succ_cons,List.drop_zero]
   repeat (go_big_quiet_step (first | (go_at_call 60;exact Kat _ (HC1.out _)) | (go_at_call 97;exact Kat _ (HC2.out _))))
   refine wpQuiet_nil ?_;rintro w2 ⟨⟨_,hb2⟩,rfl⟩;have HB2:=Jh (HG1.out.trans hb2);clear hb2;go_wp2_with fail
   go_ret
   exact ⟨rfl,HB2.out⟩
structure Gones (w:World) (A:Option Addr) (n:Nat) (hs:List (Hd4×GoneP)):Prop where
 e:Elems w w.heap.size 4 encHG A n hs
 a:∀x∈hs,Kjk w x.1 x.2
 n:n≤1099511627776
theorem Gones.below {w w':World} {A:Option Addr} {n:Nat} {hs:List (Hd4×GoneP)} (h:Gones w A n hs) (hb:Below w.heap.size w w'):Gones w' A n hs:=
 ⟨(h.e.below hb).more hb.size,fun x hx=>(h.a x hx).below hb,h.n⟩
def Kcq (hs:List (Hd4×GoneP)) (r:Nat) (l:List Lb) (t:Int):Bool:=hs.any fun x=>goneF r l t x.2
theorem Kkn (hs:List (Hd4×GoneP)) (A:Option Addr) (n c r:Nat) (hr:r < 3) (l:List Lb) (t:Int) (h:Hd3) (pg pr:Nat) (W:World) (hG:Gones W A n hs) (hl:Elems W W.heap.size 2 encLb h.l.A h.l.n l) (hlz:h.l.n≤1099511627776)
  (hpg:Blk W pg 22 #[.slice A n c]) (hpr:Blk W pr 3 #[.int .i64 (r:Int)]) :
  Calls Tryz.prog 94 #[.agg (encH3 h).toArray,.int .i64 t,.pointer (some ⟨pg,0,none⟩),.pointer (some ⟨pr,0,none⟩)] W fun e w'=>e = .returned (.bool (Kcq hs r l t))∧Grown W w':=by
 obtain ⟨w2,hw2⟩:∃x,x=(W.alloc (.cells (encH3 h).toArray 58)).alloc (.cells #[.int .i64 t] 2):=⟨_,rfl⟩;have hg2:Grown W w2:=by rw[hw2];exact ((Grown.refl _).alloc _).alloc _
 have hps:Blk w2 W.heap.size 58 (encH3 h).toArray:=by rw[hw2];exact (Blk.new _ _ _).alloc _
 have hpt:Blk w2 (W.heap.size+1) 2 #[.int .i64 t]:=by rw[hw2];exact Blk.newAt (by simp)
 have hb2:=hg2.below;have hpg2:=hpg.below hb2 hpg.lt;have hpr2:=hpr.below hb2 hpr.lt;have eg:∀args w,(callFunc 96 args).run Tryz.prog w = .ok (.enter 96 args) w:=enters_of Tryz.func96 (by kernel_rfl) rfl
 have HC:=Jh (Kmx (fun x=>goneF r l t x.2) 96 #[.pointer (some ⟨W.heap.size,0,none⟩),.pointer (some ⟨pr,0,none⟩),.pointer (some ⟨W.heap.size+1,0,none⟩)] A n c hs w2 eg ((hG.e.below hb2).more hb2.size) hG.n
  (fun X hX i y hy=>Kri r hr l t y.1 y.2 h W.heap.size pr (W.heap.size+1) X ((hG.a y (List.mem_of_getElem? hy)).below (hb2.trans (hX.mono hb2.size))) ((hl.below (hb2.trans (hX.mono hb2.size))).more (hb2.trans (hX.mono hb2.size)).size) hlz (hps.below hX hps.lt) (hpr2.below hX hpr2.lt) (hpt.below hX hpt.lt)))
 have HG2:=Jh hg2;have HW2:=Jh hw2;have HPG2:=Jh hpg2;obtain ⟨⟨lA,ln,lc⟩,⟨sA,sn,sc⟩,⟨wA,wn,wc⟩⟩:=h;unfold encH3 at HW2 ⊢;dsimp only at HW2 ⊢;clear hg2 hps hpt hb2 hpg2 hpr2 hw2 hG hl hpg hpr eg;go_enter Tryz.func94,Tryz.ntmps94
 go_upto_region 1 with fail
 have hw2:=HW2.out;rw[←hw2];clear hw2;have g0:=HPG2.out.cell 0;simp at g0;have gl:=HPG2.out.lt;go_wp2_with fail
 refine (HC.out).mono ?_;rintro _ w3 ⟨rfl,hg⟩;have HG3:=Jh (HG2.out.trans hg);clear hg;go_wp2_with fail
 go_ret
 exact ⟨rfl,HG3.out⟩
theorem Ktw (hs:List (Hd4×GoneP)) (A:Option Addr) (n c r:Nat) (hr:r < 3) (l:List Lb) (h:Hd3) (y:Smp) (p pg pr:Nat) (W:World) (hG:Gones W A n hs) (hl:Elems W W.heap.size 2 encLb h.l.A h.l.n l) (hlz:h.l.n≤1099511627776)
  (hp:Blk W p 184 #[.func (.func 94) #[] #[.pointer (some ⟨pg,0,none⟩),.pointer (some ⟨pr,0,none⟩)]]) (hpg:Blk W pg 22 #[.slice A n c]) (hpr:Blk W pr 3 #[.int .i64 (r:Int)]) :
  Calls Tryz.prog 98 #[.agg (encH3 h).toArray,.agg (Kad y).toArray,.pointer (some ⟨pr,0,none⟩),.pointer (some ⟨p,0,none⟩)] W fun e w'=>e = .returned (.bool (decide (r=0) && !Kcq hs r l y.t))∧Grown W w':=by
 have ht:∀X:World,Below W.heap.size W X→Calls Tryz.prog 94 #[.agg (encH3 h).toArray,.int .i64 y.t,.pointer (some ⟨pg,0,none⟩),.pointer (some ⟨pr,0,none⟩)] X fun e w'=>e = .returned (.bool (Kcq hs r l y.t))∧Grown X w':=fun X hX=>
  Kkn hs A n c r hr l y.t h pg pr X (hG.below hX) ((hl.below hX).more hX.size) hlz (hpg.below hX hpg.lt) (hpr.below hX hpr.lt)
 have egT:∀args w,(callFunc 94 args).run Tryz.prog w = .ok (.enter 94 args) w:=enters_of Tryz.func94 (by kernel_rfl) rfl;obtain ⟨tk,htk⟩:∃q,q=Kcq hs r l y.t:=⟨_,rfl⟩;rw[←htk] at ht ⊢;have HT:=Jh ht;have p0:=hp.cell 0;have r0:=hpr.cell 0;simp at p0 r0;have pl:=hp.lt;have rl:=hpr.lt;obtain ⟨⟨lA,ln,lc⟩,⟨sA,sn,sc⟩,⟨wA,wn,wc⟩⟩:=h;obtain ⟨y1,y2⟩:=y;unfold encH3 Kad;unfold encH3 at HT;dsimp only at HT ⊢;clear ht htk hG hl hp hpg hpr;rcases Nat.eq_zero_or_pos r with h0 | h0
 ·subst h0;simp only[decide_true,Bool.true_and];have HT0:Hid (∀X:World,Below W.heap.size W X→Calls Tryz.prog 94 #[.agg #[.slice lA ln lc,.slice sA sn sc,.slice wA wn wc],.int .i64 y1,.pointer (some ⟨pg,0,none⟩),.pointer (some ⟨pr,0,none⟩)] X fun e w'=>e = .returned (.bool tk)∧Grown X w'):=HT.out;go_enter Tryz.func98,Tryz.ntmps98
  go_wp2_with fail
  refine (HT0.out _ (((Below.refl _ _).alloc (Nat.le_refl _) _).alloc (by simp) _)).mono ?_;rintro _ w1 ⟨rfl,hg⟩;have HG:=Jh hg;clear hg;go_wp2_with fail
  go_ret
  exact ⟨by cases tk <;> rfl,(((Grown.refl _).alloc _).alloc _).trans HG.out⟩
 ·have hn:r≠0:=by omega
  have d1:((r:Int) == 0)=false:=beq_eq_false_iff_ne.2 (by omega);have d2:((r:Int) != 0)=true:=bne_iff_ne.2 (by omega);have d3:decide ((r:Int)=0)=false:=decide_eq_false (by omega);rw[show decide (r=0)=false from decide_eq_false hn];simp only[Bool.false_and];have HT0:Hid (∀X:World,Below W.heap.size W X→Calls Tryz.prog 94 #[.agg #[.slice lA ln lc,.slice sA sn sc,.slice wA wn wc],.int .i64 y1,.pointer (some ⟨pg,0,none⟩),.pointer (some ⟨pr,0,none⟩)] X fun e w'=>e = .returned (.bool tk)∧Grown X w'):=HT.out;go_enter Tryz.func98,Tryz.ntmps98
  go_wp2_with fail
  go_ret
  exact ⟨rfl,((Grown.refl _).alloc _).alloc _⟩
theorem Ktx (hs:List (Hd4×GoneP)) (A:Option Addr) (n c r:Nat) (hr:r < 3) (l:List Lb) (h:Hd3) (y:Wnd) (p pg pr:Nat) (W:World) (hG:Gones W A n hs) (hl:Elems W W.heap.size 2 encLb h.l.A h.l.n l) (hlz:h.l.n≤1099511627776)
  (hp:Blk W p 184 #[.func (.func 94) #[] #[.pointer (some ⟨pg,0,none⟩),.pointer (some ⟨pr,0,none⟩)]]) (hpg:Blk W pg 22 #[.slice A n c]) (hpr:Blk W pr 3 #[.int .i64 (r:Int)]) :
  Calls Tryz.prog 99 #[.agg (encH3 h).toArray,.agg (Kai y).toArray,.pointer (some ⟨pr,0,none⟩),.pointer (some ⟨p,0,none⟩)] W fun e w'=>e = .returned (.bool (decide (r≠0) && !Kcq hs r l y.start))∧Grown W w':=by
 have ht:∀X:World,Below W.heap.size W X→Calls Tryz.prog 94 #[.agg (encH3 h).toArray,.int .i64 y.start,.pointer (some ⟨pg,0,none⟩),.pointer (some ⟨pr,0,none⟩)] X fun e w'=>e = .returned (.bool (Kcq hs r l y.start))∧Grown X w':=fun X hX=>
  Kkn hs A n c r hr l y.start h pg pr X (hG.below hX) ((hl.below hX).more hX.size) hlz (hpg.below hX hpg.lt) (hpr.below hX hpr.lt)
 have egT:∀args w,(callFunc 94 args).run Tryz.prog w = .ok (.enter 94 args) w:=enters_of Tryz.func94 (by kernel_rfl) rfl;obtain ⟨tk,htk⟩:∃q,q=Kcq hs r l y.start:=⟨_,rfl⟩;rw[←htk] at ht ⊢;have HT:=Jh ht;have p0:=hp.cell 0;have r0:=hpr.cell 0;simp at p0 r0;have pl:=hp.lt;have rl:=hpr.lt;obtain ⟨⟨lA,ln,lc⟩,⟨sA,sn,sc⟩,⟨wA,wn,wc⟩⟩:=h;obtain ⟨y1,y2,y3,y4,y5,y6⟩:=y;unfold encH3 Kai;unfold encH3 at HT;dsimp only at HT ⊢;clear ht htk hG hl hp hpg hpr;rcases Nat.eq_zero_or_pos r with h0 | h0
 ·subst h0;simp only[ne_eq,not_true_eq_false,decide_false,Bool.false_and];have HT0:Hid (∀X:World,Below W.heap.size W X→Calls Tryz.prog 94 #[.agg #[.slice lA ln lc,.slice sA sn sc,.slice wA wn wc],.int .i64 y1,.pointer (some ⟨pg,0,none⟩),.pointer (some ⟨pr,0,none⟩)] X fun e w'=>e = .returned (.bool tk)∧Grown X w'):=HT.out;go_enter Tryz.func99,Tryz.ntmps99
  go_wp2_with fail
  go_ret
  exact ⟨rfl,((Grown.refl _).alloc _).alloc _⟩
 ·have hn:r≠0:=by omega
  have d1:((r:Int) == 0)=false:=beq_eq_false_iff_ne.2 (by omega);have d2:((r:Int) != 0)=true:=bne_iff_ne.2 (by omega);have d3:decide ((r:Int)=0)=false:=decide_eq_false (by omega);rw[show decide (r≠0)=true from decide_eq_true hn];simp only[Bool.true_and];have HT0:Hid (∀X:World,Below W.heap.size W X→Calls Tryz.prog 94 #[.agg #[.slice lA ln lc,.slice sA sn sc,.slice wA wn wc],.int .i64 y1,.pointer (some ⟨pg,0,none⟩),.pointer (some ⟨pr,0,none⟩)] X fun e w'=>e = .returned (.bool tk)∧Grown X w'):=HT.out;go_enter Tryz.func99,Tryz.ntmps99
  go_wp2_with fail
  refine (HT0.out _ (((Below.refl _ _).alloc (Nat.le_refl _) _).alloc (by simp) _)).mono ?_;rintro _ w1 ⟨rfl,hg⟩;have HG:=Jh hg;clear hg;go_wp2_with fail
  go_ret
  exact ⟨by cases tk <;> rfl,(((Grown.refl _).alloc _).alloc _).trans HG.out⟩
def Kbr (res:Int) (hs:List (Hd4×GoneP)) (ss:List Ser):List Ser:=if 0≤res∧res < 3 then keptF (fun s x=>decide (res.toNat=0) && !Kcq hs res.toNat s.labels x.t) (fun s x=>decide (res.toNat≠0) && !Kcq hs res.toNat s.labels x.start) ss else []
theorem Kls (res:Int) (A:Option Addr) (n c:Nat) (ss:List Ser) (B:Option Addr) (k d:Nat) (hs:List (Hd4×GoneP)) (w:World) (h:SersZ w A n ss) (hG:Gones w B k hs) :
  Calls Tryz.prog 34 #[.int .i64 res,.slice A n c,.slice B k d] w fun e w'=>∃(A':Option Addr) (n' c':Nat),e = .returned (.slice A' n' c')∧Sers w' A' n' (Kbr res hs ss)∧n'≤c'∧Below w.heap.size w w':=by
 by_cases hres:0≤res∧res < 3
 ·obtain ⟨r,rfl⟩:∃r:Nat,res=(r:Int):=⟨res.toNat,by omega⟩;have hr3:r < 3:=by omega
  have hst:Kbr (r:Int) hs ss=keptF (fun s x=>decide (r=0) && !Kcq hs r s.labels x.t) (fun s x=>decide (r≠0) && !Kcq hs r s.labels x.start) ss:=by unfold Kbr;rw[if_pos hres,Int.toNat_natCast]
  rw[hst];obtain ⟨w3,hw3⟩:∃x,x=((w.alloc (.cells #[.int .i64 (r:Int)] 3)).alloc (.cells #[.slice B k d] 22)).alloc (.cells #[.func (.func 94) #[] #[.pointer (some ⟨w.heap.size+1,0,none⟩),.pointer (some ⟨w.heap.size,0,none⟩)]] 184):=⟨_,rfl⟩;have hb3:Below w.heap.size w w3:=by rw[hw3];exact (((Below.refl _ _).alloc (Nat.le_refl _) _).alloc (by simp) _).alloc (by simp;omega) _
  have hf:Blk w3 w.heap.size 3 #[.int .i64 (r:Int)]:=by rw[hw3];exact ((Blk.new _ _ _).alloc _).alloc _
  have ht:Blk w3 (w.heap.size+1) 22 #[.slice B k d]:=by rw[hw3];exact (Blk.newAt (by simp)).alloc _
  have hp:Blk w3 (w.heap.size+2) 184 #[.func (.func 94) #[] #[.pointer (some ⟨w.heap.size+1,0,none⟩),.pointer (some ⟨w.heap.size,0,none⟩)]]:=by rw[hw3];exact Blk.newAt (by simp)
  have egS:∀args w,(callFunc 98 args).run Tryz.prog w = .ok (.enter 98 args) w:=enters_of Tryz.func98 (by kernel_rfl) rfl;have egW:∀args w,(callFunc 99 args).run Tryz.prog w = .ok (.enter 99 args) w:=enters_of Tryz.func99 (by kernel_rfl) rfl;obtain ⟨hs0,hE,hl,hat⟩:=h.s.below hb3;have hG3:=hG.below hb3
  have hlab:∀(i:Nat) (x:Hd3) (s:Ser),hs0[i]? = some x→ss[i]! = s→x.l.n≤1099511627776∧Elems w3 w3.heap.size 2 encLb x.l.A x.l.n s.labels:=fun i x s hi hs=>by
   have a:=hat i x hi;rw[hs] at a
   have hmem:s∈ss:=by
    have hil:i < ss.length:=by rw[hl,←hE.len];exact (List.getElem?_eq_some_iff.1 hi).1
    rw[←hs,getElem!_pos ss i hil];exact List.getElem_mem _
   refine ⟨?_,a.l⟩;have h1:=a.l.len;have h2:=(h.z s hmem).1;omega
  have HK:=Jh (Kya (w0:=w3) (fun s x=>decide (r=0) && !Kcq hs r s.labels x.t) (fun s x=>decide (r≠0) && !Kcq hs r s.labels x.start) 98 99 #[.pointer (some ⟨w.heap.size,0,none⟩),.pointer (some ⟨w.heap.size+2,0,none⟩)] #[.pointer (some ⟨w.heap.size,0,none⟩),.pointer (some ⟨w.heap.size+2,0,none⟩)] A n c hs0 ss egS egW hE hl hat h.z h.n
   (fun W hW i x s hi hs' y _=>Ktw hs B k d r hr3 s.labels x y _ _ _ W (hG3.below hW) (((hlab i x s hi hs').2.below hW).more hW.size) (hlab i x s hi hs').1 (hp.below hW hp.lt) (ht.below hW ht.lt) (hf.below hW hf.lt))
   (fun W hW i x s hi hs' y _=>Ktx hs B k d r hr3 s.labels x y _ _ _ W (hG3.below hW) (((hlab i x s hi hs').2.below hW).more hW.size) (hlab i x s hi hs').1 (hp.below hW hp.lt) (ht.below hW ht.lt) (hf.below hW hf.lt)))
  have HB3:=Jh hb3;have HW3:=Jh hw3;have d1:¬(r:Int) < 0:=by omega
  have d2:(r:Int) < 3:=by omega
  clear hf ht hp egS egW hE hl hat h hb3 hw3 hG hG3 hlab hst hres;go_enter Tryz.func34,Tryz.ntmps34
  go_upto_region 4 with fail
  have hw3:=HW3.out;rw[←hw3];clear hw3;go_wp2_with fail
  refine HK.out.mono ?_;rintro _ w4 ⟨A',n',c',rfl,h1,h2,h3⟩;have HF:=Jh (And.intro h1 (And.intro h2 (HB3.out.trans (h3.mono HB3.out.size))));clear h1 h2 h3 HK;go_wp2_with fail
  go_ret
  exact ⟨A',n',c',rfl,HF.out.1,HF.out.2.1,HF.out.2.2⟩
 ·have hst:Kbr res hs ss = []:=by unfold Kbr;rw[if_neg hres]
  rw[hst];clear h hG hst;rcases (by omega:res < 0∨(¬res < 0∧3≤res)) with h1 | ⟨h1,h2⟩
  ·go_enter Tryz.func34,Tryz.ntmps34
   go_wp2_with fail
   go_ret
   exact ⟨none,0,0,rfl,Sers.nil _,Nat.le_refl _,((Below.refl _ _).alloc (Nat.le_refl _) _).alloc (by simp) _⟩
  ·go_enter Tryz.func34,Tryz.ntmps34
   go_wp2_with fail
   go_ret
   exact ⟨none,0,0,rfl,Sers.nil _,Nat.le_refl _,((Below.refl _ _).alloc (Nat.le_refl _) _).alloc (by simp) _⟩
end
end
section
open Go.Shelf Go.RowKit Go.Lib Go.Sort
theorem eqvM {w0:World} (x:MS w0):eqv (ltOf (cfM (w0:=w0))) x=fun y=>decide (y.s.labels=x.s.labels):=by
 funext y;unfold eqv;rw[ltM,ltM];have h:=Kdy x.s.labels y.s.labels
 by_cases he:y.s.labels=x.s.labels
 ·rw[decide_eq_true he,he,Kdk];rfl
 ·rw[decide_eq_false he];have hz:cmpL x.s.labels y.s.labels≠0:=fun e=>he (Kdz e).symm
  rcases (by omega:cmpL x.s.labels y.s.labels < 0∨cmpL y.s.labels x.s.labels < 0) with q | q
  ·rw[decide_eq_true q];rfl
  ·rw[decide_eq_true q];simp
theorem Kwf {w0:World} {xs ys:List (MS w0)} (h:Stab (ltOf cfM) xs ys):Keo (ys.map MS.s)=Kam (xs.map MS.s):=by
 refine Qar ?_ fun L=>?_
 ·rw[List.pairwise_map];refine h.asc.imp fun q=>?_
  rw[ltM,decide_eq_false_iff_not] at q;exact q
 ·rw[List.filter_map,List.filter_map];congr 1
  by_cases hex:∃x∈xs,x.s.labels=L
  ·obtain ⟨x,_,rfl⟩:=hex;have:=h.keep x;rw[eqvM] at this;exact this
  ·have h1:xs.filter ((fun x=>decide (x.labels=L)) ∘ MS.s) = []:=List.filter_eq_nil_iff.2 fun x hx he=>hex ⟨x,hx,by simpa using he⟩
   have h2:ys.filter ((fun x=>decide (x.labels=L)) ∘ MS.s) = []:=List.filter_eq_nil_iff.2 fun x hx he=>hex ⟨x,h.perm.mem_iff.1 hx,by simpa using he⟩
   rw[h1,h2]
theorem Kwx {w:World}:∀{hs:List Hd3} {L:List Ser},Pairs (fun h s=>SerAt w h s∧h.l.n≤1099511627776) hs L→∃xs:List (MS w),xs.map MS.h=hs∧xs.map MS.s=L
 | [],[],_=>⟨[],rfl,rfl⟩
 | [],_ :: _,h=>h.elim
 | _ :: _,[],h=>h.elim
 | a :: hs,b :: L,h=>by
  obtain ⟨xs,h1,h2⟩:=Kwx h.2;exact ⟨⟨a,b,h.1.1,h.1.2⟩ :: xs,by simp[h1],by simp[h2]⟩
structure Lists (w:World) (A:Option Addr) (n:Nat) (hs:List Hd) (Ls:List (List Ser)):Prop where
 e:Elems w w.heap.size 1 Kbt A n hs
 l:Ls.length=n
 k:∀(i:Nat) (h:Hd),hs[i]? = some h→Sers w h.A h.n Ls[i]!∧h.n≤h.c
 z:∀L∈Ls,∀s∈L,s.labels.length≤1099511627776
theorem Kth {w:World}:∀{hs:List Hd} {Ls:List (List Ser)},Pairs (fun (h:Hd) L=>Sers w h.A h.n L∧∀s∈L,s.labels.length≤1099511627776) hs Ls→∃(Ks:List (List Hd3)) (xs:List (MS w)),Ks.flatten=xs.map MS.h∧xs.map MS.s=Ls.flatten∧Pairs (fun (h:Hd) K=>Elems w w.heap.size 3 encH3 h.A h.n K) hs Ks
 | [],[],_=>⟨[],[],rfl,rfl,trivial⟩
 | [],_ :: _,h=>h.elim
 | _ :: _,[],h=>h.elim
 | a :: hs,L :: Ls,h=>by
  obtain ⟨Ks,xs,h1,h2,h3⟩:=Kth h.2;obtain ⟨⟨ks,e1,e2,e3⟩,hz⟩:=h.1
  obtain ⟨ys,f1,f2⟩:=Kwx (w:=w) (hs:=ks) (L:=L) (Pairs.of (by rw[e1.len,e2]) fun i x hi=>⟨e3 i x hi,by
   have hl:=(e3 i x hi).l.len;have hil:i < L.length:=by rw[e2,←e1.len];exact (List.getElem?_eq_some_iff.1 hi).1
   rw[←hl,getElem!_pos L i hil]
   exact hz _ (List.getElem_mem _)⟩)
  exact ⟨ks :: Ks,ys++xs,by rw[List.flatten_cons,h1,List.map_append,f1],by rw[List.flatten_cons,List.map_append,f2,h2],e1,h3⟩
theorem Kkc {w:World} (A:Option Addr) (n c:Nat) (hs:List Hd) (Ls:List (List Ser)) (h:Lists w A n hs Ls) (hn:n≤140737488355328) (hN:Ls.flatten.length≤274877906944) (hsum:sumS Ls.flatten≤137438953472) :
  Calls Tryz.prog 24 #[.slice A n c] w fun e w'=>∃(A':Option Addr) (n' c':Nat),e = .returned (.slice A' n' c')∧Sers w' A' n' (Kam Ls.flatten)∧n'≤c'∧Below w.heap.size w w':=by
 obtain ⟨Ks,xs,h1,h2,h3⟩:=Kth (w:=w) (hs:=hs) (Ls:=Ls) (Pairs.of (by rw[h.e.len,h.l]) fun i x hi=>⟨(h.k i x hi).1,by
  have hil:i < Ls.length:=by rw[h.l,←h.e.len];exact (List.getElem?_eq_some_iff.1 hi).1
  rw[getElem!_pos Ls i hil]
  exact h.z _ (List.getElem_mem _)⟩)
 have hxl:xs.length=Ls.flatten.length:=by rw[←h2,List.length_map]
 have hcat:CatIn w A n hs Ks:=⟨h.e,by rw[←h3.len,h.e.len],fun i x hi=>h3.at_ i x hi,fun x hx=>by
  obtain ⟨i,hi⟩:=List.mem_iff_getElem?.1 hx
  exact (h.k i x hi).2⟩
 refine (Kvl xs A n c hs Ks h1 hcat (by rw[hxl];exact hN) hn (by rw[h2];exact hsum)).mono ?_;rintro e w' ⟨ys,A',n',c',rfl,g1,g2,g3,g4⟩;rw[Kwf g1,h2] at g2;exact ⟨A',n',c',rfl,g2,g3,g4⟩
end
section
theorem Kbc (x:Ser) (l:List Ser):sumS (x :: l)=x.samples.length+x.windows.length+sumS l:=by unfold sumS;simp
theorem Khk {α : Type} (k:α→Int) (xs:List α):(onceL k xs).length≤xs.length:=by have:=Kfo k xs [];unfold onceL;simpa using this
theorem Kqg (P:List Lb→Prop) (s:Ser):∀out:List Ser,(Kca out s).length≤out.length+1∧sumS (Kca out s)≤sumS out+(s.samples.length+s.windows.length)∧((∀g∈out,P g.labels)→P s.labels→∀g∈Kca out s,P g.labels)
 | []=>by
  have h1:=Khk Smp.t s.samples;have h2:=Khk Wnd.start s.windows;refine ⟨by simp[Kca],?_,fun _ h g hg=>by simp[Kca] at hg;rw[hg];exact h⟩;unfold Kca;rw[Kbc];simp[sumS];omega
 | y :: l=>by
  have h1:=Khk Smp.t s.samples;have h2:=Khk Wnd.start s.windows;have h3:=Kfo Smp.t s.samples y.samples;have h4:=Kfo Wnd.start s.windows y.windows;obtain ⟨i1,i2,i3⟩:=Kqg P s l;unfold Kca
  split
  ·refine ⟨by simp,?_,fun ho _ g hg=>?_⟩
   ·rw[Kbc,Kbc];dsimp only;omega
   ·rcases List.mem_cons.1 hg with q | q
    ·rw[q];exact ho y (List.mem_cons_self)
    ·exact ho g (List.mem_cons_of_mem _ q)
  ·split
   ·refine ⟨by simp,?_,fun ho hs g hg=>?_⟩
    ·rw[Kbc];dsimp only;omega
    ·rcases List.mem_cons.1 hg with q | q
     ·rw[q];exact hs
     ·exact ho g q
   ·refine ⟨by simp only[List.length_cons];omega,?_,fun ho hs g hg=>?_⟩
    ·rw[Kbc,Kbc];omega
    ·rcases List.mem_cons.1 hg with q | q
     ·rw[q];exact ho y (List.mem_cons_self)
     ·exact i3 (fun g h=>ho g (List.mem_cons_of_mem _ h)) hs g q
theorem Kgg (P:List Lb→Prop):∀l out:List Ser,(l.foldl Kcf out).length≤out.length+l.length∧sumS (l.foldl Kcf out)≤sumS out+sumS l∧((∀g∈out,P g.labels)→(∀s∈l,P s.labels)→∀g∈l.foldl Kcf out,P g.labels)
 | [],out=>⟨by simp,by simp,fun h _=>h⟩
 | s :: l,out=>by
  obtain ⟨i1,i2,i3⟩:=Kgg P l (Kcf out s)
  have hs:(Kcf out s).length≤out.length+1∧sumS (Kcf out s)≤sumS out+(s.samples.length+s.windows.length)∧((∀g∈out,P g.labels)→P s.labels→∀g∈Kcf out s,P g.labels):=by
   unfold Kcf
   split
   ·exact Kqg P s out
   ·exact ⟨by omega,by omega,fun h _=>h⟩
  rw[List.foldl_cons,Kbc,List.length_cons];exact ⟨by omega,by omega,fun h hl=>i3 (hs.2.2 h (hl s List.mem_cons_self)) fun x hx=>hl x (List.mem_cons_of_mem _ hx)⟩
theorem Kju (l:List Ser):(Kam l).length≤l.length:=by have:=(Kgg (fun _=>True) l []).1;unfold Kam;simpa using this
theorem Kgt (l:List Ser):sumS (Kam l)≤sumS l:=by have:=(Kgg (fun _=>True) l []).2.1;unfold Kam;simpa[sumS] using this
theorem Ksg (P:List Lb→Prop) (l:List Ser) (h:∀s∈l,P s.labels):∀g∈Kam l,P g.labels:=(Kgg P l []).2.2 (fun g hg=>by simp at hg) h
theorem Kin {l:List Ser} {s:Ser} (h:s∈l):s.samples.length+s.windows.length≤sumS l:=by
 induction l with
 | nil=>simp at h
 | cons x l ih=>
  rw[Kbc];rcases List.mem_cons.1 h with q | q
  ·rw[q];omega
  ·have:=ih q;omega
theorem Kxr {w:World} {A:Option Addr} {n:Nat} {l:List Ser} (h:Sers w A n (Kam l)) (hz:∀s∈l,s.labels.length≤1099511627776) (hl:l.length≤274877906944) (hs:sumS l≤137438953472):SersZ w A n (Kam l):=by
 have hn:(Kam l).length=n:=by obtain ⟨hs0,_,h2,_⟩:=h;exact h2
 refine ⟨h,fun s hm=>⟨Ksg (fun L=>L.length≤1099511627776) l hz s hm,?_,?_⟩,by have:=Kju l;omega⟩
 ·have h1:=Kin hm;have h2:=Kgt l;omega
 ·have h1:=Kin hm;have h2:=Kgt l;omega
end
section
open Go.RowKit Go.Maps Go.Sort
def HRi (v:Value):Option (DataW Value×List MemPlace):=some (.held v,[])
def IMap (P:Program) (K:TypeId) (w:World) (b:Nat) (f:Int→Option Int):Prop:=
 ∃D:DataW Value,w.ownsMap P K HRi b (Maps.size D) D∧(∀x,Maps.has D (.int .i64 x)=(f x).isSome)∧∀x v,f x=some v→∀z,D.atKey (.int .i64 x) z = .held (.int .i64 v)
def updI (f:Int→Option Int) (x v:Int):Int→Option Int:=fun y=>if y=x then some v else f y
theorem Khj:∀(l L:List Int),l.Nodup→(∀x∈l,x∈L)→l.length≤L.length
 | [],_,_,_=>by simp
 | a :: l,L,hn,h=>by
  have ha:=List.nodup_cons.1 hn;have:=Khj l (L.erase a) ha.2 (fun x hx=>(List.mem_erase_of_ne (fun e:x=a=>ha.1 (by rw[←e];exact hx))).2 (h x (by simp[hx])));rw[List.length_erase_of_mem (h a (by simp))] at this;have h0:0 < L.length:=List.length_pos_of_mem (h a (by simp));simp only[List.length_cons];omega
def Kss:Lit→Int
 | .int _ x=>x
 | _=>0
section
variable {P : Program} {K T E : TypeId} {w w' : World} {b : Nat} {f : Int → Option Int}
theorem Kvu {n:Nat} {D:DataW Value} (h:w.ownsMap P K HRi b n D):w.ownsMap P K HRi b (Maps.size D) D:=by
 obtain ⟨es,clock,hb,F,hs,rfl⟩:=h;exact ⟨es,clock,hb,F,by simp[Maps.size,length_sorted],rfl⟩
theorem IMap.lt (h:IMap P K w b f):b < w.heap.size:=by obtain ⟨D,h,_⟩:=h;exact h.lt
theorem IMap.grown {row:Option Nat} (h:IMap P K w b f) (hg:w.grownBy w' row) (hne:some b≠row):IMap P K w' b f:=by
 obtain ⟨D,h1,h2⟩:=h;exact ⟨D,h1.kept hg hne,h2⟩
theorem IMap.made (w:World):IMap P K (w.alloc (.map #[] 0)) w.heap.size fun _=>none:=
 ⟨.map [],World.ownsMap_made w P K HRi,fun x=>rfl,fun x v h=>by cases h⟩
theorem IMap.size_le (hK:P.underlying K=some (.int .i64)) {D:DataW Value} {n:Nat} (h:w.ownsMap P K HRi b n D) (L:List Int) (hL:∀x,Maps.has D (.int .i64 x)=true→x∈L):Maps.size D≤L.length:=by
 obtain ⟨es,rfl,hpw⟩:=h.tidy (int_keyed hK);obtain ⟨es0,clock,_,F,_,e'⟩:=h;injection e' with e'
 have hint:∀p∈es,∃x,p.1 = .int .i64 x:=fun p hp=>by
  rw[e'] at hp;obtain ⟨v,hv⟩:=fit_keys F p (mem_sorted.1 hp);obtain ⟨x,_,hx,_⟩:=Maps.keyOf_int_inv hK hv;exact ⟨x,hx⟩
 rw[size_eq]
 have hnd:(es.map fun p=>Kss p.1).Nodup:=by
  refine List.pairwise_map.2 (hpw.imp_of_mem fun {p q} hp' hq' hne e=>hne ?_);obtain ⟨a,ha⟩:=hint p hp';obtain ⟨b,hb⟩:=hint q hq';rw[ha,hb] at e ⊢;exact congrArg _ e
 have hsub:∀x∈es.map (fun p=>Kss p.1),x∈L:=by
  intro x hx;obtain ⟨p,hp,rfl⟩:=List.mem_map.1 hx;obtain ⟨a,ha⟩:=hint p hp;apply hL;rw[has_eq,List.any_eq_true];exact ⟨p,hp,by rw[ha];simp[Kss,Lit.sameKey]⟩
 have:=Khj _ L hnd hsub;simpa using this
theorem wfI {x:Int} (h0:-9223372036854775808≤x) (h1:x < 9223372036854775808):(Lit.int .i64 x).wf=true:=by
 have e1:IntKind.i64.min = -9223372036854775808:=rfl;have e2:IntKind.i64.max=9223372036854775807:=rfl;simp only[Lit.wf,Bool.and_eq_true,decide_eq_true_eq];omega
theorem IMap.look (h:IMap P K w b f) (hK:P.underlying K=some (.int .i64)) (ht:P.underlying T=some (.map K E)) (hz:(zeroValue E).run P w = .ok (.int .i64 0) w) {x:Int} (hx:(Lit.int .i64 x).wf=true) :
  (Instr.lookup T (.map (some b)) (.int .i64 x) false).run P w = .ok (.int .i64 ((f x).getD 0)) w:=by
 obtain ⟨D,h1,h2,h3⟩:=h;obtain ⟨v,ps,hrun,hv⟩:=h1.lookup (int_keyed hK) ht hz (zd:=.held (.int .i64 0)) (zp:=[]) rfl (keyOf_int_mk hK hx);rw[hrun];congr 1
 have e:DataW.held v=D.atKey (.int .i64 x) (.held (.int .i64 0)):=by
  have:some (DataW.held v,([]:List MemPlace))=some (D.atKey (.int .i64 x) (.held (.int .i64 0)),ps):=hv;injection this with this;injection this
 cases hf:f x with
 | none=>
  have hh:=h2 x;rw[hf] at hh;rw[atKey_of_not_has hh] at e;injection e
 | some u=>
  rw[h3 _ u hf] at e;injection e
theorem IMap.put (h:IMap P K w b f) (hK:P.underlying K=some (.int .i64)) (ht:P.underlying T=some (.map K E)) {x:Int} (hx:(Lit.int .i64 x).wf=true) (v:Int) (L:List Int) (hL:∀x,(f x).isSome=true→x∈L) (hn:L.length < maxLen) :
  ∃w1,(Instr.mapUpdate T (.map (some b)) (.int .i64 x) (.int .i64 v)).run P w = .ok () w1∧IMap P K w1 b (updI f x v)∧w.grownBy w1 (some b)∧w1.heap.size=w.heap.size:=by
 obtain ⟨D,h1,h2,h3⟩:=h;have hsz:=IMap.size_le hK h1 L (fun x hx=>hL x (by rw[←h2];exact hx));obtain ⟨w1,hrun,hown,hturn⟩:=h1.store (int_keyed hK) ht (by omega) (kl:=.int .i64 x) (keyOf_int_mk hK hx) (val:=.int .i64 v) (d:=.held (.int .i64 v)) (ps:=[]) rfl;refine ⟨w1,hrun,⟨_,Kvu hown,fun y=>?_,fun y u hu z=>?_⟩,hturn.grown,?_⟩
 ·unfold updI
  by_cases e:y=x
  ·subst e;rw[has_put_same (k:=.int .i64 _) h1.isMap trivial,if_pos rfl];rfl
  ·rw[has_put_other (by intro h;injection h with _ h;exact e h),if_neg e,h2]
 ·unfold updI at hu
  by_cases e:y=x
  ·subst e;rw[if_pos rfl] at hu;injection hu with hu;rw[atKey_put_same (k:=.int .i64 _) h1.isMap trivial,hu]
  ·rw[if_neg e] at hu;rw[atKey_put_other (by intro h;injection h with _ h;exact e h)];exact h3 y u hu z
 ·obtain ⟨es,clock,es',clock',_,rfl⟩:=hturn;simp[ChangeMaps.setBlock]
end
section
variable {P : Program} {K T E : TypeId} (w : World) {ops : Array Oper} {rest : List Oper} {o : Oper} {a : Act} {Q : Exit → Act → World → Prop} {b : Nat} {f : Int → Option Int}
theorem Kkt (hg:o.guard=none) (m x:Operand) (hop:o.op=Op.lookup T m x false) (hK:P.underlying K=some (.int .i64)) (ht:P.underlying T=some (.map K E)) (hz:(zeroValue E).run P w = .ok (.int .i64 0) w)
  (hm:a.eval m = .map (some b)) (h:IMap P K w b f) {k:Int} (hx:a.eval x = .int .i64 k) (hs:(Lit.int .i64 k).wf=true)
  (hQ:wpList P ops Q rest (a.put o.dst (.int .i64 ((f k).getD 0))) w):wpList P ops Q (o :: rest) a w:=by
 refine wpList_plain hg fun K' hK'=>?_
 have:=h.look hK ht hz hs;unfold Oper.wp;simp[execOp,hop,hm,hx,this,Result.andThen];exact hK' _ _ hQ
theorem Klu (hg:o.guard=none) (m x v:Operand) (hop:o.op=Op.mapUpdate T m x v) (hK:P.underlying K=some (.int .i64)) (ht:P.underlying T=some (.map K E))
  (hm:a.eval m = .map (some b)) (h:IMap P K w b f) {k:Int} (hx:a.eval x = .int .i64 k) (hs:(Lit.int .i64 k).wf=true) (u:Int) (hv:a.eval v = .int .i64 u) (L:List Int) (hL:∀x,(f x).isSome=true→x∈L) (hn:L.length < maxLen)
  (hQ:∀w1,IMap P K w1 b (updI f k u)→w.grownBy w1 (some b)→w1.heap.size=w.heap.size→wpList P ops Q rest (a.put o.dst undef) w1):wpList P ops Q (o :: rest) a w:=by
 refine wpList_plain hg fun K' hK'=>?_
 obtain ⟨w1,hrun,h1,h2,h3⟩:=h.put hK ht hs u L hL hn;unfold Oper.wp;simp[execOp,hop,hm,hx,hv,hrun,Result.andThen];exact hK' _ _ (hQ w1 h1 h2 h3)
end
end
end Go.Proofs.YtdoiekknhnbepaaGreatDoor
