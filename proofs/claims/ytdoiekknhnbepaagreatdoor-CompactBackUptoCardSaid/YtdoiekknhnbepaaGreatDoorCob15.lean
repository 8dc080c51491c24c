/- Merged (what the claim wants of): CStarts, EncSealE, EncSealF, BlkPlain4, BlkPlain5, KeyIter, BlkListsA, BlkListsB, BlkFitA. -/
import Derived.Test.YtdoiekknhnbepaaGreatDoorCob14
import Derived.Test.YtdoiekknhnbepaaGreatDoorCob01
import Derived.Sort.OwnSortedInts
import Derived.Test.YtdoiekknhnbepaaGreatDoorCob06
import Derived.Test.YtdoiekknhnbepaaGreatDoorCob05
import Derived.Test.YtdoiekknhnbepaaGreatDoorCob02
import Derived.Test.YtdoiekknhnbepaaGreatDoorCob07
import Derived.Maps.RangeWalk
set_option linter.unusedVariables false
set_option linter.unusedSimpArgs false
set_option maxRecDepth 100000
set_option maxHeartbeats 8000000
namespace Go.Proofs.YtdoiekknhnbepaaGreatDoor
section
open Go.Shelf Go.RowKit Go.Lib Go.Sort Go.Maps
open Lib renaming hid → Jh
attribute [local go_sem ↓] Go.wp_at_zero Go.wp_at_succ
attribute [local go_sem] Later.cell
section
set_option maxHeartbeats 4000000
set_option maxRecDepth 100000
def Kbk (t width:Int):Int×Int:=if width < 1∨1099511627776 < width then (0,100) else if t < 0∨1125899906842624 < t then (0,91) else (t - t % width,0)
def inT (t:Int):Bool:=decide (0≤t) && decide (t≤1125899906842624)
theorem Kfj {t:Int}:inT t=true↔0≤t∧t≤1125899906842624:=by unfold inT;rw[Bool.and_eq_true,decide_eq_true_eq,decide_eq_true_eq]
theorem Kgp (t width:Int) (h:0≤t) (h':1≤width):0≤t % width∧t % width≤t:=by
 refine ⟨Int.emod_nonneg _ (by omega),?_⟩;have h1:=Int.emod_add_mul_ediv t width;have h2:0≤width*(t / width):=Int.mul_nonneg (by omega) (Int.ediv_nonneg h (by omega));omega
theorem Kft (t width:Int) (w:World) :
  Calls Tryz.prog 49 #[.int .i64 t,.int .i64 width] w fun e w'=>e = .returned (.tuple #[.int .i64 (Kbk t width).1,.int .i64 (Kbk t width).2])∧w'=w:=by
 by_cases h1:width < 1
 ·have hf:Hid (Kbk t width=(0,100)):=by show _=_;rw[Kbk,if_pos (by omega)]
  go_enter Tryz.func49,Tryz.ntmps49
  go_wp2
  go_ret2
  exact ⟨ret2 (vi (by rw[hf.out])) (vi (by rw[hf.out])),rfl⟩
 by_cases h2:1099511627776 < width
 ·have hf:Hid (Kbk t width=(0,100)):=by show _=_;rw[Kbk,if_pos (by omega)]
  go_enter Tryz.func49,Tryz.ntmps49
  go_wp2
  go_ret2
  exact ⟨ret2 (vi (by rw[hf.out])) (vi (by rw[hf.out])),rfl⟩
 by_cases h3:t < 0
 ·have hf:Hid (Kbk t width=(0,91)):=by show _=_;rw[Kbk,if_neg (by omega),if_pos (by omega)]
  go_enter Tryz.func49,Tryz.ntmps49
  go_wp2
  go_ret2
  exact ⟨ret2 (vi (by rw[hf.out])) (vi (by rw[hf.out])),rfl⟩
 by_cases h4:1125899906842624 < t
 ·have hf:Hid (Kbk t width=(0,91)):=by show _=_;rw[Kbk,if_neg (by omega),if_pos (by omega)]
  go_enter Tryz.func49,Tryz.ntmps49
  go_wp2
  go_ret2
  exact ⟨ret2 (vi (by rw[hf.out])) (vi (by rw[hf.out])),rfl⟩
 ·obtain ⟨hm1,hm2⟩:=Kgp t width (by omega) (by omega);have hf:Hid (Kbk t width=(t - t % width,0)):=by show _=_;rw[Kbk,if_neg (by omega),if_neg (by omega)]
  go_enter Tryz.func49,Tryz.ntmps49
  go_wp2
  go_ret2
  exact ⟨ret2 (vi (by rw[hf.out])) (vi (by rw[hf.out])),rfl⟩
def Kiy (s:Ser):List Int:=s.samples.map Smp.t++s.windows.map Wnd.start
def Kar (l:List Ser):List Int:=l.flatMap Kiy
def Kby (width:Int) (ts:List Int):List Int:=(ts.filter inT).map fun t=>t - t % width
theorem Kff (l:List Ser):(Kar l).length=sumS l:=by
 induction l with
 | nil=>rfl
 | cons x l ih=>
  rw[Kbc,←ih];unfold Kar Kiy;simp[List.length_flatMap];omega
theorem Kwh (l:List Ser) (s:Ser):Kar (l ++ [s])=Kar l++s.samples.map Smp.t++s.windows.map Wnd.start:=by unfold Kar Kiy;simp[List.flatMap_append]
theorem Ken (width:Int) (ts:List Int):(Kby width ts).length≤ts.length:=by unfold Kby;rw[List.length_map];exact List.length_filter_le _ _
structure Kcm (width:Int) (ts L:List Int):Prop where
 asc:L.Pairwise fun a b=>a < b
 mem:∀x,x∈L↔x∈Kby width ts
def Kbb (width:Int) (f:Int→Option Int) (ts:List Int):Prop:=∀x,(f x).isSome=true↔x∈Kby width ts
theorem Kbb.nil (width:Int):Kbb width (fun _=>none) []:=fun x=>by simp[Kby]
theorem Kbb.add {width:Int} {f:Int→Option Int} {ts:List Int} (h:Kbb width f ts) {t:Int} (ht:inT t=true) (u:Int):Kbb width (updI f (t - t % width) u) (ts ++ [t]):=fun x=>by
 unfold updI;have e:Kby width (ts ++ [t])=Kby width ts ++ [t - t % width]:=by unfold Kby;rw[List.filter_append,List.map_append];simp[ht]
 rw[e,List.mem_append,List.mem_singleton]
 by_cases hx:x=t - t % width
 ·rw[if_pos hx];simp[hx]
 ·rw[if_neg hx,h x];simp[hx]
theorem Kbb.skip {width:Int} {f:Int→Option Int} {ts:List Int} (h:Kbb width f ts) {t:Int} (ht:inT t=false):Kbb width f (ts ++ [t]):=fun x=>by
 have e:Kby width (ts ++ [t])=Kby width ts:=by unfold Kby;rw[List.filter_append,List.map_append];simp[ht]
 rw[e];exact h x
theorem Kxc:∀{l:List Ser} {i:Nat} {s:Ser},l[i]? = some s→sumS (l.take i)+(s.samples.length+s.windows.length)≤sumS l
 | [],i,s,h=>by simp at h
 | x :: l,0,s,h=>by
  simp only[List.getElem?_cons_zero,Option.some.injEq] at h;subst h;rw[Kbc];simp[sumS]
 | x :: l,i+1,s,h=>by
  have:=Kxc (l:=l) (i:=i) (s:=s) (by simpa using h);rw[List.take_succ_cons,Kbc,Kbc];omega
def encZ1 (x:Int):List Value:=[.int .i64 x]
theorem Kzy (l:List Int):l.flatMap encZ1=l.map (Value.int .i64):=by
 induction l with
 | nil=>rfl
 | cons x l ih=>rw[List.flatMap_cons,ih];rfl
theorem Qby (w:World):(zeroValue 3).run Tryz.prog w = .ok (.int .i64 0) w:=by kernel_rfl
theorem Qaf:(Tryz.prog.info? 2).map (fun i=>(i.zero,i.size,i.bytes))=some (some (.int .i64 0),1,8):=by kernel_rfl
theorem hK64:Tryz.prog.underlying 2 = some (.int .i64):=Tryz.underlying2
theorem hT64:Tryz.prog.underlying 216 = some (.map 2 3):=Tryz.underlying216
theorem Qgb {w:World} {base g cap n:Nat} {l:List Int} (h:w.ownsRow base 2 1 (.slice (some ⟨g,0,none⟩) n cap) n (l.map (Value.int .i64))) (hn:l.length=n):Holds (Value.int .i64) w g 0 l.toArray∧∃cur,w.heap[g]? = some (.cells cur 2 (0,0))∧n≤cap∧cap≤maxLen∧cur.size=cap*1:=by
 rcases h.2 with ⟨he,_⟩ | ⟨g',cap',cur,he,h1,h2,h3,h4,h5,h6⟩
 ·cases he
 ·injection he with he _ hcc;injection he with he;injection he with he _ _;subst he hcc;refine ⟨fun t ht=>?_,cur,h2,h3,h4,h5⟩;have ht':t < l.length:=by simpa using ht
  refine ⟨?_,by simp[World.frozen?,h2]⟩;rw[Nat.zero_add,cell_of_row w g t cur _ (0,0) h2]
  have e1:cur[t]? = (l.map (Value.int .i64))[t]?:=by
   rw[←h6,List.getElem?_take_of_lt (by rw[Nat.mul_one,←hn];exact ht')];simp
  rw[e1];simp[ht']
theorem Ktu (width:Int) (hw:1≤width∧width≤1099511627776) (A:Option Addr) (n c:Nat) (ss:List Ser) (w0:World) (h:SersZ w0 A n ss) (hsum:sumS ss≤137438953472) :
  Calls Tryz.prog 50 #[.int .i64 width,.slice A n c] w0 fun e w'=>∃(A':Option Addr) (n' c':Nat) (L:List Int),e = .returned (.slice A' n' c')∧Kcm width (Kar ss) L∧L.length=n'∧Elems w' w'.heap.size 1 encZ1 A' n' L∧n'≤c'∧Below w0.heap.size w0 w':=by
 obtain ⟨ib,hib,hz0,hz1,hz2⟩:=info_parts Qaf;obtain ⟨hs0,hE,hss,hat⟩:=h.s;have hn:=h.n;have HE:=Jh hE;have HSS:=Jh hss;have HAT:=Jh hat;have HZ:=Jh h.z;have HSUM:=Jh hsum;obtain ⟨b,hb⟩:∃b,w0.heap.size=b:=⟨_,rfl⟩;have HBE:Hid (w0.heap.size=b):=hb;clear hE hss hat h hsum;have hmm:=@run_makeMap Tryz.prog;go_enter Tryz.func50,Tryz.ntmps50
 go_upto_region 2 with fail
 clear hmm;obtain ⟨wa,hwa⟩:∃x,x=w0.alloc (.map #[] 0):=⟨_,rfl⟩;have HM:Hid (IMap Tryz.prog 2 wa b (fun _=>none)):=by show IMap _ _ _ _ _;rw[hwa,←hb];exact IMap.made w0
 have HB:Hid (Below b w0 wa):=by show Below _ _ _;rw[hwa,←hb];exact (Below.refl _ _).alloc (Nat.le_refl _) _
 have HK:Hid (Kbb width (fun _=>none) (Kar (ss.take 0))):=Kbb.nil width;rw[←hwa]
 try rw[hb]
 clear hwa hb;go_wp2_with fail
 go_loopg [21] n (fun kx s21 wr=>∃(i:Nat) (f:Int→Option Int),s21 = .int .i64 (i:Int)∧i+kx=n∧Hid (Below b w0 wr)∧Hid (IMap Tryz.prog 2 wr b f)∧Hid (Kbb width f (Kar (ss.take i))))
 case atStart=>exact ⟨0,_,rfl,by omega,HB,HM,HK⟩
 case round=>
  clear HB HM HK;obtain ⟨i,f,rfl,hi,HB,HM,HK⟩:=hrel;rcases Nat.lt_or_ge i n with hlt | hge
  ·have hlz:(i:Int) < (n:Int):=by omega
   obtain ⟨b0,off0,hA0,hb0,hc0⟩:=HE.out.2 (by omega);have hl0:=HE.out.len;obtain ⟨h,hh⟩:∃h,hs0[i]? = some h:=⟨hs0[i]'(by omega),List.getElem?_eq_getElem _⟩;obtain ⟨s,hs_⟩:∃s,ss[i]! = s:=⟨_,rfl⟩;have hsat:=HAT.out i h hh;rw[hs_] at hsat;have hsi:ss[i]? = some s:=by rw[←hs_,getElem!_pos ss i (by rw[HSS.out];exact hlt)];exact List.getElem?_eq_getElem _
   have HNX:Hid (Kar (ss.take (i+1))=Kar (ss.take i)++s.samples.map Smp.t++s.windows.map Wnd.start):=by
    show _=_
    rw[List.take_add_one,hsi];exact Kwh _ _
   have HLIM:Hid (sumS (ss.take i)+(s.samples.length+s.windows.length)≤137438953472):=Nat.le_trans (Kxc hsi) HSUM.out;have hcell:∀r v,r < 3→(encH3 h)[r]? = some v→wr.cell? ⟨b0,off0+i*3+r,none⟩=some v:=fun r v _ hv=>(HB.out.cell (p:=⟨b0,off0+i*3+r,none⟩) (by rw[←HBE.out];exact hb0)).trans (hc0 i h hh r v hv)
   have hbl0:b0 < wr.heap.size:=Nat.lt_trans (by rw[←HBE.out];exact hb0) HM.out.lt;subst hA0;obtain ⟨lA,hlA⟩:∃q,q=h.l.A:=⟨_,rfl⟩;obtain ⟨ln,hln⟩:∃q,q=h.l.n:=⟨_,rfl⟩;obtain ⟨lc,hlc⟩:∃q,q=h.l.c:=⟨_,rfl⟩;obtain ⟨sA,hsA⟩:∃q,q=h.s.A:=⟨_,rfl⟩;obtain ⟨sn,hsn⟩:∃q,q=h.s.n:=⟨_,rfl⟩;obtain ⟨sc,hsc⟩:∃q,q=h.s.c:=⟨_,rfl⟩;obtain ⟨wA,hwA⟩:∃q,q=h.w.A:=⟨_,rfl⟩;obtain ⟨wn,hwn⟩:∃q,q=h.w.n:=⟨_,rfl⟩;obtain ⟨wc,hwc⟩:∃q,q=h.w.c:=⟨_,rfl⟩;have k0:wr.cell? ⟨b0,off0+i*3,none⟩=some (.slice lA ln lc):=by rw[hlA,hln,hlc];exact hcell 0 _ (by decide) rfl
   have k1:wr.cell? ⟨b0,off0+i*3+1,none⟩=some (.slice sA sn sc):=by rw[hsA,hsn,hsc];exact hcell 1 _ (by decide) rfl
   have k2:wr.cell? ⟨b0,off0+i*3+2,none⟩=some (.slice wA wn wc):=by rw[hwA,hwn,hwc];exact hcell 2 _ (by decide) rfl
   have HES:Hid (Elems w0 w0.heap.size 2 Kad sA sn s.samples):=by show Elems _ _ _ _ _ _ _;rw[hsA,hsn];exact hsat.s
   have HEW:Hid (Elems w0 w0.heap.size 6 Kai wA wn s.windows):=by show Elems _ _ _ _ _ _ _;rw[hwA,hwn];exact hsat.w
   have hls:=HES.out.len;have hlw:=HEW.out.len;have hsz:sn≤137438953472∧wn≤137438953472:=by have:=HLIM.out;omega
   clear hc0 hl0 hh hs_ hsat hsi hcell hb0 hlA hln hlc hsA hsn hsc hwA hwn hwc;go_upto_region 5 with fail
   obtain ⟨wx,hwx⟩:∃x,x=wr.alloc (.cells #[.slice lA ln lc,.slice sA sn sc,.slice wA wn wc] 58):=⟨_,rfl⟩;obtain ⟨p1,hp1⟩:∃p,p=wr.heap.size:=⟨_,rfl⟩;have HPB:Hid (b < p1):=by show _ < _;rw[hp1];exact HM.out.lt
   have HP1:Hid (Blk wx p1 58 #[.slice lA ln lc,.slice sA sn sc,.slice wA wn wc]):=by show Blk _ _ _ _;rw[hwx,hp1];exact Blk.new _ _ _
   have HBX:Hid (Below b w0 wx):=by show Below _ _ _;rw[hwx];exact HB.out.alloc (Nat.le_of_lt HM.out.lt) _
   have HMX:Hid (IMap Tryz.prog 2 wx b f):=by show IMap _ _ _ _ _;rw[hwx];exact HM.out.grown (World.grownBy_alloc wr _ none) (by simp)
   rw[←hwx,←hp1];have l1:=HP1.out.cell 1;simp at l1;have hpa:=HP1.out.lt;clear hwx hp1 HB HM k0 k1 k2 hbl0;go_wp2_with fail
   clear l1 hpa;have HB:=HBX;have HM:=HMX;clear HBX HMX;go_loopg [28] sn (fun kx sj wr=>∃(j:Nat) (f:Int→Option Int),sj = .int .i64 (j:Int)∧j+kx=sn∧Hid (Below b w0 wr)∧Hid (Blk wr p1 58 #[.slice lA ln lc,.slice sA sn sc,.slice wA wn wc])∧Hid (IMap Tryz.prog 2 wr b f)∧Hid (Kbb width f (Kar (ss.take i)++(s.samples.take j).map Smp.t)))
   case atStart=>exact ⟨0,f,rfl,by omega,HB,HP1,HM,(show Kbb _ _ _ by have:=HK.out;simpa using this)⟩
   case round=>
    clear HB HP1 HM HK;clear f;obtain ⟨j,f,rfl,hj,HB,HP1,HM,HK⟩:=hrel;rcases Nat.lt_or_ge j sn with hlt | hge
    ·have hlz:(j:Int) < (sn:Int):=by omega
     obtain ⟨bb,off,hA,hbb,hc⟩:=HES.out.2 (by omega);have hl:=HES.out.len;obtain ⟨y,hy⟩:∃y,s.samples[j]? = some y:=⟨s.samples[j]'(by omega),List.getElem?_eq_getElem _⟩;have hcell:∀r v,r < 2→(Kad y)[r]? = some v→wr.cell? ⟨bb,off+j*2+r,none⟩=some v:=fun r v _ hv=>(HB.out.cell (p:=⟨bb,off+j*2+r,none⟩) (by rw[←HBE.out];exact hbb)).trans (hc j y hy r v hv)
     have HTK:Hid (Kar (ss.take i)++(s.samples.take (j+1)).map Smp.t=(Kar (ss.take i)++(s.samples.take j).map Smp.t) ++ [Smp.t y]):=by
      show _=_
      rw[List.take_add_one,hy,List.map_append,←List.append_assoc];rfl
     have HLEN:Hid ((Kar (ss.take i)++(s.samples.take j).map Smp.t).length≤137438953472):=by
      show _≤_
      have h1:=HLIM.out;rw[←Kff] at h1;simp only[List.length_append,List.length_map,List.length_take];omega
     subst hA;obtain ⟨y1,y2⟩:=y;dsimp only at HTK;have k0:wr.cell? ⟨bb,off+j*2,none⟩=some (.int .i64 y1):=hcell 0 _ (by decide) rfl;have k1:wr.cell? ⟨bb,off+j*2+1,none⟩=some (.int .u64 (y2:Int)):=hcell 1 _ (by decide) rfl;have hbl:bb < wr.heap.size:=Nat.lt_of_lt_of_le hbb (by rw[HBE.out];exact Nat.le_trans (Nat.le_of_lt HM.out.lt) (Nat.le_refl _));clear hc hl hcell hy hbb;go_upto_region 8 with fail
     obtain ⟨wb,hwb⟩:∃x,x=wr.alloc (.cells #[.int .i64 y1,.int .u64 (y2:Int)] 102):=⟨_,rfl⟩;obtain ⟨p3,hp3⟩:∃p3,p3=wr.heap.size:=⟨_,rfl⟩;have HP3:Hid (Blk wb p3 102 #[.int .i64 y1,.int .u64 (y2:Int)]):=by show Blk _ _ _ _;rw[hwb,hp3];exact Blk.new _ _ _
     have hgb:wr.grownBy wb none:=by rw[hwb];exact World.grownBy_alloc wr _ none
     have HB4:Hid (Below b w0 wb):=by show Below _ _ _;rw[hwb];exact HB.out.alloc (Nat.le_of_lt HM.out.lt) _
     have HP4:Hid (Blk wb p1 58 #[.slice lA ln lc,.slice (some ⟨bb,off,none⟩) sn sc,.slice wA wn wc]):=HP1.out.grown hgb (by simp);have HM4:Hid (IMap Tryz.prog 2 wb b f):=HM.out.grown hgb (by simp);rw[←hwb,←hp3];have q0:=HP3.out.cell 0;simp at q0;have hpl3:=HP3.out.lt;clear hwb hp3 hgb HB HP1 HM hbl k0 k1;obtain ⟨z,hz⟩:∃z,z=(Kbk y1 width).1:=⟨_,rfl⟩;obtain ⟨er,her⟩:∃z,z=(Kbk y1 width).2:=⟨_,rfl⟩
     have HST:Hid (∀W,Calls Tryz.prog 49 #[.int .i64 y1,.int .i64 width] W fun e w'=>e = .returned (.tuple #[.int .i64 z,.int .i64 er])∧w'=W):=fun W=>by
      rw[hz,her];exact Kft y1 width W
     cases hin:inT y1 with
     | false=>
      obtain rfl:er=91:=by
       have h1:=hin;rw[her,Kbk,if_neg (by omega),if_pos];refine Classical.byContradiction fun hq=>?_
       rw[Kfj.2 (by omega)] at h1;cases h1
      have HK5:Hid (Kbb width f (Kar (ss.take i)++(s.samples.take (j+1)).map Smp.t)):=by show Kbb _ _ _;rw[HTK.out];exact HK.out.skip hin
      clear hz her hin HK;go_wp2_with fail
      refine (HST.out wb).mono ?_;rintro _ w5 ⟨rfl,rfl⟩;go_wp2_with fail
      go_roundg (sn - (j+1))
      case measure=>omega
      case rel=>exact ⟨j+1,f,by first | rfl | go_num,by omega,HB4,HP4,HM4,HK5⟩
     | true=>
      have hin2:=Kfj.1 hin;have hse:Kbk y1 width=(y1 - y1 % width,0):=by rw[Kbk,if_neg (by omega),if_neg (by omega)]
      obtain rfl:er=0:=by rw[her,hse]
      obtain rfl:z=y1 - y1 % width:=by rw[hz,hse]
      have hmm:=Kgp y1 width (by omega) (by omega);have hwf:(Lit.int .i64 (y1 - y1 % width)).wf=true:=wfI (by omega) (by omega);have HK5:Hid (∀u,Kbb width (updI f (y1 - y1 % width) u) (Kar (ss.take i)++(s.samples.take (j+1)).map Smp.t)):=fun u=>by rw[HTK.out];exact HK.out.add hin u
      obtain ⟨z,hz2⟩:∃z,z=y1 - y1 % width:=⟨_,rfl⟩;rw[←hz2] at HST HK5 hwf;clear hz her hin hin2 hse hmm hz2;have HWF:=Jh hwf;clear hwf;go_wp2_with fail
      refine (HST.out wb).mono ?_;rintro _ w5 ⟨rfl,rfl⟩;clear HST q0 hpl3 HP3
      go_wp2_with (first
       | (at_lookup;refine Kkt (T:=216) _ rfl _ _ rfl hK64 hT64 (Qby _) rfl HM4.out rfl HWF.out ?_)
       | (at_mapUpdate;refine Klu _ rfl _ _ _ rfl hK64 hT64 rfl HM4.out rfl HWF.out _ rfl (Kby width (Kar (ss.take i)++(s.samples.take j).map Smp.t)) (fun x hx=>(HK.out x).1 hx) (by have h1:=Ken width (Kar (ss.take i)++(s.samples.take j).map Smp.t);have h2:=HLEN.out;unfold maxLen;omega) ?_;intro w6 hI6 hg6 hs6))
      have hlow:∀k,some b=some k→b≤k:=fun k hk=>by injection hk with hk;omega
      have HB6:Hid (Below b w0 w6):=HB4.out.grown hg6 (Nat.le_of_lt HM4.out.lt) hlow;have HP6:Hid (Blk w6 p1 58 #[.slice lA ln lc,.slice (some ⟨bb,off,none⟩) sn sc,.slice wA wn wc]):=HP4.out.grown hg6 (fun e=>by injection e with e;have:=HPB.out;omega);obtain ⟨u6,hI7⟩:∃u,IMap Tryz.prog 2 w6 b (updI f z u):=⟨_,hI6⟩;have HM6:=Jh hI7;have HK6:=Jh (HK5.out u6);clear hI6 hI7 hg6 hs6 hlow HB4 HP4 HM4 HK HK5;go_wp2_with fail
      go_roundg (sn - (j+1))
      case measure=>omega
      case rel=>exact ⟨j+1,_,by first | rfl | go_num,by omega,HB6,HP6,HM6,HK6⟩
    ·have hlz:¬(j:Int) < (sn:Int):=by omega
     have HK1:Hid (Kbb width f (Kar (ss.take i)++s.samples.map Smp.t)):=by
      show Kbb _ _ _
      have h1:=HK.out;rw[List.take_of_length_le (show s.samples.length≤j by omega)] at h1;exact h1
     have l2:=HP1.out.cell 2;simp at l2;have hpa:=HP1.out.lt;clear HK;have HK:=HK1;clear HK1;go_wp2_with fail
     clear l2 hpa;go_loopg [49] wn (fun kx sj wr=>∃(j:Nat) (f:Int→Option Int),sj = .int .i64 (j:Int)∧j+kx=wn∧Hid (Below b w0 wr)∧Hid (Blk wr p1 58 #[.slice lA ln lc,.slice sA sn sc,.slice wA wn wc])∧Hid (IMap Tryz.prog 2 wr b f)∧Hid (Kbb width f ((Kar (ss.take i)++s.samples.map Smp.t)++(s.windows.take j).map Wnd.start)))
     case atStart=>exact ⟨0,f,rfl,by omega,HB,HP1,HM,(show Kbb _ _ _ by have:=HK.out;simpa using this)⟩
     case round=>
      clear HB HP1 HM HK;clear f;obtain ⟨j,f,rfl,hj,HB,HP1,HM,HK⟩:=hrel;rcases Nat.lt_or_ge j wn with hlt | hge
      ·have hlz:(j:Int) < (wn:Int):=by omega
       obtain ⟨bb,off,hA,hbb,hc⟩:=HEW.out.2 (by omega);have hl:=HEW.out.len;obtain ⟨y,hy⟩:∃y,s.windows[j]? = some y:=⟨s.windows[j]'(by omega),List.getElem?_eq_getElem _⟩;have hcell:∀r v,r < 6→(Kai y)[r]? = some v→wr.cell? ⟨bb,off+j*6+r,none⟩=some v:=fun r v _ hv=>(HB.out.cell (p:=⟨bb,off+j*6+r,none⟩) (by rw[←HBE.out];exact hbb)).trans (hc j y hy r v hv)
       have HTK:Hid ((Kar (ss.take i)++s.samples.map Smp.t)++(s.windows.take (j+1)).map Wnd.start=((Kar (ss.take i)++s.samples.map Smp.t)++(s.windows.take j).map Wnd.start) ++ [Wnd.start y]):=by
        show _=_
        rw[List.take_add_one,hy,List.map_append,←List.append_assoc];rfl
       have HLEN:Hid (((Kar (ss.take i)++s.samples.map Smp.t)++(s.windows.take j).map Wnd.start).length≤137438953472):=by
        show _≤_
        have h1:=HLIM.out;rw[←Kff] at h1;simp only[List.length_append,List.length_map,List.length_take];omega
       subst hA;obtain ⟨y1,y2,y3,y4,y5,y6⟩:=y;dsimp only at HTK;have k0:wr.cell? ⟨bb,off+j*6,none⟩=some (.int .i64 y1):=hcell 0 _ (by decide) rfl;have k1:wr.cell? ⟨bb,off+j*6+1,none⟩=some (.int .i64 y2):=hcell 1 _ (by decide) rfl;have k2:wr.cell? ⟨bb,off+j*6+2,none⟩=some (.int .u64 (y3:Int)):=hcell 2 _ (by decide) rfl;have k3:wr.cell? ⟨bb,off+j*6+3,none⟩=some (.int .u64 (y4:Int)):=hcell 3 _ (by decide) rfl;have k4:wr.cell? ⟨bb,off+j*6+4,none⟩=some (.int .u64 (y5:Int)):=hcell 4 _ (by decide) rfl;have k5:wr.cell? ⟨bb,off+j*6+5,none⟩=some (.int .u64 (y6:Int)):=hcell 5 _ (by decide) rfl;have hbl:bb < wr.heap.size:=Nat.lt_of_lt_of_le hbb (by rw[HBE.out];exact Nat.le_trans (Nat.le_of_lt HM.out.lt) (Nat.le_refl _));clear hc hl hcell hy hbb;go_upto_region 15 with fail
       obtain ⟨wb,hwb⟩:∃x,x=wr.alloc (.cells #[.int .i64 y1,.int .i64 y2,.int .u64 (y3:Int),.int .u64 (y4:Int),.int .u64 (y5:Int),.int .u64 (y6:Int)] 135):=⟨_,rfl⟩;obtain ⟨p3,hp3⟩:∃p3,p3=wr.heap.size:=⟨_,rfl⟩;have HP3:Hid (Blk wb p3 135 #[.int .i64 y1,.int .i64 y2,.int .u64 (y3:Int),.int .u64 (y4:Int),.int .u64 (y5:Int),.int .u64 (y6:Int)]):=by show Blk _ _ _ _;rw[hwb,hp3];exact Blk.new _ _ _
       have hgb:wr.grownBy wb none:=by rw[hwb];exact World.grownBy_alloc wr _ none
       have HB4:Hid (Below b w0 wb):=by show Below _ _ _;rw[hwb];exact HB.out.alloc (Nat.le_of_lt HM.out.lt) _
       have HP4:Hid (Blk wb p1 58 #[.slice lA ln lc,.slice sA sn sc,.slice (some ⟨bb,off,none⟩) wn wc]):=HP1.out.grown hgb (by simp);have HM4:Hid (IMap Tryz.prog 2 wb b f):=HM.out.grown hgb (by simp);rw[←hwb,←hp3];have q0:=HP3.out.cell 0;simp at q0;have hpl3:=HP3.out.lt;clear hwb hp3 hgb HB HP1 HM hbl k0 k1 k2 k3 k4 k5;obtain ⟨z,hz⟩:∃z,z=(Kbk y1 width).1:=⟨_,rfl⟩;obtain ⟨er,her⟩:∃z,z=(Kbk y1 width).2:=⟨_,rfl⟩
       have HST:Hid (∀W,Calls Tryz.prog 49 #[.int .i64 y1,.int .i64 width] W fun e w'=>e = .returned (.tuple #[.int .i64 z,.int .i64 er])∧w'=W):=fun W=>by
        rw[hz,her];exact Kft y1 width W
       cases hin:inT y1 with
       | false=>
        obtain rfl:er=91:=by
         have h1:=hin;rw[her,Kbk,if_neg (by omega),if_pos];refine Classical.byContradiction fun hq=>?_
         rw[Kfj.2 (by omega)] at h1;cases h1
        have HK5:Hid (Kbb width f ((Kar (ss.take i)++s.samples.map Smp.t)++(s.windows.take (j+1)).map Wnd.start)):=by show Kbb _ _ _;rw[HTK.out];exact HK.out.skip hin
        clear hz her hin HK;go_wp2_with fail
        refine (HST.out wb).mono ?_;rintro _ w5 ⟨rfl,rfl⟩;go_wp2_with fail
        go_roundg (wn - (j+1))
        case measure=>omega
        case rel=>exact ⟨j+1,f,by first | rfl | go_num,by omega,HB4,HP4,HM4,HK5⟩
       | true=>
        have hin2:=Kfj.1 hin;have hse:Kbk y1 width=(y1 - y1 % width,0):=by rw[Kbk,if_neg (by omega),if_neg (by omega)]
        obtain rfl:er=0:=by rw[her,hse]
        obtain rfl:z=y1 - y1 % width:=by rw[hz,hse]
        have hmm:=Kgp y1 width (by omega) (by omega);have hwf:(Lit.int .i64 (y1 - y1 % width)).wf=true:=wfI (by omega) (by omega);have HK5:Hid (∀u,Kbb width (updI f (y1 - y1 % width) u) ((Kar (ss.take i)++s.samples.map Smp.t)++(s.windows.take (j+1)).map Wnd.start)):=fun u=>by rw[HTK.out];exact HK.out.add hin u
        obtain ⟨z,hz2⟩:∃z,z=y1 - y1 % width:=⟨_,rfl⟩;rw[←hz2] at HST HK5 hwf;clear hz her hin hin2 hse hmm hz2;have HWF:=Jh hwf;clear hwf;go_wp2_with fail
        refine (HST.out wb).mono ?_;rintro _ w5 ⟨rfl,rfl⟩;clear HST q0 hpl3 HP3
        go_wp2_with (first
         | (at_lookup;refine Kkt (T:=216) _ rfl _ _ rfl hK64 hT64 (Qby _) rfl HM4.out rfl HWF.out ?_)
         | (at_mapUpdate;refine Klu _ rfl _ _ _ rfl hK64 hT64 rfl HM4.out rfl HWF.out _ rfl (Kby width ((Kar (ss.take i)++s.samples.map Smp.t)++(s.windows.take j).map Wnd.start)) (fun x hx=>(HK.out x).1 hx) (by have h1:=Ken width ((Kar (ss.take i)++s.samples.map Smp.t)++(s.windows.take j).map Wnd.start);have h2:=HLEN.out;unfold maxLen;omega) ?_;intro w6 hI6 hg6 hs6))
        have hlow:∀k,some b=some k→b≤k:=fun k hk=>by injection hk with hk;omega
        have HB6:Hid (Below b w0 w6):=HB4.out.grown hg6 (Nat.le_of_lt HM4.out.lt) hlow;have HP6:Hid (Blk w6 p1 58 #[.slice lA ln lc,.slice sA sn sc,.slice (some ⟨bb,off,none⟩) wn wc]):=HP4.out.grown hg6 (fun e=>by injection e with e;have:=HPB.out;omega);obtain ⟨u6,hI7⟩:∃u,IMap Tryz.prog 2 w6 b (updI f z u):=⟨_,hI6⟩;have HM6:=Jh hI7;have HK6:=Jh (HK5.out u6);clear hI6 hI7 hg6 hs6 hlow HB4 HP4 HM4 HK HK5;go_wp2_with fail
        go_roundg (wn - (j+1))
        case measure=>omega
        case rel=>exact ⟨j+1,_,by first | rfl | go_num,by omega,HB6,HP6,HM6,HK6⟩
      ·have hlz:¬(j:Int) < (wn:Int):=by omega
       have HK2:Hid (Kbb width f (Kar (ss.take (i+1)))):=by
        show Kbb _ _ _
        have h1:=HK.out;rw[List.take_of_length_le (show s.windows.length≤j by omega),←HNX.out] at h1;exact h1
       go_wp2_with fail
       go_roundg (n - (i+1))
       case measure=>omega
       case rel=>exact ⟨i+1,f,by first | rfl | go_num,by omega,HB,HM,HK2⟩
  ·have hlz:¬(i:Int) < (n:Int):=by omega
   have HK1:Hid (Kbb width f (Kar ss)):=by
    show Kbb _ _ _
    have h1:=HK.out;rw[List.take_of_length_le (by rw[HSS.out];omega)] at h1;exact h1
   obtain ⟨D,hown,hhas,_⟩:=HM.out;have HHAS:=Jh hhas
   have hdz:Maps.size D≤137438953472:=by
    have h1:=IMap.size_le hK64 hown (Kby width (Kar ss)) fun x hx=>(HK1.out x).1 (by rw[←hhas];exact hx)
    have h2:=Ken width (Kar ss);have h3:=HSUM.out;rw[Kff] at h2;omega
   have HBR:=HB;have hbl:=hown.lt;clear HK HM HB hhas hi hge;go_wp2_with (at_range;refine wpList_range_own _ rfl _ 216 rfl 2 3 (int_keyed hK64) hT64 HRi b (Maps.size D) D rfl hown ?_;intro w1 hrg0 hg0 hsz0)
   obtain ⟨r,hr⟩:∃r,wr.heap.size=r:=⟨_,rfl⟩;have hB0:Below b w0 w1:=HBR.out.grown hg0 (Nat.le_of_lt hbl) (fun k hk=>by cases hk);have hrl:b < r:=by rw[←hr];exact hbl
   rw[hr] at hrg0 ⊢;clear hr hsz0 hg0 HBR hown hbl
   try go_frame
   obtain ⟨wo,rfl⟩:∃x,x=wr:=⟨_,rfl⟩;go_loopg [16] (Maps.size D) (fun g s16 wr=>∃(left:Lit→Bool) (cnt:Nat) (out:List Int) (v5:Value),v5=s16∧cnt≤g∧Hid (wr.ranges Tryz.prog 2 HRi b r (Maps.size D) D left cnt)∧Hid (wr.ownsRow (r+1) 2 1 v5 out.length (out.map (Value.int .i64)))∧Hid out.Nodup∧Hid (∀x,x∈out↔(f x).isSome=true∧left (.int .i64 x)=false)∧Hid (Below b w0 wr)∧out.length≤137438953472)
   case atStart=>
    refine ⟨Maps.has D,Maps.size D,[],_,rfl,Nat.le_refl _,hrg0,(show Hid _ from World.ownsRow_nil _ _ _ _),List.nodup_nil,(show ∀x,_ from fun x=>?_),hB0,by simp⟩;rw[HHAS.out x];cases (f x).isSome <;> simp
   case round=>
    clear hrg0 hB0;obtain ⟨left,cnt,out,v5,rfl,hcg,HRG,HROW,HND,HOUT,HB,hol⟩:=hrel;obtain ⟨A5,c5,rfl⟩:=Kan HROW.out;obtain ⟨m,hm⟩:∃m,out.length=m:=⟨_,rfl⟩;have HM:=Jh hm;rw[hm] at HROW hol ⊢;clear hm;go_wp2_with (at_next;refine wpList_next_ranges _ rfl _ rfl 2 (int_keyed hK64) HRi (Value.int .i64) (fun v:Value=>v) (fun key kl hk=>by obtain ⟨x,e,_⟩:=Maps.keyOf_int_inv hK64 hk;exact ⟨_,e⟩) (fun v _ _=>⟨v,rfl⟩) b r (Maps.size D) D left cnt rfl HRG.out ?_ ?_)
    ·intro hc0 hl0;have HO2:Hid (∀x,x∈out↔x∈Kby width (Kar ss)):=fun x=>by rw[HOUT.out x,hl0,←HK1.out x];simp
     clear hl0 hc0 HOUT HRG
     by_cases hm0:m=0
     ·subst hm0;obtain rfl:out = []:=List.eq_nil_of_length_eq_zero HM.out;go_wp2_with fail
      refine (Tryz.slices_Sort_int_none A5 c5 wr).mono ?_;rintro e w3 ⟨rfl,rfl⟩;go_wp2_with fail
      go_ret
      exact ⟨A5,0,c5,[],rfl,⟨List.Pairwise.nil,HO2.out⟩,rfl,⟨rfl,fun h=>absurd h (by omega)⟩,Nat.zero_le _,by rw[HBE.out];exact HB.out⟩
     ·obtain ⟨g,rfl⟩:∃g,A5=some ⟨g,0,none⟩:=by
       rcases HROW.out.2 with ⟨h1,h2⟩ | ⟨g,cap,cur,h1,_⟩
       ·exact absurd h2 hm0
       ·injection h1 with h1;exact ⟨g,h1⟩
      have hglt:=HROW.out.lt g rfl;obtain ⟨hhold,cur,hcur1,hcc,hcm,hcur2⟩:=Qgb HROW.out HM.out;have hsort:=Tryz.slices_Sort_int g 0 c5 out wr hhold hglt.2 (by rw[HM.out];omega);rw[HM.out] at hsort;have HS:=Jh hsort;have HCUR:=Jh (⟨hcur1,hcc,hcm,hcur2,hglt⟩:(wr.heap[g]? = some (.cells cur 2 (0,0))∧m≤c5∧c5≤maxLen∧cur.size=c5*1∧_));clear hsort hhold hcur1 hcc hcm hcur2 hglt;go_wp2_with fail
      refine HS.out.mono ?_;rintro e w3 ⟨rfl,q,os,hw3⟩;obtain ⟨hcur1,hcc,hcm,hcur2,hglt⟩:=HCUR.out;obtain ⟨z,hz⟩:∃z,out.mergeSort (fun x y=>decide (x≤y))=z:=⟨_,rfl⟩;rw[hz] at hw3;have hzl:z.length=out.length:=by rw[←hz,List.length_mergeSort]
      have hperm:z.Perm out:=by rw[←hz];exact List.mergeSort_perm out _
      have hasc:z.Pairwise fun a b=>a < b:=by
       have h1:z.Pairwise (fun a b=>a≤b):=by
        have:=List.pairwise_mergeSort (le:=fun x y:Int=>decide (x≤y)) (by intro a b c;simp;omega) (by intro a b;simp;omega) out;rw[hz] at this;simpa using this
       refine (h1.and ((hperm.nodup_iff).2 HND.out)).imp ?_;rintro a b ⟨h1,h2⟩;omega
      have hown2:w3.ownsRow (r+1) 2 1 (.slice (some ⟨g,0,none⟩) m c5) m (z.map (Value.int .i64)):=by
       have:=ownsRow_sortedI (n:=q) (os:=os) (ss:=out) (ts:=z) (base:=r+1) (cap:=c5) hzl hglt.1 hcur1 (by rw[HM.out];exact hcc) hcm hcur2;rw[←hw3,HM.out] at this;exact this
      have hg3:wr.grownBy w3 (some g):=by rw[hw3];exact grownBy_sortedI _
      have hB3:Below b w0 w3:=HB.out.grown hg3 (by have:=hglt.1;have:=hglt.2;omega) (fun k hk=>by injection hk with hk;have:=hglt.1;omega);rw[←Kzy] at hown2;obtain ⟨A4,c4,e4,hE4,hc4,_⟩:=Elems.of_own (xs:=z) (enc:=encZ1) (fun _ _=>rfl) rfl hown2 (by rw[hzl,HM.out]);injection e4 with e4 e5 e6;subst e4 e6
      have HFIN:Hid (∃(A':Option Addr) (n' c':Nat) (L:List Int),Ending.returned (Value.slice (some ⟨g,0,none⟩) m c5)=Ending.returned (Value.slice A' n' c')∧Kcm width (Kar ss) L∧L.length=n'∧Elems w3 w3.heap.size 1 encZ1 A' n' L∧n'≤c'∧Below w0.heap.size w0 w3):=
       ⟨some ⟨g,0,none⟩,m,c5,z,rfl,⟨hasc,fun x=>by rw[hperm.mem_iff];exact HO2.out x⟩,by rw[hzl,HM.out],hE4,hcc,by rw[HBE.out];exact hB3⟩
      clear hE4 hc4 hown2 hg3 hB3 hcur1 hcur2 hcm hcc hglt hasc hperm hzl hz hw3 HS HCUR;go_wp2_with fail
      go_ret
      exact HFIN.out
    ·intro x cv kl y2 y3 w2 cnt2 hkx hlk hv hat2 hrg2 hlt hg2 hs2 hen;clear hs2 hv;obtain ⟨k,e1,rfl,_⟩:=Maps.keyOf_int_inv hK64 hkx;obtain rfl:x=k:=by injection e1
     have hfk:(f x).isSome=true:=by rw[←HHAS.out x];exact Maps.has_true_of_atKey hat2
     have HB2:Hid (Below b w0 w2):=HB.out.grown hg2 (by have:=HRG.out.lt;omega) (fun k hk=>by injection hk with hk;omega)
     have HROW2:Hid (w2.ownsRow (r+1) 2 1 (.slice A5 m c5) m (out.map (Value.int .i64))):=HROW.out.kept hg2 (.inr fun e=>by
      have:=(HROW.out.lt r e).1
      omega)
     have hnot:x∉out:=by
      intro hm;have:=((HOUT.out x).1 hm).2;rw[hlk] at this;cases this
     have HND2:Hid (out ++ [x]).Nodup:=by
      show List.Nodup _
      rw[List.nodup_append];refine ⟨HND.out,by simp,?_⟩;intro p hpo q hq;simp at hq;subst hq;intro e;exact hnot (e▸hpo)
     have HOUT2:Hid (∀z,z∈out ++ [x]↔(f z).isSome=true∧(left (.int .i64 z) && !(Lit.int .i64 z).sameKey (.int .i64 x))=false):=fun z=>by
      have hsk:(Lit.int .i64 z).sameKey (.int .i64 x)=decide (z=x):=by simp[Lit.sameKey]
      rw[List.mem_append,HOUT.out z,List.mem_singleton,hsk]
      by_cases hzx:z=x
      ·subst hzx;simp[hfk]
      ·cases left (.int .i64 z) <;> simp[hzx]
     have hol2:m+1≤137438953472:=by
      have h1:=Khj (out ++ [x]) (Kby width (Kar ss)) HND2.out fun z hz=>(HK1.out z).1 ((HOUT2.out z).1 hz).1
      have h2:=Ken width (Kar ss);have h3:=HSUM.out;rw[Kff] at h2;rw[List.length_append,HM.out,List.length_singleton] at h1;omega
     have HRG2:=Jh hrg2;have hr2:r < w2.heap.size:=hrg2.lt;have HLT:Hid (cnt2 < cnt):=hlt;clear hfk hnot hrg2 hg2 hkx hlk hat2 HB HROW HND HOUT HRG e1 hlt;obtain ⟨w6,hw6⟩:∃y,y=w2.alloc (.cells #[.int .i64 x] 2):=⟨_,rfl⟩;have hb6:Below w2.heap.size w2 w6:=by rw[hw6];exact (Below.refl _ _).alloc (Nat.le_refl _) _
     have hnew6:Blk w6 w2.heap.size 2 #[.int .i64 x]:=by rw[hw6];exact Blk.new _ _ _
     have hrow6:w6.ownsRow (r+1) 2 1 (.slice A5 m c5) m (out.map (Value.int .i64)):=Kaq HROW2.out hb6;have HROW6:=Jh hrow6;have HG6:Hid (w2.grownBy w6 none):=by show World.grownBy _ _ _;rw[hw6];exact World.grownBy_alloc w2 _ none
     have hz6:w2.heap.size≤w6.heap.size:=hb6.size;go_wp2_with (at_builtin;(try rw[←hw6]);refine wpList_append_own_at _ rfl _ _ 125 rfl (r+1) 2 ib (.int .i64 0) 1 8 Tryz.underlying125 hib hz0 hz1 hz2 rfl (by decide) (.slice A5 m c5) m _ rfl hrow6 ⟨w2.heap.size,0,none⟩ 1 1 [.int .i64 x] rfl rfl (Kav (l:=[.int .i64 x]) hnew6) ?p2 ?p3 ?p4 ?p5 ?_)
     case p2=>intro u hu;simp only[List.mem_cons,List.not_mem_nil,or_false] at hu;rcases hu with rfl;rfl
     case p3=>unfold maxLen;omega
     case p4=>omega
     case p5=>omega
     intro v9 w9 hown' hgrow _ _;rw[←hw6] at hgrow;have hlow:∀k,(Value.slice A5 m c5).ownBlock=some k→r+1≤k:=fun k hk=>(HROW6.out.lt k hk).1
     have HB9:Hid (Below b w0 w9):=(HB2.out.grown HG6.out (by omega) (fun k hk=>by cases hk)).grown hgrow (by omega) (fun k hk=>by have:=hlow k hk;omega);have HRG9:Hid (w9.ranges Tryz.prog 2 HRi b r (Maps.size D) D (fun z=>left z && !z.sameKey (.int .i64 x)) cnt2):=(HRG2.out.kept HG6.out (by simp) (by simp)).kept hgrow (fun e=>by have:=hlow b e.symm;omega) (fun e=>by have:=hlow r e.symm;omega)
     have HROW9:Hid (w9.ownsRow (r+1) 2 1 v9 (out ++ [x]).length ((out ++ [x]).map (Value.int .i64))):=by
      show World.ownsRow _ _ _ _ _ _ _
      rw[List.length_append,HM.out,List.map_append];exact hown'
     have hl9:(out ++ [x]).length≤137438953472:=by rw[List.length_append,HM.out];exact hol2
     clear hown' hgrow hlow hrow6 hnew6 HROW6 HROW2 HG6 hw6 hz6 hb6 HB2 HRG2 hib hz0 hz1 hz2;go_wp2_with fail
     go_roundg (gk - 1)
     case measure=>have:=HLT.out;omega
     case rel=>exact ⟨_,cnt2,out ++ [x],_,rfl,by have:=HLT.out;omega,HRG9,HROW9,HND2,HOUT2,HB9,hl9⟩
end
end
section
open Go.RowKit
open Lib renaming hid → Jh
attribute [local go_sem ↓] Go.wp_at_zero Go.wp_at_succ
attribute [local go_sem] Later.cell
theorem Qab {l:List Txt} {i:Nat} (hi:i < l.length):(l.take (i+1)).flatten=(l.take i).flatten++l[i]!:=by
 rw[List.take_succ_eq_append_getElem hi,List.flatten_append,getElem!_pos l i hi];simp
theorem Qeg {n a:Nat} (ha:a < 2 ^ n):a ^^^ (2 ^ n - 1)=2 ^ n - 1 - a:=by
 have h:=BitVec.toNat_not (x:=BitVec.ofNat n a);rw[←BitVec.xor_allOnes,BitVec.toNat_xor,BitVec.toNat_allOnes,BitVec.toNat_ofNat,Nat.mod_eq_of_lt ha] at h;exact h
theorem Kzg {a:Nat} (ha:a < 18446744073709551616):a ^^^ 18446744073709551615=18446744073709551615 - a:=Qeg (n:=64) ha
theorem Qeh {v:Int} (h1:-9223372036854775808≤v) (h2:v≤9223372036854775807) :
  bits .xor .u64 (IntKind.u64.wrap (wrap64 (v*2))) (IntKind.u64.wrap (v / 9223372036854775808))=((zig v:Nat):Int):=by
 rw[IntKind.wrap_u64,IntKind.wrap_u64];unfold wrap64
 by_cases h:0≤v
 ·have e1:((v*2+9223372036854775808) % 18446744073709551616 - 9223372036854775808) % 18446744073709551616=((zig v:Nat):Int):=by unfold zig;rw[if_pos h];omega
  have e2:v / 9223372036854775808 % 18446744073709551616=((0:Nat):Int):=by omega
  rw[e1,e2,bits_xor_u64_nat _ _ (by have:=Kuk h1 h2;omega) (by decide),Nat.xor_zero]
 ·have e1:((v*2+9223372036854775808) % 18446744073709551616 - 9223372036854775808) % 18446744073709551616=((18446744073709551615 - zig v:Nat):Int):=by unfold zig;rw[if_neg h];omega
  have e2:v / 9223372036854775808 % 18446744073709551616=((18446744073709551615:Nat):Int):=by omega
  rw[e1,e2,bits_xor_u64_nat _ _ (by omega) (by decide),Kzg (by omega)];have:=Kuk h1 h2;omega
theorem Kmm (n:Int) (h0:0≤n) (h1:n < 2 ^ 32):IntKind.u32.wrap n=n:=by
 rw[IntKind.wrap_u32];omega
theorem Kwm {a b:Nat} (ha:a < 4294967296) (hb:b < 4294967296):bits .and .u32 (a:Int) (b:Int)=((a &&& b:Nat):Int):=(bits_nat .u32 32 (by decide) Kmm a b ha hb).1
theorem Qax {a b:Nat} (ha:a < 4294967296) (hb:b < 4294967296):bits .or .u32 (a:Int) (b:Int)=((a ||| b:Nat):Int):=(bits_nat .u32 32 (by decide) Kmm a b ha hb).2
theorem Kpg {a b:Nat} (ha:a < 4294967296) (hb:b < 4294967296):bits .xor .u32 (a:Int) (b:Int)=((a ^^^ b:Nat):Int):=by
 have h:bits .xor .u32 (a:Int) (b:Int)=IntKind.u32.wrap (((BitVec.ofInt 32 (a:Int) ^^^ BitVec.ofInt 32 (b:Int)).toNat:Nat):Int):=rfl;rw[h,BitVec.ofInt_natCast,BitVec.ofInt_natCast,BitVec.toNat_xor,BitVec.toNat_ofNat,BitVec.toNat_ofNat,Nat.mod_eq_of_lt (show a < 2 ^ 32 by omega),Nat.mod_eq_of_lt (show b < 2 ^ 32 by omega)];exact Kmm _ (Int.natCast_nonneg _) (by have:=Khb ha hb;omega)
theorem Kgy {k x:Nat} (y:Nat) (h:x < 2 ^ k):(y*2 ^ k) ||| x=y*2 ^ k+x:=by
 have:=Nat.shiftLeft_add_eq_or_of_lt h y;rw[Nat.shiftLeft_eq] at this;exact this.symm
theorem Qdm {x1 x0 y1 y0:Nat} (hx:x0 < 65536) (hy:y0 < 65536):(x1*65536+x0) ||| (y1*65536+y0)=(x1 ||| y1)*65536+(x0 ||| y0):=by
 have e1:=Kgy (k:=16) x1 (show x0 < 2 ^ 16 from hx);have e2:=Kgy (k:=16) y1 (show y0 < 2 ^ 16 from hy);have e3:=Kgy (k:=16) (x1 ||| y1) (Nat.or_lt_two_pow (show x0 < 2 ^ 16 from hx) (show y0 < 2 ^ 16 from hy))
 have e4:(x1 ||| y1)*2 ^ 16=x1*2 ^ 16 ||| y1*2 ^ 16:=by
  rw[←Nat.shiftLeft_eq,←Nat.shiftLeft_eq,←Nat.shiftLeft_eq,Nat.shiftLeft_or_distrib]
 have e16:(65536:Nat)=2 ^ 16:=by decide
 rw[e16,←e1,←e2,←e3,e4,Nat.or_assoc,Nat.or_assoc];congr 1;rw[←Nat.or_assoc,←Nat.or_assoc,Nat.or_comm x0]
theorem Kgq (v:Nat):v &&& 16711935=v / 65536 % 256*65536+v % 256:=by
 have h1:(16711935:Nat)=255 <<< 16 ||| 255:=by decide
 have h2:v &&& 255=v % 256:=Nat.and_two_pow_sub_one_eq_mod v 8
 have h3:v &&& (255 <<< 16)=((v >>> 16) &&& 255) <<< 16:=by
  apply Nat.eq_of_testBit_eq;intro i;simp only[Nat.testBit_and,Nat.testBit_shiftLeft,Nat.testBit_shiftRight]
  by_cases h:16≤i
  ·simp[h,Nat.add_sub_cancel' h]
  ·simp[h]
 have h4:(v >>> 16) &&& 255=v / 65536 % 256:=by
  rw[Nat.shiftRight_eq_div_pow];exact Nat.and_two_pow_sub_one_eq_mod _ 8
 rw[h1,Nat.and_or_distrib_left,h2,h3,h4,Nat.shiftLeft_eq];exact Kgy (k:=16) _ (by omega)
def revN (v:Nat):Nat:=v % 256*16777216+v / 256 % 256*65536+v / 65536 % 256*256+v / 16777216
theorem Qdt {v:Nat} (hv:v < 4294967296):((v / 256) &&& 16711935) ||| ((v &&& 16711935)*256)=(v / 65536 % 256*256+v / 16777216)*65536+(v % 256*256+v / 256 % 256):=by
 rw[Kgq,Kgq];have e1:(v / 65536 % 256*65536+v % 256)*256=(v / 65536 % 256*256)*65536+v % 256*256:=by omega
 have e2:v / 256 / 65536 % 256=v / 16777216:=by omega
 rw[e1,e2,Qdm (by omega) (by omega)];have e3:=Kgy (k:=8) (v / 65536 % 256) (show v / 16777216 < 2 ^ 8 by omega);have e4:=Kgy (k:=8) (v % 256) (show v / 256 % 256 < 2 ^ 8 by omega);have e8:(2:Nat) ^ 8=256:=by decide
 rw[e8] at e3 e4;rw[Nat.or_comm (v / 16777216),Nat.or_comm (v / 256 % 256),e3,e4]
set_option maxHeartbeats 400000 in
theorem Kpt (v:Int) (h1:-9223372036854775808≤v) (h2:v≤9223372036854775807) (w:World) :
  Calls Tryz.prog 46 #[.int .i64 v] w fun e w'=>e = .returned (.string ⟨(intT v).toArray⟩)∧Below w.heap.size w w':=by
 have HU:=Jh (fun w=>Kau (zig v) (Kuk h1 h2) w);go_enter Tryz.func46,Tryz.ntmps46
 go_wp2_with fail
 rw[Qeh h1 h2];refine (HU.out w).mono ?_;rintro _ w1 ⟨rfl,hb⟩;go_wp2_with fail
 go_ret
 exact ⟨rfl,hb⟩
theorem Qds {v:Nat} (hv:v < 4294967296):bits .or .u32 (bits .and .u32 ((v:Int) / 256) 16711935) (bits .and .u32 (v:Int) 16711935*256 % 4294967296)=(((v / 65536 % 256*256+v / 16777216)*65536+(v % 256*256+v / 256 % 256):Nat):Int):=by
 have e1:(v:Int) / 256=((v / 256:Nat):Int):=by omega
 have e2:∀x:Nat,x < 4294967296→bits .and .u32 (x:Int) 16711935=((x &&& 16711935:Nat):Int):=fun x hx=>Kwm hx (by decide)
 have e3:((v &&& 16711935:Nat):Int)*256 % 4294967296=(((v &&& 16711935)*256:Nat):Int):=by rw[Kgq];omega
 rw[e1,e2 _ (by omega),e2 _ hv,e3,Qax (by rw[Kgq];omega) (by rw[Kgq];omega),Qdt hv]
theorem Qdr {v:Nat} (hv:v < 4294967296) {T:Int} (hT:T=(((v / 65536 % 256*256+v / 16777216)*65536+(v % 256*256+v / 256 % 256):Nat):Int)) :
  bits .or .u32 (T / 65536) (T*65536 % 4294967296)=((revN v:Nat):Int):=by
 subst hT;have e1:(((v / 65536 % 256*256+v / 16777216)*65536+(v % 256*256+v / 256 % 256):Nat):Int) / 65536=((v / 65536 % 256*256+v / 16777216:Nat):Int):=by omega
 have e2:(((v / 65536 % 256*256+v / 16777216)*65536+(v % 256*256+v / 256 % 256):Nat):Int)*65536 % 4294967296=(((v % 256*256+v / 256 % 256)*65536:Nat):Int):=by omega
 rw[e1,e2,Qax (by omega) (by omega),Nat.or_comm];have e3:=Kgy (k:=16) (v % 256*256+v / 256 % 256) (show v / 65536 % 256*256+v / 16777216 < 2 ^ 16 by omega);have e16:(2:Nat) ^ 16=65536:=by decide
 rw[e16] at e3;rw[e3];unfold revN;omega
set_option maxHeartbeats 400000 in
theorem Qbh (v:Nat) (hv:v < 4294967296) (w:World) :
  Calls Tryz.prog 175 #[.int .u32 v] w fun e w'=>e = .returned (.int .u32 (revN v:Nat))∧w=w':=by
 go_enter Tryz.func175,Tryz.ntmps175
 go_wp2_with fail
 rw[Qdr hv (Qds hv)];go_ret
 exact ⟨rfl,rfl⟩
theorem Kxs (a b c d:UInt8) (g:Nat) (w:World) (h0:w.cell? ⟨g,0,none⟩=some (.int .u8 (a.toNat:Int))) (h1:w.cell? ⟨g,1,none⟩=some (.int .u8 (b.toNat:Int))) (h2:w.cell? ⟨g,2,none⟩=some (.int .u8 (c.toNat:Int))) (h3:w.cell? ⟨g,3,none⟩=some (.int .u8 (d.toNat:Int))) :
  (convert 76 9 (.slice (some ⟨g,0,none⟩) 4 4)).run Tryz.prog w = .ok (.string ⟨#[a,b,c,d]⟩) w:=
 run_convert_bytes_back w _ _ 5 ⟨g,0,none⟩ 4 [a,b,c,d] Tryz.underlying76 Tryz.underlying5 Tryz.underlying9 (fun j hj=>by
  match j,hj with
  | 0,_=>exact h0
  | 1,_=>exact h1
  | 2,_=>exact h2
  | 3,_=>exact h3
  | _+4,hj=>simp at hj;omega)
theorem Qbi {a b c d r:Nat} (ha:a < 256) (hb:b < 256) (hc:c < 256) (hd:d < 256) (hr:a*16777216+b*65536+c*256+d=r) :
  (r:Int) / 16777216=(a:Int)∧(r:Int) / 65536 % 256=(b:Int)∧(r:Int) / 256 % 256=(c:Int)∧(r:Int) % 256=(d:Int):=by
 subst hr;refine ⟨?_,?_,?_,?_⟩ <;> omega
set_option maxHeartbeats 400000 in
theorem Kxt (v:Nat) (hv:v < 4294967296) (w:World) :
  Calls Tryz.prog 122 #[.int .u32 v] w fun e w'=>e = .returned (.string ⟨(fourT v).toArray⟩)∧Below w.heap.size w w':=by
 have HR:=Jh (Qbh v hv w);obtain ⟨r,hr⟩:∃r,revN v=r:=⟨_,rfl⟩;rw[hr] at HR;have hr2:r < 4294967296:=by rw[←hr];unfold revN;omega
 obtain ⟨b0,h0⟩:∃b,UInt8.ofNat v=b:=⟨_,rfl⟩;obtain ⟨b1,h1⟩:∃b,UInt8.ofNat (v / 256)=b:=⟨_,rfl⟩;obtain ⟨b2,h2⟩:∃b,UInt8.ofNat (v / 65536)=b:=⟨_,rfl⟩;obtain ⟨b3,h3⟩:∃b,UInt8.ofNat (v / 16777216)=b:=⟨_,rfl⟩;obtain ⟨p0,p1,p2,p3⟩:=Qbi (a:=v % 256) (b:=v / 256 % 256) (c:=v / 65536 % 256) (d:=v / 16777216) (by omega) (by omega) (by omega) (by omega) hr;have k0:(r:Int) / 16777216=(b0.toNat:Int):=by rw[p0,←h0,UInt8.toNat_ofNat']
 have k1:(r:Int) / 65536 % 256=(b1.toNat:Int):=by rw[p1,←h1,UInt8.toNat_ofNat']
 have k2:(r:Int) / 256 % 256=(b2.toNat:Int):=by rw[p2,←h2,UInt8.toNat_ofNat']
 have k3:(r:Int) % 256=(b3.toNat:Int):=by rw[p3,←h3,UInt8.toNat_ofNat'];omega
 have hcv:=Kxs b0 b1 b2 b3 w.heap.size (w.alloc (.cells #[.int .u8 ((r:Int) / 16777216),.int .u8 ((r:Int) / 65536 % 256),.int .u8 ((r:Int) / 256 % 256),.int .u8 ((r:Int) % 256)] 5)) (by rw[k0];simp[go_sem]) (by rw[k1];simp[go_sem]) (by rw[k2];simp[go_sem]) (by rw[k3];simp[go_sem]);have hb:Below w.heap.size w (w.alloc (.cells #[.int .u8 ((r:Int) / 16777216),.int .u8 ((r:Int) / 65536 % 256),.int .u8 ((r:Int) / 256 % 256),.int .u8 ((r:Int) % 256)] 5)):=(Below.refl _ _).alloc (Nat.le_refl _) _;have hfin:(⟨#[b0,b1,b2,b3]⟩:ByteArray)=⟨(fourT v).toArray⟩:=by rw[←h0,←h1,←h2,←h3];rfl
 have HFIN:=Jh hfin;have HB:=Jh hb;clear k0 k1 k2 k3 h0 h1 h2 h3 hr hfin hb p0 p1 p2 p3;go_enter Tryz.func122,Tryz.ntmps122
 go_wp2_with fail
 refine HR.out.mono ?_;rintro _ w1 ⟨rfl,rfl⟩;go_wp2_with fail
 go_ret
 exact ⟨by first | rfl | (rw[HFIN.out];rfl),HB.out⟩
def Kdx (w:World):Prop:=∀i,i < 16→w.cell? ⟨0,i,none⟩=some (.int .u32 (nibs.getD i 0:Nat))
theorem Kdx.below {B:Nat} {w w':World} (h:Kdx w) (hB:0 < B) (hb:Below B w w'):Kdx w':=fun i hi=>(hb.cell (p:=⟨0,i,none⟩) hB).trans (h i hi)
theorem and15 {c:Nat} (h:c < 4294967296):bits .and .u32 (c:Int) 15=((c % 16:Nat):Int):=by
 have h1:bits .and .u32 (c:Int) 15=((c &&& 15:Nat):Int):=Kwm h (by decide);rw[h1];congr 1;exact Nat.and_two_pow_sub_one_eq_mod c 4
theorem Kwy {c:Nat} (h:c < 4294967296):bits .xor .u32 ((nibs.getD (c % 16) 0:Nat):Int) ((c:Int) / 16)=((nibN c:Nat):Int):=by
 have e1:(c:Int) / 16=((c / 16:Nat):Int):=by omega
 rw[e1,Kpg (Kwz _) (by omega)];rfl
theorem Kzs (Ao:Option Addr) (n c:Nat) (l:List Txt) (w:World) (h:Strs w Ao n l) (hn:n≤140737488355328) (hs:∀s∈l,s.length≤140737488355328) (hT:Kdx w) :
  Calls Tryz.prog 123 #[.slice Ao n c] w fun e w'=>e = .returned (.int .u32 (crcL l.flatten:Nat))∧w=w':=by
 have hln:=h.len;have HS:=Jh hs;have HH:=Jh h;have HT:=Jh hT;clear hs h hT;go_enter Tryz.func123,Tryz.ntmps123
 go_wp2_with fail
 go_loopg [3,9] n (fun g s3 s9 wr=>∃i c:Nat,i+g=n∧s9 = .int .i64 (i:Int)∧s3 = .int .u32 (c:Int)∧c < 4294967296∧crcF 4294967295 (l.take i).flatten=c∧wr=w)
 case atStart=>exact ⟨0,4294967295,by omega,rfl,rfl,by decide,rfl,rfl⟩
 case round=>
  obtain ⟨i,c,hig,rfl,rfl,hc,hcr,rfl⟩:=hrel;have HIG:=Jh hig;have HCR:=Jh hcr;clear hig hcr
  by_cases hi:i < n
  ·have el:decide ((i:Int) < (n:Int))=true:=by simp;omega
   have el':decide (i < n)=true:=by simp;omega
   have hiin:(i:Int) < (n:Int):=by omega
   obtain ⟨b,off,hXe,hbl,x0⟩:=HH.out.at_ hi;subst hXe;have hil:i < l.length:=by omega
   obtain ⟨T,hT⟩:∃T:ByteArray,(⟨l[i]!.toArray⟩:ByteArray)=T:=⟨_,rfl⟩;have hTl:T.data.toList=l[i]!:=by rw[←hT]
   have hTs:T.size≤140737488355328:=by
    have:=HS.out l[i]! (by rw[getElem!_pos l i hil];exact List.getElem_mem _);rw[←hTl,Kak] at this;exact this
   unfold txtV at x0;rw[hT] at x0;have hft:=Qab hil;rw[←hTl] at hft;have HFT:=Jh hft;obtain ⟨og,rfl⟩:∃x,x=gk:=⟨_,rfl⟩;clear hft hT hTl;go_wp2_with fail
   go_loopg [3,15] T.size (fun g s3 s15 wr2=>∃j c:Nat,j+g=T.size∧s15 = .int .i64 (j:Int)∧s3 = .int .u32 (c:Int)∧c < 4294967296∧crcF 4294967295 ((l.take i).flatten++T.data.toList.take j)=c∧wr2=wr)
   case atStart=>exact ⟨0,c,by omega,rfl,rfl,hc,by rw[List.take_zero,List.append_nil];exact HCR.out,rfl⟩
   case round=>
    obtain ⟨j,c',hjg,rfl,rfl,hc',hcr',rfl⟩:=hrel;have HJG:=Jh hjg;have HCR2:=Jh hcr';clear hjg hcr'
    by_cases hj:j < T.size
    ·have fl:decide ((j:Int) < (T.size:Int))=true:=by simp;omega
     have fl':decide (j < T.size)=true:=by simp;omega
     have hjin:(j:Int) < (T.size:Int):=by omega
     have hbt:=UInt8.toNat_lt T[j];obtain ⟨c0,hc0⟩:∃x,c' ^^^ T[j].toNat=x:=⟨_,rfl⟩;have hx0:bits .xor .u32 (c':Int) (T[j].toNat:Int)=(c0:Int):=by rw[←hc0];exact Kpg hc' (by omega)
     have hl0:c0 < 4294967296:=by rw[←hc0];exact Khb hc' (by omega)
     obtain ⟨i0,hi0⟩:∃x,c0 % 16=x:=⟨_,rfl⟩;have ha0:bits .and .u32 (c0:Int) 15=(i0:Int):=by rw[←hi0];exact and15 hl0
     have hi16:i0 < 16:=by omega
     obtain ⟨n0,hn0⟩:∃x,nibs.getD i0 0=x:=⟨_,rfl⟩;have hm0:=HT.out i0 hi16;rw[hn0] at hm0;obtain ⟨c1,hc1⟩:∃x,nibN c0=x:=⟨_,rfl⟩;have hy0:bits .xor .u32 (n0:Int) ((c0:Int) / 16)=(c1:Int):=by rw[←hn0,←hi0,←hc1];exact Kwy hl0
     have hl1:c1 < 4294967296:=by rw[←hc1];exact Kkx hl0
     obtain ⟨i1,hi1⟩:∃x,c1 % 16=x:=⟨_,rfl⟩;have ha1:bits .and .u32 (c1:Int) 15=(i1:Int):=by rw[←hi1];exact and15 hl1
     have hi17:i1 < 16:=by omega
     obtain ⟨n1,hn1⟩:∃x,nibs.getD i1 0=x:=⟨_,rfl⟩;have hm1:=HT.out i1 hi17;rw[hn1] at hm1;obtain ⟨c2,hc2⟩:∃x,nibN c1=x:=⟨_,rfl⟩;have hy1:bits .xor .u32 (n1:Int) ((c1:Int) / 16)=(c2:Int):=by rw[←hn1,←hi1,←hc2];exact Kwy hl1
     have hl2:c2 < 4294967296:=by rw[←hc2];exact Kkx hl1
     have hnext:crcF 4294967295 ((l.take i).flatten++T.data.toList.take (j+1))=c2:=by
      have e:T.data.toList.take (j+1)=T.data.toList.take j ++ [T[j]]:=by
       rw[List.take_add_one,List.getElem?_eq_getElem (by simpa using hj)];simp[ByteArray.getElem_eq_getElem_data]
      rw[e,←List.append_assoc,Kzr,HCR2.out,←hc2,←hc1,←hc0];rfl
     have HNX:=Jh hnext;clear hnext hc0 hc1 hc2 hn0 hn1 hi0 hi1;go_wp2_with fail
     go_roundg (gk - 1)
     case measure=>have:=HJG.out;omega
     case rel=>exact ⟨j+1,c2,by have:=HJG.out;omega,by go_num,rfl,hl2,HNX.out,rfl⟩
    ·have fl:decide ((j:Int) < (T.size:Int))=false:=by simp;omega
     have fl':decide (j < T.size)=false:=by simp;omega
     have hfull:crcF 4294967295 (l.take (i+1)).flatten=c':=by
      have:=HCR2.out;have e:T.data.toList.take j=T.data.toList:=List.take_of_length_le (by rw[Kak];omega);rw[e,←HFT.out] at this;exact this
     have HF:=Jh hfull;clear hfull;go_wp2_with fail
     go_roundg (og - 1)
     case measure=>have:=HIG.out;omega
     case rel=>exact ⟨i+1,c',by have:=HIG.out;omega,by go_num,rfl,hc',HF.out,rfl⟩
  ·have el:decide ((i:Int) < (n:Int))=false:=by simp;omega
   have el':decide (i < n)=false:=by simp;omega
   have hend:bits .xor .u32 IntKind.u32.max (c:Int)=((crcL l.flatten:Nat):Int):=by
    have h1:bits .xor .u32 IntKind.u32.max (c:Int)=((4294967295 ^^^ c:Nat):Int):=Kpg (a:=4294967295) (by decide) hc;have h2:=HCR.out;rw[List.take_of_length_le (by omega)] at h2;rw[h1];unfold crcL;rw[h2,Nat.xor_comm]
   go_wp2_with fail
   go_ret
   exact ⟨rfl,rfl⟩
end
section
open Go.RowKit
attribute [local go_sem ↓] Go.wp_at_zero Go.wp_at_succ
attribute [local go_sem] Later.cell
theorem Qfk {w:World} {b:Nat} {l:List Txt} (h:Blk w b 9 (l.map txtV).toArray):Strs w (some ⟨b,0,none⟩) l.length l:=
 ⟨rfl,fun _=>⟨b,0,rfl,h.lt,fun i x hx j v hv=>by
  match j,hv with
  | 0,hv=>
   injection hv with hv;subst hv;have h1:=h.cell i;have h2:(l.map txtV).toArray[i]? = some (txtV x):=by simp[hx]
   simpa[h2] using h1
  | j+1,hv=>simp[enc1] at hv⟩⟩
theorem Qcj {a b:ByteArray} (h:a.data.toList=b.data.toList):a=b:=by
 cases a;cases b
 simp at h;rw[h]
theorem Kdx.lt {w:World} (h:Kdx w):0 < w.heap.size:=Kfa (h 0 (by decide))
theorem Qdw {w:World} {b:Nat} {S:ByteArray} (h:Blk w b 9 #[.string S]):Strs w (some ⟨b,0,none⟩) 1 [S.data.toList]:=Qfk (by unfold txtV;exact h)
theorem Qes {w:World} {b c:Nat} {S:ByteArray} (h:Blk w b 9 #[.string S]) (hS:S.size≤140737488355328) (hT:Kdx w) :
  Calls Tryz.prog 123 #[.slice (some ⟨b,0,none⟩) 1 c] w fun e w'=>e = .returned (.int .u32 (crcL S.data.toList:Nat))∧w=w':=by
 have h1:=Kzs (some ⟨b,0,none⟩) 1 c [S.data.toList] w (Qdw h) (by decide) (fun s hs=>by rw[List.mem_singleton.1 hs,Kak];exact hS) hT;have e:[S.data.toList].flatten=S.data.toList:=by simp
 rw[e] at h1;exact h1
theorem Kyu (s:ByteArray) (hs:s.size≤140737488351232) (w:World) (hT:Kdx w) :
  Calls Tryz.prog 47 #[.string s] w fun e w'=>e = .returned (.string ⟨(sealT s.data.toList).toArray⟩)∧Below w.heap.size w w':=by
 obtain ⟨w1,hw1⟩:∃x,w.alloc (.cells #[.string s] 9)=x:=⟨_,rfl⟩;have hb1:Below w.heap.size w w1:=by rw[←hw1];exact (Below.refl _ _).alloc (Nat.le_refl _) _
 have hk1:Blk w1 w.heap.size 9 #[.string s]:=by rw[←hw1];exact Blk.new _ _ _
 have HC:=Lib.hid (Qes (c:=1) hk1 (by omega) (hT.below hT.lt hb1));have HF:=Lib.hid (fun w=>Kxt (crcL s.data.toList) (Qer _) w);have HW:=Lib.hid hw1;obtain ⟨F,hF⟩:∃F:ByteArray,(⟨(fourT (crcL s.data.toList)).toArray⟩:ByteArray)=F:=⟨_,rfl⟩;have hF4:F.size=4:=by rw[←hF];rfl
 have hfin:s++F=(⟨(sealT s.data.toList).toArray⟩:ByteArray):=Qcj (by rw[←hF];simp[sealT,ByteArray.data_append]);rw[hF] at HF;have HFIN:=Lib.hid hfin;clear hw1 hk1 hfin hF;go_enter Tryz.func47,Tryz.ntmps47
 go_wp2_with fail
 rw[HW.out];refine HC.out.mono ?_;rintro _ w2 ⟨rfl,rfl⟩;go_wp2_with fail
 refine (HF.out w1).mono ?_;rintro _ w2 ⟨rfl,hb2⟩;go_wp2_with fail
 rw[HFIN.out];go_ret
 exact ⟨rfl,then_ hb1 hb2⟩
end
section
open Go.RowKit
theorem Ktr {S:List (List Lb)} {q:Lb} (h:q∉keysOf S):Kao S q = []:=by
 unfold Kao;rw[List.filter_eq_nil_iff];intro i hi;rw[decide_eq_true_eq];intro hm;apply h;rw[(Keu S).2];have hl:=List.mem_range.1 hi;rw[List.getD_eq_getElem?_getD,List.getElem?_eq_getElem hl] at hm;exact ⟨S[i],List.getElem_mem hl,hm⟩
def Kem (S:List (List Lb)) (l:List Lb) (k:Nat):Lb→List Nat:=fun y=>if y∈l.take k then Kao S y ++ [S.length] else Kao S y
theorem Kvy (S:List (List Lb)) (l:List Lb):Kem S l 0=Kao S:=by funext y;simp[Kem]
theorem Kgz (S:List (List Lb)) (l:List Lb) (y:Lb):Kao (S ++ [l]) y=if y∈l then Kao S y ++ [S.length] else Kao S y:=by
 unfold Kao;rw[List.length_append,List.length_singleton,List.range_succ,List.filter_append]
 have h1:(List.range S.length).filter (fun i=>decide (y∈(S ++ [l]).getD i []))=(List.range S.length).filter (fun i=>decide (y∈S.getD i [])):=by
  apply List.filter_congr;intro i hi;rw[List.getD_eq_getElem?_getD,List.getD_eq_getElem?_getD,List.getElem?_append_left (List.mem_range.1 hi)]
 have h2:(S ++ [l]).getD S.length []=l:=by simp[List.getD_eq_getElem?_getD]
 rw[h1]
 by_cases hy:y∈l
 ·rw[if_pos hy,List.filter_cons,List.filter_nil,h2,if_pos (decide_eq_true hy)]
 ·rw[if_neg hy,List.filter_cons,List.filter_nil,h2,if_neg (by simpa using hy),List.append_nil]
theorem Kyr (S:List (List Lb)) (l:List Lb):Kem S l l.length=Kao (S ++ [l]):=by
 funext y;rw[Kgz,Kem,List.take_length]
theorem Kvz:Kao []=fun _=>[]:=rfl
theorem Kfu {l:List Lb} (h:Kdb l=true):l.Nodup∧l≠[]∧l.length≤8∧(∀x∈l,x.n.length≤32∧x.v.length≤64)∧Kdi l=0:=by
 have he:=Kzd h;unfold Kdb at h;rw[Bool.and_eq_true,decide_eq_true_eq,decide_eq_true_eq] at h;obtain ⟨h1,h2⟩:=h;have hm:=h1;unfold Kbm at h1
 split at h1
 ·cases h1
 ·split at h1
  ·cases h1
  ·rename_i h3 h4
   refine ⟨?_,fun e=>h3 (by rw[e];rfl),by omega,fun x hx=>?_,he⟩
   ·unfold names at h2;rw[List.pairwise_map] at h2;exact h2.imp fun hab e=>by subst e;exact List.lt_irrefl _ hab
   ·obtain ⟨a,b⟩:=Kir h1 x hx;unfold fitN at a;unfold fitV at b;simp only[Bool.and_eq_true,decide_eq_true_eq] at a b;omega
theorem Qdo {c:Cont} {s:Ser} (h:Kek c s=true) (h0:0≤c.frm) (h1:c.to_≤1125899906842625) (hv:∀x∈s.samples,x.v < 2 ^ 64) :
  (∀p∈Kbx s.samples.length s.samples,(Kei p).1=Kcz p)∧(aggO s.windows).1=aggT s.windows:=by
 unfold Kek at h
 split at h
 ·rename_i hr
  rw[Bool.and_eq_true,decide_eq_true_eq,Kzf] at h;obtain ⟨hw,_,hi,hri⟩:=h;have hw0:s.windows = []:=List.eq_nil_of_length_eq_zero hw;refine ⟨fun p hp=>?_,by rw[hw0];rfl⟩;have hok:=Qdq (fun x hx=>(⟨by have:=hi x hx;omega,by have:=hi x hx;omega,hv x hx⟩:SmpOk x)) hri hp;have hfit:fitC none 0 p=true:=(Ksj p none 0).2 ⟨fun x hx=>⟨(hok.1 x hx).1,(hok.1 x hx).2.1⟩,hok.2.1,fun y x hy=>(by cases hy),.inr (by have:=hok.2.2;omega)⟩;unfold Kei;rw[if_pos ((Kzw p).2 hfit)]
 ·rename_i hr
  rw[Bool.and_eq_true,Bool.and_eq_true,decide_eq_true_eq] at h;have hs0:s.samples = []:=List.eq_nil_of_length_eq_zero h.1.2;refine ⟨fun p hp=>by rw[hs0] at hp;simp[Kbx] at hp,?_⟩;unfold aggO;rw[if_pos ((Kjl _ _ _).2 h.1.1)]
end
section
open Go.RowKit
open Go.ChangeMaps (setBlock)
open Go.MapKept
structure RIt (w:World) (b r:Nat) (es:Array MapEntry) (clock:Nat) (out:List MapEntry) (cnt:Nat):Prop where
 ex:∃since seen c0,w.heap[b]? = some (.map es clock)∧w.heap[r]? = some (.mapIter (some b) since seen c0)∧(∀x∈es.toList,x.born < since)∧(leftOf es seen).size=cnt∧
  (∀x∈es.toList,seen.contains x.born=true↔x∈out)∧since≤c0∧since≤clock
 sub:∀x∈out,x∈es.toList
 nd:out.Nodup
section
variable {w w' : World} {b r : Nat} {es : Array MapEntry} {clock : Nat} {out : List MapEntry} {cnt : Nat}
theorem RIt.map (h:RIt w b r es clock out cnt):w.heap[b]? = some (.map es clock):=by obtain ⟨_,_,_,hb,_⟩:=h.ex;exact hb
theorem RIt.blt (h:RIt w b r es clock out cnt):b < w.heap.size:=(Array.getElem?_eq_some_iff.1 h.map).1
theorem RIt.rlt (h:RIt w b r es clock out cnt):r < w.heap.size:=by obtain ⟨_,_,_,_,hr,_⟩:=h.ex;exact (Array.getElem?_eq_some_iff.1 hr).1
theorem RIt.ne (h:RIt w b r es clock out cnt):r≠b:=by
 obtain ⟨_,_,_,hb,hr,_⟩:=h.ex;intro e;rw[e,hb] at hr;cases hr
theorem RIt.kept {row:Option Nat} (h:RIt w b r es clock out cnt) (hg:w.grownBy w' row) (hb':some b≠row) (hr':some r≠row):RIt w' b r es clock out cnt:=by
 have h1:=h.blt;have h2:=h.rlt;obtain ⟨since,seen,c0,hb,hr,rest⟩:=h.ex;exact ⟨⟨since,seen,c0,(hg.block b h1 hb').trans hb,(hg.block r h2 hr').trans hr,rest⟩,h.sub,h.nd⟩
theorem RIt.below (h:RIt w b r es clock out cnt) (hb:Below w.heap.size w w'):RIt w' b r es clock out cnt:=h.kept (row:=none) ⟨hb.os,hb.tape,hb.output,hb.size,fun k hk _=>hb.block k hk⟩ (by simp) (by simp)
variable {P : Program} {ops : Array Oper} {rest : List Oper} {o : Oper} {a : Act} {Q : Exit → Act → World → Prop}
theorem Kmn (hg:o.guard=none) (m:Operand) (t:TypeId) (hop:o.op=Op.range t m) (k e:TypeId) (ht:P.underlying t=some (.map k e)) (hm:a.eval m = .map (some b)) (hb:w.heap[b]? = some (.map es clock)) (hst:Stamped es clock)
  (hK:∀w',RIt w' b w.heap.size es clock [] es.size→w.grownBy w' none→w'.heap.size=w.heap.size+1→wpList P ops Q rest (a.put o.dst (.pointer (some ⟨w.heap.size,0,none⟩))) w') :
  wpList P ops Q (o :: rest) a w:=by
 refine wpList_plain hg fun K' hK'=>?_
 have hlt:=(Array.getElem?_eq_some_iff.1 hb).1;have hrun:=run_range_map (P:=P) w t k e b es clock ht hb;unfold Oper.wp;simp[execOp,hop,hm,hrun,Result.andThen];refine hK' _ _ (hK _ ⟨⟨clock,#[],clock,((MapKept.heap_alloc w _).2 b hlt).trans hb,(MapKept.heap_alloc w _).1,hst.1,by simp[leftOf],fun x _=>by simp,Nat.le_refl _,Nat.le_refl _⟩,by simp,by simp⟩ (World.grownBy_alloc w _ none) (by simp))
theorem RIt.next (h:RIt w b r es clock out cnt) (hst:Stamped es clock) (ty:TypeId) :
  (cnt=0∧(∀x∈es.toList,x∈out)∧(Instr.next (.pointer (some ⟨r,0,none⟩)) false ty).run P w = .ok (.tuple #[.bool false]) w)∨
  ∃e w' cnt',e∈es.toList∧e∉out∧(Instr.next (.pointer (some ⟨r,0,none⟩)) false ty).run P w = .ok (.tuple #[.bool true,e.key,e.val]) w'∧RIt w' b r es clock (out ++ [e]) cnt'∧cnt' < cnt∧w.grownBy w' (some r)∧w'.heap.size=w.heap.size∧
   (Instr.entry (.pointer (some ⟨r,0,none⟩))).run P w' = .ok (.tuple #[e.key,e.val]) w':=by
 have hne:=h.ne;have hsub:=h.sub;have hnd:=h.nd;obtain ⟨since,seen,c0,hb,hr,hold,rfl,hl1,hsc,hsk⟩:=h.ex;rcases run_next_at (P:=P) w ty r b since c0 seen es clock hr hb hold hsc with ⟨h0,hrun⟩ | ⟨e,he,w1,hal,hrun⟩
 ·exact Or.inl ⟨h0,fun x hx=>(hl1 x hx).1 (all_seen es seen h0 x hx),hrun⟩
 ·obtain ⟨hem,hes⟩:=mem_left he;have hr1:w1.heap[r]? = some (.mapIter (some b) since seen c0):=by rcases hal with rfl | rfl <;> exact hr
  have hb1:w1.heap[b]? = some (.map es clock):=by rcases hal with rfl | rfl <;> exact hb
  have hset:=heap_set (o':=.mapIter (some b) since (seen.push e.born) clock) hr1;have hb':(setBlock w1 r (.mapIter (some b) since (seen.push e.born) clock)).heap[b]? = some (.map es clock):=(hset.2 b (fun e1=>hne e1.symm)).trans hb1
  have heo:e∉out:=fun hm=>by
   have:=(hl1 e hem).2 hm;rw[hes] at this;cases this
  refine Or.inr ⟨e,_,_,hem,heo,hrun,⟨⟨since,seen.push e.born,clock,hb',hset.1,hold,rfl,fun x hx=>?_,hsk,hsk⟩,fun x hx=>?_,?_⟩,left_shrinks es seen e he,?_,?_,run_entry_at _ r b since seen es clock e hset.1 hb' hem hst.2.1⟩
  ·rw[contains_push,List.mem_append,List.mem_singleton,←hl1 x hx,Bool.or_eq_true,beq_iff_eq];constructor
   ·rintro (h | h)
    ·exact .inl h
    ·exact .inr (born_inj hst.2.1 hx hem h)
   ·rintro (h | h)
    ·exact .inl h
    ·exact .inr (by rw[h])
  ·rcases List.mem_append.1 hx with h | h
   ·exact hsub x h
   ·rw[List.mem_singleton.1 h];exact hem
  ·exact List.nodup_append.2 ⟨hnd,by simp,fun x hx y hy=>by rw[List.mem_singleton.1 hy];rintro rfl;exact heo hx⟩
  ·rcases hal with rfl | rfl <;> exact ⟨rfl,rfl,rfl,by simp[setBlock],fun i _ hi=>hset.2 i (fun e1=>hi (by rw[e1]))⟩
  ·rcases hal with rfl | rfl <;> simp[setBlock]
structure Qfp (es:Array MapEntry) (out:List MapEntry) (cnt:Nat):Prop where
 z:cnt=0
 all:∀x∈es.toList,x∈out
structure Qei {α : Type} (P:Program) (mkK:α→Value) (w:World) (b r:Nat) (es:Array MapEntry) (clock:Nat) (out:List MapEntry) (cnt:Nat) (x:α) (v:Value) (w':World):Prop where
 ex:∃e cnt',e∈es.toList∧e∉out∧e.key=mkK x∧e.val=v∧RIt w' b r es clock (out ++ [e]) cnt'∧cnt' < cnt
 g:w.grownBy w' (some r)
 s:w'.heap.size=w.heap.size
 run:(Instr.entry (.pointer (some ⟨r,0,none⟩))).run P w' = .ok (.tuple #[mkK x,v]) w'
theorem Kof {α : Type} (hg:o.guard=none) (it:Operand) (hop:o.op=Op.next it false) (mkK:α→Value) (b r:Nat) (es:Array MapEntry) (clock:Nat) (out:List MapEntry) (cnt:Nat) (hst:Stamped es clock) (hk:∀e∈es.toList,∃x,e.key=mkK x)
  (hit:a.eval it = .pointer (some ⟨r,0,none⟩)) (h:RIt w b r es clock out cnt)
  (hDone:Qfp es out cnt→wpList P ops Q rest (a.put o.dst (.tuple #[.bool false])) w)
  (hMore:∀(x:α) (v:Value) (w':World),Qei P mkK w b r es clock out cnt x v w'→wpList P ops Q rest (a.put o.dst (.tuple #[.bool true,mkK x,v])) w') :
  wpList P ops Q (o :: rest) a w:=by
 refine wpList_plain hg fun K' hK'=>?_
 unfold Oper.wp;rcases h.next (P:=P) hst o.type with ⟨h0,hl,hrun⟩ | ⟨e,w',cnt',he,hno,hrun,hrg,hlt,hgr,hsz,hen⟩
 ·simp[execOp,hop,hit,hrun,Result.andThen];exact hK' _ _ (hDone ⟨h0,hl⟩)
 ·obtain ⟨x,hx⟩:=hk e he;rw[hx] at hrun hen;simp[execOp,hop,hit,hrun,Result.andThen];exact hK' _ _ (hMore x _ w' ⟨⟨e,cnt',he,hno,hx,rfl,hrg,hlt⟩,hgr,hsz,hen⟩)
end
end
section
open Go.RowKit Go.Shelf Go.Sort
attribute [local go_sem ↓] Go.wp_at_zero Go.wp_at_succ
attribute [local go_sem] Later.cell
def cfK (x y:Lb):Int:=cmpL [x] [y]
theorem Qcr (x y:Lb):cmpL [x] [y] < 0↔ltB x y:=by
 rw[Ksd];constructor
 ·rintro (h | ⟨_,h⟩)
  ·exact h
  ·simp[cmpL] at h
 ·exact .inl
theorem ltK (x y:Lb):ltOf cfK x y=decide (ltB x y):=by
 unfold ltOf cfK;rw[decide_eq_decide];exact Qcr x y
theorem Kpu (x y:Lb):ltB x y∨x=y∨ltB y x:=by
 by_cases h1:ltB x y
 ·exact .inl h1
 ·by_cases h2:ltB y x
  ·exact .inr (.inr h2)
  ·exact .inr (.inl (Kou h1 h2))
theorem swoK:SWO (ltOf cfK) where
 irrefl x:=by rw[ltK];simpa using Kef x
 trans x y z h1 h2:=by
  rw[ltK,decide_eq_true_eq] at h1 h2 ⊢;exact Kew h1 h2
 ntrans x y z h1 h2:=by
  rw[ltK,decide_eq_false_iff_not] at h1 h2 ⊢;intro h;rcases Kpu x y with k | rfl | k
  ·exact h1 k
  ·exact h2 h
  ·exact h2 (Kew k h)
theorem Kvh (x y:Lb) (W:World) :
  Calls Tryz.prog 120 #[.agg (encLb x).toArray,.agg (encLb y).toArray] W fun e w'=>e = .returned (.int .i64 (cfK x y))∧∃q os',w'=grow (W.drewN q) os':=by
 suffices h:Calls Tryz.prog 120 #[.agg (encLb x).toArray,.agg (encLb y).toArray] W fun e w'=>e = .returned (.int .i64 (cfK x y))∧Grown W w' by
  refine h.mono ?_;rintro e w' ⟨he,⟨p,hp⟩⟩;exact ⟨he,p.n,p.os,hp⟩
 have HC:=Lib.hid (fun (w:World) (p q:Nat) (h1:Blk w p 99 #[.string ⟨x.n.toArray⟩,.string ⟨x.v.toArray⟩]) (h2:Blk w q 99 #[.string ⟨y.n.toArray⟩,.string ⟨y.v.toArray⟩])=>
  Kdv [x] [y] (some ⟨p,0,none⟩) (some ⟨q,0,none⟩) 1 1 1 1 w (cfK x y) rfl
   (⟨rfl,fun _=>⟨p,0,rfl,h1.lt,fun i z hz j v hv=>by
    cases i with
    | zero=>simp only[List.getElem?_cons_zero,Option.some.injEq] at hz;subst hz;rw[h1.cell];simpa[encLb] using hv
    | succ i=>simp at hz⟩⟩)
   (⟨rfl,fun _=>⟨q,0,rfl,h2.lt,fun i z hz j v hv=>by
    cases i with
    | zero=>simp only[List.getElem?_cons_zero,Option.some.injEq] at hz;subst hz;rw[h2.cell];simpa[encLb] using hv
    | succ i=>simp at hz⟩⟩) (by decide) (by decide))
 obtain ⟨r,hr⟩:∃r,cfK x y=r:=⟨_,rfl⟩;unfold encLb;obtain ⟨N,hN⟩:∃N:ByteArray,(⟨x.n.toArray⟩:ByteArray)=N:=⟨_,rfl⟩;obtain ⟨V,hV⟩:∃N:ByteArray,(⟨x.v.toArray⟩:ByteArray)=N:=⟨_,rfl⟩;obtain ⟨N2,hN2⟩:∃N:ByteArray,(⟨y.n.toArray⟩:ByteArray)=N:=⟨_,rfl⟩;obtain ⟨V2,hV2⟩:∃N:ByteArray,(⟨y.v.toArray⟩:ByteArray)=N:=⟨_,rfl⟩;rw[hr] at HC ⊢;rw[hN,hV,hN2,hV2] at HC ⊢;clear hN hV hN2 hV2 hr;go_enter Tryz.func120,Tryz.ntmps120
 go_wp2_with fail
 have hg:Grown W ((((W.alloc (.cells #[.string N,.string V] 99)).alloc (.cells #[.string N2,.string V2] 99)).alloc (.cells #[.string N,.string V] 99)).alloc (.cells #[.string N2,.string V2] 99)):=((((Grown.refl _).alloc _).alloc _).alloc _).alloc _;refine (HC.out _ (W.heap.size+1+1) (W.heap.size+1+1+1) ((Blk.newAt (by simp)).alloc _) (Blk.newAt (by simp))).mono ?_;rintro _ w' ⟨rfl,hb⟩;go_wp2_with fail
 go_ret
 exact ⟨rfl,hg.trans hb⟩
end
section
open Go.RowKit Go.Shelf Go.Sort Go.Maps
open Lib renaming hid → Jh
attribute [local go_sem ↓] Go.wp_at_zero Go.wp_at_succ
attribute [local go_sem] Later.cell
def Qca (w:World) (B:Nat) (v:Value) (l:List Lb) (e:Ending) (w':World):Prop:=
 e = .returned (.tuple #[])∧∃l':List Lb,l'.Perm l∧(l'.Pairwise fun a b=>¬ltB b a)∧w'.ownsRow B 99 2 v l'.length (l'.flatMap encLb)∧w.grownBy w' v.ownBlock
theorem Kox (l:List Lb) (B:Nat) (v:Value) (w:World) (h:w.ownsRow B 99 2 v l.length (l.flatMap encLb)) (hn:l.length≤1099511627776) :
  Calls Tryz.prog 119 #[v,.func (.func 120) #[] #[]] w (Qca w B v l):=by
 have hsl:(l = []∧v = .slice none 0 0)∨∃g c,v = .slice (some ⟨g,0,none⟩) l.length c:=by
  rcases h.2 with ⟨h1,h0⟩ | ⟨g,cap,cur,h1,_⟩
  ·exact .inl ⟨List.eq_nil_of_length_eq_zero h0,h1⟩
  ·exact .inr ⟨g,cap,h1⟩
 rcases hsl with ⟨rfl,rfl⟩ | ⟨g,c,rfl⟩
 ·refine (AnyF.slices_SortFunc_none Tryz.laysSFL none 0 _ w).mono ?_;rintro e w' ⟨rfl,rfl⟩;exact ⟨rfl,[],.refl _,List.Pairwise.nil,h,⟨rfl,rfl,rfl,Nat.le_refl _,fun _ _ _=>rfl⟩⟩
 ·have hlt:=World.ownsRow.lt h g rfl;have eg:∀args w,(callFunc 120 args).run Tryz.prog w = .ok (.enter 120 args) w:=enters_of Tryz.func120 (by kernel_rfl) rfl;have hcon:=AnyQ.slices_SortFunc Tryz.laysSFL 2 Tryz.isAgg99 Tryz.sizeOf99 encLb Kbw Khd cfK swoK 120 #[] g 0 c l.toArray w eg (fun _ _ _ _ x y=>Kvh x y _) (Key Kbw (by decide) h rfl) hlt.2 (by simp;omega);simp only[List.size_toArray] at hcon;refine hcon.mono ?_;rintro e w' ⟨rfl,d',m,os,hp,hs,rfl⟩;obtain ⟨hsz,hpm⟩:=Kyp rfl hp;refine ⟨rfl,d'.toList,hpm,?_,?_,Kvc _ _ _ _ _ _ _ _⟩
  ·refine (Kym hsz hs).imp ?_;intro a b hab;rw[ltK,decide_eq_false_iff_not] at hab;exact hab
  ·have:=Kfd Kbw (by decide) h rfl d' hsz m os;rw[show d'.toList.length=l.length by simpa using hsz];exact this
theorem Kip {S:List (List Lb)} {x:Lb}:Kao S x≠[]↔x∈keysOf S:=by
 constructor
 ·intro h;exact Classical.byContradiction fun hk=>h (Ktr hk)
 ·intro h h0;obtain ⟨s,hs,hx⟩:=((Keu S).2 x).1 h;obtain ⟨i,hi,rfl⟩:=List.getElem_of_mem hs;unfold Kao at h0;rw[List.filter_eq_nil_iff] at h0;refine h0 i (List.mem_range.2 hi) ?_;rw[decide_eq_true_eq,List.getD_eq_getElem?_getD,List.getElem?_eq_getElem hi];exact hx
theorem Kvf {S:List (List Lb)} {ks l':List Lb} (hn:ks.Nodup) (hm:∀x,x∈ks↔x∈keysOf S) (hp:l'.Perm ks) (hs:l'.Pairwise fun a b=>¬ltB b a):l'=keysOf S:=by
 refine Ksu ?_ (Keu S).1 fun x=>by rw[hp.mem_iff,hm]
 refine (hs.and (hp.nodup_iff.2 hn)).imp ?_;rintro a b ⟨h1,h2⟩;rcases Kpu a b with h | h | h
 ·exact h
 ·exact absurd h h2
 ·exact absurd h h1
theorem Knj {α β : Type} {f:α→β}:∀{l:List α},l.Nodup→(∀x∈l,∀y∈l,f x=f y→x=y)→(l.map f).Nodup
 | [],_,_=>by simp
 | a :: l,h,hi=>by
  rw[List.nodup_cons] at h;rw[List.map_cons,List.nodup_cons];refine ⟨?_,Knj h.2 fun x hx y hy=>hi x (by simp[hx]) y (by simp[hy])⟩;intro hm;obtain ⟨y,hy,e⟩:=List.mem_map.1 hm;have:=hi y (by simp[hy]) a (by simp) e;exact h.1 (this▸hy)
theorem Qas {α β : Type} {f:α→β} {l:List α} (h:(l.map f).Nodup):l.Nodup:=by
 induction l with
 | nil=>simp
 | cons a l ih=>
  rw[List.map_cons,List.nodup_cons] at h;rw[List.nodup_cons];exact ⟨fun hm=>h.1 (List.mem_map_of_mem hm),ih h.2⟩
theorem Kpy:∀(l L:List Lb),l.Nodup→(∀x∈l,x∈L)→l.length≤L.length
 | [],_,_,_=>by simp
 | a :: l,L,hn,h=>by
  have ha:=List.nodup_cons.1 hn;have:=Kpy l (L.erase a) ha.2 (fun x hx=>(List.mem_erase_of_ne (fun e:x=a=>ha.1 (by rw[←e];exact hx))).2 (h x (by simp[hx])));rw[List.length_erase_of_mem (h a (by simp))] at this;have h0:0 < L.length:=List.length_pos_of_mem (h a (by simp));simp only[List.length_cons];omega
theorem Ksv {w:World} {B b n:Nat} {S:List (List Lb)} {es:Array MapEntry} {clock:Nat} (h:LMap w B b (Kao S) n es clock) {out:List MapEntry} {ks:List Lb} (hnd:out.Nodup) (hsub:∀x∈out,x∈es.toList) (hks:out.map (·.key)=ks.map lbV) :
  ks.Nodup∧(∀x∈ks,x∈keysOf S)∧((∀e∈es.toList,e∈out)→∀x,x∈ks↔x∈keysOf S)∧ks.length≤es.size:=by
 have hkn:(es.toList.map (·.key)).Nodup:=h.st.2.2;have hkd:(out.map (·.key)).Nodup:=Knj hnd fun x hx y hy e=>entry_eq_of_key (List.pairwise_map.1 (show (es.toList.map (·.key)).Pairwise (·≠·) from hkn)) (hsub x hx) (hsub y hy) e
 rw[hks] at hkd;have hksn:=Qas hkd
 have hof:∀x∈ks,∃e∈out,e.key=lbV x:=fun x hx=>by
  have:lbV x∈out.map (·.key):=by rw[hks];exact List.mem_map_of_mem hx
  obtain ⟨e,he,hk⟩:=List.mem_map.1 this;exact ⟨e,he,hk⟩
 have hke:∀e∈es.toList,∀x,e.key=lbV x→x∈keysOf S:=fun e he x hk=>by
  obtain ⟨y,_,hy,hf,_⟩:=h.k e he;rw[hk] at hy;rw[Kev hy];exact Kip.1 hf
 refine ⟨hksn,fun x hx=>?_,fun hall x=>⟨fun hx=>?_,fun hx=>?_⟩,?_⟩
 ·obtain ⟨e,he,hk⟩:=hof x hx;exact hke e (hsub e he) x hk
 ·obtain ⟨e,he,hk⟩:=hof x hx;exact hke e (hsub e he) x hk
 ·obtain ⟨e,he,hk⟩:=h.a x (Kip.2 hx)
  have:lbV x∈ks.map lbV:=by
   rw[←hks,←hk];exact List.mem_map_of_mem (hall e he)
  obtain ⟨y,hy,e1⟩:=List.mem_map.1 this;rw[←Kev e1];exact hy
 ·obtain ⟨L,hL⟩:∃L:List Lb,es.toList.map (·.key)=L.map lbV:=by
   have:∀l:List MapEntry,(∀e∈l,∃x,e.key=lbV x)→∃L:List Lb,l.map (·.key)=L.map lbV:=by
    intro l
    induction l with
    | nil=>intro _;exact ⟨[],rfl⟩
    | cons e l ih=>
     intro hl;obtain ⟨x,hx⟩:=hl e (by simp);obtain ⟨L,hL⟩:=ih fun e he=>hl e (by simp[he])
     exact ⟨x :: L,by simp[hx,hL]⟩
   exact this _ fun e he=>by obtain ⟨x,_,hk,_⟩:=h.k e he;exact ⟨x,hk⟩
  have h1:=Kpy ks L hksn fun x hx=>by
   obtain ⟨e,he,hk⟩:=hof x hx;have:lbV x∈L.map lbV:=by rw[←hL,←hk];exact List.mem_map_of_mem (hsub e he)
   obtain ⟨y,hy,e1⟩:=List.mem_map.1 this;rw[←Kev e1];exact hy
  have h2:=congrArg List.length hL;rw[List.length_map,List.length_map] at h2;have h3:es.toList.length=es.size:=by simp
  omega
structure LK where
 a:ByteArray
 b:ByteArray
def mkP (p:LK):Value:=.agg #[.string p.a,.string p.b]
theorem Qev (x:Lb):lbV x=mkP ⟨⟨x.n.toArray⟩,⟨x.v.toArray⟩⟩:=rfl
theorem Qez {p:LK} {x:Lb} (h:mkP p=lbV x):p.a=⟨x.n.toArray⟩∧p.b=⟨x.v.toArray⟩:=by
 obtain ⟨a,b⟩:=p;unfold mkP lbV at h;simp at h;exact ⟨h.1,h.2⟩
theorem Kvj (S:List (List Lb)) (b n B:Nat) (es:Array MapEntry) (clock:Nat) (w:World) (h:LMap w B b (Kao S) n es clock) (hn:n≤1099511627776) (hS:S.length≤1099511627776) (hz:(Kcv S).length≤35184372088832) :
  Calls Tryz.prog 45 #[.map (some b)] w fun e w'=>e = .returned (.string ⟨(Kcv S).toArray⟩)∧Below w.heap.size w w':=by
 obtain ⟨i0,hi0,hz0,hz1,hz2⟩:=info_parts Kmc
 have hkk:∀e∈es.toList,∃p,e.key=mkP p:=fun e he=>by
  obtain ⟨x,_,hk,_⟩:=h.k e he;exact ⟨_,hk.trans (Qev x)⟩
 have H:=Jh h;have HKK:=Jh hkk;have HZ:=Jh hz;have hesz:es.size≤1099511627776:=Nat.le_trans h.sz hn;have hh:=h.h;have hst:=h.st;clear h hkk hz;go_enter Tryz.func45,Tryz.ntmps45
 go_wp2_with (at_range;refine Kmn rfl _ 104 rfl 99 69 Tryz.underlying104 rfl hh hst ?_;intro w0 hrg0 hg0 hs0)
 obtain ⟨r,hr⟩:∃r,w.heap.size=r:=⟨_,rfl⟩;have hB0:Below r w w0:=⟨hg0.os,hg0.tape,hg0.output,hg0.size,fun k hk=>hg0.block k (by omega) (by simp)⟩;rw[hr] at hrg0 ⊢;have HR:=Jh hr;have HST:=Jh hst;clear hr hs0 hg0 hh hst;go_frame
 go_loopg [3] es.size (fun g s3 wr=>∃(out:List MapEntry) (cnt:Nat) (ks:List Lb) (v3:Value),v3=s3∧cnt≤g∧RIt wr b r es clock out cnt∧out.map (·.key)=ks.map lbV∧wr.ownsRow (r+1) 99 2 v3 ks.length (ks.flatMap encLb)∧Below r w wr)
 case atStart=>exact ⟨[],es.size,[],_,rfl,Nat.le_refl _,hrg0,rfl,World.ownsRow_nil _ _ _ _,hB0⟩
 case round=>
  obtain ⟨out,cnt,ks,v3,rfl,hcg,hrg,hks,hrow,hB⟩:=hrel;have HKS:=Jh hks;clear hks;go_wp2_with (at_next;refine Kof rfl _ rfl mkP b r es clock out cnt HST.out HKK.out rfl hrg ?_ ?_)
  ·intro hao;have hall:=hao.all;obtain ⟨k1,k2,k3,k4⟩:=Ksv H.out hrg.nd hrg.sub HKS.out;have hL:LMap wr B b (Kao S) n es clock:=H.out.below (HR.out.symm▸hB);have HSO:=Jh (Kox ks (r+1) v3 wr hrow (by omega));have HK1:=Jh k1;have HK3:=Jh (k3 hall);obtain ⟨A,cap,rfl⟩:=Kan hrow;obtain ⟨m,hm⟩:∃m,ks.length=m:=⟨_,rfl⟩;have HM:=Jh hm;have hm30:m≤1099511627776:=by omega
   rw[hm] at HSO hrow ⊢;have HL:=Jh hL;have HROW:=Jh hrow;have HB:=Jh hB;clear hao hall k1 k2 k3 k4 hL hm hrow hB hrg;go_wp2_with fail
   refine HSO.out.mono ?_;rintro e w3 ⟨rfl,l',hp,hs,hrow3,hg3⟩;have hK:=Kvf HK1.out HK3.out hp hs;have hl'm:l'.length=m:=hp.length_eq.trans HM.out;rw[hl'm] at hrow3;have hB3:Below r w w3:=HB.out.trans ⟨hg3.os,hg3.tape,hg3.output,hg3.size,fun j hj=>hg3.block j (by have:=HB.out.size;rw[HR.out] at this;omega) (fun e=>by have:=(World.ownsRow.lt HROW.out j e.symm).1;omega)⟩;have hL3:LMap w3 B b (Kao S) n es clock:=HL.out.kept hg3 (fun q e=>by obtain ⟨cur,hc⟩:=Kax HROW.out e;exact ⟨cur,_,hc,by decide⟩);obtain ⟨A',cap',he,hE3,_,_⟩:=Elems.of_own (fun x _=>Kbw x) rfl hrow3 hl'm;injection he with heA _ hec;subst heA hec;have hu:=Kau m (by omega) w3;obtain ⟨U,hU⟩:∃U:ByteArray,(⟨(uintT m).toArray⟩:ByteArray)=U:=⟨_,rfl⟩;have hUU:U.data.toList=uintT m:=by rw[←hU]
   rw[hU] at hu;have HU:=Jh hu;have HUU:=Jh hUU;have HK:=Jh hK;have HLM:=Jh hl'm;have HB3:=Jh hB3;have HE3:=Jh hE3;have HL3:=Jh hL3;clear hU hu hUU hK hl'm hB3 hE3 hL3 hrow3 hg3 hp hs;go_wp2_with fail
   refine HU.out.mono ?_;rintro e w4 ⟨rfl,hb4⟩;have HB4:=Jh (HB3.out.trans (hb4.mono (by have:=HB3.out.size;rw[HR.out] at this;omega)));have HE4:=Jh ((HE3.out.below hb4).more hb4.size);have HL4:=Jh (HL3.out.below hb4);have hlz:uintT m++l'.flatMap (keyT S)=Kcv S:=by unfold Kcv;rw[HK.out,←HK.out,HLM.out]
   have HLZ:=Jh hlz;clear hb4 hlz;go_wp2_with fail
   go_loopg [5,28] m (fun g s5 s28 wz=>∃(i:Nat) (Z:ByteArray),i+g=m∧s28 = .int .i64 (i:Int)∧s5 = .string Z∧Z.data.toList=uintT m++(l'.take i).flatMap (keyT S)∧Below w4.heap.size w4 wz)
   case atStart=>exact ⟨0,U,by omega,rfl,rfl,by rw[HUU.out];simp,Below.refl _ _⟩
   case round=>
    obtain ⟨i,Z,hig,rfl,rfl,hZ,hbz⟩:=hrel;have HIG:=Jh hig;have HZL:=Jh hZ;obtain ⟨wz,rfl⟩:∃x,x=wr:=⟨_,rfl⟩;clear hig hZ
    by_cases hi:i < m
    ·have hil:i < l'.length:=by have:=HLM.out;omega
     have el:decide ((i:Int) < (m:Int))=true:=by simp;omega
     have el':decide (i < m)=true:=by simp;omega
     obtain ⟨bk,ok,rfl,_,_⟩:=HE4.out.2 (by omega);obtain ⟨hbl,c0,c1⟩:=Kbu HE4.out (by omega) hbz i hil;have hmem:l'[i]!∈l':=by rw[getElem!_pos l' i hil];exact List.getElem_mem hil
     have htk:l'.take (i+1)=l'.take i ++ [l'[i]!]:=by rw[getElem!_pos l' i hil];exact (List.take_append_getElem hil).symm
     obtain ⟨x,hx⟩:∃x,l'[i]! = x:=⟨_,rfl⟩;rw[hx] at c0 c1 hmem htk
     have hlen:(uintT m++(l'.take (i+1)).flatMap (keyT S)).length≤35184372088832:=by
      have h1:=HZ.out;rw[←HLZ.out,List.length_append] at h1;rw[List.length_append]
      have h2:((l'.take (i+1)).flatMap (keyT S)).length≤(l'.flatMap (keyT S)).length:=by
       have:l'.flatMap (keyT S)=(l'.take (i+1)).flatMap (keyT S)++(l'.drop (i+1)).flatMap (keyT S):=by rw[←List.flatMap_append,List.take_append_drop]
       rw[this,List.length_append];omega
      omega
     rw[htk,List.flatMap_append,List.flatMap_singleton,←List.append_assoc,←HZL.out] at hlen;have hkt:keyT S x=textT x.n++(textT x.v++postT (Kao S x)):=rfl;rw[hkt] at hlen;simp only[List.length_append] at hlen;have hZs:Z.data.toList.length=Z.size:=rfl;rw[hZs] at hlen;obtain ⟨N,hN⟩:∃N:ByteArray,(⟨x.n.toArray⟩:ByteArray)=N:=⟨_,rfl⟩;obtain ⟨V,hV⟩:∃N:ByteArray,(⟨x.v.toArray⟩:ByteArray)=N:=⟨_,rfl⟩;have hNn:N.data.toList=x.n:=by rw[←hN]
     have hVv:V.data.toList=x.v:=by rw[←hV]
     rw[hN] at c0;rw[hV] at c1;have hlb:lbV x = .agg #[.string N,.string V]:=by unfold lbV;rw[hN,hV]
     have hxS:x∈keysOf S:=by rw[←HK.out];exact hmem
     obtain ⟨hxz,e0,he0,hek0⟩:(x.n.length≤1099511627776∧x.v.length≤1099511627776)∧∃e0,e0∈es.toList∧e0.key=lbV x:=by
      obtain ⟨e0,he0,hek0⟩:=HL4.out.a x (Kip.2 hxS);obtain ⟨y,hyz,hy,_⟩:=HL4.out.k e0 he0;rw[hek0] at hy;rw[Kev hy];exact ⟨hyz,e0,he0,by rw[hek0,Kev hy]⟩
     have HXZ:=Jh hxz;have HE0:=Jh he0;have HEK:=Jh hek0;have HLB:=Jh hlb;have HTK:=Jh htk;have HNN:=Jh hNn;have HVV:=Jh hVv;clear hx hN hV hNn hVv hlb hxS hxz he0 hek0 htk hZs hkt hmem;go_upto_region 11 with fail
     have hb5:Below wz.heap.size wz (wz.alloc (.cells #[.string N,.string V] 99)):=(Below.refl _ _).alloc (Nat.le_refl _) _;have hq:Blk (wz.alloc (.cells #[.string N,.string V] 99)) wz.heap.size 99 #[.string N,.string V]:=Blk.new _ _ _;obtain ⟨w5,hw5⟩:∃w5,wz.alloc (.cells #[.string N,.string V] 99)=w5:=⟨_,rfl⟩;rw[hw5] at hb5 hq ⊢;obtain ⟨p,hp⟩:∃p,wz.heap.size=p:=⟨_,rfl⟩;rw[hp] at hq ⊢;have hB5:=then_ hbz hb5;have hL5:=HL4.out.below hB5;clear hw5 hp c0 c1 hb5 hbz;have q0:_=some (Value.string N):=hq.cell 0;have q1:_=some (Value.string V):=hq.cell 1;obtain ⟨kl,hkl⟩:=Kmg x (by have:=HXZ.out.1;unfold maxLen;omega) (by have:=HXZ.out.2;unfold maxLen;omega);have hlook:=Kyf hL5.h (Kwv hL5) hkl HE0.out HEK.out hL5.st.2.2;rw[HLB.out] at hlook;obtain ⟨y,_,hy,hyf,hown⟩:=hL5.k e0 HE0.out;rw[HEK.out] at hy;obtain rfl:y=x:=(Kev hy).symm;obtain ⟨A2,c2,hv2,hE2,_,_⟩:=Elems.of_own (fun (x:Nat) _=>(rfl:(encN x).length=1)) rfl hown rfl;rw[hv2] at hlook;have hpw:(Kao S y).Pairwise (· < ·):=by unfold Kao;exact List.pairwise_lt_range.filter _
     have hpv:∀z∈Kao S y,z≤1099511627776:=fun z hz=>by
      unfold Kao at hz;have:=List.mem_range.1 (List.mem_filter.1 hz).1;omega
     have hplen:=Kln S y;have HPE:=Jh (Krb (Kao S y) A2 (Kao S y).length c2 w5 hE2 (by omega) hpw hpv);obtain ⟨PT,hPT⟩:∃N:ByteArray,(⟨(postT (Kao S y)).toArray⟩:ByteArray)=N:=⟨_,rfl⟩;obtain ⟨n2,hn2⟩:∃n2,(Kao S y).length=n2:=⟨_,rfl⟩;have hPd:PT.data.toList=postT (Kao S y):=by rw[←hPT]
     have hPs:PT.size=(postT (Kao S y)).length:=by rw[←Kak,hPd]
     rw[hPT,hn2] at HPE;rw[hn2] at hlook;have HPD:=Jh hPd;have HQ:=Jh hq;rw[←hPs] at hlen;clear hy hyf hown hv2 hE2 hpw hpv hplen hPT hn2 hPs hPd hL5 hkl;go_wp2_with fail
     refine HPE.out.mono ?_;rintro _ w6 ⟨rfl,hb6⟩;have hq6:=HQ.out.below hb6 HQ.out.lt;have hB6:=then_ hB5 hb6;have q0:w6.cell? ⟨p,0,none⟩=some (Value.string N):=hq6.cell 0;have q1:w6.cell? ⟨p,1,none⟩=some (Value.string V):=hq6.cell 1;have hp6:=hq6.lt;have hNs:N.size≤140737488351232:=by rw[←Kak,HNN.out];have:=HXZ.out.1;omega
     have hVs:V.size≤140737488351232:=by rw[←Kak,HVV.out];have:=HXZ.out.2;omega
     have HT1:=Jh (fun u:Later w6=>Kfe N hNs u.w);have HT2:=Jh (fun u:Later w6=>Kfe V hVs u.w);rw[HNN.out] at HT1;rw[HVV.out] at HT2;obtain ⟨T1,hT1⟩:∃N:ByteArray,(⟨(textT y.n).toArray⟩:ByteArray)=N:=⟨_,rfl⟩;obtain ⟨T2,hT2⟩:∃N:ByteArray,(⟨(textT y.v).toArray⟩:ByteArray)=N:=⟨_,rfl⟩;have hTd1:T1.data.toList=textT y.n:=by rw[←hT1]
     have hTd2:T2.data.toList=textT y.v:=by rw[←hT2]
     have hTs1:T1.size=(textT y.n).length:=by rw[←Kak,hTd1]
     have hTs2:T2.size=(textT y.v).length:=by rw[←Kak,hTd2]
     rw[hT1] at HT1;rw[hT2] at HT2;rw[←hTs1,←hTs2] at hlen;have HTD1:=Jh hTd1;have HTD2:=Jh hTd2;clear hT1 hT2 hTs1 hTs2 hTd1 hTd2 hNs hVs hq6 hq hb6 hlook hB5;go_upto_region 12 with fail
     refine Kah (by kernel_rfl) (by kernel_rfl) ?_
     repeat (go_big_quiet_step ((first | (go_at_call 112;first | with_reducible exact Kal _ (HT1.out _) | with_reducible exact Kal _ (HT2.out _)))))
     refine wpQuiet_nil ?_;rintro w7 ⟨⟨_,hb7⟩,rfl⟩;go_wp2_with fail
     go_roundg (gk - 1)
     case measure=>have:=HIG.out;omega
     case rel=>
      refine ⟨i+1,_,by have:=HIG.out;omega,by go_num,rfl,?_,then_ hB6 hb7⟩;rw[HTK.out,List.flatMap_append,List.flatMap_singleton,←List.append_assoc,←HZL.out];show _=_++keyT S y
      unfold keyT;simp only[ByteArray.data_append,Array.toList_append,HTD1.out,HTD2.out,HPD.out,List.append_assoc]
    ·have el:decide ((i:Int) < (m:Int))=false:=by simp;omega
     have el':decide (i < m)=false:=by simp;omega
     have him:i=m:=by have:=HIG.out;omega
     have hfin:(⟨(Kcv S).toArray⟩:ByteArray)=Z:=by
      have h1:=HZL.out;rw[him,←HLM.out,List.take_length,HLM.out,HLZ.out] at h1;rw[←h1]
     have HF:=Jh hfin;have HBZ:=Jh (HB4.out.trans (hbz.mono (by have:=HB4.out.size;rw[HR.out] at this;omega)));clear hfin him;go_wp2_with fail
     go_ret
     rw[HF.out];exact ⟨rfl,by rw[HR.out];exact HBZ.out⟩
  ·intro p v w2 hco;obtain ⟨e,cnt2,he,hno,hek,hev,hrg2,hlt⟩:=hco.ex;have hg2:=hco.g;have hen:=hco.run;obtain ⟨x,hxz,hxk,hxf,_⟩:=H.out.k e he;have hxk2:=hxk;rw[hek] at hxk;obtain ⟨hX,hY⟩:=Qez hxk;obtain ⟨X,Y⟩:=p;dsimp only at hX hY;have hB2:Below r w w2:=hB.trans ⟨hg2.os,hg2.tape,hg2.output,hg2.size,fun j hj=>hg2.block j (by have:=hB.size;rw[HR.out] at this;omega) (fun e=>by injection e with e;omega)⟩;have hrow2:w2.ownsRow (r+1) 99 2 v3 ks.length (ks.flatMap encLb):=hrow.kept hg2 (.inr fun e=>by have:=(hrow.lt r e).1;omega);have hkl:=(Ksv H.out hrg.nd hrg.sub HKS.out).2.2.2;have hr2:r < w2.heap.size:=hrg2.rlt;have hbr:b < r:=by have:=(Array.getElem?_eq_some_iff.1 H.out.h).1;have:=HR.out;omega
   obtain ⟨m,hm⟩:∃m,ks.length=m:=⟨_,rfl⟩;rw[hm] at hkl hrow2;have HM:=Jh hm;have HX:=Jh hX;have HY:=Jh hY;have HXK:=Jh hxk2;have hen':(Instr.entry (.pointer (some ⟨r,0,none⟩))).run Tryz.prog w2 = .ok (.tuple #[.agg #[.string X,.string Y],v]) w2:=hen;clear hco hxk hxk2 hX hY hrow hrg hm hg2 hB hen hek hev hno hxf hxz he;unfold mkP;dsimp only;go_upto_region 5 with fail
   have hb3:Below w2.heap.size w2 (w2.alloc (.cells #[.string X,.string Y] 99)):=(Below.refl _ _).alloc (Nat.le_refl _) _;have hq:Blk (w2.alloc (.cells #[.string X,.string Y] 99)) w2.heap.size 99 #[.string X,.string Y]:=Blk.new _ _ _;obtain ⟨w3,hw3⟩:∃w5,w2.alloc (.cells #[.string X,.string Y] 99)=w5:=⟨_,rfl⟩;rw[hw3] at hb3 hq ⊢;obtain ⟨p,hp⟩:∃p,w2.heap.size=p:=⟨_,rfl⟩;have hrow3:w3.ownsRow (r+1) 99 2 v3 m (ks.flatMap encLb):=by rw[←hw3];exact hrow2.alloc _
   have hrg3:=hrg2.below hb3;have hB3:Below r w w3:=hB2.trans (hb3.mono (by omega));rw[hp] at hq ⊢;have q0:_=some (Value.string X):=hq.cell 0;have q1:_=some (Value.string Y):=hq.cell 1;have hr3:r < w3.heap.size:=hrg3.rlt;clear hp hw3 hb3 hrow2 hrg2 hB2 hen';go_wp2_with (at_builtin;refine wpList_append_own_at _ rfl _ _ 54 rfl (r+1) 99 i0 (.agg #[.string ⟨#[]⟩,.string ⟨#[]⟩]) 2 32 Tryz.underlying54 hi0 hz0 hz1 hz2 rfl (by decide) _ _ _ rfl (hrow3.alloc _) ⟨w3.heap.size,0,none⟩ 1 1 [.string X,.string Y] rfl rfl ?p1 ?p2 ?p3 ?p4 ?p5 ?_)
   case p1=>exact Kav (l:=[.string X,.string Y]) (Blk.new w3 _ _)
   case p2=>intro u hu;simp at hu;rcases hu with rfl | rfl <;> rfl
   case p3=>unfold maxLen;omega
   case p4=>omega
   case p5=>simp;omega
   intro v' w4 hown' hgrow _ _;have hall:w3.grownBy w4 v3.ownBlock:=(World.grownBy_alloc w3 _ _).trans hgrow;have hB4:Below r w w4:=hB3.trans ⟨hall.os,hall.tape,hall.output,hall.size,fun j hj=>hall.block j (by omega) (fun e=>by have:=(hrow3.lt j e.symm).1;omega)⟩;have hrg4:=hrg3.kept hall (fun e=>by have:=(hrow3.lt b e.symm).1;omega) (fun e=>by have:=(hrow3.lt r e.symm).1;omega)
   have hrow4:w4.ownsRow (r+1) 99 2 v' (ks ++ [x]).length ((ks ++ [x]).flatMap encLb):=by
    have e1:(ks ++ [x]).flatMap encLb=ks.flatMap encLb ++ [.string X,.string Y]:=by rw[List.flatMap_append];simp[encLb,HX.out,HY.out]
    rw[e1,List.length_append,HM.out];exact hown'
   have HXKS:=Jh (show (out ++ [e]).map (·.key)=(ks ++ [x]).map lbV by rw[List.map_append,List.map_append,HKS.out];simp[HXK.out]);clear hown' hgrow hall hrow3 hrg3 q0 q1 hq;go_wp2_with fail
   go_roundg (gk - 1)
   case measure=>omega
   case rel=>exact ⟨out ++ [e],cnt2,ks ++ [x],_,rfl,by omega,hrg4,HXKS.out,hrow4,hB4⟩
end
section
open Go.RowKit
open Lib renaming hid → Jh
attribute [local go_sem ↓] Go.wp_at_zero Go.wp_at_succ
attribute [local go_sem] Later.cell
theorem Elems.get {α : Type} [Inhabited α] {w:World} {B sz n:Nat} {enc:α→List Value} {A:Option Addr} {xs:List α} (h:Elems w B sz enc A n xs) {i:Nat} (hi:i < n):∃b off,A=some ⟨b,off,none⟩∧b < B∧∀j v,(enc xs[i]!)[j]? = some v→w.cell? ⟨b,off+i*sz+j,none⟩=some v:=by
 obtain ⟨b,off,e,hb,hc⟩:=h.2 (by omega);have hl:i < xs.length:=by have:=h.len;omega
 refine ⟨b,off,e,hb,fun j v hv=>hc i xs[i]! (by rw[getElem!_pos xs i hl];exact List.getElem?_eq_getElem hl) j v hv⟩
def Khy (w:World) (b:Nat) (h:Hd3) (x:Ser):Prop:=Blk w b 58 #[.slice h.l.A h.l.n h.l.c,.slice h.s.A h.s.n h.s.c,.slice h.w.A h.w.n h.w.c]∧SerAt w h x
theorem Qbs (w:World) (b:Nat) (h:Hd3) (x:Ser) (hb:Khy w b h x) (hn:h.s.n≤1099511627776) (i:Nat) (hi:i < h.s.n) :
  Calls Tryz.prog 163 #[.int .i64 (i:Int),.pointer (some ⟨b,0,none⟩)] w fun e w'=>e = .returned (.int .i64 (x.samples[i]!).t)∧w=w':=by
 obtain ⟨bb,off,hA,hlt,hc⟩:=hb.2.s.get hi;have c1:w.cell? ⟨b,1,none⟩=some (.slice h.s.A h.s.n h.s.c):=hb.1.cell 1;have d0:w.cell? ⟨bb,off+i*2,none⟩=some (.int .i64 (x.samples[i]!).t):=hc 0 _ rfl;obtain ⟨t,ht⟩:∃t,(x.samples[i]!).t=t:=⟨_,rfl⟩;rw[ht] at d0 ⊢;rw[hA] at c1;obtain ⟨n,hn'⟩:∃n,h.s.n=n:=⟨_,rfl⟩;obtain ⟨c,hc'⟩:∃c,h.s.c=c:=⟨_,rfl⟩;rw[hn'] at hn hi c1;rw[hc'] at c1;clear hb hc hA ht hn' hc';have hi':(i:Int) < (n:Int):=by omega
 go_enter Tryz.func163,Tryz.ntmps163
 go_wp2_with fail
 go_ret
 exact ⟨rfl,rfl⟩
theorem Qbt (w:World) (b:Nat) (h:Hd3) (x:Ser) (hb:Khy w b h x) (hn:h.w.n≤1099511627776) (i:Nat) (hi:i < h.w.n) :
  Calls Tryz.prog 164 #[.int .i64 (i:Int),.pointer (some ⟨b,0,none⟩)] w fun e w'=>e = .returned (.int .i64 (x.windows[i]!).start)∧w=w':=by
 obtain ⟨bb,off,hA,hlt,hc⟩:=hb.2.w.get hi;have c1:w.cell? ⟨b,2,none⟩=some (.slice h.w.A h.w.n h.w.c):=hb.1.cell 2;have d0:w.cell? ⟨bb,off+i*6,none⟩=some (.int .i64 (x.windows[i]!).start):=hc 0 _ rfl;obtain ⟨t,ht⟩:∃t,(x.windows[i]!).start=t:=⟨_,rfl⟩;rw[ht] at d0 ⊢;rw[hA] at c1;obtain ⟨n,hn'⟩:∃n,h.w.n=n:=⟨_,rfl⟩;obtain ⟨c,hc'⟩:∃c,h.w.c=c:=⟨_,rfl⟩;rw[hn'] at hn hi c1;rw[hc'] at c1;clear hb hc hA ht hn' hc';have hi':(i:Int) < (n:Int):=by omega
 go_enter Tryz.func164,Tryz.ntmps164
 go_wp2_with fail
 go_ret
 exact ⟨rfl,rfl⟩
def badAt (f t:Int) (l:List Int) (i:Nat):Bool:=decide (l[i]! < f) || decide (t≤l[i]!) || (decide (0 < i) && decide (l[i]!≤l[i - 1]!))
theorem Kze (f t:Int):∀l:List Int,Kdj f t l=true↔l≠[]∧∀i,i < l.length→badAt f t l i=false:=by
 have key:∀l:List Int,riseI l=true↔∀i,i+1 < l.length→l[i]! < l[i+1]!:=by
  intro l
  induction l with
  | nil=>simp[riseI]
  | cons a l ih=>
   cases l with
   | nil=>simp[riseI]
   | cons b l=>
    rw[riseI,Bool.and_eq_true,decide_eq_true_eq,ih];constructor
    ·rintro ⟨h1,h2⟩ i hi
     cases i with
     | zero=>simpa using h1
     | succ i=>simpa using h2 i (by simpa using hi)
    ·intro h;refine ⟨by simpa using h 0 (by simp),fun i hi=>?_⟩;simpa using h (i+1) (by simpa using hi)
 intro l;unfold Kdj;rw[Bool.and_eq_true,Bool.and_eq_true,decide_eq_true_eq,key,List.all_eq_true];constructor
 ·rintro ⟨⟨h0,h1⟩,h2⟩;refine ⟨h0,fun i hi=>?_⟩;have hm:=h1 l[i]! (by rw[getElem!_pos l i hi];exact List.getElem_mem hi);rw[Bool.and_eq_true,decide_eq_true_eq,decide_eq_true_eq] at hm;unfold badAt;rw[Bool.or_eq_false_iff,Bool.or_eq_false_iff,decide_eq_false_iff_not,decide_eq_false_iff_not];refine ⟨⟨by omega,by omega⟩,?_⟩
  cases i with
  | zero=>rfl
  | succ i=>
   have:=h2 i (by omega);rw[Bool.and_eq_false_iff];right;rw[decide_eq_false_iff_not,show i+1 - 1=i from rfl];omega
 ·rintro ⟨h0,h1⟩;refine ⟨⟨h0,fun x hx=>?_⟩,fun i hi=>?_⟩
  ·obtain ⟨i,hi,rfl⟩:=List.getElem_of_mem hx;have:=h1 i hi;unfold badAt at this;rw[Bool.or_eq_false_iff,Bool.or_eq_false_iff,decide_eq_false_iff_not,decide_eq_false_iff_not,getElem!_pos l i hi] at this;rw[Bool.and_eq_true,decide_eq_true_eq,decide_eq_true_eq];omega
  ·have:=h1 (i+1) hi;unfold badAt at this;rw[Bool.or_eq_false_iff,Bool.and_eq_false_iff,show i+1 - 1=i from rfl] at this;rcases this.2 with h | h
   ·rw[decide_eq_false_iff_not] at h;omega
   ·rw[decide_eq_false_iff_not] at h;omega
def contV (r f t:Int) (h:Hd):Value:=.agg #[.int .i64 r,.int .i64 f,.int .i64 t,.slice h.A h.n h.c]
theorem Kkr (r f t:Int) (h:Hd) (ts:List Int) (g:Nat) (b:Nat) (w:World) (hn:ts.length≤1099511627776) (heg:∀args W,(callFunc g args).run Tryz.prog W = .ok (.enter g args) W)
  (hT:∀i,i < ts.length→∀W,Below w.heap.size w W→Calls Tryz.prog g #[.int .i64 (i:Int),.pointer (some ⟨b,0,none⟩)] W fun e w'=>e = .returned (.int .i64 ts[i]!)∧W=w') :
  Calls Tryz.prog 162 #[contV r f t h,.int .i64 (ts.length:Int),.func (.func g) #[] #[.pointer (some ⟨b,0,none⟩)]] w fun e w'=>e = .returned (.bool (Kdj f t ts))∧Below w.heap.size w w':=by
 obtain ⟨n,hl⟩:∃n,ts.length=n:=⟨_,rfl⟩;obtain ⟨R,hR⟩:∃R,Kdj f t ts=R:=⟨_,rfl⟩;have hiff:=Kze f t ts;rw[hl] at hn hT hiff;rw[hl,hR];rw[hR] at hiff;have hne:ts≠[]↔0 < n:=by rw[←hl];exact List.length_pos_iff.symm
 rw[hne] at hiff;have HIFF:=Jh hiff;have HT:=Jh hT;obtain ⟨q,hq⟩:∃q,w.heap.size=q:=⟨_,rfl⟩;have hb1:Below q w (w.alloc (.cells #[.int .i64 r,.int .i64 f,.int .i64 t,.slice h.A h.n h.c] 28)):=(Below.refl _ _).alloc (by omega) _;have hk1:Blk (w.alloc (.cells #[.int .i64 r,.int .i64 f,.int .i64 t,.slice h.A h.n h.c] 28)) q 28 #[.int .i64 r,.int .i64 f,.int .i64 t,.slice h.A h.n h.c]:=Blk.newAt hq.symm;unfold contV;clear hl hR hiff hT hne;go_enter Tryz.func162,Tryz.ntmps162
 go_upto_region 1 with fail
 obtain ⟨w1,hw1⟩:∃w1,w.alloc (.cells #[.int .i64 r,.int .i64 f,.int .i64 t,.slice h.A h.n h.c] 28)=w1:=⟨_,rfl⟩;rw[hw1] at hb1 hk1;rw[hw1]
 try rw[hq]
 have HQ:=Jh hq;have HB:=Jh hb1;clear hw1 hq hb1;have c1:w1.cell? ⟨q,1,none⟩=some (.int .i64 f):=hk1.cell 1;have c2:w1.cell? ⟨q,2,none⟩=some (.int .i64 t):=hk1.cell 2;go_wp2_with fail
 go_loopg [10] n (fun g10 s10 wr=>∃i:Nat,i+g10=n∧s10 = .int .i64 (i:Int)∧wr=w1∧∀j,j < i→badAt f t ts j=false)
 case atStart=>exact ⟨0,by omega,rfl,rfl,fun j hj=>by omega⟩
 case round=>
  obtain ⟨i,hi,rfl,rfl,hall⟩:=hrel;have HALL:=Jh hall;clear hall
  cases gk with
  | zero=>
   have el:decide (i < n)=false:=by rw[decide_eq_false_iff_not];omega
   have hre:R=decide ((0:Int) < (n:Int)):=by
    rw[Bool.eq_iff_iff,HIFF.out,decide_eq_true_eq];constructor
    ·intro h;omega
    ·intro h;exact ⟨by omega,fun j hj=>HALL.out j (by omega)⟩
   have HRE:=Jh hre;clear hre;go_wp2_with fail
   go_ret
   rw[HRE.out];exact ⟨by simp,by rw[HQ.out];exact HB.out⟩
  | succ gk=>
   have el:decide (i < n)=true:=by rw[decide_eq_true_eq];omega
   have HC:=Jh (HT.out i (by omega) wr (by rw[HQ.out];exact HB.out))
   have HP:Hid (0 < i→Calls Tryz.prog g #[.int .i64 ((i:Int) - 1),.pointer (some ⟨b,0,none⟩)] wr fun e w'=>e = .returned (.int .i64 ts[i - 1]!)∧wr=w'):=Jh (fun h=>by
    have:=HT.out (i - 1) (by omega) wr (by rw[HQ.out];exact HB.out)
    rwa[show ((i - 1:Nat):Int)=(i:Int) - 1 by omega] at this)
   obtain ⟨x,hx⟩:∃x,ts[i]! = x:=⟨_,rfl⟩;obtain ⟨y,hy⟩:∃y,ts[i - 1]! = y:=⟨_,rfl⟩;have hbad:badAt f t ts i=(decide (x < f) || decide (t≤x) || (decide (0 < i) && decide (x≤y))):=by unfold badAt;rw[hx,hy]
   have HBAD:=Jh hbad;rw[hx] at HC;rw[hy] at HP;clear hx hy hbad;go_wp2_with fail
   refine HC.out.mono ?_;rintro _ w3 ⟨rfl,rfl⟩
   have hbadR:badAt f t ts i=true→R=false:=fun hb=>by
    rw[Bool.eq_false_iff];intro hR;have:=(HIFF.out.1 hR).2 i (by omega);rw[hb] at this;cases this
   have HBR:=Jh hbadR;clear hbadR
   by_cases h1:x < f
   ·have e1:decide (x < f)=true:=decide_eq_true h1;have hre:R=false:=HBR.out (by rw[HBAD.out,e1];rfl);go_wp2_with fail
    go_ret
    rw[hre];exact ⟨rfl,by rw[HQ.out];exact HB.out⟩
   have e1:decide (x < f)=false:=decide_eq_false h1
   by_cases h2:t≤x
   ·have e2:decide (t≤x)=true:=decide_eq_true h2;have hre:R=false:=HBR.out (by rw[HBAD.out,e1,e2];rfl);go_wp2_with fail
    go_ret
    rw[hre];exact ⟨rfl,by rw[HQ.out];exact HB.out⟩
   have e2:decide (t≤x)=false:=decide_eq_false h2
   have go:∀(h:badAt f t ts i=false) (j:Nat),j < i+1→badAt f t ts j=false:=fun h j hj=>by
    by_cases e:j=i
    ·rw[e];exact h
    ·exact HALL.out j (by omega)
   have GO:=Jh go;clear go
   by_cases h3:0 < i
   ·have e3:decide ((0:Int) < (i:Int))=true:=by rw[decide_eq_true_eq];omega
    have HP1:=Jh (HP.out h3)
    by_cases h4:x≤y
    ·have e4:decide (x≤y)=true:=decide_eq_true h4;have hre:R=false:=HBR.out (by rw[HBAD.out,e1,e2,e4,decide_eq_true h3];rfl);go_wp2_with fail
     refine HP1.out.mono ?_;rintro _ w4 ⟨rfl,rfl⟩;go_wp2_with fail
     go_ret
     rw[hre];exact ⟨rfl,by rw[HQ.out];exact HB.out⟩
    ·have e4:decide (x≤y)=false:=decide_eq_false h4;have hb:badAt f t ts i=false:=by rw[HBAD.out,e1,e2,e4,decide_eq_true h3];rfl
     have HBF:=Jh hb;clear hb;go_wp2_with fail
     refine HP1.out.mono ?_;rintro _ w4 ⟨rfl,rfl⟩;go_wp2_with fail
     go_roundg gk
     case measure=>omega
     case rel=>exact ⟨i+1,by omega,by go_num,rfl,GO.out HBF.out⟩
   ·have e3:decide ((0:Int) < (i:Int))=false:=by rw[decide_eq_false_iff_not];omega
    obtain rfl:i=0:=by omega
    have hb:badAt f t ts 0=false:=by rw[HBAD.out,e1,e2];rfl
    have HBF:=Jh hb;clear hb;go_wp2_with fail
    go_roundg gk
    case measure=>omega
    case rel=>exact ⟨1,by omega,by go_num,rfl,GO.out HBF.out⟩
end
end Go.Proofs.YtdoiekknhnbepaaGreatDoor
