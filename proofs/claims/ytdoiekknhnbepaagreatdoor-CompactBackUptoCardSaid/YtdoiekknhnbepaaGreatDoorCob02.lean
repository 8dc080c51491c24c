/- Merged (what the claim wants of): SymWalksB, SymWalksC, SymWalksE, RLabWalksA, Iter, ColWalks, AggPlain, BitPlain, ChkPlain, ChkPlain2, ChkPlain3, LabCmp, BlkPlain, BlkMem, MrgEnc, OncePlain, OncePlain2, MrgLaw, MrgPlain, MrgPlain2. -/
import Derived.Test.YtdoiekknhnbepaaGreatDoorCob01
import Derived.Laws.OwnMore
import Derived.Shelf.SlIter.Nil
import Derived.Shelf.SortM.Plain
import Derived.Shelf.SortM.SortNone
import Derived.Test.YtdoiekknhnbepaaGreatDoorProg
import Derived.StringKeys
import Derived.Maps.OwnOps
import Derived.Maps.Views
import Derived.Sort.WalkA
import Derived.Sort.Statements
set_option linter.unusedVariables false
set_option linter.unusedSimpArgs false
set_option maxRecDepth 100000
set_option maxHeartbeats 8000000
namespace Go.Proofs.YtdoiekknhnbepaaGreatDoor
section
open Go.RowKit Go.Sort
open Lib renaming hid → Jh
attribute [local go_sem ↓] Go.wp_at_zero Go.wp_at_succ
attribute [local go_sem] Later.cell
set_option maxHeartbeats 400000 in
theorem Kjm (v:Value) (t:List Txt) (w:World) (h:TabAt w v t) :
  ∃A c,Strs w A t.length t∧t.length≤c∧(∀w',Below w.heap.size w w'→Calls Tryz.prog 111 #[v] w' fun e w''=>e = .returned (.slice A t.length c)∧w'=w'')∧(0 < t.length→∃p,v = .pointer (some ⟨p,0,none⟩)∧Blk w p 197 #[.slice A t.length c]):=by
 obtain ⟨A,n,c,h1,h2,h3⟩:=h;have hl:=h2.len;subst hl;refine ⟨A,c,h2,h3,fun w' hb=>?_,fun h0=>?_⟩
 ·rcases h1 with ⟨rfl,rfl,hn,rfl⟩ | ⟨p,rfl,hp⟩
  ·rw[hn];clear h2 h3 hn;go_enter Tryz.func111,Tryz.ntmps111
   go_wp2_with fail
   go_ret
   exact ⟨rfl,rfl⟩
  ·have hc:_=some (Value.slice A t.length c):=(hp.below hb hp.lt).cell 0;obtain ⟨n,hn⟩:∃n,t.length=n:=⟨_,rfl⟩;rw[hn] at hc ⊢;clear h2 h3 hn hp;go_enter Tryz.func111,Tryz.ntmps111
   go_wp2_with fail
   go_ret
   exact ⟨rfl,rfl⟩
 ·rcases h1 with ⟨_,_,hn,_⟩ | ⟨p,hp,hb⟩
  ·omega
  ·exact ⟨p,hp,hb⟩
set_option maxHeartbeats 400000 in
theorem Qan (v:Value) (t:List Txt) (w:World) (h:TabAt w v t) :
  Calls Tryz.prog 110 #[v] w fun e w'=>e = .returned (.int .i64 t.length)∧w=w':=by
 obtain ⟨A,c,_,_,hall,_⟩:=Kjm v t w h;have HA:=Jh (hall w (Below.refl _ _));obtain ⟨n,hn⟩:∃n,t.length=n:=⟨_,rfl⟩;rw[hn] at HA ⊢;clear hall hn h;go_enter Tryz.func110,Tryz.ntmps110
 go_wp2_with fail
 refine HA.out.mono ?_;rintro e w' ⟨rfl,rfl⟩;go_wp2_with fail
 go_ret
 exact ⟨rfl,rfl⟩
theorem Kqr (t:List Txt) (A:Option Addr) (c:Nat) (s:ByteArray) (w:World) (hs:Strs w A t.length t) (hasc:Asc t) (hn:t.length*16≤140737488351232) :
  Calls Tryz.prog 169 #[.slice A t.length c,.string s] w fun e w'=>e = .returned (.tuple #[.int .i64 (below t s.data.toList:Nat),.bool (decide (t[below t s.data.toList]? = some s.data.toList))])∧Below w.heap.size w w':=by
 by_cases h0:t.length=0
 ·obtain rfl:t = []:=List.eq_nil_of_length_eq_zero h0;refine (Any2.slices_BinarySearch_string_empty Tryz.laysBS A c s w).mono ?_;rintro e w' ⟨rfl,rfl⟩;exact ⟨rfl,Below.refl _ _⟩
 ·obtain ⟨b,off,rfl,_,_⟩:=hs.2 (by omega)
  have hcon:=Any2.slices_BinarySearch_string Tryz.laysBS b off t.length c (fun j=>(⟨t[j]!.toArray⟩:ByteArray)) s w (by omega) (fun j hj=>by
   obtain ⟨b',off',e,_,hc⟩:=hs.at_ hj;injection e with e;injection e with e1 e2;subst e1 e2
   exact hc)
  have hlt:∀i,i < t.length→Op.bytesLess (⟨t[i]!.toArray⟩:ByteArray).toList s.toList=decide (t[i]! < s.data.toList):=by
   intro i _;rw[bytesLess_eq,ByteArray.toList_eq,ByteArray.toList_eq]
  have key:Lib.bsGo (fun i=>Op.bytesLess (⟨t[i]!.toArray⟩:ByteArray).toList s.toList) t.length 0 t.length=below t s.data.toList:=by
   have h1:=Qch hasc s.data.toList (fun i=>decide (i < t.length) && Op.bytesLess (⟨t[i]!.toArray⟩:ByteArray).toList s.toList) (fun i hi=>by rw[hlt i hi,getElem!_pos t i hi];simp[hi]) (fun i hi=>by simp;omega);rw[←h1]
   have key2:∀f lo hi,hi≤t.length→Lib.bsGo (fun i=>Op.bytesLess (⟨t[i]!.toArray⟩:ByteArray).toList s.toList) f lo hi=Lib.bsGo (fun i=>decide (i < t.length) && Op.bytesLess (⟨t[i]!.toArray⟩:ByteArray).toList s.toList) f lo hi:=by
    intro f
    induction f with
    | zero=>intro lo hi _;rfl
    | succ f ih=>
     intro lo hi hh;unfold Lib.bsGo
     split
     ·rename_i hlh
      have hm:(lo+hi) / 2 < t.length:=by omega
      simp only[hm,decide_true,Bool.true_and]
      split
      ·exact ih _ _ hh
      ·exact ih _ _ (by omega)
     ·rfl
   exact key2 _ _ _ (Nat.le_refl _)
  rw[key] at hcon;refine hcon.mono ?_;rintro e w' ⟨rfl,q,rfl⟩;refine ⟨?_,⟨rfl,rfl,rfl,Nat.le_refl _,fun _ _=>rfl⟩⟩
  have hd:decide (below t s.data.toList < t.length∧(⟨t[below t s.data.toList]!.toArray⟩:ByteArray)=s)=decide (t[below t s.data.toList]? = some s.data.toList):=by
   rw[decide_eq_decide];constructor
   ·rintro ⟨h1,h2⟩;rw[getElem!_pos t _ h1] at h2;rw[List.getElem?_eq_getElem h1];have h3:=congrArg (fun x:ByteArray=>x.data.toList) h2;exact congrArg some h3
   ·intro h;obtain ⟨h1,h2⟩:=List.getElem?_eq_some_iff.1 h;refine ⟨h1,?_⟩;rw[getElem!_pos t _ h1,h2]
  rw[hd]
set_option maxHeartbeats 400000 in
theorem Kke (v:Value) (t:List Txt) (s:ByteArray) (w:World) (n e:Nat) (hr:numR t s.data.toList=(n,e)) (h:TabAt w v t) (hasc:Asc t) (hn:t.length*16≤140737488351232) :
  Calls Tryz.prog 115 #[v,.string s] w fun en w'=>en = .returned (.tuple #[.int .i64 n,.int .i64 e])∧Below w.heap.size w w':=by
 obtain ⟨A,c,hs,_,hall,_⟩:=Kjm v t w h;have hb:=Kqr t A c s w hs hasc hn;have HA:=Jh (hall w (Below.refl _ _));obtain ⟨m,hm⟩:∃m,t.length=m:=⟨_,rfl⟩;obtain ⟨q,hq⟩:∃q,below t s.data.toList=q:=⟨_,rfl⟩;rw[numR,hq] at hr;rw[hq] at hb
 by_cases hin:t[q]? = some s.data.toList
 ·rw[if_pos hin] at hr;obtain ⟨rfl,rfl⟩:q=n∧0=e:=by simpa using hr
  rw[decide_eq_true hin,hm] at hb;rw[hm] at HA;have HB:=Jh hb;clear hall hb hr hs hm hin hq h;go_enter Tryz.func115,Tryz.ntmps115
  go_wp2_with fail
  refine HA.out.mono ?_;rintro en w' ⟨rfl,rfl⟩;go_wp2_with fail
  refine HB.out.mono ?_;rintro en w1 ⟨rfl,hb1⟩;go_wp2_with fail
  go_ret2
  exact ⟨rfl,hb1⟩
 ·rw[if_neg hin] at hr;obtain ⟨rfl,rfl⟩:0=n∧50=e:=by simpa using hr
  rw[decide_eq_false hin,hm] at hb;rw[hm] at HA;have HB:=Jh hb;clear hall hb hr hs hm hin hq h;go_enter Tryz.func115,Tryz.ntmps115
  go_wp2_with fail
  refine HA.out.mono ?_;rintro en w' ⟨rfl,rfl⟩;go_wp2_with fail
  refine HB.out.mono ?_;rintro en w1 ⟨rfl,hb1⟩;go_wp2_with fail
  go_ret2
  exact ⟨rfl,hb1⟩
def tabT (t:List Txt):List UInt8:=uintT t.length++t.flatMap textT
theorem Knx (v:Value) (t:List Txt) (w:World) (h:TabAt w v t) (hn:t.length*16≤140737488351232) (hz:(tabT t).length≤140737488351232) :
  Calls Tryz.prog 41 #[v] w fun e w'=>e = .returned (.string ⟨(tabT t).toArray⟩)∧Below w.heap.size w w':=by
 obtain ⟨A,c,hs,hc,hall,_⟩:=Kjm v t w h;have HALL:=Jh hall;have HZ:=Jh hz;clear hall hz;go_enter Tryz.func41,Tryz.ntmps41
 go_upto_region 2 with fail
 have hbd:Bld w.heap.size w.heap.size [] (w.alloc (.cells #[.pointer none,.slice none 0 0] 109)):=Bld.new w (Nat.le_refl _);have hB0:Below w.heap.size w (w.alloc (.cells #[.pointer none,.slice none 0 0] 109)):=(Below.refl _ _).alloc (Nat.le_refl _) _;obtain ⟨w0,hw0⟩:∃x,w.alloc (.cells #[.pointer none,.slice none 0 0] 109)=x:=⟨_,rfl⟩;obtain ⟨p,hp⟩:∃p,w.heap.size=p:=⟨_,rfl⟩;rw[hw0] at hbd hB0 ⊢;have hlen:=Qan v t w0 (h.below hB0);have HLEN:=Jh hlen;rw[hp] at hbd ⊢;have HP:=Jh hp;clear hw0 hlen hp;have hl:=hs.len;obtain ⟨n,hn'⟩:∃n,t.length=n:=⟨_,rfl⟩;rw[hn'] at HLEN hs hc hn;have hu:=Kau n (by omega) w0;have hlu:=Kab n;obtain ⟨U,hU⟩:∃U:ByteArray,(⟨(uintT n).toArray⟩:ByteArray)=U:=⟨_,rfl⟩;have hUU:U.data.toList=uintT n:=by rw[←hU]
 have hUz:U.size≤11:=by rw[←Kak,hUU];exact hlu.2
 rw[hU] at hu;have HU:=Jh hu;have HUU:=Jh hUU;have HN:=Jh hn';clear hu hU hUU hlu hn' hl;go_wp2_with fail
 refine HLEN.out.mono ?_;rintro e w1 ⟨rfl,rfl⟩;go_wp2_with fail
 refine HU.out.mono ?_;rintro e w1 ⟨rfl,hb1⟩;have hbd1:=hbd.below hb1;have hB1:=then_ hB0 hb1;have hps:p≤w1.heap.size:=by have:=hbd1.lt;omega
 go_wp2_with fail
 refine (Kaz p p [] U w1 hbd1 (by simp;omega) hps).mono ?_;rintro e w2 ⟨rfl,hbd2,hw2,_⟩;rw[List.nil_append,HUU.out] at hbd2;have hB2:Below w.heap.size w w2:=by rw[HP.out] at hB1 ⊢;exact hB1.trans hw2
 have hall2:=HALL.out w2 hB2;rw[HN.out] at hall2;have HA2:=Jh hall2;clear hall2 hbd hbd1 hw2 hb1 HALL;go_wp2_with fail
 refine HA2.out.mono ?_;rintro e w3 ⟨rfl,rfl⟩;go_upto_block 0 with fail
 go_cut [] (fun wz=>Bld p p (tabT t) wz∧Below w.heap.size w wz)
 case first=>
  go_wp2_with fail
  go_loopg [14] n (fun g s14 wr=>∃i:Nat,i+g=n∧s14 = .int .i64 (i:Int)∧Bld p p (uintT n++(t.take i).flatMap textT) wr∧Below w.heap.size w wr)
  case atStart=>exact ⟨0,by omega,rfl,by simpa using hbd2,hB2⟩
  case round=>
   obtain ⟨i,hig,rfl,hbd,hB⟩:=hrel;have HIG:=Jh hig;clear hig
   by_cases hi:i < n
   ·have hil:i < t.length:=by have:=HN.out;omega
    have el:decide ((i:Int) < (n:Int))=true:=by simp;omega
    have el':decide (i < n)=true:=by simp;omega
    obtain ⟨b,off,rfl,hbl,hcell⟩:=hs.at_ hi;have hc1:wr.cell? ⟨b,off+i,none⟩=some (txtV t[i]!):=(hB.cell (p:=⟨b,off+i,none⟩) hbl).trans hcell;obtain ⟨x,hx⟩:∃x,t[i]! = x:=⟨_,rfl⟩;rw[hx] at hc1;unfold txtV at hc1;obtain ⟨X,hX⟩:∃X:ByteArray,(⟨x.toArray⟩:ByteArray)=X:=⟨_,rfl⟩;rw[hX] at hc1;have hXx:X.data.toList=x:=by rw[←hX]
    have hnext:(uintT n++(t.take i).flatMap textT)++textT x=uintT n++(t.take (i+1)).flatMap textT:=by
     rw[List.take_succ_eq_append_getElem hil,←getElem!_pos t i hil,hx,List.flatMap_append];simp
    have hpre:(uintT n++(t.take (i+1)).flatMap textT).length≤140737488351232:=by
     have h1:=HZ.out;have h2:t.flatMap textT=(t.take (i+1)).flatMap textT++(t.drop (i+1)).flatMap textT:=by rw[←List.flatMap_append,List.take_append_drop]
     rw[tabT,HN.out,h2] at h1;simp only[List.length_append] at h1 ⊢;omega
    rw[←hnext,List.length_append] at hpre;have hxl:x.length≤(textT x).length:=by simp[textT]
    have hXz:X.size≤140737488351232:=by rw[←Kak,hXx];omega
    have htx:=Kfe X hXz wr;rw[hXx] at htx;obtain ⟨T,hT⟩:∃T:ByteArray,(⟨(textT x).toArray⟩:ByteArray)=T:=⟨_,rfl⟩;have hTt:T.data.toList=textT x:=by rw[←hT]
    have hTz:T.size=(textT x).length:=by rw[←Kak,hTt]
    rw[hT] at htx;obtain ⟨P0,hP0⟩:∃P,uintT n++(t.take i).flatMap textT=P:=⟨_,rfl⟩;rw[hP0] at hbd hnext hpre;have HTX:=Jh htx;have HTT:=Jh hTt;have HTZ:=Jh hTz;have HNX:=Jh hnext;clear htx hTt hTz hT hnext hP0 hx hX hXx hcell;go_wp2_with fail
    refine HTX.out.mono ?_;rintro e v1 ⟨rfl,hb1⟩;have hbd1:=hbd.below hb1;have hB1:=then_ hB hb1;go_wp2_with fail
    refine (Kaz p p P0 T v1 hbd1 (by have:=HTZ.out;omega) (by have:=hbd1.lt;omega)).mono ?_;rintro e v2 ⟨rfl,hbd2',hw2,_⟩;rw[HTT.out,HNX.out] at hbd2';go_wp2_with fail
    go_roundg (gk - 1)
    case measure=>have:=HIG.out;omega
    case rel=>exact ⟨i+1,by have:=HIG.out;omega,by go_num,hbd2',by rw[HP.out] at hB1 ⊢;exact hB1.trans hw2⟩
   ·have el:decide ((i:Int) < (n:Int))=false:=by simp;omega
    have el':decide (i < n)=false:=by simp;omega
    have hfin:uintT n++(t.take i).flatMap textT=tabT t:=by
     have:=HN.out;rw[List.take_of_length_le (by omega),tabT,this]
    rw[hfin] at hbd;clear hfin;go_wp2_with fail
    go_meet
    exact ⟨hbd,hB⟩
 case rest=>
  obtain ⟨hbd,hB⟩:=hcut;obtain ⟨w6,rfl⟩:∃x,x=wc:=⟨_,rfl⟩;go_wp2_with fail
  refine (Kdq p p _ w6 hbd (by have:=hbd.lt;omega)).mono ?_;rintro e w7 ⟨rfl,hw7⟩;go_wp2_with fail
  go_ret
  refine ⟨rfl,?_⟩;rw[HP.out] at hB ⊢;exact hB.trans hw7
def packS (t:List Txt):List Txt→Option (List UInt8)
 | []=>some []
 | x :: r=>if (numR t x).2≠0 then none else (packS t r).map (uintT (numR t x).1 ++ ·)
def texts (l:List Lb):List Txt:=l.flatMap fun x=>[x.n,x.v]
def packR (t:List Txt) (l:List Lb):List UInt8×Nat:=
 if Kdi l≠0 then ([],Kdi l) else match packS t (texts l) with | none=>([],50) | some b=>(uintT l.length++b,0)
theorem Kio {t:List Txt} {x:Txt} {r:List Txt} {R:Option (List UInt8)} {D:List UInt8} {k:Nat} (h:R=(packS t (x :: r)).map (D ++ ·)) (hk:numR t x=(k,0)):R=(packS t r).map ((D++uintT k) ++ ·):=by
 rw[h,packS,if_neg (by rw[hk];simp),hk,Option.map_map];congr 1;funext b;simp
theorem Kqd {t:List Txt} {x:Txt} {r:List Txt} {R:Option (List UInt8)} {D:List UInt8} {k e:Nat} (h:R=(packS t (x :: r)).map (D ++ ·)) (hk:numR t x=(k,e)) (he:e≠0):R=none:=by
 rw[h,packS,if_pos (by rw[hk];exact he)];rfl
theorem Ktl {t:List Txt} {x:Txt} {k e:Nat} (h:numR t x=(k,e)) (he:e≠0):e=50:=by
 unfold numR at h
 split at h
 ·injection h with _ h;omega
 ·injection h with _ h;exact h.symm
theorem Knk {t:List Txt} {x:Txt} {k e:Nat} (h:numR t x=(k,e)):k≤t.length:=by
 have:=Klx t x;unfold numR at h
 split at h <;> injection h with h1 h2 <;> omega
theorem Kix (x:Lb) (l:List Lb):texts (x :: l)=x.n :: x.v :: texts l:=rfl
theorem Qfs (a b:Value) (w:World):(Instr.index 202 (.agg #[a,b]) (.int .i64 0)).run Tryz.prog w = .ok a w:=by kernel_rfl
theorem Qft (a b:Value) (w:World):(Instr.index 202 (.agg #[a,b]) (.int .i64 1)).run Tryz.prog w = .ok b w:=by kernel_rfl
theorem Kyl (v:Value) (t:List Txt) (l:List Lb) (A:Option Addr) (n c:Nat) (w:World) (s:Txt) (er:Nat) (hr:packR t l=(s,er)) (h:TabAt w v t) (hasc:Asc t) (ht:t.length*16≤140737488351232) (hE:Elems w w.heap.size 2 encLb A n l) (hnc:n≤c) (hnm:n≤140737488351232) (hz:∀x∈l,x.n.length≤140737488351232∧x.v.length≤140737488351232) :
  Calls Tryz.prog 43 #[v,.slice A n c] w fun e w'=>e = .returned (.tuple #[.string ⟨s.toArray⟩,.int .i64 er])∧Below w.heap.size w w':=by
 have henc:=Ksi l A n c w hE hnc hnm hz;obtain ⟨ee,hee⟩:∃e,Kdi l=e:=⟨_,rfl⟩;rw[hee] at henc;rw[packR,hee] at hr;obtain ⟨EO,hEO⟩:∃S:ByteArray,(⟨(Kfx l).toArray⟩:ByteArray)=S:=⟨_,rfl⟩;rw[hEO] at henc;have HENC:=Jh henc;clear henc hEO hz
 by_cases h0:ee=0
 ·subst h0
  have hmk:Kbm l=0:=by
   rcases Kjv l with ⟨h1,h2⟩ | ⟨h1,_⟩ | ⟨h1,_⟩
   ·rw[h2] at hee;exact hee
   ·exact h1
   ·exact h1
  obtain ⟨hn0,hn8,hfit,_⟩:=Kfb hmk;have hl:=hE.len;obtain ⟨b,off,rfl,_,_⟩:=hE.2 (by omega);obtain ⟨R,hR⟩:∃R,packS t (texts l)=R:=⟨_,rfl⟩;rw[if_neg (by simp),hR,hl] at hr;have HR:=Jh hr;have HRR:=Jh hR;have HL:=Jh hl;have HFIT:=Jh hfit;have hn8':n≤8:=by omega
  have hnp:0 < n:=by omega
  have hu:=Kau n (by omega);have hlu:=Kab n;obtain ⟨U,hU⟩:∃U:ByteArray,(⟨(uintT n).toArray⟩:ByteArray)=U:=⟨_,rfl⟩;have hUU:U.data.toList=uintT n:=by rw[←hU]
  have hUz:U.size≤11:=by rw[←Kak,hUU];exact hlu.2
  rw[hU] at hu;have HU:=Jh hu;have HUU:=Jh hUU;clear hr hR hl hfit hmk hee hu hU hUU hlu hn0 hn8;go_enter Tryz.func43,Tryz.ntmps43
  go_wp2_with fail
  refine HENC.out.mono ?_;rintro e w1 ⟨rfl,hb1⟩;go_wp2_with fail
  refine (HU.out w1).mono ?_;rintro e w2 ⟨rfl,hb2⟩;have hB2:=then_ hb1 hb2;clear HENC HU hb1 hb2;go_upto_block 0 with fail
  go_cut [8] (fun s8 wz=>∃S:ByteArray,s8 = .string S∧R=some (S.data.toList.drop (uintT n).length)∧S.data.toList=uintT n++S.data.toList.drop (uintT n).length∧Below w.heap.size w wz)
  case first=>
   go_wp2_with fail
   go_loopg [8,29] n (fun g s8 s29 wr=>∃(i:Nat) (S:ByteArray) (D:List UInt8),i+g=n∧s29 = .int .i64 (i:Int)∧s8 = .string S∧S.data.toList=uintT n++D∧S.size≤11+22*i∧R=(packS t (texts (l.drop i))).map (D ++ ·)∧Below w.heap.size w wr)
   case atStart=>exact ⟨0,U,[],by omega,rfl,rfl,by rw[HUU.out];simp,by omega,by rw[List.drop_zero,HRR.out];simp,hB2⟩
   case round=>
    obtain ⟨i,S,D,hig,rfl,rfl,hSD,hSz,hRd,hB⟩:=hrel;have HIG:=Jh hig;have HSD:=Jh hSD;have HRD:=Jh hRd;clear hig hSD hRd
    by_cases hi:i < n
    ·have hil:i < l.length:=by have:=HL.out;omega
     have el:decide ((i:Int) < (n:Int))=true:=by simp;omega
     have el':decide (i < n)=true:=by simp;omega
     obtain ⟨hbl,c0,c1⟩:=Kbu hE hnp hB i hil;obtain ⟨x,hx⟩:∃x,l[i]! = x:=⟨_,rfl⟩;rw[hx] at c0 c1;obtain ⟨N,hN⟩:∃N:ByteArray,(⟨x.n.toArray⟩:ByteArray)=N:=⟨_,rfl⟩;obtain ⟨V,hV⟩:∃N:ByteArray,(⟨x.v.toArray⟩:ByteArray)=N:=⟨_,rfl⟩;rw[hN] at c0;rw[hV] at c1;have hNn:N.data.toList=x.n:=by rw[←hN]
     have hVv:V.data.toList=x.v:=by rw[←hV]
     have hdr:l.drop i=x :: l.drop (i+1):=by rw[List.drop_eq_getElem_cons hil,←hx,getElem!_pos l i hil]
     have hrd:=HRD.out;rw[hdr,Kix] at hrd;obtain ⟨k1,e1,hk1⟩:∃k e,numR t x.n=(k,e):=⟨_,_,rfl⟩;obtain ⟨k2,e2,hk2⟩:∃k e,numR t x.v=(k,e):=⟨_,_,rfl⟩;have hs1:=Knk hk1;have hs2:=Knk hk2;have HK1:=Jh (show numR t N.data.toList=(k1,e1) by rw[hNn,hk1]);have HK2:=Jh (show numR t V.data.toList=(k2,e2) by rw[hVv,hk2]);have HKK1:=Jh hk1;have HKK2:=Jh hk2;have HRD2:=Jh hrd;clear hx hN hV hNn hVv hdr hrd hk1 hk2 HRD;have hix:∀(a b:Value) (w:World),(Instr.index 202 (.agg #[a,b]) (.int .i64 0)).run Tryz.prog w = .ok a w:=Qfs;have hiy:∀(a b:Value) (w:World),(Instr.index 202 (.agg #[a,b]) (.int .i64 1)).run Tryz.prog w = .ok b w:=Qft;go_upto_region 8 with fail
     have hB1:Below w.heap.size w (wr.alloc (.cells #[.string N,.string V] 99)):=hB.alloc hB.size _;have hq:Blk (wr.alloc (.cells #[.string N,.string V] 99)) wr.heap.size 99 #[.string N,.string V]:=Blk.new _ _ _;obtain ⟨v1,hv1⟩:∃w1,wr.alloc (.cells #[.string N,.string V] 99)=w1:=⟨_,rfl⟩;obtain ⟨q,hqq⟩:∃p,wr.heap.size=p:=⟨_,rfl⟩;rw[hv1] at hB1 hq ⊢;rw[hqq] at hq ⊢;clear hv1 hqq c0 c1 hB;have q0:_=some (Value.string N):=hq.cell 0;have q1:_=some (Value.string V):=hq.cell 1;go_wp2_with fail
     refine wp_loop_rounds 3 ?_;rw[rounds_succ];go_wp2_with fail
     refine (Kke v t N v1 k1 e1 HK1.out (h.below hB1) hasc ht).mono ?_;rintro e v2 ⟨rfl,hb2⟩;have hB2':=then_ hB1 hb2
     by_cases he1:e1=0
     ·subst he1;have hu1:=Kau k1 (by omega) v2;have hlu1:=Kab k1;obtain ⟨U1,hU1⟩:∃U:ByteArray,(⟨(uintT k1).toArray⟩:ByteArray)=U:=⟨_,rfl⟩;have hUU1:U1.data.toList=uintT k1:=by rw[←hU1]
      have hUz1:U1.size≤11:=by rw[←Kak,hUU1];exact hlu1.2
      rw[hU1] at hu1;have HU1:=Jh hu1;have HUU1:=Jh hUU1;clear hu1 hU1 hUU1 hlu1 q0 q1 hq;go_wp2_with fail
      refine HU1.out.mono ?_;rintro e v3 ⟨rfl,hb3⟩;have hB3':=then_ hB2' hb3;go_wp2_with fail
      rw[rounds_succ];go_wp2_with fail
      refine (Kke v t V v3 k2 e2 HK2.out (h.below hB3') hasc ht).mono ?_;rintro e v4 ⟨rfl,hb4⟩;have hB4':=then_ hB3' hb4
      by_cases he2:e2=0
      ·subst he2;have hu2:=Kau k2 (by omega) v4;have hlu2:=Kab k2;obtain ⟨U2,hU2⟩:∃U:ByteArray,(⟨(uintT k2).toArray⟩:ByteArray)=U:=⟨_,rfl⟩;have hUU2:U2.data.toList=uintT k2:=by rw[←hU2]
       have hUz2:U2.size≤11:=by rw[←Kak,hUU2];exact hlu2.2
       rw[hU2] at hu2;have HU2:=Jh hu2;have HUU2:=Jh hUU2;clear hu2 hU2 hUU2 hlu2;go_wp2_with fail
       refine HU2.out.mono ?_;rintro e v5 ⟨rfl,hb5⟩;have hB5':=then_ hB4' hb5;go_wp2_with fail
       rw[rounds_succ];go_wp2_with fail
       go_roundg (gk - 1)
       case measure=>have:=HIG.out;omega
       case rel=>
        refine ⟨i+1,_,(D++uintT k1)++uintT k2,by have:=HIG.out;omega,by go_num,rfl,?_,?_,Kio (Kio HRD2.out HKK1.out) HKK2.out,hB5'⟩
        ·simp only[ByteArray.data_append,Array.toList_append,HSD.out,HUU1.out,HUU2.out,List.append_assoc]
        ·simp only[ByteArray.size_append];omega
      ·have ee2:((e2:Int) != 0)=true:=by simp;omega
       have hRn:=Kqd (Kio HRD2.out HKK1.out) HKK2.out he2;have he50:=Ktl HKK2.out he2;obtain ⟨hs',he'⟩:[]=s∧50=er:=by have:=HR.out;rw[hRn] at this;simpa using this
       have HE:=Jh (he50.trans he');subst hs';clear hRn he50 he';go_wp2_with fail
       go_ret2
       exact ⟨ret2 rfl (vi (by rw[HE.out])),hB4'⟩
     ·have ee1:((e1:Int) != 0)=true:=by simp;omega
      have hRn:=Kqd HRD2.out HKK1.out he1;have he50:=Ktl HKK1.out he1;obtain ⟨hs',he'⟩:[]=s∧50=er:=by have:=HR.out;rw[hRn] at this;simpa using this
      have HE:=Jh (he50.trans he');subst hs';clear hRn he50 he' q0 q1 hq;go_wp2_with fail
      go_ret2
      exact ⟨ret2 rfl (vi (by rw[HE.out])),hB2'⟩
    ·have el:decide ((i:Int) < (n:Int))=false:=by simp;omega
     have el':decide (i < n)=false:=by simp;omega
     have hfin:R=some D:=by
      rw[HRD.out,List.drop_of_length_le (by have:=HL.out;omega)];simp[texts,packS]
     have HF:=Jh hfin;clear hfin;go_wp2_with fail
     go_meet
     refine ⟨S,rfl,?_,?_,hB⟩
     ·rw[HSD.out,HF.out];simp
     ·rw[HSD.out];simp
  case rest=>
   obtain ⟨S,rfl,hRS,hSS,hB⟩:=hcut;have hr:=HR.out;rw[hRS] at hr;obtain ⟨hs',he'⟩:uintT n++S.data.toList.drop (uintT n).length=s∧0=er:=by simpa using hr
   have hS2:S.data.toList=s:=by rw[←hs'];exact hSS
   have HS:=Jh hS2;have HE:=Jh he';clear hr hRS hSS hs' he' hS2;go_wp2_with fail
   go_ret2
   exact ⟨ret2 (congrArg Value.string (Qbm (by rw[HS.out]))) (vi (by rw[←HE.out];rfl)),hB⟩
 ·rw[if_pos h0] at hr;obtain ⟨rfl,rfl⟩:[]=s∧ee=er:=by simpa using hr
  have ee0:((ee:Int) != 0)=true:=by simp;omega
  clear hr hee;go_enter Tryz.func43,Tryz.ntmps43
  go_wp2_with fail
  refine HENC.out.mono ?_;rintro e w1 ⟨rfl,hb1⟩;go_wp2_with fail
  go_ret2
  exact ⟨rfl,hb1⟩
end
section
open Go.RowKit Go.Sort
attribute [local go_sem ↓] Go.wp_at_zero Go.wp_at_succ
attribute [local go_sem] Later.cell
theorem Ktg (x:Txt) (s:ByteArray):Op.bytesLess (⟨x.toArray⟩:ByteArray).toList s.toList=decide (x < s.data.toList):=by
 rw[bytesLess_eq,ByteArray.toList_eq,ByteArray.toList_eq]
theorem Qah:(Tryz.prog.info? 180).map (fun i=>(i.zero,i.size,i.bytes))=some (some (.agg #[.string ⟨#[]⟩,.string ⟨#[]⟩]),2,32):=by kernel_rfl
def RLabs (B:Nat) (w:World) (v:Value) (ys:List Lb):Prop:=w.ownsRow B 180 2 v ys.length (ys.flatMap encLb)
end
end Go.Proofs.YtdoiekknhnbepaaGreatDoor
namespace Go.Proofs
open Go.Shelf
def Tryz.keys108_ren:Go.Shelf.Ren:=⟨fun | 7=>108 | 10=>167 | n=>n,fun | 23=>191 | 26=>9 | 3=>3 | 28=>194 | 0=>0 | 27=>193 | 33=>262 | 4=>4 | n=>n,fun | n=>n⟩
theorem Tryz.keys108:Go.Proofs.SlLaysZ.n7 Tryz.prog Tryz.keys108_ren:={
 mixed:=by kernel_rfl
 f7:=⟨Tryz.f108.name,by decide,Tryz.func108.trans (congrArg some (by kernel_rfl))⟩
 f10:=⟨Tryz.f167.name,by decide,Tryz.func167.trans (congrArg some (by kernel_rfl))⟩
 t0:=Tryz.underlying0
 a0:=Tryz.isAgg0
 z0:=Tryz.sizeOf0
 v0:=Tryz.zeroValue0
 t4:=Tryz.underlying4
 a4:=Tryz.isAgg4
 z4:=Tryz.sizeOf4
 v4:=Tryz.zeroValue4
 t23:=Tryz.underlying191
 a23:=Tryz.isAgg191
 z23:=Tryz.sizeOf191
 v23:=Tryz.zeroValue191
 t26:=Tryz.underlying9
 a26:=Tryz.isAgg9
 z26:=Tryz.sizeOf9
 v26:=Tryz.zeroValue9
 t27:=Tryz.underlying193
 a27:=Tryz.isAgg193
 z27:=Tryz.sizeOf193
 v27:=Tryz.zeroValue193
 t28:=Tryz.underlying194
 a28:=Tryz.isAgg194
 z28:=Tryz.sizeOf194
 v28:=Tryz.zeroValue194
 t33:=Tryz.underlying262
 a33:=Tryz.isAgg262
 z33:=Tryz.sizeOf262
 v33:=Tryz.zeroValue262 }
def Tryz.sorted107_ren:Go.Shelf.Ren:=⟨fun | 6=>107 | 8=>165 | 9=>166 | 11=>195 | 13=>174 | 12=>196 | 23=>211 | 24=>212 | 14=>233 | 15=>234 | 16=>235 | 17=>236 | 18=>237 | 19=>238 | 20=>197 | 21=>239 | 22=>240 | 25=>258 | 26=>247 | 27=>248 | 28=>259 | 29=>260 | 30=>241 | 31=>266 | n=>n,fun | 26=>9 | 28=>194 | 24=>118 | 0=>0 | 3=>3 | 37=>200 | 48=>74 | 50=>100 | 4=>4 | 40=>303 | 39=>302 | 45=>265 | 5=>5 | 9=>9 | 51=>337 | 55=>340 | 57=>349 | 58=>350 | 33=>262 | n=>n,fun | n=>n⟩
theorem Tryz.sorted107:Go.Proofs.SlLaysZ.n6 Tryz.prog Tryz.sorted107_ren:={
 mixed:=by kernel_rfl
 f6:=⟨Tryz.f107.name,by decide,Tryz.func107.trans (congrArg some (by kernel_rfl))⟩
 f8:=⟨Tryz.f165.name,by decide,Tryz.func165.trans (congrArg some (by kernel_rfl))⟩
 f11:=⟨Tryz.f195.name,by decide,Tryz.func195.trans (congrArg some (by kernel_rfl))⟩
 t0:=Tryz.underlying0
 a0:=Tryz.isAgg0
 z0:=Tryz.sizeOf0
 v0:=Tryz.zeroValue0
 t24:=Tryz.underlying118
 a24:=Tryz.isAgg118
 z24:=Tryz.sizeOf118
 v24:=Tryz.zeroValue118
 t26:=Tryz.underlying9
 a26:=Tryz.isAgg9
 z26:=Tryz.sizeOf9
 v26:=Tryz.zeroValue9
 t28:=Tryz.underlying194
 a28:=Tryz.isAgg194
 z28:=Tryz.sizeOf194
 v28:=Tryz.zeroValue194
 i26:=by kernel_rfl }
def Tryz.sort166_ren:Go.Shelf.Ren:=⟨fun | 6=>166 | 8=>174 | 9=>196 | 19=>211 | 20=>212 | 21=>233 | 22=>234 | 23=>235 | 24=>236 | 25=>237 | 26=>238 | 27=>197 | 28=>239 | 29=>240 | 36=>258 | 31=>247 | 32=>248 | 37=>259 | 38=>260 | 39=>241 | 41=>266 | n=>n,fun | 27=>118 | 29=>9 | 3=>3 | 32=>200 | 26=>118 | 0=>0 | 44=>74 | 46=>100 | 4=>4 | 36=>303 | 35=>302 | 41=>265 | 5=>5 | 9=>9 | 53=>337 | 57=>340 | 63=>349 | 64=>350 | n=>n,fun | n=>n⟩
theorem Tryz.sort166:Go.Proofs.SlLaysM.n6 Tryz.prog Tryz.sort166_ren:={
 mixed:=by kernel_rfl
 f6:=⟨Tryz.f166.name,by decide,Tryz.func166.trans (congrArg some (by kernel_rfl))⟩
 f8:=Tryz.func174.trans (congrArg some (by kernel_rfl))
 f9:=⟨Tryz.f196.name,by decide,Tryz.func196.trans (congrArg some (by kernel_rfl))⟩
 f19:=Tryz.func211.trans (congrArg some (by kernel_rfl))
 f20:=Tryz.func212.trans (congrArg some (by kernel_rfl))
 f21:=⟨Tryz.f233.name,by decide,Tryz.func233.trans (congrArg some (by kernel_rfl))⟩
 f22:=⟨Tryz.f234.name,by decide,Tryz.func234.trans (congrArg some (by kernel_rfl))⟩
 f23:=⟨Tryz.f235.name,by decide,Tryz.func235.trans (congrArg some (by kernel_rfl))⟩
 f24:=⟨Tryz.f236.name,by decide,Tryz.func236.trans (congrArg some (by kernel_rfl))⟩
 f25:=⟨Tryz.f237.name,by decide,Tryz.func237.trans (congrArg some (by kernel_rfl))⟩
 f26:=⟨Tryz.f238.name,by decide,Tryz.func238.trans (congrArg some (by kernel_rfl))⟩
 f27:=⟨Tryz.f197.name,by decide,Tryz.func197.trans (congrArg some (by kernel_rfl))⟩
 f28:=⟨Tryz.f239.name,by decide,Tryz.func239.trans (congrArg some (by kernel_rfl))⟩
 f29:=⟨Tryz.f240.name,by decide,Tryz.func240.trans (congrArg some (by kernel_rfl))⟩
 f31:=Tryz.func247.trans (congrArg some (by kernel_rfl))
 f32:=Tryz.func248.trans (congrArg some (by kernel_rfl))
 f36:=⟨Tryz.f258.name,by decide,Tryz.func258.trans (congrArg some (by kernel_rfl))⟩
 f37:=⟨Tryz.f259.name,by decide,Tryz.func259.trans (congrArg some (by kernel_rfl))⟩
 f38:=⟨Tryz.f260.name,by decide,Tryz.func260.trans (congrArg some (by kernel_rfl))⟩
 f39:=⟨Tryz.f241.name,by decide,Tryz.func241.trans (congrArg some (by kernel_rfl))⟩
 f41:=⟨Tryz.f266.name,by decide,Tryz.func266.trans (congrArg some (by kernel_rfl))⟩
 t0:=Tryz.underlying0
 a0:=Tryz.isAgg0
 z0:=Tryz.sizeOf0
 v0:=Tryz.zeroValue0
 t3:=Tryz.underlying3
 a3:=Tryz.isAgg3
 z3:=Tryz.sizeOf3
 v3:=Tryz.zeroValue3
 t4:=Tryz.underlying4
 a4:=Tryz.isAgg4
 z4:=Tryz.sizeOf4
 v4:=Tryz.zeroValue4
 t5:=Tryz.underlying5
 a5:=Tryz.isAgg5
 z5:=Tryz.sizeOf5
 v5:=Tryz.zeroValue5
 t9:=Tryz.underlying9
 a9:=Tryz.isAgg9
 z9:=Tryz.sizeOf9
 v9:=Tryz.zeroValue9
 t26:=Tryz.underlying118
 a26:=Tryz.isAgg118
 z26:=Tryz.sizeOf118
 v26:=Tryz.zeroValue118
 t27:=Tryz.underlying118
 a27:=Tryz.isAgg118
 z27:=Tryz.sizeOf118
 v27:=Tryz.zeroValue118
 t29:=Tryz.underlying9
 a29:=Tryz.isAgg9
 z29:=Tryz.sizeOf9
 v29:=Tryz.zeroValue9
 t32:=Tryz.underlying200
 a32:=Tryz.isAgg200
 z32:=Tryz.sizeOf200
 v32:=Tryz.zeroValue200
 t35:=Tryz.underlying302
 a35:=Tryz.isAgg302
 z35:=Tryz.sizeOf302
 v35:=Tryz.zeroValue302
 t36:=Tryz.underlying303
 a36:=Tryz.isAgg303
 z36:=Tryz.sizeOf303
 v36:=Tryz.zeroValue303
 t41:=Tryz.underlying265
 a41:=Tryz.isAgg265
 z41:=Tryz.sizeOf265
 v41:=Tryz.zeroValue265
 t44:=Tryz.underlying74
 a44:=Tryz.isAgg74
 z44:=Tryz.sizeOf74
 v44:=Tryz.zeroValue74
 t46:=Tryz.underlying100
 a46:=Tryz.isAgg100
 z46:=Tryz.sizeOf100
 v46:=Tryz.zeroValue100
 t53:=Tryz.underlying337
 a53:=Tryz.isAgg337
 z53:=Tryz.sizeOf337
 v53:=Tryz.zeroValue337
 t57:=Tryz.underlying340
 a57:=Tryz.isAgg340
 z57:=Tryz.sizeOf340
 v57:=Tryz.zeroValue340
 t63:=Tryz.underlying349
 a63:=Tryz.isAgg349
 z63:=Tryz.sizeOf349
 v63:=Tryz.zeroValue349
 t64:=Tryz.underlying350
 a64:=Tryz.isAgg350
 z64:=Tryz.sizeOf350
 v64:=Tryz.zeroValue350 }
open Go.RowKit Go.Maps Go.Sort Go.Shelf
theorem Tryz.sorts107 (m:Nat):AnyZ.SortsIn Tryz.prog Tryz.sorted107_ren Fence.wide m:=
 ⟨fun blk off cap ss W hH hblk hsz=>callsIn_wide.2 (AnyM.slices_Sort_string Tryz.sort166 blk off cap ss W hH hblk hsz),
  fun p cap W=>callsIn_wide.2 (AnyM.slices_Sort_string_none Tryz.sort166 p cap W)⟩
theorem Tryz.maps_Keys_108 (mb:Option Nat) (W:World):CallsIn Fence.wide 5 Tryz.prog 108 #[.map mb] W fun e w'=>e = .returned (.func (.func 167) #[] #[.pointer (some ⟨W.heap.size,0,none⟩)])∧w'=W.alloc (.cells #[.map mb] 191):=
 AnyZ.keys_in Tryz.keys108 Fence.wide 5 trivial rfl mb W
theorem Tryz.slices_Sorted_keys_107_108 {H:Type} (b nn:Nat) (D0:DataW H) (R:Value→Option (DataW H×List MemPlace)) (w:World) (hown:w.ownsMap Tryz.prog 9 R b nn D0) (hmax:Maps.size D0≤maxLen) (hbytes:Maps.size D0*16≤140737488355328) :
  CallsIn Fence.wide 5 Tryz.prog 107 #[.func (.func 167) #[] #[.pointer (some ⟨w.heap.size,0,none⟩)]] (w.alloc (.cells #[.map (some b)] 191)) fun e w'=>∃(v:Value) (ss:List (List UInt8)),e = .returned v∧ss.Perm (strKeys D0)∧
   w'.ownsRow (w.alloc (.cells #[.map (some b)] 191)).heap.size 9 1 v ss.length ((ss.mergeSort (fun x y=>decide (x≤y))).map encStr)∧(v = .slice none 0 0↔ss = [])∧Below (w.alloc (.cells #[.map (some b)] 191)).heap.size (w.alloc (.cells #[.map (some b)] 191)) w':=by
 have hbl:=hown.lt
 have hseq:SeqGives Fence.wide 2 Tryz.prog 167 #[.pointer (some ⟨w.heap.size,0,none⟩)] encStr (fun ss=>ss.Perm (strKeys D0)) (Maps.size D0) (w.alloc (.cells #[.map (some b)] 191)):=
  AnyZ.keys_gives (ρ:=Tryz.keys108_ren) { Tryz.keys108 with } Fence.wide _ trivial rfl (by omega) w.heap.size b nn D0 _ (by simp) (by simp) (by
   obtain ⟨es,clock,hb,Ft,hs,hD⟩:=hown
   exact ⟨es,clock,(Below.heap_alloc _ _ b hbl).trans hb,Ft,hs,hD⟩)
 exact AnyZ.sorted_in Tryz.sorted107 Fence.wide 5 trivial trivial trivial trivial rfl (by omega) (Tryz.sorts107 _) (enters_of Tryz.func166 (by kernel_rfl) rfl) 167 #[.pointer (some ⟨w.heap.size,0,none⟩)] trivial (enters_of Tryz.func167 (by kernel_rfl) rfl) _ _ hmax hbytes _ hseq
end Go.Proofs
namespace Go.Proofs.YtdoiekknhnbepaaGreatDoor
section
open Go.RowKit Go.Sort Go.Maps
open Lib renaming hid → Jh
open List renaming length_append → Jd
attribute [local go_sem ↓] Go.wp_at_zero Go.wp_at_succ
attribute [local go_sem] Later.cell
structure Hd where
 A:Option Addr
 n:Nat
 c:Nat
instance:Inhabited Hd:=⟨⟨none,0,0⟩⟩
def encH (h:Hd):List Value:=[.slice h.A h.n h.c]
def Sets (w:World) (A:Option Addr) (n:Nat) (L:List (List Lb)):Prop:=
 ∃hs:List Hd,Elems w w.heap.size 1 encH A n hs∧L.length=n∧∀(i:Nat) (h:Hd),hs[i]? = some h→Elems w w.heap.size 2 encLb h.A h.n L[i]!∧h.n≤h.c
section
variable {w w' : World} {A : Option Addr} {n : Nat} {L : List (List Lb)}
theorem Sets.len (h:Sets w A n L):L.length=n:=by obtain ⟨_,_,h2,_⟩:=h;exact h2
theorem Sets.at_ (h:Sets w A n L) {i:Nat} (hi:i < n):∃b off B m c,A=some ⟨b,off,none⟩∧b < w.heap.size∧w.cell? ⟨b,off+i,none⟩=some (.slice B m c)∧Elems w w.heap.size 2 encLb B m L[i]!∧m≤c:=by
 obtain ⟨hs,h1,h2,h3⟩:=h;obtain ⟨b,off,e,hb,hc⟩:=h1.2 (by omega);have hl:i < hs.length:=by have:=h1.len;omega
 obtain ⟨a1,a2⟩:=h3 i hs[i] (List.getElem?_eq_getElem hl);have:=hc i hs[i] (List.getElem?_eq_getElem hl) 0 _ rfl;exact ⟨b,off,_,_,_,e,hb,by simpa using this,a1,a2⟩
end
def allT (L:List (List Lb)):List Txt:=L.flatMap texts
theorem Kpi (l:List Lb) (L:List (List Lb)):allT (l :: L)=texts l++allT L:=rfl
theorem Klw (L M:List (List Lb)):allT (L++M)=allT L++allT M:=by simp[allT]
theorem Kgb (l:List Lb):(texts l).length=2*l.length:=by
 induction l with
 | nil=>rfl
 | cons x l ih=>rw[Kix,List.length_cons,List.length_cons,ih,List.length_cons];omega
theorem Qbq (l m:List Lb):texts (l++m)=texts l++texts m:=by simp[texts]
theorem Kzi {L:List (List Lb)} {i:Nat} (h:i < L.length):(texts L[i]!).length≤(allT L).length:=by
 rw[getElem!_pos L i h];have hL:L=L.take i++L[i] :: L.drop (i+1):=by rw[←List.drop_eq_getElem_cons h,List.take_append_drop]
 have e:allT L=allT (L.take i)++(texts L[i]++allT (L.drop (i+1))):=by
  conv=>lhs;rw[hL]
  rw[Klw,Kpi]
 rw[e,Jd,Jd];omega
theorem Kzj {L:List (List Lb)} {i:Nat} (h:i < L.length):allT (L.take (i+1))=allT (L.take i)++texts L[i]!:=by
 rw[List.take_succ_eq_append_getElem h,Klw,getElem!_pos L i h];simp[allT]
theorem Kjc {L:List (List Lb)} (i:Nat):(allT (L.take i)).length≤(allT L).length:=by
 have:allT L=allT (L.take i)++allT (L.drop i):=by rw[←Klw,List.take_append_drop]
 rw[this];simp
theorem Qcc {L:List (List Lb)} {i k:Nat} (h:i < L.length) (hk:k < L[i]!.length):L[i]![k]!.n∈allT L∧L[i]![k]!.v∈allT L:=by
 rw[getElem!_pos L i h] at hk ⊢;rw[getElem!_pos _ k hk];constructor
 ·refine List.mem_flatMap.2 ⟨L[i],List.getElem_mem h,List.mem_flatMap.2 ⟨L[i][k],List.getElem_mem hk,by simp⟩⟩
 ·refine List.mem_flatMap.2 ⟨L[i],List.getElem_mem h,List.mem_flatMap.2 ⟨L[i][k],List.getElem_mem hk,by simp⟩⟩
theorem Kza {l:List Lb} {k:Nat} (h:k < l.length):texts (l.take (k+1))=texts (l.take k) ++ [l[k]!.n] ++ [l[k]!.v]:=by
 rw[List.take_succ_eq_append_getElem h,Qbq,getElem!_pos l k h];simp[texts]
theorem law5:Keyed Tryz.prog 9:=string_keyed Tryz.underlying9
theorem zero5 (w:World):(zeroValue 3).run Tryz.prog w = .ok (.int .i64 0) w:=by kernel_rfl
def Kdw (w:World) (b:Nat) (D:DataW Unit) (l:List Txt):Prop:=w.ownsMap Tryz.prog 9 (plainElem Tryz.prog 3) b l.length D∧∀x:Txt,Maps.has D (.string x)=true↔x∈l
theorem Kdw.put {w w':World} {b:Nat} {D:DataW Unit} {l:List Txt} {x:Txt} {d:DataW Unit} (h:Kdw w b D l) (hown:w'.ownsMap Tryz.prog 9 (plainElem Tryz.prog 3) b (l.length+1) (D.put (.string x) d)):Kdw w' b (D.put (.string x) d) (l ++ [x]):=by
 refine ⟨by rw[Jd];exact hown,fun y=>?_⟩
 by_cases e:y=x
 ·subst e;rw[has_put_same (k:=.string y) (h.1.tidy law5).isMap trivial];simp
 ·rw[has_put_other (by intro h;injection h with h;exact e h),h.2 y];simp[e]
theorem Qdp {D:DataW Unit} {w:World} {b n:Nat} {l ss:List Txt} (hown:w.ownsMap Tryz.prog 9 (plainElem Tryz.prog 3) b n D) (hk:∀x:Txt,Maps.has D (.string x)=true↔x∈l) (hp:ss.Perm (strKeys D)):IsTab l (ss.mergeSort fun x y=>decide (x≤y)):=by
 obtain ⟨es,rfl,hpw⟩:=hown.tidy law5;obtain ⟨es',e',hko⟩:=hown.keysOf;injection e' with e';subst e'
 have hstr:∀p∈es,∃x,p.1 = .string x:=fun p hp=>by
  obtain ⟨v,hv⟩:=hko p hp;obtain ⟨x,_,hx,_⟩:=Maps.keyOf_str Tryz.underlying9 hv;exact ⟨x,hx⟩
 have hnd:(strKeys (.map es)).Nodup:=by
  show (es.map fun p=>strOf p.1).Nodup
  refine List.pairwise_map.2 (hpw.imp_of_mem fun {p q} hp' hq' hne e=>hne ?_);obtain ⟨a,ha⟩:=hstr p hp';obtain ⟨b,hb⟩:=hstr q hq';rw[ha,hb] at e ⊢;exact congrArg _ e
 have hmem:∀x,x∈strKeys (.map es)↔x∈l:=by
  intro x;rw[←hk x,has_eq,List.any_eq_true];show x∈es.map (fun p=>strOf p.1)↔_
  rw[List.mem_map];constructor
  ·rintro ⟨p,hp,rfl⟩;obtain ⟨a,ha⟩:=hstr p hp;exact ⟨p,hp,by rw[ha];simp[strOf,Lit.sameKey]⟩
  ·rintro ⟨p,hp,e⟩;obtain ⟨a,ha⟩:=hstr p hp;rw[ha] at e;exact ⟨p,hp,by rw[ha];simpa[strOf,Lit.sameKey] using e⟩
 have hsorted:(ss.mergeSort fun x y=>decide (x≤y)).Pairwise (fun a b=>a≤b):=by
  have:=List.pairwise_mergeSort (le:=fun x y:Txt=>decide (x≤y)) (by intro a b c;simp;exact List.le_trans) (by intro a b;simp;exact List.le_total a b) ss;simpa using this
 have hperm:=(List.mergeSort_perm ss fun x y=>decide (x≤y)).trans hp;have hnd':=(hperm.nodup_iff).2 hnd;refine ⟨?_,fun x=>?_⟩
 ·unfold Asc;refine (hsorted.and hnd').imp ?_;rintro a b ⟨h1,h2⟩;exact Kqn h1 (Ne.symm h2)
 ·rw[←hmem x];exact hperm.mem_iff
theorem Kdw.below {w w':World} {b:Nat} {D:DataW Unit} {l:List Txt} (h:Kdw w b D l) (hb:Below w.heap.size w w'):Kdw w' b D l:=
 ⟨h.1.kept (row:=none) ⟨hb.os,hb.tape,hb.output,hb.size,fun k hk _=>hb.block k hk⟩ (by simp),h.2⟩
theorem Kpj {w w0 w':World} {B b:Nat} (h:Below B w w0) (hg:w0.grownBy w' (some b)) (hb:B≤b) (hB:B≤w0.heap.size):Below B w w':=
 h.trans ⟨hg.os,hg.tape,hg.output,hg.size,fun k hk=>hg.block k (by omega) (fun e=>by injection e with e;omega)⟩
theorem Kqt (L:List (List Lb)) (A:Option Addr) (n c:Nat) (w:World) (hS:Sets w A n L) (hn:n≤1099511627776) (hall:(allT L).length≤1099511627776) (hz:∀x∈allT L,x.length≤1099511627776) :
  Calls Tryz.prog 39 #[.slice A n c] w (OfOut w (allT L)):=by
 have hmm:=@run_makeMap Tryz.prog;have hL:=hS.len;have HL:=Jh hL;have HZ:=Jh hz;clear hL hz;go_enter Tryz.func39,Tryz.ntmps39
 go_upto_block 0 with fail
 go_cut [3] (fun s3 wz=>∃D,s3 = .map (some w.heap.size)∧Kdw wz w.heap.size D (allT L)∧Below w.heap.size w wz)
 case first=>
  go_wp2_with fail
  go_loopg [11] n (fun g s11 wr=>∃(i:Nat) (D:DataW Unit),i+g=n∧s11 = .int .i64 (i:Int)∧Kdw wr w.heap.size D (allT (L.take i))∧Below w.heap.size w wr)
  case atStart=>exact ⟨0,_,by omega,rfl,⟨World.ownsMap_made _ _ _ _,fun x=>by simp[allT,Maps.has]⟩,(Below.refl _ _).alloc (Nat.le_refl _) _⟩
  case round=>
   obtain ⟨i,D,hig,rfl,hkm,hB⟩:=hrel;have HIG:=Jh hig;clear hig
   by_cases hi:i < n
   ·have el:decide ((i:Int) < (n:Int))=true:=by simp;omega
    have el':decide (i < n)=true:=by simp;omega
    have hiL:i < L.length:=by have:=HL.out;omega
    obtain ⟨b,off,C,m,d,rfl,hbl,hcell,hE,hmd⟩:=hS.at_ hi;have hcr:=(hB.cell (p:=⟨b,off+i,none⟩) hbl).trans hcell;have htl:=Kjc (L:=L) i;have htk:=Kzj hiL;have hpart:=Kzi hiL;have hmem:=fun k hk=>Qcc (L:=L) (i:=i) (k:=k) hiL hk
    obtain ⟨l,hl⟩:∃l,L[i]! = l:=⟨_,rfl⟩;rw[hl] at hE htk hpart hmem;have hll:=hE.len;rw[Kgb,hll] at hpart
    have hsum:(allT (L.take i)).length+2*m≤1099511627776:=by
     have h1:=Kjc (L:=L) (i+1);rw[htk,Jd,Kgb,hll] at h1;omega
    obtain ⟨T,hT⟩:∃T,allT (L.take i)=T:=⟨_,rfl⟩;rw[hT] at hkm htk hsum;have HTK:=Jh htk;have HLL:=Jh hll;have HMEM:=Jh hmem;clear hcell htl htk hmem hl hll hT hiL;go_upto_block 1 with fail
    go_cut [] (fun wz=>∃D,Kdw wz w.heap.size D (T++texts l)∧Below w.heap.size w wz)
    case first=>
     go_wp2_with fail
     go_loopg [17] m (fun g s17 wz=>∃(k:Nat) (D:DataW Unit),k+g=m∧s17 = .int .i64 (k:Int)∧Kdw wz w.heap.size D (T++texts (l.take k))∧Below w.heap.size w wz)
     case atStart=>exact ⟨0,D,by omega,rfl,by simpa[texts] using hkm,hB⟩
     case round=>
      obtain ⟨k,D,hkg,rfl,hkm,hB⟩:=hrel;have HKG:=Jh hkg;clear hkg
      by_cases hk:k < m
      ·have ek:decide ((k:Int) < (m:Int))=true:=by simp;omega
       have ek':decide (k < m)=true:=by simp;omega
       have hkl:k < l.length:=by have:=HLL.out;omega
       obtain ⟨bb,oo,rfl,_,_⟩:=hE.2 (by omega);obtain ⟨hbl2,c0,c1⟩:=Kbu hE (by omega) hB k hkl;obtain ⟨hm1,hm2⟩:=HMEM.out k hkl;have z1:=HZ.out _ hm1;have z2:=HZ.out _ hm2;have htk:=Kza hkl;obtain ⟨x,hx⟩:∃x,l[k]! = x:=⟨_,rfl⟩;rw[hx] at c0 c1 z1 z2 htk;obtain ⟨N,hN⟩:∃N:ByteArray,(⟨x.n.toArray⟩:ByteArray)=N:=⟨_,rfl⟩;obtain ⟨V,hV⟩:∃N:ByteArray,(⟨x.v.toArray⟩:ByteArray)=N:=⟨_,rfl⟩;rw[hN] at c0;rw[hV] at c1;have hNn:N.data.toList=x.n:=by rw[←hN]
       have hVv:V.data.toList=x.v:=by rw[←hV]
       have hNz:N.size≤maxLen:=by rw[←Kak,hNn];unfold maxLen;omega
       have hVz:V.size≤maxLen:=by rw[←Kak,hVv];unfold maxLen;omega
       have kN:=Go.WideMaps.keyOf_string_mk (P:=Tryz.prog) Tryz.underlying9 hNz;have kV:=Go.WideMaps.keyOf_string_mk (P:=Tryz.prog) Tryz.underlying9 hVz;rw[hNn] at kN;rw[hVv] at kV
       have hUl:(T++texts (l.take k)).length+2≤1099511627776:=by
        rw[Jd,Kgb,List.length_take];omega
       obtain ⟨U,hU⟩:∃U,T++texts (l.take k)=U:=⟨_,rfl⟩;have hnext:T++texts (l.take (k+1))=U ++ [x.n] ++ [x.v]:=by rw[htk,←hU];simp
       rw[hU] at hkm hUl;have HNEXT:=Jh hnext;have KN:=Jh kN;have KV:=Jh kV;clear hx hN hV hNn hVv hNz hVz kN kV hU hnext htk hm1 hm2 z1 z2;go_upto_region 8 with fail
       have hB1:Below w.heap.size w (wr.alloc (.cells #[.string N,.string V] 99)):=hB.alloc hB.size _;have hq:Blk (wr.alloc (.cells #[.string N,.string V] 99)) wr.heap.size 99 #[.string N,.string V]:=Blk.new _ _ _;have hkm1:Kdw (wr.alloc (.cells #[.string N,.string V] 99)) w.heap.size D U:=hkm.below ((Below.refl _ _).alloc (Nat.le_refl _) _);have hqne:w.heap.size≠wr.heap.size:=by have:=hkm.1.lt;omega
       obtain ⟨v1,hv1⟩:∃w1,wr.alloc (.cells #[.string N,.string V] 99)=w1:=⟨_,rfl⟩;obtain ⟨q,hqq⟩:∃p,wr.heap.size=p:=⟨_,rfl⟩;rw[hv1] at hB1 hq hkm1 ⊢;rw[hqq] at hq hqne ⊢;clear hv1 hqq c0 c1 hB hkm;have q0:_=some (Value.string N):=hq.cell 0;have q1:_=some (Value.string V):=hq.cell 1;go_wp2_with (at_lookup;refine wpList_lookup_own_int _ rfl _ _ 191 rfl 9 3 .i64 law5 Tryz.underlying191 Tryz.underlying3 (zero5 _) w.heap.size U.length D rfl hkm1.1 _ _ rfl KN.out ?_)
       intro cn _ hwc;go_wp2_with (at_mapUpdate;refine wpList_mapUpdate_own _ rfl _ _ _ 191 rfl 9 3 law5 Tryz.underlying191 _ w.heap.size U.length D rfl hkm1.1 (by unfold maxLen;omega) _ _ _ rfl rfl KN.out _ [] (plainElem_int Tryz.underlying3 (wrap64_wf _)) ?_)
       intro v2 hown2 hgrow2;have hkm2:=hkm1.put hown2;have hq2:=hq.grown hgrow2 (by simpa using Ne.symm hqne);have hB2:=Kpj hB1 hgrow2 (Nat.le_refl _) hB1.size;have q1':_=some (Value.string V):=hq2.cell 1;clear hown2 hgrow2 hkm1 q0 q1 hq hB1;go_wp2_with (at_lookup;refine wpList_lookup_own_int _ rfl _ _ 191 rfl 9 3 .i64 law5 Tryz.underlying191 Tryz.underlying3 (zero5 _) w.heap.size (U ++ [x.n]).length _ rfl hkm2.1 _ _ rfl KV.out ?_)
       intro cv _ hwv;go_wp2_with (at_mapUpdate;refine wpList_mapUpdate_own _ rfl _ _ _ 191 rfl 9 3 law5 Tryz.underlying191 _ w.heap.size (U ++ [x.n]).length _ rfl hkm2.1 (by unfold maxLen;simp;omega) _ _ _ rfl rfl KV.out _ [] (plainElem_int Tryz.underlying3 (wrap64_wf _)) ?_)
       intro v3 hown3 hgrow3;have hkm3:=hkm2.put (by rw[Jd];exact hown3);have hB3:=Kpj hB2 hgrow3 (Nat.le_refl _) hB2.size;clear hown3 hgrow3 hkm2 q1' hq2 hB2;go_wp2_with fail
       go_roundg (gk - 1)
       case measure=>have:=HKG.out;omega
       case rel=>exact ⟨k+1,_,by have:=HKG.out;omega,by go_num,by rw[HNEXT.out];exact hkm3,hB3⟩
      ·have ek:decide ((k:Int) < (m:Int))=false:=by simp;omega
       have ek':decide (k < m)=false:=by simp;omega
       have htk:l.take k=l:=List.take_of_length_le (by have:=HLL.out;omega);rw[htk] at hkm;clear htk;go_wp2_with fail
       go_meet
       exact ⟨D,hkm,hB⟩
    case rest=>
     obtain ⟨D',hkm',hB'⟩:=hcut;obtain ⟨wx,rfl⟩:∃x,x=wc:=⟨_,rfl⟩;go_wp2_with fail
     go_roundg (gk - 1)
     case measure=>have:=HIG.out;omega
     case rel=>exact ⟨i+1,D',by have:=HIG.out;omega,by go_num,by rw[HTK.out];exact hkm',hB'⟩
   ·have el:decide ((i:Int) < (n:Int))=false:=by simp;omega
    have el':decide (i < n)=false:=by simp;omega
    have htk:L.take i=L:=List.take_of_length_le (by have:=HL.out;omega);rw[htk] at hkm;clear htk;go_wp2_with fail
    go_meet
    exact ⟨D,rfl,hkm,hB⟩
 case rest=>
  obtain ⟨D,rfl,hkm,hB⟩:=hcut;obtain ⟨w1,rfl⟩:∃x,x=wc:=⟨_,rfl⟩;have hkeys:=callsIn_wide.1 (Tryz.maps_Keys_108 (some w.heap.size) w1)
  have hsz:Maps.size D≤1099511627776:=by
   obtain ⟨es,clock,_,_,hs,hD⟩:=hkm.1;rw[hD,size_eq,length_sorted,List.length_map,Array.length_toList];omega
  have hsorted:=callsIn_wide.1 (Tryz.slices_Sorted_keys_107_108 w.heap.size (allT L).length D _ w1 hkm.1 (by unfold maxLen;omega) (by omega));have HK:=Jh hkeys;have HSO:=Jh hsorted;clear hkeys hsorted;go_wp2_with fail
  refine HK.out.mono ?_;rintro e w2 ⟨rfl,rfl⟩;go_wp2_with fail
  refine HSO.out.mono ?_;rintro e w3 ⟨v,ss,rfl,hP,hrow,_,hb3⟩;have htab:=Qdp hkm.1 hkm.2 hP;have hB2:Below w.heap.size w (w1.alloc (.cells #[.map (some w.heap.size)] 191)):=hB.alloc hB.size _;have hB3:=then_ hB2 hb3
  have hlen:(ss.mergeSort fun x y=>decide (x≤y)).length≤(allT L).length:=by
   rw[List.length_mergeSort,hP.length_eq];obtain ⟨es,clock,_,_,hs,hD⟩:=hkm.1;rw[hD];show (List.map _ _).length≤_
   rw[List.length_map,length_sorted,List.length_map,Array.length_toList];exact hs
  have hml:(ss.mergeSort fun x y=>decide (x≤y)).length=ss.length:=List.length_mergeSort _;obtain ⟨z,hz⟩:∃z,ss.mergeSort (fun x y=>decide (x≤y))=z:=⟨_,rfl⟩;rw[hz] at htab hlen hml hrow;rw[←hml] at hrow;obtain ⟨A',c',rfl,hs3,_,hc3⟩:=Strs.of_own hrow rfl;obtain ⟨q,hq⟩:∃m,z.length=m:=⟨_,rfl⟩;rw[hq] at hs3 hc3 ⊢;have HLEN:=Jh hlen;clear hz hml hrow hkm hB hb3 hB2 hP hsz hq hlen;go_wp2_with fail
  go_ret
  exact ⟨_,z,rfl,⟨_,q,c',.inr ⟨_,rfl,Blk.new _ _ _⟩,hs3.below ((Below.refl _ _).alloc (Nat.le_refl _) _),hc3⟩,htab,HLEN.out,hB3.alloc hB3.size _,hB3.size⟩
end
section
structure Wnd where
 start:Int
 count:Int
 sum:Nat
 min:Nat
 max:Nat
 last:Nat
def wnd0:Wnd:=⟨0,0,0,0,0,0⟩
def Kgv (w a:Wnd) (first:Bool):Nat:=
 if w.start < 0∨1125899906842624 < w.start then 1 else if first=false∧w.start≤a.start then 2 else if w.count < 1∨4611686018427387904 < w.count then 3 else 0
def WndOk (w:Wnd):Prop:=0≤w.start∧w.start≤1125899906842624∧1≤w.count∧w.count≤4611686018427387904
def Kcs (w:Wnd):Prop:=w.sum < 2 ^ 64∧w.min < 2 ^ 64∧w.max < 2 ^ 64∧w.last < 2 ^ 64
theorem Kva (w a:Wnd) (first:Bool):Kgv w a first=0↔WndOk w∧(first=true∨a.start < w.start):=by
 unfold Kgv WndOk;cases first <;> simp <;> split <;> (try split) <;> (try split) <;> simp <;> omega
def wndT (a w:Wnd):List UInt8:=uintT (w.start - a.start).toNat++uintT w.count.toNat++uintT (w.sum ^^^ a.sum)++uintT (w.min ^^^ a.min)++uintT (w.max ^^^ a.max)++uintT (w.last ^^^ a.last)
def wndsT:Wnd→List Wnd→List UInt8
 | _,[]=>[]
 | a,w :: l=>wndT a w++wndsT w l
def aggT (l:List Wnd):List UInt8:=uintT l.length++wndsT wnd0 l
def Kfi:Wnd→Bool→List Wnd→Bool
 | _,_,[]=>true
 | a,first,w :: l=>decide (Kgv w a first=0) && Kfi w false l
def bitAt (s:List UInt8) (i:Nat):Bool:=(s.getD (i / 8) 0).toNat.testBit (7 - i % 8)
def roomB (s:List UInt8) (n:Nat):List UInt8:=if n % 8=0 then s ++ [0] else s
def pushB (s:List UInt8) (n:Nat) (b:Bool):List UInt8:=
 if b then (roomB s n).set (n / 8) ((roomB s n).getD (n / 8) 0 ||| UInt8.ofNat (128 >>> (n % 8))) else roomB s n
structure Kdf (s:List UInt8) (l:List Bool):Prop where
 len:s.length=(l.length+7) / 8
 bit:∀i,bitAt s i=l.getD i false
theorem Kdf.nil:Kdf [] []:=⟨rfl,fun i=>by simp[bitAt]⟩
theorem Kkg {s:List UInt8} {n:Nat} (h:s.length=(n+7) / 8):(roomB s n).length=n / 8+1:=by
 unfold roomB
 split
 ·rw[List.length_append,List.length_singleton];omega
 ·omega
theorem Kkf {s:List UInt8} {n:Nat} (h:s.length=(n+7) / 8) (i:Nat):bitAt (roomB s n) i=bitAt s i:=by
 unfold roomB
 split
 ·unfold bitAt;congr 2;simp only[List.getD_eq_getElem?_getD]
  by_cases hi:i / 8 < s.length
  ·rw[List.getElem?_append_left hi]
  ·rw[List.getElem?_append_right (by omega),List.getElem?_eq_none (l:=s) (by omega)]
   by_cases h0:i / 8 - s.length=0
   ·rw[h0];rfl
   ·rw[List.getElem?_eq_none (by simp;omega)]
 ·rfl
theorem Qfu (k j:Nat) (hk:k < 8) (hj:j < 8):(UInt8.ofNat (128 >>> k)).toNat.testBit (7 - j)=decide (j=k):=by
 rcases (by omega:k=0∨k=1∨k=2∨k=3∨k=4∨k=5∨k=6∨k=7) with rfl | rfl | rfl | rfl | rfl | rfl | rfl | rfl <;>
 rcases (by omega:j=0∨j=1∨j=2∨j=3∨j=4∨j=5∨j=6∨j=7) with rfl | rfl | rfl | rfl | rfl | rfl | rfl | rfl <;> rfl
theorem Kdf.push {s:List UInt8} {l:List Bool} (h:Kdf s l) (b:Bool):Kdf (pushB s l.length b) (l ++ [b]):=by
 have hr:=Kkg h.len;refine ⟨?_,fun i=>?_⟩
 ·unfold pushB
  split
  ·rw[List.length_set,hr,List.length_append,List.length_singleton];omega
  ·rw[hr,List.length_append,List.length_singleton];omega
 ·have h0:(l ++ [b]).getD i false=if i=l.length then b else l.getD i false:=by
   simp only[List.getD_eq_getElem?_getD]
   by_cases hi:i < l.length
   ·rw[List.getElem?_append_left hi,if_neg (by omega)]
   ·rw[List.getElem?_append_right (by omega)]
    by_cases he:i=l.length
    ·subst he;simp
    ·rw[if_neg he,List.getElem?_eq_none (by simp;omega),List.getElem?_eq_none (by omega)]
  rw[h0,←h.bit i];unfold pushB
  cases b with
  | false=>
   rw[if_neg (by simp),Kkf h.len]
   split
   ·rename_i he
    rw[he,h.bit];simp
   ·rfl
  | true=>
   rw[if_pos rfl]
   by_cases hq:i / 8=l.length / 8
   ·have e1:bitAt ((roomB s l.length).set (l.length / 8) ((roomB s l.length).getD (l.length / 8) 0 ||| UInt8.ofNat (128 >>> (l.length % 8)))) i=(bitAt (roomB s l.length) i || decide (i % 8=l.length % 8)):=by
     unfold bitAt;rw[hq]
     have e2:((roomB s l.length).set (l.length / 8) ((roomB s l.length).getD (l.length / 8) 0 ||| UInt8.ofNat (128 >>> (l.length % 8)))).getD (l.length / 8) 0=((roomB s l.length).getD (l.length / 8) 0 ||| UInt8.ofNat (128 >>> (l.length % 8))):=by
      simp only[List.getD_eq_getElem?_getD];rw[List.getElem?_set_self (by omega)];rfl
     rw[e2,UInt8.toNat_or,Nat.testBit_or,Qfu _ _ (Nat.mod_lt _ (by omega)) (Nat.mod_lt _ (by omega))]
    rw[e1,Kkf h.len]
    by_cases he:i=l.length
    ·rw[if_pos he,he];simp
    ·have:i % 8≠l.length % 8:=by omega
     rw[if_neg he,decide_eq_false this,Bool.or_false]
   ·have e1:bitAt ((roomB s l.length).set (l.length / 8) ((roomB s l.length).getD (l.length / 8) 0 ||| UInt8.ofNat (128 >>> (l.length % 8)))) i=bitAt (roomB s l.length) i:=by
     unfold bitAt;congr 2;simp only[List.getD_eq_getElem?_getD];rw[List.getElem?_set_ne (by omega)]
    rw[e1,Kkf h.len,if_neg (by rintro rfl;exact hq rfl)]
def packFrom (s:List UInt8) (n:Nat):List Bool→List UInt8
 | []=>s
 | b :: l=>packFrom (pushB s n b) (n+1) l
theorem Kdf.packFrom {s:List UInt8} {l:List Bool} (h:Kdf s l):∀k:List Bool,Kdf (packFrom s l.length k) (l++k)
 | []=>by rw[List.append_nil];exact h
 | b :: k=>by
  have:=(h.push b).packFrom k;rw[List.length_append,List.length_singleton,List.append_assoc] at this;exact this
 termination_by k=>k.length
def packB (l:List Bool):List UInt8:=packFrom [] 0 l
theorem Kfp (l:List Bool):Kdf (packB l) l:=Kdf.nil.packFrom l
theorem Qen {a b:UInt8} (h:∀j,j < 8→a.toNat.testBit (7 - j)=b.toNat.testBit (7 - j)):a=b:=by
 apply UInt8.toNat_inj.1;apply Nat.eq_of_testBit_eq;intro i
 by_cases hi:i < 8
 ·have:=h (7 - i) (by omega);rwa[show 7 - (7 - i)=i by omega] at this
 ·have ha:=UInt8.toNat_lt a;have hb:=UInt8.toNat_lt b;have h2:2 ^ 8≤2 ^ i:=Nat.pow_le_pow_right (by omega) (by omega);rw[Nat.testBit_lt_two_pow (by omega),Nat.testBit_lt_two_pow (by omega)]
theorem Kdf.unique {s t:List UInt8} {l:List Bool} (h:Kdf s l) (h':Kdf t l):s=t:=by
 apply List.ext_getElem (h.len.trans h'.len.symm);intro i h1 h2;apply Qen;intro j hj;have a:=h.bit (8*i+j);have b:=h'.bit (8*i+j);rw[←b] at a;unfold bitAt at a;rw[show (8*i+j) / 8=i by omega,show (8*i+j) % 8=j by omega] at a;simpa[List.getD_eq_getElem?_getD,List.getElem?_eq_getElem h1,List.getElem?_eq_getElem h2] using a
theorem Knl (l:List Bool) (b:Bool):packB (l ++ [b])=pushB (packB l) l.length b:=(Kfp (l ++ [b])).unique ((Kfp l).push b)
def putN (v:Nat):Nat→List Bool
 | 0=>[]
 | n+1=>v.testBit n :: putN v n
theorem Kbg (v:Nat):∀n,(putN v n).length=n
 | 0=>rfl
 | n+1=>by rw[putN,List.length_cons,Kbg v n]
structure Smp where
 t:Int
 v:Nat
structure Cst where
 n:Nat
 last:Smp
 step:Int
 lead:Nat
 tail:Nat
 window:Bool
def cst0:Cst:=⟨0,⟨0,0⟩,0,0,0,false⟩
def u64N (c:Int):Nat:=(c % 18446744073709551616).toNat
def Kcn (c:Int):List Bool:=
 if c=0 then [false] else
 if -64≤c∧c < 64 then putN 2 2++putN (u64N c) 7 else
 if -256≤c∧c < 256 then putN 6 3++putN (u64N c) 9 else
 if -2048≤c∧c < 2048 then putN 14 4++putN (u64N c) 12 else putN 15 4++putN (u64N c) 64
def clzN (x:Nat):Nat:=64 - (if x=0 then 0 else x.log2+1)
def ctzF (x:Nat):Nat→Nat
 | 0=>0
 | f+1=>if x % 2=1 then 0 else ctzF (x / 2) f+1
def ctzN (x:Nat):Nat:=ctzF x 64
def Kbl (c:Cst) (x:Nat):List Bool×Cst:=
 if x=0 then ([false],c) else
 if c.window=true∧c.lead≤min (clzN x) 31∧c.tail≤ctzN x then (putN 2 2++putN (x >>> c.tail) (64 - c.lead - c.tail),c) else
 (putN 3 2++putN (min (clzN x) 31) 5++putN (63 - min (clzN x) 31 - ctzN x) 6++putN (x >>> ctzN x) (64 - min (clzN x) 31 - ctzN x),{ c with lead:=min (clzN x) 31,tail:=ctzN x,window:=true })
def Kbn (c:Cst) (s:Smp):List Bool×Cst:=
 if c.n=0 then (putN (u64N s.t) 64++putN s.v 64,{ c with n:=1,last:=s }) else
 (Kcn (s.t - c.last.t - c.step)++(Kbl { c with step:=s.t - c.last.t } (s.v ^^^ c.last.v)).1,{ (Kbl { c with step:=s.t - c.last.t } (s.v ^^^ c.last.v)).2 with last:=s,n:=c.n+1 })
def Kbv:Cst→List Smp→List Bool
 | _,[]=>[]
 | c,s :: l=>(Kbn c s).1++Kbv (Kbn c s).2 l
theorem Qfv {x:Nat} (h0:x≠0) (h:x < 2 ^ 64):clzN x≤63∧x < 2 ^ (64 - clzN x):=by
 unfold clzN;rw[if_neg h0];have h1:=(Nat.log2_lt h0).2 h;refine ⟨by omega,?_⟩;rw[show 64 - (64 - (x.log2+1))=x.log2+1 by omega];exact Nat.lt_log2_self
theorem Kjs:∀(f x:Nat),x≠0→x < 2 ^ f→2 ^ ctzF x f ∣ x∧ctzF x f < f∧(x >>> ctzF x f) % 2=1
 | 0,x,h0,h=>by simp at h;omega
 | f+1,x,h0,h=>by
  rw[ctzF]
  by_cases hx:x % 2=1
  ·rw[if_pos hx];exact ⟨by simp,by omega,by simpa using hx⟩
  ·rw[if_neg hx];obtain ⟨⟨q,hq⟩,h2,h3⟩:=Kjs f (x / 2) (by omega) (by rw[Nat.pow_succ] at h;omega);refine ⟨⟨q,?_⟩,by omega,?_⟩
   ·rw[Nat.pow_succ,Nat.mul_right_comm,←hq];omega
   ·rw[Nat.shiftRight_succ_inside];exact h3
theorem Qcu {x:Nat} (h0:x≠0) (h:x < 2 ^ 64):2 ^ ctzN x ∣ x∧ctzN x < 64:=⟨(Kjs 64 x h0 h).1,(Kjs 64 x h0 h).2.1⟩
theorem Kwo {x:Nat} (h0:x≠0) (h:x < 2 ^ 64):clzN x+ctzN x≤63:=by
 obtain ⟨h1,h2⟩:=Qfv h0 h;obtain ⟨⟨q,hq⟩,h4⟩:=Qcu h0 h;have hle:2 ^ ctzN x≤x:=Nat.le_of_dvd (by omega) ⟨q,hq⟩;have:2 ^ ctzN x < 2 ^ (64 - clzN x):=Nat.lt_of_le_of_lt hle h2;have:=(Nat.pow_lt_pow_iff_right (by omega:1 < 2)).1 this;omega
def Cst.Ok (c:Cst):Prop:=c.lead≤31∧c.lead+c.tail≤63
theorem Cst.ok0:cst0.Ok:=⟨by decide,by decide⟩
theorem Kzu {c:Cst} (h:c.Ok) {x:Nat} (hx:x < 2 ^ 64):(Kbl c x).2.Ok:=by
 unfold Kbl
 split
 ·exact h
 ·rename_i h0
  split
  ·exact h
  ·have:=Kwo h0 hx;exact ⟨Nat.min_le_right _ _,by show min (clzN x) 31+ctzN x≤63;omega⟩
end
section
open Go.RowKit
def SmpOk (s:Smp):Prop:=0≤s.t∧s.t≤1125899906842624∧s.v < 2 ^ 64
def Rises:List Smp→Prop
 | []=>True
 | [_]=>True
 | a :: b :: l=>a.t < b.t∧Rises (b :: l)
structure Cst.Good (c:Cst):Prop where
 ok:c.Ok
 t0:0≤c.last.t
 t1:c.last.t≤1125899906842624
 v:c.last.v < 2 ^ 64
 s0:-1125899906842624≤c.step
 s1:c.step≤1125899906842624
theorem Cst.good0:cst0.Good:=⟨Cst.ok0,by decide,by decide,by decide,by decide,by decide⟩
theorem Cst.Ok.step {c:Cst} (h:c.Ok) (z:Int):Cst.Ok { c with step:=z }:=h
theorem Kuy (c:Cst) (x:Nat):(Kbl c x).2.step=c.step:=by
 unfold Kbl
 split
 ·rfl
 ·split <;> rfl
theorem Kwc {c:Cst} (h:c.Good) {s:Smp} (hs:SmpOk s):(Kbn c s).2.Good:=by
 unfold Kbn
 split
 ·exact ⟨h.ok,hs.1,hs.2.1,hs.2.2,h.s0,h.s1⟩
 ·have hx:s.v ^^^ c.last.v < 2 ^ 64:=Nat.xor_lt_two_pow hs.2.2 h.v;have hd:=Kzu (h.ok.step (s.t - c.last.t)) hx;have hst:=Kuy { c with step:=s.t - c.last.t } (s.v ^^^ c.last.v);dsimp only at hst;refine ⟨hd,hs.1,hs.2.1,hs.2.2,?_,?_⟩
  ·show _≤(Kbl { c with step:=s.t - c.last.t } (s.v ^^^ c.last.v)).2.step
   rw[hst];have:=hs.1;have:=h.t1;omega
  ·show (Kbl { c with step:=s.t - c.last.t } (s.v ^^^ c.last.v)).2.step≤_
   rw[hst];have:=hs.2.1;have:=h.t0;omega
theorem Khn (c:Cst) (s:Smp):(Kbn c s).2.n=c.n+1∧(Kbn c s).2.last=s:=by
 unfold Kbn
 split
 ·rename_i h
  exact ⟨by rw[h],rfl⟩
 ·exact ⟨rfl,rfl⟩
end
section
def Qej (l:List Smp):Prop:=(∀x∈l,SmpOk x)∧Rises l∧l.length≤120
def Kcz (l:List Smp):List UInt8:=uintT l.length++packB (Kbv cst0 l)
def fitC:Option Smp→Nat→List Smp→Bool
 | _,_,[]=>true
 | prev,n,x :: l=>decide (0≤x.t) && decide (x.t≤1125899906842624) && (match prev with | none=>true | some y=>decide (y.t < x.t)) && decide (n < 120) && fitC (some x) (n+1) l
theorem Kys {x:Smp}:∀{l:List Smp},Rises (x :: l)↔(∀y,l.head? = some y→x.t < y.t)∧Rises l
 | []=>⟨fun _=>⟨fun y h=>(by cases h),trivial⟩,fun _=>trivial⟩
 | z :: l=>⟨fun h=>⟨fun y hy=>(by obtain rfl:=Option.some.inj hy;exact h.1),h.2⟩,fun h=>⟨h.1 z rfl,h.2⟩⟩
theorem Ksj:∀(l:List Smp) (prev:Option Smp) (n:Nat),fitC prev n l=true↔(∀x∈l,0≤x.t∧x.t≤1125899906842624)∧Rises l∧(∀y x,prev=some y→l.head? = some x→y.t < x.t)∧(l = []∨n+l.length≤120)
 | [],prev,n=>by simp[fitC,Rises]
 | x :: l,prev,n=>by
  have ih:=Ksj l (some x) (n+1);rw[show fitC prev n (x :: l)=(decide (0≤x.t) && decide (x.t≤1125899906842624) && (match prev with | none=>true | some y=>decide (y.t < x.t)) && decide (n < 120) && fitC (some x) (n+1) l) from by cases prev <;> rfl,Bool.and_eq_true,ih,Kys];simp only[Bool.and_eq_true,decide_eq_true_eq,List.mem_cons,forall_eq_or_imp,List.length_cons,reduceCtorEq,false_or,List.head?_cons,Option.some.injEq];constructor
  ·rintro ⟨⟨⟨⟨h1,h2⟩,h3⟩,h4⟩,h5,h6,h7,h8⟩;refine ⟨⟨⟨h1,h2⟩,h5⟩,⟨fun y hy=>h7 x y rfl hy,h6⟩,?_,?_⟩
   ·rintro y _ rfl rfl;simpa using h3
   ·rcases h8 with rfl | h8
    ·simp;omega
    ·omega
  ·rintro ⟨⟨⟨h1,h2⟩,h5⟩,⟨h7,h6⟩,h3,h8⟩;refine ⟨⟨⟨⟨h1,h2⟩,?_⟩,by omega⟩,h5,h6,?_,.inr (by omega)⟩
   ·cases prev with
    | none=>rfl
    | some y=>simpa using h3 y x rfl rfl
   ·rintro y z hy hz;exact hy▸h7 z hz
def cmpL:List Lb→List Lb→Int
 | [],[]=>0
 | [],_ :: _=>-1
 | _ :: _,[]=>1
 | x :: a,y :: b=>if x.n < y.n then -1 else if y.n < x.n then 1 else if x.v < y.v then -1 else if y.v < x.v then 1 else cmpL a b
theorem Ked {a b:Txt} (h1:¬a < b) (h2:¬b < a):a=b:=List.le_antisymm (List.not_lt.1 h2) (List.not_lt.1 h1)
theorem Kdk:∀a:List Lb,cmpL a a=0
 | []=>rfl
 | x :: a=>by
  have h1:¬x.n < x.n:=List.lt_irrefl _;have h2:¬x.v < x.v:=List.lt_irrefl _;rw[cmpL,if_neg h1,if_neg h1,if_neg h2,if_neg h2,Kdk a]
theorem Kdz:∀{a b:List Lb},cmpL a b=0→a=b
 | [],[],_=>rfl
 | [],_ :: _,h=>by simp[cmpL] at h
 | _ :: _,[],h=>by simp[cmpL] at h
 | x :: a,y :: b,h=>by
  rw[cmpL] at h
  split at h
  ·simp at h
  ·rename_i h1
   split at h
   ·simp at h
   ·rename_i h2
    split at h
    ·simp at h
    ·rename_i h3
     split at h
     ·simp at h
     ·rename_i h4
      have e1:=Ked h1 h2;have e2:=Ked h3 h4;rw[Kdz h];cases x;cases y
      simp_all
theorem Kdy:∀a b:List Lb,cmpL a b = -cmpL b a
 | [],[]=>rfl
 | [],_ :: _=>rfl
 | _ :: _,[]=>rfl
 | x :: a,y :: b=>by
  rw[cmpL,cmpL]
  by_cases h1:x.n < y.n
  ·have h2:¬y.n < x.n:=List.lt_asymm h1;rw[if_pos h1,if_neg h2,if_pos h1]
  ·rw[if_neg h1]
   by_cases h2:y.n < x.n
   ·rw[if_pos h2,if_pos h2];rfl
   ·rw[if_neg h2,if_neg h2,if_neg h1]
    by_cases h3:x.v < y.v
    ·have h4:¬y.v < x.v:=List.lt_asymm h3;rw[if_pos h3,if_neg h4,if_pos h3]
    ·rw[if_neg h3]
     by_cases h4:y.v < x.v
     ·rw[if_pos h4,if_pos h4];rfl
     ·rw[if_neg h4,if_neg h4,if_neg h3,Kdy a b]
def ltB (x y:Lb):Prop:=x.n < y.n∨(x.n=y.n∧x.v < y.v)
theorem Kew {x y z:Lb} (h1:ltB x y) (h2:ltB y z):ltB x z:=by
 rcases h1 with h1 | ⟨e1,h1⟩
 ·rcases h2 with h2 | ⟨e2,_⟩
  ·exact .inl (List.lt_trans h1 h2)
  ·exact .inl (e2▸h1)
 ·rcases h2 with h2 | ⟨e2,h2⟩
  ·exact .inl (e1▸h2)
  ·exact .inr ⟨e1.trans e2,List.lt_trans h1 h2⟩
theorem Ksd {x y:Lb} {a b:List Lb}:cmpL (x :: a) (y :: b) < 0↔ltB x y∨(x=y∧cmpL a b < 0):=by
 rw[cmpL];unfold ltB
 by_cases h1:x.n < y.n
 ·rw[if_pos h1];exact ⟨fun _=>.inl (.inl h1),fun _=>by decide⟩
 ·rw[if_neg h1]
  by_cases h2:y.n < x.n
  ·rw[if_pos h2];refine ⟨fun h=>by simp at h,?_⟩;rintro ((h | ⟨e,_⟩) | ⟨e,_⟩)
   ·exact absurd h h1
   ·rw[e] at h2;exact absurd h2 (List.lt_irrefl _)
   ·rw[e] at h2;exact absurd h2 (List.lt_irrefl _)
  ·rw[if_neg h2];have en:=Ked h1 h2
   by_cases h3:x.v < y.v
   ·rw[if_pos h3];exact ⟨fun _=>.inl (.inr ⟨en,h3⟩),fun _=>by decide⟩
   ·rw[if_neg h3]
    by_cases h4:y.v < x.v
    ·rw[if_pos h4];refine ⟨fun h=>by simp at h,?_⟩;rintro ((h | ⟨_,h⟩) | ⟨e,_⟩)
     ·exact absurd h h1
     ·exact absurd h h3
     ·rw[e] at h4;exact absurd h4 (List.lt_irrefl _)
    ·rw[if_neg h4];have ev:=Ked h3 h4;have exy:x=y:=by cases x;cases y;simp_all
     constructor
     ·exact fun h=>.inr ⟨exy,h⟩
     ·rintro ((h | ⟨_,h⟩) | ⟨_,h⟩)
      ·exact absurd h h1
      ·exact absurd h h3
      ·exact h
theorem Kdm:∀{a b c:List Lb},cmpL a b < 0→cmpL b c < 0→cmpL a c < 0
 | [],[],_,h,_=>by simp[cmpL] at h
 | [],_ :: _,[],_,h=>by simp[cmpL] at h
 | [],_ :: _,_ :: _,_,_=>by simp[cmpL]
 | _ :: _,[],_,h,_=>by simp[cmpL] at h
 | _ :: _,_ :: _,[],_,h=>by simp[cmpL] at h
 | x :: a,y :: b,z :: c,h1,h2=>by
  rw[Ksd] at h1 h2 ⊢;rcases h1 with h1 | ⟨e1,h1⟩
  ·rcases h2 with h2 | ⟨e2,_⟩
   ·exact .inl (Kew h1 h2)
   ·exact .inl (e2▸h1)
  ·rcases h2 with h2 | ⟨e2,h2⟩
   ·exact .inl (e1▸h2)
   ·exact .inr ⟨e1.trans e2,Kdm h1 h2⟩
structure Ser where
 labels:List Lb
 samples:List Smp
 windows:List Wnd
structure Cont where
 res:Int
 frm:Int
 to_:Int
 series:List Ser
def riseI:List Int→Bool
 | []=>true
 | [_]=>true
 | a :: b :: l=>decide (a < b) && riseI (b :: l)
def Kdj (f t:Int) (l:List Int):Bool:=decide (l≠[]) && l.all (fun x=>decide (f≤x) && decide (x < t)) && riseI l
def Kek (c:Cont) (s:Ser):Bool:=
 if c.res=0 then decide (s.windows.length=0) && Kdj c.frm c.to_ (s.samples.map Smp.t)
 else Kfi wnd0 true s.windows && decide (s.samples.length=0) && Kdj c.frm c.to_ (s.windows.map Wnd.start)
end
section
open Go.RowKit
def Kad (x:Smp):List Value:=[.int .i64 x.t,.int .u64 (x.v:Int)]
def Kai (x:Wnd):List Value:=[.int .i64 x.start,.int .i64 x.count,.int .u64 (x.sum:Int),.int .u64 (x.min:Int),.int .u64 (x.max:Int),.int .u64 (x.last:Int)]
instance smpIn:Inhabited Smp:=⟨⟨0,0⟩⟩
instance wndIn:Inhabited Wnd:=⟨wnd0⟩
instance serIn:Inhabited Ser:=⟨⟨[],[],[]⟩⟩
structure Hd3 where
 l:Hd
 s:Hd
 w:Hd
instance hd3In:Inhabited Hd3:=⟨⟨default,default,default⟩⟩
def encH3 (h:Hd3):List Value:=[.slice h.l.A h.l.n h.l.c,.slice h.s.A h.s.n h.s.c,.slice h.w.A h.w.n h.w.c]
structure SerAt (w:World) (h:Hd3) (x:Ser):Prop where
 l:Elems w w.heap.size 2 encLb h.l.A h.l.n x.labels
 lc:h.l.n≤h.l.c
 s:Elems w w.heap.size 2 Kad h.s.A h.s.n x.samples
 sc:h.s.n≤h.s.c
 w:Elems w w.heap.size 6 Kai h.w.A h.w.n x.windows
 wc:h.w.n≤h.w.c
theorem SerAt.below {w w':World} {h:Hd3} {x:Ser} (hs:SerAt w h x) (hb:Below w.heap.size w w'):SerAt w' h x:=
 ⟨(hs.l.below hb).more hb.size,hs.lc,(hs.s.below hb).more hb.size,hs.sc,(hs.w.below hb).more hb.size,hs.wc⟩
def Sers (w:World) (A:Option Addr) (n:Nat) (L:List Ser):Prop:=
 ∃hs:List Hd3,Elems w w.heap.size 3 encH3 A n hs∧L.length=n∧∀(i:Nat) (h:Hd3),hs[i]? = some h→SerAt w h L[i]!
section
variable {w w' : World} {A : Option Addr} {n : Nat} {L : List Ser}
theorem Sers.below (h:Sers w A n L) (hb:Below w.heap.size w w'):Sers w' A n L:=by
 obtain ⟨hs,h1,h2,h3⟩:=h;exact ⟨hs,(h1.below hb).more hb.size,h2,fun i x hx=>(h3 i x hx).below hb⟩
theorem Sers.len (h:Sers w A n L):L.length=n:=by obtain ⟨_,_,h2,_⟩:=h;exact h2
theorem Sers.nil (w:World):Sers w none 0 []:=⟨[],Elems.nil_,rfl,fun i h hi=>by simp at hi⟩
theorem Sers.at_ (h:Sers w A n L) {i:Nat} (hi:i < n):∃b off x,A=some ⟨b,off,none⟩∧b < w.heap.size∧
  w.cell? ⟨b,off+i*3,none⟩=some (.slice x.l.A x.l.n x.l.c)∧w.cell? ⟨b,off+i*3+1,none⟩=some (.slice x.s.A x.s.n x.s.c)∧w.cell? ⟨b,off+i*3+2,none⟩=some (.slice x.w.A x.w.n x.w.c)∧SerAt w x L[i]!:=by
 obtain ⟨hs,h1,h2,h3⟩:=h;obtain ⟨b,off,e,hb,hc⟩:=h1.2 (by omega);have hl:i < hs.length:=by have:=h1.len;omega
 have a1:=h3 i hs[i] (List.getElem?_eq_getElem hl);have c0:=hc i hs[i] (List.getElem?_eq_getElem hl) 0 _ rfl;have c1:=hc i hs[i] (List.getElem?_eq_getElem hl) 1 _ rfl;have c2:=hc i hs[i] (List.getElem?_eq_getElem hl) 2 _ rfl;exact ⟨b,off,hs[i],e,hb,by simpa using c0,c1,c2,a1⟩
end
end
section
theorem Kep (x:Smp):(Kad x).length=2:=rfl
theorem Ket (x:Wnd):(Kai x).length=6:=rfl
theorem Kcc (x:Hd3):(encH3 x).length=3:=rfl
theorem Kis:∀x:Smp,∀v∈Kad x,v.oneCell'=true:=by
 intro s v hv;simp only[Kad,List.mem_cons,List.not_mem_nil,or_false] at hv;rcases hv with rfl | rfl <;> rfl
theorem Kiz:∀x:Wnd,∀v∈Kai x,v.oneCell'=true:=by
 intro s v hv;simp only[Kai,List.mem_cons,List.not_mem_nil,or_false] at hv;rcases hv with rfl | rfl | rfl | rfl | rfl | rfl <;> rfl
theorem Kop:∀x:Hd3,∀v∈encH3 x,v.oneCell'=true:=by
 intro s v hv;simp only[encH3,List.mem_cons,List.not_mem_nil,or_false] at hv;rcases hv with rfl | rfl | rfl <;> rfl
section
variable {α : Type} (k : α → Int)
structure Kaw (xs l:List α):Prop where
 asc:l.Pairwise fun a b=>k a < k b
 mem:∀x,x∈l↔xs.find? (fun y=>k y == k x)=some x
theorem Kig:∀{a b:List α},(a.Pairwise fun x y=>k x < k y)→(b.Pairwise fun x y=>k x < k y)→(∀x,x∈a↔x∈b)→a=b
 | [],[],_,_,_=>rfl
 | [],y :: b,_,_,h=>absurd ((h y).2 (List.mem_cons_self ..)) (by simp)
 | x :: a,[],_,_,h=>absurd ((h x).1 (List.mem_cons_self ..)) (by simp)
 | x :: a,y :: b,ha,hb,h=>by
  obtain ⟨a1,a2⟩:=List.pairwise_cons.1 ha;obtain ⟨b1,b2⟩:=List.pairwise_cons.1 hb
  have hxy:x=y:=by
   have h1:=(h x).1 (List.mem_cons_self ..);have h2:=(h y).2 (List.mem_cons_self ..);rcases List.mem_cons.1 h1 with e | h1
   ·exact e
   ·rcases List.mem_cons.1 h2 with e | h2
    ·exact e.symm
    ·have:=b1 x h1;have:=a1 y h2;omega
  subst hxy;congr 1;refine Kig a2 b2 fun z=>⟨fun hz=>?_,fun hz=>?_⟩
  ·rcases List.mem_cons.1 ((h z).1 (List.mem_cons_of_mem _ hz)) with e | hz2
   ·subst e;exact absurd (a1 z hz) (Int.lt_irrefl _)
   ·exact hz2
  ·rcases List.mem_cons.1 ((h z).2 (List.mem_cons_of_mem _ hz)) with e | hz2
   ·subst e;exact absurd (b1 z hz) (Int.lt_irrefl _)
   ·exact hz2
theorem Kaw.unique {xs a b:List α} (ha:Kaw k xs a) (hb:Kaw k xs b):a=b:=
 Kig k ha.asc hb.asc fun x=>(ha.mem x).trans (hb.mem x).symm
theorem Kaw.nil:Kaw k ([]:List α) []:=⟨List.Pairwise.nil,fun x=>by simp⟩
def insO (x:α):List α→List α
 | []=>[x]
 | y :: l=>if k x < k y then x :: y :: l else if k x=k y then y :: l else y :: insO x l
theorem Kmf (x:α):∀{l:List α},(l.Pairwise fun a b=>k a < k b)→∀z,z∈insO k x l↔z∈l∨(z=x∧∀y∈l,k y≠k x)
 | [],_,z=>by simp[insO]
 | y :: l,h,z=>by
  obtain ⟨h1,h2⟩:=List.pairwise_cons.1 h;unfold insO
  split
  ·rename_i hlt
   constructor
   ·intro hz;rcases List.mem_cons.1 hz with e | hz
    ·refine .inr ⟨e,fun w hw=>?_⟩;rcases List.mem_cons.1 hw with rfl | hw
     ·omega
     ·have:=h1 w hw;omega
    ·exact .inl hz
   ·rintro (hz | ⟨rfl,_⟩)
    ·exact List.mem_cons_of_mem _ hz
    ·exact List.mem_cons_self ..
  ·split
   ·rename_i he
    constructor
    ·exact .inl
    ·rintro (hz | ⟨rfl,hz⟩)
     ·exact hz
     ·exact absurd he.symm (hz y (List.mem_cons_self ..))
   ·rename_i hn he
    rw[List.mem_cons,Kmf x h2 z,List.mem_cons];constructor
    ·rintro (rfl | hz | ⟨rfl,hz⟩)
     ·exact .inl (.inl rfl)
     ·exact .inl (.inr hz)
     ·refine .inr ⟨rfl,fun w hw=>?_⟩;rcases List.mem_cons.1 hw with rfl | hw
      ·exact fun e=>he e.symm
      ·exact hz w hw
    ·rintro ((rfl | hz) | ⟨rfl,hz⟩)
     ·exact .inl rfl
     ·exact .inr (.inl hz)
     ·exact .inr (.inr ⟨rfl,fun w hw=>hz w (List.mem_cons_of_mem _ hw)⟩)
theorem Ksp (x:α):∀{l:List α},(l.Pairwise fun a b=>k a < k b)→(insO k x l).Pairwise fun a b=>k a < k b
 | [],_=>List.pairwise_singleton _ _
 | y :: l,h=>by
  obtain ⟨h1,h2⟩:=List.pairwise_cons.1 h;unfold insO
  split
  ·rename_i hlt
   refine List.pairwise_cons.2 ⟨fun w hw=>?_,h⟩;rcases List.mem_cons.1 hw with rfl | hw
   ·exact hlt
   ·have:=h1 w hw;omega
  ·split
   ·exact h
   ·rename_i hn he
    refine List.pairwise_cons.2 ⟨fun w hw=>?_,Ksp x h2⟩;rcases (Kmf k x h2 w).1 hw with hw | ⟨rfl,_⟩
    ·exact h1 w hw
    ·omega
theorem Kaw.snoc {xs l:List α} (h:Kaw k xs l) (x:α):Kaw k (xs ++ [x]) (insO k x l):=by
 refine ⟨Ksp k x h.asc,fun z=>?_⟩;rw[Kmf k x h.asc z,List.find?_append];constructor
 ·rintro (hz | ⟨rfl,hz⟩)
  ·rw[(h.mem z).1 hz];rfl
  ·cases hf:xs.find? (fun y=>k y == k z) with
   | none=>simp
   | some w=>
    have hk:k w=k z:=by simpa using List.find?_some hf
    have hw:w∈l:=by
     rw[h.mem w,hk];exact hf
    exact absurd hk (hz w hw)
 ·intro hz
  cases hf:xs.find? (fun y=>k y == k z) with
  | some w=>
   rw[hf] at hz;have:w=z:=by simpa using hz
   subst this;exact .inl ((h.mem w).2 hf)
  | none=>
   rw[hf] at hz;have hzx:k x=k z∧x=z:=by simpa using hz
   refine .inr ⟨hzx.2.symm,fun y hy e=>?_⟩;have h1:=(h.mem y).1 hy;have h2:k y=k z:=e.trans hzx.1;rw[h2,hf] at h1;cases h1
theorem Kfs:∀(xs ys l:List α),Kaw k ys l→Kaw k (ys++xs) (xs.foldl (fun a x=>insO k x a) l)
 | [],ys,l,h=>by rw[List.append_nil];exact h
 | x :: xs,ys,l,h=>by
  have:=Kfs xs (ys ++ [x]) _ (h.snoc k x);rw[List.append_assoc] at this;exact this
end
section
variable {α : Type} (k : α → Int)
def compO:List α→List α
 | []=>[]
 | [x]=>[x]
 | x :: y :: l=>if k x=k y then compO (x :: l) else x :: compO (y :: l)
 termination_by l=>l.length
theorem Kij:∀(n:Nat) (ys:List α),ys.length≤n→(ys.Pairwise fun a b=>k a≤k b)→Kaw k ys (compO k ys)
 | _,[],_,_=>by rw[compO];exact Kaw.nil k
 | _,[x],_,_=>by
  rw[compO];refine ⟨List.pairwise_singleton _ _,fun z=>?_⟩;simp only[List.mem_singleton,List.find?_cons,List.find?_nil];constructor
  ·rintro rfl;simp
  ·intro h
   split at h
   ·exact (Option.some.inj h).symm
   ·cases h
 | 0,x :: y :: l,hn,_=>by simp at hn
 | n+1,x :: y :: l,hn,hp=>by
  obtain ⟨h1,h2⟩:=List.pairwise_cons.1 hp;obtain ⟨h3,h4⟩:=List.pairwise_cons.1 h2;rw[compO]
  by_cases he:k x=k y
  ·rw[if_pos he];have ih:=Kij n (x :: l) (by simp only[List.length_cons] at hn ⊢;omega) (List.pairwise_cons.2 ⟨fun z hz=>h1 z (List.mem_cons_of_mem _ hz),h4⟩);refine ⟨ih.asc,fun z=>?_⟩;rw[ih.mem z];simp only[List.find?_cons]
   by_cases hz:k x=k z
   ·rw[show (k x == k z)=true by simpa using hz]
   ·rw[show (k x == k z)=false by simpa using hz,show (k y == k z)=false by simpa using (he▸hz)]
  ·rw[if_neg he];have hlt:k x < k y:=by have:=h1 y (List.mem_cons_self ..);omega
   have ih:=Kij n (y :: l) (by simp only[List.length_cons] at hn ⊢;omega) h2
   have hge:∀z∈compO k (y :: l),k x < k z:=fun z hz=>by
    have h5:=(ih.mem z).1 hz;have h6:=List.mem_of_find?_eq_some h5;rcases List.mem_cons.1 h6 with rfl | h6
    ·exact hlt
    ·have:=h3 z h6;omega
   refine ⟨List.pairwise_cons.2 ⟨hge,ih.asc⟩,fun z=>?_⟩;rw[List.mem_cons,ih.mem z,List.find?_cons (a:=x)]
   by_cases hz:k x=k z
   ·rw[show (k x == k z)=true by simpa using hz];constructor
    ·rintro (rfl | h)
     ·rfl
     ·have:=hge z ((ih.mem z).2 h);omega
    ·intro h;exact .inl (Option.some.inj h).symm
   ·rw[show (k x == k z)=false by simpa using hz];constructor
    ·rintro (rfl | h)
     ·exact absurd rfl hz
     ·exact h
    ·exact .inr
theorem Kli (xs:List α) (t:Int):xs.find? (fun y=>k y == t)=(xs.filter fun y=>k y == t).head?:=by
 induction xs with
 | nil=>rfl
 | cons x xs ih=>
  rw[List.find?_cons,List.filter_cons]
  cases hx:k x == t with
  | true=>simp
  | false=>simp
theorem Qat {xs ys:List α} (hp:ys.Pairwise fun a b=>k a≤k b) (hs:∀t,(ys.filter fun y=>k y == t)=xs.filter fun y=>k y == t):Kaw k xs (compO k ys):=by
 have h:=Kij k ys.length ys (Nat.le_refl _) hp;refine ⟨h.asc,fun x=>?_⟩;rw[h.mem x,Kli,Kli,hs]
end
def lastS (gs:List Ser):Ser:=gs[gs.length - 1]!
def openG (gs:List Ser) (s:Ser):List Ser:=if gs = []∨cmpL (lastS gs).labels s.labels≠0 then gs ++ [⟨s.labels,[],[]⟩] else gs
def addG (gs:List Ser) (s:Ser):List Ser:=gs.set (gs.length - 1) ⟨(lastS gs).labels,(lastS gs).samples++s.samples,(lastS gs).windows++s.windows⟩
def stepG (gs:List Ser) (s:Ser):List Ser:=addG (openG gs s) s
def grpG (l:List Ser):List Ser:=l.foldl stepG []
def sumS (l:List Ser):Nat:=(l.map fun s=>s.samples.length+s.windows.length).sum
theorem Kqa (gs:List Ser) (s:Ser):0 < (openG gs s).length:=by
 unfold openG
 split
 ·simp
 ·rename_i h
  cases gs with
  | nil=>simp at h
  | cons x l=>simp
theorem Kiu (a b:List Ser):sumS (a++b)=sumS a+sumS b:=by unfold sumS;simp
theorem Kko (gs:List Ser) (s:Ser):sumS (openG gs s)=sumS gs:=by
 unfold openG
 split
 ·rw[Kiu];simp[sumS]
 ·rfl
theorem Kdo:∀(gs:List Ser) (k:Nat) (x:Ser),k < gs.length→sumS (gs.set k x)+(gs[k]!.samples.length+gs[k]!.windows.length)=sumS gs+(x.samples.length+x.windows.length)
 | [],k,x,h=>by simp at h
 | y :: l,0,x,_=>by simp[sumS];omega
 | y :: l,k+1,x,h=>by
  have ih:=Kdo l k x (by simpa using h);simp only[List.set_cons_succ,sumS,List.map_cons,List.sum_cons] at ih ⊢;rw[show (y :: l)[k+1]! = l[k]! by simp];omega
theorem Qdx {gs:List Ser} (h:0 < gs.length) (s:Ser):sumS (addG gs s)=sumS gs+(s.samples.length+s.windows.length):=by
 have:=Kdo gs (gs.length - 1) ⟨(lastS gs).labels,(lastS gs).samples++s.samples,(lastS gs).windows++s.windows⟩ (by omega);simp only[List.length_append] at this;unfold addG;unfold lastS at this ⊢;omega
theorem Qbo (gs:List Ser) (s:Ser):sumS (stepG gs s)=sumS gs+(s.samples.length+s.windows.length):=by
 unfold stepG;rw[Qdx (Kqa gs s),Kko]
theorem Kty (l:List Ser):∀gs:List Ser,sumS (l.foldl stepG gs)=sumS gs+sumS l:=by
 induction l with
 | nil=>intro gs;simp[sumS]
 | cons s l ih=>
  intro gs;rw[List.foldl_cons,ih,Qbo];simp[sumS];omega
theorem Keg {gs:List Ser} {k:Nat} (h:k < gs.length):gs[k]!.samples.length+gs[k]!.windows.length≤sumS gs:=by
 have:=Kdo gs k ⟨[],[],[]⟩ h;simp only[List.length_nil] at this;omega
theorem Qew (gs:List Ser) (s:Ser):(addG gs s).length=gs.length:=by unfold addG;simp
def Kay (s:Ser):Ser:=⟨s.labels,s.samples.foldl (fun a x=>insO Smp.t x a) [],s.windows.foldl (fun a x=>insO Wnd.start x a) []⟩
theorem Kvp {s:Ser} {zs:List Smp} (h:Kaw Smp.t s.samples zs):(Kay s).samples=zs:=
 (Kaw.unique Smp.t h (Kfs Smp.t s.samples [] [] (Kaw.nil _))).symm
theorem Kvq {s:Ser} {zs:List Wnd} (h:Kaw Wnd.start s.windows zs):(Kay s).windows=zs:=
 (Kaw.unique Wnd.start h (Kfs Wnd.start s.windows [] [] (Kaw.nil _))).symm
def Kba (s:Ser):Bool:=decide (0 < s.samples.length+s.windows.length)
def Keo (l:List Ser):List Ser:=((grpG l).map Kay).filter Kba
theorem Kxw (P:List Lb→Prop) (l:List Ser):∀gs:List Ser,(∀g∈gs,P g.labels)→(∀s∈l,P s.labels)→∀g∈l.foldl stepG gs,P g.labels:=by
 induction l with
 | nil=>intro gs h _;exact h
 | cons s l ih=>
  intro gs h1 h2;rw[List.foldl_cons];refine ih _ ?_ (fun x hx=>h2 x (List.mem_cons_of_mem _ hx))
  have ho:∀g∈openG gs s,P g.labels:=by
   unfold openG
   split
   ·intro g hg;rcases List.mem_append.1 hg with hg | hg
    ·exact h1 g hg
    ·rw[List.mem_singleton.1 hg];exact h2 s (List.mem_cons_self ..)
   ·exact h1
  intro g hg;unfold stepG addG at hg;rcases List.mem_or_eq_of_mem_set hg with hg | hg
  ·exact ho g hg
  ·rw[hg];show P (lastS (openG gs s)).labels
   refine ho (lastS (openG gs s)) ?_;have hp:=Kqa gs s;unfold lastS;rw[getElem!_pos _ _ (by omega)];exact List.getElem_mem _
theorem Ksq {α : Type} (k:α→Int) (x:α):∀l:List α,(insO k x l).length≤l.length+1
 | []=>by simp[insO]
 | y :: l=>by
  unfold insO
  split
  ·simp
  ·split
   ·simp
   ·have:=Ksq k x l;simp only[List.length_cons];omega
theorem Kfo {α : Type} (k:α→Int):∀(xs l:List α),(xs.foldl (fun a x=>insO k x a) l).length≤l.length+xs.length
 | [],l=>by simp
 | x :: xs,l=>by
  rw[List.foldl_cons];have h1:=Kfo k xs (insO k x l);have h2:=Ksq k x l;rw[List.length_cons];omega
theorem Kvo (s:Ser):(Kay s).samples.length≤s.samples.length∧(Kay s).windows.length≤s.windows.length:=by
 have h1:=Kfo Smp.t s.samples [];have h2:=Kfo Wnd.start s.windows [];unfold Kay;dsimp only;rw[List.length_nil] at h1 h2;omega
def Pairs {α β : Type} (R:α→β→Prop):List α→List β→Prop
 | [],[]=>True
 | a :: l,b :: m=>R a b∧Pairs R l m
 | _,_=>False
theorem Pairs.of {α β : Type} [Inhabited β] {R:α→β→Prop}:∀{l:List α} {m:List β},l.length=m.length→(∀(i:Nat) (a:α),l[i]? = some a→R a m[i]!)→Pairs R l m
 | [],[],_,_=>trivial
 | [],_ :: _,h,_=>by simp at h
 | _ :: _,[],h,_=>by simp at h
 | a :: l,b :: m,h,hr=>⟨by simpa using hr 0 a rfl,Pairs.of (by simpa using h) fun i x hx=>by simpa using hr (i+1) x (by simpa using hx)⟩
theorem Pairs.at_ {α β : Type} [Inhabited β] {R:α→β→Prop}:∀{l:List α} {m:List β},Pairs R l m→∀(i:Nat) (a:α),l[i]? = some a→R a m[i]!
 | [],_,_,i,a,h=>by simp at h
 | _ :: _,[],h,_,_,_=>h.elim
 | a :: l,b :: m,h,0,x,hx=>by
  have:a=x:=by simpa using hx
  subst this;exact h.1
 | a :: l,b :: m,h,i+1,x,hx=>by
  have:=Pairs.at_ h.2 i x (by simpa using hx);simpa using this
theorem Pairs.len {α β : Type} {R:α→β→Prop}:∀{l:List α} {m:List β},Pairs R l m→l.length=m.length
 | [],[],_=>rfl
 | [],_ :: _,h=>h.elim
 | _ :: _,[],h=>h.elim
 | a :: l,b :: m,h=>by rw[List.length_cons,List.length_cons,h.2.len]
theorem Pairs.filter {α β : Type} {R:α→β→Prop} {f:α→Bool} {g:β→Bool} (hfg:∀a b,R a b→f a=g b):∀{l:List α} {m:List β},Pairs R l m→Pairs R (l.filter f) (m.filter g)
 | [],[],_=>trivial
 | [],_ :: _,h=>h.elim
 | _ :: _,[],h=>h.elim
 | a :: l,b :: m,h=>by
  rw[List.filter_cons,List.filter_cons,hfg a b h.1]
  split
  ·exact ⟨h.1,h.2.filter hfg⟩
  ·exact h.2.filter hfg
theorem Qau (gs:List Ser) {i:Nat} (hi:i < gs.length):((gs.take i).map Kay++gs.drop i).set i (Kay gs[i]!)=(gs.take (i+1)).map Kay++gs.drop (i+1)∧((gs.take i).map Kay++gs.drop i)[i]! = gs[i]!:=by
 have hl:((gs.take i).map Kay).length=i:=by rw[List.length_map,List.length_take];omega
 have hd:gs.drop i=gs[i] :: gs.drop (i+1):=List.drop_eq_getElem_cons hi;refine ⟨?_,?_⟩
 ·rw[List.set_append_right _ _ (by omega),hl,Nat.sub_self,hd,List.set_cons_zero,List.take_add_one,List.getElem?_eq_getElem hi,List.map_append,getElem!_pos gs i hi];simp
 ·rw[getElem!_pos _ i (by rw[List.length_append,hl,List.length_drop];omega),List.getElem_append_right (by omega),getElem!_pos gs i hi];simp only[hl,List.getElem_drop,Nat.sub_self,Nat.add_zero]
end
section
open Go.Sort
open List renaming length_append → Jd
section
variable {α : Type} (lt : α → α → Bool)
def eqv (x y:α):Bool:=!lt x y && !lt y x
structure Stab (xs ys:List α):Prop where
 perm:ys.Perm xs
 asc:ys.Pairwise fun a b=>lt b a=false
 keep:∀x,ys.filter (eqv lt x)=xs.filter (eqv lt x)
def mrg (X Y:List α):List α:=List.merge X Y fun a b=>!lt b a
theorem Kaf (Y:List α):mrg lt [] Y=Y:=by unfold mrg;exact List.nil_merge ..
theorem Kae (X:List α):mrg lt X []=X:=by unfold mrg;exact List.merge_right ..
theorem Khi {x y:α} (X Y:List α) (h:lt y x=false):mrg lt (x :: X) (y :: Y)=x :: mrg lt X (y :: Y):=by
 unfold mrg;rw[List.cons_merge_cons,if_pos (by simp[h])]
theorem Kgl {x y:α} (X Y:List α) (h:lt y x=true):mrg lt (x :: X) (y :: Y)=y :: mrg lt (x :: X) Y:=by
 unfold mrg;rw[List.cons_merge_cons,if_neg (by simp[h])]
theorem Ktk (X Y:List α):(mrg lt X Y).Perm (X++Y):=List.merge_perm_append _
theorem Kfm (X Y:List α):(mrg lt X Y).length=X.length+Y.length:=by rw[(Ktk lt X Y).length_eq,Jd]
theorem Kga:∀(n:Nat) (X1 X2 Y1 Y2:List α),X1.length+Y1.length≤n→(∀x∈X1,∀y∈Y2,lt y x=false)→(∀x∈X2,∀y∈Y1,lt y x=true)→mrg lt (X1++X2) (Y1++Y2)=mrg lt X1 Y1++mrg lt X2 Y2
 | _,[],X2,[],Y2,_,_,_=>by rw[Kaf];rfl
 | 0,[],_,y :: Y1,_,h,_,_=>by simp at h
 | 0,x :: X1,_,_,_,h,_,_=>by simp at h
 | n+1,[],X2,y :: Y1,Y2,hn,h1,h2=>by
  rw[Kaf,List.nil_append]
  cases X2 with
  | nil=>rw[Kaf,Kaf]
  | cons x X2=>
   have ih:=Kga n [] (x :: X2) Y1 Y2 (by simp only[List.length_cons,List.length_nil] at hn ⊢;omega) (fun _ h=>absurd h List.not_mem_nil) (fun a ha b hb=>h2 a ha b (List.mem_cons_of_mem _ hb));rw[Kaf,List.nil_append] at ih;rw[List.cons_append,Kgl lt X2 _ (h2 x (List.mem_cons_self ..) y (List.mem_cons_self ..)),ih];rfl
 | n+1,x :: X1,X2,[],Y2,hn,h1,h2=>by
  rw[Kae,List.nil_append]
  cases Y2 with
  | nil=>rw[Kae,Kae]
  | cons y Y2=>
   have ih:=Kga n X1 X2 [] (y :: Y2) (by simp only[List.length_cons,List.length_nil] at hn ⊢;omega) (fun a ha b hb=>h1 a (List.mem_cons_of_mem _ ha) b hb) (fun _ _ _ h=>absurd h List.not_mem_nil);rw[Kae,List.nil_append] at ih;rw[List.cons_append,Khi lt _ Y2 (h1 x (List.mem_cons_self ..) y (List.mem_cons_self ..)),ih];rfl
 | n+1,x :: X1,X2,y :: Y1,Y2,hn,h1,h2=>by
  cases h:lt y x with
  | false=>
   have ih:=Kga n X1 X2 (y :: Y1) Y2 (by simp only[List.length_cons] at hn ⊢;omega) (fun a ha b hb=>h1 a (List.mem_cons_of_mem _ ha) b hb) h2;rw[Khi lt X1 Y1 h,List.cons_append,List.cons_append,Khi lt _ _ h];rw[List.cons_append] at ih ⊢;rw[ih]
  | true=>
   have ih:=Kga n (x :: X1) X2 Y1 Y2 (by simp only[List.length_cons] at hn ⊢;omega) h1 (fun a ha b hb=>h2 a ha b (List.mem_cons_of_mem _ hb));rw[Kgl lt X1 Y1 h,List.cons_append,List.cons_append,Kgl lt _ _ h];rw[List.cons_append] at ih ⊢;rw[ih]
theorem Kkd (X1 X2 Y1 Y2:List α) (h1:∀x∈X1,∀y∈Y2,lt y x=false) (h2:∀x∈X2,∀y∈Y1,lt y x=true):mrg lt (X1++X2) (Y1++Y2)=mrg lt X1 Y1++mrg lt X2 Y2:=
 Kga lt _ X1 X2 Y1 Y2 (Nat.le_refl _) h1 h2
variable {lt} (S : SWO lt)
include S
theorem lt_le {x y z:α} (h1:lt x y=true) (h2:lt z y=false):lt x z=true:=by
 cases h:lt x z with
 | true=>rfl
 | false=>exact absurd (S.ntrans x z y h h2) (by rw[h1];exact Bool.noConfusion)
theorem le_lt {x y z:α} (h1:lt y x=false) (h2:lt y z=true):lt x z=true:=by
 cases h:lt x z with
 | true=>rfl
 | false=>exact absurd (S.ntrans y x z h1 h) (by rw[h2];exact Bool.noConfusion)
theorem lt_asymm {x y:α} (h:lt x y=true):lt y x=false:=by
 cases h2:lt y x with
 | false=>rfl
 | true=>exact absurd (S.trans x y x h h2) (by rw[S.irrefl];exact Bool.noConfusion)
theorem Qfa {X Y:List α} (hX:X.Pairwise fun a b=>lt b a=false) (hY:Y.Pairwise fun a b=>lt b a=false):(mrg lt X Y).Pairwise fun a b=>lt b a=false:=by
 have h:(mrg lt X Y).Pairwise fun a b=>(!lt b a)=true:=by
  unfold mrg;refine List.pairwise_merge (fun a b c h1 h2=>?_) (fun a b=>?_) X Y ?_ ?_
  ·simp only[Bool.not_eq_true'] at h1 h2 ⊢;exact S.ntrans c b a h2 h1
  ·cases h:lt b a with
   | false=>simp
   | true=>simp[lt_asymm S h]
  ·exact hX.imp fun h=>by simp[h]
  ·exact hY.imp fun h=>by simp[h]
 exact h.imp fun h=>by simpa using h
theorem Kmi (z:α):∀(n:Nat) (X Y:List α),X.length+Y.length≤n→(X.Pairwise fun a b=>lt b a=false)→(Y.Pairwise fun a b=>lt b a=false)→(mrg lt X Y).filter (eqv lt z)=X.filter (eqv lt z)++Y.filter (eqv lt z)
 | _,[],Y,_,_,_=>by rw[Kaf];rfl
 | _,x :: X,[],_,_,_=>by rw[Kae];simp
 | 0,x :: X,y :: Y,h,_,_=>by simp at h
 | n+1,x :: X,y :: Y,hn,hX,hY=>by
  obtain ⟨x1,x2⟩:=List.pairwise_cons.1 hX;obtain ⟨y1,y2⟩:=List.pairwise_cons.1 hY
  cases h:lt y x with
  | false=>
   rw[Khi lt X Y h,List.filter_cons,List.filter_cons,Kmi z n X (y :: Y) (by simp only[List.length_cons] at hn ⊢;omega) x2 hY]
   split <;> rfl
  | true=>
   rw[Kgl lt X Y h,List.filter_cons,Kmi z n (x :: X) Y (by simp only[List.length_cons] at hn ⊢;omega) hX y2,List.filter_cons (x:=y)]
   split
   ·rename_i hz
    have hn:(x :: X).filter (eqv lt z) = []:=by
     rw[List.filter_eq_nil_iff];intro a ha he
     have hya:lt y a=true:=by
      rcases List.mem_cons.1 ha with rfl | ha
      ·exact h
      ·exact lt_le S h (x1 a ha)
     simp only[eqv,Bool.and_eq_true,Bool.not_eq_true'] at hz he;have:=le_lt S hz.2 hya;rw[he.1] at this;cases this
    rw[hn];rfl
   ·rfl
theorem Stab.mrg {xs ys us vs:List α} (h1:Stab lt xs ys) (h2:Stab lt us vs):Stab lt (xs++us) (mrg lt ys vs) where
 perm:=(Ktk lt ys vs).trans (h1.perm.append h2.perm)
 asc:=Qfa S h1.asc h2.asc
 keep x:=by rw[Kmi S x _ ys vs (Nat.le_refl _) h1.asc h2.asc,h1.keep,h2.keep,List.filter_append]
omit S
theorem Stab.nil:Stab lt ([]:List α) []:=⟨.refl _,List.Pairwise.nil,fun _=>rfl⟩
theorem Stab.one (x:α):Stab lt [x] [x]:=⟨.refl _,List.pairwise_singleton _ _,fun _=>rfl⟩
theorem Stab.len {xs ys:List α} (h:Stab lt xs ys):ys.length=xs.length:=h.perm.length_eq
inductive Blks (lt:α→α→Bool) (c:Nat):List α→List α→Prop where
 | last {xs ys:List α}:xs.length≤c→Stab lt xs ys→Blks lt c xs ys
 | more {xs ys us vs:List α}:xs.length=c→Stab lt xs ys→Blks lt c us vs→Blks lt c (xs++us) (ys++vs)
inductive Whole (lt:α→α→Bool) (c:Nat):List α→List α→Prop where
 | nil:Whole lt c [] []
 | more {xs ys us vs:List α}:xs.length=c→Stab lt xs ys→Whole lt c us vs→Whole lt c (xs++us) (ys++vs)
theorem Whole.len {c:Nat} {xs ys:List α} (h:Whole lt c xs ys):ys.length=xs.length:=by
 induction h with
 | nil=>rfl
 | more _ h _ ih=>rw[Jd,Jd,h.len,ih]
theorem Blks.len {c:Nat} {xs ys:List α} (h:Blks lt c xs ys):ys.length=xs.length:=by
 induction h with
 | last _ h=>exact h.len
 | more _ h _ ih=>rw[Jd,Jd,h.len,ih]
theorem Whole.snoc {c:Nat} {xs ys us vs:List α} (h:Whole lt c xs ys) (hc:us.length=c) (hs:Stab lt us vs):Whole lt c (xs++us) (ys++vs):=by
 induction h with
 | nil=>rw[List.nil_append,List.nil_append,←List.append_nil us,←List.append_nil vs];exact .more hc hs .nil
 | more h1 h2 _ ih=>rw[List.append_assoc,List.append_assoc];exact .more h1 h2 ih
theorem Whole.close {c:Nat} {xs ys us vs:List α} (h:Whole lt c xs ys) (hs:Blks lt c us vs):Blks lt c (xs++us) (ys++vs):=by
 induction h with
 | nil=>exact hs
 | more h1 h2 _ ih=>rw[List.append_assoc,List.append_assoc];exact .more h1 h2 ih
theorem Blks.first {c:Nat} {xs ys:List α} (h:Blks lt c xs ys) (hc:c≤xs.length):∃x1 x2 y1 y2,xs=x1++x2∧ys=y1++y2∧x1.length=c∧Stab lt x1 y1∧Blks lt c x2 y2:=by
 cases h with
 | last h1 h2=>exact ⟨xs,[],ys,[],by simp,by simp,by omega,h2,.last (by simp) .nil⟩
 | more h1 h2 h3=>exact ⟨_,_,_,_,rfl,rfl,h1,h2,h3⟩
theorem Blks.short {c:Nat} {xs ys:List α} (h:Blks lt c xs ys) (hc:xs.length≤c) (h0:0 < c):Stab lt xs ys:=by
 cases h with
 | last h1 h2=>exact h2
 | more h1 h2 h3=>
  rename_i x1 y1 x2 y2
  have hx:x2 = []:=List.eq_nil_of_length_eq_zero (by rw[Jd] at hc;omega);subst hx;have hy:y2 = []:=List.eq_nil_of_length_eq_zero (by have:=h3.len;simpa using this);subst hy;simpa using h2
end
section
variable {α : Type} [Inhabited α]
theorem Kco {A B:List α} {x:α} {i:Nat} (h:i=A.length):(A++x :: B).toArray[i]! = x:=by
 subst h;simp
theorem Kec {A B C:List α} {x y:α} {i j:Nat} (hi:i=A.length) (hj:j=A.length+1+B.length):swp (A++x :: (B++y :: C)).toArray i j=(A++y :: (B++x :: C)).toArray:=by
 have e1:(A++x :: (B++y :: C)).toArray[i]! = x:=Kco hi
 have e2:(A++x :: (B++y :: C)).toArray[j]! = y:=by
  rw[show A++x :: (B++y :: C)=(A++x :: B)++y :: C by simp];exact Kco (by simp only[Jd,List.length_cons];omega)
 unfold swp;rw[e1,e2];subst hi hj;apply Array.ext';simp only[List.setIfInBounds_toArray,List.set_append,Nat.lt_irrefl,if_false,Nat.sub_self,List.set_cons_zero];rw[if_neg (by omega),show A.length+1+B.length - A.length=B.length+1 by omega,List.set_cons_succ,List.set_append,if_neg (by omega),Nat.sub_self,List.set_cons_zero]
theorem Kgo {A B C:List α} {x y:α} {i j:Nat} (hi:i=A.length) (hj:j=A.length+1+B.length):swp (A++x :: (B++y :: C)).toArray j i=(A++y :: (B++x :: C)).toArray:=by
 refine Eq.trans ?_ (Kec hi hj);have hne:i≠j:=by omega
 unfold swp;exact Array.setIfInBounds_comm _ _ (Ne.symm hne)
variable {lt : α → α → Bool} (S : SWO lt)
include S
theorem Kia:∀(n:Nat) (P A T:List α) (x:α),A.length=n→(A.Pairwise fun a b=>lt b a=false)→insInner lt P.length (P.length+n) (P++(A++x :: T)).toArray=(P++(mrg lt A [x]++T)).toArray
 | 0,P,A,T,x,hn,_=>by
  have:A = []:=List.eq_nil_of_length_eq_zero hn;subst this;rw[insInner_stop lt _ _ _ (.inl (by omega)),Kaf];rfl
 | n+1,P,A,T,x,hn,hA=>by
  obtain ⟨A',y,rfl⟩:∃A' y,A=A' ++ [y]:=by
   have hne:A≠[]:=by intro h;subst h;simp at hn
   exact ⟨A.dropLast,A.getLast hne,(List.dropLast_concat_getLast hne).symm⟩
  have hn':A'.length=n:=by simpa using hn
  obtain ⟨a1,_,a3⟩:=List.pairwise_append.1 hA
  have ex:(P++(A' ++ [y]++x :: T)).toArray[P.length+(n+1)]! = x:=by
   rw[show P++(A' ++ [y]++x :: T)=(P++(A' ++ [y]))++x :: T by simp];exact Kco (by simp only[Jd,List.length_cons,List.length_nil];omega)
  have ey:(P++(A' ++ [y]++x :: T)).toArray[P.length+(n+1) - 1]! = y:=by
   rw[show P++(A' ++ [y]++x :: T)=(P++A')++y :: (x :: T) by simp];exact Kco (by simp only[Jd];omega)
  cases h:lt x y with
  | true=>
   rw[insInner_go lt _ _ _ (by omega) (by rw[ex,ey];exact h)]
   have e:swp (P++(A' ++ [y]++x :: T)).toArray (P.length+(n+1)) (P.length+(n+1) - 1)=(P++(A'++x :: (y :: T))).toArray:=by
    rw[show P++(A' ++ [y]++x :: T)=(P++A')++y :: ([]++x :: T) by simp,Kgo (A:=P++A') (B:=[]) (by simp only[Jd];omega) (by simp only[Jd,List.length_nil];omega)];simp
   rw[e,show P.length+(n+1) - 1=P.length+n by omega,Kia n P A' (y :: T) x hn' a1];have:=Kkd lt A' [y] [x] [] (fun _ _ _ h=>absurd h List.not_mem_nil) (fun a ha b hb=>by rw[List.mem_singleton.1 ha,List.mem_singleton.1 hb];exact h);rw[List.append_nil] at this;rw[this,Kae];simp
  | false=>
   rw[insInner_stop lt _ _ _ (.inr (by rw[ex,ey];exact h))]
   have:=Kkd lt (A' ++ [y]) [] [] [x] (fun a ha b hb=>by
    rw[List.mem_singleton.1 hb];rcases List.mem_append.1 ha with ha | ha
    ·exact S.ntrans x y a h (a3 a ha y (List.mem_singleton.2 rfl))
    ·rw[List.mem_singleton.1 ha];exact h) (fun _ h=>absurd h List.not_mem_nil)
   rw[List.append_nil,List.nil_append,Kae,Kaf] at this;rw[this];simp
theorem Kib:∀(n:Nat) (P A0 A R T:List α),R.length=n→Stab lt A0 A→∃Z,Stab lt (A0++R) Z∧insOuter lt P.length (P.length+A.length+n) (P.length+A.length) (P++(A++(R++T))).toArray=(P++(Z++T)).toArray
 | 0,P,A0,A,R,T,hn,h=>by
  have:R = []:=List.eq_nil_of_length_eq_zero hn;subst this;refine ⟨A,by simpa using h,?_⟩;rw[insOuter,if_neg (by omega)];simp
 | n+1,P,A0,A,[],T,hn,h=>by simp at hn
 | n+1,P,A0,A,x :: R,T,hn,h=>by
  have h1:Stab lt (A0 ++ [x]) (mrg lt A [x]):=h.mrg S (.one x);obtain ⟨Z,hz,e⟩:=Kib n P (A0 ++ [x]) (mrg lt A [x]) R T (by simpa using hn) h1;refine ⟨Z,by simpa using hz,?_⟩;rw[insOuter_go _ _ _ _ _ (by omega),show P++(A++(x :: R++T))=P++(A++x :: (R++T)) by simp,Kia S A.length P A (R++T) x rfl h.asc,←e];rw[Kfm];simp only[List.length_cons,List.length_nil];congr 1 <;> omega
theorem Kez (P R T:List α) (h:0 < R.length):∃Z,Stab lt R Z∧insertionSort lt (P++(R++T)).toArray P.length (P.length+R.length)=(P++(Z++T)).toArray:=by
 cases R with
 | nil=>simp at h
 | cons x R=>
  obtain ⟨Z,hz,e⟩:=Kib S R.length P [x] [x] R T rfl (.one x);refine ⟨Z,hz,?_⟩;rw[insertionSort,show P++(x :: R++T)=P++([x]++(R++T)) by simp,←e];simp only[List.length_cons,List.length_nil];congr 1 <;> omega
omit S
theorem Kfk (P T:List α):insertionSort lt (P++T).toArray P.length P.length=(P++T).toArray:=by
 rw[insertionSort,insOuter,if_neg (by omega)]
end
end
section
open Go.Sort
section
variable {α : Type} [Inhabited α] {lt : α → α → Bool}
theorem Kkv (S:SWO lt) {X:List α} (h:X.Pairwise fun a b=>lt b a=false) {i j:Nat} (hij:i≤j) (hj:j < X.length):lt X[j]! X[i]! = false:=by
 rcases Nat.eq_or_lt_of_le hij with rfl | hlt
 ·exact S.irrefl _
 ·rw[getElem!_pos X j hj,getElem!_pos X i (by omega)];exact List.pairwise_iff_getElem.1 h i j (by omega) hj hlt
theorem Kds (S:SWO lt) {X Y:List α} (hX:X.Pairwise fun a b=>lt b a=false) (hY:Y.Pairwise fun a b=>lt b a=false) (s e:Nat) (hs:s≤X.length) (he:e≤Y.length)
  (h1:s=0∨e=Y.length∨lt Y[e]! X[s - 1]! = false) (h2:s=X.length∨e=0∨lt Y[e - 1]! X[s]! = true) :
  mrg lt X Y=mrg lt (X.take s) (Y.take e)++mrg lt (X.drop s) (Y.drop e):=by
 have:=Kkd lt (X.take s) (X.drop s) (Y.take e) (Y.drop e) ?_ ?_
 ·rwa[List.take_append_drop,List.take_append_drop] at this
 ·intro x hx y hy;obtain ⟨i,hi,rfl⟩:=List.mem_take_iff_getElem.1 hx;obtain ⟨k,hk,rfl⟩:=List.mem_drop_iff_getElem.1 hy;rcases h1 with h | h | h
  ·omega
  ·omega
  ·rw[←getElem!_pos X i (by omega),←getElem!_pos Y (e+k) (by omega)];exact S.ntrans _ _ _ (S.ntrans _ _ _ (Kkv S hY (i:=e) (j:=e+k) (by omega) (by omega)) h) (Kkv S hX (i:=i) (j:=s - 1) (by omega) (by omega))
 ·intro x hx y hy;obtain ⟨i,hi,rfl⟩:=List.mem_drop_iff_getElem.1 hx;obtain ⟨k,hk,rfl⟩:=List.mem_take_iff_getElem.1 hy;rcases h2 with h | h | h
  ·omega
  ·omega
  ·rw[←getElem!_pos X (s+i) (by omega),←getElem!_pos Y k (by omega)];exact lt_le S (le_lt S (Kkv S hY (i:=k) (j:=e - 1) (by omega) (by omega)) h) (Kkv S hX (i:=s) (j:=s+i) (by omega) (by omega))
theorem Kpr {X:List α} {s:Nat} (h:s < X.length):(X.drop s)[0]! = X[s]!:=by
 rw[getElem!_pos _ _ (by rw[List.length_drop];omega),getElem!_pos X s h,List.getElem_drop];rfl
theorem Kgx (S:SWO lt) {x:α} {Y:List α} (hY:Y.Pairwise fun a b=>lt b a=false) (e:Nat) (he:e≤Y.length) (h1:e=Y.length∨lt Y[e]! x=false) (h2:e=0∨lt Y[e - 1]! x=true):mrg lt [x] Y=Y.take e++x :: Y.drop e:=by
 rw[Kds S (List.pairwise_singleton _ _) hY 0 e (by simp) he (.inl rfl) (.inr (h2.imp id fun h=>h)),List.take_zero,List.drop_zero,Kaf];congr 1;rw[Kds S (List.pairwise_singleton _ _) (hY.drop) 1 0 (by simp) (Nat.zero_le _) (.inr ?_) (.inl rfl)]
 ·rw[List.take_zero,Kae,List.drop_zero,show ([x].drop 1:List α) = [] from rfl,Kaf];rfl
 ·rcases Nat.lt_or_ge e Y.length with h | h
  ·rcases h1 with h1 | h1
   ·omega
   ·right;rw[Kpr h];exact h1
  ·left;rw[List.length_drop];omega
theorem Kgd (S:SWO lt) {y:α} {X:List α} (hX:X.Pairwise fun a b=>lt b a=false) (s:Nat) (hs:s≤X.length) (h1:s=0∨lt y X[s - 1]! = false) (h2:s=X.length∨lt y X[s]! = true):mrg lt X [y]=X.take s++y :: X.drop s:=by
 rw[Kds S hX (List.pairwise_singleton _ _) s 0 hs (by simp) (h1.imp id .inr) (h2.imp id fun _=>.inl rfl),List.take_zero,Kae,List.drop_zero];congr 1;rw[Kds S (hX.drop) (List.pairwise_singleton _ _) 0 1 (Nat.zero_le _) (by simp) (.inl rfl) ?_]
 ·rw[List.take_zero,Kaf,show ([y].drop 1:List α) = [] from rfl,List.drop_zero,Kae];rfl
 ·rcases Nat.lt_or_ge s X.length with h | h
  ·rcases h2 with h2 | h2
   ·omega
   ·right;right;rw[Kpr h];exact h2
  ·left;rw[List.length_drop];omega
theorem Kcx {A X T:List α} {i t:Nat} (hi:i < X.length) (ht:t=A.length+i):(A++(X++T)).toArray[t]! = X[i]!:=by
 subst ht;rw[getElem!_pos _ _ (by simp only[List.size_toArray,List.length_append];omega),getElem!_pos X i hi];simp only[List.getElem_toArray];rw[List.getElem_append_right (by omega)];simp only[Nat.add_sub_cancel_left];rw[List.getElem_append_left hi]
theorem Kcw {A X Y T:List α} {i t:Nat} (hi:i < Y.length) (ht:t=A.length+X.length+i):(A++(X++(Y++T))).toArray[t]! = Y[i]!:=by
 rw[←List.append_assoc];exact Kcx hi (by rw[List.length_append];exact ht)
end
end
end Go.Proofs.YtdoiekknhnbepaaGreatDoor
