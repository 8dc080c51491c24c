/- Merged (what the claim wants of): BlkBuild, BlkSize, RefBPlain, RefB6, BlkParseD, BlkSize3, BlkLawA, OpenS, OpenBulk, OpenSym, OpenLab, OpenSets, BlkOpenC, BlkLawB, Compact, CompactS. -/
import Derived.Test.YtdoiekknhnbepaaGreatDoorCof15
import Derived.Test.YtdoiekknhnbepaaGreatDoorCof07
import Derived.Test.YtdoiekknhnbepaaGreatDoorCof16
import Derived.Test.YtdoiekknhnbepaaGreatDoorCof02
import Derived.Test.YtdoiekknhnbepaaGreatDoorCof05
import Derived.Test.YtdoiekknhnbepaaGreatDoorCof06
import Derived.Laws.PanicsMore
import Derived.Laws.StructEq
import Derived.WalkKit
import Derived.Test.YtdoiekknhnbepaaGreatDoorCof01
import Derived.Laws.Bits64
import Derived.Test.YtdoiekknhnbepaaGreatDoorRows
import Derived.ProofKit
import Derived.SizedLaws
import Derived.OpenShut
import Derived.ChangeMaps5
import Derived.Deep.Slices
import Derived.Test.YtdoiekknhnbepaaGreatDoorCof14
set_option linter.unusedVariables false
set_option linter.unusedSimpArgs false
set_option maxRecDepth 100000
set_option maxHeartbeats 8000000
namespace Go.Proofs.YtdoiekknhnbepaaGreatDoor
section
open Go.RowKit Go.Shelf Go.Sort Go.Maps
open Go.ChangeMaps (setBlock)
open Lib renaming hid → Jh
open List renaming length_append → Jd
attribute [local go_sem ↓] Go.wp_at_zero Go.wp_at_succ
attribute [local go_sem] Later.cell
theorem Kvm {S:List (List Lb)} {l:List Lb} (hd:l.Nodup) {k:Nat} (hk:k < l.length):addF (Keh S l k) l[k]! S.length=Keh S l (k+1):=by
 have hx:l[k]! = l[k]:=getElem!_pos l k hk;have htk:l.take (k+1)=l.take k ++ [l[k]]:=(List.take_append_getElem hk).symm;have hl:l=l.take k++l[k] :: l.drop (k+1):=by rw[←List.drop_eq_getElem_cons hk,List.take_append_drop]
 have hd2:(l.take k++l[k] :: l.drop (k+1)).Nodup:=by rw[←hl];exact hd
 have hno:l[k]∉l.take k:=fun hm=>(List.nodup_append.1 hd2).2.2 _ hm _ (List.mem_cons_self ..) rfl
 funext y;unfold addF Keh;rw[hx,htk]
 by_cases hy:y=l[k]
 ·rw[if_pos hy,if_neg hno,hy,if_pos (List.mem_append.2 (.inr (List.mem_singleton.2 rfl)))]
 ·rw[if_neg hy]
  have:y∈l.take k ++ [l[k]]↔y∈l.take k:=by
   rw[List.mem_append,List.mem_singleton];exact ⟨fun h=>h.resolve_right hy,.inl⟩
  by_cases hm:y∈l.take k
  ·rw[if_pos hm,if_pos (this.2 hm)]
  ·rw[if_neg hm,if_neg (fun h=>hm (this.1 h))]
def filV (f:Fil):Value:=.agg #[txtV f.mt,txtV f.ck,txtV f.ix]
def Kdc (c:Cont):Fil:=if fitB c=true then Keu c else ⟨[],[],[]⟩
theorem Kzy:(Tryz.prog.info? 54).map (fun i=>(i.zero,i.size,i.bytes))=some (some (.slice none 0 0),1,24):=by kernel_rfl
theorem Qcf (h:Hd):(encH h).length=1:=rfl
structure FstAt (c:Cont) (hs:List Hd3) (q m i:Nat) (vs:Value) (w1 w:World):Prop where
 row:w.ownsRow (q+2) 54 1 vs i (((hs.map Hd3.l).take i).flatMap encH)
 map:∃es clock,LMap w (q+2) m (Kal ((Kam c).take i)) (i*8) es clock
 b:Below (q+2) w1 w
theorem Qav {c:Cont} {i:Nat} (h:i < c.series.length):(Kam c).take (i+1)=(Kam c).take i ++ [(c.series[i]!).labels]∧((Kam c).take i).length=i:=by
 have e:(Kam c)[i]? = some (c.series[i]!).labels:=by
  unfold Kam;rw[List.getElem?_map,List.getElem?_eq_getElem h,getElem!_pos _ i h];rfl
 refine ⟨by rw[List.take_add_one,e];rfl,?_⟩;have:(Kam c).length=c.series.length:=by unfold Kam;rw[List.length_map]
 rw[List.length_take];omega
theorem Klk {w:World} {B n sz b:Nat} {T:TypeId} {v:Value} {xs:List Value} {es:Array MapEntry} {clock:Nat} (h:w.ownsRow B T sz v n xs) (hb:w.heap[b]? = some (.map es clock)):v.ownBlock=none∨v.ownBlock≠some b:=.inr (Kic h hb)
def ixAt (c:Cont) (T:List Txt) (i:Nat):List UInt8:=tabT T++(uintT c.series.length++(c.series.take i).flatMap (serT T))
def ckAt (c:Cont) (i:Nat):List UInt8:=(c.series.take i).flatMap fun s=>(Kbb s).flatten
theorem Ktv {c:Cont} {i:Nat} (h:i < c.series.length):c.series.take (i+1)=c.series.take i ++ [c.series[i]!]:=by
 rw[List.take_add_one,List.getElem?_eq_getElem h,getElem!_pos _ i h];rfl
theorem Qaa {c:Cont} {T:List Txt} {i:Nat} (h:i < c.series.length):ixAt c T (i+1)=ixAt c T i++serT T c.series[i]!:=by
 unfold ixAt;rw[Ktv h,List.flatMap_append,List.flatMap_singleton];simp only[List.append_assoc]
theorem Kzh {c:Cont} {i:Nat} (h:i < c.series.length):ckAt c (i+1)=ckAt c i++(Kbb c.series[i]!).flatten:=by
 unfold ckAt;rw[Ktv h,List.flatMap_append,List.flatMap_singleton]
theorem Kjv {α β : Type} (f:α→List β) (l:List α) (i:Nat):((l.take i).flatMap f).length≤(l.flatMap f).length:=by
 have:l.flatMap f=(l.take i).flatMap f++(l.drop i).flatMap f:=by rw[←List.flatMap_append,List.take_append_drop]
 rw[this,Jd];omega
theorem Kwi (c:Cont) (i:Nat):(ixAt c (tabOf (Kam c)) i).length+(Kcq (Kam c)).length≤(Kcc c).length:=by
 unfold ixAt Kcc;have:=Kjv (serT (tabOf (Kam c))) c.series i;simp only[Jd];omega
theorem Qcj (c:Cont):ixAt c (tabOf (Kam c)) c.series.length++Kcq (Kam c)=Kcc c:=by
 unfold ixAt Kcc;rw[List.take_length];simp only[List.append_assoc]
theorem Qdx (c:Cont) (i:Nat):(ckAt c i).length≤(Kcy c).length:=Kjv _ c.series i
theorem Qca (c:Cont):ckAt c c.series.length=Kcy c:=by
 unfold ckAt Kcy;rw[List.take_length]
theorem Kmm:∀{L:List (List Lb)},(∀s∈L,s.length≤8)→(allT L).length≤16*L.length
 | [],_=>by simp[allT]
 | l :: L,h=>by
  have h1:=Kmm (L:=L) fun s hs=>h s (by simp[hs])
  have h2:=h l (by simp);rw[Kpi,Jd,Kfv,List.length_cons];omega
theorem Qbc {l:List Lb} {x:Txt} (h:x∈texts l):∃y∈l,x=y.n∨x=y.v:=by
 unfold texts at h;obtain ⟨y,hy,hx⟩:=List.mem_flatMap.1 h;simp at hx;exact ⟨y,hy,hx⟩
theorem Qac (P:List (List UInt8)):(lensT P).length≤11*P.length:=by
 induction P with
 | nil=>simp[lensT]
 | cons p P ih=>
  have h:=(Kab p.length).2;have e:lensT (p :: P)=uintT p.length++lensT P:=rfl;rw[e,Jd,List.length_cons];omega
theorem Kyl (s:Ser):(Kbb s).length≤s.samples.length+1:=by
 have a1:=Kfy s.samples.length s.samples;have a2:(aggsT s.windows).length≤1:=by cases s.windows <;> simp[aggsT]
 unfold Kbb;rw[Jd,List.length_map];omega
theorem Ksi {P:List (List UInt8)} {k:Nat} (h:k < P.length):(P.take (k+1)).flatten=(P.take k).flatten++P[k]!∧((P.take (k+1)).flatten).length≤P.flatten.length:=by
 have e:P.take (k+1)=P.take k ++ [P[k]!]:=by rw[List.take_add_one,List.getElem?_eq_getElem h,getElem!_pos _ k h];rfl
 refine ⟨by rw[e,List.flatten_append];simp,?_⟩;have:P.flatten=(P.take (k+1)).flatten++(P.drop (k+1)).flatten:=by rw[←List.flatten_append,List.take_append_drop]
 rw[this,Jd];omega
theorem Kya {P:List (List UInt8)} {k:Nat} (h:k < P.length):lensT (P.take (k+1))=lensT (P.take k)++uintT (P[k]!).length:=by
 have e:P.take (k+1)=P.take k ++ [P[k]!]:=by rw[List.take_add_one,List.getElem?_eq_getElem h,getElem!_pos _ k h];rfl
 unfold lensT;rw[e,List.flatMap_append,List.flatMap_singleton]
theorem bnd1 {A X U L Z I l l' k u n:Nat} (h:A+(X+(U+L))+Z≤I) (hI:I≤35184372088832) (hl:l≤11*l') (hl':l'≤k) (hk:k < n) (hn:n≤1099511627777) (hu:u≤11):A+X+U+l+u≤140737488355328:=by omega
theorem bnd2 {A F C f y:Nat} (h:A+F≤C) (hC:C≤35184372088832) (hf:f+y≤F):A+f+y≤140737488355328:=by omega
theorem Kuc (c:Cont) (hd:Hd) (w:World) (hS:Sers w hd.A hd.n c.series) (hz:∀s∈c.series,SerSz s) (hn:hd.n≤1073741824) (hT:DbTab w) (hN:Kdt w)
  (hsz:fitB c=true→(Kcy c).length≤35184372088832∧(Kcc c).length≤35184372088832) :
  Calls Tryz.prog 19 #[contV c.res c.frm c.to_ hd] w fun e w'=>e = .returned (.tuple #[filV (Kdc c),.int .i64 (if fitB c=true then 0 else 190)])∧Below w.heap.size w w':=by
 have hmm:=@run_makeMap Tryz.prog;obtain ⟨i0,hi0,hz0,hz1,hz2⟩:=info_parts Kzy;obtain ⟨i1,hi1,hy0,hy1,hy2⟩:=info_parts Qch;have hlen:c.series.length=hd.n:=hS.len;obtain ⟨r,hr⟩:∃r,c.res=r:=⟨_,rfl⟩;obtain ⟨f,hf⟩:∃f,c.frm=f:=⟨_,rfl⟩;obtain ⟨t,ht⟩:∃t,c.to_=t:=⟨_,rfl⟩;obtain ⟨F,hF⟩:∃F,fitB c=F:=⟨_,rfl⟩;have hfit:=fun (w:World) (h:Sers w hd.A hd.n c.series)=>Kzs c hd w h hz (by omega)
 obtain ⟨A,hA⟩:∃A,hd.A=A:=⟨_,rfl⟩;obtain ⟨n,hn'⟩:∃n,hd.n=n:=⟨_,rfl⟩;obtain ⟨cc,hcc⟩:∃cc,hd.c=cc:=⟨_,rfl⟩;obtain ⟨G,hG⟩:∃G,Kdc c=G:=⟨_,rfl⟩;unfold contV;unfold contV at hfit;rw[hA,hn',hcc,hr,hf,ht,hF] at hfit;rw[hr,hf,ht,hA,hn',hcc,hF,hG];rw[hA,hn'] at hS;rw[hn'] at hlen hn;rw[hF] at hsz;have HFIT:=Jh hfit;have HS:=Jh hS;have HZ:=Jh hz;have HT:=Jh hT;have HN:=Jh hN;have HSZ:=Jh hsz;have HF:=Jh hF;have HG:=Jh hG;have HLEN:=Jh hlen;have HRR:=Jh hr;have HRF:=Jh hf;have HRT:=Jh ht;obtain ⟨q,hq⟩:∃q,w.heap.size=q:=⟨_,rfl⟩;have hb1:Below q w ((w.alloc (.cells #[.int .i64 r,.int .i64 f,.int .i64 t,.slice A n cc] 28)).alloc (.cells #[.string ⟨#[]⟩,.string ⟨#[]⟩,.string ⟨#[]⟩] 44)):=((Below.refl _ _).alloc (by omega) _).alloc (by simp;omega) _;have hk1:Blk ((w.alloc (.cells #[.int .i64 r,.int .i64 f,.int .i64 t,.slice A n cc] 28)).alloc (.cells #[.string ⟨#[]⟩,.string ⟨#[]⟩,.string ⟨#[]⟩] 44)) q 28 #[.int .i64 r,.int .i64 f,.int .i64 t,.slice A n cc]:=(Blk.newAt hq.symm).alloc _;have hf1:Blk ((w.alloc (.cells #[.int .i64 r,.int .i64 f,.int .i64 t,.slice A n cc] 28)).alloc (.cells #[.string ⟨#[]⟩,.string ⟨#[]⟩,.string ⟨#[]⟩] 44)) (q+1) 44 #[.string ⟨#[]⟩,.string ⟨#[]⟩,.string ⟨#[]⟩]:=Blk.newAt (by simp;omega);clear hfit hS hz hT hN hsz hF hA hn' hcc hr hf ht hG hlen;go_enter Tryz.func19,Tryz.ntmps19
 go_upto_region 1 with fail
 obtain ⟨w1,hw1⟩:∃w1,(w.alloc (.cells #[.int .i64 r,.int .i64 f,.int .i64 t,.slice A n cc] 28)).alloc (.cells #[.string ⟨#[]⟩,.string ⟨#[]⟩,.string ⟨#[]⟩] 44)=w1:=⟨_,rfl⟩;rw[hw1] at hb1 hk1 hf1;rw[hw1]
 try rw[hq]
 have HQ:=Jh hq;have HB1:=Jh hb1;have HK1:=Jh hk1;have HF1:=Jh hf1;have hqw:q+1 < w1.heap.size:=hf1.lt;have k0:w1.cell? ⟨q,0,none⟩=some (.int .i64 r):=hk1.cell 0;have k1:w1.cell? ⟨q,1,none⟩=some (.int .i64 f):=hk1.cell 1;have k2:w1.cell? ⟨q,2,none⟩=some (.int .i64 t):=hk1.cell 2;have k3:w1.cell? ⟨q,3,none⟩=some (.slice A n cc):=hk1.cell 3;have hS1:=HS.out.below (HQ.out.symm▸hb1);have HC1:=Jh (HFIT.out w1 hS1);clear hw1 hq hb1 hk1 hf1 hS1;go_wp2_with fail
 refine HC1.out.mono ?_;rintro e w2 ⟨rfl,hb2⟩;have HB2:=Jh (show Below (q+2) w1 w2 from hb2.mono (by omega));have hq2:q+1 < w2.heap.size:=by have:=hb2.size;omega
 clear hb2;have hk2:=HK1.out.below HB2.out (by omega);have hf2:=HF1.out.below HB2.out (by omega);have HB02:Hid (Below q w w2):=Jh (HB1.out.trans (HB2.out.mono (by omega)))
 cases F with
 | false=>
  have hgg:G=⟨[],[],[]⟩:=by rw[←HG.out];unfold Kdc;rw[if_neg (by rw[HF.out];decide)]
  subst hgg;have g0:w2.cell? ⟨q+1,0,none⟩=some (.string ⟨#[]⟩):=hf2.cell 0;have g1:w2.cell? ⟨q+1,1,none⟩=some (.string ⟨#[]⟩):=hf2.cell 1;have g2:w2.cell? ⟨q+1,2,none⟩=some (.string ⟨#[]⟩):=hf2.cell 2;have e0:=hf2.frozen 0;have e1:=hf2.frozen 1;have e2:=hf2.frozen 2;have HK2:=Jh hf2;clear hk2 hf2 k0 k1 k2 k3;go_wp2_with fail
  refine bodyPost_ret (Kcp rfl _ _ ⟨q+1,0,none⟩ (filV ⟨[],[],[]⟩) rfl (run_loadVar_row _ (q+1) 44 44 _ (0,0) _ (((HK2.out.set_ 0 _).set_ 1 _).set_ 2 _) Tryz.underlying44 rfl (by kernel_rfl))) rfl ?_;exact ⟨rfl,by rw[HQ.out];exact ((HB02.out.setCell (p:=⟨q+1,0,none⟩) (by show q≤q+1;omega) _).setCell (p:=⟨q+1,1,none⟩) (by show q≤q+1;omega) _).setCell (p:=⟨q+1,2,none⟩) (by show q≤q+1;omega) _⟩
 | true=>
  obtain ⟨hc0,hc1,hc2,hc3,hc4,hc5,hc6⟩:=Kcn.1 HF.out;have HC:=Jh hc5;have hgg:G=Keu c:=by rw[←HG.out];unfold Kdc;rw[if_pos HF.out]
  subst hgg;obtain ⟨hs,hsE,hsl,hsA⟩:=HS.out;have hhl:hs.length=n:=hsE.len;have HSE:=Jh hsE;have HSA:=Jh hsA;clear hc0 hc1 hc2 hc3 hc4 hc5 hc6 hsE hsl hsA;go_upto_region 5 with fail
  have hm:LMap (w2.alloc (.map #[] 0)) (q+2) w2.heap.size (fun _=>[]) 0 #[] 0:=LMap.new w2 (q+2);have hb3:Below (q+2) w1 (w2.alloc (.map #[] 0)):=HB2.out.alloc (by omega) _;obtain ⟨w3,hw3⟩:∃w3,w2.alloc (.map #[] 0)=w3:=⟨_,rfl⟩;obtain ⟨m,hm9⟩:∃m,w2.heap.size=m:=⟨_,rfl⟩;have hmq:q+2≤m:=by omega
  rw[hw3,hm9] at hm;rw[hw3] at hb3 ⊢;rw[hm9];have hq3:q+1 < w3.heap.size:=by have:=hb3.size;omega
  have hk3:=HK1.out.below hb3 (by omega);have k3:w3.cell? ⟨q,3,none⟩=some (.slice A n cc):=hk3.cell 3;have HM:=Jh hm;have HB3:=Jh hb3;clear hw3 hm9 hk2 hf2 k0 k1 k2 hm hb3 hk3 hq2;go_upto_block 0 with fail
  go_cut [4] (fun s4 wz=>∃vs:Value,vs=s4∧FstAt c hs q m n vs w1 wz)
  case first=>
   go_wp2_with fail
   go_loopg [4,29] n (fun g s4 s29 wr=>∃(i:Nat) (vs:Value),vs=s4∧i+g=n∧s29 = .int .i64 (i:Int)∧FstAt c hs q m i vs w1 wr)
   case atStart=>exact ⟨0,_,rfl,by omega,rfl,⟨World.ownsRow_nil _ _ _ _,⟨#[],0,by rw[List.take_zero,Kvo];exact HM.out⟩,HB3.out⟩⟩
   case round=>
    obtain ⟨i,vs,rfl,hig,rfl,hst⟩:=hrel;have HIG:=Jh hig;have HST:=Jh hst;clear hig hst
    by_cases hi:i < n
    ·have el:decide (i < n)=true:=by rw[decide_eq_true_eq];omega
     obtain ⟨wo,rfl⟩:∃x,x=wr:=⟨_,rfl⟩;obtain ⟨hrow,⟨es,clock,hmap⟩,hbr⟩:=HST.out;have hBW:Below w.heap.size w wo:=by rw[HQ.out];exact HB1.out.trans (hbr.mono (by omega))
     obtain ⟨bb,off,hA,hbb,hcell⟩:=HSE.out.2 (by omega);subst hA;have hil:i < hs.length:=by omega
     obtain ⟨x,hx⟩:∃x,hs[i]=x:=⟨_,rfl⟩;have hxi:hs[i]? = some x:=by rw[List.getElem?_eq_getElem hil,hx]
     have htk:(hs.map Hd3.l).take (i+1)=(hs.map Hd3.l).take i ++ [x.l]:=by rw[List.take_add_one,List.getElem?_map,hxi];rfl
     have hsa:=HSA.out i x hxi;have hcl:=hcell i x hxi;obtain ⟨⟨LA,ln,lc⟩,⟨SA,sn,sc⟩,⟨WA,wn,wc9⟩⟩:=x;have c0:wo.cell? ⟨bb,off+i*3,none⟩=some (.slice LA ln lc):=later hBW (by simpa using hcl 0 _ rfl);have c1:wo.cell? ⟨bb,off+i*3+1,none⟩=some (.slice SA sn sc):=later hBW (by simpa using hcl 1 _ rfl);have c2:wo.cell? ⟨bb,off+i*3+2,none⟩=some (.slice WA wn wc9):=later hBW (by simpa using hcl 2 _ rfl);have hic:i < c.series.length:=by have:=HLEN.out;omega
     obtain ⟨hst1,hst2⟩:=Qav hic;obtain ⟨l,hl⟩:∃l,(c.series[i]!).labels=l:=⟨_,rfl⟩;have hE:Elems w w.heap.size 2 encLb LA ln l:=by rw[←hl];exact hsa.l
     have hlc:ln≤lc:=hsa.lc;have hval:=Kfq (HC.out (c.series[i]!) (by rw[getElem!_pos _ i hic];exact List.getElem_mem hic)).1;rw[hl] at hst1 hval;have HE:=Jh hE;have HLN:=Jh hE.len;have HST1:=Jh hst1;have HST2:=Jh hst2;have HVAL:=Jh hval;have HTK:=Jh htk;have HMAP:=Jh hmap;have HROW:=Jh hrow;have HBR:=Jh hbr;clear hsa hcl hcell hxi htk hx hst1 hst2 hval hE hmap hrow hbr hl hbb;go_upto_block 1 with fail
     go_cut [4] (fun s4 wz=>∃vs':Value,vs'=s4∧FstAt c hs q m (i+1) vs' w1 wz)
     case first=>
      go_upto_region 8 with fail
      have hb4:Below wo.heap.size wo (wo.alloc (.cells #[.slice LA ln lc,.slice SA sn sc,.slice WA wn wc9] 58)):=(Below.refl _ _).alloc (Nat.le_refl _) _;have hp4:Blk (wo.alloc (.cells #[.slice LA ln lc,.slice SA sn sc,.slice WA wn wc9] 58)) wo.heap.size 58 #[.slice LA ln lc,.slice SA sn sc,.slice WA wn wc9]:=Blk.new _ _ _;obtain ⟨w4,hw4⟩:∃w4,wo.alloc (.cells #[.slice LA ln lc,.slice SA sn sc,.slice WA wn wc9] 58)=w4:=⟨_,rfl⟩;obtain ⟨p,hp⟩:∃p,wo.heap.size=p:=⟨_,rfl⟩;rw[hw4] at hb4 hp4 ⊢;have hrow4:w4.ownsRow (q+2) 54 1 vs i (((hs.map Hd3.l).take i).flatMap encH):=by rw[←hw4];exact HROW.out.alloc _
      have hmap4:=HMAP.out.below hb4;have hB4:Below (q+2) w1 w4:=HBR.out.trans (hb4.mono (by have:=HBR.out.size;omega));rw[hp] at hp4 ⊢;have hq4:q+2≤w4.heap.size:=by have:=hB4.size;omega
      have s0:w4.cell? ⟨p,0,none⟩=some (.slice LA ln lc):=hp4.cell 0;have HP4:=Jh hp4;have HMAP4:=Jh hmap4;have HB4:=Jh hB4;have hp4l:=hp4.lt;clear hw4 hp hb4 hp4 hmap4 hB4 c0 c1 c2 hBW;go_wp2_with (at_builtin;refine wpList_append_own_at _ rfl _ _ 103 rfl (q+2) 54 i0 (.slice none 0 0) 1 24 Tryz.underlying103 hi0 hz0 hz1 hz2 rfl (by decide) _ _ _ rfl (hrow4.alloc _) ⟨w4.heap.size,0,none⟩ 1 1 [.slice LA ln lc] rfl rfl ?p1 ?p2 ?p3 ?p4 ?p5 ?_)
      case p2=>first | rfl | (intro u hu;rw[List.mem_singleton.1 hu];rfl)
      case p3=>unfold maxLen;omega
      case p4=>omega
      case p5=>first | omega | (simp;omega)
      intro vs' w5 hown' hgrow _ _;have hall:w4.grownBy w5 vs.ownBlock:=(World.grownBy_alloc w4 _ _).trans hgrow
      have hrow5:w5.ownsRow (q+2) 54 1 vs' (i+1) (((hs.map Hd3.l).take (i+1)).flatMap encH):=by
       rw[HTK.out,List.flatMap_append];exact hown'
      have hB5:Below (q+2) w1 w5:=HB4.out.trans ⟨hall.os,hall.tape,hall.output,hall.size,fun j hj=>hall.block j (by omega) (fun e=>by have:=(hrow4.lt j e.symm).1;omega)⟩;have hmap5:=HMAP4.out.kept hall (fun k e=>by obtain ⟨cur,hc⟩:=Kav hrow4 e;exact ⟨cur,_,hc,by decide⟩);have hp5:=HP4.out.grown hall (fun e=>by obtain ⟨cur,hc⟩:=Kav hrow4 e.symm;exact HP4.out.ne_ (show Blk w4 p _ _ from hc) (by decide) rfl);have s0:w5.cell? ⟨p,0,none⟩=some (.slice LA ln lc):=hp5.cell 0;have HROW5:=Jh hrow5;have HB5:=Jh hB5;have HMAP5:=Jh hmap5;clear hown' hgrow hall hrow4 hrow5 hB5 hmap5 hp5 hp4l hq4;go_wp2_with fail
      go_loopg [42] ln (fun g s42 wz=>∃k:Nat,k+g=ln∧s42 = .int .i64 (k:Int)∧wz.ownsRow (q+2) 54 1 vs' (i+1) (((hs.map Hd3.l).take (i+1)).flatMap encH)∧(∃es clock,LMap wz (q+2) m (Keh ((Kam c).take i) l k) (i*8+k) es clock)∧Below (q+2) w1 wz)
      case atStart=>exact ⟨0,by omega,rfl,HROW5.out,⟨_,_,by rw[Kvn];exact HMAP5.out⟩,HB5.out⟩
      case round=>
       obtain ⟨k,hkg,rfl,hrow,⟨es,clock,hmap⟩,hbr⟩:=hrel;have HKG:=Jh hkg;have HROWK:=Jh hrow;have HMAPK:=Jh hmap;have HBRK:=Jh hbr;clear hkg hrow hmap hbr
       by_cases hk:k < ln
       ·have el:decide (k < ln)=true:=by rw[decide_eq_true_eq];omega
        obtain ⟨wk,rfl⟩:∃x,x=wr:=⟨_,rfl⟩;have hBz:Below w.heap.size w wk:=by rw[HQ.out];exact HB1.out.trans (HBRK.out.mono (by omega))
        have hkl:k < l.length:=by have:=HLN.out;omega
        have hk8:k < 8:=by have:=HVAL.out.2.2.1;omega
        obtain ⟨ba,oa,hLA,_,_⟩:=HE.out.2 (by omega);have hE:=HE.out;subst hLA;obtain ⟨hba,a0,a1⟩:=Kdy hE (by omega) hBz k hkl;have hxz:=HVAL.out.2.2.2.1 l[k]! (by rw[getElem!_pos l k hkl];exact List.getElem_mem hkl);obtain ⟨x,hx⟩:∃x,l[k]! = x:=⟨_,rfl⟩;have hstep:=Kvm (S:=(Kam c).take i) HVAL.out.1 hkl;rw[hx] at a0 a1 hxz hstep;rw[HST2.out] at hstep;obtain ⟨N,hN⟩:∃N:ByteArray,(⟨x.n.toArray⟩:ByteArray)=N:=⟨_,rfl⟩;obtain ⟨V,hV⟩:∃N:ByteArray,(⟨x.v.toArray⟩:ByteArray)=N:=⟨_,rfl⟩;have hlb:lbV x = .agg #[.string N,.string V]:=by unfold lbV;rw[hN,hV]
        rw[hN] at a0;rw[hV] at a1;have HXZ:=Jh hxz;have HSTEP:=Jh hstep;have HLB:=Jh hlb;clear hx hN hV hlb hxz hstep hE;go_upto_region 12 with fail
        have hb6:Below wk.heap.size wk (wk.alloc (.cells #[.string N,.string V] 99)):=(Below.refl _ _).alloc (Nat.le_refl _) _;have hp6:Blk (wk.alloc (.cells #[.string N,.string V] 99)) wk.heap.size 99 #[.string N,.string V]:=Blk.new _ _ _;obtain ⟨w6,hw6⟩:∃w6,wk.alloc (.cells #[.string N,.string V] 99)=w6:=⟨_,rfl⟩;rw[hw6] at hb6 hp6 ⊢;obtain ⟨p9,hp9⟩:∃p,wk.heap.size=p:=⟨_,rfl⟩;have hB6:Below (q+2) w1 w6:=HBRK.out.trans (hb6.mono (by have:=HBRK.out.size;omega));have hrow6:w6.ownsRow (q+2) 54 1 vs' (i+1) (((hs.map Hd3.l).take (i+1)).flatMap encH):=by rw[←hw6];exact HROWK.out.alloc _
        have hmap6:=HMAPK.out.below hb6;rw[hp9] at hp6 ⊢;have q0:w6.cell? ⟨p9,0,none⟩=some (.string N):=hp6.cell 0;have q1:w6.cell? ⟨p9,1,none⟩=some (.string V):=hp6.cell 1;obtain ⟨w7,hw7⟩:∃w7,w6.alloc (.cells #[.int .i64 (i:Int)] 3)=w7:=⟨_,rfl⟩;have hb7:Below w6.heap.size w6 w7:=by rw[←hw7];exact (Below.refl _ _).alloc (Nat.le_refl _) _
        have hp7:Blk w7 w6.heap.size 3 #[.int .i64 (i:Int)]:=by rw[←hw7];exact Blk.new _ _ _
        have hrow7:w7.ownsRow (q+2) 54 1 vs' (i+1) (((hs.map Hd3.l).take (i+1)).flatMap encH):=by rw[←hw7];exact hrow6.alloc _
        have hmap7:=hmap6.below hb7;have hB7:Below (q+2) w1 w7:=hB6.trans (hb7.mono (by have:=hB6.size;omega));have hq7:q+2≤w7.heap.size:=by have:=hB7.size;omega
        obtain ⟨b7,hb79⟩:∃p,w6.heap.size=p:=⟨_,rfl⟩;rw[hb79] at hp7;obtain ⟨v0,st,es1,clock1,hrun1,hrow0,hvm,hstp⟩:=hmap7.step x (by have:=HXZ.out;omega) i hq7;rw[HLB.out] at hrun1;have hg8:w7.grownBy (setBlock w7 m (.map es1 clock1)) (some m):=Kec _;have hsz8:=Kll w7 m (.map es1 clock1);have hm8:=Khs (.map es1 clock1) hmap7.h;obtain ⟨w8,hw8⟩:∃w8,setBlock w7 m (.map es1 clock1)=w8:=⟨_,rfl⟩;rw[hw8] at hrun1 hrow0 hstp hg8 hsz8 hm8
        have hb7m:some b7≠some m:=fun e=>by
         injection e with e;have h1:=hmap7.h;rw[←e] at h1;rw[show w7.heap[b7]? = _ from hp7] at h1;cases h1
        have hp8:Blk w8 b7 3 #[.int .i64 (i:Int)]:=hp7.grown hg8 hb7m;have hrow8:=hrow7.kept hg8 (Klk hrow7 hmap7.h);have hB8:Below (q+2) w1 w8:=hB7.trans ⟨hg8.os,hg8.tape,hg8.output,hg8.size,fun j hj=>hg8.block j (by omega) (fun e=>by injection e with e;omega)⟩;obtain ⟨A0,cap0,rfl⟩:=Kar hrow0;obtain ⟨n0,hn0⟩:∃n0,(Keh ((Kam c).take i) l k x).length=n0:=⟨_,rfl⟩
        have hn0le:n0≤i+1:=by
         rw[←hn0];unfold Keh;have h1:=Kli ((Kam c).take i) x;rw[HST2.out] at h1
         split
         ·rw[Jd,List.length_singleton];omega
         ·omega
        rw[hn0] at hrow0 hstp hrun1 hvm;have HSTP:=Jh hstp;have HM8:=Jh hm8;have HVM:=Jh hvm;have HROW8:=Jh hrow8;have HB8:=Jh hB8;have HSZ8:=Jh hsz8;have hq8:q+2≤w8.heap.size:=by omega
        have HROW0:=Jh hrow0;have HP8:=Jh hp8;clear hw6 hp9 hb6 hp6 hB6 hrow6 hmap6 hb7 hp7 hrow7 hmap7 hB7 hg8 hsz8 hb7m hp8 hrow8 hB8 hstp hw8 a0 a1 hBz hn0 hvm hm8;go_wp2_with (at_builtin;refine wpList_append_own_at _ rfl _ _ 69 rfl (q+2) 3 i1 (.int .i64 0) 1 8 Tryz.underlying69 hi1 hy0 hy1 hy2 rfl (by decide) _ _ _ rfl HROW0.out ⟨b7,0,none⟩ 1 1 [.int .i64 (i:Int)] rfl rfl (Kbg (l:=[.int .i64 (i:Int)]) HP8.out) ?p2 ?p3 ?p4 ?p5 ?_)
        case p2=>first | rfl | (intro u hu;rw[List.mem_singleton.1 hu];rfl)
        case p3=>unfold maxLen;omega
        case p4=>omega
        case p5=>omega
        intro v' w9 hown' hgrow _ hat;obtain ⟨es',clock',hrun2,hL',_⟩:=HSTP.out w9 v' hgrow hown' (hat.imp id (fun h=>by rw[HSZ8.out] at h;exact h));rw[HSTEP.out] at hL';have hg10:w9.grownBy (setBlock w9 m (.map es' clock')) (some m):=Kec _;obtain ⟨w10,hw10⟩:∃w10,setBlock w9 m (.map es' clock')=w10:=⟨_,rfl⟩;rw[hw10] at hrun2 hL' hg10;have hm9:w9.heap[m]? = some (.map es1 clock1):=(hgrow.block m (Array.getElem?_eq_some_iff.1 HM8.out).1 (Ne.symm HVM.out)).trans HM8.out;have hrow9:=HROW8.out.kept hgrow (Kcm HROW8.out HROW0.out (by decide));have hrow10:=hrow9.kept hg10 (Klk hrow9 hm9);have hB10:Below (q+2) w1 w10:=(HB8.out.trans ⟨hgrow.os,hgrow.tape,hgrow.output,hgrow.size,fun j hj=>hgrow.block j (by omega) (fun e=>by have:=(World.ownsRow.lt HROW0.out j e.symm).1;omega)⟩).trans ⟨hg10.os,hg10.tape,hg10.output,hg10.size,fun j hj=>hg10.block j (by have:=hgrow.size;omega) (fun e=>by injection e with e;omega)⟩;have HL10:=Jh hL';have HROW10:=Jh hrow10;have HB10:=Jh hB10;clear hown' hgrow hat hL' hg10 hw10 hm9 hrow9 hrow10 hB10;go_wp2_with fail
        go_roundg (gk - 1)
        case measure=>have:=HKG.out;omega
        case rel=>exact ⟨k+1,by have:=HKG.out;omega,by go_num,HROW10.out,⟨_,_,HL10.out⟩,HB10.out⟩
       ·have el:decide (k < ln)=false:=by rw[decide_eq_false_iff_not];omega
        have hkl:k=l.length:=by have:=HKG.out;have:=HLN.out;omega
        have hfst:FstAt c hs q m (i+1) vs' w1 wr:=⟨HROWK.out,⟨_,_,by
         have h1:=HMAPK.out;rw[hkl,Kyn,←HST1.out] at h1
         exact h1.mono (by have:=HVAL.out.2.2.1;omega)⟩,HBRK.out⟩
        have HFST:=Jh hfst;clear hfst hkl;go_wp2_with fail
        go_meet
        exact ⟨_,rfl,HFST.out⟩
     case rest=>
      obtain ⟨vs',rfl,hst⟩:=hcut;have HFST:=Jh hst;clear hst;go_wp2_with fail
      go_roundg (gk - 1)
      case measure=>have:=HIG.out;omega
      case rel=>exact ⟨i+1,_,rfl,by have:=HIG.out;omega,by go_num,HFST.out⟩
    ·have el:decide (i < n)=false:=by rw[decide_eq_false_iff_not];omega
     have hin:i=n:=by have:=HIG.out;omega
     have hst:FstAt c hs q m n vs w1 wr:=by rw[←hin];exact HST.out
     have HST2:=Jh hst;clear hst hin;go_wp2_with fail
     go_meet
     exact ⟨_,rfl,HST2.out⟩
  case rest=>
   obtain ⟨vs,rfl,hst⟩:=hcut;obtain ⟨w4,rfl⟩:∃x,x=wc:=⟨_,rfl⟩;obtain ⟨hrow,⟨es,clock,hmap⟩,hb4⟩:=hst;have hsl:(Kam c).length=n:=by unfold Kam;rw[List.length_map];exact HLEN.out
   have hml:(hs.map Hd3.l).length=n:=by rw[List.length_map];exact hhl
   rw[List.take_of_length_le (by omega)] at hmap;rw[List.take_of_length_le (by omega)] at hrow;have hBW:Below w.heap.size w w4:=by rw[HQ.out];exact HB1.out.trans (hb4.mono (by omega))
   obtain ⟨AS,cs,rfl,hES,hjk1,hjk2⟩:=Elems.of_own (fun x _=>Qcf x) rfl hrow hml
   have hSets:Sets w4 AS n (Kam c):=by
    refine ⟨_,hES,hsl,fun i h hi=>?_⟩;rw[List.getElem?_map] at hi
    cases hx:hs[i]? with
    | none=>rw[hx] at hi;cases hi
    | some x=>
     rw[hx] at hi;injection hi with hi;subst hi;have h1:=HSA.out i x hx;have hic:i < c.series.length:=by have:=(List.getElem?_eq_some_iff.1 hx).1;have:=HLEN.out;omega
     have e:(Kam c)[i]! = (c.series[i]!).labels:=by
      have e2:(Kam c)[i]? = some (c.series[i]!).labels:=by
       unfold Kam;rw[List.getElem?_map,List.getElem?_eq_getElem hic,getElem!_pos _ i hic];rfl
      rw[List.getElem!_eq_getElem?_getD,e2];rfl
     rw[e];exact ⟨(h1.l.below hBW).more hBW.size,h1.lc⟩
   have hsz8:∀s∈Kam c,s.length≤8∧∀x∈s,x.n.length≤32∧x.v.length≤64:=fun s hs=>by
    unfold Kam at hs;obtain ⟨y,hy,rfl⟩:=List.mem_map.1 hs;have:=Kfq (HC.out y hy).1;exact ⟨this.2.2.1,this.2.2.2.1⟩
   have hall:(allT (Kam c)).length≤16*n:=by
    have:=Kmm (L:=Kam c) fun s hs=>(hsz8 s hs).1
    omega
   have htxt:∀x∈allT (Kam c),x.length≤64:=fun x hx=>by
    obtain ⟨s,hs,hx⟩:=List.mem_flatMap.1 hx;obtain ⟨y,hy,h1 | h1⟩:=Qbc hx
    ·rw[h1];have:=((hsz8 s hs).2 y hy).1;omega
    ·rw[h1];have:=((hsz8 s hs).2 y hy).2;omega
   have HCO:=Jh (Kqt (Kam c) AS n cs w4 hSets (by omega) (by omega) (fun x hx=>by have:=htxt x hx;omega));have HMAP:=Jh hmap;have HB4:=Jh hb4;have HALL:=Jh hall;have HSZS:=Jh (HSZ.out (by first | trivial | rfl));have hq4:q+2≤w4.heap.size:=by have:=hb4.size;omega
   clear hrow hmap hb4 hBW hES hSets hsz8 hall htxt hsl hml hjk1 hjk2;go_wp2_with fail
   refine HCO.out.mono ?_;rintro _ w5 ⟨pt,T,rfl,htab,hist,htl,hb5,hpt⟩;obtain rfl:T=tabOf (Kam c):=hist.one (show IsTab (allT (Kam c)) _ from Ktt (Kam c));obtain ⟨T,hTT⟩:∃T,tabOf (Kam c)=T:=⟨_,rfl⟩;rw[hTT] at htab hist htl;have HTT:=Jh hTT;have HTAB:=Jh htab;have HIST:=Jh hist;have HTL:=Jh htl;have HB5:=Jh (show Below (q+2) w1 w5 from HB4.out.trans (hb5.mono (by omega)));have HMAP5:=Jh (HMAP.out.below hb5);clear htab hist htl hb5 hpt hTT hq4;go_upto_region 17 with fail
   have hbd1:BldR w5.heap.size w5.heap.size none [] (w5.alloc (.cells #[.pointer none,.slice none 0 0] 109)):=BldR.new w5 (Nat.le_refl _)
   have hbd2:BldR w5.heap.size (w5.heap.size+1) none [] ((w5.alloc (.cells #[.pointer none,.slice none 0 0] 109)).alloc (.cells #[.pointer none,.slice none 0 0] 109)):=by
    have:=BldR.new (B:=w5.heap.size) (w5.alloc (.cells #[.pointer none,.slice none 0 0] 109)) (by simp);rw[World.size_alloc] at this;exact this
   have hb6:Below w5.heap.size w5 ((w5.alloc (.cells #[.pointer none,.slice none 0 0] 109)).alloc (.cells #[.pointer none,.slice none 0 0] 109)):=((Below.refl _ _).alloc (Nat.le_refl _) _).alloc (by simp) _;have htw6:Two w5.heap.size w5.heap.size (w5.heap.size+1) [] [] ((w5.alloc (.cells #[.pointer none,.slice none 0 0] 109)).alloc (.cells #[.pointer none,.slice none 0 0] 109)):=⟨none,none,hbd1.below ((Below.refl _ _).alloc (Nat.le_refl _) _),hbd2,by omega,fun k h=>by cases h⟩;obtain ⟨w6,hw6⟩:∃w6,(w5.alloc (.cells #[.pointer none,.slice none 0 0] 109)).alloc (.cells #[.pointer none,.slice none 0 0] 109)=w6:=⟨_,rfl⟩;rw[hw6] at hb6 htw6 ⊢;have hq5:q+2≤w5.heap.size:=by have:=HB5.out.size;omega
   have HK5:=Jh (HK1.out.below HB5.out (by omega));have HF5:=Jh (HF1.out.below HB5.out (by omega));have HBW5:Hid (Below w.heap.size w w5):=Jh (by rw[HQ.out];exact HB1.out.trans (HB5.out.mono (by omega)));obtain ⟨d,hd⟩:∃d,w5.heap.size=d:=⟨_,rfl⟩;have HD:=Jh hd;rw[hd] at hb6 htw6 hq5 ⊢
   have htz:(tabT T).length≤35184372088832:=by
    have h1:=HSZS.out.2;unfold Kcc at h1;rw[HTT.out,Jd] at h1;omega
   have HSE:=Jh (Knz (.pointer (some ⟨pt,0,none⟩)) T w6 (HTAB.out.below (hd.symm▸hb6)) (by have:=HTL.out;have:=HALL.out;omega) (by omega));obtain ⟨X,hX⟩:∃X:ByteArray,(⟨(tabT T).toArray⟩:ByteArray)=X:=⟨_,rfl⟩;have hXd:X.data.toList=tabT T:=by rw[←hX]
   have hXs:X.size=(tabT T).length:=by rw[←Kaj,hXd]
   rw[hX] at HSE;have HXD:=Jh hXd;have HB6:=Jh hb6;have HTW6:=Jh htw6;have hd6:d≤w6.heap.size:=by have:=hb6.size;omega
   clear hbd1 hbd2 hw6 hd hX hXd hb6 htw6;go_wp2_with fail
   refine HSE.out.mono ?_;rintro _ w7 ⟨rfl,hb7⟩;have HB7:=Jh (HB6.out.trans (hb7.mono hd6));have hd7:d≤w7.heap.size:=by have:=hb7.size;omega
   have HW7:=Jh (Kdp X w7 (HTW6.out.below hb7) (by simp;omega) hd7);clear hb7 HB6 HTW6 HSE;go_wp2_with fail
   refine HW7.out.mono ?_;rintro _ w8 ⟨rfl,htw8,hb8,hjk3⟩;clear hjk3;rw[List.nil_append,HXD.out] at htw8;have HB8:=Jh (HB7.out.trans hb8);have hd8:d≤w8.heap.size:=by have:=hb8.size;omega
   have hk8:=HK5.out.below HB8.out (by omega);have k3:w8.cell? ⟨q,3,none⟩=some (.slice A n cc):=hk8.cell 3;have hu:=Kat n (by omega) w8;obtain ⟨U,hU⟩:∃U:ByteArray,(⟨(uintT n).toArray⟩:ByteArray)=U:=⟨_,rfl⟩;have hUd:U.data.toList=uintT n:=by rw[←hU]
   have hUs:U.size≤11:=by rw[←Kaj,hUd];exact (Kab n).2
   rw[hU] at hu;have HU:=Jh hu;have HUD:=Jh hUd;have HTW8:=Jh htw8;clear hb8 hk8 hu hU hUd htw8 HB7 HW7;go_wp2_with fail
   refine HU.out.mono ?_;rintro _ w9 ⟨rfl,hb9⟩;have HB9:=Jh (HB8.out.trans (hb9.mono hd8));have hd9:d≤w9.heap.size:=by have:=hb9.size;omega
   have HW9:=Jh (Kdp U w9 (HTW8.out.below hb9) (by omega) hd9);clear hb9 k3;go_wp2_with fail
   refine HW9.out.mono ?_;rintro _ w10 ⟨rfl,htw10,hb10,hjk3⟩;clear hjk3;have hix:tabT T++U.data.toList=ixAt c T 0:=by unfold ixAt;rw[HUD.out,HLEN.out,List.take_zero];simp
   rw[hix] at htw10;have HB10:=Jh (HB9.out.trans hb10);have hd10:d≤w10.heap.size:=by have:=hb10.size;omega
   have HTW10:=Jh (show Two d d (d+1) (ckAt c 0) (ixAt c T 0) w10 from htw10);have hk10:=HK5.out.below HB10.out (by omega);have k3:w10.cell? ⟨q,3,none⟩=some (.slice A n cc):=hk10.cell 3;clear htw10 hb10 hk10 hix HB9 HB8 HW9 HTW8;go_upto_block 4 with fail
   go_cut [] (fun wz=>Two d d (d+1) (ckAt c n) (ixAt c T n) wz∧Below d w5 wz)
   case first=>
    go_wp2_with fail
    go_loopg [70] n (fun g s70 wr=>∃i:Nat,i+g=n∧s70 = .int .i64 (i:Int)∧Two d d (d+1) (ckAt c i) (ixAt c T i) wr∧Below d w5 wr)
    case atStart=>exact ⟨0,by omega,rfl,HTW10.out,HB10.out⟩
    case round=>
     obtain ⟨i,hig,rfl,htw,hbr⟩:=hrel;have HIG:=Jh hig;have HTW:=Jh htw;have HBR:=Jh hbr;clear hig htw hbr
     by_cases hi:i < n
     ·have el:decide (i < n)=true:=by rw[decide_eq_true_eq];omega
      obtain ⟨wo,rfl⟩:∃x,x=wr:=⟨_,rfl⟩;have hBWo:Below w.heap.size w wo:=HBW5.out.trans (HBR.out.mono (by have:=HQ.out;omega));obtain ⟨bb,off,hA,hbb,hcell⟩:=HSE.out.2 (by omega);subst hA;have hil:i < hs.length:=by omega
      obtain ⟨x,hx⟩:∃x,hs[i]=x:=⟨_,rfl⟩;have hxi:hs[i]? = some x:=by rw[List.getElem?_eq_getElem hil,hx]
      have hsa:=(HSA.out i x hxi).below hBWo;have hcl:=hcell i x hxi;obtain ⟨⟨LA,ln,lc⟩,⟨SA,sn,sc⟩,⟨WA,wn,wc9⟩⟩:=x;have c0:wo.cell? ⟨bb,off+i*3,none⟩=some (.slice LA ln lc):=later hBWo (by simpa using hcl 0 _ rfl);have c1:wo.cell? ⟨bb,off+i*3+1,none⟩=some (.slice SA sn sc):=later hBWo (by simpa using hcl 1 _ rfl);have c2:wo.cell? ⟨bb,off+i*3+2,none⟩=some (.slice WA wn wc9):=later hBWo (by simpa using hcl 2 _ rfl);have hic:i < c.series.length:=by have:=HLEN.out;omega
      have hmem:c.series[i]!∈c.series:=by rw[getElem!_pos _ i hic];exact List.getElem_mem hic
      have hcs:=HC.out _ hmem;have hzs:=HZ.out _ hmem;have hixs:=Qaa (T:=T) hic;have hcks:=Kzh hic;have hixl:=Kwi c (i+1);have hckl:=Qdx c (i+1);rw[HTT.out] at hixl;have hsets:(c.series[i]!).labels∈Kam c:=List.mem_map.2 ⟨_,hmem,rfl⟩;obtain ⟨s,hs9⟩:∃s,c.series[i]! = s:=⟨_,rfl⟩;rw[hs9] at hsa hcs hzs hixs hcks hsets;have hval:=Kfq hcs.1;have hpk:packR T s.labels=(pk T s.labels,0):=Qaq HIST.out.1 hval.2.2.2.2 (fun x hx=>(HIST.out.2 x).2 (List.mem_flatMap.2 ⟨_,hsets,hx⟩))
      obtain ⟨f0,f1⟩:0≤c.frm∧c.to_≤1125899906842625:=by
       obtain ⟨_,_,a,_,b,_⟩:=Kcn.1 HF.out;exact ⟨a,b⟩
      obtain ⟨hpo1,hpo2⟩:=Qcw hcs.2 f0 f1 hzs.v;have hpl:=Kyl s;have hplz:=hzs.n;have hlen1:=hsa.l.len;rw[hixs] at hixl;rw[hcks] at hckl;have hser:serT T s=pk T s.labels++(uintT (Kbb s).length++lensT (Kbb s)):=rfl;rw[hser] at hixl hixs;simp only[Jd] at hixl hckl;have hI2:=HSZS.out.2;have hC2:=HSZS.out.1;have HVAL:=Jh hval;have HPK0:=Jh hpk;have HIXS:=Jh hixs;have HCKS:=Jh hcks;have HPO1:=Jh hpo1;have HPO2:=Jh hpo2;have HZS:=Jh hzs;have HSA9:=Jh hsa;clear hsa hcl hcell hxi hx hmem hcs hzs hixs hcks hsets hs9 hval hpk f0 f1 hpo1 hpo2 hser hbb;go_upto_block 5 with fail
      go_cut [] (fun wz=>Two d d (d+1) (ckAt c (i+1)) (ixAt c T (i+1)) wz∧Below d w5 wz)
      case first=>
       go_upto_region 22 with fail
       have hb12:Below wo.heap.size wo (wo.alloc (.cells #[.slice LA ln lc,.slice SA sn sc,.slice WA wn wc9] 58)):=(Below.refl _ _).alloc (Nat.le_refl _) _;have hp12:Blk (wo.alloc (.cells #[.slice LA ln lc,.slice SA sn sc,.slice WA wn wc9] 58)) wo.heap.size 58 #[.slice LA ln lc,.slice SA sn sc,.slice WA wn wc9]:=Blk.new _ _ _;obtain ⟨w12,hw12⟩:∃w12,wo.alloc (.cells #[.slice LA ln lc,.slice SA sn sc,.slice WA wn wc9] 58)=w12:=⟨_,rfl⟩;obtain ⟨p,hp⟩:∃p,wo.heap.size=p:=⟨_,rfl⟩;have hdo:d≤wo.heap.size:=by have:=HBR.out.size;have:=HD.out;omega
       rw[hw12] at hb12 hp12 ⊢;have hB12:Below d w5 w12:=HBR.out.trans (hb12.mono hdo);have htw12:=HTW.out.below hb12;have hsa12:=HSA9.out.below hb12;rw[hp] at hp12 ⊢;have s0:w12.cell? ⟨p,0,none⟩=some (.slice LA ln lc):=hp12.cell 0;have HP12:=Jh hp12;have htab12:=HTAB.out.below (HD.out.symm▸hB12);have HPK:=Jh (Kyj (.pointer (some ⟨pt,0,none⟩)) T s.labels LA ln lc w12 (pk T s.labels) 0 HPK0.out htab12 HIST.out.1 (by have:=HTL.out;have:=HALL.out;omega) hsa12.l hsa12.lc (by have:=HVAL.out.2.2.1;have:s.labels.length=ln:=hlen1;omega) (fun x hx=>by have:=HVAL.out.2.2.2.1 x hx;omega));obtain ⟨X2,hX2⟩:∃X:ByteArray,(⟨(pk T s.labels).toArray⟩:ByteArray)=X:=⟨_,rfl⟩;have hX2d:X2.data.toList=pk T s.labels:=by rw[←hX2]
       have hX2s:X2.size=(pk T s.labels).length:=by rw[←Kaj,hX2d]
       rw[hX2] at HPK;have HX2D:=Jh hX2d;have HB12:=Jh hB12;have HTW12:=Jh htw12;have HSA12:=Jh hsa12;have hd12:d≤w12.heap.size:=by have:=hb12.size;omega
       clear hb12 hp12 hw12 hp hB12 htw12 hsa12 htab12 hX2 hX2d c0 c1 c2 hBWo;go_wp2_with fail
       refine HPK.out.mono ?_;rintro _ w13 ⟨rfl,hb13⟩;have hp13:=HP12.out.below hb13 HP12.out.lt;have s0:w13.cell? ⟨p,0,none⟩=some (.slice LA ln lc):=hp13.cell 0;have s1:w13.cell? ⟨p,1,none⟩=some (.slice SA sn sc):=hp13.cell 1;have s2:w13.cell? ⟨p,2,none⟩=some (.slice WA wn wc9):=hp13.cell 2;have hB13:Below d w5 w13:=HB12.out.trans (hb13.mono hd12);have hpa:=Kvk s ⟨⟨LA,ln,lc⟩,⟨SA,sn,sc⟩,⟨WA,wn,wc9⟩⟩ w13 (HSA12.out.below hb13) HZS.out.n HZS.out.m HZS.out.v HZS.out.b (HT.out.below (HBW5.out.trans (hB13.mono (by have:=HQ.out;omega)))) HPO1.out HPO2.out;unfold serV at hpa;dsimp only at hpa;have HPA:=Jh hpa;have HB13:=Jh hB13;have HTW13:=Jh (HTW12.out.below hb13);have hd13:d≤w13.heap.size:=by have:=hb13.size;omega
       clear hb13 hp13 hB13 hpa;go_wp2_with fail
       refine HPA.out.mono ?_;rintro _ w14 ⟨v,rfl,hown,hb14⟩;obtain ⟨AP,cp,rfl⟩:=Kar hown;obtain ⟨P,hP⟩:∃P,Kbb s=P:=⟨_,rfl⟩;rw[hP] at hown hixl hckl hpl ⊢;obtain ⟨np,hnp⟩:∃np,P.length=np:=⟨_,rfl⟩;rw[hnp] at hown hixl hpl ⊢;have HP:=Jh hP;have HNP:=Jh hnp;have HB14:=Jh (HB13.out.trans (hb14.mono hd13));have HOWN:=Jh hown;have hd14:d≤w14.heap.size:=by have:=hb14.size;omega
       have HW14:=Jh (Kdp X2 w14 (HTW13.out.below hb14) (by omega) hd14);clear hb14 hown hP hnp s0 s1 s2;go_wp2_with fail
       refine HW14.out.mono ?_;rintro _ w15 ⟨rfl,htw15,hb15,hr15⟩;have HB15:=Jh (HB14.out.trans hb15);have HOWN15:=Jh (hr15.own HOWN.out (by decide) (by decide));have HTW15:=Jh htw15;have hd15:d≤w15.heap.size:=by have:=hb15.size;omega
       have hu2:=Kat np (by omega) w15;obtain ⟨U2,hU2⟩:∃U:ByteArray,(⟨(uintT np).toArray⟩:ByteArray)=U:=⟨_,rfl⟩;have hU2d:U2.data.toList=uintT np:=by rw[←hU2]
       have hU2s:U2.size=(uintT np).length:=by rw[←Kaj,hU2d]
       rw[hU2] at hu2;have HU2:=Jh hu2;have HU2D:=Jh hU2d;clear hu2 hU2 hU2d htw15 hb15 hr15;go_wp2_with fail
       refine HU2.out.mono ?_;rintro _ w16 ⟨rfl,hb16⟩;have HB16:=Jh (HB15.out.trans (hb16.mono hd15));have HOWN16:=Jh ((Rest.below hb16).own HOWN15.out (by decide) (by decide));have hd16:d≤w16.heap.size:=by have:=hb16.size;omega
       have hx2l:(ixAt c T i++X2.data.toList).length=(ixAt c T i).length+(pk T s.labels).length:=by rw[Jd,HX2D.out]
       have HW16:=Jh (Kdp U2 w16 (HTW15.out.below hb16) (by omega) hd16);clear hb16;go_wp2_with fail
       refine HW16.out.mono ?_;rintro _ w17 ⟨rfl,htw17,hb17,hr17⟩;rw[HX2D.out,HU2D.out] at htw17;have HB17:=Jh (HB16.out.trans hb17);have HOWN17:=Jh (hr17.own HOWN16.out (by decide) (by decide));have hd17:d≤w17.heap.size:=by have:=hb17.size;omega
       have HTW17:=Jh (show Two d d (d+1) (ckAt c i++(P.take 0).flatten) (ixAt c T i++pk T s.labels++uintT np++lensT (P.take 0)) w17 by simpa[lensT] using htw17);clear htw17 hb17 hr17 hx2l;go_wp2_with fail
       go_loopg [92] np (fun g s92 wz=>∃k:Nat,k+g=np∧s92 = .int .i64 (k:Int)∧Two d d (d+1) (ckAt c i++(P.take k).flatten) (ixAt c T i++pk T s.labels++uintT np++lensT (P.take k)) wz∧wz.ownsRow w13.heap.size 9 1 (.slice AP np cp) np (P.map txtV)∧Below d w5 wz)
       case atStart=>exact ⟨0,by omega,rfl,HTW17.out,HOWN17.out,HB17.out⟩
       case round=>
        obtain ⟨k,hkg,rfl,htw,hown,hbr⟩:=hrel;have HKG:=Jh hkg;have HTWK:=Jh htw;have HOWNK:=Jh hown;have HBRK:=Jh hbr;obtain ⟨wk,rfl⟩:∃x,x=wr:=⟨_,rfl⟩;clear hkg htw hown hbr
        by_cases hk:k < np
        ·have el:decide (k < np)=true:=by rw[decide_eq_true_eq];omega
         have hkP:k < P.length:=by have:=HNP.out;omega
         obtain ⟨AQ,cq,he,hstr,_,_⟩:=Strs.of_own HOWNK.out HNP.out;injection he with e1 _ e2;subst e1 e2;obtain ⟨bp,op,hAP,hbp,hcp⟩:=hstr.at_ hk;subst hAP;obtain ⟨hft1,hft2⟩:=Ksi hkP;have hlt:=Kya hkP;have hll:=Qac (P.take k);have htkl:(P.take k).length≤k:=by rw[List.length_take];omega
         obtain ⟨Y,hY⟩:∃Y:ByteArray,(⟨P[k]!.toArray⟩:ByteArray)=Y:=⟨_,rfl⟩;have hYd:Y.data.toList=P[k]!:=by rw[←hY]
         have hYs:Y.size=(P[k]!).length:=by rw[←Kaj,hYd]
         have hcp2:wk.cell? ⟨bp,op+k,none⟩=some (.string Y):=by rw[hcp];unfold txtV;rw[hY]
         rw[←hYs] at hlt;rw[hft1,Jd,←hYs] at hft2;have hYz:Y.size≤35184372088832:=by omega
         have hu3:=Kat Y.size (by omega) wk;obtain ⟨U3,hU3⟩:∃U:ByteArray,(⟨(uintT Y.size).toArray⟩:ByteArray)=U:=⟨_,rfl⟩;have hU3d:U3.data.toList=uintT Y.size:=by rw[←hU3]
         have hU3s:U3.size≤11:=by rw[←Kaj,hU3d];exact (Kab _).2
         rw[hU3] at hu3;have HU3:=Jh hu3;have HU3D:=Jh hU3d;have HFT:=Jh hft1;have HLT:=Jh hlt;have HYD:=Jh hYd;have hdk:d≤wk.heap.size:=by have:=HBRK.out.size;have:=HD.out;omega
         clear hu3 hU3 hU3d hft1 hlt hY hYd hcp hstr hYs;go_wp2_with fail
         refine HU3.out.mono ?_;rintro _ w18 ⟨rfl,hb18⟩;have HB18:=Jh (HBRK.out.trans (hb18.mono hdk));have HOWN18:=Jh ((Rest.below hb18).own HOWNK.out (by decide) (by decide));have hd18:d≤w18.heap.size:=Nat.le_trans hdk hb18.size;have HW18:=Jh (Kdp U3 w18 (HTWK.out.below hb18) (by rw[Jd,Jd,Jd];exact bnd1 hixl hI2 hll htkl hk (Nat.le_trans hpl (Nat.add_le_add_right hplz 1)) hU3s) hd18);clear hb18;go_wp2_with fail
         refine HW18.out.mono ?_;rintro _ w19 ⟨rfl,htw19,hb19,hr19⟩;have HB19:=Jh (HB18.out.trans hb19);have HOWN19:=Jh (hr19.own HOWN18.out (by decide) (by decide));have hd19:d≤w19.heap.size:=Nat.le_trans hd18 hb19.size;have HW19:=Jh (Koi Y w19 htw19 (by rw[Jd];exact bnd2 hckl hC2 hft2) hd19);clear hb19 hr19 htw19;go_wp2_with fail
         refine HW19.out.mono ?_;rintro _ w20 ⟨rfl,htw20,hb20,hr20⟩
         have HFIN:Hid (Two d d (d+1) (ckAt c i++(P.take (k+1)).flatten) (ixAt c T i++pk T s.labels++uintT np++lensT (P.take (k+1))) w20):=Jh (by
          rw[HFT.out,HLT.out];rw[HU3D.out,HYD.out] at htw20
          simpa only[List.append_assoc] using htw20)
         have HB20:=Jh (HB19.out.trans hb20);have HOWN20:=Jh (hr20.own HOWN19.out (by decide) (by decide));clear hb20 hr20 htw20;go_wp2_with fail
         go_roundg (gk - 1)
         case measure=>have:=HKG.out;omega
         case rel=>exact ⟨k+1,by have:=HKG.out;omega,by go_num,HFIN.out,HOWN20.out,HB20.out⟩
        ·have el:decide (k < np)=false:=by rw[decide_eq_false_iff_not];omega
         have hkn:k=P.length:=by have:=HKG.out;have:=HNP.out;omega
         have HFIN:Hid (Two d d (d+1) (ckAt c (i+1)) (ixAt c T (i+1)) wk∧Below d w5 wk):=Jh (by
          have h1:=HTWK.out;rw[hkn,List.take_length] at h1;rw[HCKS.out,HIXS.out,HP.out,HNP.out];refine ⟨?_,HBRK.out⟩
          simpa only[List.append_assoc] using h1)
         clear hkn;go_wp2_with fail
         go_meet
         exact HFIN.out
      case rest=>
       obtain ⟨htw,hbr⟩:=hcut;have HTW9:=Jh htw;have HBR9:=Jh hbr;clear htw hbr;go_wp2_with fail
       go_roundg (gk - 1)
       case measure=>have:=HIG.out;omega
       case rel=>exact ⟨i+1,by have:=HIG.out;omega,by go_num,HTW9.out,HBR9.out⟩
     ·have el:decide (i < n)=false:=by rw[decide_eq_false_iff_not];omega
      have hin:i=n:=by have:=HIG.out;omega
      have HE:Hid (Two d d (d+1) (ckAt c n) (ixAt c T n) wr∧Below d w5 wr):=Jh (by rw[←hin];exact ⟨HTW.out,HBR.out⟩);clear hin;go_wp2_with fail
      go_meet
      exact HE.out
   case rest=>
    obtain ⟨htw,hb11⟩:=hcut;obtain ⟨w11,rfl⟩:∃x,x=wc:=⟨_,rfl⟩;have hd11:d≤w11.heap.size:=by have:=hb11.size;have:=HD.out;omega
    have hend:=Qcj c;have hcend:=Qca c;have hixl:=Kwi c n;rw[HLEN.out] at hend hcend;rw[HTT.out] at hend hixl;rw[hcend] at htw;have hI2:=HSZS.out.2;have hC2:=HSZS.out.1;have hlz:(Kcq (Kam c)).length≤35184372088832:=by omega
    have hslen:(Kam c).length≤1099511627776:=by unfold Kam;rw[List.length_map,HLEN.out];omega
    have HLI:=Jh (Kva (Kam c) m (n*8) (q+2) es clock w11 (HMAP5.out.below (HD.out.symm▸hb11)) (by omega) hslen hlz);obtain ⟨X3,hX3⟩:∃X:ByteArray,(⟨(Kcq (Kam c)).toArray⟩:ByteArray)=X:=⟨_,rfl⟩;have hX3d:X3.data.toList=Kcq (Kam c):=by rw[←hX3]
    have hX3s:X3.size=(Kcq (Kam c)).length:=by rw[←Kaj,hX3d]
    rw[hX3] at HLI;have HX3D:=Jh hX3d;have HTW11:=Jh htw;have HB11:=Jh hb11;have HEND:=Jh hend;clear htw hb11 hend hcend hX3 hX3d hslen;go_wp2_with fail
    refine HLI.out.mono ?_;rintro _ w12 ⟨rfl,hb12⟩;have HB12:=Jh (HB11.out.trans (hb12.mono hd11));have hd12:d≤w12.heap.size:=by have:=hb12.size;omega
    have HW12:=Jh (Kdp X3 w12 (HTW11.out.below hb12) (by omega) hd12);clear hb12;go_wp2_with fail
    refine HW12.out.mono ?_;rintro _ w13 ⟨rfl,htw13,hb13,hjk3⟩;clear hjk3;rw[HX3D.out,HEND.out] at htw13;have HB13:=Jh (HB12.out.trans hb13);have HTW13:=Jh htw13;have hd13:d≤w13.heap.size:=by have:=hb13.size;omega
    have hk13:=HK5.out.below HB13.out (by omega);have k0:w13.cell? ⟨q,0,none⟩=some (.int .i64 r):=hk13.cell 0;have k1:w13.cell? ⟨q,1,none⟩=some (.int .i64 f):=hk13.cell 1;have k2:w13.cell? ⟨q,2,none⟩=some (.int .i64 t):=hk13.cell 2
    obtain ⟨g0,g1,g2,g3,g4⟩:0≤c.res∧c.res < 3∧0≤c.frm∧c.frm < c.to_∧c.to_≤1125899906842625:=by
     obtain ⟨a,b,e,f,g,_⟩:=Kcn.1 HF.out;exact ⟨a,b,e,f,g⟩
    have hmeta:metaB c=uintT c.res.toNat++(intT c.frm++intT c.to_):=rfl;rw[HRR.out] at g0 g1 hmeta;rw[HRF.out] at g2 g3 hmeta;rw[HRT.out] at g3 g4 hmeta;obtain ⟨rn,rfl⟩:∃rn:Nat,r=(rn:Int):=⟨r.toNat,by omega⟩;rw[Int.toNat_natCast] at hmeta;have HR1:=Jh (fun u:Later w13=>Kat rn (by omega) u.w);have HI1:=Jh (fun u:Later w13=>Kpt f (by omega) (by omega) u.w);have HI2:=Jh (fun u:Later w13=>Kpt t (by omega) (by omega) u.w);obtain ⟨M0,hM0⟩:∃X:ByteArray,(⟨(uintT rn).toArray⟩:ByteArray)=X:=⟨_,rfl⟩;obtain ⟨M1,hM1⟩:∃X:ByteArray,(⟨(intT f).toArray⟩:ByteArray)=X:=⟨_,rfl⟩;obtain ⟨M2,hM2⟩:∃X:ByteArray,(⟨(intT t).toArray⟩:ByteArray)=X:=⟨_,rfl⟩;have hM0d:M0.data.toList=uintT rn:=by rw[←hM0]
    have hM1d:M1.data.toList=intT f:=by rw[←hM1]
    have hM2d:M2.data.toList=intT t:=by rw[←hM2]
    have hM0s:M0.size≤11:=by rw[←Kaj,hM0d];exact (Kab _).2
    have hM1s:M1.size≤11:=by rw[←Kaj,hM1d];exact (Kab _).2
    have hM2s:M2.size≤11:=by rw[←Kaj,hM2d];exact (Kab _).2
    rw[hM0] at HR1;rw[hM1] at HI1;rw[hM2] at HI2
    have hmd:(M0++M1++M2).data.toList=metaB c:=by
     rw[hmeta];simp only[ByteArray.data_append,Array.toList_append,hM0d,hM1d,hM2d,List.append_assoc]
    have HMD:=Jh hmd;clear hM0 hM1 hM2 hM0d hM1d hM2d hmd hmeta hk13 htw13 hb13 k3;have hq13:q < w13.heap.size:=Nat.lt_of_lt_of_le (Nat.lt_of_lt_of_le (Nat.lt_add_of_pos_right (by decide:0 < 2)) hq5) hd13;go_upto_region 34 with fail
    refine Kau (by kernel_rfl) (by kernel_rfl) ?_
    repeat (go_big_quiet_step ((first | (go_at_call 42;with_reducible exact Kak _ (HR1.out _)) | (go_at_call 46;first | with_reducible exact Kak _ (HI1.out _) | with_reducible exact Kak _ (HI2.out _)))))
    refine wpQuiet_nil ?_;rintro w14 ⟨⟨_,hb14⟩,rfl⟩;obtain ⟨MB,hMB⟩:∃MB,M0++M1++M2=MB:=⟨_,rfl⟩;have hMBs:MB.size≤33:=by rw[←hMB,ByteArray.size_append,ByteArray.size_append];omega
    rw[hMB] at HMD ⊢;have hqd:w.heap.size≤d:=by rw[HQ.out];exact Nat.le_of_lt (Nat.lt_of_lt_of_le (Nat.lt_add_of_pos_right (by decide:0 < 2)) hq5)
    have HSL:=Jh (fun (s:ByteArray) (hs:s.size≤140737488351232) (W:World) (hb:Below d w5 W)=>Kyq s hs W (Kdt.below HN.out HN.out.lt (HBW5.out.trans (hb.mono hqd))));have HB14:=Jh (HB13.out.trans (hb14.mono hd13));have HTW14:=Jh (HTW13.out.below hb14);have hd14:d≤w14.heap.size:=Nat.le_trans hd13 hb14.size;have hs1:=HSL.out MB (by omega) w14 HB14.out;rw[HMD.out] at hs1;obtain ⟨S1,hS1⟩:∃S:ByteArray,(⟨(sealT (metaB c)).toArray⟩:ByteArray)=S:=⟨_,rfl⟩;rw[hS1] at hs1;have HS1:=Jh hs1;have HES1:=Jh hS1;clear hMB hb14 hs1 hS1 k0 k1 k2 HR1 HI1 HI2 hM0s hM1s hM2s;go_wp2_with fail
    refine HS1.out.mono ?_;rintro _ w15 ⟨rfl,hb15⟩;have HB15:=Jh (HB14.out.trans (hb15.mono hd14));have hd15:d≤w15.heap.size:=Nat.le_trans hd14 hb15.size;have hst:=Kys w15 (HTW14.out.below hb15) hd15;obtain ⟨CB,hCB⟩:∃S:ByteArray,(⟨(Kcy c).toArray⟩:ByteArray)=S:=⟨_,rfl⟩;rw[hCB] at hst;have hCBd:CB.data.toList=Kcy c:=by rw[←hCB]
    have hCBs:CB.size≤35184372088832:=by rw[←Kaj,hCBd];exact hC2
    have HST:=Jh hst;have HCBD:=Jh hCBd;clear hb15 hst hCB hCBd;go_wp2_with fail
    refine HST.out.mono ?_;rintro _ w16 ⟨rfl,⟨r2,hbd16⟩,hb16⟩;have HB16:=Jh (HB15.out.trans hb16);have hd16:d≤w16.heap.size:=Nat.le_trans hd15 hb16.size;have HBD16:=Jh hbd16;have hs2:=HSL.out CB (by omega) w16 HB16.out;rw[HCBD.out] at hs2;obtain ⟨S2,hS2⟩:∃S:ByteArray,(⟨(sealT (Kcy c)).toArray⟩:ByteArray)=S:=⟨_,rfl⟩;rw[hS2] at hs2;have HS2:=Jh hs2;have HES2:=Jh hS2;clear hb16 hbd16 hs2 hS2;go_wp2_with fail
    refine HS2.out.mono ?_;rintro _ w17 ⟨rfl,hb17⟩;have HB17:=Jh (HB16.out.trans (hb17.mono hd16));have hd17:d≤w17.heap.size:=Nat.le_trans hd16 hb17.size;have HBD17:=Jh (HBD16.out.below hb17);have hst2:=Khy d (d+1) r2 (Kcc c) w17 HBD17.out;obtain ⟨IB,hIB⟩:∃S:ByteArray,(⟨(Kcc c).toArray⟩:ByteArray)=S:=⟨_,rfl⟩;rw[hIB] at hst2;have hIBd:IB.data.toList=Kcc c:=by rw[←hIB]
    have hIBs:IB.size≤35184372088832:=by rw[←Kaj,hIBd];exact hI2
    have HST2:=Jh hst2;have HIBD:=Jh hIBd;clear hb17 hst2 hIB hIBd;go_wp2_with fail
    refine HST2.out.mono ?_;rintro _ w18 ⟨rfl,ho18⟩;have hb18:Below d w17 w18:=ho18.below (Nat.le_succ d) (fun k hk=>(HBD17.out.row hk).1) hd17;have HB18:=Jh (HB17.out.trans hb18);have hd18:d≤w18.heap.size:=Nat.le_trans hd17 hb18.size;have hs3:=HSL.out IB (by omega) w18 HB18.out;rw[HIBD.out] at hs3;obtain ⟨S3,hS3⟩:∃S:ByteArray,(⟨(sealT (Kcc c)).toArray⟩:ByteArray)=S:=⟨_,rfl⟩;rw[hS3] at hs3;have HS3:=Jh hs3;have HES3:=Jh hS3;clear hb18 ho18 hs3 hS3;go_wp2_with fail
    refine HS3.out.mono ?_;rintro _ w19 ⟨rfl,hb19⟩;have HB19:=Jh (HB18.out.trans (hb19.mono hd18));have hf19:=HF5.out.below HB19.out (Nat.lt_of_lt_of_le (Nat.lt_succ_self _) hq5);have e0:w19.cell? ⟨q+1,0,none⟩=some (.string ⟨#[]⟩):=hf19.cell 0;have e1:w19.cell? ⟨q+1,1,none⟩=some (.string ⟨#[]⟩):=hf19.cell 1;have e2:w19.cell? ⟨q+1,2,none⟩=some (.string ⟨#[]⟩):=hf19.cell 2;have z0:=hf19.frozen 0;have z1:=hf19.frozen 1;have z2:=hf19.frozen 2;have HF19:=Jh hf19;clear hf19 hb19;clear hmm hi0 hz0 hz1 hz2 hi1 hy0 hy1 hy2 hqw hhl hmq hq3 k3 hq5 htz hXs hd6 hd7 hd8 hd9 hd10 hd11 hd12 hd13 hd14 hd15 hd16 hd17 hd18 hUs hixl hI2 hC2 hlz hX3s g0 g1 g2 g3 g4 hq13 hMBs hCBs hIBs hn
    try clear HSL
    try clear HS3
    try clear HST2
    try clear HS2
    try clear HST
    try clear HS1
    try clear HIBD
    try clear HCBD
    try clear HMD
    try clear HEND
    try clear HX3D
    try clear HUD
    try clear HXD
    try clear HBD17
    try clear HBD16
    try clear HTW14
    try clear HTW13
    try clear HTW11
    try clear HTW10
    try clear HB18
    try clear HB17
    try clear HB16
    try clear HB15
    try clear HB14
    try clear HB13
    try clear HB12
    try clear HB11
    try clear HB10
    try clear HW12
    try clear HLI
    try clear HU
    try clear HK5
    try clear HC1
    try clear HFIT
    try clear HK1
    try clear HRR
    try clear HMAP5
    try clear HTAB
    try clear HIST
    try clear HTL
    try clear HALL
    try clear HTT
    try clear HSZS
    try clear HMAP
    try clear HCO
    try clear HB5
    try clear HB4
    try clear HM
    try clear HB3
    try clear HSA
    try clear HSE
    try clear HSZ
    try clear HG
    try clear HC
    try clear HF
    try clear HB02
    try clear HB2
    try clear HF1
    try clear HB1
    try clear HLEN
    try clear HRF
    try clear HRT
    try clear HN
    try clear HT
    try clear HZ
    try clear HS
    try clear HF5
    try clear HD
    dsimp only
    iterate 12 (try (first | go_values | go_skip | go_guarded | go_step | go_upon | go_back))
    have hff:Blk (((w19.setCell ⟨q+1,0,none⟩ (.string S1)).setCell ⟨q+1,1,none⟩ (.string S2)).setCell ⟨q+1,2,none⟩ (.string S3)) (q+1) 44 #[.string S1,.string S2,.string S3]:=((HF19.out.set_ 0 _).set_ 1 _).set_ 2 _;have hqq:w.heap.size≤q+1:=by rw[HQ.out];exact Nat.le_succ _
    have hbf:Below w.heap.size w (((w19.setCell ⟨q+1,0,none⟩ (.string S1)).setCell ⟨q+1,1,none⟩ (.string S2)).setCell ⟨q+1,2,none⟩ (.string S3)):=(((HBW5.out.trans (HB19.out.mono hqd)).setCell (p:=⟨q+1,0,none⟩) hqq _).setCell (p:=⟨q+1,1,none⟩) hqq _).setCell (p:=⟨q+1,2,none⟩) hqq _;obtain ⟨wf,hwf⟩:∃wf,((w19.setCell ⟨q+1,0,none⟩ (.string S1)).setCell ⟨q+1,1,none⟩ (.string S2)).setCell ⟨q+1,2,none⟩ (.string S3)=wf:=⟨_,rfl⟩;rw[hwf] at hff hbf ⊢;have HFF:=Jh hff;have HBF:=Jh hbf;clear hwf hff hbf e0 e1 e2 z0 z1 z2 hqq HF19
    iterate 2 (try (first | go_values | go_skip | go_guarded | go_step | go_upon | go_back))
    refine bodyPost_ret (Kcp rfl _ _ ⟨q+1,0,none⟩ (.agg #[.string S1,.string S2,.string S3]) rfl (run_loadVar_row _ (q+1) 44 44 _ (0,0) _ HFF.out Tryz.underlying44 rfl (by kernel_rfl))) rfl ?_
    have hfil:filV (Keu c) = .agg #[.string S1,.string S2,.string S3]:=by
     unfold filV Keu txtV;rw[HES1.out,HES2.out,HES3.out]
    rw[hfil];exact ⟨rfl,HBF.out⟩
end
section
open Go.RowKit
open List renaming length_append → Jd
theorem Kui (c:Int):(Kcf c).length≤68:=by
 unfold Kcf
 repeat' split
 all_goals simp[Kbc]
theorem Kup (c:Cst) (x:Nat):(Kbi c x).1.length≤77:=by
 unfold Kbi
 repeat' split
 all_goals simp[Kbc]
 all_goals omega
theorem Kvq (c:Cst) (s:Smp):(Kbk c s).1.length≤145:=by
 unfold Kbk
 split
 ·simp[Kbc]
 ·have h1:=Kui (s.t - c.last.t - c.step);have h2:=Kup { c with step:=s.t - c.last.t } (s.v ^^^ c.last.v);simp only[Jd];omega
theorem Kkf:∀(l:List Smp) (c:Cst),(Kbq c l).length≤145*l.length
 | [],_=>Nat.le_refl _
 | s :: l,c=>by
  have h1:=Kvq c s;have h2:=Kkf l (Kbk c s).2;rw[Kbq,Jd,List.length_cons];omega
theorem Kxg (p:List Smp):(Kcw p).length≤12+19*p.length:=by
 unfold Kcw;have h1:=(Kab p.length).2;have h2:=(Kfk (Kbq cst0 p)).len;have h3:=Kkf p cst0;rw[Jd];omega
theorem Kqp:∀(l:List Wnd) (a:Wnd),(wndsT a l).length≤66*l.length
 | [],_=>Nat.le_refl _
 | w :: l,a=>by
  have h:=Kqp l w;have h1:=(Kab (w.start - a.start).toNat).2;have h2:=(Kab w.count.toNat).2;have h3:=(Kab (w.sum ^^^ a.sum)).2;have h4:=(Kab (w.min ^^^ a.min)).2;have h5:=(Kab (w.max ^^^ a.max)).2;have h6:=(Kab (w.last ^^^ a.last)).2;rw[wndsT];unfold wndT;simp only[Jd,List.length_cons];omega
theorem Kzb (l:List Wnd):(aggsT l).flatten.length≤77*l.length:=by
 cases l with
 | nil=>simp[aggsT]
 | cons w l=>
  have h1:=(Kab (w :: l).length).2;have h2:=Kqp (w :: l) wnd0;have e:(aggsT (w :: l)).flatten=uintT (w :: l).length++wndsT wnd0 (w :: l):=by simp[aggsT,aggT]
  rw[e,Jd];rw[List.length_cons] at *;omega
theorem Khj:∀(f:Nat) (l:List Smp),((Kbr f l).map Kcw).flatten.length≤31*l.length
 | 0,l=>by simp[Kbr]
 | f+1,[]=>by simp[Kbr]
 | f+1,x :: l=>by
  have h1:=Kxg ((x :: l).take 120);have h2:=Khj f ((x :: l).drop 120);have h3:((x :: l).take 120).length=min 120 (l.length+1):=by rw[List.length_take,List.length_cons]
  have h4:((x :: l).drop 120).length=l.length+1 - 120:=by rw[List.length_drop,List.length_cons]
  rw[Kbr,List.map_cons,List.flatten_cons,Jd,List.length_cons];omega
theorem Kov (s:Ser):(Kbb s).flatten.length≤31*s.samples.length+77*s.windows.length:=by
 unfold Kbb;rw[List.flatten_append,Jd];have h1:=Khj s.samples.length s.samples;have h2:=Kzb s.windows;omega
theorem Ktc (P:List (List UInt8)):(lensT P).length≤11*P.length:=by
 induction P with
 | nil=>simp[lensT]
 | cons p P ih=>
  have h:=(Kab p.length).2;have e:lensT (p :: P)=uintT p.length++lensT P:=rfl;rw[e,Jd,List.length_cons];omega
theorem Klg (s:Ser):(Kbb s).length≤s.samples.length+1:=by
 have a1:=Kfy s.samples.length s.samples;have a2:(aggsT s.windows).length≤1:=by cases s.windows <;> simp[aggsT]
 unfold Kbb;rw[Jd,List.length_map];omega
def smpsN (l:List Ser):Nat:=(l.map fun s=>s.samples.length).sum
def wndsN (l:List Ser):Nat:=(l.map fun s=>s.windows.length).sum
theorem Klc:∀l:List Ser,(l.flatMap fun s=>(Kbb s).flatten).length≤31*smpsN l+77*wndsN l
 | []=>by simp[smpsN,wndsN]
 | s :: l=>by
  have h1:=Kov s;have h2:=Klc l;simp only[smpsN,wndsN,List.map_cons,List.sum_cons,List.flatMap_cons,Jd] at *;omega
theorem Qdd (t:List Txt) (s:Ser) (h:s.labels.length≤8):(serT t s).length≤209+11*s.samples.length:=by
 unfold serT;rw[Jd,Jd];have h1:=Qar t s.labels;have h2:=(Kab (Kbb s).length).2;have h3:=Ktc (Kbb s);have h4:=Klg s;omega
theorem Kqg (t:List Txt):∀l:List Ser,(∀s∈l,s.labels.length≤8)→(l.flatMap (serT t)).length≤209*l.length+11*smpsN l
 | [],_=>by simp[smpsN]
 | s :: l,h=>by
  have h1:=Qdd t s (h s (by simp));have h2:=Kqg t l (fun x hx=>h x (by simp[hx]));simp only[smpsN,List.map_cons,List.sum_cons,List.flatMap_cons,Jd,List.length_cons] at *;omega
theorem Kfm (m:Nat):∀l:List Txt,(∀x∈l,x.length≤m)→(l.flatMap textT).length≤(11+m)*l.length
 | [],_=>by simp
 | x :: l,h=>by
  have h1:=h x (by simp);have h2:=Kfm m l (fun y hy=>h y (by simp[hy]));have h3:=(Kab x.length).2;rw[List.flatMap_cons,Jd,List.length_cons,Nat.mul_succ];unfold textT at *;rw[Jd];omega
theorem Kjn (l:List Txt):(Lib.compact l).length≤l.length:=by
 unfold Lib.compact Lib.compactUpTo;rw[List.length_map];exact Nat.le_trans (List.length_filter_le _ _) (by rw[List.length_range];exact Nat.le_refl _)
theorem Kro:∀S:List (List Lb),(∀l∈S,l.length≤8)→(allS S).length≤16*S.length
 | [],_=>by simp[allS]
 | l :: S,h=>by
  have h1:=h l (by simp);have h2:=Kro S (fun x hx=>h x (by simp[hx]))
  have h3:(texts l).length=2*l.length:=by
   clear h1 h2 h
   induction l with
   | nil=>rfl
   | cons x l ih=>simp[texts] at *;omega
  unfold allS at *;rw[List.flatMap_cons,Jd,List.length_cons];omega
theorem Qdj {l:List Lb} {x:Txt} (h:x∈texts l):∃y∈l,x=y.n∨x=y.v:=by
 unfold texts at h;obtain ⟨y,hy,hx⟩:=List.mem_flatMap.1 h;refine ⟨y,hy,?_⟩;simpa using hx
def Kfr (S:List (List Lb)):Prop:=∀l∈S,l.length≤8∧∀y∈l,y.n.length≤32∧y.v.length≤64
theorem Koa {S:List (List Lb)} (h:Kfr S):(tabOf S).length≤16*S.length∧∀x∈tabOf S,x.length≤64:=by
 refine ⟨?_,fun x hx=>?_⟩
 ·refine Nat.le_trans (Kjn _) ?_;rw[List.length_mergeSort];exact Kro S fun l hl=>(h l hl).1
 ·have h1:=((Ktt S).2 x).1 hx;obtain ⟨l,hl,hx⟩:=List.mem_flatMap.1 h1;obtain ⟨y,hy,hh⟩:=Qdj hx;have:=(h l hl).2 y hy;rcases hh with rfl | rfl <;> omega
theorem Kvw {S:List (List Lb)} (h:Kfr S):(tabT (tabOf S)).length≤11+1200*S.length:=by
 obtain ⟨h1,h2⟩:=Koa h;have h3:=Kfm 64 (tabOf S) h2;have h4:=(Kab (tabOf S).length).2;unfold tabT;rw[Jd];omega
theorem Kma (x:Lb):∀l:List Lb,(insK x l).length≤l.length+1
 | []=>Nat.le_refl _
 | y :: l=>by
  rw[insK]
  split
  ·simp
  ·split
   ·have:=Kma x l;simp only[List.length_cons];omega
   ·simp
theorem Kxw {S:List (List Lb)} (h:Kfr S):(keysOf S).length≤8*S.length:=by
 have h1:∀l:List Lb,(l.foldr insK []).length≤l.length:=by
  intro l
  induction l with
  | nil=>exact Nat.le_refl _
  | cons y l ih=>rw[List.foldr_cons,List.length_cons];exact Nat.le_trans (Kma y _) (by omega)
 refine Nat.le_trans (h1 _) ?_
 induction S with
 | nil=>simp
 | cons l S ih=>
  have:=(h l (by simp)).1;have:=ih (fun x hx=>h x (by simp[hx]));rw[List.flatten_cons,Jd,List.length_cons];omega
theorem Kjx {S:List (List Lb)} (h:Kfr S):∀x∈keysOf S,x.n.length≤32∧x.v.length≤64:=fun x hx=>by
 obtain ⟨l,hl,hm⟩:=((Keq S).2 x).1 hx;exact (h l hl).2 x hm
theorem Kly:∀(l K:List Lb),K.Nodup→(K.filter fun x=>decide (x∈l)).length≤l.length
 | [],K,_=>by simp
 | a :: l,K,hK=>by
  have h1:=Kly l K hK
  have h2:∀K:List Lb,K.Nodup→(K.filter fun x=>decide (x∈a :: l)).length≤(K.filter fun x=>decide (x∈l)).length+(if a∈K then 1 else 0):=by
   intro K
   induction K with
   | nil=>intro _;simp
   | cons y K ih=>
    intro hn;have hc:=List.nodup_cons.1 hn;have ih:=ih hc.2
    by_cases hya:y=a
    ·subst hya;rw[if_neg hc.1] at ih;rw[if_pos (by simp),List.filter_cons_of_pos (by simp),List.length_cons];rw[List.filter_cons]
     split
     ·rw[List.length_cons];omega
     ·omega
    ·have e:decide (y∈a :: l)=decide (y∈l):=by simp[hya]
     have e2:(a∈y :: K)↔a∈K:=by simp[Ne.symm hya]
     rw[List.filter_cons,List.filter_cons,e];simp only[e2]
     split
     ·simp only[List.length_cons];omega
     ·omega
  have h3:=h2 K hK;rw[List.length_cons]
  split at h3 <;> omega
theorem Qba (K:List Lb) (hK:K.Nodup):∀(n:Nat) (S:List (List Lb)),S.length=n→(∀l∈S,l.length≤8)→(K.map fun x=>(Kal S x).length).sum≤8*S.length:=by
 intro n
 induction n with
 | zero=>
  intro S h _;have h0:S = []:=List.eq_nil_of_length_eq_zero h;subst h0
  have:∀K:List Lb,(K.map fun x=>(Kal [] x).length).sum=0:=by
   intro K
   induction K with
   | nil=>rfl
   | cons y K ih=>rw[List.map_cons,List.sum_cons,ih];rfl
  rw[this];exact Nat.zero_le _
 | succ n ih=>
  intro S h h8;have hne:S≠[]:=by intro e;rw[e] at h;cases h
  obtain ⟨T,l,rfl⟩:∃T l,S=T ++ [l]:=⟨S.dropLast,S.getLast hne,(List.dropLast_concat_getLast hne).symm⟩;have h1:=ih T (by rw[Jd,List.length_singleton] at h;omega) (fun x hx=>h8 x (by simp[hx]));have h2:=h8 l (by simp);have h3:=Kly l K hK
  have e:∀K:List Lb,(K.map fun x=>(Kal (T ++ [l]) x).length).sum=(K.map fun x=>(Kal T x).length).sum+(K.filter fun x=>decide (x∈l)).length:=by
   intro K
   induction K with
   | nil=>rfl
   | cons y K ih=>
    rw[List.map_cons,List.sum_cons,List.map_cons,List.sum_cons,ih,Kgv,List.filter_cons]
    by_cases hy:y∈l
    ·rw[if_pos hy,if_pos (decide_eq_true hy),Jd,List.length_cons];simp;omega
    ·rw[if_neg hy,if_neg (by simpa using hy)];omega
  rw[e,Jd,List.length_singleton];omega
theorem Kny:∀(l:List Nat) (a:Nat),(Kce a l).length≤11*l.length
 | [],_=>by simp[Kce]
 | x :: l,a=>by
  have h:=Kny l x;have h1:=(Kab (x - a)).2;rw[Kce,Jd,List.length_cons];omega
theorem Ksq (S:List (List Lb)) (x:Lb) (h:x.n.length≤32∧x.v.length≤64):(keyT S x).length≤129+11*(Kal S x).length:=by
 have h1:=(Kab x.n.length).2;have h2:=(Kab x.v.length).2;have h3:=(Kab (Kal S x).length).2;have h4:=Kny (Kal S x) 0;unfold keyT textT postT;simp only[Jd];omega
theorem Kyb {S:List (List Lb)} (h:Kfr S):(Kcq S).length≤11+1120*S.length:=by
 have h1:=(Kab (keysOf S).length).2;have h2:=Kxw h;have h3:=Qba (keysOf S) ((Keq S).1.imp fun hab e=>by subst e;exact Ked _ hab) S.length S rfl (fun l hl=>(h l hl).1)
 have h4:∀K:List Lb,(∀x∈K,x.n.length≤32∧x.v.length≤64)→(K.flatMap (keyT S)).length≤129*K.length+11*(K.map fun x=>(Kal S x).length).sum:=by
  intro K
  induction K with
  | nil=>intro _;simp
  | cons y K ih=>
   intro hk;have k1:=Ksq S y (hk y (by simp));have k2:=ih (fun x hx=>hk x (by simp[hx]));rw[List.flatMap_cons,Jd,List.length_cons,List.map_cons,List.sum_cons];omega
 have h5:=h4 (keysOf S) (Kjx h);unfold Kcq;rw[Jd];omega
theorem Kqh {c:Cont} (h:fitB c=true):Kfr (Kam c):=by
 intro l hl;obtain ⟨s,hs,rfl⟩:=List.mem_map.1 hl;have:=Kfq ((Kcn.1 h).2.2.2.2.2.1 s hs).1;exact ⟨this.2.2.1,this.2.2.2.1⟩
theorem Kzr {c:Cont} (h:fitB c=true):(metaB c).length≤33∧(Kcy c).length≤31*smpsN c.series+77*wndsN c.series∧(Kcc c).length≤33+2529*c.series.length+11*smpsN c.series:=by
 have hs:=Kqh h;have hn:(Kam c).length=c.series.length:=by simp[Kam]
 refine ⟨?_,Klc c.series,?_⟩
 ·have h1:=(Kab c.res.toNat).2;have h2:(intT c.frm).length≤11:=(Kab _).2;have h3:(intT c.to_).length≤11:=(Kab _).2;unfold metaB;simp only[Jd];omega
 ·have h1:=Kvw hs;have h2:=(Kab c.series.length).2;have h3:=Kqg (tabOf (Kam c)) c.series (fun s hx=>(hs s.labels (List.mem_map.2 ⟨s,hx,rfl⟩)).1);have h4:=Kyb hs;unfold Kcc;simp only[Jd];omega
end
section
open Go.RowKit
instance smpEq:DecidableEq Smp:=fun a b=>by
 cases a with
 | mk t v=>
  cases b with
  | mk t' v'=>exact if h:t=t'∧v=v' then isTrue (by rw[h.1,h.2]) else isFalse fun e=>h (by injection e with e1 e2;exact ⟨e1,e2⟩)
instance wndEq:DecidableEq Wnd:=fun a b=>by
 cases a with
 | mk a1 a2 a3 a4 a5 a6=>
  cases b with
  | mk b1 b2 b3 b4 b5 b6=>
   exact if h:a1=b1∧a2=b2∧a3=b3∧a4=b4∧a5=b5∧a6=b6 then isTrue (by obtain ⟨rfl,rfl,rfl,rfl,rfl,rfl⟩:=h;rfl) else isFalse fun e=>h (by injection e with e1 e2 e3 e4 e5 e6;exact ⟨e1,e2,e3,e4,e5,e6⟩)
instance serEq:DecidableEq Ser:=fun a b=>by
 cases a with
 | mk l s w=>
  cases b with
  | mk l' s' w'=>exact if h:l=l'∧s=s'∧w=w' then isTrue (by rw[h.1,h.2.1,h.2.2]) else isFalse fun e=>h (by injection e with e1 e2 e3;exact ⟨e1,e2,e3⟩)
instance contEq:DecidableEq Cont:=fun a b=>by
 cases a with
 | mk r f t s=>
  cases b with
  | mk r' f' t' s'=>exact if h:r=r'∧f=f'∧t=t'∧s=s' then isTrue (by obtain ⟨rfl,rfl,rfl,rfl⟩:=h;rfl) else isFalse fun e=>h (by injection e with e1 e2 e3 e4;exact ⟨e1,e2,e3,e4⟩)
end
section
open Go.RowKit
attribute [local go_sem ↓] Go.wp_at_zero Go.wp_at_succ
attribute [local go_sem] Later.cell
structure Ket (w:World) (A:Option Addr) (n:Nat) (L:List Ser):Prop where
 s:Sers w A n L
 n:L.length≤1073741824
 z:∀s∈L,SerSz s
theorem Ket.below {w w':World} {A:Option Addr} {n:Nat} {L:List Ser} (h:Ket w A n L) (hb:Below w.heap.size w w'):Ket w' A n L:=⟨h.s.below hb,h.n,h.z⟩
section
variable {P : Program} {Q : Exit → Act → World → Prop}
end
def filOf (F0 F1 F2:ByteArray):Fil:=⟨F0.data.toList,F1.data.toList,F2.data.toList⟩
end
section
open Go.RowKit
open List renaming length_append → Jd
def labsS (S:List (List Lb)):Nat:=(S.map List.length).sum
def labsN (l:List Ser):Nat:=(l.map fun s=>s.labels.length).sum
theorem Kxx (c:Cont):labsS (Kam c)=labsN c.series:=by
 unfold labsS labsN Kam;rw[List.map_map];rfl
theorem Kph:∀S:List (List Lb),(allS S).length=2*labsS S
 | []=>rfl
 | l :: S=>by
  have h2:=Kph S;have h3:=Kfv l;unfold allS labsS at *;rw[List.flatMap_cons,Jd,List.map_cons,List.sum_cons];omega
theorem Ktu {S:List (List Lb)} (h:Kfr S):(tabT (tabOf S)).length≤11+150*labsS S:=by
 have h1:(tabOf S).length≤2*labsS S:=by
  refine Nat.le_trans (Kjn _) ?_;rw[List.length_mergeSort,Kph];exact Nat.le_refl _
 have h3:=Kfm 64 (tabOf S) (Koa h).2;have h4:=(Kab (tabOf S).length).2;unfold tabT;rw[Jd];omega
theorem Ksh (S:List (List Lb)):S.flatten.length=labsS S:=by
 unfold labsS;rw[List.length_flatten]
theorem Kuv (S:List (List Lb)):(keysOf S).length≤labsS S:=by
 have h1:∀l:List Lb,(l.foldr insK []).length≤l.length:=by
  intro l
  induction l with
  | nil=>exact Nat.le_refl _
  | cons y l ih=>rw[List.foldr_cons,List.length_cons];exact Nat.le_trans (Kma y _) (by omega)
 rw[←Ksh];exact h1 _
theorem Kxy (T:List (List Lb)) (l:List Lb):labsS (T ++ [l])=labsS T+l.length:=by
 unfold labsS;rw[List.map_append,List.sum_append,List.map_cons,List.map_nil,List.sum_cons,List.sum_nil];omega
theorem Kyt (K:List Lb) (hK:K.Nodup):∀(n:Nat) (S:List (List Lb)),S.length=n→(K.map fun x=>(Kal S x).length).sum≤labsS S:=by
 intro n
 induction n with
 | zero=>
  intro S h;have h0:S = []:=List.eq_nil_of_length_eq_zero h;subst h0
  have:∀K:List Lb,(K.map fun x=>(Kal [] x).length).sum=0:=by
   intro K
   induction K with
   | nil=>rfl
   | cons y K ih=>rw[List.map_cons,List.sum_cons,ih];rfl
  rw[this];exact Nat.zero_le _
 | succ n ih=>
  intro S h;have hne:S≠[]:=by intro e;rw[e] at h;cases h
  obtain ⟨T,l,rfl⟩:∃T l,S=T ++ [l]:=⟨S.dropLast,S.getLast hne,(List.dropLast_concat_getLast hne).symm⟩;have h1:=ih T (by rw[Jd,List.length_singleton] at h;omega);have h3:=Kly l K hK
  have e:∀K:List Lb,(K.map fun x=>(Kal (T ++ [l]) x).length).sum=(K.map fun x=>(Kal T x).length).sum+(K.filter fun x=>decide (x∈l)).length:=by
   intro K
   induction K with
   | nil=>rfl
   | cons y K ih=>
    rw[List.map_cons,List.sum_cons,List.map_cons,List.sum_cons,ih,Kgv,List.filter_cons]
    by_cases hy:y∈l
    ·rw[if_pos hy,if_pos (decide_eq_true hy),Jd,List.length_cons];simp;omega
    ·rw[if_neg hy,if_neg (by simpa using hy)];omega
  rw[e,Kxy];omega
theorem Kuz {S:List (List Lb)} (h:Kfr S):(Kcq S).length≤11+140*labsS S:=by
 have h1:=(Kab (keysOf S).length).2;have h2:=Kuv S;have h3:=Kyt (keysOf S) ((Keq S).1.imp fun hab e=>by subst e;exact Ked _ hab) S.length S rfl
 have h4:∀K:List Lb,(∀x∈K,x.n.length≤32∧x.v.length≤64)→(K.flatMap (keyT S)).length≤129*K.length+11*(K.map fun x=>(Kal S x).length).sum:=by
  intro K
  induction K with
  | nil=>intro _;simp
  | cons y K ih=>
   intro hk;have k1:=Ksq S y (hk y (by simp));have k2:=ih (fun x hx=>hk x (by simp[hx]));rw[List.flatMap_cons,Jd,List.length_cons,List.map_cons,List.sum_cons];omega
 have h5:=h4 (keysOf S) (Kjx h);unfold Kcq;rw[Jd];omega
theorem Qau (t:List Txt) (s:Ser):(serT t s).length≤33+22*s.labels.length+11*s.samples.length:=by
 unfold serT;rw[Jd,Jd];have h1:=Qar t s.labels;have h2:=(Kab (Kbb s).length).2;have h3:=Ktc (Kbb s);have h4:=Klg s;omega
theorem Knu (t:List Txt):∀l:List Ser,(l.flatMap (serT t)).length≤33*l.length+22*labsN l+11*smpsN l
 | []=>by simp[smpsN,labsN]
 | s :: l=>by
  have h1:=Qau t s;have h2:=Knu t l;simp only[smpsN,labsN,List.map_cons,List.sum_cons,List.flatMap_cons,Jd,List.length_cons] at *;omega
theorem Kxs {c:Cont} (h:fitB c=true):(Kcc c).length≤33+312*labsN c.series+33*c.series.length+11*smpsN c.series:=by
 have hs:=Kqh h;have h1:=Ktu hs;have h2:=(Kab c.series.length).2;have h3:=Knu (tabOf (Kam c)) c.series;have h4:=Kuz hs;rw[Kxx] at h1 h4;unfold Kcc;simp only[Jd];omega
theorem Kur {c:Cont} (h:fitB c=true) (hn:c.series.length≤1048576) (hm:smpsN c.series+wndsN c.series≤1048576) (hk:labsN c.series≤349525):(sealT (metaB c)).length≤200000000∧(sealT (Kcy c)).length≤200000000∧(sealT (Kcc c)).length≤200000000:=by
 have h1:=Kzr h;have h2:=Kxs h
 have h3:∀l:List UInt8,(sealT l).length=l.length+4:=fun l=>by
  unfold sealT;rw[Jd];rfl
 rw[h3,h3,h3];omega
end
section
open Go.RowKit
attribute [local go_sem ↓] Go.wp_at_zero Go.wp_at_succ
attribute [local go_sem] Later.cell
structure BEnv (w:World):Prop where
 n:Kdt w
 d:DbTab w
theorem BEnv.below {w w':World} (h:BEnv w) (hb:Below w.heap.size w w'):BEnv w':=⟨h.n.below h.n.lt hb,h.d.below hb⟩
theorem Ktm {c:Cont} (h:fitB c=true) (hn:c.series.length≤1048576) (hm:smpsN c.series+wndsN c.series≤1048576) (hk:labsN c.series≤349525):(Keu c).mt.length≤200000000∧(Keu c).ck.length≤200000000∧(Keu c).ix.length≤200000000:=Kur h hn hm hk
theorem Kzf (c:Cont) (hd:Hd) (w:World) (hS:Ket w hd.A hd.n c.series) (hE:BEnv w) (hsz:fitB c=true→(Kcy c).length≤35184372088832∧(Kcc c).length≤35184372088832) :
  Calls Tryz.prog 19 #[contV c.res c.frm c.to_ hd] w fun e w'=>e = .returned (.tuple #[filV (Kdc c),.int .i64 (if fitB c=true then 0 else 190)])∧Below w.heap.size w w':=
 Kuc c hd w hS.s hS.z (by have h1:c.series.length=hd.n:=hS.s.len;have:=hS.n;omega) hE.d hE.n hsz
end
section
open Go.ChangeShapes Go.WideShapes Go.ChangeAt Go.RowKit
theorem Tryz.own:ownKnob Tryz.prog.godebug=none:=by kernel_rfl
theorem Tryz.laidOut:laidOutB Tryz.prog=true:=by kernel_rfl
end
section
open Go.ChangeShapes Go.WideShapes Go.ChangeAt Go.RowKit Go.Deep
section
variable {H : Type} {enc : TypeId × Value → H} {P : Program} {w : World} {base : Nat} {spare : Nat → Bool} {held : Bool}
theorem Kdz {α : Type} [Inhabited α] {t e:TypeId} {sz:Nat} {ea:α→List Value} {Q:DataW H→α→Prop} (ht:P.underlying t=some (.slice e)) (hc:P.cellsOf e=sz) (h0:0 < sz) (hz:∀y,(ea y).length=sz)
  (ho:∀(fuel:Nat) (l:List Value) (x:DataW H×List MemPlace),DataW.trod enc P w base spare held fuel e l=some x→∃y,l=ea y∧Q x.1 y)
  {fuel:Nat} {v:Value} {x:DataW H×List MemPlace} (h:DataW.trod enc P w base spare held fuel t [v]=some x) :
  ∃A n c ys,v = .slice A n c∧(A=none→c=0)∧n≤c∧Elems w w.heap.size sz ea A n ys∧∃ds sp,(x.1 = .slice ds sp∨(x.1 = .nil∧ds = []))∧ds.length=ys.length∧∀(i:Nat) d y,ds[i]? = some d→ys[i]? = some y→Q d y:=by
 rcases open_slice ht h with ⟨hcs,hx⟩ | ⟨a,len,cap,m,n,D,Pl,hcs,_,hl,_,hmm,hx,hi⟩
 ·simp at hcs;subst hcs;exact ⟨none,0,0,[],rfl,fun _=>rfl,Nat.le_refl _,Elems.nil_,[],[],.inr ⟨by rw[hx],rfl⟩,rfl,fun i d y hd=>by simp at hd⟩
 ·simp at hcs;subst hcs;rw[hc] at hi;have hlm:len≤m:=by rw[hmm];split <;> omega
  obtain ⟨f,hf⟩:=choose_lt (α:=α) (n:=len) (p:=fun i y=>(∀j u,(ea y)[j]? = some u→w.cell? (a.add (i*sz+j))=some u)∧Q (D i) y) (by
   intro i hlt;obtain ⟨cs',hc',ht'⟩:=hi i (by omega);obtain ⟨y,rfl,hq⟩:=ho _ _ _ ht';obtain ⟨_,hcl,hat⟩:=World.cells?_some hc';refine ⟨y,fun j u hu=>?_,hq⟩;have hj:j < sz:=by have:=(List.getElem?_eq_some_iff.1 hu).1;rw[hz] at this;exact this
   have:=hat j hj;rw[Go.Deep.add_add] at this
   rw[this,hu])
  refine ⟨some a,len,cap,(List.range len).map f,rfl,(fun h=>by cases h),hl,⟨by simp,fun h0'=>?_⟩,(List.range len).map D,_,.inl (by rw[hx]),by simp,fun i d y hd hy=>?_⟩
  ·obtain ⟨b,off,spot⟩:=a;have hp:0 < (ea (f 0)).length:=by rw[hz];exact h0
   have h00:=(hf 0 h0').1 0 _ (List.getElem?_eq_getElem hp);have hspot:spot=none:=by simpa[Addr.add] using World.cell?_spot h00
   subst hspot;refine ⟨b,off,rfl,by simpa[Addr.add] using Kex h00,fun i x hx j u hu=>?_⟩;have hil:i < len:=by have:=(List.getElem?_eq_some_iff.1 hx).1;simpa using this
   have hxe:f i=x:=by simpa[hil] using hx
   subst hxe;have:=(hf i hil).1 j u hu;rw[add_plain] at this;rw[←this,Nat.add_assoc]
  ·have hil:i < len:=by have:=(List.getElem?_eq_some_iff.1 hd).1;simpa using this
   have h1:D i=d:=by simpa[hil] using hd
   have h2:f i=y:=by simpa[hil] using hy
   rw[←h1,←h2];exact (hf i hil).2
end
theorem Kfg {H:Type} (d:DataW H):1≤Rows.uptoBulk d:=by
 cases d with
 | lit l=>cases l <;> simp[Rows.uptoBulk]
 | nil=>simp[Rows.uptoBulk]
 | ptr d=>simp[Rows.uptoBulk]
 | slice elems spare=>simp[Rows.uptoBulk]
 | agg parts=>simp[Rows.uptoBulk]
 | iface t d=>simp[Rows.uptoBulk]
 | map entries=>simp[Rows.uptoBulk]
 | held h=>simp[Rows.uptoBulk]
theorem Kxa {H:Type} (l sp:List (DataW H)):Rows.uptoBulkAll l+1≤Rows.uptoBulk (.slice l sp):=by simp only[Rows.uptoBulk];omega
theorem Qbt {H:Type} {l:List (DataW H)} (hk:Rows.uptoSmall H l=true):Rows.uptoBulkAll l≤1048576:=of_decide_eq_true hk
theorem Krs {H α : Type} (mu:α→Nat):∀(ds:List (DataW H)) (ys:List α),ds.length=ys.length→(∀(i:Nat) d y,ds[i]? = some d→ys[i]? = some y→mu y≤Rows.uptoBulk d)→(ys.map mu).sum≤Rows.uptoBulkAll ds
 | [],[],_,_=>by simp
 | d :: ds,y :: ys,hl,h=>by
  have h1:=h 0 d y rfl rfl;have h2:=Krs mu ds ys (by simpa using hl) (fun i d' y' hd hy=>h (i+1) d' y' (by simpa using hd) (by simpa using hy));simp only[List.map_cons,List.sum_cons,Rows.uptoBulkAll];omega
 | [],_ :: _,hl,_=>by simp at hl
 | _ :: _,[],hl,_=>by simp at hl
theorem Kdu {H α : Type} (mu:α→Nat) {d:DataW H} {ds sp:List (DataW H)} {ys:List α} (hd:d = .slice ds sp∨(d = .nil∧ds = [])) (hl:ds.length=ys.length) (h:∀(i:Nat) d y,ds[i]? = some d→ys[i]? = some y→mu y≤Rows.uptoBulk d):(ys.map mu).sum+1≤Rows.uptoBulk d:=by
 have:=Krs mu ds ys hl h;rcases hd with rfl | ⟨rfl,rfl⟩
 ·have:=Kxa ds sp;omega
 ·obtain rfl:ys = []:=List.eq_nil_of_length_eq_zero (by simpa using hl.symm);simp[Rows.uptoBulk]
section
variable {H : Type} {enc : TypeId × Value → H} {w : World} {base : Nat} {spare : Nat → Bool} {held : Bool}
theorem Krt:Tryz.prog.cellsOf 9 = 1:=by kernel_rfl
def litT (s:Txt):DataW H:=.lit (.string s)
theorem Kti {fuel:Nat} {l:List Value} {x:DataW H×List MemPlace} (h:DataW.trod enc Tryz.prog w base spare held fuel 9 l=some x):∃s:Txt,l = [txtV s]∧x.1=litT s:=by
 obtain ⟨s,rfl,rfl,_⟩:=DataW.trod_string Tryz.underlying9 h;exact ⟨s.data.toList,rfl,rfl⟩
end
section
variable {H : Type} {enc : TypeId × Value → H} {w : World} {base : Nat} {spare : Nat → Bool} {held : Bool}
theorem Kpk:Tryz.prog.cellsOf 99 = 2:=by kernel_rfl
theorem Qcr {fuel:Nat} {l:List Value} {x:DataW H×List MemPlace} (h:DataW.trod enc Tryz.prog w base spare held fuel 99 l=some x):∃y:Lb,l=encLb y∧x.1 = .agg [litT y.n,litT y.v]:=by
 obtain ⟨xs,n,_,hx,hcl,hlen,hg⟩:=DataW.trod_struct Tryz.underlying99 h;rw[Kpk] at hcl
 match l,hcl,xs,hlen with
 | [c0,c1],_,[x0,x1],_=>
  have g0:=hg 0 _ rfl;have g1:=hg 1 _ rfl;simp[Krt] at g0 g1;obtain ⟨a,e0,f0⟩:=Kti g0;obtain ⟨b,e1,f1⟩:=Kti g1;simp at e0 e1;subst e0 e1;refine ⟨⟨a,b⟩,rfl,?_⟩;rw[hx];simp[f0,f1]
end
section
variable {H : Type} {enc : TypeId × Value → H} {w : World} {base : Nat} {spare : Nat → Bool} {held : Bool}
def Lb.mass (x:Lb):Nat:=x.n.length+x.v.length+3
def massL (l:List Lb):Nat:=(l.map Lb.mass).sum+1
theorem Kjy:∀l:List Lb,2*l.length+1≤massL l
 | []=>by simp[massL]
 | x :: l=>by have:=Kjy l;simp only[massL,List.map_cons,List.sum_cons,List.length_cons,Lb.mass] at *;omega
theorem Qad {l:List Lb} {x:Lb} (h:x∈l):x.n.length≤massL l∧x.v.length≤massL l:=by
 induction l with
 | nil=>cases h
 | cons y l ih=>
  simp only[massL,List.map_cons,List.sum_cons,Lb.mass] at *;rcases List.mem_cons.1 h with rfl | h
  ·omega
  ·have:=ih h;omega
theorem Kmq:Tryz.prog.cellsOf 54 = 1:=by kernel_rfl
theorem Kkc {fuel:Nat} {v:Value} {x:DataW H×List MemPlace} (h:DataW.trod enc Tryz.prog w base spare held fuel 54 [v]=some x) :
  ∃A n c l,v = .slice A n c∧n≤c∧Elems w w.heap.size 2 encLb A n l∧massL l≤Rows.uptoBulk x.1:=by
 obtain ⟨A,n,c,l,rfl,_,h2,h3,ds,sp,hx,hl,hQ⟩:=Kdz (ea:=encLb) (Q:=fun d s=>d = .agg [litT s.n,litT s.v]) Tryz.underlying54 Kpk (by omega) (fun _=>rfl) (fun _ _ _ h=>Qcr h) h;refine ⟨A,n,c,l,rfl,h2,h3,Kdu Lb.mass hx hl fun i d y hd hy=>?_⟩;rw[hQ i d y hd hy];simp[Rows.uptoBulk,Rows.uptoBulkAll,litT,Lb.mass];omega
theorem Kie {α : Type} (f:α→Nat):∀{l:List α} {x:α},x∈l→f x≤(l.map f).sum
 | y :: l,x,h=>by
  simp only[List.map_cons,List.sum_cons];rcases List.mem_cons.1 h with rfl | h
  ·omega
  ·have:=Kie f h;omega
end
theorem Kgb:Tryz.prog.cellsOf 2 = 1:=by kernel_rfl
theorem Kmr:Tryz.prog.cellsOf 100 = 1:=by kernel_rfl
theorem Kmp:Tryz.prog.cellsOf 3 = 1:=by kernel_rfl
theorem Kpm:Tryz.prog.cellsOf 102 = 2:=by kernel_rfl
theorem Kpn:Tryz.prog.cellsOf 135 = 6:=by kernel_rfl
theorem Kxd:Tryz.prog.cellsOf 55 = 1:=by kernel_rfl
theorem Kxe:Tryz.prog.cellsOf 56 = 1:=by kernel_rfl
theorem Kpl:Tryz.prog.cellsOf 58 = 3:=by kernel_rfl
theorem Kxc:Tryz.prog.cellsOf 26 = 1:=by kernel_rfl
theorem Kmn:Tryz.prog.cellsOf 28 = 4:=by kernel_rfl
def i64B (v:Int):Prop:=-9223372036854775808≤v∧v≤9223372036854775807
theorem Kpe {n:Int} (h:(Lit.int .i64 n).wf=true):i64B n:=by
 have h1:IntKind.i64.min = -9223372036854775808:=rfl;have h2:IntKind.i64.max=9223372036854775807:=rfl;simp only[Lit.wf,Bool.and_eq_true,decide_eq_true_eq] at h;unfold i64B;omega
theorem Kkm {z:Int} (h:(Lit.int .u64 z).wf=true):∃n:Nat,z=(n:Int)∧n < 2 ^ 64:=by
 have h1:IntKind.u64.min=0:=rfl;have h2:IntKind.u64.max=18446744073709551615:=rfl;simp only[Lit.wf,Bool.and_eq_true,decide_eq_true_eq] at h;exact ⟨z.toNat,by omega,by omega⟩
section
variable {H : Type} {enc : TypeId × Value → H} {w : World} {base : Nat} {spare : Nat → Bool} {held : Bool}
theorem Qct {fuel:Nat} {l:List Value} {x:DataW H×List MemPlace} (h:DataW.trod enc Tryz.prog w base spare held fuel 102 l=some x):∃y:Smp,l=Kad y∧(y.v < 2 ^ 64∧1≤Rows.uptoBulk x.1):=by
 obtain ⟨xs,n,_,hx,hcl,hlen,hg⟩:=DataW.trod_struct Tryz.underlying102 h;rw[Kpm] at hcl
 match l,hcl,xs,hlen with
 | [c0,c1],_,[x0,x1],_=>
  have g0:=hg 0 _ rfl;have g1:=hg 1 _ rfl;simp[Kgb,Kmr] at g0 g1;obtain ⟨a,e0,_,_⟩:=DataW.trod_int Tryz.underlying2 g0;obtain ⟨b,e1,_,wb⟩:=DataW.trod_int Tryz.underlying100 g1;simp at e0 e1;subst e0 e1;obtain ⟨v,rfl,hv⟩:=Kkm wb;exact ⟨⟨a,v⟩,rfl,hv,Kfg _⟩
theorem Qcu {fuel:Nat} {l:List Value} {x:DataW H×List MemPlace} (h:DataW.trod enc Tryz.prog w base spare held fuel 135 l=some x):∃y:Wnd,l=Kai y∧(Kcl y∧1≤Rows.uptoBulk x.1):=by
 obtain ⟨xs,n,_,hx,hcl,hlen,hg⟩:=DataW.trod_struct Tryz.underlying135 h;rw[Kpn] at hcl
 match l,hcl,xs,hlen with
 | [c0,c1,c2,c3,c4,c5],_,[x0,x1,x2,x3,x4,x5],_=>
  have g0:=hg 0 _ rfl;have g1:=hg 1 _ rfl;have g2:=hg 2 _ rfl;have g3:=hg 3 _ rfl;have g4:=hg 4 _ rfl;have g5:=hg 5 _ rfl;simp[Kgb,Kmr,Kmp] at g0 g1 g2 g3 g4 g5;obtain ⟨a,e0,_,_⟩:=DataW.trod_int Tryz.underlying2 g0;obtain ⟨b,e1,_,_⟩:=DataW.trod_int Tryz.underlying3 g1;obtain ⟨c,e2,_,wc⟩:=DataW.trod_int Tryz.underlying100 g2;obtain ⟨d,e3,_,wd⟩:=DataW.trod_int Tryz.underlying100 g3;obtain ⟨e,e4,_,we⟩:=DataW.trod_int Tryz.underlying100 g4;obtain ⟨f,e5,_,wf⟩:=DataW.trod_int Tryz.underlying100 g5;simp at e0 e1 e2 e3 e4 e5;subst e0 e1 e2 e3 e4 e5;obtain ⟨c,rfl,hc⟩:=Kkm wc;obtain ⟨d,rfl,hd⟩:=Kkm wd;obtain ⟨e,rfl,he⟩:=Kkm we;obtain ⟨f,rfl,hf⟩:=Kkm wf;exact ⟨⟨a,b,c,d,e,f⟩,rfl,⟨hc,hd,he,hf⟩,Kfg _⟩
theorem Kgx {α : Type}:∀l:List α,(l.map fun _=>1).sum=l.length
 | []=>rfl
 | x :: l=>by rw[List.map_cons,List.sum_cons,Kgx l,List.length_cons];omega
theorem Qal {fuel:Nat} {v:Value} {x:DataW H×List MemPlace} (h:DataW.trod enc Tryz.prog w base spare held fuel 55 [v]=some x) :
  ∃A n c l,v = .slice A n c∧n≤c∧Elems w w.heap.size 2 Kad A n l∧(∀y∈l,y.v < 2 ^ 64)∧l.length+1≤Rows.uptoBulk x.1:=by
 obtain ⟨A,n,c,l,rfl,_,h2,h3,ds,sp,hx,hl,hQ⟩:=Kdz (ea:=Kad) (Q:=fun d (y:Smp)=>y.v < 2 ^ 64∧1≤Rows.uptoBulk d) Tryz.underlying55 Kpm (by omega) (fun _=>rfl) (fun _ _ _ h=>Qct h) h;refine ⟨A,n,c,l,rfl,h2,h3,fun y hy=>?_,?_⟩
 ·obtain ⟨i,hi,rfl⟩:=List.mem_iff_getElem.1 hy;exact (hQ i (ds[i]'(by omega)) l[i] (List.getElem?_eq_getElem _) (List.getElem?_eq_getElem hi)).1
 ·have:=Kdu (fun _:Smp=>1) hx hl fun i d y hd hy=>(hQ i d y hd hy).2
  rwa[Kgx] at this
theorem Qam {fuel:Nat} {v:Value} {x:DataW H×List MemPlace} (h:DataW.trod enc Tryz.prog w base spare held fuel 56 [v]=some x) :
  ∃A n c l,v = .slice A n c∧n≤c∧Elems w w.heap.size 6 Kai A n l∧(∀y∈l,Kcl y)∧l.length+1≤Rows.uptoBulk x.1:=by
 obtain ⟨A,n,c,l,rfl,_,h2,h3,ds,sp,hx,hl,hQ⟩:=Kdz (ea:=Kai) (Q:=fun d (y:Wnd)=>Kcl y∧1≤Rows.uptoBulk d) Tryz.underlying56 Kpn (by omega) (fun _=>rfl) (fun _ _ _ h=>Qcu h) h;refine ⟨A,n,c,l,rfl,h2,h3,fun y hy=>?_,?_⟩
 ·obtain ⟨i,hi,rfl⟩:=List.mem_iff_getElem.1 hy;exact (hQ i (ds[i]'(by omega)) l[i] (List.getElem?_eq_getElem _) (List.getElem?_eq_getElem hi)).1
 ·have:=Kdu (fun _:Wnd=>1) hx hl fun i d y hd hy=>(hQ i d y hd hy).2
  rwa[Kgx] at this
def Ser.mass (s:Ser):Nat:=massL s.labels+s.samples.length+s.windows.length+2
structure SerIn (w:World) (y:Hd3) (s:Ser):Prop where
 at_:SerAt w y s
 v:∀x∈s.samples,x.v < 2 ^ 64
 b:∀x∈s.windows,Kcl x
theorem Qcs {fuel:Nat} {l:List Value} {x:DataW H×List MemPlace} (h:DataW.trod enc Tryz.prog w base spare held fuel 58 l=some x):∃y:Hd3,l=encH3 y∧∃s,SerIn w y s∧Ser.mass s≤Rows.uptoBulk x.1:=by
 obtain ⟨xs,n,_,hx,hcl,hlen,hg⟩:=DataW.trod_struct Tryz.underlying58 h;rw[Kpl] at hcl
 match l,hcl,xs,hlen with
 | [c0,c1,c2],_,[x0,x1,x2],_=>
  have g0:=hg 0 _ rfl;have g1:=hg 1 _ rfl;have g2:=hg 2 _ rfl;simp[Kmq,Kxd,Kxe] at g0 g1 g2;obtain ⟨A0,n0,k0,l0,rfl,a1,a2,a3⟩:=Kkc g0;obtain ⟨A1,n1,k1,l1,rfl,b1,b2,b3,b4⟩:=Qal g1;obtain ⟨A2,n2,k2,l2,rfl,d1,d2,d3,d4⟩:=Qam g2;refine ⟨⟨⟨A0,n0,k0⟩,⟨A1,n1,k1⟩,⟨A2,n2,k2⟩⟩,rfl,⟨l0,l1,l2⟩,⟨⟨a2,a1,b2,b1,d2,d1⟩,b3,d3⟩,?_⟩;rw[hx];simp only[List.map_cons,List.map_nil,Rows.uptoBulk,Rows.uptoBulkAll,Ser.mass];omega
theorem Knl:∀l:List Lb,3*l.length+1≤massL l
 | []=>by simp[massL]
 | x :: l=>by have:=Knl l;simp only[massL,List.map_cons,List.sum_cons,List.length_cons,Lb.mass] at *;omega
theorem Kjz:∀L:List Ser,smpsN L+wndsN L+L.length+3*labsN L≤(L.map Ser.mass).sum
 | []=>by simp[smpsN,wndsN,labsN]
 | s :: L=>by
  have:=Kjz L;have:=Knl s.labels;simp only[smpsN,wndsN,labsN,List.map_cons,List.sum_cons,List.length_cons,Ser.mass] at *;omega
end
end
section
open Go.RowKit
attribute [local go_sem ↓] Go.wp_at_zero Go.wp_at_succ
attribute [local go_sem] Later.cell
structure CSz (c:Cont):Prop where
 n:c.series.length≤1048576
 m:smpsN c.series+wndsN c.series≤1048576
 k:labsN c.series≤349525
 z:∀s∈c.series,SerSz s
structure Built (c:Cont) (S0 S1 S2:ByteArray):Prop where
 f:filOf S0 S1 S2=Kdc c
 z0:S0.size≤200000000
 z1:S1.size≤200000000
 z2:S2.size≤200000000
theorem Klu (c:Cont) (A:Option Addr) (n k:Nat) (w:World) (hS:Ket w A n c.series) (hc:CSz c) (hE:BEnv w) :
  Calls Tryz.prog 19 #[.agg #[.int .i64 c.res,.int .i64 c.frm,.int .i64 c.to_,.slice A n k]] w fun e w'=>(∃S0 S1 S2,e = .returned (.tuple #[.agg #[.string S0,.string S1,.string S2],.int .i64 (if fitB c=true then 0 else 190)])∧Built c S0 S1 S2)∧Below w.heap.size w w':=by
 have hsm:=fun hf=>Ktm (c:=c) hf hc.n hc.m hc.k
 refine (Kzf c ⟨A,n,k⟩ w hS hE (fun hf=>?_)).mono ?_
 ·have h1:=hsm hf;have h2:(Keu c).ck=sealT (Kcy c):=rfl;have h3:(Keu c).ix=sealT (Kcc c):=rfl;rw[h2,h3,Kqf,Kqf] at h1;omega
 ·rintro e w' ⟨rfl,hb⟩
  have h1:(Kdc c).mt.length≤200000000∧(Kdc c).ck.length≤200000000∧(Kdc c).ix.length≤200000000:=by
   unfold Kdc
   by_cases hf:fitB c=true
   ·rw[if_pos hf];exact hsm hf
   ·rw[if_neg hf];exact ⟨by decide,by decide,by decide⟩
  refine ⟨⟨⟨(Kdc c).mt.toArray⟩,⟨(Kdc c).ck.toArray⟩,⟨(Kdc c).ix.toArray⟩,rfl,⟨rfl,?_,?_,?_⟩⟩,hb⟩
  ·exact h1.1
  ·exact h1.2.1
  ·exact h1.2.2
end
section
open Go.Shelf Go.RowKit Go.Lib Go.Sort
attribute [local go_sem ↓] Go.wp_at_zero Go.wp_at_succ
attribute [local go_sem] Later.cell
section
set_option maxHeartbeats 4000000
set_option maxRecDepth 100000
instance contInC:Inhabited Cont:=⟨⟨0,0,0,[]⟩⟩
structure CH where
 r:Int
 f:Int
 t:Int
 h:Hd
def encCH (x:CH):List Value:=[.int .i64 x.r,.int .i64 x.f,.int .i64 x.t,.slice x.h.A x.h.n x.h.c]
structure Kdr (w:World) (A:Option Addr) (n:Nat) (xs:List CH) (cs:List Cont):Prop where
 e:Elems w w.heap.size 4 encCH A n xs
 l:cs.length=n
 k:∀(i:Nat) (x:CH),xs[i]? = some x→cs[i]!.res=x.r∧cs[i]!.frm=x.f∧cs[i]!.to_=x.t∧Ket w x.h.A x.h.n cs[i]!.series∧x.h.n≤x.h.c
 z:∀c∈cs,CSz c
 n:n≤1048576
theorem Kdr.below {w w':World} {A:Option Addr} {n:Nat} {xs:List CH} {cs:List Cont} (h:Kdr w A n xs cs) (hb:Below w.heap.size w w'):Kdr w' A n xs cs:=
 ⟨(h.e.below hb).more hb.size,h.l,fun i x hi=>⟨(h.k i x hi).1,(h.k i x hi).2.1,(h.k i x hi).2.2.1,(h.k i x hi).2.2.2.1.below hb,(h.k i x hi).2.2.2.2⟩,h.z,h.n⟩
def outC:List Cont→Int×Int×Int
 | []=>(0,0,0)
 | c :: l=>(c.res,l.foldl (fun a x=>min a x.frm) c.frm,l.foldl (fun a x=>max a x.to_) c.to_)
theorem Qao (l:List Cont) (c:Cont) (h:l≠[]):outC (l ++ [c])=((outC l).1,min (outC l).2.1 c.frm,max (outC l).2.2 c.to_):=by
 cases l with
 | nil=>exact absurd rfl h
 | cons x l=>simp[outC,List.foldl_append]
def okAll (cs:List Cont):Bool:=cs.all fun c=>fitB c && decide (c.res=(outC cs).1)
def okFor (r:Int) (cs:List Cont):Bool:=cs.all fun c=>fitB c && decide (c.res=r)
end
end
section
open Go.Shelf Go.RowKit Go.Lib Go.Sort
section
theorem Elems.setOff {α : Type} {w:World} {B sz:Nat} {enc:α→List Value} {A:Option Addr} {n g:Nat} {xs:List α} {t:TypeId} {cs:Array Value} (hE:Elems w B sz enc A n xs) (hb:Blk w g t cs)
  (hno:∀(x:α) (off:Nat),∃(j:Nat) (v:Value),(enc x)[j]? = some v∧cs[off+j]?≠some v) (i:Nat) (u:Value):Elems (w.setCell ⟨g,i,none⟩ u) B sz enc A n xs:=
 ⟨hE.1,fun hn=>by
  obtain ⟨b,off,e,hb',hc⟩:=hE.2 hn;obtain ⟨x,hx⟩:∃x,xs[0]? = some x:=⟨xs[0]'(by rw[hE.1];exact hn),List.getElem?_eq_getElem _⟩;obtain ⟨j,v,hj,hv⟩:=hno x off
  have hbg:b≠g:=by
   rintro rfl;have h0:=hc 0 x hx j v hj;rw[hb.cell] at h0;exact hv (by simpa using h0)
  exact ⟨b,off,e,hb',fun i' x hx j v hv=>(World.cell?_of_block (w:=w) (Below.heap_setCell w _ u b hbg)).trans (hc i' x hx j v hv)⟩⟩
theorem Sers.setBox {w:World} {A:Option Addr} {n g:Nat} {L:List Ser} {t:TypeId} {a b c:Int} {Z:Option Addr} {k d:Nat} (h:Sers w A n L) (hb:Blk w g t #[.int .i64 a,.int .i64 b,.int .i64 c,.slice Z k d]) (i:Nat) (u:Value) :
  Sers (w.setCell ⟨g,i,none⟩ u) A n L:=by
 have hsz:(w.setCell ⟨g,i,none⟩ u).heap.size=w.heap.size:=by simp[World.setCell]
 obtain ⟨hs,h1,h2,h3⟩:=h;refine ⟨hs,?_,h2,fun j x hx=>?_⟩
 ·rw[hsz];refine h1.setOff hb (fun x off=>?_) i u;rcases off with _ | _ | _ | _ | off
  ·exact ⟨0,_,rfl,by simp⟩
  ·exact ⟨0,_,rfl,by simp⟩
  ·exact ⟨0,_,rfl,by simp⟩
  ·exact ⟨1,_,rfl,by simp⟩
  ·exact ⟨0,_,rfl,by simp⟩
 ·have hS:=h3 j x hx;refine ⟨?_,hS.lc,?_,hS.sc,?_,hS.wc⟩
  ·rw[hsz];refine hS.l.setOff hb (fun x off=>⟨0,_,rfl,?_⟩) i u;rcases off with _ | _ | _ | _ | off <;> simp
  ·rw[hsz];refine hS.s.setOff hb (fun x off=>⟨1,_,rfl,?_⟩) i u;rcases off with _ | _ | _ | _ | off <;> simp
  ·rw[hsz];refine hS.w.setOff hb (fun x off=>?_) i u;rcases off with _ | _ | _ | _ | off
   ·exact ⟨2,_,rfl,by simp⟩
   ·exact ⟨2,_,rfl,by simp⟩
   ·exact ⟨1,_,rfl,by simp⟩
   ·exact ⟨0,_,rfl,by simp⟩
   ·exact ⟨0,_,rfl,by simp⟩
theorem Lists.below {w w':World} {A:Option Addr} {n:Nat} {hs:List Hd} {Ls:List (List Ser)} (h:Lists w A n hs Ls) (hb:Below w.heap.size w w'):Lists w' A n hs Ls:=
 ⟨(h.e.below hb).more hb.size,h.l,fun i x hi=>⟨(h.k i x hi).1.below hb,(h.k i x hi).2⟩,h.z⟩
theorem Kdr.lists {w:World} {A:Option Addr} {n:Nat} {xs:List CH} {cs:List Cont} (h:Kdr w A n xs cs) {base c7:Nat} {A7:Option Addr} {t:TypeId} (hR:w.ownsRow base t 1 (.slice A7 n c7) n ((xs.map CH.h).flatMap Kbp)) :
  Lists w A7 n (xs.map CH.h) (cs.map Cont.series):=by
 refine ⟨?_,by rw[List.length_map,h.l],fun i hd hi=>?_,fun L hL s hs=>?_⟩
 ·obtain ⟨A1,c1,e1,hE,_⟩:=Elems.of_own (xs:=xs.map CH.h) (enc:=Kbp) (fun _ _=>rfl) rfl hR (by rw[List.length_map,h.e.len]);injection e1 with e1 _ _;rw[e1];exact hE
 ·rw[List.getElem?_map,Option.map_eq_some_iff] at hi;obtain ⟨x,hx,rfl⟩:=hi;obtain ⟨_,_,_,k4,k5⟩:=h.k i x hx;have hil:i < cs.length:=by rw[h.l,←h.e.len];exact (List.getElem?_eq_some_iff.1 hx).1
  rw[getElem!_pos (cs.map Cont.series) i (by simpa using hil),List.getElem_map];rw[getElem!_pos cs i hil] at k4;exact ⟨k4.s,k5⟩
 ·obtain ⟨c,hc,rfl⟩:=List.mem_map.1 hL;exact ((h.z c hc).z s hs).l
end
end
end Go.Proofs.YtdoiekknhnbepaaGreatDoor
