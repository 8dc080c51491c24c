/- Merged (what the claim wants of): BlkBuild, BlkSize, RefB2, RefBPlain, RefBEq, RefB5, RefB1, RefB6, BlkParseD. -/
import Derived.Test.YtdoiekknhnbepaaGreatDoorCob15
import Derived.Test.YtdoiekknhnbepaaGreatDoorCob07
import Derived.Test.YtdoiekknhnbepaaGreatDoorCob16
import Derived.Test.YtdoiekknhnbepaaGreatDoorCob02
import Derived.Test.YtdoiekknhnbepaaGreatDoorCob05
import Derived.Test.YtdoiekknhnbepaaGreatDoorCob06
import Derived.Laws.PanicsMore
import Derived.Laws.StructEq
import Derived.WalkKit
import Derived.Test.YtdoiekknhnbepaaGreatDoorCob01
import Derived.Laws.Bits64
set_option linter.unusedVariables false
set_option linter.unusedSimpArgs false
set_option maxRecDepth 100000
set_option maxHeartbeats 8000000
namespace Go.Proofs.YtdoiekknhnbepaaGreatDoor
section
open Go.RowKit Go.Shelf Go.Sort Go.Maps
open Go.ChangeMaps (setBlock)
open Lib renaming hid → Jh
open List renaming length_append → Jd
attribute [local go_sem ↓] Go.wp_at_zero Go.wp_at_succ
attribute [local go_sem] Later.cell
theorem Kvx {S:List (List Lb)} {l:List Lb} (hd:l.Nodup) {k:Nat} (hk:k < l.length):addF (Kem S l k) l[k]! S.length=Kem S l (k+1):=by
 have hx:l[k]! = l[k]:=getElem!_pos l k hk;have htk:l.take (k+1)=l.take k ++ [l[k]]:=(List.take_append_getElem hk).symm;have hl:l=l.take k++l[k] :: l.drop (k+1):=by rw[←List.drop_eq_getElem_cons hk,List.take_append_drop]
 have hd2:(l.take k++l[k] :: l.drop (k+1)).Nodup:=by rw[←hl];exact hd
 have hno:l[k]∉l.take k:=fun hm=>(List.nodup_append.1 hd2).2.2 _ hm _ (List.mem_cons_self ..) rfl
 funext y;unfold addF Kem;rw[hx,htk]
 by_cases hy:y=l[k]
 ·rw[if_pos hy,if_neg hno,hy,if_pos (List.mem_append.2 (.inr (List.mem_singleton.2 rfl)))]
 ·rw[if_neg hy]
  have:y∈l.take k ++ [l[k]]↔y∈l.take k:=by
   rw[List.mem_append,List.mem_singleton];exact ⟨fun h=>h.resolve_right hy,.inl⟩
  by_cases hm:y∈l.take k
  ·rw[if_pos hm,if_pos (this.2 hm)]
  ·rw[if_neg hm,if_neg (fun h=>hm (this.1 h))]
def filV (f:Fil):Value:=.agg #[txtV f.mt,txtV f.ck,txtV f.ix]
def Kdh (c:Cont):Fil:=if fitB c=true then Kex c else ⟨[],[],[]⟩
theorem Qag:(Tryz.prog.info? 54).map (fun i=>(i.zero,i.size,i.bytes))=some (some (.slice none 0 0),1,24):=by kernel_rfl
theorem Qcw (h:Hd):(encH h).length=1:=rfl
structure FstAt (c:Cont) (hs:List Hd3) (q m i:Nat) (vs:Value) (w1 w:World):Prop where
 row:w.ownsRow (q+2) 54 1 vs i (((hs.map Hd3.l).take i).flatMap encH)
 map:∃es clock,LMap w (q+2) m (Kao ((Kap c).take i)) (i*8) es clock
 b:Below (q+2) w1 w
theorem Qbl {c:Cont} {i:Nat} (h:i < c.series.length):(Kap c).take (i+1)=(Kap c).take i ++ [(c.series[i]!).labels]∧((Kap c).take i).length=i:=by
 have e:(Kap c)[i]? = some (c.series[i]!).labels:=by
  unfold Kap;rw[List.getElem?_map,List.getElem?_eq_getElem h,getElem!_pos _ i h];rfl
 refine ⟨by rw[List.take_add_one,e];rfl,?_⟩;have:(Kap c).length=c.series.length:=by unfold Kap;rw[List.length_map]
 rw[List.length_take];omega
theorem Klp {w:World} {B n sz b:Nat} {T:TypeId} {v:Value} {xs:List Value} {es:Array MapEntry} {clock:Nat} (h:w.ownsRow B T sz v n xs) (hb:w.heap[b]? = some (.map es clock)):v.ownBlock=none∨v.ownBlock≠some b:=.inr (Kic h hb)
def ixAt (c:Cont) (T:List Txt) (i:Nat):List UInt8:=tabT T++(uintT c.series.length++(c.series.take i).flatMap (serT T))
def ckAt (c:Cont) (i:Nat):List UInt8:=(c.series.take i).flatMap fun s=>(Kbf s).flatten
theorem Kue {c:Cont} {i:Nat} (h:i < c.series.length):c.series.take (i+1)=c.series.take i ++ [c.series[i]!]:=by
 rw[List.take_add_one,List.getElem?_eq_getElem h,getElem!_pos _ i h];rfl
theorem Qam {c:Cont} {T:List Txt} {i:Nat} (h:i < c.series.length):ixAt c T (i+1)=ixAt c T i++serT T c.series[i]!:=by
 unfold ixAt;rw[Kue h,List.flatMap_append,List.flatMap_singleton];simp only[List.append_assoc]
theorem Kzo {c:Cont} {i:Nat} (h:i < c.series.length):ckAt c (i+1)=ckAt c i++(Kbf c.series[i]!).flatten:=by
 unfold ckAt;rw[Kue h,List.flatMap_append,List.flatMap_singleton]
theorem Kjx {α β : Type} (f:α→List β) (l:List α) (i:Nat):((l.take i).flatMap f).length≤(l.flatMap f).length:=by
 have:l.flatMap f=(l.take i).flatMap f++(l.drop i).flatMap f:=by rw[←List.flatMap_append,List.take_append_drop]
 rw[this,Jd];omega
theorem Kwt (c:Cont) (i:Nat):(ixAt c (tabOf (Kap c)) i).length+(Kcv (Kap c)).length≤(Kcj c).length:=by
 unfold ixAt Kcj;have:=Kjx (serT (tabOf (Kap c))) c.series i;simp only[Jd];omega
theorem Qdb (c:Cont):ixAt c (tabOf (Kap c)) c.series.length++Kcv (Kap c)=Kcj c:=by
 unfold ixAt Kcj;rw[List.take_length];simp only[List.append_assoc]
theorem Qeo (c:Cont) (i:Nat):(ckAt c i).length≤(Kdc c).length:=Kjx _ c.series i
theorem Qcp (c:Cont):ckAt c c.series.length=Kdc c:=by
 unfold ckAt Kdc;rw[List.take_length]
theorem Kmp:∀{L:List (List Lb)},(∀s∈L,s.length≤8)→(allT L).length≤16*L.length
 | [],_=>by simp[allT]
 | l :: L,h=>by
  have h1:=Kmp (L:=L) fun s hs=>h s (by simp[hs])
  have h2:=h l (by simp);rw[Kpi,Jd,Kgb,List.length_cons];omega
theorem Qbr {l:List Lb} {x:Txt} (h:x∈texts l):∃y∈l,x=y.n∨x=y.v:=by
 unfold texts at h;obtain ⟨y,hy,hx⟩:=List.mem_flatMap.1 h;simp at hx;exact ⟨y,hy,hx⟩
theorem Qao (P:List (List UInt8)):(lensT P).length≤11*P.length:=by
 induction P with
 | nil=>simp[lensT]
 | cons p P ih=>
  have h:=(Kab p.length).2;have e:lensT (p :: P)=uintT p.length++lensT P:=rfl;rw[e,Jd,List.length_cons];omega
theorem Kyn (s:Ser):(Kbf s).length≤s.samples.length+1:=by
 have a1:=Kge s.samples.length s.samples;have a2:(aggsT s.windows).length≤1:=by cases s.windows <;> simp[aggsT]
 unfold Kbf;rw[Jd,List.length_map];omega
theorem Ksm {P:List (List UInt8)} {k:Nat} (h:k < P.length):(P.take (k+1)).flatten=(P.take k).flatten++P[k]!∧((P.take (k+1)).flatten).length≤P.flatten.length:=by
 have e:P.take (k+1)=P.take k ++ [P[k]!]:=by rw[List.take_add_one,List.getElem?_eq_getElem h,getElem!_pos _ k h];rfl
 refine ⟨by rw[e,List.flatten_append];simp,?_⟩;have:P.flatten=(P.take (k+1)).flatten++(P.drop (k+1)).flatten:=by rw[←List.flatten_append,List.take_append_drop]
 rw[this,Jd];omega
theorem Kyg {P:List (List UInt8)} {k:Nat} (h:k < P.length):lensT (P.take (k+1))=lensT (P.take k)++uintT (P[k]!).length:=by
 have e:P.take (k+1)=P.take k ++ [P[k]!]:=by rw[List.take_add_one,List.getElem?_eq_getElem h,getElem!_pos _ k h];rfl
 unfold lensT;rw[e,List.flatMap_append,List.flatMap_singleton]
theorem bnd1 {A X U L Z I l l' k u n:Nat} (h:A+(X+(U+L))+Z≤I) (hI:I≤35184372088832) (hl:l≤11*l') (hl':l'≤k) (hk:k < n) (hn:n≤1099511627777) (hu:u≤11):A+X+U+l+u≤140737488355328:=by omega
theorem bnd2 {A F C f y:Nat} (h:A+F≤C) (hC:C≤35184372088832) (hf:f+y≤F):A+f+y≤140737488355328:=by omega
theorem Kul (c:Cont) (hd:Hd) (w:World) (hS:Sers w hd.A hd.n c.series) (hz:∀s∈c.series,SerSz s) (hn:hd.n≤1073741824) (hT:DbTab w) (hN:Kdx w)
  (hsz:fitB c=true→(Kdc c).length≤35184372088832∧(Kcj c).length≤35184372088832) :
  Calls Tryz.prog 19 #[contV c.res c.frm c.to_ hd] w fun e w'=>e = .returned (.tuple #[filV (Kdh c),.int .i64 (if fitB c=true then 0 else 190)])∧Below w.heap.size w w':=by
 have hmm:=@run_makeMap Tryz.prog;obtain ⟨i0,hi0,hz0,hz1,hz2⟩:=info_parts Qag;obtain ⟨i1,hi1,hy0,hy1,hy2⟩:=info_parts Qcz;have hlen:c.series.length=hd.n:=hS.len;obtain ⟨r,hr⟩:∃r,c.res=r:=⟨_,rfl⟩;obtain ⟨f,hf⟩:∃f,c.frm=f:=⟨_,rfl⟩;obtain ⟨t,ht⟩:∃t,c.to_=t:=⟨_,rfl⟩;obtain ⟨F,hF⟩:∃F,fitB c=F:=⟨_,rfl⟩;have hfit:=fun (w:World) (h:Sers w hd.A hd.n c.series)=>Qaa c hd w h hz (by omega)
 obtain ⟨A,hA⟩:∃A,hd.A=A:=⟨_,rfl⟩;obtain ⟨n,hn'⟩:∃n,hd.n=n:=⟨_,rfl⟩;obtain ⟨cc,hcc⟩:∃cc,hd.c=cc:=⟨_,rfl⟩;obtain ⟨G,hG⟩:∃G,Kdh c=G:=⟨_,rfl⟩;unfold contV;unfold contV at hfit;rw[hA,hn',hcc,hr,hf,ht,hF] at hfit;rw[hr,hf,ht,hA,hn',hcc,hF,hG];rw[hA,hn'] at hS;rw[hn'] at hlen hn;rw[hF] at hsz;have HFIT:=Jh hfit;have HS:=Jh hS;have HZ:=Jh hz;have HT:=Jh hT;have HN:=Jh hN;have HSZ:=Jh hsz;have HF:=Jh hF;have HG:=Jh hG;have HLEN:=Jh hlen;have HRR:=Jh hr;have HRF:=Jh hf;have HRT:=Jh ht;obtain ⟨q,hq⟩:∃q,w.heap.size=q:=⟨_,rfl⟩;have hb1:Below q w ((w.alloc (.cells #[.int .i64 r,.int .i64 f,.int .i64 t,.slice A n cc] 28)).alloc (.cells #[.string ⟨#[]⟩,.string ⟨#[]⟩,.string ⟨#[]⟩] 44)):=((Below.refl _ _).alloc (by omega) _).alloc (by simp;omega) _;have hk1:Blk ((w.alloc (.cells #[.int .i64 r,.int .i64 f,.int .i64 t,.slice A n cc] 28)).alloc (.cells #[.string ⟨#[]⟩,.string ⟨#[]⟩,.string ⟨#[]⟩] 44)) q 28 #[.int .i64 r,.int .i64 f,.int .i64 t,.slice A n cc]:=(Blk.newAt hq.symm).alloc _;have hf1:Blk ((w.alloc (.cells #[.int .i64 r,.int .i64 f,.int .i64 t,.slice A n cc] 28)).alloc (.cells #[.string ⟨#[]⟩,.string ⟨#[]⟩,.string ⟨#[]⟩] 44)) (q+1) 44 #[.string ⟨#[]⟩,.string ⟨#[]⟩,.string ⟨#[]⟩]:=Blk.newAt (by simp;omega);clear hfit hS hz hT hN hsz hF hA hn' hcc hr hf ht hG hlen;go_enter Tryz.func19,Tryz.ntmps19
 go_upto_region 1 with fail
 obtain ⟨w1,hw1⟩:∃w1,(w.alloc (.cells #[.int .i64 r,.int .i64 f,.int .i64 t,.slice A n cc] 28)).alloc (.cells #[.string ⟨#[]⟩,.string ⟨#[]⟩,.string ⟨#[]⟩] 44)=w1:=⟨_,rfl⟩;rw[hw1] at hb1 hk1 hf1;rw[hw1]
 try rw[hq]
 have HQ:=Jh hq;have HB1:=Jh hb1;have HK1:=Jh hk1;have HF1:=Jh hf1;have hqw:q+1 < w1.heap.size:=hf1.lt;have k0:w1.cell? ⟨q,0,none⟩=some (.int .i64 r):=hk1.cell 0;have k1:w1.cell? ⟨q,1,none⟩=some (.int .i64 f):=hk1.cell 1;have k2:w1.cell? ⟨q,2,none⟩=some (.int .i64 t):=hk1.cell 2;have k3:w1.cell? ⟨q,3,none⟩=some (.slice A n cc):=hk1.cell 3;have hS1:=HS.out.below (HQ.out.symm▸hb1);have HC1:=Jh (HFIT.out w1 hS1);clear hw1 hq hb1 hk1 hf1 hS1;go_wp2_with fail
 refine HC1.out.mono ?_;rintro e w2 ⟨rfl,hb2⟩;have HB2:=Jh (show Below (q+2) w1 w2 from hb2.mono (by omega));have hq2:q+1 < w2.heap.size:=by have:=hb2.size;omega
 clear hb2;have hk2:=HK1.out.below HB2.out (by omega);have hf2:=HF1.out.below HB2.out (by omega);have HB02:Hid (Below q w w2):=Jh (HB1.out.trans (HB2.out.mono (by omega)))
 cases F with
 | false=>
  have hgg:G=⟨[],[],[]⟩:=by rw[←HG.out];unfold Kdh;rw[if_neg (by rw[HF.out];decide)]
  subst hgg;have g0:w2.cell? ⟨q+1,0,none⟩=some (.string ⟨#[]⟩):=hf2.cell 0;have g1:w2.cell? ⟨q+1,1,none⟩=some (.string ⟨#[]⟩):=hf2.cell 1;have g2:w2.cell? ⟨q+1,2,none⟩=some (.string ⟨#[]⟩):=hf2.cell 2;have e0:=hf2.frozen 0;have e1:=hf2.frozen 1;have e2:=hf2.frozen 2;have HK2:=Jh hf2;clear hk2 hf2 k0 k1 k2 k3;go_wp2_with fail
  refine bodyPost_ret (Kcu rfl _ _ ⟨q+1,0,none⟩ (filV ⟨[],[],[]⟩) rfl (run_loadVar_row _ (q+1) 44 44 _ (0,0) _ (((HK2.out.set_ 0 _).set_ 1 _).set_ 2 _) Tryz.underlying44 rfl (by kernel_rfl))) rfl ?_;exact ⟨rfl,by rw[HQ.out];exact ((HB02.out.setCell (p:=⟨q+1,0,none⟩) (by show q≤q+1;omega) _).setCell (p:=⟨q+1,1,none⟩) (by show q≤q+1;omega) _).setCell (p:=⟨q+1,2,none⟩) (by show q≤q+1;omega) _⟩
 | true=>
  obtain ⟨hc0,hc1,hc2,hc3,hc4,hc5,hc6⟩:=Kgu.1 HF.out;have HC:=Jh hc5;have hgg:G=Kex c:=by rw[←HG.out];unfold Kdh;rw[if_pos HF.out]
  subst hgg;obtain ⟨hs,hsE,hsl,hsA⟩:=HS.out;have hhl:hs.length=n:=hsE.len;have HSE:=Jh hsE;have HSA:=Jh hsA;clear hc0 hc1 hc2 hc3 hc4 hc5 hc6 hsE hsl hsA;go_upto_region 5 with fail
  have hm:LMap (w2.alloc (.map #[] 0)) (q+2) w2.heap.size (fun _=>[]) 0 #[] 0:=LMap.new w2 (q+2);have hb3:Below (q+2) w1 (w2.alloc (.map #[] 0)):=HB2.out.alloc (by omega) _;obtain ⟨w3,hw3⟩:∃w3,w2.alloc (.map #[] 0)=w3:=⟨_,rfl⟩;obtain ⟨m,hm9⟩:∃m,w2.heap.size=m:=⟨_,rfl⟩;have hmq:q+2≤m:=by omega
  rw[hw3,hm9] at hm;rw[hw3] at hb3 ⊢;rw[hm9];have hq3:q+1 < w3.heap.size:=by have:=hb3.size;omega
  have hk3:=HK1.out.below hb3 (by omega);have k3:w3.cell? ⟨q,3,none⟩=some (.slice A n cc):=hk3.cell 3;have HM:=Jh hm;have HB3:=Jh hb3;clear hw3 hm9 hk2 hf2 k0 k1 k2 hm hb3 hk3 hq2;go_upto_block 0 with fail
  go_cut [4] (fun s4 wz=>∃vs:Value,vs=s4∧FstAt c hs q m n vs w1 wz)
  case first=>
   go_wp2_with fail
   go_loopg [4,29] n (fun g s4 s29 wr=>∃(i:Nat) (vs:Value),vs=s4∧i+g=n∧s29 = .int .i64 (i:Int)∧FstAt c hs q m i vs w1 wr)
   case atStart=>exact ⟨0,_,rfl,by omega,rfl,⟨World.ownsRow_nil _ _ _ _,⟨#[],0,by rw[List.take_zero,Kvz];exact HM.out⟩,HB3.out⟩⟩
   case round=>
    obtain ⟨i,vs,rfl,hig,rfl,hst⟩:=hrel;have HIG:=Jh hig;have HST:=Jh hst;clear hig hst
    by_cases hi:i < n
    ·have el:decide (i < n)=true:=by rw[decide_eq_true_eq];omega
     obtain ⟨wo,rfl⟩:∃x,x=wr:=⟨_,rfl⟩;obtain ⟨hrow,⟨es,clock,hmap⟩,hbr⟩:=HST.out;have hBW:Below w.heap.size w wo:=by rw[HQ.out];exact HB1.out.trans (hbr.mono (by omega))
     obtain ⟨bb,off,hA,hbb,hcell⟩:=HSE.out.2 (by omega);subst hA;have hil:i < hs.length:=by omega
     obtain ⟨x,hx⟩:∃x,hs[i]=x:=⟨_,rfl⟩;have hxi:hs[i]? = some x:=by rw[List.getElem?_eq_getElem hil,hx]
     have htk:(hs.map Hd3.l).take (i+1)=(hs.map Hd3.l).take i ++ [x.l]:=by rw[List.take_add_one,List.getElem?_map,hxi];rfl
     have hsa:=HSA.out i x hxi;have hcl:=hcell i x hxi;obtain ⟨⟨LA,ln,lc⟩,⟨SA,sn,sc⟩,⟨WA,wn,wc9⟩⟩:=x;have c0:wo.cell? ⟨bb,off+i*3,none⟩=some (.slice LA ln lc):=later hBW (by simpa using hcl 0 _ rfl);have c1:wo.cell? ⟨bb,off+i*3+1,none⟩=some (.slice SA sn sc):=later hBW (by simpa using hcl 1 _ rfl);have c2:wo.cell? ⟨bb,off+i*3+2,none⟩=some (.slice WA wn wc9):=later hBW (by simpa using hcl 2 _ rfl);have hic:i < c.series.length:=by have:=HLEN.out;omega
     obtain ⟨hst1,hst2⟩:=Qbl hic;obtain ⟨l,hl⟩:∃l,(c.series[i]!).labels=l:=⟨_,rfl⟩;have hE:Elems w w.heap.size 2 encLb LA ln l:=by rw[←hl];exact hsa.l
     have hlc:ln≤lc:=hsa.lc;have hval:=Kfu (HC.out (c.series[i]!) (by rw[getElem!_pos _ i hic];exact List.getElem_mem hic)).1;rw[hl] at hst1 hval;have HE:=Jh hE;have HLN:=Jh hE.len;have HST1:=Jh hst1;have HST2:=Jh hst2;have HVAL:=Jh hval;have HTK:=Jh htk;have HMAP:=Jh hmap;have HROW:=Jh hrow;have HBR:=Jh hbr;clear hsa hcl hcell hxi htk hx hst1 hst2 hval hE hmap hrow hbr hl hbb;go_upto_block 1 with fail
     go_cut [4] (fun s4 wz=>∃vs':Value,vs'=s4∧FstAt c hs q m (i+1) vs' w1 wz)
     case first=>
      go_upto_region 8 with fail
      have hb4:Below wo.heap.size wo (wo.alloc (.cells #[.slice LA ln lc,.slice SA sn sc,.slice WA wn wc9] 58)):=(Below.refl _ _).alloc (Nat.le_refl _) _;have hp4:Blk (wo.alloc (.cells #[.slice LA ln lc,.slice SA sn sc,.slice WA wn wc9] 58)) wo.heap.size 58 #[.slice LA ln lc,.slice SA sn sc,.slice WA wn wc9]:=Blk.new _ _ _;obtain ⟨w4,hw4⟩:∃w4,wo.alloc (.cells #[.slice LA ln lc,.slice SA sn sc,.slice WA wn wc9] 58)=w4:=⟨_,rfl⟩;obtain ⟨p,hp⟩:∃p,wo.heap.size=p:=⟨_,rfl⟩;rw[hw4] at hb4 hp4 ⊢;have hrow4:w4.ownsRow (q+2) 54 1 vs i (((hs.map Hd3.l).take i).flatMap encH):=by rw[←hw4];exact HROW.out.alloc _
      have hmap4:=HMAP.out.below hb4;have hB4:Below (q+2) w1 w4:=HBR.out.trans (hb4.mono (by have:=HBR.out.size;omega));rw[hp] at hp4 ⊢;have hq4:q+2≤w4.heap.size:=by have:=hB4.size;omega
      have s0:w4.cell? ⟨p,0,none⟩=some (.slice LA ln lc):=hp4.cell 0;have HP4:=Jh hp4;have HMAP4:=Jh hmap4;have HB4:=Jh hB4;have hp4l:=hp4.lt;clear hw4 hp hb4 hp4 hmap4 hB4 c0 c1 c2 hBW;go_wp2_with (at_builtin;refine wpList_append_own_at _ rfl _ _ 103 rfl (q+2) 54 i0 (.slice none 0 0) 1 24 Tryz.underlying103 hi0 hz0 hz1 hz2 rfl (by decide) _ _ _ rfl (hrow4.alloc _) ⟨w4.heap.size,0,none⟩ 1 1 [.slice LA ln lc] rfl rfl ?p1 ?p2 ?p3 ?p4 ?p5 ?_)
      case p2=>first | rfl | (intro u hu;rw[List.mem_singleton.1 hu];rfl)
      case p3=>unfold maxLen;omega
      case p4=>omega
      case p5=>first | omega | (simp;omega)
      intro vs' w5 hown' hgrow _ _;have hall:w4.grownBy w5 vs.ownBlock:=(World.grownBy_alloc w4 _ _).trans hgrow
      have hrow5:w5.ownsRow (q+2) 54 1 vs' (i+1) (((hs.map Hd3.l).take (i+1)).flatMap encH):=by
       rw[HTK.out,List.flatMap_append];exact hown'
      have hB5:Below (q+2) w1 w5:=HB4.out.trans ⟨hall.os,hall.tape,hall.output,hall.size,fun j hj=>hall.block j (by omega) (fun e=>by have:=(hrow4.lt j e.symm).1;omega)⟩;have hmap5:=HMAP4.out.kept hall (fun k e=>by obtain ⟨cur,hc⟩:=Kax hrow4 e;exact ⟨cur,_,hc,by decide⟩);have hp5:=HP4.out.grown hall (fun e=>by obtain ⟨cur,hc⟩:=Kax hrow4 e.symm;exact HP4.out.ne_ (show Blk w4 p _ _ from hc) (by decide) rfl);have s0:w5.cell? ⟨p,0,none⟩=some (.slice LA ln lc):=hp5.cell 0;have HROW5:=Jh hrow5;have HB5:=Jh hB5;have HMAP5:=Jh hmap5;clear hown' hgrow hall hrow4 hrow5 hB5 hmap5 hp5 hp4l hq4;go_wp2_with fail
      go_loopg [42] ln (fun g s42 wz=>∃k:Nat,k+g=ln∧s42 = .int .i64 (k:Int)∧wz.ownsRow (q+2) 54 1 vs' (i+1) (((hs.map Hd3.l).take (i+1)).flatMap encH)∧(∃es clock,LMap wz (q+2) m (Kem ((Kap c).take i) l k) (i*8+k) es clock)∧Below (q+2) w1 wz)
      case atStart=>exact ⟨0,by omega,rfl,HROW5.out,⟨_,_,by rw[Kvy];exact HMAP5.out⟩,HB5.out⟩
      case round=>
       obtain ⟨k,hkg,rfl,hrow,⟨es,clock,hmap⟩,hbr⟩:=hrel;have HKG:=Jh hkg;have HROWK:=Jh hrow;have HMAPK:=Jh hmap;have HBRK:=Jh hbr;clear hkg hrow hmap hbr
       by_cases hk:k < ln
       ·have el:decide (k < ln)=true:=by rw[decide_eq_true_eq];omega
        obtain ⟨wk,rfl⟩:∃x,x=wr:=⟨_,rfl⟩;have hBz:Below w.heap.size w wk:=by rw[HQ.out];exact HB1.out.trans (HBRK.out.mono (by omega))
        have hkl:k < l.length:=by have:=HLN.out;omega
        have hk8:k < 8:=by have:=HVAL.out.2.2.1;omega
        obtain ⟨ba,oa,hLA,_,_⟩:=HE.out.2 (by omega);have hE:=HE.out;subst hLA;obtain ⟨hba,a0,a1⟩:=Kbu hE (by omega) hBz k hkl;have hxz:=HVAL.out.2.2.2.1 l[k]! (by rw[getElem!_pos l k hkl];exact List.getElem_mem hkl);obtain ⟨x,hx⟩:∃x,l[k]! = x:=⟨_,rfl⟩;have hstep:=Kvx (S:=(Kap c).take i) HVAL.out.1 hkl;rw[hx] at a0 a1 hxz hstep;rw[HST2.out] at hstep;obtain ⟨N,hN⟩:∃N:ByteArray,(⟨x.n.toArray⟩:ByteArray)=N:=⟨_,rfl⟩;obtain ⟨V,hV⟩:∃N:ByteArray,(⟨x.v.toArray⟩:ByteArray)=N:=⟨_,rfl⟩;have hlb:lbV x = .agg #[.string N,.string V]:=by unfold lbV;rw[hN,hV]
        rw[hN] at a0;rw[hV] at a1;have HXZ:=Jh hxz;have HSTEP:=Jh hstep;have HLB:=Jh hlb;clear hx hN hV hlb hxz hstep hE;go_upto_region 12 with fail
        have hb6:Below wk.heap.size wk (wk.alloc (.cells #[.string N,.string V] 99)):=(Below.refl _ _).alloc (Nat.le_refl _) _;have hp6:Blk (wk.alloc (.cells #[.string N,.string V] 99)) wk.heap.size 99 #[.string N,.string V]:=Blk.new _ _ _;obtain ⟨w6,hw6⟩:∃w6,wk.alloc (.cells #[.string N,.string V] 99)=w6:=⟨_,rfl⟩;rw[hw6] at hb6 hp6 ⊢;obtain ⟨p9,hp9⟩:∃p,wk.heap.size=p:=⟨_,rfl⟩;have hB6:Below (q+2) w1 w6:=HBRK.out.trans (hb6.mono (by have:=HBRK.out.size;omega));have hrow6:w6.ownsRow (q+2) 54 1 vs' (i+1) (((hs.map Hd3.l).take (i+1)).flatMap encH):=by rw[←hw6];exact HROWK.out.alloc _
        have hmap6:=HMAPK.out.below hb6;rw[hp9] at hp6 ⊢;have q0:w6.cell? ⟨p9,0,none⟩=some (.string N):=hp6.cell 0;have q1:w6.cell? ⟨p9,1,none⟩=some (.string V):=hp6.cell 1;obtain ⟨w7,hw7⟩:∃w7,w6.alloc (.cells #[.int .i64 (i:Int)] 3)=w7:=⟨_,rfl⟩;have hb7:Below w6.heap.size w6 w7:=by rw[←hw7];exact (Below.refl _ _).alloc (Nat.le_refl _) _
        have hp7:Blk w7 w6.heap.size 3 #[.int .i64 (i:Int)]:=by rw[←hw7];exact Blk.new _ _ _
        have hrow7:w7.ownsRow (q+2) 54 1 vs' (i+1) (((hs.map Hd3.l).take (i+1)).flatMap encH):=by rw[←hw7];exact hrow6.alloc _
        have hmap7:=hmap6.below hb7;have hB7:Below (q+2) w1 w7:=hB6.trans (hb7.mono (by have:=hB6.size;omega));have hq7:q+2≤w7.heap.size:=by have:=hB7.size;omega
        obtain ⟨b7,hb79⟩:∃p,w6.heap.size=p:=⟨_,rfl⟩;rw[hb79] at hp7;obtain ⟨v0,st,es1,clock1,hrun1,hrow0,hvm,hstp⟩:=hmap7.step x (by have:=HXZ.out;omega) i hq7;rw[HLB.out] at hrun1;have hg8:w7.grownBy (setBlock w7 m (.map es1 clock1)) (some m):=Kee _;have hsz8:=Klq w7 m (.map es1 clock1);have hm8:=Kht (.map es1 clock1) hmap7.h;obtain ⟨w8,hw8⟩:∃w8,setBlock w7 m (.map es1 clock1)=w8:=⟨_,rfl⟩;rw[hw8] at hrun1 hrow0 hstp hg8 hsz8 hm8
        have hb7m:some b7≠some m:=fun e=>by
         injection e with e;have h1:=hmap7.h;rw[←e] at h1;rw[show w7.heap[b7]? = _ from hp7] at h1;cases h1
        have hp8:Blk w8 b7 3 #[.int .i64 (i:Int)]:=hp7.grown hg8 hb7m;have hrow8:=hrow7.kept hg8 (Klp hrow7 hmap7.h);have hB8:Below (q+2) w1 w8:=hB7.trans ⟨hg8.os,hg8.tape,hg8.output,hg8.size,fun j hj=>hg8.block j (by omega) (fun e=>by injection e with e;omega)⟩;obtain ⟨A0,cap0,rfl⟩:=Kan hrow0;obtain ⟨n0,hn0⟩:∃n0,(Kem ((Kap c).take i) l k x).length=n0:=⟨_,rfl⟩
        have hn0le:n0≤i+1:=by
         rw[←hn0];unfold Kem;have h1:=Kln ((Kap c).take i) x;rw[HST2.out] at h1
         split
         ·rw[Jd,List.length_singleton];omega
         ·omega
        rw[hn0] at hrow0 hstp hrun1 hvm;have HSTP:=Jh hstp;have HM8:=Jh hm8;have HVM:=Jh hvm;have HROW8:=Jh hrow8;have HB8:=Jh hB8;have HSZ8:=Jh hsz8;have hq8:q+2≤w8.heap.size:=by omega
        have HROW0:=Jh hrow0;have HP8:=Jh hp8;clear hw6 hp9 hb6 hp6 hB6 hrow6 hmap6 hb7 hp7 hrow7 hmap7 hB7 hg8 hsz8 hb7m hp8 hrow8 hB8 hstp hw8 a0 a1 hBz hn0 hvm hm8;go_wp2_with (at_builtin;refine wpList_append_own_at _ rfl _ _ 69 rfl (q+2) 3 i1 (.int .i64 0) 1 8 Tryz.underlying69 hi1 hy0 hy1 hy2 rfl (by decide) _ _ _ rfl HROW0.out ⟨b7,0,none⟩ 1 1 [.int .i64 (i:Int)] rfl rfl (Kav (l:=[.int .i64 (i:Int)]) HP8.out) ?p2 ?p3 ?p4 ?p5 ?_)
        case p2=>first | rfl | (intro u hu;rw[List.mem_singleton.1 hu];rfl)
        case p3=>unfold maxLen;omega
        case p4=>omega
        case p5=>omega
        intro v' w9 hown' hgrow _ hat;obtain ⟨es',clock',hrun2,hL',_⟩:=HSTP.out w9 v' hgrow hown' (hat.imp id (fun h=>by rw[HSZ8.out] at h;exact h));rw[HSTEP.out] at hL';have hg10:w9.grownBy (setBlock w9 m (.map es' clock')) (some m):=Kee _;obtain ⟨w10,hw10⟩:∃w10,setBlock w9 m (.map es' clock')=w10:=⟨_,rfl⟩;rw[hw10] at hrun2 hL' hg10;have hm9:w9.heap[m]? = some (.map es1 clock1):=(hgrow.block m (Array.getElem?_eq_some_iff.1 HM8.out).1 (Ne.symm HVM.out)).trans HM8.out;have hrow9:=HROW8.out.kept hgrow (Kbq HROW8.out HROW0.out (by decide));have hrow10:=hrow9.kept hg10 (Klp hrow9 hm9);have hB10:Below (q+2) w1 w10:=(HB8.out.trans ⟨hgrow.os,hgrow.tape,hgrow.output,hgrow.size,fun j hj=>hgrow.block j (by omega) (fun e=>by have:=(World.ownsRow.lt HROW0.out j e.symm).1;omega)⟩).trans ⟨hg10.os,hg10.tape,hg10.output,hg10.size,fun j hj=>hg10.block j (by have:=hgrow.size;omega) (fun e=>by injection e with e;omega)⟩;have HL10:=Jh hL';have HROW10:=Jh hrow10;have HB10:=Jh hB10;clear hown' hgrow hat hL' hg10 hw10 hm9 hrow9 hrow10 hB10;go_wp2_with fail
        go_roundg (gk - 1)
        case measure=>have:=HKG.out;omega
        case rel=>exact ⟨k+1,by have:=HKG.out;omega,by go_num,HROW10.out,⟨_,_,HL10.out⟩,HB10.out⟩
       ·have el:decide (k < ln)=false:=by rw[decide_eq_false_iff_not];omega
        have hkl:k=l.length:=by have:=HKG.out;have:=HLN.out;omega
        have hfst:FstAt c hs q m (i+1) vs' w1 wr:=⟨HROWK.out,⟨_,_,by
         have h1:=HMAPK.out;rw[hkl,Kyr,←HST1.out] at h1
         exact h1.mono (by have:=HVAL.out.2.2.1;omega)⟩,HBRK.out⟩
        have HFST:=Jh hfst;clear hfst hkl;go_wp2_with fail
        go_meet
        exact ⟨_,rfl,HFST.out⟩
     case rest=>
      obtain ⟨vs',rfl,hst⟩:=hcut;have HFST:=Jh hst;clear hst;go_wp2_with fail
      go_roundg (gk - 1)
      case measure=>have:=HIG.out;omega
      case rel=>exact ⟨i+1,_,rfl,by have:=HIG.out;omega,by go_num,HFST.out⟩
    ·have el:decide (i < n)=false:=by rw[decide_eq_false_iff_not];omega
     have hin:i=n:=by have:=HIG.out;omega
     have hst:FstAt c hs q m n vs w1 wr:=by rw[←hin];exact HST.out
     have HST2:=Jh hst;clear hst hin;go_wp2_with fail
     go_meet
     exact ⟨_,rfl,HST2.out⟩
  case rest=>
   obtain ⟨vs,rfl,hst⟩:=hcut;obtain ⟨w4,rfl⟩:∃x,x=wc:=⟨_,rfl⟩;obtain ⟨hrow,⟨es,clock,hmap⟩,hb4⟩:=hst;have hsl:(Kap c).length=n:=by unfold Kap;rw[List.length_map];exact HLEN.out
   have hml:(hs.map Hd3.l).length=n:=by rw[List.length_map];exact hhl
   rw[List.take_of_length_le (by omega)] at hmap;rw[List.take_of_length_le (by omega)] at hrow;have hBW:Below w.heap.size w w4:=by rw[HQ.out];exact HB1.out.trans (hb4.mono (by omega))
   obtain ⟨AS,cs,rfl,hES,hjk1,hjk2⟩:=Elems.of_own (fun x _=>Qcw x) rfl hrow hml
   have hSets:Sets w4 AS n (Kap c):=by
    refine ⟨_,hES,hsl,fun i h hi=>?_⟩;rw[List.getElem?_map] at hi
    cases hx:hs[i]? with
    | none=>rw[hx] at hi;cases hi
    | some x=>
     rw[hx] at hi;injection hi with hi;subst hi;have h1:=HSA.out i x hx;have hic:i < c.series.length:=by have:=(List.getElem?_eq_some_iff.1 hx).1;have:=HLEN.out;omega
     have e:(Kap c)[i]! = (c.series[i]!).labels:=by
      have e2:(Kap c)[i]? = some (c.series[i]!).labels:=by
       unfold Kap;rw[List.getElem?_map,List.getElem?_eq_getElem hic,getElem!_pos _ i hic];rfl
      rw[List.getElem!_eq_getElem?_getD,e2];rfl
     rw[e];exact ⟨(h1.l.below hBW).more hBW.size,h1.lc⟩
   have hsz8:∀s∈Kap c,s.length≤8∧∀x∈s,x.n.length≤32∧x.v.length≤64:=fun s hs=>by
    unfold Kap at hs;obtain ⟨y,hy,rfl⟩:=List.mem_map.1 hs;have:=Kfu (HC.out y hy).1;exact ⟨this.2.2.1,this.2.2.2.1⟩
   have hall:(allT (Kap c)).length≤16*n:=by
    have:=Kmp (L:=Kap c) fun s hs=>(hsz8 s hs).1
    omega
   have htxt:∀x∈allT (Kap c),x.length≤64:=fun x hx=>by
    obtain ⟨s,hs,hx⟩:=List.mem_flatMap.1 hx;obtain ⟨y,hy,h1 | h1⟩:=Qbr hx
    ·rw[h1];have:=((hsz8 s hs).2 y hy).1;omega
    ·rw[h1];have:=((hsz8 s hs).2 y hy).2;omega
   have HCO:=Jh (Kqt (Kap c) AS n cs w4 hSets (by omega) (by omega) (fun x hx=>by have:=htxt x hx;omega));have HMAP:=Jh hmap;have HB4:=Jh hb4;have HALL:=Jh hall;have HSZS:=Jh (HSZ.out (by first | trivial | rfl));have hq4:q+2≤w4.heap.size:=by have:=hb4.size;omega
   clear hrow hmap hb4 hBW hES hSets hsz8 hall htxt hsl hml hjk1 hjk2;go_wp2_with fail
   refine HCO.out.mono ?_;rintro _ w5 ⟨pt,T,rfl,htab,hist,htl,hb5,hpt⟩;obtain rfl:T=tabOf (Kap c):=hist.one (show IsTab (allT (Kap c)) _ from Kuc (Kap c));obtain ⟨T,hTT⟩:∃T,tabOf (Kap c)=T:=⟨_,rfl⟩;rw[hTT] at htab hist htl;have HTT:=Jh hTT;have HTAB:=Jh htab;have HIST:=Jh hist;have HTL:=Jh htl;have HB5:=Jh (show Below (q+2) w1 w5 from HB4.out.trans (hb5.mono (by omega)));have HMAP5:=Jh (HMAP.out.below hb5);clear htab hist htl hb5 hpt hTT hq4;go_upto_region 17 with fail
   have hbd1:BldR w5.heap.size w5.heap.size none [] (w5.alloc (.cells #[.pointer none,.slice none 0 0] 109)):=BldR.new w5 (Nat.le_refl _)
   have hbd2:BldR w5.heap.size (w5.heap.size+1) none [] ((w5.alloc (.cells #[.pointer none,.slice none 0 0] 109)).alloc (.cells #[.pointer none,.slice none 0 0] 109)):=by
    have:=BldR.new (B:=w5.heap.size) (w5.alloc (.cells #[.pointer none,.slice none 0 0] 109)) (by simp);rw[World.size_alloc] at this;exact this
   have hb6:Below w5.heap.size w5 ((w5.alloc (.cells #[.pointer none,.slice none 0 0] 109)).alloc (.cells #[.pointer none,.slice none 0 0] 109)):=((Below.refl _ _).alloc (Nat.le_refl _) _).alloc (by simp) _;have htw6:Two w5.heap.size w5.heap.size (w5.heap.size+1) [] [] ((w5.alloc (.cells #[.pointer none,.slice none 0 0] 109)).alloc (.cells #[.pointer none,.slice none 0 0] 109)):=⟨none,none,hbd1.below ((Below.refl _ _).alloc (Nat.le_refl _) _),hbd2,by omega,fun k h=>by cases h⟩;obtain ⟨w6,hw6⟩:∃w6,(w5.alloc (.cells #[.pointer none,.slice none 0 0] 109)).alloc (.cells #[.pointer none,.slice none 0 0] 109)=w6:=⟨_,rfl⟩;rw[hw6] at hb6 htw6 ⊢;have hq5:q+2≤w5.heap.size:=by have:=HB5.out.size;omega
   have HK5:=Jh (HK1.out.below HB5.out (by omega));have HF5:=Jh (HF1.out.below HB5.out (by omega));have HBW5:Hid (Below w.heap.size w w5):=Jh (by rw[HQ.out];exact HB1.out.trans (HB5.out.mono (by omega)));obtain ⟨d,hd⟩:∃d,w5.heap.size=d:=⟨_,rfl⟩;have HD:=Jh hd;rw[hd] at hb6 htw6 hq5 ⊢
   have htz:(tabT T).length≤35184372088832:=by
    have h1:=HSZS.out.2;unfold Kcj at h1;rw[HTT.out,Jd] at h1;omega
   have HSE:=Jh (Knx (.pointer (some ⟨pt,0,none⟩)) T w6 (HTAB.out.below (hd.symm▸hb6)) (by have:=HTL.out;have:=HALL.out;omega) (by omega));obtain ⟨X,hX⟩:∃X:ByteArray,(⟨(tabT T).toArray⟩:ByteArray)=X:=⟨_,rfl⟩;have hXd:X.data.toList=tabT T:=by rw[←hX]
   have hXs:X.size=(tabT T).length:=by rw[←Kak,hXd]
   rw[hX] at HSE;have HXD:=Jh hXd;have HB6:=Jh hb6;have HTW6:=Jh htw6;have hd6:d≤w6.heap.size:=by have:=hb6.size;omega
   clear hbd1 hbd2 hw6 hd hX hXd hb6 htw6;go_wp2_with fail
   refine HSE.out.mono ?_;rintro _ w7 ⟨rfl,hb7⟩;have HB7:=Jh (HB6.out.trans (hb7.mono hd6));have hd7:d≤w7.heap.size:=by have:=hb7.size;omega
   have HW7:=Jh (Kdu X w7 (HTW6.out.below hb7) (by simp;omega) hd7);clear hb7 HB6 HTW6 HSE;go_wp2_with fail
   refine HW7.out.mono ?_;rintro _ w8 ⟨rfl,htw8,hb8,hjk3⟩;clear hjk3;rw[List.nil_append,HXD.out] at htw8;have HB8:=Jh (HB7.out.trans hb8);have hd8:d≤w8.heap.size:=by have:=hb8.size;omega
   have hk8:=HK5.out.below HB8.out (by omega);have k3:w8.cell? ⟨q,3,none⟩=some (.slice A n cc):=hk8.cell 3;have hu:=Kau n (by omega) w8;obtain ⟨U,hU⟩:∃U:ByteArray,(⟨(uintT n).toArray⟩:ByteArray)=U:=⟨_,rfl⟩;have hUd:U.data.toList=uintT n:=by rw[←hU]
   have hUs:U.size≤11:=by rw[←Kak,hUd];exact (Kab n).2
   rw[hU] at hu;have HU:=Jh hu;have HUD:=Jh hUd;have HTW8:=Jh htw8;clear hb8 hk8 hu hU hUd htw8 HB7 HW7;go_wp2_with fail
   refine HU.out.mono ?_;rintro _ w9 ⟨rfl,hb9⟩;have HB9:=Jh (HB8.out.trans (hb9.mono hd8));have hd9:d≤w9.heap.size:=by have:=hb9.size;omega
   have HW9:=Jh (Kdu U w9 (HTW8.out.below hb9) (by omega) hd9);clear hb9 k3;go_wp2_with fail
   refine HW9.out.mono ?_;rintro _ w10 ⟨rfl,htw10,hb10,hjk3⟩;clear hjk3;have hix:tabT T++U.data.toList=ixAt c T 0:=by unfold ixAt;rw[HUD.out,HLEN.out,List.take_zero];simp
   rw[hix] at htw10;have HB10:=Jh (HB9.out.trans hb10);have hd10:d≤w10.heap.size:=by have:=hb10.size;omega
   have HTW10:=Jh (show Two d d (d+1) (ckAt c 0) (ixAt c T 0) w10 from htw10);have hk10:=HK5.out.below HB10.out (by omega);have k3:w10.cell? ⟨q,3,none⟩=some (.slice A n cc):=hk10.cell 3;clear htw10 hb10 hk10 hix HB9 HB8 HW9 HTW8;go_upto_block 4 with fail
   go_cut [] (fun wz=>Two d d (d+1) (ckAt c n) (ixAt c T n) wz∧Below d w5 wz)
   case first=>
    go_wp2_with fail
    go_loopg [70] n (fun g s70 wr=>∃i:Nat,i+g=n∧s70 = .int .i64 (i:Int)∧Two d d (d+1) (ckAt c i) (ixAt c T i) wr∧Below d w5 wr)
    case atStart=>exact ⟨0,by omega,rfl,HTW10.out,HB10.out⟩
    case round=>
     obtain ⟨i,hig,rfl,htw,hbr⟩:=hrel;have HIG:=Jh hig;have HTW:=Jh htw;have HBR:=Jh hbr;clear hig htw hbr
     by_cases hi:i < n
     ·have el:decide (i < n)=true:=by rw[decide_eq_true_eq];omega
      obtain ⟨wo,rfl⟩:∃x,x=wr:=⟨_,rfl⟩;have hBWo:Below w.heap.size w wo:=HBW5.out.trans (HBR.out.mono (by have:=HQ.out;omega));obtain ⟨bb,off,hA,hbb,hcell⟩:=HSE.out.2 (by omega);subst hA;have hil:i < hs.length:=by omega
      obtain ⟨x,hx⟩:∃x,hs[i]=x:=⟨_,rfl⟩;have hxi:hs[i]? = some x:=by rw[List.getElem?_eq_getElem hil,hx]
      have hsa:=(HSA.out i x hxi).below hBWo;have hcl:=hcell i x hxi;obtain ⟨⟨LA,ln,lc⟩,⟨SA,sn,sc⟩,⟨WA,wn,wc9⟩⟩:=x;have c0:wo.cell? ⟨bb,off+i*3,none⟩=some (.slice LA ln lc):=later hBWo (by simpa using hcl 0 _ rfl);have c1:wo.cell? ⟨bb,off+i*3+1,none⟩=some (.slice SA sn sc):=later hBWo (by simpa using hcl 1 _ rfl);have c2:wo.cell? ⟨bb,off+i*3+2,none⟩=some (.slice WA wn wc9):=later hBWo (by simpa using hcl 2 _ rfl);have hic:i < c.series.length:=by have:=HLEN.out;omega
      have hmem:c.series[i]!∈c.series:=by rw[getElem!_pos _ i hic];exact List.getElem_mem hic
      have hcs:=HC.out _ hmem;have hzs:=HZ.out _ hmem;have hixs:=Qam (T:=T) hic;have hcks:=Kzo hic;have hixl:=Kwt c (i+1);have hckl:=Qeo c (i+1);rw[HTT.out] at hixl;have hsets:(c.series[i]!).labels∈Kap c:=List.mem_map.2 ⟨_,hmem,rfl⟩;obtain ⟨s,hs9⟩:∃s,c.series[i]! = s:=⟨_,rfl⟩;rw[hs9] at hsa hcs hzs hixs hcks hsets;have hval:=Kfu hcs.1;have hpk:packR T s.labels=(pk T s.labels,0):=Qbb HIST.out.1 hval.2.2.2.2 (fun x hx=>(HIST.out.2 x).2 (List.mem_flatMap.2 ⟨_,hsets,hx⟩))
      obtain ⟨f0,f1⟩:0≤c.frm∧c.to_≤1125899906842625:=by
       obtain ⟨_,_,a,_,b,_⟩:=Kgu.1 HF.out;exact ⟨a,b⟩
      obtain ⟨hpo1,hpo2⟩:=Qdo hcs.2 f0 f1 hzs.v;have hpl:=Kyn s;have hplz:=hzs.n;have hlen1:=hsa.l.len;rw[hixs] at hixl;rw[hcks] at hckl;have hser:serT T s=pk T s.labels++(uintT (Kbf s).length++lensT (Kbf s)):=rfl;rw[hser] at hixl hixs;simp only[Jd] at hixl hckl;have hI2:=HSZS.out.2;have hC2:=HSZS.out.1;have HVAL:=Jh hval;have HPK0:=Jh hpk;have HIXS:=Jh hixs;have HCKS:=Jh hcks;have HPO1:=Jh hpo1;have HPO2:=Jh hpo2;have HZS:=Jh hzs;have HSA9:=Jh hsa;clear hsa hcl hcell hxi hx hmem hcs hzs hixs hcks hsets hs9 hval hpk f0 f1 hpo1 hpo2 hser hbb;go_upto_block 5 with fail
      go_cut [] (fun wz=>Two d d (d+1) (ckAt c (i+1)) (ixAt c T (i+1)) wz∧Below d w5 wz)
      case first=>
       go_upto_region 22 with fail
       have hb12:Below wo.heap.size wo (wo.alloc (.cells #[.slice LA ln lc,.slice SA sn sc,.slice WA wn wc9] 58)):=(Below.refl _ _).alloc (Nat.le_refl _) _;have hp12:Blk (wo.alloc (.cells #[.slice LA ln lc,.slice SA sn sc,.slice WA wn wc9] 58)) wo.heap.size 58 #[.slice LA ln lc,.slice SA sn sc,.slice WA wn wc9]:=Blk.new _ _ _;obtain ⟨w12,hw12⟩:∃w12,wo.alloc (.cells #[.slice LA ln lc,.slice SA sn sc,.slice WA wn wc9] 58)=w12:=⟨_,rfl⟩;obtain ⟨p,hp⟩:∃p,wo.heap.size=p:=⟨_,rfl⟩;have hdo:d≤wo.heap.size:=by have:=HBR.out.size;have:=HD.out;omega
       rw[hw12] at hb12 hp12 ⊢;have hB12:Below d w5 w12:=HBR.out.trans (hb12.mono hdo);have htw12:=HTW.out.below hb12;have hsa12:=HSA9.out.below hb12;rw[hp] at hp12 ⊢;have s0:w12.cell? ⟨p,0,none⟩=some (.slice LA ln lc):=hp12.cell 0;have HP12:=Jh hp12;have htab12:=HTAB.out.below (HD.out.symm▸hB12);have HPK:=Jh (Kyl (.pointer (some ⟨pt,0,none⟩)) T s.labels LA ln lc w12 (pk T s.labels) 0 HPK0.out htab12 HIST.out.1 (by have:=HTL.out;have:=HALL.out;omega) hsa12.l hsa12.lc (by have:=HVAL.out.2.2.1;have:s.labels.length=ln:=hlen1;omega) (fun x hx=>by have:=HVAL.out.2.2.2.1 x hx;omega));obtain ⟨X2,hX2⟩:∃X:ByteArray,(⟨(pk T s.labels).toArray⟩:ByteArray)=X:=⟨_,rfl⟩;have hX2d:X2.data.toList=pk T s.labels:=by rw[←hX2]
       have hX2s:X2.size=(pk T s.labels).length:=by rw[←Kak,hX2d]
       rw[hX2] at HPK;have HX2D:=Jh hX2d;have HB12:=Jh hB12;have HTW12:=Jh htw12;have HSA12:=Jh hsa12;have hd12:d≤w12.heap.size:=by have:=hb12.size;omega
       clear hb12 hp12 hw12 hp hB12 htw12 hsa12 htab12 hX2 hX2d c0 c1 c2 hBWo;go_wp2_with fail
       refine HPK.out.mono ?_;rintro _ w13 ⟨rfl,hb13⟩;have hp13:=HP12.out.below hb13 HP12.out.lt;have s0:w13.cell? ⟨p,0,none⟩=some (.slice LA ln lc):=hp13.cell 0;have s1:w13.cell? ⟨p,1,none⟩=some (.slice SA sn sc):=hp13.cell 1;have s2:w13.cell? ⟨p,2,none⟩=some (.slice WA wn wc9):=hp13.cell 2;have hB13:Below d w5 w13:=HB12.out.trans (hb13.mono hd12);have hpa:=Kvv s ⟨⟨LA,ln,lc⟩,⟨SA,sn,sc⟩,⟨WA,wn,wc9⟩⟩ w13 (HSA12.out.below hb13) HZS.out.n HZS.out.m HZS.out.v HZS.out.b (HT.out.below (HBW5.out.trans (hB13.mono (by have:=HQ.out;omega)))) HPO1.out HPO2.out;unfold serV at hpa;dsimp only at hpa;have HPA:=Jh hpa;have HB13:=Jh hB13;have HTW13:=Jh (HTW12.out.below hb13);have hd13:d≤w13.heap.size:=by have:=hb13.size;omega
       clear hb13 hp13 hB13 hpa;go_wp2_with fail
       refine HPA.out.mono ?_;rintro _ w14 ⟨v,rfl,hown,hb14⟩;obtain ⟨AP,cp,rfl⟩:=Kan hown;obtain ⟨P,hP⟩:∃P,Kbf s=P:=⟨_,rfl⟩;rw[hP] at hown hixl hckl hpl ⊢;obtain ⟨np,hnp⟩:∃np,P.length=np:=⟨_,rfl⟩;rw[hnp] at hown hixl hpl ⊢;have HP:=Jh hP;have HNP:=Jh hnp;have HB14:=Jh (HB13.out.trans (hb14.mono hd13));have HOWN:=Jh hown;have hd14:d≤w14.heap.size:=by have:=hb14.size;omega
       have HW14:=Jh (Kdu X2 w14 (HTW13.out.below hb14) (by omega) hd14);clear hb14 hown hP hnp s0 s1 s2;go_wp2_with fail
       refine HW14.out.mono ?_;rintro _ w15 ⟨rfl,htw15,hb15,hr15⟩;have HB15:=Jh (HB14.out.trans hb15);have HOWN15:=Jh (hr15.own HOWN.out (by decide) (by decide));have HTW15:=Jh htw15;have hd15:d≤w15.heap.size:=by have:=hb15.size;omega
       have hu2:=Kau np (by omega) w15;obtain ⟨U2,hU2⟩:∃U:ByteArray,(⟨(uintT np).toArray⟩:ByteArray)=U:=⟨_,rfl⟩;have hU2d:U2.data.toList=uintT np:=by rw[←hU2]
       have hU2s:U2.size=(uintT np).length:=by rw[←Kak,hU2d]
       rw[hU2] at hu2;have HU2:=Jh hu2;have HU2D:=Jh hU2d;clear hu2 hU2 hU2d htw15 hb15 hr15;go_wp2_with fail
       refine HU2.out.mono ?_;rintro _ w16 ⟨rfl,hb16⟩;have HB16:=Jh (HB15.out.trans (hb16.mono hd15));have HOWN16:=Jh ((Rest.below hb16).own HOWN15.out (by decide) (by decide));have hd16:d≤w16.heap.size:=by have:=hb16.size;omega
       have hx2l:(ixAt c T i++X2.data.toList).length=(ixAt c T i).length+(pk T s.labels).length:=by rw[Jd,HX2D.out]
       have HW16:=Jh (Kdu U2 w16 (HTW15.out.below hb16) (by omega) hd16);clear hb16;go_wp2_with fail
       refine HW16.out.mono ?_;rintro _ w17 ⟨rfl,htw17,hb17,hr17⟩;rw[HX2D.out,HU2D.out] at htw17;have HB17:=Jh (HB16.out.trans hb17);have HOWN17:=Jh (hr17.own HOWN16.out (by decide) (by decide));have hd17:d≤w17.heap.size:=by have:=hb17.size;omega
       have HTW17:=Jh (show Two d d (d+1) (ckAt c i++(P.take 0).flatten) (ixAt c T i++pk T s.labels++uintT np++lensT (P.take 0)) w17 by simpa[lensT] using htw17);clear htw17 hb17 hr17 hx2l;go_wp2_with fail
       go_loopg [92] np (fun g s92 wz=>∃k:Nat,k+g=np∧s92 = .int .i64 (k:Int)∧Two d d (d+1) (ckAt c i++(P.take k).flatten) (ixAt c T i++pk T s.labels++uintT np++lensT (P.take k)) wz∧wz.ownsRow w13.heap.size 9 1 (.slice AP np cp) np (P.map txtV)∧Below d w5 wz)
       case atStart=>exact ⟨0,by omega,rfl,HTW17.out,HOWN17.out,HB17.out⟩
       case round=>
        obtain ⟨k,hkg,rfl,htw,hown,hbr⟩:=hrel;have HKG:=Jh hkg;have HTWK:=Jh htw;have HOWNK:=Jh hown;have HBRK:=Jh hbr;obtain ⟨wk,rfl⟩:∃x,x=wr:=⟨_,rfl⟩;clear hkg htw hown hbr
        by_cases hk:k < np
        ·have el:decide (k < np)=true:=by rw[decide_eq_true_eq];omega
         have hkP:k < P.length:=by have:=HNP.out;omega
         obtain ⟨AQ,cq,he,hstr,_,_⟩:=Strs.of_own HOWNK.out HNP.out;injection he with e1 _ e2;subst e1 e2;obtain ⟨bp,op,hAP,hbp,hcp⟩:=hstr.at_ hk;subst hAP;obtain ⟨hft1,hft2⟩:=Ksm hkP;have hlt:=Kyg hkP;have hll:=Qao (P.take k);have htkl:(P.take k).length≤k:=by rw[List.length_take];omega
         obtain ⟨Y,hY⟩:∃Y:ByteArray,(⟨P[k]!.toArray⟩:ByteArray)=Y:=⟨_,rfl⟩;have hYd:Y.data.toList=P[k]!:=by rw[←hY]
         have hYs:Y.size=(P[k]!).length:=by rw[←Kak,hYd]
         have hcp2:wk.cell? ⟨bp,op+k,none⟩=some (.string Y):=by rw[hcp];unfold txtV;rw[hY]
         rw[←hYs] at hlt;rw[hft1,Jd,←hYs] at hft2;have hYz:Y.size≤35184372088832:=by omega
         have hu3:=Kau Y.size (by omega) wk;obtain ⟨U3,hU3⟩:∃U:ByteArray,(⟨(uintT Y.size).toArray⟩:ByteArray)=U:=⟨_,rfl⟩;have hU3d:U3.data.toList=uintT Y.size:=by rw[←hU3]
         have hU3s:U3.size≤11:=by rw[←Kak,hU3d];exact (Kab _).2
         rw[hU3] at hu3;have HU3:=Jh hu3;have HU3D:=Jh hU3d;have HFT:=Jh hft1;have HLT:=Jh hlt;have HYD:=Jh hYd;have hdk:d≤wk.heap.size:=by have:=HBRK.out.size;have:=HD.out;omega
         clear hu3 hU3 hU3d hft1 hlt hY hYd hcp hstr hYs;go_wp2_with fail
         refine HU3.out.mono ?_;rintro _ w18 ⟨rfl,hb18⟩;have HB18:=Jh (HBRK.out.trans (hb18.mono hdk));have HOWN18:=Jh ((Rest.below hb18).own HOWNK.out (by decide) (by decide));have hd18:d≤w18.heap.size:=Nat.le_trans hdk hb18.size;have HW18:=Jh (Kdu U3 w18 (HTWK.out.below hb18) (by rw[Jd,Jd,Jd];exact bnd1 hixl hI2 hll htkl hk (Nat.le_trans hpl (Nat.add_le_add_right hplz 1)) hU3s) hd18);clear hb18;go_wp2_with fail
         refine HW18.out.mono ?_;rintro _ w19 ⟨rfl,htw19,hb19,hr19⟩;have HB19:=Jh (HB18.out.trans hb19);have HOWN19:=Jh (hr19.own HOWN18.out (by decide) (by decide));have hd19:d≤w19.heap.size:=Nat.le_trans hd18 hb19.size;have HW19:=Jh (Kog Y w19 htw19 (by rw[Jd];exact bnd2 hckl hC2 hft2) hd19);clear hb19 hr19 htw19;go_wp2_with fail
         refine HW19.out.mono ?_;rintro _ w20 ⟨rfl,htw20,hb20,hr20⟩
         have HFIN:Hid (Two d d (d+1) (ckAt c i++(P.take (k+1)).flatten) (ixAt c T i++pk T s.labels++uintT np++lensT (P.take (k+1))) w20):=Jh (by
          rw[HFT.out,HLT.out];rw[HU3D.out,HYD.out] at htw20
          simpa only[List.append_assoc] using htw20)
         have HB20:=Jh (HB19.out.trans hb20);have HOWN20:=Jh (hr20.own HOWN19.out (by decide) (by decide));clear hb20 hr20 htw20;go_wp2_with fail
         go_roundg (gk - 1)
         case measure=>have:=HKG.out;omega
         case rel=>exact ⟨k+1,by have:=HKG.out;omega,by go_num,HFIN.out,HOWN20.out,HB20.out⟩
        ·have el:decide (k < np)=false:=by rw[decide_eq_false_iff_not];omega
         have hkn:k=P.length:=by have:=HKG.out;have:=HNP.out;omega
         have HFIN:Hid (Two d d (d+1) (ckAt c (i+1)) (ixAt c T (i+1)) wk∧Below d w5 wk):=Jh (by
          have h1:=HTWK.out;rw[hkn,List.take_length] at h1;rw[HCKS.out,HIXS.out,HP.out,HNP.out];refine ⟨?_,HBRK.out⟩
          simpa only[List.append_assoc] using h1)
         clear hkn;go_wp2_with fail
         go_meet
         exact HFIN.out
      case rest=>
       obtain ⟨htw,hbr⟩:=hcut;have HTW9:=Jh htw;have HBR9:=Jh hbr;clear htw hbr;go_wp2_with fail
       go_roundg (gk - 1)
       case measure=>have:=HIG.out;omega
       case rel=>exact ⟨i+1,by have:=HIG.out;omega,by go_num,HTW9.out,HBR9.out⟩
     ·have el:decide (i < n)=false:=by rw[decide_eq_false_iff_not];omega
      have hin:i=n:=by have:=HIG.out;omega
      have HE:Hid (Two d d (d+1) (ckAt c n) (ixAt c T n) wr∧Below d w5 wr):=Jh (by rw[←hin];exact ⟨HTW.out,HBR.out⟩);clear hin;go_wp2_with fail
      go_meet
      exact HE.out
   case rest=>
    obtain ⟨htw,hb11⟩:=hcut;obtain ⟨w11,rfl⟩:∃x,x=wc:=⟨_,rfl⟩;have hd11:d≤w11.heap.size:=by have:=hb11.size;have:=HD.out;omega
    have hend:=Qdb c;have hcend:=Qcp c;have hixl:=Kwt c n;rw[HLEN.out] at hend hcend;rw[HTT.out] at hend hixl;rw[hcend] at htw;have hI2:=HSZS.out.2;have hC2:=HSZS.out.1;have hlz:(Kcv (Kap c)).length≤35184372088832:=by omega
    have hslen:(Kap c).length≤1099511627776:=by unfold Kap;rw[List.length_map,HLEN.out];omega
    have HLI:=Jh (Kvj (Kap c) m (n*8) (q+2) es clock w11 (HMAP5.out.below (HD.out.symm▸hb11)) (by omega) hslen hlz);obtain ⟨X3,hX3⟩:∃X:ByteArray,(⟨(Kcv (Kap c)).toArray⟩:ByteArray)=X:=⟨_,rfl⟩;have hX3d:X3.data.toList=Kcv (Kap c):=by rw[←hX3]
    have hX3s:X3.size=(Kcv (Kap c)).length:=by rw[←Kak,hX3d]
    rw[hX3] at HLI;have HX3D:=Jh hX3d;have HTW11:=Jh htw;have HB11:=Jh hb11;have HEND:=Jh hend;clear htw hb11 hend hcend hX3 hX3d hslen;go_wp2_with fail
    refine HLI.out.mono ?_;rintro _ w12 ⟨rfl,hb12⟩;have HB12:=Jh (HB11.out.trans (hb12.mono hd11));have hd12:d≤w12.heap.size:=by have:=hb12.size;omega
    have HW12:=Jh (Kdu X3 w12 (HTW11.out.below hb12) (by omega) hd12);clear hb12;go_wp2_with fail
    refine HW12.out.mono ?_;rintro _ w13 ⟨rfl,htw13,hb13,hjk3⟩;clear hjk3;rw[HX3D.out,HEND.out] at htw13;have HB13:=Jh (HB12.out.trans hb13);have HTW13:=Jh htw13;have hd13:d≤w13.heap.size:=by have:=hb13.size;omega
    have hk13:=HK5.out.below HB13.out (by omega);have k0:w13.cell? ⟨q,0,none⟩=some (.int .i64 r):=hk13.cell 0;have k1:w13.cell? ⟨q,1,none⟩=some (.int .i64 f):=hk13.cell 1;have k2:w13.cell? ⟨q,2,none⟩=some (.int .i64 t):=hk13.cell 2
    obtain ⟨g0,g1,g2,g3,g4⟩:0≤c.res∧c.res < 3∧0≤c.frm∧c.frm < c.to_∧c.to_≤1125899906842625:=by
     obtain ⟨a,b,e,f,g,_⟩:=Kgu.1 HF.out;exact ⟨a,b,e,f,g⟩
    have hmeta:metaB c=uintT c.res.toNat++(intT c.frm++intT c.to_):=rfl;rw[HRR.out] at g0 g1 hmeta;rw[HRF.out] at g2 g3 hmeta;rw[HRT.out] at g3 g4 hmeta;obtain ⟨rn,rfl⟩:∃rn:Nat,r=(rn:Int):=⟨r.toNat,by omega⟩;rw[Int.toNat_natCast] at hmeta;have HR1:=Jh (fun u:Later w13=>Kau rn (by omega) u.w);have HI1:=Jh (fun u:Later w13=>Kpt f (by omega) (by omega) u.w);have HI2:=Jh (fun u:Later w13=>Kpt t (by omega) (by omega) u.w);obtain ⟨M0,hM0⟩:∃X:ByteArray,(⟨(uintT rn).toArray⟩:ByteArray)=X:=⟨_,rfl⟩;obtain ⟨M1,hM1⟩:∃X:ByteArray,(⟨(intT f).toArray⟩:ByteArray)=X:=⟨_,rfl⟩;obtain ⟨M2,hM2⟩:∃X:ByteArray,(⟨(intT t).toArray⟩:ByteArray)=X:=⟨_,rfl⟩;have hM0d:M0.data.toList=uintT rn:=by rw[←hM0]
    have hM1d:M1.data.toList=intT f:=by rw[←hM1]
    have hM2d:M2.data.toList=intT t:=by rw[←hM2]
    have hM0s:M0.size≤11:=by rw[←Kak,hM0d];exact (Kab _).2
    have hM1s:M1.size≤11:=by rw[←Kak,hM1d];exact (Kab _).2
    have hM2s:M2.size≤11:=by rw[←Kak,hM2d];exact (Kab _).2
    rw[hM0] at HR1;rw[hM1] at HI1;rw[hM2] at HI2
    have hmd:(M0++M1++M2).data.toList=metaB c:=by
     rw[hmeta];simp only[ByteArray.data_append,Array.toList_append,hM0d,hM1d,hM2d,List.append_assoc]
    have HMD:=Jh hmd;clear hM0 hM1 hM2 hM0d hM1d hM2d hmd hmeta hk13 htw13 hb13 k3;have hq13:q < w13.heap.size:=Nat.lt_of_lt_of_le (Nat.lt_of_lt_of_le (Nat.lt_add_of_pos_right (by decide:0 < 2)) hq5) hd13;go_upto_region 34 with fail
    refine Kah (by kernel_rfl) (by kernel_rfl) ?_
    repeat (go_big_quiet_step ((first | (go_at_call 42;with_reducible exact Kal _ (HR1.out _)) | (go_at_call 46;first | with_reducible exact Kal _ (HI1.out _) | with_reducible exact Kal _ (HI2.out _)))))
    refine wpQuiet_nil ?_;rintro w14 ⟨⟨_,hb14⟩,rfl⟩;obtain ⟨MB,hMB⟩:∃MB,M0++M1++M2=MB:=⟨_,rfl⟩;have hMBs:MB.size≤33:=by rw[←hMB,ByteArray.size_append,ByteArray.size_append];omega
    rw[hMB] at HMD ⊢;have hqd:w.heap.size≤d:=by rw[HQ.out];exact Nat.le_of_lt (Nat.lt_of_lt_of_le (Nat.lt_add_of_pos_right (by decide:0 < 2)) hq5)
    have HSL:=Jh (fun (s:ByteArray) (hs:s.size≤140737488351232) (W:World) (hb:Below d w5 W)=>Kyu s hs W (Kdx.below HN.out HN.out.lt (HBW5.out.trans (hb.mono hqd))));have HB14:=Jh (HB13.out.trans (hb14.mono hd13));have HTW14:=Jh (HTW13.out.below hb14);have hd14:d≤w14.heap.size:=Nat.le_trans hd13 hb14.size;have hs1:=HSL.out MB (by omega) w14 HB14.out;rw[HMD.out] at hs1;obtain ⟨S1,hS1⟩:∃S:ByteArray,(⟨(sealT (metaB c)).toArray⟩:ByteArray)=S:=⟨_,rfl⟩;rw[hS1] at hs1;have HS1:=Jh hs1;have HES1:=Jh hS1;clear hMB hb14 hs1 hS1 k0 k1 k2 HR1 HI1 HI2 hM0s hM1s hM2s;go_wp2_with fail
    refine HS1.out.mono ?_;rintro _ w15 ⟨rfl,hb15⟩;have HB15:=Jh (HB14.out.trans (hb15.mono hd14));have hd15:d≤w15.heap.size:=Nat.le_trans hd14 hb15.size;have hst:=Kyy w15 (HTW14.out.below hb15) hd15;obtain ⟨CB,hCB⟩:∃S:ByteArray,(⟨(Kdc c).toArray⟩:ByteArray)=S:=⟨_,rfl⟩;rw[hCB] at hst;have hCBd:CB.data.toList=Kdc c:=by rw[←hCB]
    have hCBs:CB.size≤35184372088832:=by rw[←Kak,hCBd];exact hC2
    have HST:=Jh hst;have HCBD:=Jh hCBd;clear hb15 hst hCB hCBd;go_wp2_with fail
    refine HST.out.mono ?_;rintro _ w16 ⟨rfl,⟨r2,hbd16⟩,hb16⟩;have HB16:=Jh (HB15.out.trans hb16);have hd16:d≤w16.heap.size:=Nat.le_trans hd15 hb16.size;have HBD16:=Jh hbd16;have hs2:=HSL.out CB (by omega) w16 HB16.out;rw[HCBD.out] at hs2;obtain ⟨S2,hS2⟩:∃S:ByteArray,(⟨(sealT (Kdc c)).toArray⟩:ByteArray)=S:=⟨_,rfl⟩;rw[hS2] at hs2;have HS2:=Jh hs2;have HES2:=Jh hS2;clear hb16 hbd16 hs2 hS2;go_wp2_with fail
    refine HS2.out.mono ?_;rintro _ w17 ⟨rfl,hb17⟩;have HB17:=Jh (HB16.out.trans (hb17.mono hd16));have hd17:d≤w17.heap.size:=Nat.le_trans hd16 hb17.size;have HBD17:=Jh (HBD16.out.below hb17);have hst2:=Khz d (d+1) r2 (Kcj c) w17 HBD17.out;obtain ⟨IB,hIB⟩:∃S:ByteArray,(⟨(Kcj c).toArray⟩:ByteArray)=S:=⟨_,rfl⟩;rw[hIB] at hst2;have hIBd:IB.data.toList=Kcj c:=by rw[←hIB]
    have hIBs:IB.size≤35184372088832:=by rw[←Kak,hIBd];exact hI2
    have HST2:=Jh hst2;have HIBD:=Jh hIBd;clear hb17 hst2 hIB hIBd;go_wp2_with fail
    refine HST2.out.mono ?_;rintro _ w18 ⟨rfl,ho18⟩;have hb18:Below d w17 w18:=ho18.below (Nat.le_succ d) (fun k hk=>(HBD17.out.row hk).1) hd17;have HB18:=Jh (HB17.out.trans hb18);have hd18:d≤w18.heap.size:=Nat.le_trans hd17 hb18.size;have hs3:=HSL.out IB (by omega) w18 HB18.out;rw[HIBD.out] at hs3;obtain ⟨S3,hS3⟩:∃S:ByteArray,(⟨(sealT (Kcj c)).toArray⟩:ByteArray)=S:=⟨_,rfl⟩;rw[hS3] at hs3;have HS3:=Jh hs3;have HES3:=Jh hS3;clear hb18 ho18 hs3 hS3;go_wp2_with fail
    refine HS3.out.mono ?_;rintro _ w19 ⟨rfl,hb19⟩;have HB19:=Jh (HB18.out.trans (hb19.mono hd18));have hf19:=HF5.out.below HB19.out (Nat.lt_of_lt_of_le (Nat.lt_succ_self _) hq5);have e0:w19.cell? ⟨q+1,0,none⟩=some (.string ⟨#[]⟩):=hf19.cell 0;have e1:w19.cell? ⟨q+1,1,none⟩=some (.string ⟨#[]⟩):=hf19.cell 1;have e2:w19.cell? ⟨q+1,2,none⟩=some (.string ⟨#[]⟩):=hf19.cell 2;have z0:=hf19.frozen 0;have z1:=hf19.frozen 1;have z2:=hf19.frozen 2;have HF19:=Jh hf19;clear hf19 hb19;clear hmm hi0 hz0 hz1 hz2 hi1 hy0 hy1 hy2 hqw hhl hmq hq3 k3 hq5 htz hXs hd6 hd7 hd8 hd9 hd10 hd11 hd12 hd13 hd14 hd15 hd16 hd17 hd18 hUs hixl hI2 hC2 hlz hX3s g0 g1 g2 g3 g4 hq13 hMBs hCBs hIBs hn
    try clear HSL
    try clear HS3
    try clear HST2
    try clear HS2
    try clear HST
    try clear HS1
    try clear HIBD
    try clear HCBD
    try clear HMD
    try clear HEND
    try clear HX3D
    try clear HUD
    try clear HXD
    try clear HBD17
    try clear HBD16
    try clear HTW14
    try clear HTW13
    try clear HTW11
    try clear HTW10
    try clear HB18
    try clear HB17
    try clear HB16
    try clear HB15
    try clear HB14
    try clear HB13
    try clear HB12
    try clear HB11
    try clear HB10
    try clear HW12
    try clear HLI
    try clear HU
    try clear HK5
    try clear HC1
    try clear HFIT
    try clear HK1
    try clear HRR
    try clear HMAP5
    try clear HTAB
    try clear HIST
    try clear HTL
    try clear HALL
    try clear HTT
    try clear HSZS
    try clear HMAP
    try clear HCO
    try clear HB5
    try clear HB4
    try clear HM
    try clear HB3
    try clear HSA
    try clear HSE
    try clear HSZ
    try clear HG
    try clear HC
    try clear HF
    try clear HB02
    try clear HB2
    try clear HF1
    try clear HB1
    try clear HLEN
    try clear HRF
    try clear HRT
    try clear HN
    try clear HT
    try clear HZ
    try clear HS
    try clear HF5
    try clear HD
    dsimp only
    iterate 12 (try (first | go_values | go_skip | go_guarded | go_step | go_upon | go_back))
    have hff:Blk (((w19.setCell ⟨q+1,0,none⟩ (.string S1)).setCell ⟨q+1,1,none⟩ (.string S2)).setCell ⟨q+1,2,none⟩ (.string S3)) (q+1) 44 #[.string S1,.string S2,.string S3]:=((HF19.out.set_ 0 _).set_ 1 _).set_ 2 _;have hqq:w.heap.size≤q+1:=by rw[HQ.out];exact Nat.le_succ _
    have hbf:Below w.heap.size w (((w19.setCell ⟨q+1,0,none⟩ (.string S1)).setCell ⟨q+1,1,none⟩ (.string S2)).setCell ⟨q+1,2,none⟩ (.string S3)):=(((HBW5.out.trans (HB19.out.mono hqd)).setCell (p:=⟨q+1,0,none⟩) hqq _).setCell (p:=⟨q+1,1,none⟩) hqq _).setCell (p:=⟨q+1,2,none⟩) hqq _;obtain ⟨wf,hwf⟩:∃wf,((w19.setCell ⟨q+1,0,none⟩ (.string S1)).setCell ⟨q+1,1,none⟩ (.string S2)).setCell ⟨q+1,2,none⟩ (.string S3)=wf:=⟨_,rfl⟩;rw[hwf] at hff hbf ⊢;have HFF:=Jh hff;have HBF:=Jh hbf;clear hwf hff hbf e0 e1 e2 z0 z1 z2 hqq HF19
    iterate 2 (try (first | go_values | go_skip | go_guarded | go_step | go_upon | go_back))
    refine bodyPost_ret (Kcu rfl _ _ ⟨q+1,0,none⟩ (.agg #[.string S1,.string S2,.string S3]) rfl (run_loadVar_row _ (q+1) 44 44 _ (0,0) _ HFF.out Tryz.underlying44 rfl (by kernel_rfl))) rfl ?_
    have hfil:filV (Kex c) = .agg #[.string S1,.string S2,.string S3]:=by
     unfold filV Kex txtV;rw[HES1.out,HES2.out,HES3.out]
    rw[hfil];exact ⟨rfl,HBF.out⟩
end
section
open Go.RowKit
open List renaming length_append → Jd
theorem Kuq (c:Int):(Kcn c).length≤68:=by
 unfold Kcn
 repeat' split
 all_goals simp[Kbg]
theorem Kux (c:Cst) (x:Nat):(Kbl c x).1.length≤77:=by
 unfold Kbl
 repeat' split
 all_goals simp[Kbg]
 all_goals omega
theorem Kwb (c:Cst) (s:Smp):(Kbn c s).1.length≤145:=by
 unfold Kbn
 split
 ·simp[Kbg]
 ·have h1:=Kuq (s.t - c.last.t - c.step);have h2:=Kux { c with step:=s.t - c.last.t } (s.v ^^^ c.last.v);simp only[Jd];omega
theorem Kkh:∀(l:List Smp) (c:Cst),(Kbv c l).length≤145*l.length
 | [],_=>Nat.le_refl _
 | s :: l,c=>by
  have h1:=Kwb c s;have h2:=Kkh l (Kbn c s).2;rw[Kbv,Jd,List.length_cons];omega
theorem Kxp (p:List Smp):(Kcz p).length≤12+19*p.length:=by
 unfold Kcz;have h1:=(Kab p.length).2;have h2:=(Kfp (Kbv cst0 p)).len;have h3:=Kkh p cst0;rw[Jd];omega
theorem Kqp:∀(l:List Wnd) (a:Wnd),(wndsT a l).length≤66*l.length
 | [],_=>Nat.le_refl _
 | w :: l,a=>by
  have h:=Kqp l w;have h1:=(Kab (w.start - a.start).toNat).2;have h2:=(Kab w.count.toNat).2;have h3:=(Kab (w.sum ^^^ a.sum)).2;have h4:=(Kab (w.min ^^^ a.min)).2;have h5:=(Kab (w.max ^^^ a.max)).2;have h6:=(Kab (w.last ^^^ a.last)).2;rw[wndsT];unfold wndT;simp only[Jd,List.length_cons];omega
theorem Kzh (l:List Wnd):(aggsT l).flatten.length≤77*l.length:=by
 cases l with
 | nil=>simp[aggsT]
 | cons w l=>
  have h1:=(Kab (w :: l).length).2;have h2:=Kqp (w :: l) wnd0;have e:(aggsT (w :: l)).flatten=uintT (w :: l).length++wndsT wnd0 (w :: l):=by simp[aggsT,aggT]
  rw[e,Jd];rw[List.length_cons] at *;omega
theorem Khm:∀(f:Nat) (l:List Smp),((Kbx f l).map Kcz).flatten.length≤31*l.length
 | 0,l=>by simp[Kbx]
 | f+1,[]=>by simp[Kbx]
 | f+1,x :: l=>by
  have h1:=Kxp ((x :: l).take 120);have h2:=Khm f ((x :: l).drop 120);have h3:((x :: l).take 120).length=min 120 (l.length+1):=by rw[List.length_take,List.length_cons]
  have h4:((x :: l).drop 120).length=l.length+1 - 120:=by rw[List.length_drop,List.length_cons]
  rw[Kbx,List.map_cons,List.flatten_cons,Jd,List.length_cons];omega
theorem Kov (s:Ser):(Kbf s).flatten.length≤31*s.samples.length+77*s.windows.length:=by
 unfold Kbf;rw[List.flatten_append,Jd];have h1:=Khm s.samples.length s.samples;have h2:=Kzh s.windows;omega
theorem Ktf (P:List (List UInt8)):(lensT P).length≤11*P.length:=by
 induction P with
 | nil=>simp[lensT]
 | cons p P ih=>
  have h:=(Kab p.length).2;have e:lensT (p :: P)=uintT p.length++lensT P:=rfl;rw[e,Jd,List.length_cons];omega
theorem Kll (s:Ser):(Kbf s).length≤s.samples.length+1:=by
 have a1:=Kge s.samples.length s.samples;have a2:(aggsT s.windows).length≤1:=by cases s.windows <;> simp[aggsT]
 unfold Kbf;rw[Jd,List.length_map];omega
def smpsN (l:List Ser):Nat:=(l.map fun s=>s.samples.length).sum
def wndsN (l:List Ser):Nat:=(l.map fun s=>s.windows.length).sum
theorem Klg:∀l:List Ser,(l.flatMap fun s=>(Kbf s).flatten).length≤31*smpsN l+77*wndsN l
 | []=>by simp[smpsN,wndsN]
 | s :: l=>by
  have h1:=Kov s;have h2:=Klg l;simp only[smpsN,wndsN,List.map_cons,List.sum_cons,List.flatMap_cons,Jd] at *;omega
theorem Qdv (t:List Txt) (s:Ser) (h:s.labels.length≤8):(serT t s).length≤209+11*s.samples.length:=by
 unfold serT;rw[Jd,Jd];have h1:=Qbf t s.labels;have h2:=(Kab (Kbf s).length).2;have h3:=Ktf (Kbf s);have h4:=Kll s;omega
theorem Kqk (t:List Txt):∀l:List Ser,(∀s∈l,s.labels.length≤8)→(l.flatMap (serT t)).length≤209*l.length+11*smpsN l
 | [],_=>by simp[smpsN]
 | s :: l,h=>by
  have h1:=Qdv t s (h s (by simp));have h2:=Kqk t l (fun x hx=>h x (by simp[hx]));simp only[smpsN,List.map_cons,List.sum_cons,List.flatMap_cons,Jd,List.length_cons] at *;omega
theorem Kfr (m:Nat):∀l:List Txt,(∀x∈l,x.length≤m)→(l.flatMap textT).length≤(11+m)*l.length
 | [],_=>by simp
 | x :: l,h=>by
  have h1:=h x (by simp);have h2:=Kfr m l (fun y hy=>h y (by simp[hy]));have h3:=(Kab x.length).2;rw[List.flatMap_cons,Jd,List.length_cons,Nat.mul_succ];unfold textT at *;rw[Jd];omega
theorem Kjp (l:List Txt):(Lib.compact l).length≤l.length:=by
 unfold Lib.compact Lib.compactUpTo;rw[List.length_map];exact Nat.le_trans (List.length_filter_le _ _) (by rw[List.length_range];exact Nat.le_refl _)
theorem Krp:∀S:List (List Lb),(∀l∈S,l.length≤8)→(allS S).length≤16*S.length
 | [],_=>by simp[allS]
 | l :: S,h=>by
  have h1:=h l (by simp);have h2:=Krp S (fun x hx=>h x (by simp[hx]))
  have h3:(texts l).length=2*l.length:=by
   clear h1 h2 h
   induction l with
   | nil=>rfl
   | cons x l ih=>simp[texts] at *;omega
  unfold allS at *;rw[List.flatMap_cons,Jd,List.length_cons];omega
theorem Qeb {l:List Lb} {x:Txt} (h:x∈texts l):∃y∈l,x=y.n∨x=y.v:=by
 unfold texts at h;obtain ⟨y,hy,hx⟩:=List.mem_flatMap.1 h;refine ⟨y,hy,?_⟩;simpa using hx
def Kfv (S:List (List Lb)):Prop:=∀l∈S,l.length≤8∧∀y∈l,y.n.length≤32∧y.v.length≤64
theorem Kny {S:List (List Lb)} (h:Kfv S):(tabOf S).length≤16*S.length∧∀x∈tabOf S,x.length≤64:=by
 refine ⟨?_,fun x hx=>?_⟩
 ·refine Nat.le_trans (Kjp _) ?_;rw[List.length_mergeSort];exact Krp S fun l hl=>(h l hl).1
 ·have h1:=((Kuc S).2 x).1 hx;obtain ⟨l,hl,hx⟩:=List.mem_flatMap.1 h1;obtain ⟨y,hy,hh⟩:=Qeb hx;have:=(h l hl).2 y hy;rcases hh with rfl | rfl <;> omega
theorem Kwg {S:List (List Lb)} (h:Kfv S):(tabT (tabOf S)).length≤11+1200*S.length:=by
 obtain ⟨h1,h2⟩:=Kny h;have h3:=Kfr 64 (tabOf S) h2;have h4:=(Kab (tabOf S).length).2;unfold tabT;rw[Jd];omega
theorem Kmd (x:Lb):∀l:List Lb,(insK x l).length≤l.length+1
 | []=>Nat.le_refl _
 | y :: l=>by
  rw[insK]
  split
  ·simp
  ·split
   ·have:=Kmd x l;simp only[List.length_cons];omega
   ·simp
theorem Kyc {S:List (List Lb)} (h:Kfv S):(keysOf S).length≤8*S.length:=by
 have h1:∀l:List Lb,(l.foldr insK []).length≤l.length:=by
  intro l
  induction l with
  | nil=>exact Nat.le_refl _
  | cons y l ih=>rw[List.foldr_cons,List.length_cons];exact Nat.le_trans (Kmd y _) (by omega)
 refine Nat.le_trans (h1 _) ?_
 induction S with
 | nil=>simp
 | cons l S ih=>
  have:=(h l (by simp)).1;have:=ih (fun x hx=>h x (by simp[hx]));rw[List.flatten_cons,Jd,List.length_cons];omega
theorem Kjz {S:List (List Lb)} (h:Kfv S):∀x∈keysOf S,x.n.length≤32∧x.v.length≤64:=fun x hx=>by
 obtain ⟨l,hl,hm⟩:=((Keu S).2 x).1 hx;exact (h l hl).2 x hm
theorem Kmb:∀(l K:List Lb),K.Nodup→(K.filter fun x=>decide (x∈l)).length≤l.length
 | [],K,_=>by simp
 | a :: l,K,hK=>by
  have h1:=Kmb l K hK
  have h2:∀K:List Lb,K.Nodup→(K.filter fun x=>decide (x∈a :: l)).length≤(K.filter fun x=>decide (x∈l)).length+(if a∈K then 1 else 0):=by
   intro K
   induction K with
   | nil=>intro _;simp
   | cons y K ih=>
    intro hn;have hc:=List.nodup_cons.1 hn;have ih:=ih hc.2
    by_cases hya:y=a
    ·subst hya;rw[if_neg hc.1] at ih;rw[if_pos (by simp),List.filter_cons_of_pos (by simp),List.length_cons];rw[List.filter_cons]
     split
     ·rw[List.length_cons];omega
     ·omega
    ·have e:decide (y∈a :: l)=decide (y∈l):=by simp[hya]
     have e2:(a∈y :: K)↔a∈K:=by simp[Ne.symm hya]
     rw[List.filter_cons,List.filter_cons,e];simp only[e2]
     split
     ·simp only[List.length_cons];omega
     ·omega
  have h3:=h2 K hK;rw[List.length_cons]
  split at h3 <;> omega
theorem Qbp (K:List Lb) (hK:K.Nodup):∀(n:Nat) (S:List (List Lb)),S.length=n→(∀l∈S,l.length≤8)→(K.map fun x=>(Kao S x).length).sum≤8*S.length:=by
 intro n
 induction n with
 | zero=>
  intro S h _;have h0:S = []:=List.eq_nil_of_length_eq_zero h;subst h0
  have:∀K:List Lb,(K.map fun x=>(Kao [] x).length).sum=0:=by
   intro K
   induction K with
   | nil=>rfl
   | cons y K ih=>rw[List.map_cons,List.sum_cons,ih];rfl
  rw[this];exact Nat.zero_le _
 | succ n ih=>
  intro S h h8;have hne:S≠[]:=by intro e;rw[e] at h;cases h
  obtain ⟨T,l,rfl⟩:∃T l,S=T ++ [l]:=⟨S.dropLast,S.getLast hne,(List.dropLast_concat_getLast hne).symm⟩;have h1:=ih T (by rw[Jd,List.length_singleton] at h;omega) (fun x hx=>h8 x (by simp[hx]));have h2:=h8 l (by simp);have h3:=Kmb l K hK
  have e:∀K:List Lb,(K.map fun x=>(Kao (T ++ [l]) x).length).sum=(K.map fun x=>(Kao T x).length).sum+(K.filter fun x=>decide (x∈l)).length:=by
   intro K
   induction K with
   | nil=>rfl
   | cons y K ih=>
    rw[List.map_cons,List.sum_cons,List.map_cons,List.sum_cons,ih,Kgz,List.filter_cons]
    by_cases hy:y∈l
    ·rw[if_pos hy,if_pos (decide_eq_true hy),Jd,List.length_cons];simp;omega
    ·rw[if_neg hy,if_neg (by simpa using hy)];omega
  rw[e,Jd,List.length_singleton];omega
theorem Knw:∀(l:List Nat) (a:Nat),(Kcl a l).length≤11*l.length
 | [],_=>by simp[Kcl]
 | x :: l,a=>by
  have h:=Knw l x;have h1:=(Kab (x - a)).2;rw[Kcl,Jd,List.length_cons];omega
theorem Kst (S:List (List Lb)) (x:Lb) (h:x.n.length≤32∧x.v.length≤64):(keyT S x).length≤129+11*(Kao S x).length:=by
 have h1:=(Kab x.n.length).2;have h2:=(Kab x.v.length).2;have h3:=(Kab (Kao S x).length).2;have h4:=Knw (Kao S x) 0;unfold keyT textT postT;simp only[Jd];omega
theorem Kyh {S:List (List Lb)} (h:Kfv S):(Kcv S).length≤11+1120*S.length:=by
 have h1:=(Kab (keysOf S).length).2;have h2:=Kyc h;have h3:=Qbp (keysOf S) ((Keu S).1.imp fun hab e=>by subst e;exact Kef _ hab) S.length S rfl (fun l hl=>(h l hl).1)
 have h4:∀K:List Lb,(∀x∈K,x.n.length≤32∧x.v.length≤64)→(K.flatMap (keyT S)).length≤129*K.length+11*(K.map fun x=>(Kao S x).length).sum:=by
  intro K
  induction K with
  | nil=>intro _;simp
  | cons y K ih=>
   intro hk;have k1:=Kst S y (hk y (by simp));have k2:=ih (fun x hx=>hk x (by simp[hx]));rw[List.flatMap_cons,Jd,List.length_cons,List.map_cons,List.sum_cons];omega
 have h5:=h4 (keysOf S) (Kjz h);unfold Kcv;rw[Jd];omega
theorem Kql {c:Cont} (h:fitB c=true):Kfv (Kap c):=by
 intro l hl;obtain ⟨s,hs,rfl⟩:=List.mem_map.1 hl;have:=Kfu ((Kgu.1 h).2.2.2.2.2.1 s hs).1;exact ⟨this.2.2.1,this.2.2.2.1⟩
theorem Kzz {c:Cont} (h:fitB c=true):(metaB c).length≤33∧(Kdc c).length≤31*smpsN c.series+77*wndsN c.series∧(Kcj c).length≤33+2529*c.series.length+11*smpsN c.series:=by
 have hs:=Kql h;have hn:(Kap c).length=c.series.length:=by simp[Kap]
 refine ⟨?_,Klg c.series,?_⟩
 ·have h1:=(Kab c.res.toNat).2;have h2:(intT c.frm).length≤11:=(Kab _).2;have h3:(intT c.to_).length≤11:=(Kab _).2;unfold metaB;simp only[Jd];omega
 ·have h1:=Kwg hs;have h2:=(Kab c.series.length).2;have h3:=Kqk (tabOf (Kap c)) c.series (fun s hx=>(hs s.labels (List.mem_map.2 ⟨s,hx,rfl⟩)).1);have h4:=Kyh hs;unfold Kcj;simp only[Jd];omega
end
section
open Go.RowKit
open Lib renaming hid → Jh
attribute [local go_sem ↓] Go.wp_at_zero Go.wp_at_succ
attribute [local go_sem] Later.cell
theorem Qct (m:List Lb):cmpL [] m=if m = [] then 0 else -1:=by cases m <;> rfl
theorem Kzq (m:List Lb):cmpL m []=if m = [] then 0 else 1:=by cases m <;> rfl
theorem Kow (l m:List Lb) (A B:Option Addr) (n k ca cb:Nat) (w:World) (r:Int) (hr:cmpL l m=r) (hA:Elems w w.heap.size 2 encLb A n l) (hB:Elems w w.heap.size 2 encLb B k m) (hn:n≤140737488351232) (hk:k≤140737488351232) :
  Calls Tryz.prog 69 #[.slice A n ca,.slice B k cb] w fun e w'=>e = .returned (.int .i64 r)∧Below w.heap.size w w':=by
 have HR:=Jh hr;have HLN:=Jh hA.len;have HMK:=Jh hB.len;clear hr;go_enter Tryz.func69,Tryz.ntmps69
 go_wp2_with fail
 go_loopg [5] n (fun g s5 wr=>∃i:Nat,s5 = .int .i64 (i:Int)∧i+g=n∧i≤k∧cmpL (l.drop i) (m.drop i)=r∧Below w.heap.size w wr)
 case atStart=>exact ⟨0,rfl,by omega,Nat.zero_le _,HR.out,Below.refl _ _⟩
 case round=>
  obtain ⟨i,rfl,hig,hik,hcm,hB0⟩:=hrel;have HIG:=Jh hig;have HCM:=Jh hcm;clear hig hcm
  by_cases hi:i < n
  ·have el:decide (i < n)=true:=by rw[decide_eq_true_eq];exact hi
   by_cases hi2:i < k
   ·have el2:decide (i < k)=true:=by rw[decide_eq_true_eq];exact hi2
    obtain ⟨w0,rfl⟩:∃x,x=wr:=⟨_,rfl⟩;have hil:i < l.length:=by have:=HLN.out;omega
    have him:i < m.length:=by have:=HMK.out;omega
    have hn0:0 < n:=by omega
    have hk0:0 < k:=by omega
    obtain ⟨b,off,rfl,hbl,_⟩:=hA.2 hn0;obtain ⟨b',off',rfl,hbm,_⟩:=hB.2 hk0;obtain ⟨x,hx⟩:∃x,l[i]! = x:=⟨_,rfl⟩;obtain ⟨y,hy⟩:∃y,m[i]! = y:=⟨_,rfl⟩;obtain ⟨XN,hXN⟩:∃N:ByteArray,(⟨x.n.toArray⟩:ByteArray)=N:=⟨_,rfl⟩;obtain ⟨XV,hXV⟩:∃N:ByteArray,(⟨x.v.toArray⟩:ByteArray)=N:=⟨_,rfl⟩;obtain ⟨YN,hYN⟩:∃N:ByteArray,(⟨y.n.toArray⟩:ByteArray)=N:=⟨_,rfl⟩;obtain ⟨YV,hYV⟩:∃N:ByteArray,(⟨y.v.toArray⟩:ByteArray)=N:=⟨_,rfl⟩;have hdl:l.drop i=x :: l.drop (i+1):=by rw[←hx,getElem!_pos l i hil];exact List.drop_eq_getElem_cons hil
    have hdm:m.drop i=y :: m.drop (i+1):=by rw[←hy,getElem!_pos m i him];exact List.drop_eq_getElem_cons him
    have hcm:=HCM.out;rw[hdl,hdm,cmpL] at hcm;obtain ⟨q1,hq1⟩:∃q,Op.bytesLess XN.toList YN.toList=q:=⟨_,rfl⟩;obtain ⟨q2,hq2⟩:∃q,(XN.toList == YN.toList)=q:=⟨_,rfl⟩;obtain ⟨q3,hq3⟩:∃q,Op.bytesLess XV.toList YV.toList=q:=⟨_,rfl⟩;obtain ⟨q4,hq4⟩:∃q,(XV.toList == YV.toList)=q:=⟨_,rfl⟩;have k1:q1=decide (x.n < y.n):=by rw[←hq1,←hXN,Ktg,←hYN]
    have k2:q2=decide (x.n=y.n):=by rw[←hq2,←hXN,←hYN,ByteArray.toList_eq,ByteArray.toList_eq,Bool.eq_iff_iff];simp
    have k3:q3=decide (x.v < y.v):=by rw[←hq3,←hXV,Ktg,←hYV]
    have k4:q4=decide (x.v=y.v):=by rw[←hq4,←hXV,←hYV,ByteArray.toList_eq,ByteArray.toList_eq,Bool.eq_iff_iff];simp
    have HQ1:Hid (q1=true→r = -1):=Jh (fun h=>by rw[k1,decide_eq_true_eq] at h;rw[if_pos h] at hcm;exact hcm.symm);have HQ2:Hid (q1=false→q2=false→r=1):=Jh (fun h1 h=>by rw[k1,decide_eq_false_iff_not] at h1;rw[k2,decide_eq_false_iff_not] at h;rw[if_neg h1,if_pos (Decidable.byContradiction fun h3=>h (Ked h1 h3))] at hcm;exact hcm.symm);have HQ3:Hid (q1=false→q2=true→q3=true→r = -1):=Jh (fun h1 h2 h=>by rw[k1,decide_eq_false_iff_not] at h1;rw[k2,decide_eq_true_eq] at h2;rw[k3,decide_eq_true_eq] at h;rw[if_neg h1,if_neg (by rw[h2];exact List.lt_irrefl _),if_pos h] at hcm;exact hcm.symm);have HQ4:Hid (q1=false→q2=true→q3=false→q4=false→r=1):=Jh (fun h1 h2 h3 h=>by rw[k1,decide_eq_false_iff_not] at h1;rw[k2,decide_eq_true_eq] at h2;rw[k3,decide_eq_false_iff_not] at h3;rw[k4,decide_eq_false_iff_not] at h;rw[if_neg h1,if_neg (by rw[h2];exact List.lt_irrefl _),if_neg h3,if_pos (Decidable.byContradiction fun h5=>h (Ked h3 h5))] at hcm;exact hcm.symm);have HQ5:Hid (q1=false→q2=true→q3=false→q4=true→cmpL (l.drop (i+1)) (m.drop (i+1))=r):=Jh (fun h1 h2 h3 h=>by rw[k1,decide_eq_false_iff_not] at h1;rw[k2,decide_eq_true_eq] at h2;rw[k3,decide_eq_false_iff_not] at h3;rw[k4,decide_eq_true_eq] at h;rw[if_neg h1,if_neg (by rw[h2];exact List.lt_irrefl _),if_neg h3,if_neg (by rw[h];exact List.lt_irrefl _)] at hcm;exact hcm);have HX:=Jh hx;have HY:=Jh hy;have HXN:=Jh hXN;have HXV:=Jh hXV;have HYN:=Jh hYN;have HYV:=Jh hYV;obtain ⟨_,a0,a1⟩:=Kbu hA hn0 hB0 i hil;obtain ⟨_,d0,d1⟩:=Kbu hB hk0 hB0 i him;rw[hx,hXN] at a0;rw[hx,hXV] at a1;rw[hy,hYN] at d0;rw[hy,hYV] at d1;have hbl0:b < w0.heap.size:=by have:=hB0.size;omega
    have hbm0:b' < w0.heap.size:=by have:=hB0.size;omega
    clear k1 k2 k3 k4 hcm hdl hdm hx hy hXN hXV hYN hYV;go_upto_region 4 with fail
    refine Kah (by kernel_rfl) (by kernel_rfl) ?_
    repeat (go_big_quiet_step (fail))
    refine wpQuiet_nil ?_;rintro w1 ⟨⟨_,hb1⟩,rfl⟩;have hB1:Below w.heap.size w w1:=then_ hB0 hb1;obtain ⟨_,a0,a1⟩:=Kbu hA hn0 hB1 i hil;obtain ⟨_,d0,d1⟩:=Kbu hB hk0 hB1 i him;rw[HX.out,HXN.out] at a0;rw[HX.out,HXV.out] at a1;rw[HY.out,HYN.out] at d0;rw[HY.out,HYV.out] at d1;have hbl1:b < w1.heap.size:=by have:=hB1.size;omega
    have hbm1:b' < w1.heap.size:=by have:=hB1.size;omega
    cases q1 with
    | true=>
     have hre:r = -1:=HQ1.out rfl;subst hre;go_wp2_with fail
     go_ret
     exact ⟨rfl,hB1⟩
    | false=>
     go_upto_region 6 with fail
     refine Kah (by kernel_rfl) (by kernel_rfl) ?_
     repeat (go_big_quiet_step (fail))
     refine wpQuiet_nil ?_;rintro w2 ⟨⟨_,hb2⟩,rfl⟩;have hB2:Below w.heap.size w w2:=then_ hB1 hb2;obtain ⟨_,a0,a1⟩:=Kbu hA hn0 hB2 i hil;obtain ⟨_,d0,d1⟩:=Kbu hB hk0 hB2 i him;rw[HX.out,HXN.out] at a0;rw[HX.out,HXV.out] at a1;rw[HY.out,HYN.out] at d0;rw[HY.out,HYV.out] at d1;have hbl2:b < w2.heap.size:=by have:=hB2.size;omega
     have hbm2:b' < w2.heap.size:=by have:=hB2.size;omega
     cases q2 with
     | false=>
      have hre:r=1:=HQ2.out rfl rfl;subst hre;go_wp2_with fail
      go_ret
      exact ⟨rfl,hB2⟩
     | true=>
      go_upto_region 8 with fail
      refine Kah (by kernel_rfl) (by kernel_rfl) ?_
      repeat (go_big_quiet_step (fail))
      refine wpQuiet_nil ?_;rintro w3 ⟨⟨_,hb3⟩,rfl⟩;have hB3:Below w.heap.size w w3:=then_ hB2 hb3;obtain ⟨_,a0,a1⟩:=Kbu hA hn0 hB3 i hil;obtain ⟨_,d0,d1⟩:=Kbu hB hk0 hB3 i him;rw[HX.out,HXN.out] at a0;rw[HX.out,HXV.out] at a1;rw[HY.out,HYN.out] at d0;rw[HY.out,HYV.out] at d1;have hbl3:b < w3.heap.size:=by have:=hB3.size;omega
      have hbm3:b' < w3.heap.size:=by have:=hB3.size;omega
      cases q3 with
      | true=>
       have hre:r = -1:=HQ3.out rfl rfl rfl;subst hre;go_wp2_with fail
       go_ret
       exact ⟨rfl,hB3⟩
      | false=>
       go_upto_region 10 with fail
       refine Kah (by kernel_rfl) (by kernel_rfl) ?_
       repeat (go_big_quiet_step (fail))
       refine wpQuiet_nil ?_;rintro w4 ⟨⟨_,hb4⟩,rfl⟩;have hB4:Below w.heap.size w w4:=then_ hB3 hb4;obtain ⟨_,a0,a1⟩:=Kbu hA hn0 hB4 i hil;obtain ⟨_,d0,d1⟩:=Kbu hB hk0 hB4 i him;rw[HX.out,HXN.out] at a0;rw[HX.out,HXV.out] at a1;rw[HY.out,HYN.out] at d0;rw[HY.out,HYV.out] at d1;have hbl4:b < w4.heap.size:=by have:=hB4.size;omega
       have hbm4:b' < w4.heap.size:=by have:=hB4.size;omega
       cases q4 with
       | false=>
        have hre:r=1:=HQ4.out rfl rfl rfl rfl;subst hre;go_wp2_with fail
        go_ret
        exact ⟨rfl,hB4⟩
       | true=>
         go_wp2_with fail
         go_roundg (gk - 1)
         case measure=>have:=HIG.out;omega
         case rel=>exact ⟨i+1,by go_num,by have:=HIG.out;omega,by omega,by first | exact HQ5.out rfl rfl rfl rfl | simpa using HQ5.out,hB4⟩
   ·have el2:decide (i < k)=false:=by rw[decide_eq_false_iff_not];exact hi2
    have hik2:i=k:=by omega
    have hre:r=1:=by
     have h1:=HCM.out;rw[List.drop_eq_nil_of_le (show m.length≤i by have:=HMK.out;omega),Kzq,if_neg (by rw[List.drop_eq_nil_iff];have:=HLN.out;omega)] at h1;exact h1.symm
    have e1:decide (n < k)=false:=by rw[decide_eq_false_iff_not];omega
    have e2:decide (k < n)=true:=by rw[decide_eq_true_eq];omega
    subst hre;go_wp2_with fail
    go_ret
    exact ⟨rfl,hB0⟩
  ·have el:decide (i < n)=false:=by rw[decide_eq_false_iff_not];exact hi
   have hin:i=n:=by have:=HIG.out;omega
   have h1:=HCM.out;rw[List.drop_eq_nil_of_le (show l.length≤i by have:=HLN.out;omega),Qct] at h1
   by_cases hnk:n < k
   ·have hre:r = -1:=by
     rw[if_neg (by rw[List.drop_eq_nil_iff];have:=HMK.out;omega)] at h1;exact h1.symm
    have e1:decide (n < k)=true:=by rw[decide_eq_true_eq];exact hnk
    subst hre;clear h1;go_wp2_with fail
    go_ret
    exact ⟨rfl,hB0⟩
   ·have hre:r=0:=by
     rw[if_pos (by rw[List.drop_eq_nil_iff];have:=HMK.out;omega)] at h1;exact h1.symm
    have e1:decide (n < k)=false:=by rw[decide_eq_false_iff_not];exact hnk
    have e2:decide (k < n)=false:=by rw[decide_eq_false_iff_not];omega
    subst hre;clear h1;go_wp2_with fail
    go_ret
    exact ⟨rfl,hB0⟩
end
section
open Go.RowKit
instance smpEq:DecidableEq Smp:=fun a b=>by
 cases a with
 | mk t v=>
  cases b with
  | mk t' v'=>exact if h:t=t'∧v=v' then isTrue (by rw[h.1,h.2]) else isFalse fun e=>h (by injection e with e1 e2;exact ⟨e1,e2⟩)
instance wndEq:DecidableEq Wnd:=fun a b=>by
 cases a with
 | mk a1 a2 a3 a4 a5 a6=>
  cases b with
  | mk b1 b2 b3 b4 b5 b6=>
   exact if h:a1=b1∧a2=b2∧a3=b3∧a4=b4∧a5=b5∧a6=b6 then isTrue (by obtain ⟨rfl,rfl,rfl,rfl,rfl,rfl⟩:=h;rfl) else isFalse fun e=>h (by injection e with e1 e2 e3 e4 e5 e6;exact ⟨e1,e2,e3,e4,e5,e6⟩)
instance serEq:DecidableEq Ser:=fun a b=>by
 cases a with
 | mk l s w=>
  cases b with
  | mk l' s' w'=>exact if h:l=l'∧s=s'∧w=w' then isTrue (by rw[h.1,h.2.1,h.2.2]) else isFalse fun e=>h (by injection e with e1 e2 e3;exact ⟨e1,e2,e3⟩)
instance contEq:DecidableEq Cont:=fun a b=>by
 cases a with
 | mk r f t s=>
  cases b with
  | mk r' f' t' s'=>exact if h:r=r'∧f=f'∧t=t'∧s=s' then isTrue (by obtain ⟨rfl,rfl,rfl,rfl⟩:=h;rfl) else isFalse fun e=>h (by injection e with e1 e2 e3 e4;exact ⟨e1,e2,e3,e4⟩)
theorem Kka {α : Type} [Inhabited α] {a b:List α} (h:a.length=b.length) (hi:∀i,i < a.length→a[i]! = b[i]!):a=b:=by
 apply List.ext_getElem h;intro i h1 h2;have:=hi i h1;rwa[getElem!_pos a i h1,getElem!_pos b i h2] at this
theorem Kea {P:Program} {w:World} {d:Nat} {xs ys:Array Value} {f:Field} {fs:List Field} {t:TypeId} {o:Nat} {a b:Value} {r:Bool} (hf:(f.name != "_",f.type,f.offset)=(true,t,o)) (ha:(part t xs o).run P w = .ok a w) (hb:(part t ys o).run P w = .ok b w) (he:(Op.equalIn d t a b).run P w = .ok r w) :
  (Op.eqFields d xs ys (f :: fs)).run P w=if r then (Op.eqFields d xs ys fs).run P w else .ok false w:=by
 injection hf with h1 h2;injection h2 with h2 h3;subst h2 h3;have h1':f.name≠"_":=by simpa using h1
 rw[Op.eqFields];simp only[ne_eq,h1',not_false_eq_true,if_true,Sem.run_bind,ha,hb,he,Result.andThen_ok];cases r <;> simp
theorem Kwr {P:Program} {w:World} {d:Nat} {xs ys:Array Value}:(Op.eqFields d xs ys []).run P w = .ok true w:=rfl
theorem Qfh (x y:Smp) (w:World):(Op.equalIn 10000 133 (.agg #[.int .i64 x.t,.int .u64 (x.v:Int)]) (.agg #[.int .i64 y.t,.int .u64 (y.v:Int)])).run Tryz.prog w = .ok (decide (x=y)) w:=by
 rw[run_equalIn_struct (d:=9999) w 133 _ _ (by kernel_rfl) (by kernel_rfl)];obtain ⟨fs,hfs⟩:∃fs,(Tryz.prog.fieldsOf 133).toList=fs:=⟨_,rfl⟩;have hf:fs.map (fun f=>(f.name != "_",f.type,f.offset)) = [(true,2,0),(true,100,1)]:=by rw[←hfs];kernel_rfl
 rw[hfs]
 match fs,hf with
 | [f0,f1],hf=>
  simp only[List.map_cons,List.map_nil] at hf;injection hf with h0 hf;injection hf with h1 hf;rw[Kea (a:=.int .i64 x.t) (b:=.int .i64 y.t) h0 (by kernel_rfl) (by kernel_rfl) (run_equalIn_int w 9998 2 .i64 .i64 _ _ Tryz.underlying2)];rw[Kea (a:=.int .u64 (x.v:Int)) (b:=.int .u64 (y.v:Int)) h1 (by kernel_rfl) (by kernel_rfl) (run_equalIn_int w 9998 100 .u64 .u64 _ _ Tryz.underlying100)];rw[Kwr];have k0:(x.t == y.t)=decide (x.t=y.t):=by rw[Bool.eq_iff_iff];simp
  have k1:((x.v:Int) == (y.v:Int))=decide (x.v=y.v):=by rw[Bool.eq_iff_iff];simp;omega
  rw[k0,k1];cases x
  cases y
  simp only[Smp.mk.injEq]
  repeat' split
  all_goals simp_all
theorem Qfi (x y:Smp) (w:World):(binOp .neq 133 (.agg #[.int .i64 x.t,.int .u64 (x.v:Int)]) (.agg #[.int .i64 y.t,.int .u64 (y.v:Int)])).run Tryz.prog w = .ok (.bool (!decide (x=y))) w:=by
 rw[run_neq_struct,Qfh];rfl
theorem Qfn (x y:Wnd) (w:World):(Op.equalIn 10000 136 (.agg #[.int .i64 x.start,.int .i64 x.count,.int .u64 (x.sum:Int),.int .u64 (x.min:Int),.int .u64 (x.max:Int),.int .u64 (x.last:Int)]) (.agg #[.int .i64 y.start,.int .i64 y.count,.int .u64 (y.sum:Int),.int .u64 (y.min:Int),.int .u64 (y.max:Int),.int .u64 (y.last:Int)])).run Tryz.prog w = .ok (decide (x=y)) w:=by
 rw[run_equalIn_struct (d:=9999) w 136 _ _ (by kernel_rfl) (by kernel_rfl)];obtain ⟨fs,hfs⟩:∃fs,(Tryz.prog.fieldsOf 136).toList=fs:=⟨_,rfl⟩;have hf:fs.map (fun f=>(f.name != "_",f.type,f.offset)) = [(true,2,0),(true,3,1),(true,100,2),(true,100,3),(true,100,4),(true,100,5)]:=by rw[←hfs];kernel_rfl
 rw[hfs]
 match fs,hf with
 | [f0,f1,f2,f3,f4,f5],hf=>
  simp only[List.map_cons,List.map_nil] at hf;injection hf with h0 hf;injection hf with h1 hf;injection hf with h2 hf;injection hf with h3 hf;injection hf with h4 hf;injection hf with h5 hf;rw[Kea (a:=.int .i64 x.start) (b:=.int .i64 y.start) h0 (by kernel_rfl) (by kernel_rfl) (run_equalIn_int w 9998 2 .i64 .i64 _ _ Tryz.underlying2)];rw[Kea (a:=.int .i64 x.count) (b:=.int .i64 y.count) h1 (by kernel_rfl) (by kernel_rfl) (run_equalIn_int w 9998 3 .i64 .i64 _ _ Tryz.underlying3)];rw[Kea (a:=.int .u64 (x.sum:Int)) (b:=.int .u64 (y.sum:Int)) h2 (by kernel_rfl) (by kernel_rfl) (run_equalIn_int w 9998 100 .u64 .u64 _ _ Tryz.underlying100)];rw[Kea (a:=.int .u64 (x.min:Int)) (b:=.int .u64 (y.min:Int)) h3 (by kernel_rfl) (by kernel_rfl) (run_equalIn_int w 9998 100 .u64 .u64 _ _ Tryz.underlying100)];rw[Kea (a:=.int .u64 (x.max:Int)) (b:=.int .u64 (y.max:Int)) h4 (by kernel_rfl) (by kernel_rfl) (run_equalIn_int w 9998 100 .u64 .u64 _ _ Tryz.underlying100)];rw[Kea (a:=.int .u64 (x.last:Int)) (b:=.int .u64 (y.last:Int)) h5 (by kernel_rfl) (by kernel_rfl) (run_equalIn_int w 9998 100 .u64 .u64 _ _ Tryz.underlying100)];rw[Kwr];have k0:(x.start == y.start)=decide (x.start=y.start):=by rw[Bool.eq_iff_iff];simp
  have k1:(x.count == y.count)=decide (x.count=y.count):=by rw[Bool.eq_iff_iff];simp
  have k2:((x.sum:Int) == (y.sum:Int))=decide (x.sum=y.sum):=by rw[Bool.eq_iff_iff];simp;omega
  have k3:((x.min:Int) == (y.min:Int))=decide (x.min=y.min):=by rw[Bool.eq_iff_iff];simp;omega
  have k4:((x.max:Int) == (y.max:Int))=decide (x.max=y.max):=by rw[Bool.eq_iff_iff];simp;omega
  have k5:((x.last:Int) == (y.last:Int))=decide (x.last=y.last):=by rw[Bool.eq_iff_iff];simp;omega
  rw[k0,k1,k2,k3,k4,k5];cases x
  cases y
  simp only[Wnd.mk.injEq]
  repeat' split
  all_goals simp_all
theorem Qfo (x y:Wnd) (w:World):(binOp .neq 136 (.agg #[.int .i64 x.start,.int .i64 x.count,.int .u64 (x.sum:Int),.int .u64 (x.min:Int),.int .u64 (x.max:Int),.int .u64 (x.last:Int)]) (.agg #[.int .i64 y.start,.int .i64 y.count,.int .u64 (y.sum:Int),.int .u64 (y.min:Int),.int .u64 (y.max:Int),.int .u64 (y.last:Int)])).run Tryz.prog w = .ok (.bool (!decide (x=y))) w:=by
 rw[run_neq_struct,Qfn];rfl
end
section
open Go.RowKit
open Lib renaming hid → Jh
attribute [local go_sem ↓] Go.wp_at_zero Go.wp_at_succ
attribute [local go_sem] Later.cell
theorem Krc (La Lb:List Ser) (A B:Option Addr) (n m ca cb:Nat) (w:World) (hA:Sers w A n La) (hB:Sers w B m Lb) (hn:n≤1099511627776) (hm:m≤1099511627776)
  (hza:∀s∈La,s.samples.length≤1099511627776∧s.windows.length≤1099511627776∧s.labels.length≤1099511627776) (hzb:∀s∈Lb,s.samples.length≤1099511627776∧s.windows.length≤1099511627776∧s.labels.length≤1099511627776) :
  Calls Tryz.prog 25 #[.slice A n ca,.slice B m cb] w fun e w'=>e = .returned (.bool (decide (La=Lb)))∧Below w.heap.size w w':=by
 have HLA:=Jh hA.len;have HLB:=Jh hB.len;have HSA0:=Jh hA;have HSB0:=Jh hB;have HZA:=Jh hza;have HZB:=Jh hzb;obtain ⟨R,hR⟩:∃R,decide (La=Lb)=R:=⟨_,rfl⟩;rw[hR];have HR:=Jh hR;obtain ⟨q,hq⟩:∃q,w.heap.size=q:=⟨_,rfl⟩;have HQ:=Jh hq;rw[hq];clear hR hq hA hB hza hzb
 by_cases hnm:n=m
 ·subst hnm;go_enter Tryz.func25,Tryz.ntmps25
  go_wp2_with fail
  go_loopg [5] n (fun g s5 wr=>∃i:Nat,i+g=n∧s5 = .int .i64 (i:Int)∧(∀j,j < i→La[j]! = Lb[j]!)∧Below q w wr)
  case atStart=>exact ⟨0,by omega,rfl,fun j hj=>by omega,Below.refl _ _⟩
  case round=>
   obtain ⟨i,hig,rfl,hsame,hbr⟩:=hrel;have HIG:=Jh hig;have HSAME:=Jh hsame;have HBR0:=Jh hbr;clear hig hsame hbr
   by_cases hi:i < n
   ·have el:decide (i < n)=true:=by rw[decide_eq_true_eq];exact hi
    obtain ⟨wo,rfl⟩:∃x,x=wr:=⟨_,rfl⟩;have hBo:Below w.heap.size w wo:=by rw[HQ.out];exact HBR0.out
    have hila:i < La.length:=by have:=HLA.out;omega
    have hilb:i < Lb.length:=by have:=HLB.out;omega
    obtain ⟨b,off,x,rfl,hbl,c0,c1,c2,hsa⟩:=HSA0.out.at_ hi;obtain ⟨b',off',x',rfl,hbl',d0,d1,d2,hsb⟩:=HSB0.out.at_ hi;obtain ⟨⟨LA,ln,lc⟩,⟨SA,sn,sc⟩,⟨WA,wn,wc9⟩⟩:=x;obtain ⟨⟨LA',ln',lc'⟩,⟨SA',sn',sc'⟩,⟨WA',wn',wc9'⟩⟩:=x';have hza:=HZA.out La[i]! (by rw[getElem!_pos _ i hila];exact List.getElem_mem hila);have hzb:=HZB.out Lb[i]! (by rw[getElem!_pos _ i hilb];exact List.getElem_mem hilb);obtain ⟨sra,hsra⟩:∃s,La[i]! = s:=⟨_,rfl⟩;obtain ⟨srb,hsrb⟩:∃s,Lb[i]! = s:=⟨_,rfl⟩;rw[hsra] at hsa hza;rw[hsrb] at hsb hzb;have a0:wo.cell? ⟨b,off+i*3,none⟩=some _:=later hBo c0;have b0:wo.cell? ⟨b',off'+i*3,none⟩=some _:=later hBo d0;have hlna:ln≤140737488351232:=by have h1:sra.labels.length=ln:=hsa.l.len;omega
    have hlnb:ln'≤140737488351232:=by have h1:srb.labels.length=ln':=hsb.l.len;omega
    have hsnz:sn≤1099511627776:=by have h1:sra.samples.length=sn:=hsa.s.len;omega
    have hwnz:wn≤1099511627776:=by have h1:sra.windows.length=wn:=hsa.w.len;omega
    obtain ⟨r,hr⟩:∃r,cmpL sra.labels srb.labels=r:=⟨_,rfl⟩;have HC:=Jh (fun u:Later wo=>Kow sra.labels srb.labels LA LA' ln ln' lc lc' u.w r hr ((hsa.l.below (hBo.trans (u.h.mono hBo.size))).more (Nat.le_trans hBo.size u.h.size)) ((hsb.l.below (hBo.trans (u.h.mono hBo.size))).more (Nat.le_trans hBo.size u.h.size)) hlna hlnb);have HRC:=Jh hr;have HSRA:=Jh hsra;have HSRB:=Jh hsrb;have HA1:=Jh c1;have HA2:=Jh c2;have HB1:=Jh d1;have HB2:=Jh d2;have HSA:=Jh hsa.s;have HSB:=Jh hsb.s;have HWA:=Jh hsa.w;have HWB:=Jh hsb.w;have hbo:b < wo.heap.size:=by have:=hBo.size;omega
    have hbo':b' < wo.heap.size:=by have:=hBo.size;omega
    have hne:sra≠srb→R=false:=fun h=>by
     rw[←HR.out,decide_eq_false_iff_not];intro e;apply h;rw[←HSRA.out,←HSRB.out,e]
    have HNE:=Jh hne;clear hr hsra hsrb c0 c1 c2 d0 d1 d2 hsa hsb hza hzb hBo hne;go_upto_region 6 with fail
    refine Kah (by kernel_rfl) (by kernel_rfl) ?_
    repeat (go_big_quiet_step ((go_at_call 69;exact Kal _ (HC.out _))))
    refine wpQuiet_nil ?_;rintro w2 ⟨⟨_,hb2⟩,rfl⟩;have hB2:Below w.heap.size w w2:=then_ (by rw[HQ.out];exact HBR0.out) hb2;have a1:w2.cell? ⟨b,off+i*3+1,none⟩=some _:=later hB2 HA1.out;have a2:w2.cell? ⟨b,off+i*3+2,none⟩=some _:=later hB2 HA2.out;have b1:w2.cell? ⟨b',off'+i*3+1,none⟩=some _:=later hB2 HB1.out;have b2:w2.cell? ⟨b',off'+i*3+2,none⟩=some _:=later hB2 HB2.out;have hbo2:b < w2.heap.size:=by have:=hB2.size;omega
    have hbo2':b' < w2.heap.size:=by have:=hB2.size;omega
    by_cases h1:r=0
    rotate_left
    ·have hre:R=false:=HNE.out (fun e=>h1 (by rw[←HRC.out,e];exact Kdk _));have e1:(r != 0)=true:=by rw[bne_iff_ne];exact h1
     have e1':decide (r=0)=false:=decide_eq_false h1;go_upto_region 7 with fail
     refine Kah (by kernel_rfl) (by kernel_rfl) ?_
     repeat (go_big_quiet_step (fail))
     refine wpQuiet_nil ?_;rintro w3 ⟨⟨_,hb3⟩,rfl⟩;have hB3:=Jh (then_ hB2 hb3);subst hre;go_wp2_with fail
     go_ret
     exact ⟨rfl,by rw[←HQ.out];exact hB3.out⟩
    subst h1;have hlab:sra.labels=srb.labels:=Kdz HRC.out
    by_cases h2:sn=sn'
    rotate_left
    ·have hre:R=false:=HNE.out (fun e=>h2 (by have a:=HSA.out.len;have b:=HSB.out.len;rw[e] at a;exact a.symm.trans b));have e2:((sn:Int) != (sn':Int))=true:=by rw[bne_iff_ne];omega
     have e2':(sn != sn')=true:=by rw[bne_iff_ne];exact h2
     go_upto_region 7 with fail
     refine Kah (by kernel_rfl) (by kernel_rfl) ?_
     repeat (go_big_quiet_step (fail))
     refine wpQuiet_nil ?_;rintro w3 ⟨⟨_,hb3⟩,rfl⟩;have hB3:=Jh (then_ hB2 hb3);subst hre;go_wp2_with fail
     go_ret
     exact ⟨rfl,by rw[←HQ.out];exact hB3.out⟩
    subst h2
    by_cases h3:wn=wn'
    rotate_left
    ·have hre:R=false:=HNE.out (fun e=>h3 (by have a:=HWA.out.len;have b:=HWB.out.len;rw[e] at a;exact a.symm.trans b));have e3:((wn:Int) != (wn':Int))=true:=by rw[bne_iff_ne];omega
     have e3':(wn != wn')=true:=by rw[bne_iff_ne];exact h3
     go_upto_region 7 with fail
     refine Kah (by kernel_rfl) (by kernel_rfl) ?_
     repeat (go_big_quiet_step (fail))
     refine wpQuiet_nil ?_;rintro w3 ⟨⟨_,hb3⟩,rfl⟩;have hB3:=Jh (then_ hB2 hb3);subst hre;go_wp2_with fail
     go_ret
     exact ⟨rfl,by rw[←HQ.out];exact hB3.out⟩
    subst h3;have HLAB:=Jh hlab;go_upto_region 7 with fail
    refine Kah (by kernel_rfl) (by kernel_rfl) ?_
    repeat (go_big_quiet_step (fail))
    refine wpQuiet_nil ?_;rintro w3 ⟨⟨_,hb3⟩,rfl⟩;have hB3:=Jh (then_ hB2 hb3);have HBC:=Jh (show Below q w w3 by rw[←HQ.out];exact hB3.out);clear hlab hb3 a1 a2 b1 b2 a0 b0 hbo hbo' hbo2 hbo2';go_upto_block 2 with fail
    go_cut [] (fun wz=>sra.samples=srb.samples∧Below q w wz)
    case first=>
     go_wp2_with fail
     go_loopg [7] sn (fun g s7 wr=>∃k:Nat,k+g=sn∧s7 = .int .i64 (k:Int)∧(∀j,j < k→sra.samples[j]! = srb.samples[j]!)∧Below q w wr)
     case atStart=>exact ⟨0,by omega,rfl,fun j hj=>by omega,HBC.out⟩
     case round=>
      obtain ⟨k,hkg,rfl,hall,hbr⟩:=hrel;have HKG:=Jh hkg;have HALL:=Jh hall;have HBR:=Jh hbr;clear hkg hall hbr;obtain ⟨wk,rfl⟩:∃x,x=wr:=⟨_,rfl⟩;have hBk:Below w.heap.size w wk:=by rw[HQ.out];exact HBR.out
      have ba1:wk.cell? ⟨b,off+i*3+1,none⟩=some _:=later hBk HA1.out;have bb1:wk.cell? ⟨b',off'+i*3+1,none⟩=some _:=later hBk HB1.out;have hblk:b < wk.heap.size:=by have:=hBk.size;omega
      have hblk':b' < wk.heap.size:=by have:=hBk.size;omega
      by_cases hk:k < sn
      ·have el:decide (k < sn)=true:=by rw[decide_eq_true_eq];exact hk
       obtain ⟨b1,o1,hA1,hb1,hg1⟩:=(HSA.out.below hBk).get hk;obtain ⟨b2,o2,hA2,hb2,hg2⟩:=(HSB.out.below hBk).get hk
       try dsimp only at hA1 hA2
       subst hA1 hA2;obtain ⟨x,hx⟩:∃x,sra.samples[k]! = x:=⟨_,rfl⟩;obtain ⟨y,hy⟩:∃y,srb.samples[k]! = y:=⟨_,rfl⟩;rw[hx] at hg1;rw[hy] at hg2;have cx0:wk.cell? ⟨b1,o1+k*2,none⟩=some (.int .i64 x.t):=hg1 0 _ rfl;have cx1:wk.cell? ⟨b1,o1+k*2+1,none⟩=some (.int .u64 (x.v:Int)):=hg1 1 _ rfl;have cy0:wk.cell? ⟨b2,o2+k*2,none⟩=some (.int .i64 y.t):=hg2 0 _ rfl;have cy1:wk.cell? ⟨b2,o2+k*2+1,none⟩=some (.int .u64 (y.v:Int)):=hg2 1 _ rfl;have HX:=Jh hx;have HY:=Jh hy;have hb1k:b1 < wk.heap.size:=by have:=hBk.size;omega
       have hb2k:b2 < wk.heap.size:=by have:=hBk.size;omega
       have hrun:=Qfi x y;obtain ⟨dq,hdq⟩:∃d,decide (x=y)=d:=⟨_,rfl⟩;rw[hdq] at hrun;have HDQ:=Jh hdq;clear hx hy hg1 hg2 hdq;go_upto_region 12 with fail
       refine Kah (by kernel_rfl) (by kernel_rfl) ?_
       repeat (go_big_quiet_step (fail))
       refine wpQuiet_nil ?_;rintro w5 ⟨⟨_,hb5⟩,rfl⟩;have HB5:=Jh (HBR.out.trans (hb5.mono (by have:=HBR.out.size;have:=HQ.out;omega)))
       cases dq with
       | false=>
        have hre:R=false:=HNE.out (fun e=>of_decide_eq_false HDQ.out (by rw[←HX.out,←HY.out,e]));subst hre;go_wp2_with fail
        go_ret
        exact ⟨rfl,HB5.out⟩
       | true=>
        have hnew:∀j,j < k+1→sra.samples[j]! = srb.samples[j]!:=fun j hj=>by
         by_cases hji:j=k
         ·subst hji;rw[HX.out,HY.out];exact of_decide_eq_true HDQ.out
         ·exact HALL.out j (by omega)
        have HNEW:=Jh hnew;clear hnew hb5;go_wp2_with fail
        go_roundg (gk - 1)
        case measure=>have:=HKG.out;omega
        case rel=>exact ⟨k+1,by have:=HKG.out;omega,by go_num,HNEW.out,HB5.out⟩
      ·have el:decide (k < sn)=false:=by rw[decide_eq_false_iff_not];exact hk
       have heq:sra.samples=srb.samples:=Kka (by have h1:sra.samples.length=sn:=HSA.out.len;have h2:srb.samples.length=sn:=HSB.out.len;omega) (fun j hj=>HALL.out j (by have h1:sra.samples.length=sn:=HSA.out.len;have:=HKG.out;omega));have HEQs:=Jh heq;clear heq;go_wp2_with fail
       go_meet
       exact ⟨HEQs.out,HBR.out⟩
    obtain ⟨heq,hBC⟩:=hcut;obtain ⟨ws9,rfl⟩:∃x,x=wc:=⟨_,rfl⟩;have HEQs:=Jh heq;have HBC:=Jh hBC;clear heq hBC;go_wp2_with fail
    go_loopg [8] wn (fun g s8 wr=>∃k:Nat,k+g=wn∧s8 = .int .i64 (k:Int)∧(∀j,j < k→sra.windows[j]! = srb.windows[j]!)∧Below q w wr)
    case atStart=>exact ⟨0,by omega,rfl,fun j hj=>by omega,HBC.out⟩
    case round=>
     obtain ⟨k,hkg,rfl,hall,hbr⟩:=hrel;have HKG:=Jh hkg;have HALL:=Jh hall;have HBR:=Jh hbr;clear hkg hall hbr;obtain ⟨wk,rfl⟩:∃x,x=wr:=⟨_,rfl⟩;have hBk:Below w.heap.size w wk:=by rw[HQ.out];exact HBR.out
     have ba2:wk.cell? ⟨b,off+i*3+2,none⟩=some _:=later hBk HA2.out;have bb2:wk.cell? ⟨b',off'+i*3+2,none⟩=some _:=later hBk HB2.out;have hblk:b < wk.heap.size:=by have:=hBk.size;omega
     have hblk':b' < wk.heap.size:=by have:=hBk.size;omega
     by_cases hk:k < wn
     ·have el:decide (k < wn)=true:=by rw[decide_eq_true_eq];exact hk
      obtain ⟨b1,o1,hA1,hb1,hg1⟩:=(HWA.out.below hBk).get hk;obtain ⟨b2,o2,hA2,hb2,hg2⟩:=(HWB.out.below hBk).get hk
      try dsimp only at hA1 hA2
      subst hA1 hA2;obtain ⟨x,hx⟩:∃x,sra.windows[k]! = x:=⟨_,rfl⟩;obtain ⟨y,hy⟩:∃y,srb.windows[k]! = y:=⟨_,rfl⟩;rw[hx] at hg1;rw[hy] at hg2;have cx0:wk.cell? ⟨b1,o1+k*6,none⟩=some (.int .i64 x.start):=hg1 0 _ rfl;have cx1:wk.cell? ⟨b1,o1+k*6+1,none⟩=some (.int .i64 x.count):=hg1 1 _ rfl;have cx2:wk.cell? ⟨b1,o1+k*6+2,none⟩=some (.int .u64 (x.sum:Int)):=hg1 2 _ rfl;have cx3:wk.cell? ⟨b1,o1+k*6+3,none⟩=some (.int .u64 (x.min:Int)):=hg1 3 _ rfl;have cx4:wk.cell? ⟨b1,o1+k*6+4,none⟩=some (.int .u64 (x.max:Int)):=hg1 4 _ rfl;have cx5:wk.cell? ⟨b1,o1+k*6+5,none⟩=some (.int .u64 (x.last:Int)):=hg1 5 _ rfl;have cy0:wk.cell? ⟨b2,o2+k*6,none⟩=some (.int .i64 y.start):=hg2 0 _ rfl;have cy1:wk.cell? ⟨b2,o2+k*6+1,none⟩=some (.int .i64 y.count):=hg2 1 _ rfl;have cy2:wk.cell? ⟨b2,o2+k*6+2,none⟩=some (.int .u64 (y.sum:Int)):=hg2 2 _ rfl;have cy3:wk.cell? ⟨b2,o2+k*6+3,none⟩=some (.int .u64 (y.min:Int)):=hg2 3 _ rfl;have cy4:wk.cell? ⟨b2,o2+k*6+4,none⟩=some (.int .u64 (y.max:Int)):=hg2 4 _ rfl;have cy5:wk.cell? ⟨b2,o2+k*6+5,none⟩=some (.int .u64 (y.last:Int)):=hg2 5 _ rfl;have HX:=Jh hx;have HY:=Jh hy;have hb1k:b1 < wk.heap.size:=by have:=hBk.size;omega
      have hb2k:b2 < wk.heap.size:=by have:=hBk.size;omega
      have hrun:=Qfo x y;obtain ⟨dq,hdq⟩:∃d,decide (x=y)=d:=⟨_,rfl⟩;rw[hdq] at hrun;have HDQ:=Jh hdq;clear hx hy hg1 hg2 hdq;go_upto_region 17 with fail
      refine Kah (by kernel_rfl) (by kernel_rfl) ?_
      repeat (go_big_quiet_step (fail))
      refine wpQuiet_nil ?_;rintro w5 ⟨⟨_,hb5⟩,rfl⟩;have HB5:=Jh (HBR.out.trans (hb5.mono (by have:=HBR.out.size;have:=HQ.out;omega)))
      cases dq with
      | false=>
       have hre:R=false:=HNE.out (fun e=>of_decide_eq_false HDQ.out (by rw[←HX.out,←HY.out,e]));subst hre;go_wp2_with fail
       go_ret
       exact ⟨rfl,HB5.out⟩
      | true=>
       have hnew:∀j,j < k+1→sra.windows[j]! = srb.windows[j]!:=fun j hj=>by
        by_cases hji:j=k
        ·subst hji;rw[HX.out,HY.out];exact of_decide_eq_true HDQ.out
        ·exact HALL.out j (by omega)
       have HNEW:=Jh hnew;clear hnew hb5;go_wp2_with fail
       go_roundg (gk - 1)
       case measure=>have:=HKG.out;omega
       case rel=>exact ⟨k+1,by have:=HKG.out;omega,by go_num,HNEW.out,HB5.out⟩
     ·have el:decide (k < wn)=false:=by rw[decide_eq_false_iff_not];exact hk
      have heq:sra.windows=srb.windows:=Kka (by have h1:sra.windows.length=wn:=HWA.out.len;have h2:srb.windows.length=wn:=HWB.out.len;omega) (fun j hj=>HALL.out j (by have h1:sra.windows.length=wn:=HWA.out.len;have:=HKG.out;omega));have HEQw:=Jh heq;clear heq
      have heq:sra=srb:=by
       cases sra
       cases srb
       have h1:=HLAB.out;have h2:=HEQs.out;have h3:=HEQw.out;dsimp only at h1 h2 h3;rw[h1,h2,h3]
      have hnew:∀j,j < i+1→La[j]! = Lb[j]!:=fun j hj=>by
       by_cases hji:j=i
       ·subst hji;rw[HSRA.out,HSRB.out,heq]
       ·exact HSAME.out j (by omega)
      have HNEW:=Jh hnew;clear heq hnew;go_wp2_with fail
      go_roundg (n - i - 1)
      case measure=>have:=HIG.out;omega
      case rel=>exact ⟨i+1,by have:=HIG.out;omega,by go_num,HNEW.out,HBR.out⟩
   ·have el:decide (i < n)=false:=by rw[decide_eq_false_iff_not];exact hi
    have hre:R=true:=by
     rw[←HR.out,decide_eq_true_eq];exact Kka (by have:=HLA.out;have:=HLB.out;omega) (fun j hj=>HSAME.out j (by have:=HLA.out;omega))
    subst hre;go_wp2_with fail
    go_ret
    exact ⟨rfl,HBR0.out⟩
 ·have hre:R=false:=by
   rw[←HR.out,decide_eq_false_iff_not];intro e;apply hnm;rw[←HLA.out,←HLB.out,e]
  have el:((n:Int) != (m:Int))=true:=by rw[bne_iff_ne];omega
  have el2:(n != m)=true:=by rw[bne_iff_ne];omega
  subst hre;go_enter Tryz.func25,Tryz.ntmps25
  go_wp2_with fail
  go_ret
  exact ⟨rfl,Below.refl _ _⟩
end
section
open Go.RowKit
attribute [local go_sem ↓] Go.wp_at_zero Go.wp_at_succ
attribute [local go_sem] Later.cell
theorem Qaj:(Tryz.prog.info? 133).map (fun i=>(i.zero,i.size,i.bytes))=some (some (.agg #[.int .i64 0,.int .u64 0]),2,16):=by kernel_rfl
theorem Qak:(Tryz.prog.info? 136).map (fun i=>(i.zero,i.size,i.bytes))=some (some (.agg #[.int .i64 0,.int .i64 0,.int .u64 0,.int .u64 0,.int .u64 0,.int .u64 0]),6,48):=by kernel_rfl
theorem Qai:(Tryz.prog.info? 132).map (fun i=>(i.zero,i.size,i.bytes))=some (some (.agg #[.slice none 0 0,.slice none 0 0,.slice none 0 0]),3,72):=by kernel_rfl
structure RSer (B:Nat) (w:World) (h:Hd3) (x:Ser):Prop where
 l:w.ownsRow B 180 2 (.slice h.l.A h.l.n h.l.c) x.labels.length (x.labels.flatMap encLb)
 s:w.ownsRow B 133 2 (.slice h.s.A h.s.n h.s.c) x.samples.length (x.samples.flatMap Kad)
 w:w.ownsRow B 136 6 (.slice h.w.A h.w.n h.w.c) x.windows.length (x.windows.flatMap Kai)
theorem Kcp {w w':World} {B n sz:Nat} {T:TypeId} {v:Value} {xs:List Value} (h:w.ownsRow B T sz v n xs) (hb:Below w.heap.size w w'):w'.ownsRow B T sz v n xs:=
 Qdn h fun g hg=>hb.block g (h.lt g hg).2
theorem RSer.below {w w':World} {B:Nat} {h:Hd3} {x:Ser} (hs:RSer B w h x) (hb:Below w.heap.size w w'):RSer B w' h x:=⟨Kcp hs.l hb,Kcp hs.s hb,Kcp hs.w hb⟩
theorem RSer.mono {w:World} {B B':Nat} {h:Hd3} {x:Ser} (hs:RSer B w h x) (hb:B'≤B):RSer B' w h x:=⟨World.ownsRow.mono hs.l hb,World.ownsRow.mono hs.s hb,World.ownsRow.mono hs.w hb⟩
theorem RSer.grown {w w':World} {B B' n:Nat} {v:Value} {xs:List Value} {h:Hd3} {x:Ser} (hs:RSer B w h x) (hv:w.ownsRow B' 132 3 v n xs) (hg:w.grownBy w' v.ownBlock):RSer B w' h x:=
 ⟨hs.l.kept hg (Kbq hs.l hv (by decide)),hs.s.kept hg (Kbq hs.s hv (by decide)),hs.w.kept hg (Kbq hs.w hv (by decide))⟩
structure SrfAt (q:Nat) (wo:World) (p:Nat) (hl:Hd) (l:List Lb) (vs vw:Value) (xs:List Smp) (ys:List Wnd) (wr:World):Prop where
 b:Blk wr p 132 #[.slice hl.A hl.n hl.c,vs,vw]
 l:wr.ownsRow q 180 2 (.slice hl.A hl.n hl.c) l.length (l.flatMap encLb)
 s:wr.ownsRow q 133 2 vs xs.length (xs.flatMap Kad)
 w:wr.ownsRow q 136 6 vw ys.length (ys.flatMap Kai)
 be:Below q wo wr
 qp:q≤p
theorem RSer.at_ {B:Nat} {w:World} {h:Hd3} {s:Ser} (hs:RSer B w h s):SerAt w h ⟨s.labels,s.samples,s.windows⟩∧h.l.n=s.labels.length∧h.s.n=s.samples.length∧h.w.n=s.windows.length:=by
 obtain ⟨A0,c0,e0,k0,_,m0⟩:=Elems.of_own (enc:=encLb) (fun x _=>Kbw x) rfl hs.l rfl;obtain ⟨A1,c1,e1,k1,_,m1⟩:=Elems.of_own (enc:=Kad) (fun _ _=>rfl) rfl hs.s rfl;obtain ⟨A2,c2,e2,k2,_,m2⟩:=Elems.of_own (enc:=Kai) (fun _ _=>rfl) rfl hs.w rfl;injection e0 with e0 f0 g0;injection e1 with e1 f1 g1;injection e2 with e2 f2 g2;obtain ⟨⟨a0,b0,d0⟩,⟨a1,b1,d1⟩,⟨a2,b2,d2⟩⟩:=h;dsimp only at e0 f0 g0 e1 f1 g1 e2 f2 g2;subst e0 f0 g0 e1 f1 g1 e2 f2 g2;exact ⟨⟨k0,m0,k1,m1,k2,m2⟩,rfl,rfl,rfl⟩
theorem Qbk {w:World} {B n:Nat} {A:Option Addr} {c:Nat} {hs:List Hd3} {L:List Ser} (hl:hs.length=n) (hL:L.length=n) (h:w.ownsRow B 132 3 (.slice A n c) n (hs.flatMap encH3)) (hr:∀(i:Nat) (h:Hd3),hs[i]? = some h→RSer B w h L[i]!):Sers w A n L∧n≤c:=by
 obtain ⟨A',c',e,k,_,m⟩:=Elems.of_own (enc:=encH3) (fun _ _=>rfl) rfl h hl;injection e with e _ g;subst e g;exact ⟨⟨hs,k,hL,fun i x hx=>((hr i x hx).at_).1⟩,m⟩
structure Kdp (w:World) (A:Option Addr) (n:Nat) (L:List Ser):Prop where
 s:Sers w A n L
 n:L.length≤1073741824
 z:∀s∈L,SerSz s
theorem Kdp.below {w w':World} {A:Option Addr} {n:Nat} {L:List Ser} (h:Kdp w A n L) (hb:Below w.heap.size w w'):Kdp w' A n L:=⟨h.s.below hb,h.n,h.z⟩
theorem Kdp.sz {w:World} {A:Option Addr} {n:Nat} {L:List Ser} (h:Kdp w A n L):∀s∈L,s.samples.length≤1099511627776∧s.windows.length≤1099511627776∧s.labels.length≤1099511627776:=fun s hs=>⟨(h.z s hs).n,(h.z s hs).m,(h.z s hs).l⟩
section
variable {P : Program} {Q : Exit → Act → World → Prop}
end
def filOf (F0 F1 F2:ByteArray):Fil:=⟨F0.data.toList,F1.data.toList,F2.data.toList⟩
end
end Go.Proofs.YtdoiekknhnbepaaGreatDoor
