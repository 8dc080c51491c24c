/- Merged (what the claim wants of): KptPlain, SpnWalksE, KptMem, ChkRdB, RegFault, ChkRdC, ChkRdD. -/
import Derived.Test.YtefpndiiedkmpaaGreatDoorKpb05
import Derived.Test.YtefpndiiedkmpaaGreatDoorKpb06
import Derived.Test.YtefpndiiedkmpaaGreatDoorKpb02
import Derived.Test.YtefpndiiedkmpaaGreatDoorKpb04
import Derived.Test.YtefpndiiedkmpaaGreatDoorKpb03
set_option linter.unusedVariables false
set_option linter.unusedSimpArgs false
set_option maxRecDepth 100000
set_option maxHeartbeats 8000000
namespace Go.Proofs.YtefpndiiedkmpaaGreatDoor
section
open Go.RowKit
open List renaming length_append → Jd
structure KSer where
 labels:List Lb
 max:Int
 g0:List Spn
 g1:List Spn
 g2:List Spn
 samples:List Smp
instance:Inhabited KSer:=⟨⟨[],0,[],[],[],[]⟩⟩
instance canonDec (l:List Spn):Decidable (Kat l):=by unfold Kat;infer_instance
def Qan (m:Int) (l:List Smp):Bool:=l.all (fun x=>decide (0≤x.t∧x.t≤m)) && decide (l.Pairwise fun a b=>a.t < b.t)
def Kcd (s:KSer):Bool:=Kdf s.labels && decide (-1≤s.max∧s.max≤1125899906842624) && decide (Kat s.g0∧Kat s.g1∧Kat s.g2) && Qan s.max s.samples
def setsK (L:List KSer):List (List Lb):=L.map KSer.labels
def fitK (L:List KSer):Bool:=L.all Kcd && decide (setsK L).Nodup
def smpsT (l:List Smp):List UInt8:=uintT l.length++(Kbd l.length l).flatMap fun p=>textT (Kbb p)
def kserT (t:List Txt) (s:KSer):List UInt8:=pk t s.labels++(intT s.max++(Kbl s.g0++(Kbl s.g1++(Kbl s.g2++smpsT s.samples))))
def bodyK (L:List KSer):List UInt8:=tabT (tabOf (setsK L))++(uintT L.length++L.flatMap (kserT (tabOf (setsK L))))
def encK (L:List KSer):List UInt8:=sealT (bodyK L)
def smpsR (I:List UInt8) (n:Nat):Nat→List Smp→Nat→Option (List Smp×Nat)
 | 0,_,_=>none
 | g+1,out,i=>if out.length < n then (if (Kbg I i).2.2=0 then (match decC (Kbg I i).1 with
   | none=>none
   | some l=>if l = [] then none else smpsR I n g (out++l) (Kbg I i).2.1) else none) else some (out,i)
def kserR (t:List Txt) (I:List UInt8) (i:Nat):Option (KSer×Nat):=match unpR t I i with
 | (l,j,e)=>if e≠0 then none else match riAt I j with
  | none=>none
  | some (m,j1)=>match Kda I j1 with
   | none=>none
   | some (a,j2)=>match Kda I j2 with
    | none=>none
    | some (b,j3)=>match Kda I j3 with
     | none=>none
     | some (c,j4)=>match ruAt I j4 with
      | none=>none
      | some (n,j5)=>match smpsR I n (n+1) [] j5 with
       | none=>none
       | some (x,j6)=>some (⟨l,m,a,b,c,x⟩,j6)
def Kdt (t:List Txt) (I:List UInt8):Nat→List KSer→Nat→Option (List KSer)
 | 0,out,_=>some out
 | n+1,out,i=>match kserR t I i with
  | none=>none
  | some (s,j)=>Kdt t I n (out ++ [s]) j
def Kfm (I:List UInt8):Option (List KSer):=match tabR I 0 with
 | none=>none
 | some (t,i)=>match ruAt I i with
  | none=>none
  | some (n,j)=>Kdt t I n [] j
def decK (s:List UInt8):Except Nat (List KSer):=match Kcl s with
 | .error e=>.error e
 | .ok I=>match Kfm I with
  | none=>.error 150
  | some L=>if fitK L=true∧encK L=s then .ok L else .error 150
theorem Kom {s:List UInt8} {e:Nat} (h:decK s = .error e):e=20∨e=22∨e=150:=by
 unfold decK at h
 cases hu:Kcl s with
 | error e'=>
  rw[hu] at h;injection h with h;subst h;unfold Kcl at hu
  split at hu
  ·injection hu with hu;exact .inl hu.symm
  ·split at hu
   ·cases hu
   ·injection hu with hu;exact .inr (.inl hu.symm)
 | ok I=>
  rw[hu] at h;dsimp only at h
  cases hp:Kfm I with
  | none=>rw[hp] at h;injection h with h;exact .inr (.inr h.symm)
  | some L=>
   rw[hp] at h;dsimp only at h
   split at h
   ·cases h
   ·injection h with h;exact .inr (.inr h.symm)
structure KBits (L:List KSer):Prop where
 v:∀s∈L,∀x∈s.samples,x.v < 2 ^ 64
 s:∀s∈L,(∀x∈s.g0,SpnIn x)∧(∀x∈s.g1,SpnIn x)∧(∀x∈s.g2,SpnIn x)
 n:∀s∈L,s.samples.length < 2 ^ 64∧s.g0.length < 2 ^ 64∧s.g1.length < 2 ^ 64∧s.g2.length < 2 ^ 64
 l:L.length < 2 ^ 64
 t:∀x∈tabOf (setsK L),x.length < 2 ^ 64
 tn:(tabOf (setsK L)).length < 2 ^ 64
 c:∀s∈L,∀p∈Kbd s.samples.length s.samples,(Kbb p).length < 2 ^ 64
theorem Kfk {s:KSer}:Kcd s=true↔Kdf s.labels=true∧(-1≤s.max∧s.max≤1125899906842624)∧(Kat s.g0∧Kat s.g1∧Kat s.g2)∧(∀x∈s.samples,0≤x.t∧x.t≤s.max)∧s.samples.Pairwise fun a b=>a.t < b.t:=by
 unfold Kcd Qan;simp only[Bool.and_eq_true,decide_eq_true_eq,List.all_eq_true,and_assoc]
theorem Kjk {L:List KSer}:fitK L=true↔(∀s∈L,Kcd s=true)∧(setsK L).Nodup:=by
 unfold fitK;simp only[Bool.and_eq_true,decide_eq_true_eq,List.all_eq_true]
theorem Kpo {I r:List UInt8}:∀(P:List (List Smp)) (out:List Smp) (n g:Nat) {i:Nat},(∀p∈P,Kfv p∧p≠[]∧(Kbb p).length < 2 ^ 64)→out.length+P.flatten.length=n→P.length < g→I.drop i=(P.flatMap fun p=>textT (Kbb p))++r→
  smpsR I n g out i=some (out++P.flatten,i+(P.flatMap fun p=>textT (Kbb p)).length)∧I.drop (i+(P.flatMap fun p=>textT (Kbb p)).length)=r
 | [],out,n,g,i,_,hn,hg,h=>by
  obtain ⟨g,rfl⟩:∃k,g=k+1:=⟨g - 1,by omega⟩;simp only[List.flatten_nil,List.length_nil,Nat.add_zero] at hn;refine ⟨?_,by simpa using h⟩;rw[smpsR,if_neg (by omega)];simp
 | p :: P,out,n,g,i,hp,hn,hg,h=>by
  obtain ⟨g,rfl⟩:∃k,g=k+1:=⟨g - 1,by simp at hg;omega⟩;obtain ⟨h1,h2,h3⟩:=hp p (by simp);have hl:0 < p.length:=List.length_pos_iff.2 h2;rw[List.flatMap_cons,List.append_assoc] at h;obtain ⟨e1,e2⟩:=Kle h3 h;rw[List.flatten_cons,Jd] at hn;obtain ⟨e3,e4⟩:=Kpo P (out++p) n g (fun q hq=>hp q (by simp[hq])) (by rw[Jd];omega) (by simp at hg;omega) e2;rw[smpsR,if_pos (by omega),e1];dsimp only;rw[if_pos rfl,Qjz h1];dsimp only;rw[if_neg h2];rw[e3];refine ⟨?_,?_⟩
  ·rw[List.append_assoc,List.flatten_cons,List.flatMap_cons,Jd,Nat.add_assoc]
  ·rw[List.flatMap_cons,Jd,←Nat.add_assoc];exact e4
theorem Qgd {I r:List UInt8} {l:List Smp} {i:Nat} (hp:∀p∈Kbd l.length l,Kfv p∧(Kbb p).length < 2 ^ 64) (hn:l.length < 2 ^ 64) (h:I.drop i=smpsT l++r) :
  ∃j,ruAt I i=some (l.length,j)∧smpsR I l.length (l.length+1) [] j=some (l,i+(smpsT l).length)∧I.drop (i+(smpsT l).length)=r:=by
 unfold smpsT at h ⊢;rw[List.append_assoc] at h;obtain ⟨e1,e2⟩:=ru_of hn h;have hfl:=Kld l.length l (Nat.le_refl _);obtain ⟨e3,e4⟩:=Kpo (Kbd l.length l) [] l.length (l.length+1) (fun p hq=>⟨(hp p hq).1,(Kil l.length l p hq).1,(hp p hq).2⟩) (by rw[hfl];simp) (by have:=Kkj l.length l;omega) e2;rw[hfl,List.nil_append] at e3;refine ⟨_,e1,?_,?_⟩
 ·rw[e3,Jd,Nat.add_assoc]
 ·rw[Jd,←Nat.add_assoc];exact e4
structure KOk (t:List Txt) (s:KSer):Prop where
 e:Kcz s.labels=0
 m:∀x∈texts s.labels,x∈t
 x:-9223372036854775808≤s.max∧s.max≤9223372036854775807
 c:Kat s.g0∧Kat s.g1∧Kat s.g2
 i:(∀x∈s.g0,SpnIn x)∧(∀x∈s.g1,SpnIn x)∧(∀x∈s.g2,SpnIn x)
 n:s.samples.length < 2 ^ 64∧s.g0.length < 2 ^ 64∧s.g1.length < 2 ^ 64∧s.g2.length < 2 ^ 64
 p:∀p∈Kbd s.samples.length s.samples,Kfv p∧(Kbb p).length < 2 ^ 64
theorem Qby {t:List Txt} (ha:Asc t) (ht:t.length < 2 ^ 64) {s:KSer} (hs:KOk t s) {I r:List UInt8} {i:Nat} (hi:i≤I.length) (h:I.drop i=kserT t s++r) :
  kserR t I i=some (s,i+(kserT t s).length)∧I.drop (i+(kserT t s).length)=r:=by
 unfold kserT at h ⊢;simp only[List.append_assoc] at h;obtain ⟨a1,k1⟩:=Qgo ha ht hs.e hs.m hi h;obtain ⟨a2,k2⟩:=ri_of hs.x.1 hs.x.2 k1;obtain ⟨a3,k3⟩:=Kjz hs.c.1 hs.i.1 hs.n.2.1 k2;obtain ⟨a4,k4⟩:=Kjz hs.c.2.1 hs.i.2.1 hs.n.2.2.1 k3;obtain ⟨a5,k5⟩:=Kjz hs.c.2.2 hs.i.2.2 hs.n.2.2.2 k4;obtain ⟨j,a6,a7,k6⟩:=Qgd hs.p hs.n.1 k5
 have hlen:i+(pk t s.labels++(intT s.max++(Kbl s.g0++(Kbl s.g1++(Kbl s.g2++smpsT s.samples))))).length=i+(pk t s.labels).length+(intT s.max).length+(Kbl s.g0).length+(Kbl s.g1).length+(Kbl s.g2).length+(smpsT s.samples).length:=by
  simp only[Jd];omega
 rw[hlen];refine ⟨?_,k6⟩;unfold kserR;rw[a1];dsimp only;rw[if_neg (by simp),a2];dsimp only;rw[a3];dsimp only;rw[a4];dsimp only;rw[a5];dsimp only;rw[a6];dsimp only;rw[a7]
theorem Kmj {t:List Txt} (ha:Asc t) (ht:t.length < 2 ^ 64) {I r:List UInt8}:∀(L out:List KSer) {i:Nat},(∀s∈L,KOk t s)→i≤I.length→I.drop i=L.flatMap (kserT t)++r→Kdt t I L.length out i=some (out++L)
 | [],out,i,_,_,_=>by simp[Kdt]
 | s :: L,out,i,hs,hi,h=>by
  rw[List.flatMap_cons,List.append_assoc] at h;obtain ⟨e1,e2⟩:=Qby ha ht (hs s (by simp)) hi h
  have hi2:i+(kserT t s).length≤I.length:=by
   have:=congrArg List.length h;simp only[List.length_drop,Jd] at this;omega
  rw[List.length_cons,Kdt,e1];dsimp only;rw[Kmj ha ht L (out ++ [s]) (fun q hq=>hs q (by simp[hq])) hi2 e2,List.append_assoc];rfl
theorem Kwf {m:Int} (hm:m≤1125899906842624) {l:List Smp} (h1:∀x∈l,0≤x.t∧x.t≤m) (h2:l.Pairwise fun a b=>a.t < b.t) (hv:∀x∈l,x.v < 2 ^ 64) {p:List Smp} {f:Nat} (hp:p∈Kbd f l):Kfv p:=
 Qin (fun x hx=>⟨(h1 x hx).1,by have:=(h1 x hx).2;omega,hv x hx⟩) (Kha.2 h2) hp
theorem Kzy {L:List KSer} (hf:fitK L=true) (hb:KBits L):decK (encK L) = .ok L:=by
 obtain ⟨h1,h2⟩:=Kjk.1 hf
 have hmem:∀s∈L,∀x∈texts s.labels,x∈tabOf (setsK L):=by
  intro s hs x hx;rw[(Khz (setsK L)).2];exact List.mem_flatMap.2 ⟨s.labels,List.mem_map.2 ⟨s,hs,rfl⟩,hx⟩
 have h0:(bodyK L).drop 0=tabT (tabOf (setsK L))++(uintT L.length++L.flatMap (kserT (tabOf (setsK L)))):=rfl;obtain ⟨e1,k1⟩:=Qgg (Khz (setsK L)).1 hb.tn hb.t h0;obtain ⟨e2,k2⟩:=ru_of hb.l k1
 have hle:0+(tabT (tabOf (setsK L))).length+(uintT L.length).length≤(bodyK L).length:=by
  unfold bodyK;simp only[Jd];omega
 have e3:=Kmj (Khz (setsK L)).1 hb.tn (I:=bodyK L) (r:=[]) L [] (fun s hs=>by
  obtain ⟨f1,f2,f3,f4,f5⟩:=Kfk.1 (h1 s hs)
  exact ⟨Kpv f1,hmem s hs,by omega,f3,hb.s s hs,hb.n s hs,fun p hp=>⟨Kwf f2.2 f4 f5 (hb.v s hs) hp,hb.c s hs p hp⟩⟩) hle (by rw[k2,List.append_nil])
 unfold decK encK;rw[Kzm];dsimp only;unfold Kfm;rw[e1];dsimp only;rw[e2];dsimp only;rw[e3,List.nil_append];dsimp only;rw[if_pos ⟨hf,rfl⟩]
end
section
open Go.RowKit Go.Shelf Go.Sort
open Lib renaming hid → Jh
attribute [local go_sem ↓] Go.wp_at_zero Go.wp_at_succ
attribute [local go_sem] Later.cell
theorem Qjf (s:Spn):(spnT s).length≤22:=by
 unfold spnT;have h1:(intT s.frm).length≤11:=(Kam _).2;have h2:(intT s.to_).length≤11:=(Kam _).2;rw[List.length_append];omega
theorem Ksg:∀l:List Spn,((l.map spnT).flatten).length≤22*l.length
 | []=>by simp
 | s :: l=>by
  have:=Ksg l;have:=Qjf s;rw[List.map_cons,List.flatten_cons,List.length_append,List.length_cons];omega
theorem Ktn (l:List Spn) (A:Option Addr) (n c:Nat) (w:World) (h:Elems w w.heap.size 2 Kac A n l) (hn:n≤1099511627776) (hin:∀x∈l,SpnIn x) (hc:Kat l) :
  Calls Tryz.prog 34 #[.slice A n c] w fun e w'=>e = .returned (.string ⟨(Kbl l).toArray⟩)∧Below w.heap.size w w':=by
 have HS:=Jh (Kms l A n c w h hn hin);have HLN:=Jh h.len;have HIN:=Jh hin;have HC:=Jh hc;clear h hin hc;go_enter Tryz.func34,Tryz.ntmps34
 go_wp2_with fail
 refine HS.out.mono ?_;rintro _ w1 ⟨⟨v,L,rfl,hr,_,hL,_⟩,hb1⟩;have hLl:=hL HC.out;rw[hLl] at hr;obtain ⟨A2,c2,rfl,hE⟩:=Kgz hr rfl;rw[HLN.out] at hE ⊢;have HE:=Jh hE;have HB1:=Jh hb1;clear hr hL hLl hE hb1;have h0:Bld w1.heap.size w1.heap.size [] (w1.alloc (.cells #[.pointer none,.slice none 0 0] 74)):=Bld.new w1 (Nat.le_refl _);have hb0:Below w1.heap.size w1 (w1.alloc (.cells #[.pointer none,.slice none 0 0] 74)):=(Below.refl _ _).alloc (Nat.le_refl _) _;go_upto_region 3 with fail
 obtain ⟨w2,hw2⟩:∃x,w1.alloc (.cells #[.pointer none,.slice none 0 0] 74)=x:=⟨_,rfl⟩;rw[hw2] at h0 hb0;rw[hw2];obtain ⟨b,hb⟩:∃b,w1.heap.size=b:=⟨_,rfl⟩;rw[hb] at h0 hb0 ⊢;have HBB:=Jh hb;have HL2:=Jh h0;have HB2:=Jh hb0;have hB2:b≤w2.heap.size:=by have:=hb0.size;omega
 clear hw2 h0 hb0 hb;go_wp2_with fail
 refine (Kcr n (by omega) w2).mono ?_;rintro _ w3 ⟨rfl,hb3⟩;have HL3:=Jh (HL2.out.below hb3);have HB3:=Jh (HB2.out.trans (hb3.mono hB2));have hB3:b≤w3.heap.size:=Nat.le_trans hB2 hb3.size;clear hb3;go_wp2_with fail
 refine (Kcv b b [] ⟨(uintT n).toArray⟩ w3 HL3.out (by show 0+(uintT n).toArray.size≤_;have:=(Kam n).2;simp only[List.size_toArray];omega) hB3).mono ?_;rintro _ w4 ⟨rfl,h5,h6,_⟩;have HL4:Hid (Bld b b (uintT n) w4):=Jh h5;have HB4:=Jh (HB3.out.trans h6);clear h5 h6;go_wp2_with fail
 go_loopg [6,16] n (fun g _ s16 wr=>∃i:Nat,i+g=n∧s16 = .int .i64 (i:Int)∧Bld b b (uintT n++((l.take i).map spnT).flatten) wr∧Below b w1 wr)
 case atStart=>exact ⟨0,by omega,rfl,by simpa using HL4.out,HB4.out⟩
 case round=>
  obtain ⟨i,hig,rfl,hld,hbr⟩:=hrel;have HIG:=Jh hig;have HLD:=Jh hld;have HBR:=Jh hbr;clear hig hld hbr;obtain ⟨wo,rfl⟩:∃x,x=wr:=⟨_,rfl⟩
  by_cases hi:i < n
  ·have el:decide (i < n)=true:=by rw[decide_eq_true_eq];exact hi
   have hi2:(i:Int) < (n:Int):=by omega
   obtain ⟨b1,o1,rfl,hb1,g1⟩:=((HE.out.below (by rw[HBB.out];exact HBR.out)).more HBR.out.size).getS hi;have p0:wo.cell? ⟨b1,o1+i*2,none⟩=some (.int .i64 l[i]!.frm):=g1 0 _ rfl;have p1:wo.cell? ⟨b1,o1+i*2+1,none⟩=some (.int .i64 l[i]!.to_):=g1 1 _ rfl;have hil:i < l.length:=by rw[HLN.out];exact hi
   have hxi:=HIN.out l[i]! (by rw[getElem!_pos l i hil];exact List.getElem_mem hil)
   have hst:((l.take (i+1)).map spnT).flatten=((l.take i).map spnT).flatten++(intT l[i]!.frm++intT l[i]!.to_):=by
    rw[List.take_succ_eq_append_getElem hil,List.map_append,List.flatten_append,getElem!_pos l i hil];simp[spnT]
   have hln:=Ksg (l.take i);obtain ⟨x,hx⟩:∃x,l[i]! = x:=⟨_,rfl⟩;rw[hx] at p0 p1 hxi hst;obtain ⟨xa,xb⟩:=x;unfold SpnIn at hxi;dsimp only at p0 p1 hxi hst;obtain ⟨hx1,hx2,hx3,hx4⟩:=hxi;obtain ⟨T,hT⟩:∃T,uintT n++((l.take i).map spnT).flatten=T:=⟨_,rfl⟩
   have hTl:T.length≤11+22*n:=by
    rw[←hT,List.length_append];have h1:=(Kam n).2;have h2:(l.take i).length≤n:=by rw[List.length_take];omega
    omega
   have HST:Hid (uintT n++((l.take (i+1)).map spnT).flatten=T++intT xa++intT xb):=Jh (by rw[hst,←hT];simp only[List.append_assoc]);rw[hT] at HLD;have hBo:b≤wo.heap.size:=by have:=HBR.out.size;have:=HBB.out;omega
   clear g1 hx hst hln hT;go_upto_region 7 with fail
   obtain ⟨w5,hw5⟩:∃y,wo.alloc (.cells #[.int .i64 xa,.int .i64 xb] 109)=y:=⟨_,rfl⟩;have hb5:Below wo.heap.size wo w5:=by rw[←hw5];exact (Below.refl _ _).alloc (Nat.le_refl _) _
   have hkq:Blk w5 wo.heap.size 109 #[.int .i64 xa,.int .i64 xb]:=by rw[←hw5];exact Blk.new _ _ _
   obtain ⟨q,hq⟩:∃y,wo.heap.size=y:=⟨_,rfl⟩;have HL5:=Jh (HLD.out.below hb5);have HB5:=Jh (HBR.out.trans (hb5.mono hBo));have hB5:b≤w5.heap.size:=Nat.le_trans hBo hb5.size;have hbq:b < q:=by rw[←hq];exact Bld.lt HLD.out
   rw[hq] at hkq;rw[hw5,hq];have HK5:=Jh hkq;have d0:=hkq.cell 0;simp at d0;clear hw5 hb5 hkq hq p0 p1 hBo;go_wp2_with fail
   refine (Kkx xa hx1 hx2 w5).mono ?_;rintro _ w6 ⟨rfl,hb6⟩;have HL6:=Jh (HL5.out.below hb6);have HB6:=Jh (HB5.out.trans (hb6.mono hB5));have HK6:=Jh (HK5.out.below hb6 HK5.out.lt);have hB6:b≤w6.heap.size:=Nat.le_trans hB5 hb6.size;have ha11:(intT xa).length≤11:=(Kam _).2;have hb11:(intT xb).length≤11:=(Kam _).2;clear hb6 d0;go_wp2_with fail
   refine (Kcv b b T ⟨(intT xa).toArray⟩ w6 HL6.out (by show T.length+(intT xa).toArray.size≤_;simp only[List.size_toArray];omega) hB6).mono ?_;rintro _ w7 ⟨rfl,h5,h6,h7⟩;have HL7:Hid (Bld b b (T++intT xa) w7):=Jh h5;have HB7:=Jh (HB6.out.trans h6);have hk7:=h7.blk HK6.out (by omega) (by decide);have HK7:=Jh hk7;have hB7:b≤w7.heap.size:=Nat.le_trans hB6 h6.size;have d1:=hk7.cell 1;simp at d1;clear h5 h6 h7 hk7;go_wp2_with fail
   refine (Kkx xb hx3 hx4 w7).mono ?_;rintro _ w8 ⟨rfl,hb8⟩;have HL8:=Jh (HL7.out.below hb8);have HB8:=Jh (HB7.out.trans (hb8.mono hB7));have hB8:b≤w8.heap.size:=Nat.le_trans hB7 hb8.size;clear hb8 d1;go_wp2_with fail
   refine (Kcv b b (T++intT xa) ⟨(intT xb).toArray⟩ w8 HL8.out (by show (T++intT xa).length+(intT xb).toArray.size≤_;rw[List.length_append];simp only[List.size_toArray];omega) hB8).mono ?_;rintro _ w9 ⟨rfl,h5,h6,h7⟩;have HL9:Hid (Bld b b (T++intT xa++intT xb) w9):=Jh h5;have HB9:=Jh (HB8.out.trans h6);clear h5 h6 h7;go_wp2_with fail
   go_roundg (gk - 1)
   case measure=>have:=HIG.out;omega
   case rel=>exact ⟨i+1,by have:=HIG.out;omega,by first | rfl | go_num,by rw[HST.out];exact HL9.out,HB9.out⟩
  ·have el:decide (i < n)=false:=by rw[decide_eq_false_iff_not];exact hi
   have hin2:i=n:=by have:=HIG.out;omega
   have htx:uintT n++((l.take i).map spnT).flatten=Kbl l:=by
    rw[hin2,←HLN.out,List.take_length];rfl
   rw[htx] at HLD;have hBo:b≤wo.heap.size:=by have:=HBR.out.size;have:=HBB.out;omega
   clear htx;go_wp2_with fail
   refine (Kfb b b (Kbl l) wo HLD.out hBo).mono ?_;rintro _ w9 ⟨rfl,hb9⟩;have HB9:=Jh (HB1.out.trans ((HBR.out.trans hb9).mono (by have:=HB1.out.size;have:=HBB.out;omega)));clear hb9;go_wp2_with fail
   go_ret
   exact ⟨rfl,HB9.out⟩
end
section
open Go.RowKit Go.Shelf Go.Sort
structure KHd where
 l:Hd
 g0:Hd
 g1:Hd
 g2:Hd
 s:Hd
instance:Inhabited KHd:=⟨⟨default,default,default,default,default⟩⟩
def kserV (h:KHd) (m:Int):Value:=.agg #[.slice h.l.A h.l.n h.l.c,.int .i64 m,.slice h.g0.A h.g0.n h.g0.c,.slice h.g1.A h.g1.n h.g1.c,.slice h.g2.A h.g2.n h.g2.c,.slice h.s.A h.s.n h.s.c]
structure KAt (w:World) (h:KHd) (s:KSer):Prop where
 l:Elems w w.heap.size 2 encLb h.l.A h.l.n s.labels
 lc:h.l.n≤h.l.c
 g0:Elems w w.heap.size 2 Kac h.g0.A h.g0.n s.g0
 g1:Elems w w.heap.size 2 Kac h.g1.A h.g1.n s.g1
 g2:Elems w w.heap.size 2 Kac h.g2.A h.g2.n s.g2
 s:Elems w w.heap.size 2 Kbw h.s.A h.s.n s.samples
 sc:h.s.n≤h.s.c
theorem KAt.below {w w':World} {h:KHd} {s:KSer} (hk:KAt w h s) (hb:Below w.heap.size w w'):KAt w' h s:=
 ⟨(hk.l.below hb).more hb.size,hk.lc,(hk.g0.below hb).more hb.size,(hk.g1.below hb).more hb.size,(hk.g2.below hb).more hb.size,(hk.s.below hb).more hb.size,hk.sc⟩
structure KSz (s:KSer):Prop where
 l:s.labels.length≤1099511627776
 z:∀x∈s.labels,x.n.length≤1099511627776∧x.v.length≤1099511627776
 m:-9223372036854775808≤s.max∧s.max≤9223372036854775807
 g:s.g0.length≤1099511627776∧s.g1.length≤1099511627776∧s.g2.length≤1099511627776
 i:(∀x∈s.g0,SpnIn x)∧(∀x∈s.g1,SpnIn x)∧(∀x∈s.g2,SpnIn x)
 n:s.samples.length≤1099511627776
 v:∀x∈s.samples,x.v < 2 ^ 64
def KSer.g (s:KSer) (i:Nat):List Spn:=match i with
 | 0=>s.g0
 | 1=>s.g1
 | _=>s.g2
def KHd.g (h:KHd) (i:Nat):Hd:=match i with
 | 0=>h.g0
 | 1=>h.g1
 | _=>h.g2
theorem KAt.g {w:World} {h:KHd} {s:KSer} (hk:KAt w h s) (i:Nat):Elems w w.heap.size 2 Kac (h.g i).A (h.g i).n (s.g i):=match i with
 | 0=>hk.g0
 | 1=>hk.g1
 | _+2=>hk.g2
theorem KSz.gi {s:KSer} (hs:KSz s) (i:Nat):(s.g i).length≤1099511627776∧∀x∈s.g i,SpnIn x:=match i with
 | 0=>⟨hs.g.1,hs.i.1⟩
 | 1=>⟨hs.g.2.1,hs.i.2.1⟩
 | _+2=>⟨hs.g.2.2,hs.i.2.2⟩
def sOk (m:Int) (l:List Smp) (i:Nat):Prop:=0≤l[i]!.t∧l[i]!.t≤m∧(0 < i→l[i - 1]!.t < l[i]!.t)
theorem Qix {m:Int} {l:List Smp}:((∀x∈l,0≤x.t∧x.t≤m)∧l.Pairwise fun a b=>a.t < b.t)↔∀i,i < l.length→sOk m l i:=by
 constructor
 ·rintro ⟨h1,h2⟩ i hi;have h3:=h1 l[i]! (by rw[getElem!_pos l i hi];exact List.getElem_mem hi);refine ⟨h3.1,h3.2,fun h0=>?_⟩;have:=List.pairwise_iff_getElem.1 h2 (i - 1) i (by omega) hi (by omega);rwa[getElem!_pos l (i - 1) (by omega),getElem!_pos l i hi]
 ·intro h;refine ⟨fun x hx=>?_,?_⟩
  ·obtain ⟨i,hi,rfl⟩:=List.getElem_of_mem hx;have:=h i hi;unfold sOk at this;rw[getElem!_pos l i hi] at this;exact ⟨this.1,this.2.1⟩
  ·rw[List.pairwise_iff_getElem];intro i j hi hj hij
   have key:∀d,∀(hd:i+d+1 < l.length),l[i].t < (l[i+d+1]'hd).t:=by
    intro d
    induction d with
    | zero=>
     intro hd;have:=(h (i+1) hd).2.2 (by omega);rwa[Nat.add_sub_cancel,getElem!_pos l i hi,getElem!_pos l (i+1) hd] at this
    | succ d ih=>
     intro hd;have h1:=ih (by omega);have:=(h (i+d+1+1) hd).2.2 (by omega);rw[Nat.add_sub_cancel,getElem!_pos l (i+d+1) (by omega),getElem!_pos l (i+d+1+1) hd] at this;have e:i+(d+1)+1=i+d+1+1:=by omega
     simp only[e];omega
   have:=key (j - i - 1) (by omega);have e:i+(j - i - 1)+1=j:=by omega
   simp only[e] at this;exact this
theorem Kkv {s:KSer}:Kcd s=true↔Kdf s.labels=true∧(-1≤s.max∧s.max≤1125899906842624)∧(∀i,i < 3→Kat (s.g i))∧∀i,i < s.samples.length→sOk s.max s.samples i:=by
 rw[Kfk,←Qix];constructor
 ·rintro ⟨h1,h2,h3,h4⟩;refine ⟨h1,h2,fun i hi=>?_,h4⟩
  match i,hi with
  | 0,_=>exact h3.1
  | 1,_=>exact h3.2.1
  | 2,_=>exact h3.2.2
 ·rintro ⟨h1,h2,h3,h4⟩;exact ⟨h1,h2,⟨h3 0 (by omega),h3 1 (by omega),h3 2 (by omega)⟩,h4⟩
end
section
open Go.RowKit
open Lib renaming hid → Jh
attribute [local go_sem ↓] Go.wp_at_zero Go.wp_at_succ
attribute [local go_sem] Later.cell
def i64V (v:Int):Value:=.int .i64 v
def Kdl (S:List UInt8) (c:Cst) (i:Nat):Option (Int×Cst×Nat):=match Kbs S i with
 | none=>none
 | some (v,j)=>some (v,c,j)
theorem Kept.two {w w1 w2:World} {a b:Nat} (h:Kept w.heap.size [a,b] w w1) (k:Kept w1.heap.size [a,b] w1 w2):Kept w.heap.size [a,b] w w2:=h.trans (k.mono h.size (fun _ _ h=>h))
theorem Kept.then_' {w w1 w2:World} {ex:List Nat} (h:Kept w.heap.size ex w w1) (k:Below w1.heap.size w1 w2):Kept w.heap.size ex w w2:=h.then_ k
theorem Kdd {s:List UInt8} {i n v j:Nat} (h:readN s i n=some (v,j)):v < 2 ^ n:=by
 unfold readN at h
 split at h
 ·injection h with h;injection h with h _;have:=Kma (Kcw s i n);rw[Kfi] at this;omega
 ·cases h
theorem Qkr (w:World):(Instr.field 297 (.agg #[.int .u64 2,.int .i64 2,.int .i64 7]) 2).run Tryz.prog w = .ok (.int .i64 7) w:=by kernel_rfl
theorem Qks (w:World):(Instr.field 297 (.agg #[.int .u64 6,.int .i64 3,.int .i64 9]) 2).run Tryz.prog w = .ok (.int .i64 9) w:=by kernel_rfl
theorem Qkt (w:World):(Instr.field 297 (.agg #[.int .u64 14,.int .i64 4,.int .i64 12]) 2).run Tryz.prog w = .ok (.int .i64 12) w:=by kernel_rfl
theorem Qku (w:World):(Instr.field 297 (.agg #[.int .u64 15,.int .i64 4,.int .i64 64]) 2).run Tryz.prog w = .ok (.int .i64 64) w:=by kernel_rfl
theorem Kul (rd rb i:Nat) (S:ByteArray) (c:Cst) (w:World) (h:RdrAt rd rb S i c w) (hS:S.size≤140737488351232) (hi:i≤8*S.size) :
  Calls Tryz.prog 245 #[.pointer (some ⟨rd,0,none⟩)] w (RdO rd rb S i64V w (Kdl S.data.toList c i)):=by
 have H:=Jh h;clear h;obtain ⟨M0,hM0⟩:∃M0,Keg S.data.toList 4 i=M0:=⟨_,rfl⟩;have HM0:=Jh hM0;clear hM0;go_enter Tryz.func245,Tryz.ntmps245
 go_upto_block 0 with fail
 go_cut [3] (fun s3 wx=>∃m j:Nat,M0=some (m,j)∧s3 = .int .i64 (m:Int)∧m≤4∧j≤8*S.size∧RdrAt rd rb S j c wx∧Kept w.heap.size [rd,rb] w wx)
 case first=>
  go_wp2_with fail
  go_loopg [3] 4 (fun g s3 wr=>∃m j:Nat,m+g=4∧s3 = .int .i64 (m:Int)∧j≤8*S.size∧RdrAt rd rb S j c wr∧Kept w.heap.size [rd,rb] w wr∧M0=(match Keg S.data.toList g j with | none=>none | some (k,j2)=>some (k+m,j2)))
  case atStart=>exact ⟨0,i,rfl,rfl,hi,H.out,Kept.refl _ _ _,by rw[HM0.out];cases M0 <;> rfl⟩
  case round=>
   obtain ⟨m,j,hm,rfl,hj,hr,hk,hmk⟩:=hrel;have HR:=Jh hr;have HK:=Jh hk;have HMK:=Jh hmk;clear hr hk hmk
   cases gk with
   | zero=>
    obtain rfl:m=4:=by omega
    have hmk:=HMK.out;rw[Keg] at hmk;go_wp2_with fail
    go_meet
    exact ⟨4,j,hmk,rfl,by decide,hj,HR.out,HK.out⟩
   | succ g=>
    have el:decide ((m:Int) < 4)=true:=by rw[decide_eq_true_eq];omega
    have HB:=Jh (Kbz rd rb j 1 S c wr HR.out (by decide) hS hj);obtain ⟨o,ho⟩:∃o,readN S.data.toList j 1=o:=⟨_,rfl⟩;have HO:=Jh ho;have hmk:=HMK.out;rw[Keg,ho] at hmk;unfold bitsR at HB;rw[ho] at HB;clear ho
    cases o with
    | none=>
     have HN:Hid (M0=none):=Jh hmk;clear hmk;go_wp2_with fail
     refine HB.out.mono ?_;rintro _ w2 ⟨⟨f,hf,rfl⟩,hk2⟩;unfold Kay;go_wp2_with fail
     refine Kae rfl ?_;unfold Kdl Kbs;rw[HM0.out,HN.out];exact ⟨⟨f,hf,rfl⟩,HK.out.two hk2⟩
    | some vj=>
     obtain ⟨v,j2⟩:=vj;dsimp only at hmk HB;go_wp2_with fail
     refine HB.out.mono ?_;rintro _ w2 ⟨rfl,hr2,hj2,hk2⟩;unfold u64V;have HR2:=Jh hr2;have HK2:=Jh (HK.out.two hk2);clear hr2 hk2
     by_cases hv:v=1
     ·subst hv;rw[if_pos rfl] at hmk;have HM:=Jh hmk;clear hmk;go_wp2_with fail
      go_roundg g
      case measure=>omega
      case rel=>
       refine ⟨m+1,j2,by omega,by go_num,hj2,HR2.out,HK2.out,?_⟩;rw[HM.out]
       cases Keg S.data.toList g j2 with
       | none=>rfl
       | some x=>dsimp only;rw[Nat.add_right_comm,Nat.add_assoc]
     ·rw[if_neg hv] at hmk;have HM:=Jh hmk;have e1:((v:Int) == 1)=false:=by simp;omega
      clear hmk;go_wp2_with fail
      go_meet
      exact ⟨m,j2,by rw[HM.out,Nat.zero_add],rfl,by omega,hj2,HR2.out,HK2.out⟩
 case rest=>
  obtain ⟨m,j,hmk,rfl,hm4,hj,hr,hk⟩:=hcut;have HR:=Jh hr;have HK:=Jh hk;have HMK:=Jh hmk;clear hr hk hmk;rcases (by omega:m=0∨m=1∨m=2∨m=3∨m=4) with rfl | rfl | rfl | rfl | rfl
  ·go_wp2_with fail
   go_ret
   unfold Kdl Kbs;rw[HM0.out,HMK.out];exact ⟨rfl,HR.out,hj,HK.out⟩
  ·have HB:=Jh (fun w2 (hb:Below wc.heap.size wc w2)=>Kbz rd rb j 7 S c w2 (HR.out.below hb) (by decide) hS hj);obtain ⟨o,ho⟩:∃o,readN S.data.toList j 7=o:=⟨_,rfl⟩;have HO:=Jh ho;unfold bitsR at HB;simp only[ho] at HB;clear ho;go_wp2_with fail
   refine (Kfa wc).mono ?_;rintro _ w2 ⟨rfl,hb2⟩;have i0:=size0;have i1:=Qkr;obtain ⟨vs,hvs⟩:∃vs,Kfp=vs:=⟨_,rfl⟩;rw[hvs] at i0;rw[show (Value.agg #[.int .u64 2,.int .i64 2,.int .i64 7,.int .u64 6,.int .i64 3,.int .i64 9,.int .u64 14,.int .i64 4,.int .i64 12,.int .u64 15,.int .i64 4,.int .i64 64])=vs from hvs];clear hvs;have HB2:=Jh (HB.out w2 hb2);have HK2:=Jh (HK.out.then_' hb2);clear hb2
   cases o with
   | none=>
    go_wp2_with fail
    refine HB2.out.mono ?_;rintro _ w3 ⟨⟨f,hf,rfl⟩,hk3⟩;unfold Kay;go_wp2_with fail
    refine Kae rfl ?_
    have hcr:Kbs S.data.toList i=none:=by
     unfold Kbs;rw[HM0.out,HMK.out];dsimp only;rw[show Kdp (0+1)=7 from rfl,HO.out]
    unfold Kdl;rw[hcr];exact ⟨⟨f,hf,rfl⟩,HK2.out.two hk3⟩
   | some vj=>
    obtain ⟨v,j2⟩:=vj;have hvl:v < 2 ^ 7:=Kdd HO.out;go_wp2_with fail
    refine HB2.out.mono ?_;rintro _ w3 ⟨rfl,hr3,hj3,hk3⟩;have HR3:=Jh hr3;have HK3:=Jh (HK2.out.two hk3);clear hr3 hk3;unfold u64V;go_wp2_with fail
    go_ret
    have hcr:Kbs S.data.toList i=some (signW 7 v,j2):=by
     unfold Kbs;rw[HM0.out,HMK.out];dsimp only;rw[show Kdp (0+1)=7 from rfl,HO.out]
    have hsg:wrap64 ((v:Int)*144115188075855872) / 144115188075855872=signW 7 v:=by
     simp at hvl;unfold signW wrap64;simp
     split <;> omega
    unfold Kdl;rw[hcr,hsg];exact ⟨rfl,HR3.out,hj3,HK3.out⟩
  ·have HB:=Jh (fun w2 (hb:Below wc.heap.size wc w2)=>Kbz rd rb j 9 S c w2 (HR.out.below hb) (by decide) hS hj);obtain ⟨o,ho⟩:∃o,readN S.data.toList j 9=o:=⟨_,rfl⟩;have HO:=Jh ho;unfold bitsR at HB;simp only[ho] at HB;clear ho;go_wp2_with fail
   refine (Kfa wc).mono ?_;rintro _ w2 ⟨rfl,hb2⟩;have i0:=size1;have i1:=Qks;obtain ⟨vs,hvs⟩:∃vs,Kfp=vs:=⟨_,rfl⟩;rw[hvs] at i0;rw[show (Value.agg #[.int .u64 2,.int .i64 2,.int .i64 7,.int .u64 6,.int .i64 3,.int .i64 9,.int .u64 14,.int .i64 4,.int .i64 12,.int .u64 15,.int .i64 4,.int .i64 64])=vs from hvs];clear hvs;have HB2:=Jh (HB.out w2 hb2);have HK2:=Jh (HK.out.then_' hb2);clear hb2
   cases o with
   | none=>
    go_wp2_with fail
    refine HB2.out.mono ?_;rintro _ w3 ⟨⟨f,hf,rfl⟩,hk3⟩;unfold Kay;go_wp2_with fail
    refine Kae rfl ?_
    have hcr:Kbs S.data.toList i=none:=by
     unfold Kbs;rw[HM0.out,HMK.out];dsimp only;rw[show Kdp (1+1)=9 from rfl,HO.out]
    unfold Kdl;rw[hcr];exact ⟨⟨f,hf,rfl⟩,HK2.out.two hk3⟩
   | some vj=>
    obtain ⟨v,j2⟩:=vj;have hvl:v < 2 ^ 9:=Kdd HO.out;go_wp2_with fail
    refine HB2.out.mono ?_;rintro _ w3 ⟨rfl,hr3,hj3,hk3⟩;have HR3:=Jh hr3;have HK3:=Jh (HK2.out.two hk3);clear hr3 hk3;unfold u64V;go_wp2_with fail
    go_ret
    have hcr:Kbs S.data.toList i=some (signW 9 v,j2):=by
     unfold Kbs;rw[HM0.out,HMK.out];dsimp only;rw[show Kdp (1+1)=9 from rfl,HO.out]
    have hsg:wrap64 ((v:Int)*36028797018963968) / 36028797018963968=signW 9 v:=by
     simp at hvl;unfold signW wrap64;simp
     split <;> omega
    unfold Kdl;rw[hcr,hsg];exact ⟨rfl,HR3.out,hj3,HK3.out⟩
  ·have HB:=Jh (fun w2 (hb:Below wc.heap.size wc w2)=>Kbz rd rb j 12 S c w2 (HR.out.below hb) (by decide) hS hj);obtain ⟨o,ho⟩:∃o,readN S.data.toList j 12=o:=⟨_,rfl⟩;have HO:=Jh ho;unfold bitsR at HB;simp only[ho] at HB;clear ho;go_wp2_with fail
   refine (Kfa wc).mono ?_;rintro _ w2 ⟨rfl,hb2⟩;have i0:=size2;have i1:=Qkt;obtain ⟨vs,hvs⟩:∃vs,Kfp=vs:=⟨_,rfl⟩;rw[hvs] at i0;rw[show (Value.agg #[.int .u64 2,.int .i64 2,.int .i64 7,.int .u64 6,.int .i64 3,.int .i64 9,.int .u64 14,.int .i64 4,.int .i64 12,.int .u64 15,.int .i64 4,.int .i64 64])=vs from hvs];clear hvs;have HB2:=Jh (HB.out w2 hb2);have HK2:=Jh (HK.out.then_' hb2);clear hb2
   cases o with
   | none=>
    go_wp2_with fail
    refine HB2.out.mono ?_;rintro _ w3 ⟨⟨f,hf,rfl⟩,hk3⟩;unfold Kay;go_wp2_with fail
    refine Kae rfl ?_
    have hcr:Kbs S.data.toList i=none:=by
     unfold Kbs;rw[HM0.out,HMK.out];dsimp only;rw[show Kdp (2+1)=12 from rfl,HO.out]
    unfold Kdl;rw[hcr];exact ⟨⟨f,hf,rfl⟩,HK2.out.two hk3⟩
   | some vj=>
    obtain ⟨v,j2⟩:=vj;have hvl:v < 2 ^ 12:=Kdd HO.out;go_wp2_with fail
    refine HB2.out.mono ?_;rintro _ w3 ⟨rfl,hr3,hj3,hk3⟩;have HR3:=Jh hr3;have HK3:=Jh (HK2.out.two hk3);clear hr3 hk3;unfold u64V;go_wp2_with fail
    go_ret
    have hcr:Kbs S.data.toList i=some (signW 12 v,j2):=by
     unfold Kbs;rw[HM0.out,HMK.out];dsimp only;rw[show Kdp (2+1)=12 from rfl,HO.out]
    have hsg:wrap64 ((v:Int)*4503599627370496) / 4503599627370496=signW 12 v:=by
     simp at hvl;unfold signW wrap64;simp
     split <;> omega
    unfold Kdl;rw[hcr,hsg];exact ⟨rfl,HR3.out,hj3,HK3.out⟩
  ·have HB:=Jh (fun w2 (hb:Below wc.heap.size wc w2)=>Kbz rd rb j 64 S c w2 (HR.out.below hb) (by decide) hS hj);obtain ⟨o,ho⟩:∃o,readN S.data.toList j 64=o:=⟨_,rfl⟩;have HO:=Jh ho;unfold bitsR at HB;simp only[ho] at HB;clear ho;go_wp2_with fail
   refine (Kfa wc).mono ?_;rintro _ w2 ⟨rfl,hb2⟩;have i0:=size3;have i1:=Qku;obtain ⟨vs,hvs⟩:∃vs,Kfp=vs:=⟨_,rfl⟩;rw[hvs] at i0;rw[show (Value.agg #[.int .u64 2,.int .i64 2,.int .i64 7,.int .u64 6,.int .i64 3,.int .i64 9,.int .u64 14,.int .i64 4,.int .i64 12,.int .u64 15,.int .i64 4,.int .i64 64])=vs from hvs];clear hvs;have HB2:=Jh (HB.out w2 hb2);have HK2:=Jh (HK.out.then_' hb2);clear hb2
   cases o with
   | none=>
    go_wp2_with fail
    refine HB2.out.mono ?_;rintro _ w3 ⟨⟨f,hf,rfl⟩,hk3⟩;unfold Kay;go_wp2_with fail
    refine Kae rfl ?_
    have hcr:Kbs S.data.toList i=none:=by
     unfold Kbs;rw[HM0.out,HMK.out];dsimp only;rw[show Kdp (3+1)=64 from rfl,HO.out]
    unfold Kdl;rw[hcr];exact ⟨⟨f,hf,rfl⟩,HK2.out.two hk3⟩
   | some vj=>
    obtain ⟨v,j2⟩:=vj;have hvl:v < 2 ^ 64:=Kdd HO.out;go_wp2_with fail
    refine HB2.out.mono ?_;rintro _ w3 ⟨rfl,hr3,hj3,hk3⟩;have HR3:=Jh hr3;have HK3:=Jh (HK2.out.two hk3);clear hr3 hk3;unfold u64V;go_wp2_with fail
    go_ret
    have hcr:Kbs S.data.toList i=some (signW 64 v,j2):=by
     unfold Kbs;rw[HM0.out,HMK.out];dsimp only;rw[show Kdp (3+1)=64 from rfl,HO.out]
    have hsg:wrap64 (v:Int)=signW 64 v:=by
     simp at hvl;unfold signW wrap64;simp
     split <;> omega
    unfold Kdl;rw[hcr,hsg];exact ⟨rfl,HR3.out,hj3,HK3.out⟩
end
section
open Go.RowKit
theorem Oper.wp_faults {P:Program} {Q:Exit→Act→World→Prop} {o:Oper} {a:Act} {w w1:World} {g:FuncId} {args:Array Value} {K:Act→World→Prop} (h:(execOp a.eval o).run P w = .ok (.enter g args) w1) {N:List PanicEntry→World→Prop}
  (hc:Calls P g args w1 fun e w'=>∃u,e = .panicked u∧N u w') (hK:∀u w',N u w'→Q (.panic u) a w'):OpW o P a w K Q:=.of <| by
 unfold Oper.wp;rw[h];refine Calls.mono hc ?_;rintro e w' ⟨u,rfl,hn⟩;exact hK u w' hn
end
section
open Go.RowKit
open Lib renaming hid → Jh
open List renaming setIfInBounds_toArray → Ja, set_cons_zero → Jb, set_cons_succ → Jc
attribute [local go_sem ↓] Go.wp_at_zero Go.wp_at_succ
attribute [local go_sem] Later.cell
theorem RdrAt.cells {rd rb:Nat} {S:ByteArray} {i:Nat} {c:Cst} {w:World} (h:RdrAt rd rb S i c w) :
  w.cell? ⟨rd,3,none⟩=some (.int .i64 (c.n:Int))∧w.cell? ⟨rd,4,none⟩=some (.int .i64 c.last.t)∧w.cell? ⟨rd,5,none⟩=some (.int .u64 (c.last.v:Int))∧w.cell? ⟨rd,6,none⟩=some (.int .i64 c.step)∧
  w.cell? ⟨rd,7,none⟩=some (.int .i64 (c.lead:Int))∧w.cell? ⟨rd,8,none⟩=some (.int .i64 (c.tail:Int))∧w.cell? ⟨rd,9,none⟩=some (.bool c.window)∧∀i,w.frozen? ⟨rd,i,none⟩=false:=
 ⟨h.r.cell 3,h.r.cell 4,h.r.cell 5,h.r.cell 6,h.r.cell 7,h.r.cell 8,h.r.cell 9,h.r.frozen⟩
theorem RdrAt.put {rd rb:Nat} {S:ByteArray} {i:Nat} {c:Cst} {w:World} (h:RdrAt rd rb S i c w) (k:Nat) (u:Value) (c':Cst) (hc:(restC c).set k u=restC c'):RdrAt rd rb S i c' (w.setCell ⟨rd,k+3,none⟩ u):=by
 refine ⟨?_,h.b.far (p:=⟨rd,k+3,none⟩) (fun e=>h.ne e.symm) _⟩;have:=h.r.set_ (k+3) u;rw[←hc];simpa using this
theorem Kept.of_drew {B:Nat} {ex:List Nat} {w w':World} (h:Kept B ex w.drew w'):Kept B ex w w':=⟨h.os,h.tape,h.output,h.size,h.block⟩
theorem Qfj {S:List UInt8} {i v j:Nat} (h:readN S i 1=some (v,j)):v=0∨v=1:=by
 have:=Kdd h;omega
theorem Kus (rd rb i:Nat) (S:ByteArray) (c:Cst) (w:World) (h:RdrAt rd rb S i c w) (hc:c.Ok) (hS_:S.size≤140737488351232) (hi:i≤8*S.size) :
  Calls Tryz.prog 247 #[.pointer (some ⟨rd,0,none⟩)] w (RdO rd rb S u64V w (Kbc c S.data.toList i)):=by
 have H:=Jh h;clear h;obtain ⟨r1,hr1⟩:∃r1,readN S.data.toList i 1=r1:=⟨_,rfl⟩;have HB1:=Jh (Kbz rd rb i 1 S c w H.out (by decide) hS_ hi);unfold bitsR at HB1;rw[hr1] at HB1;have HR1:=Jh hr1;clear hr1
 cases r1 with
 | none=>
  go_enter Tryz.func247,Tryz.ntmps247
  go_wp2_with fail
  refine HB1.out.mono ?_;rintro _ w2 ⟨⟨f,hf,rfl⟩,hk2⟩;unfold Kay;go_wp2_with fail
  refine Kae rfl ?_;unfold Kbc;rw[HR1.out];exact ⟨⟨f,hf,rfl⟩,hk2⟩
 | some vj=>
  obtain ⟨v1,i1⟩:=vj;have h01:=Qfj HR1.out;dsimp only at HB1;go_enter Tryz.func247,Tryz.ntmps247
  go_wp2_with fail
  refine HB1.out.mono ?_;rintro _ w2 ⟨rfl,hq2,hi1,hk2⟩;have HQ2:=Jh hq2;have HK2:=Jh hk2;clear hq2 hk2;unfold u64V;rcases h01 with rfl | rfl
  ·go_wp2_with fail
   go_ret
   unfold Kbc;rw[HR1.out];exact ⟨rfl,HQ2.out,hi1,HK2.out⟩
  ·obtain ⟨r2,hr2⟩:∃r2,readN S.data.toList i1 1=r2:=⟨_,rfl⟩;have HB2:=Jh (Kbz rd rb i1 1 S c w2 HQ2.out (by decide) hS_ hi1);unfold bitsR at HB2;rw[hr2] at HB2;have HR2:=Jh hr2;clear hr2
   cases r2 with
   | none=>
    go_wp2_with fail
    refine HB2.out.mono ?_;rintro _ w3 ⟨⟨f,hf,rfl⟩,hk3⟩;unfold Kay;go_wp2_with fail
    refine Kae rfl ?_;unfold Kbc;rw[HR1.out];dsimp only;rw[HR2.out];exact ⟨⟨f,hf,rfl⟩,HK2.out.two hk3⟩
   | some vj=>
    obtain ⟨v2,i2⟩:=vj;have h02:=Qfj HR2.out;dsimp only at HB2;go_wp2_with fail
    refine HB2.out.mono ?_;rintro _ w3 ⟨rfl,hq3,hi2,hk3⟩;have HQ3:=Jh hq3;have HK3:=Jh (HK2.out.two hk3);clear hq3 hk3;unfold u64V;rcases h02 with rfl | rfl
    ·have hcc:=HQ3.out.cells;have c7:=hcc.2.2.2.2.1;have c8:=hcc.2.2.2.2.2.1;have c9:=hcc.2.2.2.2.2.2.1;clear hcc;have ge0:decide ((0:Int)≤(c.tail:Int))=true:=by rw[decide_eq_true_eq];omega
     cases hw:c.window with
     | false=>
      rw[hw] at c9;go_wp2_with fail
      refine (Keo _ 21 w3).mono ?_;rintro _ _ ⟨rfl,rfl⟩;unfold Kay;go_wp2_with fail
      refine Kae rfl ?_
      have hd:Kbc c S.data.toList i=none:=by
       unfold Kbc;rw[HR1.out];dsimp only;rw[HR2.out];dsimp only;rw[if_neg (by simp[hw])]
      rw[hd];exact ⟨⟨21,by decide,rfl⟩,HK3.out⟩
     | true=>
      rw[hw] at c9;have ho:=hc.2;go_wp2_with fail
      refine (Kfd _ 21 w3).mono ?_;rintro _ _ ⟨rfl,rfl⟩;obtain ⟨n,hn⟩:∃n,64 - c.lead - c.tail=n:=⟨_,rfl⟩;have e1:wrap64 (64 - (c.lead:Int) - (c.tail:Int))=(n:Int):=by unfold wrap64;omega
      have e2:(64:Int) - (c.lead:Int) - (c.tail:Int)=(n:Int):=by omega
      obtain ⟨r3,hr3⟩:∃r3,readN S.data.toList i2 n=r3:=⟨_,rfl⟩;have HB3:=Jh (fun w' (hb:RdrAt rd rb S i2 c w')=>Kbz rd rb i2 n S c w' hb (by omega) hS_ hi2);unfold bitsR at HB3;simp only[hr3] at HB3;have HR3:=Jh hr3;have HN:=Jh hn;clear hr3 hn;have e9:IntKind.i64.wrap (IntKind.i64.wrap (64 - (c.lead:Int)) - (c.tail:Int))=(n:Int):=by rw[IntKind.wrap_i64,IntKind.wrap_i64];omega
      have htl:c.tail < 64:=by omega
      have hlc:c.lead≤63:=by omega
      go_upto_region 8 with fail
      have hS:w3.drew.cell? ⟨rd,7,none⟩=some (.int .i64 (c.lead:Int))∧w3.drew.cell? ⟨rd,8,none⟩=some (.int .i64 (c.tail:Int)):=⟨c7,c8⟩;refine Kca (fun w'=>w'.cell? ⟨rd,7,none⟩=some (.int .i64 (c.lead:Int))∧w'.cell? ⟨rd,8,none⟩=some (.int .i64 (c.tail:Int))) 17 18 (by kernel_rfl) rfl ?_;rw[show Array.replicate 18 false = #[false,false,false,false,false,false,false,false,false,false,false,false,false,false,false,false,false,false] from rfl];refine Kaa (i:=0) (d:=some 47) rfl rfl (by kernel_rfl) (by kernel_rfl) (by kernel_rfl) rfl (fun _ _ _ h=>h) (by rfl) (fun w=>by go_simp;try rfl) (fun _=>hS) ?_;simp only[Act.put,Ja,Jb,Jc];refine Kaa (i:=1) (d:=some 48) rfl rfl (by kernel_rfl) (by kernel_rfl) (by kernel_rfl) rfl (fun _ _ _ h=>h) (by rfl) (fun w=>by go_simp;try rfl) (fun _=>hS) ?_;simp only[Act.put,Ja,Jb,Jc];refine Kaa (i:=2) (d:=some 49) rfl rfl (by kernel_rfl) (by kernel_rfl) (by kernel_rfl) rfl (fun _ _ _ h=>h) (by rfl) (fun w=>by go_simp;try rfl) (fun _=>hS) ?_;simp only[Act.put,Ja,Jb,Jc];refine Kaa (i:=3) (d:=some 50) rfl rfl (by kernel_rfl) (by kernel_rfl) (by kernel_rfl) rfl (fun _ _ _ h=>h) (by rfl) (fun w=>by go_simp;try rfl) (fun _=>hS) ?_;simp only[Act.put,Ja,Jb,Jc];refine Kap (i:=4) (d:=some 51) rfl rfl (by kernel_rfl) (by kernel_rfl) (by kernel_rfl) (by kernel_rfl) rfl (fun _ _ _ h=>h) (.inl ⟨by rfl,fun w hw=>by (obtain ⟨ha,hb⟩:=hw;go_simp;try rfl)⟩) hS ?_;simp only[Act.put,Ja,Jb,Jc];refine Kaa (i:=5) (d:=some 52) rfl rfl (by kernel_rfl) (by kernel_rfl) (by kernel_rfl) rfl (fun _ _ _ h=>h) (by rfl) (fun w=>by go_simp;try rfl) (fun _=>hS) ?_;simp only[Act.put,Ja,Jb,Jc];refine Kaa (i:=6) (d:=some 53) rfl rfl (by kernel_rfl) (by kernel_rfl) (by kernel_rfl) rfl (fun _ _ _ h=>h) (by rfl) (fun w=>by go_simp;try rfl) (fun _=>hS) ?_;simp only[Act.put,Ja,Jb,Jc];refine Kaa (i:=7) (d:=some 54) rfl rfl (by kernel_rfl) (by kernel_rfl) (by kernel_rfl) rfl (fun _ _ _ h=>h) (by rfl) (fun w=>by go_simp;try rfl) (fun _=>hS) ?_;simp only[Act.put,Ja,Jb,Jc];refine Kaa (i:=8) (d:=some 55) rfl rfl (by kernel_rfl) (by kernel_rfl) (by kernel_rfl) rfl (fun _ _ _ h=>h) (by rfl) (fun w=>by go_simp;try rfl) (fun _=>hS) ?_;simp only[Act.put,Ja,Jb,Jc];refine Kap (i:=9) (d:=some 56) rfl rfl (by kernel_rfl) (by kernel_rfl) (by kernel_rfl) (by kernel_rfl) rfl (fun _ _ _ h=>h) (.inl ⟨by rfl,fun w hw=>by (obtain ⟨ha,hb⟩:=hw;go_simp;try rfl)⟩) hS ?_;simp only[Act.put,Ja,Jb,Jc];refine Kaa (i:=10) (d:=some 57) rfl rfl (by kernel_rfl) (by kernel_rfl) (by kernel_rfl) rfl (fun _ _ _ h=>h) (by rfl) (fun w=>by go_simp;try rfl) (fun _=>hS) ?_;simp only[Act.put,Ja,Jb,Jc];refine Kaa (i:=12) (d:=some 59) rfl rfl (by kernel_rfl) (by kernel_rfl) (by kernel_rfl) rfl (fun _ _ _ h=>h) (by rfl) (fun w=>by go_simp;try rfl) (fun _=>hS) ?_;simp only[Act.put,Ja,Jb,Jc];refine Kaa (i:=13) (d:=some 60) rfl rfl (by kernel_rfl) (by kernel_rfl) (by kernel_rfl) rfl (fun _ _ _ h=>h) (by rfl) (fun w=>by go_simp;try rfl) (fun _=>hS) ?_;simp only[Act.put,Ja,Jb,Jc]
      refine Kaa (i:=14) (d:=some 61) rfl rfl (by kernel_rfl) (by kernel_rfl) (by kernel_rfl) rfl (fun _ _ _ h=>h) (by rfl) (fun w=>by go_simp;try rfl) (fun _=>hS) ?_;simp only[Act.put,Ja,Jb,Jc];refine Kap (i:=15) (d:=some 62) rfl rfl (by kernel_rfl) (by kernel_rfl) (by kernel_rfl) (by kernel_rfl) rfl (fun _ _ _ h=>h) (.inl ⟨by rfl,fun w hw=>by (obtain ⟨ha,hb⟩:=hw;go_simp;try rfl)⟩) hS ?_;simp only[Act.put,Ja,Jb,Jc];refine Kai (i:=11) (by kernel_rfl) rfl rfl ?_
      cases r3 with
      | none=>
       refine Oper.wp_faults (w1:=w3.drew) (g:=244) (args:=#[.pointer (some ⟨rd,0,none⟩),.int .i64 (n:Int)]) (by go_simp) (N:=fun u w'=>(∃f,f≠0∧Ending.panicked u=Kay f)∧Kept w3.heap.size [rd,rb] w3 w') ((HB3.out w3.drew ⟨HQ3.out.r,HQ3.out.b⟩).mono ?_) ?_
       ·rintro _ w4 ⟨⟨f,hf,rfl⟩,hk4⟩;exact ⟨_,rfl,⟨f,hf,rfl⟩,hk4.of_drew⟩
       ·rintro u w4 ⟨hfu,hk4⟩;simp only[Exit.then];refine Kae rfl ?_
        have hd:Kbc c S.data.toList i=none:=by
         unfold Kbc;rw[HR1.out];dsimp only;rw[HR2.out];dsimp only;rw[if_pos hw,HN.out,HR3.out]
        rw[hd];exact ⟨hfu,HK3.out.two hk4⟩
      | some vj=>
       obtain ⟨v3,i3⟩:=vj;have hvn:=Kdd HR3.out;refine Oper.wp_called (d:=some 58) (w1:=w3.drew) (g:=244) (args:=#[.pointer (some ⟨rd,0,none⟩),.int .i64 (n:Int)]) rfl (by go_simp) (N:=fun u w'=>u = .int .u64 (v3:Int)∧RdrAt rd rb S i3 c w'∧i3≤8*S.size∧Kept w3.heap.size [rd,rb] w3 w') ((HB3.out w3.drew ⟨HQ3.out.r,HQ3.out.b⟩).mono ?_) ?_
       ·rintro _ w4 ⟨rfl,hq4,hi4,hk4⟩;exact ⟨_,rfl,rfl,hq4,hi4,hk4.of_drew⟩
       ·rintro _ w4 ⟨rfl,hq4,hi4,hk4⟩;refine ⟨fun _=>⟨hq4.cells.2.2.2.2.1,hq4.cells.2.2.2.2.2.1⟩,?_⟩;simp only[Act.put,Ja,Jb,Jc]
        have hd:Kbc c S.data.toList i=some (v3 <<< c.tail,c,i3):=by
         unfold Kbc;rw[HR1.out];dsimp only;rw[HR2.out];dsimp only;rw[if_pos hw,HN.out,HR3.out]
        have hlt:v3 <<< c.tail < 2 ^ 64:=(Kgx hc hd).1;have hsz:(v3:Int)*(2:Int) ^ c.tail=((v3 <<< c.tail:Nat):Int):=by rw[Nat.shiftLeft_eq];simp
        obtain ⟨Z,hZ⟩:∃Z,v3 <<< c.tail=Z:=⟨_,rfl⟩;rw[hZ] at hsz hd hlt
        have hsh:IntKind.u64.wrap ((v3:Int)*(2:Int) ^ c.tail)=(Z:Int):=by
         rw[hsz];exact Kes _ (by omega) (by omega)
        clear hZ hlt hsz;refine Kai (i:=16) (by kernel_rfl) rfl rfl ?_;refine Oper.wp_ran (d:=some 63) (w':=w4) (v:=.int .u64 (Z:Int)) rfl (by go_simp;try rfl) ⟨fun _=>⟨hq4.cells.2.2.2.2.1,hq4.cells.2.2.2.2.2.1⟩,?_⟩;simp only[Act.put,Ja,Jb,Jc];refine Kcm (i:=17) (by kernel_rfl) rfl rfl (by kernel_rfl) ?_;refine Oper.wp_ran (d:=some 2) (w':=w4) (v:=.int .u64 (Z:Int)) rfl (by go_simp;try rfl) ?_;simp only[Act.put,Ja,Jb,Jc];refine Kau (by kernel_rfl) ?_ _;clear c7 c8 c9 hS;go_wp2_with fail
        go_ret
        exact ⟨rfl,hq4,hi4,HK3.out.two hk4⟩
    ·obtain ⟨r5,hr5⟩:∃r5,readN S.data.toList i2 5=r5:=⟨_,rfl⟩;have HB5:=Jh (Kbz rd rb i2 5 S c w3 HQ3.out (by decide) hS_ hi2);unfold bitsR at HB5;rw[hr5] at HB5;have HR5:=Jh hr5;clear hr5
     cases r5 with
     | none=>
      go_wp2_with fail
      refine HB5.out.mono ?_;rintro _ w4 ⟨⟨f,hf,rfl⟩,hk4⟩;unfold Kay;go_wp2_with fail
      refine Kae rfl ?_
      have hd:Kbc c S.data.toList i=none:=by
       unfold Kbc;rw[HR1.out];dsimp only;rw[HR2.out];dsimp only;rw[HR5.out]
      rw[hd];exact ⟨⟨f,hf,rfl⟩,HK3.out.two hk4⟩
     | some vj=>
      obtain ⟨ld,i4⟩:=vj;dsimp only at HB5;have hld:ld < 2 ^ 5:=Kdd HR5.out;go_wp2_with fail
      refine HB5.out.mono ?_;rintro _ w4 ⟨rfl,hq4,hi4,hk4⟩;have hcc:=hq4.cells;have c7:=hcc.2.2.2.2.1;have c9:=hcc.2.2.2.2.2.2.1;have z7:=hcc.2.2.2.2.2.2.2 7;have z9:=hcc.2.2.2.2.2.2.2 9
      have hq5:RdrAt rd rb S i4 { c with lead:=ld,window:=true } ((w4.setCell ⟨rd,7,none⟩ (.int .i64 (ld:Int))).setCell ⟨rd,9,none⟩ (.bool true)):=
       (hq4.put 4 (.int .i64 (ld:Int)) { c with lead:=ld } rfl).put 6 (.bool true) { c with lead:=ld,window:=true } rfl
      have hk5:Kept w.heap.size [rd,rb] w ((w4.setCell ⟨rd,7,none⟩ (.int .i64 (ld:Int))).setCell ⟨rd,9,none⟩ (.bool true)):=
       ((HK3.out.two hk4).setCell (p:=⟨rd,7,none⟩) (.inl (by simp)) _).setCell (p:=⟨rd,9,none⟩) (.inl (by simp)) _
      have HQ5:=Jh hq5;have HK5:=Jh hk5;clear hcc hq4 hk4 hq5 hk5;unfold u64V;go_upto_region 6 with fail
      obtain ⟨w5,hw5⟩:∃w5,((w4.setCell ⟨rd,7,none⟩ (.int .i64 (ld:Int))).setCell ⟨rd,9,none⟩ (.bool true))=w5:=⟨_,rfl⟩;rw[hw5] at HQ5 HK5;rw[hw5];clear hw5 c7 c9 z7 z9;obtain ⟨r6,hr6⟩:∃r6,readN S.data.toList i4 6=r6:=⟨_,rfl⟩;have HB6:=Jh (Kbz rd rb i4 6 S _ w5.drew ⟨HQ5.out.r,HQ5.out.b⟩ (by decide) hS_ hi4);unfold bitsR at HB6;rw[hr6] at HB6;have HR6:=Jh hr6;clear hr6;have c7:w5.cell? ⟨rd,7,none⟩=some (.int .i64 (ld:Int)):=HQ5.out.cells.2.2.2.2.1;have hS:w5.drew.cell? ⟨rd,7,none⟩=some (.int .i64 (ld:Int))∧True:=⟨c7,trivial⟩;refine Kca (fun w'=>w'.cell? ⟨rd,7,none⟩=some (.int .i64 (ld:Int))∧True) 10 13 (by kernel_rfl) rfl ?_;rw[show Array.replicate 13 false = #[false,false,false,false,false,false,false,false,false,false,false,false,false] from rfl];refine Kaa (i:=0) (d:=some 22) rfl rfl (by kernel_rfl) (by kernel_rfl) (by kernel_rfl) rfl (fun _ _ _ h=>h) (by rfl) (fun w=>by go_simp;try rfl) (fun _=>hS) ?_;simp only[Act.put,Ja,Jb,Jc];refine Kaa (i:=1) (d:=some 23) rfl rfl (by kernel_rfl) (by kernel_rfl) (by kernel_rfl) rfl (fun _ _ _ h=>h) (by rfl) (fun w=>by go_simp;try rfl) (fun _=>hS) ?_;simp only[Act.put,Ja,Jb,Jc];refine Kaa (i:=2) (d:=some 24) rfl rfl (by kernel_rfl) (by kernel_rfl) (by kernel_rfl) rfl (fun _ _ _ h=>h) (by rfl) (fun w=>by go_simp;try rfl) (fun _=>hS) ?_;simp only[Act.put,Ja,Jb,Jc];refine Kaa (i:=3) (d:=some 25) rfl rfl (by kernel_rfl) (by kernel_rfl) (by kernel_rfl) rfl (fun _ _ _ h=>h) (by rfl) (fun w=>by go_simp;try rfl) (fun _=>hS) ?_;simp only[Act.put,Ja,Jb,Jc];refine Kap (i:=4) (d:=some 26) rfl rfl (by kernel_rfl) (by kernel_rfl) (by kernel_rfl) (by kernel_rfl) rfl (fun _ _ _ h=>h) (.inl ⟨by rfl,fun w hw=>by (obtain ⟨ha,hb⟩:=hw;go_simp;try rfl)⟩) hS ?_;simp only[Act.put,Ja,Jb,Jc];refine Kaa (i:=5) (d:=some 27) rfl rfl (by kernel_rfl) (by kernel_rfl) (by kernel_rfl) rfl (fun _ _ _ h=>h) (by rfl) (fun w=>by go_simp;try rfl) (fun _=>hS) ?_;simp only[Act.put,Ja,Jb,Jc];refine Kaa (i:=6) (d:=some 28) rfl rfl (by kernel_rfl) (by kernel_rfl) (by kernel_rfl) rfl (fun _ _ _ h=>h) (by rfl) (fun w=>by go_simp;try rfl) (fun _=>hS) ?_;simp only[Act.put,Ja,Jb,Jc];refine Kai (i:=7) (by kernel_rfl) rfl rfl ?_
      cases r6 with
      | none=>
       refine Oper.wp_faults (w1:=w5.drew) (g:=244) (args:=#[.pointer (some ⟨rd,0,none⟩),.int .i64 6]) (by go_simp;try rfl) (N:=fun u w'=>(∃f,f≠0∧Ending.panicked u=Kay f)∧Kept w5.heap.size [rd,rb] w5 w') (HB6.out.mono ?_) ?_
       ·rintro _ w6 ⟨⟨f,hf,rfl⟩,hk6⟩;exact ⟨_,rfl,⟨f,hf,rfl⟩,hk6.of_drew⟩
       ·rintro u w6 ⟨hfu,hk6⟩;simp only[Exit.then];refine Kae rfl ?_
        have hd:Kbc c S.data.toList i=none:=by
         unfold Kbc;rw[HR1.out];dsimp only;rw[HR2.out];dsimp only;rw[HR5.out];dsimp only;rw[HR6.out]
        rw[hd];exact ⟨hfu,HK5.out.two hk6⟩
      | some vj=>
       obtain ⟨k,i6⟩:=vj;have hkl:k < 2 ^ 6:=Kdd HR6.out;refine Oper.wp_called (d:=some 29) (w1:=w5.drew) (g:=244) (args:=#[.pointer (some ⟨rd,0,none⟩),.int .i64 6]) rfl (by go_simp;try rfl) (N:=fun u w'=>u = .int .u64 (k:Int)∧RdrAt rd rb S i6 { c with lead:=ld,window:=true } w'∧i6≤8*S.size∧Kept w5.heap.size [rd,rb] w5 w') (HB6.out.mono ?_) ?_
       ·rintro _ w6 ⟨rfl,hq6,hi6,hk6⟩;exact ⟨_,rfl,rfl,hq6,hi6,hk6.of_drew⟩
       ·rintro _ w6 ⟨rfl,hq6,hi6,hk6⟩;have d7:w6.cell? ⟨rd,7,none⟩=some (.int .i64 (ld:Int)):=hq6.cells.2.2.2.2.1;have d8:=hq6.cells.2.2.2.2.2.1;have z8:=hq6.cells.2.2.2.2.2.2.2 8;have HQ6:=Jh hq6;have HK6:=Jh (HK5.out.two hk6);clear hq6 hk6;refine ⟨fun _=>⟨d7,trivial⟩,?_⟩;simp only[Act.put,Ja,Jb,Jc];have hkw:IntKind.i64.wrap (k:Int)=(k:Int):=by rw[IntKind.wrap_i64];omega
        have hw63:IntKind.i64.wrap (63 - (ld:Int))=63 - (ld:Int):=by rw[IntKind.wrap_i64];omega
        have hwk:IntKind.i64.wrap (63 - (ld:Int) - (k:Int))=63 - (ld:Int) - (k:Int):=by rw[IntKind.wrap_i64];omega
        refine Kai (i:=8) (by kernel_rfl) rfl rfl ?_;refine Oper.wp_ran (d:=some 30) (w':=w6) (v:=.int .i64 (k:Int)) rfl (by go_simp;try rfl) ⟨fun _=>⟨d7,trivial⟩,?_⟩;simp only[Act.put,Ja,Jb,Jc];refine Kai (i:=9) (by kernel_rfl) rfl rfl ?_;refine Oper.wp_ran (d:=some 31) (w':=w6) (v:=.int .i64 (63 - (ld:Int) - (k:Int))) rfl (by go_simp;try rfl) ⟨fun _=>⟨d7,trivial⟩,?_⟩;simp only[Act.put,Ja,Jb,Jc];refine Kcm (i:=10) (by kernel_rfl) rfl rfl (by kernel_rfl) ?_;refine Oper.wp_ran (d:=some 32) (w':=w6) (v:=.pointer (some ⟨rd,1,none⟩)) rfl (by go_simp;try rfl) ?_;simp only[Act.put,Ja,Jb,Jc];refine Kcm (i:=11) (by kernel_rfl) rfl rfl (by kernel_rfl) ?_;refine Oper.wp_ran (d:=some 33) (w':=w6) (v:=.pointer (some ⟨rd,8,none⟩)) rfl (by go_simp;try rfl) ?_;simp only[Act.put,Ja,Jb,Jc];refine Kcm (i:=12) (by kernel_rfl) rfl rfl (by kernel_rfl) ?_;refine Oper.wp_skipped (w':=w6.setCell ⟨rd,8,none⟩ (.int .i64 (63 - (ld:Int) - (k:Int)))) rfl (by go_simp;try rfl) ?_;simp only[Act.put,Ja,Jb,Jc];refine Kau (by kernel_rfl) ?_ _
        have e8:(w6.setCell ⟨rd,8,none⟩ (.int .i64 (63 - (ld:Int) - (k:Int)))).cell? ⟨rd,8,none⟩=some (.int .i64 (63 - (ld:Int) - (k:Int))):=by
         have:=(HQ6.out.r.set_ 8 (.int .i64 (63 - (ld:Int) - (k:Int)))).cell 8;exact this
        have e7:(w6.setCell ⟨rd,8,none⟩ (.int .i64 (63 - (ld:Int) - (k:Int)))).cell? ⟨rd,9,none⟩=some (.bool true):=(HQ6.out.r.set_ 8 (.int .i64 (63 - (ld:Int) - (k:Int)))).cell 9;have hk7:Kept w.heap.size [rd,rb] w (w6.setCell ⟨rd,8,none⟩ (.int .i64 (63 - (ld:Int) - (k:Int)))):=HK6.out.setCell (p:=⟨rd,8,none⟩) (.inl (by simp)) _
        by_cases hle:ld+k≤63
        ·obtain ⟨tl,htl⟩:∃tl,63 - ld - k=tl:=⟨_,rfl⟩;have hti:63 - (ld:Int) - (k:Int)=(tl:Int):=by omega
         rw[hti] at e8 e7 hk7;rw[hti];obtain ⟨d,hdd⟩:∃d:Cst,{ c with lead:=ld,tail:=tl,window:=true } = d:=⟨_,rfl⟩
         have hq7:RdrAt rd rb S i6 d (w6.setCell ⟨rd,8,none⟩ (.int .i64 (tl:Int))):=by
          rw[←hdd];exact HQ6.out.put 5 (.int .i64 (tl:Int)) { c with lead:=ld,tail:=tl,window:=true } rfl
         obtain ⟨w7,hw7⟩:∃w7,w6.setCell ⟨rd,8,none⟩ (.int .i64 (tl:Int))=w7:=⟨_,rfl⟩;rw[hw7] at hk7 hq7;rw[hw7];have HQ7:=Jh hq7;have HK7:=Jh hk7;have HTL:=Jh htl;have HD:=Jh hdd
         have c8:w7.cell? ⟨rd,8,none⟩=some (.int .i64 (tl:Int)):=by
          have:=hq7.cells.2.2.2.2.2.1;rw[←hdd] at this;exact this
         have c7':w7.cell? ⟨rd,7,none⟩=some (.int .i64 (ld:Int)):=by
          have:=hq7.cells.2.2.2.2.1;rw[←hdd] at this;exact this
         have c9:w7.cell? ⟨rd,9,none⟩=some (.bool true):=by
          have:=hq7.cells.2.2.2.2.2.2.1;rw[←hdd] at this;exact this
         have hdl:some (Value.int .i64 (d.lead:Int))=some (.int .i64 (ld:Int)):=by rw[←hdd]
         have hdt:some (Value.int .i64 (d.tail:Int))=some (.int .i64 (tl:Int)):=by rw[←hdd]
         have ge0:decide ((0:Int)≤(tl:Int))=true:=by rw[decide_eq_true_eq];omega
         clear hw7 hk7 hq7 hS c7 d7 d8 z8 e8 e7 hti hwk htl hdd;have c7:=c7';clear c7';go_wp2_with fail
         refine (Kfd _ 21 w7).mono ?_;rintro _ _ ⟨rfl,rfl⟩;clear c9;obtain ⟨n,hn⟩:∃n,k+1=n:=⟨_,rfl⟩;have htl:=HTL.out;obtain ⟨r3,hr3⟩:∃r3,readN S.data.toList i6 n=r3:=⟨_,rfl⟩;have HB3:=Jh (fun w' (hb:RdrAt rd rb S i6 d w')=>Kbz rd rb i6 n S d w' hb (by omega) hS_ hi6);unfold bitsR at HB3;simp only[hr3] at HB3;have HR3:=Jh (show readN S.data.toList i6 (k+1)=r3 by rw[hn];exact hr3);have HN:=Jh hn;clear hr3;have e10:n=64 - ld - tl:=by omega
         have e9:IntKind.i64.wrap (IntKind.i64.wrap (64 - (ld:Int)) - (tl:Int))=(n:Int):=by rw[IntKind.wrap_i64,IntKind.wrap_i64];omega
         have htl:tl < 64:=by omega
         have hlc:ld≤63:=by omega
         go_upto_region 8 with fail
         have hS:w7.drew.cell? ⟨rd,7,none⟩=some (.int .i64 (ld:Int))∧w7.drew.cell? ⟨rd,8,none⟩=some (.int .i64 (tl:Int)):=⟨c7,c8⟩;refine Kca (fun w'=>w'.cell? ⟨rd,7,none⟩=some (.int .i64 (ld:Int))∧w'.cell? ⟨rd,8,none⟩=some (.int .i64 (tl:Int))) 17 18 (by kernel_rfl) rfl ?_;rw[show Array.replicate 18 false = #[false,false,false,false,false,false,false,false,false,false,false,false,false,false,false,false,false,false] from rfl];refine Kaa (i:=0) (d:=some 47) rfl rfl (by kernel_rfl) (by kernel_rfl) (by kernel_rfl) rfl (fun _ _ _ h=>h) (by rfl) (fun w=>by go_simp;try rfl) (fun _=>hS) ?_;simp only[Act.put,Ja,Jb,Jc];refine Kaa (i:=1) (d:=some 48) rfl rfl (by kernel_rfl) (by kernel_rfl) (by kernel_rfl) rfl (fun _ _ _ h=>h) (by rfl) (fun w=>by go_simp;try rfl) (fun _=>hS) ?_;simp only[Act.put,Ja,Jb,Jc];refine Kaa (i:=2) (d:=some 49) rfl rfl (by kernel_rfl) (by kernel_rfl) (by kernel_rfl) rfl (fun _ _ _ h=>h) (by rfl) (fun w=>by go_simp;try rfl) (fun _=>hS) ?_;simp only[Act.put,Ja,Jb,Jc];refine Kaa (i:=3) (d:=some 50) rfl rfl (by kernel_rfl) (by kernel_rfl) (by kernel_rfl) rfl (fun _ _ _ h=>h) (by rfl) (fun w=>by go_simp;try rfl) (fun _=>hS) ?_;simp only[Act.put,Ja,Jb,Jc];refine Kap (i:=4) (d:=some 51) rfl rfl (by kernel_rfl) (by kernel_rfl) (by kernel_rfl) (by kernel_rfl) rfl (fun _ _ _ h=>h) (.inl ⟨by rfl,fun w hw=>by (obtain ⟨ha,hb⟩:=hw;go_simp;try rfl)⟩) hS ?_;simp only[Act.put,Ja,Jb,Jc];refine Kaa (i:=5) (d:=some 52) rfl rfl (by kernel_rfl) (by kernel_rfl) (by kernel_rfl) rfl (fun _ _ _ h=>h) (by rfl) (fun w=>by go_simp;try rfl) (fun _=>hS) ?_;simp only[Act.put,Ja,Jb,Jc];refine Kaa (i:=6) (d:=some 53) rfl rfl (by kernel_rfl) (by kernel_rfl) (by kernel_rfl) rfl (fun _ _ _ h=>h) (by rfl) (fun w=>by go_simp;try rfl) (fun _=>hS) ?_;simp only[Act.put,Ja,Jb,Jc];refine Kaa (i:=7) (d:=some 54) rfl rfl (by kernel_rfl) (by kernel_rfl) (by kernel_rfl) rfl (fun _ _ _ h=>h) (by rfl) (fun w=>by go_simp;try rfl) (fun _=>hS) ?_;simp only[Act.put,Ja,Jb,Jc];refine Kaa (i:=8) (d:=some 55) rfl rfl (by kernel_rfl) (by kernel_rfl) (by kernel_rfl) rfl (fun _ _ _ h=>h) (by rfl) (fun w=>by go_simp;try rfl) (fun _=>hS) ?_;simp only[Act.put,Ja,Jb,Jc];refine Kap (i:=9) (d:=some 56) rfl rfl (by kernel_rfl) (by kernel_rfl) (by kernel_rfl) (by kernel_rfl) rfl (fun _ _ _ h=>h) (.inl ⟨by rfl,fun w hw=>by (obtain ⟨ha,hb⟩:=hw;go_simp;try rfl)⟩) hS ?_;simp only[Act.put,Ja,Jb,Jc];refine Kaa (i:=10) (d:=some 57) rfl rfl (by kernel_rfl) (by kernel_rfl) (by kernel_rfl) rfl (fun _ _ _ h=>h) (by rfl) (fun w=>by go_simp;try rfl) (fun _=>hS) ?_;simp only[Act.put,Ja,Jb,Jc];refine Kaa (i:=12) (d:=some 59) rfl rfl (by kernel_rfl) (by kernel_rfl) (by kernel_rfl) rfl (fun _ _ _ h=>h) (by rfl) (fun w=>by go_simp;try rfl) (fun _=>hS) ?_;simp only[Act.put,Ja,Jb,Jc];refine Kaa (i:=13) (d:=some 60) rfl rfl (by kernel_rfl) (by kernel_rfl) (by kernel_rfl) rfl (fun _ _ _ h=>h) (by rfl) (fun w=>by go_simp;try rfl) (fun _=>hS) ?_;simp only[Act.put,Ja,Jb,Jc]
         refine Kaa (i:=14) (d:=some 61) rfl rfl (by kernel_rfl) (by kernel_rfl) (by kernel_rfl) rfl (fun _ _ _ h=>h) (by rfl) (fun w=>by go_simp;try rfl) (fun _=>hS) ?_;simp only[Act.put,Ja,Jb,Jc];refine Kap (i:=15) (d:=some 62) rfl rfl (by kernel_rfl) (by kernel_rfl) (by kernel_rfl) (by kernel_rfl) rfl (fun _ _ _ h=>h) (.inl ⟨by rfl,fun w hw=>by (obtain ⟨ha,hb⟩:=hw;go_simp;try rfl)⟩) hS ?_;simp only[Act.put,Ja,Jb,Jc];refine Kai (i:=11) (by kernel_rfl) rfl rfl ?_
         cases r3 with
         | none=>
          refine Oper.wp_faults (w1:=w7.drew) (g:=244) (args:=#[.pointer (some ⟨rd,0,none⟩),.int .i64 (n:Int)]) (by go_simp) (N:=fun u w'=>(∃f,f≠0∧Ending.panicked u=Kay f)∧Kept w7.heap.size [rd,rb] w7 w') ((HB3.out w7.drew ⟨HQ7.out.r,HQ7.out.b⟩).mono ?_) ?_
          ·rintro _ w4 ⟨⟨f,hf,rfl⟩,hk4⟩;exact ⟨_,rfl,⟨f,hf,rfl⟩,hk4.of_drew⟩
          ·rintro u w4 ⟨hfu,hk4⟩;simp only[Exit.then];refine Kae rfl ?_
           have hd:Kbc c S.data.toList i=none:=by
            unfold Kbc;rw[HR1.out];dsimp only;rw[HR2.out];dsimp only;rw[HR5.out];dsimp only;rw[HR6.out];dsimp only;rw[if_pos hle,HR3.out]
           rw[hd];exact ⟨hfu,HK7.out.two hk4⟩
         | some vj=>
          obtain ⟨v3,i3⟩:=vj;have hvn:=Kdd HR3.out;refine Oper.wp_called (d:=some 58) (w1:=w7.drew) (g:=244) (args:=#[.pointer (some ⟨rd,0,none⟩),.int .i64 (n:Int)]) rfl (by go_simp) (N:=fun u w'=>u = .int .u64 (v3:Int)∧RdrAt rd rb S i3 d w'∧i3≤8*S.size∧Kept w7.heap.size [rd,rb] w7 w') ((HB3.out w7.drew ⟨HQ7.out.r,HQ7.out.b⟩).mono ?_) ?_
          ·rintro _ w4 ⟨rfl,hq4,hi4,hk4⟩;exact ⟨_,rfl,rfl,hq4,hi4,hk4.of_drew⟩
          ·rintro _ w4 ⟨rfl,hq4,hi4,hk4⟩;refine ⟨fun _=>⟨hq4.cells.2.2.2.2.1.trans hdl,hq4.cells.2.2.2.2.2.1.trans hdt⟩,?_⟩;simp only[Act.put,Ja,Jb,Jc]
           have hd:Kbc c S.data.toList i=some (v3 <<< tl,d,i3):=by
            unfold Kbc;rw[HR1.out];dsimp only;rw[HR2.out];dsimp only;rw[HR5.out];dsimp only;rw[HR6.out];dsimp only;rw[if_pos hle,HR3.out];dsimp only;rw[HTL.out,HD.out]
           have hlt:v3 <<< tl < 2 ^ 64:=(Kgx hc hd).1;have hsz:(v3:Int)*(2:Int) ^ tl=((v3 <<< tl:Nat):Int):=by rw[Nat.shiftLeft_eq];simp
           obtain ⟨Z,hZ⟩:∃Z,v3 <<< tl=Z:=⟨_,rfl⟩;rw[hZ] at hsz hd hlt
           have hsh:IntKind.u64.wrap ((v3:Int)*(2:Int) ^ tl)=(Z:Int):=by
            rw[hsz];exact Kes _ (by omega) (by omega)
           clear hZ hlt hsz;refine Kai (i:=16) (by kernel_rfl) rfl rfl ?_;refine Oper.wp_ran (d:=some 63) (w':=w4) (v:=.int .u64 (Z:Int)) rfl (by go_simp;try rfl) ⟨fun _=>⟨hq4.cells.2.2.2.2.1.trans hdl,hq4.cells.2.2.2.2.2.1.trans hdt⟩,?_⟩;simp only[Act.put,Ja,Jb,Jc];refine Kcm (i:=17) (by kernel_rfl) rfl rfl (by kernel_rfl) ?_;refine Oper.wp_ran (d:=some 2) (w':=w4) (v:=.int .u64 (Z:Int)) rfl (by go_simp;try rfl) ?_;simp only[Act.put,Ja,Jb,Jc];refine Kau (by kernel_rfl) ?_ _;clear c7 c8 hS;go_wp2_with fail
           go_ret
           exact ⟨rfl,hq4,hi4,HK7.out.two hk4⟩
        ·have ge0:decide ((0:Int)≤63 - (ld:Int) - (k:Int))=false:=by rw[decide_eq_false_iff_not];omega
         have ge1:¬(0:Int)≤63 - (ld:Int) - (k:Int):=by omega
         have HK7:=Jh hk7;obtain ⟨zz,hzz⟩:∃zz,63 - (ld:Int) - (k:Int)=zz:=⟨_,rfl⟩;rw[hzz] at ge0 ge1 e7 e8 HK7;rw[hzz];obtain ⟨w7,hw7⟩:∃w7,w6.setCell ⟨rd,8,none⟩ (.int .i64 zz)=w7:=⟨_,rfl⟩;rw[hw7] at e7 e8 HK7;rw[hw7];clear hw7 hk7 hS c7 d7 d8 z8 hwk hzz;go_wp2_with fail
         refine (Keo _ 21 w7).mono ?_;rintro _ _ ⟨rfl,rfl⟩;unfold Kay;go_wp2_with fail
         refine Kae rfl ?_
         have hd:Kbc c S.data.toList i=none:=by
          unfold Kbc;rw[HR1.out];dsimp only;rw[HR2.out];dsimp only;rw[HR5.out];dsimp only;rw[HR6.out];dsimp only;rw[if_neg hle]
         rw[hd];exact ⟨⟨21,by decide,rfl⟩,HK7.out⟩
def smpV (s:Smp):Value:=.agg #[.int .i64 s.t,.int .u64 (s.v:Int)]
theorem Kzp (z:Int):IntKind.i64.wrap z=wrap64 z:=by rw[IntKind.wrap_i64];unfold wrap64;omega
theorem Qma (v:Nat) (hv:v < 2 ^ 64):wrap64 (v:Int)=signW 64 v:=by
 unfold wrap64 signW;simp
 split <;> omega
structure SmpAt (q:Nat) (x:Smp) (w:World):Prop where
 r:∃cs,Blk w q 93 cs∧cs.size=2
 x:Blk w (q+1) 93 #[.int .i64 x.t,.int .u64 (x.v:Int)]
theorem SmpAt.keep {q rd rb:Nat} {x:Smp} {w w':World} (h:SmpAt q x w) (hk:Kept w.heap.size [rd,rb] w w') (h1:rd < q) (h2:rb < q):SmpAt q x w':=by
 obtain ⟨⟨cs,h3,h4⟩,h5⟩:=h;exact ⟨⟨cs,h3.kept hk h3.lt (by simp;omega),h4⟩,h5.kept hk h5.lt (by simp;omega)⟩
theorem SmpAt.setT {q:Nat} {x:Smp} {w:World} (h:SmpAt q x w) (t:Int):SmpAt q ⟨t,x.v⟩ (w.setCell ⟨q+1,0,none⟩ (.int .i64 t)):=by
 obtain ⟨⟨cs,h3,h4⟩,h5⟩:=h;exact ⟨⟨cs,h3.far (p:=⟨q+1,0,none⟩) (by simp) _,h4⟩,h5.set_ 0 _⟩
theorem SmpAt.setV {q:Nat} {x:Smp} {w:World} (h:SmpAt q x w) (v:Nat):SmpAt q ⟨x.t,v⟩ (w.setCell ⟨q+1,1,none⟩ (.int .u64 (v:Int))):=by
 obtain ⟨⟨cs,h3,h4⟩,h5⟩:=h;exact ⟨⟨cs,h3.far (p:=⟨q+1,1,none⟩) (by simp) _,h4⟩,h5.set_ 1 _⟩
theorem SmpAt.below {q:Nat} {x:Smp} {w w':World} (h:SmpAt q x w) (hb:Below w.heap.size w w'):SmpAt q x w':=by
 obtain ⟨⟨cs,h3,h4⟩,h5⟩:=h;exact ⟨⟨cs,h3.below hb h3.lt,h4⟩,h5.below hb h5.lt⟩
theorem SmpAt.farR {q:Nat} {x:Smp} {w:World} (h:SmpAt q x w) {p:Addr} (hp:p.block < q) (u:Value):SmpAt q x (w.setCell p u):=by
 obtain ⟨⟨cs,h3,h4⟩,h5⟩:=h;exact ⟨⟨cs,h3.far (by omega) u,h4⟩,h5.far (by omega) u⟩
theorem Qeg {c:Cst} {s:List UInt8} {i x:Nat} {d:Cst} {j:Nat} (h:Kbc c s i=some (x,d,j)):d.n=c.n:=by
 unfold Kbc at h
 repeat' split at h
 all_goals first | (cases h;done) | (injection h with h;injection h with _ h;injection h with h _;subst h;rfl)
theorem Qat {cs:Array Value} {a b:Value} (h:cs.size=2):(cs.setIfInBounds 0 a).setIfInBounds 1 b = #[a,b]:=by
 match cs,h with
 | ⟨[x,y]⟩,_=>rfl
theorem RdrAt.far {rd rb:Nat} {S:ByteArray} {i:Nat} {c:Cst} {w:World} (h:RdrAt rd rb S i c w) {p:Addr} (h1:rd≠p.block) (h2:rb≠p.block) (u:Value):RdrAt rd rb S i c (w.setCell p u):=⟨h.r.far h1 u,h.b.far h2 u⟩
theorem Kwl (rd rb i:Nat) (S:ByteArray) (c:Cst) (w:World) (h:RdrAt rd rb S i c w) (hc:c.Ok) (hn:c.n≤120) (hv:c.last.v < 2 ^ 64) (hS_:S.size≤140737488351232) (hi:i≤8*S.size) :
  Calls Tryz.prog 207 #[.pointer (some ⟨rd,0,none⟩)] w (RdO rd rb S smpV w (Kbe c S.data.toList i)):=by
 have hcc:=h.cells;have c3:=hcc.1;have c4:=hcc.2.1;have c5:=hcc.2.2.1;have H:=Jh h;obtain ⟨w1,hw1⟩:∃w1,(w.alloc (.cells #[.int .i64 0,.int .u64 0] 93)).alloc (.cells #[.int .i64 c.last.t,.int .u64 (c.last.v:Int)] 93)=w1:=⟨_,rfl⟩;have hb1:Below w.heap.size w w1:=by rw[←hw1];exact ((Below.refl _ _).alloc (Nat.le_refl _) _).alloc (by simp) _
 have hs1:SmpAt w.heap.size c.last w1:=by
  rw[←hw1];exact ⟨⟨_,(Blk.new _ _ _).alloc _,rfl⟩,Blk.newAt (by simp)⟩
 have HR1:=Jh (h.below hb1);have HB1:=Jh hb1;have HS1:=Jh hs1;have hrl:=h.r.lt;have hrne:rd≠w.heap.size:=by omega
 clear h hcc;go_enter Tryz.func207,Tryz.ntmps207
 go_upto_region 3 with fail
 clear hw1 c3 c4 c5;have HRL:=Jh hrl;have HRL2:=Jh H.out.b.lt;obtain ⟨q,hq⟩:∃q,w.heap.size=q:=⟨_,rfl⟩;have HQ:=Jh hq;have HK1:=Jh (Kept.of_below (ex:=[rd,rb]) HB1.out);rw[hq] at HS1 hrne;rw[hq];have c3:=HR1.out.cells.1;clear hrl hq
 cases hn0:c.n with
 | zero=>
  rw[hn0] at c3;obtain ⟨r1,hr1⟩:∃r1,readN S.data.toList i 64=r1:=⟨_,rfl⟩;have HB2:=Jh (Kbz rd rb i 64 S c w1 HR1.out (by decide) hS_ hi);unfold bitsR at HB2;rw[hr1] at HB2;have HRA:=Jh hr1;clear hr1
  cases r1 with
  | none=>
   go_wp2_with fail
   refine HB2.out.mono ?_;rintro _ w2 ⟨⟨f,hf,rfl⟩,hk2⟩;unfold Kay;go_wp2_with fail
   refine Kae rfl ?_
   have hd:Kbe c S.data.toList i=none:=by
    unfold Kbe;rw[if_pos hn0,HRA.out]
   rw[hd];exact ⟨⟨f,hf,rfl⟩,HK1.out.two hk2⟩
  | some vj=>
   obtain ⟨tv,i1⟩:=vj;dsimp only at HB2;have htv:tv < 2 ^ 64:=Kdd HRA.out;go_wp2_with fail
   refine HB2.out.mono ?_;rintro _ w2 ⟨rfl,hq2,hi1,hk2⟩;have hs2:=HS1.out.keep hk2 (by have:=HRL.out;have:=HQ.out;omega) (by have:=HRL2.out;have:=HQ.out;omega);have HR2:=Jh hq2;have HS2:=Jh hs2;have HK2:=Jh (HK1.out.two hk2);obtain ⟨T,hT⟩:∃T,signW 64 tv=T:=⟨_,rfl⟩;have hTw:wrap64 (tv:Int)=T:=by rw[Qma tv htv,hT]
   have HT:=Jh hT;have x0:w2.cell? ⟨q+1,0,none⟩=_:=hs2.x.cell 0;have y0:=hs2.x.frozen 0;have hrd:rd < q:=by have:=HRL.out;have:=HQ.out;omega
   have hrb:rb < q:=by have:=HRL2.out;have:=HQ.out;omega
   have HS3:=Jh (hs2.setT T);have HR3:=Jh (hq2.far (p:=⟨q+1,0,none⟩) (by simp;omega) (by simp;omega) (.int .i64 T));have HK3:=Jh (HK2.out.setCell (p:=⟨q+1,0,none⟩) (.inr (by have:=HQ.out;simp;omega)) (.int .i64 T));clear hs2 hq2 hk2 hT;unfold u64V;go_upto_region 7 with fail
   obtain ⟨w3,hw3⟩:∃w3,w2.setCell ⟨q+1,0,none⟩ (.int .i64 T)=w3:=⟨_,rfl⟩;rw[hw3] at HS3 HR3 HK3;rw[hw3];clear hw3 x0 y0 c3 hrne hTw;have x0:w3.cell? ⟨q+1,0,none⟩=_:=HS3.out.x.cell 0
   by_cases ht:0≤T∧T≤1125899906842624
   ·have t1:decide (0≤T)=true:=decide_eq_true ht.1;have t2:decide (T≤1125899906842624)=true:=decide_eq_true ht.2;go_wp2_with fail
    refine (Kfd _ 91 w3).mono ?_;rintro _ _ ⟨rfl,rfl⟩;go_upto_region 8 with fail
    have c3:w3.cell? ⟨rd,3,none⟩=some (.int .i64 0):=by
     have:=HR3.out.cells.1;rw[hn0] at this;exact this
    have sl:=HR3.out.r.lt;refine Kaf 16 (by kernel_rfl) (by kernel_rfl) ?_;simp only[List.take_succ_cons,List.take_zero,List.drop_succ_cons,List.drop_zero]
    repeat (go_big_quiet_step (fail))
    refine wpQuiet_nil ?_;rintro w4 ⟨⟨_,hb4⟩,rfl⟩;have HS4:=Jh (SmpAt.below HS3.out hb4);have HR4:=Jh (HR3.out.below hb4);have HK4:=Jh (HK3.out.then_' hb4);clear x0 c3 sl hb4
    have c3:w4.cell? ⟨rd,3,none⟩=some (.int .i64 0):=by
     have:=HR4.out.cells.1;rw[hn0] at this;exact this
    obtain ⟨r2,hr2⟩:∃r2,readN S.data.toList i1 64=r2:=⟨_,rfl⟩;have HB5:=Jh (Kbz rd rb i1 64 S c w4 HR4.out (by decide) hS_ hi1);unfold bitsR at HB5;rw[hr2] at HB5;have HRC:=Jh hr2;clear hr2;go_wp2_with fail
    refine (Kfd _ 90 w4).mono ?_;rintro _ _ ⟨rfl,rfl⟩
    cases r2 with
    | none=>
     go_wp2_with fail
     refine HB5.out.mono ?_;rintro _ w5 ⟨⟨f,hf,rfl⟩,hk5⟩;unfold Kay;go_wp2_with fail
     refine Kae rfl ?_
     have hd:Kbe c S.data.toList i=none:=by
      unfold Kbe;rw[if_pos hn0,HRA.out];dsimp only;rw[HT.out,if_pos ht,HRC.out]
     rw[hd];exact ⟨⟨f,hf,rfl⟩,HK4.out.two hk5⟩
    | some vj=>
     obtain ⟨V,J⟩:=vj;dsimp only at HB5;have hVl:V < 2 ^ 64:=Kdd HRC.out;go_wp2_with fail
     refine HB5.out.mono ?_;rintro _ w5 ⟨rfl,hq5,hi5,hk5⟩;have hs5:=HS4.out.keep hk5 hrd hrb;have HS9:=Jh (hs5.setV V);have HR9:=Jh (hq5.far (p:=⟨q+1,1,none⟩) (by simp;omega) (by simp;omega) (.int .u64 (V:Int)));have HK9:=Jh ((HK4.out.two hk5).setCell (p:=⟨q+1,1,none⟩) (.inr (by have:=HQ.out;simp;omega)) (.int .u64 (V:Int)));have x1:w5.cell? ⟨q+1,1,none⟩=_:=hs5.x.cell 1;have z1:=hs5.x.frozen 1;clear hs5 hq5 hk5;unfold u64V;go_upto_region 12 with fail
     obtain ⟨w6,hw6⟩:∃w6,w5.setCell ⟨q+1,1,none⟩ (.int .u64 (V:Int))=w6:=⟨_,rfl⟩;rw[hw6] at HS9 HR9 HK9;rw[hw6];clear hw6 x1 z1 c3;have HN9:=Jh hn0;have hcc:=HR9.out.cells;have c3:=hcc.1;have c4:=hcc.2.1;have c5:=hcc.2.2.1;have z3:=hcc.2.2.2.2.2.2.2 3;have z4:=hcc.2.2.2.2.2.2.2 4;have z5:=hcc.2.2.2.2.2.2.2 5;clear hcc;rw[HN9.out] at c3;have x0:w6.cell? ⟨q+1,0,none⟩=some (.int .i64 T):=HS9.out.x.cell 0;have x1:w6.cell? ⟨q+1,1,none⟩=some (.int .u64 (V:Int)):=HS9.out.x.cell 1;obtain ⟨cs,hrb9,hcs⟩:=HS9.out.r;have r0:w6.cell? ⟨q,0,none⟩=some cs[0]:=(hrb9.cell 0).trans (Array.getElem?_eq_getElem (by omega));have r1:w6.cell? ⟨q,1,none⟩=some cs[1]:=(hrb9.cell 1).trans (Array.getElem?_eq_getElem (by omega));have y0:=hrb9.frozen 0;have y1:=hrb9.frozen 1;obtain ⟨u0,hu0⟩:∃u,cs[0]=u:=⟨_,rfl⟩;obtain ⟨u1,hu1⟩:∃u,cs[1]=u:=⟨_,rfl⟩;rw[hu0] at r0;rw[hu1] at r1;have HRB:=Jh hrb9;have HCS:=Jh hcs;have qr:rd≠q:=by omega
     have qr2:rd≠q+1:=by omega
     have qr3:q≠rd:=by omega
     have qr4:q+1≠rd:=by omega
     have qb:rb≠q:=by omega
     clear hrb9 hcs hu0 hu1;go_wp2_with fail
     have hR9:RdrAt rd rb S J { c with n:=1,last:=⟨T,V⟩ } ((((w6.setCell ⟨rd,4,none⟩ (.int .i64 T)).setCell ⟨rd,5,none⟩ (.int .u64 (V:Int))).setCell ⟨rd,3,none⟩ (.int .i64 1)).setCell ⟨q,0,none⟩ (.int .i64 T) |>.setCell ⟨q,1,none⟩ (.int .u64 (V:Int))):=
      ((((HR9.out.put 1 (.int .i64 T) { c with last:=⟨T,c.last.v⟩ } rfl).put 2 (.int .u64 (V:Int)) { c with last:=⟨T,V⟩ } rfl).put 0 (.int .i64 1) { c with n:=1,last:=⟨T,V⟩ } rfl).far (p:=⟨q,0,none⟩) qr qb _).far (p:=⟨q,1,none⟩) qr qb _
     have hK9:Kept w.heap.size [rd,rb] w ((((w6.setCell ⟨rd,4,none⟩ (.int .i64 T)).setCell ⟨rd,5,none⟩ (.int .u64 (V:Int))).setCell ⟨rd,3,none⟩ (.int .i64 1)).setCell ⟨q,0,none⟩ (.int .i64 T) |>.setCell ⟨q,1,none⟩ (.int .u64 (V:Int))):=
      ((((HK9.out.setCell (p:=⟨rd,4,none⟩) (.inl (by simp)) _).setCell (p:=⟨rd,5,none⟩) (.inl (by simp)) _).setCell (p:=⟨rd,3,none⟩) (.inl (by simp)) _).setCell (p:=⟨q,0,none⟩) (.inr (by rw[HQ.out];exact Nat.le_refl _)) _).setCell (p:=⟨q,1,none⟩) (.inr (by rw[HQ.out];exact Nat.le_refl _)) _
     have hb9:Blk ((((w6.setCell ⟨rd,4,none⟩ (.int .i64 T)).setCell ⟨rd,5,none⟩ (.int .u64 (V:Int))).setCell ⟨rd,3,none⟩ (.int .i64 1)).setCell ⟨q,0,none⟩ (.int .i64 T) |>.setCell ⟨q,1,none⟩ (.int .u64 (V:Int))) q 93 #[.int .i64 T,.int .u64 (V:Int)]:=by
      have:=((((HRB.out.far (p:=⟨rd,4,none⟩) qr3 (.int .i64 T)).far (p:=⟨rd,5,none⟩) qr3 (.int .u64 (V:Int))).far (p:=⟨rd,3,none⟩) qr3 (.int .i64 1)).set_ 0 (.int .i64 T)).set_ 1 (.int .u64 (V:Int));rwa[Qat HCS.out] at this
     refine bodyPost_ret (Keh rfl _ _ ⟨q,0,none⟩ _ rfl (run_loadVar_row _ q 93 93 _ (0,0) _ hb9 Tryz.underlying93 rfl (by kernel_rfl))) rfl ?_
     have hd:Kbe c S.data.toList i=some (⟨T,V⟩,{ c with n:=1,last:=⟨T,V⟩ },J):=by
      unfold Kbe;rw[if_pos hn0,HRA.out];dsimp only;rw[HT.out,if_pos ht,HRC.out]
     rw[hd];exact ⟨rfl,hR9,hi5,hK9⟩
   ·have HTN:Hid (¬(0≤T∧T≤1125899906842624)):=Jh ht
    have hd:Kbe c S.data.toList i=none:=by
     unfold Kbe;rw[if_pos hn0,HRA.out];dsimp only;rw[HT.out,if_neg ht]
    have HD:=Jh hd;clear hd
    by_cases t1:0≤T
    ·have t1':decide (0≤T)=true:=decide_eq_true t1;have t2':decide (T≤1125899906842624)=false:=by rw[decide_eq_false_iff_not];omega
     go_wp2_with fail
     refine (Keo _ 91 w3).mono ?_;rintro _ _ ⟨rfl,rfl⟩;unfold Kay;go_wp2_with fail
     refine Kae rfl ?_;rw[HD.out];exact ⟨⟨91,by decide,rfl⟩,HK3.out⟩
    ·have t1':decide (0≤T)=false:=decide_eq_false t1;go_wp2_with fail
     refine (Keo _ 91 w3).mono ?_;rintro _ _ ⟨rfl,rfl⟩;unfold Kay;go_wp2_with fail
     refine Kae rfl ?_;rw[HD.out];exact ⟨⟨91,by decide,rfl⟩,HK3.out⟩
 | succ n=>
  rw[hn0] at c3 hn;have c6:w1.cell? ⟨rd,6,none⟩=some (.int .i64 c.step):=HR1.out.cells.2.2.2.1;have e3:(((n:Int)+1) == 0)=false:=by simp;omega
  have hrd:rd < q:=by have:=HRL.out;have:=HQ.out;omega
  have hrb:rb < q:=by have:=HRL2.out;have:=HQ.out;omega
  obtain ⟨r1,hr1⟩:∃r1,Kbs S.data.toList i=r1:=⟨_,rfl⟩;have HB2:=Jh (Kul rd rb i S c w1.drew ⟨HR1.out.r,HR1.out.b⟩ hS_ hi);unfold Kdl at HB2;rw[hr1] at HB2;have HRA:=Jh hr1;clear hr1;go_upto_region 5 with fail
  have hS:w1.drew.cell? ⟨rd,6,none⟩=some (.int .i64 c.step)∧True:=⟨c6,trivial⟩;refine Kca (fun w'=>w'.cell? ⟨rd,6,none⟩=some (.int .i64 c.step)∧True) 7 10 (by kernel_rfl) rfl ?_;rw[show Array.replicate 10 false = #[false,false,false,false,false,false,false,false,false,false] from rfl];refine Kaa (i:=0) (d:=some 21) rfl rfl (by kernel_rfl) (by kernel_rfl) (by kernel_rfl) rfl (fun _ _ _ h=>h) (by rfl) (fun w=>by go_simp;try rfl) (fun _=>hS) ?_;simp only[Act.put,Ja,Jb,Jc];refine Kaa (i:=1) (d:=some 22) rfl rfl (by kernel_rfl) (by kernel_rfl) (by kernel_rfl) rfl (fun _ _ _ h=>h) (by rfl) (fun w=>by go_simp;try rfl) (fun _=>hS) ?_;simp only[Act.put,Ja,Jb,Jc];refine Kaa (i:=2) (d:=some 23) rfl rfl (by kernel_rfl) (by kernel_rfl) (by kernel_rfl) rfl (fun _ _ _ h=>h) (by rfl) (fun w=>by go_simp;try rfl) (fun _=>hS) ?_;simp only[Act.put,Ja,Jb,Jc];refine Kap (i:=3) (d:=some 24) rfl rfl (by kernel_rfl) (by kernel_rfl) (by kernel_rfl) (by kernel_rfl) rfl (fun _ _ _ h=>h) (.inl ⟨by rfl,fun w hw=>by (obtain ⟨ha,hb⟩:=hw;go_simp;try rfl)⟩) hS ?_;simp only[Act.put,Ja,Jb,Jc];refine Kaa (i:=4) (d:=some 25) rfl rfl (by kernel_rfl) (by kernel_rfl) (by kernel_rfl) rfl (fun _ _ _ h=>h) (by rfl) (fun w=>by go_simp;try rfl) (fun _=>hS) ?_;simp only[Act.put,Ja,Jb,Jc];refine Kai (i:=5) (by kernel_rfl) rfl rfl ?_
  cases r1 with
  | none=>
   refine Oper.wp_faults (w1:=w1.drew) (g:=245) (args:=#[.pointer (some ⟨rd,0,none⟩)]) (by go_simp;try rfl) (N:=fun u w'=>(∃f,f≠0∧Ending.panicked u=Kay f)∧Kept w1.heap.size [rd,rb] w1 w') (HB2.out.mono ?_) ?_
   ·rintro _ w6 ⟨⟨f,hf,rfl⟩,hk6⟩;exact ⟨_,rfl,⟨f,hf,rfl⟩,hk6.of_drew⟩
   ·rintro u w6 ⟨hfu,hk6⟩;simp only[Exit.then];refine Kae rfl ?_
    have hd:Kbe c S.data.toList i=none:=by
     unfold Kbe;rw[if_neg (by omega),HRA.out]
    rw[hd];exact ⟨hfu,HK1.out.two hk6⟩
  | some vj=>
   obtain ⟨ch,i1⟩:=vj;refine Oper.wp_called (d:=some 26) (w1:=w1.drew) (g:=245) (args:=#[.pointer (some ⟨rd,0,none⟩)]) rfl (by go_simp;try rfl) (N:=fun u w'=>u = .int .i64 ch∧RdrAt rd rb S i1 c w'∧i1≤8*S.size∧Kept w1.heap.size [rd,rb] w1 w') (HB2.out.mono ?_) ?_
   ·rintro _ w6 ⟨rfl,hq6,hi6,hk6⟩;exact ⟨_,rfl,rfl,hq6,hi6,hk6.of_drew⟩
   ·rintro _ w2 ⟨rfl,hq2,hi1,hk2⟩;have hs2:=HS1.out.keep hk2 hrd hrb;have d6:w2.cell? ⟨rd,6,none⟩=some (.int .i64 c.step):=hq2.cells.2.2.2.1;have z6:=hq2.cells.2.2.2.2.2.2.2 6;obtain ⟨ns,hns⟩:∃ns,wrap64 (c.step+ch)=ns:=⟨_,rfl⟩;have hnw:IntKind.i64.wrap (c.step+ch)=ns:=by rw[Kzp,hns]
    have HNS:=Jh hns;have HS3:=Jh hs2;have HR3:Hid (RdrAt rd rb S i1 { c with step:=ns } (w2.setCell ⟨rd,6,none⟩ (.int .i64 ns))):=Jh (hq2.put 3 (.int .i64 ns) { c with step:=ns } rfl);have HK3:=Jh ((HK1.out.two hk2).setCell (p:=⟨rd,6,none⟩) (.inl (by simp)) (.int .i64 ns));have HS4:Hid (SmpAt q c.last (w2.setCell ⟨rd,6,none⟩ (.int .i64 ns))):=Jh (hs2.farR (p:=⟨rd,6,none⟩) hrd _);clear hs2 hq2 hk2 hns;refine ⟨fun _=>⟨d6,trivial⟩,?_⟩;simp only[Act.put,Ja,Jb,Jc];refine Kai (i:=6) (by kernel_rfl) rfl rfl ?_;refine Oper.wp_ran (d:=some 27) (w':=w2) (v:=.int .i64 ns) rfl (by go_simp;try rfl) ⟨fun _=>⟨d6,trivial⟩,?_⟩;simp only[Act.put,Ja,Jb,Jc];refine Kcm (i:=7) (by kernel_rfl) rfl rfl (by kernel_rfl) ?_;refine Oper.wp_ran (d:=some 28) (w':=w2) (v:=.pointer (some ⟨rd,1,none⟩)) rfl (by go_simp;try rfl) ?_;simp only[Act.put,Ja,Jb,Jc];refine Kcm (i:=8) (by kernel_rfl) rfl rfl (by kernel_rfl) ?_;refine Oper.wp_ran (d:=some 29) (w':=w2) (v:=.pointer (some ⟨rd,6,none⟩)) rfl (by go_simp;try rfl) ?_;simp only[Act.put,Ja,Jb,Jc];refine Kcm (i:=9) (by kernel_rfl) rfl rfl (by kernel_rfl) ?_;refine Oper.wp_skipped (w':=w2.setCell ⟨rd,6,none⟩ (.int .i64 ns)) rfl (by go_simp;try rfl) ?_;simp only[Act.put,Ja,Jb,Jc];refine Kau (by kernel_rfl) ?_ _;clear d6 z6 hnw c6 c3 hS;obtain ⟨w3,hw3⟩:∃w3,w2.setCell ⟨rd,6,none⟩ (.int .i64 ns)=w3:=⟨_,rfl⟩;rw[hw3] at HS4 HR3 HK3;rw[hw3];clear hw3;have x0:w3.cell? ⟨q+1,0,none⟩=some (.int .i64 c.last.t):=HS4.out.x.cell 0;have y0:=HS4.out.x.frozen 0;have c6:w3.cell? ⟨rd,6,none⟩=some (.int .i64 ns):=HR3.out.cells.2.2.2.1;have sl:=HR3.out.r.lt;have sx:=HS4.out.x.lt;obtain ⟨T,hT⟩:∃T,wrap64 (c.last.t+ns)=T:=⟨_,rfl⟩;have HT:=Jh hT;go_upto_region 6 with fail
    refine Kaf 7 (by kernel_rfl) (by kernel_rfl) ?_;simp only[List.take_succ_cons,List.take_zero,List.drop_succ_cons,List.drop_zero]
    repeat (go_big_quiet_step (fail))
    refine wpQuiet_nil ?_;rintro w4 ⟨⟨_,hb4⟩,rfl⟩;have HS4b:=Jh (HS4.out.below hb4);have HR4:=Jh (HR3.out.below hb4);have HK4:=Jh (HK3.out.then_' hb4);clear x0 y0 c6 sl sx hb4;have x0:w4.cell? ⟨q+1,0,none⟩=some (.int .i64 c.last.t):=HS4b.out.x.cell 0;have y0:=HS4b.out.x.frozen 0;have HS5:=Jh (HS4b.out.setT T);have HR5:=Jh (HR4.out.far (p:=⟨q+1,0,none⟩) (by simp;omega) (by simp;omega) (.int .i64 T));have HK5:=Jh (HK4.out.setCell (p:=⟨q+1,0,none⟩) (.inr (by have:=HQ.out;simp;omega)) (.int .i64 T));go_upto_region 7 with fail
    obtain ⟨w5,hw5⟩:∃w5,w4.setCell ⟨q+1,0,none⟩ (.int .i64 T)=w5:=⟨_,rfl⟩;rw[hw5] at HS5 HR5 HK5;rw[hw5];clear hw5 x0 y0 hrne hT;have x0:w5.cell? ⟨q+1,0,none⟩=some (.int .i64 T):=HS5.out.x.cell 0
    by_cases t1:0≤T
    rotate_left
    ·have t1':decide (0≤T)=false:=decide_eq_false t1
     have hd:Kbe c S.data.toList i=none:=by
      unfold Kbe;rw[if_neg (by omega),HRA.out];dsimp only;rw[HNS.out,HT.out,if_neg (by omega)]
     have HD:=Jh hd;clear hd;go_wp2_with fail
     refine (Keo _ 91 w5).mono ?_;rintro _ _ ⟨rfl,rfl⟩;unfold Kay;go_wp2_with fail
     refine Kae rfl ?_;rw[HD.out];exact ⟨⟨91,by decide,rfl⟩,HK5.out⟩
    have t1':decide (0≤T)=true:=decide_eq_true t1
    by_cases t2:T≤1125899906842624
    rotate_left
    ·have t2':decide (T≤1125899906842624)=false:=decide_eq_false t2
     have hd:Kbe c S.data.toList i=none:=by
      unfold Kbe;rw[if_neg (by omega),HRA.out];dsimp only;rw[HNS.out,HT.out,if_neg (by omega)]
     have HD:=Jh hd;clear hd;go_wp2_with fail
     refine (Keo _ 91 w5).mono ?_;rintro _ _ ⟨rfl,rfl⟩;unfold Kay;go_wp2_with fail
     refine Kae rfl ?_;rw[HD.out];exact ⟨⟨91,by decide,rfl⟩,HK5.out⟩
    have t2':decide (T≤1125899906842624)=true:=decide_eq_true t2;go_wp2_with fail
    refine (Kfd _ 91 w5).mono ?_;rintro _ _ ⟨rfl,rfl⟩;go_upto_region 8 with fail
    have c3:w5.cell? ⟨rd,3,none⟩=some (.int .i64 ((n:Int)+1)):=by
     have:=HR5.out.cells.1;rw[hn0] at this;exact this
    have c4:w5.cell? ⟨rd,4,none⟩=some (.int .i64 c.last.t):=HR5.out.cells.2.1;have sl:=HR5.out.r.lt;have sx:=HS5.out.x.lt;obtain ⟨g,hg⟩:∃g,decide (c.last.t < T)=g:=⟨_,rfl⟩;refine Kaf 16 (by kernel_rfl) (by kernel_rfl) ?_;simp only[List.take_succ_cons,List.take_zero,List.drop_succ_cons,List.drop_zero]
    repeat (go_big_quiet_step (fail))
    refine wpQuiet_nil ?_;rintro w6 ⟨⟨_,hb6⟩,rfl⟩;have HS6:=Jh (HS5.out.below hb6);have HR6:=Jh (HR5.out.below hb6);have HK6:=Jh (HK5.out.then_' hb6);clear x0 c3 c4 sl sx hb6
    by_cases t3:c.last.t < T
    rotate_left
    ·have hgf:g=false:=by rw[←hg];exact decide_eq_false t3
     subst hgf
     have hd:Kbe c S.data.toList i=none:=by
      unfold Kbe;rw[if_neg (by omega),HRA.out];dsimp only;rw[HNS.out,HT.out,if_neg (by omega)]
     have HD:=Jh hd;clear hd;go_wp2_with fail
     refine (Keo _ 90 w6).mono ?_;rintro _ _ ⟨rfl,rfl⟩;unfold Kay;go_wp2_with fail
     refine Kae rfl ?_;rw[HD.out];exact ⟨⟨90,by decide,rfl⟩,HK6.out⟩
    have hgt:g=true:=by rw[←hg];exact decide_eq_true t3
    subst hgt;have hall:0≤T∧T≤1125899906842624∧c.last.t < T:=⟨t1,t2,t3⟩;have HALL:=Jh hall;clear hall hg;go_wp2_with fail
    refine (Kfd _ 90 w6).mono ?_;rintro _ _ ⟨rfl,rfl⟩
    have c3:w6.cell? ⟨rd,3,none⟩=some (.int .i64 ((n:Int)+1)):=by
     have:=HR6.out.cells.1;rw[hn0] at this;exact this
    obtain ⟨r2,hr2⟩:∃r2,Kbc { c with step:=ns } S.data.toList i1=r2:=⟨_,rfl⟩;have HB7:=Jh (Kus rd rb i1 S { c with step:=ns } w6.drew ⟨HR6.out.r,HR6.out.b⟩ (hc.step ns) hS_ hi1);rw[hr2] at HB7;have HRC:=Jh hr2;clear hr2;go_upto_region 11 with fail
    have x1:w6.cell? ⟨q+1,1,none⟩=some (.int .u64 (c.last.v:Int)):=HS6.out.x.cell 1;have hS:w6.drew.cell? ⟨q+1,1,none⟩=some (.int .u64 (c.last.v:Int))∧True:=⟨x1,trivial⟩;refine Kca (fun w'=>w'.cell? ⟨q+1,1,none⟩=some (.int .u64 (c.last.v:Int))∧True) 5 7 (by kernel_rfl) rfl ?_;rw[show Array.replicate 7 false = #[false,false,false,false,false,false,false] from rfl];refine Kaa (i:=0) (d:=some 73) rfl rfl (by kernel_rfl) (by kernel_rfl) (by kernel_rfl) rfl (fun _ _ _ h=>h) (by rfl) (fun w=>by go_simp;try rfl) (fun _=>hS) ?_;simp only[Act.put,Ja,Jb,Jc];refine Kap (i:=1) (d:=some 74) rfl rfl (by kernel_rfl) (by kernel_rfl) (by kernel_rfl) (by kernel_rfl) rfl (fun _ _ _ h=>h) (.inl ⟨by rfl,fun w hw=>by (obtain ⟨ha,hb⟩:=hw;go_simp;try rfl)⟩) hS ?_;simp only[Act.put,Ja,Jb,Jc];refine Kaa (i:=2) (d:=some 75) rfl rfl (by kernel_rfl) (by kernel_rfl) (by kernel_rfl) rfl (fun _ _ _ h=>h) (by rfl) (fun w=>by go_simp;try rfl) (fun _=>hS) ?_;simp only[Act.put,Ja,Jb,Jc];refine Kai (i:=3) (by kernel_rfl) rfl rfl ?_
    cases r2 with
    | none=>
     refine Oper.wp_faults (w1:=w6.drew) (g:=247) (args:=#[.pointer (some ⟨rd,0,none⟩)]) (by go_simp;try rfl) (N:=fun u w'=>(∃f,f≠0∧Ending.panicked u=Kay f)∧Kept w6.heap.size [rd,rb] w6 w') (HB7.out.mono ?_) ?_
     ·rintro _ w7 ⟨⟨f,hf,rfl⟩,hk7⟩;exact ⟨_,rfl,⟨f,hf,rfl⟩,hk7.of_drew⟩
     ·rintro u w7 ⟨hfu,hk7⟩;simp only[Exit.then];refine Kae rfl ?_
      have hd:Kbe c S.data.toList i=none:=by
       unfold Kbe;rw[if_neg (by omega),HRA.out];dsimp only;rw[HNS.out,HT.out,if_pos HALL.out,HRC.out]
      rw[hd];exact ⟨hfu,HK6.out.two hk7⟩
    | some vj=>
     obtain ⟨xd,d,J⟩:=vj;refine Oper.wp_called (d:=some 76) (w1:=w6.drew) (g:=247) (args:=#[.pointer (some ⟨rd,0,none⟩)]) rfl (by go_simp;try rfl) (N:=fun u w'=>u = .int .u64 (xd:Int)∧RdrAt rd rb S J d w'∧J≤8*S.size∧Kept w6.heap.size [rd,rb] w6 w') (HB7.out.mono ?_) ?_
     ·rintro _ w7 ⟨rfl,hq7,hi7,hk7⟩;exact ⟨_,rfl,rfl,hq7,hi7,hk7.of_drew⟩
     ·rintro _ w7 ⟨rfl,hq7,hi7,hk7⟩;have hs7:=HS6.out.keep hk7 hrd hrb
      have hdn:d.n=n+1:=by
       have:=Qeg HRC.out;rw[this];exact hn0
      have hxd:=(Kgx (hc.step ns) HRC.out).1;have x1:w7.cell? ⟨q+1,1,none⟩=some (.int .u64 (c.last.v:Int)):=hs7.x.cell 1;have z1:=hs7.x.frozen 1;obtain ⟨V,hV⟩:∃V,c.last.v ^^^ xd=V:=⟨_,rfl⟩;have hxor:bits .xor .u64 (c.last.v:Int) (xd:Int)=(V:Int):=by rw[bits_xor_u64_nat _ _ (by omega) (by omega),hV]
      have HV:=Jh hV;have HS9:=Jh (hs7.setV V);have HR9:=Jh (hq7.far (p:=⟨q+1,1,none⟩) (by simp;omega) (by simp;omega) (.int .u64 (V:Int)));have HK9:=Jh ((HK6.out.two hk7).setCell (p:=⟨q+1,1,none⟩) (.inr (by have:=HQ.out;simp;omega)) (.int .u64 (V:Int)));clear hs7 hq7 hk7 hV;refine ⟨fun _=>⟨x1,trivial⟩,?_⟩;simp only[Act.put,Ja,Jb,Jc];refine Kai (i:=4) (by kernel_rfl) rfl rfl ?_;refine Oper.wp_ran (d:=some 77) (w':=w7) (v:=.int .u64 (V:Int)) rfl (by go_simp;try rfl) ⟨fun _=>⟨x1,trivial⟩,?_⟩;simp only[Act.put,Ja,Jb,Jc];refine Kcm (i:=5) (by kernel_rfl) rfl rfl (by kernel_rfl) ?_;refine Oper.wp_ran (d:=some 78) (w':=w7) (v:=.pointer (some ⟨q+1,1,none⟩)) rfl (by go_simp;try rfl) ?_;simp only[Act.put,Ja,Jb,Jc];refine Kcm (i:=6) (by kernel_rfl) rfl rfl (by kernel_rfl) ?_;refine Oper.wp_skipped (w':=w7.setCell ⟨q+1,1,none⟩ (.int .u64 (V:Int))) rfl (by go_simp;try rfl) ?_;simp only[Act.put,Ja,Jb,Jc];refine Kau (by kernel_rfl) ?_ _;obtain ⟨w8,hw8⟩:∃w8,w7.setCell ⟨q+1,1,none⟩ (.int .u64 (V:Int))=w8:=⟨_,rfl⟩;rw[hw8] at HS9 HR9 HK9;rw[hw8];clear hw8 x1 z1 c3 hxor hS;have HN9:=Jh hdn;have hcc:=HR9.out.cells;have c3:=hcc.1;have c4:=hcc.2.1;have c5:=hcc.2.2.1;have z3:=hcc.2.2.2.2.2.2.2 3;have z4:=hcc.2.2.2.2.2.2.2 4;have z5:=hcc.2.2.2.2.2.2.2 5;clear hcc;rw[HN9.out] at c3;have x0:w8.cell? ⟨q+1,0,none⟩=some (.int .i64 T):=HS9.out.x.cell 0;have x1:w8.cell? ⟨q+1,1,none⟩=some (.int .u64 (V:Int)):=HS9.out.x.cell 1;obtain ⟨cs,hrb9,hcs⟩:=HS9.out.r;have r0:w8.cell? ⟨q,0,none⟩=some cs[0]:=(hrb9.cell 0).trans (Array.getElem?_eq_getElem (by omega));have r1:w8.cell? ⟨q,1,none⟩=some cs[1]:=(hrb9.cell 1).trans (Array.getElem?_eq_getElem (by omega));have y0:=hrb9.frozen 0;have y1:=hrb9.frozen 1;obtain ⟨u0,hu0⟩:∃u,cs[0]=u:=⟨_,rfl⟩;obtain ⟨u1,hu1⟩:∃u,cs[1]=u:=⟨_,rfl⟩;rw[hu0] at r0;rw[hu1] at r1;have HRB:=Jh hrb9;have HCS:=Jh hcs;have qr:rd≠q:=by omega
      have qr2:rd≠q+1:=by omega
      have qr3:q≠rd:=by omega
      have qr4:q+1≠rd:=by omega
      have qb:rb≠q:=by omega
      clear hrb9 hcs hu0 hu1;go_wp2_with fail
      have hR9:RdrAt rd rb S J { d with n:=n+1+1,last:=⟨T,V⟩ } ((((w8.setCell ⟨rd,4,none⟩ (.int .i64 T)).setCell ⟨rd,5,none⟩ (.int .u64 (V:Int))).setCell ⟨rd,3,none⟩ (.int .i64 ((n:Int)+1+1))).setCell ⟨q,0,none⟩ (.int .i64 T) |>.setCell ⟨q,1,none⟩ (.int .u64 (V:Int))):=
       ((((HR9.out.put 1 (.int .i64 T) { d with last:=⟨T,d.last.v⟩ } rfl).put 2 (.int .u64 (V:Int)) { d with last:=⟨T,V⟩ } rfl).put 0 (.int .i64 ((n:Int)+1+1)) { d with n:=n+1+1,last:=⟨T,V⟩ } rfl).far (p:=⟨q,0,none⟩) qr qb _).far (p:=⟨q,1,none⟩) qr qb _
      have hK9:Kept w.heap.size [rd,rb] w ((((w8.setCell ⟨rd,4,none⟩ (.int .i64 T)).setCell ⟨rd,5,none⟩ (.int .u64 (V:Int))).setCell ⟨rd,3,none⟩ (.int .i64 ((n:Int)+1+1))).setCell ⟨q,0,none⟩ (.int .i64 T) |>.setCell ⟨q,1,none⟩ (.int .u64 (V:Int))):=
       ((((HK9.out.setCell (p:=⟨rd,4,none⟩) (.inl (by simp)) _).setCell (p:=⟨rd,5,none⟩) (.inl (by simp)) _).setCell (p:=⟨rd,3,none⟩) (.inl (by simp)) _).setCell (p:=⟨q,0,none⟩) (.inr (by rw[HQ.out];exact Nat.le_refl _)) _).setCell (p:=⟨q,1,none⟩) (.inr (by rw[HQ.out];exact Nat.le_refl _)) _
      have hb9:Blk ((((w8.setCell ⟨rd,4,none⟩ (.int .i64 T)).setCell ⟨rd,5,none⟩ (.int .u64 (V:Int))).setCell ⟨rd,3,none⟩ (.int .i64 ((n:Int)+1+1))).setCell ⟨q,0,none⟩ (.int .i64 T) |>.setCell ⟨q,1,none⟩ (.int .u64 (V:Int))) q 93 #[.int .i64 T,.int .u64 (V:Int)]:=by
       have:=((((HRB.out.far (p:=⟨rd,4,none⟩) qr3 (.int .i64 T)).far (p:=⟨rd,5,none⟩) qr3 (.int .u64 (V:Int))).far (p:=⟨rd,3,none⟩) qr3 (.int .i64 ((n:Int)+1+1))).set_ 0 (.int .i64 T)).set_ 1 (.int .u64 (V:Int));rwa[Qat HCS.out] at this
      refine bodyPost_ret (Keh rfl _ _ ⟨q,0,none⟩ _ rfl (run_loadVar_row _ q 93 93 _ (0,0) _ hb9 Tryz.underlying93 rfl (by kernel_rfl))) rfl ?_
      have hd:Kbe c S.data.toList i=some (⟨T,V⟩,{ d with n:=n+1+1,last:=⟨T,V⟩ },J):=by
       unfold Kbe;rw[if_neg (by omega),HRA.out];dsimp only;rw[HNS.out,HT.out,if_pos HALL.out,HRC.out];dsimp only;rw[HV.out,hn0]
      rw[hd];exact ⟨rfl,hR9,hi7,hK9⟩
end
end Go.Proofs.YtefpndiiedkmpaaGreatDoor
