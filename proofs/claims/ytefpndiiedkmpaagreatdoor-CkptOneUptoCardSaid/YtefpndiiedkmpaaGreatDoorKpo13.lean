/- Merged (what the claim wants of): DskWalksG, DskWalksH, DskWalksI, DskWalksJ, DskWalksK, DskWalksL, DskWalksM, DskWalksN, DskWalksO, DskWalksP, DskWalksS, DskWalksT. -/
import Derived.Test.YtefpndiiedkmpaaGreatDoorKpo12
set_option linter.unusedVariables false
set_option linter.unusedSimpArgs false
set_option maxRecDepth 100000
set_option maxHeartbeats 8000000
namespace Go.Proofs.YtefpndiiedkmpaaGreatDoor
section
open Go.RowKit Go.Shelf Go.Maps Go.Sort
open Lib renaming hid → Jh
attribute [local go_sem ↓] Go.wp_at_zero Go.wp_at_succ
attribute [local go_sem] Later.cell
theorem Qii {f:Txt→Option Value} {a b:Txt} {bs:List Txt} {i:Nat} (h:i < bs.length):mvF f a b (bs.take (i+1))=upd (upd (mvF f a b (bs.take i)) (b ++ [47]++bs[i]!) (mvF f a b (bs.take i) (a ++ [47]++bs[i]!))) (a ++ [47]++bs[i]!) none:=by
 unfold mvF;rw[List.take_succ_eq_append_getElem h,getElem!_pos bs i h,List.foldl_append];rfl
theorem Qkv {f:Txt→Option Value} {a b:Txt} {bs:List Txt} (hn:bs.Nodup) (hab:∀s t:Txt,a ++ [47]++s≠b ++ [47]++t) {i:Nat} (h:i < bs.length):mvF f a b (bs.take i) (a ++ [47]++bs[i]!)=f (a ++ [47]++bs[i]!):=by
 rw[Kov f hab (bs.take i) (hn.sublist (List.take_sublist _ _)) f (fun _ _=>rfl),if_neg]
 ·have hf:(bs.take i).find? (fun s=>a ++ [47]++bs[i]! == b ++ [47]++s)=none:=by
   rw[List.find?_eq_none];intro t _;simp only[beq_iff_eq];exact hab _ t
  rw[hf]
 ·rintro ⟨s,hs,e⟩;have:=Kdz e;rw[getElem!_pos bs i h] at this;obtain ⟨j,hj,e2⟩:=List.getElem_of_mem hs;rw[List.length_take] at hj;rw[List.getElem_take] at e2;have:=(List.getElem_inj hn).1 (e2.trans this.symm);omega
theorem Qih {f:Txt→Option Value} {a b:Txt} {bs L:List Txt} (hn:bs.Nodup) (hab:∀s t:Txt,a ++ [47]++s≠b ++ [47]++t) (hL:∀x,(f x).isSome=true→x∈L) (i:Nat):∀x,(mvF f a b (bs.take i) x).isSome=true→x∈L++bs.map (fun s=>b ++ [47]++s):=by
 intro x hx;rw[Kov f hab (bs.take i) (hn.sublist (List.take_sublist _ _)) f (fun _ _=>rfl)] at hx
 split at hx
 ·cases hx
 ·split at hx
  ·rename_i s hs
   have h1:=List.find?_some hs;have h2:=List.mem_of_find?_eq_some hs;simp only[beq_iff_eq] at h1;rw[h1];exact List.mem_append.2 (.inr (List.mem_map.2 ⟨s,List.mem_of_mem_take h2,rfl⟩))
  ·exact List.mem_append.2 (.inl (hL x hx))
section
variable {md mf : Nat} {f g : Txt → Option Value}
theorem Kou (S T:ByteArray) (P:Option Addr) (w:World) (hd:SM w md f) (hf:SM w mf g) (hne:md≠mf) (hfa:f S.data.toList=none) (hga:g S.data.toList=some (.pointer P)) (hS:S.size≤maxLen) (hT:T.size≤maxLen) (L:List Txt) (hL:∀x,(g x).isSome=true→x∈L) (hn:L.length < maxLen) :
  Calls Tryz.prog 120 #[.agg #[.map (some md),.map (some mf)],.string S,.string T] w (DoOut md mf f (upd (upd g T.data.toList (some (.pointer P))) S.data.toList none) w):=by
 have HL:=Jh hL;have HFA:=Jh hfa;have HGA:=Jh hga;clear hL hfa hga;go_enter Tryz.func120,Tryz.ntmps120
 go_upto_region 1 with fail
 obtain ⟨w1,hw1⟩:∃x,w.alloc (.cells #[.map (some md),.map (some mf)] 127)=x:=⟨_,rfl⟩;have hb1:Below w.heap.size w w1:=by rw[←hw1];exact (Below.refl _ _).alloc (Nat.le_refl _) _
 have hq:Blk w1 w.heap.size 127 #[.map (some md),.map (some mf)]:=by rw[←hw1];exact Blk.new _ _ _
 rw[hw1];obtain ⟨q,hqq⟩:∃q,w.heap.size=q:=⟨_,rfl⟩;have hqd:q≠md:=by have:=hd.lt;omega
 have hqf:q≠mf:=by have:=hf.lt;omega
 rw[hqq] at hq ⊢;have q0:_=some (Value.map (some md)):=hq.cell 0;have q1:_=some (Value.map (some mf)):=hq.cell 1;have hd1:=hd.below hb1 hd.lt;have hf1:=hf.below hb1 hf.lt;clear hw1 hd hf hqq
 go_wp2_with (first
  | (at_lookup;refine Kge (T:=124) _ rfl _ _ rfl Tryz.underlying9 Tryz.underlying124 (zeroI _) rfl hd1 rfl hS (.int .i64 0) (by rw[HFA.out];rfl) ?_)
  | (at_lookup;refine Kge (T:=125) _ rfl _ _ rfl Tryz.underlying9 Tryz.underlying125 (Klt _) rfl hf1 rfl hS (.pointer P) (by rw[HGA.out];rfl) ?_)
  | (at_mapUpdate;refine Khi _ rfl _ _ _ rfl Tryz.underlying9 Tryz.underlying125 rfl hf1 rfl hT _ rfl L HL.out hn ?_))
 intro w2 hf2 hg2 _;have hd2:=hd1.grown hg2 (by simpa using hne);have hq2:=hq.grown hg2 (by simpa using hqf);have e1:_=some (Value.map (some mf)):=hq2.cell 1;clear q0 q1;go_wp2_with (at_delete;refine Kex _ rfl _ _ rfl Tryz.underlying9 Tryz.underlying125 rfl hf2 rfl hS ?_)
 intro w3 hf3 hg3 _;have hd3:=hd2.grown hg3 (by simpa using hne);have hO:Own (two md mf) (two md mf) w w3:=((Own.of_below hb1).trans (Own.of_grown hg2 (two_r _ _))).trans (Own.of_grown hg3 (two_r _ _));go_wp2_with fail
 go_end0
 exact ⟨rfl,hd3,hf3,hO⟩
theorem Kql (S T:ByteArray) (w:World) (hd:SM w md f) (hf:SM w mf g) (hne:md≠mf) (hfa:f S.data.toList=some (.int .i64 1)) (hST:∀s t:Txt,S.data.toList ++ [47]++s≠T.data.toList ++ [47]++t) (hg:∀x v,g x=some v→∃P,v = .pointer P) (hS:S.size≤1073741824) (hT:T.size≤1073741824)
  (L:List Txt) (hL:∀x,(g x).isSome=true→x∈L) (hn:L.length≤1073741824) (hz:∀x∈L,x.length≤1073741824) (LD:List Txt) (hLD:∀x,(f x).isSome=true→x∈LD) (hnD:LD.length≤1073741824) :
  Calls Tryz.prog 120 #[.agg #[.map (some md),.map (some mf)],.string S,.string T] w fun e w'=>∃bs:List Txt,bs.Nodup∧(∀x,x∈bs↔(g (S.data.toList ++ [47]++x)).isSome=true)∧DoOut md mf (upd (upd f S.data.toList none) T.data.toList (some (.int .i64 1))) (mvF g S.data.toList T.data.toList bs) w e w':=by
 have hSm:S.size≤maxLen:=by unfold maxLen;omega
 have hTm:T.size≤maxLen:=by unfold maxLen;omega
 have hLD2:∀x,(upd f S.data.toList none x).isSome=true→x∈LD:=by
  intro x hx;unfold upd at hx
  split at hx
  ·cases hx
  ·exact hLD x hx
 have HLD:=Jh hLD2;have HL:=Jh hL;have HZ:=Jh hz;have HFA:=Jh hfa;have HST:=Jh hST;have HG:=Jh hg;clear hL hfa hST hz hLD hLD2 hg;go_enter Tryz.func120,Tryz.ntmps120
 go_upto_region 1 with fail
 obtain ⟨w1,hw1⟩:∃x,w.alloc (.cells #[.map (some md),.map (some mf)] 127)=x:=⟨_,rfl⟩;have hb1:Below w.heap.size w w1:=by rw[←hw1];exact (Below.refl _ _).alloc (Nat.le_refl _) _
 have hq:Blk w1 w.heap.size 127 #[.map (some md),.map (some mf)]:=by rw[←hw1];exact Blk.new _ _ _
 rw[hw1];obtain ⟨q,hqq⟩:∃q,w.heap.size=q:=⟨_,rfl⟩;have hqd:q≠md:=by have:=hd.lt;omega
 have hqf:q≠mf:=by have:=hf.lt;omega
 rw[hqq] at hq ⊢;have q0:_=some (Value.map (some md)):=hq.cell 0;have hd1:=hd.below hb1 hd.lt;have hf1:=hf.below hb1 hf.lt;clear hw1 hd hf hqq
 go_wp2_with (first
  | (at_lookup;refine Kge (T:=124) _ rfl _ _ rfl Tryz.underlying9 Tryz.underlying124 (zeroI _) rfl hd1 rfl hSm (.int .i64 1) (by rw[HFA.out];rfl) ?_)
  | (at_delete;refine Kex _ rfl _ _ rfl Tryz.underlying9 Tryz.underlying124 rfl hd1 rfl hSm ?_))
 intro w2 hd2 hg2 _;have hf2:=hf1.grown hg2 (by simpa using Ne.symm hne);have hq2:=hq.grown hg2 (by simpa using hqd);have e0:_=some (Value.map (some md)):=hq2.cell 0;clear q0;go_wp2_with (at_mapUpdate;refine Khi _ rfl _ _ _ rfl Tryz.underlying9 Tryz.underlying124 rfl hd2 rfl hTm _ rfl LD HLD.out (by unfold maxLen;omega) ?_)
 intro w3 hd3 hg3 _;have hf3:=hf2.grown hg3 (by simpa using Ne.symm hne);have hq3:=hq2.grown hg3 (by simpa using hqd);have e0':_=some (Value.map (some md)):=hq3.cell 0;have e1':_=some (Value.map (some mf)):=hq3.cell 1;have hO3:Own (two md mf) (two md mf) w w3:=((Own.of_below hb1).trans (Own.of_grown hg2 (two_l _ _))).trans (Own.of_grown hg3 (two_l _ _));clear e0 hd1 hf1 hd2 hf2 hg2 hg3 hb1 hq hq2;go_wp2_with fail
 refine (Kkn (some md) (some mf) mf rfl g S w3 hf3 L HL.out hn hS HZ.out).mono ?_;rintro e w4 ⟨A,c,bs,rfl,hs,hc,hasc,hbs,hb4⟩;have hnd:bs.Nodup:=List.Pairwise.imp (fun {a b} h=>by intro e;subst e;exact List.lt_irrefl _ h) hasc
 have hbl2:∀x∈bs,x.length≤1073741824:=by
  intro x hx;have h1:=HZ.out _ (HL.out _ ((hbs x).1 hx));simp at h1;omega
 have HBS:=Jh hbs;have HND:=Jh hnd;have HBL:=Jh hbl2;have hd4:=hd3.below hb4 hd3.lt;have hf4:=hf3.below hb4 hf3.lt;have hq4:=hq3.below hb4 hq3.lt;have hO4:=hO3.trans (Own.of_below hb4);obtain ⟨m,hm⟩:∃m,bs.length=m:=⟨_,rfl⟩;have HM:=Jh hm;rw[hm] at hs hc ⊢;have hml:m≤1073741824:=by rw[←hm];exact Nat.le_trans (Kmb hnd fun x hx=>HL.out _ ((hbs x).1 hx)) hn
 clear hbs hnd hbl2 hb4 hd3 hf3 hq3 e0' e1' hm hasc hO3;go_wp2_with fail
 go_loopg [33] m (fun k s33 wr=>∃i:Nat,i+k=m∧s33 = .int .i64 (i:Int)∧SM wr md (upd (upd f S.data.toList none) T.data.toList (some (.int .i64 1)))∧SM wr mf (mvF g S.data.toList T.data.toList (bs.take i))∧Own (two md mf) (two md mf) w4 wr)
 case atStart=>exact ⟨0,by omega,rfl,hd4,by simpa[mvF] using hf4,Own.refl _ _⟩
 case round=>
  obtain ⟨i,hig,rfl,hdr,hfr,hO⟩:=hrel;have HIG:=Jh hig
  by_cases hi:i < m
  ·have el:decide ((i:Int) < (m:Int))=true:=by simp;omega
   have el':decide (i < m)=true:=by simp;omega
   clear hig;obtain ⟨bb,oo,rfl,hbb,hcell⟩:=hs.at_ hi;have hil:i < bs.length:=by have:=HM.out;omega
   have hmt:=Qii (f:=g) (a:=S.data.toList) (b:=T.data.toList) hil;have hmo:=Qkv (f:=g) (a:=S.data.toList) (b:=T.data.toList) HND.out HST.out hil;have hmk:=Qih (f:=g) (a:=S.data.toList) (b:=T.data.toList) (bs:=bs) (L:=L) HND.out HST.out HL.out i;have hmem:bs[i]!∈bs:=by rw[getElem!_pos bs i hil];exact List.getElem_mem _
   have hsz:=HBL.out bs[i]! hmem;have hsome:=(HBS.out bs[i]!).1 hmem;obtain ⟨s,hs'⟩:∃s,bs[i]! = s:=⟨_,rfl⟩;rw[hs'] at hcell hmt hmo hsz hsome;obtain ⟨v,hv⟩:=Option.isSome_iff_exists.1 hsome;obtain ⟨P,rfl⟩:=HG.out _ v hv;rw[hv] at hmo;rw[hmo] at hmt;unfold txtV at hcell;have k1:(S++(⟨#[47]⟩:ByteArray)++(⟨s.toArray⟩:ByteArray)).size≤maxLen:=by rw[Knn];unfold maxLen;omega
   have k2:(T++(⟨#[47]⟩:ByteArray)++(⟨s.toArray⟩:ByteArray)).size≤maxLen:=by rw[Knn];unfold maxLen;omega
   have hgk:mvF g S.data.toList T.data.toList (bs.take i) (S++(⟨#[47]⟩:ByteArray)++(⟨s.toArray⟩:ByteArray)).data.toList=some (.pointer P):=by rw[Kre];exact hmo
   obtain ⟨X,hX⟩:∃X:ByteArray,(⟨s.toArray⟩:ByteArray)=X:=⟨_,rfl⟩;have b1:S.data.toList++47 :: X.data.toList=S.data.toList ++ [47]++s:=by rw[←hX];simp
   have b2:T.data.toList++47 :: X.data.toList=T.data.toList ++ [47]++s:=by rw[←hX];simp
   rw[hX] at hcell k1 k2 hgk;have hXz:X.size≤1073741824:=by rw[←hX,←Kbn];exact hsz
   have hbbne:two md mf bb=0:=by
    apply Kdv
    ·rintro rfl;obtain ⟨D,⟨es,clock,h1,_⟩,_⟩:=hd4;simp[World.cell?,h1] at hcell
    ·rintro rfl;obtain ⟨D,⟨es,clock,h1,_⟩,_⟩:=hf4;simp[World.cell?,h1] at hcell
   have e1:=Kdq hO hcell hbbne;have e3:_=some (Value.map (some mf)):=Kdq hO (hq4.cell 1) (Kdv hqd hqf);have hLn:(L++bs.map (fun s=>T.data.toList ++ [47]++s)).length < maxLen:=by rw[List.length_append,List.length_map,HM.out];unfold maxLen;omega
   have HMT:=Jh hmt;have B1:=Jh b1;have B2:=Jh b2;have HGK:=Jh hgk;have HMK:=Jh hmk;clear hmt hmo hmk b1 b2 hgk hs' hX hcell hv hsome hsz hmem hil
   go_wp2_with (first
    | (at_lookup;refine Kge (T:=125) _ rfl _ _ rfl Tryz.underlying9 Tryz.underlying125 (Klt _) rfl hfr rfl k1 (.pointer P) (by rw[HGK.out];rfl) ?_)
    | (at_mapUpdate;refine Khi _ rfl _ _ _ rfl Tryz.underlying9 Tryz.underlying125 rfl hfr rfl k2 _ rfl _ HMK.out hLn ?_))
   intro w5 hf5 hg5 _;rw[B2.out] at hf5;have hd5:=hdr.grown hg5 (by simpa using hne);have hO5:=hO.trans (Own.of_grown hg5 (two_r md mf));have e4:_=some (Value.map (some mf)):=Kdq hO5 (hq4.cell 1) (Kdv hqd hqf);clear e3 e1;go_wp2_with (at_delete;refine Kex _ rfl _ _ rfl Tryz.underlying9 Tryz.underlying125 rfl hf5 rfl k1 ?_)
   intro w6 hf6 hg6 _;rw[B1.out,show T.data.toList++47 :: s=T.data.toList ++ [47]++s by simp] at hf6;have hd6:=hd5.grown hg6 (by simpa using hne);have hO6:=hO5.trans (Own.of_grown hg6 (two_r md mf));go_wp2_with fail
   go_roundg (gk - 1)
   case measure=>have:=HIG.out;omega
   case rel=>exact ⟨i+1,by have:=HIG.out;omega,by go_num,hd6,by rw[HMT.out];exact hf6,hO6⟩
  ·have el:decide ((i:Int) < (m:Int))=false:=by simp;omega
   have el':decide (i < m)=false:=by simp;omega
   have htk:bs.take i=bs:=List.take_of_length_le (by have:=HM.out;omega);rw[htk] at hfr;clear htk hig;go_wp2_with fail
   go_end0
   exact ⟨bs,HND.out,HBS.out,rfl,hdr,hfr,hO4.trans hO⟩
theorem Ktl (b c:Nat) (S T:ByteArray) (w:World) (Q:Ending→World→Prop) (hb:w.cell? ⟨b,0,none⟩=some (.string S)) (hc:w.cell? ⟨c,0,none⟩=some (.string T))
  (hQ:∀w1,Below w.heap.size w w1→Calls Tryz.prog 120 #[.agg #[.map (some md),.map (some mf)],.string S,.string T] w1 fun e w'=>e = .returned (.tuple #[])∧Q e w') :
  Calls Tryz.prog 119 #[.agg #[.map (some md),.map (some mf)],.pointer (some ⟨b,0,none⟩),.pointer (some ⟨c,0,none⟩)] w Q:=by
 have HQ:=Jh hQ;clear hQ;go_enter Tryz.func119,Tryz.ntmps119
 go_upto_region 1 with fail
 obtain ⟨w1,hw1⟩:∃x,w.alloc (.cells #[.map (some md),.map (some mf)] 127)=x:=⟨_,rfl⟩;have hb1:Below w.heap.size w w1:=by rw[←hw1];exact (Below.refl _ _).alloc (Nat.le_refl _) _
 have hq:Blk w1 w.heap.size 127 #[.map (some md),.map (some mf)]:=by rw[←hw1];exact Blk.new _ _ _
 rw[hw1];obtain ⟨q,hqq⟩:∃q,w.heap.size=q:=⟨_,rfl⟩;have c1:=later hb1 hb;have c2:=later hb1 hc;have HB1:=Jh hb1;rw[hqq] at hq ⊢;have q0:_=some (Value.map (some md)):=hq.cell 0;have q1:_=some (Value.map (some mf)):=hq.cell 1;clear hw1 hqq hb hc hb1;go_wp2_with fail
 refine (HQ.out w1 HB1.out).mono ?_;rintro e w2 ⟨rfl,hq2⟩;have H2:=Jh hq2;clear hq2;go_wp2_with fail
 go_end0
 exact H2.out
end
end
section
open Go.RowKit Go.Shelf Go.Maps Go.Sort
attribute [local go_sem ↓] Go.wp_at_zero Go.wp_at_succ
attribute [local go_sem] Later.cell
theorem Klb {s:Txt} (h:nameB s=true):s.length≤32:=by
 simp only[nameB,Bool.and_eq_true,decide_eq_true_eq] at h;exact h.2
theorem Kgl {s:Txt} (h:pathB s=true):s.length≤65:=by
 unfold pathB at h
 cases hs:Kaj s with
 | none=>rw[hs] at h;have:=Klb h;omega
 | some k=>
  rw[hs] at h;simp only[Bool.and_eq_true] at h;have h1:=Klb h.1;have h2:=Klb h.2;have:=Kin hs;rw[List.length_take] at h1;rw[List.length_drop] at h2;omega
theorem Kzr {w:World} {b m:Nat} {T:TypeId} {cs:Array Value} {f:Txt→Option Value} (h:Blk w b T cs) (k:SM w m f):b≠m:=by
 rintro rfl;obtain ⟨D,⟨es,clock,h1,_⟩,_⟩:=k;unfold Blk at h;rw[h] at h1;cases h1
theorem Kdu (a:Txt):(⟨a.toArray⟩:ByteArray).data.toList=a:=by simp
theorem Kja (a:Txt):(⟨a.toArray⟩:ByteArray).size=a.length:=by rw[←Kbn]
section
variable {n : Nat} {l : List Th} {φ : List Nat} {md mf : Nat} {w : World} {R : Nat → Nat}
theorem Qki {x:Txt} (h:(dirF l x).isSome=true):x∈l.map Th.path:=by
 obtain ⟨y,hy,_,e⟩:=Kdo.1 h;exact List.mem_map.2 ⟨y,hy,e⟩
theorem Kis {x:Txt} (h:(filF φ l x).isSome=true):x∈l.map Th.path:=by
 unfold filF at h
 cases hf:l.find? fun y=>!y.dir && y.path == x with
 | none=>rw[hf] at h;cases h
 | some y=>
  have h1:=List.find?_some hf;simp only[Bool.and_eq_true,beq_iff_eq] at h1;exact List.mem_map.2 ⟨y,List.mem_of_find?_eq_some hf,h1.2⟩
theorem Kmr (hw:TW n l):∀x∈l.map Th.path,x.length≤1073741824:=by
 intro x hx;obtain ⟨y,hy,rfl⟩:=List.mem_map.1 hx;have:=Kgl (hw.paths y hy);omega
theorem Kva {x:Txt} {v:Value} (h:filF φ l x=some v):∃P,v = .pointer P:=by
 unfold filF at h
 cases hf:l.find? fun y=>!y.dir && y.path == x with
 | none=>rw[hf] at h;cases h
 | some y=>rw[hf] at h;injection h with h;exact ⟨_,h.symm⟩
theorem Qht (s:St) (F:Nat) (C:Array Value) (hw:TW n l) (hok:StOk n l s) (hl:l.length≤1073741824) (hd:SM w md (dirF l)) (hf:SM w mf (filF φ l)) (hne:md≠mf) (hv:StepM w R φ s (.func (.func F) #[] C)) :
  Calls Tryz.prog F (#[.agg #[.map (some md),.map (some mf)]]++C) w (DoOut md mf (dirF (Kak l s)) (filF φ (Kak l s)) w):=by
 have hlm:(l.map Th.path).length≤1073741824:=by rw[List.length_map];exact hl
 have hmx:maxLen=9223372036854775807:=rfl
 cases s with
 | mkdir a=>exact (show False from hv).elim
 | create a i=>
  obtain ⟨b,c,e,⟨h1,h2⟩,h3,h4⟩:=hv;injection e with e1 e2 e3;injection e1 with e1;subst e1 e3;have hc:_=some (Value.string ⟨a.toArray⟩):=h1.cell 0;have hc2:_=some (fptr φ i):=h3.cell 0;have ha:=Kgl hok.1;have:=Ksz (md:=md) (mf:=mf) b c ⟨a.toArray⟩ _ w hd hf hne hc hc2 (by rw[Kja];omega) (l.map Th.path) (fun x hx=>Kis hx) (by omega);rw[Kdu] at this;rw[Kya,Kyd hok.2.2.1];exact this
 | remove a=>
  obtain ⟨b,e,h1,h2⟩:=hv;injection e with e1 e2 e3;injection e1 with e1;subst e1 e3;have hc:_=some (Value.string ⟨a.toArray⟩):=h1.cell 0;have ha:=Kgl hok.1;have:=Ktk (md:=md) (mf:=mf) b ⟨a.toArray⟩ w hd hf hne hc (Kzr h1 hd) (Kzr h1 hf) (by rw[Kja];omega) (l.map Th.path) (fun x hx=>Kis hx) hlm (Kmr hw);rw[Kdu] at this;refine this.mono ?_;rintro e w' ⟨bs,_,hbs,hD⟩;rw[Kyb hw,Qkj hw hbs];exact hD
 | rename a b=>
  obtain ⟨b',c,e,⟨h1,h2⟩,h3,h4⟩:=hv;injection e with e1 e2 e3;injection e1 with e1;subst e1 e3;have hc:_=some (Value.string ⟨a.toArray⟩):=h1.cell 0;have hc2:_=some (Value.string ⟨b.toArray⟩):=h3.cell 0;have ha:=Kgl hok.1;have hb:=Kgl hok.2.1;refine Ktl (md:=md) (mf:=mf) b' c ⟨a.toArray⟩ ⟨b.toArray⟩ w _ hc hc2 ?_;intro w1 hb1;have hd1:=hd.below hb1 hd.lt;have hf1:=hf.below hb1 hf.lt;rcases Kdy l a with h0 | h0 | h0
  ·exact absurd h0 hok.2.2.1
  ·obtain ⟨v,hv⟩:=Option.isSome_iff_exists.1 ((Kjk (φ:=φ) hw).2 h0);obtain ⟨P,rfl⟩:=Kva hv
   have hda:dirF l a=none:=by
    cases hda:dirF l a with
    | none=>rfl
    | some u=>
     have:=(Kfx hw).1 (show (dirF l a).isSome=true by rw[hda];rfl);omega
   have:=Kou (md:=md) (mf:=mf) ⟨a.toArray⟩ ⟨b.toArray⟩ P w1 hd1 hf1 hne (by rw[Kdu];exact hda) (by rw[Kdu];exact hv) (by rw[Kja];omega) (by rw[Kja];omega) (l.map Th.path) (fun x hx=>Kis hx) (by omega);rw[Kdu,Kdu] at this;refine this.mono ?_;rintro e w' ⟨k1,k2,k3,k4⟩;refine ⟨k1,k1,?_,?_,(Own.of_below hb1).trans k4⟩
   ·rw[Ktb hw hok h0];exact k2
   ·rw[Ktc hw hok h0,hv];exact k3
  ·obtain ⟨v,hv⟩:=Option.isSome_iff_exists.1 ((Kfx hw).2 h0);have hv1:=Kfy hv;subst hv1
   have hna:nameB a=true:=by
    obtain ⟨z,hz,hzd,hzp⟩:=(Klx hw.nodup).1 h0;rw[←hzp];exact hw.dirs z hz hzd
   have hnb:=(hok.2.2.2.2.2.1 h0).1
   have hST:∀s t:Txt,a ++ [47]++s≠b ++ [47]++t:=by
    intro s t e;have k1:=Kcp s (Kbt hna);have k2:=Kcp t (Kbt hnb);rw[e,k2] at k1;injection k1 with k1;apply hok.2.2.2.2.2.2;have k3:=congrArg (List.take b.length) e;rw[List.append_assoc,List.append_assoc,List.take_left] at k3;rw[←k3,k1,List.take_left]
   have:=Kql (md:=md) (mf:=mf) ⟨a.toArray⟩ ⟨b.toArray⟩ w1 hd1 hf1 hne (by rw[Kdu];exact hv) (by rw[Kdu,Kdu];exact hST) (fun x v h=>Kva h) (by rw[Kja];omega) (by rw[Kja];omega) (l.map Th.path) (fun x hx=>Kis hx) hlm (Kmr hw) (l.map Th.path) (fun x hx=>Qki hx) hlm;rw[Kdu,Kdu] at this;refine this.mono ?_;rintro e w' ⟨bs,hnd,hbs,k1,k2,k3,k4⟩;refine ⟨k1,k1,?_,?_,(Own.of_below hb1).trans k4⟩
   ·rw[Kuv hw hok h0];exact k2
   ·rw[Kvb hw hok h0 hnd hbs];exact k3
end
section
variable {B0 : Nat} {a : Nat → Addr} {R : Nat → Nat} {A : Adr} {d : Ds} {w w' : World}
theorem CD.maps_only (h:CD B0 w R A d) {l:List Th} (ho:Own (two A.md A.mf) (two A.md A.mf) w w') (hd:SM w' A.md (dirF l)) (hf:SM w' A.mf (filF A.φ l)):CD B0 w' R A { d with things:=l }:=by
 have key:∀k,R k≠0→R k≠2→R k≠3→w'.heap[k]? = w.heap[k]?∧R k=R k:=fun k hk h2 h3=>⟨ho.block k (h.inw k hk) (Kdv (fun e=>h2 (by rw[e];exact h.dirs.2)) (fun e=>h3 (by rw[e];exact h.files.2))),rfl⟩
 exact {
  blk:=((key A.p (by rw[h.rp];omega) (by rw[h.rp];omega) (by rw[h.rp];omega)).1).trans h.blk
  rp:=h.rp
  dirs:=⟨hd,h.dirs.2⟩
  files:=⟨hf,h.files.2⟩
  sdirs:=h.sdirs.same fun k hk=>key k (by omega) (by omega) (by omega)
  sfiles:=h.sfiles.same fun k hk=>key k (by omega) (by omega) (by omega)
  steps:=h.steps.same fun k hk=>key k (by omega) (by omega) (by omega)
  bytes:=h.bytes.same fun k hk=>key k (by omega) (by omega) (by omega)
  inw:=h.inw.mono ho.size
  low:=h.low }
theorem CD.md_mf (h:CD B0 w R A d):A.md≠A.mf:=by
 intro e;have h1:=h.dirs.2;have h2:=h.files.2;rw[e] at h1;omega
theorem Own.of_two (h:CD B0 w R A d) (ho:Own (two A.md A.mf) (two A.md A.mf) w w'):Own R R w w':=
 ⟨ho.os,ho.tape,ho.output,ho.size,fun k hk hr=>ho.block k hk (Kdv (fun e=>by have:=h.dirs.2;rw[←e] at this;omega) (fun e=>by have:=h.files.2;rw[←e] at this;omega)),fun _ _=>rfl⟩
def rowR (R:Nat→Nat) (v:Value) (r:Nat):Nat→Nat:=fun k=>if v.ownBlock=some k then r else R k
theorem Kwg {v v':Value} {r:Nat} (hv:∀g,v.ownBlock=some g→R g=r) (hat:v'.ownBlock=v.ownBlock∨∃g,v'.ownBlock=some g∧w.heap.size≤g) {k:Nat} (hk:k < w.heap.size):rowR R v' r k=R k:=by
 unfold rowR
 split
 ·rename_i e
  rcases hat with h1 | ⟨g,h1,h2⟩
  ·rw[h1] at e;exact (hv k e).symm
  ·rw[h1] at e;injection e with e;omega
 ·rfl
theorem Qew:(Tryz.prog.info? 156).map (fun i=>(i.zero,i.size,i.bytes))=some (some .nilFunc,1,8):=by kernel_rfl
end
end
section
open Go.RowKit Go.Shelf Go.Maps Go.Sort
open Lib renaming hid → Jh
attribute [local go_sem ↓] Go.wp_at_zero Go.wp_at_succ
attribute [local go_sem] Later.cell
section
variable {B0 : Nat} {a : Nat → Addr} {R : Nat → Nat} {A : Adr} {d : Ds} {w w' : World}
theorem CD.step_more (h:CD B0 w R A d) {s:St} {f v':Value} {fs:List Value} {w2:World} (hs:StepM w R A.φ s f) (hfs:fs.length=d.steps.length) (hall:∀(i:Nat) s f,d.steps[i]? = some s→fs[i]? = some f→StepM w R A.φ s f)
  (hv:∀g,A.sv.ownBlock=some g→R g=7) (hg:w.grownBy w2 A.sv.ownBlock) (hrow:w2.ownsRow 0 156 1 v' (d.steps.length+1) (fs ++ [f])) (hat:v'.ownBlock=A.sv.ownBlock∨∃g,v'.ownBlock=some g∧w.heap.size≤g) :
  CD B0 (w2.setCell ⟨A.p,4,none⟩ v') (rowR R v' 7) { A with sv:=v' } { d with steps:=d.steps ++ [s] }∧Own R (rowR R v' 7) w (w2.setCell ⟨A.p,4,none⟩ v'):=by
 have hold:∀k,k < w.heap.size→rowR R v' 7 k=R k:=fun k hk=>Kwg hv hat hk
 have hpl:=Blk.lt h.blk
 have key:∀k,R k≠0→R k≠1→R k≠7→(w2.setCell ⟨A.p,4,none⟩ v').heap[k]? = w.heap[k]?∧rowR R v' 7 k=R k:=by
  intro k hk h1 h7;have hkl:=h.inw k hk;refine ⟨(Below.heap_setCell _ _ _ k (fun e=>h1 (by rw[e];exact h.rp))).trans (hg.block k hkl (fun e=>h7 (hv k e.symm))),hold k hkl⟩
 have hpv:v'.ownBlock≠some A.p:=by
  intro e;rcases hat with h1 | ⟨g,h1,h2⟩
  ·rw[h1] at e;have:=hv _ e;have:=h.rp;omega
  ·rw[h1] at e;injection e with e;omega
 have hpS:some A.p≠A.sv.ownBlock:=by
  intro e;have:=hv _ e.symm;have:=h.rp;omega
 have hblk2:Blk w2 A.p _ _:=Blk.grown h.blk hg hpS;have hsz2:(w2.setCell ⟨A.p,4,none⟩ v').heap.size=w2.heap.size:=by simp[World.setCell]
 refine ⟨{
  blk:=hblk2.set_ 4 v'
  rp:=(hold _ hpl).trans h.rp
  dirs:=h.dirs.same fun k hk=>key k (by omega) (by omega) (by omega)
  files:=h.files.same fun k hk=>key k (by omega) (by omega) (by omega)
  sdirs:=h.sdirs.same fun k hk=>key k (by omega) (by omega) (by omega)
  sfiles:=h.sfiles.same fun k hk=>key k (by omega) (by omega) (by omega)
  steps:=?_
  bytes:=h.bytes.same fun k hk=>key k (by omega) (by omega) (by omega)
  inw:=?_
  low:=?_ },?_⟩
 ·refine ⟨fs ++ [f],⟨?_,fun g hg'=>by simp[rowR,hg']⟩,by simp[hfs],fun i s' f' hs' hf'=>?_⟩
  ·rw[List.length_append];exact ownsRow_setCell_other hrow (a:=⟨A.p,4,none⟩) hpv _
  ·have k5:∀k,R k=5→(w2.setCell ⟨A.p,4,none⟩ v').heap[k]? = w.heap[k]?∧rowR R v' 7 k=R k:=fun k hk=>key k (by omega) (by omega) (by omega)
   rw[List.getElem?_append] at hs' hf';rw[hfs] at hf'
   split at hs'
   ·rename_i hi
    rw[if_pos hi] at hf';exact (hall i s' f' hs' hf').same k5
   ·rename_i hi
    rw[if_neg hi] at hf'
    have hi0:i - d.steps.length=0:=by
     apply Classical.byContradiction;intro hne;rw[List.getElem?_eq_none (by simp;omega)] at hs';cases hs'
    rw[hi0] at hs' hf';simp at hs' hf';subst hs' hf';exact hs.same k5
 ·intro k hk;rw[hsz2];unfold rowR at hk
  split at hk
  ·rename_i e
   exact (hrow.lt k e).2
  ·exact Nat.lt_of_lt_of_le (h.inw k hk) hg.size
 ·intro k hk;unfold rowR
  split
  ·rename_i e
   rcases hat with h1 | ⟨g,h1,h2⟩
   ·rw[h1] at e;have:=hv k e;have:=h.low k hk;omega
   ·rw[h1] at e;injection e with e;have h3:k < w.heap.size∨w.heap.size≤k:=by omega
    have hB:B0≤w.heap.size∨w.heap.size < B0:=by omega
    rcases hB with hB | hB
    ·omega
    ·have:=h.low A.p (by omega);have:=h.rp;omega
  ·exact h.low k hk
 ·refine ⟨hg.os,hg.tape,hg.output,by rw[hsz2];exact hg.size,fun k hk hr=>?_,hold⟩;exact (Below.heap_setCell _ _ _ k (fun e=>by have e':k=A.p:=e;have:=h.rp;rw[e'] at hr;omega)).trans (hg.block k hk (fun e=>by have:=hv k e.symm;omega))
theorem Kzg {φ : List Nat} {st:St} {F:Nat} {C:Array Value} (h:StepM w R φ st (.func (.func F) #[] C)):∀(args:Array Value) (w:World),(callFunc F args).run Tryz.prog w = .ok (.enter F args) w:=by
 cases st with
 | mkdir x=>exact (show False from h).elim
 | create x i=>
  obtain ⟨b,c,e,_⟩:=h;injection e with e1 _ _;injection e1 with e1;subst e1;exact enters_of Tryz.func115 (by kernel_rfl) rfl
 | rename x y=>
  obtain ⟨b,c,e,_⟩:=h;injection e with e1 _ _;injection e1 with e1;subst e1;exact enters_of Tryz.func119 (by kernel_rfl) rfl
 | remove x=>
  obtain ⟨b,e,_⟩:=h;injection e with e1 _ _;injection e1 with e1;subst e1;exact enters_of Tryz.func111 (by kernel_rfl) rfl
def Kad (B0:Nat) (a:Nat→Addr) (R:Nat→Nat) (A:Adr) (r:Nat×Ds) (op s:ByteArray) (w:World) (e:Ending) (w':World):Prop:=
 ∃v R' A',e = .returned v∧ErrV a w' op s r.1 v∧CD B0 w' R' A' r.2∧Own R R' w w'∧A'.p=A.p∧A'.φ=A.φ
theorem Kej (op s:ByteArray) (st:St) (F:Nat) (C:Array Value) (w:World) (h:CD B0 w R A d) (hv:StepM w R A.φ st (.func (.func F) #[] C)) (hw:TW d.files.length d.things) (hok:StOk d.files.length d.things st) (hl:d.things.length≤1073741824) (hsl:d.steps.length≤1073741824)
  (haw:d.await≤9223372036854775807) (hB:B0≤w.heap.size) (hF:Fails B0 a w) :
  Calls Tryz.prog 110 #[.pointer (some ⟨A.p,0,none⟩),.string op,.string s,.func (.func F) #[] C] w (Kad B0 a R A (Kaz d st) op s w):=by
 obtain ⟨i0,hi0,hz0,hz1,hz2⟩:=info_parts Qew;have HST:=Jh (Khe op s w h haw hB hF);have HN:=Jh (rfl:Kaz d st=Kaz d st);obtain ⟨p,hp⟩:∃p,A.p=p:=⟨_,rfl⟩;have HP:=Jh hp;rw[hp] at HST ⊢;have HV:=Jh hv;have HW:=Jh hw;have HOK:=Jh hok;have hbase:=Jh h;clear hp hv hw hok h haw hF;go_enter Tryz.func110,Tryz.ntmps110
 go_wp2_with fail
 refine HST.out.mono ?_;rintro _ w1 ⟨v,rfl,hv1,hcd,hO,hfar⟩;obtain ⟨k,d1,hk⟩:∃k d1,stepD d=(k,d1):=⟨_,_,rfl⟩;rw[hk] at hv1 hcd;have HK:=Jh hk;clear hk HST
 cases k with
 | succ k=>
  obtain ⟨q,rfl,hq⟩:=hv1
  have hfin:Kad B0 a R A (Kaz d st) op s w (.returned (.iface 56 (.pointer (some ⟨q,0,none⟩)))) w1:=by
   have e1:Kaz d st=(k+1,d1):=by unfold Kaz;rw[HK.out];simp
   rw[e1];exact ⟨_,R,A,rfl,⟨q,rfl,hq⟩,hcd,hO,rfl,rfl⟩
  have HFIN:=Jh hfin;clear hfin hcd hO hq;go_wp2_with fail
  go_ret
  exact HFIN.out
 | zero=>
  obtain rfl:v = .nilIface:=hv1
  have hd1:d1.things=d.things∧d1.steps=d.steps∧d1.files=d.files:=by
   have:=HK.out;unfold stepD at this
   repeat' split at this
   all_goals (injection this with t1 t2;subst t2;exact ⟨rfl,rfl,rfl⟩)
  have e1:Kaz d st=(0,{ d1 with things:=Kak d.things st,steps:=d.steps ++ [st] }):=by unfold Kaz;rw[HK.out];simp
  have HE1:=Jh e1;have HD1:=Jh hd1;clear e1 hd1;have hpp:=HP.out;have c0:w1.cell? ⟨p,0,none⟩=some (.map (some A.md)):=by rw[←hpp];exact Blk.cell hcd.blk 0
  have c1:w1.cell? ⟨p,1,none⟩=some (.map (some A.mf)):=by rw[←hpp];exact Blk.cell hcd.blk 1
  have hvs:StepM w1 R A.φ st (.func (.func F) #[] C):=by
   refine StepM.same HV.out fun k hk=>?_
   exact ⟨hfar k (hbase.out.inw k (by omega)) (fun e=>by have:=hbase.out.rp;rw[←e] at this;omega),rfl⟩
  have hdo:=Qht (R:=R) st F C HW.out HOK.out hl (by rw[←HD1.out.1];exact hcd.dirs.1) (by rw[←HD1.out.1];exact hcd.files.1) hcd.md_mf hvs;have HDO:=Jh hdo;have hcell4:w1.cell? ⟨p,4,none⟩=some A.sv:=by rw[←hpp];exact Blk.cell hcd.blk 4
  have HVS:=Jh hvs;clear hdo hvs hfar;have heg:=Kzg HVS.out;go_wp2_with fail
  refine HDO.out.mono ?_;rintro _ w2 ⟨rfl,hd2,hf2,hO2⟩;clear heg;have hcd2:=hcd.maps_only hO2 hd2 hf2;have hO2R:=Own.of_two hcd hO2;have hvs2:StepM w2 R A.φ st (.func (.func F) #[] C):=HVS.out.same fun k hk=>⟨hO2.block k (hcd.inw k (by omega)) (Kdv (fun e=>by have:=hcd.dirs.2;rw[←e] at this;omega) (fun e=>by have:=hcd.files.2;rw[←e] at this;omega)),rfl⟩
  obtain ⟨fs,hrow,hfs,hall⟩:=hcd2.steps;have hst1:({ d1 with things:=Kak d.things st }:Ds).steps=d.steps:=HD1.out.2.1;rw[hst1] at hrow hfs hall;obtain ⟨m,hm⟩:∃m,d.steps.length=m:=⟨_,rfl⟩;rw[hm] at hrow hsl;obtain ⟨X,c,hsv,_,_,hmc⟩:=Elems.of_own (enc:=fun v:Value=>[v]) (xs:=fs) (fun _ _=>rfl) (by simp) hrow.1 (by rw[hfs,hm]);have c4:w2.cell? ⟨p,4,none⟩=some (.slice X m c):=by rw[←hsv,←hpp];exact Blk.cell hcd2.blk 4
  have hrow':=hrow.1;rw[hsv] at hrow';have hlt2:=Blk.lt hcd2.blk;rw[hpp] at hlt2;have HALL:=Jh hall;have HFS:=Jh hfs;have HM:=Jh hm;have HSV:=Jh hsv;have HROW2:=Jh hrow.2;have HVS2:=Jh hvs2;have HST1:=Jh hst1;have HCD2:=Jh hcd2;have HO12:=Jh (hO.trans hO2R);have hPblk:=hcd2.blk;unfold DBlk at hPblk;rw[hpp] at hPblk
  have hpS:some p≠(Value.slice X m c).ownBlock:=by
   rw[←hsv];intro e;have h1:=hrow.2 _ e.symm;have h2:=hcd2.rp;rw[hpp] at h2;omega
  clear hall hfs hm hsv hrow hvs2 hst1 hcd2 hO2R hO2 hd2 hf2 hO hcd HDO hcell4 c0 c1 HVS;go_wp2_with (at_builtin;refine wpList_append_own_at _ rfl _ _ 128 rfl 0 156 i0 .nilFunc 1 8 Tryz.underlying128 hi0 hz0 hz1 hz2 rfl (by decide) _ _ _ rfl (hrow'.alloc _) ⟨w2.heap.size,0,none⟩ 1 1 [.func (.func F) #[] C] rfl rfl ?p1 ?p2 ?p3 ?p4 ?p5 ?_)
  case p1=>exact Kas (l:=[.func (.func F) #[] C]) (Blk.new w2 _ _)
  case p2=>intro u hu;rw[List.mem_singleton.1 hu];rfl
  case p3=>unfold maxLen;omega
  case p4=>omega
  case p5=>exact Nat.zero_le _
  intro v' w3 hown' hgrow _ hat;have hall2:w2.grownBy w3 (Value.slice X m c).ownBlock:=(World.grownBy_alloc w2 _ _).trans hgrow;have hP3:=hPblk.grown hall2 hpS;obtain ⟨X3,c3,rfl,_,_,_⟩:=Elems.of_own (enc:=fun v:Value=>[v]) (xs:=fs ++ [.func (.func F) #[] C]) (fun _ _=>rfl) (by simp) hown' (by rw[List.length_append,HFS.out,HM.out];rfl)
  have hat':(Value.slice X3 (m+1) c3).ownBlock=(Value.slice X m c).ownBlock∨∃g,(Value.slice X3 (m+1) c3).ownBlock=some g∧w2.heap.size≤g:=by
   rcases hat with h1 | h1
   ·exact .inl h1
   ·exact .inr ⟨_,h1,by simp⟩
  have hmore:=CD.step_more HCD2.out (s:=st) (f:=.func (.func F) #[] C) (v':=.slice X3 (m+1) c3) (fs:=fs) (w2:=w3) HVS2.out (by rw[HST1.out];exact HFS.out) (by rw[HST1.out];exact HALL.out) HROW2.out (by rw[HSV.out];exact hall2) (by rw[HST1.out,HM.out];exact hown') (by rw[HSV.out];exact hat');rw[hpp,HST1.out] at hmore;obtain ⟨hc4,ho4⟩:=hmore
  have k4:w3.cell? ⟨p,4,none⟩=some (Value.slice X m c):=by
   have:=hP3.cell 4;rw[HSV.out] at this;exact this
  have g4:=hP3.frozen 4;have HC4:=Jh hc4;have HO4:=Jh (HO12.out.trans ho4);clear hc4 ho4 hown' hgrow hat hat' hall2 hP3 hPblk hrow' hpS;go_wp2_with fail
  go_ret
  exact ⟨_,_,⟨p,A.md,A.mf,A.sd,A.sf,.slice X3 (m+1) c3,A.φ⟩,rfl,by rw[HE1.out];rfl,by rw[HE1.out];exact HC4.out,HO4.out,HP.out.symm,rfl⟩
end
end
section
open Go.RowKit Go.Shelf Go.Maps Go.Sort
attribute [local go_sem ↓] Go.wp_at_zero Go.wp_at_succ
attribute [local go_sem] Later.cell
section
variable {B0 : Nat} {a : Nat → Addr} {R : Nat → Nat} {A : Adr} {d : Ds} {w w' : World}
theorem CD.grant (h:CD B0 w R A d) {b:Nat} (hb:b < w.heap.size) (hR:R b=0) (hB:B0≤b) (r:Nat):CD B0 w (giv R b r) A d:=
 h.same (fun k hk=>⟨rfl,Kba (by rintro rfl;exact hk hR)⟩) (h.inw.give (Nat.le_refl _) hb) (fun k hk=>by rw[Kba (by omega)];exact h.low k hk)
structure Fit (d:Ds):Prop where
 tw:TW d.files.length d.things
 tl:d.things.length≤536870912
 sl:d.steps.length≤536870912
 fl:d.files.length≤536870912
 aw:d.await≤9223372036854775807
theorem Kcb (h:CD B0 w R A d) (hf:Fit d) (S:ByteArray) (hS:S.size≤1073741824) (r:Int) (hr:(if isT d.things S.data.toList=2 then 1 else 0)=r) (x:Later w):(Instr.lookup 124 (.map (some A.md)) (.string S) false).run Tryz.prog x.w = .ok (.int .i64 r) x.w:=by
 have h1:=h.dirs.1.below x.h h.dirs.1.lt;have:=h1.look Tryz.underlying9 Tryz.underlying124 (zeroI x.w) (s:=S) (by unfold maxLen;omega)
 have key:(dirF d.things S.data.toList).getD (.int .i64 0) = .int .i64 r:=by
  rw[←hr]
  split
  ·rename_i e
   obtain ⟨v,hv⟩:=Option.isSome_iff_exists.1 ((Kfx hf.tw).2 e);rw[hv,Kfy hv];rfl
  ·rename_i e
   cases hv:dirF d.things S.data.toList with
   | none=>rfl
   | some v=>exact absurd ((Kfx hf.tw).1 (by rw[hv];rfl)) e
 rw[this,key]
theorem Kea (h:CD B0 w R A d) (hf:Fit d) (S:ByteArray) (hS:S.size≤1073741824):∃P:Option Addr,(P=none↔isT d.things S.data.toList≠1)∧∀x:Later w,(Instr.lookup 125 (.map (some A.mf)) (.string S) false).run Tryz.prog x.w = .ok (.pointer P) x.w:=by
 cases hv:filF A.φ d.things S.data.toList with
 | none=>
  refine ⟨none,⟨fun _ e=>?_,fun _=>rfl⟩,fun x=>?_⟩
  ·have:=(Kjk (φ:=A.φ) hf.tw).2 e;rw[hv] at this;cases this
  ·have h1:=h.files.1.below x.h h.files.1.lt;have:=h1.look Tryz.underlying9 Tryz.underlying125 (Klt x.w) (s:=S) (by unfold maxLen;omega);rw[this,hv];rfl
 | some v=>
  obtain ⟨y,hy,_,_,rfl⟩:=(Kch hf.tw.nodup).1 hv;refine ⟨some ⟨A.φ[y.at_]?.getD 0,0,none⟩,⟨(fun e=>by cases e),fun e=>?_⟩,fun x=>?_⟩
  ·exact absurd ((Kjk (φ:=A.φ) hf.tw).1 (by rw[hv];rfl)) e
  ·have h1:=h.files.1.below x.h h.files.1.lt;have:=h1.look Tryz.underlying9 Tryz.underlying125 (Klt x.w) (s:=S) (by unfold maxLen;omega);rw[this,hv];rfl
theorem Kad.bad {k:Nat} {op s:ByteArray} {w0:World} {v:Value} (h:CD B0 w0 R A d) (hb:Below w0.heap.size w0 w) (hv:ErrV a w op s k v):Kad B0 a R A (k,d) op s w0 (.returned v) w:=
 ⟨v,R,A,rfl,hv,h.below hb,Own.of_below hb,rfl,rfl⟩
end
end
section
open Go.RowKit Go.Shelf Go.Maps Go.Sort
open Lib renaming hid → Jh
attribute [local go_sem ↓] Go.wp_at_zero Go.wp_at_succ
attribute [local go_sem] Later.cell
section
variable {B0 : Nat} {a : Nat → Addr} {R : Nat → Nat} {A : Adr} {d : Ds} {w w' : World}
theorem Kwc (S:ByteArray) (w:World) (h:CD B0 w R A d) (hf:Fit d) (hS:S.size≤1073741824) (hB:B0≤w.heap.size) (hF:Fails B0 a w) :
  Calls Tryz.prog 54 #[.pointer (some ⟨A.p,0,none⟩),.string S] w (Kad B0 a R A (Kaw d S.data.toList) ⟨#[114,101,109,111,118,101]⟩ S w):=by
 obtain ⟨rn,hrn⟩:∃r,pathB S.data.toList=r:=⟨_,rfl⟩;have HNM:=Jh (fun w=>Kfo S rn hrn hS w);have HRN:=Jh hrn;obtain ⟨p,hp⟩:∃p,A.p=p:=⟨_,rfl⟩;have HP:=Jh hp;rw[hp];have H0:=Jh h;clear hrn hp;go_enter Tryz.func54,Tryz.ntmps54
 go_upto_region 1 with fail
 obtain ⟨w1,hw1⟩:∃x,w.alloc (.cells #[.string S] 9)=x:=⟨_,rfl⟩;have hb1:Below w.heap.size w w1:=by rw[←hw1];exact (Below.refl _ _).alloc (Nat.le_refl _) _
 have hq:Blk w1 w.heap.size 9 #[.string S]:=by rw[←hw1];exact Blk.new _ _ _
 rw[hw1];obtain ⟨q,hqq⟩:∃q,w.heap.size=q:=⟨_,rfl⟩;have hR0:R q=0:=h.inw.new (by omega);rw[hqq] at hq hB ⊢;have HQ:=Jh hqq;have q0:_=some (Value.string S):=hq.cell 0;have hql:=hq.lt;clear hw1 hqq;refine Kaf 4 (by kernel_rfl) (by kernel_rfl) ?_;simp only[List.take_succ_cons,List.take_zero,List.drop_succ_cons,List.drop_zero]
 repeat (go_big_quiet_step ((go_at_call 109;exact Kbo _ (HNM.out _))))
 refine wpQuiet_nil ?_;rintro w2 ⟨⟨_,hb2⟩,rfl⟩;have hB2:=then_ hb1 hb2;have hcd2:=h.below hB2;have hF2:Fails B0 a w2:=hF.below (hB2.mono (by have:=HQ.out;omega));have hoff:w2.cell? ⟨p,6,none⟩=some (.bool d.off):=by rw[←HP.out];exact Blk.cell hcd2.blk 6
 obtain ⟨k,hk⟩:∃k,Kcg d.off rn=k:=⟨_,rfl⟩;have HK:=Jh hk;have hq2:=hq.below hb2 hq.lt;have hready:=Kek (B0:=B0) (a:=a) p d.off rn ⟨#[114,101,109,111,118,101]⟩ S k hk w2 hoff hF2;have HRD:=Jh hready;clear hk hready hq q0 hql hb1 hb2;go_wp2_with fail
 refine HRD.out.mono ?_;rintro _ w3 ⟨v,rfl,hv3,hb3⟩;have hB3:=then_ hB2 hb3;have hcd3:=h.below hB3;have hF3:=hF2.below (hb3.mono (by have:=hB2.size;have:=HQ.out;omega));have hq3:=hq2.below hb3 hq2.lt;clear hcd2 hF2 hoff hq2 hb3 HRD hB2
 cases k with
 | succ k=>
  have hfin:Kad B0 a R A (Kaw d S.data.toList) ⟨#[114,101,109,111,118,101]⟩ S w (.returned v) w3:=by
   have e1:Kaw d S.data.toList=(k+1,d):=by
    have hk:=HK.out;unfold Kcg at hk;unfold Kaw;rw[←hk,HRN.out]
    cases ho:d.off with
    | true=>simp
    | false=>
     rw[ho] at hk
     cases rn with
     | true=>simp at hk
     | false=>simp
   rw[e1];exact Kad.bad h hB3 hv3
  obtain ⟨q4,rfl,_⟩:=hv3;have HFIN:=Jh hfin;clear hfin hcd3 hF3 hq3 hB3;go_wp2_with fail
  go_ret
  exact HFIN.out
 | zero=>
  obtain rfl:v = .nilIface:=hv3
  obtain ⟨ho,hn⟩:d.off=false∧rn=true:=by
   have hk:=HK.out;unfold Kcg at hk
   cases ho:d.off with
   | true=>rw[ho] at hk;simp at hk
   | false=>
    rw[ho] at hk
    cases rn with
    | true=>exact ⟨rfl,rfl⟩
    | false=>simp at hk
  have e1:Kaw d S.data.toList=if isT d.things S.data.toList=0 then (4,d) else Kaz d (.remove S.data.toList):=by
   unfold Kaw;rw[ho,HRN.out,hn];simp
  have HE1:=Jh e1;obtain ⟨P,hP,hlf⟩:=Kea hcd3 hf S hS;have c0:w3.cell? ⟨p,0,none⟩=some (.map (some A.md)):=by rw[←HP.out];exact Blk.cell hcd3.blk 0
  have c1:w3.cell? ⟨p,1,none⟩=some (.map (some A.mf)):=by rw[←HP.out];exact Blk.cell hcd3.blk 1
  have q0:_=some (Value.string S):=hq3.cell 0;have hql:=hq3.lt;have hpl:p < w3.heap.size:=Kah c0;have HPP:=Jh hP;have HNB:=Jh (HRN.out.trans hn);clear ho hn e1 hP HK;go_upto_region 4 with fail
  rcases Kdy d.things S.data.toList with h0 | h0 | h0
  ·obtain rfl:P=none:=HPP.out.2 (by rw[h0];omega);have hlk:=Kcb hcd3 hf S hS 0 (by rw[h0];rfl);refine Kab (by kernel_rfl) (by kernel_rfl) ?_
   repeat (go_big_quiet_step (fail))
   refine wpQuiet_nil ?_;rintro w4 ⟨⟨_,hb4⟩,rfl⟩;have hB4:=then_ hB3 hb4;have hq4:=hq3.below hb4 hq3.lt;have hF4:=hF3.below (hb4.mono (by have:=hB3.size;have:=HQ.out;omega));have f5:_=some (failV a 4):=(hF4 4 (by decide)).2;have hfl:=Kbr (a:=a) ⟨#[114,101,109,111,118,101]⟩ S 3 w4;unfold failV at f5 hfl;simp only[failG] at f5;have HFL:=Jh hfl;have e2:Kaw d S.data.toList=(4,d):=by rw[HE1.out,if_pos h0]
   have HE2:=Jh e2;have q0':_=some (Value.string S):=hq4.cell 0;clear hfl hF4 e2 hlk hlf q0 c0 c1 h0;go_wp2_with fail
   refine HFL.out.mono ?_;rintro e w5 ⟨v,rfl,hv5,hb5⟩
   have hfin:Kad B0 a R A (Kaw d S.data.toList) ⟨#[114,101,109,111,118,101]⟩ S w (.returned v) w5:=by
    rw[HE2.out];exact Kad.bad h (then_ hB4 hb5) hv5
   have HFIN:=Jh hfin;clear hfin hv5;go_wp2_with fail
   go_ret
   exact HFIN.out
  ·obtain ⟨P',rfl⟩:∃P',P=some P':=by
    cases P with
    | none=>exact absurd h0 (HPP.out.1 rfl)
    | some P'=>exact ⟨P',rfl⟩
   have hlk:=Kcb hcd3 hf S hS 0 (by rw[h0];rfl);refine Kab (by kernel_rfl) (by kernel_rfl) ?_
   repeat (go_big_quiet_step (fail))
   refine wpQuiet_nil ?_;rintro w4 ⟨⟨_,hb4⟩,rfl⟩;have hB4:=then_ hB3 hb4;have hcd4:=h.below hB4;have hq4:=hq3.below hb4 hq3.lt;have hcd5:CD B0 w4 (giv R q 5) A d:=hcd4.grant hq4.lt hR0 hB 5
   have hST:StepM w4 (giv R q 5) A.φ (.remove S.data.toList) (.func (.func 111) #[] #[.pointer (some ⟨q,0,none⟩)]):=⟨q,rfl,by
    have e:txtV S.data.toList = .string S:=by unfold txtV;rw[←Kdi rfl]
    rw[Box,e]
    exact ⟨hq4,Kcq R q 5⟩⟩
   have hF4:=hF3.below (hb4.mono (by have:=hB3.size;have:=HQ.out;omega));have hnm:=Kej (a:=a) ⟨#[114,101,109,111,118,101]⟩ S (.remove S.data.toList) _ _ w4 hcd5 hST hf.tw ⟨HNB.out,by rw[h0];simp⟩ (by have:=hf.tl;omega) (by have:=hf.sl;omega) hf.aw (by have:=hB4.size;have:=HQ.out;omega) hF4;rw[HP.out] at hnm;have e2:Kaw d S.data.toList=Kaz d (.remove S.data.toList):=by rw[HE1.out,if_neg (by rw[h0];simp)]
   have HE2:=Jh e2;have hO:Own R (giv R q 5) w w4:=(Own.of_below hB4).give (by have:=HQ.out;omega);have HO:=Jh hO;have HNM2:=Jh hnm;have q0':_=some (Value.string S):=hq4.cell 0;clear hnm hST hcd4 hcd5 hF4 e2 hO hlk hlf q0 c0 c1 h0;go_wp2_with fail
   refine HNM2.out.mono ?_;rintro e w5 hN;obtain ⟨v,R',A',rfl,k2,k3,k4,k5⟩:=hN
   have hfin:Kad B0 a R A (Kaw d S.data.toList) ⟨#[114,101,109,111,118,101]⟩ S w (.returned v) w5:=by
    rw[HE2.out];exact ⟨v,R',A',rfl,k2,k3,HO.out.trans k4,k5⟩
   have HFIN:=Jh hfin;clear hfin k2 k3 k4 k5;go_wp2_with fail
   go_ret
   exact HFIN.out
  ·have _t:=trivial;have hlk:=Kcb hcd3 hf S hS 1 (by rw[h0];rfl);refine Kab (by kernel_rfl) (by kernel_rfl) ?_
   repeat (go_big_quiet_step (fail))
   refine wpQuiet_nil ?_;rintro w4 ⟨⟨_,hb4⟩,rfl⟩;have hB4:=then_ hB3 hb4;have hcd4:=h.below hB4;have hq4:=hq3.below hb4 hq3.lt;have hcd5:CD B0 w4 (giv R q 5) A d:=hcd4.grant hq4.lt hR0 hB 5
   have hST:StepM w4 (giv R q 5) A.φ (.remove S.data.toList) (.func (.func 111) #[] #[.pointer (some ⟨q,0,none⟩)]):=⟨q,rfl,by
    have e:txtV S.data.toList = .string S:=by unfold txtV;rw[←Kdi rfl]
    rw[Box,e]
    exact ⟨hq4,Kcq R q 5⟩⟩
   have hF4:=hF3.below (hb4.mono (by have:=hB3.size;have:=HQ.out;omega));have hnm:=Kej (a:=a) ⟨#[114,101,109,111,118,101]⟩ S (.remove S.data.toList) _ _ w4 hcd5 hST hf.tw ⟨HNB.out,by rw[h0];simp⟩ (by have:=hf.tl;omega) (by have:=hf.sl;omega) hf.aw (by have:=hB4.size;have:=HQ.out;omega) hF4;rw[HP.out] at hnm;have e2:Kaw d S.data.toList=Kaz d (.remove S.data.toList):=by rw[HE1.out,if_neg (by rw[h0];simp)]
   have HE2:=Jh e2;have hO:Own R (giv R q 5) w w4:=(Own.of_below hB4).give (by have:=HQ.out;omega);have HO:=Jh hO;have HNM2:=Jh hnm;have q0':_=some (Value.string S):=hq4.cell 0;clear hnm hST hcd4 hcd5 hF4 e2 hO hlk hlf q0 c0 c1 h0;go_wp2_with fail
   refine HNM2.out.mono ?_;rintro e w5 hN;obtain ⟨v,R',A',rfl,k2,k3,k4,k5⟩:=hN
   have hfin:Kad B0 a R A (Kaw d S.data.toList) ⟨#[114,101,109,111,118,101]⟩ S w (.returned v) w5:=by
    rw[HE2.out];exact ⟨v,R',A',rfl,k2,k3,HO.out.trans k4,k5⟩
   have HFIN:=Jh hfin;clear hfin k2 k3 k4 k5;go_wp2_with fail
   go_ret
   exact HFIN.out
end
end
section
open Go.RowKit Go.Shelf Go.Maps Go.Sort
attribute [local go_sem ↓] Go.wp_at_zero Go.wp_at_succ
attribute [local go_sem] Later.cell
theorem Kgu {n:Nat} {l:List Th} (md mf:Nat) (S:ByteArray) (r:Bool) (hr:Kcx l S.data.toList=r) (w:World) (hd:SM w md (dirF l)) (hw:TW n l) (hS:S.size≤1073741824) :
  Calls Tryz.prog 114 #[.agg #[.map (some md),.map (some mf)],.string S] w fun e w'=>e = .returned (.bool r)∧Below w.heap.size w w':=by
 obtain ⟨X,Y,f,h1,h2,h3,_⟩:=Kup S;have HC:=Lib.hid (fun w=>Kom S X Y f h1 hS w)
 have hrf:r=if f then decide (isT l X.data.toList=2) else true:=by
  rw[←hr];unfold cutR at h1;unfold Kcx
  cases hs:Kaj S.data.toList with
  | none=>
   rw[hs] at h1;obtain ⟨_,_,rfl⟩:S.data.toList=X.data.toList∧[]=Y.data.toList∧false=f:=by simpa using h1
   rfl
  | some k=>
   rw[hs] at h1;obtain ⟨e1,_,rfl⟩:S.data.toList.take k=X.data.toList∧S.data.toList.drop (k+1)=Y.data.toList∧true=f:=by simpa using h1
   rw[←e1];simp only[if_true];rw[Bool.eq_iff_iff];simp
 have HR:=Lib.hid hrf;clear hr h1 hrf;go_enter Tryz.func114,Tryz.ntmps114
 go_upto_region 1 with fail
 obtain ⟨w1,hw1⟩:∃x,w.alloc (.cells #[.map (some md),.map (some mf)] 127)=x:=⟨_,rfl⟩;have hb1:Below w.heap.size w w1:=by rw[←hw1];exact (Below.refl _ _).alloc (Nat.le_refl _) _
 have hq:Blk w1 w.heap.size 127 #[.map (some md),.map (some mf)]:=by rw[←hw1];exact Blk.new _ _ _
 rw[hw1];obtain ⟨q,hqq⟩:∃q,w.heap.size=q:=⟨_,rfl⟩;have HB1:=Lib.hid hb1;have hd1:=hd.below hb1 hd.lt;rw[hqq] at hq ⊢;clear hw1 hqq hb1;go_wp2_with fail
 refine (HC.out w1).mono ?_;rintro e w2 ⟨rfl,hb2⟩;have hB2:=then_ HB1.out hb2;have hq2:=hq.below hb2 hq.lt;have q0:_=some (Value.map (some md)):=hq2.cell 0;have hd2:=hd1.below hb2 hd1.lt
 cases f with
 | false=>
  obtain rfl:r=true:=by have:=HR.out;simpa using this
  go_wp2_with fail
  go_ret
  exact ⟨rfl,hB2⟩
 | true=>
  have hrr:=HR.out;simp only[if_true] at hrr;have hlk:=hd2.look Tryz.underlying9 Tryz.underlying124 (zeroI w2) (s:=X) (by unfold maxLen;omega)
  by_cases h2:isT l X.data.toList=2
  ·obtain rfl:r=true:=by rw[hrr];simp[h2]
   obtain ⟨v,hv⟩:=Option.isSome_iff_exists.1 ((Kfx hw).2 h2);rw[hv,Kfy hv] at hlk;simp only[Option.getD_some] at hlk;clear hrr hv h2;go_wp2_with fail
   go_ret
   exact ⟨rfl,hB2⟩
  ·obtain rfl:r=false:=by rw[hrr];simp[h2]
   have hv:dirF l X.data.toList=none:=by
    cases hv:dirF l X.data.toList with
    | none=>rfl
    | some v=>exact absurd ((Kfx hw).1 (by rw[hv];rfl)) h2
   rw[hv] at hlk;simp only[Option.getD_none] at hlk;clear hrr hv h2;go_wp2_with fail
   go_ret
   exact ⟨rfl,hB2⟩
section
variable {B0 : Nat} {a : Nat → Addr} {R : Nat → Nat} {A : Adr} {d : Ds} {w w' : World}
structure Nums (d:Ds):Prop where
 things:∀x∈d.things,x.dir=false→x.at_ < d.files.length
 safe:∀x∈d.safe,x.dir=false→x.at_ < d.files.length
 steps:∀s i,St.create s i∈d.steps→i < d.files.length
theorem Kvg {φ : List Nat} {g i:Nat} (h:i < φ.length):fptr (φ ++ [g]) i=fptr φ i:=by
 unfold fptr;rw[List.getElem?_append_left h]
theorem Kjj {φ : List Nat} {g:Nat} {l:List Th} (h:∀x∈l,x.dir=false→x.at_ < φ.length):filF (φ ++ [g]) l=filF φ l:=by
 funext x;unfold filF
 cases hf:l.find? fun y=>!y.dir && y.path == x with
 | none=>rfl
 | some y=>
  have h1:=List.find?_some hf;simp only[Bool.and_eq_true,Bool.not_eq_true'] at h1;simp only[Option.map_some];rw[Kvg (h y (List.mem_of_find?_eq_some hf) h1.1)]
theorem Kqz {φ : List Nat} {g:Nat} {s:St} {v:Value} (h:∀x i,s = .create x i→i < φ.length):StepM w R (φ ++ [g]) s v↔StepM w R φ s v:=by
 cases s with
 | mkdir a=>exact Iff.rfl
 | create a i=>simp only[StepM];rw[Kvg (h a i rfl)]
 | rename a b=>exact Iff.rfl
 | remove a=>exact Iff.rfl
theorem Kod {φ : List Nat} {g:Nat} {l:List St} {v:Value} (h:∀x i,St.create x i∈l→i < φ.length):Khl w R v (φ ++ [g]) l↔Khl w R v φ l:=by
 unfold Khl;constructor
 ·rintro ⟨fs,h1,h2,h3⟩;exact ⟨fs,h1,h2,fun i s f hs hf=>(Kqz fun x j e=>h x j (e▸List.mem_of_getElem? hs)).1 (h3 i s f hs hf)⟩
 ·rintro ⟨fs,h1,h2,h3⟩;exact ⟨fs,h1,h2,fun i s f hs hf=>(Kqz fun x j e=>h x j (e▸List.mem_of_getElem? hs)).2 (h3 i s f hs hf)⟩
theorem CD.new_file (h:CD B0 w R A d) (hn:Nums d) {g:Nat} (hg:Blk w g 137 #[.string ⟨#[]⟩,.string ⟨#[]⟩,.slice none 0 0]) (hR:R g=0) (hB:B0≤g) :
  CD B0 w (giv R g (10+2*d.files.length)) { A with φ:=A.φ ++ [g] } { d with files:=d.files ++ [⟨[],[],[]⟩] }:=by
 have h1:=h.grant hg.lt hR hB (10+2*d.files.length);have hl:=h.bytes.1
 exact {
  blk:=h1.blk
  rp:=h1.rp
  dirs:=h1.dirs
  files:=by rw[Kjj (fun x hx hd=>by rw[hl];exact hn.things x hx hd)];exact h1.files
  sdirs:=h1.sdirs
  sfiles:=by rw[Kjj (fun x hx hd=>by rw[hl];exact hn.safe x hx hd)];exact h1.sfiles
  steps:=(Kod (fun x i hx=>by rw[hl];exact hn.steps x i hx)).2 h1.steps
  bytes:=by
   refine ⟨by simp[hl],fun i b f hb hf=>?_⟩;rw[List.getElem?_append] at hb hf;rw[hl] at hb
   split at hb
   ·rename_i hi
    rw[if_pos hi] at hf;exact h1.bytes.2 i b f hb hf
   ·rename_i hi
    rw[if_neg hi] at hf
    have hi0:i - d.files.length=0:=by
     apply Classical.byContradiction;intro hne;rw[List.getElem?_eq_none (by simp;omega)] at hb;cases hb
    rw[hi0] at hb hf;simp at hb hf;subst hb hf;obtain rfl:i=d.files.length:=by omega
    exact ⟨.slice none 0 0,hg,Kcq _ _ _,RowIs.nil⟩
  inw:=h1.inw
  low:=h1.low }
theorem CD.drop_file {φ : List Nat} {g:Nat} {fs:List By} {f:By} (h:CD B0 w R { A with φ:=φ ++ [g] } { d with files:=fs ++ [f] }) (hl:φ.length=fs.length) (hn:Nums { d with files:=fs }):CD B0 w R { A with φ:=φ } { d with files:=fs } where
 blk:=h.blk
 rp:=h.rp
 dirs:=h.dirs
 files:=by have:=h.files;rw[Kjj (fun x hx hd=>by rw[hl];exact hn.things x hx hd)] at this;exact this
 sdirs:=h.sdirs
 sfiles:=by have:=h.sfiles;rw[Kjj (fun x hx hd=>by rw[hl];exact hn.safe x hx hd)] at this;exact this
 steps:=(Kod (fun x i hx=>by rw[hl];exact hn.steps x i hx)).1 h.steps
 bytes:=⟨hl,fun i b f' hb hf=>h.bytes.2 i b f' (by rw[List.getElem?_append_left (List.getElem?_eq_some_iff.1 hb).1];exact hb) (by rw[List.getElem?_append_left (List.getElem?_eq_some_iff.1 hf).1];exact hf)⟩
 inw:=h.inw
 low:=h.low
end
end
section
open Go.RowKit Go.Shelf Go.Maps Go.Sort
open Lib renaming hid → Jh
attribute [local go_sem ↓] Go.wp_at_zero Go.wp_at_succ
attribute [local go_sem] Later.cell
section
variable {B0 : Nat} {a : Nat → Addr} {R : Nat → Nat} {A : Adr} {d : Ds} {w w' : World}
def Kdw (B0:Nat) (a:Nat→Addr) (R:Nat→Nat) (A:Adr) (r:Nat×Ds) (op s:ByteArray) (w:World) (e:Ending) (w':World):Prop:=
 ∃v R' A',e = .returned v∧ErrV a w' op s r.1 v∧CD B0 w' R' A' r.2∧Own R R' w w'∧A'.p=A.p∧∃ψ,A'.φ=A.φ++ψ
theorem Kad.weak {r:Nat×Ds} {op s:ByteArray} {e:Ending} (h:Kad B0 a R A r op s w e w'):Kdw B0 a R A r op s w e w':=by
 obtain ⟨v,R',A',h1,h2,h3,h4,h5,h6⟩:=h;exact ⟨v,R',A',h1,h2,h3,h4,h5,[],by simpa using h6⟩
theorem Kze (d:Ds) (fs:List By):stepD { d with files:=fs } = ((stepD d).1,{ (stepD d).2 with files:=fs }):=by
 unfold stepD
 split
 ·rfl
 ·split <;> rfl
theorem Khd (d:Ds):(stepD d).2.things=d.things∧(stepD d).2.safe=d.safe∧(stepD d).2.steps=d.steps∧(stepD d).2.files=d.files:=by
 unfold stepD
 split
 ·exact ⟨rfl,rfl,rfl,rfl⟩
 ·split <;> exact ⟨rfl,rfl,rfl,rfl⟩
theorem Kun (S:ByteArray) (w:World) (h:CD B0 w R A d) (hf:Fit d) (hnu:Nums d) (hS:S.size≤1073741824) (hB:B0≤w.heap.size) (hF:Fails B0 a w) :
  Calls Tryz.prog 57 #[.pointer (some ⟨A.p,0,none⟩),.string S] w (Kdw B0 a R A (Kbl d S.data.toList) ⟨#[99,114,101,97,116,101]⟩ S w):=by
 obtain ⟨rn,hrn⟩:∃r,pathB S.data.toList=r:=⟨_,rfl⟩;have HNM:=Jh (fun w=>Kfo S rn hrn hS w);have HRN:=Jh hrn;obtain ⟨p,hp⟩:∃p,A.p=p:=⟨_,rfl⟩;have HP:=Jh hp;rw[hp];have H0:=Jh h;clear hrn hp;go_enter Tryz.func57,Tryz.ntmps57
 go_upto_region 1 with fail
 obtain ⟨w1,hw1⟩:∃x,w.alloc (.cells #[.string S] 9)=x:=⟨_,rfl⟩;have hb1:Below w.heap.size w w1:=by rw[←hw1];exact (Below.refl _ _).alloc (Nat.le_refl _) _
 have hq:Blk w1 w.heap.size 9 #[.string S]:=by rw[←hw1];exact Blk.new _ _ _
 rw[hw1];obtain ⟨q,hqq⟩:∃q,w.heap.size=q:=⟨_,rfl⟩;have hR0:R q=0:=h.inw.new (by omega);rw[hqq] at hq hB ⊢;have HQ:=Jh hqq;have q0:_=some (Value.string S):=hq.cell 0;have hql:=hq.lt;clear hw1 hqq;refine Kaf 4 (by kernel_rfl) (by kernel_rfl) ?_;simp only[List.take_succ_cons,List.take_zero,List.drop_succ_cons,List.drop_zero]
 repeat (go_big_quiet_step ((go_at_call 109;exact Kbo _ (HNM.out _))))
 refine wpQuiet_nil ?_;rintro w2 ⟨⟨_,hb2⟩,rfl⟩;have hB2:=then_ hb1 hb2;have hcd2:=h.below hB2;have hF2:Fails B0 a w2:=hF.below (hB2.mono (by have:=HQ.out;omega));have hoff:w2.cell? ⟨p,6,none⟩=some (.bool d.off):=by rw[←HP.out];exact Blk.cell hcd2.blk 6
 obtain ⟨k,hk⟩:∃k,Kcg d.off rn=k:=⟨_,rfl⟩;have HK:=Jh hk;have hq2:=hq.below hb2 hq.lt;have hready:=Kek (B0:=B0) (a:=a) p d.off rn ⟨#[99,114,101,97,116,101]⟩ S k hk w2 hoff hF2;have HRD:=Jh hready;clear hk hready hq q0 hql hb1 hb2;go_wp2_with fail
 refine HRD.out.mono ?_;rintro _ w3 ⟨v,rfl,hv3,hb3⟩;have hB3:=then_ hB2 hb3;have hcd3:=h.below hB3;have hF3:=hF2.below (hb3.mono (by have:=hB2.size;have:=HQ.out;omega));have hq3:=hq2.below hb3 hq2.lt;clear hcd2 hF2 hoff hq2 hb3 HRD hB2
 cases k with
 | succ k=>
  have hfin:Kdw B0 a R A (Kbl d S.data.toList) ⟨#[99,114,101,97,116,101]⟩ S w (.returned v) w3:=by
   have e1:Kbl d S.data.toList=(k+1,d):=by
    have hk:=HK.out;unfold Kcg at hk;unfold Kbl;rw[←hk,HRN.out]
    cases ho:d.off with
    | true=>simp
    | false=>
     rw[ho] at hk
     cases rn with
     | true=>simp at hk
     | false=>simp
   rw[e1];exact (Kad.bad h hB3 hv3).weak
  obtain ⟨q4,rfl,_⟩:=hv3;have HFIN:=Jh hfin;clear hfin hcd3 hF3 hq3 hB3;go_wp2_with fail
  go_ret
  exact HFIN.out
 | zero=>
  obtain rfl:v = .nilIface:=hv3
  obtain ⟨ho,hn⟩:d.off=false∧rn=true:=by
   have hk:=HK.out;unfold Kcg at hk
   cases ho:d.off with
   | true=>rw[ho] at hk;simp at hk
   | false=>
    rw[ho] at hk
    cases rn with
    | true=>exact ⟨rfl,rfl⟩
    | false=>simp at hk
  have e1:Kbl d S.data.toList=if Kcx d.things S.data.toList=false then (4,d) else if isT d.things S.data.toList≠0 then (5,d) else if (stepD d).1≠0 then stepD d else (0,{ (Kaz d (.create S.data.toList d.files.length)).2 with files:=d.files ++ [⟨[],[],[]⟩] }):=by
   unfold Kbl;rw[ho,HRN.out,hn];simp
  have HE1:=Jh e1;obtain ⟨rp,hrp⟩:∃r,Kcx d.things S.data.toList=r:=⟨_,rfl⟩;have hpar:∀x:Later w3,Calls Tryz.prog 114 #[.agg #[.map (some A.md),.map (some A.mf)],.string S] x.w fun e w'=>e = .returned (.bool rp)∧Below x.w.heap.size x.w w':=fun x=>Kgu A.md A.mf S rp hrp x.w (hcd3.dirs.1.below x.h hcd3.dirs.1.lt) hf.tw hS
  have HPAR:=Jh hpar;have HRP:=Jh hrp;have c0:w3.cell? ⟨p,0,none⟩=some (.map (some A.md)):=by rw[←HP.out];exact Blk.cell hcd3.blk 0
  have c1:w3.cell? ⟨p,1,none⟩=some (.map (some A.mf)):=by rw[←HP.out];exact Blk.cell hcd3.blk 1
  have q0:_=some (Value.string S):=hq3.cell 0;have hql:=hq3.lt;have hpl:p < w3.heap.size:=Kah c0;have HNB:=Jh (HRN.out.trans hn);clear ho hn e1 HK hpar hrp;go_upto_region 4 with fail
  refine Kab (by kernel_rfl) (by kernel_rfl) ?_
  repeat (go_big_quiet_step ((go_at_call 114;exact Kbo _ (HPAR.out _))))
  refine wpQuiet_nil ?_;rintro w4 ⟨⟨_,hb4⟩,rfl⟩;have hB4:=then_ hB3 hb4;have hcd4:=h.below hB4;have hq4:=hq3.below hb4 hq3.lt;have hF4:=hF3.below (hb4.mono (by have:=hB3.size;have:=HQ.out;omega));clear hcd3 hF3 hq3 c0 c1 q0 hql hpl hb4 hB3 HPAR
  cases rp with
  | false=>
   have f4:_=some (failV a 4):=(hF4 4 (by decide)).2;have hfl:=Kbr (a:=a) ⟨#[99,114,101,97,116,101]⟩ S 3 w4;unfold failV at f4 hfl;simp only[failG] at f4;have HFL:=Jh hfl;have e2:Kbl d S.data.toList=(4,d):=by rw[HE1.out,if_pos HRP.out]
   have HE2:=Jh e2;have q0':_=some (Value.string S):=hq4.cell 0;clear hfl hF4 e2;go_wp2_with fail
   refine HFL.out.mono ?_;rintro e w5 ⟨v,rfl,hv5,hb5⟩
   have hfin:Kdw B0 a R A (Kbl d S.data.toList) ⟨#[99,114,101,97,116,101]⟩ S w (.returned v) w5:=by
    rw[HE2.out];exact (Kad.bad h (then_ hB4 hb5) hv5).weak
   have HFIN:=Jh hfin;clear hfin hv5;go_wp2_with fail
   go_ret
   exact HFIN.out
  | true=>
   obtain ⟨P,hP,hlf⟩:=Kea hcd4 hf S hS;have c0:w4.cell? ⟨p,0,none⟩=some (.map (some A.md)):=by rw[←HP.out];exact Blk.cell hcd4.blk 0
   have c1:w4.cell? ⟨p,1,none⟩=some (.map (some A.mf)):=by rw[←HP.out];exact Blk.cell hcd4.blk 1
   have q0:_=some (Value.string S):=hq4.cell 0;have hql:=hq4.lt;have hpl:p < w4.heap.size:=Kah c0;have HPP:=Jh hP;clear hP;go_upto_region 6 with fail
   rcases Kdy d.things S.data.toList with h0 | h0 | h0
   ·obtain rfl:P=none:=HPP.out.2 (by rw[h0];omega);have hlk:=Kcb hcd4 hf S hS 0 (by rw[h0];rfl);refine Kab (by kernel_rfl) (by kernel_rfl) ?_
    repeat (go_big_quiet_step (fail))
    refine wpQuiet_nil ?_;rintro w5 ⟨⟨_,hb5⟩,rfl⟩;have hB5:=then_ hB4 hb5;have hq5:=hq4.below hb5 hq4.lt;have hF5:=hF4.below (hb5.mono (by have:=hB4.size;have:=HQ.out;omega));clear hlk hlf q0 c0 c1 hpl hql hcd4 hq4 hF4 hb5 hB4;go_upto_region 9 with fail
    obtain ⟨w6,hw6⟩:∃x,(w5.alloc (.cells #[.string ⟨#[]⟩,.string ⟨#[]⟩,.slice none 0 0] 137)).alloc (.cells #[.pointer (some ⟨w5.heap.size,0,none⟩)] 132)=x:=⟨_,rfl⟩;have hb6:Below w5.heap.size w5 w6:=by rw[←hw6];exact ((Below.refl _ _).alloc (Nat.le_refl _) _).alloc (by simp) _
    have hgf:Blk w6 w5.heap.size 137 #[.string ⟨#[]⟩,.string ⟨#[]⟩,.slice none 0 0]:=by rw[←hw6];exact (Blk.new _ _ _).alloc _
    have hvf:Blk w6 (w5.heap.size+1) 132 #[.pointer (some ⟨w5.heap.size,0,none⟩)]:=by rw[←hw6];exact Blk.newAt (by simp)
    rw[hw6];obtain ⟨gf,hgg⟩:∃q,w5.heap.size=q:=⟨_,rfl⟩;have hql5:=hq5.lt;have hB6:=then_ hB5 hb6;have hq6:=hq5.below hb6 hq5.lt;have hF6:=hF5.below (hb6.mono (by have:=hB5.size;have:=HQ.out;omega));have hsz5:=hB5.size;rw[hgg] at hgf hvf hql5 hsz5 ⊢;have hgW:w.heap.size≤gf:=hsz5;have hqW:=HQ.out;have hRg:R gf=0:=h.inw.new hgW;have hRv:R (gf+1)=0:=h.inw.new (by omega);have hcd6:=h.below hB6;have hcd7:CD B0 w6 (giv R q 5) A d:=hcd6.grant hq6.lt hR0 hB 5;have hcd8:CD B0 w6 (giv (giv R q 5) (gf+1) 5) A d:=hcd7.grant hvf.lt (by rw[Kba (by omega)];exact hRv) (by omega) 5;have hcd9:=hcd8.new_file hnu hgf (by rw[Kba (by omega),Kba (by omega)];exact hRg) (by omega);have hφl:=h.bytes.1
    have hST:StepM w6 (giv (giv (giv R q 5) (gf+1) 5) gf (10+2*d.files.length)) (A.φ ++ [gf]) (.create S.data.toList d.files.length) (.func (.func 115) #[] #[.pointer (some ⟨gf+1,0,none⟩),.pointer (some ⟨q,0,none⟩)]):=by
     have e:txtV S.data.toList = .string S:=by unfold txtV;rw[←Kdi rfl]
     have e2:fptr (A.φ ++ [gf]) d.files.length = .pointer (some ⟨gf,0,none⟩):=by unfold fptr;rw[List.getElem?_append_right (by omega),hφl];simp
     refine ⟨q,gf+1,rfl,?_,?_⟩
     ·rw[Box,e];exact ⟨hq6,by rw[Kba (by omega),Kba (by omega)];exact Kcq _ _ _⟩
     ·rw[Box,e2];exact ⟨hvf,by rw[Kba (by omega)];exact Kcq _ _ _⟩
    have htw:TW (d.files.length+1) d.things:=⟨hf.tw.nodup,hf.tw.dirs,hf.tw.paths,hf.tw.par,fun x hx hd=>by have:=hf.tw.ats x hx hd;omega,hf.tw.inj⟩;have hok:StOk (d.files.length+1) d.things (.create S.data.toList d.files.length):=⟨HNB.out,HRP.out,h0,by omega,fun x hx hd=>by have:=hf.tw.ats x hx hd;omega⟩;have hnm:=Kej (a:=a) ⟨#[99,114,101,97,116,101]⟩ S (.create S.data.toList d.files.length) _ _ w6 hcd9 hST (by simpa using htw) (by simpa using hok) (by have:=hf.tl;simpa using (by omega:d.things.length≤1073741824)) (by have:=hf.sl;simpa using (by omega:d.steps.length≤1073741824)) hf.aw (by have:=hB6.size;omega) hF6
    have hOw:Own R (giv (giv (giv R q 5) (gf+1) 5) gf (10+2*d.files.length)) w w6:=by
     have o1:Own R R w w6:=Own.of_below hB6;exact ⟨o1.os,o1.tape,o1.output,o1.size,o1.block,fun k hk=>by rw[Kba (by omega),Kba (by omega),Kba (by omega)]⟩
    have e2:Kbl d S.data.toList=if (stepD d).1≠0 then stepD d else (0,{ (Kaz d (.create S.data.toList d.files.length)).2 with files:=d.files ++ [⟨[],[],[]⟩] }):=by rw[HE1.out,if_neg (by rw[HRP.out];simp),if_neg (by rw[h0];simp)]
    have HE2:=Jh e2;have HOW:=Jh hOw;have HNM2:=Jh hnm;have HPL:=Jh hφl;have q0':_=some (Value.string S):=hq6.cell 0;simp only[HP.out] at HNM2;clear hnm hST hcd6 hcd7 hcd8 hcd9 hF6 e2 hOw htw hok hw6 hgg h0 hgf hvf hb6 hB6 hq6 hF5 hφl;go_wp2_with fail
    refine HNM2.out.mono ?_;rintro e w7 hN;obtain ⟨v,R',A',rfl,k2,k3,k4,k5,k6⟩:=hN
    have hfin:Kdw B0 a R A (Kbl d S.data.toList) ⟨#[99,114,101,97,116,101]⟩ S w (.returned v) w7:=by
     have hss:=Khd d;have hsf:=Kze d (d.files ++ [⟨[],[],[]⟩]);rw[HE2.out]
     by_cases hst:(stepD d).1=0
     ·rw[if_neg (by simpa using hst)]
      have e3:Kaz { d with files:=d.files ++ [⟨[],[],[]⟩] } (.create S.data.toList d.files.length)=(0,{ (Kaz d (.create S.data.toList d.files.length)).2 with files:=d.files ++ [⟨[],[],[]⟩] }):=by
       unfold Kaz;rw[hsf];simp only[hst];simp
      rw[e3] at k2 k3;exact ⟨v,R',A',rfl,k2,k3,HOW.out.trans k4,Eq.trans k5 HP.out.symm,⟨[gf],k6⟩⟩
     ·rw[if_pos hst]
      have e3:Kaz { d with files:=d.files ++ [⟨[],[],[]⟩] } (.create S.data.toList d.files.length)=((stepD d).1,{ (stepD d).2 with files:=d.files ++ [⟨[],[],[]⟩] }):=by
       unfold Kaz;rw[hsf,if_pos hst]
      rw[e3] at k2 k3;obtain ⟨p',md',mf',sd',sf',sv',φ'⟩:=A';simp only at k5 k6;subst k6
      have k7:=CD.drop_file (A:=⟨p',md',mf',sd',sf',sv',A.φ⟩) (d:=(stepD d).2) k3 (by rw[HPL.out]) (by
       rw[←hss.2.2.2]
       exact ⟨by rw[hss.1,hss.2.2.2];exact hnu.things,by rw[hss.2.1,hss.2.2.2];exact hnu.safe,by rw[hss.2.2.1,hss.2.2.2];exact hnu.steps⟩)
      have e4:({ (stepD d).2 with files:=d.files }:Ds)=(stepD d).2:=by rw[←hss.2.2.2]
      rw[e4] at k7;exact ⟨v,R',_,rfl,k2,k7,HOW.out.trans k4,Eq.trans k5 HP.out.symm,⟨[],by simp⟩⟩
    have HFIN:=Jh hfin;clear hfin k2 k3 k4 k5;go_wp2_with fail
    go_ret
    exact HFIN.out
   ·have hlk:=Kcb hcd4 hf S hS 0 (by rw[h0];rfl)
    obtain ⟨P',rfl⟩:∃P',P=some P':=by
     cases P with
     | none=>exact absurd h0 (HPP.out.1 rfl)
     | some P'=>exact ⟨P',rfl⟩
    refine Kab (by kernel_rfl) (by kernel_rfl) ?_
    repeat (go_big_quiet_step (fail))
    refine wpQuiet_nil ?_;rintro w5 ⟨⟨_,hb5⟩,rfl⟩;have hB5:=then_ hB4 hb5;have hq5:=hq4.below hb5 hq4.lt;have hF5:=hF4.below (hb5.mono (by have:=hB4.size;have:=HQ.out;omega));have f5:_=some (failV a 5):=(hF5 5 (by decide)).2;have hfl:=Kbr (a:=a) ⟨#[99,114,101,97,116,101]⟩ S 4 w5;unfold failV at f5 hfl;simp only[failG] at f5;have HFL:=Jh hfl;have e2:Kbl d S.data.toList=(5,d):=by rw[HE1.out,if_neg (by rw[HRP.out];simp),if_pos (by rw[h0];simp)]
    have HE2:=Jh e2;have q0':_=some (Value.string S):=hq5.cell 0;clear hfl hF5 e2 hlk hlf q0 c0 c1 h0;go_wp2_with fail
    refine HFL.out.mono ?_;rintro e w6 ⟨v,rfl,hv6,hb6⟩
    have hfin:Kdw B0 a R A (Kbl d S.data.toList) ⟨#[99,114,101,97,116,101]⟩ S w (.returned v) w6:=by
     rw[HE2.out];exact (Kad.bad h (then_ hB5 hb6) hv6).weak
    have HFIN:=Jh hfin;clear hfin hv6;go_wp2_with fail
    go_ret
    exact HFIN.out
   ·have hlk:=Kcb hcd4 hf S hS 1 (by rw[h0];rfl);refine Kab (by kernel_rfl) (by kernel_rfl) ?_
    repeat (go_big_quiet_step (fail))
    refine wpQuiet_nil ?_;rintro w5 ⟨⟨_,hb5⟩,rfl⟩;have hB5:=then_ hB4 hb5;have hq5:=hq4.below hb5 hq4.lt;have hF5:=hF4.below (hb5.mono (by have:=hB4.size;have:=HQ.out;omega));have f5:_=some (failV a 5):=(hF5 5 (by decide)).2;have hfl:=Kbr (a:=a) ⟨#[99,114,101,97,116,101]⟩ S 4 w5;unfold failV at f5 hfl;simp only[failG] at f5;have HFL:=Jh hfl;have e2:Kbl d S.data.toList=(5,d):=by rw[HE1.out,if_neg (by rw[HRP.out];simp),if_pos (by rw[h0];simp)]
    have HE2:=Jh e2;have q0':_=some (Value.string S):=hq5.cell 0;clear hfl hF5 e2 hlk hlf q0 c0 c1 h0;go_wp2_with fail
    refine HFL.out.mono ?_;rintro e w6 ⟨v,rfl,hv6,hb6⟩
    have hfin:Kdw B0 a R A (Kbl d S.data.toList) ⟨#[99,114,101,97,116,101]⟩ S w (.returned v) w6:=by
     rw[HE2.out];exact (Kad.bad h (then_ hB5 hb6) hv6).weak
    have HFIN:=Jh hfin;clear hfin hv6;go_wp2_with fail
    go_ret
    exact HFIN.out
end
section
variable {B0 : Nat} {a : Nat → Addr} {R : Nat → Nat} {A : Adr} {d : Ds} {w w' : World}
theorem Kmh {l:List Th} (h:(l.map Th.path).Nodup) (s:Txt):(isT l s=0∧findT l s=none)∨(isT l s=1∧∃x∈l,findT l s=some x∧x.dir=false∧x.path=s)∨(isT l s=2∧∃x∈l,findT l s=some x∧x.dir=true∧x.path=s):=by
 unfold isT
 cases hf:findT l s with
 | none=>exact .inl ⟨rfl,rfl⟩
 | some x=>
  have h1:=List.find?_some hf;have h2:=List.mem_of_find?_eq_some hf
  cases hd:x.dir with
  | false=>exact .inr (.inl ⟨by simp[hd],x,h2,rfl,hd,by simpa using h1⟩)
  | true=>exact .inr (.inr ⟨by simp[hd],x,h2,rfl,hd,by simpa using h1⟩)
def Kir (a:Nat→Addr) (A:Adr) (r:Except Nat Nat) (op s:ByteArray) (w:World) (e:Ending) (w':World):Prop:=
 Below w.heap.size w w'∧match r with
  | .error k=>k≠0∧∃v,e = .returned (.tuple #[.pointer none,v])∧ErrV a w' op s k v
  | .ok i=>e = .returned (.tuple #[fptr A.φ i,.nilIface])
theorem Kjl (op S:ByteArray) (w:World) (h:CD B0 w R A d) (hf:Fit d) (hS:S.size≤1073741824) (hB:B0≤w.heap.size) (hF:Fails B0 a w) :
  Calls Tryz.prog 52 #[.pointer (some ⟨A.p,0,none⟩),.string op,.string S] w (Kir a A (fileD d S.data.toList) op S w):=by
 obtain ⟨rn,hrn⟩:∃r,pathB S.data.toList=r:=⟨_,rfl⟩;have HNM:=Jh (Kfo S rn hrn hS w);have HRN:=Jh hrn;obtain ⟨p,hp⟩:∃p,A.p=p:=⟨_,rfl⟩;have HP:=Jh hp;rw[hp];obtain ⟨r,hr⟩:∃r,fileD d S.data.toList=r:=⟨_,rfl⟩;have HR:=Jh hr;rw[hr];clear hrn hp hr;go_enter Tryz.func52,Tryz.ntmps52
 go_wp2_with fail
 refine HNM.out.mono ?_;rintro _ w2 ⟨rfl,hB2⟩;have hcd2:=h.below hB2;have hF2:Fails B0 a w2:=hF.below (hB2.mono hB);have hoff:w2.cell? ⟨p,6,none⟩=some (.bool d.off):=by rw[←HP.out];exact Blk.cell hcd2.blk 6
 obtain ⟨k,hk⟩:∃k,Kcg d.off rn=k:=⟨_,rfl⟩;have HK:=Jh hk;have HRD:=Jh (Kek (B0:=B0) (a:=a) p d.off rn op S k hk w2 hoff hF2);clear hk;go_wp2_with fail
 refine HRD.out.mono ?_;rintro _ w3 ⟨v,rfl,hv3,hb3⟩;have hB3:=then_ hB2 hb3;have hcd3:=h.below hB3;have hF3:=hF2.below (hb3.mono (by have:=hB2.size;omega));clear hcd2 hF2 hoff hb3 HRD hB2
 cases k with
 | succ k=>
  have hr:r = .error (k+1):=by
   have hk:=HK.out;unfold Kcg at hk;rw[←HR.out];unfold fileD;rw[HRN.out,←hk]
   cases ho:d.off with
   | true=>simp
   | false=>
    rw[ho] at hk
    cases rn with
    | true=>simp at hk
    | false=>simp
  subst hr;have hfin:Kir a A (.error (k+1)) op S w (.returned (.tuple #[.pointer none,v])) w3:=⟨hB3,by omega,v,rfl,hv3⟩;obtain ⟨q4,rfl,_⟩:=hv3;have HFIN:=Jh hfin;clear hfin hcd3 hF3 hB3;go_wp2_with fail
  go_ret2
  exact HFIN.out
 | zero=>
  obtain rfl:v = .nilIface:=hv3
  obtain ⟨ho,hn⟩:d.off=false∧rn=true:=by
   have hk:=HK.out;unfold Kcg at hk
   cases ho:d.off with
   | true=>rw[ho] at hk;simp at hk
   | false=>
    rw[ho] at hk
    cases rn with
    | true=>exact ⟨rfl,rfl⟩
    | false=>simp at hk
  have hr:r=fileT d.things S.data.toList:=by
   rw[←HR.out];unfold fileD;rw[ho,HRN.out,hn];simp
  have c0:w3.cell? ⟨p,0,none⟩=some (.map (some A.md)):=by rw[←HP.out];exact Blk.cell hcd3.blk 0
  have c1:w3.cell? ⟨p,1,none⟩=some (.map (some A.mf)):=by rw[←HP.out];exact Blk.cell hcd3.blk 1
  have f3:_=some (failV a 3):=(hF3 3 (by decide)).2;have f4:_=some (failV a 4):=(hF3 4 (by decide)).2;have hfl:=fun k=>Kbr (a:=a) op S k w3
  unfold failV at f3 f4 hfl;simp only[failG] at f3 f4;have HFL:=Jh hfl;have hlz:=hcd3.files.1.look Tryz.underlying9 Tryz.underlying125 (Klt w3) (s:=S) (by unfold maxLen;omega);have hone:=Kjk (φ:=A.φ) hf.tw (x:=S.data.toList);clear ho hn HK hfl;rcases Kmh hf.tw.nodup S.data.toList with ⟨h0,hx⟩ | ⟨h0,x,hxm,hx,hxd,hxp⟩ | ⟨h0,x,hxm,hx,hxd,hxp⟩
  ·obtain rfl:r = .error 4:=by rw[hr];unfold fileT;rw[hx]
   have hlk:=Kcb hcd3 hf S hS 0 (by rw[h0];rfl) ⟨w3,Below.refl _ _⟩
   have hn:filF A.φ d.things S.data.toList=none:=by
    cases hv:filF A.φ d.things S.data.toList with
    | none=>rfl
    | some v=>have:=hone.1 (by rw[hv];rfl);omega
   rw[hn] at hlz;simp only[Option.getD_none] at hlz;clear hone hn h0 hx hr;dsimp only at hlk;go_wp2_with fail
   refine (HFL.out 3).mono ?_;rintro e w5 ⟨v,rfl,hv5,hb5⟩;have hfin:Kir a A (.error 4) op S w (.returned (.tuple #[.pointer none,v])) w5:=⟨then_ hB3 hb5,by omega,v,rfl,hv5⟩;have HFIN:=Jh hfin;clear hfin hv5;go_wp2_with fail
   go_ret2
   exact HFIN.out
  ·obtain rfl:r = .ok x.at_:=by rw[hr];unfold fileT;rw[hx];simp[hxd]
   have hlk:=Kcb hcd3 hf S hS 0 (by rw[h0];rfl) ⟨w3,Below.refl _ _⟩;have hn:filF A.φ d.things S.data.toList=some (fptr A.φ x.at_):=(Kch hf.tw.nodup).2 ⟨x,hxm,hxd,hxp,rfl⟩;rw[hn] at hlz;simp only[Option.getD_some] at hlz;have hfin:Kir a A (.ok x.at_) op S w (.returned (.tuple #[fptr A.φ x.at_,.nilIface])) w3:=⟨hB3,rfl⟩;have HFIN:=Jh hfin;unfold fptr at hlz HFIN;clear hone hn h0 hx hfin hr;dsimp only at hlk;go_wp2_with fail
   go_ret2
   exact HFIN.out
  ·obtain rfl:r = .error 3:=by rw[hr];unfold fileT;rw[hx];simp[hxd]
   have hlk:=Kcb hcd3 hf S hS 1 (by rw[h0];rfl) ⟨w3,Below.refl _ _⟩
   have hn:filF A.φ d.things S.data.toList=none:=by
    cases hv:filF A.φ d.things S.data.toList with
    | none=>rfl
    | some v=>have:=hone.1 (by rw[hv];rfl);omega
   rw[hn] at hlz;simp only[Option.getD_none] at hlz;clear hone hn h0 hx hr;dsimp only at hlk;go_wp2_with fail
   refine (HFL.out 2).mono ?_;rintro e w5 ⟨v,rfl,hv5,hb5⟩;have hfin:Kir a A (.error 3) op S w (.returned (.tuple #[.pointer none,v])) w5:=⟨then_ hB3 hb5,by omega,v,rfl,hv5⟩;have HFIN:=Jh hfin;clear hfin hv5;go_wp2_with fail
   go_ret2
   exact HFIN.out
end
section
variable {B0 : Nat} {a : Nat → Addr} {R : Nat → Nat} {A : Adr} {d : Ds} {w w' : World}
theorem Kno {s:Txt} {i:Nat} (hf:Fit d) (h:fileD d s = .ok i):i < d.files.length∧d.off=false∧∃x∈d.things,x.dir=false∧x.path=s∧x.at_=i:=by
 unfold fileD at h
 cases ho:d.off with
 | true=>rw[ho] at h;simp at h
 | false=>
  rw[ho] at h;simp only[Bool.false_eq_true,if_false] at h
  split at h
  ·cases h
  ·unfold fileT at h;rcases Kmh hf.tw.nodup s with ⟨h0,hx⟩ | ⟨h0,x,hxm,hx,hxd,hxp⟩ | ⟨h0,x,hxm,hx,hxd,hxp⟩
   ·rw[hx] at h;cases h
   ·rw[hx] at h;simp only[hxd,Bool.false_eq_true,if_false] at h;injection h with h;exact ⟨h▸hf.tw.ats x hxm hxd,rfl,x,hxm,hxd,hxp,h⟩
   ·rw[hx] at h;simp only[hxd,if_true] at h;cases h
theorem Klw (h:CD B0 w R A d) {i:Nat} (hi:i < d.files.length):FileM w R i (A.φ[i]?.getD 0) (fAt d i):=by
 have hl:=h.bytes.1;have h1:A.φ[i]? = some A.φ[i]:=List.getElem?_eq_getElem (by omega);have h2:d.files[i]? = some d.files[i]:=List.getElem?_eq_getElem hi;unfold fAt;rw[h1,h2];exact h.bytes.2 i _ _ h1 h2
theorem Qav (S:ByteArray) (w:World) (h:CD B0 w R A d) (hf:Fit d) (hS:S.size≤1073741824) (hB:B0≤w.heap.size) (hF:Fails B0 a w) :
  Calls Tryz.prog 21 #[.pointer (some ⟨A.p,0,none⟩),.string S] w fun e w'=>∃v,e = .returned (.tuple #[txtV (allD d S.data.toList).1,v])∧ErrV a w' ⟨#[114,101,97,100]⟩ S (allD d S.data.toList).2 v∧Below w.heap.size w w':=by
 have HF:=Jh (Kjl (a:=a) ⟨#[114,101,97,100]⟩ S w h hf hS hB hF);obtain ⟨r,hr⟩:∃r,fileD d S.data.toList=r:=⟨_,rfl⟩;have HR:=Jh hr;rw[hr] at HF;obtain ⟨p,hp⟩:∃p,A.p=p:=⟨_,rfl⟩;rw[hp] at HF ⊢;clear hr hp;go_enter Tryz.func21,Tryz.ntmps21
 go_wp2_with fail
 refine HF.out.mono ?_;rintro _ w1 ⟨hb1,hm⟩
 cases r with
 | error k=>
  obtain ⟨hk,v,rfl,hv⟩:=hm;have e1:allD d S.data.toList=([],k):=by unfold allD;rw[HR.out]
  have HE:=Jh e1;have HV:=Jh hv
  cases k with
  | zero=>exact absurd rfl hk
  | succ k=>
   obtain ⟨q,rfl,_⟩:=hv;clear e1;go_wp2_with fail
   go_ret2
   exact ⟨_,by rw[HE.out];rfl,by rw[HE.out];exact HV.out,hb1⟩
 | ok i=>
  have hm':_=Ending.returned (.tuple #[fptr A.φ i,.nilIface]):=hm;subst hm';obtain ⟨hi,_⟩:=Kno hf HR.out;obtain ⟨v,hblk,_⟩:=Klw (h.below hb1) hi;have e1:allD d S.data.toList=((fAt d i).now,0):=by unfold allD;rw[HR.out]
  have HE:=Jh e1;obtain ⟨T,hT⟩:∃T:ByteArray,(⟨(fAt d i).now.toArray⟩:ByteArray)=T:=⟨_,rfl⟩;have HT:=Jh hT;have c0:w1.cell? ⟨A.φ[i]?.getD 0,0,none⟩=some (.string T):=by rw[←hT];exact hblk.cell 0
  unfold fptr;obtain ⟨b,hb⟩:∃b,A.φ[i]?.getD 0=b:=⟨_,rfl⟩;rw[hb] at c0 ⊢;clear hblk e1 hT hb hi;go_wp2_with fail
  go_ret2
  exact ⟨_,by rw[HE.out];unfold txtV;rw[HT.out];rfl,by rw[HE.out];rfl,hb1⟩
theorem Qdb (S:ByteArray) (w:World) (h:CD B0 w R A d) (hf:Fit d) (hS:S.size≤1073741824) (hB:B0≤w.heap.size) (hF:Fails B0 a w) :
  Calls Tryz.prog 61 #[.pointer (some ⟨A.p,0,none⟩),.string S] w (Kad B0 a R A (syncD d S.data.toList) ⟨#[115,121,110,99]⟩ S w):=by
 have HF:=Jh (Kjl (a:=a) ⟨#[115,121,110,99]⟩ S w h hf hS hB hF);obtain ⟨r,hr⟩:∃r,fileD d S.data.toList=r:=⟨_,rfl⟩;have HR:=Jh hr;rw[hr] at HF;obtain ⟨p,hp⟩:∃p,A.p=p:=⟨_,rfl⟩;have HP:=Jh hp;rw[hp] at HF ⊢;clear hr hp;go_enter Tryz.func61,Tryz.ntmps61
 go_wp2_with fail
 refine HF.out.mono ?_;rintro _ w1 ⟨hb1,hm⟩
 cases r with
 | error k=>
  obtain ⟨hk,v,rfl,hv⟩:=hm
  have hfin:Kad B0 a R A (syncD d S.data.toList) ⟨#[115,121,110,99]⟩ S w (.returned v) w1:=by
   have e1:syncD d S.data.toList=(k,d):=by unfold syncD;rw[HR.out]
   rw[e1];exact Kad.bad h hb1 hv
  have HFIN:=Jh hfin
  cases k with
  | zero=>exact absurd rfl hk
  | succ k=>
   obtain ⟨q,rfl,_⟩:=hv;clear hfin;go_wp2_with fail
   go_ret
   exact HFIN.out
 | ok i=>
  have hm':_=Ending.returned (.tuple #[fptr A.φ i,.nilIface]):=hm;subst hm';obtain ⟨hi,_⟩:=Kno hf HR.out;have hcd1:=h.below hb1;have HST:=Jh (Khe (a:=a) ⟨#[115,121,110,99]⟩ S w1 hcd1 hf.aw (by have:=hb1.size;omega) (hF.below (hb1.mono hB)));rw[HP.out] at HST;have hss:=Khd d;have HSS:=Jh hss;obtain ⟨k,d1,hk⟩:∃k d1,stepD d=(k,d1):=⟨_,_,rfl⟩;have HK:=Jh hk;unfold fptr;obtain ⟨b,hb⟩:∃b,A.φ[i]?.getD 0=b:=⟨_,rfl⟩;have HBB:=Jh hb;rw[hb];clear hss hk hb hcd1;go_wp2_with fail
  refine HST.out.mono ?_;rintro _ w2 ⟨v,rfl,hv2,hcd2,hO2,_⟩;rw[HK.out] at hv2 hcd2
  cases k with
  | succ k=>
   have hfin:Kad B0 a R A (syncD d S.data.toList) ⟨#[115,121,110,99]⟩ S w (.returned v) w2:=by
    have e1:syncD d S.data.toList=(k+1,d1):=by unfold syncD;rw[HR.out,HK.out];simp
    rw[e1];exact ⟨v,R,A,rfl,hv2,hcd2,(Own.of_below hb1).trans hO2,rfl,rfl⟩
   have HFIN:=Jh hfin;obtain ⟨q,rfl,_⟩:=hv2;clear hfin hcd2 hO2;go_wp2_with fail
   go_ret
   exact HFIN.out
  | zero=>
   obtain rfl:v = .nilIface:=hv2;have hss:=HSS.out;rw[HK.out] at hss;have hi1:i < d1.files.length:=by rw[hss.2.2.2];exact hi
   obtain ⟨u,hblk,hrb,hrow⟩:=Klw hcd2 hi1;have efa:fAt d1 i=fAt d i:=by unfold fAt;rw[hss.2.2.2]
   rw[efa] at hblk;rw[HBB.out] at hblk hrb;obtain ⟨T,hT⟩:∃T:ByteArray,(⟨(fAt d i).now.toArray⟩:ByteArray)=T:=⟨_,rfl⟩;have hTv:txtV (fAt d i).now = .string T:=by unfold txtV;rw[hT]
   have hblk2:Blk ((w2.setCell ⟨b,1,none⟩ (.string T)).setCell ⟨b,2,none⟩ (.slice none 0 0)) b 137 #[txtV (fAt d i).now,txtV (fAt d i).now,.slice none 0 0]:=by
    have:=(hblk.set_ 1 (.string T)).set_ 2 (.slice none 0 0);rw[hTv] at this ⊢;exact this
   have hcd3:CD B0 ((w2.setCell ⟨b,1,none⟩ (.string T)).setCell ⟨b,2,none⟩ (.slice none 0 0)) R A (setF d1 i ⟨(fAt d i).now,(fAt d i).now,[]⟩):=by
    refine CD.file_only hcd2 hi1 (fun k h0 h1 h2=>⟨?_,rfl⟩) (fun k hk=>by have:=hcd2.inw k hk;simpa[World.setCell] using this) hcd2.low ?_
    ·have hne:k≠b:=by rintro rfl;exact h1 hrb
     exact (Below.heap_setCell _ _ _ k hne).trans (Below.heap_setCell _ _ _ k hne)
    ·rw[HBB.out];exact ⟨.slice none 0 0,hblk2,hrb,RowIs.nil⟩
   have hO3:Own R R w ((w2.setCell ⟨b,1,none⟩ (.string T)).setCell ⟨b,2,none⟩ (.slice none 0 0)):=((Own.of_below hb1).trans hO2).trans ((Own.of_set _ (by omega)).trans (Own.of_set _ (by omega)))
   have hfin:Kad B0 a R A (syncD d S.data.toList) ⟨#[115,121,110,99]⟩ S w (.returned .nilIface) ((w2.setCell ⟨b,1,none⟩ (.string T)).setCell ⟨b,2,none⟩ (.slice none 0 0)):=by
    have e1:syncD d S.data.toList=(0,setF d1 i ⟨(fAt d i).now,(fAt d i).now,[]⟩):=by unfold syncD;rw[HR.out,HK.out];simp
    rw[e1];exact ⟨.nilIface,R,A,rfl,rfl,hcd3,hO3,rfl,rfl⟩
   have HFIN:=Jh hfin;rw[hTv] at hblk;have c0:_=some (Value.string T):=hblk.cell 0;obtain ⟨X,hX⟩:∃X:ByteArray,(⟨(fAt d i).safe.toArray⟩:ByteArray)=X:=⟨_,rfl⟩;have c1:w2.cell? ⟨b,1,none⟩=some (.string X):=by rw[←hX];exact hblk.cell 1
   obtain ⟨A4,c4,hu,_⟩:∃A4 c4,u = .slice A4 (fAt d1 i).steps.length c4∧True:=by
    rcases hrow.1.2 with ⟨rfl,h0⟩ | ⟨g,cap,cur,rfl,_⟩
    ·exact ⟨none,0,by rw[h0],trivial⟩
    ·exact ⟨_,cap,rfl,trivial⟩
   rw[hu] at hblk;have c2:_=some (Value.slice A4 (fAt d1 i).steps.length c4):=hblk.cell 2;have g1:=hblk.frozen 1;have g2:=hblk.frozen 2;obtain ⟨m,hm⟩:∃m,(fAt d1 i).steps.length=m:=⟨_,rfl⟩;rw[hm] at c2;clear hfin hcd2 hO2 hcd3 hO3 hblk2 hblk hrow hu efa hT hTv hX hm hss;go_wp2_with fail
   go_ret
   exact HFIN.out
end
end
section
open Go.RowKit Go.Shelf Go.Maps Go.Sort
attribute [local go_sem ↓] Go.wp_at_zero Go.wp_at_succ
attribute [local go_sem] Later.cell
section
variable {B0 : Nat} {a : Nat → Addr} {R : Nat → Nat} {A : Adr} {d : Ds} {w w' : World}
theorem Kyg:(Tryz.prog.info? 213).map (fun i=>(i.zero,i.size,i.bytes))=some (some (.agg #[.string ⟨#[]⟩,.int .i64 0]),2,24):=by kernel_rfl
theorem CD.file_step (h:CD B0 w R A d) {i b:Nat} (hi:i < d.files.length) (hb:A.φ[i]?.getD 0=b) {u v':Value} {N:Txt} {c:Ch} {w3:World} (hblk:Blk w b 137 #[txtV (fAt d i).now,txtV (fAt d i).safe,u]) (hrb:R b=10+2*i)
  (hrow:∀g,u.ownBlock=some g→R g=11+2*i) (hg:(w.setCell ⟨b,0,none⟩ (txtV N)).grownBy w3 u.ownBlock) (hrow3:w3.ownsRow 0 213 2 v' ((fAt d i).steps.length+1) ((fAt d i).steps.flatMap encC++encC c))
  (hat:v'.ownBlock=u.ownBlock∨∃g,v'.ownBlock=some g∧w.heap.size≤g) (hB:B0≤w.heap.size) :
  CD B0 (w3.setCell ⟨b,2,none⟩ v') (rowR R v' (11+2*i)) A (setF d i ⟨N,(fAt d i).safe,(fAt d i).steps ++ [c]⟩)∧Own R (rowR R v' (11+2*i)) w (w3.setCell ⟨b,2,none⟩ v'):=by
 have hold:∀k,k < w.heap.size→rowR R v' (11+2*i) k=R k:=fun k hk=>Kwg hrow hat hk
 have hbl:=hblk.lt;have hs1:(w.setCell ⟨b,0,none⟩ (txtV N)).heap.size=w.heap.size:=by simp[World.setCell]
 have hs3:(w3.setCell ⟨b,2,none⟩ v').heap.size=w3.heap.size:=by simp[World.setCell]
 have hsz:w.heap.size≤w3.heap.size:=by have:=hg.size;omega
 have hbu:some b≠u.ownBlock:=by
  intro e;have:=hrow _ e.symm;omega
 have hbv:v'.ownBlock≠some b:=by
  intro e;rcases hat with h1 | ⟨g,h1,h2⟩
  ·rw[h1] at e;exact hbu e.symm
  ·rw[h1] at e;injection e with e;omega
 have key:∀k,k < w.heap.size→k≠b→u.ownBlock≠some k→(w3.setCell ⟨b,2,none⟩ v').heap[k]? = w.heap[k]?:=by
  intro k hk h1 h2;exact ((Below.heap_setCell _ _ _ k h1).trans (hg.block k (by omega) (fun e=>h2 e.symm))).trans (Below.heap_setCell _ _ _ k h1)
 have hblk3:Blk (w3.setCell ⟨b,2,none⟩ v') b 137 #[txtV N,txtV (fAt d i).safe,v']:=(((hblk.set_ 0 (txtV N)).grown hg hbu).set_ 2 v');have hrow4:=ownsRow_setCell_other hrow3 (a:=⟨b,2,none⟩) hbv v';refine ⟨CD.file_only h hi (fun k h0 h1 h2=>⟨key k (h.inw k h0) (fun e=>h1 (e▸hrb)) (fun e=>h2 (hrow k e)),hold k (h.inw k h0)⟩) ?_ ?_ ?_,?_⟩
 ·intro k hk;rw[hs3];unfold rowR at hk
  split at hk
  ·rename_i e;exact (hrow3.lt k e).2
  ·exact Nat.lt_of_lt_of_le (h.inw k hk) hsz
 ·intro k hk;rw[hold k (by omega)];exact h.low k hk
 ·rw[hb];refine ⟨v',hblk3,by rw[hold b hbl];exact hrb,?_,fun g hg'=>by simp[rowR,hg']⟩;rw[List.length_append,List.flatMap_append];simpa using hrow4
 ·refine ⟨hg.os,hg.tape,hg.output,by rw[hs3];exact hsz,fun k hk hr=>key k hk (fun e=>by rw[e] at hr;omega) (fun e=>by have:=hrow k e;omega),hold⟩
end
end
section
open Go.RowKit Go.Shelf Go.Maps Go.Sort
open Lib renaming hid → Jh
attribute [local go_sem ↓] Go.wp_at_zero Go.wp_at_succ
attribute [local go_sem] Later.cell
section
variable {B0 : Nat} {a : Nat → Addr} {R : Nat → Nat} {A : Adr} {d : Ds} {w w' : World}
def safeW (w:World) (p x y:Nat):World:=((w.setCell ⟨p,2,none⟩ (.map (some x))).setCell ⟨p,3,none⟩ (.map (some y))).setCell ⟨p,4,none⟩ (.slice none 0 0)
theorem Kph (w:World) (p x y:Nat):(safeW w p x y).heap.size=w.heap.size:=by simp[safeW,World.setCell]
theorem Khb (w:World) {p x y k:Nat} (h:k≠p):(safeW w p x y).heap[k]? = w.heap[k]?:=
 ((Below.heap_setCell _ _ _ k h).trans (Below.heap_setCell _ _ _ k h)).trans (Below.heap_setCell _ _ _ k h)
theorem CD.resafe (h:CD B0 w R A d) {w1:World} {x y:Nat} (hb:Below w.heap.size w w1) (hx:SM w1 x (dirF d.things)) (hy:SM w1 y (filF A.φ d.things)) (hxy:x≠y) (hxl:w.heap.size≤x) (hyl:w.heap.size≤y) (hB:B0≤w.heap.size) :
  CD B0 (safeW w1 A.p x y) (giv (giv R x 4) y 6) { A with sd:=x,sf:=y,sv:=.slice none 0 0 } { d with safe:=d.things,steps:=[] }∧Own R (giv (giv R x 4) y 6) w (safeW w1 A.p x y):=by
 have hpl:=Blk.lt h.blk;have hp0:A.p≠x:=by omega
 have hp1:A.p≠y:=by omega
 have hold:∀k,k < w.heap.size→giv (giv R x 4) y 6 k=R k:=fun k hk=>by rw[Kba (by omega),Kba (by omega)]
 have hblk:=Blk.below h.blk hb hpl;have hx1:=SMap.lt hx;have hy1:=SMap.lt hy
 have key:∀k,R k≠0→R k≠1→(safeW w1 A.p x y).heap[k]? = w.heap[k]?∧giv (giv R x 4) y 6 k=R k:=fun k hk h1=>
  ⟨(Khb w1 (fun e=>h1 (by rw[e];exact h.rp))).trans (hb.block k (h.inw k hk)),hold k (h.inw k hk)⟩
 have hin:InW (giv (giv R x 4) y 6) (safeW w1 A.p x y):=by
  intro k hk;rw[Kph]
  by_cases e1:k=y
  ·omega
  by_cases e2:k=x
  ·omega
  rw[Kba e1,Kba e2] at hk;exact Nat.lt_of_lt_of_le (h.inw k hk) hb.size
 refine ⟨?_,?_⟩
 ·exact {
   blk:=((Blk.set_ hblk 2 _).set_ 3 _).set_ 4 _
   rp:=by rw[hold _ hpl];exact h.rp
   dirs:=h.dirs.same fun k hk=>key k (by omega) (by omega)
   files:=h.files.same fun k hk=>key k (by omega) (by omega)
   sdirs:=⟨hx.same (Khb w1 (Ne.symm hp0)),by show giv (giv R x 4) y 6 x=4;rw[Kba hxy,Kcq]⟩
   sfiles:=⟨hy.same (Khb w1 (Ne.symm hp1)),Kcq _ _ _⟩
   steps:=⟨[],RowIs.nil,rfl,fun i s f hs _=>by simp at hs⟩
   bytes:=h.bytes.same fun k hk=>key k (by omega) (by omega)
   inw:=hin
   low:=fun k hk=>by rw[hold k (by omega)];exact h.low k hk }
 ·exact ⟨hb.os,hb.tape,hb.output,by rw[Kph];exact hb.size,fun k hk hr=>(Khb w1 (fun e=>by rw[e,h.rp] at hr;omega)).trans (hb.block k hk),hold⟩
theorem Kps (w:World) (h:CD B0 w R A d) (hf:Fit d) (hB:B0≤w.heap.size) (hF:Fails B0 a w) :
  Calls Tryz.prog 64 #[.pointer (some ⟨A.p,0,none⟩)] w (Kad B0 a R A (Kbg d) ⟨#[110,97,109,101,115]⟩ ⟨#[]⟩ w):=by
 obtain ⟨p,hp⟩:∃p,A.p=p:=⟨_,rfl⟩;have HP:=Jh hp;have hoff:w.cell? ⟨p,6,none⟩=some (.bool d.off):=by rw[←hp];exact Blk.cell h.blk 6
 obtain ⟨k,hk⟩:∃k,Kcg d.off true=k:=⟨_,rfl⟩;have HK:=Jh hk;have HRD:=Jh (Kek (B0:=B0) (a:=a) p d.off true ⟨#[110,97,109,101,115]⟩ ⟨#[]⟩ k hk w hoff hF);rw[hp];clear hk hp hoff;go_enter Tryz.func64,Tryz.ntmps64
 go_wp2_with fail
 refine HRD.out.mono ?_;rintro _ w1 ⟨v,rfl,hv1,hb1⟩
 cases k with
 | succ k=>
  have hfin:Kad B0 a R A (Kbg d) ⟨#[110,97,109,101,115]⟩ ⟨#[]⟩ w (.returned v) w1:=by
   have e1:Kbg d=(k+1,d):=by
    have hk:=HK.out;unfold Kcg at hk;unfold Kbg;rw[←hk]
    cases ho:d.off with
    | true=>simp
    | false=>rw[ho] at hk;simp at hk
   rw[e1];exact Kad.bad h hb1 hv1
  obtain ⟨q4,rfl,_⟩:=hv1;have HFIN:=Jh hfin;clear hfin;go_wp2_with fail
  go_ret
  exact HFIN.out
 | zero=>
  obtain rfl:v = .nilIface:=hv1
  have ho:d.off=false:=by
   have hk:=HK.out;unfold Kcg at hk
   cases ho:d.off with
   | true=>rw[ho] at hk;simp at hk
   | false=>rfl
  have hcd1:=h.below hb1;have HST:=Jh (Khe (a:=a) ⟨#[110,97,109,101,115]⟩ ⟨#[]⟩ w1 hcd1 hf.aw (by have:=hb1.size;omega) (hF.below (hb1.mono hB)));rw[HP.out] at HST;have HSS:=Jh (Khd d);obtain ⟨k,dd,hk⟩:∃k d1,stepD d=(k,d1):=⟨_,_,rfl⟩;have HKK:=Jh hk;have e1:Kbg d=if k≠0 then (k,dd) else (0,{ dd with safe:=d.things,steps:=[] }):=by unfold Kbg;rw[ho,hk];rfl
  have HE:=Jh e1;clear hk hcd1 e1 ho;go_wp2_with fail
  refine HST.out.mono ?_;rintro _ w2 ⟨v,rfl,hv2,hcd2,hO2,_⟩;rw[HKK.out] at hv2 hcd2
  cases k with
  | succ k=>
   have hfin:Kad B0 a R A (Kbg d) ⟨#[110,97,109,101,115]⟩ ⟨#[]⟩ w (.returned v) w2:=by
    rw[HE.out];exact ⟨v,R,A,rfl,hv2,hcd2,(Own.of_below hb1).trans hO2,rfl,rfl⟩
   have HFIN:=Jh hfin;obtain ⟨q,rfl,_⟩:=hv2;clear hfin hcd2 hO2;go_wp2_with fail
   go_ret
   exact HFIN.out
  | zero=>
   obtain rfl:v = .nilIface:=hv2;have hss:=HSS.out;rw[HKK.out] at hss;have HTW:=Jh (Kne A.md A.mf (dirF dd.things) (filF A.φ dd.things));have HBLK:=Jh hcd2.blk;have c0:w2.cell? ⟨A.p,0,none⟩=some (.map (some A.md)):=Blk.cell hcd2.blk 0;have c1:w2.cell? ⟨A.p,1,none⟩=some (.map (some A.mf)):=Blk.cell hcd2.blk 1;rw[HP.out] at c0 c1;obtain ⟨md,hmd⟩:∃x,A.md=x:=⟨_,rfl⟩;obtain ⟨mf,hmf⟩:∃x,A.mf=x:=⟨_,rfl⟩;rw[hmd] at c0 HTW;rw[hmf] at c1 HTW;have HC2:=Jh hcd2;have HO2:=Jh hO2;have HSM1:=Jh (show SM w2 md (dirF dd.things) by rw[←hmd];exact hcd2.dirs.1);have HSM2:=Jh (show SM w2 mf (filF A.φ dd.things) by rw[←hmf];exact hcd2.files.1);clear hcd2 hO2 hmd hmf;go_wp2_with fail
   refine (HTW.out w2 HSM1.out HSM2.out).mono ?_;rintro _ w3 ⟨x,y,rfl,hx,hy,hxy,hxl,hyl,hb3⟩;obtain ⟨hcd4,hO4⟩:=CD.resafe HC2.out hb3 hx hy hxy hxl hyl (by have:=hb1.size;have:=HO2.out.size;omega)
   have hfin:Kad B0 a R A (Kbg d) ⟨#[110,97,109,101,115]⟩ ⟨#[]⟩ w (.returned .nilIface) (safeW w3 A.p x y):=by
    rw[HE.out,←hss.1];exact ⟨.nilIface,_,_,rfl,rfl,hcd4,((Own.of_below hb1).trans HO2.out).trans hO4,rfl,rfl⟩
   rw[HP.out] at hfin;unfold safeW at hfin;have HFIN:=Jh hfin;have hblk:=HBLK.out;unfold DBlk at hblk;rw[HP.out] at hblk;have hblk3:=Blk.below hblk hb3 (Blk.lt hblk);obtain ⟨sd,hsd⟩:∃x,A.sd=x:=⟨_,rfl⟩;obtain ⟨sf,hsf⟩:∃x,A.sf=x:=⟨_,rfl⟩;obtain ⟨sv,hsv⟩:∃x,A.sv=x:=⟨_,rfl⟩;rw[hsd,hsf,hsv] at hblk3;have k2:w3.cell? ⟨p,2,none⟩=some (.map (some sd)):=Blk.cell hblk3 2;have k3:w3.cell? ⟨p,3,none⟩=some (.map (some sf)):=Blk.cell hblk3 3;have k4:w3.cell? ⟨p,4,none⟩=some sv:=Blk.cell hblk3 4;have g2:=Blk.frozen hblk3 2;have g3:=Blk.frozen hblk3 3;have g4:=Blk.frozen hblk3 4;clear hfin hcd4 hO4 hx hy hxy hxl hyl hblk hblk3 hsd hsf hsv hss c0 c1 hb3;go_wp2_with fail
   go_ret
   exact HFIN.out
end
section
variable {B0 : Nat} {a : Nat → Addr} {R : Nat → Nat} {A : Adr} {d : Ds} {w w' : World}
def seenL (d:Ds) (left:Txt→Bool) (l:List Th):Nat:=(l.map fun x=>if x.dir || left x.path then 0 else (nowAt d x.at_).length).sum
theorem Qcy {left:Txt→Bool} {l:List Th} (h:∀x∈l,x.dir=false→left x.path=true):seenL d left l=0:=by
 unfold seenL
 induction l with
 | nil=>rfl
 | cons x l ih=>
  rw[List.map_cons,List.sum_cons,ih fun y hy=>h y (List.mem_cons_of_mem _ hy)]
  cases hd:x.dir with
  | true=>simp
  | false=>simp[h x (List.mem_cons_self) hd]
theorem Qgf {left:Txt→Bool} {l:List Th} (h:∀x,left x=false):seenL d left l=usedL d l:=by
 unfold seenL usedL;simp[h]
theorem Qjg {left:Txt→Bool} {l:List Th}:seenL d left l≤usedL d l:=by
 unfold seenL usedL
 induction l with
 | nil=>exact Nat.le_refl _
 | cons x l ih=>
  simp only[List.map_cons,List.sum_cons];refine Nat.add_le_add ?_ ih;cases x.dir <;> cases left x.path <;> simp
theorem Qcx {left left':Txt→Bool} {l:List Th} (h:∀x∈l,left' x.path=left x.path):seenL d left' l=seenL d left l:=by
 unfold seenL;congr 1;exact List.map_congr_left fun x hx=>by rw[h x hx]
theorem Qgg {left left':Txt→Bool} {l:List Th} (hn:(l.map Th.path).Nodup) {x:Th} (hx:x∈l) (hd:x.dir=false) (h1:left x.path=true) (h2:left' x.path=false) (h3:∀z,z≠x.path→left' z=left z) :
  seenL d left' l=seenL d left l+(nowAt d x.at_).length:=by
 induction l with
 | nil=>cases hx
 | cons y l ih=>
  rw[List.map_cons,List.nodup_cons] at hn;have e1:∀f,seenL d f (y :: l)=(if y.dir || f y.path then 0 else (nowAt d y.at_).length)+seenL d f l:=fun f=>by unfold seenL;rw[List.map_cons,List.sum_cons]
  rw[e1,e1];rcases List.mem_cons.1 hx with rfl | hx'
  ·rw[Qcx (left':=left') (left:=left) fun z hz=>h3 _ fun e=>hn.1 (by rw[←e];exact List.mem_map_of_mem hz),h1,h2,hd];simp;omega
  ·rw[ih hn.2 hx',h3 y.path fun e=>hn.1 (by rw[e];exact List.mem_map_of_mem hx')];omega
theorem Qdk (w:World) (h:CD B0 w R A d) (hf:Fit d) (hu:usedL d d.things≤4611686018427387904) :
  Calls Tryz.prog 117 #[.pointer (some ⟨A.p,0,none⟩)] w fun e w'=>e = .returned (.int .i64 (usedD d:Int))∧Below w.heap.size w w':=by
 obtain ⟨p,hp⟩:∃p,A.p=p:=⟨_,rfl⟩;have HP:=Jh hp;have hoff:w.cell? ⟨p,6,none⟩=some (.bool d.off):=by rw[←hp];exact Blk.cell h.blk 6
 obtain ⟨o,ho⟩:∃o,d.off=o:=⟨_,rfl⟩;rw[ho] at hoff;have HOF:=Jh (Qfo p o w hoff);obtain ⟨b,hb⟩:∃b,A.mf=b:=⟨_,rfl⟩;have c1:w.cell? ⟨p,1,none⟩=some (.map (some b)):=by rw[←hp,←hb];exact Blk.cell h.blk 1
 have hsm:SM w b (filF A.φ d.things):=by rw[←hb];exact h.files.1
 rw[hp];clear hp hb hoff;go_enter Tryz.func117,Tryz.ntmps117
 go_wp2_with fail
 refine HOF.out.mono ?_;rintro _ w1 ⟨rfl,rfl⟩
 cases o with
 | true=>
  have e1:usedD d=0:=by unfold usedD;rw[ho];rfl
  have HE:=Jh e1;clear c1 hsm e1;go_wp2_with fail
  go_ret
  exact ⟨by rw[HE.out];rfl,Below.refl _ _⟩
 | false=>
  have e1:usedD d=usedL d d.things:=by unfold usedD;rw[ho];rfl
  have HE:=Jh e1;obtain ⟨D,hown,hhas,hat⟩:=hsm;have hsize:=SMap.size_le Tryz.underlying9 hown (d.things.map Th.path) (fun x hx=>Kis (φ:=A.φ) (by rw[←hhas];exact hx));rw[List.length_map] at hsize;have htl:=hf.tl;have HHAS:=Jh hhas;have HAT:=Jh hat;have H:=Jh h;clear hhas hat h e1 ho;have hbl:=hown.lt;go_wp2_with (at_range;refine wpList_range_own _ rfl _ 125 rfl 9 132 law3 Tryz.underlying125 HR b (Maps.size D) D rfl hown ?_;intro w0 hrg0 hg0 hs0)
  obtain ⟨r,hr⟩:∃r,w.heap.size=r:=⟨_,rfl⟩;have hB0:Below r w w0:=⟨hg0.os,hg0.tape,hg0.output,hg0.size,fun k hk=>hg0.block k (by omega) (by simp)⟩;have HRS:=Jh hr;rw[hr] at hrg0 ⊢;clear hr hs0;go_frame
  go_loopg [3] (Maps.size D) (fun g s3 wr=>∃(left:Lit→Bool) (cnt:Nat) (m:Nat),s3 = .int .i64 (m:Int)∧seenL d (fun z=>left (.string z)) d.things=m∧cnt≤g∧wr.ranges Tryz.prog 9 HR b r (Maps.size D) D left cnt∧Below r w wr)
  case atStart=>
   refine ⟨Maps.has D,Maps.size D,0,rfl,Qcy fun x hx hd=>?_,Nat.le_refl _,hrg0,hB0⟩;rw[HHAS.out x.path];exact Option.isSome_iff_exists.2 ⟨_,(Kch hf.tw.nodup).2 ⟨x,hx,hd,rfl,rfl⟩⟩
  case round=>
   obtain ⟨left,cnt,m,rfl,hsum,hcg,hrg,hB⟩:=hrel;have HSUM:=Jh hsum;clear hsum;go_wp2_with (at_next;refine wpList_next_ranges _ rfl _ rfl 9 law3 HR Value.string (fun v:Value=>v) (fun key kl hk=>by obtain ⟨x,e,_⟩:=Maps.keyOf_str Tryz.underlying9 hk;exact ⟨_,e⟩) (fun v _ _=>⟨v,rfl⟩) b r (Maps.size D) D left cnt rfl hrg ?_ ?_)
   ·intro hc0 hl0;have hm:m=usedD d:=by rw[HE.out,←HSUM.out];exact Qgf fun x=>by rw[hl0]
    have HM:=Jh hm;clear hc0 hl0 hm;go_wp2_with fail
    go_ret
    exact ⟨by rw[HM.out];rfl,by rw[HRS.out];exact hB⟩
   ·intro x c kl y y2 w2 cnt2 hkx hlk hv hat2 hrg2 hlt hg2 hs2 hen;clear hs2;obtain ⟨k,e1,rfl,_⟩:=Maps.keyOf_str Tryz.underlying9 hkx;have hfk:(filF A.φ d.things k).isSome=true:=by rw[←HHAS.out k];exact Maps.has_true_of_atKey hat2
    obtain ⟨v,hfv⟩:=Option.isSome_iff_exists.1 hfk
    have hcv:c=v:=by
     have h1:=HAT.out k v hfv (.held v);rw[hat2] at h1;unfold HR at hv;injection hv with hv;injection hv with hv;rw[←hv] at h1;injection h1
    subst hcv;obtain ⟨t,htm,htd,rfl,hct⟩:=(Kch hf.tw.nodup).1 hfv;have hB2:Below r w w2:=hB.trans ⟨hg2.os,hg2.tape,hg2.output,hg2.size,fun j hj=>hg2.block j (by have:=hB.size;have:=HRS.out;omega) (fun e=>by injection e with e;omega)⟩;have hi:=hf.tw.ats t htm htd;obtain ⟨u1,hblk1,_⟩:=Klw H.out hi;obtain ⟨g,hg⟩:∃g,A.φ[t.at_]?.getD 0=g:=⟨_,rfl⟩;unfold fptr at hct;rw[hg] at hblk1 hct;subst hct;obtain ⟨T,hT⟩:∃T:ByteArray,(⟨(fAt d t.at_).now.toArray⟩:ByteArray)=T:=⟨_,rfl⟩;have hTs:(nowAt d t.at_).length=T.size:=by rw[←hT];rfl
    have hblk2:=hblk1.below hB2 (by have:=hblk1.lt;have:=HRS.out;omega);have c0:w2.cell? ⟨g,0,none⟩=some (.string T):=by rw[←hT];exact hblk2.cell 0
    have hnext:seenL d (fun z=>left (.string z) && !(Lit.string z).sameKey (.string t.path)) d.things=m+T.size:=by
     rw[Qgg (left:=fun z=>left (.string z)) hf.tw.nodup htm htd hlk (by simp[Kjy.2 rfl]) (fun z hz=>by
      have:(Lit.string z).sameKey (.string t.path)=false:=by
       cases e:(Lit.string z).sameKey (.string t.path) with
       | false=>rfl
       | true=>exact absurd (Kjy.1 e) hz
      simp[this]),HSUM.out,hTs]
    have hle:m+T.size≤4611686018427387904:=by rw[←hnext];exact Nat.le_trans Qjg hu
    have HN:=Jh hnext;clear hnext hblk1 hblk2 hT hTs hg hi htm htd hfv hfk hv hat2 hkx e1 hlk hg2 hrg;go_wp2_with fail
    go_roundg (gk - 1)
    case measure=>omega
    case rel=>exact ⟨_,cnt2,m+T.size,by simp,HN.out,by omega,hrg2,hB2⟩
end
end
end Go.Proofs.YtefpndiiedkmpaaGreatDoor
