/- Merged (what the claim wants of): SortRow, SpnWalksA, SpnWalksB, SpnWalksC, BlkSize, BurstPlain, BlkLawP, RefBPlain, RefBEq, SpnWalksD, KptSpnD. -/
import Derived.Test.YtefpndiiedkmpaaGreatDoorKpb01
import Derived.Shelf.SlSortCmp.NoneTotal
import Derived.Test.YtefpndiiedkmpaaGreatDoorKpb05
import Derived.Test.YtefpndiiedkmpaaGreatDoorKpb04
import Derived.Lib.SliceRun
import Derived.Deep.Onto
import Derived.Laws.StructEq
import Derived.WalkKit
set_option linter.unusedVariables false
set_option linter.unusedSimpArgs false
set_option maxRecDepth 100000
set_option maxHeartbeats 8000000
namespace Go.Proofs.YtefpndiiedkmpaaGreatDoor
section
open Go.RowKit Go.Shelf Go.Sort
theorem Kkw {α : Type} {enc:α→List Value} {k:Nat} (hk:∀x,(enc x).length=k) (l:List α):(l.flatMap enc).length=l.length*k:=by
 induction l with
 | nil=>simp
 | cons x l ih=>rw[List.flatMap_cons,List.length_append,ih,hk,List.length_cons,Nat.succ_mul];omega
theorem Kep {α : Type} {enc:α→List Value} {k:Nat} (hk:∀x,(enc x).length=k):∀(l:List α) (i j:Nat) (x:α),l[i]? = some x→j < k→(l.flatMap enc)[i*k+j]? = (enc x)[j]?
 | [],_,_,_,h,_=>by simp at h
 | y :: l,0,j,x,h,hj=>by
  simp only[List.getElem?_cons_zero,Option.some.injEq] at h;subst h;rw[List.flatMap_cons,List.getElem?_append_left (by rw[hk];omega),Nat.zero_mul,Nat.zero_add]
 | y :: l,i+1,j,x,h,hj=>by
  rw[List.flatMap_cons,List.getElem?_append_right (by rw[hk,Nat.succ_mul];omega),hk,show (i+1)*k+j - k=i*k+j by rw[Nat.succ_mul];omega];exact Kep hk l i j x (by simpa using h) hj
theorem Krn {α : Type} [Inhabited α] {enc:α→List Value} {k:Nat} (hk:∀x,(enc x).length=k) (h0:0 < k) {l:List α} {t:Nat} (h:t < l.length*k):(l.flatMap enc)[t]? = some ((enc l[t / k]!)[t % k]!):=by
 have hl:t / k < l.length:=Nat.div_lt_of_lt_mul (by rw[Nat.mul_comm];exact h);have h1:l[t / k]? = some l[t / k]!:=by rw[getElem!_pos l _ hl,List.getElem?_eq_getElem hl]
 have h2:=Kep hk l (t / k) (t % k) _ h1 (Nat.mod_lt _ h0);rw[show t / k*k+t % k=t by rw[Nat.mul_comm];exact Nat.div_add_mod t k] at h2;have h3:t % k < (enc l[t / k]!).length:=by rw[hk];exact Nat.mod_lt _ h0
 rw[h2,List.getElem?_eq_getElem h3,getElem!_pos (enc l[t / k]!) _ h3]
section
variable {α : Type} [Inhabited α] {enc : α → List Value} {k : Nat} {w : World} {B g n cap : Nat} {T : TypeId} {l : List α}
theorem Koo (hk:∀x,(enc x).length=k) (h0:0 < k) (hown:w.ownsRow B T k (.slice (some ⟨g,0,none⟩) n cap) n (l.flatMap enc)) (hl:l.length=n):HoldsK enc k w g 0 l.toArray:=by
 rcases hown.2 with ⟨he,_⟩ | ⟨g',cap',cur,he,h1,h2,h3,h4,h5,h6⟩
 ·cases he
 ·injection he with he _ hcc;injection he with he;injection he with he _ _;subst he hcc;intro t ht;rw[size_flatK] at ht;have ht':t < l.length*k:=by simpa using ht
  refine ⟨?_,by simp[World.frozen?,h2]⟩;rw[get_flatK _ _ _ _ ht,Nat.zero_add,cell_of_row w g t cur _ (0,0) h2]
  have e1:cur[t]? = (l.flatMap enc)[t]?:=by
   rw[←h6,List.getElem?_take_of_lt (by rw[hl] at ht';exact ht')];simp
  rw[e1,Krn hk h0 ht'];simp only[List.getElem!_toArray,id]
theorem Kik (enc:α→List Value) (k:Nat) (w:World) (blk off n:Nat) (d:Array α) (os:Array Obj):w.grownBy (sortWorldK enc k w blk off n d os) (some blk):=by
 refine ⟨rfl,rfl,rfl,?_,?_⟩
 ·simp[sortWorldK,grow,putRowK,putRow,mapBlock,Sort.ahead]
 ·intro j hj hne;have hb:¬blk=j:=fun e=>hne (by rw[e])
  simp only[sortWorldK,grow,putRowK,putRow,mapBlock,Sort.ahead];rw[Array.getElem?_append_left (by simpa using hj),Array.getElem?_modify,if_neg hb]
theorem Kox (hk:∀x,(enc x).length=k) (h0:0 < k) (hown:w.ownsRow B T k (.slice (some ⟨g,0,none⟩) n cap) n (l.flatMap enc)) (hl:l.length=n) (d:Array α) (hd:d.size=n) (m:Nat) (os:Array Obj) :
  (sortWorldK enc k w g 0 m d os).ownsRow B T k (.slice (some ⟨g,0,none⟩) n cap) n (d.toList.flatMap enc):=by
 have hlt:=World.ownsRow.lt hown g rfl;rcases hown.2 with ⟨he,_⟩ | ⟨g',cap',cur,he,h1,h2,h3,h4,h5,h6⟩
 ·cases he
 ·injection he with he _ hcc;injection he with he;injection he with he _ _;subst he hcc;refine ⟨by rw[Kkw hk];simp[hd],.inr ⟨g,cap,putCells id 0 (flatK enc k d) cur,rfl,h1,?_,h3,h4,by simp[putCells,h5],?_⟩⟩
  ·simp only[sortWorldK,grow,putRowK,putRow,mapBlock,Sort.ahead];rw[Array.getElem?_append_left (by simpa using hlt.2),Array.getElem?_modify,if_pos rfl,h2];rfl
  ·apply List.ext_getElem?;intro t
   by_cases ht:t < n*k
   ·rw[List.getElem?_take_of_lt ht,Krn hk h0 (by simpa[hd] using ht)];have htc:t < cur.size:=by rw[h5];exact Nat.lt_of_lt_of_le ht (Nat.mul_le_mul_right k h3)
    have hts:t < (flatK enc k d).size:=by rw[size_flatK,hd];exact ht
    simp only[putCells,Array.getElem?_toList,Array.getElem?_mapIdx,Array.getElem?_eq_getElem htc,Option.map_some];rw[if_pos ⟨Nat.zero_le _,by simpa using hts⟩,Nat.sub_zero,get_flatK _ _ _ _ (by rw[hd];exact ht)];congr 2;have hq:t / k < d.size:=Nat.div_lt_of_lt_mul (by rw[Nat.mul_comm,hd];exact ht);rw[getElem!_pos d _ hq,getElem!_pos d.toList _ (by simpa using hq)];simp
   ·rw[List.getElem?_eq_none (by rw[List.length_take];omega),List.getElem?_eq_none (by rw[Kkw hk];simp[hd];omega)]
theorem Kpb {d:Array α} (hl:l.length=n) (h:PermIn 0 n l.toArray d):d.size=n∧d.toList.Perm l:=by
 obtain ⟨hsz,_,hpm⟩:=h;have hsz':d.size=n:=by rw[hsz];simpa using hl
 refine ⟨hsz',?_⟩;have e1:(d.extract 0 n)=d:=by rw[←hsz'];simp
 have e2:(l.toArray.extract 0 n)=l.toArray:=by rw[←hl];simp
 rw[e1,e2] at hpm;simpa using hpm
theorem Kpa {d:Array α} {lt:α→α→Bool} (hd:d.size=n) (h:SortedIn lt 0 n d):d.toList.Pairwise fun a b=>lt b a=false:=by
 rw[List.pairwise_iff_getElem];intro i j hi hj hij;have hi':i < d.size:=by simpa using hi
 have hj':j < d.size:=by simpa using hj
 have:=h i j (Nat.zero_le _) hij (by omega);rw[getElem!_pos d j hj',getElem!_pos d i hi'] at this;exact this
end
end
section
open Go.RowKit Go.Shelf Go.Sort
attribute [local go_sem ↓] Go.wp_at_zero Go.wp_at_succ
attribute [local go_sem] Later.cell
def Kac (s:Spn):List Value:=[.int .i64 s.frm,.int .i64 s.to_]
instance:Inhabited Spn:=⟨⟨0,0⟩⟩
theorem Kbv (s:Spn):(Kac s).length=2:=rfl
theorem Kon:∀s:Spn,∀v∈Kac s,v.oneCell'=true:=by
 intro s v hv;simp only[Kac,List.mem_cons,List.not_mem_nil,or_false] at hv;rcases hv with rfl | rfl <;> rfl
theorem Kde (l:List Spn):(l.flatMap Kac).length=l.length*2:=Kkw Kbv l
theorem Kvi:(Tryz.prog.info? 109).map (fun i=>(i.zero,i.size,i.bytes))=some (some (.agg #[.int .i64 0,.int .i64 0]),2,16):=by kernel_rfl
theorem Kki (a:Int) (w:World):Calls Tryz.prog 198 #[.int .i64 a] w fun e w'=>e = .returned (.bool false)∧w=w':=by
 have n1:(a != a)=false:=by simp
 go_enter Tryz.func198,Tryz.ntmps198
 go_wp2
 go_ret
 exact ⟨by simp,rfl⟩
def cmpI (a b:Int):Int:=if a < b then -1 else if b < a then 1 else 0
theorem Kxw (a b:Int) (w:World):Calls Tryz.prog 147 #[.int .i64 a,.int .i64 b] w fun e w'=>e = .returned (.int .i64 (cmpI a b))∧w=w':=by
 have h1:=fun W=>Kki a W
 have h2:=fun W=>Kki b W
 unfold cmpI;rcases (by omega:a < b∨b < a∨a=b) with h | h | h
 ·rw[if_pos h];have d1:decide (a < b)=true:=decide_eq_true h;go_enter Tryz.func147,Tryz.ntmps147
  go_wp2_with fail
  refine (h1 _).mono ?_;rintro _ w1 ⟨rfl,rfl⟩;go_wp2_with fail
  refine (h2 _).mono ?_;rintro _ w1 ⟨rfl,rfl⟩;go_wp2_with fail
  go_ret
  exact ⟨rfl,rfl⟩
 ·have hn:¬a < b:=by omega
  rw[if_neg hn,if_pos h];have d1:decide (a < b)=false:=decide_eq_false hn;have d2:decide (b < a)=true:=decide_eq_true h;have hle:b≤a:=by omega
  have hne:¬a=b:=by omega
  go_enter Tryz.func147,Tryz.ntmps147
  go_wp2_with fail
  refine (h1 _).mono ?_;rintro _ w1 ⟨rfl,rfl⟩;go_wp2_with fail
  refine (h2 _).mono ?_;rintro _ w1 ⟨rfl,rfl⟩;go_wp2_with fail
  go_ret
  exact ⟨rfl,rfl⟩
 ·subst h;rw[if_neg (by omega),if_neg (by omega)];have d1:decide (a < a)=false:=decide_eq_false (by omega);go_enter Tryz.func147,Tryz.ntmps147
  go_wp2_with fail
  refine (h1 _).mono ?_;rintro _ w1 ⟨rfl,rfl⟩;go_wp2_with fail
  refine (h2 _).mono ?_;rintro _ w1 ⟨rfl,rfl⟩;go_wp2_with fail
  go_ret
  exact ⟨rfl,rfl⟩
def cfS (x y:Spn):Int:=cmpI x.frm y.frm
theorem ltS (x y:Spn):ltOf cfS x y=decide (x.frm < y.frm):=by
 unfold ltOf cfS cmpI;rw[decide_eq_decide]
 split
 ·simp_all
 ·split
  ·simp;omega
  ·simp;omega
theorem swoS:SWO (ltOf cfS) where
 irrefl x:=by rw[ltS];simp
 trans x y z h1 h2:=by
  rw[ltS,decide_eq_true_eq] at h1 h2 ⊢;omega
 ntrans x y z h1 h2:=by
  rw[ltS,decide_eq_false_iff_not] at h1 h2 ⊢;omega
theorem Kzd (x y:Spn) (W:World) :
  Calls Tryz.prog 146 #[.agg (Kac x).toArray,.agg (Kac y).toArray] W fun e w'=>e = .returned (.int .i64 (cfS x y))∧∃q os',w'=grow (W.drewN q) os':=by
 suffices h:Calls Tryz.prog 146 #[.agg (Kac x).toArray,.agg (Kac y).toArray] W fun e w'=>e = .returned (.int .i64 (cfS x y))∧Grown W w' by
  refine h.mono ?_;rintro e w' ⟨he,⟨p,hp⟩⟩;exact ⟨he,p.n,p.os,hp⟩
 obtain ⟨a,b⟩:=x;obtain ⟨c,d⟩:=y;unfold Kac cfS;have HC:=Lib.hid (fun w:World=>Kxw a c w);go_enter Tryz.func146,Tryz.ntmps146
 go_wp2_with fail
 refine (HC.out _).mono ?_;rintro _ w' ⟨rfl,rfl⟩;go_wp2_with fail
 go_ret
 exact ⟨rfl,((Grown.refl _).alloc _).alloc _⟩
def badS (s:Spn):Bool:=decide (s.to_ < s.frm)
theorem Kpk (x:Spn) (W:World):Calls Tryz.prog 144 #[.agg (Kac x).toArray] W fun e w'=>e = .returned (.bool (badS x))∧Grown W w':=by
 obtain ⟨a,b⟩:=x;obtain ⟨r,hr⟩:∃r,badS ⟨a,b⟩=r:=⟨_,rfl⟩;rw[hr];unfold Kac;have hr2:decide (b < a)=r:=hr;go_enter Tryz.func144,Tryz.ntmps144
 go_wp2_with fail
 go_ret
 exact ⟨by rw[←hr2];rfl,(Grown.refl _).alloc _⟩
theorem Qgf {l:List Spn} {b off n:Nat} {w:World} (h:Elems w w.heap.size 2 Kac (some ⟨b,off,none⟩) n l) (hn:0 < n) (t:Nat) (ht:t < l.length*2):w.cell? ⟨b,off+t,none⟩=(l.flatMap Kac)[t]?:=by
 obtain ⟨b',off',e,_,hc⟩:=h.2 hn;injection e with e;injection e with e1 e2;subst e1 e2;have hl:t / 2 < l.length:=by omega
 have h1:l[t / 2]? = some l[t / 2]!:=by rw[getElem!_pos l _ hl,List.getElem?_eq_getElem hl]
 have h2:t % 2 < (Kac l[t / 2]!).length:=by rw[Kbv];omega
 have:=hc (t / 2) _ h1 (t % 2) _ (List.getElem?_eq_getElem h2);have h3:=Kep Kbv l (t / 2) (t % 2) _ h1 (by omega);rw[show t / 2*2+t % 2=t by omega] at h3;rw[h3,List.getElem?_eq_getElem h2,←this];congr 2;omega
theorem Kqf (l:List Spn) (A:Option Addr) (n c:Nat) (w:World) (h:Elems w w.heap.size 2 Kac A n l) (hn:n≤1099511627776) (h0:0 < n) :
  Calls Tryz.prog 143 #[.slice A n c] w fun e w'=>∃v,e = .returned v∧w'.ownsRow w.heap.size 109 2 v n (l.flatMap Kac)∧Below w.heap.size w w':=by
 have hl:=h.len;obtain ⟨b,off,rfl,_,_⟩:=h.2 h0;obtain ⟨i0,hi0,hz0,hz1,hz2⟩:=info_parts Kvi
 have hcon:=AnyE.slices_Clone Tryz.laysCS i0 _ 2 16 hi0 hz0 hz1 hz2 rfl (by omega) Tryz.sizeOf109 b off n c (l.flatMap Kac) w (by rw[Kde,hl]) (by unfold maxLen;omega) (by omega)
  (fun j u hu=>by
   have hj:=(List.getElem?_eq_some_iff.1 hu).1;rw[Kde] at hj
   rw[Qgf h h0 j hj];exact hu)
  (fun u hu=>by
   obtain ⟨x,_,hx⟩:=List.mem_flatMap.1 hu
   exact Kon x u hx)
 refine hcon.mono ?_;rintro e w' ⟨v',rfl,hown,hne,hb⟩;exact ⟨v',rfl,hown,hb⟩
theorem Koj (A:Option Addr) (c:Nat) (w:World) :
  Calls Tryz.prog 143 #[.slice A 0 c] w fun e w'=>(∃A' c',e = .returned (.slice A' 0 c'))∧Below w.heap.size w w':=by
 cases A with
 | none=>
  refine (AnyE.slices_Clone_nil Tryz.laysCS 0 c w).mono ?_;rintro e w' ⟨rfl,rfl⟩;exact ⟨⟨none,0,rfl⟩,Below.refl _ _⟩
 | some a=>
  have q81:∀(w:World) (a:Option Addr) (n c n' c':Nat),(binOp .eql 81 (.slice a n c) (.slice none n' c')).run Tryz.prog w = .ok (.bool a.isNone) w:=fun w a n c n' c'=>Lib.run_eql_slice_nil w _ _ a n c n' c' Tryz.underlying81
  go_enter Tryz.func143,Tryz.ntmps143
  go_wp2_with fail
  go_ret
  exact ⟨⟨_,_,rfl⟩,(Below.refl _ _).alloc (Nat.le_refl _) _⟩
theorem Kqt (l:List Spn) (B:Nat) (v:Value) (w:World) (h:w.ownsRow B 109 2 v l.length (l.flatMap Kac)) (hn:l.length≤1099511627776) :
  Calls Tryz.prog 145 #[v,.func (.func 146) #[] #[]] w fun e w'=>e = .returned (.tuple #[])∧∃l':List Spn,l'.Perm l∧(l'.Pairwise fun a b=>¬b.frm < a.frm)∧w'.ownsRow B 109 2 v l'.length (l'.flatMap Kac)∧w.grownBy w' v.ownBlock:=by
 have hsl:(l = []∧v = .slice none 0 0)∨∃g c,v = .slice (some ⟨g,0,none⟩) l.length c:=by
  rcases h.2 with ⟨h1,h0⟩ | ⟨g,cap,cur,h1,_⟩
  ·exact .inl ⟨List.eq_nil_of_length_eq_zero h0,h1⟩
  ·exact .inr ⟨g,cap,h1⟩
 rcases hsl with ⟨rfl,rfl⟩ | ⟨g,c,rfl⟩
 ·refine (AnyF.slices_SortFunc_none Tryz.laysSFS none 0 _ w).mono ?_;rintro e w' ⟨rfl,rfl⟩;exact ⟨rfl,[],.refl _,List.Pairwise.nil,h,⟨rfl,rfl,rfl,Nat.le_refl _,fun _ _ _=>rfl⟩⟩
 ·have hlt:=World.ownsRow.lt h g rfl;have eg:∀args w,(callFunc 146 args).run Tryz.prog w = .ok (.enter 146 args) w:=enters_of Tryz.func146 (by kernel_rfl) rfl;have hcon:=AnyQ.slices_SortFunc Tryz.laysSFS 2 Tryz.isAgg109 Tryz.sizeOf109 Kac Kbv Kon cfS swoS 146 #[] g 0 c l.toArray w eg (fun _ _ _ _ x y=>Kzd x y _) (Koo Kbv (by decide) h rfl) hlt.2 (by simp;omega);simp only[List.size_toArray] at hcon;refine hcon.mono ?_;rintro e w' ⟨rfl,d',m,os,hp,hs,rfl⟩;obtain ⟨hsz,hpm⟩:=Kpb rfl hp;refine ⟨rfl,d'.toList,hpm,?_,?_,Kik _ _ _ _ _ _ _ _⟩
  ·refine (Kpa hsz hs).imp ?_;intro a b hab;rw[ltS,decide_eq_false_iff_not] at hab;exact hab
  ·have:=Kox Kbv (by decide) h rfl d' hsz m os;rw[show d'.toList.length=l.length by simpa using hsz];exact this
end
section
open Go.RowKit Go.Shelf Go.Sort
open Lib renaming hid → Jh
attribute [local go_sem ↓] Go.wp_at_zero Go.wp_at_succ
attribute [local go_sem] Later.cell
theorem Kfr {l:List Spn} {B n g cap:Nat} {w:World} (h:w.ownsRow B 109 2 (.slice (some ⟨g,0,none⟩) n cap) n (l.flatMap Kac)) (hl:l.length=n) {i:Nat} (hi:i < n):w.cell? ⟨g,i*2,none⟩=some (.int .i64 l[i]!.frm)∧w.cell? ⟨g,i*2+1,none⟩=some (.int .i64 l[i]!.to_)∧g < w.heap.size:=by
 have h1:l[i]? = some l[i]!:=by rw[getElem!_pos l i (by omega),List.getElem?_eq_getElem (by omega)]
 refine ⟨?_,?_,(World.ownsRow.lt h g rfl).2⟩
 ·rw[World.ownsRow.cellAt h (i*2) (by omega)];have:=Kep Kbv l i 0 _ h1 (by decide);rw[Nat.add_zero] at this;rw[this];rfl
 ·rw[World.ownsRow.cellAt h (i*2+1) (by omega)];rw[Kep Kbv l i 1 _ h1 (by decide)];rfl
theorem Kid {l:List Value} {B n sz:Nat} {T:TypeId} {v:Value} {w w':World} (h:w.ownsRow B T sz v n l) (hg:Grown w w'):w'.ownsRow B T sz v n l:=by
 obtain ⟨⟨q,os⟩,rfl⟩:=hg;refine World.ownsRow.kept h (row:=none) ?_ ?_
 ·exact ⟨rfl,rfl,rfl,(Grown.of w q os).below.size,fun j hj _=>(Grown.of w q os).below.block j hj⟩
 ·cases hv:v.ownBlock with
  | none=>exact .inl rfl
  | some b=>exact .inr (by simp)
theorem Kop (l:List Spn) (B n g cap:Nat) (w:World) (h:w.ownsRow B 109 2 (.slice (some ⟨g,0,none⟩) n cap) n (l.flatMap Kac)) (hl:l.length=n) (hn:n≤1099511627776) :
  Calls Tryz.prog 196 #[.slice (some ⟨g,0,none⟩) n cap,.func (.func 144) #[] #[]] w fun e w'=>(∃k:Nat,k≤n∧e = .returned (.int .i64 (if k < n then (k:Int) else -1))∧(∀j,j < k→badS l[j]! = false)∧(k < n→badS l[k]! = true))∧Grown w w':=by
 have HR:=Jh h;have HL:=Jh hl;have HC:=Jh (fun (x:Spn) (W:World)=>Kpk x W);have eg:∀args w,(callFunc 144 args).run Tryz.prog w = .ok (.enter 144 args) w:=enters_of Tryz.func144 (by kernel_rfl) rfl;clear h hl;go_enter Tryz.func196,Tryz.ntmps196
 go_wp2_with fail
 go_loopg [8] n (fun gg s8 wr=>∃i:Nat,i+gg=n∧s8 = .int .i64 (i:Int)∧(∀j,j < i→badS l[j]! = false)∧Grown w wr)
 case atStart=>exact ⟨0,by omega,rfl,fun j hj=>by omega,Grown.refl _⟩
 case round=>
  obtain ⟨i,hig,rfl,hall,hg⟩:=hrel;have HIG:=Jh hig;have HA:=Jh hall;have HG:=Jh hg;clear hig hall hg;obtain ⟨wo,rfl⟩:∃x,x=wr:=⟨_,rfl⟩
  by_cases hi:i < n
  ·have el:decide (i < n)=true:=by rw[decide_eq_true_eq];exact hi
   have hi2:(i:Int) < (n:Int):=by omega
   obtain ⟨c0,c1,hgl⟩:=Kfr (Kid HR.out HG.out) HL.out hi;obtain ⟨x,hx⟩:∃x,l[i]! = x:=⟨_,rfl⟩;rw[hx] at c0 c1;have HX:=Jh hx;have HCX:=Jh (HC.out x wo);obtain ⟨a,b⟩:=x;unfold Kac at HCX;dsimp only at c0 c1 HCX;clear hx;go_wp2_with fail
   refine HCX.out.mono ?_;rintro _ w2 ⟨rfl,hg2⟩;have HG2:=Jh (HG.out.trans hg2);obtain ⟨r,hr⟩:∃r,badS ⟨a,b⟩=r:=⟨_,rfl⟩;rw[hr];have HRR:=Jh hr;clear hg2 hr c0 c1
   cases r with
   | true=>
    go_wp2_with fail
    go_ret
    exact ⟨⟨i,by omega,by rw[if_pos (by omega)];rfl,HA.out,fun _=>by rw[HX.out];exact HRR.out⟩,HG2.out⟩
   | false=>
    have HN:=Jh (show ∀j,j < i+1→badS l[j]! = false from fun j hj=>by
     by_cases hji:j=i
     ·subst hji;rw[HX.out];exact HRR.out
     ·exact HA.out j (by omega))
    go_wp2_with fail
    go_roundg (gk - 1)
    case measure=>have:=HIG.out;omega
    case rel=>exact ⟨i+1,by have:=HIG.out;omega,by first | rfl | go_num,HN.out,HG2.out⟩
  ·have el:decide (i < n)=false:=by rw[decide_eq_false_iff_not];exact hi
   have hin:i=n:=by have:=HIG.out;omega
   go_wp2_with fail
   go_ret
   exact ⟨⟨n,Nat.le_refl _,by rw[if_neg (by omega)];rfl,by rw[←hin];exact HA.out,fun h=>absurd h (by omega)⟩,HG.out⟩
theorem Qao {xs:List Value} {B n k g cap i:Nat} {T:TypeId} {w:World} (h:w.ownsRow B T k (.slice (some ⟨g,0,none⟩) n cap) n xs) (hi:i≤n):w.ownsRow B T k (.slice (some ⟨g,0,none⟩) i cap) i (xs.take (i*k)):=by
 rcases h.2 with ⟨h',_⟩ | ⟨g',cap',cur,h',hb,hg,hnc,hcm,hcs,htake⟩
 ·cases h'
 ·injection h' with h1 _ h3;injection h1 with h1;injection h1 with h1 _ _;subst h1 h3;have hik:i*k≤n*k:=Nat.mul_le_mul_right k hi;refine ⟨by rw[List.length_take,h.1];omega,.inr ⟨g,cap,cur,rfl,hb,hg,by omega,hcm,hcs,?_⟩⟩;rw[←htake,List.take_take,Nat.min_eq_left hik]
theorem Kse {B n k g cap:Nat} {T:TypeId}:∀(vs:List Value) (o:Nat) (w:World) (xs:List Value),w.ownsRow B T k (.slice (some ⟨g,0,none⟩) n cap) n xs→∃xs',(w.setCells g o vs).ownsRow B T k (.slice (some ⟨g,0,none⟩) n cap) n xs'∧xs'.take o=xs.take o∧Below B w (w.setCells g o vs)
 | [],o,w,xs,h=>⟨xs,h,rfl,Below.refl _ _⟩
 | v :: vs,o,w,xs,h=>by
  have h1:=(World.ownsRow.stored h o v).1;obtain ⟨xs',h2,h3,h4⟩:=Kse vs (o+1) _ _ h1;have hg:=(World.ownsRow.lt h g rfl).1;refine ⟨xs',h2,?_,((Below.refl B w).setCell (p:=⟨g,o,none⟩) hg v).trans h4⟩;have h5:=congrArg (List.take o) h3;rw[List.take_take,List.take_take,Nat.min_eq_left (Nat.le_succ o),List.take_set_of_le (Nat.le_refl o)] at h5;exact h5
theorem Ktl {xs:List Value} {B n g cap i:Nat} {w:World} (h:w.ownsRow B 109 2 (.slice (some ⟨g,0,none⟩) n cap) n xs) (hi:i≤n) (c:Nat) :
  ∃w',(∀ty,(Builtin.clear_ #[81] ty #[.slice (some ⟨g,i*2,none⟩) (n - i) c]).run Tryz.prog w = .ok (.tuple #[]) w')∧w'.ownsRow B 109 2 (.slice (some ⟨g,0,none⟩) i cap) i (xs.take (i*2))∧Below B w w':=by
 rcases Nat.eq_zero_or_pos (n - i) with h0 | h0
 ·refine ⟨w,?_,Qao h hi,Below.refl _ _⟩;intro ty;rw[h0];simp[Builtin.clear_,run_underlying Tryz.underlying81]
 ·have hz:∀w,(zeroValue 109).run Tryz.prog w = .ok (.agg #[.int .i64 0,.int .i64 0]) w:=fun w=>Tryz.zeroValue109 w
  obtain ⟨vs,hvs⟩:∃vs,(Builtin.zeroCells (Value.agg #[.int .i64 0,.int .i64 0]).cells (n - i)).toList=vs:=⟨_,rfl⟩
  have hlen:vs.length=(n - i)*2:=by
   rw[←hvs];simp[Builtin.zeroCells,Value.cells]
  have hone:∀v∈vs,v.oneCell'=true:=by
   intro v hv;rw[←hvs] at hv;simp[Builtin.zeroCells,Value.cells] at hv;obtain ⟨a,_,rfl⟩:=hv;rcases Nat.mod_two_eq_zero_or_one a with h2 | h2 <;> rw[h2] <;> rfl
  obtain ⟨xs',h2,h3,h4⟩:=Kse vs (i*2) w xs h;refine ⟨w.setCells g (i*2) vs,?_,?_,h4⟩
  ·have hst:=run_storeCells_cells (P:=Tryz.prog) g (i*2) vs 0 w (fun j hj=>by
    rw[Nat.add_zero,World.ownsRow.cellAt h (i*2+j) (by omega),List.getElem?_eq_getElem (by have:=h.1;omega)]
    rfl) (fun j hj=>World.ownsRow.frozenAt h _) hone
   simp only[Nat.add_zero] at hst;obtain ⟨m,hm⟩:∃m,n - i=m+1:=⟨n - i - 1,by omega⟩;rw[hm] at hvs ⊢;intro ty;simp[Builtin.clear_,run_underlying Tryz.underlying81,hz,hvs,hst]
  ·have:=Qao h2 hi;rwa[h3] at this
def goodS (l:List Spn):List Spn:=l.filter fun s=>!badS s
theorem Qar:∀(X:List Spn) (i:Nat) (a b:Int),i < X.length→((X.flatMap Kac).set (i*2) (.int .i64 a)).set (i*2+1) (.int .i64 b)=(X.set i ⟨a,b⟩).flatMap Kac
 | [],i,a,b,h=>by simp at h
 | x :: X,0,a,b,_=>by simp[Kac]
 | x :: X,i+1,a,b,h=>by
  have ih:=Qar X i a b (by simpa using h);rw[List.set_cons_succ,List.flatMap_cons,List.flatMap_cons,←ih]
  rw[show (i+1)*2=(Kac x).length+i*2 by rw[Kbv];omega,List.set_append_right _ _ (Nat.le_add_right _ _),Nat.add_sub_cancel_left,
   show (Kac x).length+i*2+1=(Kac x).length+(i*2+1) by omega,List.set_append_right _ _ (Nat.le_add_right _ _),Nat.add_sub_cancel_left]
structure DelAt (l X:List Spn) (i j:Nat):Prop where
 n:X.length=l.length
 k:X.take i=goodS (l.take j)
 d:X.drop j=l.drop j
 h:i < j
theorem DelAt.start {l:List Spn} {k:Nat} (hk:k < l.length) (h:∀j,j < k→badS l[j]! = false) (hb:badS l[k]! = true):DelAt l l k (k+1):=by
 refine ⟨rfl,?_,rfl,Nat.lt_succ_self k⟩
 have hall:goodS (l.take k)=l.take k:=by
  unfold goodS;rw[List.filter_eq_self];intro s hs;obtain ⟨j,hj,rfl⟩:=List.getElem_of_mem hs;have hj2:j < k:=by rw[List.length_take] at hj;omega
  have:=h j hj2;rw[getElem!_pos l j (by omega)] at this;rw[List.getElem_take,this];rfl
 rw[getElem!_pos l k hk] at hb;unfold goodS at hall ⊢;rw[List.take_succ_eq_append_getElem hk,List.filter_append,hall];simp[hb]
theorem DelAt.skip {l X:List Spn} {i j:Nat} (h:DelAt l X i j) (hj:j < l.length) (hb:badS l[j]! = true):DelAt l X i (j+1):=by
 rw[getElem!_pos l j hj] at hb;refine ⟨h.n,?_,?_,Nat.lt_succ_of_lt h.h⟩
 ·rw[h.k];unfold goodS;rw[List.take_succ_eq_append_getElem hj,List.filter_append];simp[hb]
 ·have:=congrArg (List.drop 1) h.d;rwa[List.drop_drop,List.drop_drop] at this
theorem DelAt.keep {l X:List Spn} {i j:Nat} (h:DelAt l X i j) (hj:j < l.length) (hb:badS l[j]! = false):DelAt l (X.set i l[j]!) (i+1) (j+1):=by
 have hij:=h.h;have hn:=h.n;rw[getElem!_pos l j hj] at hb ⊢;refine ⟨by rw[List.length_set,h.n],?_,?_,Nat.succ_lt_succ hij⟩
 ·have e1:(X.set i l[j]).take (i+1)=X.take i ++ [l[j]]:=by
   rw[List.take_succ_eq_append_getElem (by rw[List.length_set];omega),List.getElem_set_self,List.take_set_of_le (Nat.le_refl i)]
  rw[e1,h.k];unfold goodS;rw[List.take_succ_eq_append_getElem hj,List.filter_append];simp[hb]
 ·rw[List.drop_set_of_lt (by omega)];have:=congrArg (List.drop 1) h.d;rwa[List.drop_drop,List.drop_drop] at this
theorem DelAt.at_ {l X:List Spn} {i j:Nat} (h:DelAt l X i j) (hj:j < l.length):X[j]! = l[j]!:=by
 have h1:X[j]? = l[j]?:=by
  have:=congrArg (fun z:List Spn=>z[0]?) h.d;simpa using this
 have h2:j < X.length:=by rw[h.n];exact hj
 rw[List.getElem?_eq_getElem h2,List.getElem?_eq_getElem hj] at h1;rw[getElem!_pos X j h2,getElem!_pos l j hj];exact Option.some.inj h1
theorem Ksz (l:List Spn) (B n g cap:Nat) (w:World) (h:w.ownsRow B 109 2 (.slice (some ⟨g,0,none⟩) n cap) n (l.flatMap Kac)) (hl:l.length=n) (hn:n≤1099511627776) (hB:B≤w.heap.size) :
  Calls Tryz.prog 142 #[.slice (some ⟨g,0,none⟩) n cap,.func (.func 144) #[] #[]] w fun e w'=>e = .returned (.slice (some ⟨g,0,none⟩) (goodS l).length cap)∧w'.ownsRow B 109 2 (.slice (some ⟨g,0,none⟩) (goodS l).length cap) (goodS l).length ((goodS l).flatMap Kac)∧Below B w w':=by
 have HI:=Jh (Kop l B n g cap w h hl hn);have HR:=Jh h;have HL:=Jh hl;have HC:=Jh (fun (x:Spn) (W:World)=>Kpk x W);have HBW:=Jh hB;have hgB:=(World.ownsRow.lt h g rfl).1;have eg:∀args w,(callFunc 144 args).run Tryz.prog w = .ok (.enter 144 args) w:=enters_of Tryz.func144 (by kernel_rfl) rfl;clear h hl hB;go_enter Tryz.func142,Tryz.ntmps142
 go_wp2_with fail
 refine HI.out.mono ?_;rintro _ w1 ⟨⟨k,hk,rfl,hall,hbad⟩,hg1⟩;have HG1:=Jh hg1
 by_cases hkn:k < n
 ·have HD:=Jh (DelAt.start (l:=l) (by rw[HL.out];exact hkn) hall (hbad hkn));have hk1:¬(k:Int) = -1:=by omega
  have hk2:((k:Int) == -1)=false:=beq_eq_false_iff_ne.2 hk1;have hk3:decide ((k:Int) = -1)=false:=decide_eq_false hk1;rw[if_pos hkn];have HR1:=Jh (Kid HR.out hg1);have HB1:=Jh (hg1.below.mono HBW.out);clear hall hbad hg1;go_wp2_with fail
  go_loopg [5,6,7] n (fun gg s5 s6 _ wr=>∃(i j:Nat) (X:List Spn),s5 = .int .i64 (i:Int)∧s6 = .int .i64 (j:Int)∧(j≤n∧n≤j+gg)∧DelAt l X i j∧wr.ownsRow B 109 2 (.slice (some ⟨g,0,none⟩) n cap) n (X.flatMap Kac)∧Below B w wr)
  case atStart=>exact ⟨k,k+1,l,rfl,by first | rfl | go_num,⟨by omega,by omega⟩,HD.out,HR1.out,HB1.out⟩
  case round=>
   obtain ⟨i,j,X,rfl,rfl,hjg,hd,hr,hb⟩:=hrel;have HJG:=Jh hjg;have HDA:=Jh hd;have HRR:=Jh hr;have HBB:=Jh hb;have hij:=hd.h;have hjn:=hjg.1;have hXl:X.length=n:=by rw[hd.n,HL.out]
   have HXL:=Jh hXl;clear hjg hd hr hb hXl;obtain ⟨wo,rfl⟩:∃x,x=wr:=⟨_,rfl⟩
   by_cases hj:j < n
   ·have el:decide (j < n)=true:=by rw[decide_eq_true_eq];exact hj
    have hj2:(j:Int) < (n:Int):=by omega
    obtain ⟨c0,c1,hgl⟩:=Kfr HRR.out HXL.out hj;have hxj:=HDA.out.at_ (by rw[HL.out];exact hj);obtain ⟨x,hx⟩:∃x,X[j]! = x:=⟨_,rfl⟩;rw[hx] at c0 c1 hxj;have HX:=Jh hxj;clear hx hxj;obtain ⟨a,b⟩:=x;dsimp only at c0 c1;go_upto_region 8 with fail
    obtain ⟨w2,hw2⟩:∃y,wo.alloc (.cells #[.int .i64 a,.int .i64 b] 109)=y:=⟨_,rfl⟩;have hb2:Below wo.heap.size wo w2:=by rw[←hw2];exact (Below.refl _ _).alloc (Nat.le_refl _) _
    have hkq:Blk w2 wo.heap.size 109 #[.int .i64 a,.int .i64 b]:=by rw[←hw2];exact Blk.new _ _ _
    have hr2:w2.ownsRow B 109 2 (.slice (some ⟨g,0,none⟩) n cap) n (X.flatMap Kac):=by rw[←hw2];exact World.ownsRow.alloc HRR.out _
    obtain ⟨qb,hqb⟩:∃y,wo.heap.size=y:=⟨_,rfl⟩;rw[hqb] at hkq hgl;rw[hw2,hqb];have hB0:B≤wo.heap.size:=Nat.le_trans HBW.out HBB.out.size;have HB2:=Jh (HBB.out.trans (hb2.mono hB0));have HKQ:=Jh hkq;have HR2:=Jh hr2;have HQG:Hid (g < qb):=Jh hgl;have d0:=hkq.cell 0;have d1:=hkq.cell 1;simp at d0 d1;have HCX:=Jh (HC.out ⟨a,b⟩ w2);unfold Kac at HCX;dsimp only at HCX;clear hw2 hb2 hkq hr2 hqb c0 c1 hgl hB0;go_wp2_with fail
    refine HCX.out.mono ?_;rintro _ w3 ⟨rfl,hg3⟩;have hk3:=HKQ.out.below hg3.below HKQ.out.lt;have hr3:=Kid HR2.out hg3;have HB3:=Jh (HB2.out.trans (hg3.below.mono (Nat.le_trans HBW.out HB2.out.size)));obtain ⟨r,hrr⟩:∃r,badS ⟨a,b⟩=r:=⟨_,rfl⟩;rw[hrr];have HRS:=Jh hrr;clear hrr d0 d1 hg3
    cases r with
    | true=>
     have HD2:=Jh (HDA.out.skip (by rw[HL.out];exact hj) (by rw[←HX.out];exact HRS.out));have HR3:=Jh hr3;clear hk3 hr3;go_wp2_with fail
     go_roundg (gk - 1)
     case measure=>have:=HJG.out.2;omega
     case rel=>exact ⟨i,j+1,X,rfl,by first | rfl | go_num,⟨by omega,by have:=HJG.out.2;omega⟩,HD2.out,HR3.out,HB3.out⟩
    | false=>
     have HD2:=Jh (HDA.out.keep (by rw[HL.out];exact hj) (by rw[←HX.out];exact HRS.out));obtain ⟨e0,e1,hgl3⟩:=Kfr hr3 HXL.out (show i < n by omega);have f0:=World.ownsRow.frozenAt hr3 (i*2);have f1:=World.ownsRow.frozenAt hr3 (i*2+1);have s1:=World.ownsRow.stored hr3 (i*2) (.int .i64 a);have s2:=World.ownsRow.stored s1.1 (i*2+1) (.int .i64 b);have hr4:=s2.1;rw[Qar X i a b (by rw[HXL.out];omega)] at hr4;have hb4:Below B w ((w3.setCell ⟨g,i*2,none⟩ (.int .i64 a)).setCell ⟨g,i*2+1,none⟩ (.int .i64 b)):=(HB3.out.setCell (p:=⟨g,i*2,none⟩) hgB _).setCell (p:=⟨g,i*2+1,none⟩) hgB _;have d0:=hk3.cell 0;have d1:=hk3.cell 1;simp at d0 d1;rw[←HX.out] at HD2;obtain ⟨w4,hw4⟩:∃y,(w3.setCell ⟨g,i*2,none⟩ (.int .i64 a)).setCell ⟨g,i*2+1,none⟩ (.int .i64 b)=y:=⟨_,rfl⟩;rw[hw4] at hr4 hb4;have HR4:=Jh hr4;have HB4:=Jh hb4;clear s1 s2 hr4 hb4 hk3 hr3;go_wp2_with fail
     go_roundg (gk - 1)
     case measure=>have:=HJG.out.2;omega
     case rel=>exact ⟨i+1,j+1,X.set i ⟨a,b⟩,by first | rfl | go_num,by first | rfl | go_num,⟨by omega,by have:=HJG.out.2;omega⟩,HD2.out,HR4.out,HB4.out⟩
   ·have el:decide (j < n)=false:=by rw[decide_eq_false_iff_not];exact hj
    have hjn2:j=n:=by omega
    obtain ⟨w2,hcl,hr2,hb2⟩:=Ktl HRR.out (show i≤n by omega) (cap - i)
    have htk:(X.flatMap Kac).take (i*2)=(goodS l).flatMap Kac:=by
     have hk:=HDA.out.k;rw[hjn2,←HL.out,List.take_length] at hk;rw[←hk,show X.flatMap Kac=(X.take i).flatMap Kac++(X.drop i).flatMap Kac by rw[←List.flatMap_append,List.take_append_drop],List.take_left' (by rw[Kde,List.length_take];have:=HXL.out;omega)]
    have hil:i=(goodS l).length:=by
     have hk:=congrArg List.length HDA.out.k;rw[hjn2,←HL.out,List.take_length,List.length_take] at hk;have h8:=HXL.out;have h9:=HL.out;omega
    rw[htk] at hr2;have HF:=Jh hr2;have hij3:i < n:=by omega
    have HBF:=Jh (HBB.out.trans (hb2.mono (Nat.le_refl B)));have HIL:=Jh hil;have i1:(0:Int)≤(i:Int):=by omega
    have i2:(i:Int)≤(n:Int):=by omega
    have hnc:n≤cap:=by
     rcases HRR.out.2 with ⟨h',_⟩ | ⟨g',cap',cur,h',_,_,h6,_⟩
     ·cases h'
     ·injection h' with _ _ h3;omega
    have i3:i≤n:=by omega
    have i4:i≤cap:=by omega
    have i5:¬i=cap:=by omega
    have i6:i < cap:=by omega
    have i7:¬cap=i:=by omega
    clear htk hil hb2 hr2;go_wp2_with fail
    go_ret
    exact ⟨by rw[←HIL.out];rfl,by rw[←HIL.out];exact HF.out,HBF.out⟩
 ·have hkn2:k=n:=by omega
  have hgo:goodS l=l:=by
   unfold goodS;rw[List.filter_eq_self];intro s hs;obtain ⟨j,hj,rfl⟩:=List.getElem_of_mem hs;have:=hall j (by rw[HL.out] at hj;omega);rw[getElem!_pos l j hj] at this;rw[this];rfl
  rw[if_neg hkn];go_wp2_with fail
  go_ret
  rw[hgo,HL.out];exact ⟨rfl,Kid HR.out HG1.out,HG1.out.below.mono HBW.out⟩
end
section
open Go.RowKit Go.Shelf Go.Sort
open Lib renaming hid → Jh
open List renaming length_append → Jd
attribute [local go_sem ↓] Go.wp_at_zero Go.wp_at_succ
attribute [local go_sem] Later.cell
def SpOut (w:World) (l:List Spn) (e:Ending) (w':World):Prop:=(∃v L,e = .returned v∧w'.ownsRow w.heap.size 109 2 v L.length (L.flatMap Kac)∧Kat L∧(Kat l→L=l)∧L.length≤l.length)∧Below w.heap.size w w'
theorem Kbj {w w':World} {B n sz:Nat} {T:TypeId} {v:Value} {xs:List Value} (h:w.ownsRow B T sz v n xs) (hb:Below w.heap.size w w'):w'.ownsRow B T sz v n xs:=by
 refine World.ownsRow.kept h (row:=none) ⟨hb.os,hb.tape,hb.output,hb.size,fun j hj _=>hb.block j hj⟩ ?_
 cases hv:v.ownBlock with
 | none=>exact .inl rfl
 | some b=>exact .inr (by simp)
theorem Qah:∀(l out:List Spn),(l.foldl stepS out).length≤out.length+l.length
 | [],out=>by simp
 | s :: l,out=>by
  have h1:=Qah l (stepS out s)
  have h2:(stepS out s).length≤out.length+1:=by
   unfold stepS
   split
   ·simp
   ·rename_i o ho
    have hne:out≠[]:=by intro e;rw[e] at ho;cases ho
    have:0 < out.length:=List.length_pos_iff.2 hne
    split
    ·first | (simp;done) | (simp;omega)
    ·first | (simp;done) | (simp;omega)
  rw[List.foldl_cons,List.length_cons];omega
theorem Qcw {l S:List Spn} (hp:S.Perm (goodS l)) (hs2:S.Pairwise fun a b=>a.frm≤b.frm):Kat (ofS S)∧(Kat l→ofS S=l)∧(ofS S).length≤l.length:=by
 have hgood:∀s∈S,s.frm≤s.to_:=fun s h=>by
  have:=(hp.mem_iff).1 h;unfold goodS at this;rw[List.mem_filter] at this;have h2:=this.2;unfold badS at h2;simp at h2;exact h2
 refine ⟨Krz hgood hs2,fun hc=>?_,?_⟩
 ·have hgl:goodS l=l:=by
   unfold goodS;rw[List.filter_eq_self];intro s hs;have:=hc.1 s hs;unfold badS;simp;exact this
  rw[hgl] at hp
  have hl2:l.Pairwise fun a b=>a.frm < b.frm:=by
   have h2:=hc.2;have h1:=hc.1;refine List.Pairwise.imp_of_mem ?_ h2;intro a b ha hb hab;have:=h1 a ha;omega
  have hS:S=l:=by
   refine List.Perm.eq_of_pairwise (le:=fun a b=>a.frm≤b.frm) ?_ hs2 (hl2.imp fun h=>by omega) hp;intro a b ha hb h1 h2;have hb':b∈S:=(hp.mem_iff).2 hb;have ha':a∈l:=(hp.mem_iff).1 ha;have he:a.frm=b.frm:=by omega
   obtain ⟨i,hi,hia⟩:=List.getElem_of_mem ha';obtain ⟨j,hj,hjb⟩:=List.getElem_of_mem hb;have hp2:=List.pairwise_iff_getElem.1 hl2;rcases (by omega:i < j∨i=j∨j < i) with h | h | h
   ·have:=hp2 i j hi hj h;rw[hia,hjb] at this;omega
   ·subst h;rw[←hia,←hjb]
   ·have:=hp2 j i hj hi h;rw[hia,hjb] at this;omega
  rw[hS];exact Kvv hc
 ·have h1:=Qah S [];have h2:=hp.length_eq;have h3:(goodS l).length≤l.length:=List.length_filter_le _ _;unfold ofS;simp at h1;omega
theorem Klo {ini:List Spn} {o s:Spn} (h:o.to_+1 < s.frm):stepS (ini ++ [o]) s=ini ++ [o] ++ [s]:=by
 unfold stepS;simp[h]
theorem Kfs {ini:List Spn} {o s:Spn} (h:¬o.to_+1 < s.frm):stepS (ini ++ [o]) s=ini ++ [⟨o.frm,max o.to_ s.to_⟩]:=by
 unfold stepS;simp[h]
theorem Kwu {L:List Spn} {s:Spn} (hs:SpnIn s) (h:∀x∈L,SpnIn x):∀x∈stepS L s,SpnIn x:=by
 rcases List.eq_nil_or_concat L with rfl | ⟨ini,o,rfl⟩
 ·intro x hx;have:x∈[s]:=hx;rw[List.mem_singleton.1 this];exact hs
 ·rw[List.concat_eq_append] at h ⊢
  by_cases hc:o.to_+1 < s.frm
  ·rw[Klo hc];intro x hx;rcases List.mem_append.1 hx with hx | hx
   ·exact h x hx
   ·rw[List.mem_singleton.1 hx];exact hs
  ·rw[Kfs hc];intro x hx;rcases List.mem_append.1 hx with hx | hx
   ·exact h x (by simp[hx])
   ·rw[List.mem_singleton.1 hx];have ho:=h o (by simp);unfold SpnIn at ho hs ⊢;dsimp only;omega
theorem Knw (ini:List Spn) (a b m:Int):((ini ++ [(⟨a,b⟩:Spn)]).flatMap Kac).set (ini.length*2+1) (.int .i64 m)=(ini ++ [(⟨a,m⟩:Spn)]).flatMap Kac:=by
 rw[List.flatMap_append,List.flatMap_append,←Kde ini,List.set_append_right _ _ (Nat.le_add_right _ _),Nat.add_sub_cancel_left];rfl
theorem Kwo (l:List Spn) (A:Option Addr) (n c:Nat) (w:World) (h:Elems w w.heap.size 2 Kac A n l) (hn:n≤1099511627776) (h0:0 < n) (hin:∀x∈l,SpnIn x) :
  Calls Tryz.prog 88 #[.slice A n c] w (SpOut w l):=by
 have hlen:=h.len;obtain ⟨b0,off,rfl,_,_⟩:=h.2 h0;obtain ⟨ib,hib,hib0,hib1,hib2⟩:=info_parts Kvi;have HCL:=Jh (Kqf l _ n c w h hn h0);have HL:=Jh hlen;have HIN:=Jh hin;obtain ⟨bs,hbs⟩:∃x,w.heap.size=x:=⟨_,rfl⟩;have HBS:=Jh hbs;unfold SpOut;rw[hbs] at HCL ⊢;clear h hlen hin hbs;go_enter Tryz.func88,Tryz.ntmps88
 go_wp2_with fail
 refine HCL.out.mono ?_;rintro _ w1 ⟨v1,rfl,hr1,hb1⟩
 obtain ⟨g,cap,rfl⟩:∃g cap,v1 = .slice (some ⟨g,0,none⟩) n cap:=by
  rcases hr1.2 with ⟨_,he⟩ | ⟨g,cap,cur,he,_⟩
  ·omega
  ·exact ⟨g,cap,he⟩
 have hlt1:=World.ownsRow.lt hr1 g rfl;have HB1:=Jh hb1;have HDL:=Jh (Ksz l bs n g cap w1 hr1 HL.out hn (by have:=hb1.size;have:=HBS.out;omega));clear hr1 hb1;go_wp2_with fail
 refine HDL.out.mono ?_;rintro _ w2 ⟨rfl,hr2,hb2⟩;have HB2:=Jh (HB1.out.trans hb2);have HSO:=Jh (Kqt (goodS l) bs _ w2 hr2 (by have:=List.length_filter_le (fun s=>!badS s) l;have:=HL.out;unfold goodS;omega));obtain ⟨m,hm⟩:∃m,(goodS l).length=m:=⟨_,rfl⟩;rw[hm] at HSO ⊢;have HM:=Jh hm;clear hr2 hb2 hm HCL HDL;go_wp2_with fail
 refine HSO.out.mono ?_;rintro _ w3 ⟨rfl,S,hp,hs,hr3,hg3⟩;have hSm:S.length=m:=by rw[hp.length_eq];exact HM.out
 rw[hSm] at hr3;have hb3:Below bs w2 w3:=⟨hg3.os,hg3.tape,hg3.output,hg3.size,fun k hk=>hg3.block k (by have:=HB2.out.size;have:=HBS.out;omega) (fun e=>by have e2:some k=some g:=e;injection e2 with e2;omega)⟩;have HB3:=Jh (HB2.out.trans hb3);have HSM:=Jh hSm;have HPS:=Jh (⟨hp,hs⟩:S.Perm (goodS l)∧S.Pairwise fun a b=>a.frm≤b.frm);have HR3:=Jh hr3;have hmn:m≤1099511627776:=by have h1:=HM.out;have h2:=List.length_filter_le (fun s=>!badS s) l;have:=HL.out;unfold goodS at h1;omega
 obtain ⟨B1,hB1⟩:∃x,w3.heap.size=x:=⟨_,rfl⟩;have HB31:=Jh hB1;have hgB1:g < B1:=by rw[←hB1];exact (World.ownsRow.lt hr3 g rfl).2
 have hbsB1:bs≤B1:=by rw[←hB1];have:=HB3.out.size;have:=HBS.out;omega
 clear hp hs hr3 hg3 hb3 hSm HSO hB1;go_wp2_with fail
 go_loopg [4,6,7,15] m (fun gg s4 _ _ s15 wr=>∃(i:Nat) (v4:Value) (Lo:List Spn),i+gg=m∧s15 = .int .i64 (i:Int)∧s4=v4∧wr.ownsRow B1 109 2 v4 Lo.length (Lo.flatMap Kac)∧Lo=ofS (S.take i)∧Lo.length≤i∧(∀x∈Lo,SpnIn x)∧Below B1 w3 wr)
 case atStart=>exact ⟨0,_,[],by omega,rfl,rfl,World.ownsRow_nil _ _ _ _,rfl,Nat.le_refl _,(fun x hx=>by cases hx),Below.refl _ _⟩
 case round=>
  obtain ⟨i,v4,Lo,hig,rfl,hv4,hro,hlo,hli,hoi,hbr⟩:=hrel;obtain rfl:=hv4.symm;have HIG:=Jh hig;have HRO:=Jh hro;have HLO:=Jh hlo;have HLI:=Jh hli;have HOI:=Jh hoi;have HBR:=Jh hbr;clear hig hro hlo hli hoi hbr;obtain ⟨wo,rfl⟩:∃x,x=wr:=⟨_,rfl⟩
  by_cases hi:i < m
  ·have el:decide (i < m)=true:=by rw[decide_eq_true_eq];exact hi
   have hi2:(i:Int) < (m:Int):=by omega
   have hrs:=HR3.out;have hrw:wo.ownsRow bs 109 2 (.slice (some ⟨g,0,none⟩) m cap) m (S.flatMap Kac):=Kbj hrs (by rw[HB31.out];exact HBR.out);obtain ⟨c0,c1,hgl⟩:=Kfr hrw HSM.out hi;obtain ⟨x,hx⟩:∃x,S[i]! = x:=⟨_,rfl⟩;rw[hx] at c0 c1
   have hxl:x∈l:=by
    have h1:x∈S:=by rw[←hx,getElem!_pos S i (by rw[HSM.out];exact hi)];exact List.getElem_mem _
    have h2:=(HPS.out.1.mem_iff).1 h1;unfold goodS at h2;exact (List.mem_filter.1 h2).1
   have hxi:=HIN.out x hxl
   have HST:Hid (ofS (S.take (i+1))=stepS Lo x):=Jh (by
    rw[HLO.out,List.take_succ_eq_append_getElem (by rw[HSM.out];exact hi),←getElem!_pos S i (by rw[HSM.out];exact hi),hx];unfold ofS;rw[List.foldl_append]
    rfl)
   have HNI:Hid (∀y∈stepS Lo x,SpnIn y):=Jh (Kwu hxi HOI.out);clear hx hrs hrw hxl;obtain ⟨a,b⟩:=x;unfold SpnIn at hxi;dsimp only at c0 c1 hxi;obtain ⟨hx1,hx2,hx3,hx4⟩:=hxi;go_upto_region 7 with fail
   obtain ⟨w4,hw4⟩:∃y,wo.alloc (.cells #[.int .i64 a,.int .i64 b] 109)=y:=⟨_,rfl⟩;have hb4:Below wo.heap.size wo w4:=by rw[←hw4];exact (Below.refl _ _).alloc (Nat.le_refl _) _
   have hkq:Blk w4 wo.heap.size 109 #[.int .i64 a,.int .i64 b]:=by rw[←hw4];exact Blk.new _ _ _
   have hro4:w4.ownsRow B1 109 2 v4 Lo.length (Lo.flatMap Kac):=by rw[←hw4];exact World.ownsRow.alloc HRO.out _
   have hB1o:B1≤wo.heap.size:=by have:=HBR.out.size;rw[HB31.out] at this;exact this
   obtain ⟨qb,hqb⟩:∃y,wo.heap.size=y:=⟨_,rfl⟩;have hqo:∀k,v4.ownBlock=some k→k < qb:=fun k hk=>by rw[←hqb];exact (World.ownsRow.lt HRO.out k hk).2
   rw[hqb] at hkq hB1o;rw[hw4,hqb];have HB4:=Jh (HBR.out.trans (hb4.mono (by rw[hqb];exact hB1o)));have HKQ:=Jh hkq;have HRO4:=Jh hro4;have HQO:=Jh hqo;have hB1q:=hB1o;clear hw4 hb4 hkq hro4 hqb c0 c1 hgl hqo hB1o;rcases List.eq_nil_or_concat Lo with hLn | ⟨ini,o,hLc⟩
   ·subst hLn
    have hv:∃A4 c4,v4 = .slice A4 0 c4:=by
     rcases HRO4.out.2 with ⟨h,_⟩ | ⟨g,c,cur,h,_⟩
     ·exact ⟨_,_,h⟩
     ·exact ⟨_,_,h⟩
    obtain ⟨A4,c4,rfl⟩:=hv;go_upto_region 8 with fail
    refine Kab (by kernel_rfl) (by kernel_rfl) ?_
    repeat (go_big_quiet_step (fail))
    refine wpQuiet_nil ?_;rintro w5 ⟨⟨_,hb5⟩,rfl⟩;have hk5:=HKQ.out.below hb5 HKQ.out.lt;have hro5:=Kbj HRO4.out hb5;have HB5:=Jh (HB4.out.trans (hb5.mono (by have:=HB4.out.size;rw[HB31.out] at this;exact this)));have HK5:=Jh hk5;have HRO5:=Jh hro5;have d0:=hk5.cell 0;have d1:=hk5.cell 1;simp at d0 d1;have hB15:B1≤w5.heap.size:=by have:=HB5.out.size;rw[HB31.out] at this;exact this
    clear hb5 hk5 hro5;have hLz:=HLI.out;go_wp2_with (at_builtin;refine wpList_append_own_at _ rfl _ _ 81 rfl B1 109 ib (.agg #[.int .i64 0,.int .i64 0]) 2 16 Tryz.underlying81 hib hib0 hib1 hib2 rfl (by decide) _ _ _ rfl (World.ownsRow.alloc HRO5.out _) ⟨w5.heap.size,0,none⟩ 1 1 [.int .i64 a,.int .i64 b] rfl rfl ?c1 ?c2 ?c3 ?c4 ?c5 ?_)
    case c1=>exact Kas (l:=[.int .i64 a,.int .i64 b]) (Blk.new w5 _ _)
    case c2=>
     intro u hu;simp only[List.mem_cons,List.not_mem_nil,or_false] at hu;rcases hu with rfl | rfl <;> rfl
    case c3=>unfold maxLen;omega
    case c4=>omega
    case c5=>simp;omega
    intro v' w6 hown' hgrow hx1 hat';have hstep:Below B1 w5 w6:=⟨hgrow.os,hgrow.tape,hgrow.output,by have:=hgrow.size;simp at this;omega,fun k hk=>(hgrow.block k (by simp;omega) (fun e=>by have e2:=(World.ownsRow.lt HRO5.out k e.symm).1;omega)).trans (Below.heap_alloc _ _ _ (by omega))⟩;have hfl:(([]:List Spn) ++ [(⟨a,b⟩:Spn)]).flatMap Kac=(([]:List Spn)).flatMap Kac ++ [.int .i64 a,.int .i64 b]:=by rw[List.flatMap_append];rfl
    have hst:=HST.out;have how:w6.ownsRow B1 109 2 v' (([]:List Spn) ++ [(⟨a,b⟩:Spn)]).length ((([]:List Spn) ++ [(⟨a,b⟩:Spn)]).flatMap Kac):=by rw[hfl,Jd];exact hown'
    have HB6:=Jh (HB5.out.trans hstep);have HO6:=Jh how
    have HLE:=Jh (show ([]:List Spn) ++ [(⟨a,b⟩:Spn)]=ofS (S.take (i+1)) from by
     rw[hst]
     rfl)
    clear hown' hgrow hx1 hat' hfl how hstep hst d0 d1;go_wp2_with fail
    go_roundg (gk - 1)
    case measure=>have:=HIG.out;omega
    case rel=>exact ⟨i+1,_,_,by have:=HIG.out;omega,by first | rfl | go_num,rfl,HO6.out,HLE.out,by have:=HLI.out;rw[Jd];simp;try omega,by rw[HLE.out,HST.out];exact HNI.out,HB6.out⟩
   ·rw[List.concat_eq_append] at hLc;subst hLc;obtain ⟨k,hk⟩:∃k,ini.length=k:=⟨_,rfl⟩;have hl1:(ini ++ [o]).length=k+1:=by rw[Jd,hk];rfl
    have hv:∃go c4,v4 = .slice (some ⟨go,0,none⟩) (k+1) c4:=by
     rcases HRO4.out.2 with ⟨_,h⟩ | ⟨go,c,cur,h,_⟩
     ·rw[hl1] at h;omega
     ·rw[hl1] at h;exact ⟨_,_,h⟩
    obtain ⟨go,c4,rfl⟩:=hv;have hro1:=HRO4.out;rw[hl1] at hro1;obtain ⟨o0,o1,hgo⟩:=Kfr hro1 hl1 (show k < k+1 by omega);rw[getElem!_pos (ini ++ [o]) k (by rw[hl1];omega),List.getElem_append_right (by omega)] at o0 o1;have hos:[o][k - ini.length]'(by rw[hk];simp)=o:=by simp[hk]
    rw[hos] at o0 o1;have hq4:qb < w4.heap.size:=HKQ.out.lt;have d0:=HKQ.out.cell 0;have d1:=HKQ.out.cell 1;simp at d0 d1;have hki:k < i:=by have:=HLI.out;rw[hl1] at this;omega
    have z1:IntKind.i64.wrap (((k+1:Nat):Int) - 1)=(k:Int):=by rw[show ((k+1:Nat):Int) - 1=(k:Int) by omega];exact IntWalk.i64_in _ (by omega)
    have z2:IntKind.i64.wrap ((k:Int)+1 - 1)=(k:Int):=by rw[show (k:Int)+1 - 1=(k:Int) by omega];exact IntWalk.i64_in _ (by omega)
    have hoo:=HOI.out o (by simp);obtain ⟨of_,ot⟩:=o;unfold SpnIn at hoo;dsimp only at o0 o1 hoo;obtain ⟨hoo1,hoo2,hoo3,hoo4⟩:=hoo;have n1:¬(k:Int) < 0:=by omega
    have n2:decide ((k:Int) < 0)=false:=decide_eq_false n1
    by_cases g1:ot < a
    ·have a1:decide (ot < a)=true:=decide_eq_true g1;have z3:IntKind.i64.wrap (a - 1)=a - 1:=IntWalk.i64_in _ (by omega)
     by_cases g2:ot < a - 1
     ·have a2:decide (ot < a - 1)=true:=decide_eq_true g2;go_upto_region 8 with fail
      refine Kab (by kernel_rfl) (by kernel_rfl) ?_
      repeat (go_big_quiet_step (fail))
      refine wpQuiet_nil ?_;rintro w5 ⟨⟨_,hb5⟩,rfl⟩;have hk5:=HKQ.out.below hb5 HKQ.out.lt;have hro5:=Kbj HRO4.out hb5;have HB5:=Jh (HB4.out.trans (hb5.mono (by have:=HB4.out.size;rw[HB31.out] at this;exact this)));have HK5:=Jh hk5;rw[hl1] at hro5;obtain ⟨vv,hvv⟩:∃vv,(Value.slice (some ⟨go,0,none⟩) (k+1) c4)=vv:=⟨_,rfl⟩;rw[hvv] at hro5 ⊢;clear hvv;have HRO5:=Jh hro5;have HL1:=Jh hl1;clear o0 o1 hgo hro1 z1 z2 z3 n1 n2 a1 a2 hq4 hl1 hos;have d0:=hk5.cell 0;have d1:=hk5.cell 1;simp at d0 d1;have hB15:B1≤w5.heap.size:=by have:=HB5.out.size;rw[HB31.out] at this;exact this
      clear hb5 hk5 hro5;have hLz:=HLI.out;go_wp2_with (at_builtin;refine wpList_append_own_at _ rfl _ _ 81 rfl B1 109 ib (.agg #[.int .i64 0,.int .i64 0]) 2 16 Tryz.underlying81 hib hib0 hib1 hib2 rfl (by decide) _ _ _ rfl (World.ownsRow.alloc HRO5.out _) ⟨w5.heap.size,0,none⟩ 1 1 [.int .i64 a,.int .i64 b] rfl rfl ?c1 ?c2 ?c3 ?c4 ?c5 ?_)
      case c1=>exact Kas (l:=[.int .i64 a,.int .i64 b]) (Blk.new w5 _ _)
      case c2=>
       intro u hu;simp only[List.mem_cons,List.not_mem_nil,or_false] at hu;rcases hu with rfl | rfl <;> rfl
      case c3=>unfold maxLen;omega
      case c4=>omega
      case c5=>simp;omega
      intro v' w6 hown' hgrow hx1 hat';have hstep:Below B1 w5 w6:=⟨hgrow.os,hgrow.tape,hgrow.output,by have:=hgrow.size;simp at this;omega,fun k hk=>(hgrow.block k (by simp;omega) (fun e=>by have e2:=(World.ownsRow.lt HRO5.out k e.symm).1;omega)).trans (Below.heap_alloc _ _ _ (by omega))⟩;have hfl:((ini ++ [(⟨of_,ot⟩:Spn)]) ++ [(⟨a,b⟩:Spn)]).flatMap Kac=((ini ++ [(⟨of_,ot⟩:Spn)])).flatMap Kac ++ [.int .i64 a,.int .i64 b]:=by rw[List.flatMap_append];rfl
      have hst:=HST.out;have how:w6.ownsRow B1 109 2 v' ((ini ++ [(⟨of_,ot⟩:Spn)]) ++ [(⟨a,b⟩:Spn)]).length (((ini ++ [(⟨of_,ot⟩:Spn)]) ++ [(⟨a,b⟩:Spn)]).flatMap Kac):=by rw[hfl,Jd,HL1.out,List.flatMap_append,List.append_assoc];exact hown'
      have HB6:=Jh (HB5.out.trans hstep);have HO6:=Jh how
      have HLE:=Jh (show (ini ++ [(⟨of_,ot⟩:Spn)]) ++ [(⟨a,b⟩:Spn)]=ofS (S.take (i+1)) from by
       rw[hst]
       exact (Klo (by dsimp only;omega)).symm)
      clear hown' hgrow hx1 hat' hfl how hstep hst d0 d1;go_wp2_with fail
      go_roundg (gk - 1)
      case measure=>have:=HIG.out;omega
      case rel=>exact ⟨i+1,_,_,by have:=HIG.out;omega,by first | rfl | go_num,rfl,HO6.out,HLE.out,by have:=HLI.out;rw[Jd];simp;try omega,by rw[HLE.out,HST.out];exact HNI.out,HB6.out⟩
     ·have a2:decide (ot < a - 1)=false:=decide_eq_false g2;go_upto_region 8 with fail
      refine Kab (by kernel_rfl) (by kernel_rfl) ?_
      repeat (go_big_quiet_step (fail))
      refine wpQuiet_nil ?_;rintro w5 ⟨⟨_,hb5⟩,rfl⟩;have hk5:=HKQ.out.below hb5 HKQ.out.lt;have hro5:=Kbj HRO4.out hb5;have HB5:=Jh (HB4.out.trans (hb5.mono (by have:=HB4.out.size;rw[HB31.out] at this;exact this)));have HK5:=Jh hk5;have HRO5:=Jh hro5;have d0:=hk5.cell 0;have d1:=hk5.cell 1;simp at d0 d1;have hro6:=hro5;rw[hl1] at hro6;obtain ⟨p0,p1,hgo5⟩:=Kfr hro6 hl1 (show k < k+1 by omega);rw[getElem!_pos (ini ++ [(⟨of_,ot⟩:Spn)]) k (by rw[hl1];omega),List.getElem_append_right (by omega)] at p0 p1;have hos2:[(⟨of_,ot⟩:Spn)][k - ini.length]'(by rw[hk];simp)=⟨of_,ot⟩:=by simp[hk]
      rw[hos2] at p0 p1;dsimp only at p0 p1;have hq5:qb < w5.heap.size:=hk5.lt;have HR6:=Jh hro6;clear hb5 hk5 hro5 hro6 hos2;go_upto_region 10 with fail
      refine Kaf 10 (by kernel_rfl) (by kernel_rfl) ?_;simp only[List.take_succ_cons,List.take_zero,List.drop_succ_cons,List.drop_zero]
      repeat (go_big_quiet_step (fail))
      refine wpQuiet_nil ?_;rintro w6 ⟨⟨_,hb6⟩,rfl⟩;have hr7:=Kbj HR6.out hb6;have s1:=World.ownsRow.stored hr7 (k*2+1) (.int .i64 (max ot b));have f1:=World.ownsRow.frozenAt hr7 (k*2+1);obtain ⟨_,p1,hgo6⟩:=Kfr hr7 hl1 (show k < k+1 by omega);rw[getElem!_pos (ini ++ [(⟨of_,ot⟩:Spn)]) k (by rw[hl1];omega),List.getElem_append_right (by omega)] at p1;have hos2:[(⟨of_,ot⟩:Spn)][k - ini.length]'(by rw[hk];simp)=⟨of_,ot⟩:=by simp[hk]
      rw[hos2] at p1;dsimp only at p1;have hr8:=s1.1;rw[←hk,Knw,hk] at hr8;have HBa:=HB5.out.trans (hb6.mono (by have:=HB5.out.size;rw[HB31.out] at this;exact this));have hgoB:=(World.ownsRow.lt hr7 go rfl).1;have hb8:=HBa.setCell (p:=⟨go,k*2+1,none⟩) hgoB (.int .i64 (max ot b));have HB8:=Jh hb8;have HR8:=Jh hr8;have hst:=HST.out
      have hnear:ini ++ [(⟨of_,max ot b⟩:Spn)]=ofS (S.take (i+1)):=by
       rw[hst,Kfs (by dsimp only;omega)]
      have HLE:=Jh hnear;have hl2:(ini ++ [(⟨of_,max ot b⟩:Spn)]).length=k+1:=by rw[Jd,hk];rfl
      have HL2:=Jh hl2;clear hb6 hr7 s1 hr8 hb8 hst hnear hl2 p0 d0 d1 hos2 HBa;go_wp2_with fail
      go_roundg (gk - 1)
      case measure=>have:=HIG.out;omega
      case rel=>exact ⟨i+1,_,ini ++ [(⟨of_,max ot b⟩:Spn)],by have:=HIG.out;omega,by first | rfl | go_num,rfl,by rw[HL2.out];exact HR8.out,HLE.out,by rw[HL2.out];omega,by rw[HLE.out,HST.out];exact HNI.out,HB8.out⟩
    ·have a1:decide (ot < a)=false:=decide_eq_false g1;go_upto_region 8 with fail
     refine Kab (by kernel_rfl) (by kernel_rfl) ?_
     repeat (go_big_quiet_step (fail))
     refine wpQuiet_nil ?_;rintro w5 ⟨⟨_,hb5⟩,rfl⟩;have hk5:=HKQ.out.below hb5 HKQ.out.lt;have hro5:=Kbj HRO4.out hb5;have HB5:=Jh (HB4.out.trans (hb5.mono (by have:=HB4.out.size;rw[HB31.out] at this;exact this)));have HK5:=Jh hk5;have HRO5:=Jh hro5;have d0:=hk5.cell 0;have d1:=hk5.cell 1;simp at d0 d1;have hro6:=hro5;rw[hl1] at hro6;obtain ⟨p0,p1,hgo5⟩:=Kfr hro6 hl1 (show k < k+1 by omega);rw[getElem!_pos (ini ++ [(⟨of_,ot⟩:Spn)]) k (by rw[hl1];omega),List.getElem_append_right (by omega)] at p0 p1;have hos2:[(⟨of_,ot⟩:Spn)][k - ini.length]'(by rw[hk];simp)=⟨of_,ot⟩:=by simp[hk]
     rw[hos2] at p0 p1;dsimp only at p0 p1;have hq5:qb < w5.heap.size:=hk5.lt;have HR6:=Jh hro6;clear hb5 hk5 hro5 hro6 hos2;go_upto_region 10 with fail
     refine Kaf 10 (by kernel_rfl) (by kernel_rfl) ?_;simp only[List.take_succ_cons,List.take_zero,List.drop_succ_cons,List.drop_zero]
     repeat (go_big_quiet_step (fail))
     refine wpQuiet_nil ?_;rintro w6 ⟨⟨_,hb6⟩,rfl⟩;have hr7:=Kbj HR6.out hb6;have s1:=World.ownsRow.stored hr7 (k*2+1) (.int .i64 (max ot b));have f1:=World.ownsRow.frozenAt hr7 (k*2+1);obtain ⟨_,p1,hgo6⟩:=Kfr hr7 hl1 (show k < k+1 by omega);rw[getElem!_pos (ini ++ [(⟨of_,ot⟩:Spn)]) k (by rw[hl1];omega),List.getElem_append_right (by omega)] at p1;have hos2:[(⟨of_,ot⟩:Spn)][k - ini.length]'(by rw[hk];simp)=⟨of_,ot⟩:=by simp[hk]
     rw[hos2] at p1;dsimp only at p1;have hr8:=s1.1;rw[←hk,Knw,hk] at hr8;have HBa:=HB5.out.trans (hb6.mono (by have:=HB5.out.size;rw[HB31.out] at this;exact this));have hgoB:=(World.ownsRow.lt hr7 go rfl).1;have hb8:=HBa.setCell (p:=⟨go,k*2+1,none⟩) hgoB (.int .i64 (max ot b));have HB8:=Jh hb8;have HR8:=Jh hr8;have hst:=HST.out
     have hnear:ini ++ [(⟨of_,max ot b⟩:Spn)]=ofS (S.take (i+1)):=by
      rw[hst,Kfs (by dsimp only;omega)]
     have HLE:=Jh hnear;have hl2:(ini ++ [(⟨of_,max ot b⟩:Spn)]).length=k+1:=by rw[Jd,hk];rfl
     have HL2:=Jh hl2;clear hb6 hr7 s1 hr8 hb8 hst hnear hl2 p0 d0 d1 hos2 HBa;go_wp2_with fail
     go_roundg (gk - 1)
     case measure=>have:=HIG.out;omega
     case rel=>exact ⟨i+1,_,ini ++ [(⟨of_,max ot b⟩:Spn)],by have:=HIG.out;omega,by first | rfl | go_num,rfl,by rw[HL2.out];exact HR8.out,HLE.out,by rw[HL2.out];omega,by rw[HLE.out,HST.out];exact HNI.out,HB8.out⟩
  ·have el:decide (i < m)=false:=by rw[decide_eq_false_iff_not];exact hi
   have him:i=m:=by have:=HIG.out;omega
   have hS:=Qcw HPS.out.1 HPS.out.2;have hLo:Lo=ofS S:=by rw[HLO.out,him,←HSM.out,List.take_length]
   rw[←hLo] at hS;have HSS:=Jh hS;have hBF:Below bs w wo:=HB3.out.trans (HBR.out.mono hbsB1);have HBF:=Jh hBF;have HRF:=Jh (World.ownsRow.mono HRO.out hbsB1);clear hS hLo hBF;go_wp2_with fail
   go_ret
   exact ⟨⟨_,rfl,Lo,HRF.out,HSS.out.1,HSS.out.2.1,HSS.out.2.2⟩,HBF.out⟩
end
section
open Go.RowKit
open List renaming length_append → Jd
theorem Kxt (c:Int):(Kci c).length≤68:=by
 unfold Kci
 repeat' split
 all_goals simp[Kaq]
theorem Kxy (c:Cst) (x:Nat):(Kbi c x).1.length≤77:=by
 unfold Kbi
 repeat' split
 all_goals simp[Kaq]
 all_goals omega
theorem Kzb (c:Cst) (s:Smp):(Kbk c s).1.length≤145:=by
 unfold Kbk
 split
 ·simp[Kaq]
 ·have h1:=Kxt (s.t - c.last.t - c.step);have h2:=Kxy { c with step:=s.t - c.last.t } (s.v ^^^ c.last.v);simp only[Jd];omega
theorem Kli:∀(l:List Smp) (c:Cst),(Kbp c l).length≤145*l.length
 | [],_=>Nat.le_refl _
 | s :: l,c=>by
  have h1:=Kzb c s;have h2:=Kli l (Kbk c s).2;rw[Kbp,Jd,List.length_cons];omega
theorem Kgv (p:List Smp):(Kbb p).length≤12+19*p.length:=by
 unfold Kbb;have h1:=(Kam p.length).2;have h2:=(Kff (Kbp cst0 p)).len;have h3:=Kli p cst0;rw[Jd];omega
theorem Kja (m:Nat):∀l:List Txt,(∀x∈l,x.length≤m)→(l.flatMap textT).length≤(11+m)*l.length
 | [],_=>by simp
 | x :: l,h=>by
  have h1:=h x (by simp);have h2:=Kja m l (fun y hy=>h y (by simp[hy]));have h3:=(Kam x.length).2;rw[List.flatMap_cons,Jd,List.length_cons,Nat.mul_succ];unfold textT at *;rw[Jd];omega
theorem Kkr (l:List Txt):(Lib.compact l).length≤l.length:=by
 unfold Lib.compact Lib.compactUpTo;rw[List.length_map];exact Nat.le_trans (List.length_filter_le _ _) (by rw[List.length_range];exact Nat.le_refl _)
theorem Kub:∀S:List (List Lb),(∀l∈S,l.length≤8)→(allS S).length≤16*S.length
 | [],_=>by simp[allS]
 | l :: S,h=>by
  have h1:=h l (by simp);have h2:=Kub S (fun x hx=>h x (by simp[hx]))
  have h3:(texts l).length=2*l.length:=by
   clear h1 h2 h
   induction l with
   | nil=>rfl
   | cons x l ih=>simp[texts] at *;omega
  unfold allS at *;rw[List.flatMap_cons,Jd,List.length_cons];omega
theorem Qjl {l:List Lb} {x:Txt} (h:x∈texts l):∃y∈l,x=y.n∨x=y.v:=by
 unfold texts at h;obtain ⟨y,hy,hx⟩:=List.mem_flatMap.1 h;refine ⟨y,hy,?_⟩;simpa using hx
def Kob (S:List (List Lb)):Prop:=∀l∈S,l.length≤8∧∀y∈l,y.n.length≤32∧y.v.length≤64
theorem Kpt {S:List (List Lb)} (h:Kob S):(tabOf S).length≤16*S.length∧∀x∈tabOf S,x.length≤64:=by
 refine ⟨?_,fun x hx=>?_⟩
 ·refine Nat.le_trans (Kkr _) ?_;rw[List.length_mergeSort];exact Kub S fun l hl=>(h l hl).1
 ·have h1:=((Khz S).2 x).1 hx;obtain ⟨l,hl,hx⟩:=List.mem_flatMap.1 h1;obtain ⟨y,hy,hh⟩:=Qjl hx;have:=(h l hl).2 y hy;rcases hh with rfl | rfl <;> omega
end
section
def nF:List (UInt8×UInt8)→Nat
 | []=>0
 | p :: l=>256*nF l+(p.1 ^^^ p.2).toNat
end
section
open Go.RowKit
theorem Qig {l:List UInt8} (h:l.length=4):fourT (numT l)=l:=by
 obtain ⟨a,b,c,d,rfl⟩:∃a b c d,l = [a,b,c,d]:=by
  match l,h with
  | [a,b,c,d],_=>exact ⟨a,b,c,d,rfl⟩
 have ha:=UInt8.toNat_lt a;have hb:=UInt8.toNat_lt b;have hc:=UInt8.toNat_lt c;have hd:=UInt8.toNat_lt d;unfold fourT numT;dsimp only
 have e:∀(x:UInt8) (n:Nat),n % 256=x.toNat→UInt8.ofNat n=x:=fun x n h=>by
  apply UInt8.toNat_inj.1;rw[UInt8.toNat_ofNat'];exact h
 rw[e a _ (by omega),e b _ (by omega),e c _ (by omega),e d _ (by omega)]
theorem Kze {s b:List UInt8} (h:Kcl s = .ok b):sealT b=s:=by
 unfold Kcl at h
 split at h
 ·cases h
 rename_i h4
 split at h
 ·rename_i hc
  injection h with h;subst h;unfold sealT;rw[hc,Qig (by rw[List.length_drop];omega),List.take_append_drop]
 ·cases h
theorem Qgq {s b:List UInt8} (h:Kcl s = .ok b):b.length+4=s.length:=by
 rw[←Kze h,Klk]
instance smpEq:DecidableEq Smp:=fun a b=>by
 cases a with
 | mk t v=>
  cases b with
  | mk t' v'=>exact if h:t=t'∧v=v' then isTrue (by rw[h.1,h.2]) else isFalse fun e=>h (by injection e with e1 e2;exact ⟨e1,e2⟩)
instance wndEq:DecidableEq Wnd:=fun a b=>by
 cases a with
 | mk a1 a2 a3 a4 a5 a6=>
  cases b with
  | mk b1 b2 b3 b4 b5 b6=>
   exact if h:a1=b1∧a2=b2∧a3=b3∧a4=b4∧a5=b5∧a6=b6 then isTrue (by obtain ⟨rfl,rfl,rfl,rfl,rfl,rfl⟩:=h;rfl) else isFalse fun e=>h (by injection e with e1 e2 e3 e4 e5 e6;exact ⟨e1,e2,e3,e4,e5,e6⟩)
instance serEq:DecidableEq Ser:=fun a b=>by
 cases a with
 | mk l s w=>
  cases b with
  | mk l' s' w'=>exact if h:l=l'∧s=s'∧w=w' then isTrue (by rw[h.1,h.2.1,h.2.2]) else isFalse fun e=>h (by injection e with e1 e2 e3;exact ⟨e1,e2,e3⟩)
instance contEq:DecidableEq Cont:=fun a b=>by
 cases a with
 | mk r f t s=>
  cases b with
  | mk r' f' t' s'=>exact if h:r=r'∧f=f'∧t=t'∧s=s' then isTrue (by obtain ⟨rfl,rfl,rfl,rfl⟩:=h;rfl) else isFalse fun e=>h (by injection e with e1 e2 e3 e4;exact ⟨e1,e2,e3,e4⟩)
theorem Kig {α : Type} [Inhabited α] {a b:List α} (h:a.length=b.length) (hi:∀i,i < a.length→a[i]! = b[i]!):a=b:=by
 apply List.ext_getElem h;intro i h1 h2;have:=hi i h1;rwa[getElem!_pos a i h1,getElem!_pos b i h2] at this
theorem Kfy {P:Program} {w:World} {d:Nat} {xs ys:Array Value} {f:Field} {fs:List Field} {t:TypeId} {o:Nat} {a b:Value} {r:Bool} (hf:(f.name != "_",f.type,f.offset)=(true,t,o)) (ha:(part t xs o).run P w = .ok a w) (hb:(part t ys o).run P w = .ok b w) (he:(Op.equalIn d t a b).run P w = .ok r w) :
  (Op.eqFields d xs ys (f :: fs)).run P w=if r then (Op.eqFields d xs ys fs).run P w else .ok false w:=by
 injection hf with h1 h2;injection h2 with h2 h3;subst h2 h3;have h1':f.name≠"_":=by simpa using h1
 rw[Op.eqFields];simp only[ne_eq,h1',not_false_eq_true,if_true,Sem.run_bind,ha,hb,he,Result.andThen_ok];cases r <;> simp
theorem Kqi {P:Program} {w:World} {d:Nat} {xs ys:Array Value}:(Op.eqFields d xs ys []).run P w = .ok true w:=rfl
theorem Qkv (x y:Smp) (w:World):(Op.equalIn 10000 111 (.agg #[.int .i64 x.t,.int .u64 (x.v:Int)]) (.agg #[.int .i64 y.t,.int .u64 (y.v:Int)])).run Tryz.prog w = .ok (decide (x=y)) w:=by
 rw[run_equalIn_struct (d:=9999) w 111 _ _ (by kernel_rfl) (by kernel_rfl)];obtain ⟨fs,hfs⟩:∃fs,(Tryz.prog.fieldsOf 111).toList=fs:=⟨_,rfl⟩;have hf:fs.map (fun f=>(f.name != "_",f.type,f.offset)) = [(true,2,0),(true,79,1)]:=by rw[←hfs];kernel_rfl
 rw[hfs]
 match fs,hf with
 | [f0,f1],hf=>
  simp only[List.map_cons,List.map_nil] at hf;injection hf with h0 hf;injection hf with h1 hf;rw[Kfy (a:=.int .i64 x.t) (b:=.int .i64 y.t) h0 (by kernel_rfl) (by kernel_rfl) (run_equalIn_int w 9998 2 .i64 .i64 _ _ Tryz.underlying2)];rw[Kfy (a:=.int .u64 (x.v:Int)) (b:=.int .u64 (y.v:Int)) h1 (by kernel_rfl) (by kernel_rfl) (run_equalIn_int w 9998 79 .u64 .u64 _ _ Tryz.underlying79)];rw[Kqi];have k0:(x.t == y.t)=decide (x.t=y.t):=by rw[Bool.eq_iff_iff];simp
  have k1:((x.v:Int) == (y.v:Int))=decide (x.v=y.v):=by rw[Bool.eq_iff_iff];simp;omega
  rw[k0,k1];cases x
  cases y
  simp only[Smp.mk.injEq]
  repeat' split
  all_goals simp_all
theorem Qkw (x y:Smp) (w:World):(binOp .neq 111 (.agg #[.int .i64 x.t,.int .u64 (x.v:Int)]) (.agg #[.int .i64 y.t,.int .u64 (y.v:Int)])).run Tryz.prog w = .ok (.bool (!decide (x=y))) w:=by
 rw[run_neq_struct,Qkv];rfl
end
section
open Go.RowKit Go.Shelf Go.Sort
open Lib renaming hid → Jh
attribute [local go_sem ↓] Go.wp_at_zero Go.wp_at_succ
attribute [local go_sem] Later.cell
theorem Kvg (A:Option Addr) (c:Nat) (v:Value) (w:World):Calls Tryz.prog 196 #[.slice A 0 c,v] w fun e w'=>e = .returned (.int .i64 (-1))∧w=w':=by
 go_enter Tryz.func196,Tryz.ntmps196
 go_wp2_with fail
 go_loopg [8] 0 (fun gg s8 wr=>s8 = .int .i64 0∧wr=w)
 case atStart=>exact ⟨rfl,rfl⟩
 case round=>
  obtain ⟨rfl,rfl⟩:=hrel;go_wp2_with fail
  go_ret
  exact ⟨rfl,rfl⟩
theorem Qbh (A:Option Addr) (c:Nat) (v:Value) (w:World):Calls Tryz.prog 142 #[.slice A 0 c,v] w fun e w'=>e = .returned (.slice A 0 c)∧w=w':=by
 have HI:=Jh (Kvg A c v w);go_enter Tryz.func142,Tryz.ntmps142
 go_wp2_with fail
 refine HI.out.mono ?_;rintro _ w1 ⟨rfl,rfl⟩;go_wp2_with fail
 go_ret
 exact ⟨rfl,rfl⟩
theorem Ktq (A:Option Addr) (c:Nat) (w:World):Calls Tryz.prog 88 #[.slice A 0 c] w (SpOut w []):=by
 have HC:=Jh (Koj A c w);have HD:=Jh (fun A' c' W=>Qbh A' c' (.func (.func 144) #[] #[]) W);have HS:=Jh (fun A' c' W=>AnyF.slices_SortFunc_none Tryz.laysSFS A' c' (.func (.func 146) #[] #[]) W);unfold SpOut;go_enter Tryz.func88,Tryz.ntmps88
 go_wp2_with fail
 refine HC.out.mono ?_;rintro _ w1 ⟨⟨A',c',rfl⟩,hb1⟩;have HB1:=Jh hb1;clear hb1;go_wp2_with fail
 refine (HD.out A' c' w1).mono ?_;rintro _ w2 ⟨rfl,rfl⟩;go_wp2_with fail
 refine (HS.out A' c' w1).mono ?_;rintro _ w2 ⟨rfl,rfl⟩;go_wp2_with fail
 go_loopg [4,6,7,15] 0 (fun gg s4 _ _ s15 wr=>s15 = .int .i64 0∧s4 = .slice none 0 0∧wr=w2)
 case atStart=>exact ⟨rfl,rfl,rfl⟩
 case round=>
  obtain ⟨rfl,rfl,rfl⟩:=hrel;go_wp2_with fail
  go_ret
  exact ⟨⟨_,[],rfl,World.ownsRow_nil _ _ _ _,⟨(fun s h=>by cases h),List.Pairwise.nil⟩,(fun _=>rfl),Nat.le_refl _⟩,HB1.out⟩
theorem Kms (l:List Spn) (A:Option Addr) (n c:Nat) (w:World) (h:Elems w w.heap.size 2 Kac A n l) (hn:n≤1099511627776) (hin:∀x∈l,SpnIn x) :
  Calls Tryz.prog 88 #[.slice A n c] w (SpOut w l):=by
 rcases Nat.eq_zero_or_pos n with h0 | h0
 ·subst h0;have:l = []:=List.eq_nil_of_length_eq_zero h.len;subst this;exact Ktq A c w
 ·exact Kwo l A n c w h hn h0 hin
instance spnEq:DecidableEq Spn:=fun a b=>by
 cases a with
 | mk t v=>
  cases b with
  | mk t' v'=>exact if h:t=t'∧v=v' then isTrue (by rw[h.1,h.2]) else isFalse fun e=>h (by injection e with e1 e2;exact ⟨e1,e2⟩)
theorem Qky (x y:Spn) (w:World):(Op.equalIn 10000 109 (.agg #[.int .i64 x.frm,.int .i64 x.to_]) (.agg #[.int .i64 y.frm,.int .i64 y.to_])).run Tryz.prog w = .ok (decide (x=y)) w:=by
 rw[run_equalIn_struct (d:=9999) w 109 _ _ (by kernel_rfl) (by kernel_rfl)];obtain ⟨fs,hfs⟩:∃fs,(Tryz.prog.fieldsOf 109).toList=fs:=⟨_,rfl⟩;have hf:fs.map (fun f=>(f.name != "_",f.type,f.offset)) = [(true,2,0),(true,2,1)]:=by rw[←hfs];kernel_rfl
 rw[hfs]
 match fs,hf with
 | [f0,f1],hf=>
  simp only[List.map_cons,List.map_nil] at hf;injection hf with h0 hf;injection hf with h1 hf;rw[Kfy (a:=.int .i64 x.frm) (b:=.int .i64 y.frm) h0 (by kernel_rfl) (by kernel_rfl) (run_equalIn_int w 9998 2 .i64 .i64 _ _ Tryz.underlying2)];rw[Kfy (a:=.int .i64 x.to_) (b:=.int .i64 y.to_) h1 (by kernel_rfl) (by kernel_rfl) (run_equalIn_int w 9998 2 .i64 .i64 _ _ Tryz.underlying2)];rw[Kqi];have k0:(x.frm == y.frm)=decide (x.frm=y.frm):=by rw[Bool.eq_iff_iff];simp
  have k1:(x.to_ == y.to_)=decide (x.to_=y.to_):=by rw[Bool.eq_iff_iff];simp
  rw[k0,k1];cases x
  cases y
  simp only[Spn.mk.injEq]
  repeat' split
  all_goals simp_all
theorem Qkz (x y:Spn) (w:World):(binOp .neq 109 (.agg #[.int .i64 x.frm,.int .i64 x.to_]) (.agg #[.int .i64 y.frm,.int .i64 y.to_])).run Tryz.prog w = .ok (.bool (!decide (x=y))) w:=by
 rw[run_neq_struct,Qky];rfl
theorem Qja (x y:Spn) (w:World):(Op.equalIn 10000 110 (.agg #[.int .i64 x.frm,.int .i64 x.to_]) (.agg #[.int .i64 y.frm,.int .i64 y.to_])).run Tryz.prog w = .ok (decide (x=y)) w:=by
 rw[run_equalIn_struct (d:=9999) w 110 _ _ (by kernel_rfl) (by kernel_rfl)];obtain ⟨fs,hfs⟩:∃fs,(Tryz.prog.fieldsOf 110).toList=fs:=⟨_,rfl⟩;have hf:fs.map (fun f=>(f.name != "_",f.type,f.offset)) = [(true,2,0),(true,2,1)]:=by rw[←hfs];kernel_rfl
 rw[hfs]
 match fs,hf with
 | [f0,f1],hf=>
  simp only[List.map_cons,List.map_nil] at hf;injection hf with h0 hf;injection hf with h1 hf;rw[Kfy (a:=.int .i64 x.frm) (b:=.int .i64 y.frm) h0 (by kernel_rfl) (by kernel_rfl) (run_equalIn_int w 9998 2 .i64 .i64 _ _ Tryz.underlying2)];rw[Kfy (a:=.int .i64 x.to_) (b:=.int .i64 y.to_) h1 (by kernel_rfl) (by kernel_rfl) (run_equalIn_int w 9998 2 .i64 .i64 _ _ Tryz.underlying2)];rw[Kqi];have k0:(x.frm == y.frm)=decide (x.frm=y.frm):=by rw[Bool.eq_iff_iff];simp
  have k1:(x.to_ == y.to_)=decide (x.to_=y.to_):=by rw[Bool.eq_iff_iff];simp
  rw[k0,k1];cases x
  cases y
  simp only[Spn.mk.injEq]
  repeat' split
  all_goals simp_all
theorem Qjb (x y:Spn) (w:World):(binOp .neq 110 (.agg #[.int .i64 x.frm,.int .i64 x.to_]) (.agg #[.int .i64 y.frm,.int .i64 y.to_])).run Tryz.prog w = .ok (.bool (!decide (x=y))) w:=by
 rw[run_neq_struct,Qja];rfl
theorem Elems.getS {α : Type} [Inhabited α] {w:World} {B sz n:Nat} {enc:α→List Value} {A:Option Addr} {xs:List α} (h:Elems w B sz enc A n xs) {i:Nat} (hi:i < n):∃b off,A=some ⟨b,off,none⟩∧b < B∧∀j v,(enc xs[i]!)[j]? = some v→w.cell? ⟨b,off+i*sz+j,none⟩=some v:=by
 obtain ⟨b,off,e,hb,hc⟩:=h.2 (by omega);have hl:i < xs.length:=by have:=h.len;omega
 refine ⟨b,off,e,hb,fun j v hv=>hc i xs[i]! (by rw[getElem!_pos xs i hl];exact List.getElem?_eq_getElem hl) j v hv⟩
theorem Kgz {l:List Spn} {B n:Nat} {T:TypeId} {v:Value} {w:World} (h:w.ownsRow B T 2 v n (l.flatMap Kac)) (hl:l.length=n):∃A c,v = .slice A n c∧Elems w w.heap.size 2 Kac A n l:=by
 rcases h.2 with ⟨rfl,h0⟩ | ⟨g,cap,cur,rfl,h1⟩
 ·subst h0;have:l = []:=List.eq_nil_of_length_eq_zero hl;subst this;exact ⟨none,0,rfl,Elems.nil_⟩
 ·refine ⟨some ⟨g,0,none⟩,cap,rfl,hl,fun _=>⟨g,0,rfl,(World.ownsRow.lt h g rfl).2,fun i x hx j u hu=>?_⟩⟩;have hj:j < 2:=by have:=(List.getElem?_eq_some_iff.1 hu).1;rwa[Kbv] at this
  have hi:i < n:=by have:=(List.getElem?_eq_some_iff.1 hx).1;omega
  have:=World.ownsRow.cellAt h (i*2+j) (by omega);rw[Kep Kbv l i j x hx hj,hu] at this;rw[Nat.zero_add];exact this
theorem Ktt (X l:List Spn) (A1:Option Addr) (n1 c1:Nat) (A2:Option Addr) (n2 c2:Nat) (w:World) (h1:Elems w w.heap.size 2 Kac A1 n1 X) (h2:Elems w w.heap.size 2 Kac A2 n2 l) (hz1:n1≤1099511627776) (hz2:n2≤1099511627776) :
  Calls Tryz.prog 137 #[.slice A1 n1 c1,.slice A2 n2 c2] w fun e w'=>e = .returned (.bool (decide (X=l)))∧Below w.heap.size w w':=by
 have HX:=Jh h1;have HL:=Jh h2;have hl1:=h1.len;have hl2:=h2.len;obtain ⟨R,hR⟩:∃R,decide (X=l)=R:=⟨_,rfl⟩;rw[hR]
 by_cases hn:n1=n2
 ·subst hn;have HL1:=Jh hl1;have HL2:=Jh hl2;have HR:=Jh hR;clear h1 h2 hl1 hl2 hR;have m1:((n1:Int) != (n1:Int))=false:=by simp
  go_enter Tryz.func137,Tryz.ntmps137
  go_wp2_with fail
  go_loopg [13] n1 (fun gg s13 wr=>∃i:Nat,i+gg=n1∧s13 = .int .i64 (i:Int)∧(∀j,j < i→X[j]! = l[j]!)∧Below w.heap.size w wr)
  case atStart=>exact ⟨0,by omega,rfl,(fun j hj=>by omega),Below.refl _ _⟩
  case round=>
   obtain ⟨i,hig,rfl,hall,hb⟩:=hrel;have HIG:=Jh hig;have HA:=Jh hall;have HB:=Jh hb;clear hig hall hb;obtain ⟨wo,rfl⟩:∃x,x=wr:=⟨_,rfl⟩
   by_cases hi:i < n1
   ·have el:decide (i < n1)=true:=by rw[decide_eq_true_eq];exact hi
    have hi2:(i:Int) < (n1:Int):=by omega
    obtain ⟨b1,o1,rfl,hb1,g1⟩:=((HX.out.below HB.out).more HB.out.size).getS hi;obtain ⟨b2,o2,rfl,hb2,g2⟩:=((HL.out.below HB.out).more HB.out.size).getS hi;have p0:wo.cell? ⟨b1,o1+i*2,none⟩=some (.int .i64 X[i]!.frm):=g1 0 _ rfl;have p1:wo.cell? ⟨b1,o1+i*2+1,none⟩=some (.int .i64 X[i]!.to_):=g1 1 _ rfl;have p2:wo.cell? ⟨b2,o2+i*2,none⟩=some (.int .i64 l[i]!.frm):=g2 0 _ rfl;have p3:wo.cell? ⟨b2,o2+i*2+1,none⟩=some (.int .i64 l[i]!.to_):=g2 1 _ rfl;obtain ⟨x,hx⟩:∃x,X[i]! = x:=⟨_,rfl⟩;obtain ⟨y,hy⟩:∃y,l[i]! = y:=⟨_,rfl⟩;rw[hx] at p0 p1;rw[hy] at p2 p3;have HXI:=Jh hx;have HYI:=Jh hy;have hne:=fun W=>Qkz x y W
    obtain ⟨r,hr⟩:∃r,decide (x=y)=r:=⟨_,rfl⟩;rw[hr] at hne;obtain ⟨xa,xb⟩:=x;obtain ⟨ya,yb⟩:=y;dsimp only at p0 p1 p2 p3 hne;have HRR:=Jh hr;clear g1 g2 hx hy hr
    cases r with
    | true=>
     have hne2:∀W,(binOp .neq 109 (.agg #[.int .i64 xa,.int .i64 xb]) (.agg #[.int .i64 ya,.int .i64 yb])).run Tryz.prog W = .ok (.bool false) W:=hne;clear hne
     have HN:=Jh (show ∀j,j < i+1→X[j]! = l[j]! from fun j hj=>by
      by_cases hji:j=i
      ·subst hji;rw[HXI.out,HYI.out];exact of_decide_eq_true HRR.out
      ·exact HA.out j (by omega))
     go_upto_region 6 with fail
     refine Kab (by kernel_rfl) (by kernel_rfl) ?_
     repeat (go_big_quiet_step (fail))
     refine wpQuiet_nil ?_;rintro wz ⟨⟨_,hbz⟩,rfl⟩;have HBZ:=Jh (HB.out.trans (hbz.mono HB.out.size));clear hbz;go_wp2_with fail
     go_roundg (gk - 1)
     case measure=>have:=HIG.out;omega
     case rel=>exact ⟨i+1,by have:=HIG.out;omega,by first | rfl | go_num,HN.out,HBZ.out⟩
    | false=>
     have hne2:∀W,(binOp .neq 109 (.agg #[.int .i64 xa,.int .i64 xb]) (.agg #[.int .i64 ya,.int .i64 yb])).run Tryz.prog W = .ok (.bool true) W:=hne;clear hne
     have hre:R=false:=by
      rw[←HR.out,decide_eq_false_iff_not];intro e;have h3:=of_decide_eq_false HRR.out;rw[←HXI.out,←HYI.out,e] at h3;exact h3 rfl
     go_upto_region 6 with fail
     refine Kab (by kernel_rfl) (by kernel_rfl) ?_
     repeat (go_big_quiet_step (fail))
     refine wpQuiet_nil ?_;rintro wz ⟨⟨_,hbz⟩,rfl⟩;have HBZ:=Jh (HB.out.trans (hbz.mono HB.out.size));clear hbz;subst hre;go_wp2_with fail
     go_ret
     exact ⟨rfl,HBZ.out⟩
   ·have el:decide (i < n1)=false:=by rw[decide_eq_false_iff_not];exact hi
    have hre:R=true:=by
     rw[←HR.out,decide_eq_true_eq];refine Kig (by rw[HL1.out,HL2.out]) fun j hj=>HA.out j (by have:=HIG.out;have:=HL1.out;omega)
    subst hre;go_wp2_with fail
    go_ret
    exact ⟨rfl,HB.out⟩
 ·have hre:R=false:=by
   rw[←hR,decide_eq_false_iff_not];intro e;rw[e] at hl1;omega
  have m0:¬(n1:Int)=(n2:Int):=by omega
  have m1:((n1:Int) != (n2:Int))=true:=by simp[m0]
  have m2:decide ((n1:Int)=(n2:Int))=false:=decide_eq_false m0;clear hR h1 h2 hl1 hl2;subst hre;go_enter Tryz.func137,Tryz.ntmps137
  go_wp2_with fail
  go_ret
  exact ⟨rfl,Below.refl _ _⟩
theorem Kiy (X l:List Spn) (A1:Option Addr) (n1 c1:Nat) (A2:Option Addr) (n2 c2:Nat) (w:World) (h1:Elems w w.heap.size 2 Kac A1 n1 X) (h2:Elems w w.heap.size 2 Kac A2 n2 l) (hz1:n1≤1099511627776) (hz2:n2≤1099511627776) :
  Calls Tryz.prog 96 #[.slice A1 n1 c1,.slice A2 n2 c2] w fun e w'=>e = .returned (.bool (decide (X=l)))∧Below w.heap.size w w':=by
 have HX:=Jh h1;have HL:=Jh h2;have hl1:=h1.len;have hl2:=h2.len;obtain ⟨R,hR⟩:∃R,decide (X=l)=R:=⟨_,rfl⟩;rw[hR]
 by_cases hn:n1=n2
 ·subst hn;have HL1:=Jh hl1;have HL2:=Jh hl2;have HR:=Jh hR;clear h1 h2 hl1 hl2 hR;have m1:((n1:Int) != (n1:Int))=false:=by simp
  go_enter Tryz.func96,Tryz.ntmps96
  go_wp2_with fail
  go_loopg [5] n1 (fun gg s13 wr=>∃i:Nat,i+gg=n1∧s13 = .int .i64 (i:Int)∧(∀j,j < i→X[j]! = l[j]!)∧Below w.heap.size w wr)
  case atStart=>exact ⟨0,by omega,rfl,(fun j hj=>by omega),Below.refl _ _⟩
  case round=>
   obtain ⟨i,hig,rfl,hall,hb⟩:=hrel;have HIG:=Jh hig;have HA:=Jh hall;have HB:=Jh hb;clear hig hall hb;obtain ⟨wo,rfl⟩:∃x,x=wr:=⟨_,rfl⟩
   by_cases hi:i < n1
   ·have el:decide (i < n1)=true:=by rw[decide_eq_true_eq];exact hi
    have hi2:(i:Int) < (n1:Int):=by omega
    obtain ⟨b1,o1,rfl,hb1,g1⟩:=((HX.out.below HB.out).more HB.out.size).getS hi;obtain ⟨b2,o2,rfl,hb2,g2⟩:=((HL.out.below HB.out).more HB.out.size).getS hi;have p0:wo.cell? ⟨b1,o1+i*2,none⟩=some (.int .i64 X[i]!.frm):=g1 0 _ rfl;have p1:wo.cell? ⟨b1,o1+i*2+1,none⟩=some (.int .i64 X[i]!.to_):=g1 1 _ rfl;have p2:wo.cell? ⟨b2,o2+i*2,none⟩=some (.int .i64 l[i]!.frm):=g2 0 _ rfl;have p3:wo.cell? ⟨b2,o2+i*2+1,none⟩=some (.int .i64 l[i]!.to_):=g2 1 _ rfl;obtain ⟨x,hx⟩:∃x,X[i]! = x:=⟨_,rfl⟩;obtain ⟨y,hy⟩:∃y,l[i]! = y:=⟨_,rfl⟩;rw[hx] at p0 p1;rw[hy] at p2 p3;have HXI:=Jh hx;have HYI:=Jh hy;have hne:=fun W=>Qjb x y W
    obtain ⟨r,hr⟩:∃r,decide (x=y)=r:=⟨_,rfl⟩;rw[hr] at hne;obtain ⟨xa,xb⟩:=x;obtain ⟨ya,yb⟩:=y;dsimp only at p0 p1 p2 p3 hne;have HRR:=Jh hr;clear g1 g2 hx hy hr
    cases r with
    | true=>
     have hne2:∀W,(binOp .neq 110 (.agg #[.int .i64 xa,.int .i64 xb]) (.agg #[.int .i64 ya,.int .i64 yb])).run Tryz.prog W = .ok (.bool false) W:=hne;clear hne
     have HN:=Jh (show ∀j,j < i+1→X[j]! = l[j]! from fun j hj=>by
      by_cases hji:j=i
      ·subst hji;rw[HXI.out,HYI.out];exact of_decide_eq_true HRR.out
      ·exact HA.out j (by omega))
     go_upto_region 6 with fail
     refine Kab (by kernel_rfl) (by kernel_rfl) ?_
     repeat (go_big_quiet_step (fail))
     refine wpQuiet_nil ?_;rintro wz ⟨⟨_,hbz⟩,rfl⟩;have HBZ:=Jh (HB.out.trans (hbz.mono HB.out.size));clear hbz;go_wp2_with fail
     go_roundg (gk - 1)
     case measure=>have:=HIG.out;omega
     case rel=>exact ⟨i+1,by have:=HIG.out;omega,by first | rfl | go_num,HN.out,HBZ.out⟩
    | false=>
     have hne2:∀W,(binOp .neq 110 (.agg #[.int .i64 xa,.int .i64 xb]) (.agg #[.int .i64 ya,.int .i64 yb])).run Tryz.prog W = .ok (.bool true) W:=hne;clear hne
     have hre:R=false:=by
      rw[←HR.out,decide_eq_false_iff_not];intro e;have h3:=of_decide_eq_false HRR.out;rw[←HXI.out,←HYI.out,e] at h3;exact h3 rfl
     go_upto_region 6 with fail
     refine Kab (by kernel_rfl) (by kernel_rfl) ?_
     repeat (go_big_quiet_step (fail))
     refine wpQuiet_nil ?_;rintro wz ⟨⟨_,hbz⟩,rfl⟩;have HBZ:=Jh (HB.out.trans (hbz.mono HB.out.size));clear hbz;subst hre;go_wp2_with fail
     go_ret
     exact ⟨rfl,HBZ.out⟩
   ·have el:decide (i < n1)=false:=by rw[decide_eq_false_iff_not];exact hi
    have hre:R=true:=by
     rw[←HR.out,decide_eq_true_eq];refine Kig (by rw[HL1.out,HL2.out]) fun j hj=>HA.out j (by have:=HIG.out;have:=HL1.out;omega)
    subst hre;go_wp2_with fail
    go_ret
    exact ⟨rfl,HB.out⟩
 ·have hre:R=false:=by
   rw[←hR,decide_eq_false_iff_not];intro e;rw[e] at hl1;omega
  have m0:¬(n1:Int)=(n2:Int):=by omega
  have m1:((n1:Int) != (n2:Int))=true:=by simp[m0]
  have m2:decide ((n1:Int)=(n2:Int))=false:=decide_eq_false m0;clear hR h1 h2 hl1 hl2;subst hre;go_enter Tryz.func96,Tryz.ntmps96
  go_wp2_with fail
  go_ret
  exact ⟨rfl,Below.refl _ _⟩
def SDecO (w:World) (r:Option (List Spn×Nat)) (en:Ending) (w':World):Prop:=match r with
 | some (l,j)=>(∃v:Value,en = .returned (.tuple #[v,.int .i64 ((j:Nat):Int),.int .i64 0])∧w'.ownsRow w.heap.size 109 2 v l.length (l.flatMap Kac))∧Below w.heap.size w w'
 | none=>(∃f:Nat,f≠0∧en = .returned (.tuple #[.slice none 0 0,.int .i64 0,.int .i64 ((f:Nat):Int)]))∧Below w.heap.size w w'
theorem Kew {s:List UInt8} {i j:Nat} {v:Int} (hi:i≤s.length) (h:riAt s i=some (v,j)):i < j∧j≤s.length:=by
 have h2:ruAt s i=some (zig v,j)∨∃u,ruAt s i=some (u,j):=by
  unfold riAt readI at h;unfold ruAt
  cases hr:readU (s.drop i) with
  | error c=>rw[hr] at h;cases h
  | ok x=>
   rw[hr] at h;dsimp only at h;injection h with h;injection h with h1 h2;exact .inr ⟨x.1,by rw[←h2]⟩
 rcases h2 with h2 | ⟨u,h2⟩
 ·exact Kel hi h2
 ·exact Kel hi h2
def RInt (S:ByteArray) (i:Nat) (w:World) (e:Ending) (w':World):Prop:=w=w'∧match riAt S.data.toList i with
 | some (v,j)=>e = .returned (.tuple #[.int .i64 v,.int .i64 (j:Int),.int .i64 0])
 | none=>∃f:Nat,f≠0∧e = .returned (.tuple #[.int .i64 0,.int .i64 0,.int .i64 (f:Int)])
theorem Kpf (S:ByteArray) (i:Nat) (w:World) (hS:S.size≤140737488351232):Calls Tryz.prog 102 #[.string S,.int .i64 (i:Int)] w (RInt S i w):=by
 rcases Knv S.data.toList i with ⟨v,j,h1,h2,h3⟩ | ⟨v,j,e,h1,h2,h3⟩
 ·refine (Kfc S (i:Int) v j 0 h1 hS w).mono ?_;rintro e w' ⟨rfl,rfl⟩;refine ⟨rfl,?_⟩;rw[h2];rfl
 ·refine (Kfc S (i:Int) v j e h1 hS w).mono ?_;rintro en w' ⟨rfl,rfl⟩;refine ⟨rfl,?_⟩;rw[h3];exact ⟨e,h2,by rw[if_neg h2,if_neg h2]⟩
theorem Qeu:(Tryz.prog.info? 109).map (fun i=>(i.zero,i.size,i.bytes))=some (some (.agg #[.int .i64 0,.int .i64 0]),2,16):=by kernel_rfl
def Kco (s:List UInt8) (g:Nat) (L:List Spn) (i:Nat):Option (List Spn×Nat):=match spnsR s g L.getLast? i with
 | none=>none
 | some (l,j)=>some (L++l,j)
theorem Kzf (s:List UInt8) (g i:Nat):Kco s g [] i=spnsR s g none i:=by
 unfold Kco;show (match spnsR s g none i with | none=>none | some (l,j)=>some ([]++l,j))=_
 cases spnsR s g none i <;> rfl
theorem Kwp (s:List UInt8) (L:List Spn) (i:Nat):Kco s 0 L i=some (L,i):=by
 unfold Kco spnsR;simp
theorem Ktr {s:List UInt8} {g i:Nat} {L:List Spn} (h:riAt s i=none):Kco s (g+1) L i=none:=by
 unfold Kco spnsR;rw[h]
theorem Kts {s:List UInt8} {g i j:Nat} {a:Int} {L:List Spn} (h:riAt s i=some (a,j)) (h2:riAt s j=none):Kco s (g+1) L i=none:=by
 unfold Kco spnsR;rw[h];dsimp only;rw[h2]
theorem Kin {s:List UInt8} {g i j k:Nat} {a b:Int} {L:List Spn} (h:riAt s i=some (a,j)) (h2:riAt s j=some (b,k)) (hb:b < a∨(∃o,L.getLast? = some o∧a≤o.to_+1)):Kco s (g+1) L i=none:=by
 unfold Kco spnsR;rw[h];dsimp only;rw[h2];dsimp only;rw[if_pos hb]
theorem Kpq {s:List UInt8} {g i j k:Nat} {a b:Int} {L:List Spn} (h:riAt s i=some (a,j)) (h2:riAt s j=some (b,k)) (hb:¬(b < a∨(∃o,L.getLast? = some o∧a≤o.to_+1))):Kco s (g+1) L i=Kco s g (L ++ [⟨a,b⟩]) k:=by
 unfold Kco
 conv=>lhs;unfold spnsR
 rw[h];dsimp only;rw[h2];dsimp only;rw[if_neg hb,List.getLast?_concat]
 cases spnsR s g (some ⟨a,b⟩) k with
 | none=>rfl
 | some x=>dsimp only;rw[List.append_assoc];rfl
theorem Qge {s:List UInt8} {i n j:Nat} (h:ruAt s i=some (n,j)):Kda s i=Kco s n [] j:=by
 unfold Kda;rw[h,Kzf]
theorem Ked {s:List UInt8} {i j:Nat} {v:Int} (h:riAt s i=some (v,j)):-9223372036854775808≤v∧v≤9223372036854775807:=by
 rcases Knv s i with ⟨u,k,_,h2,h3⟩ | ⟨_,_,_,_,_,h3⟩
 ·rw[h2] at h;injection h with h;injection h with h _;subst h;exact Kzn h3
 ·rw[h3] at h;cases h
theorem Ktm (S:ByteArray) (at0:Nat) (w:World) (hS:S.size≤1099511627776) (hat0:at0≤S.size) :
  Calls Tryz.prog 104 #[.string S,.int .i64 (at0:Int)] w (SDecO w (Kda S.data.toList at0)):=by
 have hs:S.size≤140737488351232:=by omega
 obtain ⟨R,hR⟩:∃R,Kda S.data.toList at0=R:=⟨_,rfl⟩;rw[hR];rcases Kgb S.data.toList at0 with ⟨n,i0,h1,h2,h3⟩ | ⟨v,j,e,h1,h2,h3⟩
 rotate_left
 ·have hre:R=none:=by rw[←hR];unfold Kda;rw[h3]
  subst hre;have HC:=Jh (Kao S (at0:Int) v j e h1 hs w);have hne:((e:Int) != 0)=true:=by simp;omega
  clear hR h3;go_enter Tryz.func104,Tryz.ntmps104
  go_wp2_with fail
  refine HC.out.mono ?_;rintro _ w1 ⟨rfl,rfl⟩;go_wp2_with fail
  go_ret3
  exact ⟨⟨e,h2,rfl⟩,Below.refl _ _⟩
 rw[Qge h2] at hR;have HR:=Jh hR;have HC:=Jh (Kao S (at0:Int) n i0 0 h1 hs w);have hi0:=(Kel hat0 h2).2;have hsl:S.data.toList.length=S.size:=rfl;rw[hsl] at hi0;obtain ⟨B,hB⟩:∃B,w.heap.size=B:=⟨_,rfl⟩;have HB:=Jh hB;have HSL:=Jh hsl;obtain ⟨i1,hi1,hy0,hy1,hy2⟩:=info_parts Qeu;clear hR h1 h2 hsl;go_enter Tryz.func104,Tryz.ntmps104
 go_wp2_with fail
 refine HC.out.mono ?_;rintro _ w1 ⟨rfl,rfl⟩;clear hB;go_wp2_with fail
 go_loopg [1,7,9] n (fun g s1 s7 s9 wr=>∃(at_:Nat) (L:List Spn),s1 = .int .i64 (at_:Int)∧s7 = .int .u64 (g:Int)∧g < 2 ^ 64∧at_≤S.size∧L.length≤at_∧(∀x∈L,SpnIn x)∧wr.ownsRow B 109 2 s9 L.length (L.flatMap Kac)∧Below B w wr∧R=Kco S.data.toList g L at_)
 case atStart=>exact ⟨i0,[],rfl,rfl,h3,hi0,by simp,by simp,World.ownsRow_nil _ _ _ _,by rw[←HB.out];exact Below.refl _ _,HR.out.symm⟩
 case round=>
  obtain ⟨at_,L,rfl,rfl,hg,hat,hll,hin,hown,hbr,hRR⟩:=hrel;have HRR:=Jh hRR;have HO:=Jh hown;have HBR:=Jh hbr;have HIN:=Jh hin;have hBr:B≤wr.heap.size:=by have:=hbr.size;have:=HB.out;omega
  clear hRR hown hbr hin;obtain ⟨wo,rfl⟩:∃x,x=wr:=⟨_,rfl⟩
  cases gk with
  | zero=>
   have hre:R=some (L,at_):=by rw[HRR.out,Kwp]
   go_wp2_with fail
   go_ret3
   rw[hre];exact ⟨⟨_,rfl,by rw[HB.out];exact HO.out⟩,by rw[HB.out];exact HBR.out⟩
  | succ g=>
   have el:decide (0 < g+1)=true:=by rw[decide_eq_true_eq];omega
   go_upto_region 8 with fail
   obtain ⟨p,hp⟩:∃x,wo.heap.size=x:=⟨_,rfl⟩;obtain ⟨w2,hw2⟩:∃x,wo.alloc (.cells #[.int .i64 0,.int .i64 0] 109)=x:=⟨_,rfl⟩;have hb2:Below wo.heap.size wo w2:=by rw[←hw2];exact (Below.refl _ _).alloc (Nat.le_refl _) _
   have hk2:Blk w2 wo.heap.size 109 #[.int .i64 0,.int .i64 0]:=by rw[←hw2];exact Blk.new _ _ _
   rw[hp] at hb2 hk2;rw[hw2,hp];have HP:=Jh hp;have HB2:=Jh hb2;have HK2:=Jh hk2;clear hw2 hp hb2 hk2;go_upto_block 2 with fail
   go_cut [1] (fun s1 wz=>∃(j k:Nat) (a b:Int),s1 = .int .i64 (k:Int)∧riAt S.data.toList at_=some (a,j)∧riAt S.data.toList j=some (b,k)∧Blk wz p 109 #[.int .i64 a,.int .i64 b]∧Below p wo wz)
   case first=>
    go_wp2_with fail
    go_loopg [1,31] 2 (fun g s1 s31 wz=>∃(m k:Nat) (a b:Int),m+g=2∧s31 = .int .i64 (m:Int)∧s1 = .int .i64 (k:Int)∧(m=0→k=at_)∧(m=1→riAt S.data.toList at_=some (a,k))∧(m=2→∃j,riAt S.data.toList at_=some (a,j)∧riAt S.data.toList j=some (b,k))∧k≤S.size∧Blk wz p 109 #[.int .i64 a,.int .i64 b]∧Below p wo wz)
    case atStart=>exact ⟨0,at_,0,0,by omega,rfl,rfl,fun _=>rfl,fun h=>by omega,fun h=>by omega,hat,HK2.out,HB2.out⟩
    case round=>
     obtain ⟨m,k,a,b,hmg,rfl,rfl,q0,q1,q2,hk,hkk,hbk⟩:=hrel;have HMG:=Jh hmg;have HQ0:=Jh q0;have HQ1:=Jh q1;have HQ2:=Jh q2;have HKK:=Jh hkk;have HBK:=Jh hbk;clear hmg q0 q1 q2 hkk hbk;obtain ⟨wk,rfl⟩:∃x,x=wr:=⟨_,rfl⟩;have hpw:p < wk.heap.size:=HKK.out.lt;have hplw:p≤wo.heap.size:=by have:=HP.out;omega
     have HBW:Hid (Below B w wk):=Jh (HBR.out.trans (HBK.out.mono (by have:=HP.out;omega)))
     by_cases hm:m < 2
     ·rcases (by omega:m=0∨m=1) with hm0 | hm1
      ·have hmm:m=0:=hm0;subst hmm;have el2:decide (((0:Nat):Int) < 2)=true:=by decide
       have ipt:∀W:World,(Instr.index 253 (.agg #[.pointer (some ⟨p,0,none⟩),.pointer (some ⟨p,1,none⟩)]) (.int .i64 0)).run Tryz.prog W = .ok (.pointer (some ⟨p,0,none⟩)) W:=fun W=>by kernel_rfl
       have HC2:=Jh (Kpf S k wk hs);obtain ⟨r,hr⟩:∃r,riAt S.data.toList k=r:=⟨_,rfl⟩;have f0:wk.frozen? ⟨p,0,none⟩=false:=HKK.out.frozen 0;have g0:wk.cell? ⟨p,0,none⟩=some (.int .i64 a):=HKK.out.cell 0;have HRK:=Jh hr;clear hr;go_wp2_with fail
       refine HC2.out.mono ?_;rintro _ w3 ⟨rfl,hm3⟩;rw[HRK.out] at hm3
       cases r with
       | none=>
        obtain ⟨f,hf,rfl⟩:=hm3;have hre:R=none:=by rw[HRR.out];exact Ktr ((show k=at_ by simpa using HQ0.out)▸HRK.out)
        have hne:((f:Int) != 0)=true:=by simp;omega
        go_wp2_with fail
        go_ret3
        rw[hre];exact ⟨⟨f,hf,rfl⟩,by rw[HB.out];exact HBW.out.setCell (p:=⟨p,0,none⟩) (by show B≤p;have:=HP.out;omega) _⟩
       | some x=>
        obtain ⟨v,k2⟩:=x;dsimp only at hm3;subst hm3;have hk2:=Kew (by rw[HSL.out];exact hk) HRK.out;rw[HSL.out] at hk2;have HK3:=Jh (HKK.out.set_ 0 (.int .i64 v));have HB3:=Jh (HBK.out.setCell (p:=⟨p,0,none⟩) (Nat.le_refl _) (.int .i64 v));go_wp2_with fail
        go_roundg (gk - 1)
        case measure=>have:=HMG.out;omega
        case rel=>exact ⟨0+1,k2,v,b,by have:=HMG.out;omega,by first | rfl | go_num,rfl,fun h=>by omega,fun _=>(show k=at_ by simpa using HQ0.out)▸HRK.out,fun h=>by omega,hk2.2,HK3.out,HB3.out⟩
      ·have hmm:m=1:=hm1;subst hmm;have el2:decide (((1:Nat):Int) < 2)=true:=by decide
       have ipt:∀W:World,(Instr.index 253 (.agg #[.pointer (some ⟨p,0,none⟩),.pointer (some ⟨p,1,none⟩)]) (.int .i64 1)).run Tryz.prog W = .ok (.pointer (some ⟨p,1,none⟩)) W:=fun W=>by kernel_rfl
       have HC2:=Jh (Kpf S k wk hs);obtain ⟨r,hr⟩:∃r,riAt S.data.toList k=r:=⟨_,rfl⟩;have f1:wk.frozen? ⟨p,1,none⟩=false:=HKK.out.frozen 1;have g1:wk.cell? ⟨p,1,none⟩=some (.int .i64 b):=HKK.out.cell 1;have HRK:=Jh hr;clear hr;go_wp2_with fail
       refine HC2.out.mono ?_;rintro _ w3 ⟨rfl,hm3⟩;rw[HRK.out] at hm3
       cases r with
       | none=>
        obtain ⟨f,hf,rfl⟩:=hm3;have hre:R=none:=by rw[HRR.out];exact Kts (by simpa using HQ1.out) HRK.out
        have hne:((f:Int) != 0)=true:=by simp;omega
        go_wp2_with fail
        go_ret3
        rw[hre];exact ⟨⟨f,hf,rfl⟩,by rw[HB.out];exact HBW.out.setCell (p:=⟨p,1,none⟩) (by show B≤p;have:=HP.out;omega) _⟩
       | some x=>
        obtain ⟨v,k2⟩:=x;dsimp only at hm3;subst hm3;have hk2:=Kew (by rw[HSL.out];exact hk) HRK.out;rw[HSL.out] at hk2;have HK3:=Jh (HKK.out.set_ 1 (.int .i64 v));have HB3:=Jh (HBK.out.setCell (p:=⟨p,1,none⟩) (Nat.le_refl _) (.int .i64 v));go_wp2_with fail
        go_roundg (gk - 1)
        case measure=>have:=HMG.out;omega
        case rel=>exact ⟨1+1,k2,a,v,by have:=HMG.out;omega,by first | rfl | go_num,rfl,fun h=>by omega,fun h=>by omega,fun _=>⟨k,(by simpa using HQ1.out),HRK.out⟩,hk2.2,HK3.out,HB3.out⟩
     ·have hm2:m=2:=by have:=HMG.out;omega
      have el2:decide ((m:Int) < 2)=false:=by rw[decide_eq_false_iff_not];omega
      have hq2:=HQ2.out hm2;subst hm2;have HX:=Jh hq2;clear hq2;go_wp2_with fail
      go_meet
      obtain ⟨j,e1,e2⟩:=HX.out;exact ⟨j,k,a,b,rfl,e1,e2,HKK.out,HBK.out⟩
   case rest=>
    obtain ⟨j,k,a,b,rfl,e1,e2,hkz,hbz⟩:=hcut;obtain ⟨wz,rfl⟩:∃x,x=wc:=⟨_,rfl⟩
    have hkS:k≤S.size∧at_+1≤k:=by
     have h1:=Kew (by rw[HSL.out];exact hat) e1;have h2:=Kew h1.2 e2;rw[HSL.out] at h2;omega
    have ra:=Ked e1;have rb:=Ked e2;have HE1:=Jh e1;have HE2:=Jh e2;have HKZ:=Jh hkz;have HBZ:=Jh hbz;have hpz:p < wz.heap.size:=hkz.lt;have hpp:=HP.out;have HBWZ:Hid (Below B w wz):=Jh (HBR.out.trans (hbz.mono (by omega)));have hOz:wz.ownsRow B 109 2 u9 L.length (L.flatMap Kac):=Keu HO.out (by rw[hpp];exact hbz);have HOZ:=Jh hOz;obtain ⟨A9,c9,hv9,hE9⟩:=Kgz hOz rfl;have d0:wz.cell? ⟨p,0,none⟩=some (.int .i64 a):=HKZ.out.cell 0;have d1:wz.cell? ⟨p,1,none⟩=some (.int .i64 b):=HKZ.out.cell 1;have HLL:=Jh hll;obtain ⟨ln,hln⟩:∃n,L.length=n:=⟨_,rfl⟩;have HLN:=Jh hln;clear e1 e2 hkz hbz hOz;rw[hln] at HOZ HO hll hE9 hv9;subst hv9;have hin9:SpnIn ⟨a,b⟩:=⟨ra.1,ra.2,rb.1,rb.2⟩
    by_cases hba:b < a
    ·have el3:decide (b < a)=true:=decide_eq_true hba;have hre:R=none:=by rw[HRR.out];exact Kin HE1.out HE2.out (.inl hba)
     clear hin9 hE9 hln;go_upto_region 16 with fail
     refine Kab (by kernel_rfl) (by kernel_rfl) ?_
     repeat (go_big_quiet_step (fail))
     refine wpQuiet_nil ?_;rintro wq ⟨⟨_,hbq⟩,rfl⟩;have HBQ:=Jh (HBWZ.out.trans (hbq.mono (by have:=HBWZ.out.size;have:=HB.out;omega)));clear hbq;go_wp2_with fail
     go_ret3
     try rw[hre]
     exact ⟨⟨21,by decide,rfl⟩,by rw[HB.out];exact HBQ.out⟩
    have el3:decide (b < a)=false:=decide_eq_false hba;rcases L.eq_nil_or_concat with hL | ⟨L0,o,hL⟩
    ·have hnb:¬(b < a∨(∃o,L.getLast? = some o∧a≤o.to_+1)):=by
      rintro (h | ⟨o,ho,_⟩)
      ·exact hba h
      ·rw[hL] at ho;cases ho
     have hnx:R=Kco S.data.toList g (L ++ [⟨a,b⟩]) k:=by rw[HRR.out];exact Kpq HE1.out HE2.out hnb
     have hl0:ln=0:=by rw[←hln,hL];rfl
     have HNX:=Jh hnx;clear hE9 hln hL hnb hnx;subst hl0;go_upto_region 16 with fail
     refine Kab (by kernel_rfl) (by kernel_rfl) ?_
     repeat (go_big_quiet_step (fail))
     refine wpQuiet_nil ?_;rintro wq ⟨⟨_,hbq⟩,rfl⟩;have HBQ:=Jh (HBWZ.out.trans (hbq.mono (by have:=HBWZ.out.size;have:=HB.out;omega)));have hOq:=Keu HOZ.out hbq;have hkq:=HKZ.out.below hbq HKZ.out.lt;have c0:wq.cell? ⟨p,0,none⟩=some (.int .i64 a):=hkq.cell 0;have c1:wq.cell? ⟨p,1,none⟩=some (.int .i64 b):=hkq.cell 1;have hBq:B≤wq.heap.size:=by have:=HBQ.out.size;have:=HB.out;omega
     clear hbq hkq d0 d1;go_wp2_with (at_builtin;refine wpList_append_own_at _ rfl _ _ 81 rfl B 109 i1 (.agg #[.int .i64 0,.int .i64 0]) 2 16 Tryz.underlying81 hi1 hy0 hy1 hy2 rfl (by decide) _ _ _ rfl (World.ownsRow.alloc hOq _) ⟨wq.heap.size,0,none⟩ 1 1 [.int .i64 a,.int .i64 b] rfl rfl (Kas (l:=[.int .i64 a,.int .i64 b]) (Blk.new wq _ _)) (fun u hu=>by simp at hu;rcases hu with rfl | rfl <;> rfl) (by unfold maxLen;omega) (by omega) (by simp;omega) ?_)
     intro v' w6 hown' hgrow hx1 hat';have hb6:Below B w w6:=HBQ.out.trans ⟨hgrow.os,hgrow.tape,hgrow.output,by have:=hgrow.size;simp at this;omega,fun k hk=>(hgrow.block k (by simp;omega) (fun e=>Qai hOq hk e.symm)).trans (Below.heap_alloc _ _ _ (by omega))⟩;have hfl:(L ++ [(⟨a,b⟩:Spn)]).flatMap Kac=L.flatMap Kac ++ [.int .i64 a,.int .i64 b]:=by rw[List.flatMap_append];rfl
     have how:w6.ownsRow B 109 2 v' (L ++ [(⟨a,b⟩:Spn)]).length ((L ++ [(⟨a,b⟩:Spn)]).flatMap Kac):=by rw[hfl,List.length_append,HLN.out];exact hown'
     have HB6:=Jh hb6;have HO6:=Jh how;clear hown' hgrow hx1 hat' hb6 hfl how hOq;go_wp2_with fail
     go_roundg g
     case measure=>omega
     case rel=>exact ⟨k,L ++ [⟨a,b⟩],rfl,by first | rfl | go_num,by omega,hkS.1,by rw[List.length_append,HLN.out,List.length_singleton];omega,(fun x hx=>by rcases List.mem_append.1 hx with h | h;exact HIN.out x h;rw[List.mem_singleton.1 h];exact hin9),HO6.out,HB6.out,HNX.out⟩
    ·rw[List.concat_eq_append] at hL;obtain ⟨kk,hkk⟩:∃kk,ln=kk+1:=⟨L0.length,by rw[←hln,hL];simp⟩;subst hkk;have hlast:L.getLast? = some o:=by rw[hL];simp
     have hLk:L[kk]! = o:=by
      have h0:L0.length=kk:=by rw[hL] at hln;simp at hln;omega
      rw[hL,getElem!_pos (L0 ++ [o]) kk (by simp;omega),List.getElem_append_right (by omega)];simp[h0]
     have hino:SpnIn o:=HIN.out o (by rw[hL];simp);obtain ⟨b1,o1,hA9,hb1,g1⟩:=hE9.getS (i:=kk) (by omega);subst hA9;rw[hLk] at g1;have t1:wz.cell? ⟨b1,o1+kk*2+1,none⟩=some (.int .i64 o.to_):=g1 1 _ rfl;have hsub:wrap64 (((kk+1:Nat):Int) - 1)=(kk:Int):=by unfold wrap64;omega
     have hsub2:((kk+1:Nat):Int) - 1=(kk:Int):=by omega
     have eg:decide ((0:Int)≤(kk:Int))=true:=by rw[decide_eq_true_eq];omega
     obtain ⟨ot,hot⟩:∃x,o.to_=x:=⟨_,rfl⟩;have hio:-9223372036854775808≤ot∧ot≤9223372036854775807:=by rw[←hot];exact ⟨hino.2.2.1,hino.2.2.2⟩
     rw[hot] at t1;clear g1 hE9 hLk hino
     by_cases hao:a≤ot
     ·have el4:decide (a≤ot)=true:=decide_eq_true hao;have hre:R=none:=by rw[HRR.out];exact Kin HE1.out HE2.out (.inr ⟨o,hlast,by omega⟩)
      clear hin9 hln hL hlast hot;go_upto_region 16 with fail
      refine Kab (by kernel_rfl) (by kernel_rfl) ?_
      repeat (go_big_quiet_step (fail))
      refine wpQuiet_nil ?_;rintro wq ⟨⟨_,hbq⟩,rfl⟩;have HBQ:=Jh (HBWZ.out.trans (hbq.mono (by have:=HBWZ.out.size;have:=HB.out;omega)));clear hbq;go_wp2_with fail
      go_ret3
      try rw[hre]
      exact ⟨⟨21,by decide,rfl⟩,by rw[HB.out];exact HBQ.out⟩
     have el4:decide (a≤ot)=false:=decide_eq_false hao;have hsa:wrap64 (a - 1)=a - 1:=by unfold wrap64;omega
     have hsa2:IntKind.i64.wrap (a - 1)=a - 1:=by rw[IntKind.wrap_i64];omega
     by_cases hao2:a - 1≤ot
     ·have el5:decide (a - 1≤ot)=true:=decide_eq_true hao2;have hre:R=none:=by rw[HRR.out];exact Kin HE1.out HE2.out (.inr ⟨o,hlast,by omega⟩)
      clear hin9 hln hL hlast hot;go_upto_region 16 with fail
      refine Kab (by kernel_rfl) (by kernel_rfl) ?_
      repeat (go_big_quiet_step (fail))
      refine wpQuiet_nil ?_;rintro wq ⟨⟨_,hbq⟩,rfl⟩;have HBQ:=Jh (HBWZ.out.trans (hbq.mono (by have:=HBWZ.out.size;have:=HB.out;omega)));clear hbq;go_wp2_with fail
      go_ret3
      try rw[hre]
      exact ⟨⟨21,by decide,rfl⟩,by rw[HB.out];exact HBQ.out⟩
     have el5:decide (a - 1≤ot)=false:=decide_eq_false hao2
     have hnb:¬(b < a∨(∃o,L.getLast? = some o∧a≤o.to_+1)):=by
      rintro (h | ⟨o',ho,h2⟩)
      ·exact hba h
      ·rw[hlast] at ho;injection ho with ho;subst ho;omega
     have hnx:R=Kco S.data.toList g (L ++ [⟨a,b⟩]) k:=by rw[HRR.out];exact Kpq HE1.out HE2.out hnb
     have HNX:=Jh hnx;clear hln hL hnb hnx hlast hot;go_upto_region 16 with fail
     refine Kab (by kernel_rfl) (by kernel_rfl) ?_
     repeat (go_big_quiet_step (fail))
     refine wpQuiet_nil ?_;rintro wq ⟨⟨_,hbq⟩,rfl⟩;have HBQ:=Jh (HBWZ.out.trans (hbq.mono (by have:=HBWZ.out.size;have:=HB.out;omega)));have hOq:=Keu HOZ.out hbq;have hkq:=HKZ.out.below hbq HKZ.out.lt;have c0:wq.cell? ⟨p,0,none⟩=some (.int .i64 a):=hkq.cell 0;have c1:wq.cell? ⟨p,1,none⟩=some (.int .i64 b):=hkq.cell 1;have hBq:B≤wq.heap.size:=by have:=HBQ.out.size;have:=HB.out;omega
     clear hbq hkq d0 d1;go_wp2_with (at_builtin;refine wpList_append_own_at _ rfl _ _ 81 rfl B 109 i1 (.agg #[.int .i64 0,.int .i64 0]) 2 16 Tryz.underlying81 hi1 hy0 hy1 hy2 rfl (by decide) _ _ _ rfl (World.ownsRow.alloc hOq _) ⟨wq.heap.size,0,none⟩ 1 1 [.int .i64 a,.int .i64 b] rfl rfl (Kas (l:=[.int .i64 a,.int .i64 b]) (Blk.new wq _ _)) (fun u hu=>by simp at hu;rcases hu with rfl | rfl <;> rfl) (by unfold maxLen;omega) (by omega) (by simp;omega) ?_)
     intro v' w6 hown' hgrow hx1 hat';have hb6:Below B w w6:=HBQ.out.trans ⟨hgrow.os,hgrow.tape,hgrow.output,by have:=hgrow.size;simp at this;omega,fun k hk=>(hgrow.block k (by simp;omega) (fun e=>Qai hOq hk e.symm)).trans (Below.heap_alloc _ _ _ (by omega))⟩;have hfl:(L ++ [(⟨a,b⟩:Spn)]).flatMap Kac=L.flatMap Kac ++ [.int .i64 a,.int .i64 b]:=by rw[List.flatMap_append];rfl
     have how:w6.ownsRow B 109 2 v' (L ++ [(⟨a,b⟩:Spn)]).length ((L ++ [(⟨a,b⟩:Spn)]).flatMap Kac):=by rw[hfl,List.length_append,HLN.out];exact hown'
     have HB6:=Jh hb6;have HO6:=Jh how;clear hown' hgrow hx1 hat' hb6 hfl how hOq;go_wp2_with fail
     go_roundg g
     case measure=>omega
     case rel=>exact ⟨k,L ++ [⟨a,b⟩],rfl,by first | rfl | go_num,by omega,hkS.1,by rw[List.length_append,HLN.out,List.length_singleton];omega,(fun x hx=>by rcases List.mem_append.1 hx with h | h;exact HIN.out x h;rw[List.mem_singleton.1 h];exact hin9),HO6.out,HB6.out,HNX.out⟩
end
end Go.Proofs.YtefpndiiedkmpaaGreatDoor
