/- Merged (what the claim wants of): LabWalksB, LabWalksC, Texts, SymWalksA, SymWalksB, SymWalksC, SymWalksE, RLabWalksA, Iter, ColWalks, AggPlain, LabCmp, BlkPlain, BlkMem, ChkWalksD. -/
import Derived.Test.YtefpndiiedkmpaaGreatDoorKpw02
import Derived.Test.YtefpndiiedkmpaaGreatDoorProg
import Derived.Test.YtefpndiiedkmpaaGreatDoorKpw01
import Derived.Laws.AppendOwnNone
import Derived.Sort.OwnSorted
import Derived.Deep.LoopGhost
import Derived.Deep.CutBlock
import Derived.IntWalk
import Derived.Lib.RowBridge
import Derived.Laws.OwnMore
import Derived.Shelf.SlIter.Nil
import Derived.Shelf.SortM.Plain
import Derived.Shelf.SortM.SortNone
import Derived.StringKeys
import Derived.Maps.OwnOps
import Derived.Maps.Views
import Derived.Laws.BytesArg
set_option linter.unusedVariables false
set_option linter.unusedSimpArgs false
set_option maxRecDepth 100000
set_option maxHeartbeats 8000000
namespace Go.Proofs.YtefpndiiedkmpaaGreatDoor
section
open Go.RowKit Go.Sort
open Lib renaming hid → Jh
attribute [local go_sem ↓] Go.wp_at_zero Go.wp_at_succ
attribute [local go_sem] Later.cell
def encLb (x:Lb):List Value:=[.string ⟨x.n.toArray⟩,.string ⟨x.v.toArray⟩]
set_option maxHeartbeats 400000 in
theorem Kig (x y:Lb) (W:World) :
  Calls Tryz.prog 134 #[.agg (encLb x).toArray,.agg (encLb y).toArray] W fun e w'=>e = .returned (.int .i64 (Lib.compareBytes x.n y.n))∧∃q os',w'=grow (W.drewN q) os':=by
 obtain ⟨xn,xv⟩:=x;obtain ⟨yn,yv⟩:=y;have hcon:=fun W'=>Tryz.strings_Compare ⟨xn.toArray⟩ ⟨yn.toArray⟩ W'
 simp only[List.toList_toArray] at hcon;obtain ⟨r,hr⟩:∃r,Lib.compareBytes xn yn=r:=⟨_,rfl⟩;simp only[hr] at hcon ⊢;have HC:=Jh hcon;clear hcon hr;unfold encLb;obtain ⟨X,hX⟩:∃X:ByteArray,(⟨xn.toArray⟩:ByteArray)=X:=⟨_,rfl⟩;obtain ⟨Y,hY⟩:∃X:ByteArray,(⟨yn.toArray⟩:ByteArray)=X:=⟨_,rfl⟩;simp only[hX,hY] at HC ⊢;clear hX hY;go_enter Tryz.func134,Tryz.ntmps134
 go_wp2_with fail
 refine (HC.out _).mono ?_;rintro e w' ⟨rfl,rfl⟩;go_wp2_with fail
 go_ret
 exact ⟨rfl,0,_,by rw[alloc_eq_grow,alloc_eq_grow,grow_grow];rfl⟩
set_option maxHeartbeats 400000 in
theorem Qax (nm:Txt) (p:Nat) (w:World) (hp:w.cell? ⟨p,0,none⟩=some (.string ⟨nm.toArray⟩)) :
  PredBelow Tryz.prog 191 #[.pointer (some ⟨p,0,none⟩)] (fun x=>.agg (encLb x).toArray) (fun x=>x.n == nm) w:=by
 intro W x hb;have hp':=later hb hp;obtain ⟨xn,xv⟩:=x;have hfin:((⟨xn.toArray⟩:ByteArray).toList == (⟨nm.toArray⟩:ByteArray).toList)=(xn == nm):=by rw[ByteArray.toList_eq,ByteArray.toList_eq]
 obtain ⟨r,hr⟩:∃r,(xn == nm)=r:=⟨_,rfl⟩;rw[hr] at hfin;simp only[hr];unfold encLb;obtain ⟨X,hX⟩:∃X:ByteArray,(⟨xn.toArray⟩:ByteArray)=X:=⟨_,rfl⟩;obtain ⟨Y,hY⟩:∃X:ByteArray,(⟨nm.toArray⟩:ByteArray)=X:=⟨_,rfl⟩;rw[hX,hY] at hfin;rw[hY] at hp';simp only[hX];clear hX hY hr hp;have hpl:p < W.heap.size:=Kaf hp';show Calls Tryz.prog 191 #[.agg #[.string X,.string ⟨xv.toArray⟩],.pointer (some ⟨p,0,none⟩)] W _
 go_enter Tryz.func191,Tryz.ntmps191
 go_wp2_with fail
 go_ret
 exact ⟨rfl,hb.alloc hb.size _⟩
theorem Qar {α : Type} [Inhabited α] (enc:α→List Value) (k:Nat) (w:World) (blk off n:Nat) (d:Array α) (os:Array Obj):w.grownBy (sortWorldK enc k w blk off n d os) (some blk):=by
 refine ⟨rfl,rfl,rfl,?_,?_⟩
 ·simp[sortWorldK,grow,putRowK,putRow,mapBlock,Sort.ahead]
 ·intro j hj hne;have hb:¬blk=j:=fun e=>hne (by rw[e])
  simp only[sortWorldK,grow,putRowK,putRow,mapBlock,Sort.ahead];rw[Array.getElem?_append_left (by simpa using hj),Array.getElem?_modify,if_neg hb]
theorem Kxn:(Tryz.prog.info? 106).map (fun i=>(i.zero,i.size,i.bytes))=some (some (.agg #[.string ⟨#[]⟩,.string ⟨#[]⟩]),2,32):=by kernel_rfl
theorem Kda (x:Lb):(encLb x).length=2:=rfl
theorem Kth (x:Lb):∀v∈encLb x,v.oneCell'=true:=by
 intro v hv;simp[encLb] at hv;rcases hv with rfl | rfl <;> rfl
theorem Kxi (l:List Lb):(l.flatMap encLb).length=l.length*2:=by
 induction l with
 | nil=>rfl
 | cons x l ih=>rw[List.flatMap_cons,List.length_append,ih,Kda,List.length_cons];omega
theorem Kdx:∀(l:List Lb) (t:Nat),t < l.length*2→(l.flatMap encLb)[t]? = (encLb l[t / 2]!)[t % 2]?
 | [],t,h=>by simp at h
 | x :: l,t,h=>by
  rw[List.flatMap_cons]
  by_cases h2:t < 2
  ·rw[List.getElem?_append_left (by rw[Kda];exact h2),show t / 2=0 by omega,show t % 2=t by omega];simp
  ·rw[List.getElem?_append_right (by rw[Kda];omega),Kda,Kdx l (t - 2) (by simp at h;omega),show (t - 2) / 2=t / 2 - 1 by omega,show (t - 2) % 2=t % 2 by omega];congr 2;obtain ⟨m,hm⟩:∃m,t / 2=m+1:=⟨t / 2 - 1,by omega⟩;rw[hm];simp
theorem Kkj {w:World} {B b off n:Nat} {l:List Lb} (h:Elems w B 2 encLb (some ⟨b,off,none⟩) n l) (hn:0 < n):∀t,t < l.length*2→w.cell? ⟨b,off+t,none⟩=(l.flatMap encLb)[t]?:=by
 intro t ht;obtain ⟨b',off',e,_,hc⟩:=h.2 hn;injection e with e;injection e with e1 e2;subst e1 e2;rw[Kdx l t ht];have hl:t / 2 < l.length:=by omega
 have h1:l[t / 2]? = some l[t / 2]!:=by rw[getElem!_pos l _ hl,List.getElem?_eq_getElem hl]
 have h2:t % 2 < (encLb l[t / 2]!).length:=by rw[Kda];omega
 have:=hc (t / 2) _ h1 (t % 2) _ (List.getElem?_eq_getElem h2);rw[List.getElem?_eq_getElem h2,←this];congr 2;omega
theorem Krx (l:List Lb) (b off n c:Nat) (w:World) (h:Elems w w.heap.size 2 encLb (some ⟨b,off,none⟩) n l) (hn:0 < n) (hn8:n≤8) :
  Calls Tryz.prog 192 #[.slice (some ⟨b,off,none⟩) n c] w fun e w'=>∃g cap,e = .returned (.slice (some ⟨g,0,none⟩) n cap)∧w'.ownsRow w.heap.size 106 2 (.slice (some ⟨g,0,none⟩) n cap) n (l.flatMap encLb)∧Below w.heap.size w w':=by
 obtain ⟨i0,hi0,hz0,hz1,hz2⟩:=info_parts Kxn;have hl:=h.len
 have hcon:=AnyE.slices_Clone Tryz.laysCL i0 _ 2 32 hi0 hz0 hz1 hz2 rfl (by omega) Tryz.sizeOf106 b off n c (l.flatMap encLb) w (by rw[Kxi,hl]) (by unfold maxLen;omega) (by omega)
  (fun j u hu=>by
   have hj:=(List.getElem?_eq_some_iff.1 hu).1;rw[Kxi] at hj
   rw[Kkj h hn j hj];exact hu)
  (fun u hu=>by
   obtain ⟨x,_,hx⟩:=List.mem_flatMap.1 hu
   exact Kth x u hx)
 refine hcon.mono ?_;rintro e w' ⟨v',rfl,hown,hne,hb⟩;rcases hown.2 with ⟨rfl,_⟩ | ⟨g,cap,cur,rfl,h1⟩
 ·exact absurd rfl hne
 ·exact ⟨g,cap,rfl,hown,hb⟩
theorem Kwi (n:Nat) (W:World) (h:n≤12):Calls Tryz.prog 125 #[.int .u64 n] W fun e w'=>(∃l:Int,e = .returned (.int .i64 l))∧w'=W:=
 (Tryz.bits_Len n W (by omega) (by omega)).mono fun _ _ ⟨he,hw⟩=>⟨⟨_,he⟩,hw⟩
theorem Kvt (l:List Lb) (g cap n B:Nat) (w:World) (hown:w.ownsRow B 106 2 (.slice (some ⟨g,0,none⟩) n cap) n (l.flatMap encLb)) (hl:l.length=n) (hn8:n≤8) :
  Calls Tryz.prog 193 #[.slice (some ⟨g,0,none⟩) n cap,.func (.func 134) #[] #[]] w fun e w'=>e = .returned (.tuple #[])∧w.grownBy w' (some g):=by
 have hlt:=hown.lt g rfl;rcases hown.2 with ⟨he,_⟩ | ⟨g',cap',cur,he,h1,h2,h3,h4,h5,h6⟩
 ·cases he
 ·injection he with he _ _;injection he with he;injection he with he _ _;subst he
  have hH:HoldsK encLb 2 w g 0 l.toArray:=by
   intro t ht;rw[size_flatK] at ht;have ht':t < l.length*2:=by simpa using ht
   refine ⟨?_,by simp[World.frozen?,h2]⟩;rw[get_flatK _ _ _ _ ht,Nat.zero_add,cell_of_row w g t cur _ (0,0) h2]
   have e1:cur[t]? = (l.flatMap encLb)[t]?:=by
    rw[←h6,List.getElem?_take_of_lt (by omega)];simp
   rw[e1,Kdx l t ht'];have h2':t % 2 < (encLb l[t / 2]!).length:=by rw[Kda];omega
   simp only[List.getElem!_toArray,id];rw[getElem!_pos (encLb l[t / 2]!) (t % 2) h2',List.getElem?_eq_getElem h2']
  have eg:∀args w,(callFunc 134 args).run Tryz.prog w = .ok (.enter 134 args) w:=enters_of Tryz.func134 (by kernel_rfl) rfl;have hcon:=AnyQ.slices_SortFunc_small Tryz.laysSFL 2 Tryz.isAgg106 Tryz.sizeOf106 encLb Kda Kth (fun x y=>Lib.compareBytes x.n y.n) 134 #[] g 0 cap l.toArray w eg (fun _ _ _ _ x y=>Kig x y _) hH hlt.2 (by simp;omega) Kwi;simp only[List.size_toArray,hl] at hcon;refine hcon.mono ?_;rintro e w' ⟨rfl,m,os,rfl⟩;exact ⟨rfl,Qar _ _ _ _ _ _ _ _⟩
theorem Knf (l:List Lb) (nm:Txt) (b off i c p:Nat) (w:World) (r:Bool) (hr:(l.take i).any (fun x=>x.n == nm)=r) (hi:i≤l.length) (hl8:l.length≤8) (hb:b < w.heap.size) (hp:w.cell? ⟨p,0,none⟩=some (.string ⟨nm.toArray⟩))
  (hc:∀t,t < l.length*2→w.cell? ⟨b,off+t,none⟩=(l.flatMap encLb)[t]?) :
  Calls Tryz.prog 190 #[.slice (some ⟨b,off,none⟩) i c,.func (.func 191) #[] #[.pointer (some ⟨p,0,none⟩)]] w fun e w'=>e = .returned (.bool r)∧Below w.heap.size w w':=by
 have eg:∀args w,(callFunc 191 args).run Tryz.prog w = .ok (.enter 191 args) w:=enters_of Tryz.func191 (by kernel_rfl) rfl
 have hcon:=AnyQ.slices_ContainsFunc Tryz.laysCFL 2 Tryz.isAgg106 Tryz.sizeOf106 encLb Kda (fun x=>x.n == nm) 191 #[.pointer (some ⟨p,0,none⟩)] eg b off i c l w (Qax nm p w hp) hi (by omega) hb
  (fun j hj k v hv=>by
   have hk:k < 2:=by have:=(List.getElem?_eq_some_iff.1 hv).1;rw[Kda] at this;exact this
   have:=hc (j*2+k) (by omega);rw[Kdx l (j*2+k) (by omega),show (j*2+k) / 2=j by omega,show (j*2+k) % 2=k by omega,hv] at this;rw[←this];congr 2
   omega)
 rw[hr] at hcon;exact hcon
def Qmv (w:World) (c:Nat) (e:Ending) (w':World):Prop:=(∃v,e = .returned (.tuple #[v,.int .i64 (c:Nat)]))∧Below w.heap.size w w'
theorem Kkl (l:List Lb) (A:Option Addr) (n c:Nat) (w:World) (hE:Elems w w.heap.size 2 encLb A n l) (hnc:n≤c) (hnm:n≤140737488351232) (hz:∀x∈l,x.n.length≤140737488351232∧x.v.length≤140737488351232) :
  Calls Tryz.prog 140 #[.slice A n c] w (Qmv w (Kbq l)):=by
 have hl:=hE.len
 by_cases h0:n=0
 ·subst h0;have hm:Kbq l=43:=by rw[Kbq,if_pos hl]
  rw[hm];clear hm;go_enter Tryz.func140,Tryz.ntmps140
  go_wp2_with fail
  go_ret2
  exact ⟨⟨_,rfl⟩,Below.refl _ _⟩
 ·have e0:((n:Int) == 0)=false:=by rw[beq_eq_false_iff_ne];omega
  by_cases h8:8 < n
  ·have hm:Kbq l=44:=by rw[Kbq,if_neg (by omega),if_pos (by omega)]
   rw[hm];have e8:decide ((8:Int) < (n:Int))=true:=by simp;omega
   clear hm;go_enter Tryz.func140,Tryz.ntmps140
   go_wp2_with fail
   go_ret2
   exact ⟨⟨_,rfl⟩,Below.refl _ _⟩
  ·have e8:decide ((8:Int) < (n:Int))=false:=by simp;omega
   obtain ⟨R,hR⟩:∃R,Kee [] l=R:=⟨_,rfl⟩;have hm:Kbq l=R:=by rw[Kbq,if_neg (by omega),if_neg (by omega),hR]
   rw[hm];obtain ⟨b,off,rfl,hbl,_⟩:=hE.2 (by omega);have hcells:=Kkj hE (by omega);have HC:=Jh hcells;have HR:=Jh hR;have HZ:=Jh hz;have HLEN:=Jh hl;have hn0:0 < n:=by omega
   clear hm hR hz hcells hl h0;go_enter Tryz.func140,Tryz.ntmps140
   go_upto_block 1 with fail
   clear e0 e8;go_cut [] (fun wz=>Below w.heap.size w wz∧R=0)
   case first=>
    go_wp2_with fail
    go_loopg [17] n (fun g s17 wr=>∃i:Nat,i+g=n∧s17 = .int .i64 (i:Int)∧Kee (l.take i) (l.drop i)=R∧Below w.heap.size w wr)
    case atStart=>exact ⟨0,by omega,rfl,by simpa using HR.out,Below.refl _ _⟩
    case round=>
     obtain ⟨i,hig,rfl,hsc,hB⟩:=hrel;have HIG:=Jh hig;have HSC:=Jh hsc;clear hig hsc
     by_cases hi:i < n
     ·have el:decide ((i:Int) < (n:Int))=true:=by simp;omega
      have el':decide (i < n)=true:=by simp;omega
      have hil:i < l.length:=by have:=HLEN.out;omega
      obtain ⟨x,hx⟩:∃x,l[i]=x:=⟨_,rfl⟩;have hxm:x∈l:=by rw[←hx];exact List.getElem_mem hil
      have hxz:=HZ.out x hxm;have hsc:=HSC.out;rw[List.drop_eq_getElem_cons hil,hx,Kee] at hsc
      have hx0:(l.flatMap encLb)[i*2]? = some (.string ⟨x.n.toArray⟩):=by
       rw[Kdx l _ (by omega),show i*2 / 2=i by omega,show i*2 % 2=0 by omega,getElem!_pos l i hil,hx];rfl
      have hx1:(l.flatMap encLb)[i*2+1]? = some (.string ⟨x.v.toArray⟩):=by
       rw[Kdx l _ (by omega),show (i*2+1) / 2=i by omega,show (i*2+1) % 2=1 by omega,getElem!_pos l i hil,hx];rfl
      have c0:wr.cell? ⟨b,off+i*2,none⟩=some (.string ⟨x.n.toArray⟩):=((hB.cell (p:=⟨b,off+i*2,none⟩) hbl).trans (HC.out _ (by omega))).trans hx0;have c1:wr.cell? ⟨b,off+i*2+1,none⟩=some (.string ⟨x.v.toArray⟩):=((hB.cell (p:=⟨b,off+i*2+1,none⟩) hbl).trans (HC.out (i*2+1) (by omega))).trans hx1;obtain ⟨N,hN⟩:∃N:ByteArray,(⟨x.n.toArray⟩:ByteArray)=N:=⟨_,rfl⟩;obtain ⟨V,hV⟩:∃N:ByteArray,(⟨x.v.toArray⟩:ByteArray)=N:=⟨_,rfl⟩;rw[hN] at c0;rw[hV] at c1;have hNn:N.data.toList=x.n:=by rw[←hN]
      have hVv:V.data.toList=x.v:=by rw[←hV]
      have hNz:N.size≤140737488351232:=by rw[←Kaj,hNn];exact hxz.1
      have hVz:V.size≤140737488351232:=by rw[←Kaj,hVv];exact hxz.2
      have HSC2:=Jh hsc;have HN:=Jh hN;have HNn:=Jh hNn;have HVv:=Jh hVv;have HX:=Jh hx;clear hsc hx0 hx1 hx hN hV hNn hVv hxz hxm;go_upto_region 8 with fail
      have hq:Blk (wr.alloc (.cells #[.string N,.string V] 106)) wr.heap.size 106 #[.string N,.string V]:=Blk.new _ _ _;have hB1:Below w.heap.size w (wr.alloc (.cells #[.string N,.string V] 106)):=hB.alloc hB.size _;obtain ⟨w1,hw1⟩:∃w1,wr.alloc (.cells #[.string N,.string V] 106)=w1:=⟨_,rfl⟩;obtain ⟨p,hp⟩:∃p,wr.heap.size=p:=⟨_,rfl⟩;rw[hw1] at hq hB1 ⊢;rw[hp] at hq ⊢;clear hw1 hp c0 c1 hB;have q0:_=some (Value.string N):=hq.cell 0;have q1:_=some (Value.string V):=hq.cell 1;obtain ⟨rn,hrn⟩:∃r,fitN x.n=r:=⟨_,rfl⟩;obtain ⟨rv,hrv⟩:∃r,fitV x.v=r:=⟨_,rfl⟩;obtain ⟨ra,hra⟩:∃r,(l.take i).any (fun y=>y.n == x.n)=r:=⟨_,rfl⟩;have hsc:=HSC2.out;rw[hrn,hrv,hra] at hsc;have HSC3:=Jh hsc;have HRN:=Jh (show fitN N.data.toList=rn by rw[HNn.out,hrn]);have HRV:=Jh (show fitV V.data.toList=rv by rw[HVv.out,hrv]);have HRA:=Jh hra;clear hsc HSC2 hrn hrv hra;go_wp2_with fail
      refine (Kvb N rn HRN.out hNz w1).mono ?_;rintro e w2 ⟨rfl,rfl⟩
      cases rn with
      | false=>
       obtain rfl:40=R:=by have:=HSC3.out;simpa using this
       go_wp2_with fail
       go_ret2
       exact ⟨⟨_,rfl⟩,hB1⟩
      | true=>
       go_wp2_with fail
       refine (Kse V rv HRV.out hVz w1).mono ?_;rintro e w2 ⟨rfl,rfl⟩
       cases rv with
       | false=>
        obtain rfl:41=R:=by have:=HSC3.out;simpa using this
        go_wp2_with fail
        go_ret2
        exact ⟨⟨_,rfl⟩,hB1⟩
       | true=>
        have hmf:∀(fn:Fn) (first cap:Array Value) (w:World),(Instr.makeFunc fn first cap).run Tryz.prog w = .ok (.func fn first cap) w:=fun _ _ _ _=>rfl
        have hci:(i:Int)≤(c:Int):=by omega
        go_wp2_with fail
        refine (Knf l x.n b off i c p w1 ra HRA.out (by omega) (by have:=HLEN.out;omega) (by have:=hB1.size;omega) (by rw[HN.out];exact q0) (fun t ht=>(hB1.cell (p:=⟨b,off+t,none⟩) hbl).trans (HC.out t ht))).mono ?_;rintro e w3 ⟨rfl,hb3⟩;have hB3:Below w.heap.size w w3:=hB1.trans (hb3.mono hB1.size)
        cases ra with
        | true=>
         obtain rfl:42=R:=by have:=HSC3.out;simpa using this
         go_wp2_with fail
         go_ret2
         exact ⟨⟨_,rfl⟩,hB3⟩
        | false=>
         go_wp2_with fail
         go_roundg (gk - 1)
         case measure=>have:=HIG.out;omega
         case rel=>
          refine ⟨i+1,by have:=HIG.out;omega,by go_num,?_,hB3⟩;rw[List.take_succ_eq_append_getElem hil,HX.out];have:=HSC3.out;simpa using this
     ·have hR0:R=0:=by
       have:=HSC.out;rw[List.drop_of_length_le (by have:=HLEN.out;omega),Kee] at this;exact this.symm
      have HR0:=Jh hR0;have el:decide ((i:Int) < (n:Int))=false:=by simp;omega
      have el':decide (i < n)=false:=by simp;omega
      clear hR0;go_wp2_with fail
      go_meet
      exact ⟨hB,HR0.out⟩
   case rest=>
    obtain ⟨hB,hR0⟩:=hcut;obtain ⟨w1,rfl⟩:∃x,x=wc:=⟨_,rfl⟩;have hE1:Elems w1 w1.heap.size 2 encLb (some ⟨b,off,none⟩) n l:=(hE.below hB).more hB.size;have HR0:=Jh hR0;clear hR0;go_wp2_with fail
    refine (Krx l b off n c w1 hE1 (by omega) (by omega)).mono ?_;rintro e w2 ⟨g,cap,rfl,hown,hb2⟩;go_wp2_with fail
    refine (Kvt l g cap n _ w2 hown HLEN.out (by omega)).mono ?_;rintro e w3 ⟨rfl,hg3⟩;go_wp2_with fail
    go_ret2
    refine ⟨⟨_,by rw[HR0.out];rfl⟩,?_⟩;have hgl:=hown.lt g rfl;have hB2:=hB.trans (hb2.mono hB.size);exact hB2.trans ⟨hg3.os,hg3.tape,hg3.output,hg3.size,fun k hk=>hg3.block k (by have:=hB2.size;omega) (fun e=>by injection e with e;have:=hB.size;omega)⟩
end
section
open Go.RowKit Go.Sort
open Lib renaming hid → Jh
open List renaming length_append → Jd
attribute [local go_sem ↓] Go.wp_at_zero Go.wp_at_succ
attribute [local go_sem] Later.cell
theorem Kwm (x y:Lb) (W:World) :
  Calls Tryz.prog 134 #[.agg #[.string ⟨x.n.toArray⟩,.string ⟨x.v.toArray⟩],.agg #[.string ⟨y.n.toArray⟩,.string ⟨y.v.toArray⟩]] W fun e w'=>e = .returned (.int .i64 (Lib.compareBytes x.n y.n))∧Below W.heap.size W w':=by
 refine (Kig x y W).mono ?_;rintro e w' ⟨he,q,os,rfl⟩;exact ⟨he,below_grown W q os⟩
def Kju (l:List Lb):Prop:=∀i,i+1 < l.length→¬l[i+1]!.n < l[i]!.n
theorem Kdi {w wr:World} {b off n:Nat} {l:List Lb} (hE:Elems w w.heap.size 2 encLb (some ⟨b,off,none⟩) n l) (hn:0 < n) (hB:Below w.heap.size w wr) (i:Nat) (hi:i < l.length) :
  b < w.heap.size∧wr.cell? ⟨b,off+i*2,none⟩=some (.string ⟨l[i]!.n.toArray⟩)∧wr.cell? ⟨b,off+i*2+1,none⟩=some (.string ⟨l[i]!.v.toArray⟩):=by
 have hbl:b < w.heap.size:=by
  obtain ⟨b',off',e,hb,_⟩:=hE.2 hn;injection e with e;injection e with e _;rw[e];exact hb
 have hc:=Kkj hE hn;refine ⟨hbl,?_,?_⟩
 ·rw[hB.cell (p:=⟨b,off+i*2,none⟩) hbl,hc (i*2) (by omega),Kdx l _ (by omega),show i*2 / 2=i by omega,show i*2 % 2=0 by omega];rfl
 ·rw[hB.cell (p:=⟨b,off+i*2+1,none⟩) hbl];have:=hc (i*2+1) (by omega);rw[←Nat.add_assoc] at this;rw[this,Kdx l _ (by omega),show (i*2+1) / 2=i by omega,show (i*2+1) % 2=1 by omega];rfl
theorem Ksf (l:List Lb) (A:Option Addr) (n c:Nat) (w:World) (r:Bool) (hr:r=true↔Kju l) (hE:Elems w w.heap.size 2 encLb A n l) (hn8:n≤8) :
  Calls Tryz.prog 187 #[.slice A n c,.func (.func 134) #[] #[]] w fun e w'=>e = .returned (.bool r)∧Below w.heap.size w w':=by
 have hl:=hE.len;have HL:=Jh hl;have HR:=Jh hr;clear hl hr;go_enter Tryz.func187,Tryz.ntmps187
 go_wp2_with fail
 go_loopg [5] n (fun g s5 wr=>∃m:Int,s5 = .int .i64 m∧m+1≤(g:Int)∧-1≤m∧m < (n:Int)∧Below w.heap.size w wr∧∀j:Nat,m≤(j:Int)→j+1 < l.length→¬l[j+1]!.n < l[j]!.n)
 case atStart=>exact ⟨(n:Int) - 1,rfl,by omega,by omega,by omega,Below.refl _ _,fun j hj hj2=>by have:=HL.out;omega⟩
 case round=>
  obtain ⟨m,rfl,hmg,hm1,hmn,hB,hall⟩:=hrel;have HALL:=Jh hall;clear hall
  by_cases hm:0 < m
  ·obtain ⟨j,rfl⟩:∃j:Nat,m=(j:Int)+1:=⟨(m - 1).toNat,by omega⟩;have hjl:j+1 < l.length:=by have:=HL.out;omega
   obtain ⟨b,off,rfl,_,_⟩:=hE.2 (by omega);obtain ⟨hbl,a0,a1⟩:=Kdi hE (by omega) hB (j+1) hjl;obtain ⟨_,b0,b1⟩:=Kdi hE (by omega) hB j (by omega);obtain ⟨x,hx⟩:∃x,l[j+1]! = x:=⟨_,rfl⟩;obtain ⟨y,hy⟩:∃x,l[j]! = x:=⟨_,rfl⟩;rw[hx] at a0 a1;rw[hy] at b0 b1;obtain ⟨q,hq⟩:∃q,Lib.compareBytes x.n y.n=q:=⟨_,rfl⟩;have hcall:∀X:Later wr,Calls Tryz.prog 134 #[.agg #[.string ⟨x.n.toArray⟩,.string ⟨x.v.toArray⟩],.agg #[.string ⟨y.n.toArray⟩,.string ⟨y.v.toArray⟩]] X.w fun e w'=>e = .returned (.int .i64 q)∧Below X.w.heap.size X.w w':=fun X=>by rw[←hq];exact Kwm x y X.w
   have hlt:(q < 0)↔x.n < y.n:=by rw[←hq];exact Qoq _ _
   have HLT:=Jh hlt;have HX:=Jh hx;have HY:=Jh hy;have HC:=Jh hcall;have hbr:b < wr.heap.size:=by have:=hB.size;omega
   have em:decide ((0:Int) < (j:Int)+1)=true:=by rw[decide_eq_true_eq];omega
   clear hx hy hq hlt hcall hm;obtain ⟨X0,hX0⟩:∃N:ByteArray,(⟨x.n.toArray⟩:ByteArray)=N:=⟨_,rfl⟩;obtain ⟨X1,hX1⟩:∃N:ByteArray,(⟨x.v.toArray⟩:ByteArray)=N:=⟨_,rfl⟩;obtain ⟨Y0,hY0⟩:∃N:ByteArray,(⟨y.n.toArray⟩:ByteArray)=N:=⟨_,rfl⟩;obtain ⟨Y1,hY1⟩:∃N:ByteArray,(⟨y.v.toArray⟩:ByteArray)=N:=⟨_,rfl⟩;rw[hX0] at a0;rw[hX1] at a1;rw[hY0] at b0;rw[hY1] at b1;rw[hX0,hX1,hY0,hY1] at HC;clear hX0 hX1 hY0 hY1;go_upto_region 4 with fail
   have z1:IntKind.i64.wrap ((j:Int)+1 - 1)=(j:Int):=by rw[show (j:Int)+1 - 1=(j:Int) by omega];exact IntWalk.i64_in _ (by omega)
   have z2:(0:Int)≤(j:Int)+1:=by omega
   have z3:((j:Int)+1).toNat=j+1:=by omega
   have z4:(j:Int)+1 < (n:Int):=by have:=HL.out;omega
   have z5:(j:Int) < (n:Int):=by omega
   refine Kab (by kernel_rfl) (by kernel_rfl) ?_
   repeat (go_big_quiet_step (first | (go_at_call 134;exact Kbe _ (HC.out _))))
   refine wpQuiet_nil ?_;rintro w3 ⟨⟨_,hb3⟩,rfl⟩;clear z1 z2 z3 z4 z5;have hB3:Below w.heap.size w w3:=then_ hB hb3
   by_cases hq0:q < 0
   ·have hrf:r=false:=by
     rw[←Bool.not_eq_true];intro h;have:=(HR.out.1 h) j (by omega);rw[HX.out,HY.out] at this;exact this (HLT.out.1 hq0)
    subst hrf;go_wp2_with fail
    go_ret
    exact ⟨rfl,hB3⟩
   ·have eq0:decide (q < 0)=false:=by simpa using hq0
    go_wp2_with fail
    go_roundg (gk - 1)
    case measure=>omega
    case rel=>
     refine ⟨(j:Int),by go_num,by omega,by omega,by omega,hB3,fun j' h1 h2=>?_⟩
     by_cases e:j'=j
     ·subst e;rw[HX.out,HY.out];intro h;exact absurd (HLT.out.2 h) (by omega)
     ·exact HALL.out j' (by omega) h2
  ·have em:decide ((0:Int) < m)=false:=by simpa using hm
   have hrt:r=true:=HR.out.2 (fun i hi=>HALL.out i (by omega) hi);subst hrt;go_wp2_with fail
   go_ret
   exact ⟨rfl,hB⟩
def Kdv (l:List Lb):Bool:=decide (Kbq l=0) && decide ((names l).Pairwise (· < ·))
theorem Kub {l:List Lb} (h:(names l).Nodup):Kju l↔(names l).Pairwise (· < ·):=by
 constructor
 ·intro hr
  have key:∀l:List Lb,Kju l→(names l).Nodup→(names l).Pairwise (· < ·):=by
   intro l
   induction l with
   | nil=>intro _ _;exact List.Pairwise.nil
   | cons x l ih=>
    intro hr hn;have hn':=List.nodup_cons.1 hn;have hrl:Kju l:=fun i hi=>by have:=hr (i+1) (by simpa using hi);simpa using this
    have ihl:=ih hrl hn'.2;refine List.pairwise_cons.2 ⟨?_,ihl⟩
    cases l with
    | nil=>intro z hz;simp at hz
    | cons y l=>
     have h0:=hr 0 (by simp)
     have hxy:x.n < y.n:=by
      have h1:¬y.n < x.n:=by simpa using h0
      apply Classical.byContradiction;intro h2;have:=Knc h2 h1;exact hn'.1 (by simp[this,names])
     intro z hz;rcases List.mem_cons.1 hz with rfl | hz
     ·exact hxy
     ·exact List.lt_trans hxy ((List.pairwise_cons.1 ihl).1 z hz)
  exact key l hr h
 ·intro hp i hi hlt;have h1:i+1 < (names l).length:=by simpa[names] using hi
  have:=List.pairwise_iff_getElem.1 hp i (i+1) (by omega) h1 (by omega);simp only[names,List.getElem_map] at this;rw[getElem!_pos l (i+1) hi,getElem!_pos l i (by omega)] at hlt;exact List.lt_asymm this hlt
theorem Kro (l:List Lb):Kdv l=true↔Kbq l=0∧Kju l:=by
 unfold Kdv;rw[Bool.and_eq_true,decide_eq_true_eq,decide_eq_true_eq];constructor
 ·rintro ⟨h1,h2⟩;exact ⟨h1,(Kub (Kfb h1).2.2.2).2 h2⟩
 ·rintro ⟨h1,h2⟩;exact ⟨h1,(Kub (Kfb h1).2.2.2).1 h2⟩
set_option maxHeartbeats 400000 in
theorem Kjm (l:List Lb) (A:Option Addr) (n c:Nat) (w:World) (r:Bool) (hr:Kdv l=r) (hE:Elems w w.heap.size 2 encLb A n l) (hnc:n≤c) (hnm:n≤140737488351232) (hz:∀x∈l,x.n.length≤140737488351232∧x.v.length≤140737488351232) :
  Calls Tryz.prog 136 #[.slice A n c] w fun e w'=>e = .returned (.bool r)∧Below w.heap.size w w':=by
 obtain ⟨m,hm⟩:∃m,Kbq l=m:=⟨_,rfl⟩;have hmk:=Kkl l A n c w hE hnc hnm hz;rw[hm] at hmk;have HMK:=Jh hmk;have HR:=Jh hr;have HM:=Jh hm;clear hmk hr hm hz
 by_cases h0:m=0
 ·subst h0;have hok:=Kfb HM.out;have hn8:n≤8:=by have:=hE.len;omega
  have hri:r=true↔Kju l:=by
   rw[←HR.out,Kro];exact ⟨fun h=>h.2,fun h=>⟨HM.out,h⟩⟩
  have HRI:=Jh hri;clear hri hok;go_enter Tryz.func136,Tryz.ntmps136
  go_wp2_with fail
  refine HMK.out.mono ?_;rintro e w1 ⟨⟨v,rfl⟩,hb1⟩;have hE1:Elems w1 w1.heap.size 2 encLb A n l:=(hE.below hb1).more hb1.size;go_wp2_with fail
  refine (Ksf l A n c w1 r HRI.out hE1 hn8).mono ?_;rintro e w2 ⟨rfl,hb2⟩;go_wp2_with fail
  go_ret
  exact ⟨rfl,then_ hb1 hb2⟩
 ·have hrf:r=false:=by
   rw[←HR.out,←Bool.not_eq_true,Kro];rintro ⟨h,_⟩;exact h0 (by rw[←HM.out];exact h)
  subst hrf;have em:((m:Int) == 0)=false:=by rw[beq_eq_false_iff_ne];omega
  go_enter Tryz.func136,Tryz.ntmps136
  go_wp2_with fail
  refine HMK.out.mono ?_;rintro e w1 ⟨⟨v,rfl⟩,hb1⟩;go_wp2_with fail
  go_ret
  exact ⟨rfl,hb1⟩
theorem Kyc {x:Lb} (h1:fitN x.n=true) (h2:fitV x.v=true):(labT x).length≤118:=by
 have h3:=Kam x.n.length;have h4:=Kam x.v.length;simp only[fitN,fitV,Bool.and_eq_true,decide_eq_true_eq] at h1 h2;simp only[labT,textT,Jd];omega
theorem Kyd {l:List Lb} (h:∀x∈l,fitN x.n=true∧fitV x.v=true):(l.flatMap labT).length≤118*l.length:=by
 induction l with
 | nil=>simp
 | cons x l ih=>
  have h1:=Kyc (h x (by simp)).1 (h x (by simp)).2;have h2:=ih (fun y hy=>h y (by simp[hy]));rw[List.flatMap_cons,Jd,List.length_cons];omega
theorem Kih (l:List Lb):(Kbq l≠0∧Kdg l=Kbq l)∨(Kbq l=0∧Kdv l=false∧Kdg l=42)∨(Kbq l=0∧Kdv l=true∧Kdg l=0):=by
 unfold Kdg Kdv
 by_cases h:Kbq l=0
 ·by_cases h2:(names l).Pairwise (· < ·)
  ·exact .inr (.inr ⟨h,by simp[h,h2],by simp[h,h2]⟩)
  ·exact .inr (.inl ⟨h,by simp[h2],by simp[h,h2]⟩)
 ·exact .inl ⟨h,by simp[h]⟩
theorem Kxc (l:List Lb) (A:Option Addr) (n c:Nat) (w:World) (hE:Elems w w.heap.size 2 encLb A n l) (hnc:n≤c) (hnm:n≤140737488351232) (hz:∀x∈l,x.n.length≤140737488351232∧x.v.length≤140737488351232) :
  Calls Tryz.prog 86 #[.slice A n c] w fun e w'=>e = .returned (.tuple #[.string ⟨(Kgu l).toArray⟩,.int .i64 (Kdg l)])∧Below w.heap.size w w':=by
 obtain ⟨m,hm⟩:∃m,Kbq l=m:=⟨_,rfl⟩;have hmk:=Kkl l A n c w hE hnc hnm hz;rw[hm] at hmk;have HMK:=Jh hmk;have HM:=Jh hm;have HZ:=Jh hz;clear hmk hz;rcases Kih l with ⟨h1,h2⟩ | ⟨h1,h2,h3⟩ | ⟨h1,h2,h3⟩
 ·rw[hm] at h1 h2;have ho:Kgu l = []:=by rw[Kgu,h2,if_neg h1]
  rw[ho,h2];have em:((m:Int) != 0)=true:=by simp;omega
  clear hm h2 ho;go_enter Tryz.func86,Tryz.ntmps86
  go_wp2_with fail
  refine HMK.out.mono ?_;rintro e w1 ⟨⟨v,rfl⟩,hb1⟩;go_wp2_with fail
  go_ret2
  exact ⟨rfl,hb1⟩
 ·have hm0:m=0:=by rw[←hm];exact h1
  have ho:Kgu l = []:=by rw[Kgu,h3,if_neg (by omega)]
  rw[ho,h3];have HV:=Jh h2;clear hm h1 h2 h3 ho;subst hm0;go_enter Tryz.func86,Tryz.ntmps86
  go_wp2_with fail
  refine HMK.out.mono ?_;rintro e w1 ⟨⟨v,rfl⟩,hb1⟩;have hE1:Elems w1 w1.heap.size 2 encLb A n l:=(hE.below hb1).more hb1.size;go_wp2_with fail
  refine (Kjm l A n c w1 false HV.out hE1 hnc hnm HZ.out).mono ?_;rintro e w2 ⟨rfl,hb2⟩;go_wp2_with fail
  go_ret2
  exact ⟨rfl,then_ hb1 hb2⟩
 ·have hm0:m=0:=by rw[←hm];exact h1
  have ho:Kgu l=encL l:=by rw[Kgu,h3,if_pos rfl]
  obtain ⟨hn0,hn8,hfit,_⟩:=Kfb h1;have hl:=hE.len;rw[ho,h3];have HV:=Jh h2;have HL:=Jh hl;have HFIT:=Jh hfit;have hn8':n≤8:=by omega
  have hnp:0 < n:=by omega
  clear hm h1 h2 h3 ho hfit;subst hm0
  have htot:(encL l).length≤1000:=by
   have h1:=Kam l.length;have h2:=Kyd HFIT.out;rw[encL,Jd];omega
  obtain ⟨b,off,rfl,_,_⟩:=hE.2 hnp;clear hl hn0 hn8;go_enter Tryz.func86,Tryz.ntmps86
  go_wp2_with fail
  refine HMK.out.mono ?_;rintro e w1 ⟨⟨v,rfl⟩,hb1⟩;have hE1:Elems w1 w1.heap.size 2 encLb (some ⟨b,off,none⟩) n l:=(hE.below hb1).more hb1.size;go_wp2_with fail
  refine (Kjm l _ n c w1 true HV.out hE1 hnc hnm HZ.out).mono ?_;rintro e w2 ⟨rfl,hb2⟩;have hB2:=then_ hb1 hb2;go_upto_region 7 with fail
  have hbd:Bld w.heap.size w2.heap.size [] (w2.alloc (.cells #[.pointer none,.slice none 0 0] 74)):=Bld.new w2 hB2.size;have hB3:Below w.heap.size w (w2.alloc (.cells #[.pointer none,.slice none 0 0] 74)):=hB2.alloc hB2.size _;obtain ⟨w3,hw3⟩:∃x,w2.alloc (.cells #[.pointer none,.slice none 0 0] 74)=x:=⟨_,rfl⟩;obtain ⟨p,hp⟩:∃p,w2.heap.size=p:=⟨_,rfl⟩;rw[hw3] at hbd hB3 ⊢;rw[hp] at hbd ⊢;clear hw3 hp hE1 hb1 hb2;have hlu:=Kam n;have hu:=Kcx n (by omega) w3;obtain ⟨U,hU⟩:∃U:ByteArray,(⟨(uintT n).toArray⟩:ByteArray)=U:=⟨_,rfl⟩;have hUU:U.data.toList=uintT n:=by rw[←hU]
  have hUz:U.size≤11:=by rw[←Kaj,hUU];exact hlu.2
  rw[hU] at hu;have HU:=Jh hu;have HUU:=Jh hUU;clear hu hU hUU hlu;go_wp2_with fail
  refine HU.out.mono ?_;rintro e w4 ⟨rfl,hb4⟩;have hbd4:=hbd.below hb4;have hB4:=then_ hB3 hb4;clear hbd HU;go_wp2_with fail
  refine (Kdb _ p [] U w4 hbd4 (by simp;omega) hB4.size).mono ?_;rintro e w5 ⟨rfl,hbd5,hw5,_⟩;rw[List.nil_append,HUU.out] at hbd5;have hB5:=hB4.trans hw5;clear hbd4 hw5 hb4;go_upto_block 1 with fail
  go_cut [] (fun wz=>Bld w.heap.size p (encL l) wz∧Below w.heap.size w wz)
  case first=>
   go_wp2_with fail
   go_loopg [29] n (fun g s29 wr=>∃i:Nat,i+g=n∧s29 = .int .i64 (i:Int)∧Bld w.heap.size p (uintT n++(l.take i).flatMap labT) wr∧Below w.heap.size w wr)
   case atStart=>exact ⟨0,by omega,rfl,by simpa using hbd5,hB5⟩
   case round=>
    obtain ⟨i,hig,rfl,hbd,hB⟩:=hrel;have HIG:=Jh hig;clear hig
    by_cases hi:i < n
    ·have hil:i < l.length:=by have:=HL.out;omega
     have el:decide ((i:Int) < (n:Int))=true:=by simp;omega
     have el':decide (i < n)=true:=by simp;omega
     obtain ⟨hbl,c0,c1⟩:=Kdi hE hnp hB i hil;obtain ⟨x,hx⟩:∃x,l[i]! = x:=⟨_,rfl⟩;have hxm:x∈l:=by rw[←hx,getElem!_pos l i hil];exact List.getElem_mem hil
     have hxf:=HFIT.out x hxm;have hlx:=Kyc hxf.1 hxf.2;rw[hx] at c0 c1;obtain ⟨N,hN⟩:∃N:ByteArray,(⟨x.n.toArray⟩:ByteArray)=N:=⟨_,rfl⟩;obtain ⟨V,hV⟩:∃N:ByteArray,(⟨x.v.toArray⟩:ByteArray)=N:=⟨_,rfl⟩;rw[hN] at c0;rw[hV] at c1;have hNn:N.data.toList=x.n:=by rw[←hN]
     have hVv:V.data.toList=x.v:=by rw[←hV]
     have hNz:N.size≤1000:=by rw[←Kaj,hNn];have:=hxf.1;simp only[fitN,Bool.and_eq_true,decide_eq_true_eq] at this;omega
     have hVz:V.size≤1000:=by rw[←Kaj,hVv];have:=hxf.2;simp only[fitV,Bool.and_eq_true,decide_eq_true_eq] at this;omega
     have hsofar:(uintT n++(l.take i).flatMap labT).length+(labT x).length≤1000:=by
      have e1:l.take (i+1)=l.take i ++ [x]:=by rw[List.take_succ_eq_append_getElem hil,←hx,getElem!_pos l i hil]
      have h1:=Kam n;have h2:((l.take (i+1)).flatMap labT).length≤118*(l.take (i+1)).length:=Kyd (fun y hy=>HFIT.out y (List.mem_of_mem_take hy));have h3:(l.take (i+1)).length≤8:=by rw[List.length_take];omega
      rw[e1,List.flatMap_append,Jd] at h2;simp only[List.flatMap_cons,List.flatMap_nil,List.append_nil,←e1] at h2;rw[Jd];omega
     have hnext:(uintT n++(l.take i).flatMap labT)++textT x.n++textT x.v=uintT n++(l.take (i+1)).flatMap labT:=by
      rw[List.take_succ_eq_append_getElem hil,←getElem!_pos l i hil,hx,List.flatMap_append];simp[labT]
     obtain ⟨P0,hP0⟩:∃P,uintT n++(l.take i).flatMap labT=P:=⟨_,rfl⟩;rw[hP0] at hbd hsofar hnext;have hlab:(labT x).length=(textT x.n).length+(textT x.v).length:=by simp[labT]
     have HNEXT:=Jh hnext;have HNn:=Jh hNn;have HVv:=Jh hVv;clear hx hN hV hNn hVv hnext hP0 hxm hxf;go_upto_region 11 with fail
     have hq:Blk (wr.alloc (.cells #[.string N,.string V] 106)) wr.heap.size 106 #[.string N,.string V]:=Blk.new _ _ _;have hbq:Below wr.heap.size wr (wr.alloc (.cells #[.string N,.string V] 106)):=(Below.refl _ _).alloc (Nat.le_refl _) _;obtain ⟨v1,hv1⟩:∃w1,wr.alloc (.cells #[.string N,.string V] 106)=w1:=⟨_,rfl⟩;obtain ⟨q,hqq⟩:∃p,wr.heap.size=p:=⟨_,rfl⟩;rw[hv1] at hq hbq ⊢;have hpl:=hbd.lt;have hbd1:=hbd.below hbq;have hB1:=then_ hB hbq;have hqw:w.heap.size≤q:=by rw[←hqq];exact hB.size
     have hqp:p < q:=by rw[←hqq];exact hpl
     rw[hqq] at hq ⊢;clear hv1 hqq c0 c1 hB hbd hbq hpl;have q0:_=some (Value.string N):=hq.cell 0;have hq1l:=hq.lt;have htn:=Khu N (by omega) v1;have htv:=fun W=>Khu V (by omega) W
     rw[HNn.out] at htn;simp only[HVv.out] at htv;obtain ⟨TN,hTN⟩:∃T:ByteArray,(⟨(textT x.n).toArray⟩:ByteArray)=T:=⟨_,rfl⟩;obtain ⟨TV,hTV⟩:∃T:ByteArray,(⟨(textT x.v).toArray⟩:ByteArray)=T:=⟨_,rfl⟩;rw[hTN] at htn;simp only[hTV] at htv;have hTNn:TN.data.toList=textT x.n:=by rw[←hTN]
     have hTVv:TV.data.toList=textT x.v:=by rw[←hTV]
     have hTNz:TN.size=(textT x.n).length:=by rw[←Kaj,hTNn]
     have hTVz:TV.size=(textT x.v).length:=by rw[←Kaj,hTVv]
     have hTNz2:TN.size≤1000:=by omega
     have hTVz2:TV.size≤1000:=by omega
     have HTN:=Jh htn;have HTV:=Jh htv;have HTNn:=Jh hTNn;have HTVv:=Jh hTVv;have HTNz:=Jh hTNz;have HTVz:=Jh hTVz;have HLAB:=Jh hlab;clear htn htv hTN hTV hTNn hTVv hTNz hTVz hlab;go_wp2_with fail
     refine HTN.out.mono ?_;rintro e v2 ⟨rfl,hb2⟩;have hbd2:=hbd1.below hb2;have hB2:=then_ hB1 hb2;have hq2:=hq.below hb2 hq1l;clear hbd1 hq q0;go_wp2_with fail
     refine (Kdb _ p P0 TN v2 hbd2 (by have:=HTNz.out;have:=HLAB.out;omega) hB2.size).mono ?_;rintro e v3 ⟨rfl,hbd3,hw3,ho3⟩;rw[HTNn.out] at hbd3;have hB3':=hB2.trans hw3;have hq3:Blk v3 q 106 #[.string N,.string V]:=ho3.blk hq2 (by omega) (by decide);clear hbd2 hq2;have q1:_=some (Value.string V):=hq3.cell 1;go_wp2_with fail
     refine (HTV.out v3).mono ?_;rintro e v4 ⟨rfl,hb4⟩;have hbd4:=hbd3.below hb4;have hB4':=then_ hB3' hb4;go_wp2_with fail
     refine (Kdb _ p (P0++textT x.n) TV v4 hbd4 (by have:=HTVz.out;have:=HLAB.out;rw[Jd];omega) hB4'.size).mono ?_;rintro e v5 ⟨rfl,hbd5',hw5,_⟩;rw[HTVv.out,HNEXT.out] at hbd5';go_wp2_with fail
     go_roundg (gk - 1)
     case measure=>have:=HIG.out;omega
     case rel=>exact ⟨i+1,by have:=HIG.out;omega,by go_num,hbd5',hB4'.trans hw5⟩
    ·have el:decide ((i:Int) < (n:Int))=false:=by simp;omega
     have el':decide (i < n)=false:=by simp;omega
     have hfin:uintT n++(l.take i).flatMap labT=encL l:=by
      have:=HL.out;rw[List.take_of_length_le (by omega),encL,this]
     rw[hfin] at hbd;clear hfin;go_wp2_with fail
     go_meet
     exact ⟨hbd,hB⟩
  case rest=>
   obtain ⟨hbd,hB⟩:=hcut;obtain ⟨w6,rfl⟩:∃x,x=wc:=⟨_,rfl⟩;go_wp2_with fail
   refine (Kfj _ p _ w6 hbd hB.size).mono ?_;rintro e w7 ⟨rfl,hw7⟩;go_wp2_with fail
   go_ret2
   exact ⟨rfl,hB.trans hw7⟩
end
section
open Go.RowKit Go.Sort
attribute [local go_sem ↓] Go.wp_at_zero Go.wp_at_succ
attribute [local go_sem] Later.cell
def txtV (s:Txt):Value:=.string ⟨s.toArray⟩
def enc1 (s:Txt):List Value:=[txtV s]
def Strs (w:World) (A:Option Addr) (n:Nat) (l:List Txt):Prop:=Elems w w.heap.size 1 enc1 A n l
section
variable {w w' : World} {A : Option Addr} {n : Nat} {l : List Txt}
theorem Strs.below (h:Strs w A n l) (hb:Below w.heap.size w w'):Strs w' A n l:=(Elems.below h hb).more hb.size
theorem Strs.len (h:Strs w A n l):l.length=n:=Elems.len h
theorem Strs.at_ (h:Strs w A n l) {i:Nat} (hi:i < n):∃b off,A=some ⟨b,off,none⟩∧b < w.heap.size∧w.cell? ⟨b,off+i,none⟩=some (txtV l[i]!):=by
 obtain ⟨b,off,e,hb,hc⟩:=h.2 (by omega);have hl:i < l.length:=by have:=h.len;omega
 refine ⟨b,off,e,hb,?_⟩;have:=hc i l[i]! (by rw[getElem!_pos l i hl,List.getElem?_eq_getElem hl]) 0 _ rfl;simpa using this
theorem Strs.nil:Strs w A 0 []:=Elems.nil_
end
theorem Strs.of_own {w:World} {base:Nat} {v:Value} {n:Nat} {l:List Txt} (h:w.ownsRow base 9 1 v n (l.map txtV)) (hn:l.length=n):∃A c,v = .slice A n c∧Strs w A n l∧(∀a,A=some a→base≤a.block)∧n≤c:=by
 obtain ⟨A,c,h1,h2,h3,h4⟩:=Elems.of_own (enc:=enc1) (xs:=l) (fun _ _=>rfl) (by
  clear h hn
  induction l with
  | nil=>rfl
  | cons x l ih=>simp[enc1,ih]) h hn
 exact ⟨A,c,h1,h2,h3,h4⟩
theorem Knj:(Tryz.prog.info? 9).map (fun i=>(i.zero,i.size,i.bytes))=some (some (.string ⟨#[]⟩),1,16):=by kernel_rfl
theorem Strs.cells {w:World} {a:Addr} {n:Nat} {l:List Txt} (h:Strs w (some a) n l):∀j u,(l.map txtV)[j]? = some u→w.cell? (a.add j)=some u:=by
 intro j u hu;have hj:j < l.length:=by have:=(List.getElem?_eq_some_iff.1 hu).1;simpa using this
 have hl:=h.len;obtain ⟨b,off,e,_,hc⟩:=h.at_ (i:=j) (by omega);injection e with e;subst e;rw[Addr.add_lit,hc];rw[List.getElem?_map,List.getElem?_eq_getElem hj] at hu;rw[getElem!_pos l j hj];exact hu
theorem Qhb {w:World} {base g cap n:Nat} {ss:List Txt} (h:w.ownsRow base 9 1 (.slice (some ⟨g,0,none⟩) n cap) n (ss.map txtV)) (hn:ss.length=n):Holds encStr w g 0 ss.toArray:=by
 rcases h.2 with ⟨e,_⟩ | ⟨g',cap',cur,e,_,hh,_,_,hsz,htk⟩
 ·cases e
 ·injection e with e _ _;injection e with e;injection e with e;subst e;intro j hj;have hj':j < ss.length:=by simpa using hj
  refine ⟨?_,by simp[World.frozen?,hh]⟩;rw[Nat.zero_add,cell_of_row w g j cur _ (0,0) hh]
  have e1:cur[j]? = (ss.map txtV)[j]?:=by
   rw[←htk,List.getElem?_take_of_lt (by omega)];simp
  rw[e1,List.getElem?_map,List.getElem?_eq_getElem hj'];simp[getElem!_pos ss j hj',txtV]
theorem Qiq {w w':World} {B g:Nat} (hB:B≤w.heap.size) (hg:w.grownBy w' (some g)) (hgB:B≤g):Below B w w':=
 ⟨hg.os,hg.tape,hg.output,hg.size,fun k hk=>hg.block k (by omega) (fun e=>by injection e with e;omega)⟩
def TabAt (w:World) (v:Value) (t:List Txt):Prop:=
 ∃A n c,((v = .pointer none∧A=none∧n=0∧c=0)∨∃p,v = .pointer (some ⟨p,0,none⟩)∧Blk w p 168 #[.slice A n c])∧Strs w A n t∧n≤c
theorem TabAt.below {w w':World} {v:Value} {t:List Txt} (h:TabAt w v t) (hb:Below w.heap.size w w'):TabAt w' v t:=by
 obtain ⟨A,n,c,h1,h2,h3⟩:=h;refine ⟨A,n,c,?_,h2.below hb,h3⟩;rcases h1 with h1 | ⟨p,h4,h5⟩
 ·exact .inl h1
 ·exact .inr ⟨p,h4,h5.below hb h5.lt⟩
def OfOut (w:World) (l:List Txt) (e:Ending) (w':World):Prop:=
 ∃p t,e = .returned (.pointer (some ⟨p,0,none⟩))∧TabAt w' (.pointer (some ⟨p,0,none⟩)) t∧IsTab l t∧t.length≤l.length∧Below w.heap.size w w'∧w.heap.size≤p
end
section
open Go.RowKit Go.Sort
open Lib renaming hid → Jh
attribute [local go_sem ↓] Go.wp_at_zero Go.wp_at_succ
attribute [local go_sem] Later.cell
set_option maxHeartbeats 400000 in
theorem Kit (v:Value) (t:List Txt) (w:World) (h:TabAt w v t) :
  ∃A c,Strs w A t.length t∧t.length≤c∧(∀w',Below w.heap.size w w'→Calls Tryz.prog 84 #[v] w' fun e w''=>e = .returned (.slice A t.length c)∧w'=w'')∧(0 < t.length→∃p,v = .pointer (some ⟨p,0,none⟩)∧Blk w p 168 #[.slice A t.length c]):=by
 obtain ⟨A,n,c,h1,h2,h3⟩:=h;have hl:=h2.len;subst hl;refine ⟨A,c,h2,h3,fun w' hb=>?_,fun h0=>?_⟩
 ·rcases h1 with ⟨rfl,rfl,hn,rfl⟩ | ⟨p,rfl,hp⟩
  ·rw[hn];clear h2 h3 hn;go_enter Tryz.func84,Tryz.ntmps84
   go_wp2_with fail
   go_ret
   exact ⟨rfl,rfl⟩
  ·have hc:_=some (Value.slice A t.length c):=(hp.below hb hp.lt).cell 0;obtain ⟨n,hn⟩:∃n,t.length=n:=⟨_,rfl⟩;rw[hn] at hc ⊢;clear h2 h3 hn hp;go_enter Tryz.func84,Tryz.ntmps84
   go_wp2_with fail
   go_ret
   exact ⟨rfl,rfl⟩
 ·rcases h1 with ⟨_,_,hn,_⟩ | ⟨p,hp,hb⟩
  ·omega
  ·exact ⟨p,hp,hb⟩
set_option maxHeartbeats 400000 in
theorem Ktu (v:Value) (t:List Txt) (w:World) (h:TabAt w v t) :
  Calls Tryz.prog 83 #[v] w fun e w'=>e = .returned (.int .i64 t.length)∧w=w':=by
 obtain ⟨A,c,_,_,hall,_⟩:=Kit v t w h;have HA:=Jh (hall w (Below.refl _ _));obtain ⟨n,hn⟩:∃n,t.length=n:=⟨_,rfl⟩;rw[hn] at HA ⊢;clear hall hn h;go_enter Tryz.func83,Tryz.ntmps83
 go_wp2_with fail
 refine HA.out.mono ?_;rintro e w' ⟨rfl,rfl⟩;go_wp2_with fail
 go_ret
 exact ⟨rfl,rfl⟩
theorem Kut (t:List Txt) (A:Option Addr) (c:Nat) (s:ByteArray) (w:World) (hs:Strs w A t.length t) (hasc:Asc t) (hn:t.length*16≤140737488351232) :
  Calls Tryz.prog 141 #[.slice A t.length c,.string s] w fun e w'=>e = .returned (.tuple #[.int .i64 (below t s.data.toList:Nat),.bool (decide (t[below t s.data.toList]? = some s.data.toList))])∧Below w.heap.size w w':=by
 by_cases h0:t.length=0
 ·obtain rfl:t = []:=List.eq_nil_of_length_eq_zero h0;refine (Any2.slices_BinarySearch_string_empty Tryz.laysBS A c s w).mono ?_;rintro e w' ⟨rfl,rfl⟩;exact ⟨rfl,Below.refl _ _⟩
 ·obtain ⟨b,off,rfl,_,_⟩:=hs.2 (by omega)
  have hcon:=Any2.slices_BinarySearch_string Tryz.laysBS b off t.length c (fun j=>(⟨t[j]!.toArray⟩:ByteArray)) s w (by omega) (fun j hj=>by
   obtain ⟨b',off',e,_,hc⟩:=hs.at_ hj;injection e with e;injection e with e1 e2;subst e1 e2
   exact hc)
  have hlt:∀i,i < t.length→Op.bytesLess (⟨t[i]!.toArray⟩:ByteArray).toList s.toList=decide (t[i]! < s.data.toList):=by
   intro i _;rw[bytesLess_eq,ByteArray.toList_eq,ByteArray.toList_eq]
  have key:Lib.bsGo (fun i=>Op.bytesLess (⟨t[i]!.toArray⟩:ByteArray).toList s.toList) t.length 0 t.length=below t s.data.toList:=by
   have h1:=Qkg hasc s.data.toList (fun i=>decide (i < t.length) && Op.bytesLess (⟨t[i]!.toArray⟩:ByteArray).toList s.toList) (fun i hi=>by rw[hlt i hi,getElem!_pos t i hi];simp[hi]) (fun i hi=>by simp;omega);rw[←h1]
   have key2:∀f lo hi,hi≤t.length→Lib.bsGo (fun i=>Op.bytesLess (⟨t[i]!.toArray⟩:ByteArray).toList s.toList) f lo hi=Lib.bsGo (fun i=>decide (i < t.length) && Op.bytesLess (⟨t[i]!.toArray⟩:ByteArray).toList s.toList) f lo hi:=by
    intro f
    induction f with
    | zero=>intro lo hi _;rfl
    | succ f ih=>
     intro lo hi hh;unfold Lib.bsGo
     split
     ·rename_i hlh
      have hm:(lo+hi) / 2 < t.length:=by omega
      simp only[hm,decide_true,Bool.true_and]
      split
      ·exact ih _ _ hh
      ·exact ih _ _ (by omega)
     ·rfl
   exact key2 _ _ _ (Nat.le_refl _)
  rw[key] at hcon;refine hcon.mono ?_;rintro e w' ⟨rfl,q,rfl⟩;refine ⟨?_,⟨rfl,rfl,rfl,Nat.le_refl _,fun _ _=>rfl⟩⟩
  have hd:decide (below t s.data.toList < t.length∧(⟨t[below t s.data.toList]!.toArray⟩:ByteArray)=s)=decide (t[below t s.data.toList]? = some s.data.toList):=by
   rw[decide_eq_decide];constructor
   ·rintro ⟨h1,h2⟩;rw[getElem!_pos t _ h1] at h2;rw[List.getElem?_eq_getElem h1];have h3:=congrArg (fun x:ByteArray=>x.data.toList) h2;exact congrArg some h3
   ·intro h;obtain ⟨h1,h2⟩:=List.getElem?_eq_some_iff.1 h;refine ⟨h1,?_⟩;rw[getElem!_pos t _ h1,h2]
  rw[hd]
set_option maxHeartbeats 400000 in
theorem Kmf (v:Value) (t:List Txt) (s:ByteArray) (w:World) (n e:Nat) (hr:numR t s.data.toList=(n,e)) (h:TabAt w v t) (hasc:Asc t) (hn:t.length*16≤140737488351232) :
  Calls Tryz.prog 87 #[v,.string s] w fun en w'=>en = .returned (.tuple #[.int .i64 n,.int .i64 e])∧Below w.heap.size w w':=by
 obtain ⟨A,c,hs,_,hall,_⟩:=Kit v t w h;have hb:=Kut t A c s w hs hasc hn;have HA:=Jh (hall w (Below.refl _ _));obtain ⟨m,hm⟩:∃m,t.length=m:=⟨_,rfl⟩;obtain ⟨q,hq⟩:∃q,below t s.data.toList=q:=⟨_,rfl⟩;rw[numR,hq] at hr;rw[hq] at hb
 by_cases hin:t[q]? = some s.data.toList
 ·rw[if_pos hin] at hr;obtain ⟨rfl,rfl⟩:q=n∧0=e:=by simpa using hr
  rw[decide_eq_true hin,hm] at hb;rw[hm] at HA;have HB:=Jh hb;clear hall hb hr hs hm hin hq h;go_enter Tryz.func87,Tryz.ntmps87
  go_wp2_with fail
  refine HA.out.mono ?_;rintro en w' ⟨rfl,rfl⟩;go_wp2_with fail
  refine HB.out.mono ?_;rintro en w1 ⟨rfl,hb1⟩;go_wp2_with fail
  go_ret2
  exact ⟨rfl,hb1⟩
 ·rw[if_neg hin] at hr;obtain ⟨rfl,rfl⟩:0=n∧50=e:=by simpa using hr
  rw[decide_eq_false hin,hm] at hb;rw[hm] at HA;have HB:=Jh hb;clear hall hb hr hs hm hin hq h;go_enter Tryz.func87,Tryz.ntmps87
  go_wp2_with fail
  refine HA.out.mono ?_;rintro en w' ⟨rfl,rfl⟩;go_wp2_with fail
  refine HB.out.mono ?_;rintro en w1 ⟨rfl,hb1⟩;go_wp2_with fail
  go_ret2
  exact ⟨rfl,hb1⟩
def tabT (t:List Txt):List UInt8:=uintT t.length++t.flatMap textT
theorem Kri (v:Value) (t:List Txt) (w:World) (h:TabAt w v t) (hn:t.length*16≤140737488351232) (hz:(tabT t).length≤140737488351232) :
  Calls Tryz.prog 30 #[v] w fun e w'=>e = .returned (.string ⟨(tabT t).toArray⟩)∧Below w.heap.size w w':=by
 obtain ⟨A,c,hs,hc,hall,_⟩:=Kit v t w h;have HALL:=Jh hall;have HZ:=Jh hz;clear hall hz;go_enter Tryz.func30,Tryz.ntmps30
 go_upto_region 2 with fail
 have hbd:Bld w.heap.size w.heap.size [] (w.alloc (.cells #[.pointer none,.slice none 0 0] 74)):=Bld.new w (Nat.le_refl _);have hB0:Below w.heap.size w (w.alloc (.cells #[.pointer none,.slice none 0 0] 74)):=(Below.refl _ _).alloc (Nat.le_refl _) _;obtain ⟨w0,hw0⟩:∃x,w.alloc (.cells #[.pointer none,.slice none 0 0] 74)=x:=⟨_,rfl⟩;obtain ⟨p,hp⟩:∃p,w.heap.size=p:=⟨_,rfl⟩;rw[hw0] at hbd hB0 ⊢;have hlen:=Ktu v t w0 (h.below hB0);have HLEN:=Jh hlen;rw[hp] at hbd ⊢;have HP:=Jh hp;clear hw0 hlen hp;have hl:=hs.len;obtain ⟨n,hn'⟩:∃n,t.length=n:=⟨_,rfl⟩;rw[hn'] at HLEN hs hc hn;have hu:=Kcx n (by omega) w0;have hlu:=Kam n;obtain ⟨U,hU⟩:∃U:ByteArray,(⟨(uintT n).toArray⟩:ByteArray)=U:=⟨_,rfl⟩;have hUU:U.data.toList=uintT n:=by rw[←hU]
 have hUz:U.size≤11:=by rw[←Kaj,hUU];exact hlu.2
 rw[hU] at hu;have HU:=Jh hu;have HUU:=Jh hUU;have HN:=Jh hn';clear hu hU hUU hlu hn' hl;go_wp2_with fail
 refine HLEN.out.mono ?_;rintro e w1 ⟨rfl,rfl⟩;go_wp2_with fail
 refine HU.out.mono ?_;rintro e w1 ⟨rfl,hb1⟩;have hbd1:=hbd.below hb1;have hB1:=then_ hB0 hb1;have hps:p≤w1.heap.size:=by have:=hbd1.lt;omega
 go_wp2_with fail
 refine (Kdb p p [] U w1 hbd1 (by simp;omega) hps).mono ?_;rintro e w2 ⟨rfl,hbd2,hw2,_⟩;rw[List.nil_append,HUU.out] at hbd2;have hB2:Below w.heap.size w w2:=by rw[HP.out] at hB1 ⊢;exact hB1.trans hw2
 have hall2:=HALL.out w2 hB2;rw[HN.out] at hall2;have HA2:=Jh hall2;clear hall2 hbd hbd1 hw2 hb1 HALL;go_wp2_with fail
 refine HA2.out.mono ?_;rintro e w3 ⟨rfl,rfl⟩;go_upto_block 0 with fail
 go_cut [] (fun wz=>Bld p p (tabT t) wz∧Below w.heap.size w wz)
 case first=>
  go_wp2_with fail
  go_loopg [14] n (fun g s14 wr=>∃i:Nat,i+g=n∧s14 = .int .i64 (i:Int)∧Bld p p (uintT n++(t.take i).flatMap textT) wr∧Below w.heap.size w wr)
  case atStart=>exact ⟨0,by omega,rfl,by simpa using hbd2,hB2⟩
  case round=>
   obtain ⟨i,hig,rfl,hbd,hB⟩:=hrel;have HIG:=Jh hig;clear hig
   by_cases hi:i < n
   ·have hil:i < t.length:=by have:=HN.out;omega
    have el:decide ((i:Int) < (n:Int))=true:=by simp;omega
    have el':decide (i < n)=true:=by simp;omega
    obtain ⟨b,off,rfl,hbl,hcell⟩:=hs.at_ hi;have hc1:wr.cell? ⟨b,off+i,none⟩=some (txtV t[i]!):=(hB.cell (p:=⟨b,off+i,none⟩) hbl).trans hcell;obtain ⟨x,hx⟩:∃x,t[i]! = x:=⟨_,rfl⟩;rw[hx] at hc1;unfold txtV at hc1;obtain ⟨X,hX⟩:∃X:ByteArray,(⟨x.toArray⟩:ByteArray)=X:=⟨_,rfl⟩;rw[hX] at hc1;have hXx:X.data.toList=x:=by rw[←hX]
    have hnext:(uintT n++(t.take i).flatMap textT)++textT x=uintT n++(t.take (i+1)).flatMap textT:=by
     rw[List.take_succ_eq_append_getElem hil,←getElem!_pos t i hil,hx,List.flatMap_append];simp
    have hpre:(uintT n++(t.take (i+1)).flatMap textT).length≤140737488351232:=by
     have h1:=HZ.out;have h2:t.flatMap textT=(t.take (i+1)).flatMap textT++(t.drop (i+1)).flatMap textT:=by rw[←List.flatMap_append,List.take_append_drop]
     rw[tabT,HN.out,h2] at h1;simp only[List.length_append] at h1 ⊢;omega
    rw[←hnext,List.length_append] at hpre;have hxl:x.length≤(textT x).length:=by simp[textT]
    have hXz:X.size≤140737488351232:=by rw[←Kaj,hXx];omega
    have htx:=Khu X hXz wr;rw[hXx] at htx;obtain ⟨T,hT⟩:∃T:ByteArray,(⟨(textT x).toArray⟩:ByteArray)=T:=⟨_,rfl⟩;have hTt:T.data.toList=textT x:=by rw[←hT]
    have hTz:T.size=(textT x).length:=by rw[←Kaj,hTt]
    rw[hT] at htx;obtain ⟨P0,hP0⟩:∃P,uintT n++(t.take i).flatMap textT=P:=⟨_,rfl⟩;rw[hP0] at hbd hnext hpre;have HTX:=Jh htx;have HTT:=Jh hTt;have HTZ:=Jh hTz;have HNX:=Jh hnext;clear htx hTt hTz hT hnext hP0 hx hX hXx hcell;go_wp2_with fail
    refine HTX.out.mono ?_;rintro e v1 ⟨rfl,hb1⟩;have hbd1:=hbd.below hb1;have hB1:=then_ hB hb1;go_wp2_with fail
    refine (Kdb p p P0 T v1 hbd1 (by have:=HTZ.out;omega) (by have:=hbd1.lt;omega)).mono ?_;rintro e v2 ⟨rfl,hbd2',hw2,_⟩;rw[HTT.out,HNX.out] at hbd2';go_wp2_with fail
    go_roundg (gk - 1)
    case measure=>have:=HIG.out;omega
    case rel=>exact ⟨i+1,by have:=HIG.out;omega,by go_num,hbd2',by rw[HP.out] at hB1 ⊢;exact hB1.trans hw2⟩
   ·have el:decide ((i:Int) < (n:Int))=false:=by simp;omega
    have el':decide (i < n)=false:=by simp;omega
    have hfin:uintT n++(t.take i).flatMap textT=tabT t:=by
     have:=HN.out;rw[List.take_of_length_le (by omega),tabT,this]
    rw[hfin] at hbd;clear hfin;go_wp2_with fail
    go_meet
    exact ⟨hbd,hB⟩
 case rest=>
  obtain ⟨hbd,hB⟩:=hcut;obtain ⟨w6,rfl⟩:∃x,x=wc:=⟨_,rfl⟩;go_wp2_with fail
  refine (Kfj p p _ w6 hbd (by have:=hbd.lt;omega)).mono ?_;rintro e w7 ⟨rfl,hw7⟩;go_wp2_with fail
  go_ret
  refine ⟨rfl,?_⟩;rw[HP.out] at hB ⊢;exact hB.trans hw7
def packS (t:List Txt):List Txt→Option (List UInt8)
 | []=>some []
 | x :: r=>if (numR t x).2≠0 then none else (packS t r).map (uintT (numR t x).1 ++ ·)
def texts (l:List Lb):List Txt:=l.flatMap fun x=>[x.n,x.v]
def packR (t:List Txt) (l:List Lb):List UInt8×Nat:=
 if Kdg l≠0 then ([],Kdg l) else match packS t (texts l) with | none=>([],50) | some b=>(uintT l.length++b,0)
theorem Kkp {t:List Txt} {x:Txt} {r:List Txt} {R:Option (List UInt8)} {D:List UInt8} {k:Nat} (h:R=(packS t (x :: r)).map (D ++ ·)) (hk:numR t x=(k,0)):R=(packS t r).map ((D++uintT k) ++ ·):=by
 rw[h,packS,if_neg (by rw[hk];simp),hk,Option.map_map];congr 1;funext b;simp
theorem Ktz {t:List Txt} {x:Txt} {r:List Txt} {R:Option (List UInt8)} {D:List UInt8} {k e:Nat} (h:R=(packS t (x :: r)).map (D ++ ·)) (hk:numR t x=(k,e)) (he:e≠0):R=none:=by
 rw[h,packS,if_pos (by rw[hk];exact he)];rfl
theorem Kye {t:List Txt} {x:Txt} {k e:Nat} (h:numR t x=(k,e)) (he:e≠0):e=50:=by
 unfold numR at h
 split at h
 ·injection h with _ h;omega
 ·injection h with _ h;exact h.symm
theorem Kqk {t:List Txt} {x:Txt} {k e:Nat} (h:numR t x=(k,e)):k≤t.length:=by
 have:=Koo t x;unfold numR at h
 split at h <;> injection h with h1 h2 <;> omega
theorem Khv (x:Lb) (l:List Lb):texts (x :: l)=x.n :: x.v :: texts l:=rfl
theorem Qom (a b:Value) (w:World):(Instr.index 173 (.agg #[a,b]) (.int .i64 0)).run Tryz.prog w = .ok a w:=by kernel_rfl
theorem Qon (a b:Value) (w:World):(Instr.index 173 (.agg #[a,b]) (.int .i64 1)).run Tryz.prog w = .ok b w:=by kernel_rfl
theorem Qeu (v:Value) (t:List Txt) (l:List Lb) (A:Option Addr) (n c:Nat) (w:World) (s:Txt) (er:Nat) (hr:packR t l=(s,er)) (h:TabAt w v t) (hasc:Asc t) (ht:t.length*16≤140737488351232) (hE:Elems w w.heap.size 2 encLb A n l) (hnc:n≤c) (hnm:n≤140737488351232) (hz:∀x∈l,x.n.length≤140737488351232∧x.v.length≤140737488351232) :
  Calls Tryz.prog 32 #[v,.slice A n c] w fun e w'=>e = .returned (.tuple #[.string ⟨s.toArray⟩,.int .i64 er])∧Below w.heap.size w w':=by
 have henc:=Kxc l A n c w hE hnc hnm hz;obtain ⟨ee,hee⟩:∃e,Kdg l=e:=⟨_,rfl⟩;rw[hee] at henc;rw[packR,hee] at hr;obtain ⟨EO,hEO⟩:∃S:ByteArray,(⟨(Kgu l).toArray⟩:ByteArray)=S:=⟨_,rfl⟩;rw[hEO] at henc;have HENC:=Jh henc;clear henc hEO hz
 by_cases h0:ee=0
 ·subst h0
  have hmk:Kbq l=0:=by
   rcases Kih l with ⟨h1,h2⟩ | ⟨h1,_⟩ | ⟨h1,_⟩
   ·rw[h2] at hee;exact hee
   ·exact h1
   ·exact h1
  obtain ⟨hn0,hn8,hfit,_⟩:=Kfb hmk;have hl:=hE.len;obtain ⟨b,off,rfl,_,_⟩:=hE.2 (by omega);obtain ⟨R,hR⟩:∃R,packS t (texts l)=R:=⟨_,rfl⟩;rw[if_neg (by simp),hR,hl] at hr;have HR:=Jh hr;have HRR:=Jh hR;have HL:=Jh hl;have HFIT:=Jh hfit;have hn8':n≤8:=by omega
  have hnp:0 < n:=by omega
  have hu:=Kcx n (by omega);have hlu:=Kam n;obtain ⟨U,hU⟩:∃U:ByteArray,(⟨(uintT n).toArray⟩:ByteArray)=U:=⟨_,rfl⟩;have hUU:U.data.toList=uintT n:=by rw[←hU]
  have hUz:U.size≤11:=by rw[←Kaj,hUU];exact hlu.2
  rw[hU] at hu;have HU:=Jh hu;have HUU:=Jh hUU;clear hr hR hl hfit hmk hee hu hU hUU hlu hn0 hn8;go_enter Tryz.func32,Tryz.ntmps32
  go_wp2_with fail
  refine HENC.out.mono ?_;rintro e w1 ⟨rfl,hb1⟩;go_wp2_with fail
  refine (HU.out w1).mono ?_;rintro e w2 ⟨rfl,hb2⟩;have hB2:=then_ hb1 hb2;clear HENC HU hb1 hb2;go_upto_block 0 with fail
  go_cut [8] (fun s8 wz=>∃S:ByteArray,s8 = .string S∧R=some (S.data.toList.drop (uintT n).length)∧S.data.toList=uintT n++S.data.toList.drop (uintT n).length∧Below w.heap.size w wz)
  case first=>
   go_wp2_with fail
   go_loopg [8,29] n (fun g s8 s29 wr=>∃(i:Nat) (S:ByteArray) (D:List UInt8),i+g=n∧s29 = .int .i64 (i:Int)∧s8 = .string S∧S.data.toList=uintT n++D∧S.size≤11+22*i∧R=(packS t (texts (l.drop i))).map (D ++ ·)∧Below w.heap.size w wr)
   case atStart=>exact ⟨0,U,[],by omega,rfl,rfl,by rw[HUU.out];simp,by omega,by rw[List.drop_zero,HRR.out];simp,hB2⟩
   case round=>
    obtain ⟨i,S,D,hig,rfl,rfl,hSD,hSz,hRd,hB⟩:=hrel;have HIG:=Jh hig;have HSD:=Jh hSD;have HRD:=Jh hRd;clear hig hSD hRd
    by_cases hi:i < n
    ·have hil:i < l.length:=by have:=HL.out;omega
     have el:decide ((i:Int) < (n:Int))=true:=by simp;omega
     have el':decide (i < n)=true:=by simp;omega
     obtain ⟨hbl,c0,c1⟩:=Kdi hE hnp hB i hil;obtain ⟨x,hx⟩:∃x,l[i]! = x:=⟨_,rfl⟩;rw[hx] at c0 c1;obtain ⟨N,hN⟩:∃N:ByteArray,(⟨x.n.toArray⟩:ByteArray)=N:=⟨_,rfl⟩;obtain ⟨V,hV⟩:∃N:ByteArray,(⟨x.v.toArray⟩:ByteArray)=N:=⟨_,rfl⟩;rw[hN] at c0;rw[hV] at c1;have hNn:N.data.toList=x.n:=by rw[←hN]
     have hVv:V.data.toList=x.v:=by rw[←hV]
     have hdr:l.drop i=x :: l.drop (i+1):=by rw[List.drop_eq_getElem_cons hil,←hx,getElem!_pos l i hil]
     have hrd:=HRD.out;rw[hdr,Khv] at hrd;obtain ⟨k1,e1,hk1⟩:∃k e,numR t x.n=(k,e):=⟨_,_,rfl⟩;obtain ⟨k2,e2,hk2⟩:∃k e,numR t x.v=(k,e):=⟨_,_,rfl⟩;have hs1:=Kqk hk1;have hs2:=Kqk hk2;have HK1:=Jh (show numR t N.data.toList=(k1,e1) by rw[hNn,hk1]);have HK2:=Jh (show numR t V.data.toList=(k2,e2) by rw[hVv,hk2]);have HKK1:=Jh hk1;have HKK2:=Jh hk2;have HRD2:=Jh hrd;clear hx hN hV hNn hVv hdr hrd hk1 hk2 HRD;have hix:∀(a b:Value) (w:World),(Instr.index 173 (.agg #[a,b]) (.int .i64 0)).run Tryz.prog w = .ok a w:=Qom;have hiy:∀(a b:Value) (w:World),(Instr.index 173 (.agg #[a,b]) (.int .i64 1)).run Tryz.prog w = .ok b w:=Qon;go_upto_region 8 with fail
     have hB1:Below w.heap.size w (wr.alloc (.cells #[.string N,.string V] 106)):=hB.alloc hB.size _;have hq:Blk (wr.alloc (.cells #[.string N,.string V] 106)) wr.heap.size 106 #[.string N,.string V]:=Blk.new _ _ _;obtain ⟨v1,hv1⟩:∃w1,wr.alloc (.cells #[.string N,.string V] 106)=w1:=⟨_,rfl⟩;obtain ⟨q,hqq⟩:∃p,wr.heap.size=p:=⟨_,rfl⟩;rw[hv1] at hB1 hq ⊢;rw[hqq] at hq ⊢;clear hv1 hqq c0 c1 hB;have q0:_=some (Value.string N):=hq.cell 0;have q1:_=some (Value.string V):=hq.cell 1;go_wp2_with fail
     refine wp_loop_rounds 3 ?_;rw[rounds_succ];go_wp2_with fail
     refine (Kmf v t N v1 k1 e1 HK1.out (h.below hB1) hasc ht).mono ?_;rintro e v2 ⟨rfl,hb2⟩;have hB2':=then_ hB1 hb2
     by_cases he1:e1=0
     ·subst he1;have hu1:=Kcx k1 (by omega) v2;have hlu1:=Kam k1;obtain ⟨U1,hU1⟩:∃U:ByteArray,(⟨(uintT k1).toArray⟩:ByteArray)=U:=⟨_,rfl⟩;have hUU1:U1.data.toList=uintT k1:=by rw[←hU1]
      have hUz1:U1.size≤11:=by rw[←Kaj,hUU1];exact hlu1.2
      rw[hU1] at hu1;have HU1:=Jh hu1;have HUU1:=Jh hUU1;clear hu1 hU1 hUU1 hlu1 q0 q1 hq;go_wp2_with fail
      refine HU1.out.mono ?_;rintro e v3 ⟨rfl,hb3⟩;have hB3':=then_ hB2' hb3;go_wp2_with fail
      rw[rounds_succ];go_wp2_with fail
      refine (Kmf v t V v3 k2 e2 HK2.out (h.below hB3') hasc ht).mono ?_;rintro e v4 ⟨rfl,hb4⟩;have hB4':=then_ hB3' hb4
      by_cases he2:e2=0
      ·subst he2;have hu2:=Kcx k2 (by omega) v4;have hlu2:=Kam k2;obtain ⟨U2,hU2⟩:∃U:ByteArray,(⟨(uintT k2).toArray⟩:ByteArray)=U:=⟨_,rfl⟩;have hUU2:U2.data.toList=uintT k2:=by rw[←hU2]
       have hUz2:U2.size≤11:=by rw[←Kaj,hUU2];exact hlu2.2
       rw[hU2] at hu2;have HU2:=Jh hu2;have HUU2:=Jh hUU2;clear hu2 hU2 hUU2 hlu2;go_wp2_with fail
       refine HU2.out.mono ?_;rintro e v5 ⟨rfl,hb5⟩;have hB5':=then_ hB4' hb5;go_wp2_with fail
       rw[rounds_succ];go_wp2_with fail
       go_roundg (gk - 1)
       case measure=>have:=HIG.out;omega
       case rel=>
        refine ⟨i+1,_,(D++uintT k1)++uintT k2,by have:=HIG.out;omega,by go_num,rfl,?_,?_,Kkp (Kkp HRD2.out HKK1.out) HKK2.out,hB5'⟩
        ·simp only[ByteArray.data_append,Array.toList_append,HSD.out,HUU1.out,HUU2.out,List.append_assoc]
        ·simp only[ByteArray.size_append];omega
      ·have ee2:((e2:Int) != 0)=true:=by simp;omega
       have hRn:=Ktz (Kkp HRD2.out HKK1.out) HKK2.out he2;have he50:=Kye HKK2.out he2;obtain ⟨hs',he'⟩:[]=s∧50=er:=by have:=HR.out;rw[hRn] at this;simpa using this
       have HE:=Jh (he50.trans he');subst hs';clear hRn he50 he';go_wp2_with fail
       go_ret2
       exact ⟨ret2 rfl (vi (by rw[HE.out])),hB4'⟩
     ·have ee1:((e1:Int) != 0)=true:=by simp;omega
      have hRn:=Ktz HRD2.out HKK1.out he1;have he50:=Kye HKK1.out he1;obtain ⟨hs',he'⟩:[]=s∧50=er:=by have:=HR.out;rw[hRn] at this;simpa using this
      have HE:=Jh (he50.trans he');subst hs';clear hRn he50 he' q0 q1 hq;go_wp2_with fail
      go_ret2
      exact ⟨ret2 rfl (vi (by rw[HE.out])),hB2'⟩
    ·have el:decide ((i:Int) < (n:Int))=false:=by simp;omega
     have el':decide (i < n)=false:=by simp;omega
     have hfin:R=some D:=by
      rw[HRD.out,List.drop_of_length_le (by have:=HL.out;omega)];simp[texts,packS]
     have HF:=Jh hfin;clear hfin;go_wp2_with fail
     go_meet
     refine ⟨S,rfl,?_,?_,hB⟩
     ·rw[HSD.out,HF.out];simp
     ·rw[HSD.out];simp
  case rest=>
   obtain ⟨S,rfl,hRS,hSS,hB⟩:=hcut;have hr:=HR.out;rw[hRS] at hr;obtain ⟨hs',he'⟩:uintT n++S.data.toList.drop (uintT n).length=s∧0=er:=by simpa using hr
   have hS2:S.data.toList=s:=by rw[←hs'];exact hSS
   have HS:=Jh hS2;have HE:=Jh he';clear hr hRS hSS hs' he' hS2;go_wp2_with fail
   go_ret2
   exact ⟨ret2 (congrArg Value.string (Kze (by rw[HS.out]))) (vi (by rw[←HE.out];rfl)),hB⟩
 ·rw[if_pos h0] at hr;obtain ⟨rfl,rfl⟩:[]=s∧ee=er:=by simpa using hr
  have ee0:((ee:Int) != 0)=true:=by simp;omega
  clear hr hee;go_enter Tryz.func32,Tryz.ntmps32
  go_wp2_with fail
  refine HENC.out.mono ?_;rintro e w1 ⟨rfl,hb1⟩;go_wp2_with fail
  go_ret2
  exact ⟨rfl,hb1⟩
end
section
open Go.RowKit Go.Sort
attribute [local go_sem ↓] Go.wp_at_zero Go.wp_at_succ
attribute [local go_sem] Later.cell
theorem Kkk (x:Txt) (s:ByteArray):Op.bytesLess (⟨x.toArray⟩:ByteArray).toList s.toList=decide (x < s.data.toList):=by
 rw[bytesLess_eq,ByteArray.toList_eq,ByteArray.toList_eq]
theorem Kqm {w w1:World} {base:Nat} {e:TypeId} {size:Nat} {v:Value} {n:Nat} {xs:List Value} (h:w.ownsRow base e size v n xs) (hb:Below w.heap.size w w1):w1.ownsRow base e size v n xs:=
 h.kept (row:=none) ⟨hb.os,hb.tape,hb.output,hb.size,fun k hk _=>hb.block k hk⟩ (by cases v.ownBlock <;> simp)
theorem Qhf:(Tryz.prog.info? 107).map (fun i=>(i.zero,i.size,i.bytes))=some (some (.agg #[.string ⟨#[]⟩,.string ⟨#[]⟩]),2,32):=by kernel_rfl
end
end Go.Proofs.YtefpndiiedkmpaaGreatDoor
namespace Go.Proofs
open Go.Shelf
def Tryz.keys74_ren:Go.Shelf.Ren:=⟨fun | 7=>74 | 10=>128 | n=>n,fun | 23=>125 | 26=>9 | 3=>132 | 28=>159 | 0=>0 | 27=>158 | 33=>146 | 4=>4 | n=>n,fun | n=>n⟩
theorem Tryz.keys74:Go.Proofs.SlLaysZ.n7 Tryz.prog Tryz.keys74_ren:={
 mixed:=by kernel_rfl
 f7:=⟨Tryz.f74.name,by decide,Tryz.func74.trans (congrArg some (by kernel_rfl))⟩
 f10:=⟨Tryz.f128.name,by decide,Tryz.func128.trans (congrArg some (by kernel_rfl))⟩
 t0:=Tryz.underlying0
 a0:=Tryz.isAgg0
 z0:=Tryz.sizeOf0
 v0:=Tryz.zeroValue0
 t4:=Tryz.underlying4
 a4:=Tryz.isAgg4
 z4:=Tryz.sizeOf4
 v4:=Tryz.zeroValue4
 t23:=Tryz.underlying125
 a23:=Tryz.isAgg125
 z23:=Tryz.sizeOf125
 v23:=Tryz.zeroValue125
 t26:=Tryz.underlying9
 a26:=Tryz.isAgg9
 z26:=Tryz.sizeOf9
 v26:=Tryz.zeroValue9
 t27:=Tryz.underlying158
 a27:=Tryz.isAgg158
 z27:=Tryz.sizeOf158
 v27:=Tryz.zeroValue158
 t28:=Tryz.underlying159
 a28:=Tryz.isAgg159
 z28:=Tryz.sizeOf159
 v28:=Tryz.zeroValue159
 t33:=Tryz.underlying146
 a33:=Tryz.isAgg146
 z33:=Tryz.sizeOf146
 v33:=Tryz.zeroValue146 }
def Tryz.sorted73_ren:Go.Shelf.Ren:=⟨fun | 6=>73 | 8=>127 | 9=>123 | 11=>175 | 13=>125 | 12=>163 | 23=>172 | 24=>173 | 14=>215 | 15=>216 | 16=>217 | 17=>218 | 18=>219 | 19=>220 | 20=>194 | 21=>221 | 22=>222 | 25=>251 | 26=>224 | 27=>225 | 28=>252 | 29=>253 | 30=>235 | 31=>268 | n=>n,fun | 26=>9 | 28=>159 | 24=>150 | 0=>0 | 3=>3 | 37=>171 | 48=>184 | 50=>79 | 4=>4 | 40=>271 | 39=>270 | 45=>232 | 5=>5 | 9=>9 | 51=>313 | 55=>317 | 57=>342 | 58=>343 | 33=>146 | n=>n,fun | n=>n⟩
theorem Tryz.sorted73:Go.Proofs.SlLaysZ.n6 Tryz.prog Tryz.sorted73_ren:={
 mixed:=by kernel_rfl
 f6:=⟨Tryz.f73.name,by decide,Tryz.func73.trans (congrArg some (by kernel_rfl))⟩
 f8:=⟨Tryz.f127.name,by decide,Tryz.func127.trans (congrArg some (by kernel_rfl))⟩
 f11:=⟨Tryz.f175.name,by decide,Tryz.func175.trans (congrArg some (by kernel_rfl))⟩
 t0:=Tryz.underlying0
 a0:=Tryz.isAgg0
 z0:=Tryz.sizeOf0
 v0:=Tryz.zeroValue0
 t24:=Tryz.underlying150
 a24:=Tryz.isAgg150
 z24:=Tryz.sizeOf150
 v24:=Tryz.zeroValue150
 t26:=Tryz.underlying9
 a26:=Tryz.isAgg9
 z26:=Tryz.sizeOf9
 v26:=Tryz.zeroValue9
 t28:=Tryz.underlying159
 a28:=Tryz.isAgg159
 z28:=Tryz.sizeOf159
 v28:=Tryz.zeroValue159
 i26:=by kernel_rfl }
def Tryz.sort123_ren:Go.Shelf.Ren:=⟨fun | 6=>123 | 8=>125 | 9=>163 | 19=>172 | 20=>173 | 21=>215 | 22=>216 | 23=>217 | 24=>218 | 25=>219 | 26=>220 | 27=>194 | 28=>221 | 29=>222 | 36=>251 | 31=>224 | 32=>225 | 37=>252 | 38=>253 | 39=>235 | 41=>268 | n=>n,fun | 27=>150 | 29=>9 | 3=>3 | 32=>171 | 26=>150 | 0=>0 | 44=>184 | 46=>79 | 4=>4 | 36=>271 | 35=>270 | 41=>232 | 5=>5 | 9=>9 | 53=>313 | 57=>317 | 63=>342 | 64=>343 | n=>n,fun | n=>n⟩
theorem Tryz.sort123:Go.Proofs.SlLaysM.n6 Tryz.prog Tryz.sort123_ren:={
 mixed:=by kernel_rfl
 f6:=⟨Tryz.f123.name,by decide,Tryz.func123.trans (congrArg some (by kernel_rfl))⟩
 f8:=Tryz.func125.trans (congrArg some (by kernel_rfl))
 f9:=⟨Tryz.f163.name,by decide,Tryz.func163.trans (congrArg some (by kernel_rfl))⟩
 f19:=Tryz.func172.trans (congrArg some (by kernel_rfl))
 f20:=Tryz.func173.trans (congrArg some (by kernel_rfl))
 f21:=⟨Tryz.f215.name,by decide,Tryz.func215.trans (congrArg some (by kernel_rfl))⟩
 f22:=⟨Tryz.f216.name,by decide,Tryz.func216.trans (congrArg some (by kernel_rfl))⟩
 f23:=⟨Tryz.f217.name,by decide,Tryz.func217.trans (congrArg some (by kernel_rfl))⟩
 f24:=⟨Tryz.f218.name,by decide,Tryz.func218.trans (congrArg some (by kernel_rfl))⟩
 f25:=⟨Tryz.f219.name,by decide,Tryz.func219.trans (congrArg some (by kernel_rfl))⟩
 f26:=⟨Tryz.f220.name,by decide,Tryz.func220.trans (congrArg some (by kernel_rfl))⟩
 f27:=⟨Tryz.f194.name,by decide,Tryz.func194.trans (congrArg some (by kernel_rfl))⟩
 f28:=⟨Tryz.f221.name,by decide,Tryz.func221.trans (congrArg some (by kernel_rfl))⟩
 f29:=⟨Tryz.f222.name,by decide,Tryz.func222.trans (congrArg some (by kernel_rfl))⟩
 f31:=Tryz.func224.trans (congrArg some (by kernel_rfl))
 f32:=Tryz.func225.trans (congrArg some (by kernel_rfl))
 f36:=⟨Tryz.f251.name,by decide,Tryz.func251.trans (congrArg some (by kernel_rfl))⟩
 f37:=⟨Tryz.f252.name,by decide,Tryz.func252.trans (congrArg some (by kernel_rfl))⟩
 f38:=⟨Tryz.f253.name,by decide,Tryz.func253.trans (congrArg some (by kernel_rfl))⟩
 f39:=⟨Tryz.f235.name,by decide,Tryz.func235.trans (congrArg some (by kernel_rfl))⟩
 f41:=⟨Tryz.f268.name,by decide,Tryz.func268.trans (congrArg some (by kernel_rfl))⟩
 t0:=Tryz.underlying0
 a0:=Tryz.isAgg0
 z0:=Tryz.sizeOf0
 v0:=Tryz.zeroValue0
 t3:=Tryz.underlying3
 a3:=Tryz.isAgg3
 z3:=Tryz.sizeOf3
 v3:=Tryz.zeroValue3
 t4:=Tryz.underlying4
 a4:=Tryz.isAgg4
 z4:=Tryz.sizeOf4
 v4:=Tryz.zeroValue4
 t5:=Tryz.underlying5
 a5:=Tryz.isAgg5
 z5:=Tryz.sizeOf5
 v5:=Tryz.zeroValue5
 t9:=Tryz.underlying9
 a9:=Tryz.isAgg9
 z9:=Tryz.sizeOf9
 v9:=Tryz.zeroValue9
 t26:=Tryz.underlying150
 a26:=Tryz.isAgg150
 z26:=Tryz.sizeOf150
 v26:=Tryz.zeroValue150
 t27:=Tryz.underlying150
 a27:=Tryz.isAgg150
 z27:=Tryz.sizeOf150
 v27:=Tryz.zeroValue150
 t29:=Tryz.underlying9
 a29:=Tryz.isAgg9
 z29:=Tryz.sizeOf9
 v29:=Tryz.zeroValue9
 t32:=Tryz.underlying171
 a32:=Tryz.isAgg171
 z32:=Tryz.sizeOf171
 v32:=Tryz.zeroValue171
 t35:=Tryz.underlying270
 a35:=Tryz.isAgg270
 z35:=Tryz.sizeOf270
 v35:=Tryz.zeroValue270
 t36:=Tryz.underlying271
 a36:=Tryz.isAgg271
 z36:=Tryz.sizeOf271
 v36:=Tryz.zeroValue271
 t41:=Tryz.underlying232
 a41:=Tryz.isAgg232
 z41:=Tryz.sizeOf232
 v41:=Tryz.zeroValue232
 t44:=Tryz.underlying184
 a44:=Tryz.isAgg184
 z44:=Tryz.sizeOf184
 v44:=Tryz.zeroValue184
 t46:=Tryz.underlying79
 a46:=Tryz.isAgg79
 z46:=Tryz.sizeOf79
 v46:=Tryz.zeroValue79
 t53:=Tryz.underlying313
 a53:=Tryz.isAgg313
 z53:=Tryz.sizeOf313
 v53:=Tryz.zeroValue313
 t57:=Tryz.underlying317
 a57:=Tryz.isAgg317
 z57:=Tryz.sizeOf317
 v57:=Tryz.zeroValue317
 t63:=Tryz.underlying342
 a63:=Tryz.isAgg342
 z63:=Tryz.sizeOf342
 v63:=Tryz.zeroValue342
 t64:=Tryz.underlying343
 a64:=Tryz.isAgg343
 z64:=Tryz.sizeOf343
 v64:=Tryz.zeroValue343 }
def Tryz.keys81_ren:Go.Shelf.Ren:=⟨fun | 7=>81 | 10=>138 | n=>n,fun | 23=>124 | 26=>9 | 3=>3 | 28=>159 | 0=>0 | 27=>158 | 33=>146 | 4=>4 | n=>n,fun | n=>n⟩
theorem Tryz.keys81:Go.Proofs.SlLaysZ.n7 Tryz.prog Tryz.keys81_ren:={
 mixed:=by kernel_rfl
 f7:=⟨Tryz.f81.name,by decide,Tryz.func81.trans (congrArg some (by kernel_rfl))⟩
 f10:=⟨Tryz.f138.name,by decide,Tryz.func138.trans (congrArg some (by kernel_rfl))⟩
 t0:=Tryz.underlying0
 a0:=Tryz.isAgg0
 z0:=Tryz.sizeOf0
 v0:=Tryz.zeroValue0
 t4:=Tryz.underlying4
 a4:=Tryz.isAgg4
 z4:=Tryz.sizeOf4
 v4:=Tryz.zeroValue4
 t23:=Tryz.underlying124
 a23:=Tryz.isAgg124
 z23:=Tryz.sizeOf124
 v23:=Tryz.zeroValue124
 t26:=Tryz.underlying9
 a26:=Tryz.isAgg9
 z26:=Tryz.sizeOf9
 v26:=Tryz.zeroValue9
 t27:=Tryz.underlying158
 a27:=Tryz.isAgg158
 z27:=Tryz.sizeOf158
 v27:=Tryz.zeroValue158
 t28:=Tryz.underlying159
 a28:=Tryz.isAgg159
 z28:=Tryz.sizeOf159
 v28:=Tryz.zeroValue159
 t33:=Tryz.underlying146
 a33:=Tryz.isAgg146
 z33:=Tryz.sizeOf146
 v33:=Tryz.zeroValue146 }
open Go.RowKit Go.Maps Go.Sort Go.Shelf
theorem Tryz.sorts73 (m:Nat):AnyZ.SortsIn Tryz.prog Tryz.sorted73_ren Fence.wide m:=
 ⟨fun blk off cap ss W hH hblk hsz=>callsIn_wide.2 (AnyM.slices_Sort_string Tryz.sort123 blk off cap ss W hH hblk hsz),
  fun p cap W=>callsIn_wide.2 (AnyM.slices_Sort_string_none Tryz.sort123 p cap W)⟩
theorem Tryz.maps_Keys_74 (mb:Option Nat) (W:World):CallsIn Fence.wide 5 Tryz.prog 74 #[.map mb] W fun e w'=>e = .returned (.func (.func 128) #[] #[.pointer (some ⟨W.heap.size,0,none⟩)])∧w'=W.alloc (.cells #[.map mb] 125):=
 AnyZ.keys_in Tryz.keys74 Fence.wide 5 trivial rfl mb W
theorem Tryz.slices_Sorted_keys_73_74 {H:Type} (b nn:Nat) (D0:DataW H) (R:Value→Option (DataW H×List MemPlace)) (w:World) (hown:w.ownsMap Tryz.prog 9 R b nn D0) (hmax:Maps.size D0≤maxLen) (hbytes:Maps.size D0*16≤140737488355328) :
  CallsIn Fence.wide 5 Tryz.prog 73 #[.func (.func 128) #[] #[.pointer (some ⟨w.heap.size,0,none⟩)]] (w.alloc (.cells #[.map (some b)] 125)) fun e w'=>∃(v:Value) (ss:List (List UInt8)),e = .returned v∧ss.Perm (strKeys D0)∧
   w'.ownsRow (w.alloc (.cells #[.map (some b)] 125)).heap.size 9 1 v ss.length ((ss.mergeSort (fun x y=>decide (x≤y))).map encStr)∧(v = .slice none 0 0↔ss = [])∧Below (w.alloc (.cells #[.map (some b)] 125)).heap.size (w.alloc (.cells #[.map (some b)] 125)) w':=by
 have hbl:=hown.lt
 have hseq:SeqGives Fence.wide 2 Tryz.prog 128 #[.pointer (some ⟨w.heap.size,0,none⟩)] encStr (fun ss=>ss.Perm (strKeys D0)) (Maps.size D0) (w.alloc (.cells #[.map (some b)] 125)):=
  AnyZ.keys_gives (ρ:=Tryz.keys74_ren) { Tryz.keys74 with } Fence.wide _ trivial rfl (by omega) w.heap.size b nn D0 _ (by simp) (by simp) (by
   obtain ⟨es,clock,hb,Ft,hs,hD⟩:=hown
   exact ⟨es,clock,(Below.heap_alloc _ _ b hbl).trans hb,Ft,hs,hD⟩)
 exact AnyZ.sorted_in Tryz.sorted73 Fence.wide 5 trivial trivial trivial trivial rfl (by omega) (Tryz.sorts73 _) (enters_of Tryz.func123 (by kernel_rfl) rfl) 128 #[.pointer (some ⟨w.heap.size,0,none⟩)] trivial (enters_of Tryz.func128 (by kernel_rfl) rfl) _ _ hmax hbytes _ hseq
theorem Tryz.maps_Keys_81 (mb:Option Nat) (W:World):CallsIn Fence.wide 5 Tryz.prog 81 #[.map mb] W fun e w'=>e = .returned (.func (.func 138) #[] #[.pointer (some ⟨W.heap.size,0,none⟩)])∧w'=W.alloc (.cells #[.map mb] 124):=
 AnyZ.keys_in Tryz.keys81 Fence.wide 5 trivial rfl mb W
theorem Tryz.slices_Sorted_keys_73_81 {H:Type} (b nn:Nat) (D0:DataW H) (R:Value→Option (DataW H×List MemPlace)) (w:World) (hown:w.ownsMap Tryz.prog 9 R b nn D0) (hmax:Maps.size D0≤maxLen) (hbytes:Maps.size D0*16≤140737488355328) :
  CallsIn Fence.wide 5 Tryz.prog 73 #[.func (.func 138) #[] #[.pointer (some ⟨w.heap.size,0,none⟩)]] (w.alloc (.cells #[.map (some b)] 124)) fun e w'=>∃(v:Value) (ss:List (List UInt8)),e = .returned v∧ss.Perm (strKeys D0)∧
   w'.ownsRow (w.alloc (.cells #[.map (some b)] 124)).heap.size 9 1 v ss.length ((ss.mergeSort (fun x y=>decide (x≤y))).map encStr)∧(v = .slice none 0 0↔ss = [])∧Below (w.alloc (.cells #[.map (some b)] 124)).heap.size (w.alloc (.cells #[.map (some b)] 124)) w':=by
 have hbl:=hown.lt
 have hseq:SeqGives Fence.wide 2 Tryz.prog 138 #[.pointer (some ⟨w.heap.size,0,none⟩)] encStr (fun ss=>ss.Perm (strKeys D0)) (Maps.size D0) (w.alloc (.cells #[.map (some b)] 124)):=
  AnyZ.keys_gives (ρ:=Tryz.keys81_ren) { Tryz.keys81 with } Fence.wide _ trivial rfl (by omega) w.heap.size b nn D0 _ (by simp) (by simp) (by
   obtain ⟨es,clock,hb,Ft,hs,hD⟩:=hown
   exact ⟨es,clock,(Below.heap_alloc _ _ b hbl).trans hb,Ft,hs,hD⟩)
 exact AnyZ.sorted_in Tryz.sorted73 Fence.wide 5 trivial trivial trivial trivial rfl (by omega) (Tryz.sorts73 _) (enters_of Tryz.func123 (by kernel_rfl) rfl) 138 #[.pointer (some ⟨w.heap.size,0,none⟩)] trivial (enters_of Tryz.func138 (by kernel_rfl) rfl) _ _ hmax hbytes _ hseq
end Go.Proofs
namespace Go.Proofs.YtefpndiiedkmpaaGreatDoor
section
open Go.RowKit Go.Sort Go.Maps
open Lib renaming hid → Jh
open List renaming length_append → Jd
attribute [local go_sem ↓] Go.wp_at_zero Go.wp_at_succ
attribute [local go_sem] Later.cell
structure Hd where
 A:Option Addr
 n:Nat
 c:Nat
instance:Inhabited Hd:=⟨⟨none,0,0⟩⟩
def encH (h:Hd):List Value:=[.slice h.A h.n h.c]
def Sets (w:World) (A:Option Addr) (n:Nat) (L:List (List Lb)):Prop:=
 ∃hs:List Hd,Elems w w.heap.size 1 encH A n hs∧L.length=n∧∀(i:Nat) (h:Hd),hs[i]? = some h→Elems w w.heap.size 2 encLb h.A h.n L[i]!∧h.n≤h.c
section
variable {w w' : World} {A : Option Addr} {n : Nat} {L : List (List Lb)}
theorem Sets.len (h:Sets w A n L):L.length=n:=by obtain ⟨_,_,h2,_⟩:=h;exact h2
theorem Sets.at_ (h:Sets w A n L) {i:Nat} (hi:i < n):∃b off B m c,A=some ⟨b,off,none⟩∧b < w.heap.size∧w.cell? ⟨b,off+i,none⟩=some (.slice B m c)∧Elems w w.heap.size 2 encLb B m L[i]!∧m≤c:=by
 obtain ⟨hs,h1,h2,h3⟩:=h;obtain ⟨b,off,e,hb,hc⟩:=h1.2 (by omega);have hl:i < hs.length:=by have:=h1.len;omega
 obtain ⟨a1,a2⟩:=h3 i hs[i] (List.getElem?_eq_getElem hl);have:=hc i hs[i] (List.getElem?_eq_getElem hl) 0 _ rfl;exact ⟨b,off,_,_,_,e,hb,by simpa using this,a1,a2⟩
end
def allT (L:List (List Lb)):List Txt:=L.flatMap texts
theorem Ksx (l:List Lb) (L:List (List Lb)):allT (l :: L)=texts l++allT L:=rfl
theorem Kom (L M:List (List Lb)):allT (L++M)=allT L++allT M:=by simp[allT]
theorem Khd (l:List Lb):(texts l).length=2*l.length:=by
 induction l with
 | nil=>rfl
 | cons x l ih=>rw[Khv,List.length_cons,List.length_cons,ih,List.length_cons];omega
theorem Qjl (l m:List Lb):texts (l++m)=texts l++texts m:=by simp[texts]
theorem Qfy {L:List (List Lb)} {i:Nat} (h:i < L.length):(texts L[i]!).length≤(allT L).length:=by
 rw[getElem!_pos L i h];have hL:L=L.take i++L[i] :: L.drop (i+1):=by rw[←List.drop_eq_getElem_cons h,List.take_append_drop]
 have e:allT L=allT (L.take i)++(texts L[i]++allT (L.drop (i+1))):=by
  conv=>lhs;rw[hL]
  rw[Kom,Ksx]
 rw[e,Jd,Jd];omega
theorem Qfz {L:List (List Lb)} {i:Nat} (h:i < L.length):allT (L.take (i+1))=allT (L.take i)++texts L[i]!:=by
 rw[List.take_succ_eq_append_getElem h,Kom,getElem!_pos L i h];simp[allT]
theorem Klf {L:List (List Lb)} (i:Nat):(allT (L.take i)).length≤(allT L).length:=by
 have:allT L=allT (L.take i)++allT (L.drop i):=by rw[←Kom,List.take_append_drop]
 rw[this];simp
theorem Qkb {L:List (List Lb)} {i k:Nat} (h:i < L.length) (hk:k < L[i]!.length):L[i]![k]!.n∈allT L∧L[i]![k]!.v∈allT L:=by
 rw[getElem!_pos L i h] at hk ⊢;rw[getElem!_pos _ k hk];constructor
 ·refine List.mem_flatMap.2 ⟨L[i],List.getElem_mem h,List.mem_flatMap.2 ⟨L[i][k],List.getElem_mem hk,by simp⟩⟩
 ·refine List.mem_flatMap.2 ⟨L[i],List.getElem_mem h,List.mem_flatMap.2 ⟨L[i][k],List.getElem_mem hk,by simp⟩⟩
theorem Qfn {l:List Lb} {k:Nat} (h:k < l.length):texts (l.take (k+1))=texts (l.take k) ++ [l[k]!.n] ++ [l[k]!.v]:=by
 rw[List.take_succ_eq_append_getElem h,Qjl,getElem!_pos l k h];simp[texts]
theorem law5:Keyed Tryz.prog 9:=string_keyed Tryz.underlying9
theorem zero5 (w:World):(zeroValue 3).run Tryz.prog w = .ok (.int .i64 0) w:=by kernel_rfl
def Keu (w:World) (b:Nat) (D:DataW Unit) (l:List Txt):Prop:=w.ownsMap Tryz.prog 9 (plainElem Tryz.prog 3) b l.length D∧∀x:Txt,Maps.has D (.string x)=true↔x∈l
theorem Keu.put {w w':World} {b:Nat} {D:DataW Unit} {l:List Txt} {x:Txt} {d:DataW Unit} (h:Keu w b D l) (hown:w'.ownsMap Tryz.prog 9 (plainElem Tryz.prog 3) b (l.length+1) (D.put (.string x) d)):Keu w' b (D.put (.string x) d) (l ++ [x]):=by
 refine ⟨by rw[Jd];exact hown,fun y=>?_⟩
 by_cases e:y=x
 ·subst e;rw[has_put_same (k:=.string y) (h.1.tidy law5).isMap trivial];simp
 ·rw[has_put_other (by intro h;injection h with h;exact e h),h.2 y];simp[e]
theorem Qln {D:DataW Unit} {w:World} {b n:Nat} {l ss:List Txt} (hown:w.ownsMap Tryz.prog 9 (plainElem Tryz.prog 3) b n D) (hk:∀x:Txt,Maps.has D (.string x)=true↔x∈l) (hp:ss.Perm (strKeys D)):IsTab l (ss.mergeSort fun x y=>decide (x≤y)):=by
 obtain ⟨es,rfl,hpw⟩:=hown.tidy law5;obtain ⟨es',e',hko⟩:=hown.keysOf;injection e' with e';subst e'
 have hstr:∀p∈es,∃x,p.1 = .string x:=fun p hp=>by
  obtain ⟨v,hv⟩:=hko p hp;obtain ⟨x,_,hx,_⟩:=Maps.keyOf_str Tryz.underlying9 hv;exact ⟨x,hx⟩
 have hnd:(strKeys (.map es)).Nodup:=by
  show (es.map fun p=>strOf p.1).Nodup
  refine List.pairwise_map.2 (hpw.imp_of_mem fun {p q} hp' hq' hne e=>hne ?_);obtain ⟨a,ha⟩:=hstr p hp';obtain ⟨b,hb⟩:=hstr q hq';rw[ha,hb] at e ⊢;exact congrArg _ e
 have hmem:∀x,x∈strKeys (.map es)↔x∈l:=by
  intro x;rw[←hk x,has_eq,List.any_eq_true];show x∈es.map (fun p=>strOf p.1)↔_
  rw[List.mem_map];constructor
  ·rintro ⟨p,hp,rfl⟩;obtain ⟨a,ha⟩:=hstr p hp;exact ⟨p,hp,by rw[ha];simp[strOf,Lit.sameKey]⟩
  ·rintro ⟨p,hp,e⟩;obtain ⟨a,ha⟩:=hstr p hp;rw[ha] at e;exact ⟨p,hp,by rw[ha];simpa[strOf,Lit.sameKey] using e⟩
 have hsorted:(ss.mergeSort fun x y=>decide (x≤y)).Pairwise (fun a b=>a≤b):=by
  have:=List.pairwise_mergeSort (le:=fun x y:Txt=>decide (x≤y)) (by intro a b c;simp;exact List.le_trans) (by intro a b;simp;exact List.le_total a b) ss;simpa using this
 have hperm:=(List.mergeSort_perm ss fun x y=>decide (x≤y)).trans hp;have hnd':=(hperm.nodup_iff).2 hnd;refine ⟨?_,fun x=>?_⟩
 ·unfold Asc;refine (hsorted.and hnd').imp ?_;rintro a b ⟨h1,h2⟩;exact Kjc h1 (Ne.symm h2)
 ·rw[←hmem x];exact hperm.mem_iff
theorem Keu.below {w w':World} {b:Nat} {D:DataW Unit} {l:List Txt} (h:Keu w b D l) (hb:Below w.heap.size w w'):Keu w' b D l:=
 ⟨h.1.kept (row:=none) ⟨hb.os,hb.tape,hb.output,hb.size,fun k hk _=>hb.block k hk⟩ (by simp),h.2⟩
theorem Ksz {w w0 w':World} {B b:Nat} (h:Below B w w0) (hg:w0.grownBy w' (some b)) (hb:B≤b) (hB:B≤w0.heap.size):Below B w w':=
 h.trans ⟨hg.os,hg.tape,hg.output,hg.size,fun k hk=>hg.block k (by omega) (fun e=>by injection e with e;omega)⟩
theorem Kuw (L:List (List Lb)) (A:Option Addr) (n c:Nat) (w:World) (hS:Sets w A n L) (hn:n≤1099511627776) (hall:(allT L).length≤1099511627776) (hz:∀x∈allT L,x.length≤1099511627776) :
  Calls Tryz.prog 27 #[.slice A n c] w (OfOut w (allT L)):=by
 have hmm:=@run_makeMap Tryz.prog;have hL:=hS.len;have HL:=Jh hL;have HZ:=Jh hz;clear hL hz;go_enter Tryz.func27,Tryz.ntmps27
 go_upto_block 0 with fail
 go_cut [3] (fun s3 wz=>∃D,s3 = .map (some w.heap.size)∧Keu wz w.heap.size D (allT L)∧Below w.heap.size w wz)
 case first=>
  go_wp2_with fail
  go_loopg [11] n (fun g s11 wr=>∃(i:Nat) (D:DataW Unit),i+g=n∧s11 = .int .i64 (i:Int)∧Keu wr w.heap.size D (allT (L.take i))∧Below w.heap.size w wr)
  case atStart=>exact ⟨0,_,by omega,rfl,⟨World.ownsMap_made _ _ _ _,fun x=>by simp[allT,Maps.has]⟩,(Below.refl _ _).alloc (Nat.le_refl _) _⟩
  case round=>
   obtain ⟨i,D,hig,rfl,hkm,hB⟩:=hrel;have HIG:=Jh hig;clear hig
   by_cases hi:i < n
   ·have el:decide ((i:Int) < (n:Int))=true:=by simp;omega
    have el':decide (i < n)=true:=by simp;omega
    have hiL:i < L.length:=by have:=HL.out;omega
    obtain ⟨b,off,C,m,d,rfl,hbl,hcell,hE,hmd⟩:=hS.at_ hi;have hcr:=(hB.cell (p:=⟨b,off+i,none⟩) hbl).trans hcell;have htl:=Klf (L:=L) i;have htk:=Qfz hiL;have hpart:=Qfy hiL;have hmem:=fun k hk=>Qkb (L:=L) (i:=i) (k:=k) hiL hk
    obtain ⟨l,hl⟩:∃l,L[i]! = l:=⟨_,rfl⟩;rw[hl] at hE htk hpart hmem;have hll:=hE.len;rw[Khd,hll] at hpart
    have hsum:(allT (L.take i)).length+2*m≤1099511627776:=by
     have h1:=Klf (L:=L) (i+1);rw[htk,Jd,Khd,hll] at h1;omega
    obtain ⟨T,hT⟩:∃T,allT (L.take i)=T:=⟨_,rfl⟩;rw[hT] at hkm htk hsum;have HTK:=Jh htk;have HLL:=Jh hll;have HMEM:=Jh hmem;clear hcell htl htk hmem hl hll hT hiL;go_upto_block 1 with fail
    go_cut [] (fun wz=>∃D,Keu wz w.heap.size D (T++texts l)∧Below w.heap.size w wz)
    case first=>
     go_wp2_with fail
     go_loopg [17] m (fun g s17 wz=>∃(k:Nat) (D:DataW Unit),k+g=m∧s17 = .int .i64 (k:Int)∧Keu wz w.heap.size D (T++texts (l.take k))∧Below w.heap.size w wz)
     case atStart=>exact ⟨0,D,by omega,rfl,by simpa[texts] using hkm,hB⟩
     case round=>
      obtain ⟨k,D,hkg,rfl,hkm,hB⟩:=hrel;have HKG:=Jh hkg;clear hkg
      by_cases hk:k < m
      ·have ek:decide ((k:Int) < (m:Int))=true:=by simp;omega
       have ek':decide (k < m)=true:=by simp;omega
       have hkl:k < l.length:=by have:=HLL.out;omega
       obtain ⟨bb,oo,rfl,_,_⟩:=hE.2 (by omega);obtain ⟨hbl2,c0,c1⟩:=Kdi hE (by omega) hB k hkl;obtain ⟨hm1,hm2⟩:=HMEM.out k hkl;have z1:=HZ.out _ hm1;have z2:=HZ.out _ hm2;have htk:=Qfn hkl;obtain ⟨x,hx⟩:∃x,l[k]! = x:=⟨_,rfl⟩;rw[hx] at c0 c1 z1 z2 htk;obtain ⟨N,hN⟩:∃N:ByteArray,(⟨x.n.toArray⟩:ByteArray)=N:=⟨_,rfl⟩;obtain ⟨V,hV⟩:∃N:ByteArray,(⟨x.v.toArray⟩:ByteArray)=N:=⟨_,rfl⟩;rw[hN] at c0;rw[hV] at c1;have hNn:N.data.toList=x.n:=by rw[←hN]
       have hVv:V.data.toList=x.v:=by rw[←hV]
       have hNz:N.size≤maxLen:=by rw[←Kaj,hNn];unfold maxLen;omega
       have hVz:V.size≤maxLen:=by rw[←Kaj,hVv];unfold maxLen;omega
       have kN:=Go.WideMaps.keyOf_string_mk (P:=Tryz.prog) Tryz.underlying9 hNz;have kV:=Go.WideMaps.keyOf_string_mk (P:=Tryz.prog) Tryz.underlying9 hVz;rw[hNn] at kN;rw[hVv] at kV
       have hUl:(T++texts (l.take k)).length+2≤1099511627776:=by
        rw[Jd,Khd,List.length_take];omega
       obtain ⟨U,hU⟩:∃U,T++texts (l.take k)=U:=⟨_,rfl⟩;have hnext:T++texts (l.take (k+1))=U ++ [x.n] ++ [x.v]:=by rw[htk,←hU];simp
       rw[hU] at hkm hUl;have HNEXT:=Jh hnext;have KN:=Jh kN;have KV:=Jh kV;clear hx hN hV hNn hVv hNz hVz kN kV hU hnext htk hm1 hm2 z1 z2;go_upto_region 8 with fail
       have hB1:Below w.heap.size w (wr.alloc (.cells #[.string N,.string V] 106)):=hB.alloc hB.size _;have hq:Blk (wr.alloc (.cells #[.string N,.string V] 106)) wr.heap.size 106 #[.string N,.string V]:=Blk.new _ _ _;have hkm1:Keu (wr.alloc (.cells #[.string N,.string V] 106)) w.heap.size D U:=hkm.below ((Below.refl _ _).alloc (Nat.le_refl _) _);have hqne:w.heap.size≠wr.heap.size:=by have:=hkm.1.lt;omega
       obtain ⟨v1,hv1⟩:∃w1,wr.alloc (.cells #[.string N,.string V] 106)=w1:=⟨_,rfl⟩;obtain ⟨q,hqq⟩:∃p,wr.heap.size=p:=⟨_,rfl⟩;rw[hv1] at hB1 hq hkm1 ⊢;rw[hqq] at hq hqne ⊢;clear hv1 hqq c0 c1 hB hkm;have q0:_=some (Value.string N):=hq.cell 0;have q1:_=some (Value.string V):=hq.cell 1;go_wp2_with (at_lookup;refine wpList_lookup_own_int _ rfl _ _ 124 rfl 9 3 .i64 law5 Tryz.underlying124 Tryz.underlying3 (zero5 _) w.heap.size U.length D rfl hkm1.1 _ _ rfl KN.out ?_)
       intro cn _ hwc;go_wp2_with (at_mapUpdate;refine wpList_mapUpdate_own _ rfl _ _ _ 124 rfl 9 3 law5 Tryz.underlying124 _ w.heap.size U.length D rfl hkm1.1 (by unfold maxLen;omega) _ _ _ rfl rfl KN.out _ [] (plainElem_int Tryz.underlying3 (wrap64_wf _)) ?_)
       intro v2 hown2 hgrow2;have hkm2:=hkm1.put hown2;have hq2:=hq.grown hgrow2 (by simpa using Ne.symm hqne);have hB2:=Ksz hB1 hgrow2 (Nat.le_refl _) hB1.size;have q1':_=some (Value.string V):=hq2.cell 1;clear hown2 hgrow2 hkm1 q0 q1 hq hB1;go_wp2_with (at_lookup;refine wpList_lookup_own_int _ rfl _ _ 124 rfl 9 3 .i64 law5 Tryz.underlying124 Tryz.underlying3 (zero5 _) w.heap.size (U ++ [x.n]).length _ rfl hkm2.1 _ _ rfl KV.out ?_)
       intro cv _ hwv;go_wp2_with (at_mapUpdate;refine wpList_mapUpdate_own _ rfl _ _ _ 124 rfl 9 3 law5 Tryz.underlying124 _ w.heap.size (U ++ [x.n]).length _ rfl hkm2.1 (by unfold maxLen;simp;omega) _ _ _ rfl rfl KV.out _ [] (plainElem_int Tryz.underlying3 (wrap64_wf _)) ?_)
       intro v3 hown3 hgrow3;have hkm3:=hkm2.put (by rw[Jd];exact hown3);have hB3:=Ksz hB2 hgrow3 (Nat.le_refl _) hB2.size;clear hown3 hgrow3 hkm2 q1' hq2 hB2;go_wp2_with fail
       go_roundg (gk - 1)
       case measure=>have:=HKG.out;omega
       case rel=>exact ⟨k+1,_,by have:=HKG.out;omega,by go_num,by rw[HNEXT.out];exact hkm3,hB3⟩
      ·have ek:decide ((k:Int) < (m:Int))=false:=by simp;omega
       have ek':decide (k < m)=false:=by simp;omega
       have htk:l.take k=l:=List.take_of_length_le (by have:=HLL.out;omega);rw[htk] at hkm;clear htk;go_wp2_with fail
       go_meet
       exact ⟨D,hkm,hB⟩
    case rest=>
     obtain ⟨D',hkm',hB'⟩:=hcut;obtain ⟨wx,rfl⟩:∃x,x=wc:=⟨_,rfl⟩;go_wp2_with fail
     go_roundg (gk - 1)
     case measure=>have:=HIG.out;omega
     case rel=>exact ⟨i+1,D',by have:=HIG.out;omega,by go_num,by rw[HTK.out];exact hkm',hB'⟩
   ·have el:decide ((i:Int) < (n:Int))=false:=by simp;omega
    have el':decide (i < n)=false:=by simp;omega
    have htk:L.take i=L:=List.take_of_length_le (by have:=HL.out;omega);rw[htk] at hkm;clear htk;go_wp2_with fail
    go_meet
    exact ⟨D,rfl,hkm,hB⟩
 case rest=>
  obtain ⟨D,rfl,hkm,hB⟩:=hcut;obtain ⟨w1,rfl⟩:∃x,x=wc:=⟨_,rfl⟩;have hkeys:=callsIn_wide.1 (Tryz.maps_Keys_81 (some w.heap.size) w1)
  have hsz:Maps.size D≤1099511627776:=by
   obtain ⟨es,clock,_,_,hs,hD⟩:=hkm.1;rw[hD,size_eq,length_sorted,List.length_map,Array.length_toList];omega
  have hsorted:=callsIn_wide.1 (Tryz.slices_Sorted_keys_73_81 w.heap.size (allT L).length D _ w1 hkm.1 (by unfold maxLen;omega) (by omega));have HK:=Jh hkeys;have HSO:=Jh hsorted;clear hkeys hsorted;go_wp2_with fail
  refine HK.out.mono ?_;rintro e w2 ⟨rfl,rfl⟩;go_wp2_with fail
  refine HSO.out.mono ?_;rintro e w3 ⟨v,ss,rfl,hP,hrow,_,hb3⟩;have htab:=Qln hkm.1 hkm.2 hP;have hB2:Below w.heap.size w (w1.alloc (.cells #[.map (some w.heap.size)] 124)):=hB.alloc hB.size _;have hB3:=then_ hB2 hb3
  have hlen:(ss.mergeSort fun x y=>decide (x≤y)).length≤(allT L).length:=by
   rw[List.length_mergeSort,hP.length_eq];obtain ⟨es,clock,_,_,hs,hD⟩:=hkm.1;rw[hD];show (List.map _ _).length≤_
   rw[List.length_map,length_sorted,List.length_map,Array.length_toList];exact hs
  have hml:(ss.mergeSort fun x y=>decide (x≤y)).length=ss.length:=List.length_mergeSort _;obtain ⟨z,hz⟩:∃z,ss.mergeSort (fun x y=>decide (x≤y))=z:=⟨_,rfl⟩;rw[hz] at htab hlen hml hrow;rw[←hml] at hrow;obtain ⟨A',c',rfl,hs3,_,hc3⟩:=Strs.of_own hrow rfl;obtain ⟨q,hq⟩:∃m,z.length=m:=⟨_,rfl⟩;rw[hq] at hs3 hc3 ⊢;have HLEN:=Jh hlen;clear hz hml hrow hkm hB hb3 hB2 hP hsz hq hlen;go_wp2_with fail
  go_ret
  exact ⟨_,z,rfl,⟨_,q,c',.inr ⟨_,rfl,Blk.new _ _ _⟩,hs3.below ((Below.refl _ _).alloc (Nat.le_refl _) _),hc3⟩,htab,HLEN.out,hB3.alloc hB3.size _,hB3.size⟩
end
section
structure Wnd where
 start:Int
 count:Int
 sum:Nat
 min:Nat
 max:Nat
 last:Nat
def wnd0:Wnd:=⟨0,0,0,0,0,0⟩
def ruAt (s:List UInt8) (i:Nat):Option (Nat×Nat):=match readU (s.drop i) with
 | .ok (v,k)=>some (v,i+k)
 | .error _=>none
theorem ru_of {s r:List UInt8} {i v:Nat} (hv:v < 2 ^ 64) (h:s.drop i=uintT v++r):ruAt s i=some (v,i+(uintT v).length)∧s.drop (i+(uintT v).length)=r:=by
 refine ⟨?_,?_⟩
 ·unfold ruAt;rw[h,Kfd hv]
 ·rw[←List.drop_drop,h,List.drop_left]
def cmpL:List Lb→List Lb→Int
 | [],[]=>0
 | [],_ :: _=>-1
 | _ :: _,[]=>1
 | x :: a,y :: b=>if x.n < y.n then -1 else if y.n < x.n then 1 else if x.v < y.v then -1 else if y.v < x.v then 1 else cmpL a b
theorem Kgm {a b:Txt} (h1:¬a < b) (h2:¬b < a):a=b:=List.le_antisymm (List.not_lt.1 h2) (List.not_lt.1 h1)
theorem Kiu:∀a:List Lb,cmpL a a=0
 | []=>rfl
 | x :: a=>by
  have h1:¬x.n < x.n:=List.lt_irrefl _;have h2:¬x.v < x.v:=List.lt_irrefl _;rw[cmpL,if_neg h1,if_neg h1,if_neg h2,if_neg h2,Kiu a]
theorem Kgs:∀{a b:List Lb},cmpL a b=0→a=b
 | [],[],_=>rfl
 | [],_ :: _,h=>by simp[cmpL] at h
 | _ :: _,[],h=>by simp[cmpL] at h
 | x :: a,y :: b,h=>by
  rw[cmpL] at h
  split at h
  ·simp at h
  ·rename_i h1
   split at h
   ·simp at h
   ·rename_i h2
    split at h
    ·simp at h
    ·rename_i h3
     split at h
     ·simp at h
     ·rename_i h4
      have e1:=Kgm h1 h2;have e2:=Kgm h3 h4;rw[Kgs h];cases x;cases y
      simp_all
theorem Kfq:∀a b:List Lb,cmpL a b = -cmpL b a
 | [],[]=>rfl
 | [],_ :: _=>rfl
 | _ :: _,[]=>rfl
 | x :: a,y :: b=>by
  rw[cmpL,cmpL]
  by_cases h1:x.n < y.n
  ·have h2:¬y.n < x.n:=List.lt_asymm h1;rw[if_pos h1,if_neg h2,if_pos h1]
  ·rw[if_neg h1]
   by_cases h2:y.n < x.n
   ·rw[if_pos h2,if_pos h2];rfl
   ·rw[if_neg h2,if_neg h2,if_neg h1]
    by_cases h3:x.v < y.v
    ·have h4:¬y.v < x.v:=List.lt_asymm h3;rw[if_pos h3,if_neg h4,if_pos h3]
    ·rw[if_neg h3]
     by_cases h4:y.v < x.v
     ·rw[if_pos h4,if_pos h4];rfl
     ·rw[if_neg h4,if_neg h4,if_neg h3,Kfq a b]
def ltB (x y:Lb):Prop:=x.n < y.n∨(x.n=y.n∧x.v < y.v)
theorem Qhy {x y z:Lb} (h1:ltB x y) (h2:ltB y z):ltB x z:=by
 rcases h1 with h1 | ⟨e1,h1⟩
 ·rcases h2 with h2 | ⟨e2,_⟩
  ·exact .inl (List.lt_trans h1 h2)
  ·exact .inl (e2▸h1)
 ·rcases h2 with h2 | ⟨e2,h2⟩
  ·exact .inl (e1▸h2)
  ·exact .inr ⟨e1.trans e2,List.lt_trans h1 h2⟩
theorem Qkk {x y:Lb} {a b:List Lb}:cmpL (x :: a) (y :: b) < 0↔ltB x y∨(x=y∧cmpL a b < 0):=by
 rw[cmpL];unfold ltB
 by_cases h1:x.n < y.n
 ·rw[if_pos h1];exact ⟨fun _=>.inl (.inl h1),fun _=>by decide⟩
 ·rw[if_neg h1]
  by_cases h2:y.n < x.n
  ·rw[if_pos h2];refine ⟨fun h=>by simp at h,?_⟩;rintro ((h | ⟨e,_⟩) | ⟨e,_⟩)
   ·exact absurd h h1
   ·rw[e] at h2;exact absurd h2 (List.lt_irrefl _)
   ·rw[e] at h2;exact absurd h2 (List.lt_irrefl _)
  ·rw[if_neg h2];have en:=Kgm h1 h2
   by_cases h3:x.v < y.v
   ·rw[if_pos h3];exact ⟨fun _=>.inl (.inr ⟨en,h3⟩),fun _=>by decide⟩
   ·rw[if_neg h3]
    by_cases h4:y.v < x.v
    ·rw[if_pos h4];refine ⟨fun h=>by simp at h,?_⟩;rintro ((h | ⟨_,h⟩) | ⟨e,_⟩)
     ·exact absurd h h1
     ·exact absurd h h3
     ·rw[e] at h4;exact absurd h4 (List.lt_irrefl _)
    ·rw[if_neg h4];have ev:=Kgm h3 h4;have exy:x=y:=by cases x;cases y;simp_all
     constructor
     ·exact fun h=>.inr ⟨exy,h⟩
     ·rintro ((h | ⟨_,h⟩) | ⟨_,h⟩)
      ·exact absurd h h1
      ·exact absurd h h3
      ·exact h
theorem Khl:∀{a b c:List Lb},cmpL a b < 0→cmpL b c < 0→cmpL a c < 0
 | [],[],_,h,_=>by simp[cmpL] at h
 | [],_ :: _,[],_,h=>by simp[cmpL] at h
 | [],_ :: _,_ :: _,_,_=>by simp[cmpL]
 | _ :: _,[],_,h,_=>by simp[cmpL] at h
 | _ :: _,_ :: _,[],_,h=>by simp[cmpL] at h
 | x :: a,y :: b,z :: c,h1,h2=>by
  rw[Qkk] at h1 h2 ⊢;rcases h1 with h1 | ⟨e1,h1⟩
  ·rcases h2 with h2 | ⟨e2,_⟩
   ·exact .inl (Qhy h1 h2)
   ·exact .inl (e2▸h1)
  ·rcases h2 with h2 | ⟨e2,h2⟩
   ·exact .inl (e1▸h2)
   ·exact .inr ⟨e1.trans e2,Khl h1 h2⟩
structure Ser where
 labels:List Lb
 samples:List Smp
 windows:List Wnd
structure Cont where
 res:Int
 frm:Int
 to_:Int
 series:List Ser
end
section
open Go.RowKit
def Kcb (x:Smp):List Value:=[.int .i64 x.t,.int .u64 (x.v:Int)]
instance smpIn:Inhabited Smp:=⟨⟨0,0⟩⟩
instance wndIn:Inhabited Wnd:=⟨wnd0⟩
instance serIn:Inhabited Ser:=⟨⟨[],[],[]⟩⟩
structure Hd3 where
 l:Hd
 s:Hd
 w:Hd
instance hd3In:Inhabited Hd3:=⟨⟨default,default,default⟩⟩
section
variable {w w' : World} {A : Option Addr} {n : Nat} {L : List Ser}
end
end
section
open Go.RowKit
attribute [local go_sem ↓] Go.wp_at_zero Go.wp_at_succ
attribute [local go_sem] Later.cell
theorem Qma {w:World} {B n:Nat} {v:Value} {s:List UInt8} (h:w.ownsRow B 5 1 v n (Lib.byteCells s)) (hn:s.length=n):(convert 72 9 v).run Tryz.prog w = .ok (.string ⟨s.toArray⟩) w:=by
 subst hn
 by_cases h0:s = []
 ·subst h0;rcases h.2 with ⟨rfl,_⟩ | ⟨g',cap,cur,rfl,_⟩
  ·kernel_rfl
  ·kernel_rfl
 ·obtain ⟨a,cap,rfl,hc⟩:=Kol.text (l:=s) h h0;exact hc
theorem Kzt (B b:Nat) (T:TypeId) (rest:List Value) (l:List Bool) (w:World) (h:WrAt B b T rest l w) :
  Calls Tryz.prog 151 #[.pointer (some ⟨b,0,none⟩)] w fun e w'=>e = .returned (.string ⟨(packB l).toArray⟩)∧w=w':=by
 obtain ⟨h0,v,h1,h2,h3⟩:=h;have hc:=Qma h2 (Kfo l).len;have c0:w.cell? ⟨b,0,none⟩=some v:=h1.cell 0;obtain ⟨S,hS⟩:∃S:ByteArray,(⟨(packB l).toArray⟩:ByteArray)=S:=⟨_,rfl⟩;rw[hS] at hc ⊢;clear h1 h2 h3 hS;go_enter Tryz.func151,Tryz.ntmps151
 go_wp2_with fail
 go_ret
 exact ⟨rfl,rfl⟩
theorem Kzy (B b:Nat) (c:Cst) (l:List Bool) (w:World) (h:ChAt B b c l w) (hn:c.n≤120) (hlen:l.length≤2000000) (hB:B≤w.heap.size) :
  Calls Tryz.prog 91 #[.pointer (some ⟨b,0,none⟩)] w fun e w'=>e = .returned (.string ⟨(uintT c.n++packB l).toArray⟩)∧Below w.heap.size w w':=by
 have c2:=h.cells.1;have hbl:=h.lt;have H:=Lib.hid h;obtain ⟨n,hn2⟩:∃n,c.n=n:=⟨_,rfl⟩;rw[hn2] at c2 hn ⊢;clear h hn2;have hu:=fun w=>Kcx n (by omega) w
 obtain ⟨U,hU⟩:∃U:ByteArray,(⟨(uintT n).toArray⟩:ByteArray)=U:=⟨_,rfl⟩;obtain ⟨V,hV⟩:∃V:ByteArray,(⟨(packB l).toArray⟩:ByteArray)=V:=⟨_,rfl⟩;have hUz:U.size≤11:=by rw[←hU];simp only[ByteArray.size,List.size_toArray];exact (Kam n).2
 have hVz:V.size≤2000000:=by rw[←hV];simp only[ByteArray.size,List.size_toArray];rw[(Kfo l).len];omega
 have hUV:U++V=(⟨(uintT n++packB l).toArray⟩:ByteArray):=by rw[←hU,←hV];apply ByteArray.ext;simp[ByteArray.data_append]
 have HW:=Lib.hid (fun (w':World) (hb:Below w.heap.size w w')=>Kzt B b _ _ l w' (H.out.far hb));simp only[hU] at hu;rw[hV] at HW;have HU:=Lib.hid hu;have HUV:=Lib.hid hUV;clear hu hU hV hUV;go_enter Tryz.func91,Tryz.ntmps91
 go_upto_region 3 with fail
 refine Kab (by kernel_rfl) (by kernel_rfl) ?_
 repeat (go_big_quiet_step ((first | (go_at_call 31;exact Kbe _ (HU.out _)) | (go_at_call 151;exact Kqs _ (HW.out _ (Later.h _))))))
 refine wpQuiet_nil ?_;rintro w2 ⟨⟨_,hb2⟩,rfl⟩;go_wp2_with fail
 go_ret
 rw[HUV.out];exact ⟨rfl,hb2⟩
end
end Go.Proofs.YtefpndiiedkmpaaGreatDoor
