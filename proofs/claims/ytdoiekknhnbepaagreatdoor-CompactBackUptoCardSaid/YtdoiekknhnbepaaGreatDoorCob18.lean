/- Merged (what the claim wants of): BlkSize3, BlkLawA, OpenS, OpenBulk, OpenSym, OpenLab, OpenSets, BlkOpenC, BlkLawB, Compact, CompactS, CompactP, CSplit, CmpOpen. -/
import Derived.Test.YtdoiekknhnbepaaGreatDoorCob17
import Derived.Test.YtdoiekknhnbepaaGreatDoorRows
import Derived.ProofKit
import Derived.SizedLaws
import Derived.OpenShut
import Derived.ChangeMaps5
import Derived.Test.YtdoiekknhnbepaaGreatDoorCob01
import Derived.Deep.Slices
import Derived.Test.YtdoiekknhnbepaaGreatDoorCob02
import Derived.Test.YtdoiekknhnbepaaGreatDoorCob16
import Derived.Test.YtdoiekknhnbepaaGreatDoorCob14
import Derived.Test.YtdoiekknhnbepaaGreatDoorCob05
import Derived.Test.YtdoiekknhnbepaaGreatDoorCob15
set_option linter.unusedVariables false
set_option linter.unusedSimpArgs false
set_option maxRecDepth 100000
set_option maxHeartbeats 8000000
namespace Go.Proofs.YtdoiekknhnbepaaGreatDoor
section
open Go.RowKit
open List renaming length_append → Jd
def labsS (S:List (List Lb)):Nat:=(S.map List.length).sum
def labsN (l:List Ser):Nat:=(l.map fun s=>s.labels.length).sum
theorem Kyd (c:Cont):labsS (Kap c)=labsN c.series:=by
 unfold labsS labsN Kap;rw[List.map_map];rfl
theorem Kph:∀S:List (List Lb),(allS S).length=2*labsS S
 | []=>rfl
 | l :: S=>by
  have h2:=Kph S;have h3:=Kgb l;unfold allS labsS at *;rw[List.flatMap_cons,Jd,List.map_cons,List.sum_cons];omega
theorem Kud {S:List (List Lb)} (h:Kfv S):(tabT (tabOf S)).length≤11+150*labsS S:=by
 have h1:(tabOf S).length≤2*labsS S:=by
  refine Nat.le_trans (Kjp _) ?_;rw[List.length_mergeSort,Kph];exact Nat.le_refl _
 have h3:=Kfr 64 (tabOf S) (Kny h).2;have h4:=(Kab (tabOf S).length).2;unfold tabT;rw[Jd];omega
theorem Ksl (S:List (List Lb)):S.flatten.length=labsS S:=by
 unfold labsS;rw[List.length_flatten]
theorem Kve (S:List (List Lb)):(keysOf S).length≤labsS S:=by
 have h1:∀l:List Lb,(l.foldr insK []).length≤l.length:=by
  intro l
  induction l with
  | nil=>exact Nat.le_refl _
  | cons y l ih=>rw[List.foldr_cons,List.length_cons];exact Nat.le_trans (Kmd y _) (by omega)
 rw[←Ksl];exact h1 _
theorem Kye (T:List (List Lb)) (l:List Lb):labsS (T ++ [l])=labsS T+l.length:=by
 unfold labsS;rw[List.map_append,List.sum_append,List.map_cons,List.map_nil,List.sum_cons,List.sum_nil];omega
theorem Kyz (K:List Lb) (hK:K.Nodup):∀(n:Nat) (S:List (List Lb)),S.length=n→(K.map fun x=>(Kao S x).length).sum≤labsS S:=by
 intro n
 induction n with
 | zero=>
  intro S h;have h0:S = []:=List.eq_nil_of_length_eq_zero h;subst h0
  have:∀K:List Lb,(K.map fun x=>(Kao [] x).length).sum=0:=by
   intro K
   induction K with
   | nil=>rfl
   | cons y K ih=>rw[List.map_cons,List.sum_cons,ih];rfl
  rw[this];exact Nat.zero_le _
 | succ n ih=>
  intro S h;have hne:S≠[]:=by intro e;rw[e] at h;cases h
  obtain ⟨T,l,rfl⟩:∃T l,S=T ++ [l]:=⟨S.dropLast,S.getLast hne,(List.dropLast_concat_getLast hne).symm⟩;have h1:=ih T (by rw[Jd,List.length_singleton] at h;omega);have h3:=Kmb l K hK
  have e:∀K:List Lb,(K.map fun x=>(Kao (T ++ [l]) x).length).sum=(K.map fun x=>(Kao T x).length).sum+(K.filter fun x=>decide (x∈l)).length:=by
   intro K
   induction K with
   | nil=>rfl
   | cons y K ih=>
    rw[List.map_cons,List.sum_cons,List.map_cons,List.sum_cons,ih,Kgz,List.filter_cons]
    by_cases hy:y∈l
    ·rw[if_pos hy,if_pos (decide_eq_true hy),Jd,List.length_cons];simp;omega
    ·rw[if_neg hy,if_neg (by simpa using hy)];omega
  rw[e,Kye];omega
theorem Kvi {S:List (List Lb)} (h:Kfv S):(Kcv S).length≤11+140*labsS S:=by
 have h1:=(Kab (keysOf S).length).2;have h2:=Kve S;have h3:=Kyz (keysOf S) ((Keu S).1.imp fun hab e=>by subst e;exact Kef _ hab) S.length S rfl
 have h4:∀K:List Lb,(∀x∈K,x.n.length≤32∧x.v.length≤64)→(K.flatMap (keyT S)).length≤129*K.length+11*(K.map fun x=>(Kao S x).length).sum:=by
  intro K
  induction K with
  | nil=>intro _;simp
  | cons y K ih=>
   intro hk;have k1:=Kst S y (hk y (by simp));have k2:=ih (fun x hx=>hk x (by simp[hx]));rw[List.flatMap_cons,Jd,List.length_cons,List.map_cons,List.sum_cons];omega
 have h5:=h4 (keysOf S) (Kjz h);unfold Kcv;rw[Jd];omega
theorem Qbj (t:List Txt) (s:Ser):(serT t s).length≤33+22*s.labels.length+11*s.samples.length:=by
 unfold serT;rw[Jd,Jd];have h1:=Qbf t s.labels;have h2:=(Kab (Kbf s).length).2;have h3:=Ktf (Kbf s);have h4:=Kll s;omega
theorem Kns (t:List Txt):∀l:List Ser,(l.flatMap (serT t)).length≤33*l.length+22*labsN l+11*smpsN l
 | []=>by simp[smpsN,labsN]
 | s :: l=>by
  have h1:=Qbj t s;have h2:=Kns t l;simp only[smpsN,labsN,List.map_cons,List.sum_cons,List.flatMap_cons,Jd,List.length_cons] at *;omega
theorem Kxy {c:Cont} (h:fitB c=true):(Kcj c).length≤33+312*labsN c.series+33*c.series.length+11*smpsN c.series:=by
 have hs:=Kql h;have h1:=Kud hs;have h2:=(Kab c.series.length).2;have h3:=Kns (tabOf (Kap c)) c.series;have h4:=Kvi hs;rw[Kyd] at h1 h4;unfold Kcj;simp only[Jd];omega
theorem Kuz {c:Cont} (h:fitB c=true) (hn:c.series.length≤1048576) (hm:smpsN c.series+wndsN c.series≤1048576) (hk:labsN c.series≤349525):(sealT (metaB c)).length≤200000000∧(sealT (Kdc c)).length≤200000000∧(sealT (Kcj c)).length≤200000000:=by
 have h1:=Kzz h;have h2:=Kxy h
 have h3:∀l:List UInt8,(sealT l).length=l.length+4:=fun l=>by
  unfold sealT;rw[Jd];rfl
 rw[h3,h3,h3];omega
end
section
open Go.RowKit
attribute [local go_sem ↓] Go.wp_at_zero Go.wp_at_succ
attribute [local go_sem] Later.cell
structure BEnv (w:World):Prop where
 n:Kdx w
 d:DbTab w
theorem BEnv.below {w w':World} (h:BEnv w) (hb:Below w.heap.size w w'):BEnv w':=⟨h.n.below h.n.lt hb,h.d.below hb⟩
theorem Ktt {c:Cont} (h:fitB c=true) (hn:c.series.length≤1048576) (hm:smpsN c.series+wndsN c.series≤1048576) (hk:labsN c.series≤349525):(Kex c).mt.length≤200000000∧(Kex c).ck.length≤200000000∧(Kex c).ix.length≤200000000:=Kuz h hn hm hk
theorem Kzm (c:Cont) (hd:Hd) (w:World) (hS:Kdp w hd.A hd.n c.series) (hE:BEnv w) (hsz:fitB c=true→(Kdc c).length≤35184372088832∧(Kcj c).length≤35184372088832) :
  Calls Tryz.prog 19 #[contV c.res c.frm c.to_ hd] w fun e w'=>e = .returned (.tuple #[filV (Kdh c),.int .i64 (if fitB c=true then 0 else 190)])∧Below w.heap.size w w':=
 Kul c hd w hS.s hS.z (by have h1:c.series.length=hd.n:=hS.s.len;have:=hS.n;omega) hE.d hE.n hsz
end
section
open Go.ChangeShapes Go.WideShapes Go.ChangeAt Go.RowKit
theorem Tryz.own:ownKnob Tryz.prog.godebug=none:=by kernel_rfl
theorem Tryz.laidOut:laidOutB Tryz.prog=true:=by kernel_rfl
end
section
open Go.ChangeShapes Go.WideShapes Go.ChangeAt Go.RowKit Go.Deep
section
variable {H : Type} {enc : TypeId × Value → H} {P : Program} {w : World} {base : Nat} {spare : Nat → Bool} {held : Bool}
theorem Khl {α : Type} [Inhabited α] {t e:TypeId} {sz:Nat} {ea:α→List Value} {Q:DataW H→α→Prop} (ht:P.underlying t=some (.slice e)) (hc:P.cellsOf e=sz) (h0:0 < sz) (hz:∀y,(ea y).length=sz)
  (ho:∀(fuel:Nat) (l:List Value) (x:DataW H×List MemPlace),DataW.trod enc P w base spare held fuel e l=some x→∃y,l=ea y∧Q x.1 y)
  {fuel:Nat} {v:Value} {x:DataW H×List MemPlace} (h:DataW.trod enc P w base spare held fuel t [v]=some x) :
  ∃A n c ys,v = .slice A n c∧(A=none→c=0)∧n≤c∧Elems w w.heap.size sz ea A n ys∧∃ds sp,(x.1 = .slice ds sp∨(x.1 = .nil∧ds = []))∧ds.length=ys.length∧∀(i:Nat) d y,ds[i]? = some d→ys[i]? = some y→Q d y:=by
 rcases open_slice ht h with ⟨hcs,hx⟩ | ⟨a,len,cap,m,n,D,Pl,hcs,_,hl,_,hmm,hx,hi⟩
 ·simp at hcs;subst hcs;exact ⟨none,0,0,[],rfl,fun _=>rfl,Nat.le_refl _,Elems.nil_,[],[],.inr ⟨by rw[hx],rfl⟩,rfl,fun i d y hd=>by simp at hd⟩
 ·simp at hcs;subst hcs;rw[hc] at hi;have hlm:len≤m:=by rw[hmm];split <;> omega
  obtain ⟨f,hf⟩:=choose_lt (α:=α) (n:=len) (p:=fun i y=>(∀j u,(ea y)[j]? = some u→w.cell? (a.add (i*sz+j))=some u)∧Q (D i) y) (by
   intro i hlt;obtain ⟨cs',hc',ht'⟩:=hi i (by omega);obtain ⟨y,rfl,hq⟩:=ho _ _ _ ht';obtain ⟨_,hcl,hat⟩:=World.cells?_some hc';refine ⟨y,fun j u hu=>?_,hq⟩;have hj:j < sz:=by have:=(List.getElem?_eq_some_iff.1 hu).1;rw[hz] at this;exact this
   have:=hat j hj;rw[Go.Deep.add_add] at this
   rw[this,hu])
  refine ⟨some a,len,cap,(List.range len).map f,rfl,(fun h=>by cases h),hl,⟨by simp,fun h0'=>?_⟩,(List.range len).map D,_,.inl (by rw[hx]),by simp,fun i d y hd hy=>?_⟩
  ·obtain ⟨b,off,spot⟩:=a;have hp:0 < (ea (f 0)).length:=by rw[hz];exact h0
   have h00:=(hf 0 h0').1 0 _ (List.getElem?_eq_getElem hp);have hspot:spot=none:=by simpa[Addr.add] using World.cell?_spot h00
   subst hspot;refine ⟨b,off,rfl,by simpa[Addr.add] using Kfa h00,fun i x hx j u hu=>?_⟩;have hil:i < len:=by have:=(List.getElem?_eq_some_iff.1 hx).1;simpa using this
   have hxe:f i=x:=by simpa[hil] using hx
   subst hxe;have:=(hf i hil).1 j u hu;rw[add_plain] at this;rw[←this,Nat.add_assoc]
  ·have hil:i < len:=by have:=(List.getElem?_eq_some_iff.1 hd).1;simpa using this
   have h1:D i=d:=by simpa[hil] using hd
   have h2:f i=y:=by simpa[hil] using hy
   rw[←h1,←h2];exact (hf i hil).2
end
theorem Kru {H:Type} (d:DataW H):1≤Rows.uptoBulk d:=by
 cases d with
 | lit l=>cases l <;> simp[Rows.uptoBulk]
 | nil=>simp[Rows.uptoBulk]
 | ptr d=>simp[Rows.uptoBulk]
 | slice elems spare=>simp[Rows.uptoBulk]
 | agg parts=>simp[Rows.uptoBulk]
 | iface t d=>simp[Rows.uptoBulk]
 | map entries=>simp[Rows.uptoBulk]
 | held h=>simp[Rows.uptoBulk]
theorem Kxj {H:Type} (l sp:List (DataW H)):Rows.uptoBulkAll l+1≤Rows.uptoBulk (.slice l sp):=by simp only[Rows.uptoBulk];omega
theorem Qci {H:Type} {l:List (DataW H)} (hk:Rows.uptoSmall H l=true):Rows.uptoBulkAll l≤1048576:=of_decide_eq_true hk
theorem Krv {H α : Type} (mu:α→Nat):∀(ds:List (DataW H)) (ys:List α),ds.length=ys.length→(∀(i:Nat) d y,ds[i]? = some d→ys[i]? = some y→mu y≤Rows.uptoBulk d)→(ys.map mu).sum≤Rows.uptoBulkAll ds
 | [],[],_,_=>by simp
 | d :: ds,y :: ys,hl,h=>by
  have h1:=h 0 d y rfl rfl;have h2:=Krv mu ds ys (by simpa using hl) (fun i d' y' hd hy=>h (i+1) d' y' (by simpa using hd) (by simpa using hy));simp only[List.map_cons,List.sum_cons,Rows.uptoBulkAll];omega
 | [],_ :: _,hl,_=>by simp at hl
 | _ :: _,[],hl,_=>by simp at hl
theorem Kih {H α : Type} (mu:α→Nat) {d:DataW H} {ds sp:List (DataW H)} {ys:List α} (hd:d = .slice ds sp∨(d = .nil∧ds = [])) (hl:ds.length=ys.length) (h:∀(i:Nat) d y,ds[i]? = some d→ys[i]? = some y→mu y≤Rows.uptoBulk d):(ys.map mu).sum+1≤Rows.uptoBulk d:=by
 have:=Krv mu ds ys hl h;rcases hd with rfl | ⟨rfl,rfl⟩
 ·have:=Kxj ds sp;omega
 ·obtain rfl:ys = []:=List.eq_nil_of_length_eq_zero (by simpa using hl.symm);simp[Rows.uptoBulk]
section
variable {H : Type} {enc : TypeId × Value → H} {w : World} {base : Nat} {spare : Nat → Bool} {held : Bool}
theorem Krx:Tryz.prog.cellsOf 9 = 1:=by kernel_rfl
def litT (s:Txt):DataW H:=.lit (.string s)
theorem Ktp {fuel:Nat} {l:List Value} {x:DataW H×List MemPlace} (h:DataW.trod enc Tryz.prog w base spare held fuel 9 l=some x):∃s:Txt,l = [txtV s]∧x.1=litT s:=by
 obtain ⟨s,rfl,rfl,_⟩:=DataW.trod_string Tryz.underlying9 h;exact ⟨s.data.toList,rfl,rfl⟩
end
section
variable {H : Type} {enc : TypeId × Value → H} {w : World} {base : Nat} {spare : Nat → Bool} {held : Bool}
theorem Kpk:Tryz.prog.cellsOf 99 = 2:=by kernel_rfl
theorem Qdi {fuel:Nat} {l:List Value} {x:DataW H×List MemPlace} (h:DataW.trod enc Tryz.prog w base spare held fuel 99 l=some x):∃y:Lb,l=encLb y∧x.1 = .agg [litT y.n,litT y.v]:=by
 obtain ⟨xs,n,_,hx,hcl,hlen,hg⟩:=DataW.trod_struct Tryz.underlying99 h;rw[Kpk] at hcl
 match l,hcl,xs,hlen with
 | [c0,c1],_,[x0,x1],_=>
  have g0:=hg 0 _ rfl;have g1:=hg 1 _ rfl;simp[Krx] at g0 g1;obtain ⟨a,e0,f0⟩:=Ktp g0;obtain ⟨b,e1,f1⟩:=Ktp g1;simp at e0 e1;subst e0 e1;refine ⟨⟨a,b⟩,rfl,?_⟩;rw[hx];simp[f0,f1]
end
section
variable {H : Type} {enc : TypeId × Value → H} {w : World} {base : Nat} {spare : Nat → Bool} {held : Bool}
def Lb.mass (x:Lb):Nat:=x.n.length+x.v.length+3
def massL (l:List Lb):Nat:=(l.map Lb.mass).sum+1
theorem Kpv:∀l:List Lb,2*l.length+1≤massL l
 | []=>by simp[massL]
 | x :: l=>by have:=Kpv l;simp only[massL,List.map_cons,List.sum_cons,List.length_cons,Lb.mass] at *;omega
theorem Qap {l:List Lb} {x:Lb} (h:x∈l):x.n.length≤massL l∧x.v.length≤massL l:=by
 induction l with
 | nil=>cases h
 | cons y l ih=>
  simp only[massL,List.map_cons,List.sum_cons,Lb.mass] at *;rcases List.mem_cons.1 h with rfl | h
  ·omega
  ·have:=ih h;omega
theorem Kxm:Tryz.prog.cellsOf 54 = 1:=by kernel_rfl
theorem Kto {fuel:Nat} {v:Value} {x:DataW H×List MemPlace} (h:DataW.trod enc Tryz.prog w base spare held fuel 54 [v]=some x) :
  ∃A n c l,v = .slice A n c∧n≤c∧Elems w w.heap.size 2 encLb A n l∧massL l≤Rows.uptoBulk x.1:=by
 obtain ⟨A,n,c,l,rfl,_,h2,h3,ds,sp,hx,hl,hQ⟩:=Khl (ea:=encLb) (Q:=fun d s=>d = .agg [litT s.n,litT s.v]) Tryz.underlying54 Kpk (by omega) (fun _=>rfl) (fun _ _ _ h=>Qdi h) h;refine ⟨A,n,c,l,rfl,h2,h3,Kih Lb.mass hx hl fun i d y hd hy=>?_⟩;rw[hQ i d y hd hy];simp[Rows.uptoBulk,Rows.uptoBulkAll,litT,Lb.mass];omega
theorem Kxd {α : Type} (f:α→Nat):∀{l:List α} {x:α},x∈l→f x≤(l.map f).sum
 | y :: l,x,h=>by
  simp only[List.map_cons,List.sum_cons];rcases List.mem_cons.1 h with rfl | h
  ·omega
  ·have:=Kxd f h;omega
end
theorem Kmr:Tryz.prog.cellsOf 2 = 1:=by kernel_rfl
theorem Kms:Tryz.prog.cellsOf 100 = 1:=by kernel_rfl
theorem Kxl:Tryz.prog.cellsOf 3 = 1:=by kernel_rfl
theorem Kpm:Tryz.prog.cellsOf 102 = 2:=by kernel_rfl
theorem Kpn:Tryz.prog.cellsOf 135 = 6:=by kernel_rfl
theorem Kxn:Tryz.prog.cellsOf 55 = 1:=by kernel_rfl
theorem Kxo:Tryz.prog.cellsOf 56 = 1:=by kernel_rfl
theorem Kpl:Tryz.prog.cellsOf 58 = 3:=by kernel_rfl
theorem Kkq {z:Int} (h:(Lit.int .u64 z).wf=true):∃n:Nat,z=(n:Int)∧n < 2 ^ 64:=by
 have h1:IntKind.u64.min=0:=rfl;have h2:IntKind.u64.max=18446744073709551615:=rfl;simp only[Lit.wf,Bool.and_eq_true,decide_eq_true_eq] at h;exact ⟨z.toNat,by omega,by omega⟩
section
variable {H : Type} {enc : TypeId × Value → H} {w : World} {base : Nat} {spare : Nat → Bool} {held : Bool}
theorem Qdk {fuel:Nat} {l:List Value} {x:DataW H×List MemPlace} (h:DataW.trod enc Tryz.prog w base spare held fuel 102 l=some x):∃y:Smp,l=Kad y∧(y.v < 2 ^ 64∧1≤Rows.uptoBulk x.1):=by
 obtain ⟨xs,n,_,hx,hcl,hlen,hg⟩:=DataW.trod_struct Tryz.underlying102 h;rw[Kpm] at hcl
 match l,hcl,xs,hlen with
 | [c0,c1],_,[x0,x1],_=>
  have g0:=hg 0 _ rfl;have g1:=hg 1 _ rfl;simp[Kmr,Kms] at g0 g1;obtain ⟨a,e0,_,_⟩:=DataW.trod_int Tryz.underlying2 g0;obtain ⟨b,e1,_,wb⟩:=DataW.trod_int Tryz.underlying100 g1;simp at e0 e1;subst e0 e1;obtain ⟨v,rfl,hv⟩:=Kkq wb;exact ⟨⟨a,v⟩,rfl,hv,Kru _⟩
theorem Qdl {fuel:Nat} {l:List Value} {x:DataW H×List MemPlace} (h:DataW.trod enc Tryz.prog w base spare held fuel 135 l=some x):∃y:Wnd,l=Kai y∧(Kcs y∧1≤Rows.uptoBulk x.1):=by
 obtain ⟨xs,n,_,hx,hcl,hlen,hg⟩:=DataW.trod_struct Tryz.underlying135 h;rw[Kpn] at hcl
 match l,hcl,xs,hlen with
 | [c0,c1,c2,c3,c4,c5],_,[x0,x1,x2,x3,x4,x5],_=>
  have g0:=hg 0 _ rfl;have g1:=hg 1 _ rfl;have g2:=hg 2 _ rfl;have g3:=hg 3 _ rfl;have g4:=hg 4 _ rfl;have g5:=hg 5 _ rfl;simp[Kmr,Kms,Kxl] at g0 g1 g2 g3 g4 g5;obtain ⟨a,e0,_,_⟩:=DataW.trod_int Tryz.underlying2 g0;obtain ⟨b,e1,_,_⟩:=DataW.trod_int Tryz.underlying3 g1;obtain ⟨c,e2,_,wc⟩:=DataW.trod_int Tryz.underlying100 g2;obtain ⟨d,e3,_,wd⟩:=DataW.trod_int Tryz.underlying100 g3;obtain ⟨e,e4,_,we⟩:=DataW.trod_int Tryz.underlying100 g4;obtain ⟨f,e5,_,wf⟩:=DataW.trod_int Tryz.underlying100 g5;simp at e0 e1 e2 e3 e4 e5;subst e0 e1 e2 e3 e4 e5;obtain ⟨c,rfl,hc⟩:=Kkq wc;obtain ⟨d,rfl,hd⟩:=Kkq wd;obtain ⟨e,rfl,he⟩:=Kkq we;obtain ⟨f,rfl,hf⟩:=Kkq wf;exact ⟨⟨a,b,c,d,e,f⟩,rfl,⟨hc,hd,he,hf⟩,Kru _⟩
theorem Kml {α : Type}:∀l:List α,(l.map fun _=>1).sum=l.length
 | []=>rfl
 | x :: l=>by rw[List.map_cons,List.sum_cons,Kml l,List.length_cons];omega
theorem Qav {fuel:Nat} {v:Value} {x:DataW H×List MemPlace} (h:DataW.trod enc Tryz.prog w base spare held fuel 55 [v]=some x) :
  ∃A n c l,v = .slice A n c∧n≤c∧Elems w w.heap.size 2 Kad A n l∧(∀y∈l,y.v < 2 ^ 64)∧l.length+1≤Rows.uptoBulk x.1:=by
 obtain ⟨A,n,c,l,rfl,_,h2,h3,ds,sp,hx,hl,hQ⟩:=Khl (ea:=Kad) (Q:=fun d (y:Smp)=>y.v < 2 ^ 64∧1≤Rows.uptoBulk d) Tryz.underlying55 Kpm (by omega) (fun _=>rfl) (fun _ _ _ h=>Qdk h) h;refine ⟨A,n,c,l,rfl,h2,h3,fun y hy=>?_,?_⟩
 ·obtain ⟨i,hi,rfl⟩:=List.mem_iff_getElem.1 hy;exact (hQ i (ds[i]'(by omega)) l[i] (List.getElem?_eq_getElem _) (List.getElem?_eq_getElem hi)).1
 ·have:=Kih (fun _:Smp=>1) hx hl fun i d y hd hy=>(hQ i d y hd hy).2
  rwa[Kml] at this
theorem Qaw {fuel:Nat} {v:Value} {x:DataW H×List MemPlace} (h:DataW.trod enc Tryz.prog w base spare held fuel 56 [v]=some x) :
  ∃A n c l,v = .slice A n c∧n≤c∧Elems w w.heap.size 6 Kai A n l∧(∀y∈l,Kcs y)∧l.length+1≤Rows.uptoBulk x.1:=by
 obtain ⟨A,n,c,l,rfl,_,h2,h3,ds,sp,hx,hl,hQ⟩:=Khl (ea:=Kai) (Q:=fun d (y:Wnd)=>Kcs y∧1≤Rows.uptoBulk d) Tryz.underlying56 Kpn (by omega) (fun _=>rfl) (fun _ _ _ h=>Qdl h) h;refine ⟨A,n,c,l,rfl,h2,h3,fun y hy=>?_,?_⟩
 ·obtain ⟨i,hi,rfl⟩:=List.mem_iff_getElem.1 hy;exact (hQ i (ds[i]'(by omega)) l[i] (List.getElem?_eq_getElem _) (List.getElem?_eq_getElem hi)).1
 ·have:=Kih (fun _:Wnd=>1) hx hl fun i d y hd hy=>(hQ i d y hd hy).2
  rwa[Kml] at this
def Ser.mass (s:Ser):Nat:=massL s.labels+s.samples.length+s.windows.length+2
structure SerIn (w:World) (y:Hd3) (s:Ser):Prop where
 at_:SerAt w y s
 v:∀x∈s.samples,x.v < 2 ^ 64
 b:∀x∈s.windows,Kcs x
theorem Qdj {fuel:Nat} {l:List Value} {x:DataW H×List MemPlace} (h:DataW.trod enc Tryz.prog w base spare held fuel 58 l=some x):∃y:Hd3,l=encH3 y∧∃s,SerIn w y s∧Ser.mass s≤Rows.uptoBulk x.1:=by
 obtain ⟨xs,n,_,hx,hcl,hlen,hg⟩:=DataW.trod_struct Tryz.underlying58 h;rw[Kpl] at hcl
 match l,hcl,xs,hlen with
 | [c0,c1,c2],_,[x0,x1,x2],_=>
  have g0:=hg 0 _ rfl;have g1:=hg 1 _ rfl;have g2:=hg 2 _ rfl;simp[Kxm,Kxn,Kxo] at g0 g1 g2;obtain ⟨A0,n0,k0,l0,rfl,a1,a2,a3⟩:=Kto g0;obtain ⟨A1,n1,k1,l1,rfl,b1,b2,b3,b4⟩:=Qav g1;obtain ⟨A2,n2,k2,l2,rfl,d1,d2,d3,d4⟩:=Qaw g2;refine ⟨⟨⟨A0,n0,k0⟩,⟨A1,n1,k1⟩,⟨A2,n2,k2⟩⟩,rfl,⟨l0,l1,l2⟩,⟨⟨a2,a1,b2,b1,d2,d1⟩,b3,d3⟩,?_⟩;rw[hx];simp only[List.map_cons,List.map_nil,Rows.uptoBulk,Rows.uptoBulkAll,Ser.mass];omega
theorem Kni:∀l:List Lb,3*l.length+1≤massL l
 | []=>by simp[massL]
 | x :: l=>by have:=Kni l;simp only[massL,List.map_cons,List.sum_cons,List.length_cons,Lb.mass] at *;omega
theorem Kpw:∀L:List Ser,smpsN L+wndsN L+L.length+3*labsN L≤(L.map Ser.mass).sum
 | []=>by simp[smpsN,wndsN,labsN]
 | s :: L=>by
  have:=Kpw L;have:=Kni s.labels;simp only[smpsN,wndsN,labsN,List.map_cons,List.sum_cons,List.length_cons,Ser.mass] at *;omega
end
end
section
open Go.RowKit
attribute [local go_sem ↓] Go.wp_at_zero Go.wp_at_succ
attribute [local go_sem] Later.cell
structure CSz (c:Cont):Prop where
 n:c.series.length≤1048576
 m:smpsN c.series+wndsN c.series≤1048576
 k:labsN c.series≤349525
 z:∀s∈c.series,SerSz s
structure Built (c:Cont) (S0 S1 S2:ByteArray):Prop where
 f:filOf S0 S1 S2=Kdh c
 z0:S0.size≤200000000
 z1:S1.size≤200000000
 z2:S2.size≤200000000
theorem Krt (c:Cont) (A:Option Addr) (n k:Nat) (w:World) (hS:Kdp w A n c.series) (hc:CSz c) (hE:BEnv w) :
  Calls Tryz.prog 19 #[.agg #[.int .i64 c.res,.int .i64 c.frm,.int .i64 c.to_,.slice A n k]] w fun e w'=>(∃S0 S1 S2,e = .returned (.tuple #[.agg #[.string S0,.string S1,.string S2],.int .i64 (if fitB c=true then 0 else 190)])∧Built c S0 S1 S2)∧Below w.heap.size w w':=by
 have hsm:=fun hf=>Ktt (c:=c) hf hc.n hc.m hc.k
 refine (Kzm c ⟨A,n,k⟩ w hS hE (fun hf=>?_)).mono ?_
 ·have h1:=hsm hf;have h2:(Kex c).ck=sealT (Kdc c):=rfl;have h3:(Kex c).ix=sealT (Kcj c):=rfl;rw[h2,h3,Kqj,Kqj] at h1;omega
 ·rintro e w' ⟨rfl,hb⟩
  have h1:(Kdh c).mt.length≤200000000∧(Kdh c).ck.length≤200000000∧(Kdh c).ix.length≤200000000:=by
   unfold Kdh
   by_cases hf:fitB c=true
   ·rw[if_pos hf];exact hsm hf
   ·rw[if_neg hf];exact ⟨by decide,by decide,by decide⟩
  refine ⟨⟨⟨(Kdh c).mt.toArray⟩,⟨(Kdh c).ck.toArray⟩,⟨(Kdh c).ix.toArray⟩,rfl,⟨rfl,?_,?_,?_⟩⟩,hb⟩
  ·exact h1.1
  ·exact h1.2.1
  ·exact h1.2.2
end
section
open Go.Shelf Go.RowKit Go.Lib Go.Sort
attribute [local go_sem ↓] Go.wp_at_zero Go.wp_at_succ
attribute [local go_sem] Later.cell
section
set_option maxHeartbeats 4000000
set_option maxRecDepth 100000
instance contInC:Inhabited Cont:=⟨⟨0,0,0,[]⟩⟩
structure CH where
 r:Int
 f:Int
 t:Int
 h:Hd
def encCH (x:CH):List Value:=[.int .i64 x.r,.int .i64 x.f,.int .i64 x.t,.slice x.h.A x.h.n x.h.c]
structure Kdg (w:World) (A:Option Addr) (n:Nat) (xs:List CH) (cs:List Cont):Prop where
 e:Elems w w.heap.size 4 encCH A n xs
 l:cs.length=n
 k:∀(i:Nat) (x:CH),xs[i]? = some x→cs[i]!.res=x.r∧cs[i]!.frm=x.f∧cs[i]!.to_=x.t∧Kdp w x.h.A x.h.n cs[i]!.series∧x.h.n≤x.h.c
 z:∀c∈cs,CSz c
 n:n≤1048576
theorem Kdg.below {w w':World} {A:Option Addr} {n:Nat} {xs:List CH} {cs:List Cont} (h:Kdg w A n xs cs) (hb:Below w.heap.size w w'):Kdg w' A n xs cs:=
 ⟨(h.e.below hb).more hb.size,h.l,fun i x hi=>⟨(h.k i x hi).1,(h.k i x hi).2.1,(h.k i x hi).2.2.1,(h.k i x hi).2.2.2.1.below hb,(h.k i x hi).2.2.2.2⟩,h.z,h.n⟩
def outC:List Cont→Int×Int×Int
 | []=>(0,0,0)
 | c :: l=>(c.res,l.foldl (fun a x=>min a x.frm) c.frm,l.foldl (fun a x=>max a x.to_) c.to_)
theorem Qay (l:List Cont) (c:Cont) (h:l≠[]):outC (l ++ [c])=((outC l).1,min (outC l).2.1 c.frm,max (outC l).2.2 c.to_):=by
 cases l with
 | nil=>exact absurd rfl h
 | cons x l=>simp[outC,List.foldl_append]
def okAll (cs:List Cont):Bool:=cs.all fun c=>fitB c && decide (c.res=(outC cs).1)
def okFor (r:Int) (cs:List Cont):Bool:=cs.all fun c=>fitB c && decide (c.res=r)
end
end
section
open Go.Shelf Go.RowKit Go.Lib Go.Sort
section
theorem Elems.setOff {α : Type} {w:World} {B sz:Nat} {enc:α→List Value} {A:Option Addr} {n g:Nat} {xs:List α} {t:TypeId} {cs:Array Value} (hE:Elems w B sz enc A n xs) (hb:Blk w g t cs)
  (hno:∀(x:α) (off:Nat),∃(j:Nat) (v:Value),(enc x)[j]? = some v∧cs[off+j]?≠some v) (i:Nat) (u:Value):Elems (w.setCell ⟨g,i,none⟩ u) B sz enc A n xs:=
 ⟨hE.1,fun hn=>by
  obtain ⟨b,off,e,hb',hc⟩:=hE.2 hn;obtain ⟨x,hx⟩:∃x,xs[0]? = some x:=⟨xs[0]'(by rw[hE.1];exact hn),List.getElem?_eq_getElem _⟩;obtain ⟨j,v,hj,hv⟩:=hno x off
  have hbg:b≠g:=by
   rintro rfl;have h0:=hc 0 x hx j v hj;rw[hb.cell] at h0;exact hv (by simpa using h0)
  exact ⟨b,off,e,hb',fun i' x hx j v hv=>(World.cell?_of_block (w:=w) (Below.heap_setCell w _ u b hbg)).trans (hc i' x hx j v hv)⟩⟩
theorem Sers.setBox {w:World} {A:Option Addr} {n g:Nat} {L:List Ser} {t:TypeId} {a b c:Int} {Z:Option Addr} {k d:Nat} (h:Sers w A n L) (hb:Blk w g t #[.int .i64 a,.int .i64 b,.int .i64 c,.slice Z k d]) (i:Nat) (u:Value) :
  Sers (w.setCell ⟨g,i,none⟩ u) A n L:=by
 have hsz:(w.setCell ⟨g,i,none⟩ u).heap.size=w.heap.size:=by simp[World.setCell]
 obtain ⟨hs,h1,h2,h3⟩:=h;refine ⟨hs,?_,h2,fun j x hx=>?_⟩
 ·rw[hsz];refine h1.setOff hb (fun x off=>?_) i u;rcases off with _ | _ | _ | _ | off
  ·exact ⟨0,_,rfl,by simp⟩
  ·exact ⟨0,_,rfl,by simp⟩
  ·exact ⟨0,_,rfl,by simp⟩
  ·exact ⟨1,_,rfl,by simp⟩
  ·exact ⟨0,_,rfl,by simp⟩
 ·have hS:=h3 j x hx;refine ⟨?_,hS.lc,?_,hS.sc,?_,hS.wc⟩
  ·rw[hsz];refine hS.l.setOff hb (fun x off=>⟨0,_,rfl,?_⟩) i u;rcases off with _ | _ | _ | _ | off <;> simp
  ·rw[hsz];refine hS.s.setOff hb (fun x off=>⟨1,_,rfl,?_⟩) i u;rcases off with _ | _ | _ | _ | off <;> simp
  ·rw[hsz];refine hS.w.setOff hb (fun x off=>?_) i u;rcases off with _ | _ | _ | _ | off
   ·exact ⟨2,_,rfl,by simp⟩
   ·exact ⟨2,_,rfl,by simp⟩
   ·exact ⟨1,_,rfl,by simp⟩
   ·exact ⟨0,_,rfl,by simp⟩
   ·exact ⟨0,_,rfl,by simp⟩
theorem Lists.below {w w':World} {A:Option Addr} {n:Nat} {hs:List Hd} {Ls:List (List Ser)} (h:Lists w A n hs Ls) (hb:Below w.heap.size w w'):Lists w' A n hs Ls:=
 ⟨(h.e.below hb).more hb.size,h.l,fun i x hi=>⟨(h.k i x hi).1.below hb,(h.k i x hi).2⟩,h.z⟩
theorem Kdg.lists {w:World} {A:Option Addr} {n:Nat} {xs:List CH} {cs:List Cont} (h:Kdg w A n xs cs) {base c7:Nat} {A7:Option Addr} {t:TypeId} (hR:w.ownsRow base t 1 (.slice A7 n c7) n ((xs.map CH.h).flatMap Kbt)) :
  Lists w A7 n (xs.map CH.h) (cs.map Cont.series):=by
 refine ⟨?_,by rw[List.length_map,h.l],fun i hd hi=>?_,fun L hL s hs=>?_⟩
 ·obtain ⟨A1,c1,e1,hE,_⟩:=Elems.of_own (xs:=xs.map CH.h) (enc:=Kbt) (fun _ _=>rfl) rfl hR (by rw[List.length_map,h.e.len]);injection e1 with e1 _ _;rw[e1];exact hE
 ·rw[List.getElem?_map,Option.map_eq_some_iff] at hi;obtain ⟨x,hx,rfl⟩:=hi;obtain ⟨_,_,_,k4,k5⟩:=h.k i x hx;have hil:i < cs.length:=by rw[h.l,←h.e.len];exact (List.getElem?_eq_some_iff.1 hx).1
  rw[getElem!_pos (cs.map Cont.series) i (by simpa using hil),List.getElem_map];rw[getElem!_pos cs i hil] at k4;exact ⟨k4.s,k5⟩
 ·obtain ⟨c,hc,rfl⟩:=List.mem_map.1 hL;exact ((h.z c hc).z s hs).l
end
end
section
theorem Kfn {α : Type} (k:α→Int) (xs:List α):Kaw k xs (onceL k xs):=by
 have:=Kfs k xs [] [] (Kaw.nil k);simpa[onceL] using this
theorem Kaw.sub {α : Type} {k:α→Int} {xs l:List α} (h:Kaw k xs l) {x:α} (hx:x∈l):x∈xs:=List.mem_of_find?_eq_some ((h.mem x).1 hx)
theorem Ktj {l:List Ser} {L:List Lb} {x:Smp} (h:x∈gS l L):∃s∈l,s.labels=L∧x∈s.samples:=by
 unfold gS at h;obtain ⟨s,hs,hx⟩:=List.mem_flatMap.1 h;rw[List.mem_filter] at hs;exact ⟨s,hs.1,by simpa using hs.2,hx⟩
theorem Qaq {l:List Ser} {L:List Lb} {x:Wnd} (h:x∈gW l L):∃s∈l,s.labels=L∧x∈s.windows:=by
 unfold gW at h;obtain ⟨s,hs,hx⟩:=List.mem_flatMap.1 h;rw[List.mem_filter] at hs;exact ⟨s,hs.1,by simpa using hs.2,hx⟩
theorem Kcb (l:List Ser):IsMrg l (Kam l):=by
 have:=Khs l [] [] IsMrg.nil;rw[List.nil_append] at this;exact this
theorem Kce (x:Ser) (l:List Ser):labsN (x :: l)=x.labels.length+labsN l:=by unfold labsN;simp
theorem Klo (s:Ser):∀out:List Ser,labsN (Kca out s)≤labsN out+s.labels.length
 | []=>by simp[Kca,labsN]
 | y :: l=>by
  have i1:=Klo s l;unfold Kca
  split
  ·rw[Kce,Kce];dsimp only;omega
  ·split
   ·rw[Kce];dsimp only;omega
   ·rw[Kce,Kce];omega
theorem Kjt:∀l out:List Ser,labsN (l.foldl Kcf out)≤labsN out+labsN l
 | [],out=>by simp[labsN]
 | s :: l,out=>by
  have i1:=Kjt l (Kcf out s)
  have i2:labsN (Kcf out s)≤labsN out+s.labels.length:=by
   unfold Kcf
   split
   ·exact Klo s out
   ·omega
  rw[List.foldl_cons,Kce];omega
theorem Kqv (l:List Ser):labsN (Kam l)≤labsN l:=by have:=Kjt l [];unfold Kam;simpa[labsN] using this
structure SubS (l out:List Ser):Prop where
 lab:∀s∈out,∃x∈l,x.labels=s.labels
 smp:∀s∈out,∀y∈s.samples,∃x∈l,y∈x.samples
 wnd:∀s∈out,∀y∈s.windows,∃x∈l,y∈x.windows
 n:out.length≤l.length
 m:sumS out≤sumS l
 k:labsN out≤labsN l
theorem SubS.trans {a b c:List Ser} (h:SubS a b) (g:SubS b c):SubS a c:=
 ⟨fun s hs=>by obtain ⟨x,hx,e⟩:=g.lab s hs;obtain ⟨y,hy,e2⟩:=h.lab x hx;exact ⟨y,hy,e2.trans e⟩,
  fun s hs y hy=>by obtain ⟨x,hx,e⟩:=g.smp s hs y hy;exact h.smp x hx y e,
  fun s hs y hy=>by obtain ⟨x,hx,e⟩:=g.wnd s hs y hy;exact h.wnd x hx y e,
  Nat.le_trans g.n h.n,Nat.le_trans g.m h.m,Nat.le_trans g.k h.k⟩
theorem Qfb {l out:List Ser} (h:IsMrg l out) {s:Ser} (hs:s∈out):∃x∈l,x.labels=s.labels:=by
 obtain ⟨h1,h2,h3⟩:=(h.mem s).1 hs;rcases (Kda s).1 h1 with q | q
 ·rw[h2,Kdl] at q;obtain ⟨y,hy⟩:=List.exists_mem_of_length_pos q;obtain ⟨x,hx,e,_⟩:=Ktj hy;exact ⟨x,hx,e⟩
 ·rw[h3,Kdl] at q;obtain ⟨y,hy⟩:=List.exists_mem_of_length_pos q;obtain ⟨x,hx,e,_⟩:=Qaq hy;exact ⟨x,hx,e⟩
theorem Qfc {l out:List Ser} (h:IsMrg l out) {s:Ser} (hs:s∈out) {y:Smp} (hy:y∈s.samples):∃x∈l,x.labels=s.labels∧y∈x.samples:=by
 obtain ⟨_,h2,_⟩:=(h.mem s).1 hs;rw[h2] at hy;exact Ktj ((Kfn Smp.t _).sub hy)
theorem Qfd {l out:List Ser} (h:IsMrg l out) {s:Ser} (hs:s∈out) {y:Wnd} (hy:y∈s.windows):∃x∈l,x.labels=s.labels∧y∈x.windows:=by
 obtain ⟨_,_,h3⟩:=(h.mem s).1 hs;rw[h3] at hy;exact Qaq ((Kfn Wnd.start _).sub hy)
theorem Kgs (l:List Ser):SubS l (Kam l):=
 ⟨fun _ hs=>Qfb (Kcb l) hs,fun _ hs _ hy=>by obtain ⟨x,hx,_,e⟩:=Qfc (Kcb l) hs hy;exact ⟨x,hx,e⟩,
  fun _ hs _ hy=>by obtain ⟨x,hx,_,e⟩:=Qfd (Kcb l) hs hy;exact ⟨x,hx,e⟩,Kju l,Kgt l,Kqv l⟩
theorem Kfl {fS:Ser→Smp→Bool} {fW:Ser→Wnd→Bool} {l:List Ser} {s:Ser} (h:s∈keptF fS fW l):∃x∈l,s=keepS fS fW x∧Kba s=true:=by
 unfold keptF at h;rw[List.mem_filter,List.mem_map] at h;obtain ⟨⟨x,hx,e⟩,hg⟩:=h;exact ⟨x,hx,e.symm,hg⟩
theorem Kwu (fS:Ser→Smp→Bool) (fW:Ser→Wnd→Bool):∀l:List Ser,(keptF fS fW l).length≤l.length∧sumS (keptF fS fW l)≤sumS l∧labsN (keptF fS fW l)≤labsN l
 | []=>by simp[keptF,sumS,labsN]
 | x :: l=>by
  obtain ⟨i1,i2,i3⟩:=Kwu fS fW l;have h1:(x.samples.filter (fS x)).length≤x.samples.length:=List.length_filter_le _ _;have h2:(x.windows.filter (fW x)).length≤x.windows.length:=List.length_filter_le _ _
  have e:keptF fS fW (x :: l)=if Kba (keepS fS fW x)=true then keepS fS fW x :: keptF fS fW l else keptF fS fW l:=by
   unfold keptF;rw[List.map_cons,List.filter_cons]
  rw[e]
  split
  ·rw[Kbc,Kbc,Kce,Kce];refine ⟨by simp only[List.length_cons];omega,?_,?_⟩
   ·unfold keepS;dsimp only;omega
   ·unfold keepS;dsimp only;omega
  ·rw[Kbc,Kce];exact ⟨by simp only[List.length_cons];omega,by omega,by omega⟩
theorem Kil (fS:Ser→Smp→Bool) (fW:Ser→Wnd→Bool) (l:List Ser):SubS l (keptF fS fW l):=by
 obtain ⟨h1,h2,h3⟩:=Kwu fS fW l;refine ⟨fun s hs=>?_,fun s hs y hy=>?_,fun s hs y hy=>?_,h1,h2,h3⟩
 ·obtain ⟨x,hx,rfl,_⟩:=Kfl hs;exact ⟨x,hx,rfl⟩
 ·obtain ⟨x,hx,rfl,_⟩:=Kfl hs;exact ⟨x,hx,(List.mem_filter.1 hy).1⟩
 ·obtain ⟨x,hx,rfl,_⟩:=Kfl hs;exact ⟨x,hx,(List.mem_filter.1 hy).1⟩
theorem SubS.nil (l:List Ser):SubS l []:=⟨fun s h=>by simp at h,fun s h=>by simp at h,fun s h=>by simp at h,by simp,by simp[sumS],by simp[labsN]⟩
theorem Qbn (r:Int) (ghs:List (Hd4×GoneP)) (l:List Ser):SubS l (Kbr r ghs l):=by
 unfold Kbr
 split
 ·exact Kil _ _ l
 ·exact SubS.nil l
theorem Kiv (l:List Ser):sumS l=smpsN l+wndsN l:=by
 induction l with
 | nil=>rfl
 | cons x l ih=>
  rw[Kbc,ih];unfold smpsN wndsN;simp only[List.map_cons,List.sum_cons];omega
theorem CSz.of_sub {l out:List Ser} {r f t:Int} (h:SubS l out) (hz:∀s∈l,SerSz s) (hn:l.length≤1048576) (hm:sumS l≤1048576) (hk:labsN l≤349525):CSz ⟨r,f,t,out⟩:=by
 refine ⟨Nat.le_trans h.n hn,?_,Nat.le_trans h.k hk,fun s hs=>?_⟩
 ·have:=Kiv out;have:=h.m;dsimp only;omega
 ·have h1:s.samples.length+s.windows.length≤sumS out:=Kin hs;have h2:=h.m;obtain ⟨x,hx,e⟩:=h.lab s hs;refine ⟨by omega,by omega,by rw[←e];exact (hz x hx).l,fun y hy=>?_,fun y hy=>?_,by rw[←e];exact (hz x hx).z⟩
  ·obtain ⟨z,hz',e'⟩:=h.smp s hs y hy;exact (hz z hz').v y e'
  ·obtain ⟨z,hz',e'⟩:=h.wnd s hs y hy;exact (hz z hz').b y e'
end
section
open Go.Shelf Go.RowKit Go.Lib Go.Sort
open Lib renaming hid → Jh
open List renaming length_append → Jd
attribute [local go_sem ↓] Go.wp_at_zero Go.wp_at_succ
attribute [local go_sem] Later.cell
section
set_option maxHeartbeats 4000000
set_option maxRecDepth 100000
structure SSz (l:List Ser):Prop where
 n:l.length≤1048576
 m:sumS l≤1048576
 k:labsN l≤349525
 z:∀s∈l,SerSz s
theorem SSz.sub {l out:List Ser} (h:SSz l) (hs:SubS l out):SSz out:=by
 refine ⟨Nat.le_trans hs.n h.n,Nat.le_trans hs.m h.m,Nat.le_trans hs.k h.k,?_⟩;exact (CSz.of_sub (r:=0) (f:=0) (t:=0) hs h.z h.n h.m h.k).z
theorem SSz.csz {l:List Ser} (h:SSz l) (r f t:Int):CSz ⟨r,f,t,l⟩:=⟨h.n,by have h1:=h.m;rw[Kiv] at h1;exact h1,h.k,h.z⟩
theorem SSz.sersz {w:World} {A:Option Addr} {n:Nat} {l:List Ser} (h:SSz l) (hs:Sers w A n l):SersZ w A n l:=by
 have hn:=h.n;refine ⟨hs,fun s hm=>?_,by rw[←hs.len];omega⟩;have h1:=Kin hm;have h2:=h.m;exact ⟨(h.z s hm).l,by omega,by omega⟩
theorem SSz.ok {w:World} {A:Option Addr} {n:Nat} {l:List Ser} (h:SSz l) (hs:Sers w A n l):Kdp w A n l:=⟨hs,by have:=h.n;omega,h.z⟩
def allF (res:Int) (ss:List Ser):List Ser:=Kbr res [] (Kam ss)
def clipF (a b:Int) (l:List Ser):List Ser:=keptF (fun _ x=>inR a b x.t) (fun _ x=>inR a b x.start) l
def Kbo (res width:Int) (l:List Ser) (f:Int):Cont:=⟨res,f,min (f+width) 1125899906842625,clipF f (min (f+width) 1125899906842625 - 1) l⟩
theorem Kwl (res:Int) (ss:List Ser):SubS ss (allF res ss):=(Kgs ss).trans (Qbn res [] _)
theorem Ktm {w:World} {A:Option Addr} {n c:Nat} {ss:List Ser} (h:Sers w A n ss) (hc:n≤c) (hz:∀s∈ss,s.labels.length≤1099511627776) {w1:World} (hw1:w1=w.alloc (.cells #[.slice A n c] 26)) :
  Lists w1 (some ⟨w.heap.size,0,none⟩) 1 [⟨A,n,c⟩] [ss]:=by
 have hb:Below w.heap.size w w1:=by rw[hw1];exact (Below.refl _ _).alloc (Nat.le_refl _) _
 have hB:Blk w1 w.heap.size 26 #[.slice A n c]:=by rw[hw1];exact Blk.new _ _ _
 refine ⟨⟨rfl,fun _=>⟨w.heap.size,0,rfl,hB.lt,fun i x hx j v hv=>?_⟩⟩,rfl,fun i hd hi=>?_,fun L hL s hs=>?_⟩
 ·cases i with
  | zero=>
   simp only[List.getElem?_cons_zero,Option.some.injEq] at hx;subst hx;rw[hB.cell];simpa[Kbt] using hv
  | succ i=>simp at hx
 ·cases i with
  | zero=>
   simp only[List.getElem?_cons_zero,Option.some.injEq] at hi;subst hi;exact ⟨h.below hb,hc⟩
  | succ i=>simp at hi
 ·rw[List.mem_singleton] at hL;subst hL;exact hz s hs
theorem Kkm {width:Int} (hw:1≤width) {ts L:List Int} (h:Kcm width ts L) {x:Int} (hx:x∈L):0≤x∧x≤1125899906842624:=by
 obtain ⟨t,ht,rfl⟩:=List.mem_map.1 ((h.mem x).1 hx);have:=Kfj.1 (List.mem_filter.1 ht).2;have:=Kgp t width this.1 hw;omega
theorem Kyw {width:Int} {ts L:List Int} (h:Kcm width ts L):L.length≤ts.length:=by
 refine Nat.le_trans (Khj L (Kby width ts) ?_ fun x hx=>(h.mem x).1 hx) (Ken width ts);exact h.asc.imp fun hab e=>by omega
theorem Kxz:(Tryz.prog.info? 28).map (fun i=>(i.zero,i.size,i.bytes))=some (some (.agg #[.int .i64 0,.int .i64 0,.int .i64 0,.slice none 0 0]),4,48):=by kernel_rfl
structure Gath (w:World) (q:Nat) (v:Value) (xs:List CH) (cs:List Cont):Prop where
 row:w.ownsRow q 28 4 v xs.length (xs.flatMap encCH)
 l:cs.length=xs.length
 k:∀(i:Nat) (x:CH),xs[i]? = some x→(cs[i]!.res=x.r∧cs[i]!.frm=x.f∧cs[i]!.to_=x.t)∧SSz cs[i]!.series∧∃B,Kbi w B x.h.A x.h.n x.h.c cs[i]!.series
theorem Gath.nil (w:World) (q:Nat):Gath w q (.slice none 0 0) [] []:=⟨World.ownsRow_nil _ _ _ _,rfl,fun i x h=>by simp at h⟩
theorem Gath.below {w w':World} {q:Nat} {v:Value} {xs:List CH} {cs:List Cont} (h:Gath w q v xs cs) (hb:Below w.heap.size w w'):Gath w' q v xs cs:=
 ⟨Kaq h.row hb,h.l,fun i x hi=>⟨(h.k i x hi).1,(h.k i x hi).2.1,by obtain ⟨B,h1⟩:=(h.k i x hi).2.2;exact ⟨B,h1.below hb⟩⟩⟩
theorem Gath.more {w w':World} {q:Nat} {v v':Value} {xs:List CH} {cs:List Cont} (h:Gath w q v xs cs) (hg:w.grownBy w' v.ownBlock) {x:CH} {c:Cont} (hrow:w'.ownsRow q 28 4 v' (xs.length+1) (xs.flatMap encCH++encCH x))
  (h1:c.res=x.r∧c.frm=x.f∧c.to_=x.t) (h2:SSz c.series) {B:Nat} (h3:Kbi w B x.h.A x.h.n x.h.c c.series):Gath w' q v' (xs ++ [x]) (cs ++ [c]):=by
 have hfr:∀{B:Nat} {A:Option Addr} {n k:Nat} {L:List Ser},Kbi w B A n k L→Kbi w' B A n k L:=fun {B A n k L} h0=>h0.grown hg fun r e=>by
  obtain ⟨cur,hc⟩:=Kax h.row e;exact ⟨_,cur,hc,by decide,by decide,by decide,by decide⟩
 refine ⟨by rw[Jd,List.flatMap_append,List.flatMap_singleton];exact hrow,by rw[Jd,Jd,h.l];rfl,fun i y hi=>?_⟩
 by_cases hl:i < xs.length
 ·rw[List.getElem?_append_left hl] at hi
  have e:(cs ++ [c])[i]! = cs[i]!:=by
   rw[getElem!_pos _ _ (by rw[Jd,h.l];omega),getElem!_pos cs i (by rw[h.l];exact hl),List.getElem_append_left]
  rw[e];obtain ⟨a1,a2,B2,a3⟩:=h.k i y hi;exact ⟨a1,a2,B2,hfr a3⟩
 ·have hil:i=xs.length:=by
   have:=(List.getElem?_eq_some_iff.1 hi).1;rw[Jd,List.length_singleton] at this;omega
  subst hil;rw[List.getElem?_append_right (Nat.le_refl _),Nat.sub_self] at hi;simp only[List.getElem?_cons_zero,Option.some.injEq] at hi;subst hi
  have e:(cs ++ [c])[xs.length]! = c:=by
   rw[←h.l,getElem!_pos _ _ (by rw[Jd];simp),List.getElem_append_right (Nat.le_refl _)];simp
  rw[e];exact ⟨h1,h2,B,hfr h3⟩
theorem Gath.conts {w:World} {q n c:Nat} {A:Option Addr} {xs:List CH} {cs:List Cont} (h:Gath w q (.slice A n c) xs cs) (hn:xs.length=n) (hz:n≤1048576):Kdg w A n xs cs∧n≤c:=by
 obtain ⟨A1,c1,e1,hE,_,hc⟩:=Elems.of_own (xs:=xs) (enc:=encCH) (fun _ _=>rfl) rfl h.row rfl;injection e1 with e1 e2 e3;subst e1 e3;rw[hn] at hE hc;refine ⟨⟨hE,by rw[h.l,hn],fun i x hi=>?_,fun c hc=>?_,hz⟩,hc⟩
 ·obtain ⟨a1,a2,B,a3⟩:=h.k i x hi;exact ⟨a1.1,a1.2.1,a1.2.2,a2.ok a3.sers.1,a3.sers.2⟩
 ·obtain ⟨i,hi,rfl⟩:=List.getElem_of_mem hc;obtain ⟨x,hx⟩:∃x,xs[i]? = some x:=⟨xs[i]'(by rw[←h.l];exact hi),List.getElem?_eq_getElem _⟩;have:=(h.k i x hx).2.1;rw[getElem!_pos cs i hi] at this;exact this.csz _ _ _
def Qcb (res width:Int) (all:List Ser) (w:World) (e:Ending) (w':World):Prop:=
   ((¬(1≤width∧width≤1099511627776)∧e = .returned (.tuple #[.slice none 0 0,.int .i64 100]))∨
    ((1≤width∧width≤1099511627776)∧¬(0≤res∧res < 3)∧e = .returned (.tuple #[.slice none 0 0,.int .i64 190]))∨
    ((1≤width∧width≤1099511627776)∧(0≤res∧res < 3)∧∃L,Kcm width (Kar all) L∧
     ((((L.map (Kbo res width all)).all fitB=false)∧e = .returned (.tuple #[.slice none 0 0,.int .i64 190]))∨
     (((L.map (Kbo res width all)).all fitB=true)∧∃(A':Option Addr) (n' c':Nat) (xs:List CH),e = .returned (.tuple #[.slice A' n' c',.int .i64 0])∧Kdg w' A' n' xs (L.map (Kbo res width all))∧n'≤c'))))∧Below w.heap.size w w'
theorem Klr (res width:Int) (A:Option Addr) (n c:Nat) (ss:List Ser) (w:World) (hS:Sers w A n ss) (hc:n≤c) (hz:SSz ss) (hE:BEnv w) :
  Calls Tryz.prog 20 #[.int .i64 res,.int .i64 width,.slice A n c] w (Qcb res width (allF res ss) w):=by
 by_cases hw:1≤width∧width≤1099511627776
 ·have hst:Kbk 0 width=(0,0):=by rw[Kbk,if_neg (by omega),if_neg (by omega)];simp
  have HST:Hid (∀W,Calls Tryz.prog 49 #[.int .i64 0,.int .i64 width] W fun e w'=>e = .returned (.tuple #[.int .i64 0,.int .i64 0])∧w'=W):=fun W=>by
   have:=Kft 0 width W;rw[hst] at this;exact this
  have HW:=Jh hw;clear hst
  by_cases hr:0≤res∧res < 3
  ·obtain ⟨hr1,hr2⟩:=hr;have hw0:=hw.1;have hw02:=hw.2;have HR:Hid (0≤res∧res < 3):=⟨hr1,hr2⟩;have HS:=Jh hS;have HZ:=Jh hz;have HE:=Jh hE;obtain ⟨all,hall⟩:∃x,x=allF res ss:=⟨_,rfl⟩;have HALL:Hid (all=Kbr res [] (Kam ss)):=hall;have HZA:Hid (SSz all):=by show SSz _;rw[hall];exact hz.sub (Kwl res ss)
   rw[←hall]
   have HMG:Hid (Calls Tryz.prog 24 #[.slice (some ⟨w.heap.size,0,none⟩) 1 1] (w.alloc (.cells #[.slice A n c] 26)) fun e w'=>∃(A':Option Addr) (n' c':Nat),e = .returned (.slice A' n' c')∧Sers w' A' n' (Kam ss)∧n'≤c'∧Below (w.alloc (.cells #[.slice A n c] 26)).heap.size (w.alloc (.cells #[.slice A n c] 26)) w'):=by
    have:=Kkc (some ⟨w.heap.size,0,none⟩) 1 1 [⟨A,n,c⟩] [ss] (Ktm hS hc (fun s hs=>(hz.z s hs).l) rfl) (by decide) (by simp;have:=hz.n;omega) (by simp;have:=hz.m;omega);show Calls _ _ _ _ _
    simpa using this
   have HB1:Hid (Below w.heap.size w (w.alloc (.cells #[.slice A n c] 26))):=(Below.refl _ _).alloc (Nat.le_refl _) _;clear hS hz hE hall hw;go_enter Tryz.func20,Tryz.ntmps20
   go_wp2_with fail
   refine (HST.out _).mono ?_;rintro _ w1 ⟨rfl,hw1⟩;have hw1:=hw1.symm;subst hw1;clear HST;go_wp2_with fail
   refine HMG.out.mono ?_;rintro _ w2 ⟨A2,n2,c2,rfl,hs2,hc2,hb2⟩;have HS2:Hid (SersZ w2 A2 n2 (Kam ss)):=(HZ.out.sub (Kgs ss)).sersz hs2;have HB2:Hid (Below w.heap.size w w2):=HB1.out.trans (hb2.mono HB1.out.size);clear hs2 hc2 hb2 HB1 HMG;go_wp2_with fail
   refine (Kls res A2 n2 c2 (Kam ss) none 0 0 [] w2 HS2.out ⟨Elems.nil_,fun x hx=>by simp at hx,by omega⟩).mono ?_;rintro _ w3 ⟨A3,n3,c3,rfl,hs3,hc3,hb3⟩;rw[←HALL.out] at hs3;have HS3:Hid (Sers w3 A3 n3 all):=hs3;have HB3:Hid (Below w.heap.size w w3):=HB2.out.trans (hb3.mono HB2.out.size);clear hs3 hc3 hb3 HB2 HS2;go_wp2_with fail
   refine (Ktu width HW.out A3 n3 c3 all w3 (HZA.out.sersz HS3.out) (by have:=HZA.out.m;omega)).mono ?_;rintro _ w4 ⟨A4,n4,c4,L,rfl,hL,hLl,hE4,_,hb4⟩;have HL:=Jh hL;have HLL:=Jh hLl;have HE4:=Jh hE4;have HS4:Hid (Sers w4 A3 n3 all):=HS3.out.below hb4;have HB4:Hid (Below w.heap.size w w4):=HB3.out.trans (hb4.mono HB3.out.size)
   have hn4:n4≤1048576:=by
    have h1:=Kyw hL;have h2:=HZA.out.m;rw[Kff] at h1;omega
   have HG:Hid (Gath w4 w4.heap.size (.slice none 0 0) [] ((L.take 0).map (Kbo res width all))):=Gath.nil _ _;have HOK:Hid (((L.take 0).map (Kbo res width all)).all fitB=true):=rfl;have HBQ:Hid (Below w4.heap.size w4 w4):=Below.refl _ _;clear hL hLl hE4 hb4 HS3 HB3;go_wp2_with fail
   go_loopg [11,41] n4 (fun kx s11 s41 wr=>∃(i:Nat) (xs:List CH),s41 = .int .i64 (i:Int)∧i+kx=n4∧Hid (xs.length=i)∧Hid (Below w4.heap.size w4 wr)∧Hid (Gath wr w4.heap.size s11 xs ((L.take i).map (Kbo res width all)))∧Hid (((L.take i).map (Kbo res width all)).all fitB=true))
   case atStart=>exact ⟨0,[],rfl,by omega,rfl,HBQ,HG,HOK⟩
   case round=>
    clear HBQ HG HOK;obtain ⟨i,xs,rfl,hi,HXL,HB,HG,HOK⟩:=hrel;obtain ⟨A7,c7,hv7⟩:=Kan HG.out.row;rw[HXL.out] at hv7;subst hv7;rcases Nat.lt_or_ge i n4 with hlt | hge
    ·have hlz:(i:Int) < (n4:Int):=by omega
     obtain ⟨b0,off0,hA0,hb0,hc0⟩:=HE4.out.2 (by omega);obtain ⟨f,hf⟩:∃f,L[i]? = some f:=⟨L[i]'(by rw[HLL.out];exact hlt),List.getElem?_eq_getElem _⟩;have hfm:f∈L:=List.mem_of_getElem? hf;obtain ⟨hf1,hf2⟩:=Kkm hw0 HL.out hfm
     have k0:wr.cell? ⟨b0,off0+i,none⟩=some (.int .i64 f):=by
      have:=(HB.out.cell (p:=⟨b0,off0+i*1+0,none⟩) hb0).trans (hc0 i f hf 0 _ rfl);simpa using this
     have hbl:b0 < wr.heap.size:=Nat.lt_of_lt_of_le hb0 HB.out.size;obtain ⟨cc,hcc⟩:∃cc,cc=Kbo res width all f:=⟨_,rfl⟩
     have HTK:Hid ((L.take (i+1)).map (Kbo res width all)=(L.take i).map (Kbo res width all) ++ [cc]):=by
      show _=_
      rw[List.take_add_one,hf,List.map_append,hcc];rfl
     obtain ⟨to_,hto⟩:∃x,x=min (f+width) 1125899906842625:=⟨_,rfl⟩;have HCC:Hid (cc.res=res∧cc.frm=f∧cc.to_=to_∧cc.series=clipF f (to_ - 1) all):=by show _∧_;rw[hcc,hto];exact ⟨rfl,rfl,rfl,rfl⟩
     have hto1:f < to_∧to_≤1125899906842625:=by omega
     have HCM:Hid (cc∈L.map (Kbo res width all)):=by show _∈_;rw[hcc];exact List.mem_map_of_mem hfm
     have HZC:Hid (SSz cc.series):=by show SSz _;rw[HCC.out.2.2.2];exact HZA.out.sub (Kil _ _ all)
     have HSC:Hid (∀W,Below wr.heap.size wr W→Calls Tryz.prog 23 #[.slice A3 n3 c3,.int .i64 f,.int .i64 (to_ - 1)] W fun e w'=>∃(A':Option Addr) (n' c':Nat),e = .returned (.slice A' n' c')∧Kbi w' W.heap.size A' n' c' cc.series∧n'≤c'∧Below W.heap.size W w'):=fun W hW=>by
      rw[HCC.out.2.2.2];exact Kkb f (to_ - 1) A3 n3 c3 all W (HZA.out.sersz ((HS4.out.below HB.out).below hW))
     have HBE:Hid (BEnv wr):=HE.out.below (HB4.out.trans (HB.out.mono HB4.out.size));subst hA0;clear hc0 hb0 hf hfm hcc;go_upto_region 11 with fail
     clear k0 hbl;have HTO:Hid (min (f+width) 1125899906842625=to_):=hto.symm;clear hto;go_upto_region 12 with fail
     try rw[HTO.out]
     go_wp2_with fail
     refine (HSC.out wr (Below.refl _ _)).mono ?_;rintro _ w5 ⟨A5,n5,c5,rfl,hso5,hc5,hb5⟩;have HB5:Hid (Below w4.heap.size w4 w5):=HB.out.trans (hb5.mono HB.out.size);have HG5:Hid (Gath w5 w4.heap.size (.slice A7 i c7) xs ((L.take i).map (Kbo res width all))):=HG.out.below hb5;have HBE5:Hid (BEnv w5):=HBE.out.below hb5;obtain ⟨w6,hw6⟩:∃y,y=w5.alloc (.cells #[.int .i64 res,.int .i64 f,.int .i64 to_,.slice A5 n5 c5] 28):=⟨_,rfl⟩;obtain ⟨p6,hp6⟩:∃y,y=w5.heap.size:=⟨_,rfl⟩;have hb6:Below w5.heap.size w5 w6:=by rw[hw6];exact (Below.refl _ _).alloc (Nat.le_refl _) _
     have HX6:Hid (Blk w6 p6 28 #[.int .i64 res,.int .i64 f,.int .i64 to_,.slice A5 n5 c5]):=by show Blk _ _ _ _;rw[hw6,hp6];exact Blk.new _ _ _
     have HB6:Hid (Below w4.heap.size w4 w6):=HB5.out.trans (hb6.mono HB5.out.size);have HG6:Hid (Gath w6 w4.heap.size (.slice A7 i c7) xs ((L.take i).map (Kbo res width all))):=HG5.out.below hb6;have HSO6:Hid (Kbi w6 wr.heap.size A5 n5 c5 cc.series):=hso5.below hb6;obtain ⟨er,her⟩:∃er:Int,er=(if fitB cc=true then (0:Int) else 190):=⟨_,rfl⟩
     have HBL:Hid (Calls Tryz.prog 19 #[.agg #[.int .i64 res,.int .i64 f,.int .i64 to_,.slice A5 n5 c5]] w6 fun e w'=>(∃S0 S1 S2,e = .returned (.tuple #[.agg #[.string S0,.string S1,.string S2],.int .i64 er]))∧Below w6.heap.size w6 w'):=by
      have:=Krt cc A5 n5 c5 w6 (HZC.out.ok HSO6.out.sers.1) (HZC.out.csz cc.res cc.frm cc.to_) (HBE5.out.below hb6);rw[HCC.out.1,HCC.out.2.1,HCC.out.2.2.1,←her] at this;refine this.mono ?_;rintro e w' ⟨⟨S0,S1,S2,he,_⟩,hb⟩;exact ⟨⟨S0,S1,S2,he⟩,hb⟩
     have HW6:Hid (w6=w5.alloc (.cells #[.int .i64 res,.int .i64 f,.int .i64 to_,.slice A5 n5 c5] 28)∧p6=w5.heap.size):=⟨hw6,hp6⟩;have HER:=Jh her;clear hso5 hc5 hb5 hw6 hp6 hb6 her HB HG HBE HSC HB5 HG5 HBE5;go_upto_region 13 with fail
     try rw[←HW6.out.1]
     try rw[←HW6.out.2]
     clear HW6;have z0:=HX6.out.cell 0;have z1:=HX6.out.cell 1;have z2:=HX6.out.cell 2;have z3:=HX6.out.cell 3;simp at z0 z1 z2 z3;have zl:=HX6.out.lt;go_wp2_with fail
     refine HBL.out.mono ?_;rintro _ w7 ⟨⟨S0,S1,S2,rfl⟩,hb7⟩;clear z0 z1 z2 z3 zl HBL;obtain ⟨w8,hw8⟩:∃y,y=w7.alloc (.cells #[.string S0,.string S1,.string S2] 44):=⟨_,rfl⟩;have hb8:Below w6.heap.size w6 w8:=by rw[hw8];exact hb7.alloc hb7.size _
     have HX8:Hid (Blk w8 p6 28 #[.int .i64 res,.int .i64 f,.int .i64 to_,.slice A5 n5 c5]):=HX6.out.below hb8 HX6.out.lt;have HB8:Hid (Below w4.heap.size w4 w8):=HB6.out.trans (hb8.mono HB6.out.size);have HG8:Hid (Gath w8 w4.heap.size (.slice A7 i c7) xs ((L.take i).map (Kbo res width all))):=HG6.out.below hb8;have HSO8:Hid (Kbi w8 wr.heap.size A5 n5 c5 cc.series):=HSO6.out.below hb8;have HW8:=Jh hw8;clear hb7 hw8 hb8 HX6 HB6 HG6 HSO6;go_upto_region 14 with fail
     try rw[←HW8.out]
     clear HW8
     cases hfit:fitB cc with
     | false=>
      obtain rfl:er=190:=by rw[HER.out,hfit];rfl
      have HALLF:Hid ((L.map (Kbo res width all)).all fitB=false):=List.all_eq_false.2 ⟨cc,HCM.out,by rw[hfit];simp⟩;clear hfit HER;go_wp2_with fail
      go_ret2
      exact ⟨.inr (.inr ⟨HW.out,HR.out,L,HL.out,.inl ⟨HALLF.out,rfl⟩⟩),HB4.out.trans (HB8.out.mono HB4.out.size)⟩
     | true=>
      obtain rfl:er=0:=by rw[HER.out,hfit];rfl
      have HOK9:Hid (((L.take (i+1)).map (Kbo res width all)).all fitB=true):=by
       show _=_
       rw[HTK.out,List.all_append,HOK.out];simp[hfit]
      clear hfit HER HOK;have z0:=HX8.out.cell 0;have z1:=HX8.out.cell 1;have z2:=HX8.out.cell 2;have z3:=HX8.out.cell 3;simp at z0 z1 z2 z3;have zl:=HX8.out.lt;obtain ⟨i1,hi1,hy0,hy1,hy2⟩:=info_parts Kxz;obtain ⟨wa,hwa⟩:∃y,y=w8.alloc (.cells #[.int .i64 res,.int .i64 f,.int .i64 to_,.slice A5 n5 c5] 28):=⟨_,rfl⟩;have hba:Below w8.heap.size w8 wa:=by rw[hwa];exact (Below.refl _ _).alloc (Nat.le_refl _) _
      have hnewa:Blk wa w8.heap.size 28 #[.int .i64 res,.int .i64 f,.int .i64 to_,.slice A5 n5 c5]:=by rw[hwa];exact Blk.new _ _ _
      have HGA:Hid (Gath wa w4.heap.size (.slice A7 i c7) xs ((L.take i).map (Kbo res width all))):=HG8.out.below hba;have hrowa:wa.ownsRow w4.heap.size 28 4 (.slice A7 i c7) i (xs.flatMap encCH):=by have:=HGA.out.row;rw[HXL.out] at this;exact this
      have HSOA:Hid (Kbi wa wr.heap.size A5 n5 c5 cc.series):=HSO8.out.below hba;have HBA:Hid (Below w4.heap.size w4 wa):=HB8.out.trans (hba.mono HB8.out.size);have hza:w4.heap.size≤wa.heap.size:=HBA.out.size;have HROWA:=Jh hrowa;clear hba HX8 HG8 HSO8 HB8;go_wp2_with (at_builtin;(try rw[←hwa]);refine wpList_append_own_at _ rfl _ _ 23 rfl w4.heap.size 28 i1 (.agg #[.int .i64 0,.int .i64 0,.int .i64 0,.slice none 0 0]) 4 48 Tryz.underlying23 hi1 hy0 hy1 hy2 rfl (by decide) (.slice A7 i c7) i _ rfl hrowa ⟨w8.heap.size,0,none⟩ 1 1 [.int .i64 res,.int .i64 f,.int .i64 to_,.slice A5 n5 c5] rfl rfl (Kav (l:=[.int .i64 res,.int .i64 f,.int .i64 to_,.slice A5 n5 c5]) hnewa) ?p2 ?p3 ?p4 ?p5 ?_)
      case p2=>intro u hu;simp only[List.mem_cons,List.not_mem_nil,or_false] at hu;rcases hu with rfl | rfl | rfl | rfl <;> rfl
      case p3=>unfold maxLen;omega
      case p4=>omega
      case p5=>exact hza
      intro v9 w9 hown' hgrow _ _;rw[←hwa] at hgrow;have HB9:Hid (Below w4.heap.size w4 w9):=HBA.out.grown hgrow hza (fun k hk=>(HROWA.out.lt k hk).1)
      have HG9:Hid (Gath w9 w4.heap.size v9 (xs ++ [⟨res,f,to_,⟨A5,n5,c5⟩⟩]) ((L.take (i+1)).map (Kbo res width all))):=by
       show Gath _ _ _ _ _
       rw[HTK.out];exact HGA.out.more hgrow (x:=⟨res,f,to_,⟨A5,n5,c5⟩⟩) (by rw[HXL.out];exact hown') ⟨HCC.out.1,HCC.out.2.1,HCC.out.2.2.1⟩ HZC.out HSOA.out
      have HXL9:Hid ((xs ++ [(⟨res,f,to_,⟨A5,n5,c5⟩⟩:CH)]).length=i+1):=by show _=_;rw[Jd,HXL.out];rfl
      generalize xs ++ [(⟨res,f,to_,⟨A5,n5,c5⟩⟩:CH)]=xs9 at HG9 HXL9;clear hown' hgrow hrowa hnewa HROWA HBA HSOA HGA hwa hza z0 z1 z2 z3 zl hi1 hy0 hy1 hy2 HTK HCC HCM HZC;go_wp2_with fail
      go_roundg (n4 - (i+1))
      case measure=>omega
      case rel=>exact ⟨i+1,xs9,by first | rfl | go_num,by omega,HXL9,HB9,HG9,HOK9⟩
    ·have hlz:¬(i:Int) < (n4:Int):=by omega
     have hin:i=n4:=by omega
     have htl:L.take i=L:=List.take_of_length_le (by rw[HLL.out];omega);rw[htl] at HG HOK;have HF:Hid (Kdg wr A7 n4 xs (L.map (Kbo res width all))∧n4≤c7):=by have h0:=HG.out.conts HXL.out (by omega);rw[hin] at h0;exact h0
     clear htl HG hw0 hw02 hr1 hr2;go_wp2_with fail
     go_ret2
     exact ⟨.inr (.inr ⟨HW.out,HR.out,L,HL.out,.inr ⟨HOK.out,A7,n4,c7,xs,rfl,HF.out.1,HF.out.2⟩⟩),HB4.out.trans (HB.out.mono HB4.out.size)⟩
  ·have HRN:=Jh hr;clear hS hz hE hw;rcases (by omega:res < 0∨0≤res) with hr1 | hr1
   ·go_enter Tryz.func20,Tryz.ntmps20
    go_wp2_with fail
    refine (HST.out _).mono ?_;rintro _ w1 ⟨rfl,hw1⟩;have hw1:=hw1.symm;subst hw1;clear HST;go_wp2_with fail
    go_ret2
    exact ⟨.inr (.inl ⟨HW.out,HRN.out,rfl⟩),Below.refl _ _⟩
   ·have hr2:3≤res:=by have:=HRN.out;omega
    clear hr;go_enter Tryz.func20,Tryz.ntmps20
    go_wp2_with fail
    refine (HST.out _).mono ?_;rintro _ w1 ⟨rfl,hw1⟩;have hw1:=hw1.symm;subst hw1;clear HST;go_wp2_with fail
    go_ret2
    exact ⟨.inr (.inl ⟨HW.out,HRN.out,rfl⟩),Below.refl _ _⟩
 ·have hst:Kbk 0 width=(0,100):=by rw[Kbk,if_pos (by omega)]
  have HST:Hid (∀W,Calls Tryz.prog 49 #[.int .i64 0,.int .i64 width] W fun e w'=>e = .returned (.tuple #[.int .i64 0,.int .i64 100])∧w'=W):=fun W=>by
   have:=Kft 0 width W;rw[hst] at this;exact this
  have HWN:=Jh hw;clear hst hS hz hE hw;go_enter Tryz.func20,Tryz.ntmps20
  go_wp2_with fail
  refine (HST.out _).mono ?_;rintro _ w1 ⟨rfl,hw1⟩;have hw1:=hw1.symm;subst hw1;clear HST;go_wp2_with fail
  go_ret2
  exact ⟨.inl ⟨HWN.out,rfl⟩,Below.refl _ _⟩
end
end
section
open Go.ChangeShapes Go.WideShapes Go.ChangeAt Go.RowKit Go.Deep
instance gonePI:Inhabited (Hd4×GoneP):=⟨(⟨⟨none,0,0⟩,⟨none,0,0⟩,⟨none,0,0⟩,⟨none,0,0⟩⟩,⟨[],fun _=>[]⟩)⟩
instance spnI:Inhabited Spn:=⟨⟨0,0⟩⟩
instance chCI:Inhabited (CH×Cont):=⟨(⟨0,0,0,⟨none,0,0⟩⟩,⟨0,0,0,[]⟩)⟩
section
variable {H : Type} {enc : TypeId × Value → H} {w : World} {base : Nat} {spare : Nat → Bool} {held : Bool}
theorem Kyj {fuel:Nat} {v:Value} {x:DataW H×List MemPlace} (h:DataW.trod enc Tryz.prog w base spare held fuel 26 [v]=some x) :
  ∃A n c L,v = .slice A n c∧n≤c∧Sers w A n L∧(∀s∈L,(∀x∈s.samples,x.v < 2 ^ 64)∧∀x∈s.windows,Kcs x)∧(L.map Ser.mass).sum+1≤Rows.uptoBulk x.1:=by
 obtain ⟨A,n,c,hs,rfl,_,h2,h3,ds,sp,hx,hl,hQ⟩:=Khl (ea:=encH3) (Q:=fun d y=>∃s,SerIn w y s∧Ser.mass s≤Rows.uptoBulk d) Tryz.underlying26 Kpl (by omega) (fun _=>rfl) (fun _ _ _ h=>Qdj h) h;have hn:=h3.len
 obtain ⟨f,hf⟩:=choose_lt (α:=Ser) (n:=n) (p:=fun i s=>∀d y,ds[i]? = some d→hs[i]? = some y→SerIn w y s∧Ser.mass s≤Rows.uptoBulk d) (by
  intro i hi;have h1:i < hs.length:=by omega
  have h4:i < ds.length:=by omega
  obtain ⟨l,hl'⟩:=hQ i ds[i] hs[i] (List.getElem?_eq_getElem h4) (List.getElem?_eq_getElem h1);refine ⟨l,fun d y hd hy=>?_⟩;rw[List.getElem?_eq_getElem h4] at hd;rw[List.getElem?_eq_getElem h1] at hy;injection hd with hd;injection hy with hy;subst hd hy
  exact hl')
 have hS:Sers w A n ((List.range n).map f):=⟨hs,h3,by simp,fun i y hy=>by
  have hi:i < n:=by have:=(List.getElem?_eq_some_iff.1 hy).1;omega
  have h4:i < ds.length:=by omega
  obtain ⟨a1,a2⟩:=hf i hi ds[i] y (List.getElem?_eq_getElem h4) hy;rw[getElem!_pos _ i (by simpa using hi)]
  simpa using a1.at_⟩
 refine ⟨A,n,c,(List.range n).map f,rfl,h2,hS,fun s hs9=>?_,?_⟩
 ·obtain ⟨i,hi,rfl⟩:=List.mem_map.1 hs9;have hi:i < n:=List.mem_range.1 hi;have h1:i < hs.length:=by omega
  have h4:i < ds.length:=by omega
  obtain ⟨a1,a2⟩:=hf i hi ds[i] hs[i] (List.getElem?_eq_getElem h4) (List.getElem?_eq_getElem h1);exact ⟨a1.v,a1.b⟩
 ·refine Kih Ser.mass hx (by simp;omega) fun i d l hd hl'=>?_
  have hi:i < n:=by have:=(List.getElem?_eq_some_iff.1 hl').1;simpa using this
  have e:f i=l:=by simpa[hi] using hl'
  have h1:i < hs.length:=by omega
  rw[←e];exact (hf i hi d hs[i] hd (List.getElem?_eq_getElem h1)).2
theorem Qgc {L:List Ser} (hb:∀s∈L,(∀x∈s.samples,x.v < 2 ^ 64)∧∀x∈s.windows,Kcs x) (hm:(L.map Ser.mass).sum≤1048576):∀s∈L,SerSz s:=fun s hs=>by
 have h5:=Kxd Ser.mass hs;have h7:massL s.labels+s.samples.length+s.windows.length+2≤(L.map Ser.mass).sum:=h5;have h6:=Kpv s.labels;refine ⟨by omega,by omega,by omega,(hb s hs).1,(hb s hs).2,fun y hy=>?_⟩;have:=Qap hy;omega
end
end
end Go.Proofs.YtdoiekknhnbepaaGreatDoor
