/- Merged (what the claim wants of): DskInv, RdkWalksC, DskLaw, DskStep, DskTwo, DskRun, StoDisk, ErrIs, StoPut, KptSave, KptLawA, KptLawB, KptLawC, OpenS, OpenBulk, OpenSym, OpenLab, OpenSets, KptOpen, KptLawD, DskLaid. -/
import Derived.Test.YtefpndiiedkmpaaGreatDoorKpa13
import Derived.Test.YtefpndiiedkmpaaGreatDoorKpa11
import Derived.Test.YtefpndiiedkmpaaGreatDoorKpa03
import Derived.Laws.OwnMore
import Derived.Deep.AppendLies
import Derived.Deep.Onto
import Derived.Sort.Walk0
import Derived.Deep.RegionHeldLaw
import Derived.Laws.AppendOwnNone
import Derived.LaidEql
import Derived.Stop.Asserts
import Derived.RowKitTokens
import Derived.Test.YtefpndiiedkmpaaGreatDoorKpa02
import Derived.Test.YtefpndiiedkmpaaGreatDoorKpa05
import Derived.Test.YtefpndiiedkmpaaGreatDoorKpa10
import Derived.Test.YtefpndiiedkmpaaGreatDoorRows
import Derived.ProofKit
import Derived.SizedLaws
import Derived.OpenShut
import Derived.ChangeMaps5
import Derived.Test.YtefpndiiedkmpaaGreatDoorKpa01
import Derived.Deep.Slices
import Derived.Stop.LaidTwo
set_option linter.unusedVariables false
set_option linter.unusedSimpArgs false
set_option maxRecDepth 100000
set_option maxHeartbeats 8000000
namespace Go.Proofs.YtefpndiiedkmpaaGreatDoor
section
def Chain (n:Nat):List Th→List St→Prop
 | _,[]=>True
 | l,s :: r=>StOk n l s∧Chain n (Kak l s) r
theorem Chain.append {n:Nat}:∀{l:List Th} {r:List St} {s:St},Chain n l r→StOk n (r.foldl Kak l) s→Chain n l (r ++ [s])
 | _,[],_,_,h=>⟨h,trivial⟩
 | _,_ :: _,_,h,k=>⟨h.1,Chain.append h.2 k⟩
theorem StOk.more {n m:Nat} {l:List Th} {s:St} (h:StOk n l s) (hm:n≤m):StOk m l s:=by
 cases s with
 | mkdir a=>exact h
 | create a i=>exact ⟨h.1,h.2.1,h.2.2.1,by have:=h.2.2.2.1;omega,h.2.2.2.2⟩
 | remove a=>exact h
 | rename a b=>exact h
theorem Chain.more {n m:Nat} (hm:n≤m):∀{l:List Th} {r:List St},Chain n l r→Chain m l r
 | _,[],_=>trivial
 | _,_ :: _,h=>⟨h.1.more hm,Chain.more hm h.2⟩
theorem TW.more {n m:Nat} {l:List Th} (h:TW n l) (hm:n≤m):TW m l:=⟨h.nodup,h.dirs,h.paths,h.par,fun x hx hd=>by have:=h.ats x hx hd;omega,h.inj⟩
theorem Chain.tw {n:Nat}:∀{l:List Th} {r:List St},TW n l→Chain n l r→TW n (r.foldl Kak l)
 | _,[],h,_=>h
 | l,s :: r,h,k=>by rw[List.foldl_cons];exact Chain.tw (h.apply k.1) k.2
theorem Chain.at_ {n:Nat}:∀{l:List Th} {r:List St} {i:Nat} {s:St},Chain n l r→r[i]? = some s→StOk n ((r.take i).foldl Kak l) s
 | _,_ :: _,0,_,h,e=>by simp at e;subst e;exact h.1
 | _,_ :: _,_+1,_,h,e=>by simpa using Chain.at_ h.2 (by simpa using e)
theorem Qah (l:List Th) (s:St):(Kak l s).length≤l.length+1:=by
 cases s with
 | mkdir a=>simp[Kak]
 | create a i=>simp[Kak]
 | remove a=>simp only[Kak];exact Nat.le_succ_of_le (List.length_filter_le _ _)
 | rename a b=>simp only[Kak,List.length_map];exact Nat.le_succ_of_le (List.length_filter_le _ _)
theorem Krg:∀(r:List St) (l:List Th),(r.foldl Kak l).length≤l.length+r.length
 | [],_=>Nat.le_refl _
 | s :: r,l=>by
  have h1:=Krg r (Kak l s);have h2:=Qah l s;simp only[List.foldl_cons,List.length_cons];omega
def lenOf:List Ch→Nat→Nat
 | [],n=>n
 | c :: r,n=>lenOf r (if c.cut then c.size else n+c.text.length)
theorem Kkr:∀(r:List Ch) (c:Ch) (n:Nat),lenOf (r ++ [c]) n=if c.cut then c.size else lenOf r n+c.text.length
 | [],c,n=>rfl
 | x :: r,c,n=>by rw[List.cons_append,lenOf,Kkr r c];rfl
theorem Kwr (r:List Ch) (c:Ch):units (r ++ [c])=units r+(c.text.length+if c.cut then 1 else 0):=by
 unfold units;simp
theorem Qck (r:List Ch) (c:Ch):units (c :: r)=(c.text.length+if c.cut then 1 else 0)+units r:=by
 unfold units;simp
theorem Knj {M:Nat}:∀(r:List Ch) (n:Nat),Kcg M r n→lenOf r n≤n+units r
 | [],n,_=>by simp[lenOf]
 | c :: r,n,h=>by
  rw[lenOf,Qck];unfold Kcg at h
  cases hc:c.cut with
  | true=>
   rw[hc] at h;simp only[if_true] at h ⊢;have:=Knj r c.size h.2;omega
  | false=>
   rw[hc] at h;simp only[Bool.false_eq_true,if_false] at h ⊢;have:=Knj r _ h.2;omega
theorem Kcg.more {M M':Nat} (hM:M≤M'):∀{r:List Ch} {n:Nat},Kcg M r n→Kcg M' r n
 | [],_,_=>trivial
 | c :: r,n,h=>by
  unfold Kcg at h ⊢
  split
  ·rename_i hc
   rw[if_pos hc] at h;exact ⟨h.1,Kcg.more hM h.2⟩
  ·rename_i hc
   rw[if_neg hc] at h;exact ⟨by omega,Kcg.more hM h.2⟩
theorem Kcg.append {M:Nat}:∀{r:List Ch} {c:Ch} {n:Nat},Kcg M r n→(if c.cut then c.size≤lenOf r n else lenOf r n+c.text.length≤M)→Kcg M (r ++ [c]) n
 | [],c,n,_,h=>by
  rw[List.nil_append];unfold Kcg
  split
  ·rename_i hc
   rw[if_pos hc] at h;exact ⟨h,trivial⟩
  ·rename_i hc
   rw[if_neg hc] at h;exact ⟨h,trivial⟩
 | x :: r,c,n,h,k=>by
  rw[List.cons_append];unfold Kcg at h ⊢;rw[lenOf] at k
  split
  ·rename_i hx
   rw[if_pos hx] at h k;exact ⟨h.1,Kcg.append h.2 k⟩
  ·rename_i hx
   rw[if_neg hx] at h k;exact ⟨h.1,Kcg.append h.2 k⟩
structure FOk (M:Nat) (f:By):Prop where
 ok:Kcg M f.steps f.safe.length
 len:lenOf f.steps f.safe.length=f.now.length
 sum:f.safe.length+units f.steps≤M
 sl:f.steps.length≤M
section
variable {M M' : Nat} {f : By}
theorem FOk.more (h:FOk M f) (hM:M≤M'):FOk M' f:=⟨h.ok.more hM,h.len,Nat.le_trans h.sum hM,Nat.le_trans h.sl hM⟩
theorem FOk.now (h:FOk M f):f.now.length≤M:=by
 have h1:=Knj _ _ h.ok;have h2:=h.len;have h3:=h.sum;omega
theorem FOk.plain {s:Txt} (h:s.length≤M):FOk M ⟨s,s,[]⟩:=⟨trivial,rfl,by simp[units];exact h,Nat.zero_le _⟩
theorem FOk.append (h:FOk M f) (t:Txt):FOk (M+t.length+1) { f with now:=f.now++t,steps:=f.steps ++ [⟨t,false,0⟩] } where
 ok:=(h.ok.more (by omega)).append (by
  have h1:=h.now;have h2:=h.len;simp only[Bool.false_eq_true,if_false]
  omega)
 len:=by
  have h2:=h.len;simp[Kkr,h2]
 sum:=by
  have h3:=h.sum;simp only[Kwr,Bool.false_eq_true,if_false];omega
 sl:=by
  have:=h.sl;simp;omega
end
structure WF (M:Nat) (d:Ds):Prop where
 safe:TW d.files.length d.safe
 chain:Chain d.files.length d.safe d.steps
 things:d.things=d.steps.foldl Kak d.safe
 files:∀f∈d.files,FOk M f
 names:d.safe.length+d.steps.length≤M
 fl:d.files.length≤M
 aw:d.await≤9223372036854775807
 cap:d.cap≤67108864
section
variable {M M' : Nat} {d : Ds}
theorem WF.more (h:WF M d) (hM:M≤M'):WF M' d:=⟨h.safe,h.chain,h.things,fun f hf=>(h.files f hf).more hM,Nat.le_trans h.names hM,Nat.le_trans h.fl hM,h.aw,h.cap⟩
theorem WF.tw (h:WF M d):TW d.files.length d.things:=by rw[h.things];exact h.chain.tw h.safe
theorem WF.tl (h:WF M d):d.things.length≤M:=by
 rw[h.things];exact Nat.le_trans (Krg _ _) h.names
theorem WF.fit (h:WF M d) (hM:M≤536870912):Fit d:=⟨h.tw,Nat.le_trans h.tl hM,by have:=h.names;omega,Nat.le_trans h.fl hM,h.aw⟩
theorem WF.nums (h:WF M d):Nums d:=by
 refine ⟨h.tw.ats,h.safe.ats,fun s i hs=>?_⟩;obtain ⟨j,hj⟩:=List.mem_iff_getElem?.1 hs;exact (h.chain.at_ hj).2.2.2.1
theorem WF.fAt (h:WF M d) (i:Nat):FOk M (fAt d i):=by
 unfold Go.Proofs.YtefpndiiedkmpaaGreatDoor.fAt
 cases hf:d.files[i]? with
 | none=>exact FOk.plain (Nat.zero_le _)
 | some f=>exact h.files f (List.mem_of_getElem? hf)
theorem WF.new (n:Int):WF 0 (newD n) where
 safe:=⟨by simp[newD],by simp[newD],by simp[newD],by simp[newD],by simp[newD],by simp[newD]⟩
 chain:=trivial
 things:=rfl
 files:=by simp[newD]
 names:=by simp[newD]
 fl:=by simp[newD]
 aw:=by simp[newD]
 cap:=by simp[newD];omega
theorem WF.same (h:WF M d) {d':Ds} (h1:d'.things=d.things) (h2:d'.safe=d.safe) (h3:d'.steps=d.steps) (h4:d'.files=d.files) (h5:d'.await≤9223372036854775807) (h6:d'.cap=d.cap):WF M d':=
 ⟨by rw[h4,h2];exact h.safe,by rw[h4,h2,h3];exact h.chain,by rw[h1,h2,h3];exact h.things,by rw[h4];exact h.files,by rw[h2,h3];exact h.names,by rw[h4];exact h.fl,h5,by rw[h6];exact h.cap⟩
theorem Kgv (d:Ds):(stepD d).2.things=d.things∧(stepD d).2.safe=d.safe∧(stepD d).2.steps=d.steps∧(stepD d).2.files=d.files∧(stepD d).2.await≤d.await∧(stepD d).2.cap=d.cap:=by
 unfold stepD
 split
 ·exact ⟨rfl,rfl,rfl,rfl,Nat.le_refl _,rfl⟩
 ·split
  ·exact ⟨rfl,rfl,rfl,rfl,Nat.zero_le _,rfl⟩
  ·exact ⟨rfl,rfl,rfl,rfl,Nat.sub_le _ _,rfl⟩
theorem WF.step (h:WF M d):WF M (stepD d).2:=by
 obtain ⟨h1,h2,h3,h4,h5,h6⟩:=Kgv d;exact h.same h1 h2 h3 h4 (Nat.le_trans h5 h.aw) h6
theorem WF.names_ (h:WF M d) {s:St} (hs:StOk d.files.length d.things s):WF (M+1) (Kax d s).2:=by
 unfold Kax;obtain ⟨h1,h2,h3,h4,h5,h6⟩:=Kgv d
 split
 ·exact h.step.more (by omega)
 ·exact {
   safe:=by simp only[h2,h4];exact h.safe
   chain:=by simp only[h2,h4];exact h.chain.append (by rw[←h.things];exact hs)
   things:=by simp only[h2];rw[List.foldl_append,←h.things];rfl
   files:=by simp only[h4];exact fun f hf=>(h.files f hf).more (by omega)
   names:=by simp only[h2,List.length_append];have:=h.names;simp;omega
   fl:=by simp only[h4];have:=h.fl;omega
   aw:=Nat.le_trans h5 h.aw
   cap:=by simp only[h6];exact h.cap }
theorem WF.mkdir (h:WF M d) (s:Txt):WF (M+1) (Qeo d s).2:=by
 unfold Qeo
 split
 ·exact h.more (by omega)
 split
 ·exact h.more (by omega)
 split
 ·exact h.more (by omega)
 rename_i h1 h2 h3
 exact h.names_ ⟨by simpa using h2,by simpa using h3⟩
theorem WF.remove (h:WF M d) (s:Txt):WF (M+1) (Kat d s).2:=by
 unfold Kat
 split
 ·exact h.more (by omega)
 split
 ·exact h.more (by omega)
 split
 ·exact h.more (by omega)
 rename_i h1 h2 h3
 exact h.names_ ⟨by simpa using h2,by simpa using h3⟩
theorem WF.rename (h:WF M d) (a b:Txt):WF (M+1) (Kal d a b).2:=by
 unfold Kal
 split
 ·exact h.more (by omega)
 split
 ·exact h.more (by omega)
 split
 ·exact h.more (by omega)
 split
 ·exact h.more (by omega)
 split
 ·exact h.more (by omega)
 rename_i h1 h2 h3 h4 h5
 simp only[not_or,not_and,Bool.not_eq_false] at h2 h3 h4 h5;refine h.names_ ⟨h2.1,h2.2,h4.1,h4.2,h5.1,fun e=>⟨h3 e,?_⟩,?_⟩
 ·rcases Kdw d.things b with h0 | h0 | h0
  ·exact h0
  ·exact absurd e (h5.2 h0).1
  ·exact absurd h0 h5.1
 ·rintro rfl;rcases Kdw d.things a with h0 | h0 | h0
  ·exact h4.1 h0
  ·exact (h5.2 h0).2 rfl
  ·exact h5.1 h0
theorem WF.create (h:WF M d) (s:Txt):WF (M+1) (Kbj d s).2:=by
 unfold Kbj
 split
 ·exact h.more (by omega)
 split
 ·exact h.more (by omega)
 split
 ·exact h.more (by omega)
 split
 ·exact h.more (by omega)
 split
 ·exact h.step.more (by omega)
 rename_i h1 h2 h3 h4 h5
 obtain ⟨k1,k2,k3,k4,k5,k6⟩:=Kgv d
 have e:(Kax d (.create s d.files.length)).2 = { (stepD d).2 with things:=Kak d.things (.create s d.files.length),steps:=d.steps ++ [.create s d.files.length] }:=by
  unfold Kax;rw[if_neg h5]
 rw[e];have hle:d.files.length≤(d.files ++ [(⟨[],[],[]⟩:By)]).length:=by simp
 exact {
  safe:=by simp only[k2];exact h.safe.more hle
  chain:=by
   simp only[k2];refine (h.chain.more hle).append ?_;rw[←h.things];exact ⟨by simpa using h2,by simpa using h3,by simpa using h4,by simp,fun x hx hd=>Nat.ne_of_lt (h.tw.ats x hx hd)⟩
  things:=by simp only[k2];rw[List.foldl_append,←h.things];rfl
  files:=by
   intro f hf;rcases List.mem_append.1 hf with hf | hf
   ·exact (h.files f hf).more (by omega)
   ·rw[List.mem_singleton.1 hf];exact FOk.plain (Nat.zero_le _)
  names:=by simp only[k2,List.length_append];have:=h.names;simp;omega
  fl:=by have:=h.fl;simp;omega
  aw:=Nat.le_trans k5 h.aw
  cap:=by simp only[k6];exact h.cap }
theorem WF.set_ (h:WF M d) {i:Nat} {f:By} (hf:FOk M' f) (hM:M≤M'):WF M' (setF d i f) where
 safe:=by simp only[setF,List.length_set];exact h.safe
 chain:=by simp only[setF,List.length_set];exact h.chain
 things:=h.things
 files:=by
  intro g hg;rcases List.mem_or_eq_of_mem_set hg with hg | rfl
  ·exact (h.files g hg).more hM
  ·exact hf
 names:=Nat.le_trans h.names hM
 fl:=by simp only[setF,List.length_set];exact Nat.le_trans h.fl hM
 aw:=h.aw
 cap:=h.cap
theorem WF.append (h:WF M d) (s t:Txt):WF (M+t.length+1) (Kbv d s t).2:=by
 unfold Kbv
 split
 ·exact h.more (by omega)
 split
 ·exact h.more (by omega)
 split
 ·exact h.step.more (by omega)
 rename_i i _ _ _
 exact h.step.set_ ((h.fAt i).append t) (by omega)
theorem WF.sync (h:WF M d) (s:Txt):WF (M+1) (syncD d s).2:=by
 unfold syncD
 split
 ·exact h.more (by omega)
 split
 ·exact h.step.more (by omega)
 rename_i i _ _
 exact h.step.set_ (FOk.plain (Nat.le_succ_of_le (h.fAt i).now)) (by omega)
theorem WF.syncNames (h:WF M d):WF (M+1) (Kbf d).2:=by
 unfold Kbf
 split
 ·exact h.more (by omega)
 split
 ·exact h.step.more (by omega)
 obtain ⟨k1,k2,k3,k4,k5,k6⟩:=Kgv d
 exact {
  safe:=by simp only[k4];exact h.tw
  chain:=trivial
  things:=by simp only[k1];rfl
  files:=by simp only[k4];exact fun f hf=>(h.files f hf).more (by omega)
  names:=by have:=h.tl;simp;omega
  fl:=by simp only[k4];have:=h.fl;omega
  aw:=Nat.le_trans k5 h.aw
  cap:=by simp only[k6];exact h.cap }
end
end
section
open Go.RowKit Go.Shelf Go.Maps Go.Sort
attribute [local go_sem ↓] Go.wp_at_zero Go.wp_at_succ
attribute [local go_sem] Later.cell
def one:St→Th→List Th
 | .mkdir _,x=>[x]
 | .create _ _,x=>[x]
 | .remove a,x=>if x.path == a || Kbw x.path a then [] else [x]
 | .rename a b,x=>if x.path == b then [] else [mv a b x]
section
variable {l : List Th} {X : Option Addr} {n c : Nat} {w : World}
end
def Apart (a:Nat→Addr):Prop:=∀i j,1≤i→i≤7→1≤j→j≤7→i≠j→a i≠a j
section
variable {B0 : Nat} {a : Nat → Addr}
def Sents (B0:Nat) (a:Nat→Addr) (w:World):Prop:=∀k,1≤k→k≤7→(a k).block < B0∧∃cs t,w.heap[(a k).block]? = some (.cells cs t (0,0))
theorem Sents.below {w w':World} (h:Sents B0 a w) (hb:Below B0 w w'):Sents B0 a w':=fun k h1 h2=>by
 obtain ⟨h3,cs,t,h4⟩:=h k h1 h2;exact ⟨h3,cs,t,(hb.block _ h3).trans h4⟩
theorem Kzh:(Tryz.prog.info? 360).map (·.comparable)=some true:=by kernel_rfl
theorem Kzi:(Tryz.prog.info? 382).map (·.size)=some 1:=by kernel_rfl
theorem Qla (i:Nat) (w:World):(binOp .eql 40 (failV a i) (failV a i)).run Tryz.prog w = .ok (.bool true) w:=by
 obtain ⟨i0,h1,h2⟩:=Option.map_eq_some_iff.1 Kzh;obtain ⟨j0,h3,_⟩:=Option.map_eq_some_iff.1 Kzi;exact run_eql_iface_ptr_same w (a i) Tryz.underlying40 Tryz.underlying360 h1 h2 h3
theorem Qlb {i j:Nat} {w:World} (hs:Sents B0 a w) (ha:Apart a) (h1:1≤i) (h2:i≤7) (h3:1≤j) (h4:j≤7) (hne:i≠j):(binOp .eql 40 (failV a i) (failV a j)).run Tryz.prog w = .ok (.bool false) w:=by
 obtain ⟨i0,k1,k2⟩:=Option.map_eq_some_iff.1 Kzh;obtain ⟨j0,k3,k4⟩:=Option.map_eq_some_iff.1 Kzi;obtain ⟨_,ci,ti,hi⟩:=hs i h1 h2;obtain ⟨_,cj,tj,hj⟩:=hs j h3 h4;exact run_eql_iface_ptr_other w Tryz.underlying40 Tryz.underlying360 k1 k2 k3 (by rw[k4];decide) (ha i j h1 h2 h3 h4 hne) hi hj
end
structure OpV where
 kind:Int
 a:ByteArray
 b:ByteArray
 n:Int
 m:Int
 pa:Option Addr
 pn:Nat
 pc:Nat
 da:Option Addr
 dn:Nat
 dc:Nat
 yes:Bool
section
variable {M : Value → World → Prop} {N : World → Prop} {k : Nat}
end
end
section
open Go.RowKit Go.Shelf Go.Maps Go.Sort
section
variable {B0 M : Nat} {a : Nat → Addr} {R R' S S' : Nat → Nat} {A A' : Adr} {d d' : Ds} {w w' w'' : World}
theorem Qiq (d:Ds):(stepD d).1≤7:=by
 unfold stepD
 repeat' split
 all_goals simp
theorem Qeq (d:Ds) (s:St):(Kax d s).1≤7:=by
 unfold Kax;have:=Qiq d
 repeat' split
 all_goals first | exact this | simp
theorem Qbu (d:Ds) (s:Txt):(Kat d s).1≤7:=by
 unfold Kat;have:=Qeq d (.remove s)
 repeat' split
 all_goals first | exact this | simp
theorem WF.nl (h:WF M d) (hM:M≤536870912):∀i,(Go.Proofs.YtefpndiiedkmpaaGreatDoor.fAt d i).now.length≤1073741824:=fun i=>by have:=(h.fAt i).now;omega
theorem WF.sl (h:WF M d) (hM:M≤536870912):∀i,(Go.Proofs.YtefpndiiedkmpaaGreatDoor.fAt d i).steps.length≤1073741824:=fun i=>by have:=(h.fAt i).sl;omega
theorem WF.usedL (h:WF M d):∀l:List Th,Go.Proofs.YtefpndiiedkmpaaGreatDoor.usedL d l≤l.length*M
 | []=>by simp[Go.Proofs.YtefpndiiedkmpaaGreatDoor.usedL]
 | x :: l=>by
  have h1:=h.usedL l
  have h2:(if x.dir then 0 else (nowAt d x.at_).length)≤M:=by
   split
   ·omega
   ·have:=(h.fAt x.at_).now;exact this
  have h3:Go.Proofs.YtefpndiiedkmpaaGreatDoor.usedL d (x :: l)=(if x.dir then 0 else (nowAt d x.at_).length)+Go.Proofs.YtefpndiiedkmpaaGreatDoor.usedL d l:=by simp[Go.Proofs.YtefpndiiedkmpaaGreatDoor.usedL]
  rw[h3,List.length_cons,Nat.add_mul];omega
theorem WF.used (h:WF M d) (hM:M≤536870912):Go.Proofs.YtefpndiiedkmpaaGreatDoor.usedL d d.things≤4611686018427387904:=by
 have h1:=h.usedL d.things;have h2:=h.tl;have h3:d.things.length*M≤536870912*536870912:=Nat.mul_le_mul (by omega) hM;omega
theorem WF.capl (h:WF M d):d.cap≤4611686018427387904:=by have:=h.cap;omega
end
structure OpE where
 o:OpV
 parts:List Txt
 data:List Int
instance:Inhabited OpE:=⟨⟨⟨0,⟨#[]⟩,⟨#[]⟩,0,0,none,0,0,none,0,0,false⟩,[],[]⟩⟩
section
variable {a : Nat → Addr} {M : Nat} {W w w' : World} {p q : Nat} {d : Ds}
end
structure Out (R R':Nat→Nat) (w w':World):Prop where
 os:w'.os=w.os
 tape:w'.tape=w.tape
 output:w'.output=w.output
 size:w.heap.size≤w'.heap.size
 block:∀k,k < w.heap.size→R k=0→w'.heap[k]? = w.heap[k]?
 old:∀k,k < w.heap.size→R k=0→R' k=0
section
variable {R R' R'' : Nat → Nat} {w w' w'' : World} {a : Nat → Addr} {B0 M M' p k : Nat} {d d' : Ds} {A : Adr} {v : Value}
theorem Knf {R:Nat→Nat} {k:Nat} (h:R k=0) (q:Nat):giv R q 0 k=0:=by
 unfold giv
 split
 ·rfl
 ·exact h
theorem Out.of_own (h:Own R R' w w'):Out R R' w w':=⟨h.os,h.tape,h.output,h.size,h.block,fun k hk h0=>(h.old k hk).trans h0⟩
theorem Out.trans (h:Out R R' w w') (k:Out R' R'' w' w''):Out R R'' w w'':=
 ⟨k.os.trans h.os,k.tape.trans h.tape,k.output.trans h.output,Nat.le_trans h.size k.size,
  fun i hi hr=>(k.block i (Nat.lt_of_lt_of_le hi h.size) (h.old i hi hr)).trans (h.block i hi hr),
  fun i hi hr=>k.old i (Nat.lt_of_lt_of_le hi h.size) (h.old i hi hr)⟩
theorem Out.of_below (h:Below w.heap.size w w'):Out R R w w':=⟨h.os,h.tape,h.output,h.size,fun k hk _=>h.block k hk,fun _ _ h=>h⟩
theorem Out.below {B:Nat} (h:Out R R' w w') (hB:B≤w.heap.size) (hR:∀k,k < B→R k=0):Below B w w':=
 ⟨h.os,h.tape,h.output,h.size,fun k hk=>h.block k (by omega) (hR k hk)⟩
theorem Out.free (h:Out R R' w w') (q:Nat):Out R (giv R' q 0) w w':=
 ⟨h.os,h.tape,h.output,h.size,h.block,fun k hk h0=>Knf (h.old k hk h0) q⟩
theorem Out.blk {g:Nat} {t:TypeId} {cs:Array Value} (h:Out R R' w w') (hg:Blk w g t cs) (h0:R g=0):Blk w' g t cs:=(h.block g hg.lt h0).trans hg
theorem RowIs.free {r:Nat} {T T2:TypeId} {sz n q:Nat} {xs:List Value} {cs:Array Value} (h:RowIs w R r T sz v n xs) (hq:Blk w q T2 cs) (hne:T≠T2):RowIs w (giv R q 0) r T sz v n xs:=by
 refine ⟨h.1,fun g hg=>?_⟩;rw[Kay,h.2 g hg];rintro rfl;rcases h.1.2 with ⟨rfl,_⟩ | ⟨g,cap,cur,rfl,_,h4,_⟩
 ·cases hg
 ·injection hg with hg;subst hg;exact (Blk.ne_ (t:=T) (cs:=cur) h4 hq hne) rfl
theorem Box.free {b q:Nat} {T T2:TypeId} {cs:Array Value} (h:Box w R b T v) (hq:Blk w q T2 cs) (hne:T≠T2):Box w (giv R q 0) b T v:=⟨h.1,by rw[Kay (Blk.ne_ h.1 hq hne)];exact h.2⟩
theorem MapM.free {r b q:Nat} {f:Txt→Option Value} {T2:TypeId} {cs:Array Value} (h:MapM w R r b f) (hq:Blk w q T2 cs):MapM w (giv R q 0) r b f:=by
 refine ⟨h.1,?_⟩;rw[Kay]
 ·exact h.2
 ·rintro rfl;obtain ⟨D,⟨es,clock,h1,_⟩,_⟩:=h.1;unfold Blk at hq;rw[hq] at h1;cases h1
theorem CD.free {q:Nat} {cs:Array Value} (h:CD B0 w R A d) (hq:Blk w q 59 cs):CD B0 w (giv R q 0) A d where
 blk:=h.blk
 rp:=by rw[Kay (Blk.ne_ h.blk hq (by decide))];exact h.rp
 dirs:=h.dirs.free hq
 files:=h.files.free hq
 sdirs:=h.sdirs.free hq
 sfiles:=h.sfiles.free hq
 steps:=by
  obtain ⟨fs,h1,h2,h3⟩:=h.steps;refine ⟨fs,h1.free hq (by decide),h2,fun i s f hs hf=>?_⟩;have h4:=h3 i s f hs hf
  cases s with
  | mkdir a=>exact (show False from h4).elim
  | create a i=>obtain ⟨b,c,e,h5,h6⟩:=h4;exact ⟨b,c,e,h5.free hq (by decide),h6.free hq (by decide)⟩
  | rename a a'=>obtain ⟨b,c,e,h5,h6⟩:=h4;exact ⟨b,c,e,h5.free hq (by decide),h6.free hq (by decide)⟩
  | remove a=>obtain ⟨b,e,h5⟩:=h4;exact ⟨b,e,h5.free hq (by decide)⟩
 bytes:=⟨h.bytes.1,fun i b f hb hf=>by
  obtain ⟨v,h1,h2,h3⟩:=h.bytes.2 i b f hb hf
  exact ⟨v,h1,by rw[Kay (Blk.ne_ h1 hq (by decide))];exact h2,h3.free hq (by decide)⟩⟩
 inw:=fun k hk=>h.inw k fun e=>hk (Knf e q)
 low:=fun k hk=>Knf (h.low k hk) q
structure Dk (B0 M:Nat) (w:World) (R:Nat→Nat) (p:Nat) (d:Ds):Prop where
 ex:∃A,CD B0 w R A d∧A.p=p
 wf:WF M d
theorem Dk.below (h:Dk B0 M w R p d) (hb:Below w.heap.size w w'):Dk B0 M w' R p d:=by
 obtain ⟨A,h1,h2⟩:=h.ex;exact ⟨⟨A,h1.below hb,h2⟩,h.wf⟩
theorem Dk.more (h:Dk B0 M w R p d) (hM:M≤M'):Dk B0 M' w R p d:=⟨h.ex,h.wf.more hM⟩
theorem Dk.low (h:Dk B0 M w R p d):∀k,k < B0→R k=0:=by
 obtain ⟨A,h1,h2⟩:=h.ex;exact h1.low
theorem Dk.new (h:Dk B0 M w R p d) {k:Nat} (hk:w.heap.size≤k):R k=0:=by
 obtain ⟨A,h1,h2⟩:=h.ex;exact h1.inw.new hk
def ErrW (a:Nat→Addr) (w:World) (R:Nat→Nat):Nat→Value→Prop
 | 0,v=>v = .nilIface
 | k+1,v=>∃q op path,v = .iface 56 (.pointer (some ⟨q,0,none⟩))∧Blk w q 59 #[.string op,.string path,failV a (k+1)]∧R q=0
theorem ErrW.out (h:ErrW a w R k v) (ho:Out R R' w w'):ErrW a w' R' k v:=by
 cases k with
 | zero=>exact h
 | succ k=>
  obtain ⟨q,op,path,h1,h2,h3⟩:=h;exact ⟨q,op,path,h1,ho.blk h2 h3,ho.old q h2.lt h3⟩
theorem ErrW.nil (h:ErrW a w R k v) (hk:k=0):v = .nilIface:=by subst hk;exact h
theorem ErrW.some_ (h:ErrW a w R k v) (hk:k≠0):∃q op path,v = .iface 56 (.pointer (some ⟨q,0,none⟩))∧Blk w q 59 #[.string op,.string path,failV a k]∧R q=0:=by
 cases k with
 | zero=>exact absurd rfl hk
 | succ k=>exact h
def DkOut (a:Nat→Addr) (B0 M:Nat) (R:Nat→Nat) (p:Nat) (r:Nat×Ds) (w:World) (e:Ending) (w':World):Prop:=
 ∃v R',e = .returned v∧ErrW a w' R' r.1 v∧Dk B0 M w' R' p r.2∧Out R R' w w'
theorem DkOut.mk' {op s:ByteArray} {R':Nat→Nat} (h1:ErrV a w' op s k v) (h2:CD B0 w' R' A d') (h3:Out R R' w w') (hw:WF M d') :
  ∃R'',ErrW a w' R'' k v∧Dk B0 M w' R'' A.p d'∧Out R R'' w w':=by
 cases k with
 | zero=>exact ⟨R',h1,⟨⟨A,h2,rfl⟩,hw⟩,h3⟩
 | succ k=>
  obtain ⟨q,e,h4⟩:=h1;exact ⟨giv R' q 0,⟨q,op,s,e,h4,Kcm _ _ _⟩,⟨⟨A,h2.free h4,rfl⟩,hw⟩,h3.free q⟩
theorem DkOut.of {r:Nat×Ds} {op s:ByteArray} {e:Ending} (h:Kdu B0 a R A r op s w e w') (hw:WF M r.2):DkOut a B0 M R A.p r w e w':=by
 obtain ⟨v,R',A',rfl,h1,h2,h3,h4,_⟩:=h;obtain ⟨R'',k1,k2,k3⟩:=DkOut.mk' h1 h2 (Out.of_own h3) hw;rw[h4] at k2;exact ⟨v,R'',rfl,k1,k2,k3⟩
theorem Dk.create (h:Dk B0 M w R p d) (hM:M≤536870912) (hB:B0≤w.heap.size) (hF:Fails B0 a w) (S:ByteArray) (hS:S.size≤1073741824) :
  Calls Tryz.prog 57 #[.pointer (some ⟨p,0,none⟩),.string S] w (DkOut a B0 (M+1) R p (Kbj d S.data.toList) w):=by
 obtain ⟨A,hc,rfl⟩:=h.ex;exact (Kud S w hc (h.wf.fit hM) h.wf.nums hS hB hF).mono fun _ _ k=>.of k (h.wf.create _)
theorem Dk.append (h:Dk B0 M w R p d) (hM:M≤536870912) (hB:B0≤w.heap.size) (hF:Fails B0 a w) (S:ByteArray) (hS:S.size≤1073741824) (Ao:Option Addr) (t:Txt) (hl:Strs w Ao 1 [t]) (ht:t.length≤140737488351232) :
  Calls Tryz.prog 59 #[.pointer (some ⟨p,0,none⟩),.string S,.slice Ao 1 1] w (DkOut a B0 (M+t.length+1) R p (Kbv d S.data.toList t) w):=by
 obtain ⟨A,hc,rfl⟩:=h.ex;have e:[t].flatten=t:=by simp
 have hk:=Ksj (a:=a) S Ao 1 1 [t] w hc (h.wf.fit hM) hS hB hF hl (by decide) (by decide) (by rw[e];omega) (h.wf.used hM) h.wf.capl (h.wf.nl hM) (h.wf.sl hM);rw[e] at hk;exact hk.mono fun _ _ k=>.of k.weak (h.wf.append _ _)
theorem Dk.sync (h:Dk B0 M w R p d) (hM:M≤536870912) (hB:B0≤w.heap.size) (hF:Fails B0 a w) (S:ByteArray) (hS:S.size≤1073741824) :
  Calls Tryz.prog 61 #[.pointer (some ⟨p,0,none⟩),.string S] w (DkOut a B0 (M+1) R p (syncD d S.data.toList) w):=by
 obtain ⟨A,hc,rfl⟩:=h.ex;exact (Qcd S w hc (h.wf.fit hM) hS hB hF).mono fun _ _ k=>.of k.weak (h.wf.sync _)
theorem Dk.syncNames (h:Dk B0 M w R p d) (hM:M≤536870912) (hB:B0≤w.heap.size) (hF:Fails B0 a w) :
  Calls Tryz.prog 64 #[.pointer (some ⟨p,0,none⟩)] w (DkOut a B0 (M+1) R p (Kbf d) w):=by
 obtain ⟨A,hc,rfl⟩:=h.ex;exact (Kpj w hc (h.wf.fit hM) hB hF).mono fun _ _ k=>.of k.weak h.wf.syncNames
theorem Dk.rename (h:Dk B0 M w R p d) (hM:M≤536870912) (hB:B0≤w.heap.size) (hF:Fails B0 a w) (S S2:ByteArray) (hS:S.size≤1073741824) (hS2:S2.size≤1073741824) :
  Calls Tryz.prog 63 #[.pointer (some ⟨p,0,none⟩),.string S,.string S2] w (DkOut a B0 (M+1) R p (Kal d S.data.toList S2.data.toList) w):=by
 obtain ⟨A,hc,rfl⟩:=h.ex;exact (Kvv S S2 w hc (h.wf.fit hM) hS hS2 hB hF).mono fun _ _ k=>.of k.weak (h.wf.rename _ _)
theorem Dk.remove (h:Dk B0 M w R p d) (hM:M≤536870912) (hB:B0≤w.heap.size) (hF:Fails B0 a w) (S:ByteArray) (hS:S.size≤1073741824) :
  Calls Tryz.prog 54 #[.pointer (some ⟨p,0,none⟩),.string S] w (DkOut a B0 (M+1) R p (Kat d S.data.toList) w):=by
 obtain ⟨A,hc,rfl⟩:=h.ex;exact (Kvu S w hc (h.wf.fit hM) hS hB hF).mono fun _ _ k=>.of k.weak (h.wf.remove _)
def Qkr (a:Nat→Addr) (B0 M:Nat) (R:Nat→Nat) (p:Nat) (d:Ds) (P:Value→World→Prop) (k:Nat) (w:World) (e:Ending) (w':World):Prop:=
 ∃u v R',e = .returned (.tuple #[u,v])∧P u w'∧ErrW a w' R' k v∧Dk B0 M w' R' p d∧Out R R' w w'
theorem Dk.all (h:Dk B0 M w R p d) (hM:M≤536870912) (hB:B0≤w.heap.size) (hF:Fails B0 a w) (S:ByteArray) (hS:S.size≤1073741824) :
  Calls Tryz.prog 21 #[.pointer (some ⟨p,0,none⟩),.string S] w (Qkr a B0 M R p d (fun u _=>u=txtV (allD d S.data.toList).1) (allD d S.data.toList).2 w):=by
 obtain ⟨A,hc,rfl⟩:=h.ex;refine (Qaf S w hc (h.wf.fit hM) hS hB hF).mono ?_;rintro e w2 ⟨v,rfl,hv,hb⟩;obtain ⟨R'',k1,k2,k3⟩:=DkOut.mk' hv (hc.below hb) (Out.of_below (R:=R) hb) h.wf;exact ⟨_,v,R'',rfl,rfl,k1,k2,k3⟩
theorem Dk.made (n:Int) (hn:n≤9223372036854775807) (hn':-9223372036854775808≤n) (w:World) (hB:B0≤w.heap.size) :
  Calls Tryz.prog 16 #[.int .i64 n] w fun x w1=>∃p R,x = .returned (.pointer (some ⟨p,0,none⟩))∧Dk B0 0 w1 R p (newD n)∧Below w.heap.size w w1∧∀k,k < w.heap.size→R k=0:=
 (Qer w.heap.size n w (Nat.le_refl _) hn hn').mono fun x w1 ⟨R,A,e,h1,h2,h3⟩=>⟨A.p,R,e,⟨⟨A,⟨h1.blk,h1.rp,h1.dirs,h1.files,h1.sdirs,h1.sfiles,h1.steps,h1.bytes,h1.inw,fun k hk=>h1.low k (by omega)⟩,rfl⟩,WF.new n⟩,h2,h1.low⟩
end
end
section
open Go.RowKit Go.Extern.Stop Go.Stop Go.Extern
attribute [local go_sem ↓] Go.wp_at_zero Go.wp_at_succ
theorem Qed (v:Value) (w:World):(Extern.ReflectliteType.typeOf #[.iface 360 v]).run Tryz.prog w = .ok (.iface 259 (.agg #[.pointer (some ⟨Tryz.prog.globals.size,360,none⟩)])) w:=by kernel_rfl
def cmpM:Array Value→Sem Value:=Extern.ReflectliteType.method fun t=>do Extern.Rtype.noPackHeld "Comparable" t;pure (.bool (←typeInfo t).comparable)
theorem Kst (w:World):(cmpM #[.agg #[.pointer (some ⟨Tryz.prog.globals.size,360,none⟩)]]).run Tryz.prog w = .ok (.bool true) w:=by kernel_rfl
theorem Qhd (v:Value) (xT:TypeId) (w:World):(Instr.typeAssert (.iface 360 v) xT 261 true).run Tryz.prog w = .ok (.tuple #[.nilIface,.bool false]) w:=run_typeAssert_lacksB Tryz.underlying261 (by kernel_rfl) (by kernel_rfl) v xT w
theorem Kva (v:Value) (xT:TypeId) (w:World):(Instr.typeAssert (.iface 360 v) xT 264 true).run Tryz.prog w = .ok (.tuple #[.nilIface,.bool false]) w:=run_typeAssert_lacksB Tryz.underlying264 (by kernel_rfl) (by kernel_rfl) v xT w
theorem Ksv (v:Value) (xT:TypeId) (w:World):(Instr.typeAssert (.iface 360 v) xT 265 true).run Tryz.prog w = .ok (.tuple #[.nilIface,.bool false]) w:=run_typeAssert_lacksB Tryz.underlying265 (by kernel_rfl) (by kernel_rfl) v xT w
theorem Qhe (v:Value) (xT:TypeId) (w:World):(Instr.typeAssert (.iface 56 v) xT 261 true).run Tryz.prog w = .ok (.tuple #[.nilIface,.bool false]) w:=run_typeAssert_lacksB Tryz.underlying261 (by kernel_rfl) (by kernel_rfl) v xT w
theorem Ksu (v:Value) (xT:TypeId) (w:World):(Instr.typeAssert (.iface 56 v) xT 264 true).run Tryz.prog w = .ok (.tuple #[.iface 56 v,.bool true]) w:=run_typeAssert_hasB Tryz.underlying264 (by kernel_rfl) v xT w
section
variable {B0 : Nat} {a : Nat → Addr}
theorem Qbc (q i j:Nat) (op path:ByteArray) (w:World) (hq:Blk w q 59 #[.string op,.string path,failV a i]) (hs:Sents B0 a w) (ha:Apart a) (h1:1≤i) (h2:i≤7) (h3:1≤j) (h4:j≤7) :
  Calls Tryz.prog 113 #[.iface 56 (.pointer (some ⟨q,0,none⟩)),failV a j,.bool true] w fun e w'=>e = .returned (.bool (decide (i=j)))∧w=w':=by
 have m2:w.cell? ⟨q,2,none⟩=some (failV a i):=hq.cell 2;have nF:=Qhe;have uF:=Ksu;have nE:=Qhd;have uE:=Kva;have vE:=Ksv;have hty:=run_eql_iface_types (P:=Tryz.prog) 56 360 (.pointer (some ⟨q,0,none⟩)) (.pointer (some (a j))) Tryz.underlying40 (by decide) w
 by_cases hij:i=j
 ·subst hij;have heq:=Qla (a:=a) i w;rw[decide_eq_true rfl];unfold failV at m2 heq ⊢;clear hq hs ha;go_enter Tryz.func113,Tryz.ntmps113
  go_wp2
  refine wp_loop_rounds 2 ?_;rw[rounds_succ];go_wp2
  rw[rounds_succ];go_wp2
  go_ret
  exact ⟨rfl,rfl⟩
 ·have hne:=Qlb (w:=w) hs ha h1 h2 h3 h4 hij;rw[decide_eq_false hij];unfold failV at m2 hne ⊢;clear hq hs ha;go_enter Tryz.func113,Tryz.ntmps113
  go_wp2
  refine wp_loop_rounds 2 ?_;rw[rounds_succ];go_wp2
  rw[rounds_succ];go_wp2
  go_ret
  exact ⟨rfl,rfl⟩
theorem Qec (q i j:Nat) (op path:ByteArray) (w:World) (hq:Blk w q 59 #[.string op,.string path,failV a i]) (hs:Sents B0 a w) (ha:Apart a) (h1:1≤i) (h2:i≤7) (h3:1≤j) (h4:j≤7) :
  Calls Tryz.prog 55 #[.iface 56 (.pointer (some ⟨q,0,none⟩)),failV a j] w fun e w'=>e = .returned (.bool (decide (i=j)))∧w=w':=by
 have HI:=Lib.hid (Qbc q i j op path w hq hs ha h1 h2 h3 h4);have h8:=@run_callFunc_extern Tryz.prog 112 _ Extern.ReflectliteType.typeOf Tryz.func112 (by kernel_rfl) (by kernel_rfl) (by kernel_rfl) (by kernel_rfl);have h32:=@run_callFunc_extern Tryz.prog 299 _ cmpM Tryz.func299 (by kernel_rfl) (by kernel_rfl) (by kernel_rfl) (by kernel_rfl);have tT:=Qed;have cT:=Kst;obtain ⟨gs,hgs⟩:∃g,Tryz.prog.globals.size=g:=⟨_,rfl⟩;rw[hgs] at cT;simp only[hgs] at tT;clear hgs;unfold failV at HI ⊢;clear hq hs ha;go_enter Tryz.func55,Tryz.ntmps55
 go_wp2_with fail
 refine HI.out.mono ?_;rintro e w' ⟨rfl,rfl⟩;go_wp2_with fail
 go_ret
 exact ⟨rfl,rfl⟩
theorem Kuz (j:Nat) (w:World) :
  Calls Tryz.prog 55 #[.nilIface,failV a j] w fun e w'=>e = .returned (.bool false)∧w=w':=by
 have hn:=run_eql_iface_nil_left (P:=Tryz.prog) w 360 (.pointer (some (a j))) Tryz.underlying40;unfold failV;go_enter Tryz.func55,Tryz.ntmps55
 go_wp2_with fail
 go_ret
 exact ⟨rfl,rfl⟩
end
end
section
open Go.RowKit Go.Shelf Go.Sort
open Lib renaming hid → Jh
attribute [local go_sem ↓] Go.wp_at_zero Go.wp_at_succ
attribute [local go_sem] Later.cell
section
variable {B0 M p : Nat} {a : Nat → Addr} {R : Nat → Nat} {d : Ds}
theorem Qbn (bd bf:Nat) (F:ByteArray) (w:World) (hD:Dk B0 M w R p d) (hM:M≤536870912) (hB:B0≤w.heap.size) (hF:Fails B0 a w) (hS:F.size≤1073741824)
  (h1:Blk w bd 37 #[.pointer (some ⟨p,0,none⟩)]) (h2:Blk w bf 9 #[.string F]) :
  Calls Tryz.prog 56 #[.pointer (some ⟨bd,0,none⟩),.pointer (some ⟨bf,0,none⟩)] w (DkOut a B0 (M+1) R p (Kbj d F.data.toList) w):=by
 have m1:=h1.cell 0;have m2:=h2.cell 0;have HC:=Jh (hD.create hM hB hF F hS);clear hD hF h1 h2;go_enter Tryz.func56,Tryz.ntmps56
 go_wp2_with fail
 refine HC.out.mono ?_;rintro e w1 ⟨v,R1,rfl,hk⟩;go_wp2_with fail
 go_ret
 exact ⟨v,R1,rfl,hk⟩
theorem Qbo (bd bf bt:Nat) (F T:ByteArray) (w:World) (hD:Dk B0 M w R p d) (hM:M≤536870912) (hB:B0≤w.heap.size) (hF:Fails B0 a w) (hS:F.size≤1073741824) (hT:T.size≤140737488351232)
  (h1:Blk w bd 37 #[.pointer (some ⟨p,0,none⟩)]) (h2:Blk w bf 9 #[.string F]) (h3:Blk w bt 9 #[.string T]) :
  Calls Tryz.prog 58 #[.pointer (some ⟨bd,0,none⟩),.pointer (some ⟨bf,0,none⟩),.pointer (some ⟨bt,0,none⟩)] w (DkOut a B0 (M+T.size+1) R p (Kbv d F.data.toList T.data.toList) w):=by
 have m1:=h1.cell 0;have m2:=h2.cell 0;have m3:=h3.cell 0;have hb:Below w.heap.size w (w.alloc (.cells #[.string T] 9)):=(Below.refl _ _).alloc (Nat.le_refl _) _;have HC:=Jh ((hD.below hb).append hM (by have:=hb.size;omega) (hF.below (hb.mono hB)) F hS _ _ (Kwk (Blk.new w 9 #[.string T])) hT);have HB:=Jh hb;clear hD hF h1 h2 h3 hb;go_enter Tryz.func58,Tryz.ntmps58
 go_wp2_with fail
 refine HC.out.mono ?_;rintro e w1 ⟨v,R1,rfl,hk1,hk2,hk3⟩;go_wp2_with fail
 go_ret
 exact ⟨v,R1,rfl,hk1,hk2,(Out.of_below HB.out).trans hk3⟩
theorem Qbp (bd bf:Nat) (F:ByteArray) (w:World) (hD:Dk B0 M w R p d) (hM:M≤536870912) (hB:B0≤w.heap.size) (hF:Fails B0 a w) (hS:F.size≤1073741824)
  (h1:Blk w bd 37 #[.pointer (some ⟨p,0,none⟩)]) (h2:Blk w bf 9 #[.string F]) :
  Calls Tryz.prog 60 #[.pointer (some ⟨bd,0,none⟩),.pointer (some ⟨bf,0,none⟩)] w (DkOut a B0 (M+1) R p (syncD d F.data.toList) w):=by
 have m1:=h1.cell 0;have m2:=h2.cell 0;have HC:=Jh (hD.sync hM hB hF F hS);clear hD hF h1 h2;go_enter Tryz.func60,Tryz.ntmps60
 go_wp2_with fail
 refine HC.out.mono ?_;rintro e w1 ⟨v,R1,rfl,hk⟩;go_wp2_with fail
 go_ret
 exact ⟨v,R1,rfl,hk⟩
theorem Qbq (bd bf bp:Nat) (F P:ByteArray) (w:World) (hD:Dk B0 M w R p d) (hM:M≤536870912) (hB:B0≤w.heap.size) (hF:Fails B0 a w) (hS:F.size≤1073741824) (hP:P.size≤1073741824)
  (h1:Blk w bd 37 #[.pointer (some ⟨p,0,none⟩)]) (h2:Blk w bf 9 #[.string F]) (h3:Blk w bp 9 #[.string P]) :
  Calls Tryz.prog 62 #[.pointer (some ⟨bd,0,none⟩),.pointer (some ⟨bf,0,none⟩),.pointer (some ⟨bp,0,none⟩)] w (DkOut a B0 (M+1) R p (Kal d F.data.toList P.data.toList) w):=by
 have m1:=h1.cell 0;have m2:=h2.cell 0;have m3:=h3.cell 0;have HC:=Jh (hD.rename hM hB hF F P hS hP);clear hD hF h1 h2 h3;go_enter Tryz.func62,Tryz.ntmps62
 go_wp2_with fail
 refine HC.out.mono ?_;rintro e w1 ⟨v,R1,rfl,hk⟩;go_wp2_with fail
 go_ret
 exact ⟨v,R1,rfl,hk⟩
structure Env5 (B0:Nat) (a:Nat→Addr) (w:World):Prop where
 f:Fails B0 a w
 s:Sents B0 a w
theorem Env5.below {w w':World} (h:Env5 B0 a w) (hb:Below B0 w w'):Env5 B0 a w':=⟨h.f.below hb,h.s.below hb⟩
theorem Env5.out {R R':Nat→Nat} {w w':World} {M':Nat} (h:Env5 B0 a w) (ho:Out R R' w w') (hB:B0≤w.heap.size) (hD:Dk B0 M' w R p d):Env5 B0 a w':=h.below (ho.below hB hD.low)
theorem Qbb {w:World} {k:Nat} {v:Value} (hv:ErrW a w R k v) (hk:k≤7) (hs:Sents B0 a w) (ha:Apart a) :
  Calls Tryz.prog 55 #[v,.iface 360 (.pointer (some (a 4)))] w fun e w'=>e = .returned (.bool (decide (k=4)))∧w=w':=by
 cases k with
 | zero=>
  obtain rfl:v = .nilIface:=hv;exact Kuz 4 w
 | succ k=>
  obtain ⟨q,op,path,rfl,h1,h2⟩:=hv;exact Qec q (k+1) 4 op path w h1 hs ha (by omega) hk (by omega) (by omega)
theorem Kgg {F:Txt} {f:Ds→Nat×Ds} {l:List (Ds→Nat×Ds)} {r:Nat×Ds} (h:r.1≠0):putL F (f :: l) r=(r.1,(Kat r.2 F).2):=by rw[putL,if_neg h]
theorem Kio {F:Txt} {f:Ds→Nat×Ds} {l:List (Ds→Nat×Ds)} {r:Nat×Ds} (h:r.1=0):putL F (f :: l) r=putL F l (f r.2):=by rw[putL,if_pos h]
structure PutB (b p:Nat) (P T F:ByteArray) (w:World) (R:Nat→Nat):Prop where
 bd:Blk w b 37 #[.pointer (some ⟨p,0,none⟩)]
 bp:Blk w (b+1) 9 #[.string P]
 bt:Blk w (b+2) 9 #[.string T]
 bf:Blk w (b+3) 9 #[.string F]
 rd:R b=0
 rp:R (b+1)=0
 rt:R (b+2)=0
 rf:R (b+3)=0
theorem PutB.out {b:Nat} {P T F:ByteArray} {w w':World} {R R':Nat→Nat} (h:PutB b p P T F w R) (ho:Out R R' w w'):PutB b p P T F w' R':=
 ⟨ho.blk h.bd h.rd,ho.blk h.bp h.rp,ho.blk h.bt h.rt,ho.blk h.bf h.rf,ho.old _ h.bd.lt h.rd,ho.old _ h.bp.lt h.rp,ho.old _ h.bt.lt h.rt,ho.old _ h.bf.lt h.rf⟩
def putF (b p i:Nat):Value:=
 #[.func (.func 56) #[] #[.pointer (some ⟨b,0,none⟩),.pointer (some ⟨b+3,0,none⟩)],.func (.func 58) #[] #[.pointer (some ⟨b,0,none⟩),.pointer (some ⟨b+3,0,none⟩),.pointer (some ⟨b+2,0,none⟩)],
  .func (.func 60) #[] #[.pointer (some ⟨b,0,none⟩),.pointer (some ⟨b+3,0,none⟩)],.func (.func 62) #[] #[.pointer (some ⟨b,0,none⟩),.pointer (some ⟨b+3,0,none⟩),.pointer (some ⟨b+1,0,none⟩)],
  .func (.func 64) #[.pointer (some ⟨p,0,none⟩)] #[]].getD i undef
def putRow (b p:Nat):Array Value:=#[putF b p 0,putF b p 1,putF b p 2,putF b p 3,putF b p 4]
def Kem (F P T:Txt):List (Ds→Nat×Ds):=[(Kbj · F),(Kbv · F T),(syncD · F),(Kal · F P),Kbf]
def putM (M t i:Nat):Nat:=M+1+i+(if i < 2 then 0 else t)
structure PutI (B0 M p:Nat) (a:Nat→Addr) (R:Nat→Nat) (w:World) (b g:Nat) (P T F:ByteArray) (res:Nat×Ds) (i:Nat) (v:Value) (R':Nat→Nat) (r:Nat×Ds) (wr:World):Prop where
 blks:PutB b p P T F wr R'
 row:Blk wr g 141 (putRow b p)
 rr:R' g=0
 err:ErrW a wr R' r.1 v
 dk:Dk B0 (putM M T.size i) wr R' p r.2
 out:Out R R' w wr
 env:Env5 B0 a wr
 left:putL F.data.toList ((Kem F.data.toList P.data.toList T.data.toList).drop i) r=res
theorem Ksy (P T:ByteArray) (w:World) (hD:Dk B0 M w R p d) (hM:M+T.size+8≤536870912) (hB:B0≤w.heap.size) (hE:Env5 B0 a w) (hA:Apart a) (hP:P.size≤1000000000) :
  Calls Tryz.prog 20 #[.pointer (some ⟨p,0,none⟩),.string P,.string T] w (DkOut a B0 (M+T.size+7) R p (putD d P.data.toList T.data.toList) w):=by
 obtain ⟨b,hb⟩:∃b,w.heap.size=b:=⟨_,rfl⟩;have HB:=Jh hb;obtain ⟨F,hF⟩:∃F:ByteArray,P++(⟨#[46,110,101,119]⟩:ByteArray)=F:=⟨_,rfl⟩;have hFd:F.data.toList=P.data.toList++Kdf:=by rw[←hF];simp[Kdf]
 have hFs:F.size≤1073741824:=by rw[←hF,ByteArray.size_append];show P.size+4≤_;omega
 obtain ⟨W,hW⟩:∃W,(((w.alloc (.cells #[.pointer (some ⟨p,0,none⟩)] 37)).alloc (.cells #[.string P] 9)).alloc (.cells #[.string T] 9)).alloc (.cells #[.string F] 9)=W:=⟨_,rfl⟩;have hbl:Below w.heap.size w W:=by rw[←hW];exact ((((Below.refl _ _).alloc (Nat.le_refl _) _).alloc (by simp) _).alloc (by simp;omega) _).alloc (by simp;omega) _
 have HPB:Hid (PutB b p P T F W R):=Jh (by
  rw[←hW,←hb]
  exact ⟨(((Blk.new _ _ _).alloc _).alloc _).alloc _,((Blk.newAt (by simp)).alloc _).alloc _,(Blk.newAt (by simp)).alloc _,Blk.newAt (by simp),hD.new (by omega),hD.new (by omega),hD.new (by omega),hD.new (by omega)⟩)
 have HD:=Jh (hD.below hbl);have HE:=Jh (hE.below (hbl.mono hB));have HO:Hid (Out R R w W):=Jh (Out.of_below hbl);have HBW:Hid (B0≤W.heap.size):=Jh (Nat.le_trans hB hbl.size);have HA:=Jh hA;have HB0:=Jh hB;have HW:=Jh hW;have HFD:=Jh hFd;clear hD hE hA hbl hb hW hFd hB;go_enter Tryz.func20,Tryz.ntmps20
 go_upto_region 2 with fail
 have hW2:(((w.alloc (.cells #[.pointer (some ⟨p,0,none⟩)] 37)).alloc (.cells #[.string P] 9)).alloc (.cells #[.string T] 9)).alloc (.cells #[.string F] 9)=W:=HW.out;have hb2:w.heap.size=b:=HB.out;rw[hW2,hb2];clear hW2 hb2;have x0:W.cell? ⟨b,0,none⟩=some (.pointer (some ⟨p,0,none⟩)):=HPB.out.bd.cell 0;have x3:W.cell? ⟨b+3,0,none⟩=some (.string F):=HPB.out.bf.cell 0;go_wp2_with fail
 refine (HD.out.remove (by omega) HBW.out HE.out.f F hFs).mono ?_;rintro e w1 ⟨v1,R1,rfl,hv1,hd1,ho1⟩;have HB1:=Jh (HPB.out.out ho1);have HO1:=Jh (HO.out.trans ho1);have HE1:=Jh (HE.out.out ho1 HBW.out HD.out);have HW1:Hid (B0≤w1.heap.size):=Jh (Nat.le_trans HBW.out ho1.size);have HK:=Jh (Qbu d F.data.toList);have HG:Hid (goneD d F.data.toList=(if (Kat d F.data.toList).1=4 then 0 else (Kat d F.data.toList).1,(Kat d F.data.toList).2)):=Jh rfl;obtain ⟨r1,hr1⟩:∃r,Kat d F.data.toList=r:=⟨_,rfl⟩;rw[hr1] at hv1 hd1 HK HG;have HV1:=Jh hv1;have HD1:=Jh hd1;have m4:w1.cell? ⟨2,0,none⟩=some (.iface 360 (.pointer (some (a 4)))):=(HE1.out.f 4 (by decide)).2;clear hr1 hv1 hd1 ho1 x0 x3;go_upto_if 18 with (go_at_call 55;refine (Qbb HV1.out HK.out HE1.out.s HA.out).mono ?_;rintro e w2 ⟨rfl,rfl⟩)
 go_cut [8] (fun s8 wz=>∃v2:Value,v2=s8∧wz=w1∧ErrW a w1 R1 (if r1.1=4 then 0 else r1.1) v2)
 case first=>
  by_cases h4:r1.1=4
  ·have d4:decide (r1.1=4)=true:=decide_eq_true h4;go_wp2_with fail
   go_meet
   refine ⟨_,rfl,rfl,?_⟩;rw[if_pos h4];rfl
  ·have d4:decide (r1.1=4)=false:=decide_eq_false h4;go_wp2_with fail
   go_meet
   refine ⟨_,rfl,rfl,?_⟩;rw[if_neg h4];exact HV1.out
 case rest=>
  obtain ⟨v2,rfl,rfl,hv2⟩:=hcut;obtain ⟨r2,hr2⟩:∃r:Nat×Ds,((if r1.1=4 then 0 else r1.1,r1.2):Nat×Ds)=r:=⟨_,rfl⟩;have hv3:ErrW a wc R1 r2.1 v2:=by rw[←hr2];exact hv2
  have hd3:Dk B0 (M+1) wc R1 p r2.2:=by rw[←hr2];exact HD1.out
  obtain ⟨res,hres⟩:∃r,putD d P.data.toList T.data.toList=r:=⟨_,rfl⟩
  have hl3:putL F.data.toList (Kem F.data.toList P.data.toList T.data.toList) r2=res:=by
   rw[←hres,←hr2,←HG.out];unfold putD Kem;rw[←HFD.out]
  have HRES:=Jh hres;have HL3:=Jh hl3;have HV3:=Jh hv3;have HD3:=Jh hd3;clear hr2 hv2 hv3 hd3 hl3 hres m4;obtain ⟨w1,rfl⟩:∃x,x=wc:=⟨_,rfl⟩;have x0:w1.cell? ⟨b,0,none⟩=some (.pointer (some ⟨p,0,none⟩)):=HB1.out.bd.cell 0;go_upto_region 6 with fail
  obtain ⟨g,hg⟩:∃g,w1.heap.size=g:=⟨_,rfl⟩;obtain ⟨w2,hw2⟩:∃x,w1.alloc (.cells (putRow b p) 141)=x:=⟨_,rfl⟩;have hb2:Below w1.heap.size w1 w2:=by rw[←hw2];exact (Below.refl _ _).alloc (Nat.le_refl _) _
  have HI:Hid (PutI B0 M p a R w b g P T F res 0 v2 R1 r2 w2):=Jh (by
   have ho:=Out.of_below (R:=R1) hb2;refine ⟨HB1.out.out ho,?_,?_,HV3.out.out ho,?_,HO1.out.trans ho,HE1.out.below (hb2.mono HW1.out),HL3.out⟩
   ·rw[←hw2,←hg];exact Blk.new _ _ _
   ·rw[←hg];exact HD3.out.new (Nat.le_refl _)
   ·exact (HD3.out.below hb2))
  have HBG:Hid (B0≤w2.heap.size):=Jh (Nat.le_trans HW1.out hb2.size)
  have hrow:(Obj.cells #[.func (.func 56) #[] #[.pointer (some ⟨b,0,none⟩),.pointer (some ⟨b+1+1+1,0,none⟩)],.func (.func 58) #[] #[.pointer (some ⟨b,0,none⟩),.pointer (some ⟨b+1+1+1,0,none⟩),.pointer (some ⟨b+1+1,0,none⟩)],
   .func (.func 60) #[] #[.pointer (some ⟨b,0,none⟩),.pointer (some ⟨b+1+1+1,0,none⟩)],.func (.func 62) #[] #[.pointer (some ⟨b,0,none⟩),.pointer (some ⟨b+1+1+1,0,none⟩),.pointer (some ⟨b+1,0,none⟩)],
   .func (.func 64) #[.pointer (some ⟨p,0,none⟩)] #[]] 141 : Obj) = .cells (putRow b p) 141:=rfl
  rw[hrow,hw2,hg];clear hrow hw2 hg hb2 x0;go_loopg [8,27] 5 (fun gh s8 s27 wr=>∃(i:Nat) (R':Nat→Nat) (r:Nat×Ds) (v:Value),i+gh=5∧v=s8∧s27 = .int .i64 (i:Int)∧PutI B0 M p a R w b g P T F res i v R' r wr)
  case atStart=>exact ⟨0,R1,r2,_,rfl,rfl,rfl,HI.out⟩
  case round=>
   obtain ⟨i,R',r,v,hig,rfl,rfl,hi⟩:=hrel
   by_cases h5:i < 5
   ·have el:decide ((i:Int) < 5)=true:=by simp;omega
    rcases (by omega:i=0∨i=1∨i=2∨i=3∨i=4) with rfl | rfl | rfl | rfl | rfl
    ·
     have hBr:B0≤wr.heap.size:=Nat.le_trans HB0.out hi.out.size;have m0:wr.cell? ⟨g,0,none⟩=some (putF b p 0):=hi.row.cell 0;have HC:=Jh (Qbn b (b+3) F wr hi.dk (by show M+1+0+0≤_;omega) hBr hi.env.f hFs hi.blks.bd hi.blks.bf);have HX:=Jh (hi.dk.remove (a:=a) (by show M+1+0+0≤_;omega) hBr hi.env.f F hFs);have x0:wr.cell? ⟨b,0,none⟩=some (.pointer (some ⟨p,0,none⟩)):=hi.blks.bd.cell 0;have x3:wr.cell? ⟨b+3,0,none⟩=some (.string F):=hi.blks.bf.cell 0;have HI2:=Jh hi;have HBR:=Jh hBr;unfold putF at m0;simp at m0;clear hi hBr;rcases Nat.eq_zero_or_pos r.1 with hz | hz
     ·obtain rfl:=HI2.out.err.nil hz;have HZ:=Jh hz;clear hz;go_wp2_with fail
      refine HC.out.mono ?_;rintro e w3 ⟨v3,R3,rfl,hv3,hd3,ho3⟩
      have HI3:Hid (PutI B0 M p a R w b g P T F res 1 v3 R3 (Kbj r.2 F.data.toList) w3):=Jh
       ⟨HI2.out.blks.out ho3,ho3.blk HI2.out.row HI2.out.rr,ho3.old _ HI2.out.row.lt HI2.out.rr,hv3,hd3.more (by show _≤M+1+1+0;show M+1+0+0+1≤_;omega),HI2.out.out.trans ho3,HI2.out.env.out ho3 HBR.out HI2.out.dk,by
        rw[←HI2.out.left]
        exact (Kio (f:=(Kbj · F.data.toList)) (l:=(Kem F.data.toList P.data.toList T.data.toList).drop 1) HZ.out).symm⟩
      clear hv3 hd3 ho3 m0 x0 x3;go_wp2_with fail
      go_roundg (gk - 1)
      case measure=>omega
      case rel=>exact ⟨1,R3,_,_,by omega,rfl,by go_num,HI3.out⟩
     ·obtain ⟨q,op,path,rfl,hq1,hq2⟩:=HI2.out.err.some_ (by omega);have HZ:=Jh hz;clear hz hq1 hq2;go_wp2_with fail
      refine HX.out.mono ?_;rintro e w3 ⟨v3,R3,rfl,hv3,hd3,ho3⟩;have HO3:=Jh ho3;have HD3:=Jh hd3;clear hv3 hd3 ho3 m0 x0 x3;go_wp2_with fail
      go_ret
      have hres:res=(r.1,(Kat r.2 F.data.toList).2):=by
       rw[←HI2.out.left];exact Kgg (by have:=HZ.out;omega)
      rw[HRES.out,hres];exact ⟨_,R3,rfl,HI2.out.err.out HO3.out,HD3.out.more (by show M+1+0+0+1≤_;omega),HI2.out.out.trans HO3.out⟩
    ·
     have hBr:B0≤wr.heap.size:=Nat.le_trans HB0.out hi.out.size;have m0:wr.cell? ⟨g,1,none⟩=some (putF b p 1):=hi.row.cell 1;have HC:=Jh (Qbo b (b+3) (b+2) F T wr hi.dk (by show M+1+1+0≤_;omega) hBr hi.env.f hFs (by omega) hi.blks.bd hi.blks.bf hi.blks.bt);have HX:=Jh (hi.dk.remove (a:=a) (by show M+1+1+0≤_;omega) hBr hi.env.f F hFs);have x0:wr.cell? ⟨b,0,none⟩=some (.pointer (some ⟨p,0,none⟩)):=hi.blks.bd.cell 0;have x3:wr.cell? ⟨b+3,0,none⟩=some (.string F):=hi.blks.bf.cell 0;have HI2:=Jh hi;have HBR:=Jh hBr;unfold putF at m0;simp at m0;clear hi hBr;rcases Nat.eq_zero_or_pos r.1 with hz | hz
     ·obtain rfl:=HI2.out.err.nil hz;have HZ:=Jh hz;clear hz;go_wp2_with fail
      refine HC.out.mono ?_;rintro e w3 ⟨v3,R3,rfl,hv3,hd3,ho3⟩
      have HI3:Hid (PutI B0 M p a R w b g P T F res 2 v3 R3 (Kbv r.2 F.data.toList T.data.toList) w3):=Jh
       ⟨HI2.out.blks.out ho3,ho3.blk HI2.out.row HI2.out.rr,ho3.old _ HI2.out.row.lt HI2.out.rr,hv3,hd3.more (by show _≤M+1+2+T.size;show M+1+1+0+T.size+1≤_;omega),HI2.out.out.trans ho3,HI2.out.env.out ho3 HBR.out HI2.out.dk,by
        rw[←HI2.out.left]
        exact (Kio (f:=(Kbv · F.data.toList T.data.toList)) (l:=(Kem F.data.toList P.data.toList T.data.toList).drop 2) HZ.out).symm⟩
      clear hv3 hd3 ho3 m0 x0 x3;go_wp2_with fail
      go_roundg (gk - 1)
      case measure=>omega
      case rel=>exact ⟨2,R3,_,_,by omega,rfl,by go_num,HI3.out⟩
     ·obtain ⟨q,op,path,rfl,hq1,hq2⟩:=HI2.out.err.some_ (by omega);have HZ:=Jh hz;clear hz hq1 hq2;go_wp2_with fail
      refine HX.out.mono ?_;rintro e w3 ⟨v3,R3,rfl,hv3,hd3,ho3⟩;have HO3:=Jh ho3;have HD3:=Jh hd3;clear hv3 hd3 ho3 m0 x0 x3;go_wp2_with fail
      go_ret
      have hres:res=(r.1,(Kat r.2 F.data.toList).2):=by
       rw[←HI2.out.left];exact Kgg (by have:=HZ.out;omega)
      rw[HRES.out,hres];exact ⟨_,R3,rfl,HI2.out.err.out HO3.out,HD3.out.more (by show M+1+1+0+1≤_;omega),HI2.out.out.trans HO3.out⟩
    ·
     have hBr:B0≤wr.heap.size:=Nat.le_trans HB0.out hi.out.size;have m0:wr.cell? ⟨g,2,none⟩=some (putF b p 2):=hi.row.cell 2;have HC:=Jh (Qbp b (b+3) F wr hi.dk (by show M+1+2+T.size≤_;omega) hBr hi.env.f hFs hi.blks.bd hi.blks.bf);have HX:=Jh (hi.dk.remove (a:=a) (by show M+1+2+T.size≤_;omega) hBr hi.env.f F hFs);have x0:wr.cell? ⟨b,0,none⟩=some (.pointer (some ⟨p,0,none⟩)):=hi.blks.bd.cell 0;have x3:wr.cell? ⟨b+3,0,none⟩=some (.string F):=hi.blks.bf.cell 0;have HI2:=Jh hi;have HBR:=Jh hBr;unfold putF at m0;simp at m0;clear hi hBr;rcases Nat.eq_zero_or_pos r.1 with hz | hz
     ·obtain rfl:=HI2.out.err.nil hz;have HZ:=Jh hz;clear hz;go_wp2_with fail
      refine HC.out.mono ?_;rintro e w3 ⟨v3,R3,rfl,hv3,hd3,ho3⟩
      have HI3:Hid (PutI B0 M p a R w b g P T F res 3 v3 R3 (syncD r.2 F.data.toList) w3):=Jh
       ⟨HI2.out.blks.out ho3,ho3.blk HI2.out.row HI2.out.rr,ho3.old _ HI2.out.row.lt HI2.out.rr,hv3,hd3.more (by show _≤M+1+3+T.size;show M+1+2+T.size+1≤_;omega),HI2.out.out.trans ho3,HI2.out.env.out ho3 HBR.out HI2.out.dk,by
        rw[←HI2.out.left]
        exact (Kio (f:=(syncD · F.data.toList)) (l:=(Kem F.data.toList P.data.toList T.data.toList).drop 3) HZ.out).symm⟩
      clear hv3 hd3 ho3 m0 x0 x3;go_wp2_with fail
      go_roundg (gk - 1)
      case measure=>omega
      case rel=>exact ⟨3,R3,_,_,by omega,rfl,by go_num,HI3.out⟩
     ·obtain ⟨q,op,path,rfl,hq1,hq2⟩:=HI2.out.err.some_ (by omega);have HZ:=Jh hz;clear hz hq1 hq2;go_wp2_with fail
      refine HX.out.mono ?_;rintro e w3 ⟨v3,R3,rfl,hv3,hd3,ho3⟩;have HO3:=Jh ho3;have HD3:=Jh hd3;clear hv3 hd3 ho3 m0 x0 x3;go_wp2_with fail
      go_ret
      have hres:res=(r.1,(Kat r.2 F.data.toList).2):=by
       rw[←HI2.out.left];exact Kgg (by have:=HZ.out;omega)
      rw[HRES.out,hres];exact ⟨_,R3,rfl,HI2.out.err.out HO3.out,HD3.out.more (by show M+1+2+T.size+1≤_;omega),HI2.out.out.trans HO3.out⟩
    ·
     have hBr:B0≤wr.heap.size:=Nat.le_trans HB0.out hi.out.size;have m0:wr.cell? ⟨g,3,none⟩=some (putF b p 3):=hi.row.cell 3;have HC:=Jh (Qbq b (b+3) (b+1) F P wr hi.dk (by show M+1+3+T.size≤_;omega) hBr hi.env.f hFs (by omega) hi.blks.bd hi.blks.bf hi.blks.bp);have HX:=Jh (hi.dk.remove (a:=a) (by show M+1+3+T.size≤_;omega) hBr hi.env.f F hFs);have x0:wr.cell? ⟨b,0,none⟩=some (.pointer (some ⟨p,0,none⟩)):=hi.blks.bd.cell 0;have x3:wr.cell? ⟨b+3,0,none⟩=some (.string F):=hi.blks.bf.cell 0;have HI2:=Jh hi;have HBR:=Jh hBr;unfold putF at m0;simp at m0;clear hi hBr;rcases Nat.eq_zero_or_pos r.1 with hz | hz
     ·obtain rfl:=HI2.out.err.nil hz;have HZ:=Jh hz;clear hz;go_wp2_with fail
      refine HC.out.mono ?_;rintro e w3 ⟨v3,R3,rfl,hv3,hd3,ho3⟩
      have HI3:Hid (PutI B0 M p a R w b g P T F res 4 v3 R3 (Kal r.2 F.data.toList P.data.toList) w3):=Jh
       ⟨HI2.out.blks.out ho3,ho3.blk HI2.out.row HI2.out.rr,ho3.old _ HI2.out.row.lt HI2.out.rr,hv3,hd3.more (by show _≤M+1+4+T.size;show M+1+3+T.size+1≤_;omega),HI2.out.out.trans ho3,HI2.out.env.out ho3 HBR.out HI2.out.dk,by
        rw[←HI2.out.left]
        exact (Kio (f:=(Kal · F.data.toList P.data.toList)) (l:=(Kem F.data.toList P.data.toList T.data.toList).drop 4) HZ.out).symm⟩
      clear hv3 hd3 ho3 m0 x0 x3;go_wp2_with fail
      go_roundg (gk - 1)
      case measure=>omega
      case rel=>exact ⟨4,R3,_,_,by omega,rfl,by go_num,HI3.out⟩
     ·obtain ⟨q,op,path,rfl,hq1,hq2⟩:=HI2.out.err.some_ (by omega);have HZ:=Jh hz;clear hz hq1 hq2;go_wp2_with fail
      refine HX.out.mono ?_;rintro e w3 ⟨v3,R3,rfl,hv3,hd3,ho3⟩;have HO3:=Jh ho3;have HD3:=Jh hd3;clear hv3 hd3 ho3 m0 x0 x3;go_wp2_with fail
      go_ret
      have hres:res=(r.1,(Kat r.2 F.data.toList).2):=by
       rw[←HI2.out.left];exact Kgg (by have:=HZ.out;omega)
      rw[HRES.out,hres];exact ⟨_,R3,rfl,HI2.out.err.out HO3.out,HD3.out.more (by show M+1+3+T.size+1≤_;omega),HI2.out.out.trans HO3.out⟩
    ·
     have hBr:B0≤wr.heap.size:=Nat.le_trans HB0.out hi.out.size;have m0:wr.cell? ⟨g,4,none⟩=some (putF b p 4):=hi.row.cell 4;have HC:=Jh (hi.dk.syncNames (by show M+1+4+T.size≤_;omega) hBr hi.env.f);have HX:=Jh (hi.dk.remove (a:=a) (by show M+1+4+T.size≤_;omega) hBr hi.env.f F hFs);have x0:wr.cell? ⟨b,0,none⟩=some (.pointer (some ⟨p,0,none⟩)):=hi.blks.bd.cell 0;have x3:wr.cell? ⟨b+3,0,none⟩=some (.string F):=hi.blks.bf.cell 0;have HI2:=Jh hi;have HBR:=Jh hBr;unfold putF at m0;simp at m0;clear hi hBr;rcases Nat.eq_zero_or_pos r.1 with hz | hz
     ·obtain rfl:=HI2.out.err.nil hz;have HZ:=Jh hz;clear hz;go_wp2_with fail
      refine HC.out.mono ?_;rintro e w3 ⟨v3,R3,rfl,hv3,hd3,ho3⟩
      have HI3:Hid (PutI B0 M p a R w b g P T F res 5 v3 R3 (Kbf r.2) w3):=Jh
       ⟨HI2.out.blks.out ho3,ho3.blk HI2.out.row HI2.out.rr,ho3.old _ HI2.out.row.lt HI2.out.rr,hv3,hd3.more (by show _≤M+1+5+T.size;show M+1+4+T.size+1≤_;omega),HI2.out.out.trans ho3,HI2.out.env.out ho3 HBR.out HI2.out.dk,by
        rw[←HI2.out.left]
        exact (Kio (f:=Kbf) (l:=(Kem F.data.toList P.data.toList T.data.toList).drop 5) HZ.out).symm⟩
      clear hv3 hd3 ho3 m0 x0 x3;go_wp2_with fail
      go_roundg (gk - 1)
      case measure=>omega
      case rel=>exact ⟨5,R3,_,_,by omega,rfl,by go_num,HI3.out⟩
     ·obtain ⟨q,op,path,rfl,hq1,hq2⟩:=HI2.out.err.some_ (by omega);have HZ:=Jh hz;clear hz hq1 hq2;go_wp2_with fail
      refine HX.out.mono ?_;rintro e w3 ⟨v3,R3,rfl,hv3,hd3,ho3⟩;have HO3:=Jh ho3;have HD3:=Jh hd3;clear hv3 hd3 ho3 m0 x0 x3;go_wp2_with fail
      go_ret
      have hres:res=(r.1,(Kat r.2 F.data.toList).2):=by
       rw[←HI2.out.left];exact Kgg (by have:=HZ.out;omega)
      rw[HRES.out,hres];exact ⟨_,R3,rfl,HI2.out.err.out HO3.out,HD3.out.more (by show M+1+4+T.size+1≤_;omega),HI2.out.out.trans HO3.out⟩
   ·have el:decide ((i:Int) < 5)=false:=by simp;omega
    obtain rfl:i=5:=by omega
    have HI2:=Jh hi;clear hi;go_wp2_with fail
    go_ret
    have hres:res=r:=by
     rw[←HI2.out.left];rfl
    rw[HRES.out,hres];exact ⟨_,R',rfl,HI2.out.err,HI2.out.dk.more (by show M+1+5+T.size≤_;omega),HI2.out.out⟩
end
structure QEnv (B0:Nat) (a:Nat→Addr) (w:World):Prop where
 e:Env5 B0 a w
 nib:Kdi w
 db:DbTab w
 hb:B0≤w.heap.size
structure QCon (B0:Nat) (a:Nat→Addr):Prop where
 ap:Apart a
 nib:7 < B0
 db:9 < B0
section
variable {B0 M p : Nat} {a : Nat → Addr} {R R' : Nat → Nat} {d : Ds} {w w' : World}
theorem QEnv.below (h:QEnv B0 a w) (hc:QCon B0 a) (hb:Below B0 w w'):QEnv B0 a w':=
 ⟨h.e.below hb,h.nib.below hc.nib hb,fun j hj=>(hb.cell (p:=⟨_,j,none⟩) hc.db).trans (h.db j hj),Nat.le_trans h.hb hb.size⟩
theorem QEnv.low (h:QEnv B0 a w) (hc:QCon B0 a) (hb:Below w.heap.size w w'):QEnv B0 a w':=h.below hc (hb.mono h.hb)
theorem QEnv.out (h:QEnv B0 a w) (hc:QCon B0 a) (hD:Dk B0 M w R p d) (ho:Out R R' w w'):QEnv B0 a w':=h.below hc (ho.below h.hb hD.low)
theorem Knb (L:List KSer):(encK L).length=(bodyK L).length+4:=by
 unfold encK sealT;rw[List.length_append];rfl
theorem Kxz (L:List KSer) (A:Option Addr) (n c:Nat) (P:ByteArray) (w:World) (hS:KSers w A n L) (hz:∀s∈L,KSz s) (hn:n≤1048576) (hf:fitK L=true) (hsz:(encK L).length≤268435456) (hD:Dk B0 M w R p d) (hM:M+(encK L).length+8≤536870912) (hC:QCon B0 a) (hE:QEnv B0 a w) (hP:P.size≤1000000000) :
  Calls Tryz.prog 17 #[.pointer (some ⟨p,0,none⟩),.string P,.slice A n c] w (DkOut a B0 (M+(encK L).length+7) R p (putD d P.data.toList (encK L)) w):=by
 have hen:=Kgk L A n c w hS hz (by omega) hE.db hE.nib (fun _=>by have:=Knb L;omega);unfold kencF at hen;rw[if_pos hf] at hen;dsimp only at hen;obtain ⟨E1,hE1⟩:∃E:ByteArray,(⟨(encK L).toArray⟩:ByteArray)=E:=⟨_,rfl⟩;rw[hE1] at hen;have hEd:E1.data.toList=encK L:=by rw[←hE1]
 have hEs:E1.size=(encK L).length:=by rw[←hEd];rfl
 have HEN:=Jh hen;have HED:=Jh hEd
 have HP:Hid (∀w1,Below w.heap.size w w1→Calls Tryz.prog 20 #[.pointer (some ⟨p,0,none⟩),.string P,.string E1] w1 (DkOut a B0 (M+(encK L).length+7) R p (putD d P.data.toList (encK L)) w1)):=Jh (fun w1 hb=>by
  have:=Ksy P E1 w1 (hD.below hb) (by rw[hEs];exact hM) (hE.low hC hb).hb (hE.low hC hb).e hC.ap hP;rw[hEd,hEs] at this
  exact this)
 clear hen hE1 hEd hEs hS hz hD hM hC hE hsz;go_enter Tryz.func17,Tryz.ntmps17
 go_wp2_with fail
 refine HEN.out.mono ?_;rintro _ w1 ⟨rfl,hb1⟩;have HB1:=Jh hb1;clear hb1;go_wp2_with fail
 refine (HP.out w1 HB1.out).mono ?_;rintro e w2 ⟨v,R2,rfl,hv,hd,ho⟩;have HV:=Jh hv;have HD:=Jh hd;have HO:=Jh ho;clear hv hd ho;go_wp2_with fail
 go_ret
 exact ⟨v,R2,rfl,HV.out,HD.out,(Out.of_below HB1.out).trans HO.out⟩
def Qks (P:ByteArray) (R':Nat→Nat) (w':World) (r:Except Nat (List KSer)) (e:Ending):Prop:=match r with
 | .ok L=>∃A c,e = .returned (.tuple #[.slice A L.length c,.nilIface])∧KSers w' A L.length L∧(∀s∈L,KSz s)∧L.length≤268435456
 | .error f=>∃q,e = .returned (.tuple #[.slice none 0 0,.iface 45 (.pointer (some ⟨q,0,none⟩))])∧Blk w' q 48 #[.string P,.int .i64 ((f:Nat):Int)]
theorem Kxy (P:ByteArray) (S:Txt) (w:World) (hall:allD d P.data.toList=(S,0)) (hS:S.length≤268435456) (hD:Dk B0 M w R p d) (hM:M≤536870912) (hC:QCon B0 a) (hE:QEnv B0 a w) (hP:P.size≤1000000000) :
  Calls Tryz.prog 19 #[.pointer (some ⟨p,0,none⟩),.string P] w fun e w'=>∃R',Qks P R' w' (decK S) e∧Dk B0 M w' R' p d∧Out R R' w w':=by
 have hal:=hD.all (a:=a) hM hE.hb hE.e.f P (by omega);rw[hall] at hal;obtain ⟨T,hT⟩:∃T:ByteArray,(⟨S.toArray⟩:ByteArray)=T:=⟨_,rfl⟩;unfold txtV at hal;rw[hT] at hal;have hTd:T.data.toList=S:=by rw[←hT]
 have hTs:T.size≤268435456:=by
  have h1:T.data.toList.length=T.size:=rfl;rw[hTd] at h1;omega
 have HAL:=Jh hal;have HTD:=Jh hTd;have HC:=Jh hC;have HE:=Jh hE;have HD0:=Jh hD
 have hce:∀c:Nat,decK S = .error c→((c:Int) != 0)=true:=fun c h=>by
  have:=Koa h;simp;omega
 have HCE:=Jh hce;clear hal hT hTd hC hE hall hce hD;go_enter Tryz.func19,Tryz.ntmps19
 go_wp2_with fail
 refine HAL.out.mono ?_;rintro e w1 ⟨u,v,R1,rfl,rfl,hv1,hd1,ho1⟩;obtain rfl:v = .nilIface:=hv1.nil rfl;have HE1:=Jh (HE.out.out HC.out HD0.out ho1);have HO1:=Jh ho1;have HD1:=Jh hd1;have hde:=Kkb T w1 hTs HE1.out.nib HE1.out.db;rw[HTD.out] at hde;obtain ⟨r,hr⟩:∃r,decK S=r:=⟨_,rfl⟩;rw[hr] at hde;have HDE:=Jh hde;have HR:=Jh hr;clear hv1 hd1 ho1 hde hr;go_wp2_with fail
 refine HDE.out.mono ?_;rintro e w2 ⟨h2,hb2⟩;have HB2:=Jh hb2;clear hb2
 cases r with
 | ok L=>
  obtain ⟨A,c,rfl,h3,h4,h5⟩:=h2;have H3:=Jh h3;have H4:=Jh h4;clear h3 h4;obtain ⟨ln,hln⟩:∃x,L.length=x:=⟨_,rfl⟩;have HLN:=Jh hln;have H5:=Jh h5;rw[hln];clear hln h5;go_wp2_with fail
  go_ret2
  exact ⟨R1,by rw[HR.out];exact ⟨A,c,by rw[HLN.out];rfl,H3.out,H4.out,H5.out⟩,HD1.out.below HB2.out,HO1.out.trans (Out.of_below HB2.out)⟩
 | error f=>
  obtain rfl:=h2;have hne:=HCE.out f HR.out;go_upto_region 6 with fail
  have hb3:Below w2.heap.size w2 (w2.alloc (.cells #[.string P,.int .i64 (f:Int)] 48)):=(Below.refl _ _).alloc (Nat.le_refl _) _;have hk3:Blk (w2.alloc (.cells #[.string P,.int .i64 (f:Int)] 48)) w2.heap.size 48 #[.string P,.int .i64 (f:Int)]:=Blk.new _ _ _;have HB3:=Jh (HB2.out.trans (hb3.mono HB2.out.size));have HK3:=Jh hk3;clear hb3 hk3;go_wp2_with fail
  go_ret2
  exact ⟨R1,by rw[HR.out];exact ⟨_,rfl,HK3.out⟩,HD1.out.below HB3.out,HO1.out.trans (Out.of_below HB3.out)⟩
end
theorem Ksi (La Lb:List KSer) (A B:Option Addr) (n m ca cb:Nat) (w:World) (hA:KSers w A n La) (hB:KSers w B m Lb) (hn:n≤1073741824) (hm:m≤1073741824)
  (hza:∀s∈La,KSz s) (hzb:∀s∈Lb,KSz s) :
  Calls Tryz.prog 14 #[.slice A n ca,.slice B m cb] w fun e w'=>e = .returned (.bool (decide (La=Lb)))∧Below w.heap.size w w':=by
 have HA:=Jh (Kog La A n ca w hA hza hn);have HB0:=Jh hB;have HB:=Jh (fun w1 (h:KSers w1 B m Lb)=>Kog Lb B m cb w1 h hzb hm);have HL:=Jh (fun A' B' (c' d':Nat) w2 (h1:KSers w2 A' n La) (h2:KSers w2 B' m Lb)=>Ktb La Lb A' B' n m c' d' w2 h1 h2 (by omega) (by omega) hza hzb);clear hA hB hn hm hza hzb;go_enter Tryz.func14,Tryz.ntmps14
 go_wp2_with fail
 refine HA.out.mono ?_;rintro _ w1 ⟨⟨A',c',rfl,ha⟩,hb1⟩;have HA1:=Jh ha;have HB1:=Jh hb1;clear ha hb1;go_wp2_with fail
 refine (HB.out w1 (HB0.out.below HB1.out)).mono ?_;rintro _ w2 ⟨⟨B',d',rfl,hb⟩,hb2⟩;have HA2:=Jh (HA1.out.below hb2);have HB2:=Jh (HB1.out.trans (hb2.mono HB1.out.size));have HBB:=Jh hb;clear hb hb2;go_wp2_with fail
 refine (HL.out A' B' c' d' w2 HA2.out HBB.out).mono ?_;rintro _ w3 ⟨rfl,hb3⟩;have HB3:=Jh (HB2.out.trans (hb3.mono HB2.out.size));clear hb3;go_wp2_with fail
 go_ret
 exact ⟨rfl,HB3.out⟩
def wakeS:KSer:=⟨[⟨[97],[120]⟩],9,[],[],[],[⟨3,4⟩,⟨9,5⟩]⟩
theorem Kjv:fitK [wakeS]=true:=by decide
theorem Khr:(encK [wakeS]).length≤1000:=by
 have h1:=Kmz Kjv;have h2:labsK [wakeS]=1:=rfl;have h3:massK [wakeS]=2:=rfl
 have h4:(encK [wakeS]).length=(bodyK [wakeS]).length+4:=by
  unfold encK sealT;rw[List.length_append];rfl
 simp only[List.length_singleton] at h1;omega
theorem Qko:KSz wakeS:=⟨by decide,by decide,by decide,by decide,⟨fun x hx=>(nomatch hx),fun x hx=>(nomatch hx),fun x hx=>(nomatch hx)⟩,by decide,by decide⟩
theorem Kww:∀s∈[wakeS],KSz s:=fun s hs=>by
 rw[List.mem_singleton] at hs;rw[hs];exact Qko
theorem Qix:decK (encK [wakeS]) = .ok [wakeS]:=Kpy Kjv (Kve Kjv Kww (by decide))
theorem Qkp {w:World} {q:Nat} (h0:Blk w q 106 #[.string ⟨#[97]⟩,.string ⟨#[120]⟩]) (h1:Blk w (q+1) 93 #[.int .i64 3,.int .u64 4,.int .i64 9,.int .u64 5]) :
  KAt w ⟨⟨some ⟨q,0,none⟩,1,1⟩,⟨none,0,0⟩,⟨none,0,0⟩,⟨none,0,0⟩,⟨some ⟨q+1,0,none⟩,2,2⟩⟩ wakeS:=by
 refine ⟨⟨rfl,fun _=>⟨q,0,rfl,h0.lt,fun i x hx j v hv=>?_⟩⟩,Nat.le_refl _,Elems.nil_,Elems.nil_,Elems.nil_,⟨rfl,fun _=>⟨q+1,0,rfl,h1.lt,fun i x hx j v hv=>?_⟩⟩,Nat.le_refl _⟩
 ·match i,hx with
  | 0,hx=>
   injection hx with hx;subst hx
   match j,hv with
   | 0,hv=>injection hv with hv;subst hv;exact h0.cell 0
   | 1,hv=>injection hv with hv;subst hv;exact h0.cell 1
 ·match i,hx with
  | 0,hx=>
   injection hx with hx;subst hx
   match j,hv with
   | 0,hv=>injection hv with hv;subst hv;exact h1.cell 0
   | 1,hv=>injection hv with hv;subst hv;exact h1.cell 1
  | 1,hx=>
   injection hx with hx;subst hx
   match j,hv with
   | 0,hv=>injection hv with hv;subst hv;exact h1.cell 2
   | 1,hv=>injection hv with hv;subst hv;exact h1.cell 3
theorem Qld {w:World} {q:Nat} {h:KHd} {s:KSer} (hk:KAt w h s) (hq:Blk w q 85 (encKY ⟨h,s.max⟩).toArray):KSers w (some ⟨q,0,none⟩) 1 [s]:=by
 refine ⟨[⟨h,s.max⟩],⟨rfl,fun _=>⟨q,0,rfl,hq.lt,fun i x hx j v hv=>?_⟩⟩,rfl,fun i hi=>?_⟩
 ·match i,hx with
  | 0,hx=>
   injection hx with hx;subst hx
   match j,hv with
   | 0,hv=>injection hv with hv;subst hv;exact hq.cell 0
   | 1,hv=>injection hv with hv;subst hv;exact hq.cell 1
   | 2,hv=>injection hv with hv;subst hv;exact hq.cell 2
   | 3,hv=>injection hv with hv;subst hv;exact hq.cell 3
   | 4,hv=>injection hv with hv;subst hv;exact hq.cell 4
   | 5,hv=>injection hv with hv;subst hv;exact hq.cell 5
 ·obtain rfl:i=0:=by omega
  exact ⟨rfl,hk⟩
theorem Ktf (w:World):Calls Tryz.prog 40 #[] w fun e w'=>(∃h:KHd,e = .returned (kserV h 9)∧KAt w' h wakeS)∧Below w.heap.size w w':=by
 go_enter Tryz.func40,Tryz.ntmps40
 go_upto_region 1 with fail
 go_wp2_with fail
 obtain ⟨q,hq⟩:∃q,w.heap.size=q:=⟨_,rfl⟩;have hb1:Below w.heap.size w (((w.alloc (.cells #[.slice (some ⟨w.heap.size+1,0,none⟩) 1 1,.int .i64 9,.slice none 0 0,.slice none 0 0,.slice none 0 0,.slice (some ⟨w.heap.size+1+1,0,none⟩) 2 2] 85)).alloc (.cells #[.string ⟨#[97]⟩,.string ⟨#[120]⟩] 106)).alloc (.cells #[.int .i64 3,.int .u64 4,.int .i64 9,.int .u64 5] 93)):=((((Below.refl _ _).alloc (Nat.le_refl _) _).alloc (by simp) _).alloc (by simp;omega) _);have k0:Blk (((w.alloc (.cells #[.slice (some ⟨w.heap.size+1,0,none⟩) 1 1,.int .i64 9,.slice none 0 0,.slice none 0 0,.slice none 0 0,.slice (some ⟨w.heap.size+1+1,0,none⟩) 2 2] 85)).alloc (.cells #[.string ⟨#[97]⟩,.string ⟨#[120]⟩] 106)).alloc (.cells #[.int .i64 3,.int .u64 4,.int .i64 9,.int .u64 5] 93)) w.heap.size 85 #[.slice (some ⟨w.heap.size+1,0,none⟩) 1 1,.int .i64 9,.slice none 0 0,.slice none 0 0,.slice none 0 0,.slice (some ⟨w.heap.size+1+1,0,none⟩) 2 2]:=((Blk.new _ _ _).alloc _).alloc _;have k1:Blk (((w.alloc (.cells #[.slice (some ⟨w.heap.size+1,0,none⟩) 1 1,.int .i64 9,.slice none 0 0,.slice none 0 0,.slice none 0 0,.slice (some ⟨w.heap.size+1+1,0,none⟩) 2 2] 85)).alloc (.cells #[.string ⟨#[97]⟩,.string ⟨#[120]⟩] 106)).alloc (.cells #[.int .i64 3,.int .u64 4,.int .i64 9,.int .u64 5] 93)) (w.heap.size+1) 106 #[.string ⟨#[97]⟩,.string ⟨#[120]⟩]:=(Blk.newAt (by simp)).alloc _;have k2:Blk (((w.alloc (.cells #[.slice (some ⟨w.heap.size+1,0,none⟩) 1 1,.int .i64 9,.slice none 0 0,.slice none 0 0,.slice none 0 0,.slice (some ⟨w.heap.size+1+1,0,none⟩) 2 2] 85)).alloc (.cells #[.string ⟨#[97]⟩,.string ⟨#[120]⟩] 106)).alloc (.cells #[.int .i64 3,.int .u64 4,.int .i64 9,.int .u64 5] 93)) (w.heap.size+1+1) 93 #[.int .i64 3,.int .u64 4,.int .i64 9,.int .u64 5]:=Blk.newAt (by simp);obtain ⟨w1,hw1⟩:∃x,(((w.alloc (.cells #[.slice (some ⟨w.heap.size+1,0,none⟩) 1 1,.int .i64 9,.slice none 0 0,.slice none 0 0,.slice none 0 0,.slice (some ⟨w.heap.size+1+1,0,none⟩) 2 2] 85)).alloc (.cells #[.string ⟨#[97]⟩,.string ⟨#[120]⟩] 106)).alloc (.cells #[.int .i64 3,.int .u64 4,.int .i64 9,.int .u64 5] 93))=x:=⟨_,rfl⟩;rw[hw1] at hb1 k0 k1 k2 ⊢;rw[hq] at k0 k1 k2 ⊢;refine bodyPost_ret (Kee rfl _ _ ⟨q,0,none⟩ (kserV ⟨⟨some ⟨q+1,0,none⟩,1,1⟩,⟨none,0,0⟩,⟨none,0,0⟩,⟨none,0,0⟩,⟨some ⟨q+1+1,0,none⟩,2,2⟩⟩ 9) rfl (run_loadVar_row _ q 85 85 _ (0,0) _ k0 Tryz.underlying85 rfl (by kernel_rfl))) rfl ?_;exact ⟨⟨_,rfl,Qkp k1 k2⟩,hq▸hb1⟩
def sC:Txt:=[99]
theorem Kzx:nameB sC=true:=by decide
theorem Qlg:nameB (sC++Kdf)=true:=by decide
theorem Qhp:newD 100000=roomD 100000:=rfl
theorem Qgh {w:World} {A:Option Addr} (h:KSers w A 1 [wakeS]):∃b off sb so sc,A=some ⟨b,off,none⟩∧b < w.heap.size∧sb < w.heap.size∧w.cell? ⟨b,off+5,none⟩=some (.slice (some ⟨sb,so,none⟩) 2 sc)∧w.cell? ⟨sb,so+3,none⟩=some (.int .u64 5):=by
 obtain ⟨b,off,hd,e,hb,_,_,_,_,_,h5,hk⟩:=h.at_ (i:=0) (by decide);obtain ⟨sb,so,e2,hsb,hc⟩:=hk.s.get (i:=1) (by rw[←hk.s.1];decide);have hn:hd.s.n=2:=hk.s.1.symm;refine ⟨b,off,sb,so,hd.s.c,e,hb,hsb,?_,hc 1 (.int .u64 5) rfl⟩;rw[e2,hn] at h5;exact h5
section
variable {B0 : Nat} {a : Nat → Addr}
theorem Kgo (w:World) (hC:QCon B0 a) (hE:QEnv B0 a w):Calls Tryz.prog 10 #[] w fun e w'=>e = .returned (.bool true)∧Below w.heap.size w w':=by
 have HC:=Jh hC;have HE0:=Jh hE;have HN:=Jh (Dk.made 100000 (by decide) (by decide) w hE.hb);clear hC hE;go_enter Tryz.func10,Tryz.ntmps10
 go_wp2_with fail
 refine HN.out.mono ?_;rintro e w1 ⟨p,R,rfl,hd1,hb1,hz1⟩;rw[Qhp] at hd1;have HZ:=Jh hz1;have HB1:=Jh hb1;have HE1:=Jh (HE0.out.low HC.out hb1);have HD1:=Jh hd1;clear hd1 hb1 hz1;go_wp2_with fail
 refine (Ktf w1).mono ?_;rintro _ w2 ⟨⟨h,rfl,hk⟩,hb2⟩;have HK:=Jh hk;have HB2:=Jh hb2;clear hk hb2;unfold kserV;obtain ⟨S,hS⟩:∃S:ByteArray,(⟨#[99]⟩:ByteArray)=S:=⟨_,rfl⟩;have hSd:S.data.toList=sC:=by rw[←hS];rfl
 have hSz:S.size=1:=by rw[←hS];rfl
 have HS:=Jh hSd;have HSz:=Jh hSz;have hk3:KSers (w2.alloc (.cells (encKY ⟨h,wakeS.max⟩).toArray 85)) (some ⟨w2.heap.size,0,none⟩) 1 [wakeS]:=Qld (HK.out.below ((Below.refl _ _).alloc (Nat.le_refl _) _)) (Blk.new _ _ _);have hb3:Below w2.heap.size w2 (w2.alloc (.cells (encKY ⟨h,wakeS.max⟩).toArray 85)):=(Below.refl _ _).alloc (Nat.le_refl _) _;obtain ⟨w3,hw3⟩:∃x,w2.alloc (.cells (encKY ⟨h,wakeS.max⟩).toArray 85)=x:=⟨_,rfl⟩;obtain ⟨q,hq⟩:∃x,w2.heap.size=x:=⟨_,rfl⟩;rw[hw3] at hk3 hb3;have HO3:Hid (Out R R w1 w3):=Jh (Out.of_below (HB2.out.trans (hb3.mono HB2.out.size)));have hd3:=HD1.out.below (HB2.out.trans (hb3.mono HB2.out.size));have he3:=HE1.out.low HC.out (HB2.out.trans (hb3.mono HB2.out.size));have hsv:=Kxz [wakeS] (some ⟨q,0,none⟩) 1 1 S w3 (by rw[←hq];exact hk3) Kww (by decide) Kjv (by have:=Khr;omega) hd3 (by have:=Khr;omega) HC.out he3 (by rw[hSz];decide);rw[hSd,Qjx 100000 sC (encK [wakeS]) Kzx Qlg (by have:=Khr;omega)] at hsv;have HSV:=Jh hsv;have HD3:=Jh hd3;have HE3:=Jh he3;have hwx:w2.alloc (.cells #[.slice h.l.A h.l.n h.l.c,.int .i64 9,.slice h.g0.A h.g0.n h.g0.c,.slice h.g1.A h.g1.n h.g1.c,.slice h.g2.A h.g2.n h.g2.c,.slice h.s.A h.s.n h.s.c] 85)=w3:=hw3;clear hk3 hb3 hd3 he3 hsv hw3 hSd hSz;go_upto_region 2 with fail
 go_wp2_with fail
 refine HSV.out.mono ?_;rintro e w4 ⟨v4,R4,rfl,hv4,hd4,ho4⟩;obtain rfl:v4 = .nilIface:=hv4;have HD4:=Jh hd4;have HE4:=Jh (HE3.out.out HC.out HD3.out ho4);have HO4:=Jh (HO3.out.trans ho4);have hld:=Kxy S (encK [wakeS]) w4 (by rw[HS.out];exact Qhz 100000 sC _ Kzx) (by have:=Khr;omega) HD4.out (by have:=Khr;omega) HC.out HE4.out (by rw[HSz.out];decide);rw[Qix] at hld;have HLD:=Jh hld;clear hd4 ho4 hld hwx;go_wp2_with fail
 refine HLD.out.mono ?_;rintro e w5 ⟨R5,⟨A,c,rfl,h5,_,_⟩,hd5,ho5⟩;have hn1:[wakeS].length=1:=rfl;rw[hn1] at h5 ⊢;have HE5:=Jh (HE4.out.out HC.out HD4.out ho5);have HO5:=Jh (HO4.out.trans ho5);have HB5:=Jh (HB1.out.trans (HO5.out.below HB1.out.size HZ.out));have H5:=Jh h5;have hde:=Kkb ⟨#[]⟩ w5 (by decide) HE5.out.nib HE5.out.db;have hdn:decK (⟨#[]⟩:ByteArray).data.toList = .error 20:=rfl;rw[hdn] at hde;have HDE:=Jh hde;clear hd5 ho5 h5 hde hdn hn1 hS;go_wp2_with fail
 refine HDE.out.mono ?_;rintro e w6 ⟨h6,hb6⟩;obtain rfl:=h6;have HB6:=Jh (HB5.out.trans (hb6.mono HB5.out.size));obtain ⟨b,off,sb,so,sc,rfl,hbz,hsz,x5,x3⟩:=Qgh (H5.out.below hb6);have x3':w6.cell? ⟨sb,so+2+1,none⟩=some (.int .u64 5):=x3;clear hb6;go_wp2_with fail
 go_ret
 exact ⟨rfl,HB6.out⟩
end
end
section
open Go.RowKit Go.Shelf Go.Sort
attribute [local go_sem ↓] Go.wp_at_zero Go.wp_at_succ
attribute [local go_sem] Later.cell
structure LSzK (L:List KSer):Prop where
 n:L.length≤1048576
 k:labsK L≤349525
 m:massK L≤1048576
 z:∀s∈L,KSz s
theorem LSzK.bits {L:List KSer} (h:LSzK L) (hf:fitK L=true):KBits L:=Kve hf h.z (by have:=h.n;omega)
theorem LSzK.len {L:List KSer} (h:LSzK L) (hf:fitK L=true):(encK L).length≤200000000:=by
 have h1:=Kmz hf;have h2:=Knb L;have:=h.n;have:=h.k;have:=h.m;omega
section
variable {B0 : Nat} {a : Nat → Addr}
theorem Kzj (L:List KSer) (A:Option Addr) (n c:Nat) (w:World) (hS:KSers w A n L) (hL:LSzK L) (hE:QEnv B0 a w) :
  Calls Tryz.prog 9 #[.slice A n c] w fun e w'=>(∃S:ByteArray,e = .returned (.tuple #[.string S,.int .i64 (if fitK L=true then 0 else 150)])∧S.data.toList=(if fitK L=true then encK L else [])∧S.size≤200000000)∧Below w.heap.size w w':=by
 have hn:n≤1048576:=by rw[←hS.len];exact hL.n
 refine (Kgk L A n c w hS hL.z (by omega) hE.db hE.nib (fun hf=>by have:=hL.len hf;have:=Knb L;omega)).mono ?_;rintro e w' ⟨rfl,hb⟩
 by_cases hf:fitK L=true
 ·refine ⟨⟨⟨(encK L).toArray⟩,?_,?_,hL.len hf⟩,hb⟩
  ·unfold kencF;rw[if_pos hf,if_pos hf];rfl
  ·rw[if_pos hf]
 ·refine ⟨⟨⟨#[]⟩,?_,?_,Nat.zero_le _⟩,hb⟩
  ·unfold kencF;rw[if_neg hf,if_neg hf];rfl
  ·rw[if_neg hf]
end
end
section
open Go.ChangeShapes Go.WideShapes Go.ChangeAt Go.RowKit
theorem Tryz.own:ownKnob Tryz.prog.godebug=none:=by kernel_rfl
theorem Tryz.laidOut:laidOutB Tryz.prog=true:=by kernel_rfl
end
section
open Go.ChangeShapes Go.WideShapes Go.ChangeAt Go.RowKit Go.Deep
section
variable {H : Type} {enc : TypeId × Value → H} {P : Program} {w : World} {base : Nat} {spare : Nat → Bool} {held : Bool}
theorem Khz {α : Type} [Inhabited α] {t e:TypeId} {sz:Nat} {ea:α→List Value} {Q:DataW H→α→Prop} (ht:P.underlying t=some (.slice e)) (hc:P.cellsOf e=sz) (h0:0 < sz) (hz:∀y,(ea y).length=sz)
  (ho:∀(fuel:Nat) (l:List Value) (x:DataW H×List MemPlace),DataW.trod enc P w base spare held fuel e l=some x→∃y,l=ea y∧Q x.1 y)
  {fuel:Nat} {v:Value} {x:DataW H×List MemPlace} (h:DataW.trod enc P w base spare held fuel t [v]=some x) :
  ∃A n c ys,v = .slice A n c∧(A=none→c=0)∧n≤c∧Elems w w.heap.size sz ea A n ys∧∃ds sp,(x.1 = .slice ds sp∨(x.1 = .nil∧ds = []))∧ds.length=ys.length∧∀(i:Nat) d y,ds[i]? = some d→ys[i]? = some y→Q d y:=by
 rcases open_slice ht h with ⟨hcs,hx⟩ | ⟨a,len,cap,m,n,D,Pl,hcs,_,hl,_,hmm,hx,hi⟩
 ·simp at hcs;subst hcs;exact ⟨none,0,0,[],rfl,fun _=>rfl,Nat.le_refl _,Elems.nil_,[],[],.inr ⟨by rw[hx],rfl⟩,rfl,fun i d y hd=>by simp at hd⟩
 ·simp at hcs;subst hcs;rw[hc] at hi;have hlm:len≤m:=by rw[hmm];split <;> omega
  obtain ⟨f,hf⟩:=choose_lt (α:=α) (n:=len) (p:=fun i y=>(∀j u,(ea y)[j]? = some u→w.cell? (a.add (i*sz+j))=some u)∧Q (D i) y) (by
   intro i hlt;obtain ⟨cs',hc',ht'⟩:=hi i (by omega);obtain ⟨y,rfl,hq⟩:=ho _ _ _ ht';obtain ⟨_,hcl,hat⟩:=World.cells?_some hc';refine ⟨y,fun j u hu=>?_,hq⟩;have hj:j < sz:=by have:=(List.getElem?_eq_some_iff.1 hu).1;rw[hz] at this;exact this
   have:=hat j hj;rw[Go.Deep.add_add] at this
   rw[this,hu])
  refine ⟨some a,len,cap,(List.range len).map f,rfl,(fun h=>by cases h),hl,⟨by simp,fun h0'=>?_⟩,(List.range len).map D,_,.inl (by rw[hx]),by simp,fun i d y hd hy=>?_⟩
  ·obtain ⟨b,off,spot⟩:=a;have hp:0 < (ea (f 0)).length:=by rw[hz];exact h0
   have h00:=(hf 0 h0').1 0 _ (List.getElem?_eq_getElem hp);have hspot:spot=none:=by simpa[Addr.add] using World.cell?_spot h00
   subst hspot;refine ⟨b,off,rfl,by simpa[Addr.add] using Kag h00,fun i x hx j u hu=>?_⟩;have hil:i < len:=by have:=(List.getElem?_eq_some_iff.1 hx).1;simpa using this
   have hxe:f i=x:=by simpa[hil] using hx
   subst hxe;have:=(hf i hil).1 j u hu;rw[add_plain] at this;rw[←this,Nat.add_assoc]
  ·have hil:i < len:=by have:=(List.getElem?_eq_some_iff.1 hd).1;simpa using this
   have h1:D i=d:=by simpa[hil] using hd
   have h2:f i=y:=by simpa[hil] using hy
   rw[←h1,←h2];exact (hf i hil).2
end
theorem Khf {H:Type} (d:DataW H):1≤Rows.uptoBulk d:=by
 cases d with
 | lit l=>cases l <;> simp[Rows.uptoBulk]
 | nil=>simp[Rows.uptoBulk]
 | ptr d=>simp[Rows.uptoBulk]
 | slice elems spare=>simp[Rows.uptoBulk]
 | agg parts=>simp[Rows.uptoBulk]
 | iface t d=>simp[Rows.uptoBulk]
 | map entries=>simp[Rows.uptoBulk]
 | held h=>simp[Rows.uptoBulk]
theorem Qai {H:Type} (l sp:List (DataW H)):Rows.uptoBulkAll l+1≤Rows.uptoBulk (.slice l sp):=by simp only[Rows.uptoBulk];omega
theorem Qgs {H:Type} {l:List (DataW H)} (hk:Rows.uptoSmall H l=true):Rows.uptoBulkAll l≤1048576:=of_decide_eq_true hk
theorem Kty {H α : Type} (mu:α→Nat):∀(ds:List (DataW H)) (ys:List α),ds.length=ys.length→(∀(i:Nat) d y,ds[i]? = some d→ys[i]? = some y→mu y≤Rows.uptoBulk d)→(ys.map mu).sum≤Rows.uptoBulkAll ds
 | [],[],_,_=>by simp
 | d :: ds,y :: ys,hl,h=>by
  have h1:=h 0 d y rfl rfl;have h2:=Kty mu ds ys (by simpa using hl) (fun i d' y' hd hy=>h (i+1) d' y' (by simpa using hd) (by simpa using hy));simp only[List.map_cons,List.sum_cons,Rows.uptoBulkAll];omega
 | [],_ :: _,hl,_=>by simp at hl
 | _ :: _,[],hl,_=>by simp at hl
theorem Kiv {H α : Type} (mu:α→Nat) {d:DataW H} {ds sp:List (DataW H)} {ys:List α} (hd:d = .slice ds sp∨(d = .nil∧ds = [])) (hl:ds.length=ys.length) (h:∀(i:Nat) d y,ds[i]? = some d→ys[i]? = some y→mu y≤Rows.uptoBulk d):(ys.map mu).sum+1≤Rows.uptoBulk d:=by
 have:=Kty mu ds ys hl h;rcases hd with rfl | ⟨rfl,rfl⟩
 ·have:=Qai ds sp;omega
 ·obtain rfl:ys = []:=List.eq_nil_of_length_eq_zero (by simpa using hl.symm);simp[Rows.uptoBulk]
section
variable {H : Type} {enc : TypeId × Value → H} {w : World} {base : Nat} {spare : Nat → Bool} {held : Bool}
theorem Kub:Tryz.prog.cellsOf 9 = 1:=by kernel_rfl
def litT (s:Txt):DataW H:=.lit (.string s)
theorem Kvp {fuel:Nat} {l:List Value} {x:DataW H×List MemPlace} (h:DataW.trod enc Tryz.prog w base spare held fuel 9 l=some x):∃s:Txt,l = [txtV s]∧x.1=litT s:=by
 obtain ⟨s,rfl,rfl,_⟩:=DataW.trod_string Tryz.underlying9 h;exact ⟨s.data.toList,rfl,rfl⟩
end
section
variable {H : Type} {enc : TypeId × Value → H} {w : World} {base : Nat} {spare : Nat → Bool} {held : Bool}
theorem Kqw:Tryz.prog.cellsOf 106 = 2:=by kernel_rfl
theorem Qhs {fuel:Nat} {l:List Value} {x:DataW H×List MemPlace} (h:DataW.trod enc Tryz.prog w base spare held fuel 106 l=some x):∃y:Lb,l=encLb y∧x.1 = .agg [litT y.n,litT y.v]:=by
 obtain ⟨xs,n,_,hx,hcl,hlen,hg⟩:=DataW.trod_struct Tryz.underlying106 h;rw[Kqw] at hcl
 match l,hcl,xs,hlen with
 | [c0,c1],_,[x0,x1],_=>
  have g0:=hg 0 _ rfl;have g1:=hg 1 _ rfl;simp[Kub] at g0 g1;obtain ⟨a,e0,f0⟩:=Kvp g0;obtain ⟨b,e1,f1⟩:=Kvp g1;simp at e0 e1;subst e0 e1;refine ⟨⟨a,b⟩,rfl,?_⟩;rw[hx];simp[f0,f1]
end
section
variable {H : Type} {enc : TypeId × Value → H} {w : World} {base : Nat} {spare : Nat → Bool} {held : Bool}
def Lb.mass (x:Lb):Nat:=x.n.length+x.v.length+3
def massL (l:List Lb):Nat:=(l.map Lb.mass).sum+1
theorem Krm:∀l:List Lb,2*l.length+1≤massL l
 | []=>by simp[massL]
 | x :: l=>by have:=Krm l;simp only[massL,List.map_cons,List.sum_cons,List.length_cons,Lb.mass] at *;omega
theorem Qen {l:List Lb} {x:Lb} (h:x∈l):x.n.length≤massL l∧x.v.length≤massL l:=by
 induction l with
 | nil=>cases h
 | cons y l ih=>
  simp only[massL,List.map_cons,List.sum_cons,Lb.mass] at *;rcases List.mem_cons.1 h with rfl | h
  ·omega
  ·have:=ih h;omega
theorem Qal:Tryz.prog.cellsOf 80 = 1:=by kernel_rfl
theorem Kvo {fuel:Nat} {v:Value} {x:DataW H×List MemPlace} (h:DataW.trod enc Tryz.prog w base spare held fuel 80 [v]=some x) :
  ∃A n c l,v = .slice A n c∧n≤c∧Elems w w.heap.size 2 encLb A n l∧massL l≤Rows.uptoBulk x.1:=by
 obtain ⟨A,n,c,l,rfl,_,h2,h3,ds,sp,hx,hl,hQ⟩:=Khz (ea:=encLb) (Q:=fun d s=>d = .agg [litT s.n,litT s.v]) Tryz.underlying80 Kqw (by omega) (fun _=>rfl) (fun _ _ _ h=>Qhs h) h;refine ⟨A,n,c,l,rfl,h2,h3,Kiv Lb.mass hx hl fun i d y hd hy=>?_⟩;rw[hQ i d y hd hy];simp[Rows.uptoBulk,Rows.uptoBulkAll,litT,Lb.mass];omega
theorem Kzz {α : Type} (f:α→Nat):∀{l:List α} {x:α},x∈l→f x≤(l.map f).sum
 | y :: l,x,h=>by
  simp only[List.map_cons,List.sum_cons];rcases List.mem_cons.1 h with rfl | h
  ·omega
  ·have:=Kzz f h;omega
end
theorem Kiw:Tryz.prog.cellsOf 2 = 1:=by kernel_rfl
theorem Qao:Tryz.prog.cellsOf 79 = 1:=by kernel_rfl
theorem Kqx:Tryz.prog.cellsOf 93 = 2:=by kernel_rfl
theorem Knu:Tryz.prog.cellsOf 109 = 2:=by kernel_rfl
theorem Qam:Tryz.prog.cellsOf 83 = 1:=by kernel_rfl
theorem Qan:Tryz.prog.cellsOf 81 = 1:=by kernel_rfl
theorem Qak:Tryz.prog.cellsOf 82 = 3:=by kernel_rfl
theorem Knt:Tryz.prog.cellsOf 85 = 6:=by kernel_rfl
theorem Kqn {n:Int} (h:(Lit.int .i64 n).wf=true):-9223372036854775808≤n∧n≤9223372036854775807:=by
 have h1:IntKind.i64.min = -9223372036854775808:=rfl;have h2:IntKind.i64.max=9223372036854775807:=rfl;simp only[Lit.wf,Bool.and_eq_true,decide_eq_true_eq] at h;omega
theorem Qli {z:Int} (h:(Lit.int .u64 z).wf=true):∃n:Nat,z=(n:Int)∧n < 2 ^ 64:=by
 have h1:IntKind.u64.min=0:=rfl;have h2:IntKind.u64.max=18446744073709551615:=rfl;simp only[Lit.wf,Bool.and_eq_true,decide_eq_true_eq] at h;exact ⟨z.toNat,by omega,by omega⟩
section
variable {H : Type} {enc : TypeId × Value → H} {w : World} {base : Nat} {spare : Nat → Bool} {held : Bool}
theorem Qht {fuel:Nat} {l:List Value} {x:DataW H×List MemPlace} (h:DataW.trod enc Tryz.prog w base spare held fuel 93 l=some x):∃y:Smp,l=Kbu y∧(y.v < 2 ^ 64∧1≤Rows.uptoBulk x.1):=by
 obtain ⟨xs,n,_,hx,hcl,hlen,hg⟩:=DataW.trod_struct Tryz.underlying93 h;rw[Kqx] at hcl
 match l,hcl,xs,hlen with
 | [c0,c1],_,[x0,x1],_=>
  have g0:=hg 0 _ rfl;have g1:=hg 1 _ rfl;simp[Kiw,Qao] at g0 g1;obtain ⟨a,e0,_,_⟩:=DataW.trod_int Tryz.underlying2 g0;obtain ⟨b,e1,_,wb⟩:=DataW.trod_int Tryz.underlying79 g1;simp at e0 e1;subst e0 e1;obtain ⟨v,rfl,hv⟩:=Qli wb;exact ⟨⟨a,v⟩,rfl,hv,Khf _⟩
theorem Knm {α : Type}:∀l:List α,(l.map fun _=>1).sum=l.length
 | []=>rfl
 | x :: l=>by rw[List.map_cons,List.sum_cons,Knm l,List.length_cons];omega
theorem Qey {fuel:Nat} {v:Value} {x:DataW H×List MemPlace} (h:DataW.trod enc Tryz.prog w base spare held fuel 83 [v]=some x) :
  ∃A n c l,v = .slice A n c∧n≤c∧Elems w w.heap.size 2 Kbu A n l∧(∀y∈l,y.v < 2 ^ 64)∧l.length+1≤Rows.uptoBulk x.1:=by
 obtain ⟨A,n,c,l,rfl,_,h2,h3,ds,sp,hx,hl,hQ⟩:=Khz (ea:=Kbu) (Q:=fun d (y:Smp)=>y.v < 2 ^ 64∧1≤Rows.uptoBulk d) Tryz.underlying83 Kqx (by omega) (fun _=>rfl) (fun _ _ _ h=>Qht h) h;refine ⟨A,n,c,l,rfl,h2,h3,fun y hy=>?_,?_⟩
 ·obtain ⟨i,hi,rfl⟩:=List.mem_iff_getElem.1 hy;exact (hQ i (ds[i]'(by omega)) l[i] (List.getElem?_eq_getElem _) (List.getElem?_eq_getElem hi)).1
 ·have:=Kiv (fun _:Smp=>1) hx hl fun i d y hd hy=>(hQ i d y hd hy).2
  rwa[Knm] at this
theorem Qez {fuel:Nat} {l:List Value} {x:DataW H×List MemPlace} (h:DataW.trod enc Tryz.prog w base spare held fuel 109 l=some x):∃y:Spn,l=Kac y∧(SpnIn y∧1≤Rows.uptoBulk x.1):=by
 obtain ⟨xs,n,_,hx,hcl,hlen,hg⟩:=DataW.trod_struct Tryz.underlying109 h;rw[Knu] at hcl
 match l,hcl,xs,hlen with
 | [c0,c1],_,[x0,x1],_=>
  have g0:=hg 0 _ rfl;have g1:=hg 1 _ rfl;simp[Kiw] at g0 g1;obtain ⟨a,e0,_,wa⟩:=DataW.trod_int Tryz.underlying2 g0;obtain ⟨b,e1,_,wb⟩:=DataW.trod_int Tryz.underlying2 g1;simp at e0 e1;subst e0 e1;have ha:=Kqn wa;have hb:=Kqn wb;exact ⟨⟨a,b⟩,rfl,⟨ha.1,ha.2,hb.1,hb.2⟩,Khf _⟩
theorem Kjg {fuel:Nat} {v:Value} {x:DataW H×List MemPlace} (h:DataW.trod enc Tryz.prog w base spare held fuel 81 [v]=some x) :
  ∃A n c l,v = .slice A n c∧n≤c∧Elems w w.heap.size 2 Kac A n l∧(∀y∈l,SpnIn y)∧l.length+1≤Rows.uptoBulk x.1:=by
 obtain ⟨A,n,c,l,rfl,_,h2,h3,ds,sp,hx,hl,hQ⟩:=Khz (ea:=Kac) (Q:=fun d (y:Spn)=>SpnIn y∧1≤Rows.uptoBulk d) Tryz.underlying81 Knu (by omega) (fun _=>rfl) (fun _ _ _ h=>Qez h) h;refine ⟨A,n,c,l,rfl,h2,h3,fun y hy=>?_,?_⟩
 ·obtain ⟨i,hi,rfl⟩:=List.mem_iff_getElem.1 hy;exact (hQ i (ds[i]'(by omega)) l[i] (List.getElem?_eq_getElem _) (List.getElem?_eq_getElem hi)).1
 ·have:=Kiv (fun _:Spn=>1) hx hl fun i d y hd hy=>(hQ i d y hd hy).2
  rwa[Knm] at this
theorem Qew {fuel:Nat} {c0 c1 c2:Value} {x:DataW H×List MemPlace} (h:DataW.trod enc Tryz.prog w base spare held fuel 82 [c0,c1,c2]=some x) :
  ∃(h0 h1 h2:Hd) (l0 l1 l2:List Spn),(c0 = .slice h0.A h0.n h0.c∧c1 = .slice h1.A h1.n h1.c∧c2 = .slice h2.A h2.n h2.c)∧(Elems w w.heap.size 2 Kac h0.A h0.n l0∧Elems w w.heap.size 2 Kac h1.A h1.n l1∧Elems w w.heap.size 2 Kac h2.A h2.n l2)∧
   ((∀y∈l0,SpnIn y)∧(∀y∈l1,SpnIn y)∧(∀y∈l2,SpnIn y))∧l0.length+l1.length+l2.length+3≤Rows.uptoBulk x.1:=by
 obtain ⟨xs,m,_,hx,_,hl,hg⟩:=DataW.trod_array Tryz.underlying82 h;rw[Qan] at hg
 match xs,hl with
 | [x0,x1,x2],_=>
  have g0:=hg 0 (by omega);have g1:=hg 1 (by omega);have g2:=hg 2 (by omega);simp at g0 g1 g2;obtain ⟨A0,n0,k0,l0,rfl,a1,a2,a3,a4⟩:=Kjg g0;obtain ⟨A1,n1,k1,l1,rfl,b1,b2,b3,b4⟩:=Kjg g1;obtain ⟨A2,n2,k2,l2,rfl,d1,d2,d3,d4⟩:=Kjg g2;refine ⟨⟨A0,n0,k0⟩,⟨A1,n1,k1⟩,⟨A2,n2,k2⟩,l0,l1,l2,⟨rfl,rfl,rfl⟩,⟨a2,b2,d2⟩,⟨a3,b3,d3⟩,?_⟩;rw[hx];simp only[List.map_cons,List.map_nil,Rows.uptoBulk,Rows.uptoBulkAll];omega
def KSer.weight (s:KSer):Nat:=massL s.labels+s.g0.length+s.g1.length+s.g2.length+s.samples.length+4
structure KIn (w:World) (y:KY) (s:KSer):Prop where
 at_:KAt w y.h s
 m:y.m=s.max
 mx:-9223372036854775808≤s.max∧s.max≤9223372036854775807
 i:(∀x∈s.g0,SpnIn x)∧(∀x∈s.g1,SpnIn x)∧(∀x∈s.g2,SpnIn x)
 v:∀x∈s.samples,x.v < 2 ^ 64
theorem Qex {fuel:Nat} {l:List Value} {x:DataW H×List MemPlace} (h:DataW.trod enc Tryz.prog w base spare held fuel 85 l=some x):∃y:KY,l=encKY y∧∃s,KIn w y s∧KSer.weight s≤Rows.uptoBulk x.1:=by
 obtain ⟨xs,n,_,hx,hcl,hlen,hg⟩:=DataW.trod_struct Tryz.underlying85 h;rw[Knt] at hcl
 match l,hcl,xs,hlen with
 | [c0,c1,c2,c3,c4,c5],_,[x0,x1,x2,x3],_=>
  have g0:=hg 0 _ rfl;have g1:=hg 1 _ rfl;have g2:=hg 2 _ rfl;have g3:=hg 3 _ rfl;simp[Qal,Qam,Qak,Kiw] at g0 g1 g2 g3;obtain ⟨A0,n0,k0,l0,rfl,a1,a2,a3⟩:=Kvo g0;obtain ⟨mx,e1,_,wm⟩:=DataW.trod_int Tryz.underlying2 g1;obtain ⟨h0,h1,h2,p0,p1,p2,⟨rfl,rfl,rfl⟩,⟨b0,b1,b2⟩,b3,b4⟩:=Qew g2;obtain ⟨A3,n3,k3,l3,rfl,d1,d2,d3,d4⟩:=Qey g3;simp at e1;subst e1;refine ⟨⟨⟨⟨A0,n0,k0⟩,h0,h1,h2,⟨A3,n3,k3⟩⟩,mx⟩,rfl,⟨l0,mx,p0,p1,p2,l3⟩,⟨⟨a2,a1,b0,b1,b2,d2,d1⟩,rfl,Kqn wm,b3,d3⟩,?_⟩;rw[hx];have hb1:=Khf x1.1;simp only[List.map_cons,List.map_nil,Rows.uptoBulk,Rows.uptoBulkAll,KSer.weight];omega
theorem Koj:∀l:List Lb,3*l.length+1≤massL l
 | []=>by simp[massL]
 | x :: l=>by have:=Koj l;simp only[massL,List.map_cons,List.sum_cons,List.length_cons,Lb.mass] at *;omega
theorem Kmu:∀L:List KSer,massK L+L.length+3*labsK L≤(L.map KSer.weight).sum
 | []=>by simp[massK,labsK]
 | s :: L=>by
  have:=Kmu L;have:=Koj s.labels;simp only[massK,labsK,List.map_cons,List.sum_cons,List.length_cons,KSer.weight,KSer.mass] at *;omega
theorem Kon {fuel:Nat} {v:Value} {x:DataW H×List MemPlace} (h:DataW.trod enc Tryz.prog w base spare held fuel 22 [v]=some x) :
  ∃A n c L,v = .slice A n c∧n≤c∧KSers w A n L∧(Rows.uptoBulk x.1≤1048576→LSzK L):=by
 obtain ⟨A,n,c,hs,rfl,_,h2,h3,ds,sp,hx,hl,hQ⟩:=Khz (ea:=encKY) (Q:=fun d y=>∃s,KIn w y s∧KSer.weight s≤Rows.uptoBulk d) Tryz.underlying22 Knt (by omega) (fun _=>rfl) (fun _ _ _ h=>Qex h) h;have hn:=h3.len
 obtain ⟨f,hf⟩:=choose_lt (α:=KSer) (n:=n) (p:=fun i s=>∀d y,ds[i]? = some d→hs[i]? = some y→KIn w y s∧KSer.weight s≤Rows.uptoBulk d) (by
  intro i hi;have h1:i < hs.length:=by omega
  have h4:i < ds.length:=by omega
  obtain ⟨l,hl'⟩:=hQ i ds[i] hs[i] (List.getElem?_eq_getElem h4) (List.getElem?_eq_getElem h1);refine ⟨l,fun d y hd hy=>?_⟩;rw[List.getElem?_eq_getElem h4] at hd;rw[List.getElem?_eq_getElem h1] at hy;injection hd with hd;injection hy with hy;subst hd hy
  exact hl')
 have hget:∀i,i < n→((List.range n).map f)[i]! = f i:=fun i hi=>by
  rw[getElem!_pos _ i (by simpa using hi)];simp
 have hS:KSers w A n ((List.range n).map f):=⟨hs,h3,by simp,fun i hi=>by
  have h1:i < hs.length:=by omega
  have h4:i < ds.length:=by omega
  obtain ⟨a1,a2⟩:=hf i hi ds[i] hs[i] (List.getElem?_eq_getElem h4) (List.getElem?_eq_getElem h1);rw[hget i hi,getElem!_pos hs i h1]
  exact ⟨a1.m,a1.at_⟩⟩
 refine ⟨A,n,c,(List.range n).map f,rfl,h2,hS,fun hb=>?_⟩
 have hsum:(((List.range n).map f).map KSer.weight).sum+1≤Rows.uptoBulk x.1:=by
  refine Kiv KSer.weight hx (by simp;omega) fun i d l hd hl'=>?_
  have hi:i < n:=by have:=(List.getElem?_eq_some_iff.1 hl').1;simpa using this
  have e:f i=l:=by simpa[hi] using hl'
  have h1:i < hs.length:=by omega
  rw[←e];exact (hf i hi d hs[i] hd (List.getElem?_eq_getElem h1)).2
 have hm:=Kmu ((List.range n).map f);refine ⟨by omega,by omega,by omega,fun s hs9=>?_⟩;have h5:=Kzz KSer.weight hs9;obtain ⟨i,hi,rfl⟩:=List.mem_map.1 hs9;have hi:i < n:=List.mem_range.1 hi;have h1:i < hs.length:=by omega
 have h4:i < ds.length:=by omega
 obtain ⟨a1,a2⟩:=hf i hi ds[i] hs[i] (List.getElem?_eq_getElem h4) (List.getElem?_eq_getElem h1);have h7:massL (f i).labels+(f i).g0.length+(f i).g1.length+(f i).g2.length+(f i).samples.length+4≤(((List.range n).map f).map KSer.weight).sum:=h5;have h6:=Krm (f i).labels;refine ⟨by omega,fun y hy=>?_,a1.mx,⟨by omega,by omega,by omega⟩,a1.i,by omega,a1.v⟩;have:=Qen hy;omega
instance:Inhabited Trn:=⟨⟨0,0,[]⟩⟩
end
end
section
open Go.RowKit Go.Shelf Go.Sort
open Lib renaming hid → Jh
attribute [local go_sem ↓] Go.wp_at_zero Go.wp_at_succ
attribute [local go_sem] Later.cell
theorem Qcy {S T:ByteArray} (h:¬S=T):(S.toList == T.toList)=false:=by
 rw[beq_eq_false_iff_ne];intro e;apply h;have h1:S.data.toList=T.data.toList:=by rw[←ByteArray.toList_eq,←ByteArray.toList_eq,e]
 obtain ⟨⟨s⟩⟩:=S;obtain ⟨⟨t⟩⟩:=T;have h3:s=t:=h1;rw[h3]
theorem Kts {La Lb:List KSer} (ha:fitK La=true) (hb:fitK Lb=true) (za:LSzK La) (zb:LSzK Lb) {S T:ByteArray} (h1:S.data.toList=encK La) (h2:T.data.toList=encK Lb):decide (S=T)=decide (La=Lb):=by
 apply decide_eq_decide.2;constructor
 ·intro h;rw[h,h2] at h1;exact Qgz ha hb (za.bits ha) (zb.bits hb) h1.symm
 ·intro h;rw[h,←h2] at h1;obtain ⟨⟨s⟩⟩:=S;obtain ⟨⟨t⟩⟩:=T;have h3:s=t:=h1;rw[h3]
section
variable {B0 : Nat} {a : Nat → Addr}
theorem Knw (La Lb:List KSer) (A B:Option Addr) (n m ca cb:Nat) (w:World) (hA:KSers w A n La) (hB:KSers w B m Lb) (hLa:LSzK La) (hLb:LSzK Lb) (hC:QCon B0 a) (hE:QEnv B0 a w) :
  Calls Tryz.prog 5 #[.slice A n ca,.slice B m cb] w fun e w'=>e = .returned (.bool true)∧Below w.heap.size w w':=by
 have hn:n≤1048576:=by rw[←hA.len];exact hLa.n
 have hm:m≤1048576:=by rw[←hB.len];exact hLb.n
 have HENA:=Jh (Kzj La A n ca w hA hLa hE);have HENB:=Jh (fun W h he=>Kzj Lb B m cb W h hLb (a:=a) (B0:=B0) he);have HA0:=Jh hA;have HB0:=Jh hB;have HE0:=Jh hE;have HC:=Jh hC;have HAL:=Jh (fun W h1 h2=>Ksi La Lb A B n m ca cb W h1 h2 (by omega) (by omega) hLa.z hLb.z);have HPL:=Jh (fun (S T:ByteArray) (h1:fitK La=true) (h2:fitK Lb=true) h3 h4=>Kts h1 h2 hLa hLb (S:=S) (T:=T) h3 h4);clear hA hB hLa hLb hC hE hn hm;go_enter Tryz.func5,Tryz.ntmps5
 go_wp2_with fail
 refine HENA.out.mono ?_;rintro _ w1 ⟨⟨S,rfl,hd,_⟩,hb1⟩;have HDS:=Jh hd;have HB1:=Jh hb1;have HE1:=Jh (HE0.out.low HC.out hb1);clear hd hb1;obtain ⟨ev,hev⟩:∃x:Int,(if fitK La=true then (0:Int) else 150)=x:=⟨_,rfl⟩;have HEV:=Jh hev;rw[hev];clear hev;go_wp2_with fail
 refine (HENB.out w1 (HB0.out.below HB1.out) HE1.out).mono ?_;rintro _ w2 ⟨⟨T,rfl,hd,_⟩,hb2⟩;have HDT:=Jh hd;have HB2:=Jh (HB1.out.trans (hb2.mono HB1.out.size));have HE2:=Jh (HE1.out.low HC.out hb2);clear hd hb2;obtain ⟨ew,hew⟩:∃x:Int,(if fitK Lb=true then (0:Int) else 150)=x:=⟨_,rfl⟩;have HEW:=Jh hew;rw[hew];clear hew;go_wp2_with fail
 refine (Kgo w2 HC.out HE2.out).mono ?_;rintro _ w3 ⟨rfl,hb3⟩;have HB3:=Jh (HB2.out.trans (hb3.mono HB2.out.size));have HE3:=Jh (HE2.out.low HC.out hb3);clear hb3;obtain ⟨f,hf⟩:∃f,fitK La=f:=⟨_,rfl⟩;have HF:=Jh hf;clear hf;obtain ⟨g,hg⟩:∃g,fitK Lb=g:=⟨_,rfl⟩;have HG:=Jh hg;clear hg
 cases f with
 | false=>
  have e1:ev=150:=by rw[←HEV.out,HF.out];rfl
  subst e1;go_wp2_with fail
  refine (Kgo w3 HC.out HE3.out).mono ?_;rintro _ w4 ⟨rfl,hb4⟩;have HB4:=Jh (HB3.out.trans (hb4.mono HB3.out.size));clear hb4;go_wp2_with fail
  go_ret
  exact ⟨rfl,HB4.out⟩
 | true=>
  have e1:ev=0:=by rw[←HEV.out,HF.out];rfl
  subst e1
  cases g with
  | false=>
   have e2:ew=150:=by rw[←HEW.out,HG.out];rfl
   subst e2;go_wp2_with fail
   refine (Kgo w3 HC.out HE3.out).mono ?_;rintro _ w4 ⟨rfl,hb4⟩;have HB4:=Jh (HB3.out.trans (hb4.mono HB3.out.size));clear hb4;go_wp2_with fail
   go_ret
   exact ⟨rfl,HB4.out⟩
  | true=>
   have e2:ew=0:=by rw[←HEW.out,HG.out];rfl
   subst e2;have hpl:=HPL.out S T HF.out HG.out (by rw[HDS.out,HF.out];rfl) (by rw[HDT.out,HG.out];rfl);have hal:=HAL.out w3 (HA0.out.below HB3.out) (HB0.out.below HB3.out);rw[←hpl] at hal;have HALX:=Jh hal;clear hpl hal;go_wp2_with fail
   refine HALX.out.mono ?_;rintro _ w4 ⟨rfl,hb4⟩;have HB4:=Jh (HB3.out.trans (hb4.mono HB3.out.size));clear hb4
   by_cases hST:S=T
   ·subst hST;rw[show decide (S=S)=true by simp];go_wp2_with fail
    go_ret
    exact ⟨rfl,HB4.out⟩
   ·rw[show decide (S=T)=false by simp[hST]];have h9:=Qcy hST;go_wp2_with fail
    go_ret
    exact ⟨rfl,HB4.out⟩
end
end
section
open Go.RowKit
theorem Kdg {P:Program} {W:World} {x:String×DataW Unit} {r:List (String×DataW Unit)} (h:laidMet P (x :: r) W):laidMet P r W:=by
 obtain ⟨ps,⟨g,t,cs,f,p,q,hg,ht,hv,hd,hr,e⟩,hnd,hrows⟩:=h;subst e;refine ⟨q,hr,?_,fun b off hm=>hrows b off (by simp[hm])⟩
 first | exact (List.nodup_append.1 hnd).2.1 | exact (List.nodup_append.1 (List.nodup_append.1 hnd).2.1).2.1
theorem Kwh:"*" ++ "errors.errorString" = "*errors.errorString":=by decide
theorem Qjz (u:TypeId) (h:Tryz.prog.typeName? 3 u=some "*errors.errorString"):u = 360:=
 typeName_ptr_named (nm:="errors.errorString") (by rw[Kwh];kernel_rfl) (by kernel_rfl) (by decide) u (by rw[Kwh];exact h)
theorem Khc {n:String} {text:List UInt8} {r:List (String×DataW Unit)} {W:World} {g:Nat}
  (h:laidMet Tryz.prog ((n,.iface "*errors.errorString" (.ptr (.agg [.lit (.string text)]))) :: r) W) (hg:Tryz.prog.globalNamed n=some g) (ht:(Tryz.prog.globals[g]?).map (·.type)=some 40) :
  ∃(a:Addr) (s:ByteArray),W.cell? ⟨g,0,none⟩=some (.iface 360 (.pointer (some a)))∧W.cell? a=some (.string s)∧s.data.toList=text∧∃c t,W.heap[a.block]? = some (.cells c t (0,0)):=by
 obtain ⟨ps,⟨g0',t0',cs0,f0,p0,q0,hg0',ht0',hv0,hd0,_,e0⟩,hnd,hrows⟩:=h;obtain rfl:=Option.some.inj (hg.symm.trans hg0');obtain rfl:=Option.some.inj (ht.symm.trans ht0');subst e0;obtain ⟨l0⟩:=cs0
 have ok0:∀u v,l0 = [.iface u v]→Value.okWide Tryz.prog W .any 0 u v:=fun u v e=>by
  subst e;exact (hrows g 0 (by simp[MemPlace.row])).2 u v (by simpa using World.var?_cell hg0' hv0 0)
 obtain ⟨a0,s0,rfl,hc0,hs0,hz0,rfl⟩:=errorString_of_trod Tryz.underlying40 Qjz Tryz.underlying360 Tryz.underlying382 rfl rfl Tryz.underlying9 (by kernel_rfl) (by kernel_rfl) hd0 ok0;refine ⟨a0,s0,by simpa using World.var?_cell hg0' hv0 0,hc0,hs0,(hrows a0.block a0.off (by simp[MemPlace.row])).1⟩
def sentT:Nat→List UInt8
 | 1=>[116,104,101,32,112,111,119,101,114,32,105,115,32,111,102,102]
 | 2=>[110,111,32,112,97,116,104]
 | 3=>[97,32,100,105,114,101,99,116,111,114,121]
 | 4=>[110,111,116,32,116,104,101,114,101]
 | 5=>[116,104,101,114,101,32,97,108,114,101,97,100,121]
 | 6=>[111,117,116,32,111,102,32,114,97,110,103,101]
 | _=>[110,111,32,115,112,97,99,101]
theorem Qfo:∀i∈[1,2,3,4,5,6,7],∀j∈[1,2,3,4,5,6,7],i≠j→sentT i≠sentT j:=by decide
def Qco (W:World) (k:Nat) (a:Addr):Prop:=W.cell? ⟨failG k,0,none⟩=some (.iface 360 (.pointer (some a)))∧(∃s:ByteArray,W.cell? a=some (.string s)∧s.data.toList=sentT k)∧∃c t,W.heap[a.block]? = some (.cells c t (0,0))
end
end Go.Proofs.YtefpndiiedkmpaaGreatDoor
