/- Merged (what the claim wants of): DskPlain, StoPlain2, StoLawA, StoLawB, StoLawC, StoPlain3, SMap, DskMem, DskPlain2, DskPlain3, DskPlain4, DskPlain5, DskKept, DskWalksA, ShelfE, DskWalksB. -/
import Derived.Test.YtefpndiiedkmpaaGreatDoorKpw02
import Derived.Test.YtefpndiiedkmpaaGreatDoorKpw10
import Derived.Test.YtefpndiiedkmpaaGreatDoorKpw01
import Derived.Test.YtefpndiiedkmpaaGreatDoorKpw04
import Derived.Maps.RangeWalk
import Derived.Maps.OwnSet
import Derived.Maps.Views
import Derived.StringKeys
import Derived.Sort.KeysCollected
import Derived.Test.YtefpndiiedkmpaaGreatDoorKpw03
import Derived.Shelf.SlicesE.Clone
import Derived.Shelf.SlSortCmp.NoneTotal
import Derived.Shelf.SlMaps.Clone
import Derived.Shelf.SlicesQ.IndexFunc
import Derived.Shelf.SlSortCmp.SmallK
import Derived.Shelf.Spec.SearchS
import Derived.Shelf.Strings.Builder1
import Derived.Shelf.Strings.Builder2
import Derived.Shelf.Strings.OnBuilder
import Derived.Shelf.Small.Bits
import Derived.Shelf.Small.Strs
import Derived.Shelf.Small.Wraps
import Derived.Shelf.Strings.BuilderF
import Derived.Shelf.Strings.BuilderK
import Derived.Shelf.Strconv.Itoa0
import Derived.Shelf.Strings.Search1
import Derived.Shelf.Strings.Search2
import Derived.Shelf.Strings.Search3
import Derived.Shelf.Strings.Cut
import Derived.Shelf.LaysM
import Derived.Shelf.Strings.Shaped
import Derived.Shelf.Sort.Plain
import Derived.Shelf.Strings.Prefix
import Derived.Shelf.Bits.Mul64
import Derived.Shelf.Strings.Repeat
import Derived.Shelf.Slices.In.SortNone
set_option linter.unusedVariables false
set_option linter.unusedSimpArgs false
set_option maxRecDepth 100000
set_option maxHeartbeats 8000000
namespace Go.Proofs.YtefpndiiedkmpaaGreatDoor
section
def nameC (b:UInt8):Bool:=(decide (97≤b.toNat) && decide (b.toNat≤122)) || (decide (48≤b.toNat) && decide (b.toNat≤57)) || b.toNat == 46 || b.toNat == 45
def nameB (s:Txt):Bool:=s.all nameC && decide (1≤s.length) && decide (s.length≤32)
def Kai:Txt→Option Nat
 | []=>none
 | b :: l=>if b=47 then some 0 else (Kai l).map (· + 1)
def pathB (s:Txt):Bool:=match Kai s with | none=>nameB s | some k=>nameB (s.take k) && nameB (s.drop (k+1))
def Kbm (p d:Txt):Bool:=(d ++ [47]).isPrefixOf p
structure Th where
 path:Txt
 dir:Bool
 at_:Nat
instance:Inhabited Th:=⟨⟨[],false,0⟩⟩
structure Ch where
 text:Txt
 cut:Bool
 size:Nat
instance:Inhabited Ch:=⟨⟨[],false,0⟩⟩
structure By where
 now:Txt
 safe:Txt
 steps:List Ch
instance:Inhabited By:=⟨⟨[],[],[]⟩⟩
inductive St where
 | mkdir (a:Txt)
 | create (a:Txt) (i:Nat)
 | rename (a b:Txt)
 | remove (a:Txt)
structure Ds where
 things:List Th
 safe:List Th
 steps:List St
 files:List By
 cap:Nat
 off:Bool
 await:Nat
def findT (l:List Th) (p:Txt):Option Th:=l.find? fun x=>x.path == p
def isT (l:List Th) (p:Txt):Nat:=match findT l p with | none=>0 | some x=>if x.dir then 2 else 1
def Kdd (l:List Th) (p:Txt):Bool:=match Kai p with | none=>true | some k=>isT l (p.take k) == 2
def Kad (l:List Th):St→List Th
 | .mkdir a=>l ++ [⟨a,true,0⟩]
 | .create a i=>l ++ [⟨a,false,i⟩]
 | .remove a=>l.filter fun x=>!(x.path == a || Kbm x.path a)
 | .rename a b=>(l.filter fun x=>!(x.path == b)).map fun x=>if x.path == a then { x with path:=b } else if Kbm x.path a then { x with path:=b++x.path.drop a.length } else x
def stepD (d:Ds):Nat×Ds:=if d.await=0 then (0,d) else if d.await=1 then (1,{ d with await:=0,off:=true }) else (0,{ d with await:=d.await - 1 })
def Kbb (d:Ds) (s:St):Nat×Ds:=
 if (stepD d).1≠0 then stepD d else (0,{ (stepD d).2 with things:=Kad d.things s,steps:=d.steps ++ [s] })
def Qia (d:Ds) (s:Txt):Nat×Ds:=if d.off then (1,d) else if nameB s=false then (2,d) else if isT d.things s≠0 then (5,d) else Kbb d (.mkdir s)
def Kbd (d:Ds) (s:Txt):Nat×Ds:=
 if d.off then (1,d) else if pathB s=false then (2,d) else if Kdd d.things s=false then (4,d) else if isT d.things s≠0 then (5,d) else
 if (stepD d).1≠0 then stepD d else (0,{ (Kbb d (.create s d.files.length)).2 with files:=d.files ++ [⟨[],[],[]⟩] })
def fileT (l:List Th) (s:Txt):Except Nat Nat:=match findT l s with | none=>.error 4 | some x=>if x.dir then .error 3 else .ok x.at_
def fileD (d:Ds) (s:Txt):Except Nat Nat:=if d.off then .error 1 else if pathB s=false then .error 2 else fileT d.things s
def nowAt (d:Ds) (i:Nat):Txt:=(d.files[i]?.getD default).now
def usedL (d:Ds) (l:List Th):Nat:=(l.map fun x=>if x.dir then 0 else (nowAt d x.at_).length).sum
def usedD (d:Ds):Nat:=if d.off then 0 else usedL d d.things
def setF (d:Ds) (i:Nat) (f:By):Ds:={ d with files:=d.files.set i f }
def fAt (d:Ds) (i:Nat):By:=d.files[i]?.getD default
def Kbp (d:Ds) (s text:Txt):Nat×Ds:=
 match fileD d s with
 | .error e=>(e,d)
 | .ok i=>if d.cap < usedD d+text.length then (7,d) else if (stepD d).1≠0 then stepD d else
  (0,setF (stepD d).2 i { fAt d i with now:=(fAt d i).now++text,steps:=(fAt d i).steps ++ [⟨text,false,0⟩] })
def syncD (d:Ds) (s:Txt):Nat×Ds:=
 match fileD d s with
 | .error e=>(e,d)
 | .ok i=>if (stepD d).1≠0 then stepD d else (0,setF (stepD d).2 i ⟨(fAt d i).now,(fAt d i).now,[]⟩)
def Kay (d:Ds):Nat×Ds:=if d.off then (1,d) else if (stepD d).1≠0 then stepD d else (0,{ (stepD d).2 with safe:=d.things,steps:=[] })
def Kal (d:Ds) (a b:Txt):Nat×Ds:=
 if d.off then (1,d) else if pathB a=false∨pathB b=false then (2,d) else if isT d.things a=2∧nameB b=false then (2,d) else
 if isT d.things a=0∨Kdd d.things b=false then (4,d) else
 if isT d.things b=2∨(isT d.things b=1∧(isT d.things a=2∨a=b)) then (5,d) else Kbb d (.rename a b)
def Kat (d:Ds) (s:Txt):Nat×Ds:=if d.off then (1,d) else if pathB s=false then (2,d) else if isT d.things s=0 then (4,d) else Kbb d (.remove s)
def allD (d:Ds) (s:Txt):Txt×Nat:=match fileD d s with | .error e=>([],e) | .ok i=>((fAt d i).now,0)
def Kgt (d:Ds) (n:Int):Ds:={ d with await:=n.toNat }
structure En where
 name:Txt
 dir:Bool
 size:Nat
instance:Inhabited En:=⟨⟨[],false,0⟩⟩
def insE (x:En):List En→List En
 | []=>[x]
 | y :: l=>if x.name < y.name then x :: y :: l else y :: insE x l
def sortE (l:List En):List En:=l.foldl (fun acc x=>insE x acc) []
def entD (d:Ds) (dir:Txt):List En:=
 d.things.filterMap fun x=>
  if dir = [] then (if (Kai x.path).isSome then none else some ⟨x.path,x.dir,if x.dir then 0 else (nowAt d x.at_).length⟩)
  else if Kbm x.path dir then some ⟨x.path.drop (dir.length+1),x.dir,if x.dir then 0 else (nowAt d x.at_).length⟩ else none
def listD (d:Ds) (dir:Txt):List En×Nat:=
 if d.off then ([],1) else if dir≠[]∧nameB dir=false then ([],2) else if dir≠[]∧isT d.things dir=1 then ([],3) else if dir≠[]∧isT d.things dir=0 then ([],4) else (sortE (entD d dir),0)
def Kct (wish:Int) (n:Nat):Nat:=if wish < 0 then 0 else wish.toNat % (n+1)
def units (l:List Ch):Nat:=(l.map fun c=>c.text.length+if c.cut then 1 else 0).sum
def keepL:List Ch→Txt→Nat→Bool→Txt×Nat×Bool
 | [],now,left,z=>(now,left,z)
 | c :: r,now,left,z=>if c.cut then (if 0 < left then keepL r (now.take c.size) (left - 1) z else keepL r now left false) else keepL r (now++c.text.take (min left c.text.length)) (left - min left c.text.length) z
def keepF (f:By) (wish:Int) (zeros:Bool):By:=
 let u:=units f.steps
 let r:=keepL f.steps f.safe (Kct wish u) zeros
 let now:=if r.2.2 then r.1++List.replicate (u - Kct wish u) 0 else r.1
 ⟨now,now,[]⟩
def Kci (l:List Th):List En:=sortE ((l.filter fun x=>!x.dir).map fun x=>⟨x.path,false,x.at_⟩)
def Kba (data:List Int) (zeros:Bool):List En→Nat→List By→List By
 | [],_,fs=>fs
 | x :: r,i,fs=>Kba data zeros r (i+1) (fs.set x.size (keepF (fs[x.size]?.getD default) (if data = [] then 0 else data[i % data.length]?.getD 0) zeros))
def Kbc (d:Ds) (n:Int) (data:List Int) (zeros:Bool):Ds:=
 let l:=(d.steps.take (Kct n d.steps.length)).foldl Kad d.safe
 { d with things:=l,safe:=l,steps:=[],files:=Kba data zeros (Kci l) 0 d.files,off:=false,await:=0 }
def newD (cap:Int):Ds:=⟨[],[],[],[],(min cap 67108864).toNat,false,0⟩
def Kby:Txt:=[46,110,101,119]
def seqD:List (Ds→Nat×Ds)→Nat×Ds→Nat×Ds
 | [],r=>r
 | f :: l,r=>if r.1=0 then seqD l (f r.2) else r
def putL (fresh:Txt):List (Ds→Nat×Ds)→Nat×Ds→Nat×Ds
 | [],r=>r
 | f :: l,r=>if r.1=0 then putL fresh l (f r.2) else (r.1,(Kat r.2 fresh).2)
def goneD (d:Ds) (s:Txt):Nat×Ds:=(if (Kat d s).1=4 then 0 else (Kat d s).1,(Kat d s).2)
def putD (d:Ds) (path text:Txt):Nat×Ds:=
 putL (path++Kby) [(Kbd · (path++Kby)),(Kbp · (path++Kby) text),(syncD · (path++Kby)),(Kal · (path++Kby) path),Kay] (goneD d (path++Kby))
theorem Qaz {b:UInt8} (h:nameC b=true):b≠47:=by
 rintro rfl;exact absurd h (by decide)
theorem Knz:∀{s:Txt},s.all nameC=true→Kai s=none
 | [],_=>rfl
 | b :: s,h=>by
  rw[List.all_cons,Bool.and_eq_true] at h;rw[Kai,if_neg (Qaz h.1),Knz h.2];rfl
theorem Kfy {s:Txt} (h:nameB s=true):Kai s=none:=by
 unfold nameB at h;simp only[Bool.and_eq_true] at h;exact Knz h.1.1
section
variable {t b m m2 : Txt}
end
def offD (d:Ds):Ds:={ d with await:=0,off:=true }
def tickD (d:Ds):Ds:={ d with await:=d.await - 1 }
section
variable {d : Ds} {s s2 : Txt} {i : Nat}
theorem Kip (d:Ds):stepD d=if d.await=1 then (1,offD d) else (0,tickD d):=by
 unfold stepD offD tickD
 by_cases h0:d.await=0
 ·rw[if_pos h0,if_neg (by omega),h0];simp only[Nat.zero_sub];rw[←h0]
 ·rw[if_neg h0]
theorem Kja (st:St):Kbb d st=if d.await=1 then (1,offD d) else (0,{ tickD d with things:=Kad d.things st,steps:=d.steps ++ [st] }):=by
 unfold Kbb;rw[Kip]
 by_cases h:d.await=1
 ·simp[h]
 ·simp[h]
theorem Kte (ho:d.off=false) (hp:pathB s=true) (hpar:Kdd d.things s=true) (hi:isT d.things s=0) :
  Kbd d s=if d.await=1 then (1,offD d) else (0,{ tickD d with things:=d.things ++ [⟨s,false,d.files.length⟩],steps:=d.steps ++ [.create s d.files.length],files:=d.files ++ [⟨[],[],[]⟩] }):=by
 unfold Kbd;rw[if_neg (by rw[ho];simp),if_neg (by rw[hp];simp),if_neg (by rw[hpar];simp),if_neg (by rw[hi];simp),Kja,Kip]
 by_cases h:d.await=1
 ·simp[h]
 ·simp[h,Kad]
theorem Kjp (ho:d.off=false) (hp:pathB s=true) (hf:findT d.things s=some ⟨s,false,i⟩):fileD d s = .ok i:=by
 unfold fileD fileT;rw[if_neg (by rw[ho];simp),if_neg (by rw[hp];simp),hf];simp
theorem Ksy (hf:fileD d s = .ok i) (x:Txt) (hc:usedD d+x.length≤d.cap) :
  Kbp d s x=if d.await=1 then (1,offD d) else (0,setF (tickD d) i { fAt d i with now:=(fAt d i).now++x,steps:=(fAt d i).steps ++ [⟨x,false,0⟩] }):=by
 unfold Kbp;rw[hf];simp only;rw[if_neg (by omega),Kip]
 by_cases h:d.await=1
 ·simp[h]
 ·simp[h]
theorem Qda (hf:fileD d s = .ok i):syncD d s=if d.await=1 then (1,offD d) else (0,setF (tickD d) i ⟨(fAt d i).now,(fAt d i).now,[]⟩):=by
 unfold syncD;rw[hf];simp only;rw[Kip]
 by_cases h:d.await=1
 ·simp[h]
 ·simp[h]
theorem Kmt (ho:d.off=false):Kay d=if d.await=1 then (1,offD d) else (0,{ tickD d with safe:=d.things,steps:=[] }):=by
 unfold Kay;rw[if_neg (by rw[ho];simp),Kip]
 by_cases h:d.await=1
 ·simp[h]
 ·simp[h]
theorem Knt (ho:d.off=false) (h1:nameB s=true) (hi:isT d.things s=0):Kat d s=(4,d):=by
 have p1:pathB s=true:=by unfold pathB;rw[Kfy h1];exact h1
 unfold Kat;rw[if_neg (by rw[ho];simp),if_neg (by rw[p1];simp),if_pos hi]
end
def byOk (x:Txt):By:=⟨x,x,[]⟩
def byApp (x:Txt):By:=⟨x,[],[⟨x,false,0⟩]⟩
section
variable {d : Ds} {t b m : Txt}
end
section
variable {d : Ds} {t b : Txt}
end
section
variable {d : Ds} {t b : Txt}
end
section
variable {d : Ds} {t b : Txt}
end
section
variable {d : Ds} {t b : Txt}
end
section
variable {t b m : Txt} {L : List Th} {q k : Nat}
end
section
variable {y : Ds} {t b : Txt} {q : Nat}
theorem Kon {i:Nat} (h:fileD y t = .ok i):allD y t=((fAt y i).now,0):=by
 unfold allD;rw[h]
end
section
variable {d d0 : Ds} {t b : Txt}
end
section
variable {t b : Txt}
end
section
variable {t b : Txt}
def roomD (cap:Nat):Ds:=⟨[],[],[],[],cap,false,0⟩
end
def putX (cap:Nat) (P s:Txt):Ds:=⟨[⟨P,false,0⟩],[⟨P,false,0⟩],[],[byOk s],cap,false,0⟩
theorem Kcr {s:Txt} (h:nameB s=true):pathB s=true:=by unfold pathB;rw[Kfy h];exact h
theorem Kgo {s:Txt} (h:nameB s=true) (l:List Th):Kdd l s=true:=by unfold Kdd;rw[Kfy h]
theorem Qbf {d:Ds} {s s2:Txt} (ho:d.off=false) (h1:nameB s=true) (h2:nameB s2=true) (hi:isT d.things s=1) (hi2:isT d.things s2=0):Kal d s s2=Kbb d (.rename s s2):=by
 unfold Kal;rw[if_neg (by rw[ho];simp),if_neg (by rw[Kcr h1,Kcr h2];simp),if_neg (by rw[h2];simp),if_neg (by rw[hi,Kgo h2];simp),if_neg (by rw[hi,hi2];simp)]
theorem Kch {F:Txt} {f:Ds→Nat×Ds} {l:List (Ds→Nat×Ds)} {d d2:Ds} (h:f d=(0,d2)):putL F (f :: l) (0,d)=putL F l (0,d2):=by
 rw[putL,if_pos rfl];simp only;rw[h]
theorem Qcr (cap:Nat) (P s:Txt) (hP:nameB P=true) (hF:nameB (P++Kby)=true) (hs:s.length≤cap):putD (roomD cap) P s=(0,putX cap P s):=by
 have hne:(P++Kby == P)=false:=by rw[beq_eq_false_iff_ne];intro e;have:=congrArg List.length e;simp[Kby] at this
 have hne2:(P == P++Kby)=false:=by rw[beq_eq_false_iff_ne];intro e;have:=congrArg List.length e;simp[Kby] at this
 obtain ⟨F,hFe⟩:∃F,P++Kby=F:=⟨_,rfl⟩;unfold putD;rw[hFe] at hF hne hne2 ⊢
 have g:goneD (roomD cap) F=(0,roomD cap):=by
  unfold goneD;rw[Knt (d:=roomD cap) rfl hF rfl];rfl
 rw[g]
 let d1:Ds:=⟨[⟨F,false,0⟩],[],[.create F 0],[⟨[],[],[]⟩],cap,false,0⟩
 have e1:Kbd (roomD cap) F=(0,d1):=by
  rw[Kte (d:=roomD cap) rfl (Kcr hF) (Kgo hF _) rfl];exact (if_neg (fun h:(0:Nat)=1=>by cases h)).trans rfl
 have f1:∀(fs:List By) (st:List St),fileD ⟨[⟨F,false,0⟩],[],st,fs,cap,false,0⟩ F = .ok 0:=fun fs st=>Kjp (d:=⟨[⟨F,false,0⟩],[],st,fs,cap,false,0⟩) rfl (Kcr hF) (by simp[findT])
 let d2:Ds:=⟨[⟨F,false,0⟩],[],[.create F 0],[byApp s],cap,false,0⟩
 have e2:Kbp d1 F s=(0,d2):=by
  rw[Ksy (d:=d1) (f1 _ _) s (by show 0+s.length≤cap;omega)];exact (if_neg (fun h:(0:Nat)=1=>by cases h)).trans rfl
 let d3:Ds:=⟨[⟨F,false,0⟩],[],[.create F 0],[byOk s],cap,false,0⟩
 have e3:syncD d2 F=(0,d3):=by
  rw[Qda (d:=d2) (f1 _ _)];exact (if_neg (fun h:(0:Nat)=1=>by cases h)).trans rfl
 let d4:Ds:=⟨[⟨P,false,0⟩],[],[.create F 0,.rename F P],[byOk s],cap,false,0⟩
 have e4:Kal d3 F P=(0,d4):=by
  rw[Qbf (d:=d3) rfl hF hP (by show isT [⟨F,false,0⟩] F=1;simp[isT,findT]) (by show isT [⟨F,false,0⟩] P=0;simp[isT,findT,hne]),Kja];refine (if_neg (fun h:(0:Nat)=1=>by cases h)).trans ?_;show (0,(⟨Kad [⟨F,false,0⟩] (.rename F P),[],_,_,_,_,_⟩:Ds))=(0,d4)
  have:Kad [⟨F,false,0⟩] (.rename F P) = [⟨P,false,0⟩]:=by simp[Kad,hne]
  rw[this];rfl
 have e5:Kay d4=(0,putX cap P s):=by
  rw[Kmt (d:=d4) rfl];exact (if_neg (fun h:(0:Nat)=1=>by cases h)).trans rfl
 rw[Kch e1,Kch e2,Kch e3,Kch e4,Kch e5,putL]
theorem Qlp (cap:Nat) (P s:Txt) (hP:nameB P=true):allD (putX cap P s) P=(s,0):=by
 rw[Kon (y:=putX cap P s) (Kjp rfl (Kcr hP) (show findT [⟨P,false,0⟩] P=some ⟨P,false,0⟩ by simp[findT]))];rfl
theorem Qid:newD 67108864=roomD 67108864:=rfl
def t2:Txt:=[116,48,48,48,48,48,48,48,50]
def b2:Txt:=[98,48,48,48,48,48,48,48,50]
structure Trn where
 at_:Int
 out:Int
 t:Txt
end
section
open Go.RowKit Go.Maps Go.Sort
def HR (v:Value):Option (DataW Value×List MemPlace):=some (.held v,[])
def SMap (P:Program) (K:TypeId) (w:World) (b:Nat) (f:Txt→Option Value):Prop:=
 ∃D:DataW Value,w.ownsMap P K HR b (Maps.size D) D∧(∀x,Maps.has D (.string x)=(f x).isSome)∧∀x v,f x=some v→∀z,D.atKey (.string x) z = .held v
def upd (f:Txt→Option Value) (x:Txt) (v:Option Value):Txt→Option Value:=fun y=>if y=x then v else f y
theorem Kgx {α : Type} [DecidableEq α]:∀(l L:List α),l.Nodup→(∀x∈l,x∈L)→l.length≤L.length
 | [],_,_,_=>by simp
 | a :: l,L,hn,h=>by
  have ha:=List.nodup_cons.1 hn;have:=Kgx l (L.erase a) ha.2 (fun x hx=>(List.mem_erase_of_ne (fun e:x=a=>ha.1 (by rw[←e];exact hx))).2 (h x (by simp[hx])));rw[List.length_erase_of_mem (h a (by simp))] at this;have h0:0 < L.length:=List.length_pos_of_mem (h a (by simp));simp only[List.length_cons];omega
section
variable {P : Program} {K T E : TypeId} {w w' : World} {b : Nat} {f : Txt → Option Value}
theorem Kqo {n:Nat} {D:DataW Value} (h:w.ownsMap P K HR b n D):w.ownsMap P K HR b (Maps.size D) D:=by
 obtain ⟨es,clock,hb,F,hs,rfl⟩:=h;exact ⟨es,clock,hb,F,by simp[Maps.size,length_sorted],rfl⟩
theorem SMap.lt (h:SMap P K w b f):b < w.heap.size:=by obtain ⟨D,h,_⟩:=h;exact h.lt
theorem SMap.grown {row:Option Nat} (h:SMap P K w b f) (hg:w.grownBy w' row) (hne:some b≠row):SMap P K w' b f:=by
 obtain ⟨D,h1,h2⟩:=h;exact ⟨D,h1.kept hg hne,h2⟩
theorem SMap.same (h:SMap P K w b f) (hb:w'.heap[b]? = w.heap[b]?):SMap P K w' b f:=by
 obtain ⟨D,⟨es,clock,h1,r⟩,h2⟩:=h;exact ⟨D,⟨es,clock,hb.trans h1,r⟩,h2⟩
theorem SMap.below {B:Nat} (h:SMap P K w b f) (hb:Below B w w') (hB:b < B):SMap P K w' b f:=h.same (hb.block b hB)
theorem SMap.made (w:World):SMap P K (w.alloc (.map #[] 0)) w.heap.size fun _=>none:=
 ⟨.map [],World.ownsMap_made w P K HR,fun x=>rfl,fun x v h=>by cases h⟩
theorem SMap.keyed (hK:P.underlying K=some .string):Keyed P K:=string_keyed hK
theorem SMap.size_le (hK:P.underlying K=some .string) {D:DataW Value} {n:Nat} (h:w.ownsMap P K HR b n D) (L:List Txt) (hL:∀x,Maps.has D (.string x)=true→x∈L):Maps.size D≤L.length:=by
 obtain ⟨es,rfl,hpw⟩:=h.tidy (SMap.keyed hK);obtain ⟨es',e',hko⟩:=h.keysOf;injection e' with e';subst e'
 have hstr:∀p∈es,∃x,p.1 = .string x:=fun p hp=>by
  obtain ⟨v,hv⟩:=hko p hp;obtain ⟨x,_,hx,_⟩:=Maps.keyOf_str hK hv;exact ⟨x,hx⟩
 rw[size_eq]
 have hnd:(es.map fun p=>strOf p.1).Nodup:=by
  refine List.pairwise_map.2 (hpw.imp_of_mem fun {p q} hp' hq' hne e=>hne ?_);obtain ⟨a,ha⟩:=hstr p hp';obtain ⟨b,hb⟩:=hstr q hq';rw[ha,hb] at e ⊢;exact congrArg _ e
 have hsub:∀x∈es.map (fun p=>strOf p.1),x∈L:=by
  intro x hx;obtain ⟨p,hp,rfl⟩:=List.mem_map.1 hx;obtain ⟨a,ha⟩:=hstr p hp;apply hL;rw[has_eq,List.any_eq_true];exact ⟨p,hp,by rw[ha];simp[strOf,Lit.sameKey]⟩
 have:=Kgx _ L hnd hsub;simpa using this
theorem SMap.look (h:SMap P K w b f) (hK:P.underlying K=some .string) (ht:P.underlying T=some (.map K E)) {z:Value} (hz:(zeroValue E).run P w = .ok z w) {s:ByteArray} (hs:s.size≤maxLen) :
  (Instr.lookup T (.map (some b)) (.string s) false).run P w = .ok ((f s.data.toList).getD z) w:=by
 obtain ⟨D,h1,h2,h3⟩:=h;obtain ⟨v,ps,hrun,hv⟩:=h1.lookup (SMap.keyed hK) ht hz (zd:=.held z) (zp:=[]) rfl (WideMaps.keyOf_string_mk hK hs);rw[hrun];congr 1
 have e:DataW.held v=D.atKey (.string s.data.toList) (.held z):=by
  have:some (DataW.held v,([]:List MemPlace))=some (D.atKey (.string s.data.toList) (.held z),ps):=hv;injection this with this;injection this
 cases hf:f s.data.toList with
 | none=>
  have hh:=h2 s.data.toList;rw[hf] at hh;rw[atKey_of_not_has hh] at e;injection e
 | some u=>
  rw[h3 _ u hf] at e;injection e
theorem SMap.put (h:SMap P K w b f) (hK:P.underlying K=some .string) (ht:P.underlying T=some (.map K E)) {s:ByteArray} (hs:s.size≤maxLen) (v:Value) (L:List Txt) (hL:∀x,(f x).isSome=true→x∈L) (hn:L.length < maxLen) :
  ∃w1,(Instr.mapUpdate T (.map (some b)) (.string s) v).run P w = .ok () w1∧SMap P K w1 b (upd f s.data.toList (some v))∧w.grownBy w1 (some b)∧w1.heap.size=w.heap.size:=by
 obtain ⟨D,h1,h2,h3⟩:=h;have hsz:=SMap.size_le hK h1 L (fun x hx=>hL x (by rw[←h2];exact hx));obtain ⟨w1,hrun,hown,hturn⟩:=h1.store (SMap.keyed hK) ht (by omega) (kl:=.string s.data.toList) (WideMaps.keyOf_string_mk hK hs) (val:=v) (d:=.held v) (ps:=[]) rfl;refine ⟨w1,hrun,⟨_,Kqo hown,fun x=>?_,fun x u hu z=>?_⟩,hturn.grown,?_⟩
 ·unfold upd
  by_cases e:x=s.data.toList
  ·subst e;rw[has_put_same (k:=.string _) h1.isMap trivial,if_pos rfl];rfl
  ·rw[has_put_other (by intro h;injection h with h;exact e h),if_neg e,h2]
 ·unfold upd at hu
  by_cases e:x=s.data.toList
  ·subst e;rw[if_pos rfl] at hu;injection hu with hu;rw[atKey_put_same (k:=.string _) h1.isMap trivial,hu]
  ·rw[if_neg e] at hu;rw[atKey_put_other (by intro h;injection h with h;exact e h)];exact h3 x u hu z
 ·obtain ⟨es,clock,es',clock',_,rfl⟩:=hturn;simp[ChangeMaps.setBlock]
theorem SMap.del (h:SMap P K w b f) (hK:P.underlying K=some .string) (ht:P.underlying T=some (.map K E)) {s:ByteArray} (hs:s.size≤maxLen) (ty:TypeId) :
  ∃w1,(Builtin.delete_ #[T,K] ty #[.map (some b),.string s]).run P w = .ok (.tuple #[]) w1∧SMap P K w1 b (upd f s.data.toList none)∧w.grownBy w1 (some b)∧w1.heap.size=w.heap.size:=by
 obtain ⟨D,h1,h2,h3⟩:=h;obtain ⟨w1,hrun,hown,hturn⟩:=h1.drop (SMap.keyed hK) ht (kl:=.string s.data.toList) (WideMaps.keyOf_string_mk hK hs) ty;refine ⟨w1,hrun,⟨_,Kqo hown,fun x=>?_,fun x u hu z=>?_⟩,hturn.grown,?_⟩
 ·unfold upd
  by_cases e:x=s.data.toList
  ·subst e;rw[has_del_same,if_pos rfl];rfl
  ·rw[has_del_other (by intro h;injection h with h;exact e h),if_neg e,h2]
 ·unfold upd at hu
  by_cases e:x=s.data.toList
  ·subst e;rw[if_pos rfl] at hu;cases hu
  ·rw[if_neg e] at hu;rw[atKey_del_other (by intro h;injection h with h;exact e h)];exact h3 x u hu z
 ·obtain ⟨es,clock,es',clock',_,rfl⟩:=hturn;simp[ChangeMaps.setBlock]
end
section
variable {P : Program} {K T E : TypeId} (w : World) {ops : Array Oper} {rest : List Oper} {o : Oper} {a : Act} {Q : Exit → Act → World → Prop} {b : Nat} {f : Txt → Option Value}
theorem Kgq (hg:o.guard=none) (m x:Operand) (hop:o.op=Op.lookup T m x false) (hK:P.underlying K=some .string) (ht:P.underlying T=some (.map K E)) {z:Value} (hz:(zeroValue E).run P w = .ok z w)
  (hm:a.eval m = .map (some b)) (h:SMap P K w b f) {s:ByteArray} (hx:a.eval x = .string s) (hs:s.size≤maxLen) (r:Value) (hr:(f s.data.toList).getD z=r)
  (hQ:wpList P ops Q rest (a.put o.dst r) w):wpList P ops Q (o :: rest) a w:=by
 refine wpList_plain hg fun K' hK'=>?_
 have:=h.look hK ht hz hs;rw[hr] at this;unfold Oper.wp;simp[execOp,hop,hm,hx,this,Result.andThen];exact hK' _ _ hQ
theorem Khx (hg:o.guard=none) (m x v:Operand) (hop:o.op=Op.mapUpdate T m x v) (hK:P.underlying K=some .string) (ht:P.underlying T=some (.map K E))
  (hm:a.eval m = .map (some b)) (h:SMap P K w b f) {s:ByteArray} (hx:a.eval x = .string s) (hs:s.size≤maxLen) (u:Value) (hv:a.eval v=u) (L:List Txt) (hL:∀x,(f x).isSome=true→x∈L) (hn:L.length < maxLen)
  (hQ:∀w1,SMap P K w1 b (upd f s.data.toList (some u))→w.grownBy w1 (some b)→w1.heap.size=w.heap.size→wpList P ops Q rest (a.put o.dst undef) w1):wpList P ops Q (o :: rest) a w:=by
 refine wpList_plain hg fun K' hK'=>?_
 obtain ⟨w1,hrun,h1,h2,h3⟩:=h.put hK ht hs u L hL hn;unfold Oper.wp;simp[execOp,hop,hm,hx,hv,hrun,Result.andThen];exact hK' _ _ (hQ w1 h1 h2 h3)
theorem Kff (hg:o.guard=none) (m x:Operand) (hop:o.op=Op.call { callee:=Callee.builtin Builtin.delete,args:=#[m,x],argTypes:=#[T,K] }) (hK:P.underlying K=some .string) (ht:P.underlying T=some (.map K E))
  (hm:a.eval m = .map (some b)) (h:SMap P K w b f) {s:ByteArray} (hx:a.eval x = .string s) (hs:s.size≤maxLen)
  (hQ:∀w1,SMap P K w1 b (upd f s.data.toList none)→w.grownBy w1 (some b)→w1.heap.size=w.heap.size→wpList P ops Q rest (a.put o.dst (.tuple #[])) w1):wpList P ops Q (o :: rest) a w:=by
 refine wpList_plain hg fun K' hK'=>?_
 obtain ⟨w1,hrun,h1,h2,h3⟩:=h.del hK ht hs o.type;unfold Oper.wp;simp[execOp,hop,resolve,invoke,builtin,hm,hx,hrun,Result.andThen];exact hK' _ _ (hQ w1 h1 h2 h3)
end
end
section
open Go.RowKit
structure Own (R R':Nat→Nat) (w w':World):Prop where
 os:w'.os=w.os
 tape:w'.tape=w.tape
 output:w'.output=w.output
 size:w.heap.size≤w'.heap.size
 block:∀k,k < w.heap.size→R k=0→w'.heap[k]? = w.heap[k]?
 old:∀k,k < w.heap.size→R' k=R k
def InW (R:Nat→Nat) (w:World):Prop:=∀k,R k≠0→k < w.heap.size
def giv (R:Nat→Nat) (g r:Nat):Nat→Nat:=fun k=>if k=g then r else R k
section
variable {R R' R'' : Nat → Nat} {w w' w'' : World}
theorem Own.refl (R:Nat→Nat) (w:World):Own R R w w:=⟨rfl,rfl,rfl,Nat.le_refl _,fun _ _ _=>rfl,fun _ _=>rfl⟩
theorem Own.trans (h:Own R R' w w') (k:Own R' R'' w' w''):Own R R'' w w'':=
 ⟨k.os.trans h.os,k.tape.trans h.tape,k.output.trans h.output,Nat.le_trans h.size k.size,
  fun i hi hr=>(k.block i (Nat.lt_of_lt_of_le hi h.size) ((h.old i hi).trans hr)).trans (h.block i hi hr),
  fun i hi=>(k.old i (Nat.lt_of_lt_of_le hi h.size)).trans (h.old i hi)⟩
theorem Own.of_below (h:Below w.heap.size w w'):Own R R w w':=⟨h.os,h.tape,h.output,h.size,fun k hk _=>h.block k hk,fun _ _=>rfl⟩
theorem Own.of_grown {g:Nat} (h:w.grownBy w' (some g)) (hg:R g≠0):Own R R w w':=
 ⟨h.os,h.tape,h.output,h.size,fun k hk hr=>h.block k hk (fun e=>by injection e with e;exact hg (e▸hr)),fun _ _=>rfl⟩
theorem Own.of_set {g i:Nat} (u:Value) (hg:R g≠0):Own R R w (w.setCell ⟨g,i,none⟩ u):=
 ⟨rfl,rfl,rfl,by simp[World.setCell],fun k _ hr=>Below.heap_setCell _ _ _ _ (by rintro rfl;exact hg hr),fun _ _=>rfl⟩
theorem Own.of_alloc (o:Obj):Own R R w (w.alloc o):=.of_below ((Below.refl _ _).alloc (Nat.le_refl _) _)
theorem Own.give {g r:Nat} (h:Own R R w w') (hg:w.heap.size≤g):Own R (giv R g r) w w':=
 ⟨h.os,h.tape,h.output,h.size,h.block,fun k hk=>by unfold giv;rw[if_neg (by omega)]⟩
theorem Kck (R:Nat→Nat) (g r:Nat):giv R g r g=r:=by simp[giv]
theorem Kax {g r k:Nat} (h:k≠g):giv R g r k=R k:=by simp[giv,h]
theorem InW.new (h:InW R w) {g:Nat} (hg:w.heap.size≤g):R g=0:=by
 apply Classical.byContradiction;intro h0;have:=h g h0;omega
theorem InW.mono (h:InW R w) (hs:w.heap.size≤w'.heap.size):InW R w':=fun k hk=>Nat.lt_of_lt_of_le (h k hk) hs
theorem InW.give (h:InW R w) (hs:w.heap.size≤w'.heap.size) {g r:Nat} (hg:g < w'.heap.size):InW (giv R g r) w':=by
 intro k hk
 by_cases e:k=g
 ·subst e;exact hg
 ·rw[Kax e] at hk;exact Nat.lt_of_lt_of_le (h k hk) hs
end
def RowIs (w:World) (R:Nat→Nat) (r:Nat) (T:TypeId) (sz:Nat) (v:Value) (n:Nat) (xs:List Value):Prop:=w.ownsRow 0 T sz v n xs∧∀g,v.ownBlock=some g→R g=r
theorem ownsRow.same {w w':World} {base:Nat} {T:TypeId} {sz n:Nat} {v:Value} {xs:List Value} (h:w.ownsRow base T sz v n xs) (hb:∀g,v.ownBlock=some g→w'.heap[g]? = w.heap[g]?):w'.ownsRow base T sz v n xs:=by
 refine ⟨h.1,?_⟩;rcases h.2 with h2 | ⟨g,cap,cur,rfl,h3,h4,h5⟩
 ·exact .inl h2
 ·exact .inr ⟨g,cap,cur,rfl,h3,(hb g rfl).trans h4,h5⟩
theorem RowIs.same {w w':World} {R R':Nat→Nat} {r:Nat} {T:TypeId} {sz n:Nat} {v:Value} {xs:List Value} (h:RowIs w R r T sz v n xs) (hb:∀g,v.ownBlock=some g→R g=r→w'.heap[g]? = w.heap[g]?∧R' g=R g):RowIs w' R' r T sz v n xs:=
 ⟨ownsRow.same h.1 fun g hg=>(hb g hg (h.2 g hg)).1,fun g hg=>(hb g hg (h.2 g hg)).2.trans (h.2 g hg)⟩
theorem RowIs.nil {w:World} {R:Nat→Nat} {r:Nat} {T:TypeId} {sz:Nat}:RowIs w R r T sz (.slice none 0 0) 0 []:=⟨World.ownsRow_nil _ _ _ _,fun g hg=>by cases hg⟩
structure Adr where
 p:Nat
 md:Nat
 mf:Nat
 sd:Nat
 sf:Nat
 sv:Value
 φ : List Nat
def dirF (l:List Th) (x:Txt):Option Value:=if l.any (fun y=>y.dir && y.path == x) then some (.int .i64 1) else none
def fptr (φ : List Nat) (i:Nat):Value:=.pointer (some ⟨φ[i]?.getD 0,0,none⟩)
def filF (φ : List Nat) (l:List Th) (x:Txt):Option Value:=(l.find? fun y=>!y.dir && y.path == x).map fun y=>fptr φ y.at_
abbrev MapM (w:World) (R:Nat→Nat) (r:Nat) (b:Nat) (f:Txt→Option Value):Prop:=SMap Tryz.prog 9 w b f∧R b=r
def encC (c:Ch):List Value:=[txtV c.text,.int .i64 (if c.cut then (c.size:Int) else -1)]
def FileM (w:World) (R:Nat→Nat) (i b:Nat) (f:By):Prop:=
 ∃v,Blk w b 137 #[txtV f.now,txtV f.safe,v]∧R b=10+2*i∧RowIs w R (11+2*i) 213 2 v f.steps.length (f.steps.flatMap encC)
def Kpj (w:World) (R:Nat→Nat) (φ : List Nat) (fs:List By):Prop:=φ.length=fs.length∧∀(i b:Nat) (f:By),φ[i]? = some b→fs[i]? = some f→FileM w R i b f
def Box (w:World) (R:Nat→Nat) (b:Nat) (T:TypeId) (v:Value):Prop:=Blk w b T #[v]∧R b=5
def StepM (w:World) (R:Nat→Nat) (φ : List Nat):St→Value→Prop
 | .mkdir _,_=>False
 | .create a i,v=>∃b c,v = .func (.func 115) #[] #[.pointer (some ⟨c,0,none⟩),.pointer (some ⟨b,0,none⟩)]∧Box w R b 9 (txtV a)∧Box w R c 132 (fptr φ i)
 | .rename a a',v=>∃b c,v = .func (.func 119) #[] #[.pointer (some ⟨b,0,none⟩),.pointer (some ⟨c,0,none⟩)]∧Box w R b 9 (txtV a)∧Box w R c 9 (txtV a')
 | .remove a,v=>∃b,v = .func (.func 111) #[] #[.pointer (some ⟨b,0,none⟩)]∧Box w R b 9 (txtV a)
def Kid (w:World) (R:Nat→Nat) (v:Value) (φ : List Nat) (l:List St):Prop:=
 ∃fs:List Value,RowIs w R 7 156 1 v l.length fs∧fs.length=l.length∧∀(i:Nat) s f,l[i]? = some s→fs[i]? = some f→StepM w R φ s f
def DBlk (w:World) (A:Adr) (d:Ds):Prop:=Blk w A.p 130 #[.map (some A.md),.map (some A.mf),.map (some A.sd),.map (some A.sf),A.sv,.int .i64 (d.cap:Int),.bool d.off,.int .i64 (d.await:Int)]
structure CD (B0:Nat) (w:World) (R:Nat→Nat) (A:Adr) (d:Ds):Prop where
 blk:DBlk w A d
 rp:R A.p=1
 dirs:MapM w R 2 A.md (dirF d.things)
 files:MapM w R 3 A.mf (filF A.φ d.things)
 sdirs:MapM w R 4 A.sd (dirF d.safe)
 sfiles:MapM w R 6 A.sf (filF A.φ d.safe)
 steps:Kid w R A.sv A.φ d.steps
 bytes:Kpj w R A.φ d.files
 inw:InW R w
 low:∀k,k < B0→R k=0
section
variable {w w' : World} {R R' : Nat → Nat} {B0 : Nat} {A : Adr} {d : Ds}
def Same (R R':Nat→Nat) (w w':World):Prop:=∀k,R k≠0→w'.heap[k]? = w.heap[k]?∧R' k=R k
theorem FileM.same {i b:Nat} {f:By} (h:FileM w R i b f) (hs:∀k,R k=10+2*i∨R k=11+2*i→w'.heap[k]? = w.heap[k]?∧R' k=R k):FileM w' R' i b f:=by
 obtain ⟨v,h1,h2,h3⟩:=h;exact ⟨v,((hs b (.inl h2)).1).trans h1,((hs b (.inl h2)).2).trans h2,h3.same fun g _ hr=>hs g (.inr hr)⟩
theorem Box.same {b:Nat} {T:TypeId} {v:Value} (h:Box w R b T v) (hs:∀k,R k=5→w'.heap[k]? = w.heap[k]?∧R' k=R k):Box w' R' b T v:=⟨((hs b h.2).1).trans h.1,((hs b h.2).2).trans h.2⟩
theorem StepM.same {φ : List Nat} {s:St} {v:Value} (h:StepM w R φ s v) (hs:∀k,R k=5→w'.heap[k]? = w.heap[k]?∧R' k=R k):StepM w' R' φ s v:=by
 cases s with
 | mkdir a=>exact (show False from h).elim
 | create a i=>obtain ⟨b,c,h1,h2,h3⟩:=h;exact ⟨b,c,h1,h2.same hs,h3.same hs⟩
 | rename a a'=>obtain ⟨b,c,h1,h2,h3⟩:=h;exact ⟨b,c,h1,h2.same hs,h3.same hs⟩
 | remove a=>obtain ⟨b,h1,h2⟩:=h;exact ⟨b,h1,h2.same hs⟩
theorem Kid.same {v:Value} {φ : List Nat} {l:List St} (h:Kid w R v φ l) (hs:∀k,R k=5∨R k=7→w'.heap[k]? = w.heap[k]?∧R' k=R k):Kid w' R' v φ l:=by
 obtain ⟨fs,h1,h2,h3⟩:=h;exact ⟨fs,h1.same fun g _ hr=>hs g (.inr hr),h2,fun i s f hs' hf=>(h3 i s f hs' hf).same fun k hk=>hs k (.inl hk)⟩
theorem MapM.same {r b:Nat} {f:Txt→Option Value} (h:MapM w R r b f) (hs:∀k,R k=r→w'.heap[k]? = w.heap[k]?∧R' k=R k):MapM w' R' r b f:=⟨h.1.same (hs b h.2).1,((hs b h.2).2).trans h.2⟩
theorem Kpj.same {φ : List Nat} {fs:List By} (h:Kpj w R φ fs) (hs:∀k,10≤R k→w'.heap[k]? = w.heap[k]?∧R' k=R k):Kpj w' R' φ fs:=
 ⟨h.1,fun i b f hb hf=>(h.2 i b f hb hf).same fun k hk=>hs k (by omega)⟩
theorem CD.same (h:CD B0 w R A d) (hs:Same R R' w w') (hw:InW R' w') (hl:∀k,k < B0→R' k=0):CD B0 w' R' A d where
 blk:=((hs A.p (by rw[h.rp];omega)).1).trans h.blk
 rp:=((hs A.p (by rw[h.rp];omega)).2).trans h.rp
 dirs:=h.dirs.same fun k hk=>hs k (by omega)
 files:=h.files.same fun k hk=>hs k (by omega)
 sdirs:=h.sdirs.same fun k hk=>hs k (by omega)
 sfiles:=h.sfiles.same fun k hk=>hs k (by omega)
 steps:=h.steps.same fun k hk=>hs k (by omega)
 bytes:=h.bytes.same fun k hk=>hs k (by omega)
 inw:=hw
 low:=hl
theorem CD.below (h:CD B0 w R A d) (hb:Below w.heap.size w w'):CD B0 w' R A d:=
 h.same (fun k hk=>⟨hb.block k (h.inw k hk),rfl⟩) (h.inw.mono hb.size) h.low
end
def failG:Nat→Nat
 | 1=>6 | 2=>5 | 3=>3 | 4=>2 | 5=>4 | 6=>1 | _=>0
def failV (a:Nat→Addr) (k:Nat):Value:=.iface 360 (.pointer (some (a k)))
def Fails (B0:Nat) (a:Nat→Addr) (w:World):Prop:=∀k,k≠6→failG k < B0∧w.cell? ⟨failG k,0,none⟩=some (failV a k)
theorem Fails.below {B0:Nat} {a:Nat→Addr} {w w':World} (h:Fails B0 a w) (hb:Below B0 w w'):Fails B0 a w':=fun k hk=>⟨(h k hk).1,(hb.cell (p:=⟨failG k,0,none⟩) (h k hk).1).trans (h k hk).2⟩
def ErrV (a:Nat→Addr) (w:World) (op path:ByteArray):Nat→Value→Prop
 | 0,v=>v = .nilIface
 | k+1,v=>∃q,v = .iface 56 (.pointer (some ⟨q,0,none⟩))∧Blk w q 59 #[.string op,.string path,failV a (k+1)]
section
variable {w w' : World} {R R' : Nat → Nat} {B0 : Nat} {A : Adr} {d d' : Ds}
theorem CD.blk_only (h:CD B0 w R A d) (hw:∀k,k < w.heap.size→k≠A.p→w'.heap[k]? = w.heap[k]?) (hs:w.heap.size≤w'.heap.size) (hb:DBlk w' A d') (h1:d'.things=d.things) (h2:d'.safe=d.safe) (h3:d'.steps=d.steps) (h4:d'.files=d.files):CD B0 w' R A d':=by
 have key:∀k,R k≠0→R k≠1→w'.heap[k]? = w.heap[k]?∧R k=R k:=fun k hk h1=>⟨hw k (h.inw k hk) (fun e=>h1 (by rw[e];exact h.rp)),rfl⟩
 exact {
  blk:=hb
  rp:=h.rp
  dirs:=by rw[h1];exact h.dirs.same fun k hk=>key k (by omega) (by omega)
  files:=by rw[h1];exact h.files.same fun k hk=>key k (by omega) (by omega)
  sdirs:=by rw[h2];exact h.sdirs.same fun k hk=>key k (by omega) (by omega)
  sfiles:=by rw[h2];exact h.sfiles.same fun k hk=>key k (by omega) (by omega)
  steps:=by rw[h3];exact h.steps.same fun k hk=>key k (by omega) (by omega)
  bytes:=by rw[h4];exact h.bytes.same fun k hk=>key k (by omega) (by omega)
  inw:=h.inw.mono hs
  low:=h.low }
theorem CD.file_only (h:CD B0 w R A d) {i:Nat} {f:By} (hi:i < d.files.length) (hs:∀k,R k≠0→R k≠10+2*i→R k≠11+2*i→w'.heap[k]? = w.heap[k]?∧R' k=R k) (hw:InW R' w') (hl:∀k,k < B0→R' k=0) (hf:FileM w' R' i (A.φ[i]?.getD 0) f):CD B0 w' R' A (setF d i f) where
 blk:=((hs A.p (by rw[h.rp];omega) (by rw[h.rp];omega) (by rw[h.rp];omega)).1).trans h.blk
 rp:=((hs A.p (by rw[h.rp];omega) (by rw[h.rp];omega) (by rw[h.rp];omega)).2).trans h.rp
 dirs:=h.dirs.same fun k hk=>hs k (by omega) (by omega) (by omega)
 files:=h.files.same fun k hk=>hs k (by omega) (by omega) (by omega)
 sdirs:=h.sdirs.same fun k hk=>hs k (by omega) (by omega) (by omega)
 sfiles:=h.sfiles.same fun k hk=>hs k (by omega) (by omega) (by omega)
 steps:=h.steps.same fun k hk=>hs k (by omega) (by omega) (by omega)
 bytes:=by
  refine ⟨by simp[setF,h.bytes.1],fun j b g hb hg=>?_⟩;simp only[setF] at hg
  by_cases e:j=i
  ·subst e
   have hg':f=g:=by
    rw[List.getElem?_set_self (by simpa using hi)] at hg;injection hg
   rw[←hg'];rw[hb] at hf;exact hf
  ·rw[List.getElem?_set_ne (Ne.symm e)] at hg;exact (h.bytes.2 j b g hb hg).same fun k hk=>hs k (by omega) (by omega) (by omega)
 inw:=hw
 low:=hl
end
end
section
structure TW (n:Nat) (l:List Th):Prop where
 nodup:(l.map Th.path).Nodup
 dirs:∀x∈l,x.dir=true→nameB x.path=true
 paths:∀x∈l,pathB x.path=true
 par:∀x∈l,∀k,Kai x.path=some k→∃y∈l,y.dir=true∧y.path=x.path.take k
 ats:∀x∈l,x.dir=false→x.at_ < n
 inj:∀x∈l,∀y∈l,x.dir=false→y.dir=false→x.at_=y.at_→x=y
def StOk (n:Nat) (l:List Th):St→Prop
 | .mkdir a=>nameB a=true∧isT l a=0
 | .create a i=>pathB a=true∧Kdd l a=true∧isT l a=0∧i < n∧∀x∈l,x.dir=false→x.at_≠i
 | .remove a=>pathB a=true∧isT l a≠0
 | .rename a b=>pathB a=true∧pathB b=true∧isT l a≠0∧Kdd l b=true∧isT l b≠2∧(isT l a=2→nameB b=true∧isT l b=0)∧a≠b
theorem Kbs {s:Txt} (h:nameB s=true):Kai s=none:=by
 simp only[nameB,Bool.and_eq_true] at h;have h1:=h.1.1;clear h
 induction s with
 | nil=>rfl
 | cons b l ih=>
  simp only[List.all_cons,Bool.and_eq_true] at h1;rw[Kai,if_neg,ih h1.2]
  ·rfl
  ·rintro rfl;have:=h1.1;simp[nameC] at this
theorem Krd {s:Txt} (h:Kai s=none):(47:UInt8)∉s:=by
 induction s with
 | nil=>simp
 | cons b l ih=>
  rw[Kai] at h
  split at h
  ·cases h
  ·rename_i hb
   have:Kai l=none:=by cases hl:Kai l <;> simp_all
   simp only[List.mem_cons,not_or];exact ⟨fun e=>hb e.symm,ih this⟩
theorem Kau {p d:Txt}:Kbm p d=true↔∃x,p=d ++ [47]++x:=by
 unfold Kbm;rw[List.isPrefixOf_iff_prefix];constructor
 ·rintro ⟨x,h⟩;exact ⟨x,h.symm⟩
 ·rintro ⟨x,h⟩;exact ⟨x,h.symm⟩
theorem Kbz {p d:Txt} (h:nameB p=true):Kbm p d=false:=by
 cases hi:Kbm p d with
 | false=>rfl
 | true=>
  obtain ⟨x,rfl⟩:=Kau.1 hi;exact absurd (Krd (Kbs h)) (by simp)
theorem Kcv:∀{d:Txt} (x:Txt),Kai d=none→Kai (d ++ [47]++x)=some d.length
 | [],x,_=>by simp[Kai]
 | b :: d,x,h=>by
  rw[Kai] at h
  split at h
  ·cases h
  ·rename_i hb
   have hd:Kai d=none:=by cases hl:Kai d <;> simp_all
   have:=Kcv x hd;simp only[List.cons_append] at this ⊢;rw[Kai,if_neg hb,this];simp
theorem Kji:∀{l:Txt} {k:Nat},Kai l=some k→k < l.length
 | b :: l,k,h=>by
  rw[Kai] at h
  split at h
  ·injection h with h;subst h;simp
  ·cases hs:Kai l with
   | none=>rw[hs] at h;cases h
   | some j=>
    rw[hs] at h;injection h with h;have:=Kji hs;simp at h ⊢;omega
theorem Kkh {l:List Th} {a:Txt}:isT l a=0↔∀x∈l,x.path≠a:=by
 unfold isT findT
 cases h:l.find? fun x=>x.path == a with
 | none=>
  simp only[List.find?_eq_none] at h;simp only[true_iff];intro x hx e;exact h x hx (by simpa using e)
 | some y=>
  have h1:=List.find?_some h;have h2:=List.mem_of_find?_eq_some h;simp only;constructor
  ·intro e
   split at e <;> omega
  ·intro e;exact absurd (by simpa using h1) (e y h2)
theorem Kfp {l:List Th} (h:(l.map Th.path).Nodup) {x y:Th} (hx:x∈l) (hy:y∈l) (e:x.path=y.path):x=y:=by
 induction l with
 | nil=>cases hx
 | cons z l ih=>
  simp only[List.map_cons,List.nodup_cons] at h;rcases List.mem_cons.1 hx with rfl | hx' <;> rcases List.mem_cons.1 hy with rfl | hy'
  ·rfl
  ·exact absurd (List.mem_map_of_mem (f:=Th.path) hy') (by rw[←e];exact h.1)
  ·exact absurd (List.mem_map_of_mem (f:=Th.path) hx') (by rw[e];exact h.1)
  ·exact ih h.2 hx' hy'
theorem Keo {l:List Th} (h:(l.map Th.path).Nodup) {x:Th} (hx:x∈l):isT l x.path=if x.dir then 2 else 1:=by
 unfold isT findT
 cases hf:l.find? fun y=>y.path == x.path with
 | none=>
  simp only[List.find?_eq_none] at hf;exact absurd (by simp) (hf x hx)
 | some y=>
  have h1:=List.find?_some hf;have h2:=List.mem_of_find?_eq_some hf;obtain rfl:=Kfp h h2 hx (by simpa using h1);rfl
theorem Kgw {l:List Th} {a:Txt} (h:isT l a≠0):∃x∈l,x.path=a∧isT l a=if x.dir then 2 else 1:=by
 unfold isT findT at h ⊢
 cases hf:l.find? fun y=>y.path == a with
 | none=>rw[hf] at h;exact absurd rfl h
 | some y=>
  have h1:=List.find?_some hf;exact ⟨y,List.mem_of_find?_eq_some hf,by simpa using h1,rfl⟩
theorem Kdf {l:List Th} {x:Txt}:(dirF l x).isSome=true↔∃y∈l,y.dir=true∧y.path=x:=by
 unfold dirF
 split
 ·rename_i h
  rw[List.any_eq_true] at h;obtain ⟨y,hy,h⟩:=h;simp only[Bool.and_eq_true,beq_iff_eq] at h;simp only[Option.isSome_some,true_iff];exact ⟨y,hy,h.1,h.2⟩
 ·rename_i h
  simp only[Option.isSome_none,Bool.false_eq_true,false_iff];rintro ⟨y,hy,h1,h2⟩;apply h;rw[List.any_eq_true];exact ⟨y,hy,by simp[h1,h2]⟩
theorem Kge {l:List Th} {x:Txt} {v:Value} (h:dirF l x=some v):v = .int .i64 1:=by
 unfold dirF at h
 split at h
 ·injection h with h;exact h.symm
 ·cases h
theorem Ksc {l l':List Th} {x x':Txt} (h:(∃y∈l,y.dir=true∧y.path=x)↔∃y∈l',y.dir=true∧y.path=x'):dirF l x=dirF l' x':=by
 cases h1:dirF l x with
 | none=>
  cases h2:dirF l' x' with
  | none=>rfl
  | some v=>
   have:=h.2 (Kdf.1 (by rw[h2];rfl));have:=Kdf.2 this;rw[h1] at this;cases this
 | some v=>
  have:=Kdf.2 (h.1 (Kdf.1 (by rw[h1];rfl)))
  cases h2:dirF l' x' with
  | none=>rw[h2] at this;cases this
  | some v'=>rw[Kge h1,Kge h2]
theorem Kca {φ : List Nat} {l:List Th} (h:(l.map Th.path).Nodup) {x:Txt} {v:Value}:filF φ l x=some v↔∃y∈l,y.dir=false∧y.path=x∧v=fptr φ y.at_:=by
 unfold filF;constructor
 ·intro e
  cases hf:l.find? fun y=>!y.dir && y.path == x with
  | none=>rw[hf] at e;cases e
  | some y=>
   rw[hf] at e;have h1:=List.find?_some hf;simp only[Bool.and_eq_true,Bool.not_eq_true',beq_iff_eq] at h1;injection e with e;exact ⟨y,List.mem_of_find?_eq_some hf,h1.1,h1.2,e.symm⟩
 ·rintro ⟨y,hy,h1,h2,rfl⟩
  cases hf:l.find? fun y=>!y.dir && y.path == x with
  | none=>
   simp only[List.find?_eq_none] at hf;exact absurd (by simp[h1,h2]) (hf y hy)
  | some z=>
   have h3:=List.find?_some hf;simp only[Bool.and_eq_true,Bool.not_eq_true',beq_iff_eq] at h3;obtain rfl:=Kfp h (List.mem_of_find?_eq_some hf) hy (h3.2.trans h2.symm);rfl
theorem Ksj {α : Type} {a b:Option α} (h:∀v,a=some v↔b=some v):a=b:=by
 cases a with
 | none=>
  cases b with
  | none=>rfl
  | some v=>have:=(h v).2 rfl;cases this
 | some v=>exact ((h v).1 rfl).symm
variable {n : Nat} {l : List Th} {φ : List Nat} {a b : Txt} {i : Nat}
theorem Qam:dirF (Kad l (.create a i))=dirF l:=by
 funext x;simp[dirF,Kad]
theorem Qap (h:isT l a=0):filF φ (Kad l (.create a i))=upd (filF φ l) a (some (fptr φ i)):=by
 funext x;have h0:=Kkh.1 h;unfold upd filF;simp only[Kad,List.find?_append]
 split
 ·rename_i e
  subst e
  have:(l.find? fun y=>!y.dir && y.path == x)=none:=by
   rw[List.find?_eq_none];intro y hy;have:=h0 y hy;simp[this]
  rw[this];simp
 ·rename_i e
  cases l.find? fun y=>!y.dir && y.path == x with
  | some y=>rfl
  | none=>
   have:a≠x:=fun h=>e h.symm
   simp[this]
theorem Kil {p:Th→Bool} (h:(l.map Th.path).Nodup):((l.filter p).map Th.path).Nodup:=(List.Sublist.map _ List.filter_sublist).nodup h
theorem Qan (hw:TW n l):dirF (Kad l (.remove a))=upd (dirF l) a none:=by
 funext x;unfold upd
 split
 ·rename_i e
  subst e
  cases h:dirF (Kad l (.remove x)) x with
  | none=>rfl
  | some v=>
   obtain ⟨y,hy,_,h2⟩:=Kdf.1 (show (dirF (Kad l (.remove x)) x).isSome=true by rw[h];rfl);simp only[Kad,List.mem_filter] at hy;simp[h2] at hy
 ·rename_i e
  refine Ksc ?_;simp only[Kad,List.mem_filter];constructor
  ·rintro ⟨y,⟨hy,_⟩,h⟩;exact ⟨y,hy,h⟩
  ·rintro ⟨y,hy,h1,h2⟩;refine ⟨y,⟨hy,?_⟩,h1,h2⟩;rw[Kbz (hw.dirs y hy h1)];simp[h2,e]
theorem Qaq (hw:TW n l) (x:Txt):filF φ (Kad l (.remove a)) x=if x=a∨Kbm x a=true then none else filF φ l x:=by
 apply Ksj;intro v;have hnd:((Kad l (.remove a)).map Th.path).Nodup:=Kil hw.nodup;rw[Kca hnd];simp only[Kad,List.mem_filter]
 split
 ·rename_i hx
  simp only[reduceCtorEq,iff_false];rintro ⟨y,⟨_,hp⟩,_,rfl,_⟩;rcases hx with hx | hx <;> simp[hx] at hp
 ·rename_i hx
  rw[Kca hw.nodup];constructor
  ·rintro ⟨y,⟨hy,_⟩,h⟩;exact ⟨y,hy,h⟩
  ·rintro ⟨y,hy,h1,rfl,h3⟩;refine ⟨y,⟨hy,?_⟩,h1,rfl,h3⟩;simp only[not_or,Bool.not_eq_true] at hx;simp[hx.1,hx.2]
def mv (a b:Txt) (x:Th):Th:=if x.path == a then { x with path:=b } else if Kbm x.path a then { x with path:=b++x.path.drop a.length } else x
theorem Klg:Kad l (.rename a b)=(l.filter fun x=>!(x.path == b)).map (mv a b):=rfl
theorem Kcg (x:Th):(mv a b x).dir=x.dir∧(mv a b x).at_=x.at_:=by unfold mv;split;exact ⟨rfl,rfl⟩;split <;> exact ⟨rfl,rfl⟩
theorem Kmo:∀{s:Txt} {k:Nat} (r:Txt),Kai s=some k→Kai (s++r)=some k
 | b :: s,k,r,h=>by
  rw[Kai] at h;rw[List.cons_append,Kai]
  split
  ·rename_i hb;rw[if_pos hb] at h;exact h
  ·rename_i hb
   rw[if_neg hb] at h
   cases hs:Kai s with
   | none=>rw[hs] at h;cases h
   | some j=>rw[hs] at h;rw[Kmo r hs];exact h
theorem Kna (hw:TW n l) (ha:isT l a≠2) (hp:pathB a=true) {x:Th} (hx:x∈l):Kbm x.path a=false:=by
 cases hi:Kbm x.path a with
 | false=>rfl
 | true=>
  obtain ⟨r,hr⟩:=Kau.1 hi
  cases hsl:Kai a with
  | none=>
   have hs:=Kcv r hsl;rw[←hr] at hs;obtain ⟨y,hy,h1,h2⟩:=hw.par x hx _ hs;rw[hr] at h2;have e:y.path=a:=by rw[h2];simp
   have:=Keo hw.nodup hy;rw[e,h1] at this;exact absurd this ha
  | some k=>
   have hs:=Kmo ([47]++r) hsl;rw[←List.append_assoc,←hr] at hs;have h1:=hw.paths x hx;unfold pathB at h1;rw[hs] at h1;simp only[Bool.and_eq_true] at h1;have h2:=Krd (Kbs h1.2);have hk:=Kji hsl;exfalso;apply h2;rw[hr,List.append_assoc,List.drop_append_of_le_length (by omega)];simp
theorem Kio:∀{s:Txt} {k:Nat},Kai s=some k→Kai (s.take k)=none∧s=s.take k ++ [47]++s.drop (k+1)
 | b :: s,k,h=>by
  rw[Kai] at h
  split at h
  ·rename_i hb
   injection h with h;subst h;subst hb;simp[Kai]
  ·rename_i hb
   cases hs:Kai s with
   | none=>rw[hs] at h;cases h
   | some j=>
    rw[hs] at h;injection h with h;have h':j+1=k:=h;subst h';obtain ⟨h1,h2⟩:=Kio hs;constructor
    ·rw[List.take_succ_cons,Kai,if_neg hb,h1];rfl
    ·rw[List.take_succ_cons,List.drop_succ_cons]
     conv=>lhs;rw[h2]
     simp
theorem Kfn {x:Th} (h1:x.path≠a) (h2:Kbm x.path a=false):mv a b x=x:=by simp[mv,h1,h2]
theorem Kmy {x:Th} (h1:x.path=a):(mv a b x).path=b:=by simp[mv,h1]
theorem mv_in {x:Th} {r:Txt} (h:x.path=a ++ [47]++r):(mv a b x).path=b ++ [47]++r:=by
 have h1:x.path≠a:=by
  rw[h];intro e;have:=congrArg List.length e;simp at this
 have h2:Kbm x.path a=true:=Kau.2 ⟨r,h⟩;unfold mv;rw[if_neg (by simpa using h1),if_pos h2];simp[h]
theorem Kcz (x:Th):(x.path=a∧(mv a b x).path=b)∨(∃r,x.path=a ++ [47]++r∧(mv a b x).path=b ++ [47]++r)∨(x.path≠a∧Kbm x.path a=false∧mv a b x=x):=by
 by_cases h1:x.path=a
 ·exact .inl ⟨h1,Kmy h1⟩
 ·cases h2:Kbm x.path a with
  | false=>exact .inr (.inr ⟨h1,rfl,Kfn h1 h2⟩)
  | true=>
   obtain ⟨r,hr⟩:=Kau.1 h2;exact .inr (.inl ⟨r,hr,mv_in hr⟩)
variable {n : Nat} {l : List Th} {φ : List Nat} {a b : Txt} {i : Nat}
theorem Ktw {l:List Th} {x:Th} (h:(l.map Th.path).Nodup) (hx:isT l x.path=0):((l ++ [x]).map Th.path).Nodup:=by
 rw[List.map_append,List.nodup_append];refine ⟨h,by simp,?_⟩;intro p hp q hq;simp at hq;subst hq;obtain ⟨y,hy,rfl⟩:=List.mem_map.1 hp;exact Kkh.1 hx y hy
theorem Qib {a:Txt} (h:nameB a=true):pathB a=true:=by
 unfold pathB;rw[Kbs h];exact h
theorem TW.mkdir (hw:TW n l) (h:StOk n l (.mkdir a)):TW n (Kad l (.mkdir a)):=by
 obtain ⟨h1,h2⟩:=h;refine ⟨Ktw hw.nodup h2,?_,?_,?_,?_,?_⟩
 ·intro x hx hd;rcases List.mem_append.1 hx with hx | hx
  ·exact hw.dirs x hx hd
  ·rw[List.mem_singleton.1 hx];exact h1
 ·intro x hx;rcases List.mem_append.1 hx with hx | hx
  ·exact hw.paths x hx
  ·rw[List.mem_singleton.1 hx];exact Qib h1
 ·intro x hx k hk;rcases List.mem_append.1 hx with hx | hx
  ·obtain ⟨y,hy,e⟩:=hw.par x hx k hk;exact ⟨y,List.mem_append.2 (.inl hy),e⟩
  ·rw[List.mem_singleton.1 hx] at hk;have:=Kbs h1;rw[this] at hk;cases hk
 ·intro x hx hd;rcases List.mem_append.1 hx with hx | hx
  ·exact hw.ats x hx hd
  ·rw[List.mem_singleton.1 hx] at hd;cases hd
 ·intro x hx y hy hdx hdy e;rcases List.mem_append.1 hx with hx | hx
  ·rcases List.mem_append.1 hy with hy | hy
   ·exact hw.inj x hx y hy hdx hdy e
   ·rw[List.mem_singleton.1 hy] at hdy;cases hdy
  ·rw[List.mem_singleton.1 hx] at hdx;cases hdx
theorem Knq (h:Kdd l a=true) {k:Nat} (hk:Kai a=some k):∃y∈l,y.dir=true∧y.path=a.take k:=by
 unfold Kdd at h;rw[hk] at h;have h2:isT l (a.take k)=2:=by simpa using h
 obtain ⟨y,hy,e,h3⟩:=Kgw (by rw[h2];omega);refine ⟨y,hy,?_,e⟩;rw[h2] at h3
 split at h3
 ·assumption
 ·omega
theorem TW.create (hw:TW n l) (h:StOk n l (.create a i)):TW n (Kad l (.create a i)):=by
 obtain ⟨h1,h2,h3,h4,h5⟩:=h;refine ⟨Ktw hw.nodup h3,?_,?_,?_,?_,?_⟩
 ·intro x hx hd;rcases List.mem_append.1 hx with hx | hx
  ·exact hw.dirs x hx hd
  ·rw[List.mem_singleton.1 hx] at hd;cases hd
 ·intro x hx;rcases List.mem_append.1 hx with hx | hx
  ·exact hw.paths x hx
  ·rw[List.mem_singleton.1 hx];exact h1
 ·intro x hx k hk;rcases List.mem_append.1 hx with hx | hx
  ·obtain ⟨y,hy,e⟩:=hw.par x hx k hk;exact ⟨y,List.mem_append.2 (.inl hy),e⟩
  ·rw[List.mem_singleton.1 hx] at hk ⊢;obtain ⟨y,hy,e⟩:=Knq h2 hk;exact ⟨y,List.mem_append.2 (.inl hy),e⟩
 ·intro x hx hd;rcases List.mem_append.1 hx with hx | hx
  ·exact hw.ats x hx hd
  ·rw[List.mem_singleton.1 hx];exact h4
 ·intro x hx y hy hdx hdy e;rcases List.mem_append.1 hx with hx | hx
  ·rcases List.mem_append.1 hy with hy | hy
   ·exact hw.inj x hx y hy hdx hdy e
   ·rw[List.mem_singleton.1 hy] at e;exact absurd e (h5 x hx hdx)
  ·rcases List.mem_append.1 hy with hy | hy
   ·rw[List.mem_singleton.1 hx] at e;exact absurd e.symm (h5 y hy hdy)
   ·rw[List.mem_singleton.1 hx,List.mem_singleton.1 hy]
theorem TW.remove (hw:TW n l):TW n (Kad l (.remove a)):=by
 have hsub:∀x∈Kad l (.remove a),x∈l:=fun x hx=>(List.mem_filter.1 hx).1
 refine ⟨Kil hw.nodup,fun x hx=>hw.dirs x (hsub x hx),fun x hx=>hw.paths x (hsub x hx),?_,fun x hx=>hw.ats x (hsub x hx),fun x hx y hy=>hw.inj x (hsub x hx) y (hsub y hy)⟩;intro x hx k hk;obtain ⟨y,hy,h1,h2⟩:=hw.par x (hsub x hx) k hk;refine ⟨y,List.mem_filter.2 ⟨hy,?_⟩,h1,h2⟩;rw[Kbz (hw.dirs y hy h1)];have hx2:=(List.mem_filter.1 hx).2
 have hne:y.path≠a:=by
  intro e;obtain ⟨_,hsp⟩:=Kio hk;rw[←h2,e] at hsp;have:Kbm x.path a=true:=Kau.2 ⟨_,hsp⟩;simp[this] at hx2
 simp[hne]
theorem Kbr {x:Th}:x∈Kad l (.rename a b)↔∃y∈l,y.path≠b∧mv a b y=x:=by
 rw[Klg,List.mem_map];constructor
 ·rintro ⟨y,hy,e⟩;obtain ⟨h1,h2⟩:=List.mem_filter.1 hy;exact ⟨y,h1,by simpa using h2,e⟩
 ·rintro ⟨y,h1,h2,e⟩;exact ⟨y,List.mem_filter.2 ⟨h1,by simpa using h2⟩,e⟩
theorem Kpf (hw:TW n l) (h:StOk n l (.rename a b)) {y:Th} (hy:y∈l):Kbm y.path b=false:=Kna hw h.2.2.2.2.1 h.2.1 hy
theorem Kej {d x y:Txt} (h:d ++ [47]++x=d ++ [47]++y):x=y:=List.append_cancel_left h
theorem Qnr (hw:TW n l) (h:StOk n l (.rename a b)) {x y:Th} (hx:x∈l) (hy:y∈l) (hxb:x.path≠b) (hyb:y.path≠b) (e:(mv a b x).path=(mv a b y).path):x=y:=by
 have hne:∀r:Txt,b≠b ++ [47]++r:=fun r e=>by have:=congrArg List.length e;simp at this
 rcases Kcz (a:=a) (b:=b) x with ⟨h1,h2⟩ | ⟨r,h1,h2⟩ | ⟨h1,h2,h3⟩
 ·rcases Kcz (a:=a) (b:=b) y with ⟨k1,k2⟩ | ⟨s,k1,k2⟩ | ⟨k1,k2,k3⟩
  ·exact Kfp hw.nodup hx hy (h1.trans k1.symm)
  ·rw[h2,k2] at e;exact absurd e (hne s)
  ·rw[h2,k3] at e;exact absurd e.symm hyb
 ·rcases Kcz (a:=a) (b:=b) y with ⟨k1,k2⟩ | ⟨s,k1,k2⟩ | ⟨k1,k2,k3⟩
  ·rw[h2,k2] at e;exact absurd e.symm (hne r)
  ·rw[h2,k2] at e;have:=Kej e;subst this;exact Kfp hw.nodup hx hy (h1.trans k1.symm)
  ·rw[h2,k3] at e;have:=Kpf hw h hy;rw[Kau.2 ⟨r,e.symm⟩] at this;cases this
 ·rcases Kcz (a:=a) (b:=b) y with ⟨k1,k2⟩ | ⟨s,k1,k2⟩ | ⟨k1,k2,k3⟩
  ·rw[h3,k2] at e;exact absurd e hxb
  ·rw[h3,k2] at e;have:=Kpf hw h hx;rw[Kau.2 ⟨s,e⟩] at this;cases this
  ·rw[h3,k3] at e;exact Kfp hw.nodup hx hy e
theorem Khh {α β : Type} {f:α→β}:∀{l:List α},l.Nodup→(∀x∈l,∀y∈l,f x=f y→x=y)→(l.map f).Nodup
 | [],_,_=>by simp
 | a :: l,h,hi=>by
  rw[List.nodup_cons] at h;rw[List.map_cons,List.nodup_cons];refine ⟨?_,Khh h.2 fun x hx y hy=>hi x (by simp[hx]) y (by simp[hy])⟩;intro hm;obtain ⟨y,hy,e⟩:=List.mem_map.1 hm;have:=hi y (by simp[hy]) a (by simp) e;exact h.1 (this▸hy)
theorem Kim {α β : Type} {f:α→β} {l:List α} (h:(l.map f).Nodup):l.Nodup:=by
 induction l with
 | nil=>simp
 | cons a l ih=>
  rw[List.map_cons,List.nodup_cons] at h;rw[List.nodup_cons];exact ⟨fun hm=>h.1 (List.mem_map_of_mem hm),ih h.2⟩
theorem TW.rename (hw:TW n l) (h:StOk n l (.rename a b)):TW n (Kad l (.rename a b)):=by
 have h':=h;obtain ⟨hpa,hpb,hta,hpar,htb,hdir,hab⟩:=h';refine ⟨?_,?_,?_,?_,?_,?_⟩
 ·rw[Klg,List.map_map];refine Khh (Kim (Kil hw.nodup)) ?_;intro x hx y hy e;obtain ⟨h1,h2⟩:=List.mem_filter.1 hx;obtain ⟨k1,k2⟩:=List.mem_filter.1 hy;exact Qnr hw h h1 k1 (by simpa using h2) (by simpa using k2) e
 ·intro x hx hd;obtain ⟨y,hy,hyb,rfl⟩:=Kbr.1 hx;rw[(Kcg y).1] at hd;rcases Kcz (a:=a) (b:=b) y with ⟨h1,h2⟩ | ⟨r,h1,h2⟩ | ⟨h1,h2,h3⟩
  ·rw[h2];refine (hdir ?_).1;have:=Keo hw.nodup hy;rw[h1,hd] at this;exact this
  ·have:=Kbz (d:=a) (hw.dirs y hy hd);rw[Kau.2 ⟨r,h1⟩] at this;cases this
  ·rw[h3];exact hw.dirs y hy hd
 ·intro x hx;obtain ⟨y,hy,hyb,rfl⟩:=Kbr.1 hx;rcases Kcz (a:=a) (b:=b) y with ⟨h1,h2⟩ | ⟨r,h1,h2⟩ | ⟨h1,h2,h3⟩
  ·rw[h2];exact hpb
  ·have ha2:isT l a=2:=by
    apply Classical.byContradiction;intro hne;have:=Kna hw hne hpa hy;rw[Kau.2 ⟨r,h1⟩] at this;cases this
   obtain ⟨z,hz,e,hz2⟩:=Kgw hta;have hzd:z.dir=true:=by rw[ha2] at hz2;split at hz2;assumption;omega
   have hna:nameB a=true:=by rw[←e];exact hw.dirs z hz hzd
   have h3:=hw.paths y hy;unfold pathB at h3 ⊢;rw[h1,Kcv r (Kbs hna)] at h3;rw[h2,Kcv r (Kbs (hdir ha2).1)];simp only[Bool.and_eq_true] at h3 ⊢;refine ⟨by simpa using (hdir ha2).1,?_⟩;have:=h3.2;simpa using this
  ·rw[h3];exact hw.paths y hy
 ·intro x hx k hk;obtain ⟨y,hy,hyb,rfl⟩:=Kbr.1 hx;rcases Kcz (a:=a) (b:=b) y with ⟨h1,h2⟩ | ⟨r,h1,h2⟩ | ⟨h1,h2,h3⟩
  ·rw[h2] at hk ⊢;obtain ⟨z,hz,e1,e2⟩:=Knq hpar hk
   have hza:z.path≠a:=by
    intro e;have:=Keo hw.nodup hz;rw[e,e1] at this;have hnb:=(hdir this).1;rw[Kbs hnb] at hk;cases hk
   have hzb:z.path≠b:=by
    intro e;have:=Keo hw.nodup hz;rw[e,e1] at this;exact htb this
   refine ⟨z,Kbr.2 ⟨z,hz,hzb,Kfn hza (Kbz (hw.dirs z hz e1))⟩,e1,e2⟩
  ·have ha2:isT l a=2:=by
    apply Classical.byContradiction;intro hne;have:=Kna hw hne hpa hy;rw[Kau.2 ⟨r,h1⟩] at this;cases this
   obtain ⟨z,hz,e,hz2⟩:=Kgw hta;have hzd:z.dir=true:=by rw[ha2] at hz2;split at hz2;assumption;omega
   have hzb:z.path≠b:=by rw[e];exact hab
   rw[h2,Kcv r (Kbs (hdir ha2).1)] at hk;injection hk with hk;refine ⟨mv a b z,Kbr.2 ⟨z,hz,hzb,rfl⟩,by rw[(Kcg z).1];exact hzd,?_⟩;rw[Kmy e,h2,←hk];simp
  ·rw[h3] at hk ⊢;obtain ⟨z,hz,e1,e2⟩:=hw.par y hy k hk
   have hzb:z.path≠b:=by
    intro e;have:=Keo hw.nodup hz;rw[e,e1] at this;exact htb this
   have hza:z.path≠a:=by
    intro e;obtain ⟨_,hsp⟩:=Kio hk;rw[←e2,e] at hsp;rw[Kau.2 ⟨_,hsp⟩] at h2;cases h2
   exact ⟨z,Kbr.2 ⟨z,hz,hzb,Kfn hza (Kbz (hw.dirs z hz e1))⟩,e1,e2⟩
 ·intro x hx hd;obtain ⟨y,hy,hyb,rfl⟩:=Kbr.1 hx;rw[(Kcg y).1] at hd;rw[(Kcg y).2];exact hw.ats y hy hd
 ·intro x hx z hz hdx hdz e;obtain ⟨y,hy,hyb,rfl⟩:=Kbr.1 hx;obtain ⟨y',hy',hyb',rfl⟩:=Kbr.1 hz;rw[(Kcg y).1] at hdx;rw[(Kcg y').1] at hdz;rw[(Kcg y).2,(Kcg y').2] at e;rw[hw.inj y hy y' hy' hdx hdz e]
theorem TW.apply (hw:TW n l) {s:St} (h:StOk n l s):TW n (Kad l s):=by
 cases s with
 | mkdir a=>exact hw.mkdir h
 | create a i=>exact hw.create h
 | rename a b=>exact hw.rename h
 | remove a=>exact hw.remove
variable {n : Nat} {l : List Th} {φ : List Nat} {a b : Txt} {i : Nat}
theorem Qcg {l:List Th} (h:(l.map Th.path).Nodup) {a:Txt}:isT l a=1↔∃x∈l,x.dir=false∧x.path=a:=by
 constructor
 ·intro e;obtain ⟨x,hx,e1,e2⟩:=Kgw (a:=a) (by rw[e];omega);rw[e] at e2;refine ⟨x,hx,?_,e1⟩
  cases hd:x.dir with
  | false=>rfl
  | true=>rw[hd] at e2;simp at e2
 ·rintro ⟨x,hx,hd,rfl⟩;rw[Keo h hx,hd];rfl
theorem Kmx {l:List Th} (h:(l.map Th.path).Nodup) {a:Txt}:isT l a=2↔∃x∈l,x.dir=true∧x.path=a:=by
 constructor
 ·intro e;obtain ⟨x,hx,e1,e2⟩:=Kgw (a:=a) (by rw[e];omega);rw[e] at e2;refine ⟨x,hx,?_,e1⟩
  cases hd:x.dir with
  | true=>rfl
  | false=>rw[hd] at e2;simp at e2
 ·rintro ⟨x,hx,hd,rfl⟩;rw[Keo h hx,hd];rfl
theorem Kei (l:List Th) (a:Txt):isT l a=0∨isT l a=1∨isT l a=2:=by
 unfold isT
 split
 ·exact .inl rfl
 ·split
  ·exact .inr (.inr rfl)
  ·exact .inr (.inl rfl)
theorem Kgd (hw:TW n l) {x:Txt}:(dirF l x).isSome=true↔isT l x=2:=by rw[Kdf,Kmx hw.nodup]
theorem Kii (hw:TW n l) {x:Txt}:(filF φ l x).isSome=true↔isT l x=1:=by
 rw[Qcg hw.nodup];constructor
 ·intro h;obtain ⟨v,hv⟩:=Option.isSome_iff_exists.1 h;obtain ⟨y,hy,h1,h2,_⟩:=(Kca hw.nodup).1 hv;exact ⟨y,hy,h1,h2⟩
 ·rintro ⟨y,hy,h1,h2⟩;rw[(Kca hw.nodup).2 ⟨y,hy,h1,h2,rfl⟩];rfl
theorem Kuz (hw:TW n l) (h:StOk n l (.rename a b)) (ha:isT l a=1):dirF (Kad l (.rename a b))=dirF l:=by
 funext x;refine Ksc ?_;constructor
 ·rintro ⟨z,hz,h1,rfl⟩;obtain ⟨y,hy,hyb,rfl⟩:=Kbr.1 hz;rw[(Kcg y).1] at h1;rcases Kcz (a:=a) (b:=b) y with ⟨k1,k2⟩ | ⟨r,k1,k2⟩ | ⟨k1,k2,k3⟩
  ·have:=Keo hw.nodup hy;rw[k1,h1,ha] at this;simp at this
  ·have:=Kbz (d:=a) (hw.dirs y hy h1);rw[Kau.2 ⟨r,k1⟩] at this;cases this
  ·rw[k3];exact ⟨y,hy,h1,rfl⟩
 ·rintro ⟨y,hy,h1,rfl⟩
  have hya:y.path≠a:=by
   intro e;have:=Keo hw.nodup hy;rw[e,h1,ha] at this;simp at this
  have hyb:y.path≠b:=by
   intro e;have:=Keo hw.nodup hy;rw[e,h1] at this;exact h.2.2.2.2.1 this
  exact ⟨y,Kbr.2 ⟨y,hy,hyb,Kfn hya (Kbz (hw.dirs y hy h1))⟩,h1,rfl⟩
theorem Kva (hw:TW n l) (h:StOk n l (.rename a b)) (ha:isT l a=1):filF φ (Kad l (.rename a b))=upd (upd (filF φ l) b (filF φ l a)) a none:=by
 have hw2:=hw.rename h;have hab:=h.2.2.2.2.2.2;have hno:∀y∈l,Kbm y.path a=false:=fun y hy=>Kna hw (by rw[ha];omega) h.1 hy
 funext x;apply Ksj;intro v;rw[Kca hw2.nodup];unfold upd
 by_cases hxa:x=a
 ·subst hxa;simp only[if_pos];simp only[reduceCtorEq,iff_false];rintro ⟨z,hz,h1,h2,_⟩;obtain ⟨y,hy,hyb,rfl⟩:=Kbr.1 hz;rcases Kcz (a:=x) (b:=b) y with ⟨k1,k2⟩ | ⟨r,k1,k2⟩ | ⟨k1,k2,k3⟩
  ·rw[k2] at h2;exact hab h2.symm
  ·have:=hno y hy;rw[Kau.2 ⟨r,k1⟩] at this;cases this
  ·rw[k3] at h2;exact k1 h2
 ·rw[if_neg hxa]
  by_cases hxb:x=b
  ·subst hxb;rw[if_pos rfl,Kca hw.nodup];constructor
   ·rintro ⟨z,hz,h1,h2,h3⟩;obtain ⟨y,hy,hyb,rfl⟩:=Kbr.1 hz;rw[(Kcg y).1] at h1;rw[(Kcg y).2] at h3;rcases Kcz (a:=a) (b:=x) y with ⟨k1,k2⟩ | ⟨r,k1,k2⟩ | ⟨k1,k2,k3⟩
    ·exact ⟨y,hy,h1,k1,h3⟩
    ·have:=hno y hy;rw[Kau.2 ⟨r,k1⟩] at this;cases this
    ·rw[k3] at h2;exact absurd h2 hyb
   ·rintro ⟨y,hy,h1,h2,h3⟩;exact ⟨mv a x y,Kbr.2 ⟨y,hy,by rw[h2];exact hab,rfl⟩,by rw[(Kcg y).1];exact h1,Kmy h2,by rw[(Kcg y).2];exact h3⟩
  ·rw[if_neg hxb,Kca hw.nodup];constructor
   ·rintro ⟨z,hz,h1,h2,h3⟩;obtain ⟨y,hy,hyb,rfl⟩:=Kbr.1 hz;rw[(Kcg y).1] at h1;rw[(Kcg y).2] at h3;rcases Kcz (a:=a) (b:=b) y with ⟨k1,k2⟩ | ⟨r,k1,k2⟩ | ⟨k1,k2,k3⟩
    ·rw[k2] at h2;exact absurd h2.symm hxb
    ·have:=hno y hy;rw[Kau.2 ⟨r,k1⟩] at this;cases this
    ·rw[k3] at h2;exact ⟨y,hy,h1,h2,h3⟩
   ·rintro ⟨y,hy,h1,rfl,h3⟩;exact ⟨y,Kbr.2 ⟨y,hy,hxb,Kfn hxa (hno y hy)⟩,h1,rfl,h3⟩
theorem Kwy (hw:TW n l) (h:StOk n l (.rename a b)) (ha:isT l a=2):dirF (Kad l (.rename a b))=upd (upd (dirF l) a none) b (some (.int .i64 1)):=by
 have hab:=h.2.2.2.2.2.2;obtain ⟨z,hz,hzd,hzp⟩:=(Kmx hw.nodup).1 ha;funext x;unfold upd
 by_cases hxb:x=b
 ·subst hxb;rw[if_pos rfl];have:(dirF (Kad l (.rename a x)) x).isSome=true:=Kdf.2 ⟨mv a x z,Kbr.2 ⟨z,hz,by rw[hzp];exact hab,rfl⟩,by rw[(Kcg z).1];exact hzd,Kmy hzp⟩;obtain ⟨v,hv⟩:=Option.isSome_iff_exists.1 this;rw[hv,Kge hv]
 ·rw[if_neg hxb]
  by_cases hxa:x=a
  ·subst hxa;rw[if_pos rfl]
   cases hd:dirF (Kad l (.rename x b)) x with
   | none=>rfl
   | some v=>
    obtain ⟨u,hu,h1,h2⟩:=Kdf.1 (show (dirF (Kad l (.rename x b)) x).isSome=true by rw[hd];rfl);obtain ⟨y,hy,hyb,rfl⟩:=Kbr.1 hu;rw[(Kcg y).1] at h1;rcases Kcz (a:=x) (b:=b) y with ⟨k1,k2⟩ | ⟨r,k1,k2⟩ | ⟨k1,k2,k3⟩
    ·rw[k2] at h2;exact absurd h2.symm hxb
    ·have:=Kbz (d:=x) (hw.dirs y hy h1);rw[Kau.2 ⟨r,k1⟩] at this;cases this
    ·rw[k3] at h2;exact absurd h2 k1
  ·rw[if_neg hxa];refine Ksc ?_;constructor
   ·rintro ⟨u,hu,h1,rfl⟩;obtain ⟨y,hy,hyb,rfl⟩:=Kbr.1 hu;rw[(Kcg y).1] at h1;rcases Kcz (a:=a) (b:=b) y with ⟨k1,k2⟩ | ⟨r,k1,k2⟩ | ⟨k1,k2,k3⟩
    ·exact absurd k2 hxb
    ·have:=Kbz (d:=a) (hw.dirs y hy h1);rw[Kau.2 ⟨r,k1⟩] at this;cases this
    ·rw[k3];exact ⟨y,hy,h1,rfl⟩
   ·rintro ⟨y,hy,h1,rfl⟩;exact ⟨y,Kbr.2 ⟨y,hy,hxb,Kfn hxa (Kbz (hw.dirs y hy h1))⟩,h1,rfl⟩
def mvF (f:Txt→Option Value) (a b:Txt) (bs:List Txt):Txt→Option Value:=bs.foldl (fun g s=>upd (upd g (b ++ [47]++s) (g (a ++ [47]++s))) (a ++ [47]++s) none) f
theorem Kqj (f:Txt→Option Value) (hab:∀s t:Txt,a ++ [47]++s≠b ++ [47]++t):∀(bs:List Txt),bs.Nodup→∀g:Txt→Option Value,(∀s∈bs,g (a ++ [47]++s)=f (a ++ [47]++s))→∀x,
  mvF g a b bs x=if ∃s∈bs,x=a ++ [47]++s then none else match bs.find? (fun s=>x == b ++ [47]++s) with | some s=>f (a ++ [47]++s) | none=>g x
 | [],_,g,_,x=>by simp[mvF]
 | s :: bs,hn,g,hg,x=>by
  rw[List.nodup_cons] at hn;have hs:g (a ++ [47]++s)=f (a ++ [47]++s):=hg s (by simp)
  have hg':∀t∈bs,upd (upd g (b ++ [47]++s) (g (a ++ [47]++s))) (a ++ [47]++s) none (a ++ [47]++t)=f (a ++ [47]++t):=by
   intro t ht;unfold upd;rw[if_neg (fun e=>hn.1 (by rw[←Kej e];exact ht)),if_neg (hab t s)];exact hg t (by simp[ht])
  have ih:=Kqj f hab bs hn.2 _ hg' x;show mvF (upd (upd g (b ++ [47]++s) (g (a ++ [47]++s))) (a ++ [47]++s) none) a b bs x=_
  rw[ih]
  by_cases hx:∃t∈bs,x=a ++ [47]++t
  ·obtain ⟨t,ht,e⟩:=hx;rw[if_pos ⟨t,ht,e⟩,if_pos ⟨t,by simp[ht],e⟩]
  ·rw[if_neg hx]
   by_cases hxs:x=a ++ [47]++s
   ·rw[if_pos ⟨s,by simp,hxs⟩]
    have hf:bs.find? (fun t=>x == b ++ [47]++t)=none:=by
     rw[List.find?_eq_none];intro t _;simp only[beq_iff_eq];rw[hxs];exact hab s t
    rw[hf];simp[upd,hxs]
   ·rw[if_neg (by rintro ⟨t,ht,e⟩;rcases List.mem_cons.1 ht with rfl | ht;exact hxs e;exact hx ⟨t,ht,e⟩)];rw[List.find?_cons]
    by_cases hxb:x=b ++ [47]++s
    ·have hf:bs.find? (fun t=>x == b ++ [47]++t)=none:=by
      rw[List.find?_eq_none];intro t ht;simp only[beq_iff_eq];rw[hxb];intro e;exact hn.1 (by rw[Kej e];exact ht)
     rw[hf];have hbe:(x == b ++ [47]++s)=true:=by simpa using hxb
     rw[hbe];simp only[];unfold upd;rw[if_neg hxs,if_pos hxb,hs]
    ·have hbe:(x == b ++ [47]++s)=false:=by simpa using hxb
     rw[hbe];simp only[]
     cases bs.find? (fun t=>x == b ++ [47]++t) with
     | some t=>rfl
     | none=>
      simp only[];unfold upd;rw[if_neg hxs,if_neg hxb]
theorem Kxf (hw:TW n l) (h:StOk n l (.rename a b)) (ha:isT l a=2) {bs:List Txt} (hnd:bs.Nodup) (hbs:∀x,x∈bs↔(filF φ l (a ++ [47]++x)).isSome=true):filF φ (Kad l (.rename a b))=mvF (filF φ l) a b bs:=by
 have hw2:=hw.rename h;have hab:=h.2.2.2.2.2.2;obtain ⟨hnb,hb0⟩:=h.2.2.2.2.2.1 ha;obtain ⟨z,hz,hzd,hzp⟩:=(Kmx hw.nodup).1 ha;have hna:nameB a=true:=by rw[←hzp];exact hw.dirs z hz hzd
 have hne:∀s t:Txt,a ++ [47]++s≠b ++ [47]++t:=by
  intro s t e;have h1:=Kcv s (Kbs hna);have h2:=Kcv t (Kbs hnb);rw[e,h2] at h1;injection h1 with h1;apply hab;have h3:=congrArg (List.take b.length) e;rw[List.append_assoc,List.append_assoc,List.take_left] at h3;rw[←h3,h1,List.take_left]
 funext x;rw[Kqj (filF φ l) hne bs hnd (filF φ l) (fun _ _=>rfl) x];apply Ksj;intro v;rw[Kca hw2.nodup]
 by_cases hxa:∃s∈bs,x=a ++ [47]++s
 ·rw[if_pos hxa];obtain ⟨s,_,rfl⟩:=hxa;simp only[reduceCtorEq,iff_false];rintro ⟨u,hu,h1,h2,_⟩;obtain ⟨y,hy,hyb,rfl⟩:=Kbr.1 hu;rcases Kcz (a:=a) (b:=b) y with ⟨k1,k2⟩ | ⟨r,k1,k2⟩ | ⟨k1,k2,k3⟩
  ·rw[k2] at h2;have:=Kbs hnb;rw[h2,Kcv s (Kbs hna)] at this;cases this
  ·rw[k2] at h2;exact hne s r h2.symm
  ·rw[k3] at h2;rw[Kau.2 ⟨s,h2⟩] at k2;cases k2
 ·rw[if_neg hxa]
  cases hf:bs.find? (fun s=>x == b ++ [47]++s) with
  | some s=>
   have h1:=List.find?_some hf;simp only[beq_iff_eq] at h1;subst h1;simp only[];rw[Kca hw.nodup];constructor
   ·rintro ⟨u,hu,h1,h2,h3⟩;obtain ⟨y,hy,hyb,rfl⟩:=Kbr.1 hu;rw[(Kcg y).1] at h1;rw[(Kcg y).2] at h3;rcases Kcz (a:=a) (b:=b) y with ⟨k1,k2⟩ | ⟨r,k1,k2⟩ | ⟨k1,k2,k3⟩
    ·rw[k2] at h2;have:=congrArg List.length h2;simp at this
    ·rw[k2] at h2;have:=Kej h2;subst this;exact ⟨y,hy,h1,k1,h3⟩
    ·rw[k3] at h2;have:=Kpf hw h hy;rw[Kau.2 ⟨s,h2⟩] at this;cases this
   ·rintro ⟨y,hy,h1,h2,h3⟩
    have hyb:y.path≠b:=by
     intro e;exact Kkh.1 hb0 y hy e
    exact ⟨mv a b y,Kbr.2 ⟨y,hy,hyb,rfl⟩,by rw[(Kcg y).1];exact h1,mv_in h2,by rw[(Kcg y).2];exact h3⟩
  | none=>
   simp only[];rw[Kca hw.nodup];simp only[List.find?_eq_none,beq_iff_eq] at hf;constructor
   ·rintro ⟨u,hu,h1,h2,h3⟩;obtain ⟨y,hy,hyb,rfl⟩:=Kbr.1 hu;rw[(Kcg y).1] at h1;rw[(Kcg y).2] at h3;rcases Kcz (a:=a) (b:=b) y with ⟨k1,k2⟩ | ⟨r,k1,k2⟩ | ⟨k1,k2,k3⟩
    ·have:=Keo hw.nodup hy;rw[k1,h1,ha] at this;simp at this
    ·rw[k2] at h2;have hr:r∈bs:=(hbs r).2 (by rw[(Kca hw.nodup).2 ⟨y,hy,h1,k1,rfl⟩];rfl);exact absurd h2.symm (hf r hr)
    ·rw[k3] at h2;exact ⟨y,hy,h1,h2,h3⟩
   ·rintro ⟨y,hy,h1,rfl,h3⟩
    have hya:y.path≠a:=by
     intro e;have:=Keo hw.nodup hy;rw[e,h1,ha] at this;simp at this
    have hin:Kbm y.path a=false:=by
     cases hi:Kbm y.path a with
     | false=>rfl
     | true=>
      obtain ⟨r,hr⟩:=Kau.1 hi;exact absurd ⟨r,(hbs r).2 (by rw[(Kca hw.nodup).2 ⟨y,hy,h1,hr,rfl⟩];rfl),hr⟩ hxa
    exact ⟨y,Kbr.2 ⟨y,hy,fun e=>Kkh.1 hb0 y hy e,Kfn hya hin⟩,h1,rfl,h3⟩
def rmF (f:Txt→Option Value) (a:Txt) (bs:List Txt):Txt→Option Value:=bs.foldl (fun g s=>upd g (a ++ [47]++s) none) f
theorem Qiz:∀(bs:List Txt) (f:Txt→Option Value) (x:Txt),rmF f a bs x=if ∃s∈bs,x=a ++ [47]++s then none else f x
 | [],f,x=>by simp[rmF]
 | s :: bs,f,x=>by
  show rmF (upd f (a ++ [47]++s) none) a bs x=_
  rw[Qiz bs]
  by_cases hx:∃t∈bs,x=a ++ [47]++t
  ·obtain ⟨t,ht,e⟩:=hx;rw[if_pos ⟨t,ht,e⟩,if_pos ⟨t,by simp[ht],e⟩]
  ·rw[if_neg hx];unfold upd
   by_cases hxs:x=a ++ [47]++s
   ·rw[if_pos hxs,if_pos ⟨s,by simp,hxs⟩]
   ·rw[if_neg hxs,if_neg (by rintro ⟨t,ht,e⟩;rcases List.mem_cons.1 ht with rfl | ht;exact hxs e;exact hx ⟨t,ht,e⟩)]
theorem Qng (hw:TW n l) {bs:List Txt} (hbs:∀x,x∈bs↔(filF φ l (a ++ [47]++x)).isSome=true):filF φ (Kad l (.remove a))=upd (rmF (filF φ l) a bs) a none:=by
 funext x;rw[Qaq hw];unfold upd;rw[Qiz]
 by_cases hxa:x=a
 ·rw[if_pos (.inl hxa),if_pos hxa]
 ·rw[if_neg hxa]
  by_cases hin:Kbm x a=true
  ·rw[if_pos (.inr hin)];obtain ⟨r,rfl⟩:=Kau.1 hin
   by_cases hr:r∈bs
   ·rw[if_pos ⟨r,hr,rfl⟩]
   ·split
    ·rfl
    ·cases hf:filF φ l (a ++ [47]++r) with
     | none=>rfl
     | some v=>exact absurd ((hbs r).2 (by rw[hf];rfl)) hr
  ·rw[if_neg (by rintro (h | h);exact hxa h;exact hin h),if_neg];rintro ⟨s,_,e⟩;exact hin (Kau.2 ⟨s,e⟩)
def LeE (x y:En):Prop:=¬y.name < x.name
theorem Klz (x:En):∀l:List En,(insE x l).Perm (x :: l)
 | []=>.refl _
 | y :: l=>by
  unfold insE
  split
  ·exact .refl _
  ·exact ((Klz x l).cons y).trans (.swap x y l)
theorem Knk (x:En):∀{l:List En},l.Pairwise LeE→(insE x l).Pairwise LeE
 | [],_=>List.pairwise_singleton _ _
 | y :: l,h=>by
  have h1:=List.pairwise_cons.1 h;unfold insE
  split
  ·rename_i hxy
   refine List.pairwise_cons.2 ⟨fun z hz=>?_,h⟩;rcases List.mem_cons.1 hz with rfl | hz
   ·intro h2;exact List.lt_irrefl _ (List.lt_trans hxy h2)
   ·intro h2;exact h1.1 z hz (List.lt_trans h2 hxy)
  ·rename_i hxy
   refine List.pairwise_cons.2 ⟨fun z hz=>?_,Knk x h1.2⟩;rcases List.mem_cons.1 ((Klz x l).mem_iff.1 hz) with rfl | hz
   ·exact hxy
   ·exact h1.1 z hz
theorem Kpy:∀(l acc:List En),(l.foldl (fun acc x=>insE x acc) acc).Perm (l++acc)
 | [],_=>.refl _
 | x :: l,acc=>by
  rw[List.foldl_cons];refine (Kpy l _).trans ?_;refine ((Klz x acc).append_left l).trans ?_;rw[List.cons_append];exact List.perm_middle
theorem Kly:∀(l:List En) {acc:List En},acc.Pairwise LeE→(l.foldl (fun acc x=>insE x acc) acc).Pairwise LeE
 | [],_,h=>h
 | x :: l,_,h=>Kly l (Knk x h)
theorem Khq (l:List En):(sortE l).Perm l:=by
 have:=Kpy l [];rw[List.append_nil] at this;exact this
theorem Kmp (l:List En):(sortE l).Pairwise LeE:=Kly l List.Pairwise.nil
theorem Knx:∀{l l':List En},l.Perm l'→l.Pairwise LeE→l'.Pairwise LeE→(l.map En.name).Nodup→l=l'
 | [],l',h,_,_,_=>(List.nil_perm.1 h).symm
 | x :: l,[],h,_,_,_=>absurd (h.length_eq) (by simp)
 | x :: l,y :: m,h,h1,h2,hn=>by
  have k1:=List.pairwise_cons.1 h1;have k2:=List.pairwise_cons.1 h2;have kn:=List.nodup_cons.1 (by simpa using hn:(x.name :: l.map En.name).Nodup)
  by_cases e:x=y
  ·subst e;rw[Knx h.cons_inv k1.2 k2.2 kn.2]
  ·have hx:x∈m:=by
    rcases List.mem_cons.1 (h.mem_iff.1 (List.mem_cons_self ..)) with h3 | h3
    ·exact absurd h3 e
    ·exact h3
   have hy:y∈l:=by
    rcases List.mem_cons.1 (h.mem_iff.2 (List.mem_cons_self ..)) with h3 | h3
    ·exact absurd h3.symm e
    ·exact h3
   have:x.name=y.name:=Knc (k2.1 x hx) (k1.1 y hy);exact absurd (List.mem_map.2 ⟨y,hy,this.symm⟩) kn.1
theorem Kjj {l:List Th} {e:En}:e∈Kci l↔∃x∈l,x.dir=false∧e=⟨x.path,false,x.at_⟩:=by
 unfold Kci;rw[(Khq _).mem_iff,List.mem_map];constructor
 ·rintro ⟨x,hx,rfl⟩;have:=List.mem_filter.1 hx;exact ⟨x,this.1,by simpa using this.2,rfl⟩
 ·rintro ⟨x,hx,h1,rfl⟩;exact ⟨x,List.mem_filter.2 ⟨hx,by simp[h1]⟩,rfl⟩
theorem Qbk {l:List Th} (h:(l.map Th.path).Nodup):Asc ((Kci l).map En.name):=by
 have hn:((Kci l).map En.name).Nodup:=by
  unfold Kci;rw[((Khq _).map En.name).nodup_iff];rw[List.map_map];have:(En.name ∘ fun x:Th=>(⟨x.path,false,x.at_⟩:En))=Th.path:=by funext x;rfl
  rw[this];exact (List.Sublist.map _ List.filter_sublist).nodup h
 unfold Asc;rw[List.pairwise_map];have hs:(Kci l).Pairwise LeE:=Kmp _;rw[List.nodup_iff_pairwise_ne,List.pairwise_map] at hn;refine (hs.and hn).imp ?_;rintro x y ⟨h1,h2⟩;rcases Classical.em (x.name < y.name) with h3 | h3
 ·exact h3
 ·exact absurd (Knc h3 h1) h2
theorem Kvr {l:List Th} (h:(l.map Th.path).Nodup) {ks:List Txt} (ha:Asc ks) (hm:∀x,x∈ks↔∃y∈l,y.dir=false∧y.path=x):(Kci l).map En.name=ks:=by
 refine Krv (Qbk h) ha fun x=>?_
 rw[hm,List.mem_map];constructor
 ·rintro ⟨e,he,rfl⟩;obtain ⟨y,hy,h1,rfl⟩:=Kjj.1 he;exact ⟨y,hy,h1,rfl⟩
 ·rintro ⟨y,hy,h1,rfl⟩;exact ⟨_,Kjj.2 ⟨y,hy,h1,rfl⟩,rfl⟩
theorem Kmb (data:List Int) (z:Bool) (x:En):∀(l:List En) (i:Nat) (fs:List By),
  Kba data z (l ++ [x]) i fs=(Kba data z l i fs).set x.size (keepF ((Kba data z l i fs)[x.size]?.getD default) (if data = [] then 0 else data[(i+l.length) % data.length]?.getD 0) z)
 | [],i,fs=>by simp[Kba]
 | y :: l,i,fs=>by
  rw[List.cons_append,Kba,Kmb data z x l,Kba,List.length_cons,show i+1+l.length=i+(l.length+1) by omega]
theorem Kxv (data:List Int) (z:Bool) (l:List En) (fs:List By) {i:Nat} (hi:i < l.length) :
  Kba data z (l.take (i+1)) 0 fs=(Kba data z (l.take i) 0 fs).set l[i]!.size (keepF ((Kba data z (l.take i) 0 fs)[l[i]!.size]?.getD default) (if data = [] then 0 else data[i % data.length]?.getD 0) z):=by
 have e:l.take (i+1)=l.take i ++ [l[i]!]:=by rw[List.take_add_one,List.getElem?_eq_getElem hi,getElem!_pos l i hi];rfl
 rw[e,Kmb,List.length_take,Nat.min_eq_left (by omega),Nat.zero_add]
theorem Kpx {d:Ds} (h:(d.things.map Th.path).Nodup) (dir:Txt):((entD d dir).map En.name).Nodup:=by
 unfold entD;generalize d.things=th at h
 induction th with
 | nil=>simp
 | cons x l ih=>
  have h1:=List.nodup_cons.1 (by simpa using h:(x.path :: l.map Th.path).Nodup);have ih':=ih h1.2;rw[List.filterMap_cons]
  split
  ·exact ih'
  ·rename_i e he
   rw[List.map_cons,List.nodup_cons];refine ⟨fun hm=>?_,ih'⟩;obtain ⟨e2,he2,hne⟩:=List.mem_map.1 hm;obtain ⟨y,hy,hey⟩:=List.mem_filterMap.1 he2;refine h1.1 (List.mem_map.2 ⟨y,hy,?_⟩)
   by_cases hd:dir = []
   ·rw[if_pos hd] at he hey
    split at he
    ·cases he
    ·split at hey
     ·cases hey
     ·injection he with he;injection hey with hey;rw[←he,←hey] at hne;exact hne
   ·rw[if_neg hd] at he hey
    split at he
    ·rename_i hx
     split at hey
     ·rename_i hyy
      injection he with he;injection hey with hey;rw[←he,←hey] at hne;obtain ⟨r,hr⟩:=Kau.1 hx;obtain ⟨s,hs⟩:=Kau.1 hyy;have e1:x.path.drop (dir.length+1)=r:=by rw[hr];simp
      have e2:y.path.drop (dir.length+1)=s:=by rw[hs];simp
      simp only at hne;rw[e1,e2] at hne;rw[hr,hs,hne]
     ·cases hey
    ·cases he
theorem Qjg {d:Ds} (h:(d.things.map Th.path).Nodup) {dir:Txt} {l:List En} (hp:l.Perm (entD d dir)) (hs:l.Pairwise LeE):l=sortE (entD d dir):=
 Knx (hp.trans (Khq _).symm) hs (Kmp _) ((hp.map En.name).nodup_iff.2 (Kpx h dir))
section
variable {d : Ds} {n i : Nat}
end
structure Hold (t:Txt) (f:By):Prop where
 safe:t <+: f.safe
 now:t <+: f.now
 cuts:∀c∈f.steps,c.cut=false
def Holds (T:List Txt) (l:List By):Prop:=∀(j:Nat) (t:Txt),T[j]? = some t→∃f,l[j]? = some f∧Hold t f
section
variable {T : List Txt} {u i : Nat} {d : Ds}
end
end
section
open Go.RowKit
open Lib renaming hid → Jh
attribute [local go_sem ↓] Go.wp_at_zero Go.wp_at_succ
attribute [local go_sem] Later.cell
theorem Kas (s:ByteArray):s.data.toList.length=s.size:=rfl
theorem Qdv {s:ByteArray} {i:Nat} (h:i < s.size):s.data.toList.drop i=s[i] :: s.data.toList.drop (i+1):=by
 rw[List.drop_eq_getElem_cons (by simpa using h)];rfl
theorem Knh (s:ByteArray):s.toList.isEmpty=decide (s.size=0):=by
 rw[ByteArray.toList_eq,Bool.eq_iff_iff];simp only[List.isEmpty_iff,decide_eq_true_eq];rw[←Kas];constructor
 ·intro h;rw[h];rfl
 ·intro h;exact List.eq_nil_of_length_eq_zero h
theorem Qer (b:UInt8):(97≤b.toNat∧b.toNat≤122)∨(48≤b.toNat∧b.toNat≤57)∨(b.toNat=46)∨(b.toNat=45)∨(b.toNat < 48∧b.toNat≠46∧b.toNat≠45)∨(57 < b.toNat∧b.toNat < 97)∨(122 < b.toNat):=by omega
theorem Kkm (s:ByteArray) (r:Bool) (hr:nameB s.data.toList=r) (hs:s.size≤1073741824) (w:World) :
  Calls Tryz.prog 66 #[.string s] w fun e w'=>e = .returned (.bool r)∧w=w':=by
 obtain ⟨R,hR⟩:∃R,s.data.toList.all nameC=R:=⟨_,rfl⟩;have hrr:(R && (decide (1≤s.size) && decide (s.size≤32)))=r:=by rw[←hr,←hR,nameB,Kas,Bool.and_assoc]
 have HRR:=Jh hrr;have HR:=Jh hR;clear hr hrr hR;go_enter Tryz.func66,Tryz.ntmps66
 go_upto_block 0 with fail
 go_cut [] (fun wz=>wz=w∧R=true)
 case first=>
  go_wp2_with fail
  go_loopg [7] s.size (fun g sx wr=>wr=w∧∃i:Nat,i+g=s.size∧sx = .int .i64 (i:Int)∧(s.data.toList.drop i).all nameC=R)
  case atStart=>exact ⟨rfl,0,by omega,rfl,by simpa using HR.out⟩
  case round=>
   obtain ⟨rfl,i,hig,rfl,hall⟩:=hrel;obtain ⟨w,rfl⟩:∃x,x=wr:=⟨_,rfl⟩;have HIG:=Jh hig
   by_cases hi:i < s.size
   ·have hst:(nameC s[i] && (s.data.toList.drop (i+1)).all nameC)=R:=by rw[←hall,Qdv hi,List.all_cons]
    obtain ⟨b,hb⟩:∃b,s[i]=b:=⟨_,rfl⟩;have hbl:=UInt8.toNat_lt b;rw[hb] at hst;have HST:=Jh hst;clear hst hig hall;have el:decide ((i:Int) < (s.size:Int))=true:=by simp;omega
    have el':decide (i < s.size)=true:=by simp;omega
    go_upto_region 6 with fail
    clear hb;rcases Qer b with h | h | h | h | h | h | h
    ·have hn:nameC b=true:=by simp only[nameC];simp;omega
     have d1:decide ((97:Int)≤(b.toNat:Int))=true:=by simp;omega
     have d2:decide ((b.toNat:Int)≤122)=true:=by simp;omega
     have d3:decide ((48:Int)≤(b.toNat:Int))=true:=by simp;omega
     have d4:decide ((b.toNat:Int)≤57)=false:=by simp;omega
     have d5:((b.toNat:Int) == 46)=false:=by simp;omega
     have d6:((b.toNat:Int) != 46)=true:=by simp;omega
     have d7:((b.toNat:Int) == 45)=false:=by simp;omega
     have d8:((b.toNat:Int) != 45)=true:=by simp;omega
     have hnx:(s.data.toList.drop (i+1)).all nameC=R:=by have:=HST.out;rw[hn,Bool.true_and] at this;exact this
     have HNX:=Jh hnx;clear hnx hn h;go_wp2_with fail
     go_roundg (gk - 1)
     case measure=>have:=HIG.out;omega
     case rel=>exact ⟨rfl,i+1,by have:=HIG.out;omega,by go_num,HNX.out⟩
    ·have hn:nameC b=true:=by simp only[nameC];simp;omega
     have d1:decide ((97:Int)≤(b.toNat:Int))=false:=by simp;omega
     have d2:decide ((b.toNat:Int)≤122)=true:=by simp;omega
     have d3:decide ((48:Int)≤(b.toNat:Int))=true:=by simp;omega
     have d4:decide ((b.toNat:Int)≤57)=true:=by simp;omega
     have d5:((b.toNat:Int) == 46)=false:=by simp;omega
     have d6:((b.toNat:Int) != 46)=true:=by simp;omega
     have d7:((b.toNat:Int) == 45)=false:=by simp;omega
     have d8:((b.toNat:Int) != 45)=true:=by simp;omega
     have hnx:(s.data.toList.drop (i+1)).all nameC=R:=by have:=HST.out;rw[hn,Bool.true_and] at this;exact this
     have HNX:=Jh hnx;clear hnx hn h;go_wp2_with fail
     go_roundg (gk - 1)
     case measure=>have:=HIG.out;omega
     case rel=>exact ⟨rfl,i+1,by have:=HIG.out;omega,by go_num,HNX.out⟩
    ·have hn:nameC b=true:=by simp only[nameC];simp;omega
     have d1:decide ((97:Int)≤(b.toNat:Int))=false:=by simp;omega
     have d2:decide ((b.toNat:Int)≤122)=true:=by simp;omega
     have d3:decide ((48:Int)≤(b.toNat:Int))=false:=by simp;omega
     have d4:decide ((b.toNat:Int)≤57)=true:=by simp;omega
     have d5:((b.toNat:Int) == 46)=true:=by simp;omega
     have d6:((b.toNat:Int) != 46)=false:=by simp;omega
     have d7:((b.toNat:Int) == 45)=false:=by simp;omega
     have d8:((b.toNat:Int) != 45)=true:=by simp;omega
     have hnx:(s.data.toList.drop (i+1)).all nameC=R:=by have:=HST.out;rw[hn,Bool.true_and] at this;exact this
     have HNX:=Jh hnx;clear hnx hn h;go_wp2_with fail
     go_roundg (gk - 1)
     case measure=>have:=HIG.out;omega
     case rel=>exact ⟨rfl,i+1,by have:=HIG.out;omega,by go_num,HNX.out⟩
    ·have hn:nameC b=true:=by simp only[nameC];simp;omega
     have d1:decide ((97:Int)≤(b.toNat:Int))=false:=by simp;omega
     have d2:decide ((b.toNat:Int)≤122)=true:=by simp;omega
     have d3:decide ((48:Int)≤(b.toNat:Int))=false:=by simp;omega
     have d4:decide ((b.toNat:Int)≤57)=true:=by simp;omega
     have d5:((b.toNat:Int) == 46)=false:=by simp;omega
     have d6:((b.toNat:Int) != 46)=true:=by simp;omega
     have d7:((b.toNat:Int) == 45)=true:=by simp;omega
     have d8:((b.toNat:Int) != 45)=false:=by simp;omega
     have hnx:(s.data.toList.drop (i+1)).all nameC=R:=by have:=HST.out;rw[hn,Bool.true_and] at this;exact this
     have HNX:=Jh hnx;clear hnx hn h;go_wp2_with fail
     go_roundg (gk - 1)
     case measure=>have:=HIG.out;omega
     case rel=>exact ⟨rfl,i+1,by have:=HIG.out;omega,by go_num,HNX.out⟩
    ·have hn:nameC b=false:=by simp only[nameC];simp;omega
     have d1:decide ((97:Int)≤(b.toNat:Int))=false:=by simp;omega
     have d2:decide ((b.toNat:Int)≤122)=true:=by simp;omega
     have d3:decide ((48:Int)≤(b.toNat:Int))=false:=by simp;omega
     have d4:decide ((b.toNat:Int)≤57)=true:=by simp;omega
     have d5:((b.toNat:Int) == 46)=false:=by simp;omega
     have d6:((b.toNat:Int) != 46)=true:=by simp;omega
     have d7:((b.toNat:Int) == 45)=false:=by simp;omega
     have d8:((b.toNat:Int) != 45)=true:=by simp;omega
     obtain rfl:false=R:=by have:=HST.out;rw[hn,Bool.false_and] at this;exact this
     obtain rfl:false=r:=by have:=HRR.out;rw[Bool.false_and] at this;exact this
     clear hn h;go_wp2_with fail
     go_ret
     exact ⟨rfl,rfl⟩
    ·have hn:nameC b=false:=by simp only[nameC];simp;omega
     have d1:decide ((97:Int)≤(b.toNat:Int))=false:=by simp;omega
     have d2:decide ((b.toNat:Int)≤122)=true:=by simp;omega
     have d3:decide ((48:Int)≤(b.toNat:Int))=true:=by simp;omega
     have d4:decide ((b.toNat:Int)≤57)=false:=by simp;omega
     have d5:((b.toNat:Int) == 46)=false:=by simp;omega
     have d6:((b.toNat:Int) != 46)=true:=by simp;omega
     have d7:((b.toNat:Int) == 45)=false:=by simp;omega
     have d8:((b.toNat:Int) != 45)=true:=by simp;omega
     obtain rfl:false=R:=by have:=HST.out;rw[hn,Bool.false_and] at this;exact this
     obtain rfl:false=r:=by have:=HRR.out;rw[Bool.false_and] at this;exact this
     clear hn h;go_wp2_with fail
     go_ret
     exact ⟨rfl,rfl⟩
    ·have hn:nameC b=false:=by simp only[nameC];simp;omega
     have d1:decide ((97:Int)≤(b.toNat:Int))=true:=by simp;omega
     have d2:decide ((b.toNat:Int)≤122)=false:=by simp;omega
     have d3:decide ((48:Int)≤(b.toNat:Int))=true:=by simp;omega
     have d4:decide ((b.toNat:Int)≤57)=false:=by simp;omega
     have d5:((b.toNat:Int) == 46)=false:=by simp;omega
     have d6:((b.toNat:Int) != 46)=true:=by simp;omega
     have d7:((b.toNat:Int) == 45)=false:=by simp;omega
     have d8:((b.toNat:Int) != 45)=true:=by simp;omega
     obtain rfl:false=R:=by have:=HST.out;rw[hn,Bool.false_and] at this;exact this
     obtain rfl:false=r:=by have:=HRR.out;rw[Bool.false_and] at this;exact this
     clear hn h;go_wp2_with fail
     go_ret
     exact ⟨rfl,rfl⟩
   ·have el:decide ((i:Int) < (s.size:Int))=false:=by simp;omega
    have el':decide (i < s.size)=false:=by simp;omega
    have hR1:R=true:=by rw[←hall,List.drop_of_length_le (by rw[Kas];omega)];rfl
    clear hig hall;go_wp2_with fail
    go_meet
    exact ⟨rfl,hR1⟩
 case rest=>
  obtain ⟨rfl,rfl⟩:=hcut;obtain ⟨w,rfl⟩:∃x,x=wc:=⟨_,rfl⟩;have hrr:=HRR.out;rw[Bool.true_and] at hrr
  by_cases h0:s.size=0
  ·obtain rfl:false=r:=by rw[←hrr];simp[h0]
   have e1:s.toList.isEmpty=true:=by rw[Knh];simpa using h0
   have e2:(!s.toList.isEmpty)=false:=by rw[e1];rfl
   have e3:decide ((1:Int)≤(s.size:Int))=false:=decide_eq_false (by omega);have e4:decide (1≤s.size)=false:=decide_eq_false (by omega);have e5:s.toList = []:=by simpa using e1
   clear hrr;go_wp2_with fail
   go_ret
   exact ⟨rfl,rfl⟩
  ·have e1:s.toList.isEmpty=false:=by rw[Knh];simpa using h0
   have e2:(!s.toList.isEmpty)=true:=by rw[e1];rfl
   have e3:decide ((1:Int)≤(s.size:Int))=true:=decide_eq_true (by omega);have e4:decide (1≤s.size)=true:=decide_eq_true (by omega);rw[e4,Bool.true_and] at hrr
   by_cases h32:s.size≤32
   ·obtain rfl:true=r:=by rw[←hrr];simp[h32]
    have e5:decide ((s.size:Int)≤32)=true:=by simp;omega
    have e6:decide (s.size≤32)=true:=by simp;omega
    clear hrr;go_wp2_with fail
    go_ret
    exact ⟨rfl,rfl⟩
   ·obtain rfl:false=r:=by rw[←hrr];simp[h32]
    have e5:decide ((s.size:Int)≤32)=false:=by simp;omega
    have e6:decide (s.size≤32)=false:=by simp;omega
    clear hrr;go_wp2_with fail
    go_ret
    exact ⟨rfl,rfl⟩
end
end Go.Proofs.YtefpndiiedkmpaaGreatDoor
namespace Go.Proofs
open Go.Shelf
def Tryz.lays156_ren:Go.Shelf.Ren:=⟨fun | 156=>116 | 165=>160 | 166=>29 | 169=>39 | 240=>82 | 241=>209 | 276=>139 | 277=>248 | n=>n,fun | 31=>150 | 9=>9 | 3=>3 | 4=>4 | 0=>0 | 20=>20 | 72=>74 | 76=>75 | 70=>71 | 37=>72 | 75=>40 | 127=>186 | 164=>228 | 5=>5 | 80=>77 | n=>n,fun | n=>n⟩
theorem Tryz.lays156:Go.Proofs.Lays.n156 Tryz.prog Tryz.lays156_ren:={
 mixed:=by kernel_rfl
 f156:=Tryz.func116.trans (congrArg some (by kernel_rfl))
 f165:=Tryz.func160.trans (congrArg some (by kernel_rfl))
 f166:=Tryz.func29.trans (congrArg some (by kernel_rfl))
 f169:=Tryz.func39.trans (congrArg some (by kernel_rfl))
 f240:=Tryz.func82.trans (congrArg some (by kernel_rfl))
 f241:=Tryz.func209.trans (congrArg some (by kernel_rfl))
 f276:=Tryz.func139.trans (congrArg some (by kernel_rfl))
 f277:=Tryz.func248.trans (congrArg some (by kernel_rfl))
 t0:=Tryz.underlying0
 a0:=Tryz.isAgg0
 z0:=Tryz.sizeOf0
 v0:=Tryz.zeroValue0
 t3:=Tryz.underlying3
 a3:=Tryz.isAgg3
 z3:=Tryz.sizeOf3
 v3:=Tryz.zeroValue3
 t4:=Tryz.underlying4
 a4:=Tryz.isAgg4
 z4:=Tryz.sizeOf4
 v4:=Tryz.zeroValue4
 t9:=Tryz.underlying9
 a9:=Tryz.isAgg9
 z9:=Tryz.sizeOf9
 v9:=Tryz.zeroValue9
 t20:=Tryz.underlying20
 a20:=Tryz.isAgg20
 z20:=Tryz.sizeOf20
 v20:=Tryz.zeroValue20
 t31:=Tryz.underlying150
 a31:=Tryz.isAgg150
 z31:=Tryz.sizeOf150
 v31:=Tryz.zeroValue150
 t37:=Tryz.underlying72
 a37:=Tryz.isAgg72
 z37:=Tryz.sizeOf72
 v37:=Tryz.zeroValue72
 t70:=Tryz.underlying71
 a70:=Tryz.isAgg71
 z70:=Tryz.sizeOf71
 v70:=Tryz.zeroValue71
 t72:=Tryz.underlying74
 a72:=Tryz.isAgg74
 z72:=Tryz.sizeOf74
 v72:=Tryz.zeroValue74
 t75:=Tryz.underlying40
 a75:=Tryz.isAgg40
 z75:=Tryz.sizeOf40
 v75:=Tryz.zeroValue40
 t76:=Tryz.underlying75
 a76:=Tryz.isAgg75
 z76:=Tryz.sizeOf75
 v76:=Tryz.zeroValue75
 t127:=Tryz.underlying186
 a127:=Tryz.isAgg186
 z127:=Tryz.sizeOf186
 v127:=Tryz.zeroValue186
 t164:=Tryz.underlying228
 a164:=Tryz.isAgg228
 z164:=Tryz.sizeOf228
 v164:=Tryz.zeroValue228 }
theorem Tryz.Builder_Extra_156:Builder.Extra Tryz.prog Tryz.lays156_ren:={
 sizeBuilder:=by kernel_rfl
 liesBuilder:=by kernel_rfl
 t5:=Tryz.underlying5
 a5:=Tryz.isAgg5
 z5:=Tryz.sizeOf5
 v5:=Tryz.zeroValue5
 infoByte:=by kernel_rfl
 cellsByte:=by kernel_rfl
 sizeByte:=by kernel_rfl
 neB5:=by decide }
open Go.RowKit in
theorem Tryz.strings_Join_none (a:Option Addr) (c:Nat) (sep:ByteArray) (w:World) :
  Calls Tryz.prog 116 #[.slice a 0 c,.string sep] w fun e w'=>e = .returned (.string ⟨#[]⟩)∧w'=w:=Any.strings_Join_none Tryz.lays156 Tryz.Builder_Extra_156 a c sep w
open Go.RowKit in
theorem Tryz.strings_Join (bk o c:Nat) (xs:List ByteArray) (sep:ByteArray) (w:World) (hcells:∀(j:Nat) x,xs[j]? = some x→w.cell? ⟨bk,o+j,none⟩=some (.string x)) (hbk:bk < w.heap.size) (hN:xs.length≤140737488355328) (hcap:xs.length≤c) (hlen:(Lib.join (xs.map (·.data.toList)) sep.data.toList).length≤140737488355328) :
  Calls Tryz.prog 116 #[.slice (some ⟨bk,o,none⟩) xs.length c,.string sep] w fun e w'=>e = .returned (.string ⟨(Lib.join (xs.map (·.data.toList)) sep.data.toList).toArray⟩)∧Below w.heap.size w w':=Any.strings_Join Tryz.lays156 Tryz.Builder_Extra_156 bk o c xs sep w hcells hbk hN hcap hlen
def Tryz.lays103_ren:Go.Shelf.Ren:=⟨fun | 103=>122 | 210=>162 | 206=>214 | n=>n,fun | 9=>9 | 4=>4 | 24=>215 | 3=>3 | n=>n,fun | n=>n⟩
theorem Tryz.lays103:Go.Proofs.Lays.n103 Tryz.prog Tryz.lays103_ren:={
 mixed:=by kernel_rfl
 f103:=Tryz.func122.trans (congrArg some (by kernel_rfl))
 f206:=Tryz.func214.trans (congrArg some (by kernel_rfl))
 f210:=Tryz.func162.trans (congrArg some (by kernel_rfl))
 t3:=Tryz.underlying3
 a3:=Tryz.isAgg3
 z3:=Tryz.sizeOf3
 v3:=Tryz.zeroValue3
 t4:=Tryz.underlying4
 a4:=Tryz.isAgg4
 z4:=Tryz.sizeOf4
 v4:=Tryz.zeroValue4
 t9:=Tryz.underlying9
 a9:=Tryz.isAgg9
 z9:=Tryz.sizeOf9
 v9:=Tryz.zeroValue9
 t24:=Tryz.underlying215
 a24:=Tryz.isAgg215
 z24:=Tryz.sizeOf215
 v24:=Tryz.zeroValue215 }
open Go.RowKit in
theorem Tryz.strings_CutPrefix (s p:ByteArray) (w:World) :
  Calls Tryz.prog 122 #[.string s,.string p] w fun e w'=>e = .returned (.tuple #[.string ⟨(Lib.trimPrefix s.data.toList p.data.toList).toArray⟩,.bool (Lib.hasPrefix s.data.toList p.data.toList)])∧w'=w:=Any.strings_CutPrefix Tryz.lays103 s p w
def Tryz.lays105_ren:Go.Shelf.Ren:=⟨fun | 105=>129 | 212=>176 | 99=>177 | 165=>160 | 166=>29 | 170=>178 | 169=>39 | 263=>228 | 264=>229 | 206=>214 | 240=>82 | 241=>209 | 276=>139 | 277=>248 | n=>n,fun | 9=>9 | 3=>3 | 4=>4 | 20=>20 | 0=>0 | 46=>171 | 109=>279 | 5=>5 | 72=>74 | 76=>75 | 51=>184 | 146=>319 | 53=>79 | 148=>321 | 70=>71 | 37=>72 | 75=>40 | 127=>186 | 164=>228 | 80=>77 | n=>n,fun | n=>n⟩
theorem Tryz.lays105:Go.Proofs.Lays.n105 Tryz.prog Tryz.lays105_ren:={
 mixed:=by kernel_rfl
 f99:=Tryz.func177.trans (congrArg some (by kernel_rfl))
 f105:=Tryz.func129.trans (congrArg some (by kernel_rfl))
 f165:=Tryz.func160.trans (congrArg some (by kernel_rfl))
 f166:=Tryz.func29.trans (congrArg some (by kernel_rfl))
 f169:=Tryz.func39.trans (congrArg some (by kernel_rfl))
 f170:=Tryz.func178.trans (congrArg some (by kernel_rfl))
 f206:=Tryz.func214.trans (congrArg some (by kernel_rfl))
 f212:=Tryz.func176.trans (congrArg some (by kernel_rfl))
 f240:=Tryz.func82.trans (congrArg some (by kernel_rfl))
 f241:=Tryz.func209.trans (congrArg some (by kernel_rfl))
 f263:=Tryz.func228.trans (congrArg some (by kernel_rfl))
 f264:=Tryz.func229.trans (congrArg some (by kernel_rfl))
 f276:=Tryz.func139.trans (congrArg some (by kernel_rfl))
 f277:=Tryz.func248.trans (congrArg some (by kernel_rfl))
 t0:=Tryz.underlying0
 a0:=Tryz.isAgg0
 z0:=Tryz.sizeOf0
 v0:=Tryz.zeroValue0
 t3:=Tryz.underlying3
 a3:=Tryz.isAgg3
 z3:=Tryz.sizeOf3
 v3:=Tryz.zeroValue3
 t4:=Tryz.underlying4
 a4:=Tryz.isAgg4
 z4:=Tryz.sizeOf4
 v4:=Tryz.zeroValue4
 t5:=Tryz.underlying5
 a5:=Tryz.isAgg5
 z5:=Tryz.sizeOf5
 v5:=Tryz.zeroValue5
 t9:=Tryz.underlying9
 a9:=Tryz.isAgg9
 z9:=Tryz.sizeOf9
 v9:=Tryz.zeroValue9
 t20:=Tryz.underlying20
 a20:=Tryz.isAgg20
 z20:=Tryz.sizeOf20
 v20:=Tryz.zeroValue20
 t37:=Tryz.underlying72
 a37:=Tryz.isAgg72
 z37:=Tryz.sizeOf72
 v37:=Tryz.zeroValue72
 t46:=Tryz.underlying171
 a46:=Tryz.isAgg171
 z46:=Tryz.sizeOf171
 v46:=Tryz.zeroValue171
 t51:=Tryz.underlying184
 a51:=Tryz.isAgg184
 z51:=Tryz.sizeOf184
 v51:=Tryz.zeroValue184
 t53:=Tryz.underlying79
 a53:=Tryz.isAgg79
 z53:=Tryz.sizeOf79
 v53:=Tryz.zeroValue79
 t70:=Tryz.underlying71
 a70:=Tryz.isAgg71
 z70:=Tryz.sizeOf71
 v70:=Tryz.zeroValue71
 t72:=Tryz.underlying74
 a72:=Tryz.isAgg74
 z72:=Tryz.sizeOf74
 v72:=Tryz.zeroValue74
 t75:=Tryz.underlying40
 a75:=Tryz.isAgg40
 z75:=Tryz.sizeOf40
 v75:=Tryz.zeroValue40
 t76:=Tryz.underlying75
 a76:=Tryz.isAgg75
 z76:=Tryz.sizeOf75
 v76:=Tryz.zeroValue75
 t109:=Tryz.underlying279
 a109:=Tryz.isAgg279
 z109:=Tryz.sizeOf279
 v109:=Tryz.zeroValue279
 t127:=Tryz.underlying186
 a127:=Tryz.isAgg186
 z127:=Tryz.sizeOf186
 v127:=Tryz.zeroValue186
 t146:=Tryz.underlying319
 a146:=Tryz.isAgg319
 z146:=Tryz.sizeOf319
 v146:=Tryz.zeroValue319
 t148:=Tryz.underlying321
 a148:=Tryz.isAgg321
 z148:=Tryz.sizeOf321
 v148:=Tryz.zeroValue321
 t164:=Tryz.underlying228
 a164:=Tryz.isAgg228
 z164:=Tryz.sizeOf228
 v164:=Tryz.zeroValue228 }
theorem Tryz.Builder_Extra_105:Builder.Extra Tryz.prog Tryz.lays105_ren:={
 sizeBuilder:=by kernel_rfl
 liesBuilder:=by kernel_rfl
 t5:=Tryz.underlying5
 a5:=Tryz.isAgg5
 z5:=Tryz.sizeOf5
 v5:=Tryz.zeroValue5
 infoByte:=by kernel_rfl
 cellsByte:=by kernel_rfl
 sizeByte:=by kernel_rfl
 neB5:=by decide }
open Go.RowKit Go.Lib in
theorem Tryz.strings_Repeat_main (s:ByteArray) (c:Nat) (w:World) (hc2:2≤c) (hc:c≤9223372036854775807) (hlen:s.size*c≤140737488355328) (h0:0 < s.size) :
  Calls Tryz.prog 129 #[.string s,.int .i64 c] w fun e w'=>e = .returned (.string ⟨(Lib.repeatL s.data.toList c).toArray⟩)∧Below w.heap.size w w':=Any.strings_Repeat_main Tryz.lays105 Tryz.Builder_Extra_105 s c w hc2 hc hlen h0
open Go.RowKit Go.Lib in
theorem Tryz.strings_Repeat_zero (s:ByteArray) (w:World) :
  Calls Tryz.prog 129 #[.string s,.int .i64 0] w fun e w'=>e = .returned (.string ⟨#[]⟩)∧w'=w:=Any.strings_Repeat_zero Tryz.lays105 s w
open Go.RowKit Go.Lib in
theorem Tryz.strings_Repeat_one (s:ByteArray) (w:World) :
  Calls Tryz.prog 129 #[.string s,.int .i64 1] w fun e w'=>e = .returned (.string s)∧w'=w:=Any.strings_Repeat_one Tryz.lays105 s w
end Go.Proofs
namespace Go.Proofs.YtefpndiiedkmpaaGreatDoor
section
open Go.RowKit
open Lib renaming hid → Jh
attribute [local go_sem ↓] Go.wp_at_zero Go.wp_at_succ
attribute [local go_sem] Later.cell
theorem Keh {a b:ByteArray} (h:a.data.toList=b.data.toList):a=b:=by
 cases a;cases b
 simp at h;rw[h]
theorem Kcs {a:ByteArray} {l:Txt} (h:a.data.toList=l):a=⟨l.toArray⟩:=Keh (by simpa using h)
theorem Kjl (s:ByteArray) (k:Nat):(s.extract 0 k).data.toList=s.data.toList.take k:=by
 simp only[ByteArray.data_extract,Array.toList_extract];simp
theorem Qao (s:ByteArray) (k:Nat):(s.extract k s.size).data.toList=s.data.toList.drop k:=by
 simp only[ByteArray.data_extract,Array.toList_extract];rw[←Kas,List.extract_eq_take_drop,List.take_of_length_le];simp
theorem Kjf:∀l:Txt,Lib.indexByte l 47=match Kai l with | none=>-1 | some k=>(k:Int)
 | []=>rfl
 | b :: l=>by
  have ih:=Kjf l;rw[Lib.indexByte,Kai]
  by_cases hb:b=47
  ·simp[hb]
  ·rw[if_neg hb,if_neg (by simpa using hb),ih]
   cases Kai l with
   | none=>simp
   | some k=>
    simp only[Option.map_some];rw[if_neg (by simp)];simp
theorem Krc:∀{l:Txt} {k:Nat},Kai l=some k→k < l.length
 | b :: l,k,h=>by
  rw[Kai] at h
  split at h
  ·injection h with h;subst h;simp
  ·cases hs:Kai l with
   | none=>rw[hs] at h;cases h
   | some j=>
    rw[hs] at h;injection h with h;have:=Krc hs;simp at h ⊢;omega
def cutR (l:Txt):Txt×Txt×Bool:=match Kai l with | none=>(l,[],false) | some k=>(l.take k,l.drop (k+1),true)
theorem Qfe (s:ByteArray) (A B:ByteArray) (f:Bool) (hr:cutR s.data.toList=(A.data.toList,B.data.toList,f)) (hs:s.size≤1073741824) (w:World) :
  Calls Tryz.prog 208 #[.string s,.string ⟨#[47]⟩] w fun e w'=>e = .returned (.tuple #[.string A,.string B,.bool f])∧Below w.heap.size w w':=by
 have hix:=Tryz.stringslite_Index_one s 47 w;rw[Kjf] at hix;unfold cutR at hr
 cases hsl:Kai s.data.toList with
 | none=>
  rw[hsl] at hix hr;obtain ⟨h1,h2,rfl⟩:s.data.toList=A.data.toList∧[]=B.data.toList∧false=f:=by simpa using hr
  obtain rfl:=Keh h1;obtain rfl:⟨#[]⟩=B:=Keh h2;have HIX:=Jh hix;clear hix hr hsl h1 h2;go_enter Tryz.func208,Tryz.ntmps208
  go_wp2_with fail
  refine HIX.out.mono ?_;rintro e w' ⟨rfl,rfl⟩;go_wp2_with fail
  go_ret3
  exact ⟨rfl,Below.refl _ _⟩
 | some k=>
  rw[hsl] at hix hr;have hk:=Krc hsl;rw[Kas] at hk;obtain ⟨h1,h2,rfl⟩:s.data.toList.take k=A.data.toList∧s.data.toList.drop (k+1)=B.data.toList∧true=f:=by simpa using hr
  have e1:s.extract 0 k=A:=Keh (by rw[Kjl];exact h1);have e2:s.extract (k+1) s.size=B:=Keh (by rw[Qao];exact h2);have HIX:=Jh hix;have HE1:=Jh e1;have HE2:=Jh e2;have hk0:decide ((0:Int)≤(k:Int))=true:=by simp
  clear hix hr hsl h1 h2 e1 e2;go_enter Tryz.func208,Tryz.ntmps208
  go_wp2_with fail
  refine HIX.out.mono ?_;rintro e w' ⟨rfl,rfl⟩;go_upto_region 3 with fail
  have z1:IntKind.i64.wrap ((k:Int)+1)=(k:Int)+1:=IntWalk.i64_in _ (by omega);have z2:(0:Int)≤(k:Int)+1:=by omega
  have z3:((k:Int)+1).toNat=k+1:=by omega
  have z4:(k:Int)≤(s.size:Int):=by omega
  have z5:(k:Int)+1≤(s.size:Int):=by omega
  refine Kab (by kernel_rfl) (by kernel_rfl) ?_
  repeat (go_big_quiet_step (fail))
  refine wpQuiet_nil ?_;rintro w2 ⟨⟨_,hb2⟩,rfl⟩;clear z1 z2 z3 z4 z5;go_wp2_with fail
  go_ret3
  exact ⟨ret3 (by rw[←HE1.out];rfl) (by rw[←HE2.out];rfl) rfl,hb2⟩
theorem Kpu (s:ByteArray) (A B:ByteArray) (f:Bool) (hr:cutR s.data.toList=(A.data.toList,B.data.toList,f)) (hs:s.size≤1073741824) (w:World) :
  Calls Tryz.prog 159 #[.string s,.string ⟨#[47]⟩] w fun e w'=>e = .returned (.tuple #[.string A,.string B,.bool f])∧Below w.heap.size w w':=by
 have HC:=Jh (Qfe s A B f hr hs w);clear hr;go_enter Tryz.func159,Tryz.ntmps159
 go_wp2_with fail
 refine HC.out.mono ?_;rintro e w' ⟨rfl,hb⟩;go_wp2_with fail
 go_ret3
 exact ⟨rfl,hb⟩
theorem Kws (s:ByteArray):∃(A B:ByteArray) (f:Bool),cutR s.data.toList=(A.data.toList,B.data.toList,f)∧A.size≤s.size∧B.size≤s.size∧pathB s.data.toList=(nameB A.data.toList && (!f || nameB B.data.toList)):=by
 unfold cutR pathB
 cases h:Kai s.data.toList with
 | none=>exact ⟨s,⟨#[]⟩,false,rfl,Nat.le_refl _,Nat.zero_le _,by simp⟩
 | some k=>
  refine ⟨⟨(s.data.toList.take k).toArray⟩,⟨(s.data.toList.drop (k+1)).toArray⟩,true,rfl,?_,?_,by simp⟩
  ·rw[←Kas,←Kas];simp;omega
  ·rw[←Kas,←Kas];simp
theorem Kfv (s:ByteArray) (r:Bool) (hr:pathB s.data.toList=r) (hs:s.size≤1073741824) (w:World) :
  Calls Tryz.prog 109 #[.string s] w fun e w'=>e = .returned (.bool r)∧Below w.heap.size w w':=by
 obtain ⟨A,B,f,h1,h2,h3,h4⟩:=Kws s;rw[hr] at h4;have HC:=Jh (Kpu s A B f h1 hs w);obtain ⟨ra,hra⟩:∃r,nameB A.data.toList=r:=⟨_,rfl⟩;obtain ⟨rb,hrb⟩:∃r,nameB B.data.toList=r:=⟨_,rfl⟩;have HA:=Jh (fun w=>Kkm A ra hra (by omega) w);have HB:=Jh (fun w=>Kkm B rb hrb (by omega) w);rw[hra,hrb] at h4;have H4:=Jh h4;clear h1 hra hrb hr h4;go_enter Tryz.func109,Tryz.ntmps109
 go_wp2_with fail
 refine HC.out.mono ?_;rintro e w1 ⟨rfl,hb⟩;go_wp2_with fail
 refine (HA.out w1).mono ?_;rintro e w1' ⟨rfl,rfl⟩
 cases ra with
 | false=>
  obtain rfl:r=false:=by simpa using H4.out
  go_wp2_with fail
  go_ret
  exact ⟨rfl,hb⟩
 | true=>
  cases f with
  | false=>
   obtain rfl:r=true:=by simpa using H4.out
   go_wp2_with fail
   go_ret
   exact ⟨rfl,hb⟩
  | true=>
   obtain rfl:r=rb:=by simpa using H4.out
   go_wp2_with fail
   refine (HB.out w1).mono ?_;rintro e w1' ⟨rfl,rfl⟩;go_wp2_with fail
   go_ret
   exact ⟨rfl,hb⟩
end
end Go.Proofs.YtefpndiiedkmpaaGreatDoor
