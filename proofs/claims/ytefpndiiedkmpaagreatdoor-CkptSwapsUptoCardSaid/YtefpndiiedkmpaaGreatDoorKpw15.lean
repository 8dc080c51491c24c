/- Merged (what the claim wants of): StoDisk, ErrIs, StoPut, KptSave, KptLawA, KptLawB, KptLawC, KptTurn, OpenS, OpenBulk, OpenSym, OpenLab, OpenSets, KptOpen, KptOpenW, KptPut, KptFull, KptSwapP. -/
import Derived.Test.YtefpndiiedkmpaaGreatDoorKpw14
import Derived.LaidEql
import Derived.Stop.Asserts
import Derived.RowKitTokens
import Derived.Test.YtefpndiiedkmpaaGreatDoorKpw02
import Derived.Test.YtefpndiiedkmpaaGreatDoorKpw05
import Derived.Test.YtefpndiiedkmpaaGreatDoorKpw11
import Derived.Test.YtefpndiiedkmpaaGreatDoorKpw10
import Derived.Test.YtefpndiiedkmpaaGreatDoorRows
import Derived.ProofKit
import Derived.SizedLaws
import Derived.OpenShut
import Derived.ChangeMaps5
import Derived.Test.YtefpndiiedkmpaaGreatDoorKpw01
import Derived.Deep.Slices
import Derived.Test.YtefpndiiedkmpaaGreatDoorKpw03
set_option linter.unusedVariables false
set_option linter.unusedSimpArgs false
set_option maxRecDepth 100000
set_option maxHeartbeats 8000000
namespace Go.Proofs.YtefpndiiedkmpaaGreatDoor
section
open Go.RowKit Go.Shelf Go.Maps Go.Sort
structure Out (R R':Nat→Nat) (w w':World):Prop where
 os:w'.os=w.os
 tape:w'.tape=w.tape
 output:w'.output=w.output
 size:w.heap.size≤w'.heap.size
 block:∀k,k < w.heap.size→R k=0→w'.heap[k]? = w.heap[k]?
 old:∀k,k < w.heap.size→R k=0→R' k=0
section
variable {R R' R'' : Nat → Nat} {w w' w'' : World} {a : Nat → Addr} {B0 M M' p k : Nat} {d d' : Ds} {A : Adr} {v : Value}
theorem Koy {R:Nat→Nat} {k:Nat} (h:R k=0) (q:Nat):giv R q 0 k=0:=by
 unfold giv
 split
 ·rfl
 ·exact h
theorem Out.of_own (h:Own R R' w w'):Out R R' w w':=⟨h.os,h.tape,h.output,h.size,h.block,fun k hk h0=>(h.old k hk).trans h0⟩
theorem Out.trans (h:Out R R' w w') (k:Out R' R'' w' w''):Out R R'' w w'':=
 ⟨k.os.trans h.os,k.tape.trans h.tape,k.output.trans h.output,Nat.le_trans h.size k.size,
  fun i hi hr=>(k.block i (Nat.lt_of_lt_of_le hi h.size) (h.old i hi hr)).trans (h.block i hi hr),
  fun i hi hr=>k.old i (Nat.lt_of_lt_of_le hi h.size) (h.old i hi hr)⟩
theorem Out.of_below (h:Below w.heap.size w w'):Out R R w w':=⟨h.os,h.tape,h.output,h.size,fun k hk _=>h.block k hk,fun _ _ h=>h⟩
theorem Out.below {B:Nat} (h:Out R R' w w') (hB:B≤w.heap.size) (hR:∀k,k < B→R k=0):Below B w w':=
 ⟨h.os,h.tape,h.output,h.size,fun k hk=>h.block k (by omega) (hR k hk)⟩
theorem Out.free (h:Out R R' w w') (q:Nat):Out R (giv R' q 0) w w':=
 ⟨h.os,h.tape,h.output,h.size,h.block,fun k hk h0=>Koy (h.old k hk h0) q⟩
theorem Out.blk {g:Nat} {t:TypeId} {cs:Array Value} (h:Out R R' w w') (hg:Blk w g t cs) (h0:R g=0):Blk w' g t cs:=(h.block g hg.lt h0).trans hg
theorem RowIs.free {r:Nat} {T T2:TypeId} {sz n q:Nat} {xs:List Value} {cs:Array Value} (h:RowIs w R r T sz v n xs) (hq:Blk w q T2 cs) (hne:T≠T2):RowIs w (giv R q 0) r T sz v n xs:=by
 refine ⟨h.1,fun g hg=>?_⟩;rw[Kax,h.2 g hg];rintro rfl;rcases h.1.2 with ⟨rfl,_⟩ | ⟨g,cap,cur,rfl,_,h4,_⟩
 ·cases hg
 ·injection hg with hg;subst hg;exact (Blk.ne_ (t:=T) (cs:=cur) h4 hq hne) rfl
theorem Box.free {b q:Nat} {T T2:TypeId} {cs:Array Value} (h:Box w R b T v) (hq:Blk w q T2 cs) (hne:T≠T2):Box w (giv R q 0) b T v:=⟨h.1,by rw[Kax (Blk.ne_ h.1 hq hne)];exact h.2⟩
theorem MapM.free {r b q:Nat} {f:Txt→Option Value} {T2:TypeId} {cs:Array Value} (h:MapM w R r b f) (hq:Blk w q T2 cs):MapM w (giv R q 0) r b f:=by
 refine ⟨h.1,?_⟩;rw[Kax]
 ·exact h.2
 ·rintro rfl;obtain ⟨D,⟨es,clock,h1,_⟩,_⟩:=h.1;unfold Blk at hq;rw[hq] at h1;cases h1
theorem CD.free {q:Nat} {cs:Array Value} (h:CD B0 w R A d) (hq:Blk w q 59 cs):CD B0 w (giv R q 0) A d where
 blk:=h.blk
 rp:=by rw[Kax (Blk.ne_ h.blk hq (by decide))];exact h.rp
 dirs:=h.dirs.free hq
 files:=h.files.free hq
 sdirs:=h.sdirs.free hq
 sfiles:=h.sfiles.free hq
 steps:=by
  obtain ⟨fs,h1,h2,h3⟩:=h.steps;refine ⟨fs,h1.free hq (by decide),h2,fun i s f hs hf=>?_⟩;have h4:=h3 i s f hs hf
  cases s with
  | mkdir a=>exact (show False from h4).elim
  | create a i=>obtain ⟨b,c,e,h5,h6⟩:=h4;exact ⟨b,c,e,h5.free hq (by decide),h6.free hq (by decide)⟩
  | rename a a'=>obtain ⟨b,c,e,h5,h6⟩:=h4;exact ⟨b,c,e,h5.free hq (by decide),h6.free hq (by decide)⟩
  | remove a=>obtain ⟨b,e,h5⟩:=h4;exact ⟨b,e,h5.free hq (by decide)⟩
 bytes:=⟨h.bytes.1,fun i b f hb hf=>by
  obtain ⟨v,h1,h2,h3⟩:=h.bytes.2 i b f hb hf
  exact ⟨v,h1,by rw[Kax (Blk.ne_ h1 hq (by decide))];exact h2,h3.free hq (by decide)⟩⟩
 inw:=fun k hk=>h.inw k fun e=>hk (Koy e q)
 low:=fun k hk=>Koy (h.low k hk) q
structure Dk (B0 M:Nat) (w:World) (R:Nat→Nat) (p:Nat) (d:Ds):Prop where
 ex:∃A,CD B0 w R A d∧A.p=p
 wf:WF M d
theorem Dk.below (h:Dk B0 M w R p d) (hb:Below w.heap.size w w'):Dk B0 M w' R p d:=by
 obtain ⟨A,h1,h2⟩:=h.ex;exact ⟨⟨A,h1.below hb,h2⟩,h.wf⟩
theorem Dk.more (h:Dk B0 M w R p d) (hM:M≤M'):Dk B0 M' w R p d:=⟨h.ex,h.wf.more hM⟩
theorem Dk.low (h:Dk B0 M w R p d):∀k,k < B0→R k=0:=by
 obtain ⟨A,h1,h2⟩:=h.ex;exact h1.low
theorem Dk.new (h:Dk B0 M w R p d) {k:Nat} (hk:w.heap.size≤k):R k=0:=by
 obtain ⟨A,h1,h2⟩:=h.ex;exact h1.inw.new hk
def ErrW (a:Nat→Addr) (w:World) (R:Nat→Nat):Nat→Value→Prop
 | 0,v=>v = .nilIface
 | k+1,v=>∃q op path,v = .iface 56 (.pointer (some ⟨q,0,none⟩))∧Blk w q 59 #[.string op,.string path,failV a (k+1)]∧R q=0
theorem ErrW.out (h:ErrW a w R k v) (ho:Out R R' w w'):ErrW a w' R' k v:=by
 cases k with
 | zero=>exact h
 | succ k=>
  obtain ⟨q,op,path,h1,h2,h3⟩:=h;exact ⟨q,op,path,h1,ho.blk h2 h3,ho.old q h2.lt h3⟩
theorem ErrW.nil (h:ErrW a w R k v) (hk:k=0):v = .nilIface:=by subst hk;exact h
theorem ErrW.some_ (h:ErrW a w R k v) (hk:k≠0):∃q op path,v = .iface 56 (.pointer (some ⟨q,0,none⟩))∧Blk w q 59 #[.string op,.string path,failV a k]∧R q=0:=by
 cases k with
 | zero=>exact absurd rfl hk
 | succ k=>exact h
def DkOut (a:Nat→Addr) (B0 M:Nat) (R:Nat→Nat) (p:Nat) (r:Nat×Ds) (w:World) (e:Ending) (w':World):Prop:=
 ∃v R',e = .returned v∧ErrW a w' R' r.1 v∧Dk B0 M w' R' p r.2∧Out R R' w w'
theorem DkOut.mk' {op s:ByteArray} {R':Nat→Nat} (h1:ErrV a w' op s k v) (h2:CD B0 w' R' A d') (h3:Out R R' w w') (hw:WF M d') :
  ∃R'',ErrW a w' R'' k v∧Dk B0 M w' R'' A.p d'∧Out R R'' w w':=by
 cases k with
 | zero=>exact ⟨R',h1,⟨⟨A,h2,rfl⟩,hw⟩,h3⟩
 | succ k=>
  obtain ⟨q,e,h4⟩:=h1;exact ⟨giv R' q 0,⟨q,op,s,e,h4,Kck _ _ _⟩,⟨⟨A,h2.free h4,rfl⟩,hw⟩,h3.free q⟩
theorem DkOut.of {r:Nat×Ds} {op s:ByteArray} {e:Ending} (h:Keg B0 a R A r op s w e w') (hw:WF M r.2):DkOut a B0 M R A.p r w e w':=by
 obtain ⟨v,R',A',rfl,h1,h2,h3,h4,_⟩:=h;obtain ⟨R'',k1,k2,k3⟩:=DkOut.mk' h1 h2 (Out.of_own h3) hw;rw[h4] at k2;exact ⟨v,R'',rfl,k1,k2,k3⟩
theorem Dk.create (h:Dk B0 M w R p d) (hM:M≤536870912) (hB:B0≤w.heap.size) (hF:Fails B0 a w) (S:ByteArray) (hS:S.size≤1073741824) :
  Calls Tryz.prog 57 #[.pointer (some ⟨p,0,none⟩),.string S] w (DkOut a B0 (M+1) R p (Kbd d S.data.toList) w):=by
 obtain ⟨A,hc,rfl⟩:=h.ex;exact (Kwq S w hc (h.wf.fit hM) h.wf.nums hS hB hF).mono fun _ _ k=>.of k (h.wf.create _)
theorem Dk.append (h:Dk B0 M w R p d) (hM:M≤536870912) (hB:B0≤w.heap.size) (hF:Fails B0 a w) (S:ByteArray) (hS:S.size≤1073741824) (Ao:Option Addr) (t:Txt) (hl:Strs w Ao 1 [t]) (ht:t.length≤140737488351232) :
  Calls Tryz.prog 59 #[.pointer (some ⟨p,0,none⟩),.string S,.slice Ao 1 1] w (DkOut a B0 (M+t.length+1) R p (Kbp d S.data.toList t) w):=by
 obtain ⟨A,hc,rfl⟩:=h.ex;have e:[t].flatten=t:=by simp
 have hk:=Kus (a:=a) S Ao 1 1 [t] w hc (h.wf.fit hM) hS hB hF hl (by decide) (by decide) (by rw[e];omega) (h.wf.used hM) h.wf.capl (h.wf.nl hM) (h.wf.sl hM);rw[e] at hk;exact hk.mono fun _ _ k=>.of k.weak (h.wf.append _ _)
theorem Dk.sync (h:Dk B0 M w R p d) (hM:M≤536870912) (hB:B0≤w.heap.size) (hF:Fails B0 a w) (S:ByteArray) (hS:S.size≤1073741824) :
  Calls Tryz.prog 61 #[.pointer (some ⟨p,0,none⟩),.string S] w (DkOut a B0 (M+1) R p (syncD d S.data.toList) w):=by
 obtain ⟨A,hc,rfl⟩:=h.ex;exact (Qfk S w hc (h.wf.fit hM) hS hB hF).mono fun _ _ k=>.of k.weak (h.wf.sync _)
theorem Dk.syncNames (h:Dk B0 M w R p d) (hM:M≤536870912) (hB:B0≤w.heap.size) (hF:Fails B0 a w) :
  Calls Tryz.prog 64 #[.pointer (some ⟨p,0,none⟩)] w (DkOut a B0 (M+1) R p (Kay d) w):=by
 obtain ⟨A,hc,rfl⟩:=h.ex;exact (Krj w hc (h.wf.fit hM) hB hF).mono fun _ _ k=>.of k.weak h.wf.syncNames
theorem Dk.rename (h:Dk B0 M w R p d) (hM:M≤536870912) (hB:B0≤w.heap.size) (hF:Fails B0 a w) (S S2:ByteArray) (hS:S.size≤1073741824) (hS2:S2.size≤1073741824) :
  Calls Tryz.prog 63 #[.pointer (some ⟨p,0,none⟩),.string S,.string S2] w (DkOut a B0 (M+1) R p (Kal d S.data.toList S2.data.toList) w):=by
 obtain ⟨A,hc,rfl⟩:=h.ex;exact (Kyo S S2 w hc (h.wf.fit hM) hS hS2 hB hF).mono fun _ _ k=>.of k.weak (h.wf.rename _ _)
theorem Dk.remove (h:Dk B0 M w R p d) (hM:M≤536870912) (hB:B0≤w.heap.size) (hF:Fails B0 a w) (S:ByteArray) (hS:S.size≤1073741824) :
  Calls Tryz.prog 54 #[.pointer (some ⟨p,0,none⟩),.string S] w (DkOut a B0 (M+1) R p (Kat d S.data.toList) w):=by
 obtain ⟨A,hc,rfl⟩:=h.ex;exact (Kyn S w hc (h.wf.fit hM) hS hB hF).mono fun _ _ k=>.of k.weak (h.wf.remove _)
def Qoj (a:Nat→Addr) (B0 M:Nat) (R:Nat→Nat) (p:Nat) (d:Ds) (P:Value→World→Prop) (k:Nat) (w:World) (e:Ending) (w':World):Prop:=
 ∃u v R',e = .returned (.tuple #[u,v])∧P u w'∧ErrW a w' R' k v∧Dk B0 M w' R' p d∧Out R R' w w'
theorem Dk.all (h:Dk B0 M w R p d) (hM:M≤536870912) (hB:B0≤w.heap.size) (hF:Fails B0 a w) (S:ByteArray) (hS:S.size≤1073741824) :
  Calls Tryz.prog 21 #[.pointer (some ⟨p,0,none⟩),.string S] w (Qoj a B0 M R p d (fun u _=>u=txtV (allD d S.data.toList).1) (allD d S.data.toList).2 w):=by
 obtain ⟨A,hc,rfl⟩:=h.ex;refine (Qdf S w hc (h.wf.fit hM) hS hB hF).mono ?_;rintro e w2 ⟨v,rfl,hv,hb⟩;obtain ⟨R'',k1,k2,k3⟩:=DkOut.mk' hv (hc.below hb) (Out.of_below (R:=R) hb) h.wf;exact ⟨_,v,R'',rfl,rfl,k1,k2,k3⟩
theorem Dk.off (h:Dk B0 M w R p d):Calls Tryz.prog 24 #[.pointer (some ⟨p,0,none⟩)] w fun e w'=>e = .returned (.bool d.off)∧w=w':=by
 obtain ⟨A,hc,rfl⟩:=h.ex;exact Ktx A.p d.off w (Blk.cell hc.blk 6)
theorem Dk.crash (h:Dk B0 M w R p d) (n:Int) (hn:n≤9223372036854775807) (hn':-9223372036854775808≤n) :
  Calls Tryz.prog 23 #[.pointer (some ⟨p,0,none⟩),.int .i64 n] w fun e w'=>e = .returned (.tuple #[])∧Dk B0 (M+1) w' R p (Kgt d n)∧Out R R w w':=by
 obtain ⟨A,hc,rfl⟩:=h.ex;exact (Qah n w hc hn hn').mono fun e w' ⟨h1,h2,h3⟩=>⟨h1,⟨⟨A,h2,rfl⟩,h.wf.crash hn⟩,Out.of_own h3⟩
theorem Dk.made (n:Int) (hn:n≤9223372036854775807) (hn':-9223372036854775808≤n) (w:World) (hB:B0≤w.heap.size) :
  Calls Tryz.prog 16 #[.int .i64 n] w fun x w1=>∃p R,x = .returned (.pointer (some ⟨p,0,none⟩))∧Dk B0 0 w1 R p (newD n)∧Below w.heap.size w w1∧∀k,k < w.heap.size→R k=0:=
 (Qie w.heap.size n w (Nat.le_refl _) hn hn').mono fun x w1 ⟨R,A,e,h1,h2,h3⟩=>⟨A.p,R,e,⟨⟨A,⟨h1.blk,h1.rp,h1.dirs,h1.files,h1.sdirs,h1.sfiles,h1.steps,h1.bytes,h1.inw,fun k hk=>h1.low k (by omega)⟩,rfl⟩,WF.new n⟩,h2,h1.low⟩
theorem Dk.restart (h:Dk B0 M w R p d) (hM:M≤536870912) (hB:B0≤w.heap.size) (n:Int) (hn1:-9223372036854775808≤n) (hn2:n≤9223372036854775807) (Ad:Option Addr) (nd cd:Nat) (data:List Int) (z:Bool)
  (hdat:Ints3 w Ad nd data) (hdr:∀x,Ad=some x→0 < nd→R x.block=0) (hdb:∀x∈data,-9223372036854775808≤x∧x≤9223372036854775807) (hnd:nd≤140737488355328) :
  Calls Tryz.prog 25 #[.pointer (some ⟨p,0,none⟩),.int .i64 n,.slice Ad nd cd,.bool z] w fun e w'=>∃R',e = .returned (.tuple #[])∧Dk B0 (M+1) w' R' p (Kbc d n data z)∧Out R R' w w':=by
 obtain ⟨A,hc,rfl⟩:=h.ex;refine (Kvk n Ad nd cd data z w hc h.wf hM hB hn1 hn2 hdat hdr hdb hnd).mono ?_;rintro e w3 ⟨R',A',rfl,k1,k2,k3⟩;exact ⟨R',rfl,⟨⟨A',k1,k3⟩,h.wf.restart _ _ _⟩,Out.of_own k2⟩
end
end
section
open Go.RowKit Go.Extern.Stop Go.Stop Go.Extern
attribute [local go_sem ↓] Go.wp_at_zero Go.wp_at_succ
theorem Qhl (v:Value) (w:World):(Extern.ReflectliteType.typeOf #[.iface 360 v]).run Tryz.prog w = .ok (.iface 259 (.agg #[.pointer (some ⟨Tryz.prog.globals.size,360,none⟩)])) w:=by kernel_rfl
def cmpM:Array Value→Sem Value:=Extern.ReflectliteType.method fun t=>do Extern.Rtype.noPackHeld "Comparable" t;pure (.bool (←typeInfo t).comparable)
theorem Kvc (w:World):(cmpM #[.agg #[.pointer (some ⟨Tryz.prog.globals.size,360,none⟩)]]).run Tryz.prog w = .ok (.bool true) w:=by kernel_rfl
theorem Qkr (v:Value) (xT:TypeId) (w:World):(Instr.typeAssert (.iface 360 v) xT 261 true).run Tryz.prog w = .ok (.tuple #[.nilIface,.bool false]) w:=run_typeAssert_lacksB Tryz.underlying261 (by kernel_rfl) (by kernel_rfl) v xT w
theorem Kxq (v:Value) (xT:TypeId) (w:World):(Instr.typeAssert (.iface 360 v) xT 264 true).run Tryz.prog w = .ok (.tuple #[.nilIface,.bool false]) w:=run_typeAssert_lacksB Tryz.underlying264 (by kernel_rfl) (by kernel_rfl) v xT w
theorem Kve (v:Value) (xT:TypeId) (w:World):(Instr.typeAssert (.iface 360 v) xT 265 true).run Tryz.prog w = .ok (.tuple #[.nilIface,.bool false]) w:=run_typeAssert_lacksB Tryz.underlying265 (by kernel_rfl) (by kernel_rfl) v xT w
theorem Qks (v:Value) (xT:TypeId) (w:World):(Instr.typeAssert (.iface 56 v) xT 261 true).run Tryz.prog w = .ok (.tuple #[.nilIface,.bool false]) w:=run_typeAssert_lacksB Tryz.underlying261 (by kernel_rfl) (by kernel_rfl) v xT w
theorem Kvd (v:Value) (xT:TypeId) (w:World):(Instr.typeAssert (.iface 56 v) xT 264 true).run Tryz.prog w = .ok (.tuple #[.iface 56 v,.bool true]) w:=run_typeAssert_hasB Tryz.underlying264 (by kernel_rfl) v xT w
section
variable {B0 : Nat} {a : Nat → Addr}
theorem Qeg (q i j:Nat) (op path:ByteArray) (w:World) (hq:Blk w q 59 #[.string op,.string path,failV a i]) (hs:Sents B0 a w) (ha:Apart a) (h1:1≤i) (h2:i≤7) (h3:1≤j) (h4:j≤7) :
  Calls Tryz.prog 113 #[.iface 56 (.pointer (some ⟨q,0,none⟩)),failV a j,.bool true] w fun e w'=>e = .returned (.bool (decide (i=j)))∧w=w':=by
 have m2:w.cell? ⟨q,2,none⟩=some (failV a i):=hq.cell 2;have nF:=Qks;have uF:=Kvd;have nE:=Qkr;have uE:=Kxq;have vE:=Kve;have hty:=run_eql_iface_types (P:=Tryz.prog) 56 360 (.pointer (some ⟨q,0,none⟩)) (.pointer (some (a j))) Tryz.underlying40 (by decide) w
 by_cases hij:i=j
 ·subst hij;have heq:=Qos (a:=a) i w;rw[decide_eq_true rfl];unfold failV at m2 heq ⊢;clear hq hs ha;go_enter Tryz.func113,Tryz.ntmps113
  go_wp2
  refine wp_loop_rounds 2 ?_;rw[rounds_succ];go_wp2
  rw[rounds_succ];go_wp2
  go_ret
  exact ⟨rfl,rfl⟩
 ·have hne:=Qot (w:=w) hs ha h1 h2 h3 h4 hij;rw[decide_eq_false hij];unfold failV at m2 hne ⊢;clear hq hs ha;go_enter Tryz.func113,Tryz.ntmps113
  go_wp2
  refine wp_loop_rounds 2 ?_;rw[rounds_succ];go_wp2
  rw[rounds_succ];go_wp2
  go_ret
  exact ⟨rfl,rfl⟩
theorem Qhk (q i j:Nat) (op path:ByteArray) (w:World) (hq:Blk w q 59 #[.string op,.string path,failV a i]) (hs:Sents B0 a w) (ha:Apart a) (h1:1≤i) (h2:i≤7) (h3:1≤j) (h4:j≤7) :
  Calls Tryz.prog 55 #[.iface 56 (.pointer (some ⟨q,0,none⟩)),failV a j] w fun e w'=>e = .returned (.bool (decide (i=j)))∧w=w':=by
 have HI:=Lib.hid (Qeg q i j op path w hq hs ha h1 h2 h3 h4);have h8:=@run_callFunc_extern Tryz.prog 112 _ Extern.ReflectliteType.typeOf Tryz.func112 (by kernel_rfl) (by kernel_rfl) (by kernel_rfl) (by kernel_rfl);have h32:=@run_callFunc_extern Tryz.prog 299 _ cmpM Tryz.func299 (by kernel_rfl) (by kernel_rfl) (by kernel_rfl) (by kernel_rfl);have tT:=Qhl;have cT:=Kvc;obtain ⟨gs,hgs⟩:∃g,Tryz.prog.globals.size=g:=⟨_,rfl⟩;rw[hgs] at cT;simp only[hgs] at tT;clear hgs;unfold failV at HI ⊢;clear hq hs ha;go_enter Tryz.func55,Tryz.ntmps55
 go_wp2_with fail
 refine HI.out.mono ?_;rintro e w' ⟨rfl,rfl⟩;go_wp2_with fail
 go_ret
 exact ⟨rfl,rfl⟩
theorem Kxp (j:Nat) (w:World) :
  Calls Tryz.prog 55 #[.nilIface,failV a j] w fun e w'=>e = .returned (.bool false)∧w=w':=by
 have hn:=run_eql_iface_nil_left (P:=Tryz.prog) w 360 (.pointer (some (a j))) Tryz.underlying40;unfold failV;go_enter Tryz.func55,Tryz.ntmps55
 go_wp2_with fail
 go_ret
 exact ⟨rfl,rfl⟩
end
end
section
open Go.RowKit Go.Shelf Go.Sort
open Lib renaming hid → Jh
attribute [local go_sem ↓] Go.wp_at_zero Go.wp_at_succ
attribute [local go_sem] Later.cell
section
variable {B0 M p : Nat} {a : Nat → Addr} {R : Nat → Nat} {d : Ds}
theorem Qev (bd bf:Nat) (F:ByteArray) (w:World) (hD:Dk B0 M w R p d) (hM:M≤536870912) (hB:B0≤w.heap.size) (hF:Fails B0 a w) (hS:F.size≤1073741824)
  (h1:Blk w bd 37 #[.pointer (some ⟨p,0,none⟩)]) (h2:Blk w bf 9 #[.string F]) :
  Calls Tryz.prog 56 #[.pointer (some ⟨bd,0,none⟩),.pointer (some ⟨bf,0,none⟩)] w (DkOut a B0 (M+1) R p (Kbd d F.data.toList) w):=by
 have m1:=h1.cell 0;have m2:=h2.cell 0;have HC:=Jh (hD.create hM hB hF F hS);clear hD hF h1 h2;go_enter Tryz.func56,Tryz.ntmps56
 go_wp2_with fail
 refine HC.out.mono ?_;rintro e w1 ⟨v,R1,rfl,hk⟩;go_wp2_with fail
 go_ret
 exact ⟨v,R1,rfl,hk⟩
theorem Qew (bd bf bt:Nat) (F T:ByteArray) (w:World) (hD:Dk B0 M w R p d) (hM:M≤536870912) (hB:B0≤w.heap.size) (hF:Fails B0 a w) (hS:F.size≤1073741824) (hT:T.size≤140737488351232)
  (h1:Blk w bd 37 #[.pointer (some ⟨p,0,none⟩)]) (h2:Blk w bf 9 #[.string F]) (h3:Blk w bt 9 #[.string T]) :
  Calls Tryz.prog 58 #[.pointer (some ⟨bd,0,none⟩),.pointer (some ⟨bf,0,none⟩),.pointer (some ⟨bt,0,none⟩)] w (DkOut a B0 (M+T.size+1) R p (Kbp d F.data.toList T.data.toList) w):=by
 have m1:=h1.cell 0;have m2:=h2.cell 0;have m3:=h3.cell 0;have hb:Below w.heap.size w (w.alloc (.cells #[.string T] 9)):=(Below.refl _ _).alloc (Nat.le_refl _) _;have HC:=Jh ((hD.below hb).append hM (by have:=hb.size;omega) (hF.below (hb.mono hB)) F hS _ _ (Kzf (Blk.new w 9 #[.string T])) hT);have HB:=Jh hb;clear hD hF h1 h2 h3 hb;go_enter Tryz.func58,Tryz.ntmps58
 go_wp2_with fail
 refine HC.out.mono ?_;rintro e w1 ⟨v,R1,rfl,hk1,hk2,hk3⟩;go_wp2_with fail
 go_ret
 exact ⟨v,R1,rfl,hk1,hk2,(Out.of_below HB.out).trans hk3⟩
theorem Qex (bd bf:Nat) (F:ByteArray) (w:World) (hD:Dk B0 M w R p d) (hM:M≤536870912) (hB:B0≤w.heap.size) (hF:Fails B0 a w) (hS:F.size≤1073741824)
  (h1:Blk w bd 37 #[.pointer (some ⟨p,0,none⟩)]) (h2:Blk w bf 9 #[.string F]) :
  Calls Tryz.prog 60 #[.pointer (some ⟨bd,0,none⟩),.pointer (some ⟨bf,0,none⟩)] w (DkOut a B0 (M+1) R p (syncD d F.data.toList) w):=by
 have m1:=h1.cell 0;have m2:=h2.cell 0;have HC:=Jh (hD.sync hM hB hF F hS);clear hD hF h1 h2;go_enter Tryz.func60,Tryz.ntmps60
 go_wp2_with fail
 refine HC.out.mono ?_;rintro e w1 ⟨v,R1,rfl,hk⟩;go_wp2_with fail
 go_ret
 exact ⟨v,R1,rfl,hk⟩
theorem Qey (bd bf bp:Nat) (F P:ByteArray) (w:World) (hD:Dk B0 M w R p d) (hM:M≤536870912) (hB:B0≤w.heap.size) (hF:Fails B0 a w) (hS:F.size≤1073741824) (hP:P.size≤1073741824)
  (h1:Blk w bd 37 #[.pointer (some ⟨p,0,none⟩)]) (h2:Blk w bf 9 #[.string F]) (h3:Blk w bp 9 #[.string P]) :
  Calls Tryz.prog 62 #[.pointer (some ⟨bd,0,none⟩),.pointer (some ⟨bf,0,none⟩),.pointer (some ⟨bp,0,none⟩)] w (DkOut a B0 (M+1) R p (Kal d F.data.toList P.data.toList) w):=by
 have m1:=h1.cell 0;have m2:=h2.cell 0;have m3:=h3.cell 0;have HC:=Jh (hD.rename hM hB hF F P hS hP);clear hD hF h1 h2 h3;go_enter Tryz.func62,Tryz.ntmps62
 go_wp2_with fail
 refine HC.out.mono ?_;rintro e w1 ⟨v,R1,rfl,hk⟩;go_wp2_with fail
 go_ret
 exact ⟨v,R1,rfl,hk⟩
structure Env5 (B0:Nat) (a:Nat→Addr) (w:World):Prop where
 f:Fails B0 a w
 s:Sents B0 a w
theorem Env5.below {w w':World} (h:Env5 B0 a w) (hb:Below B0 w w'):Env5 B0 a w':=⟨h.f.below hb,h.s.below hb⟩
theorem Env5.out {R R':Nat→Nat} {w w':World} {M':Nat} (h:Env5 B0 a w) (ho:Out R R' w w') (hB:B0≤w.heap.size) (hD:Dk B0 M' w R p d):Env5 B0 a w':=h.below (ho.below hB hD.low)
theorem Qef {w:World} {k:Nat} {v:Value} (hv:ErrW a w R k v) (hk:k≤7) (hs:Sents B0 a w) (ha:Apart a) :
  Calls Tryz.prog 55 #[v,.iface 360 (.pointer (some (a 4)))] w fun e w'=>e = .returned (.bool (decide (k=4)))∧w=w':=by
 cases k with
 | zero=>
  obtain rfl:v = .nilIface:=hv;exact Kxp 4 w
 | succ k=>
  obtain ⟨q,op,path,rfl,h1,h2⟩:=hv;exact Qhk q (k+1) 4 op path w h1 hs ha (by omega) hk (by omega) (by omega)
theorem Khb {F:Txt} {f:Ds→Nat×Ds} {l:List (Ds→Nat×Ds)} {r:Nat×Ds} (h:r.1≠0):putL F (f :: l) r=(r.1,(Kat r.2 F).2):=by rw[putL,if_neg h]
theorem Kjt {F:Txt} {f:Ds→Nat×Ds} {l:List (Ds→Nat×Ds)} {r:Nat×Ds} (h:r.1=0):putL F (f :: l) r=putL F l (f r.2):=by rw[putL,if_pos h]
structure PutB (b p:Nat) (P T F:ByteArray) (w:World) (R:Nat→Nat):Prop where
 bd:Blk w b 37 #[.pointer (some ⟨p,0,none⟩)]
 bp:Blk w (b+1) 9 #[.string P]
 bt:Blk w (b+2) 9 #[.string T]
 bf:Blk w (b+3) 9 #[.string F]
 rd:R b=0
 rp:R (b+1)=0
 rt:R (b+2)=0
 rf:R (b+3)=0
theorem PutB.out {b:Nat} {P T F:ByteArray} {w w':World} {R R':Nat→Nat} (h:PutB b p P T F w R) (ho:Out R R' w w'):PutB b p P T F w' R':=
 ⟨ho.blk h.bd h.rd,ho.blk h.bp h.rp,ho.blk h.bt h.rt,ho.blk h.bf h.rf,ho.old _ h.bd.lt h.rd,ho.old _ h.bp.lt h.rp,ho.old _ h.bt.lt h.rt,ho.old _ h.bf.lt h.rf⟩
def putF (b p i:Nat):Value:=
 #[.func (.func 56) #[] #[.pointer (some ⟨b,0,none⟩),.pointer (some ⟨b+3,0,none⟩)],.func (.func 58) #[] #[.pointer (some ⟨b,0,none⟩),.pointer (some ⟨b+3,0,none⟩),.pointer (some ⟨b+2,0,none⟩)],
  .func (.func 60) #[] #[.pointer (some ⟨b,0,none⟩),.pointer (some ⟨b+3,0,none⟩)],.func (.func 62) #[] #[.pointer (some ⟨b,0,none⟩),.pointer (some ⟨b+3,0,none⟩),.pointer (some ⟨b+1,0,none⟩)],
  .func (.func 64) #[.pointer (some ⟨p,0,none⟩)] #[]].getD i undef
def putRow (b p:Nat):Array Value:=#[putF b p 0,putF b p 1,putF b p 2,putF b p 3,putF b p 4]
def Kex (F P T:Txt):List (Ds→Nat×Ds):=[(Kbd · F),(Kbp · F T),(syncD · F),(Kal · F P),Kay]
def putM (M t i:Nat):Nat:=M+1+i+(if i < 2 then 0 else t)
structure PutI (B0 M p:Nat) (a:Nat→Addr) (R:Nat→Nat) (w:World) (b g:Nat) (P T F:ByteArray) (res:Nat×Ds) (i:Nat) (v:Value) (R':Nat→Nat) (r:Nat×Ds) (wr:World):Prop where
 blks:PutB b p P T F wr R'
 row:Blk wr g 141 (putRow b p)
 rr:R' g=0
 err:ErrW a wr R' r.1 v
 dk:Dk B0 (putM M T.size i) wr R' p r.2
 out:Out R R' w wr
 env:Env5 B0 a wr
 left:putL F.data.toList ((Kex F.data.toList P.data.toList T.data.toList).drop i) r=res
theorem Kvh (P T:ByteArray) (w:World) (hD:Dk B0 M w R p d) (hM:M+T.size+8≤536870912) (hB:B0≤w.heap.size) (hE:Env5 B0 a w) (hA:Apart a) (hP:P.size≤1000000000) :
  Calls Tryz.prog 20 #[.pointer (some ⟨p,0,none⟩),.string P,.string T] w (DkOut a B0 (M+T.size+7) R p (putD d P.data.toList T.data.toList) w):=by
 obtain ⟨b,hb⟩:∃b,w.heap.size=b:=⟨_,rfl⟩;have HB:=Jh hb;obtain ⟨F,hF⟩:∃F:ByteArray,P++(⟨#[46,110,101,119]⟩:ByteArray)=F:=⟨_,rfl⟩;have hFd:F.data.toList=P.data.toList++Kby:=by rw[←hF];simp[Kby]
 have hFs:F.size≤1073741824:=by rw[←hF,ByteArray.size_append];show P.size+4≤_;omega
 obtain ⟨W,hW⟩:∃W,(((w.alloc (.cells #[.pointer (some ⟨p,0,none⟩)] 37)).alloc (.cells #[.string P] 9)).alloc (.cells #[.string T] 9)).alloc (.cells #[.string F] 9)=W:=⟨_,rfl⟩;have hbl:Below w.heap.size w W:=by rw[←hW];exact ((((Below.refl _ _).alloc (Nat.le_refl _) _).alloc (by simp) _).alloc (by simp;omega) _).alloc (by simp;omega) _
 have HPB:Hid (PutB b p P T F W R):=Jh (by
  rw[←hW,←hb]
  exact ⟨(((Blk.new _ _ _).alloc _).alloc _).alloc _,((Blk.newAt (by simp)).alloc _).alloc _,(Blk.newAt (by simp)).alloc _,Blk.newAt (by simp),hD.new (by omega),hD.new (by omega),hD.new (by omega),hD.new (by omega)⟩)
 have HD:=Jh (hD.below hbl);have HE:=Jh (hE.below (hbl.mono hB));have HO:Hid (Out R R w W):=Jh (Out.of_below hbl);have HBW:Hid (B0≤W.heap.size):=Jh (Nat.le_trans hB hbl.size);have HA:=Jh hA;have HB0:=Jh hB;have HW:=Jh hW;have HFD:=Jh hFd;clear hD hE hA hbl hb hW hFd hB;go_enter Tryz.func20,Tryz.ntmps20
 go_upto_region 2 with fail
 have hW2:(((w.alloc (.cells #[.pointer (some ⟨p,0,none⟩)] 37)).alloc (.cells #[.string P] 9)).alloc (.cells #[.string T] 9)).alloc (.cells #[.string F] 9)=W:=HW.out;have hb2:w.heap.size=b:=HB.out;rw[hW2,hb2];clear hW2 hb2;have x0:W.cell? ⟨b,0,none⟩=some (.pointer (some ⟨p,0,none⟩)):=HPB.out.bd.cell 0;have x3:W.cell? ⟨b+3,0,none⟩=some (.string F):=HPB.out.bf.cell 0;go_wp2_with fail
 refine (HD.out.remove (by omega) HBW.out HE.out.f F hFs).mono ?_;rintro e w1 ⟨v1,R1,rfl,hv1,hd1,ho1⟩;have HB1:=Jh (HPB.out.out ho1);have HO1:=Jh (HO.out.trans ho1);have HE1:=Jh (HE.out.out ho1 HBW.out HD.out);have HW1:Hid (B0≤w1.heap.size):=Jh (Nat.le_trans HBW.out ho1.size);have HK:=Jh (Qfb d F.data.toList);have HG:Hid (goneD d F.data.toList=(if (Kat d F.data.toList).1=4 then 0 else (Kat d F.data.toList).1,(Kat d F.data.toList).2)):=Jh rfl;obtain ⟨r1,hr1⟩:∃r,Kat d F.data.toList=r:=⟨_,rfl⟩;rw[hr1] at hv1 hd1 HK HG;have HV1:=Jh hv1;have HD1:=Jh hd1;have m4:w1.cell? ⟨2,0,none⟩=some (.iface 360 (.pointer (some (a 4)))):=(HE1.out.f 4 (by decide)).2;clear hr1 hv1 hd1 ho1 x0 x3;go_upto_if 18 with (go_at_call 55;refine (Qef HV1.out HK.out HE1.out.s HA.out).mono ?_;rintro e w2 ⟨rfl,rfl⟩)
 go_cut [8] (fun s8 wz=>∃v2:Value,v2=s8∧wz=w1∧ErrW a w1 R1 (if r1.1=4 then 0 else r1.1) v2)
 case first=>
  by_cases h4:r1.1=4
  ·have d4:decide (r1.1=4)=true:=decide_eq_true h4;go_wp2_with fail
   go_meet
   refine ⟨_,rfl,rfl,?_⟩;rw[if_pos h4];rfl
  ·have d4:decide (r1.1=4)=false:=decide_eq_false h4;go_wp2_with fail
   go_meet
   refine ⟨_,rfl,rfl,?_⟩;rw[if_neg h4];exact HV1.out
 case rest=>
  obtain ⟨v2,rfl,rfl,hv2⟩:=hcut;obtain ⟨r2,hr2⟩:∃r:Nat×Ds,((if r1.1=4 then 0 else r1.1,r1.2):Nat×Ds)=r:=⟨_,rfl⟩;have hv3:ErrW a wc R1 r2.1 v2:=by rw[←hr2];exact hv2
  have hd3:Dk B0 (M+1) wc R1 p r2.2:=by rw[←hr2];exact HD1.out
  obtain ⟨res,hres⟩:∃r,putD d P.data.toList T.data.toList=r:=⟨_,rfl⟩
  have hl3:putL F.data.toList (Kex F.data.toList P.data.toList T.data.toList) r2=res:=by
   rw[←hres,←hr2,←HG.out];unfold putD Kex;rw[←HFD.out]
  have HRES:=Jh hres;have HL3:=Jh hl3;have HV3:=Jh hv3;have HD3:=Jh hd3;clear hr2 hv2 hv3 hd3 hl3 hres m4;obtain ⟨w1,rfl⟩:∃x,x=wc:=⟨_,rfl⟩;have x0:w1.cell? ⟨b,0,none⟩=some (.pointer (some ⟨p,0,none⟩)):=HB1.out.bd.cell 0;go_upto_region 6 with fail
  obtain ⟨g,hg⟩:∃g,w1.heap.size=g:=⟨_,rfl⟩;obtain ⟨w2,hw2⟩:∃x,w1.alloc (.cells (putRow b p) 141)=x:=⟨_,rfl⟩;have hb2:Below w1.heap.size w1 w2:=by rw[←hw2];exact (Below.refl _ _).alloc (Nat.le_refl _) _
  have HI:Hid (PutI B0 M p a R w b g P T F res 0 v2 R1 r2 w2):=Jh (by
   have ho:=Out.of_below (R:=R1) hb2;refine ⟨HB1.out.out ho,?_,?_,HV3.out.out ho,?_,HO1.out.trans ho,HE1.out.below (hb2.mono HW1.out),HL3.out⟩
   ·rw[←hw2,←hg];exact Blk.new _ _ _
   ·rw[←hg];exact HD3.out.new (Nat.le_refl _)
   ·exact (HD3.out.below hb2))
  have HBG:Hid (B0≤w2.heap.size):=Jh (Nat.le_trans HW1.out hb2.size)
  have hrow:(Obj.cells #[.func (.func 56) #[] #[.pointer (some ⟨b,0,none⟩),.pointer (some ⟨b+1+1+1,0,none⟩)],.func (.func 58) #[] #[.pointer (some ⟨b,0,none⟩),.pointer (some ⟨b+1+1+1,0,none⟩),.pointer (some ⟨b+1+1,0,none⟩)],
   .func (.func 60) #[] #[.pointer (some ⟨b,0,none⟩),.pointer (some ⟨b+1+1+1,0,none⟩)],.func (.func 62) #[] #[.pointer (some ⟨b,0,none⟩),.pointer (some ⟨b+1+1+1,0,none⟩),.pointer (some ⟨b+1,0,none⟩)],
   .func (.func 64) #[.pointer (some ⟨p,0,none⟩)] #[]] 141 : Obj) = .cells (putRow b p) 141:=rfl
  rw[hrow,hw2,hg];clear hrow hw2 hg hb2 x0;go_loopg [8,27] 5 (fun gh s8 s27 wr=>∃(i:Nat) (R':Nat→Nat) (r:Nat×Ds) (v:Value),i+gh=5∧v=s8∧s27 = .int .i64 (i:Int)∧PutI B0 M p a R w b g P T F res i v R' r wr)
  case atStart=>exact ⟨0,R1,r2,_,rfl,rfl,rfl,HI.out⟩
  case round=>
   obtain ⟨i,R',r,v,hig,rfl,rfl,hi⟩:=hrel
   by_cases h5:i < 5
   ·have el:decide ((i:Int) < 5)=true:=by simp;omega
    rcases (by omega:i=0∨i=1∨i=2∨i=3∨i=4) with rfl | rfl | rfl | rfl | rfl
    ·
     have hBr:B0≤wr.heap.size:=Nat.le_trans HB0.out hi.out.size;have m0:wr.cell? ⟨g,0,none⟩=some (putF b p 0):=hi.row.cell 0;have HC:=Jh (Qev b (b+3) F wr hi.dk (by show M+1+0+0≤_;omega) hBr hi.env.f hFs hi.blks.bd hi.blks.bf);have HX:=Jh (hi.dk.remove (a:=a) (by show M+1+0+0≤_;omega) hBr hi.env.f F hFs);have x0:wr.cell? ⟨b,0,none⟩=some (.pointer (some ⟨p,0,none⟩)):=hi.blks.bd.cell 0;have x3:wr.cell? ⟨b+3,0,none⟩=some (.string F):=hi.blks.bf.cell 0;have HI2:=Jh hi;have HBR:=Jh hBr;unfold putF at m0;simp at m0;clear hi hBr;rcases Nat.eq_zero_or_pos r.1 with hz | hz
     ·obtain rfl:=HI2.out.err.nil hz;have HZ:=Jh hz;clear hz;go_wp2_with fail
      refine HC.out.mono ?_;rintro e w3 ⟨v3,R3,rfl,hv3,hd3,ho3⟩
      have HI3:Hid (PutI B0 M p a R w b g P T F res 1 v3 R3 (Kbd r.2 F.data.toList) w3):=Jh
       ⟨HI2.out.blks.out ho3,ho3.blk HI2.out.row HI2.out.rr,ho3.old _ HI2.out.row.lt HI2.out.rr,hv3,hd3.more (by show _≤M+1+1+0;show M+1+0+0+1≤_;omega),HI2.out.out.trans ho3,HI2.out.env.out ho3 HBR.out HI2.out.dk,by
        rw[←HI2.out.left]
        exact (Kjt (f:=(Kbd · F.data.toList)) (l:=(Kex F.data.toList P.data.toList T.data.toList).drop 1) HZ.out).symm⟩
      clear hv3 hd3 ho3 m0 x0 x3;go_wp2_with fail
      go_roundg (gk - 1)
      case measure=>omega
      case rel=>exact ⟨1,R3,_,_,by omega,rfl,by go_num,HI3.out⟩
     ·obtain ⟨q,op,path,rfl,hq1,hq2⟩:=HI2.out.err.some_ (by omega);have HZ:=Jh hz;clear hz hq1 hq2;go_wp2_with fail
      refine HX.out.mono ?_;rintro e w3 ⟨v3,R3,rfl,hv3,hd3,ho3⟩;have HO3:=Jh ho3;have HD3:=Jh hd3;clear hv3 hd3 ho3 m0 x0 x3;go_wp2_with fail
      go_ret
      have hres:res=(r.1,(Kat r.2 F.data.toList).2):=by
       rw[←HI2.out.left];exact Khb (by have:=HZ.out;omega)
      rw[HRES.out,hres];exact ⟨_,R3,rfl,HI2.out.err.out HO3.out,HD3.out.more (by show M+1+0+0+1≤_;omega),HI2.out.out.trans HO3.out⟩
    ·
     have hBr:B0≤wr.heap.size:=Nat.le_trans HB0.out hi.out.size;have m0:wr.cell? ⟨g,1,none⟩=some (putF b p 1):=hi.row.cell 1;have HC:=Jh (Qew b (b+3) (b+2) F T wr hi.dk (by show M+1+1+0≤_;omega) hBr hi.env.f hFs (by omega) hi.blks.bd hi.blks.bf hi.blks.bt);have HX:=Jh (hi.dk.remove (a:=a) (by show M+1+1+0≤_;omega) hBr hi.env.f F hFs);have x0:wr.cell? ⟨b,0,none⟩=some (.pointer (some ⟨p,0,none⟩)):=hi.blks.bd.cell 0;have x3:wr.cell? ⟨b+3,0,none⟩=some (.string F):=hi.blks.bf.cell 0;have HI2:=Jh hi;have HBR:=Jh hBr;unfold putF at m0;simp at m0;clear hi hBr;rcases Nat.eq_zero_or_pos r.1 with hz | hz
     ·obtain rfl:=HI2.out.err.nil hz;have HZ:=Jh hz;clear hz;go_wp2_with fail
      refine HC.out.mono ?_;rintro e w3 ⟨v3,R3,rfl,hv3,hd3,ho3⟩
      have HI3:Hid (PutI B0 M p a R w b g P T F res 2 v3 R3 (Kbp r.2 F.data.toList T.data.toList) w3):=Jh
       ⟨HI2.out.blks.out ho3,ho3.blk HI2.out.row HI2.out.rr,ho3.old _ HI2.out.row.lt HI2.out.rr,hv3,hd3.more (by show _≤M+1+2+T.size;show M+1+1+0+T.size+1≤_;omega),HI2.out.out.trans ho3,HI2.out.env.out ho3 HBR.out HI2.out.dk,by
        rw[←HI2.out.left]
        exact (Kjt (f:=(Kbp · F.data.toList T.data.toList)) (l:=(Kex F.data.toList P.data.toList T.data.toList).drop 2) HZ.out).symm⟩
      clear hv3 hd3 ho3 m0 x0 x3;go_wp2_with fail
      go_roundg (gk - 1)
      case measure=>omega
      case rel=>exact ⟨2,R3,_,_,by omega,rfl,by go_num,HI3.out⟩
     ·obtain ⟨q,op,path,rfl,hq1,hq2⟩:=HI2.out.err.some_ (by omega);have HZ:=Jh hz;clear hz hq1 hq2;go_wp2_with fail
      refine HX.out.mono ?_;rintro e w3 ⟨v3,R3,rfl,hv3,hd3,ho3⟩;have HO3:=Jh ho3;have HD3:=Jh hd3;clear hv3 hd3 ho3 m0 x0 x3;go_wp2_with fail
      go_ret
      have hres:res=(r.1,(Kat r.2 F.data.toList).2):=by
       rw[←HI2.out.left];exact Khb (by have:=HZ.out;omega)
      rw[HRES.out,hres];exact ⟨_,R3,rfl,HI2.out.err.out HO3.out,HD3.out.more (by show M+1+1+0+1≤_;omega),HI2.out.out.trans HO3.out⟩
    ·
     have hBr:B0≤wr.heap.size:=Nat.le_trans HB0.out hi.out.size;have m0:wr.cell? ⟨g,2,none⟩=some (putF b p 2):=hi.row.cell 2;have HC:=Jh (Qex b (b+3) F wr hi.dk (by show M+1+2+T.size≤_;omega) hBr hi.env.f hFs hi.blks.bd hi.blks.bf);have HX:=Jh (hi.dk.remove (a:=a) (by show M+1+2+T.size≤_;omega) hBr hi.env.f F hFs);have x0:wr.cell? ⟨b,0,none⟩=some (.pointer (some ⟨p,0,none⟩)):=hi.blks.bd.cell 0;have x3:wr.cell? ⟨b+3,0,none⟩=some (.string F):=hi.blks.bf.cell 0;have HI2:=Jh hi;have HBR:=Jh hBr;unfold putF at m0;simp at m0;clear hi hBr;rcases Nat.eq_zero_or_pos r.1 with hz | hz
     ·obtain rfl:=HI2.out.err.nil hz;have HZ:=Jh hz;clear hz;go_wp2_with fail
      refine HC.out.mono ?_;rintro e w3 ⟨v3,R3,rfl,hv3,hd3,ho3⟩
      have HI3:Hid (PutI B0 M p a R w b g P T F res 3 v3 R3 (syncD r.2 F.data.toList) w3):=Jh
       ⟨HI2.out.blks.out ho3,ho3.blk HI2.out.row HI2.out.rr,ho3.old _ HI2.out.row.lt HI2.out.rr,hv3,hd3.more (by show _≤M+1+3+T.size;show M+1+2+T.size+1≤_;omega),HI2.out.out.trans ho3,HI2.out.env.out ho3 HBR.out HI2.out.dk,by
        rw[←HI2.out.left]
        exact (Kjt (f:=(syncD · F.data.toList)) (l:=(Kex F.data.toList P.data.toList T.data.toList).drop 3) HZ.out).symm⟩
      clear hv3 hd3 ho3 m0 x0 x3;go_wp2_with fail
      go_roundg (gk - 1)
      case measure=>omega
      case rel=>exact ⟨3,R3,_,_,by omega,rfl,by go_num,HI3.out⟩
     ·obtain ⟨q,op,path,rfl,hq1,hq2⟩:=HI2.out.err.some_ (by omega);have HZ:=Jh hz;clear hz hq1 hq2;go_wp2_with fail
      refine HX.out.mono ?_;rintro e w3 ⟨v3,R3,rfl,hv3,hd3,ho3⟩;have HO3:=Jh ho3;have HD3:=Jh hd3;clear hv3 hd3 ho3 m0 x0 x3;go_wp2_with fail
      go_ret
      have hres:res=(r.1,(Kat r.2 F.data.toList).2):=by
       rw[←HI2.out.left];exact Khb (by have:=HZ.out;omega)
      rw[HRES.out,hres];exact ⟨_,R3,rfl,HI2.out.err.out HO3.out,HD3.out.more (by show M+1+2+T.size+1≤_;omega),HI2.out.out.trans HO3.out⟩
    ·
     have hBr:B0≤wr.heap.size:=Nat.le_trans HB0.out hi.out.size;have m0:wr.cell? ⟨g,3,none⟩=some (putF b p 3):=hi.row.cell 3;have HC:=Jh (Qey b (b+3) (b+1) F P wr hi.dk (by show M+1+3+T.size≤_;omega) hBr hi.env.f hFs (by omega) hi.blks.bd hi.blks.bf hi.blks.bp);have HX:=Jh (hi.dk.remove (a:=a) (by show M+1+3+T.size≤_;omega) hBr hi.env.f F hFs);have x0:wr.cell? ⟨b,0,none⟩=some (.pointer (some ⟨p,0,none⟩)):=hi.blks.bd.cell 0;have x3:wr.cell? ⟨b+3,0,none⟩=some (.string F):=hi.blks.bf.cell 0;have HI2:=Jh hi;have HBR:=Jh hBr;unfold putF at m0;simp at m0;clear hi hBr;rcases Nat.eq_zero_or_pos r.1 with hz | hz
     ·obtain rfl:=HI2.out.err.nil hz;have HZ:=Jh hz;clear hz;go_wp2_with fail
      refine HC.out.mono ?_;rintro e w3 ⟨v3,R3,rfl,hv3,hd3,ho3⟩
      have HI3:Hid (PutI B0 M p a R w b g P T F res 4 v3 R3 (Kal r.2 F.data.toList P.data.toList) w3):=Jh
       ⟨HI2.out.blks.out ho3,ho3.blk HI2.out.row HI2.out.rr,ho3.old _ HI2.out.row.lt HI2.out.rr,hv3,hd3.more (by show _≤M+1+4+T.size;show M+1+3+T.size+1≤_;omega),HI2.out.out.trans ho3,HI2.out.env.out ho3 HBR.out HI2.out.dk,by
        rw[←HI2.out.left]
        exact (Kjt (f:=(Kal · F.data.toList P.data.toList)) (l:=(Kex F.data.toList P.data.toList T.data.toList).drop 4) HZ.out).symm⟩
      clear hv3 hd3 ho3 m0 x0 x3;go_wp2_with fail
      go_roundg (gk - 1)
      case measure=>omega
      case rel=>exact ⟨4,R3,_,_,by omega,rfl,by go_num,HI3.out⟩
     ·obtain ⟨q,op,path,rfl,hq1,hq2⟩:=HI2.out.err.some_ (by omega);have HZ:=Jh hz;clear hz hq1 hq2;go_wp2_with fail
      refine HX.out.mono ?_;rintro e w3 ⟨v3,R3,rfl,hv3,hd3,ho3⟩;have HO3:=Jh ho3;have HD3:=Jh hd3;clear hv3 hd3 ho3 m0 x0 x3;go_wp2_with fail
      go_ret
      have hres:res=(r.1,(Kat r.2 F.data.toList).2):=by
       rw[←HI2.out.left];exact Khb (by have:=HZ.out;omega)
      rw[HRES.out,hres];exact ⟨_,R3,rfl,HI2.out.err.out HO3.out,HD3.out.more (by show M+1+3+T.size+1≤_;omega),HI2.out.out.trans HO3.out⟩
    ·
     have hBr:B0≤wr.heap.size:=Nat.le_trans HB0.out hi.out.size;have m0:wr.cell? ⟨g,4,none⟩=some (putF b p 4):=hi.row.cell 4;have HC:=Jh (hi.dk.syncNames (by show M+1+4+T.size≤_;omega) hBr hi.env.f);have HX:=Jh (hi.dk.remove (a:=a) (by show M+1+4+T.size≤_;omega) hBr hi.env.f F hFs);have x0:wr.cell? ⟨b,0,none⟩=some (.pointer (some ⟨p,0,none⟩)):=hi.blks.bd.cell 0;have x3:wr.cell? ⟨b+3,0,none⟩=some (.string F):=hi.blks.bf.cell 0;have HI2:=Jh hi;have HBR:=Jh hBr;unfold putF at m0;simp at m0;clear hi hBr;rcases Nat.eq_zero_or_pos r.1 with hz | hz
     ·obtain rfl:=HI2.out.err.nil hz;have HZ:=Jh hz;clear hz;go_wp2_with fail
      refine HC.out.mono ?_;rintro e w3 ⟨v3,R3,rfl,hv3,hd3,ho3⟩
      have HI3:Hid (PutI B0 M p a R w b g P T F res 5 v3 R3 (Kay r.2) w3):=Jh
       ⟨HI2.out.blks.out ho3,ho3.blk HI2.out.row HI2.out.rr,ho3.old _ HI2.out.row.lt HI2.out.rr,hv3,hd3.more (by show _≤M+1+5+T.size;show M+1+4+T.size+1≤_;omega),HI2.out.out.trans ho3,HI2.out.env.out ho3 HBR.out HI2.out.dk,by
        rw[←HI2.out.left]
        exact (Kjt (f:=Kay) (l:=(Kex F.data.toList P.data.toList T.data.toList).drop 5) HZ.out).symm⟩
      clear hv3 hd3 ho3 m0 x0 x3;go_wp2_with fail
      go_roundg (gk - 1)
      case measure=>omega
      case rel=>exact ⟨5,R3,_,_,by omega,rfl,by go_num,HI3.out⟩
     ·obtain ⟨q,op,path,rfl,hq1,hq2⟩:=HI2.out.err.some_ (by omega);have HZ:=Jh hz;clear hz hq1 hq2;go_wp2_with fail
      refine HX.out.mono ?_;rintro e w3 ⟨v3,R3,rfl,hv3,hd3,ho3⟩;have HO3:=Jh ho3;have HD3:=Jh hd3;clear hv3 hd3 ho3 m0 x0 x3;go_wp2_with fail
      go_ret
      have hres:res=(r.1,(Kat r.2 F.data.toList).2):=by
       rw[←HI2.out.left];exact Khb (by have:=HZ.out;omega)
      rw[HRES.out,hres];exact ⟨_,R3,rfl,HI2.out.err.out HO3.out,HD3.out.more (by show M+1+4+T.size+1≤_;omega),HI2.out.out.trans HO3.out⟩
   ·have el:decide ((i:Int) < 5)=false:=by simp;omega
    obtain rfl:i=5:=by omega
    have HI2:=Jh hi;clear hi;go_wp2_with fail
    go_ret
    have hres:res=r:=by
     rw[←HI2.out.left];rfl
    rw[HRES.out,hres];exact ⟨_,R',rfl,HI2.out.err,HI2.out.dk.more (by show M+1+5+T.size≤_;omega),HI2.out.out⟩
end
structure QEnv (B0:Nat) (a:Nat→Addr) (w:World):Prop where
 e:Env5 B0 a w
 nib:Kdu w
 db:DbTab w
 hb:B0≤w.heap.size
structure QCon (B0:Nat) (a:Nat→Addr):Prop where
 ap:Apart a
 nib:7 < B0
 db:9 < B0
section
variable {B0 M p : Nat} {a : Nat → Addr} {R R' : Nat → Nat} {d : Ds} {w w' : World}
theorem QEnv.below (h:QEnv B0 a w) (hc:QCon B0 a) (hb:Below B0 w w'):QEnv B0 a w':=
 ⟨h.e.below hb,h.nib.below hc.nib hb,fun j hj=>(hb.cell (p:=⟨_,j,none⟩) hc.db).trans (h.db j hj),Nat.le_trans h.hb hb.size⟩
theorem QEnv.low (h:QEnv B0 a w) (hc:QCon B0 a) (hb:Below w.heap.size w w'):QEnv B0 a w':=h.below hc (hb.mono h.hb)
theorem QEnv.out (h:QEnv B0 a w) (hc:QCon B0 a) (hD:Dk B0 M w R p d) (ho:Out R R' w w'):QEnv B0 a w':=h.below hc (ho.below h.hb hD.low)
theorem Kot (L:List KSer):(encK L).length=(bodyK L).length+4:=by
 unfold encK sealT;rw[List.length_append];rfl
theorem Kdz (L:List KSer) (A:Option Addr) (n c:Nat) (P:ByteArray) (w:World) (hS:KSers w A n L) (hz:∀s∈L,KSz s) (hn:n≤1048576) (hf:fitK L=true) (hsz:(encK L).length≤268435456) (hD:Dk B0 M w R p d) (hM:M+(encK L).length+8≤536870912) (hC:QCon B0 a) (hE:QEnv B0 a w) (hP:P.size≤1000000000) :
  Calls Tryz.prog 17 #[.pointer (some ⟨p,0,none⟩),.string P,.slice A n c] w (DkOut a B0 (M+(encK L).length+7) R p (putD d P.data.toList (encK L)) w):=by
 have hen:=Khg L A n c w hS hz (by omega) hE.db hE.nib (fun _=>by have:=Kot L;omega);unfold kencF at hen;rw[if_pos hf] at hen;dsimp only at hen;obtain ⟨E1,hE1⟩:∃E:ByteArray,(⟨(encK L).toArray⟩:ByteArray)=E:=⟨_,rfl⟩;rw[hE1] at hen;have hEd:E1.data.toList=encK L:=by rw[←hE1]
 have hEs:E1.size=(encK L).length:=by rw[←hEd];rfl
 have HEN:=Jh hen;have HED:=Jh hEd
 have HP:Hid (∀w1,Below w.heap.size w w1→Calls Tryz.prog 20 #[.pointer (some ⟨p,0,none⟩),.string P,.string E1] w1 (DkOut a B0 (M+(encK L).length+7) R p (putD d P.data.toList (encK L)) w1)):=Jh (fun w1 hb=>by
  have:=Kvh P E1 w1 (hD.below hb) (by rw[hEs];exact hM) (hE.low hC hb).hb (hE.low hC hb).e hC.ap hP;rw[hEd,hEs] at this
  exact this)
 clear hen hE1 hEd hEs hS hz hD hM hC hE hsz;go_enter Tryz.func17,Tryz.ntmps17
 go_wp2_with fail
 refine HEN.out.mono ?_;rintro _ w1 ⟨rfl,hb1⟩;have HB1:=Jh hb1;clear hb1;go_wp2_with fail
 refine (HP.out w1 HB1.out).mono ?_;rintro e w2 ⟨v,R2,rfl,hv,hd,ho⟩;have HV:=Jh hv;have HD:=Jh hd;have HO:=Jh ho;clear hv hd ho;go_wp2_with fail
 go_ret
 exact ⟨v,R2,rfl,HV.out,HD.out,(Out.of_below HB1.out).trans HO.out⟩
def Qok (P:ByteArray) (R':Nat→Nat) (w':World) (r:Except Nat (List KSer)) (e:Ending):Prop:=match r with
 | .ok L=>∃A c,e = .returned (.tuple #[.slice A L.length c,.nilIface])∧KSers w' A L.length L∧(∀s∈L,KSz s)∧L.length≤268435456
 | .error f=>∃q,e = .returned (.tuple #[.slice none 0 0,.iface 45 (.pointer (some ⟨q,0,none⟩))])∧Blk w' q 48 #[.string P,.int .i64 ((f:Nat):Int)]
theorem Kdq (P:ByteArray) (S:Txt) (w:World) (hall:allD d P.data.toList=(S,0)) (hS:S.length≤268435456) (hD:Dk B0 M w R p d) (hM:M≤536870912) (hC:QCon B0 a) (hE:QEnv B0 a w) (hP:P.size≤1000000000) :
  Calls Tryz.prog 19 #[.pointer (some ⟨p,0,none⟩),.string P] w fun e w'=>∃R',Qok P R' w' (decK S) e∧Dk B0 M w' R' p d∧Out R R' w w':=by
 have hal:=hD.all (a:=a) hM hE.hb hE.e.f P (by omega);rw[hall] at hal;obtain ⟨T,hT⟩:∃T:ByteArray,(⟨S.toArray⟩:ByteArray)=T:=⟨_,rfl⟩;unfold txtV at hal;rw[hT] at hal;have hTd:T.data.toList=S:=by rw[←hT]
 have hTs:T.size≤268435456:=by
  have h1:T.data.toList.length=T.size:=rfl;rw[hTd] at h1;omega
 have HAL:=Jh hal;have HTD:=Jh hTd;have HC:=Jh hC;have HE:=Jh hE;have HD0:=Jh hD
 have hce:∀c:Nat,decK S = .error c→((c:Int) != 0)=true:=fun c h=>by
  have:=Kpv h;simp;omega
 have HCE:=Jh hce;clear hal hT hTd hC hE hall hce hD;go_enter Tryz.func19,Tryz.ntmps19
 go_wp2_with fail
 refine HAL.out.mono ?_;rintro e w1 ⟨u,v,R1,rfl,rfl,hv1,hd1,ho1⟩;obtain rfl:v = .nilIface:=hv1.nil rfl;have HE1:=Jh (HE.out.out HC.out HD0.out ho1);have HO1:=Jh ho1;have HD1:=Jh hd1;have hde:=Klj T w1 hTs HE1.out.nib HE1.out.db;rw[HTD.out] at hde;obtain ⟨r,hr⟩:∃r,decK S=r:=⟨_,rfl⟩;rw[hr] at hde;have HDE:=Jh hde;have HR:=Jh hr;clear hv1 hd1 ho1 hde hr;go_wp2_with fail
 refine HDE.out.mono ?_;rintro e w2 ⟨h2,hb2⟩;have HB2:=Jh hb2;clear hb2
 cases r with
 | ok L=>
  obtain ⟨A,c,rfl,h3,h4,h5⟩:=h2;have H3:=Jh h3;have H4:=Jh h4;clear h3 h4;obtain ⟨ln,hln⟩:∃x,L.length=x:=⟨_,rfl⟩;have HLN:=Jh hln;have H5:=Jh h5;rw[hln];clear hln h5;go_wp2_with fail
  go_ret2
  exact ⟨R1,by rw[HR.out];exact ⟨A,c,by rw[HLN.out];rfl,H3.out,H4.out,H5.out⟩,HD1.out.below HB2.out,HO1.out.trans (Out.of_below HB2.out)⟩
 | error f=>
  obtain rfl:=h2;have hne:=HCE.out f HR.out;go_upto_region 6 with fail
  have hb3:Below w2.heap.size w2 (w2.alloc (.cells #[.string P,.int .i64 (f:Int)] 48)):=(Below.refl _ _).alloc (Nat.le_refl _) _;have hk3:Blk (w2.alloc (.cells #[.string P,.int .i64 (f:Int)] 48)) w2.heap.size 48 #[.string P,.int .i64 (f:Int)]:=Blk.new _ _ _;have HB3:=Jh (HB2.out.trans (hb3.mono HB2.out.size));have HK3:=Jh hk3;clear hb3 hk3;go_wp2_with fail
  go_ret2
  exact ⟨R1,by rw[HR.out];exact ⟨_,rfl,HK3.out⟩,HD1.out.below HB3.out,HO1.out.trans (Out.of_below HB3.out)⟩
end
theorem Khf (La Lb:List KSer) (A B:Option Addr) (n m ca cb:Nat) (w:World) (hA:KSers w A n La) (hB:KSers w B m Lb) (hn:n≤1073741824) (hm:m≤1073741824)
  (hza:∀s∈La,KSz s) (hzb:∀s∈Lb,KSz s) :
  Calls Tryz.prog 14 #[.slice A n ca,.slice B m cb] w fun e w'=>e = .returned (.bool (decide (La=Lb)))∧Below w.heap.size w w':=by
 have HA:=Jh (Kqd La A n ca w hA hza hn);have HB0:=Jh hB;have HB:=Jh (fun w1 (h:KSers w1 B m Lb)=>Kqd Lb B m cb w1 h hzb hm);have HL:=Jh (fun A' B' (c' d':Nat) w2 (h1:KSers w2 A' n La) (h2:KSers w2 B' m Lb)=>Kvl La Lb A' B' n m c' d' w2 h1 h2 (by omega) (by omega) hza hzb);clear hA hB hn hm hza hzb;go_enter Tryz.func14,Tryz.ntmps14
 go_wp2_with fail
 refine HA.out.mono ?_;rintro _ w1 ⟨⟨A',c',rfl,ha⟩,hb1⟩;have HA1:=Jh ha;have HB1:=Jh hb1;clear ha hb1;go_wp2_with fail
 refine (HB.out w1 (HB0.out.below HB1.out)).mono ?_;rintro _ w2 ⟨⟨B',d',rfl,hb⟩,hb2⟩;have HA2:=Jh (HA1.out.below hb2);have HB2:=Jh (HB1.out.trans (hb2.mono HB1.out.size));have HBB:=Jh hb;clear hb hb2;go_wp2_with fail
 refine (HL.out A' B' c' d' w2 HA2.out HBB.out).mono ?_;rintro _ w3 ⟨rfl,hb3⟩;have HB3:=Jh (HB2.out.trans (hb3.mono HB2.out.size));clear hb3;go_wp2_with fail
 go_ret
 exact ⟨rfl,HB3.out⟩
def wakeS:KSer:=⟨[⟨[97],[120]⟩],9,[],[],[],[⟨3,4⟩,⟨9,5⟩]⟩
theorem Kld:fitK [wakeS]=true:=by decide
theorem Kir:(encK [wakeS]).length≤1000:=by
 have h1:=Koq Kld;have h2:labsK [wakeS]=1:=rfl;have h3:massK [wakeS]=2:=rfl
 have h4:(encK [wakeS]).length=(bodyK [wakeS]).length+4:=by
  unfold encK sealT;rw[List.length_append];rfl
 simp only[List.length_singleton] at h1;omega
theorem Qog:KSz wakeS:=⟨by decide,by decide,by decide,by decide,⟨fun x hx=>(nomatch hx),fun x hx=>(nomatch hx),fun x hx=>(nomatch hx)⟩,by decide,by decide⟩
theorem Kzr:∀s∈[wakeS],KSz s:=fun s hs=>by
 rw[List.mem_singleton] at hs;rw[hs];exact Qog
theorem Qmp:decK (encK [wakeS]) = .ok [wakeS]:=Ksb Kld (Kxu Kld Kzr (by decide))
theorem Qoh {w:World} {q:Nat} (h0:Blk w q 106 #[.string ⟨#[97]⟩,.string ⟨#[120]⟩]) (h1:Blk w (q+1) 93 #[.int .i64 3,.int .u64 4,.int .i64 9,.int .u64 5]) :
  KAt w ⟨⟨some ⟨q,0,none⟩,1,1⟩,⟨none,0,0⟩,⟨none,0,0⟩,⟨none,0,0⟩,⟨some ⟨q+1,0,none⟩,2,2⟩⟩ wakeS:=by
 refine ⟨⟨rfl,fun _=>⟨q,0,rfl,h0.lt,fun i x hx j v hv=>?_⟩⟩,Nat.le_refl _,Elems.nil_,Elems.nil_,Elems.nil_,⟨rfl,fun _=>⟨q+1,0,rfl,h1.lt,fun i x hx j v hv=>?_⟩⟩,Nat.le_refl _⟩
 ·match i,hx with
  | 0,hx=>
   injection hx with hx;subst hx
   match j,hv with
   | 0,hv=>injection hv with hv;subst hv;exact h0.cell 0
   | 1,hv=>injection hv with hv;subst hv;exact h0.cell 1
 ·match i,hx with
  | 0,hx=>
   injection hx with hx;subst hx
   match j,hv with
   | 0,hv=>injection hv with hv;subst hv;exact h1.cell 0
   | 1,hv=>injection hv with hv;subst hv;exact h1.cell 1
  | 1,hx=>
   injection hx with hx;subst hx
   match j,hv with
   | 0,hv=>injection hv with hv;subst hv;exact h1.cell 2
   | 1,hv=>injection hv with hv;subst hv;exact h1.cell 3
theorem Qov {w:World} {q:Nat} {h:KHd} {s:KSer} (hk:KAt w h s) (hq:Blk w q 85 (encKY ⟨h,s.max⟩).toArray):KSers w (some ⟨q,0,none⟩) 1 [s]:=by
 refine ⟨[⟨h,s.max⟩],⟨rfl,fun _=>⟨q,0,rfl,hq.lt,fun i x hx j v hv=>?_⟩⟩,rfl,fun i hi=>?_⟩
 ·match i,hx with
  | 0,hx=>
   injection hx with hx;subst hx
   match j,hv with
   | 0,hv=>injection hv with hv;subst hv;exact hq.cell 0
   | 1,hv=>injection hv with hv;subst hv;exact hq.cell 1
   | 2,hv=>injection hv with hv;subst hv;exact hq.cell 2
   | 3,hv=>injection hv with hv;subst hv;exact hq.cell 3
   | 4,hv=>injection hv with hv;subst hv;exact hq.cell 4
   | 5,hv=>injection hv with hv;subst hv;exact hq.cell 5
 ·obtain rfl:i=0:=by omega
  exact ⟨rfl,hk⟩
theorem Kvp (w:World):Calls Tryz.prog 40 #[] w fun e w'=>(∃h:KHd,e = .returned (kserV h 9)∧KAt w' h wakeS)∧Below w.heap.size w w':=by
 go_enter Tryz.func40,Tryz.ntmps40
 go_upto_region 1 with fail
 go_wp2_with fail
 obtain ⟨q,hq⟩:∃q,w.heap.size=q:=⟨_,rfl⟩;have hb1:Below w.heap.size w (((w.alloc (.cells #[.slice (some ⟨w.heap.size+1,0,none⟩) 1 1,.int .i64 9,.slice none 0 0,.slice none 0 0,.slice none 0 0,.slice (some ⟨w.heap.size+1+1,0,none⟩) 2 2] 85)).alloc (.cells #[.string ⟨#[97]⟩,.string ⟨#[120]⟩] 106)).alloc (.cells #[.int .i64 3,.int .u64 4,.int .i64 9,.int .u64 5] 93)):=((((Below.refl _ _).alloc (Nat.le_refl _) _).alloc (by simp) _).alloc (by simp;omega) _);have k0:Blk (((w.alloc (.cells #[.slice (some ⟨w.heap.size+1,0,none⟩) 1 1,.int .i64 9,.slice none 0 0,.slice none 0 0,.slice none 0 0,.slice (some ⟨w.heap.size+1+1,0,none⟩) 2 2] 85)).alloc (.cells #[.string ⟨#[97]⟩,.string ⟨#[120]⟩] 106)).alloc (.cells #[.int .i64 3,.int .u64 4,.int .i64 9,.int .u64 5] 93)) w.heap.size 85 #[.slice (some ⟨w.heap.size+1,0,none⟩) 1 1,.int .i64 9,.slice none 0 0,.slice none 0 0,.slice none 0 0,.slice (some ⟨w.heap.size+1+1,0,none⟩) 2 2]:=((Blk.new _ _ _).alloc _).alloc _;have k1:Blk (((w.alloc (.cells #[.slice (some ⟨w.heap.size+1,0,none⟩) 1 1,.int .i64 9,.slice none 0 0,.slice none 0 0,.slice none 0 0,.slice (some ⟨w.heap.size+1+1,0,none⟩) 2 2] 85)).alloc (.cells #[.string ⟨#[97]⟩,.string ⟨#[120]⟩] 106)).alloc (.cells #[.int .i64 3,.int .u64 4,.int .i64 9,.int .u64 5] 93)) (w.heap.size+1) 106 #[.string ⟨#[97]⟩,.string ⟨#[120]⟩]:=(Blk.newAt (by simp)).alloc _;have k2:Blk (((w.alloc (.cells #[.slice (some ⟨w.heap.size+1,0,none⟩) 1 1,.int .i64 9,.slice none 0 0,.slice none 0 0,.slice none 0 0,.slice (some ⟨w.heap.size+1+1,0,none⟩) 2 2] 85)).alloc (.cells #[.string ⟨#[97]⟩,.string ⟨#[120]⟩] 106)).alloc (.cells #[.int .i64 3,.int .u64 4,.int .i64 9,.int .u64 5] 93)) (w.heap.size+1+1) 93 #[.int .i64 3,.int .u64 4,.int .i64 9,.int .u64 5]:=Blk.newAt (by simp);obtain ⟨w1,hw1⟩:∃x,(((w.alloc (.cells #[.slice (some ⟨w.heap.size+1,0,none⟩) 1 1,.int .i64 9,.slice none 0 0,.slice none 0 0,.slice none 0 0,.slice (some ⟨w.heap.size+1+1,0,none⟩) 2 2] 85)).alloc (.cells #[.string ⟨#[97]⟩,.string ⟨#[120]⟩] 106)).alloc (.cells #[.int .i64 3,.int .u64 4,.int .i64 9,.int .u64 5] 93))=x:=⟨_,rfl⟩;rw[hw1] at hb1 k0 k1 k2 ⊢;rw[hq] at k0 k1 k2 ⊢;refine bodyPost_ret (Keq rfl _ _ ⟨q,0,none⟩ (kserV ⟨⟨some ⟨q+1,0,none⟩,1,1⟩,⟨none,0,0⟩,⟨none,0,0⟩,⟨none,0,0⟩,⟨some ⟨q+1+1,0,none⟩,2,2⟩⟩ 9) rfl (run_loadVar_row _ q 85 85 _ (0,0) _ k0 Tryz.underlying85 rfl (by kernel_rfl))) rfl ?_;exact ⟨⟨_,rfl,Qoh k1 k2⟩,hq▸hb1⟩
def sC:Txt:=[99]
theorem Kcn:nameB sC=true:=by decide
theorem Kjv:nameB (sC++Kby)=true:=by decide
theorem Qlf:newD 100000=roomD 100000:=rfl
theorem Qjx {w:World} {A:Option Addr} (h:KSers w A 1 [wakeS]):∃b off sb so sc,A=some ⟨b,off,none⟩∧b < w.heap.size∧sb < w.heap.size∧w.cell? ⟨b,off+5,none⟩=some (.slice (some ⟨sb,so,none⟩) 2 sc)∧w.cell? ⟨sb,so+3,none⟩=some (.int .u64 5):=by
 obtain ⟨b,off,hd,e,hb,_,_,_,_,_,h5,hk⟩:=h.at_ (i:=0) (by decide);obtain ⟨sb,so,e2,hsb,hc⟩:=hk.s.get (i:=1) (by rw[←hk.s.1];decide);have hn:hd.s.n=2:=hk.s.1.symm;refine ⟨b,off,sb,so,hd.s.c,e,hb,hsb,?_,hc 1 (.int .u64 5) rfl⟩;rw[e2,hn] at h5;exact h5
section
variable {B0 : Nat} {a : Nat → Addr}
theorem Kwa (w:World) (hC:QCon B0 a) (hE:QEnv B0 a w):Calls Tryz.prog 10 #[] w fun e w'=>e = .returned (.bool true)∧Below w.heap.size w w':=by
 have HC:=Jh hC;have HE0:=Jh hE;have HN:=Jh (Dk.made 100000 (by decide) (by decide) w hE.hb);clear hC hE;go_enter Tryz.func10,Tryz.ntmps10
 go_wp2_with fail
 refine HN.out.mono ?_;rintro e w1 ⟨p,R,rfl,hd1,hb1,hz1⟩;rw[Qlf] at hd1;have HZ:=Jh hz1;have HB1:=Jh hb1;have HE1:=Jh (HE0.out.low HC.out hb1);have HD1:=Jh hd1;clear hd1 hb1 hz1;go_wp2_with fail
 refine (Kvp w1).mono ?_;rintro _ w2 ⟨⟨h,rfl,hk⟩,hb2⟩;have HK:=Jh hk;have HB2:=Jh hb2;clear hk hb2;unfold kserV;obtain ⟨S,hS⟩:∃S:ByteArray,(⟨#[99]⟩:ByteArray)=S:=⟨_,rfl⟩;have hSd:S.data.toList=sC:=by rw[←hS];rfl
 have hSz:S.size=1:=by rw[←hS];rfl
 have HS:=Jh hSd;have HSz:=Jh hSz;have hk3:KSers (w2.alloc (.cells (encKY ⟨h,wakeS.max⟩).toArray 85)) (some ⟨w2.heap.size,0,none⟩) 1 [wakeS]:=Qov (HK.out.below ((Below.refl _ _).alloc (Nat.le_refl _) _)) (Blk.new _ _ _);have hb3:Below w2.heap.size w2 (w2.alloc (.cells (encKY ⟨h,wakeS.max⟩).toArray 85)):=(Below.refl _ _).alloc (Nat.le_refl _) _;obtain ⟨w3,hw3⟩:∃x,w2.alloc (.cells (encKY ⟨h,wakeS.max⟩).toArray 85)=x:=⟨_,rfl⟩;obtain ⟨q,hq⟩:∃x,w2.heap.size=x:=⟨_,rfl⟩;rw[hw3] at hk3 hb3;have HO3:Hid (Out R R w1 w3):=Jh (Out.of_below (HB2.out.trans (hb3.mono HB2.out.size)));have hd3:=HD1.out.below (HB2.out.trans (hb3.mono HB2.out.size));have he3:=HE1.out.low HC.out (HB2.out.trans (hb3.mono HB2.out.size));have hsv:=Kdz [wakeS] (some ⟨q,0,none⟩) 1 1 S w3 (by rw[←hq];exact hk3) Kzr (by decide) Kld (by have:=Kir;omega) hd3 (by have:=Kir;omega) HC.out he3 (by rw[hSz];decide);rw[hSd,Qcr 100000 sC (encK [wakeS]) Kcn Kjv (by have:=Kir;omega)] at hsv;have HSV:=Jh hsv;have HD3:=Jh hd3;have HE3:=Jh he3;have hwx:w2.alloc (.cells #[.slice h.l.A h.l.n h.l.c,.int .i64 9,.slice h.g0.A h.g0.n h.g0.c,.slice h.g1.A h.g1.n h.g1.c,.slice h.g2.A h.g2.n h.g2.c,.slice h.s.A h.s.n h.s.c] 85)=w3:=hw3;clear hk3 hb3 hd3 he3 hsv hw3 hSd hSz;go_upto_region 2 with fail
 go_wp2_with fail
 refine HSV.out.mono ?_;rintro e w4 ⟨v4,R4,rfl,hv4,hd4,ho4⟩;obtain rfl:v4 = .nilIface:=hv4;have HD4:=Jh hd4;have HE4:=Jh (HE3.out.out HC.out HD3.out ho4);have HO4:=Jh (HO3.out.trans ho4);have hld:=Kdq S (encK [wakeS]) w4 (by rw[HS.out];exact Qlp 100000 sC _ Kcn) (by have:=Kir;omega) HD4.out (by have:=Kir;omega) HC.out HE4.out (by rw[HSz.out];decide);rw[Qmp] at hld;have HLD:=Jh hld;clear hd4 ho4 hld hwx;go_wp2_with fail
 refine HLD.out.mono ?_;rintro e w5 ⟨R5,⟨A,c,rfl,h5,_,_⟩,hd5,ho5⟩;have hn1:[wakeS].length=1:=rfl;rw[hn1] at h5 ⊢;have HE5:=Jh (HE4.out.out HC.out HD4.out ho5);have HO5:=Jh (HO4.out.trans ho5);have HB5:=Jh (HB1.out.trans (HO5.out.below HB1.out.size HZ.out));have H5:=Jh h5;have hde:=Klj ⟨#[]⟩ w5 (by decide) HE5.out.nib HE5.out.db;have hdn:decK (⟨#[]⟩:ByteArray).data.toList = .error 20:=rfl;rw[hdn] at hde;have HDE:=Jh hde;clear hd5 ho5 h5 hde hdn hn1 hS;go_wp2_with fail
 refine HDE.out.mono ?_;rintro e w6 ⟨h6,hb6⟩;obtain rfl:=h6;have HB6:=Jh (HB5.out.trans (hb6.mono HB5.out.size));obtain ⟨b,off,sb,so,sc,rfl,hbz,hsz,x5,x3⟩:=Qjx (H5.out.below hb6);have x3':w6.cell? ⟨sb,so+2+1,none⟩=some (.int .u64 5):=x3;clear hb6;go_wp2_with fail
 go_ret
 exact ⟨rfl,HB6.out⟩
end
end
section
open Go.RowKit Go.Shelf Go.Sort
attribute [local go_sem ↓] Go.wp_at_zero Go.wp_at_succ
attribute [local go_sem] Later.cell
structure LSzK (L:List KSer):Prop where
 n:L.length≤1048576
 k:labsK L≤349525
 m:massK L≤1048576
 z:∀s∈L,KSz s
theorem LSzK.bits {L:List KSer} (h:LSzK L) (hf:fitK L=true):KBits L:=Kxu hf h.z (by have:=h.n;omega)
theorem LSzK.len {L:List KSer} (h:LSzK L) (hf:fitK L=true):(encK L).length≤200000000:=by
 have h1:=Koq hf;have h2:=Kot L;have:=h.n;have:=h.k;have:=h.m;omega
section
variable {B0 : Nat} {a : Nat → Addr}
theorem Qci (L:List KSer) (A:Option Addr) (n c:Nat) (w:World) (hS:KSers w A n L) (hL:LSzK L) (hE:QEnv B0 a w) :
  Calls Tryz.prog 9 #[.slice A n c] w fun e w'=>(∃S:ByteArray,e = .returned (.tuple #[.string S,.int .i64 (if fitK L=true then 0 else 150)])∧S.data.toList=(if fitK L=true then encK L else [])∧S.size≤200000000)∧Below w.heap.size w w':=by
 have hn:n≤1048576:=by rw[←hS.len];exact hL.n
 refine (Khg L A n c w hS hL.z (by omega) hE.db hE.nib (fun hf=>by have:=hL.len hf;have:=Kot L;omega)).mono ?_;rintro e w' ⟨rfl,hb⟩
 by_cases hf:fitK L=true
 ·refine ⟨⟨⟨(encK L).toArray⟩,?_,?_,hL.len hf⟩,hb⟩
  ·unfold kencF;rw[if_pos hf,if_pos hf];rfl
  ·rw[if_pos hf]
 ·refine ⟨⟨⟨#[]⟩,?_,?_,Nat.zero_le _⟩,hb⟩
  ·unfold kencF;rw[if_neg hf,if_neg hf];rfl
  ·rw[if_neg hf]
end
def i64K (v:Int):Prop:=-9223372036854775808≤v∧v≤9223372036854775807
end
section
open Go.ChangeShapes Go.WideShapes Go.ChangeAt Go.RowKit
theorem Tryz.own:ownKnob Tryz.prog.godebug=none:=by kernel_rfl
theorem Tryz.laidOut:laidOutB Tryz.prog=true:=by kernel_rfl
end
section
open Go.ChangeShapes Go.WideShapes Go.ChangeAt Go.RowKit Go.Deep
section
variable {H : Type} {enc : TypeId × Value → H} {P : Program} {w : World} {base : Nat} {spare : Nat → Bool} {held : Bool}
theorem Kgy {α : Type} [Inhabited α] {t e:TypeId} {sz:Nat} {ea:α→List Value} {Q:DataW H→α→Prop} (ht:P.underlying t=some (.slice e)) (hc:P.cellsOf e=sz) (h0:0 < sz) (hz:∀y,(ea y).length=sz)
  (ho:∀(fuel:Nat) (l:List Value) (x:DataW H×List MemPlace),DataW.trod enc P w base spare held fuel e l=some x→∃y,l=ea y∧Q x.1 y)
  {fuel:Nat} {v:Value} {x:DataW H×List MemPlace} (h:DataW.trod enc P w base spare held fuel t [v]=some x) :
  ∃A n c ys,v = .slice A n c∧(A=none→c=0)∧n≤c∧Elems w w.heap.size sz ea A n ys∧∃ds sp,(x.1 = .slice ds sp∨(x.1 = .nil∧ds = []))∧ds.length=ys.length∧∀(i:Nat) d y,ds[i]? = some d→ys[i]? = some y→Q d y:=by
 rcases open_slice ht h with ⟨hcs,hx⟩ | ⟨a,len,cap,m,n,D,Pl,hcs,_,hl,_,hmm,hx,hi⟩
 ·simp at hcs;subst hcs;exact ⟨none,0,0,[],rfl,fun _=>rfl,Nat.le_refl _,Elems.nil_,[],[],.inr ⟨by rw[hx],rfl⟩,rfl,fun i d y hd=>by simp at hd⟩
 ·simp at hcs;subst hcs;rw[hc] at hi;have hlm:len≤m:=by rw[hmm];split <;> omega
  obtain ⟨f,hf⟩:=choose_lt (α:=α) (n:=len) (p:=fun i y=>(∀j u,(ea y)[j]? = some u→w.cell? (a.add (i*sz+j))=some u)∧Q (D i) y) (by
   intro i hlt;obtain ⟨cs',hc',ht'⟩:=hi i (by omega);obtain ⟨y,rfl,hq⟩:=ho _ _ _ ht';obtain ⟨_,hcl,hat⟩:=World.cells?_some hc';refine ⟨y,fun j u hu=>?_,hq⟩;have hj:j < sz:=by have:=(List.getElem?_eq_some_iff.1 hu).1;rw[hz] at this;exact this
   have:=hat j hj;rw[Go.Deep.add_add] at this
   rw[this,hu])
  refine ⟨some a,len,cap,(List.range len).map f,rfl,(fun h=>by cases h),hl,⟨by simp,fun h0'=>?_⟩,(List.range len).map D,_,.inl (by rw[hx]),by simp,fun i d y hd hy=>?_⟩
  ·obtain ⟨b,off,spot⟩:=a;have hp:0 < (ea (f 0)).length:=by rw[hz];exact h0
   have h00:=(hf 0 h0').1 0 _ (List.getElem?_eq_getElem hp);have hspot:spot=none:=by simpa[Addr.add] using World.cell?_spot h00
   subst hspot;refine ⟨b,off,rfl,by simpa[Addr.add] using Kaf h00,fun i x hx j u hu=>?_⟩;have hil:i < len:=by have:=(List.getElem?_eq_some_iff.1 hx).1;simpa using this
   have hxe:f i=x:=by simpa[hil] using hx
   subst hxe;have:=(hf i hil).1 j u hu;rw[add_plain] at this;rw[←this,Nat.add_assoc]
  ·have hil:i < len:=by have:=(List.getElem?_eq_some_iff.1 hd).1;simpa using this
   have h1:D i=d:=by simpa[hil] using hd
   have h2:f i=y:=by simpa[hil] using hy
   rw[←h1,←h2];exact (hf i hil).2
end
theorem Kkc {H:Type} (d:DataW H):1≤Rows.uptoBulk d:=by
 cases d with
 | lit l=>cases l <;> simp[Rows.uptoBulk]
 | nil=>simp[Rows.uptoBulk]
 | ptr d=>simp[Rows.uptoBulk]
 | slice elems spare=>simp[Rows.uptoBulk]
 | agg parts=>simp[Rows.uptoBulk]
 | iface t d=>simp[Rows.uptoBulk]
 | map entries=>simp[Rows.uptoBulk]
 | held h=>simp[Rows.uptoBulk]
theorem Qdi {H:Type} (l sp:List (DataW H)):Rows.uptoBulkAll l+1≤Rows.uptoBulk (.slice l sp):=by simp only[Rows.uptoBulk];omega
theorem Qkh {H:Type} {l:List (DataW H)} (hk:Rows.uptoSmall H l=true):Rows.uptoBulkAll l≤1048576:=of_decide_eq_true hk
theorem Kwl {H α : Type} (mu:α→Nat):∀(ds:List (DataW H)) (ys:List α),ds.length=ys.length→(∀(i:Nat) d y,ds[i]? = some d→ys[i]? = some y→mu y≤Rows.uptoBulk d)→(ys.map mu).sum≤Rows.uptoBulkAll ds
 | [],[],_,_=>by simp
 | d :: ds,y :: ys,hl,h=>by
  have h1:=h 0 d y rfl rfl;have h2:=Kwl mu ds ys (by simpa using hl) (fun i d' y' hd hy=>h (i+1) d' y' (by simpa using hd) (by simpa using hy));simp only[List.map_cons,List.sum_cons,Rows.uptoBulkAll];omega
 | [],_ :: _,hl,_=>by simp at hl
 | _ :: _,[],hl,_=>by simp at hl
theorem Kif {H α : Type} (mu:α→Nat) {d:DataW H} {ds sp:List (DataW H)} {ys:List α} (hd:d = .slice ds sp∨(d = .nil∧ds = [])) (hl:ds.length=ys.length) (h:∀(i:Nat) d y,ds[i]? = some d→ys[i]? = some y→mu y≤Rows.uptoBulk d):(ys.map mu).sum+1≤Rows.uptoBulk d:=by
 have:=Kwl mu ds ys hl h;rcases hd with rfl | ⟨rfl,rfl⟩
 ·have:=Qdi ds sp;omega
 ·obtain rfl:ys = []:=List.eq_nil_of_length_eq_zero (by simpa using hl.symm);simp[Rows.uptoBulk]
section
variable {H : Type} {enc : TypeId × Value → H} {w : World} {base : Nat} {spare : Nat → Bool} {held : Bool}
theorem Kwo:Tryz.prog.cellsOf 9 = 1:=by kernel_rfl
def litT (s:Txt):DataW H:=.lit (.string s)
theorem Kyi {fuel:Nat} {l:List Value} {x:DataW H×List MemPlace} (h:DataW.trod enc Tryz.prog w base spare held fuel 9 l=some x):∃s:Txt,l = [txtV s]∧x.1=litT s:=by
 obtain ⟨s,rfl,rfl,_⟩:=DataW.trod_string Tryz.underlying9 h;exact ⟨s.data.toList,rfl,rfl⟩
end
section
variable {H : Type} {enc : TypeId × Value → H} {w : World} {base : Nat} {spare : Nat → Bool} {held : Bool}
theorem Ktb:Tryz.prog.cellsOf 106 = 2:=by kernel_rfl
theorem Qli {fuel:Nat} {l:List Value} {x:DataW H×List MemPlace} (h:DataW.trod enc Tryz.prog w base spare held fuel 106 l=some x):∃y:Lb,l=encLb y∧x.1 = .agg [litT y.n,litT y.v]:=by
 obtain ⟨xs,n,_,hx,hcl,hlen,hg⟩:=DataW.trod_struct Tryz.underlying106 h;rw[Ktb] at hcl
 match l,hcl,xs,hlen with
 | [c0,c1],_,[x0,x1],_=>
  have g0:=hg 0 _ rfl;have g1:=hg 1 _ rfl;simp[Kwo] at g0 g1;obtain ⟨a,e0,f0⟩:=Kyi g0;obtain ⟨b,e1,f1⟩:=Kyi g1;simp at e0 e1;subst e0 e1;refine ⟨⟨a,b⟩,rfl,?_⟩;rw[hx];simp[f0,f1]
end
section
variable {H : Type} {enc : TypeId × Value → H} {w : World} {base : Nat} {spare : Nat → Bool} {held : Bool}
def Lb.mass (x:Lb):Nat:=x.n.length+x.v.length+3
def massL (l:List Lb):Nat:=(l.map Lb.mass).sum+1
theorem Ktv:∀l:List Lb,2*l.length+1≤massL l
 | []=>by simp[massL]
 | x :: l=>by have:=Ktv l;simp only[massL,List.map_cons,List.sum_cons,List.length_cons,Lb.mass] at *;omega
theorem Qhz {l:List Lb} {x:Lb} (h:x∈l):x.n.length≤massL l∧x.v.length≤massL l:=by
 induction l with
 | nil=>cases h
 | cons y l ih=>
  simp only[massL,List.map_cons,List.sum_cons,Lb.mass] at *;rcases List.mem_cons.1 h with rfl | h
  ·omega
  ·have:=ih h;omega
theorem Qdl:Tryz.prog.cellsOf 80 = 1:=by kernel_rfl
theorem Kyh {fuel:Nat} {v:Value} {x:DataW H×List MemPlace} (h:DataW.trod enc Tryz.prog w base spare held fuel 80 [v]=some x) :
  ∃A n c l,v = .slice A n c∧n≤c∧Elems w w.heap.size 2 encLb A n l∧massL l≤Rows.uptoBulk x.1:=by
 obtain ⟨A,n,c,l,rfl,_,h2,h3,ds,sp,hx,hl,hQ⟩:=Kgy (ea:=encLb) (Q:=fun d s=>d = .agg [litT s.n,litT s.v]) Tryz.underlying80 Ktb (by omega) (fun _=>rfl) (fun _ _ _ h=>Qli h) h;refine ⟨A,n,c,l,rfl,h2,h3,Kif Lb.mass hx hl fun i d y hd hy=>?_⟩;rw[hQ i d y hd hy];simp[Rows.uptoBulk,Rows.uptoBulkAll,litT,Lb.mass];omega
theorem Qcz {α : Type} (f:α→Nat):∀{l:List α} {x:α},x∈l→f x≤(l.map f).sum
 | y :: l,x,h=>by
  simp only[List.map_cons,List.sum_cons];rcases List.mem_cons.1 h with rfl | h
  ·omega
  ·have:=Qcz f h;omega
end
theorem Kkd:Tryz.prog.cellsOf 2 = 1:=by kernel_rfl
theorem Qdp:Tryz.prog.cellsOf 79 = 1:=by kernel_rfl
theorem Kpn:Tryz.prog.cellsOf 3 = 1:=by kernel_rfl
theorem Ktc:Tryz.prog.cellsOf 93 = 2:=by kernel_rfl
theorem Kpp:Tryz.prog.cellsOf 109 = 2:=by kernel_rfl
theorem Qdm:Tryz.prog.cellsOf 83 = 1:=by kernel_rfl
theorem Qdn:Tryz.prog.cellsOf 81 = 1:=by kernel_rfl
theorem Qdk:Tryz.prog.cellsOf 82 = 3:=by kernel_rfl
theorem Kpo:Tryz.prog.cellsOf 85 = 6:=by kernel_rfl
theorem Kic {n:Int} (h:(Lit.int .i64 n).wf=true):-9223372036854775808≤n∧n≤9223372036854775807:=by
 have h1:IntKind.i64.min = -9223372036854775808:=rfl;have h2:IntKind.i64.max=9223372036854775807:=rfl;simp only[Lit.wf,Bool.and_eq_true,decide_eq_true_eq] at h;omega
theorem Qoz {z:Int} (h:(Lit.int .u64 z).wf=true):∃n:Nat,z=(n:Int)∧n < 2 ^ 64:=by
 have h1:IntKind.u64.min=0:=rfl;have h2:IntKind.u64.max=18446744073709551615:=rfl;simp only[Lit.wf,Bool.and_eq_true,decide_eq_true_eq] at h;exact ⟨z.toNat,by omega,by omega⟩
section
variable {H : Type} {enc : TypeId × Value → H} {w : World} {base : Nat} {spare : Nat → Bool} {held : Bool}
theorem Qlj {fuel:Nat} {l:List Value} {x:DataW H×List MemPlace} (h:DataW.trod enc Tryz.prog w base spare held fuel 93 l=some x):∃y:Smp,l=Kcb y∧(y.v < 2 ^ 64∧1≤Rows.uptoBulk x.1):=by
 obtain ⟨xs,n,_,hx,hcl,hlen,hg⟩:=DataW.trod_struct Tryz.underlying93 h;rw[Ktc] at hcl
 match l,hcl,xs,hlen with
 | [c0,c1],_,[x0,x1],_=>
  have g0:=hg 0 _ rfl;have g1:=hg 1 _ rfl;simp[Kkd,Qdp] at g0 g1;obtain ⟨a,e0,_,_⟩:=DataW.trod_int Tryz.underlying2 g0;obtain ⟨b,e1,_,wb⟩:=DataW.trod_int Tryz.underlying79 g1;simp at e0 e1;subst e0 e1;obtain ⟨v,rfl,hv⟩:=Qoz wb;exact ⟨⟨a,v⟩,rfl,hv,Kkc _⟩
theorem Kla {α : Type}:∀l:List α,(l.map fun _=>1).sum=l.length
 | []=>rfl
 | x :: l=>by rw[List.map_cons,List.sum_cons,Kla l,List.length_cons];omega
theorem Qil {fuel:Nat} {v:Value} {x:DataW H×List MemPlace} (h:DataW.trod enc Tryz.prog w base spare held fuel 83 [v]=some x) :
  ∃A n c l,v = .slice A n c∧n≤c∧Elems w w.heap.size 2 Kcb A n l∧(∀y∈l,y.v < 2 ^ 64)∧l.length+1≤Rows.uptoBulk x.1:=by
 obtain ⟨A,n,c,l,rfl,_,h2,h3,ds,sp,hx,hl,hQ⟩:=Kgy (ea:=Kcb) (Q:=fun d (y:Smp)=>y.v < 2 ^ 64∧1≤Rows.uptoBulk d) Tryz.underlying83 Ktc (by omega) (fun _=>rfl) (fun _ _ _ h=>Qlj h) h;refine ⟨A,n,c,l,rfl,h2,h3,fun y hy=>?_,?_⟩
 ·obtain ⟨i,hi,rfl⟩:=List.mem_iff_getElem.1 hy;exact (hQ i (ds[i]'(by omega)) l[i] (List.getElem?_eq_getElem _) (List.getElem?_eq_getElem hi)).1
 ·have:=Kif (fun _:Smp=>1) hx hl fun i d y hd hy=>(hQ i d y hd hy).2
  rwa[Kla] at this
theorem Qim {fuel:Nat} {l:List Value} {x:DataW H×List MemPlace} (h:DataW.trod enc Tryz.prog w base spare held fuel 109 l=some x):∃y:Spn,l=Kac y∧(SpnIn y∧1≤Rows.uptoBulk x.1):=by
 obtain ⟨xs,n,_,hx,hcl,hlen,hg⟩:=DataW.trod_struct Tryz.underlying109 h;rw[Kpp] at hcl
 match l,hcl,xs,hlen with
 | [c0,c1],_,[x0,x1],_=>
  have g0:=hg 0 _ rfl;have g1:=hg 1 _ rfl;simp[Kkd] at g0 g1;obtain ⟨a,e0,_,wa⟩:=DataW.trod_int Tryz.underlying2 g0;obtain ⟨b,e1,_,wb⟩:=DataW.trod_int Tryz.underlying2 g1;simp at e0 e1;subst e0 e1;have ha:=Kic wa;have hb:=Kic wb;exact ⟨⟨a,b⟩,rfl,⟨ha.1,ha.2,hb.1,hb.2⟩,Kkc _⟩
theorem Kkn {fuel:Nat} {v:Value} {x:DataW H×List MemPlace} (h:DataW.trod enc Tryz.prog w base spare held fuel 81 [v]=some x) :
  ∃A n c l,v = .slice A n c∧n≤c∧Elems w w.heap.size 2 Kac A n l∧(∀y∈l,SpnIn y)∧l.length+1≤Rows.uptoBulk x.1:=by
 obtain ⟨A,n,c,l,rfl,_,h2,h3,ds,sp,hx,hl,hQ⟩:=Kgy (ea:=Kac) (Q:=fun d (y:Spn)=>SpnIn y∧1≤Rows.uptoBulk d) Tryz.underlying81 Kpp (by omega) (fun _=>rfl) (fun _ _ _ h=>Qim h) h;refine ⟨A,n,c,l,rfl,h2,h3,fun y hy=>?_,?_⟩
 ·obtain ⟨i,hi,rfl⟩:=List.mem_iff_getElem.1 hy;exact (hQ i (ds[i]'(by omega)) l[i] (List.getElem?_eq_getElem _) (List.getElem?_eq_getElem hi)).1
 ·have:=Kif (fun _:Spn=>1) hx hl fun i d y hd hy=>(hQ i d y hd hy).2
  rwa[Kla] at this
theorem Qij {fuel:Nat} {c0 c1 c2:Value} {x:DataW H×List MemPlace} (h:DataW.trod enc Tryz.prog w base spare held fuel 82 [c0,c1,c2]=some x) :
  ∃(h0 h1 h2:Hd) (l0 l1 l2:List Spn),(c0 = .slice h0.A h0.n h0.c∧c1 = .slice h1.A h1.n h1.c∧c2 = .slice h2.A h2.n h2.c)∧(Elems w w.heap.size 2 Kac h0.A h0.n l0∧Elems w w.heap.size 2 Kac h1.A h1.n l1∧Elems w w.heap.size 2 Kac h2.A h2.n l2)∧
   ((∀y∈l0,SpnIn y)∧(∀y∈l1,SpnIn y)∧(∀y∈l2,SpnIn y))∧l0.length+l1.length+l2.length+3≤Rows.uptoBulk x.1:=by
 obtain ⟨xs,m,_,hx,_,hl,hg⟩:=DataW.trod_array Tryz.underlying82 h;rw[Qdn] at hg
 match xs,hl with
 | [x0,x1,x2],_=>
  have g0:=hg 0 (by omega);have g1:=hg 1 (by omega);have g2:=hg 2 (by omega);simp at g0 g1 g2;obtain ⟨A0,n0,k0,l0,rfl,a1,a2,a3,a4⟩:=Kkn g0;obtain ⟨A1,n1,k1,l1,rfl,b1,b2,b3,b4⟩:=Kkn g1;obtain ⟨A2,n2,k2,l2,rfl,d1,d2,d3,d4⟩:=Kkn g2;refine ⟨⟨A0,n0,k0⟩,⟨A1,n1,k1⟩,⟨A2,n2,k2⟩,l0,l1,l2,⟨rfl,rfl,rfl⟩,⟨a2,b2,d2⟩,⟨a3,b3,d3⟩,?_⟩;rw[hx];simp only[List.map_cons,List.map_nil,Rows.uptoBulk,Rows.uptoBulkAll];omega
def KSer.weight (s:KSer):Nat:=massL s.labels+s.g0.length+s.g1.length+s.g2.length+s.samples.length+4
structure KIn (w:World) (y:KY) (s:KSer):Prop where
 at_:KAt w y.h s
 m:y.m=s.max
 mx:-9223372036854775808≤s.max∧s.max≤9223372036854775807
 i:(∀x∈s.g0,SpnIn x)∧(∀x∈s.g1,SpnIn x)∧(∀x∈s.g2,SpnIn x)
 v:∀x∈s.samples,x.v < 2 ^ 64
theorem Qik {fuel:Nat} {l:List Value} {x:DataW H×List MemPlace} (h:DataW.trod enc Tryz.prog w base spare held fuel 85 l=some x):∃y:KY,l=encKY y∧∃s,KIn w y s∧KSer.weight s≤Rows.uptoBulk x.1:=by
 obtain ⟨xs,n,_,hx,hcl,hlen,hg⟩:=DataW.trod_struct Tryz.underlying85 h;rw[Kpo] at hcl
 match l,hcl,xs,hlen with
 | [c0,c1,c2,c3,c4,c5],_,[x0,x1,x2,x3],_=>
  have g0:=hg 0 _ rfl;have g1:=hg 1 _ rfl;have g2:=hg 2 _ rfl;have g3:=hg 3 _ rfl;simp[Qdl,Qdm,Qdk,Kkd] at g0 g1 g2 g3;obtain ⟨A0,n0,k0,l0,rfl,a1,a2,a3⟩:=Kyh g0;obtain ⟨mx,e1,_,wm⟩:=DataW.trod_int Tryz.underlying2 g1;obtain ⟨h0,h1,h2,p0,p1,p2,⟨rfl,rfl,rfl⟩,⟨b0,b1,b2⟩,b3,b4⟩:=Qij g2;obtain ⟨A3,n3,k3,l3,rfl,d1,d2,d3,d4⟩:=Qil g3;simp at e1;subst e1;refine ⟨⟨⟨⟨A0,n0,k0⟩,h0,h1,h2,⟨A3,n3,k3⟩⟩,mx⟩,rfl,⟨l0,mx,p0,p1,p2,l3⟩,⟨⟨a2,a1,b0,b1,b2,d2,d1⟩,rfl,Kic wm,b3,d3⟩,?_⟩;rw[hx];have hb1:=Kkc x1.1;simp only[List.map_cons,List.map_nil,Rows.uptoBulk,Rows.uptoBulkAll,KSer.weight];omega
theorem Kqh:∀l:List Lb,3*l.length+1≤massL l
 | []=>by simp[massL]
 | x :: l=>by have:=Kqh l;simp only[massL,List.map_cons,List.sum_cons,List.length_cons,Lb.mass] at *;omega
theorem Kok:∀L:List KSer,massK L+L.length+3*labsK L≤(L.map KSer.weight).sum
 | []=>by simp[massK,labsK]
 | s :: L=>by
  have:=Kok L;have:=Kqh s.labels;simp only[massK,labsK,List.map_cons,List.sum_cons,List.length_cons,KSer.weight,KSer.mass] at *;omega
theorem Kql {fuel:Nat} {v:Value} {x:DataW H×List MemPlace} (h:DataW.trod enc Tryz.prog w base spare held fuel 22 [v]=some x) :
  ∃A n c L,v = .slice A n c∧n≤c∧KSers w A n L∧(Rows.uptoBulk x.1≤1048576→LSzK L):=by
 obtain ⟨A,n,c,hs,rfl,_,h2,h3,ds,sp,hx,hl,hQ⟩:=Kgy (ea:=encKY) (Q:=fun d y=>∃s,KIn w y s∧KSer.weight s≤Rows.uptoBulk d) Tryz.underlying22 Kpo (by omega) (fun _=>rfl) (fun _ _ _ h=>Qik h) h;have hn:=h3.len
 obtain ⟨f,hf⟩:=choose_lt (α:=KSer) (n:=n) (p:=fun i s=>∀d y,ds[i]? = some d→hs[i]? = some y→KIn w y s∧KSer.weight s≤Rows.uptoBulk d) (by
  intro i hi;have h1:i < hs.length:=by omega
  have h4:i < ds.length:=by omega
  obtain ⟨l,hl'⟩:=hQ i ds[i] hs[i] (List.getElem?_eq_getElem h4) (List.getElem?_eq_getElem h1);refine ⟨l,fun d y hd hy=>?_⟩;rw[List.getElem?_eq_getElem h4] at hd;rw[List.getElem?_eq_getElem h1] at hy;injection hd with hd;injection hy with hy;subst hd hy
  exact hl')
 have hget:∀i,i < n→((List.range n).map f)[i]! = f i:=fun i hi=>by
  rw[getElem!_pos _ i (by simpa using hi)];simp
 have hS:KSers w A n ((List.range n).map f):=⟨hs,h3,by simp,fun i hi=>by
  have h1:i < hs.length:=by omega
  have h4:i < ds.length:=by omega
  obtain ⟨a1,a2⟩:=hf i hi ds[i] hs[i] (List.getElem?_eq_getElem h4) (List.getElem?_eq_getElem h1);rw[hget i hi,getElem!_pos hs i h1]
  exact ⟨a1.m,a1.at_⟩⟩
 refine ⟨A,n,c,(List.range n).map f,rfl,h2,hS,fun hb=>?_⟩
 have hsum:(((List.range n).map f).map KSer.weight).sum+1≤Rows.uptoBulk x.1:=by
  refine Kif KSer.weight hx (by simp;omega) fun i d l hd hl'=>?_
  have hi:i < n:=by have:=(List.getElem?_eq_some_iff.1 hl').1;simpa using this
  have e:f i=l:=by simpa[hi] using hl'
  have h1:i < hs.length:=by omega
  rw[←e];exact (hf i hi d hs[i] hd (List.getElem?_eq_getElem h1)).2
 have hm:=Kok ((List.range n).map f);refine ⟨by omega,by omega,by omega,fun s hs9=>?_⟩;have h5:=Qcz KSer.weight hs9;obtain ⟨i,hi,rfl⟩:=List.mem_map.1 hs9;have hi:i < n:=List.mem_range.1 hi;have h1:i < hs.length:=by omega
 have h4:i < ds.length:=by omega
 obtain ⟨a1,a2⟩:=hf i hi ds[i] hs[i] (List.getElem?_eq_getElem h4) (List.getElem?_eq_getElem h1);have h7:massL (f i).labels+(f i).g0.length+(f i).g1.length+(f i).g2.length+(f i).samples.length+4≤(((List.range n).map f).map KSer.weight).sum:=h5;have h6:=Ktv (f i).labels;refine ⟨by omega,fun y hy=>?_,a1.mx,⟨by omega,by omega,by omega⟩,a1.i,by omega,a1.v⟩;have:=Qhz hy;omega
instance:Inhabited Trn:=⟨⟨0,0,[]⟩⟩
end
theorem Qgf:Tryz.prog.cellsOf 22 = 1:=by kernel_rfl
theorem Qac:Tryz.prog.cellsOf 61 = 1:=by kernel_rfl
theorem Qab:Tryz.prog.cellsOf 4 = 1:=by kernel_rfl
theorem Qdo:Tryz.prog.cellsOf 63 = 6:=by kernel_rfl
structure SwE where
 h1:Hd
 h2:Hd
 L1:List KSer
 L2:List KSer
 at_:Int
 names:Int
 A:Option Addr
 c:Nat
 data:List Int
 z:Bool
def swV (y:SwE):Array Value:=#[.slice y.h1.A y.h1.n y.h1.c,.slice y.h2.A y.h2.n y.h2.c,.int .i64 y.at_,.int .i64 y.names,.slice y.A y.data.length y.c,.bool y.z]
section
variable {H : Type} {enc : TypeId × Value → H} {w : World} {base : Nat} {spare : Nat → Bool} {held : Bool}
theorem Qes {fuel:Nat} {v:Value} {x:DataW H×List MemPlace} (h:DataW.trod enc Tryz.prog w base spare held fuel 61 [v]=some x) :
  ∃A n c l,v = .slice A n c∧(A=none→c=0)∧n≤c∧Ints3 w A n l∧(∀z∈l,i64K z)∧l.length+1≤Rows.uptoBulk x.1:=by
 obtain ⟨A,n,c,l,rfl,h1,h2,h3,ds,sp,hx,hl,hQ⟩:=Kgy (ea:=I1) (Q:=fun d (z:Int)=>i64K z∧1≤Rows.uptoBulk d) Tryz.underlying61 Kpn (by omega) (fun _=>rfl) (fun _ _ _ h=>by
  obtain ⟨z,rfl,h5,hz⟩:=DataW.trod_int Tryz.underlying3 h
  exact ⟨z,rfl,Kic hz,Kkc _⟩) h
 refine ⟨A,n,c,l,rfl,h1,h2,h3,fun z hz=>?_,?_⟩
 ·obtain ⟨i,hi,rfl⟩:=List.mem_iff_getElem.1 hz;exact (hQ i (ds[i]'(by omega)) l[i] (List.getElem?_eq_getElem _) (List.getElem?_eq_getElem hi)).1
 ·have:=Kif (fun _:Int=>1) hx hl fun i d y hd hy=>(hQ i d y hd hy).2
  rwa[Kla] at this
theorem Qin {r:Reach} {b0:Nat} {v:Value} {d:DataW H} {ps:List MemPlace} (hv:Value.okWide Tryz.prog w r b0 63 v) (h:DataW.Trod enc Tryz.prog w base spare held 63 v d ps) :
  ∃y:SwE,v = .agg (swV y)∧i64K y.at_∧i64K y.names∧KSers w y.h1.A y.h1.n y.L1∧KSers w y.h2.A y.h2.n y.L2∧(y.A=none→y.c=0)∧Ints3 w y.A y.data.length y.data∧(∀z∈y.data,i64K z)∧
   (Rows.uptoBulk d≤1048576→LSzK y.L1∧LSzK y.L2∧y.data.length≤1048576):=by
 obtain ⟨cs,rfl,hsz⟩:=okWide_struct Tryz.underlying63 hv;obtain ⟨l⟩:=cs;obtain ⟨fuel,hf⟩:=h;obtain ⟨xs,n,_,hx,hcl,hlen,hg⟩:=DataW.trod_struct Tryz.underlying63 hf;rw[Qdo] at hcl;have hcl2:l.length=6:=by simpa[Value.cells] using hcl
 match l,hcl2,xs,hlen with
 | [c0,c1,c2,c3,c4,c5],_,[x0,x1,x2,x3,x4,x5],_=>
  have g0:=hg 0 _ rfl;have g1:=hg 1 _ rfl;have g2:=hg 2 _ rfl;have g3:=hg 3 _ rfl;have g4:=hg 4 _ rfl;have g5:=hg 5 _ rfl;simp[Kpn,Qgf,Qac,Qab,Value.cells] at g0 g1 g2 g3 g4 g5;obtain ⟨A0,n0,k0,L0,rfl,a1,a2,a3⟩:=Kql g0;obtain ⟨A1,n1,k1,L1,rfl,b1,b2,b3⟩:=Kql g1;obtain ⟨at_,e2,_,iat⟩:=DataW.trod_int Tryz.underlying3 g2;obtain ⟨nm,e3,_,inm⟩:=DataW.trod_int Tryz.underlying3 g3;obtain ⟨A,k,c,data,rfl,hA,hc,hd,hi,hb4⟩:=Qes g4;obtain ⟨z,e5,_,_⟩:=DataW.trod_bool Tryz.underlying4 g5;simp at e2 e3 e5;subst e2 e3 e5;have hk:data.length=k:=Elems.len hd;subst hk;refine ⟨⟨⟨A0,n0,k0⟩,⟨A1,n1,k1⟩,L0,L1,at_,nm,A,c,data,z⟩,rfl,Kic iat,Kic inm,a2,b2,hA,hd,hi,fun hb=>?_⟩;have hx2:d=_:=congrArg Prod.fst hx;rw[hx2] at hb;simp only[List.map_cons,List.map_nil,Rows.uptoBulk,Rows.uptoBulkAll] at hb;exact ⟨a3 (by omega),b3 (by omega),by dsimp only;omega⟩
end
end
section
open Go.RowKit
section
variable {P F : Txt}
def oneK (P:Txt) (i:Nat) (sf:List Th) (st:List St) (fs:List By) (cap aw:Nat):Ds:=⟨[⟨P,false,i⟩],sf,st,fs,cap,false,aw⟩
def twoK (P F:Txt) (i n:Nat) (sf:List Th) (st:List St) (fs:List By) (cap aw:Nat):Ds:=⟨[⟨P,false,i⟩,⟨F,false,n⟩],sf,st,fs,cap,false,aw⟩
theorem Kov (h:(P == F)=false) (i n:Nat):findT [⟨P,false,i⟩,⟨F,false,n⟩] F=some ⟨F,false,n⟩:=by
 simp[findT,List.find?,h]
theorem Kxk {α : Type} (fs:List α) (x d:α):(fs ++ [x])[fs.length]?.getD d=x:=by simp
theorem Kzl (hF:nameB F=true) (h:(P == F)=false) (i n:Nat) (sf:List Th) (st:List St) (fs:List By) (cap aw:Nat):fileD (twoK P F i n sf st fs cap aw) F = .ok n:=
 Kjp (d:=twoK P F i n sf st fs cap aw) rfl (Kcr hF) (Kov h i n)
theorem Kxs (hF:nameB F=true) (h:(P == F)=false) (i:Nat) (sf:List Th) (st:List St) (fs:List By) (cap aw:Nat) :
  Kbd (oneK P i sf st fs cap aw) F=if aw=1 then (1,offD (oneK P i sf st fs cap aw)) else (0,twoK P F i fs.length sf (st ++ [.create F fs.length]) (fs ++ [⟨[],[],[]⟩]) cap (aw - 1)):=by
 rw[Kte (d:=oneK P i sf st fs cap aw) rfl (Kcr hF) (Kgo hF _) (by show isT [⟨P,false,i⟩] F=0;simp[isT,findT,h])];rfl
theorem Kxr (hF:nameB F=true) (h:(P == F)=false) (i:Nat) (sf:List Th) (st:List St) (fs:List By) (cap aw:Nat) (s c:Txt) (hc:fs[i]? = some (byOk c)) (hr:c.length+s.length≤cap) :
  Kbp (twoK P F i fs.length sf st (fs ++ [⟨[],[],[]⟩]) cap aw) F s=if aw=1 then (1,offD (twoK P F i fs.length sf st (fs ++ [⟨[],[],[]⟩]) cap aw)) else (0,twoK P F i fs.length sf st (fs ++ [byApp s]) cap (aw - 1)):=by
 have hi:i < fs.length:=(List.getElem?_eq_some_iff.1 hc).1
 have hu:usedD (twoK P F i fs.length sf st (fs ++ [⟨[],[],[]⟩]) cap aw)=c.length:=by
  show usedL (twoK P F i fs.length sf st (fs ++ [⟨[],[],[]⟩]) cap aw) [(⟨P,false,i⟩:Th),⟨F,false,fs.length⟩]=c.length
  unfold usedL;have h1:(fs ++ [(⟨[],[],[]⟩:By)])[i]? = some (byOk c):=by rw[List.getElem?_append_left hi];exact hc
  have h2:(fs ++ [(⟨[],[],[]⟩:By)])[fs.length]? = some ⟨[],[],[]⟩:=by simp
  simp[nowAt,twoK,h1,byOk]
 refine (Ksy (d:=twoK P F i fs.length sf st (fs ++ [⟨[],[],[]⟩]) cap aw) (s:=F) (i:=fs.length) (Kzl hF h _ _ _ _ _ _ _) s (by rw[hu];exact hr)).trans ?_
 have h3:setF (tickD (twoK P F i fs.length sf st (fs ++ [⟨[],[],[]⟩]) cap aw)) fs.length { fAt (twoK P F i fs.length sf st (fs ++ [⟨[],[],[]⟩]) cap aw) fs.length with now:=(fAt (twoK P F i fs.length sf st (fs ++ [⟨[],[],[]⟩]) cap aw) fs.length).now++s,steps:=(fAt (twoK P F i fs.length sf st (fs ++ [⟨[],[],[]⟩]) cap aw) fs.length).steps ++ [⟨s,false,0⟩] } = twoK P F i fs.length sf st (fs ++ [byApp s]) cap (aw - 1):=by
  have h4:fAt (twoK P F i fs.length sf st (fs ++ [⟨[],[],[]⟩]) cap aw) fs.length=⟨[],[],[]⟩:=Kxk fs _ _;rw[h4];unfold setF tickD twoK byApp;simp
 rw[h3];rfl
theorem Qho (hF:nameB F=true) (h:(P == F)=false) (i:Nat) (sf:List Th) (st:List St) (fs:List By) (cap aw:Nat) (s:Txt) :
  syncD (twoK P F i fs.length sf st (fs ++ [byApp s]) cap aw) F=if aw=1 then (1,offD (twoK P F i fs.length sf st (fs ++ [byApp s]) cap aw)) else (0,twoK P F i fs.length sf st (fs ++ [byOk s]) cap (aw - 1)):=by
 rw[Qda (d:=twoK P F i fs.length sf st (fs ++ [byApp s]) cap aw) (Kzl hF h _ _ _ _ _ _ _)];have h4:fAt (twoK P F i fs.length sf st (fs ++ [byApp s]) cap aw) fs.length=byApp s:=Kxk fs _ _;rw[h4]
 have h3:setF (tickD (twoK P F i fs.length sf st (fs ++ [byApp s]) cap aw)) fs.length ⟨(byApp s).now,(byApp s).now,[]⟩=twoK P F i fs.length sf st (fs ++ [byOk s]) cap (aw - 1):=by
  unfold setF tickD twoK byApp byOk;simp
 rw[h3];rfl
theorem Kxt (hP:nameB P=true) (hF:nameB F=true) (h:(P == F)=false) (h2:(F == P)=false) (i n:Nat) (sf:List Th) (st:List St) (fs:List By) (cap aw:Nat) :
  Kal (twoK P F i n sf st fs cap aw) F P=if aw=1 then (1,offD (twoK P F i n sf st fs cap aw)) else (0,oneK P n sf (st ++ [.rename F P]) fs cap (aw - 1)):=by
 have hne:F≠P:=by intro e;rw[e] at h2;simp at h2
 have i1:isT (twoK P F i n sf st fs cap aw).things F=1:=by
  show isT [⟨P,false,i⟩,⟨F,false,n⟩] F=1
  unfold isT;rw[Kov h];rfl
 have i2:isT (twoK P F i n sf st fs cap aw).things P=1:=by
  show isT [⟨P,false,i⟩,⟨F,false,n⟩] P=1
  simp[isT,findT]
 have hr:Kal (twoK P F i n sf st fs cap aw) F P=Kbb (twoK P F i n sf st fs cap aw) (.rename F P):=by
  unfold Kal;rw[if_neg (by show ¬(false=true);simp),if_neg (by rw[Kcr hP,Kcr hF];simp),if_neg (by rw[hP];simp),if_neg (by rw[i1,Kgo hP];simp),if_neg (by rw[i1,i2];simp[hne])]
 rw[hr,Kja]
 have ha:Kad (twoK P F i n sf st fs cap aw).things (.rename F P) = [⟨P,false,n⟩]:=by
  show Kad [⟨P,false,i⟩,⟨F,false,n⟩] (.rename F P) = [⟨P,false,n⟩]
  simp[Kad,h2]
 rw[ha];rfl
theorem Qch (i:Nat) (sf:List Th) (st:List St) (fs:List By) (cap aw:Nat) :
  Kay (oneK P i sf st fs cap aw)=if aw=1 then (1,offD (oneK P i sf st fs cap aw)) else (0,oneK P i [⟨P,false,i⟩] [] fs cap (aw - 1)):=by
 rw[Kmt (d:=oneK P i sf st fs cap aw) rfl];rfl
theorem Kkt {l:List (Ds→Nat×Ds)} {k:Nat} {d:Ds} (hk:k≠0) (ho:d.off=true):∀f,putL F (f :: l) (k,d)=(k,d):=fun f=>by
 rw[putL,if_neg hk];unfold Kat;rw[if_pos ho]
theorem Ksg (hP:nameB P=true) (hF:nameB F=true) (h:(P == F)=false) (h2:(F == P)=false) (i:Nat) (sf:List Th) (st:List St) (fs:List By) (cap aw:Nat) (s c:Txt) (hc:fs[i]? = some (byOk c)) (hr:c.length+s.length≤cap) (ha:aw=0∨5 < aw) :
  putL F [(Kbd · F),(Kbp · F s),(syncD · F),(Kal · F P),Kay] (0,oneK P i sf st fs cap aw)=(0,oneK P fs.length [⟨P,false,fs.length⟩] [] (fs ++ [byOk s]) cap (aw - 5)):=by
 have e1:=Kxs hF h i sf st fs cap aw;rw[if_neg (by omega)] at e1;have e2:=Kxr hF h i sf (st ++ [.create F fs.length]) fs cap (aw - 1) s c hc hr;rw[if_neg (by omega)] at e2;have e3:=Qho hF h i sf (st ++ [.create F fs.length]) fs cap (aw - 1 - 1) s;rw[if_neg (by omega)] at e3;have e4:=Kxt hP hF h h2 i fs.length sf (st ++ [.create F fs.length]) (fs ++ [byOk s]) cap (aw - 1 - 1 - 1);rw[if_neg (by omega)] at e4;have e5:=Qch (P:=P) fs.length sf (st ++ [.create F fs.length] ++ [.rename F P]) (fs ++ [byOk s]) cap (aw - 1 - 1 - 1 - 1);rw[if_neg (by omega)] at e5;rw[Kch e1,Kch e2,Kch e3,Kch e4,Kch e5,putL];rfl
theorem k_all (hP:nameB P=true) (i:Nat) (sf:List Th) (st:List St) (fs:List By) (cap aw:Nat) (c:Txt) (hc:fs[i]? = some (byOk c)):allD (oneK P i sf st fs cap aw) P=(c,0):=by
 rw[Kon (y:=oneK P i sf st fs cap aw) (Kjp rfl (Kcr hP) (show findT [⟨P,false,i⟩] P=some ⟨P,false,i⟩ by simp[findT]))];unfold fAt oneK;rw[hc];rfl
theorem Kqb (hP:nameB P=true) (i:Nat) (sf:List Th) (st:List St) (fs:List By) (cap aw:Nat):(listD (oneK P i sf st fs cap aw) []).1.length=1∧(listD (oneK P i sf st fs cap aw) []).2=0:=by
 have h1:Kai P=none:=Kfy hP;unfold listD entD oneK;simp[h1,sortE,insE]
theorem Qhn (hF:nameB F=true) (h:(P == F)=false) (i:Nat) (sf:List Th) (st:List St) (fs:List By) (cap aw:Nat):goneD (oneK P i sf st fs cap aw) F=(0,oneK P i sf st fs cap aw):=by
 unfold goneD;rw[Knt (d:=oneK P i sf st fs cap aw) rfl hF (by show isT [⟨P,false,i⟩] F=0;simp[isT,findT,h])];rfl
end
theorem Qif (P:Txt):(P++Kby == P)=false∧(P == P++Kby)=false:=by
 constructor
 ·rw[beq_eq_false_iff_ne];intro e;have:=congrArg List.length e;simp[Kby] at this
 ·rw[beq_eq_false_iff_ne];intro e;have:=congrArg List.length e;simp[Kby] at this
end
section
open Go.RowKit Go.Shelf Go.Sort
attribute [local go_sem ↓] Go.wp_at_zero Go.wp_at_succ
attribute [local go_sem] Later.cell
section
variable {B0 M p : Nat} {a : Nat → Addr} {R : Nat → Nat} {d : Ds} {w : World}
theorem Dk.listedK (h:Dk B0 M w R p d) (hM:M≤536870912) (hB:B0≤w.heap.size) (hF:Fails B0 a w) :
  Calls Tryz.prog 22 #[.pointer (some ⟨p,0,none⟩),.string ⟨#[]⟩] w fun e w'=>∃A c u,e = .returned (.tuple #[.slice A (listD d []).1.length c,u])∧Below w.heap.size w w':=by
 obtain ⟨A,hc,rfl⟩:=h.ex;refine (Qhx w hc (h.wf.fit hM) hB hF (fun i=>by have:=h.wf.nl hM i;omega)).mono ?_;rintro e w' ⟨v,u,rfl,_,h2,h3⟩;rcases h2.slice with ⟨h4,rfl⟩ | ⟨g,c,rfl⟩
 ·exact ⟨none,0,u,by rw[h4];rfl,h3⟩
 ·exact ⟨_,c,u,rfl,h3⟩
end
end
section
open Go.RowKit
theorem Qhp (x:Txt) (wish:Int) (z:Bool):keepF (byOk x) wish z=byOk x:=by
 unfold keepF byOk;simp[units,keepL]
theorem Kdy (data:List Int) (z:Bool) (j:Nat) (x:Txt):∀(L:List En) (i:Nat) (fs:List By),fs[j]? = some (byOk x)→(Kba data z L i fs)[j]? = some (byOk x)
 | [],_,_,h=>h
 | e :: r,i,fs,h=>by
  rw[Kba];refine Kdy data z j x r (i+1) _ ?_
  by_cases he:e.size=j
  ·subst he;have hl:=(List.getElem?_eq_some_iff.1 h).1;rw[List.getElem?_set_self hl,h];rw[Option.getD_some,Qhp]
  ·rw[List.getElem?_set_ne he];exact h
theorem Kue (n:Int) (k:Nat):Kct n k≤k:=by
 unfold Kct
 split
 ·omega
 ·have:=Nat.mod_lt n.toNat (show 0 < k+1 by omega);omega
def LeftK (P F:Txt) (cap:Nat) (c:Txt) (y:Ds):Prop:=∃i fs,fs[i]? = some (byOk c)∧(y=oneK P i [⟨P,false,i⟩] [] fs cap 0∨∃n,y=twoK P F i n [⟨P,false,i⟩,⟨F,false,n⟩] [] fs cap 0)
section
variable {P F : Txt}
theorem Qct (i:Nat) (fs:List By) (cap aw:Nat) (off:Bool) (c:Txt) (hc:fs[i]? = some (byOk c)) (n:Int) (data:List Int) (z:Bool) :
  LeftK P F cap c (Kbc ⟨[⟨P,false,i⟩],[⟨P,false,i⟩],[],fs,cap,off,aw⟩ n data z):=by
 refine ⟨i,Kba data z (Kci [⟨P,false,i⟩]) 0 fs,Kdy data z i c _ _ _ hc,.inl ?_⟩;unfold Kbc oneK;simp
theorem Ksl (i m:Nat) (th:List Th) (fs:List By) (cap aw:Nat) (off:Bool) (c:Txt) (hc:fs[i]? = some (byOk c)) (n:Int) (data:List Int) (z:Bool) :
  LeftK P F cap c (Kbc ⟨th,[⟨P,false,i⟩],[.create F m],fs,cap,off,aw⟩ n data z):=by
 obtain ⟨k,hk⟩:∃k,Kct n 1=k:=⟨_,rfl⟩;have hle:=Kue n 1;rw[hk] at hle
 have hl:([St.create F m].take k).foldl Kad [⟨P,false,i⟩]=if k=0 then [⟨P,false,i⟩] else [⟨P,false,i⟩,⟨F,false,m⟩]:=by
  rcases (by omega:k=0∨k=1) with rfl | rfl
  ·rfl
  ·rfl
 have hr:Kbc ⟨th,[⟨P,false,i⟩],[.create F m],fs,cap,off,aw⟩ n data z=⟨([St.create F m].take k).foldl Kad [⟨P,false,i⟩],([St.create F m].take k).foldl Kad [⟨P,false,i⟩],[],Kba data z (Kci (([St.create F m].take k).foldl Kad [⟨P,false,i⟩])) 0 fs,cap,false,0⟩:=by
  rw[←hk];rfl
 rw[hr];rcases (by omega:k=0∨k=1) with rfl | rfl
 ·exact ⟨i,Kba data z (Kci [⟨P,false,i⟩]) 0 fs,Kdy data z i c _ _ _ hc,Or.inl rfl⟩
 ·exact ⟨i,Kba data z (Kci [⟨P,false,i⟩,⟨F,false,m⟩]) 0 fs,Kdy data z i c _ _ _ hc,Or.inr ⟨m,rfl⟩⟩
theorem Qiw (h2:(F == P)=false) (i m:Nat) (th:List Th) (fs:List By) (cap aw:Nat) (off:Bool) (c s:Txt) (hc:fs[i]? = some (byOk c)) (hs:fs[m]? = some (byOk s)) (n:Int) (data:List Int) (z:Bool) :
  LeftK P F cap c (Kbc ⟨th,[⟨P,false,i⟩],[.create F m,.rename F P],fs,cap,off,aw⟩ n data z)∨LeftK P F cap s (Kbc ⟨th,[⟨P,false,i⟩],[.create F m,.rename F P],fs,cap,off,aw⟩ n data z):=by
 obtain ⟨k,hk⟩:∃k,Kct n 2=k:=⟨_,rfl⟩;have hle:=Kue n 2;rw[hk] at hle
 have hr:Kbc ⟨th,[⟨P,false,i⟩],[.create F m,.rename F P],fs,cap,off,aw⟩ n data z=⟨([St.create F m,.rename F P].take k).foldl Kad [⟨P,false,i⟩],([St.create F m,.rename F P].take k).foldl Kad [⟨P,false,i⟩],[],Kba data z (Kci (([St.create F m,.rename F P].take k).foldl Kad [⟨P,false,i⟩])) 0 fs,cap,false,0⟩:=by
  rw[←hk];rfl
 have hrn:Kad [⟨P,false,i⟩,⟨F,false,m⟩] (.rename F P) = [⟨P,false,m⟩]:=by simp[Kad,h2]
 rw[hr];rcases (by omega:k=0∨k=1∨k=2) with rfl | rfl | rfl
 ·exact Or.inl ⟨i,Kba data z (Kci [⟨P,false,i⟩]) 0 fs,Kdy data z i c _ _ _ hc,Or.inl rfl⟩
 ·exact Or.inl ⟨i,Kba data z (Kci [⟨P,false,i⟩,⟨F,false,m⟩]) 0 fs,Kdy data z i c _ _ _ hc,Or.inr ⟨m,rfl⟩⟩
 ·have hl:([St.create F m,.rename F P].take 2).foldl Kad [⟨P,false,i⟩] = [⟨P,false,m⟩]:=hrn;rw[hl];exact Or.inr ⟨m,Kba data z (Kci [⟨P,false,m⟩]) 0 fs,Kdy data z m s _ _ _ hs,Or.inl rfl⟩
theorem Qlq (hP:nameB P=true) (hF:nameB F=true) (h:(P == F)=false) (h2:(F == P)=false) (cap aw:Nat) (c s:Txt) (hr:c.length+s.length≤cap) (n:Int) (data:List Int) (z:Bool) :
  (∃y,putL F [(Kbd · F),(Kbp · F s),(syncD · F),(Kal · F P),Kay] (0,oneK P 0 [⟨P,false,0⟩] [] [byOk c] cap aw)=(1,y)∧y.off=true∧(LeftK P F cap c (Kbc y n data z)∨LeftK P F cap s (Kbc y n data z)))∨
  (∃y,putL F [(Kbd · F),(Kbp · F s),(syncD · F),(Kal · F P),Kay] (0,oneK P 0 [⟨P,false,0⟩] [] [byOk c] cap aw)=(0,y)∧y.off=false∧LeftK P F cap s (Kbc y n data z)):=by
 have hc:[byOk c][0]? = some (byOk c):=rfl
 by_cases ha:aw=0∨5 < aw
 ·refine .inr ⟨_,Ksg hP hF h h2 0 _ _ [byOk c] cap aw s c hc hr ha,rfl,?_⟩;exact Qct 1 _ cap _ false s rfl n data z
 refine .inl ?_;have e1:=Kxs hF h 0 [⟨P,false,0⟩] [] [byOk c] cap aw;have e2:=Kxr hF h 0 [⟨P,false,0⟩] ([] ++ [.create F 1]) [byOk c] cap (aw - 1) s c hc hr;have e3:=Qho hF h 0 [⟨P,false,0⟩] ([] ++ [.create F 1]) [byOk c] cap (aw - 1 - 1) s;have e4:=Kxt hP hF h h2 0 1 [⟨P,false,0⟩] ([] ++ [.create F 1]) ([byOk c] ++ [byOk s]) cap (aw - 1 - 1 - 1);have e5:=Qch (P:=P) 1 [⟨P,false,0⟩] ([] ++ [.create F 1] ++ [.rename F P]) ([byOk c] ++ [byOk s]) cap (aw - 1 - 1 - 1 - 1);rcases (by omega:aw=1∨aw=2∨aw=3∨aw=4∨aw=5) with rfl | rfl | rfl | rfl | rfl
 ·rw[if_pos rfl] at e1;refine ⟨offD (oneK P 0 [⟨P,false,0⟩] [] [byOk c] cap 1),?_,?_,Or.inl (Qct 0 [byOk c] cap 0 true c rfl n data z)⟩
  ·rw[putL,if_pos rfl];simp only;rw[e1,Kkt (by decide) rfl]
   try rfl
  ·rfl
 ·rw[if_neg (by decide)] at e1;rw[if_pos rfl] at e2;refine ⟨offD (twoK P F 0 1 [⟨P,false,0⟩] ([] ++ [.create F 1]) ([byOk c] ++ [⟨[],[],[]⟩]) cap 1),?_,?_,Or.inl (Ksl 0 1 [⟨P,false,0⟩,⟨F,false,1⟩] ([byOk c] ++ [⟨[],[],[]⟩]) cap 0 true c rfl n data z)⟩
  ·rw[Kch e1,putL,if_pos rfl];simp only;refine Eq.trans (congrArg _ e2) ?_;rw[Kkt (by decide) rfl]
   try rfl
  ·rfl
 ·rw[if_neg (by decide)] at e1 e2;rw[if_pos rfl] at e3;refine ⟨offD (twoK P F 0 1 [⟨P,false,0⟩] ([] ++ [.create F 1]) ([byOk c] ++ [byApp s]) cap 1),?_,?_,Or.inl (Ksl 0 1 [⟨P,false,0⟩,⟨F,false,1⟩] ([byOk c] ++ [byApp s]) cap 0 true c rfl n data z)⟩
  ·rw[Kch e1,Kch e2,putL,if_pos rfl];simp only;refine Eq.trans (congrArg _ e3) ?_;rw[Kkt (by decide) rfl]
   try rfl
  ·rfl
 ·rw[if_neg (by decide)] at e1 e2 e3;rw[if_pos rfl] at e4;refine ⟨offD (twoK P F 0 1 [⟨P,false,0⟩] ([] ++ [.create F 1]) ([byOk c] ++ [byOk s]) cap 1),?_,?_,Or.inl (Ksl 0 1 [⟨P,false,0⟩,⟨F,false,1⟩] ([byOk c] ++ [byOk s]) cap 0 true c rfl n data z)⟩
  ·rw[Kch e1,Kch e2,Kch e3,putL,if_pos rfl];simp only;refine Eq.trans (congrArg _ e4) ?_;rw[Kkt (by decide) rfl]
   try rfl
  ·rfl
 ·rw[if_neg (by decide)] at e1 e2 e3 e4;rw[if_pos rfl] at e5;have eY:offD (oneK P 1 [⟨P,false,0⟩] ([] ++ [St.create F 1] ++ [St.rename F P]) ([byOk c] ++ [byOk s]) cap 1)=(⟨[⟨P,false,1⟩],[⟨P,false,0⟩],[St.create F 1,St.rename F P],[byOk c] ++ [byOk s],cap,true,0⟩:Ds):=rfl;refine ⟨offD (oneK P 1 [⟨P,false,0⟩] ([] ++ [St.create F 1] ++ [St.rename F P]) ([byOk c] ++ [byOk s]) cap 1),?_,?_,by rw[eY];exact Qiw h2 0 1 [⟨P,false,1⟩] ([byOk c] ++ [byOk s]) cap 0 true c s rfl rfl n data z⟩
  ·rw[Kch e1,Kch e2,Kch e3,Kch e4,putL,if_pos rfl];simp only;refine Eq.trans (congrArg _ e5) ?_;rw[putL]
   try rfl
  ·rfl
theorem Kpc (hP:nameB P=true) {cap:Nat} {c:Txt} {y:Ds} (h:LeftK P F cap c y):allD y P=(c,0):=by
 obtain ⟨i,fs,hc,h | ⟨n,h⟩⟩:=h
 ·rw[h];exact k_all hP i _ _ fs cap 0 c hc
 ·rw[h,Kon (y:=twoK P F i n _ _ fs cap 0) (i:=i) (Kjp rfl (Kcr hP) (show findT [⟨P,false,i⟩,⟨F,false,n⟩] P=some ⟨P,false,i⟩ by simp[findT]))];unfold fAt twoK;rw[hc];rfl
theorem Kpd {P s c:Txt} (hP:nameB P=true) (hF:nameB (P++Kby)=true) {cap:Nat} {y:Ds} (h:LeftK P (P++Kby) cap c y) (hr:c.length+s.length≤cap) :
  ∃i fs,putD y P s=(0,oneK P i [⟨P,false,i⟩] [] fs cap 0)∧fs[i]? = some (byOk s):=by
 obtain ⟨n1,n2⟩:=Qif P;obtain ⟨F,hFe⟩:∃F,P++Kby=F:=⟨_,rfl⟩;rw[hFe] at hF n1 n2 h;unfold putD;rw[hFe];obtain ⟨i,fs,hc,h | ⟨n,h⟩⟩:=h
 ·rw[h,Qhn hF n2,Ksg hP hF n2 n1 i _ _ fs cap 0 s c hc hr (.inl rfl)];exact ⟨_,_,rfl,by simp⟩
 ·have hg:goneD (twoK P F i n [⟨P,false,i⟩,⟨F,false,n⟩] [] fs cap 0) F=(0,oneK P i [⟨P,false,i⟩,⟨F,false,n⟩] [.remove F] fs cap 0):=by
   have i1:isT (twoK P F i n [⟨P,false,i⟩,⟨F,false,n⟩] [] fs cap 0).things F=1:=by
    show isT [⟨P,false,i⟩,⟨F,false,n⟩] F=1
    unfold isT;rw[Kov n2];rfl
   have hrm:Kat (twoK P F i n [⟨P,false,i⟩,⟨F,false,n⟩] [] fs cap 0) F=(0,oneK P i [⟨P,false,i⟩,⟨F,false,n⟩] [.remove F] fs cap 0):=by
    unfold Kat;rw[if_neg (by show ¬(false=true);simp),if_neg (by rw[Kcr hF];simp),if_neg (by rw[i1];simp),Kja,if_neg (by show ¬(0=1);simp)]
    have ha:Kad (twoK P F i n [⟨P,false,i⟩,⟨F,false,n⟩] [] fs cap 0).things (.remove F) = [⟨P,false,i⟩]:=by
     show Kad [⟨P,false,i⟩,⟨F,false,n⟩] (.remove F) = [⟨P,false,i⟩]
     have h3:Kbm P F=false:=by
      cases hb:Kbm P F with
      | false=>rfl
      | true=>
       unfold Kbm at hb;have h5:=(List.isPrefixOf_iff_prefix.1 hb).length_le;rw[←hFe] at h5;simp at h5;omega
     simp[Kad,n2,h3]
    rw[ha];rfl
   unfold goneD;rw[hrm];rfl
  rw[h,hg,Ksg hP hF n2 n1 i _ _ fs cap 0 s c hc hr (.inl rfl)];exact ⟨_,_,rfl,by simp⟩
end
end
end Go.Proofs.YtefpndiiedkmpaaGreatDoor
