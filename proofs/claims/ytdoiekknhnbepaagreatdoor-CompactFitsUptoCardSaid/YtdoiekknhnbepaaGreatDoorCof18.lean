/- Merged (what the claim wants of): CompactP, CSplit, CmpOpen. -/
import Derived.Test.YtdoiekknhnbepaaGreatDoorCof17
import Derived.Test.YtdoiekknhnbepaaGreatDoorCof15
import Derived.OpenShut
set_option linter.unusedVariables false
set_option linter.unusedSimpArgs false
set_option maxRecDepth 100000
set_option maxHeartbeats 8000000
namespace Go.Proofs.YtdoiekknhnbepaaGreatDoor
section
theorem Kio {α : Type} (k:α→Int) (xs:List α):Kba k xs (onceL k xs):=by
 have:=Kfo k xs [] [] (Kba.nil k);simpa[onceL] using this
theorem Kba.sub {α : Type} {k:α→Int} {xs l:List α} (h:Kba k xs l) {x:α} (hx:x∈l):x∈xs:=List.mem_of_find?_eq_some ((h.mem x).1 hx)
theorem Qae {l:List Ser} {L:List Lb} {x:Smp} (h:x∈gS l L):∃s∈l,s.labels=L∧x∈s.samples:=by
 unfold gS at h;obtain ⟨s,hs,hx⟩:=List.mem_flatMap.1 h;rw[List.mem_filter] at hs;exact ⟨s,hs.1,by simpa using hs.2,hx⟩
theorem Qaf {l:List Ser} {L:List Lb} {x:Wnd} (h:x∈gW l L):∃s∈l,s.labels=L∧x∈s.windows:=by
 unfold gW at h;obtain ⟨s,hs,hx⟩:=List.mem_flatMap.1 h;rw[List.mem_filter] at hs;exact ⟨s,hs.1,by simpa using hs.2,hx⟩
theorem Keb (l:List Ser):IsMrg l (Kan l):=by
 have:=Khp l [] [] IsMrg.nil;rw[List.nil_append] at this;exact this
theorem Kct (x:Ser) (l:List Ser):labsN (x :: l)=x.labels.length+labsN l:=by unfold labsN;simp
theorem Klj (s:Ser):∀out:List Ser,labsN (Kbu out s)≤labsN out+s.labels.length
 | []=>by simp[Kbu,labsN]
 | y :: l=>by
  have i1:=Klj s l;unfold Kbu
  split
  ·rw[Kct,Kct];dsimp only;omega
  ·split
   ·rw[Kct];dsimp only;omega
   ·rw[Kct,Kct];omega
theorem Kjr:∀l out:List Ser,labsN (l.foldl Kby out)≤labsN out+labsN l
 | [],out=>by simp[labsN]
 | s :: l,out=>by
  have i1:=Kjr l (Kby out s)
  have i2:labsN (Kby out s)≤labsN out+s.labels.length:=by
   unfold Kby
   split
   ·exact Klj s out
   ·omega
  rw[List.foldl_cons,Kct];omega
theorem Kqv (l:List Ser):labsN (Kan l)≤labsN l:=by have:=Kjr l [];unfold Kan;simpa[labsN] using this
structure SubS (l out:List Ser):Prop where
 lab:∀s∈out,∃x∈l,x.labels=s.labels
 smp:∀s∈out,∀y∈s.samples,∃x∈l,y∈x.samples
 wnd:∀s∈out,∀y∈s.windows,∃x∈l,y∈x.windows
 n:out.length≤l.length
 m:sumS out≤sumS l
 k:labsN out≤labsN l
theorem SubS.trans {a b c:List Ser} (h:SubS a b) (g:SubS b c):SubS a c:=
 ⟨fun s hs=>by obtain ⟨x,hx,e⟩:=g.lab s hs;obtain ⟨y,hy,e2⟩:=h.lab x hx;exact ⟨y,hy,e2.trans e⟩,
  fun s hs y hy=>by obtain ⟨x,hx,e⟩:=g.smp s hs y hy;exact h.smp x hx y e,
  fun s hs y hy=>by obtain ⟨x,hx,e⟩:=g.wnd s hs y hy;exact h.wnd x hx y e,
  Nat.le_trans g.n h.n,Nat.le_trans g.m h.m,Nat.le_trans g.k h.k⟩
theorem Kwm {l out:List Ser} (h:IsMrg l out) {s:Ser} (hs:s∈out):∃x∈l,x.labels=s.labels:=by
 obtain ⟨h1,h2,h3⟩:=(h.mem s).1 hs;rcases (Kdi s).1 h1 with q | q
 ·rw[h2,Kdg] at q;obtain ⟨y,hy⟩:=List.exists_mem_of_length_pos q;obtain ⟨x,hx,e,_⟩:=Qae hy;exact ⟨x,hx,e⟩
 ·rw[h3,Kdg] at q;obtain ⟨y,hy⟩:=List.exists_mem_of_length_pos q;obtain ⟨x,hx,e,_⟩:=Qaf hy;exact ⟨x,hx,e⟩
theorem Kwn {l out:List Ser} (h:IsMrg l out) {s:Ser} (hs:s∈out) {y:Smp} (hy:y∈s.samples):∃x∈l,x.labels=s.labels∧y∈x.samples:=by
 obtain ⟨_,h2,_⟩:=(h.mem s).1 hs;rw[h2] at hy;exact Qae ((Kio Smp.t _).sub hy)
theorem Kwo {l out:List Ser} (h:IsMrg l out) {s:Ser} (hs:s∈out) {y:Wnd} (hy:y∈s.windows):∃x∈l,x.labels=s.labels∧y∈x.windows:=by
 obtain ⟨_,_,h3⟩:=(h.mem s).1 hs;rw[h3] at hy;exact Qaf ((Kio Wnd.start _).sub hy)
theorem Kgp (l:List Ser):SubS l (Kan l):=
 ⟨fun _ hs=>Kwm (Keb l) hs,fun _ hs _ hy=>by obtain ⟨x,hx,_,e⟩:=Kwn (Keb l) hs hy;exact ⟨x,hx,e⟩,
  fun _ hs _ hy=>by obtain ⟨x,hx,_,e⟩:=Kwo (Keb l) hs hy;exact ⟨x,hx,e⟩,Kjs l,Kgq l,Kqv l⟩
theorem Kil {fS:Ser→Smp→Bool} {fW:Ser→Wnd→Bool} {l:List Ser} {s:Ser} (h:s∈keptF fS fW l):∃x∈l,s=keepS fS fW x∧Kbl s=true:=by
 unfold keptF at h;rw[List.mem_filter,List.mem_map] at h;obtain ⟨⟨x,hx,e⟩,hg⟩:=h;exact ⟨x,hx,e.symm,hg⟩
theorem Kwj (fS:Ser→Smp→Bool) (fW:Ser→Wnd→Bool):∀l:List Ser,(keptF fS fW l).length≤l.length∧sumS (keptF fS fW l)≤sumS l∧labsN (keptF fS fW l)≤labsN l
 | []=>by simp[keptF,sumS,labsN]
 | x :: l=>by
  obtain ⟨i1,i2,i3⟩:=Kwj fS fW l;have h1:(x.samples.filter (fS x)).length≤x.samples.length:=List.length_filter_le _ _;have h2:(x.windows.filter (fW x)).length≤x.windows.length:=List.length_filter_le _ _
  have e:keptF fS fW (x :: l)=if Kbl (keepS fS fW x)=true then keepS fS fW x :: keptF fS fW l else keptF fS fW l:=by
   unfold keptF;rw[List.map_cons,List.filter_cons]
  rw[e]
  split
  ·rw[Kbn,Kbn,Kct,Kct];refine ⟨by simp only[List.length_cons];omega,?_,?_⟩
   ·unfold keepS;dsimp only;omega
   ·unfold keepS;dsimp only;omega
  ·rw[Kbn,Kct];exact ⟨by simp only[List.length_cons];omega,by omega,by omega⟩
theorem Ksp (fS:Ser→Smp→Bool) (fW:Ser→Wnd→Bool) (l:List Ser):SubS l (keptF fS fW l):=by
 obtain ⟨h1,h2,h3⟩:=Kwj fS fW l;refine ⟨fun s hs=>?_,fun s hs y hy=>?_,fun s hs y hy=>?_,h1,h2,h3⟩
 ·obtain ⟨x,hx,rfl,_⟩:=Kil hs;exact ⟨x,hx,rfl⟩
 ·obtain ⟨x,hx,rfl,_⟩:=Kil hs;exact ⟨x,hx,(List.mem_filter.1 hy).1⟩
 ·obtain ⟨x,hx,rfl,_⟩:=Kil hs;exact ⟨x,hx,(List.mem_filter.1 hy).1⟩
theorem SubS.nil (l:List Ser):SubS l []:=⟨fun s h=>by simp at h,fun s h=>by simp at h,fun s h=>by simp at h,by simp,by simp[sumS],by simp[labsN]⟩
theorem Kqj (r:Int) (ghs:List (Hd4×GoneP)) (l:List Ser):SubS l (Kbm r ghs l):=by
 unfold Kbm
 split
 ·exact Ksp _ _ l
 ·exact SubS.nil l
theorem Kiw (l:List Ser):sumS l=smpsN l+wndsN l:=by
 induction l with
 | nil=>rfl
 | cons x l ih=>
  rw[Kbn,ih];unfold smpsN wndsN;simp only[List.map_cons,List.sum_cons];omega
theorem CSz.of_sub {l out:List Ser} {r f t:Int} (h:SubS l out) (hz:∀s∈l,SerSz s) (hn:l.length≤1048576) (hm:sumS l≤1048576) (hk:labsN l≤349525):CSz ⟨r,f,t,out⟩:=by
 refine ⟨Nat.le_trans h.n hn,?_,Nat.le_trans h.k hk,fun s hs=>?_⟩
 ·have:=Kiw out;have:=h.m;dsimp only;omega
 ·have h1:s.samples.length+s.windows.length≤sumS out:=Kin hs;have h2:=h.m;obtain ⟨x,hx,e⟩:=h.lab s hs;refine ⟨by omega,by omega,by rw[←e];exact (hz x hx).l,fun y hy=>?_,fun y hy=>?_,by rw[←e];exact (hz x hx).z⟩
  ·obtain ⟨z,hz',e'⟩:=h.smp s hs y hy;exact (hz z hz').v y e'
  ·obtain ⟨z,hz',e'⟩:=h.wnd s hs y hy;exact (hz z hz').b y e'
theorem Kwt:∀l:List Ser,ascS l→ordS l=true
 | [],_=>rfl
 | [_],_=>rfl
 | a :: b :: l,h=>by
  obtain ⟨h1,h2⟩:=List.pairwise_cons.1 h;unfold ordS;rw[Kwt (b :: l) h2,decide_eq_true (h1 b (List.mem_cons_self ..))];rfl
theorem Qck {fS:Ser→Smp→Bool} {fW:Ser→Wnd→Bool} {l:List Ser} (h:ascS l):ascS (keptF fS fW l):=by
 unfold keptF ascS;refine List.Pairwise.filter _ ?_;rw[List.pairwise_map];exact h
theorem Qay {r:Int} {ghs:List (Hd4×GoneP)} {l:List Ser} (h:ascS l):ascS (Kbm r ghs l):=by
 unfold Kbm
 split
 ·exact Qck h
 ·exact List.Pairwise.nil
theorem Kne:∀{l:List Wnd} {a:Wnd} {first:Bool},Kdf a first l=true→∀w∈l,WndOk w
 | [],_,_,_,w,hw=>by simp at hw
 | x :: l,a,first,h,w,hw=>by
  unfold Kdf at h;rw[Bool.and_eq_true,decide_eq_true_eq,Khq] at h;rcases List.mem_cons.1 hw with rfl | hw
  ·exact h.1.1
  ·exact Kne h.2 w hw
theorem Knd:∀{l:List Wnd} {a:Wnd} {first:Bool},(∀w∈l,WndOk w)→(first=true∨∀w∈l,a.start < w.start)→(l.Pairwise fun x y=>x.start < y.start)→Kdf a first l=true
 | [],_,_,_,_,_=>rfl
 | x :: l,a,first,h1,h2,h3=>by
  obtain ⟨p1,p2⟩:=List.pairwise_cons.1 h3;unfold Kdf;rw[Bool.and_eq_true,decide_eq_true_eq,Khq];exact ⟨⟨h1 x (List.mem_cons_self ..),h2.imp id fun h=>h x (List.mem_cons_self ..)⟩,Knd (fun w hw=>h1 w (List.mem_cons_of_mem _ hw)) (.inr p1) p2⟩
theorem Kqo {f t:Int} {l:List Int} (h0:l≠[]) (h1:∀x∈l,f≤x∧x < t) (h2:l.Pairwise fun a b=>a < b):Kci f t l=true:=by
 unfold Kci;rw[Bool.and_eq_true,Bool.and_eq_true,decide_eq_true_eq,List.all_eq_true];exact ⟨⟨h0,fun x hx=>by rw[Bool.and_eq_true,decide_eq_true_eq,decide_eq_true_eq];exact h1 x hx⟩,Kir.2 h2⟩
theorem Kqn {f t:Int} {l:List Int} (h:Kci f t l=true) {x:Int} (hx:x∈l):f≤x∧x < t:=by
 unfold Kci at h;rw[Bool.and_eq_true,Bool.and_eq_true,List.all_eq_true] at h;have:=h.1.2 x hx;rw[Bool.and_eq_true,decide_eq_true_eq,decide_eq_true_eq] at this;exact this
theorem Kxj {c:Cont} {s:Ser} (h:Kcx c s=true) {y:Smp} (hy:y∈s.samples):c.frm≤y.t∧y.t < c.to_:=by
 unfold Kcx at h
 split at h
 ·rw[Bool.and_eq_true] at h;exact Kqn h.2 (List.mem_map_of_mem hy)
 ·rw[Bool.and_eq_true,Bool.and_eq_true,decide_eq_true_eq] at h;rw[List.eq_nil_of_length_eq_zero h.1.2] at hy;simp at hy
theorem Kxk {c:Cont} {s:Ser} (h:Kcx c s=true) {y:Wnd} (hy:y∈s.windows):(c.frm≤y.start∧y.start < c.to_)∧WndOk y:=by
 unfold Kcx at h
 split at h
 ·rw[Bool.and_eq_true,decide_eq_true_eq] at h;rw[List.eq_nil_of_length_eq_zero h.1] at hy;simp at hy
 ·rw[Bool.and_eq_true,Bool.and_eq_true] at h;exact ⟨Kqn h.2 (List.mem_map_of_mem hy),Kne h.1.1 y hy⟩
theorem Kzt {r f t:Int} (hr:0≤r∧r < 3) (hf:0≤f) (hft:f < t) (ht:t≤1125899906842625) (ghs:List (Hd4×GoneP)) {l:List Ser} (hl:ascS l)
  (hs:∀s∈l,Kcr s.labels=true∧(s.samples.Pairwise fun a b=>a.t < b.t)∧(s.windows.Pairwise fun a b=>a.start < b.start)∧(r=0→∀y∈s.samples,f≤y.t∧y.t < t)∧(r≠0→∀y∈s.windows,(f≤y.start∧y.start < t)∧WndOk y)) :
  fitB ⟨r,f,t,Kbm r ghs l⟩=true:=by
 rw[Kcn];refine ⟨hr.1,hr.2,hf,hft,ht,fun s hm=>?_,Kwt _ (Qay hl)⟩;dsimp only at hm;unfold Kbm at hm;rw[if_pos hr] at hm;obtain ⟨x,hx,rfl,hg⟩:=Kil hm;obtain ⟨h1,h2,h3,h4,h5⟩:=hs x hx;refine ⟨h1,?_⟩;rw[Kdi] at hg;unfold Kcx;dsimp only
 by_cases h0:r=0
 ·subst h0;rw[if_pos rfl]
  have hw:(keepS (fun s y=>decide ((0:Int).toNat=0) && !Kcj ghs (0:Int).toNat s.labels y.t) (fun s y=>decide ((0:Int).toNat≠0) && !Kcj ghs (0:Int).toNat s.labels y.start) x).windows = []:=by
   unfold keepS;dsimp only;rw[List.filter_eq_nil_iff];intro y _;simp
  rw[hw,Bool.and_eq_true];rw[hw] at hg;refine ⟨by simp,Kqo (fun e=>?_) (fun z hz=>?_) ?_⟩
  ·rw[List.map_eq_nil_iff] at e;rw[e] at hg;simp at hg
  ·obtain ⟨y,hy,rfl⟩:=List.mem_map.1 hz;exact h4 rfl y (List.mem_filter.1 hy).1
  ·rw[List.pairwise_map];exact h2.filter _
 ·rw[if_neg h0];have hn:r.toNat≠0:=by omega
  have hw:(keepS (fun s y=>decide (r.toNat=0) && !Kcj ghs r.toNat s.labels y.t) (fun s y=>decide (r.toNat≠0) && !Kcj ghs r.toNat s.labels y.start) x).samples = []:=by
   unfold keepS;dsimp only;rw[List.filter_eq_nil_iff];intro y _;rw[decide_eq_false hn];simp
  rw[hw,Bool.and_eq_true,Bool.and_eq_true];rw[hw] at hg;refine ⟨⟨Knd (fun y hy=>(h5 h0 y (List.mem_filter.1 hy).1).2) (.inl rfl) (h3.filter _),by simp⟩,Kqo (fun e=>?_) (fun z hz=>?_) ?_⟩
  ·rw[List.map_eq_nil_iff] at e;rw[e] at hg;simp at hg
  ·obtain ⟨y,hy,rfl⟩:=List.mem_map.1 hz;exact (h5 h0 y (List.mem_filter.1 hy).1).1
  ·rw[List.pairwise_map];exact h3.filter _
theorem Klx:∀(l:List Cont) (a b:Int),l.foldl (fun a x=>min a x.frm) a≤a∧(∀x∈l,l.foldl (fun a x=>min a x.frm) a≤x.frm)∧(b≤a→(∀x∈l,b≤x.frm)→b≤l.foldl (fun a x=>min a x.frm) a)
 | [],a,b=>⟨Int.le_refl _,fun x h=>by simp at h,fun h _=>h⟩
 | c :: l,a,b=>by
  obtain ⟨h1,h2,h3⟩:=Klx l (min a c.frm) b;rw[List.foldl_cons];refine ⟨by omega,fun x hx=>?_,fun hb hx=>h3 (by have:=hx c (List.mem_cons_self ..);omega) fun x h=>hx x (List.mem_cons_of_mem _ h)⟩;rcases List.mem_cons.1 hx with rfl | hx
  ·omega
  ·exact h2 x hx
theorem Klw:∀(l:List Cont) (a b:Int),a≤l.foldl (fun a x=>max a x.to_) a∧(∀x∈l,x.to_≤l.foldl (fun a x=>max a x.to_) a)∧(a≤b→(∀x∈l,x.to_≤b)→l.foldl (fun a x=>max a x.to_) a≤b)
 | [],a,b=>⟨Int.le_refl _,fun x h=>by simp at h,fun h _=>h⟩
 | c :: l,a,b=>by
  obtain ⟨h1,h2,h3⟩:=Klw l (max a c.to_) b;rw[List.foldl_cons];refine ⟨by omega,fun x hx=>?_,fun hb hx=>h3 (by have:=hx c (List.mem_cons_self ..);omega) fun x h=>hx x (List.mem_cons_of_mem _ h)⟩;rcases List.mem_cons.1 hx with rfl | hx
  ·omega
  ·exact h2 x hx
theorem Kou {cs:List Cont} {c:Cont} (h:c∈cs):(outC cs).2.1≤c.frm∧c.to_≤(outC cs).2.2:=by
 cases cs with
 | nil=>simp at h
 | cons a l=>
  unfold outC;dsimp only;have h1:=Klx l a.frm 0;have h2:=Klw l a.to_ 0;rcases List.mem_cons.1 h with rfl | h
  ·exact ⟨h1.1,h2.1⟩
  ·exact ⟨h1.2.1 c h,h2.2.1 c h⟩
theorem Qel {cs:List Cont} (hne:cs≠[]) (b:Int) (h:∀c∈cs,b≤c.frm):b≤(outC cs).2.1:=by
 cases cs with
 | nil=>exact absurd rfl hne
 | cons a l=>exact (Klx l a.frm b).2.2 (h a (List.mem_cons_self ..)) fun x hx=>h x (List.mem_cons_of_mem _ hx)
theorem Qem {cs:List Cont} (hne:cs≠[]) (b:Int) (h:∀c∈cs,c.to_≤b):(outC cs).2.2≤b:=by
 cases cs with
 | nil=>exact absurd rfl hne
 | cons a l=>exact (Klw l a.to_ b).2.2 (h a (List.mem_cons_self ..)) fun x hx=>h x (List.mem_cons_of_mem _ hx)
theorem Kgl {cs:List Cont} (h:okAll cs=true) {c:Cont} (hc:c∈cs):fitB c=true∧c.res=(outC cs).1:=by
 have:=List.all_eq_true.1 h c hc;rw[Bool.and_eq_true,decide_eq_true_eq] at this;exact this
theorem Kxl {cs:List Cont} (hne:cs≠[]) (hok:okAll cs=true) (ghs:List (Hd4×GoneP)) :
  fitB ⟨(outC cs).1,(outC cs).2.1,(outC cs).2.2,Kbm (outC cs).1 ghs (Kan (cs.map Cont.series).flatten)⟩=true:=by
 obtain ⟨c,hc⟩:=List.exists_mem_of_ne_nil cs hne;have hin:=Kou hc;have hcf:=Kgl hok hc;have hfit:=(Kcn.1 hcf.1);have hM:=Keb (cs.map Cont.series).flatten
 have hfrom:∀{x:Ser},x∈(cs.map Cont.series).flatten→∃c∈cs,x∈c.series:=fun {x} hx=>by
  obtain ⟨L,hL,hx⟩:=List.mem_flatten.1 hx;obtain ⟨c,hc,rfl⟩:=List.mem_map.1 hL;exact ⟨c,hc,hx⟩
 refine Kzt ⟨by rw[←hcf.2];exact hfit.1,by rw[←hcf.2];exact hfit.2.1⟩ (Qel hne 0 fun d hd=>(Kcn.1 (Kgl hok hd).1).2.2.1) ?_ (Qem hne _ fun d hd=>(Kcn.1 (Kgl hok hd).1).2.2.2.2.1) ghs hM.asc fun s hs=>?_
 ·have:=hfit.2.2.2.1;omega
 ·obtain ⟨h1,h2,h3⟩:=(hM.mem s).1 hs;refine ⟨?_,by rw[h2];exact (Kio Smp.t _).asc,by rw[h3];exact (Kio Wnd.start _).asc,fun _ y hy=>?_,fun _ y hy=>?_⟩
  ·obtain ⟨x,hx,e⟩:=Kwm hM hs;obtain ⟨d,hd,hxd⟩:=hfrom hx;rw[←e];exact ((Kcn.1 (Kgl hok hd).1).2.2.2.2.2.1 x hxd).1
  ·obtain ⟨x,hx,_,e⟩:=Kwn hM hs hy;obtain ⟨d,hd,hxd⟩:=hfrom hx;have q:=Kxj ((Kcn.1 (Kgl hok hd).1).2.2.2.2.2.1 x hxd).2 e;have q2:=Kou hd;omega
  ·obtain ⟨x,hx,_,e⟩:=Kwo hM hs hy;obtain ⟨d,hd,hxd⟩:=hfrom hx;have q:=Kxk ((Kcn.1 (Kgl hok hd).1).2.2.2.2.2.1 x hxd).2 e;have q2:=Kou hd;exact ⟨by omega,q.2⟩
end
section
open Go.Shelf Go.RowKit Go.Lib Go.Sort
open Lib renaming hid → Jh
open List renaming length_append → Jd
attribute [local go_sem ↓] Go.wp_at_zero Go.wp_at_succ
attribute [local go_sem] Later.cell
section
set_option maxHeartbeats 4000000
set_option maxRecDepth 100000
structure SSz (l:List Ser):Prop where
 n:l.length≤1048576
 m:sumS l≤1048576
 k:labsN l≤349525
 z:∀s∈l,SerSz s
theorem SSz.sub {l out:List Ser} (h:SSz l) (hs:SubS l out):SSz out:=by
 refine ⟨Nat.le_trans hs.n h.n,Nat.le_trans hs.m h.m,Nat.le_trans hs.k h.k,?_⟩;exact (CSz.of_sub (r:=0) (f:=0) (t:=0) hs h.z h.n h.m h.k).z
theorem SSz.csz {l:List Ser} (h:SSz l) (r f t:Int):CSz ⟨r,f,t,l⟩:=⟨h.n,by have h1:=h.m;rw[Kiw] at h1;exact h1,h.k,h.z⟩
theorem SSz.sersz {w:World} {A:Option Addr} {n:Nat} {l:List Ser} (h:SSz l) (hs:Sers w A n l):SersZ w A n l:=by
 have hn:=h.n;refine ⟨hs,fun s hm=>?_,by rw[←hs.len];omega⟩;have h1:=Kin hm;have h2:=h.m;exact ⟨(h.z s hm).l,by omega,by omega⟩
theorem SSz.ok {w:World} {A:Option Addr} {n:Nat} {l:List Ser} (h:SSz l) (hs:Sers w A n l):Ket w A n l:=⟨hs,by have:=h.n;omega,h.z⟩
def allF (res:Int) (ss:List Ser):List Ser:=Kbm res [] (Kan ss)
def clipF (a b:Int) (l:List Ser):List Ser:=keptF (fun _ x=>inR a b x.t) (fun _ x=>inR a b x.start) l
def Kbt (res width:Int) (l:List Ser) (f:Int):Cont:=⟨res,f,min (f+width) 1125899906842625,clipF f (min (f+width) 1125899906842625 - 1) l⟩
theorem Qdt (res:Int) (ss:List Ser):SubS ss (allF res ss):=(Kgp ss).trans (Kqj res [] _)
theorem Qcq {w:World} {A:Option Addr} {n c:Nat} {ss:List Ser} (h:Sers w A n ss) (hc:n≤c) (hz:∀s∈ss,s.labels.length≤1099511627776) {w1:World} (hw1:w1=w.alloc (.cells #[.slice A n c] 26)) :
  Lists w1 (some ⟨w.heap.size,0,none⟩) 1 [⟨A,n,c⟩] [ss]:=by
 have hb:Below w.heap.size w w1:=by rw[hw1];exact (Below.refl _ _).alloc (Nat.le_refl _) _
 have hB:Blk w1 w.heap.size 26 #[.slice A n c]:=by rw[hw1];exact Blk.new _ _ _
 refine ⟨⟨rfl,fun _=>⟨w.heap.size,0,rfl,hB.lt,fun i x hx j v hv=>?_⟩⟩,rfl,fun i hd hi=>?_,fun L hL s hs=>?_⟩
 ·cases i with
  | zero=>
   simp only[List.getElem?_cons_zero,Option.some.injEq] at hx;subst hx;rw[hB.cell];simpa[Kbp] using hv
  | succ i=>simp at hx
 ·cases i with
  | zero=>
   simp only[List.getElem?_cons_zero,Option.some.injEq] at hi;subst hi;exact ⟨h.below hb,hc⟩
  | succ i=>simp at hi
 ·rw[List.mem_singleton] at hL;subst hL;exact hz s hs
theorem Qaw {width:Int} (hw:1≤width) {ts L:List Int} (h:Kff width ts L) {x:Int} (hx:x∈L):0≤x∧x≤1125899906842624:=by
 obtain ⟨t,ht,rfl⟩:=List.mem_map.1 ((h.mem x).1 hx);have:=Khz.1 (List.mem_filter.1 ht).2;have:=Kks t width this.1 hw;omega
theorem Kyr {width:Int} {ts L:List Int} (h:Kff width ts L):L.length≤ts.length:=by
 refine Nat.le_trans (Khh L (Kbs width ts) ?_ fun x hx=>(h.mem x).1 hx) (Kei width ts);exact h.asc.imp fun hab e=>by omega
theorem Kxt:(Tryz.prog.info? 28).map (fun i=>(i.zero,i.size,i.bytes))=some (some (.agg #[.int .i64 0,.int .i64 0,.int .i64 0,.slice none 0 0]),4,48):=by kernel_rfl
structure Gath (w:World) (q:Nat) (v:Value) (xs:List CH) (cs:List Cont):Prop where
 row:w.ownsRow q 28 4 v xs.length (xs.flatMap encCH)
 l:cs.length=xs.length
 k:∀(i:Nat) (x:CH),xs[i]? = some x→(cs[i]!.res=x.r∧cs[i]!.frm=x.f∧cs[i]!.to_=x.t)∧SSz cs[i]!.series∧∃B,Kbf w B x.h.A x.h.n x.h.c cs[i]!.series
theorem Gath.nil (w:World) (q:Nat):Gath w q (.slice none 0 0) [] []:=⟨World.ownsRow_nil _ _ _ _,rfl,fun i x h=>by simp at h⟩
theorem Gath.below {w w':World} {q:Nat} {v:Value} {xs:List CH} {cs:List Cont} (h:Gath w q v xs cs) (hb:Below w.heap.size w w'):Gath w' q v xs cs:=
 ⟨Kaq h.row hb,h.l,fun i x hi=>⟨(h.k i x hi).1,(h.k i x hi).2.1,by obtain ⟨B,h1⟩:=(h.k i x hi).2.2;exact ⟨B,h1.below hb⟩⟩⟩
theorem Gath.more {w w':World} {q:Nat} {v v':Value} {xs:List CH} {cs:List Cont} (h:Gath w q v xs cs) (hg:w.grownBy w' v.ownBlock) {x:CH} {c:Cont} (hrow:w'.ownsRow q 28 4 v' (xs.length+1) (xs.flatMap encCH++encCH x))
  (h1:c.res=x.r∧c.frm=x.f∧c.to_=x.t) (h2:SSz c.series) {B:Nat} (h3:Kbf w B x.h.A x.h.n x.h.c c.series):Gath w' q v' (xs ++ [x]) (cs ++ [c]):=by
 have hfr:∀{B:Nat} {A:Option Addr} {n k:Nat} {L:List Ser},Kbf w B A n k L→Kbf w' B A n k L:=fun {B A n k L} h0=>h0.grown hg fun r e=>by
  obtain ⟨cur,hc⟩:=Kav h.row e;exact ⟨_,cur,hc,by decide,by decide,by decide,by decide⟩
 refine ⟨by rw[Jd,List.flatMap_append,List.flatMap_singleton];exact hrow,by rw[Jd,Jd,h.l];rfl,fun i y hi=>?_⟩
 by_cases hl:i < xs.length
 ·rw[List.getElem?_append_left hl] at hi
  have e:(cs ++ [c])[i]! = cs[i]!:=by
   rw[getElem!_pos _ _ (by rw[Jd,h.l];omega),getElem!_pos cs i (by rw[h.l];exact hl),List.getElem_append_left]
  rw[e];obtain ⟨a1,a2,B2,a3⟩:=h.k i y hi;exact ⟨a1,a2,B2,hfr a3⟩
 ·have hil:i=xs.length:=by
   have:=(List.getElem?_eq_some_iff.1 hi).1;rw[Jd,List.length_singleton] at this;omega
  subst hil;rw[List.getElem?_append_right (Nat.le_refl _),Nat.sub_self] at hi;simp only[List.getElem?_cons_zero,Option.some.injEq] at hi;subst hi
  have e:(cs ++ [c])[xs.length]! = c:=by
   rw[←h.l,getElem!_pos _ _ (by rw[Jd];simp),List.getElem_append_right (Nat.le_refl _)];simp
  rw[e];exact ⟨h1,h2,B,hfr h3⟩
theorem Gath.conts {w:World} {q n c:Nat} {A:Option Addr} {xs:List CH} {cs:List Cont} (h:Gath w q (.slice A n c) xs cs) (hn:xs.length=n) (hz:n≤1048576):Kdr w A n xs cs∧n≤c:=by
 obtain ⟨A1,c1,e1,hE,_,hc⟩:=Elems.of_own (xs:=xs) (enc:=encCH) (fun _ _=>rfl) rfl h.row rfl;injection e1 with e1 e2 e3;subst e1 e3;rw[hn] at hE hc;refine ⟨⟨hE,by rw[h.l,hn],fun i x hi=>?_,fun c hc=>?_,hz⟩,hc⟩
 ·obtain ⟨a1,a2,B,a3⟩:=h.k i x hi;exact ⟨a1.1,a1.2.1,a1.2.2,a2.ok a3.sers.1,a3.sers.2⟩
 ·obtain ⟨i,hi,rfl⟩:=List.getElem_of_mem hc;obtain ⟨x,hx⟩:∃x,xs[i]? = some x:=⟨xs[i]'(by rw[←h.l];exact hi),List.getElem?_eq_getElem _⟩;have:=(h.k i x hx).2.1;rw[getElem!_pos cs i hi] at this;exact this.csz _ _ _
def Qbm (res width:Int) (all:List Ser) (w:World) (e:Ending) (w':World):Prop:=
   ((¬(1≤width∧width≤1099511627776)∧e = .returned (.tuple #[.slice none 0 0,.int .i64 100]))∨
    ((1≤width∧width≤1099511627776)∧¬(0≤res∧res < 3)∧e = .returned (.tuple #[.slice none 0 0,.int .i64 190]))∨
    ((1≤width∧width≤1099511627776)∧(0≤res∧res < 3)∧∃L,Kff width (Kas all) L∧
     ((((L.map (Kbt res width all)).all fitB=false)∧e = .returned (.tuple #[.slice none 0 0,.int .i64 190]))∨
     (((L.map (Kbt res width all)).all fitB=true)∧∃(A':Option Addr) (n' c':Nat) (xs:List CH),e = .returned (.tuple #[.slice A' n' c',.int .i64 0])∧Kdr w' A' n' xs (L.map (Kbt res width all))∧n'≤c'))))∧Below w.heap.size w w'
theorem Kvu (res width:Int) (A:Option Addr) (n c:Nat) (ss:List Ser) (w:World) (hS:Sers w A n ss) (hc:n≤c) (hz:SSz ss) (hE:BEnv w) :
  Calls Tryz.prog 20 #[.int .i64 res,.int .i64 width,.slice A n c] w (Qbm res width (allF res ss) w):=by
 by_cases hw:1≤width∧width≤1099511627776
 ·have hst:Kbh 0 width=(0,0):=by rw[Kbh,if_neg (by omega),if_neg (by omega)];simp
  have HST:Hid (∀W,Calls Tryz.prog 49 #[.int .i64 0,.int .i64 width] W fun e w'=>e = .returned (.tuple #[.int .i64 0,.int .i64 0])∧w'=W):=fun W=>by
   have:=Kfp 0 width W;rw[hst] at this;exact this
  have HW:=Jh hw;clear hst
  by_cases hr:0≤res∧res < 3
  ·obtain ⟨hr1,hr2⟩:=hr;have hw0:=hw.1;have hw02:=hw.2;have HR:Hid (0≤res∧res < 3):=⟨hr1,hr2⟩;have HS:=Jh hS;have HZ:=Jh hz;have HE:=Jh hE;obtain ⟨all,hall⟩:∃x,x=allF res ss:=⟨_,rfl⟩;have HALL:Hid (all=Kbm res [] (Kan ss)):=hall;have HZA:Hid (SSz all):=by show SSz _;rw[hall];exact hz.sub (Qdt res ss)
   rw[←hall]
   have HMG:Hid (Calls Tryz.prog 24 #[.slice (some ⟨w.heap.size,0,none⟩) 1 1] (w.alloc (.cells #[.slice A n c] 26)) fun e w'=>∃(A':Option Addr) (n' c':Nat),e = .returned (.slice A' n' c')∧Sers w' A' n' (Kan ss)∧n'≤c'∧Below (w.alloc (.cells #[.slice A n c] 26)).heap.size (w.alloc (.cells #[.slice A n c] 26)) w'):=by
    have:=Kpv (some ⟨w.heap.size,0,none⟩) 1 1 [⟨A,n,c⟩] [ss] (Qcq hS hc (fun s hs=>(hz.z s hs).l) rfl) (by decide) (by simp;have:=hz.n;omega) (by simp;have:=hz.m;omega);show Calls _ _ _ _ _
    simpa using this
   have HB1:Hid (Below w.heap.size w (w.alloc (.cells #[.slice A n c] 26))):=(Below.refl _ _).alloc (Nat.le_refl _) _;clear hS hz hE hall hw;go_enter Tryz.func20,Tryz.ntmps20
   go_wp2_with fail
   refine (HST.out _).mono ?_;rintro _ w1 ⟨rfl,hw1⟩;have hw1:=hw1.symm;subst hw1;clear HST;go_wp2_with fail
   refine HMG.out.mono ?_;rintro _ w2 ⟨A2,n2,c2,rfl,hs2,hc2,hb2⟩;have HS2:Hid (SersZ w2 A2 n2 (Kan ss)):=(HZ.out.sub (Kgp ss)).sersz hs2;have HB2:Hid (Below w.heap.size w w2):=HB1.out.trans (hb2.mono HB1.out.size);clear hs2 hc2 hb2 HB1 HMG;go_wp2_with fail
   refine (Klm res A2 n2 c2 (Kan ss) none 0 0 [] w2 HS2.out ⟨Elems.nil_,fun x hx=>by simp at hx,by omega⟩).mono ?_;rintro _ w3 ⟨A3,n3,c3,rfl,hs3,hc3,hb3⟩;rw[←HALL.out] at hs3;have HS3:Hid (Sers w3 A3 n3 all):=hs3;have HB3:Hid (Below w.heap.size w w3):=HB2.out.trans (hb3.mono HB2.out.size);clear hs3 hc3 hb3 HB2 HS2;go_wp2_with fail
   refine (Ktn width HW.out A3 n3 c3 all w3 (HZA.out.sersz HS3.out) (by have:=HZA.out.m;omega)).mono ?_;rintro _ w4 ⟨A4,n4,c4,L,rfl,hL,hLl,hE4,_,hb4⟩;have HL:=Jh hL;have HLL:=Jh hLl;have HE4:=Jh hE4;have HS4:Hid (Sers w4 A3 n3 all):=HS3.out.below hb4;have HB4:Hid (Below w.heap.size w w4):=HB3.out.trans (hb4.mono HB3.out.size)
   have hn4:n4≤1048576:=by
    have h1:=Kyr hL;have h2:=HZA.out.m;rw[Kfc] at h1;omega
   have HG:Hid (Gath w4 w4.heap.size (.slice none 0 0) [] ((L.take 0).map (Kbt res width all))):=Gath.nil _ _;have HOK:Hid (((L.take 0).map (Kbt res width all)).all fitB=true):=rfl;have HBQ:Hid (Below w4.heap.size w4 w4):=Below.refl _ _;clear hL hLl hE4 hb4 HS3 HB3;go_wp2_with fail
   go_loopg [11,41] n4 (fun kx s11 s41 wr=>∃(i:Nat) (xs:List CH),s41 = .int .i64 (i:Int)∧i+kx=n4∧Hid (xs.length=i)∧Hid (Below w4.heap.size w4 wr)∧Hid (Gath wr w4.heap.size s11 xs ((L.take i).map (Kbt res width all)))∧Hid (((L.take i).map (Kbt res width all)).all fitB=true))
   case atStart=>exact ⟨0,[],rfl,by omega,rfl,HBQ,HG,HOK⟩
   case round=>
    clear HBQ HG HOK;obtain ⟨i,xs,rfl,hi,HXL,HB,HG,HOK⟩:=hrel;obtain ⟨A7,c7,hv7⟩:=Kar HG.out.row;rw[HXL.out] at hv7;subst hv7;rcases Nat.lt_or_ge i n4 with hlt | hge
    ·have hlz:(i:Int) < (n4:Int):=by omega
     obtain ⟨b0,off0,hA0,hb0,hc0⟩:=HE4.out.2 (by omega);obtain ⟨f,hf⟩:∃f,L[i]? = some f:=⟨L[i]'(by rw[HLL.out];exact hlt),List.getElem?_eq_getElem _⟩;have hfm:f∈L:=List.mem_of_getElem? hf;obtain ⟨hf1,hf2⟩:=Qaw hw0 HL.out hfm
     have k0:wr.cell? ⟨b0,off0+i,none⟩=some (.int .i64 f):=by
      have:=(HB.out.cell (p:=⟨b0,off0+i*1+0,none⟩) hb0).trans (hc0 i f hf 0 _ rfl);simpa using this
     have hbl:b0 < wr.heap.size:=Nat.lt_of_lt_of_le hb0 HB.out.size;obtain ⟨cc,hcc⟩:∃cc,cc=Kbt res width all f:=⟨_,rfl⟩
     have HTK:Hid ((L.take (i+1)).map (Kbt res width all)=(L.take i).map (Kbt res width all) ++ [cc]):=by
      show _=_
      rw[List.take_add_one,hf,List.map_append,hcc];rfl
     obtain ⟨to_,hto⟩:∃x,x=min (f+width) 1125899906842625:=⟨_,rfl⟩;have HCC:Hid (cc.res=res∧cc.frm=f∧cc.to_=to_∧cc.series=clipF f (to_ - 1) all):=by show _∧_;rw[hcc,hto];exact ⟨rfl,rfl,rfl,rfl⟩
     have hto1:f < to_∧to_≤1125899906842625:=by omega
     have HCM:Hid (cc∈L.map (Kbt res width all)):=by show _∈_;rw[hcc];exact List.mem_map_of_mem hfm
     have HZC:Hid (SSz cc.series):=by show SSz _;rw[HCC.out.2.2.2];exact HZA.out.sub (Ksp _ _ all)
     have HSC:Hid (∀W,Below wr.heap.size wr W→Calls Tryz.prog 23 #[.slice A3 n3 c3,.int .i64 f,.int .i64 (to_ - 1)] W fun e w'=>∃(A':Option Addr) (n' c':Nat),e = .returned (.slice A' n' c')∧Kbf w' W.heap.size A' n' c' cc.series∧n'≤c'∧Below W.heap.size W w'):=fun W hW=>by
      rw[HCC.out.2.2.2];exact Kte f (to_ - 1) A3 n3 c3 all W (HZA.out.sersz ((HS4.out.below HB.out).below hW))
     have HBE:Hid (BEnv wr):=HE.out.below (HB4.out.trans (HB.out.mono HB4.out.size));subst hA0;clear hc0 hb0 hf hfm hcc;go_upto_region 11 with fail
     clear k0 hbl;have HTO:Hid (min (f+width) 1125899906842625=to_):=hto.symm;clear hto;go_upto_region 12 with fail
     try rw[HTO.out]
     go_wp2_with fail
     refine (HSC.out wr (Below.refl _ _)).mono ?_;rintro _ w5 ⟨A5,n5,c5,rfl,hso5,hc5,hb5⟩;have HB5:Hid (Below w4.heap.size w4 w5):=HB.out.trans (hb5.mono HB.out.size);have HG5:Hid (Gath w5 w4.heap.size (.slice A7 i c7) xs ((L.take i).map (Kbt res width all))):=HG.out.below hb5;have HBE5:Hid (BEnv w5):=HBE.out.below hb5;obtain ⟨w6,hw6⟩:∃y,y=w5.alloc (.cells #[.int .i64 res,.int .i64 f,.int .i64 to_,.slice A5 n5 c5] 28):=⟨_,rfl⟩;obtain ⟨p6,hp6⟩:∃y,y=w5.heap.size:=⟨_,rfl⟩;have hb6:Below w5.heap.size w5 w6:=by rw[hw6];exact (Below.refl _ _).alloc (Nat.le_refl _) _
     have HX6:Hid (Blk w6 p6 28 #[.int .i64 res,.int .i64 f,.int .i64 to_,.slice A5 n5 c5]):=by show Blk _ _ _ _;rw[hw6,hp6];exact Blk.new _ _ _
     have HB6:Hid (Below w4.heap.size w4 w6):=HB5.out.trans (hb6.mono HB5.out.size);have HG6:Hid (Gath w6 w4.heap.size (.slice A7 i c7) xs ((L.take i).map (Kbt res width all))):=HG5.out.below hb6;have HSO6:Hid (Kbf w6 wr.heap.size A5 n5 c5 cc.series):=hso5.below hb6;obtain ⟨er,her⟩:∃er:Int,er=(if fitB cc=true then (0:Int) else 190):=⟨_,rfl⟩
     have HBL:Hid (Calls Tryz.prog 19 #[.agg #[.int .i64 res,.int .i64 f,.int .i64 to_,.slice A5 n5 c5]] w6 fun e w'=>(∃S0 S1 S2,e = .returned (.tuple #[.agg #[.string S0,.string S1,.string S2],.int .i64 er]))∧Below w6.heap.size w6 w'):=by
      have:=Klu cc A5 n5 c5 w6 (HZC.out.ok HSO6.out.sers.1) (HZC.out.csz cc.res cc.frm cc.to_) (HBE5.out.below hb6);rw[HCC.out.1,HCC.out.2.1,HCC.out.2.2.1,←her] at this;refine this.mono ?_;rintro e w' ⟨⟨S0,S1,S2,he,_⟩,hb⟩;exact ⟨⟨S0,S1,S2,he⟩,hb⟩
     have HW6:Hid (w6=w5.alloc (.cells #[.int .i64 res,.int .i64 f,.int .i64 to_,.slice A5 n5 c5] 28)∧p6=w5.heap.size):=⟨hw6,hp6⟩;have HER:=Jh her;clear hso5 hc5 hb5 hw6 hp6 hb6 her HB HG HBE HSC HB5 HG5 HBE5;go_upto_region 13 with fail
     try rw[←HW6.out.1]
     try rw[←HW6.out.2]
     clear HW6;have z0:=HX6.out.cell 0;have z1:=HX6.out.cell 1;have z2:=HX6.out.cell 2;have z3:=HX6.out.cell 3;simp at z0 z1 z2 z3;have zl:=HX6.out.lt;go_wp2_with fail
     refine HBL.out.mono ?_;rintro _ w7 ⟨⟨S0,S1,S2,rfl⟩,hb7⟩;clear z0 z1 z2 z3 zl HBL;obtain ⟨w8,hw8⟩:∃y,y=w7.alloc (.cells #[.string S0,.string S1,.string S2] 44):=⟨_,rfl⟩;have hb8:Below w6.heap.size w6 w8:=by rw[hw8];exact hb7.alloc hb7.size _
     have HX8:Hid (Blk w8 p6 28 #[.int .i64 res,.int .i64 f,.int .i64 to_,.slice A5 n5 c5]):=HX6.out.below hb8 HX6.out.lt;have HB8:Hid (Below w4.heap.size w4 w8):=HB6.out.trans (hb8.mono HB6.out.size);have HG8:Hid (Gath w8 w4.heap.size (.slice A7 i c7) xs ((L.take i).map (Kbt res width all))):=HG6.out.below hb8;have HSO8:Hid (Kbf w8 wr.heap.size A5 n5 c5 cc.series):=HSO6.out.below hb8;have HW8:=Jh hw8;clear hb7 hw8 hb8 HX6 HB6 HG6 HSO6;go_upto_region 14 with fail
     try rw[←HW8.out]
     clear HW8
     cases hfit:fitB cc with
     | false=>
      obtain rfl:er=190:=by rw[HER.out,hfit];rfl
      have HALLF:Hid ((L.map (Kbt res width all)).all fitB=false):=List.all_eq_false.2 ⟨cc,HCM.out,by rw[hfit];simp⟩;clear hfit HER;go_wp2_with fail
      go_ret2
      exact ⟨.inr (.inr ⟨HW.out,HR.out,L,HL.out,.inl ⟨HALLF.out,rfl⟩⟩),HB4.out.trans (HB8.out.mono HB4.out.size)⟩
     | true=>
      obtain rfl:er=0:=by rw[HER.out,hfit];rfl
      have HOK9:Hid (((L.take (i+1)).map (Kbt res width all)).all fitB=true):=by
       show _=_
       rw[HTK.out,List.all_append,HOK.out];simp[hfit]
      clear hfit HER HOK;have z0:=HX8.out.cell 0;have z1:=HX8.out.cell 1;have z2:=HX8.out.cell 2;have z3:=HX8.out.cell 3;simp at z0 z1 z2 z3;have zl:=HX8.out.lt;obtain ⟨i1,hi1,hy0,hy1,hy2⟩:=info_parts Kxt;obtain ⟨wa,hwa⟩:∃y,y=w8.alloc (.cells #[.int .i64 res,.int .i64 f,.int .i64 to_,.slice A5 n5 c5] 28):=⟨_,rfl⟩;have hba:Below w8.heap.size w8 wa:=by rw[hwa];exact (Below.refl _ _).alloc (Nat.le_refl _) _
      have hnewa:Blk wa w8.heap.size 28 #[.int .i64 res,.int .i64 f,.int .i64 to_,.slice A5 n5 c5]:=by rw[hwa];exact Blk.new _ _ _
      have HGA:Hid (Gath wa w4.heap.size (.slice A7 i c7) xs ((L.take i).map (Kbt res width all))):=HG8.out.below hba;have hrowa:wa.ownsRow w4.heap.size 28 4 (.slice A7 i c7) i (xs.flatMap encCH):=by have:=HGA.out.row;rw[HXL.out] at this;exact this
      have HSOA:Hid (Kbf wa wr.heap.size A5 n5 c5 cc.series):=HSO8.out.below hba;have HBA:Hid (Below w4.heap.size w4 wa):=HB8.out.trans (hba.mono HB8.out.size);have hza:w4.heap.size≤wa.heap.size:=HBA.out.size;have HROWA:=Jh hrowa;clear hba HX8 HG8 HSO8 HB8;go_wp2_with (at_builtin;(try rw[←hwa]);refine wpList_append_own_at _ rfl _ _ 23 rfl w4.heap.size 28 i1 (.agg #[.int .i64 0,.int .i64 0,.int .i64 0,.slice none 0 0]) 4 48 Tryz.underlying23 hi1 hy0 hy1 hy2 rfl (by decide) (.slice A7 i c7) i _ rfl hrowa ⟨w8.heap.size,0,none⟩ 1 1 [.int .i64 res,.int .i64 f,.int .i64 to_,.slice A5 n5 c5] rfl rfl (Kbg (l:=[.int .i64 res,.int .i64 f,.int .i64 to_,.slice A5 n5 c5]) hnewa) ?p2 ?p3 ?p4 ?p5 ?_)
      case p2=>intro u hu;simp only[List.mem_cons,List.not_mem_nil,or_false] at hu;rcases hu with rfl | rfl | rfl | rfl <;> rfl
      case p3=>unfold maxLen;omega
      case p4=>omega
      case p5=>exact hza
      intro v9 w9 hown' hgrow _ _;rw[←hwa] at hgrow;have HB9:Hid (Below w4.heap.size w4 w9):=HBA.out.grown hgrow hza (fun k hk=>(HROWA.out.lt k hk).1)
      have HG9:Hid (Gath w9 w4.heap.size v9 (xs ++ [⟨res,f,to_,⟨A5,n5,c5⟩⟩]) ((L.take (i+1)).map (Kbt res width all))):=by
       show Gath _ _ _ _ _
       rw[HTK.out];exact HGA.out.more hgrow (x:=⟨res,f,to_,⟨A5,n5,c5⟩⟩) (by rw[HXL.out];exact hown') ⟨HCC.out.1,HCC.out.2.1,HCC.out.2.2.1⟩ HZC.out HSOA.out
      have HXL9:Hid ((xs ++ [(⟨res,f,to_,⟨A5,n5,c5⟩⟩:CH)]).length=i+1):=by show _=_;rw[Jd,HXL.out];rfl
      generalize xs ++ [(⟨res,f,to_,⟨A5,n5,c5⟩⟩:CH)]=xs9 at HG9 HXL9;clear hown' hgrow hrowa hnewa HROWA HBA HSOA HGA hwa hza z0 z1 z2 z3 zl hi1 hy0 hy1 hy2 HTK HCC HCM HZC;go_wp2_with fail
      go_roundg (n4 - (i+1))
      case measure=>omega
      case rel=>exact ⟨i+1,xs9,by first | rfl | go_num,by omega,HXL9,HB9,HG9,HOK9⟩
    ·have hlz:¬(i:Int) < (n4:Int):=by omega
     have hin:i=n4:=by omega
     have htl:L.take i=L:=List.take_of_length_le (by rw[HLL.out];omega);rw[htl] at HG HOK;have HF:Hid (Kdr wr A7 n4 xs (L.map (Kbt res width all))∧n4≤c7):=by have h0:=HG.out.conts HXL.out (by omega);rw[hin] at h0;exact h0
     clear htl HG hw0 hw02 hr1 hr2;go_wp2_with fail
     go_ret2
     exact ⟨.inr (.inr ⟨HW.out,HR.out,L,HL.out,.inr ⟨HOK.out,A7,n4,c7,xs,rfl,HF.out.1,HF.out.2⟩⟩),HB4.out.trans (HB.out.mono HB4.out.size)⟩
  ·have HRN:=Jh hr;clear hS hz hE hw;rcases (by omega:res < 0∨0≤res) with hr1 | hr1
   ·go_enter Tryz.func20,Tryz.ntmps20
    go_wp2_with fail
    refine (HST.out _).mono ?_;rintro _ w1 ⟨rfl,hw1⟩;have hw1:=hw1.symm;subst hw1;clear HST;go_wp2_with fail
    go_ret2
    exact ⟨.inr (.inl ⟨HW.out,HRN.out,rfl⟩),Below.refl _ _⟩
   ·have hr2:3≤res:=by have:=HRN.out;omega
    clear hr;go_enter Tryz.func20,Tryz.ntmps20
    go_wp2_with fail
    refine (HST.out _).mono ?_;rintro _ w1 ⟨rfl,hw1⟩;have hw1:=hw1.symm;subst hw1;clear HST;go_wp2_with fail
    go_ret2
    exact ⟨.inr (.inl ⟨HW.out,HRN.out,rfl⟩),Below.refl _ _⟩
 ·have hst:Kbh 0 width=(0,100):=by rw[Kbh,if_pos (by omega)]
  have HST:Hid (∀W,Calls Tryz.prog 49 #[.int .i64 0,.int .i64 width] W fun e w'=>e = .returned (.tuple #[.int .i64 0,.int .i64 100])∧w'=W):=fun W=>by
   have:=Kfp 0 width W;rw[hst] at this;exact this
  have HWN:=Jh hw;clear hst hS hz hE hw;go_enter Tryz.func20,Tryz.ntmps20
  go_wp2_with fail
  refine (HST.out _).mono ?_;rintro _ w1 ⟨rfl,hw1⟩;have hw1:=hw1.symm;subst hw1;clear HST;go_wp2_with fail
  go_ret2
  exact ⟨.inl ⟨HWN.out,rfl⟩,Below.refl _ _⟩
end
end
section
open Go.ChangeShapes Go.WideShapes Go.ChangeAt Go.RowKit Go.Deep
theorem Kmo:Tryz.prog.cellsOf 88 = 4:=by kernel_rfl
theorem Kxb:Tryz.prog.cellsOf 86 = 3:=by kernel_rfl
theorem Kue:Tryz.prog.cellsOf 85 = 1:=by kernel_rfl
theorem Klb:Tryz.prog.cellsOf 96 = 2:=by kernel_rfl
instance gonePI:Inhabited (Hd4×GoneP):=⟨(⟨⟨none,0,0⟩,⟨none,0,0⟩,⟨none,0,0⟩,⟨none,0,0⟩⟩,⟨[],fun _=>[]⟩)⟩
instance spnI:Inhabited Spn:=⟨⟨0,0⟩⟩
instance chCI:Inhabited (CH×Cont):=⟨(⟨0,0,0,⟨none,0,0⟩⟩,⟨0,0,0,[]⟩)⟩
section
variable {H : Type} {enc : TypeId × Value → H} {w : World} {base : Nat} {spare : Nat → Bool} {held : Bool}
theorem Kyh {fuel:Nat} {l:List Value} {x:DataW H×List MemPlace} (h:DataW.trod enc Tryz.prog w base spare held fuel 96 l=some x):∃y:Spn,l=Kde y∧1≤Rows.uptoBulk x.1:=by
 obtain ⟨xs,n,_,hx,hcl,hlen,hg⟩:=DataW.trod_struct Tryz.underlying96 h;rw[Klb] at hcl
 match l,hcl,xs,hlen with
 | [c0,c1],_,[x0,x1],_=>
  have g0:=hg 0 _ rfl;have g1:=hg 1 _ rfl;simp[Kgb] at g0 g1;obtain ⟨a,e0,_,_⟩:=DataW.trod_int Tryz.underlying2 g0;obtain ⟨b,e1,_,_⟩:=DataW.trod_int Tryz.underlying2 g1;simp at e0 e1;subst e0 e1;exact ⟨⟨a,b⟩,rfl,Kfg _⟩
theorem Khr {fuel:Nat} {v:Value} {x:DataW H×List MemPlace} (h:DataW.trod enc Tryz.prog w base spare held fuel 85 [v]=some x) :
  ∃(hd:Hd) (l:List Spn),v = .slice hd.A hd.n hd.c∧Elems w w.heap.size 2 Kde hd.A hd.n l∧hd.n+1≤Rows.uptoBulk x.1:=by
 obtain ⟨A,n,c,l,rfl,_,h2,h3,ds,sp,hx,hl,hQ⟩:=Kdz (ea:=Kde) (Q:=fun d (_:Spn)=>1≤Rows.uptoBulk d) Tryz.underlying85 Klb (by omega) (fun _=>rfl) (fun _ _ _ h=>Kyh h) h;refine ⟨⟨A,n,c⟩,l,rfl,h3,?_⟩;have:=Kdu (fun _:Spn=>1) hx hl fun i d y hd hy=>hQ i d y hd hy
 rw[Kgx,h3.len] at this;exact this
theorem Qak {fuel:Nat} {l:List Value} {x:DataW H×List MemPlace} (h:DataW.trod enc Tryz.prog w base spare held fuel 88 l=some x):∃y:Hd4×GoneP,l=encHG y∧(1≤Rows.uptoBulk x.1∧(Rows.uptoBulk x.1≤1048576→Kgm w y.1 y.2)):=by
 obtain ⟨xs,n,_,hx,hcl,hlen,hg⟩:=DataW.trod_struct Tryz.underlying88 h;rw[Kmo] at hcl
 match l,hcl,xs,hlen with
 | [c0,c1,c2,c3],_,[x0,x1],_=>
  have g0:=hg 0 _ rfl;have g1:=hg 1 _ rfl;simp[Kmq,Kxb] at g0 g1;obtain ⟨A0,n0,k0,l0,rfl,a1,a2,a3⟩:=Kkc g0;obtain ⟨ys,m,_,hx1,_,hlen1,hf⟩:=DataW.trod_array Tryz.underlying86 g1;rw[Kue] at hf
  match ys,hlen1 with
  | [y0,y1,y2],_=>
   have f0:=hf 0 (by omega);have f1:=hf 1 (by omega);have f2:=hf 2 (by omega);simp at f0 f1 f2;obtain ⟨h1,l1,rfl,b1,b2⟩:=Khr f0;obtain ⟨h2,l2,rfl,d1,d2⟩:=Khr f1;obtain ⟨h3,l3,rfl,e1,e2⟩:=Khr f2;have ha:=a2.len;have hm:=Kjy l0;refine ⟨(⟨⟨A0,n0,k0⟩,h1,h2,h3⟩,⟨l0,fun r=>if r=0 then l1 else if r=1 then l2 else l3⟩),rfl,Kfg _,fun hb=>?_⟩;rw[hx] at hb;simp only[List.map_cons,List.map_nil,Rows.uptoBulk,Rows.uptoBulkAll] at hb;rw[hx1] at hb;simp only[List.map_cons,List.map_nil,Rows.uptoBulk,Rows.uptoBulkAll] at hb;refine ⟨a2,by dsimp only;omega,fun r hr=>?_⟩
   match r,hr with
   | 0,_=>exact ⟨b1,by show h1.n≤_;omega⟩
   | 1,_=>exact ⟨d1,by show h2.n≤_;omega⟩
   | 2,_=>exact ⟨e1,by show h3.n≤_;omega⟩
theorem Kyf {fuel:Nat} {v:Value} {x:DataW H×List MemPlace} (h:DataW.trod enc Tryz.prog w base spare held fuel 22 [v]=some x) :
  ∃A n c ghs,v = .slice A n c∧n≤c∧(Rows.uptoBulk x.1≤1048576→Gones w A n ghs):=by
 obtain ⟨A,n,c,l,rfl,_,h2,h3,ds,sp,hx,hl,hQ⟩:=Kdz (ea:=encHG) (Q:=fun d (y:Hd4×GoneP)=>1≤Rows.uptoBulk d∧(Rows.uptoBulk d≤1048576→Kgm w y.1 y.2)) Tryz.underlying22 Kmo (by omega) (fun _=>rfl) (fun _ _ _ h=>Qak h) h;refine ⟨A,n,c,l,rfl,h2,fun hb=>?_⟩;have hs:=Kdu (fun _:Hd4×GoneP=>1) hx hl fun i d y hd hy=>(hQ i d y hd hy).1
 rw[Kgx,h3.len] at hs;refine ⟨h3,fun y hy=>?_,by omega⟩;obtain ⟨i,hi,rfl⟩:=List.mem_iff_getElem.1 hy;have hd:ds[i]? = some (ds[i]'(by omega)):=List.getElem?_eq_getElem _;refine (hQ i _ l[i] hd (List.getElem?_eq_getElem _)).2 ?_;have hm:Rows.uptoBulk (ds[i]'(by omega))≤(ds.map fun d=>Rows.uptoBulk d).sum:=Kie (fun d=>Rows.uptoBulk d) (List.getElem_mem _);have:=Kdu (fun d:DataW H=>Rows.uptoBulk d) (ys:=ds) hx rfl fun i d y hd hy=>by rw[hd] at hy;injection hy with hy;rw[hy];exact Nat.le_refl _
 omega
theorem Kyg {fuel:Nat} {v:Value} {x:DataW H×List MemPlace} (h:DataW.trod enc Tryz.prog w base spare held fuel 26 [v]=some x) :
  ∃A n c L,v = .slice A n c∧n≤c∧Sers w A n L∧(∀s∈L,(∀x∈s.samples,x.v < 2 ^ 64)∧∀x∈s.windows,Kcl x)∧(L.map Ser.mass).sum+1≤Rows.uptoBulk x.1:=by
 obtain ⟨A,n,c,hs,rfl,_,h2,h3,ds,sp,hx,hl,hQ⟩:=Kdz (ea:=encH3) (Q:=fun d y=>∃s,SerIn w y s∧Ser.mass s≤Rows.uptoBulk d) Tryz.underlying26 Kpl (by omega) (fun _=>rfl) (fun _ _ _ h=>Qcs h) h;have hn:=h3.len
 obtain ⟨f,hf⟩:=choose_lt (α:=Ser) (n:=n) (p:=fun i s=>∀d y,ds[i]? = some d→hs[i]? = some y→SerIn w y s∧Ser.mass s≤Rows.uptoBulk d) (by
  intro i hi;have h1:i < hs.length:=by omega
  have h4:i < ds.length:=by omega
  obtain ⟨l,hl'⟩:=hQ i ds[i] hs[i] (List.getElem?_eq_getElem h4) (List.getElem?_eq_getElem h1);refine ⟨l,fun d y hd hy=>?_⟩;rw[List.getElem?_eq_getElem h4] at hd;rw[List.getElem?_eq_getElem h1] at hy;injection hd with hd;injection hy with hy;subst hd hy
  exact hl')
 have hS:Sers w A n ((List.range n).map f):=⟨hs,h3,by simp,fun i y hy=>by
  have hi:i < n:=by have:=(List.getElem?_eq_some_iff.1 hy).1;omega
  have h4:i < ds.length:=by omega
  obtain ⟨a1,a2⟩:=hf i hi ds[i] y (List.getElem?_eq_getElem h4) hy;rw[getElem!_pos _ i (by simpa using hi)]
  simpa using a1.at_⟩
 refine ⟨A,n,c,(List.range n).map f,rfl,h2,hS,fun s hs9=>?_,?_⟩
 ·obtain ⟨i,hi,rfl⟩:=List.mem_map.1 hs9;have hi:i < n:=List.mem_range.1 hi;have h1:i < hs.length:=by omega
  have h4:i < ds.length:=by omega
  obtain ⟨a1,a2⟩:=hf i hi ds[i] hs[i] (List.getElem?_eq_getElem h4) (List.getElem?_eq_getElem h1);exact ⟨a1.v,a1.b⟩
 ·refine Kdu Ser.mass hx (by simp;omega) fun i d l hd hl'=>?_
  have hi:i < n:=by have:=(List.getElem?_eq_some_iff.1 hl').1;simpa using this
  have e:f i=l:=by simpa[hi] using hl'
  have h1:i < hs.length:=by omega
  rw[←e];exact (hf i hi d hs[i] hd (List.getElem?_eq_getElem h1)).2
theorem Qfd {L:List Ser} (hb:∀s∈L,(∀x∈s.samples,x.v < 2 ^ 64)∧∀x∈s.windows,Kcl x) (hm:(L.map Ser.mass).sum≤1048576):∀s∈L,SerSz s:=fun s hs=>by
 have h5:=Kie Ser.mass hs;have h7:massL s.labels+s.samples.length+s.windows.length+2≤(L.map Ser.mass).sum:=h5;have h6:=Kjy s.labels;refine ⟨by omega,by omega,by omega,(hb s hs).1,(hb s hs).2,fun y hy=>?_⟩;have:=Qad hy;omega
def Cont.mass (c:Cont):Nat:=(c.series.map Ser.mass).sum+2
structure Krm (w:World) (y:CH) (c:Cont):Prop where
 q:c.res=y.r∧c.frm=y.f∧c.to_=y.t
 s:Sers w y.h.A y.h.n c.series
 n:y.h.n≤y.h.c
 b:∀s∈c.series,(∀x∈s.samples,x.v < 2 ^ 64)∧∀x∈s.windows,Kcl x
 i:i64B c.res∧i64B c.frm∧i64B c.to_
theorem Kyd {fuel:Nat} {l:List Value} {x:DataW H×List MemPlace} (h:DataW.trod enc Tryz.prog w base spare held fuel 28 l=some x) :
  ∃y:CH×Cont,l=encCH y.1∧(Krm w y.1 y.2∧Cont.mass y.2≤Rows.uptoBulk x.1):=by
 obtain ⟨xs,n,_,hx,hcl,hlen,hg⟩:=DataW.trod_struct Tryz.underlying28 h;rw[Kmn] at hcl
 match l,hcl,xs,hlen with
 | [c0,c1,c2,c3],_,[x0,x1,x2,x3],_=>
  have g0:=hg 0 _ rfl;have g1:=hg 1 _ rfl;have g2:=hg 2 _ rfl;have g3:=hg 3 _ rfl;simp[Kgb,Kmp,Kxc] at g0 g1 g2 g3;obtain ⟨a,e0,_,wa⟩:=DataW.trod_int Tryz.underlying3 g0;obtain ⟨b,e1,_,wb⟩:=DataW.trod_int Tryz.underlying2 g1;obtain ⟨c,e2,_,wc⟩:=DataW.trod_int Tryz.underlying2 g2;obtain ⟨A,k,cp,L,rfl,k1,k2,k3,k4⟩:=Kyg g3;simp at e0 e1 e2;subst e0 e1 e2;refine ⟨(⟨a,b,c,⟨A,k,cp⟩⟩,⟨a,b,c,L⟩),rfl,⟨⟨rfl,rfl,rfl⟩,k2,k1,k3,Kpe wa,Kpe wb,Kpe wc⟩,?_⟩;rw[hx];simp only[List.map_cons,List.map_nil,Rows.uptoBulk,Rows.uptoBulkAll,Cont.mass];omega
theorem Kqk:∀cs:List Cont,(cs.map Cont.series).flatten.length+sumS (cs.map Cont.series).flatten+3*labsN (cs.map Cont.series).flatten+cs.length≤(cs.map Cont.mass).sum
 | []=>by simp[sumS,labsN]
 | c :: cs=>by
  have h1:=Kqk cs;have h2:=Kjz c.series;have h3:=Kiw c.series;have h4:labsN (c.series++(cs.map Cont.series).flatten)=labsN c.series+labsN (cs.map Cont.series).flatten:=by unfold labsN;simp
  rw[List.map_cons,List.flatten_cons,List.length_append,Kmh,h4,List.map_cons,List.sum_cons,List.length_cons];unfold Cont.mass at h1 ⊢;omega
structure Kwb (w:World) (A:Option Addr) (n:Nat) (xs:List CH) (cs:List Cont):Prop where
 c:Kdr w A n xs cs
 n:(cs.map Cont.series).flatten.length≤1048576
 m:sumS (cs.map Cont.series).flatten≤1048576
 k:labsN (cs.map Cont.series).flatten≤349525
 z:∀s∈(cs.map Cont.series).flatten,SerSz s
theorem Kye {fuel:Nat} {v:Value} {x:DataW H×List MemPlace} (h:DataW.trod enc Tryz.prog w base spare held fuel 23 [v]=some x) :
  ∃A n c xs cs,v = .slice A n c∧n≤c∧(Rows.uptoBulk x.1≤1048576→Kwb w A n xs cs):=by
 obtain ⟨A,n,c,l,rfl,_,h2,h3,ds,sp,hx,hl,hQ⟩:=Kdz (ea:=fun y:CH×Cont=>encCH y.1) (Q:=fun d (y:CH×Cont)=>Krm w y.1 y.2∧Cont.mass y.2≤Rows.uptoBulk d) Tryz.underlying23 Kmn (by omega) (fun _=>rfl) (fun _ _ _ h=>Kyd h) h;refine ⟨A,n,c,l.map Prod.fst,l.map Prod.snd,rfl,h2,fun hb=>?_⟩;have hsum:(l.map fun y=>Cont.mass y.2).sum+1≤Rows.uptoBulk x.1:=Kdu (fun y:CH×Cont=>Cont.mass y.2) hx hl fun i d y hd hy=>(hQ i d y hd hy).2
 have hsum2:((l.map Prod.snd).map Cont.mass).sum+1≤Rows.uptoBulk x.1:=by rw[List.map_map];exact hsum
 have hfl:=Kqk (l.map Prod.snd);have hln:=h3.len
 have hin:∀y∈l,Krm w y.1 y.2:=fun y hy=>by
  obtain ⟨i,hi,rfl⟩:=List.mem_iff_getElem.1 hy;have hd:ds[i]? = some (ds[i]'(by omega)):=List.getElem?_eq_getElem _;exact (hQ i _ l[i] hd (List.getElem?_eq_getElem _)).1
 have hcz:∀y∈l,∀s∈y.2.series,SerSz s:=fun y hy=>by
  refine Qfd (hin y hy).b ?_;have h1:=Kie (fun y:CH×Cont=>Cont.mass y.2) hy;have h2:(y.2.series.map Ser.mass).sum+2≤(l.map fun y=>Cont.mass y.2).sum:=h1;omega
 have hcs:∀y∈l,CSz y.2:=fun y hy=>by
  have h1:=Kie (fun y:CH×Cont=>Cont.mass y.2) hy;have h2:(y.2.series.map Ser.mass).sum+2≤(l.map fun y=>Cont.mass y.2).sum:=h1;have h3:=Kjz y.2.series;exact ⟨by omega,by omega,by omega,hcz y hy⟩
 rw[List.length_map] at hfl;refine ⟨⟨⟨by rw[List.length_map,hln],fun hn=>?_⟩,by rw[List.length_map,hln],fun i y hi=>?_,fun c hc=>?_,by omega⟩,by omega,by omega,by omega,fun s hs=>?_⟩
 ·obtain ⟨b,off,e,hb',hc⟩:=h3.2 hn;refine ⟨b,off,e,hb',fun i y hi j u hu=>?_⟩;rw[List.getElem?_map,Option.map_eq_some_iff] at hi;obtain ⟨z,hz,rfl⟩:=hi;exact hc i z hz j u hu
 ·rw[List.getElem?_map,Option.map_eq_some_iff] at hi;obtain ⟨z,hz,rfl⟩:=hi;have hil:i < l.length:=(List.getElem?_eq_some_iff.1 hz).1;have hzm:=List.mem_of_getElem? hz
  have e:(l.map Prod.snd)[i]! = z.2:=by
   rw[getElem!_pos _ i (by simpa using hil),List.getElem_map];rw[List.getElem?_eq_getElem hil] at hz;injection hz with hz;rw[hz]
  rw[e];have a:=hin z hzm;have b:=hcs z hzm;exact ⟨a.q.1,a.q.2.1,a.q.2.2,⟨a.s,by have:=b.n;omega,b.z⟩,a.n⟩
 ·obtain ⟨y,hy,rfl⟩:=List.mem_map.1 hc;exact hcs y hy
 ·obtain ⟨L,hL,hs⟩:=List.mem_flatten.1 hs;obtain ⟨c,hc,rfl⟩:=List.mem_map.1 hL;obtain ⟨y,hy,rfl⟩:=List.mem_map.1 hc;exact hcz y hy s hs
end
end
end Go.Proofs.YtdoiekknhnbepaaGreatDoor
