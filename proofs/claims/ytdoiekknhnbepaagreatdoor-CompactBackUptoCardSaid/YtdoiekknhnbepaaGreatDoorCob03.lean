/- Merged (what the claim wants of): MrgLaw2, MrgLaw3. -/
import Derived.Test.YtdoiekknhnbepaaGreatDoorCob02
set_option linter.unusedVariables false
set_option linter.unusedSimpArgs false
set_option maxRecDepth 100000
set_option maxHeartbeats 8000000
namespace Go.Proofs.YtdoiekknhnbepaaGreatDoor
section
instance lbDecM:DecidableEq Lb:=fun a b=>if h:a.n=b.n∧a.v=b.v then isTrue (by cases a;cases b;obtain ⟨h1,h2⟩:=h;simp only at h1 h2;rw[h1,h2]) else isFalse (fun e=>h (by rw[e];exact ⟨rfl,rfl⟩))
def onceL {α : Type} (k:α→Int) (xs:List α):List α:=xs.foldl (fun a x=>insO k x a) []
def gS (l:List Ser) (L:List Lb):List Smp:=(l.filter fun x=>decide (x.labels=L)).flatMap Ser.samples
def gW (l:List Ser) (L:List Lb):List Wnd:=(l.filter fun x=>decide (x.labels=L)).flatMap Ser.windows
theorem Kel (a b:List Ser) (L:List Lb):gS (a++b) L=gS a L++gS b L:=by unfold gS;rw[List.filter_append,List.flatMap_append]
theorem Kne (a b:List Ser) (L:List Lb):gW (a++b) L=gW a L++gW b L:=by unfold gW;rw[List.filter_append,List.flatMap_append]
theorem Kfy (s:Ser) (L:List Lb):gS [s] L=if s.labels=L then s.samples else []:=by unfold gS;by_cases h:s.labels=L <;> simp[h]
theorem Knf (s:Ser) (L:List Lb):gW [s] L=if s.labels=L then s.windows else []:=by unfold gW;by_cases h:s.labels=L <;> simp[h]
def ascS (l:List Ser):Prop:=l.Pairwise fun a b=>cmpL a.labels b.labels < 0
theorem Kjo {a b:List Lb} (h:cmpL a b < 0):a≠b:=fun e=>by rw[e,Kdk] at h;exact absurd h (by decide)
theorem Klf:∀{a b:List Ser},ascS a→ascS b→(∀x,x∈a↔x∈b)→a=b
 | [],[],_,_,_=>rfl
 | [],y :: b,_,_,h=>absurd ((h y).2 (List.mem_cons_self ..)) (by simp)
 | x :: a,[],_,_,h=>absurd ((h x).1 (List.mem_cons_self ..)) (by simp)
 | x :: a,y :: b,ha,hb,h=>by
  obtain ⟨a1,a2⟩:=List.pairwise_cons.1 ha;obtain ⟨b1,b2⟩:=List.pairwise_cons.1 hb
  have hxy:x=y:=by
   rcases List.mem_cons.1 ((h x).1 (List.mem_cons_self ..)) with e | h1
   ·exact e
   ·rcases List.mem_cons.1 ((h y).2 (List.mem_cons_self ..)) with e | h2
    ·exact e.symm
    ·have h3:=Kdm (b1 x h1) (a1 y h2);rw[Kdk] at h3;exact absurd h3 (by decide)
  subst hxy;congr 1;refine Klf a2 b2 fun z=>⟨fun hz=>?_,fun hz=>?_⟩
  ·rcases List.mem_cons.1 ((h z).1 (List.mem_cons_of_mem _ hz)) with e | hz2
   ·subst e;exact absurd rfl (Kjo (a1 z hz))
   ·exact hz2
  ·rcases List.mem_cons.1 ((h z).2 (List.mem_cons_of_mem _ hz)) with e | hz2
   ·subst e;exact absurd rfl (Kjo (b1 z hz))
   ·exact hz2
structure IsGrp (l gs:List Ser):Prop where
 asc:ascS gs
 mem:∀g,g∈gs↔(∃x∈l,x.labels=g.labels)∧g.samples=gS l g.labels∧g.windows=gW l g.labels
 last:∀x,l.getLast? = some x→gs≠[]∧(lastS gs).labels=x.labels
theorem IsGrp.nil:IsGrp [] []:=⟨List.Pairwise.nil,fun g=>by simp,fun x h=>by simp at h⟩
theorem Kmh (gs:List Ser) (x:Ser):lastS (gs ++ [x])=x:=by unfold lastS;simp
theorem Kta {gs:List Ser} (h:gs≠[]):∃ini,gs=ini ++ [lastS gs]:=by
 have hp:0 < gs.length:=List.length_pos_iff.2 h;refine ⟨gs.dropLast,?_⟩;have:=(List.dropLast_concat_getLast h).symm;rw[show lastS gs=gs.getLast h by unfold lastS;rw[getElem!_pos gs _ (by omega),List.getLast_eq_getElem]];exact this
theorem IsGrp.step {l gs:List Ser} (h:IsGrp l gs) (s:Ser) (hs:∀x,l.getLast? = some x→¬cmpL s.labels x.labels < 0) (hl:l.Pairwise fun a b=>¬cmpL b.labels a.labels < 0):IsGrp (l ++ [s]) (stepG gs s):=by
 have hin:∀g∈gs,∃x∈l,x.labels=g.labels:=fun g hg=>((h.mem g).1 hg).1
 unfold stepG openG
 by_cases hc:gs = []∨cmpL (lastS gs).labels s.labels≠0
 ·rw[if_pos hc]
  have hlt:∀g∈gs,cmpL g.labels s.labels < 0:=by
   intro g hg;have hne:gs≠[]:=fun e=>by rw[e] at hg;cases hg
   rcases hc with hc | hc
   ·exact absurd hc hne
   ·obtain ⟨ini,hini⟩:=Kta hne
    have hlast:cmpL (lastS gs).labels s.labels < 0:=by
     obtain ⟨x,hx⟩:∃x,l.getLast? = some x:=by
      cases hq:l.getLast? with
      | some x=>exact ⟨x,rfl⟩
      | none=>
       have:l = []:=List.getLast?_eq_none_iff.1 hq;obtain ⟨y,hy,_⟩:=hin g hg;rw[this] at hy;cases hy
     have h1:=hs x hx;have h2:=(h.last x hx).2;rw[←h2] at h1;have:=Kdy (lastS gs).labels s.labels;omega
    have ha:=h.asc;rw[hini] at hg ha;rcases List.mem_append.1 hg with hg | hg
    ·exact Kdm ((List.pairwise_append.1 ha).2.2 g hg _ (List.mem_singleton.2 rfl)) hlast
    ·rw[List.mem_singleton.1 hg];exact hlast
  have hno:∀x∈l,x.labels≠s.labels:=by
   intro x hx e;have hg:(⟨x.labels,gS l x.labels,gW l x.labels⟩:Ser)∈gs:=(h.mem _).2 ⟨⟨x,hx,rfl⟩,rfl,rfl⟩;exact Kjo (hlt _ hg) e
  have hg0:gS l s.labels = []∧gW l s.labels = []:=by
   have:l.filter (fun x=>decide (x.labels=s.labels)) = []:=List.filter_eq_nil_iff.2 fun x hx=>by simpa using hno x hx
   unfold gS gW;rw[this];exact ⟨rfl,rfl⟩
  have hadd:addG (gs ++ [⟨s.labels,[],[]⟩]) s=gs ++ [⟨s.labels,s.samples,s.windows⟩]:=by
   unfold addG;rw[Kmh,List.length_append,List.length_singleton,Nat.add_sub_cancel,List.set_append_right _ _ (Nat.le_refl _),Nat.sub_self];simp
  rw[hadd];refine ⟨List.pairwise_append.2 ⟨h.asc,List.pairwise_singleton _ _,fun g hg y hy=>?_⟩,fun g=>?_,fun x hx=>?_⟩
  ·rw[List.mem_singleton.1 hy];exact hlt g hg
  ·rw[List.mem_append,List.mem_singleton,h.mem g,Kel,Kne,Kfy,Knf];constructor
   ·rintro (⟨⟨x,hx,e⟩,h1,h2⟩ | rfl)
    ·have hne:s.labels≠g.labels:=fun e2=>hno x hx (e.trans e2.symm)
     rw[if_neg hne,if_neg hne,List.append_nil,List.append_nil];exact ⟨⟨x,List.mem_append_left _ hx,e⟩,h1,h2⟩
    ·rw[if_pos rfl,if_pos rfl,hg0.1,hg0.2];exact ⟨⟨s,by simp,rfl⟩,rfl,rfl⟩
   ·rintro ⟨⟨x,hx,e⟩,h1,h2⟩
    by_cases hsl:s.labels=g.labels
    ·right;rw[if_pos hsl,←hsl,hg0.1] at h1;rw[if_pos hsl,←hsl,hg0.2] at h2;obtain ⟨g1,g2,g3⟩:=g;dsimp only at h1 h2 hsl;rw[hsl,h1,h2];rfl
    ·left;rw[if_neg hsl,List.append_nil] at h1 h2;rcases List.mem_append.1 hx with hx | hx
     ·exact ⟨⟨x,hx,e⟩,h1,h2⟩
     ·rw[List.mem_singleton.1 hx] at e;exact absurd e hsl
  ·rw[List.getLast?_append,List.getLast?_singleton,Option.some_or] at hx;injection hx with hx;subst hx;exact ⟨by simp,by rw[Kmh]⟩
 ·rw[if_neg hc];have hne:gs≠[]:=fun e=>hc (.inl e)
  have hz:cmpL (lastS gs).labels s.labels=0:=Classical.byContradiction fun e=>hc (.inr e)
  have hle:=Kdz hz;obtain ⟨ini,hini⟩:=Kta hne
  have hlm:lastS gs∈gs:=by
   have:lastS gs∈ini ++ [lastS gs]:=List.mem_append_right _ (List.mem_singleton.2 rfl);rw[←hini] at this;exact this
  obtain ⟨⟨x0,hx0,e0⟩,hs0,hw0⟩:=(h.mem (lastS gs)).1 hlm
  have hadd:addG gs s=ini ++ [⟨(lastS gs).labels,(lastS gs).samples++s.samples,(lastS gs).windows++s.windows⟩]:=by
   unfold addG;have hl2:gs.length=ini.length+1:=by rw[hini];simp
   conv=>lhs;arg 1;rw[hini]
   rw[hl2,Nat.add_sub_cancel,List.set_append_right _ _ (Nat.le_refl _),Nat.sub_self];simp
  have ha:=h.asc
  have hin2:∀g∈ini,g∈gs∧g.labels≠s.labels:=fun g hg=>by
   rw[hini] at ha ⊢;have:=(List.pairwise_append.1 ha).2.2 g hg _ (List.mem_singleton.2 rfl);exact ⟨List.mem_append_left _ hg,fun e=>Kjo this (by rw[e];exact hle.symm)⟩
  rw[hadd];refine ⟨?_,fun g=>?_,fun x hx=>?_⟩
  ·rw[hini] at ha;obtain ⟨p1,p2,p3⟩:=List.pairwise_append.1 ha;refine List.pairwise_append.2 ⟨p1,List.pairwise_singleton _ _,fun g hg y hy=>?_⟩;rw[List.mem_singleton.1 hy];exact p3 g hg (lastS gs) (List.mem_singleton.2 rfl)
  ·rw[List.mem_append,List.mem_singleton,Kel,Kne,Kfy,Knf];constructor
   ·rintro (hg | rfl)
    ·obtain ⟨hg1,hg2⟩:=hin2 g hg;obtain ⟨⟨x,hx,e⟩,h1,h2⟩:=(h.mem g).1 hg1;rw[if_neg (Ne.symm hg2),if_neg (Ne.symm hg2),List.append_nil,List.append_nil];exact ⟨⟨x,List.mem_append_left _ hx,e⟩,h1,h2⟩
    ·dsimp only;rw[if_pos hle.symm,if_pos hle.symm,←hs0,←hw0];exact ⟨⟨s,by simp,hle.symm⟩,rfl,rfl⟩
   ·rintro ⟨⟨x,hx,e⟩,h1,h2⟩
    by_cases hsl:s.labels=g.labels
    ·right;rw[if_pos hsl,←hsl,←hle,←hs0] at h1;rw[if_pos hsl,←hsl,←hle,←hw0] at h2;obtain ⟨g1,g2,g3⟩:=g;dsimp only at h1 h2 hsl;rw[h1,h2,hle,hsl]
    ·left;rw[if_neg hsl,List.append_nil] at h1 h2
     have hgm:g∈gs:=(h.mem g).2 ⟨by
      rcases List.mem_append.1 hx with hx | hx
      ·exact ⟨x,hx,e⟩
      ·rw[List.mem_singleton.1 hx] at e;exact absurd e hsl,h1,h2⟩
     rw[hini] at hgm;rcases List.mem_append.1 hgm with hgm | hgm
     ·exact hgm
     ·rw[List.mem_singleton.1 hgm] at hsl;exact absurd hle.symm hsl
  ·rw[List.getLast?_append,List.getLast?_singleton,Option.some_or] at hx;injection hx with hx;subst hx;exact ⟨by simp,by rw[Kmh];exact hle⟩
theorem Qad:∀(l p gs:List Ser),((p++l).Pairwise fun a b=>¬cmpL b.labels a.labels < 0)→IsGrp p gs→IsGrp (p++l) (l.foldl stepG gs)
 | [],p,gs,_,h=>by simpa using h
 | s :: l,p,gs,hp,h=>by
  rw[List.foldl_cons,show p++s :: l=(p ++ [s])++l by simp];obtain ⟨p1,p2,p3⟩:=List.pairwise_append.1 hp;refine Qad l (p ++ [s]) (stepG gs s) (by simpa using hp) (h.step s (fun x hx=>p3 x (List.mem_of_getLast? hx) s (List.mem_cons_self ..)) p1)
theorem Ksr {α : Type} (k:α→Int) (x:α):∀l:List α,0 < (insO k x l).length∧l.length≤(insO k x l).length
 | []=>by simp[insO]
 | y :: l=>by
  unfold insO
  split
  ·simp
  ·split
   ·simp
   ·have:=Ksr k x l;simp only[List.length_cons];omega
theorem Khf {α : Type} (k:α→Int):∀(xs l:List α),l.length≤(xs.foldl (fun a x=>insO k x a) l).length∧(0 < xs.length→0 < (xs.foldl (fun a x=>insO k x a) l).length)
 | [],l=>by simp
 | x :: xs,l=>by
  rw[List.foldl_cons];have h1:=Khf k xs (insO k x l);have h2:=Ksr k x l;exact ⟨by omega,fun _=>by omega⟩
theorem Kdl {α : Type} (k:α→Int) (xs:List α):0 < (onceL k xs).length↔0 < xs.length:=by
 constructor
 ·intro h
  cases xs with
  | nil=>simp[onceL] at h
  | cons x l=>simp
 ·exact (Khf k xs []).2
theorem Kpz {α : Type} (k:α→Int) (a b:List α):onceL k (a++b)=b.foldl (fun a x=>insO k x a) (onceL k a):=by unfold onceL;rw[List.foldl_append]
def Kca:List Ser→Ser→List Ser
 | [],s=>[⟨s.labels,onceL Smp.t s.samples,onceL Wnd.start s.windows⟩]
 | y :: l,s=>if y.labels=s.labels then ⟨y.labels,s.samples.foldl (fun a x=>insO Smp.t x a) y.samples,s.windows.foldl (fun a x=>insO Wnd.start x a) y.windows⟩ :: l
  else if cmpL s.labels y.labels < 0 then ⟨s.labels,onceL Smp.t s.samples,onceL Wnd.start s.windows⟩ :: y :: l else y :: Kca l s
def Kcf (out:List Ser) (s:Ser):List Ser:=if Kba s=true then Kca out s else out
def Kam (l:List Ser):List Ser:=l.foldl Kcf []
structure IsMrg (l out:List Ser):Prop where
 asc:ascS out
 mem:∀g,g∈out↔Kba g=true∧g.samples=onceL Smp.t (gS l g.labels)∧g.windows=onceL Wnd.start (gW l g.labels)
theorem IsMrg.unique {l a b:List Ser} (ha:IsMrg l a) (hb:IsMrg l b):a=b:=Klf ha.asc hb.asc fun x=>(ha.mem x).trans (hb.mem x).symm
theorem Kda (g:Ser):Kba g=true↔0 < g.samples.length∨0 < g.windows.length:=by unfold Kba;rw[decide_eq_true_eq];omega
theorem IsGrp.merged {l gs:List Ser} (h:IsGrp l gs):IsMrg l ((gs.map Kay).filter Kba):=by
 refine ⟨?_,fun g=>?_⟩
 ·refine List.Pairwise.filter _ ?_;rw[List.pairwise_map];exact h.asc
 ·rw[List.mem_filter,List.mem_map];constructor
  ·rintro ⟨⟨g0,hg0,rfl⟩,h2⟩;obtain ⟨_,h3,h4⟩:=(h.mem g0).1 hg0;refine ⟨h2,?_,?_⟩
   ·show onceL Smp.t g0.samples=_;rw[h3];rfl
   ·show onceL Wnd.start g0.windows=_;rw[h4];rfl
  ·rintro ⟨h1,h2,h3⟩;refine ⟨⟨⟨g.labels,gS l g.labels,gW l g.labels⟩,(h.mem _).2 ⟨?_,rfl,rfl⟩,?_⟩,h1⟩
   ·refine Classical.byContradiction fun hn=>?_
    have hf:l.filter (fun x=>decide (x.labels=g.labels)) = []:=List.filter_eq_nil_iff.2 fun x hx he=>hn ⟨x,hx,by simpa using he⟩
    have e1:gS l g.labels = []:=by unfold gS;rw[hf];rfl
    have e2:gW l g.labels = []:=by unfold gW;rw[hf];rfl
    rw[e1] at h2;rw[e2] at h3;rw[Kda,h2,h3] at h1;simp[onceL] at h1
   ·obtain ⟨g1,g2,g3⟩:=g;dsimp only at h2 h3 ⊢;rw[h2,h3];rfl
theorem Knn (z:List Lb) (s:Ser):∀out:List Ser,(∀g∈out,cmpL z g.labels < 0)→cmpL z s.labels < 0→∀g∈Kca out s,cmpL z g.labels < 0
 | [],_,h,g,hg=>by rw[Kca,List.mem_singleton] at hg;rw[hg];exact h
 | y :: l,h1,h,g,hg=>by
  rw[Kca] at hg
  split at hg
  ·rcases List.mem_cons.1 hg with rfl | hg
   ·exact h1 y (List.mem_cons_self ..)
   ·exact h1 g (List.mem_cons_of_mem _ hg)
  ·split at hg
   ·rcases List.mem_cons.1 hg with rfl | hg
    ·exact h
    ·exact h1 g hg
   ·rcases List.mem_cons.1 hg with rfl | hg
    ·exact h1 g (List.mem_cons_self ..)
    ·exact Knn z s l (fun g hg=>h1 g (List.mem_cons_of_mem _ hg)) h g hg
theorem Knm (s:Ser):∀out:List Ser,ascS out→ascS (Kca out s)
 | [],_=>by rw[Kca];exact List.pairwise_singleton _ _
 | y :: l,h=>by
  obtain ⟨h1,h2⟩:=List.pairwise_cons.1 h;rw[Kca]
  split
  ·exact List.pairwise_cons.2 ⟨h1,h2⟩
  ·rename_i hne
   split
   ·rename_i hlt
    refine List.pairwise_cons.2 ⟨fun g hg=>?_,h⟩;rcases List.mem_cons.1 hg with rfl | hg
    ·exact hlt
    ·exact Kdm hlt (h1 g hg)
   ·rename_i hge
    have hys:cmpL y.labels s.labels < 0:=by
     have h3:=Kdy y.labels s.labels;rcases (by omega:cmpL y.labels s.labels < 0∨cmpL y.labels s.labels=0) with h4 | h4
     ·exact h4
     ·exact absurd (Kdz h4) hne
    exact List.pairwise_cons.2 ⟨Knn y.labels s l h1 hys,Knm s l h2⟩
theorem Kno (s:Ser):∀(out:List Ser),ascS out→∀g,g∈Kca out s↔(g∈out∧g.labels≠s.labels)∨(g.labels=s.labels∧((∃y∈out,y.labels=s.labels∧g.samples=s.samples.foldl (fun a x=>insO Smp.t x a) y.samples∧g.windows=s.windows.foldl (fun a x=>insO Wnd.start x a) y.windows)∨((∀y∈out,y.labels≠s.labels)∧g.samples=onceL Smp.t s.samples∧g.windows=onceL Wnd.start s.windows)))
 | [],_,g=>by
  rw[Kca,List.mem_singleton];constructor
  ·rintro rfl;exact .inr ⟨rfl,.inr ⟨fun y hy=>absurd hy List.not_mem_nil,rfl,rfl⟩⟩
  ·rintro (⟨h,_⟩ | ⟨h,⟨y,hy,_⟩ | ⟨_,h1,h2⟩⟩)
   ·cases h
   ·cases hy
   ·obtain ⟨g1,g2,g3⟩:=g;dsimp only at h h1 h2;rw[h,h1,h2]
 | y :: l,ha,g=>by
  obtain ⟨a1,a2⟩:=List.pairwise_cons.1 ha
  have hgt:∀z,cmpL z y.labels < 0∨z=y.labels→∀x∈l,x.labels≠z:=fun z hz x hx e=>by
   have h1:=a1 x hx;rcases hz with hz | hz
   ·have h2:=Kdm hz h1;rw[e,Kdk] at h2;exact absurd h2 (by decide)
   ·rw[e,hz,Kdk] at h1;exact absurd h1 (by decide)
  rw[Kca]
  split
  ·rename_i he
   have hl:=hgt s.labels (.inr he.symm);rw[List.mem_cons];constructor
   ·rintro (rfl | hg)
    ·exact .inr ⟨he,.inl ⟨y,List.mem_cons_self ..,he,rfl,rfl⟩⟩
    ·exact .inl ⟨List.mem_cons_of_mem _ hg,hl g hg⟩
   ·rintro (⟨h,hn⟩ | ⟨h,⟨x,hx,e,h1,h2⟩ | ⟨hn,_⟩⟩)
    ·rcases List.mem_cons.1 h with rfl | h
     ·exact absurd he hn
     ·exact .inr h
    ·rcases List.mem_cons.1 hx with rfl | hx
     ·left;obtain ⟨g1,g2,g3⟩:=g;dsimp only at h h1 h2;rw[h,h1,h2,he]
     ·exact absurd e (hl x hx)
    ·exact absurd he (hn y (List.mem_cons_self ..))
  ·rename_i hne
   split
   ·rename_i hlt
    have hl:=hgt s.labels (.inl hlt);rw[List.mem_cons];constructor
    ·rintro (rfl | hg)
     ·refine .inr ⟨rfl,.inr ⟨fun x hx=>?_,rfl,rfl⟩⟩;rcases List.mem_cons.1 hx with rfl | hx
      ·exact hne
      ·exact hl x hx
     ·refine .inl ⟨hg,?_⟩;rcases List.mem_cons.1 hg with rfl | hg
      ·exact hne
      ·exact hl g hg
    ·rintro (⟨h,hn⟩ | ⟨h,⟨x,hx,e,_⟩ | ⟨_,h1,h2⟩⟩)
     ·exact .inr h
     ·rcases List.mem_cons.1 hx with rfl | hx
      ·exact absurd e hne
      ·exact absurd e (hl x hx)
     ·left;obtain ⟨g1,g2,g3⟩:=g;dsimp only at h h1 h2;rw[h,h1,h2]
   ·rw[List.mem_cons,Kno s l a2 g];constructor
    ·rintro (rfl | ⟨h,hn⟩ | ⟨h,⟨x,hx,e⟩ | ⟨hn,e⟩⟩)
     ·exact .inl ⟨List.mem_cons_self ..,hne⟩
     ·exact .inl ⟨List.mem_cons_of_mem _ h,hn⟩
     ·exact .inr ⟨h,.inl ⟨x,List.mem_cons_of_mem _ hx,e⟩⟩
     ·refine .inr ⟨h,.inr ⟨fun x hx=>?_,e⟩⟩;rcases List.mem_cons.1 hx with rfl | hx
      ·exact hne
      ·exact hn x hx
    ·rintro (⟨h,hn⟩ | ⟨h,⟨x,hx,e⟩ | ⟨hn,e⟩⟩)
     ·rcases List.mem_cons.1 h with rfl | h
      ·exact .inl rfl
      ·exact .inr (.inl ⟨h,hn⟩)
     ·rcases List.mem_cons.1 hx with rfl | hx
      ·exact absurd e.1 hne
      ·exact .inr (.inr ⟨h,.inl ⟨x,hx,e⟩⟩)
     ·exact .inr (.inr ⟨h,.inr ⟨fun x hx=>hn x (List.mem_cons_of_mem _ hx),e⟩⟩)
theorem IsMrg.step {l out:List Ser} (h:IsMrg l out) (s:Ser):IsMrg (l ++ [s]) (Kcf out s):=by
 unfold Kcf
 by_cases hs:Kba s=true
 ·rw[if_pos hs];refine ⟨Knm s out h.asc,fun g=>?_⟩;rw[Kno s out h.asc g,Kel,Kne,Kfy,Knf]
  by_cases hl:g.labels=s.labels
  ·rw[if_pos hl.symm,if_pos hl.symm,Kpz,Kpz,hl];have hg:Kba g=true↔0 < g.samples.length∨0 < g.windows.length:=Kda g;have hs2:=(Kda s).1 hs;constructor
   ·rintro (⟨_,h1⟩ | ⟨_,⟨y,hy,e,h1,h2⟩ | ⟨hn,h1,h2⟩⟩)
    ·exact absurd rfl h1
    ·obtain ⟨_,h3,h4⟩:=(h.mem y).1 hy;rw[e] at h3 h4;rw[h3] at h1;rw[h4] at h2;refine ⟨?_,h1,h2⟩;rw[hg,h1,h2];have f1:=(Khf Smp.t s.samples (onceL Smp.t (gS l s.labels))).2;have f2:=(Khf Wnd.start s.windows (onceL Wnd.start (gW l s.labels))).2;exact hs2.imp f1 f2
    ·have hno:gS l s.labels = []∧gW l s.labels = []:=by
      refine Classical.byContradiction fun hc=>?_
      refine hn ⟨s.labels,onceL Smp.t (gS l s.labels),onceL Wnd.start (gW l s.labels)⟩ ((h.mem _).2 ⟨?_,rfl,rfl⟩) rfl;rw[Kda];dsimp only;rw[Kdl,Kdl];rcases Nat.eq_zero_or_pos (gS l s.labels).length with q | q
      ·rcases Nat.eq_zero_or_pos (gW l s.labels).length with q2 | q2
       ·exact absurd ⟨List.eq_nil_of_length_eq_zero q,List.eq_nil_of_length_eq_zero q2⟩ hc
       ·exact .inr q2
      ·exact .inl q
     rw[hno.1,hno.2];refine ⟨?_,h1,h2⟩;rw[hg,h1,h2,Kdl,Kdl];exact hs2
   ·rintro ⟨h0,h1,h2⟩;refine .inr ⟨rfl,?_⟩
    by_cases hy:∃y∈out,y.labels=s.labels
    ·obtain ⟨y,hy,e⟩:=hy;obtain ⟨_,h3,h4⟩:=(h.mem y).1 hy;rw[e] at h3 h4;exact .inl ⟨y,hy,e,by rw[h3];exact h1,by rw[h4];exact h2⟩
    ·have hn:∀y∈out,y.labels≠s.labels:=fun y hy' e=>hy ⟨y,hy',e⟩
     have hno:gS l s.labels = []∧gW l s.labels = []:=by
      refine Classical.byContradiction fun hc=>?_
      refine hn ⟨s.labels,onceL Smp.t (gS l s.labels),onceL Wnd.start (gW l s.labels)⟩ ((h.mem _).2 ⟨?_,rfl,rfl⟩) rfl;rw[Kda];dsimp only;rw[Kdl,Kdl];rcases Nat.eq_zero_or_pos (gS l s.labels).length with q | q
      ·rcases Nat.eq_zero_or_pos (gW l s.labels).length with q2 | q2
       ·exact absurd ⟨List.eq_nil_of_length_eq_zero q,List.eq_nil_of_length_eq_zero q2⟩ hc
       ·exact .inr q2
      ·exact .inl q
     rw[hno.1] at h1;rw[hno.2] at h2;exact .inr ⟨hn,h1,h2⟩
  ·rw[if_neg (Ne.symm hl),if_neg (Ne.symm hl),List.append_nil,List.append_nil,←h.mem g];constructor
   ·rintro (⟨h1,_⟩ | ⟨h1,_⟩)
    ·exact h1
    ·exact absurd h1 hl
   ·intro h1;exact .inl ⟨h1,hl⟩
 ·rw[if_neg hs]
  have h0:s.samples = []∧s.windows = []:=by
   have:=fun q=>hs ((Kda s).2 q)
   exact ⟨List.eq_nil_of_length_eq_zero (by rcases Nat.eq_zero_or_pos s.samples.length with q | q;exact q;exact absurd (.inl q) this),List.eq_nil_of_length_eq_zero (by rcases Nat.eq_zero_or_pos s.windows.length with q | q;exact q;exact absurd (.inr q) this)⟩
  refine ⟨h.asc,fun g=>?_⟩;rw[h.mem g,Kel,Kne,Kfy,Knf,h0.1,h0.2];simp
theorem Khs:∀(l p out:List Ser),IsMrg p out→IsMrg (p++l) (l.foldl Kcf out)
 | [],p,out,h=>by simpa using h
 | s :: l,p,out,h=>by
  rw[List.foldl_cons,show p++s :: l=(p ++ [s])++l by simp];exact Khs l (p ++ [s]) _ (h.step s)
theorem IsMrg.nil:IsMrg [] []:=⟨List.Pairwise.nil,fun g=>by
 constructor
 ·intro h;cases h
 ·rintro ⟨h1,h2,h3⟩;rw[Kda,h2,h3] at h1
  simp[onceL,gS,gW] at h1⟩
theorem Qar {xs ys:List Ser} (hs:ys.Pairwise fun a b=>¬cmpL b.labels a.labels < 0) (hk:∀L,ys.filter (fun x=>decide (x.labels=L))=xs.filter (fun x=>decide (x.labels=L))):Keo ys=Kam xs:=by
 have h1:IsMrg ys (Keo ys):=by
  have:=Qad ys [] [] (by simpa using hs) IsGrp.nil;simp only[List.nil_append] at this;exact this.merged
 have h2:IsMrg xs (Kam xs):=by
  have:=Khs xs [] [] IsMrg.nil;rw[List.nil_append] at this;exact this
 refine IsMrg.unique h1 ⟨h2.asc,fun g=>?_⟩;rw[h2.mem g];unfold gS gW;rw[hk]
end
end Go.Proofs.YtdoiekknhnbepaaGreatDoor
