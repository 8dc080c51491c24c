/- Merged (what the claim wants of): KptD, KptProofAF, KptProofA. -/
import Derived.Test.YtefpndiiedkmpaaGreatDoorKpa14
import Derived.Test.YtefpndiiedkmpaaGreatDoorCards
import Derived.Test.YtefpndiiedkmpaaGreatDoorTie
import Derived.WalkKit
import Derived.Deep.DeepHandedRow
import Derived.Deep.DeepWitnessRowRef
import Derived.Lib.LaidTab
import Derived.Stop.LaidTwo
import Derived.Test.YtefpndiiedkmpaaGreatDoorRows
import Derived.ProofKit
set_option linter.unusedVariables false
set_option linter.unusedSimpArgs false
set_option maxRecDepth 100000
set_option maxHeartbeats 8000000
namespace Go.Proofs.YtefpndiiedkmpaaGreatDoor
section
open Go.ChangeShapes Go.WideShapes Go.ChangeAt Go.RowKit Go.ChangeMaps
theorem Qin (a:Nat→Addr):∃x:Addr,x.block=(a 1).block∧∀k,1≤k→k≤7→x≠a k:=by
 refine ⟨⟨(a 1).block,(a 1).off+(a 2).off+(a 3).off+(a 4).off+(a 5).off+(a 6).off+(a 7).off+1,none⟩,rfl,fun k h1 h2 e=>?_⟩;have e2:(a k).off=(a 1).off+(a 2).off+(a 3).off+(a 4).off+(a 5).off+(a 6).off+(a 7).off+1:=by rw[←e]
 rcases (by omega:k=1∨k=2∨k=3∨k=4∨k=5∨k=6∨k=7) with rfl | rfl | rfl | rfl | rfl | rfl | rfl <;> omega
theorem Qek {W:World} (h:laidMet Tryz.prog Rows.ckptBackRow.laid W):∃a,QCon W.heap.size a∧QEnv W.heap.size a W:=by
 have h1:=Kdg h;have h2:=Kdg h1;have h3:=Kdg h2;have h4:=Kdg h3;have h5:=Kdg h4;have h6:=Kdg h5;have h7:=Kdg h6;obtain ⟨a1,s1,p1,q1,r1,b1⟩:=Khc h1 (g:=6) (by kernel_rfl) (by kernel_rfl);obtain ⟨a2,s2,p2,q2,r2,b2⟩:=Khc h2 (g:=5) (by kernel_rfl) (by kernel_rfl);obtain ⟨a3,s3,p3,q3,r3,b3⟩:=Khc h3 (g:=3) (by kernel_rfl) (by kernel_rfl);obtain ⟨a4,s4,p4,q4,r4,b4⟩:=Khc h4 (g:=2) (by kernel_rfl) (by kernel_rfl);obtain ⟨a5,s5,p5,q5,r5,b5⟩:=Khc h5 (g:=4) (by kernel_rfl) (by kernel_rfl);obtain ⟨a7,s7,p7,q7,r7,b7⟩:=Khc h6 (g:=0) (by kernel_rfl) (by kernel_rfl);have hdbT:Lib.TabIs Tryz.prog W "math/bits.deBruijn64tab" .u8 (Lib.deBruijn64tab.map fun n:Nat=>(n:Int)):=Lib.tabIs_of_head (g:=9) (t:=332) (e:=5) (n:=64) (by kernel_rfl) (by kernel_rfl) (by kernel_rfl) (by kernel_rfl) (by kernel_rfl) (by kernel_rfl) h
 have hdb:DbTab W:=fun i hi=>by
  rw[hdbT.cell (by kernel_rfl) i (by rw[List.length_map];exact hi)];congr 2;rw[List.getD_eq_getElem?_getD,List.getElem?_map,List.getD_eq_getElem?_getD,List.getElem?_eq_getElem hi];rfl
 have hnibT:Lib.TabIs Tryz.prog W "almanac/enc.nibbles" .u32 [0,274646895,549293790,820201905,1098587580,1361435347,1640403810,1905808397,2197175160,2460548119,2722870694,2987750089,3280807620,3553878443,3811616794,4084100981]:=Lib.tabIs_of_head (g:=7) (t:=245) (e:=184) (n:=16) (by kernel_rfl) (by kernel_rfl) (by kernel_rfl) (by kernel_rfl) (by kernel_rfl) (by kernel_rfl) h7
 have hnib:Kdi W:=fun i hi=>by
  rw[hnibT.cell (by kernel_rfl) i hi];rcases (by omega:i=0∨i=1∨i=2∨i=3∨i=4∨i=5∨i=6∨i=7∨i=8∨i=9∨i=10∨i=11∨i=12∨i=13∨i=14∨i=15) with rfl | rfl | rfl | rfl | rfl | rfl | rfl | rfl | rfl | rfl | rfl | rfl | rfl | rfl | rfl | rfl <;> rfl
 obtain ⟨x6,hx6,hx6n⟩:=Qin (fun k=>match k with | 1=>a1 | 2=>a2 | 3=>a3 | 4=>a4 | 5=>a5 | 6=>a7 | _=>a7)
 have hall:∀k,k≠6→Qco W k (match k with | 1=>a1 | 2=>a2 | 3=>a3 | 4=>a4 | 5=>a5 | 6=>x6 | _=>a7):=by
  intro k hk
  match k,hk with
  | 1,_=>exact ⟨p1,⟨s1,q1,r1⟩,b1⟩
  | 2,_=>exact ⟨p2,⟨s2,q2,r2⟩,b2⟩
  | 3,_=>exact ⟨p3,⟨s3,q3,r3⟩,b3⟩
  | 4,_=>exact ⟨p4,⟨s4,q4,r4⟩,b4⟩
  | 5,_=>exact ⟨p5,⟨s5,q5,r5⟩,b5⟩
  | 6,h=>exact absurd rfl h
  | 0,_=>exact ⟨p7,⟨s7,q7,r7⟩,b7⟩
  | _+7,_=>exact ⟨p7,⟨s7,q7,r7⟩,b7⟩
 have h6b:∃cs t,W.heap[x6.block]? = some (.cells cs t (0,0)):=by rw[hx6];exact b1
 have h6n:x6≠a1∧x6≠a2∧x6≠a3∧x6≠a4∧x6≠a5∧x6≠a7:=⟨hx6n 1 (by omega) (by omega),hx6n 2 (by omega) (by omega),hx6n 3 (by omega) (by omega),hx6n 4 (by omega) (by omega),hx6n 5 (by omega) (by omega),hx6n 7 (by omega) (by omega)⟩
 have hap:∀k,1≤k→k≤7→k≠6→x6≠(match k with | 1=>a1 | 2=>a2 | 3=>a3 | 4=>a4 | 5=>a5 | 6=>x6 | _=>a7):=by
  intro k h1 h2 h6;rcases (by omega:k=1∨k=2∨k=3∨k=4∨k=5∨k=7) with rfl | rfl | rfl | rfl | rfl | rfl
  ·exact h6n.1
  ·exact h6n.2.1
  ·exact h6n.2.2.1
  ·exact h6n.2.2.2.1
  ·exact h6n.2.2.2.2.1
  ·exact h6n.2.2.2.2.2
 have ha6:(match 6 with | 1=>a1 | 2=>a2 | 3=>a3 | 4=>a4 | 5=>a5 | 6=>x6 | _=>a7)=x6:=rfl;obtain ⟨a,ha,ha6,hap⟩:∃a:Nat→Addr,(∀k,k≠6→Qco W k (a k))∧a 6=x6∧∀k,1≤k→k≤7→k≠6→x6≠a k:=⟨_,hall,ha6,hap⟩;refine ⟨a,⟨fun i j hi1 hi2 hj1 hj2 hne e=>?_,Kag (hnib 0 (by decide)),Kag (hdb 0 (by decide))⟩,⟨⟨fun k hk=>⟨Kag (ha k hk).1,(ha k hk).1⟩,fun k h1 h2=>?_⟩,hnib,hdb,Nat.le_refl _⟩⟩
 ·by_cases h6i:i=6
  ·subst h6i;rw[ha6] at e;exact hap j hj1 hj2 (fun h=>hne h.symm) e
  ·by_cases h6j:j=6
   ·subst h6j;rw[ha6] at e;exact hap i hi1 hi2 h6i e.symm
   ·obtain ⟨si,ci,ti⟩:=(ha i h6i).2.1;obtain ⟨sj,cj,tj⟩:=(ha j h6j).2.1;rw[e,cj] at ci;injection ci with ci;injection ci with ci;refine Qfo i ?_ j ?_ hne ?_
    ·simp;omega
    ·simp;omega
    ·rw[←ti,←tj,ci]
 ·by_cases h6:k=6
  ·subst h6;rw[ha6];obtain ⟨cs,t,e⟩:=h6b;exact ⟨(Array.getElem?_eq_some_iff.1 e).1,cs,t,e⟩
  ·obtain ⟨c,t,e⟩:=(ha k h6).2.2;exact ⟨(Array.getElem?_eq_some_iff.1 e).1,c,t,e⟩
def Qhl:DataW Unit→Array Value
 | .agg l=>(l.map fun | .lit (.int k v)=>Value.int k v | _=>undef).toArray
 | _=>#[]
noncomputable def Knh (os:Os):World:=
 let N:=(World.settled Tryz.prog os).heap.size
 let w0:=World.holding Tryz.prog os ⟨#[
  .cells #[.string ⟨(sentT 1).toArray⟩] 382,.cells #[.string ⟨(sentT 2).toArray⟩] 382,.cells #[.string ⟨(sentT 3).toArray⟩] 382,
  .cells #[.string ⟨(sentT 4).toArray⟩] 382,.cells #[.string ⟨(sentT 5).toArray⟩] 382,.cells #[.string ⟨(sentT 7).toArray⟩] 382],#[],[]⟩
 let put (h:Array Obj) (g:Nat) (k:Nat):Array Obj:=h.modify g fun
  | .cells _ t frozen=>.cells #[.iface 360 (.pointer (some ⟨N+k,0,none⟩))] t frozen
  | o=>o
 let tab (h:Array Obj) (g:Nat) (d:DataW Unit):Array Obj:=h.modify g fun
  | .cells _ t frozen=>.cells (Qhl d) t frozen
  | o=>o
 { w0 with heap:=tab (tab (put (put (put (put (put (put w0.heap 6 0) 5 1) 3 2) 2 3) 4 4) 0 5)
  9 Rows.laid_math_bits_deBruijn64tab) 7 Rows.laid_almanac_enc_nibbles }
set_option maxRecDepth 1000000 in
theorem Qjp (os:Os) (args:Array Value):laidMet Tryz.prog Rows.ckptBackRow.laid ((Knh os).forCall (fun _ _=>0) ⟨#[],args,[]⟩).memory:=
 laidMet_of_run' 8 (by kernel_rfl) (by kernel_rfl)
theorem Qef:(Rows.ckptApartUptoRow.inPlace == Tryz.pinned.checked.prog.inPlace 5)=true:=by kernel_rfl
theorem Qeg:(Rows.ckptApartUptoRow.unfollowed == Tryz.pinned.checked.prog.unfollowed 5)=true:=by kernel_rfl
theorem Qeh:(Rows.ckptApartUptoRow.recurses == Tryz.pinned.checked.prog.recurses 5)=true:=by kernel_rfl
theorem Qei:(Rows.ckptApartUptoRow.named == Tryz.pinned.checked.prog.varsNamed 5)=true:=by kernel_rfl
theorem Kvb:joinedFacts Tryz.pinned.checked.prog 5 Tryz.f5 (Rows.OpenSpec.upto Rows.ckptApartSpec).bare Rows.ckptApartUptoRow=true:=by
 unfold joinedFacts;simp only[Bool.and_eq_true]
 repeat' apply And.intro
 all_goals first | with_reducible exact Qef | with_reducible exact Qeg | with_reducible exact Qeh | with_reducible exact Qei | kernel_rfl
theorem Kvd (os:Os) {H:Type} (enc:TypeId×Value→H):∃places,DataW.whole enc Tryz.prog ((Knh os).forCall (fun _ _=>0) ⟨#[],#[.slice none 0 0,.slice none 0 0],[]⟩).memory Tryz.f5.params.toList Rows.ckptApartSpec.vars false #[Value.slice none 0 0,.slice none 0 0].toList 8=some ([.nil,.nil],[],places):=
 ⟨[],by kernel_rfl⟩
theorem Koe (H:Type) (enc:TypeId×Value→H) (W:World) (base:Nat) (args:Array Value) (ds gs:List (DataW H)) (before:List MemPlace)
  (hval0:∀(j:Nat) t v,Tryz.f5.params[j]? = some t→args[j]? = some v→Value.okWide Tryz.prog W .any base t v)
  (hW:DataW.Whole enc Tryz.prog Tryz.f5.params.toList Rows.ckptApartSpec.vars false W args.toList ds gs before) (hsz0:(DataW.weightsEach Tryz.prog (Tryz.f5.params.toList++Rows.ckptApartSpec.plain.varTypes Tryz.prog) (ds++gs)).all (·≤reachBytes)=true) (hk0:Rows.uptoSmall H (ds++gs)=true) (hL:laidMetH Tryz.prog Rows.ckptApartRow.laid W) :
  Calls Tryz.prog 5 args W fun e W'=>∃v,e = .returned v∧Rows.ckptApartSpec.post enc Tryz.prog Tryz.f5 false true false false W args v W':=by
 have hval:=hval0;have hW':=hW;have hsz:=hsz0;obtain ⟨p,q,hA0,hV,rfl,_,_⟩:=hW;have hA:DataW.TrodAll enc Tryz.prog W 0 (fun _=>true) true Tryz.f5.params.toList args.toList ds p:=hA0;rw[Tryz.params5] at hA hval hsz;obtain ⟨v0,v1,d0,d1,p0,p1,rfl,rfl,rfl,h0,h1⟩:=trodAll_two hA;obtain ⟨rfl,rfl⟩:=trodVars_none hV;clear hA0 hval0 hsz0;simp only[List.append_nil] at hW';simp only[List.append_nil] at hk0;have hbulk:=Qgs hk0;simp only[Rows.uptoBulkAll,Nat.add_zero] at hbulk;have hlt:∀x∈p0++p1,x.block < W.heap.size:=fun x hx=>by simpa using hW'.lt x (by simpa using hx)
 have hargs:∀(W':World),Below W.heap.size W W'→DataW.TrodAll enc Tryz.prog W' 0 (fun b=>decide (b < W.heap.size)) true [22,22] [v0,v1] [d0,d1] (p0++p1):=
  fun W' hn=>trodAll_mk2 (Below.trod Tryz.laidOut (by kernel_rfl) (of_decide_eq_true (by kernel_rfl)) h0 hn (fun x hx=>hlt x (by simp[hx]))) (Below.trod Tryz.laidOut (by kernel_rfl) (of_decide_eq_true (by kernel_rfl)) h1 hn (fun x hx=>hlt x (by simp[hx])))
 obtain ⟨fu0,hf0⟩:=id h0;obtain ⟨x0,y0,z0,rfl⟩:=okWide_slice Tryz.underlying22 (hval 0 22 v0 rfl rfl);obtain ⟨A0,n0,c0,L0,he0,hA0,hS0,hb0⟩:=Kon hf0;injection he0 with x0e y0e z0e;subst x0e y0e z0e;obtain ⟨fu1,hf1⟩:=id h1;obtain ⟨x1,y1,z1,rfl⟩:=okWide_slice Tryz.underlying22 (hval 1 22 v1 rfl rfl);obtain ⟨A1,n1,c1,L1,he1,hA1,hS1,hb1⟩:=Kon hf1;injection he1 with x1e y1e z1e;subst x1e y1e z1e;have hU0:=Khf d0;have hU1:=Khf d1;obtain ⟨a,hC,hE⟩:=Qek hL;refine (Knw L0 L1 x0 x1 y0 y1 z0 z1 W hS0 hS1 (hb0 (by dsimp only at *;omega)) (hb1 (by dsimp only at *;omega)) hC hE).mono fun e W' ⟨he,hb⟩=>?_
 subst he;exact ⟨_,rfl,_,_,_,[],_,[],hW',trodAll_mk1 (shut_bool Tryz.underlying4 true),hargs _ hb,rfl,hb.frame _,fun h=>by cases h⟩
theorem Ksw (os:Os) (started:os.Started) (H:Type) (enc:TypeId×Value→H) (F:Stop.Interp) :
  ReturnsInHanded {} Tryz.checked os 5 .any ((Rows.OpenSpec.upto Rows.ckptApartSpec).preRow enc Tryz.prog Tryz.f5 Rows.ckptApartUptoRow.domain false Rows.ckptApartUptoRow.laid) (((Rows.OpenSpec.upto Rows.ckptApartSpec).at F).post enc Tryz.prog Tryz.f5 false true false false):=by
 obtain ⟨places,hx⟩:=Kvd os enc
 refine returnsInHanded_of_row (C:=Tryz.checked) (s:=Rows.OpenSpec.upto Rows.ckptApartSpec) Tryz.own started (by kernel_rfl) Tryz.func5
  (witness_row_atRef (enc:=enc) (C:=Tryz.checked) false (Knh os) #[.slice none 0 0,.slice none 0 0] rfl (by kernel_rfl) (by kernel_rfl) (by kernel_rfl)
   (OpenSpec.preRow_of_cond 8 hx (by kernel_rfl) (fun k hk=>by cases hk;kernel_rfl) (by kernel_rfl) (Qjp os _))) ?_
 intro W base args ds gs before hval hW _ hcond hsz hL _ _;exact Koe H enc W base args ds gs before hval hW hsz (hcond _ rfl) hL
theorem Kxw:Rows.CkptApartUptoSaid:=
 OpenClaim.holds_of_cond 5 Tryz.f5 rfl rfl rfl rfl rfl rfl rfl ⟨rfl,rfl,rfl,rfl,rfl⟩ rfl rfl rfl rfl rfl (by kernel_rfl) Tryz.func5 Kvb
  (of_decide_eq_true (by kernel_rfl)) (by unfold Func.isWrapper;first | (rw[if_pos (by decide +kernel)];kernel_rfl) | (rw[if_neg (by decide +kernel)];exact ⟨rfl,rfl⟩))
  (fun os started H enc _ F=>by rw[OpenClaim.pre_eq_preRow];exact Ksw os started H enc F)
theorem Kvc (f:FuncId) (fn:Func) (hf:Tryz.pinned.checked.prog.funcNamed "almanac/almanaclaw17.CkptApart" = some f) (hfn:Tryz.pinned.checked.prog.funcs[f]? = some fn) :
  true = Tryz.pinned.checked.prog.looks []∧∀(j:Nat) t,fn.params[j]? = some t→Tryz.pinned.checked.prog.wantsStandIn t=false:=by
 obtain rfl:f = 5:=Option.some.inj ((show Tryz.prog.funcNamed "almanac/almanaclaw17.CkptApart" = some 5 by kernel_rfl).symm.trans hf) |>.symm;obtain rfl:fn = Tryz.f5:=(Option.some.inj (Tryz.func5.symm.trans hfn)).symm;refine ⟨by kernel_rfl,fun j t ht=>?_⟩;rw[Tryz.params5] at ht;have hm:t = 22∨t = 22:=by simpa using Array.mem_of_getElem? ht
 rcases hm with rfl | rfl
 ·exact (show Tryz.prog.wantsStandIn 22 = false by kernel_rfl)
 ·exact (show Tryz.prog.wantsStandIn 22 = false by kernel_rfl)
theorem ckptApart_holds:Rows.CkptApartUptoCardSaid:=
 Claim7.holds_tied_plain_at .later [] _ _ _ _ Kxw (fun _ h=>by cases h) (by kernel_rfl) (fun _ h=>by cases h) ckptApartUpto_row_tie rfl ⟨rfl,rfl⟩ (by kernel_rfl) rfl Kvc (by kernel_rfl)
end
end Go.Proofs.YtefpndiiedkmpaaGreatDoor
