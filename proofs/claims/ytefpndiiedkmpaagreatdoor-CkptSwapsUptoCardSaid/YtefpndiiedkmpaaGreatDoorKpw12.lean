/- Merged (what the claim wants of): DskWalksC, DskWalksD, DskWalksE, DskWalksF, DskWalksG, DskWalksH, DskWalksI, DskWalksJ, DskWalksK, DskWalksL. -/
import Derived.Test.YtefpndiiedkmpaaGreatDoorKpw11
import Derived.Deep.DeepCutAuto
set_option linter.unusedVariables false
set_option linter.unusedSimpArgs false
set_option maxRecDepth 100000
set_option maxHeartbeats 8000000
namespace Go.Proofs.YtefpndiiedkmpaaGreatDoor
section
open Go.RowKit
open Lib renaming hid → Jh
attribute [local go_sem ↓] Go.wp_at_zero Go.wp_at_succ
attribute [local go_sem] Later.cell
section
variable {B0 : Nat} {a : Nat → Addr}
theorem Kbw (op s:ByteArray) (k:Nat) (w:World) :
  Calls Tryz.prog 53 #[.string op,.string s,failV a (k+1)] w fun e w'=>∃v,e = .returned v∧ErrV a w' op s (k+1) v∧Below w.heap.size w w':=by
 unfold failV;obtain ⟨x,hx⟩:∃x,a (k+1)=x:=⟨_,rfl⟩;have HX:=Jh hx;rw[hx];clear hx;go_enter Tryz.func53,Tryz.ntmps53
 go_wp2_with fail
 go_ret
 exact ⟨_,rfl,⟨_,rfl,by unfold failV;rw[HX.out];exact Blk.new _ _ _⟩,(Below.refl _ _).alloc (Nat.le_refl _) _⟩
def Kcc (off ok:Bool):Nat:=if off then 1 else if ok then 0 else 2
theorem Kea (p:Nat) (off ok:Bool) (op s:ByteArray) (k:Nat) (hk:Kcc off ok=k) (w:World) (hoff:w.cell? ⟨p,6,none⟩=some (.bool off)) (hF:Fails B0 a w) :
  Calls Tryz.prog 65 #[.pointer (some ⟨p,0,none⟩),.string op,.string s,.bool ok] w fun e w'=>∃v,e = .returned v∧ErrV a w' op s k v∧Below w.heap.size w w':=by
 have f1:_=some (failV a 1):=(hF 1 (by decide)).2;have f2:_=some (failV a 2):=(hF 2 (by decide)).2;have hfl:=fun k w=>Kbw (a:=a) op s k w
 unfold failV at f1 f2 hfl;simp only[failG] at f1 f2;have HF:=Jh hfl;have HK:=Jh hk;clear hk hF hfl
 cases off with
 | true=>
  obtain rfl:1=k:=by have:=HK.out;simpa[Kcc] using this
  go_enter Tryz.func65,Tryz.ntmps65
  go_wp2_with fail
  refine (HF.out 0 w).mono ?_;rintro e w1 ⟨v,rfl,hv,hb⟩;have HV:=Jh hv;clear hv;go_wp2_with fail
  go_ret
  exact ⟨v,rfl,HV.out,hb⟩
 | false=>
  cases ok with
  | true=>
   obtain rfl:0=k:=by have:=HK.out;simpa[Kcc] using this
   go_enter Tryz.func65,Tryz.ntmps65
   go_wp2_with fail
   go_ret
   exact ⟨_,rfl,rfl,Below.refl _ _⟩
  | false=>
   obtain rfl:2=k:=by have:=HK.out;simpa[Kcc] using this
   go_enter Tryz.func65,Tryz.ntmps65
   go_wp2_with fail
   refine (HF.out 1 w).mono ?_;rintro e w1 ⟨v,rfl,hv,hb⟩;have HV:=Jh hv;clear hv;go_wp2_with fail
   go_ret
   exact ⟨v,rfl,HV.out,hb⟩
variable {R : Nat → Nat} {A : Adr} {d : Ds}
theorem DBlk.set (w:World) {d':Ds} {i:Nat} {u:Value} (h:DBlk w A d) (he:(#[.map (some A.md),.map (some A.mf),.map (some A.sd),.map (some A.sf),A.sv,.int .i64 (d.cap:Int),.bool d.off,.int .i64 (d.await:Int)]:Array Value).setIfInBounds i u = #[.map (some A.md),.map (some A.mf),.map (some A.sd),.map (some A.sf),A.sv,.int .i64 (d'.cap:Int),.bool d'.off,.int .i64 (d'.await:Int)]):DBlk (w.setCell ⟨A.p,i,none⟩ u) A d':=by
 have:=Blk.set_ h i u;rw[he] at this;exact this
def Qmy (B0:Nat) (a:Nat→Addr) (R:Nat→Nat) (A:Adr) (d:Ds) (op s:ByteArray) (w:World) (e:Ending) (w':World):Prop:=
 ∃v,e = .returned v∧ErrV a w' op s (stepD d).1 v∧CD B0 w' R A (stepD d).2∧Own R R w w'∧∀k,k < w.heap.size→k≠A.p→w'.heap[k]? = w.heap[k]?
theorem Kht (op s:ByteArray) (w:World) (h:CD B0 w R A d) (haw:d.await≤9223372036854775807) (hB:B0≤w.heap.size) (hF:Fails B0 a w) :
  Calls Tryz.prog 118 #[.pointer (some ⟨A.p,0,none⟩),.string op,.string s] w (Qmy B0 a R A d op s w):=by
 have c7:_=some (Value.int .i64 (d.await:Int)):=Blk.cell h.blk 7;have g7:=Blk.frozen h.blk 7;have hp1:R A.p≠0:=by rw[h.rp];omega
 have hpl:=Blk.lt h.blk
 by_cases h0:d.await=0
 ·have e1:decide ((0:Int) < (d.await:Int))=false:=by simp;omega
  have e2:decide (0 < d.await)=false:=by simp;omega
  have hst:stepD d=(0,d):=by simp[stepD,h0]
  have HST:=Jh hst;have H:=Jh h;obtain ⟨n,hn⟩:∃n,d.await=n:=⟨_,rfl⟩;obtain ⟨p,hp⟩:∃p,A.p=p:=⟨_,rfl⟩;rw[hn] at c7 e1 e2;rw[hp] at c7 g7 ⊢;clear hst h h0 hn hp hp1 hpl hF g7;go_enter Tryz.func118,Tryz.ntmps118
  go_wp2_with fail
  go_ret
  exact ⟨_,rfl,by rw[HST.out];rfl,by rw[HST.out];exact H.out,Own.refl _ _,fun _ _ _=>rfl⟩
 ·have e1:decide ((0:Int) < (d.await:Int))=true:=by simp;omega
  have e2:decide (0 < d.await)=true:=by simp;omega
  by_cases hx1:d.await=1
  ·have hst:stepD d=(1,{ d with await:=0,off:=true }):=by simp[stepD,hx1]
   have f1:_=some (failV a 1):=(hF 1 (by decide)).2;have hf1:=(hF 1 (by decide)).1;have hfl:=fun w=>Kbw (a:=a) op s 0 w
   have hne:failG 1≠A.p:=by
    intro e;have:=h.low A.p (by rw[←e];exact hf1);exact hp1 this
   have hblk2:DBlk ((w.setCell ⟨A.p,7,none⟩ (.int .i64 0)).setCell ⟨A.p,6,none⟩ (.bool true)) A { d with await:=0,off:=true }:=by
    have h1:DBlk (w.setCell ⟨A.p,7,none⟩ (.int .i64 0)) A { d with await:=0 }:=DBlk.set w h.blk rfl;exact DBlk.set _ h1 rfl
   have hCD:CD B0 ((w.setCell ⟨A.p,7,none⟩ (.int .i64 0)).setCell ⟨A.p,6,none⟩ (.bool true)) R A { d with await:=0,off:=true }:=
    h.blk_only (fun k _ hk=>(Below.heap_setCell _ _ _ k hk).trans (Below.heap_setCell _ _ _ k hk)) (by simp[World.setCell]) hblk2 rfl rfl rfl rfl
   have hO:Own R R w ((w.setCell ⟨A.p,7,none⟩ (.int .i64 0)).setCell ⟨A.p,6,none⟩ (.bool true)):=(Own.of_set _ hp1).trans (Own.of_set _ hp1)
   have hfc:((w.setCell ⟨A.p,7,none⟩ (.int .i64 0)).setCell ⟨A.p,6,none⟩ (.bool true)).cell? ⟨failG 1,0,none⟩=some (failV a 1):=by
    rw[←f1];exact World.cell?_of_block ((Below.heap_setCell _ _ _ _ hne).trans (Below.heap_setCell _ _ _ _ hne))
   have c7':=c7;rw[hx1] at c7';have g6:=Blk.frozen h.blk 6;have c6:_=some (Value.bool d.off):=Blk.cell h.blk 6;unfold failV at hfc hfl;simp only[failG] at hfc
   have hfar:∀w1:World,Below ((w.setCell ⟨A.p,7,none⟩ (.int .i64 0)).setCell ⟨A.p,6,none⟩ (.bool true)).heap.size ((w.setCell ⟨A.p,7,none⟩ (.int .i64 0)).setCell ⟨A.p,6,none⟩ (.bool true)) w1→∀k,k < w.heap.size→k≠A.p→w1.heap[k]? = w.heap[k]?:=
    fun w1 hb k hk hne=>(hb.block k (by simp[World.setCell];exact hk)).trans ((Below.heap_setCell _ _ _ k hne).trans (Below.heap_setCell _ _ _ k hne))
   have HFAR:=Jh hfar;have HST:=Jh hst;have HC:=Jh hCD;have HO:=Jh hO;have HFL:=Jh hfl;obtain ⟨p,hp⟩:∃p,A.p=p:=⟨_,rfl⟩;have HPP:=Jh hp;rw[hp] at c7' g7 g6 c6 hpl hfc HC HO HFAR ⊢;clear hfar;clear hst h h0 hp hp1 hF hfl hCD hO hblk2 f1 hf1 hne c7 e1 e2 hx1;go_enter Tryz.func118,Tryz.ntmps118
   go_wp2_with fail
   refine (HFL.out _).mono ?_;rintro e w1 ⟨v,rfl,hv,hb⟩;have HV:=Jh hv;clear hv;go_wp2_with fail
   go_ret
   exact ⟨v,rfl,by rw[HST.out];exact HV.out,by rw[HST.out];exact HC.out.below hb,HO.out.trans (Own.of_below hb),by rw[HPP.out];exact HFAR.out _ hb⟩
  ·have hst:stepD d=(0,{ d with await:=d.await - 1 }):=by simp[stepD,h0,hx1]
   have hval:(Value.int .i64 ((d.await:Int) - 1)) = .int .i64 ((d.await - 1:Nat):Int):=vi (by omega);have hblk2:DBlk (w.setCell ⟨A.p,7,none⟩ (.int .i64 ((d.await:Int) - 1))) A { d with await:=d.await - 1 }:=DBlk.set w h.blk (by rw[hval];rfl)
   have hCD:CD B0 (w.setCell ⟨A.p,7,none⟩ (.int .i64 ((d.await:Int) - 1))) R A { d with await:=d.await - 1 }:=
    h.blk_only (fun k _ hk=>Below.heap_setCell _ _ _ k hk) (by simp[World.setCell]) hblk2 rfl rfl rfl rfl
   have hO:Own R R w (w.setCell ⟨A.p,7,none⟩ (.int .i64 ((d.await:Int) - 1))):=Own.of_set _ hp1;have HST:=Jh hst;have HC:=Jh hCD;have HO:=Jh hO;have e3:(((d.await:Int) - 1) == 0)=false:=by simp;omega
   have hn2:2≤d.await:=by omega
   obtain ⟨n,hn⟩:∃n,d.await=n:=⟨_,rfl⟩;obtain ⟨p,hp⟩:∃p,A.p=p:=⟨_,rfl⟩;have HPP:=Jh hp;have hr:=HST.out;rw[hn] at c7 e1 e2 e3 HC HO haw hn2 hr;rw[hp] at c7 g7 hpl HC HO ⊢;have HR:=Jh hr;clear hst h h0 hp hp1 hF hCD hO hblk2 hx1 hval hn hr HST;go_enter Tryz.func118,Tryz.ntmps118
   go_wp2_with fail
   go_ret
   exact ⟨_,rfl,by rw[HR.out];rfl,by rw[HR.out];exact HC.out,HO.out,fun k _ hne=>Below.heap_setCell _ _ _ k (by rw[←HPP.out];exact hne)⟩
end
set_option maxHeartbeats 400000 in
theorem Ktx (p:Nat) (off:Bool) (w:World) (hoff:w.cell? ⟨p,6,none⟩=some (.bool off)) :
  Calls Tryz.prog 24 #[.pointer (some ⟨p,0,none⟩)] w fun e w'=>e = .returned (.bool off)∧w=w':=by
 go_enter Tryz.func24,Tryz.ntmps24
 go_wp2_with fail
 go_ret
 exact ⟨rfl,rfl⟩
theorem Qah {B0:Nat} {R:Nat→Nat} {A:Adr} {d:Ds} (n:Int) (w:World) (h:CD B0 w R A d) (hn:n≤9223372036854775807) (hn':-9223372036854775808≤n) :
  Calls Tryz.prog 23 #[.pointer (some ⟨A.p,0,none⟩),.int .i64 n] w fun e w'=>e = .returned (.tuple #[])∧CD B0 w' R A (Kgt d n)∧Own R R w w':=by
 have c7:_=some (Value.int .i64 (d.await:Int)):=Blk.cell h.blk 7;have g7:=Blk.frozen h.blk 7;have hp1:R A.p≠0:=by rw[h.rp];omega
 have hblk2:∀v:Int,v=(n.toNat:Int)→DBlk (w.setCell ⟨A.p,7,none⟩ (.int .i64 v)) A (Kgt d n):=fun v hv=>DBlk.set w h.blk (by rw[hv];rfl)
 have hCD:∀v:Int,v=(n.toNat:Int)→CD B0 (w.setCell ⟨A.p,7,none⟩ (.int .i64 v)) R A (Kgt d n):=fun v hv=>
  h.blk_only (fun k _ hk=>Below.heap_setCell _ _ _ k hk) (by simp[World.setCell]) (hblk2 v hv) rfl rfl rfl rfl
 have hO:∀v:Value,Own R R w (w.setCell ⟨A.p,7,none⟩ v):=fun v=>Own.of_set _ hp1
 have HC:=Jh hCD;have HO:=Jh hO;obtain ⟨p,hp⟩:∃p,A.p=p:=⟨_,rfl⟩;rw[hp] at c7 g7 HC HO ⊢;clear h hp hp1 hCD hO hblk2
 by_cases hneg:n < 0
 ·have e1:decide ((0:Int) < n)=false:=by simp;omega
  have e2:decide (n < 0)=true:=by simpa using hneg
  have e3:decide ((0:Int)≤n)=false:=by simp;omega
  have e4:max 0 n=0:=by omega
  go_enter Tryz.func23,Tryz.ntmps23
  go_wp2_with fail
  go_end0
  exact ⟨rfl,HC.out _ (by omega),HO.out _⟩
 ·have e2:decide (n < 0)=false:=by simp;omega
  have e4:max 0 n=n:=by omega
  go_enter Tryz.func23,Tryz.ntmps23
  go_wp2_with fail
  go_end0
  exact ⟨rfl,HC.out _ (by omega),HO.out _⟩
end
section
open Go.RowKit Go.Shelf
open Lib renaming hid → Jh
attribute [local go_sem ↓] Go.wp_at_zero Go.wp_at_succ
attribute [local go_sem] Later.cell
abbrev SM (w:World) (b:Nat) (f:Txt→Option Value):Prop:=SMap Tryz.prog 9 w b f
def Kwc (w:World) (f:Txt→Option Value) (e:Ending) (w':World):Prop:=
 ∃x,e = .returned (.map (some x))∧SM w' x f∧w.heap.size≤x∧Below w.heap.size w w'
theorem Klr (b:Nat) (f:Txt→Option Value) (w:World) (h:SM w b f):Calls Tryz.prog 107 #[.map (some b)] w (Kwc w f):=by
 obtain ⟨D,h1,h2,h3⟩:=h;have hcon:=AnyW.maps_Clone_owns Tryz.cloneD 9 HR b (Maps.size D) D w h1;change Calls Tryz.prog 107 _ _ _ at hcon
 refine hcon.mono ?_;rintro e w' ⟨rfl,a1,_,a3⟩;exact ⟨_,rfl,⟨D,a1,h2,h3⟩,Nat.le_refl _,a3⟩
theorem Kls (b:Nat) (f:Txt→Option Value) (w:World) (h:SM w b f):Calls Tryz.prog 108 #[.map (some b)] w (Kwc w f):=by
 obtain ⟨D,h1,h2,h3⟩:=h;have hcon:=AnyW.maps_Clone_owns Tryz.cloneF 9 HR b (Maps.size D) D w h1;change Calls Tryz.prog 108 _ _ _ at hcon
 refine hcon.mono ?_;rintro e w' ⟨rfl,a1,_,a3⟩;exact ⟨_,rfl,⟨D,a1,h2,h3⟩,Nat.le_refl _,a3⟩
def TwinD (w:World) (f g:Txt→Option Value) (e:Ending) (w':World):Prop:=
 ∃x y,e = .returned (.agg #[.map (some x),.map (some y)])∧SM w' x f∧SM w' y g∧x≠y∧w.heap.size≤x∧w.heap.size≤y∧Below w.heap.size w w'
theorem Klb {md mf q:Nat} {w:World} (h:Blk w q 127 #[.map (some md),.map (some mf)]):w.cell? ⟨q,0,none⟩=some (.map (some md))∧w.cell? ⟨q,1,none⟩=some (.map (some mf)):=⟨h.cell 0,h.cell 1⟩
theorem Kgp (md mf:Nat) (f g:Txt→Option Value) (w:World) (hd:SM w md f) (hf:SM w mf g) :
  Calls Tryz.prog 51 #[.agg #[.map (some md),.map (some mf)]] w (TwinD w f g):=by
 go_enter Tryz.func51,Tryz.ntmps51
 go_upto_region 1 with fail
 obtain ⟨w0,hw0⟩:∃x,(w.alloc (.cells #[.map (some md),.map (some mf)] 127)).alloc (.cells #[.map none,.map none] 127)=x:=⟨_,rfl⟩;have hb0:Below w.heap.size w w0:=by rw[←hw0];exact ((Below.refl _ _).alloc (Nat.le_refl _) _).alloc (by simp) _
 have hq:Blk w0 w.heap.size 127 #[.map (some md),.map (some mf)]:=by rw[←hw0];exact (Blk.new _ _ _).alloc _
 have hp:Blk w0 (w.heap.size+1) 127 #[.map none,.map none]:=by rw[←hw0];exact Blk.newAt (by simp)
 have hd0:SM w0.drew md f:=hd.below hb0.drew hd.lt;have hf0:SM w0.drew mf g:=hf.below hb0.drew hf.lt;have hq0:Blk w0.drew w.heap.size 127 #[.map (some md),.map (some mf)]:=hq;have hp0:Blk w0.drew (w.heap.size+1) 127 #[.map none,.map none]:=hp;rw[hw0];obtain ⟨q,hqq⟩:∃a,w.heap.size=a:=⟨_,rfl⟩;have hB0:Below w.heap.size w w0.drew:=hb0.drew;rw[hqq] at hq0 hp0 ⊢;clear hw0 hq hp hb0;have hqp:q≠q+1:=by omega
 go_region_held3 (fun w'=>w'.cell? ⟨q,0,none⟩=some (.map (some md))∧w'.cell? ⟨q,1,none⟩=some (.map (some mf)))
  (first | exact Klb hq0 | exact Klb hq2 | exact Klb hq1 | exact Klb ((hq2.far (by simp) _).far (by simp) _) | go_keep)
  (first
   | (go_at_call 107;refine (Klr md f w0.drew hd0).mono ?_;rintro e w1 ⟨x,rfl,hx,hxl,hb1⟩;have hq1:=hq0.below hb1 hq0.lt)
   | (go_at_call 108;refine (Kls mf g w1 (hf0.below hb1 hf0.lt)).mono ?_;rintro e w2 ⟨y,rfl,hy,hyl,hb2⟩;have hq2:=hq1.below hb2 hq1.lt;have hp2:=(hp0.below hb1 hp0.lt).below hb2 (hp0.below hb1 hp0.lt).lt;have k0:_=some (Value.map none):=hp2.cell 0;have k1:_=some (Value.map none):=hp2.cell 1;have g0:=hp2.frozen 0;have g1:=hp2.frozen 1)
   | (go_at_call 108;refine (Kls mf g w0.drew hf0).mono ?_;rintro e w1 ⟨y,rfl,hy,hyl,hb1⟩;have hq1:=hq0.below hb1 hq0.lt)
   | (go_at_call 107;refine (Klr md f w1 (hd0.below hb1 hd0.lt)).mono ?_;rintro e w2 ⟨x,rfl,hx,hxl,hb2⟩;have hq2:=hq1.below hb2 hq1.lt;have hp2:=(hp0.below hb1 hp0.lt).below hb2 (hp0.below hb1 hp0.lt).lt;have k0:_=some (Value.map none):=hp2.cell 0;have k1:_=some (Value.map none):=hp2.cell 1;have g0:=hp2.frozen 0;have g1:=hp2.frozen 1))
 all_goals
  have hX:SM w2 x f:=by first | exact hx | exact hx.below hb2 hx.lt
  have hY:SM w2 y g:=by first | exact hy | exact hy.below hb2 hy.lt
  have hl1:=hp0.lt;have hxy:x≠y:=by have h1:=SMap.lt hx;have h2:=SMap.lt hy;omega
  have hs1:=hb1.size;have hx1:w0.drew.heap.size≤x:=by omega
  have hy1:w0.drew.heap.size≤y:=by omega
  have hX3:SM ((w2.setCell ⟨q+1,0,none⟩ (.map (some x))).setCell ⟨q+1,1,none⟩ (.map (some y))) x f:=hX.same ((Below.heap_setCell _ _ _ _ (by simp;omega)).trans (Below.heap_setCell _ _ _ _ (by simp;omega)));have hY3:SM ((w2.setCell ⟨q+1,0,none⟩ (.map (some x))).setCell ⟨q+1,1,none⟩ (.map (some y))) y g:=hY.same ((Below.heap_setCell _ _ _ _ (by simp;omega)).trans (Below.heap_setCell _ _ _ _ (by simp;omega)));have hp3:Blk ((w2.setCell ⟨q+1,0,none⟩ (.map (some x))).setCell ⟨q+1,1,none⟩ (.map (some y))) (q+1) 127 #[.map (some x),.map (some y)]:=(hp2.set_ 0 _).set_ 1 _;have hB3:Below w.heap.size w ((w2.setCell ⟨q+1,0,none⟩ (.map (some x))).setCell ⟨q+1,1,none⟩ (.map (some y))):=((then_ (then_ hB0 hb1) hb2).setCell (by simp;omega) _).setCell (by simp;omega) _;have hsz:=hB0.size;obtain ⟨w3,hw3⟩:∃w3,(w2.setCell ⟨q+1,0,none⟩ (.map (some x))).setCell ⟨q+1,1,none⟩ (.map (some y))=w3:=⟨_,rfl⟩;rw[hw3] at hX3 hY3 hp3 hB3 ⊢;have m0:_=some (Value.map (some x)):=hp3.cell 0;have m1:_=some (Value.map (some y)):=hp3.cell 1;have hO:TwinD w f g (.returned (.agg #[.map (some x),.map (some y)])) w3:=⟨x,y,rfl,hX3,hY3,hxy,by omega,by omega,hB3⟩;have HO:=Jh hO;clear hX hY hx hy hX3 hY3 hB3 hO hb1 hb2 hq0 hp0 hp2 k0 k1 g0 g1 hd0 hf0 hw3 hB0 hq1 hq2 hxy hx1 hy1 hxl hyl hs1 hl1 hsz hqp hd hf hp3;go_wp2_with fail
  exact bodyPost_ret (v:=.agg #[.map (some x),.map (some y)]) (by simp[results,Tryz.results51,go_sem,m0,m1]) rfl HO.out
def Qfv (B0:Nat) (n:Int) (w:World) (e:Ending) (w':World):Prop:=
 ∃R A,e = .returned (.pointer (some ⟨A.p,0,none⟩))∧CD B0 w' R A (newD n)∧Below w.heap.size w w'∧∀k,R k≠0→w.heap.size≤k
def newR (B x y k:Nat):Nat:=if k=B+2 then 1 else if k=B then 2 else if k=B+1 then 3 else if k=x then 4 else if k=y then 6 else 0
theorem Kwx:dirF []=fun _=>none:=by funext x;simp[dirF]
theorem Kxd (φ : List Nat):filF φ []=fun _=>none:=by funext x;simp[filF]
theorem Qie (B0:Nat) (n:Int) (w:World) (hB:B0≤w.heap.size) (hn:n≤9223372036854775807) (hn':-9223372036854775808≤n) :
  Calls Tryz.prog 16 #[.int .i64 n] w (Qfv B0 n w):=by
 have hmm:=@run_makeMap Tryz.prog
 have key:∀c:Int,c=((newD n).cap:Int)→∀W:World,W=((w.alloc (.map #[] 0)).alloc (.map #[] 0)).alloc (.cells #[.map (some w.heap.size),.map (some (w.heap.size+1)),.map none,.map none,.slice none 0 0,.int .i64 c,.bool false,.int .i64 0] 130)→
   ∀e W',TwinD W (fun _=>none) (fun _=>none) e W'→∃x y,e = .returned (.agg #[.map (some x),.map (some y)])∧Blk W' (w.heap.size+2) 130 #[.map (some w.heap.size),.map (some (w.heap.size+1)),.map none,.map none,.slice none 0 0,.int .i64 c,.bool false,.int .i64 0]∧
    Qfv B0 n w (.returned (.pointer (some ⟨w.heap.size+2,0,none⟩))) ((W'.setCell ⟨w.heap.size+2,2,none⟩ (.map (some x))).setCell ⟨w.heap.size+2,3,none⟩ (.map (some y))):=by
  rintro c hc W rfl e W' ⟨x,y,rfl,hx,hy,hxy,hxl,hyl,hb⟩;have m1:SM (w.alloc (.map #[] 0)) w.heap.size fun _=>none:=SMap.made w
  have m2:SM ((w.alloc (.map #[] 0)).alloc (.map #[] 0)) (w.heap.size+1) fun _=>none:=by
   have:=SMap.made (P:=Tryz.prog) (K:=9) (w.alloc (.map #[] 0));simpa using this
  have m1':=m1.grown (World.grownBy_alloc _ (.map #[] 0) none) (by simp);have hblk:Blk (((w.alloc (.map #[] 0)).alloc (.map #[] 0)).alloc (.cells #[.map (some w.heap.size),.map (some (w.heap.size+1)),.map none,.map none,.slice none 0 0,.int .i64 c,.bool false,.int .i64 0] 130)) (w.heap.size+2) 130 #[.map (some w.heap.size),.map (some (w.heap.size+1)),.map none,.map none,.slice none 0 0,.int .i64 c,.bool false,.int .i64 0]:=Blk.newAt (by simp);have m1'':=m1'.grown (World.grownBy_alloc _ (.cells #[.map (some w.heap.size),.map (some (w.heap.size+1)),.map none,.map none,.slice none 0 0,.int .i64 c,.bool false,.int .i64 0] 130) none) (by simp);have m2'':=m2.grown (World.grownBy_alloc _ (.cells #[.map (some w.heap.size),.map (some (w.heap.size+1)),.map none,.map none,.slice none 0 0,.int .i64 c,.bool false,.int .i64 0] 130) none) (by simp);have hsz:(((w.alloc (.map #[] 0)).alloc (.map #[] 0)).alloc (.cells #[.map (some w.heap.size),.map (some (w.heap.size+1)),.map none,.map none,.slice none 0 0,.int .i64 c,.bool false,.int .i64 0] 130)).heap.size=w.heap.size+3:=by simp
  have hB1:Below w.heap.size w (((w.alloc (.map #[] 0)).alloc (.map #[] 0)).alloc (.cells #[.map (some w.heap.size),.map (some (w.heap.size+1)),.map none,.map none,.slice none 0 0,.int .i64 c,.bool false,.int .i64 0] 130)):=(((Below.refl _ _).alloc (Nat.le_refl _) _).alloc (by simp) _).alloc (by simp;omega) _;obtain ⟨W,hW⟩:∃W,((w.alloc (.map #[] 0)).alloc (.map #[] 0)).alloc (.cells #[.map (some w.heap.size),.map (some (w.heap.size+1)),.map none,.map none,.slice none 0 0,.int .i64 c,.bool false,.int .i64 0] 130)=W:=⟨_,rfl⟩;rw[hW] at hblk m1'' m2'' hsz hB1 hb hxl hyl;have hblk':=hblk.below hb hblk.lt;have n1:=m1''.below hb m1''.lt;have n2:=m2''.below hb m2''.lt;rw[hsz] at hxl hyl;refine ⟨x,y,rfl,hblk',?_⟩;obtain ⟨B,hBw⟩:∃B,w.heap.size=B:=⟨_,rfl⟩;have hx1:=SMap.lt hx;have hy1:=SMap.lt hy;have hBW:Below w.heap.size w W':=hB1.trans (hb.mono (by omega));rw[hBw] at hblk' n1 n2 hxl hyl hB ⊢;have hset:∀k,k≠B+2→((W'.setCell ⟨B+2,2,none⟩ (.map (some x))).setCell ⟨B+2,3,none⟩ (.map (some y))).heap[k]? = W'.heap[k]?:=fun k hk=>(Below.heap_setCell _ _ _ _ hk).trans (Below.heap_setCell _ _ _ _ hk)
  have hsizes:((W'.setCell ⟨B+2,2,none⟩ (.map (some x))).setCell ⟨B+2,3,none⟩ (.map (some y))).heap.size=W'.heap.size:=by simp[World.setCell]
  have hb3:=hblk'.lt;refine ⟨newR B x y,⟨B+2,B,B+1,x,y,.slice none 0 0,[]⟩,rfl,?_,?_,?_⟩
  ·exact {
    blk:=by
     have h3:=(hblk'.set_ 2 (.map (some x))).set_ 3 (.map (some y));rw[hc] at h3;exact h3
    rp:=by simp[newR]
    dirs:=⟨by rw[show (newD n).things = [] from rfl,Kwx];exact n1.same (hset B (by omega)),by simp[newR]⟩
    files:=⟨by rw[show (newD n).things = [] from rfl,Kxd];exact n2.same (hset _ (by omega)),by simp[newR]⟩
    sdirs:=⟨by rw[show (newD n).safe = [] from rfl,Kwx];exact hx.same (hset _ (by omega)),by show newR B x y x=4;unfold newR;(repeat' split) <;> omega⟩
    sfiles:=⟨by rw[show (newD n).safe = [] from rfl,Kxd];exact hy.same (hset _ (by omega)),by show newR B x y y=6;unfold newR;(repeat' split) <;> omega⟩
    steps:=⟨[],RowIs.nil,rfl,fun i s f hs=>by simp[newD] at hs⟩
    bytes:=⟨rfl,fun i b f hb=>by simp at hb⟩
    inw:=fun k hk=>by
     rw[hsizes];unfold newR at hk
     repeat' split at hk
     all_goals omega
    low:=fun k hk=>by
     unfold newR
     repeat' split
     all_goals omega }
  ·exact (hBW.setCell (by simp;omega) _).setCell (by simp;omega) _
  ·intro k hk;unfold newR at hk
   repeat' split at hk
   all_goals omega
 have hcap:((newD n).cap:Int)=max 0 (min n 67108864):=by simp only[newD];omega
 have KEY:=Jh key;have HCAP:=Jh hcap;clear key hcap;have htw:=fun W=>Kgp w.heap.size (w.heap.size+1) (fun _=>none) (fun _=>none) W
 have HTW:=Jh htw;clear htw
 have hmade:∀c:Value,SM (((w.alloc (.map #[] 0)).alloc (.map #[] 0)).alloc (.cells #[.map (some w.heap.size),.map (some (w.heap.size+1)),.map none,.map none,.slice none 0 0,c,.bool false,.int .i64 0] 130)) w.heap.size (fun _=>none)∧SM (((w.alloc (.map #[] 0)).alloc (.map #[] 0)).alloc (.cells #[.map (some w.heap.size),.map (some (w.heap.size+1)),.map none,.map none,.slice none 0 0,c,.bool false,.int .i64 0] 130)) (w.heap.size+1) (fun _=>none):=by
  intro c;have m1:SM (w.alloc (.map #[] 0)) w.heap.size fun _=>none:=SMap.made w
  have m2:SM ((w.alloc (.map #[] 0)).alloc (.map #[] 0)) (w.heap.size+1) fun _=>none:=by
   have:=SMap.made (P:=Tryz.prog) (K:=9) (w.alloc (.map #[] 0));simpa using this
  exact ⟨(m1.grown (World.grownBy_alloc _ (.map #[] 0) none) (by simp)).grown (World.grownBy_alloc _ _ none) (by simp),m2.grown (World.grownBy_alloc _ _ none) (by simp)⟩
 have HM:=Jh hmade;clear hmade
 by_cases h0:n < 0
 ·have e1:min n 67108864=n:=by omega
  have e2:max 0 n=0:=by omega
  have d1:decide (n < 67108864)=true:=by simp;omega
  have d2:decide (67108864 < n)=false:=by simp;omega
  have d3:decide (n < 0)=true:=by simp;omega
  have d4:decide (0 < n)=false:=by simp;omega
  have HC:=Jh (show (0:Int)=((newD n).cap:Int) by rw[HCAP.out];omega);go_enter Tryz.func16,Tryz.ntmps16
  go_wp2_with fail
  refine (HTW.out _ (HM.out _).1 (HM.out _).2).mono ?_;rintro e W' hO;obtain ⟨x,y,rfl,hblk,hN⟩:=KEY.out 0 HC.out _ rfl e W' hO;have k2:_=some (Value.map none):=hblk.cell 2;have k3:_=some (Value.map none):=hblk.cell 3;have g2:=hblk.frozen 2;have g3:=hblk.frozen 3;have HN:=Jh hN;clear hN hO hblk;go_wp2_with fail
  go_ret
  exact HN.out
 ·by_cases h1:n < 67108864
  ·have e1:min n 67108864=n:=by omega
   have e2:max 0 n=n:=by omega
   have d1:decide (n < 67108864)=true:=by simp;omega
   have d2:decide (67108864 < n)=false:=by simp;omega
   have d3:decide (n < 0)=false:=by simp;omega
   have HC:=Jh (show n=((newD n).cap:Int) by rw[HCAP.out];omega);go_enter Tryz.func16,Tryz.ntmps16
   go_wp2_with fail
   refine (HTW.out _ (HM.out _).1 (HM.out _).2).mono ?_;rintro e W' hO;obtain ⟨x,y,rfl,hblk,hN⟩:=KEY.out n HC.out _ rfl e W' hO;have k2:_=some (Value.map none):=hblk.cell 2;have k3:_=some (Value.map none):=hblk.cell 3;have g2:=hblk.frozen 2;have g3:=hblk.frozen 3;have HN:=Jh hN;clear hN hO hblk;go_wp2_with fail
   go_ret
   exact HN.out
  ·have e1:min n 67108864=67108864:=by omega
   have d1:decide (n < 67108864)=false:=by simp;omega
   have d5:decide (67108864≤n)=true:=by simp;omega
   have HC:=Jh (show (67108864:Int)=((newD n).cap:Int) by rw[HCAP.out];omega);go_enter Tryz.func16,Tryz.ntmps16
   go_wp2_with fail
   refine (HTW.out _ (HM.out _).1 (HM.out _).2).mono ?_;rintro e W' hO;obtain ⟨x,y,rfl,hblk,hN⟩:=KEY.out 67108864 HC.out _ rfl e W' hO;have k2:_=some (Value.map none):=hblk.cell 2;have k3:_=some (Value.map none):=hblk.cell 3;have g2:=hblk.frozen 2;have g3:=hblk.frozen 3;have HN:=Jh hN;clear hN hO hblk;go_wp2_with fail
   go_ret
   exact HN.out
end
section
open Go.RowKit Go.Shelf Go.Maps Go.Sort
open Lib renaming hid → Jh
attribute [local go_sem ↓] Go.wp_at_zero Go.wp_at_succ
attribute [local go_sem] Later.cell
theorem law3:Keyed Tryz.prog 9:=string_keyed Tryz.underlying9
theorem zeroI (w:World):(zeroValue 3).run Tryz.prog w = .ok (.int .i64 0) w:=by kernel_rfl
theorem Kkb (w:World):(zeroValue 132).run Tryz.prog w = .ok (.pointer none) w:=by kernel_rfl
def Ksv (w:World) (f:Txt→Option Value) (dir:Txt) (e:Ending) (w':World):Prop:=
 ∃(A:Option Addr) (c:Nat) (bs:List Txt),e = .returned (.slice A bs.length c)∧Strs w' A bs.length bs∧bs.length≤c∧Asc bs∧(∀x,x∈bs↔(f (dir ++ [47]++x)).isSome=true)∧Below w.heap.size w w'
theorem Kks {k p:Txt}:Lib.hasPrefix k p=true↔∃x,k=p++x:=by
 unfold Lib.hasPrefix;rw[List.isPrefixOf_iff_prefix];constructor
 ·rintro ⟨x,h⟩;exact ⟨x,h.symm⟩
 ·rintro ⟨x,h⟩;exact ⟨x,h.symm⟩
theorem Qoe {p x:Txt}:Lib.trimPrefix (p++x) p=x:=by
 unfold Lib.trimPrefix;rw[if_pos (Kks.2 ⟨x,rfl⟩)];simp
theorem Kgl {x y:Txt}:(Lit.string x).sameKey (.string y)=true↔x=y:=by simp[Lit.sameKey]
theorem Knb {dir:Txt} {out L:List Txt} (hn:out.Nodup) (h:∀x∈out,dir ++ [47]++x∈L):out.length≤L.length:=by
 have:=Kgx (out.map fun x=>dir ++ [47]++x) L (Khh hn fun x _ y _ e=>Kej e) (by
  intro x hx;obtain ⟨y,hy,rfl⟩:=List.mem_map.1 hx
  exact h y hy)
 simpa using this
theorem Qgu (d:ByteArray):(d++(⟨#[47]⟩:ByteArray)).data.toList=d.data.toList ++ [47]:=by simp
theorem Klo (md mf:Option Nat) (b:Nat) (hmf:mf=some b) (f:Txt→Option Value) (dir:ByteArray) (w:World) (h:SM w b f) (L:List Txt) (hL:∀x,(f x).isSome=true→x∈L) (hn:L.length≤1073741824) (hdz:dir.size≤1073741824) (hz:∀x∈L,x.length≤1073741824) :
  Calls Tryz.prog 68 #[.agg #[.map md,.map mf],.string dir] w (Ksv w f dir.data.toList):=by
 obtain ⟨i0,hi0,hz0,hz1,hz2⟩:=info_parts Knj;subst hmf;obtain ⟨D,hown,hhas,hat⟩:=h;have hsize:=SMap.size_le Tryz.underlying9 hown L (fun x hx=>hL x (by rw[←hhas];exact hx));have HHAS:=Jh hhas;have HAT:=Jh hat;have HL:=Jh hL;have HZ:=Jh hz;clear hhas hat hL hz;have hbl:=hown.lt;go_enter Tryz.func68,Tryz.ntmps68
 go_upto_region 2 with fail
 have hown1:=hown.alloc (.cells #[.map md,.map (some b)] 127);have hB1:Below w.heap.size w (w.alloc (.cells #[.map md,.map (some b)] 127)):=(Below.refl _ _).alloc (Nat.le_refl _) _;have hq:Blk (w.alloc (.cells #[.map md,.map (some b)] 127)) w.heap.size 127 #[.map md,.map (some b)]:=Blk.new _ _ _;obtain ⟨w1,hw1⟩:∃x,w.alloc (.cells #[.map md,.map (some b)] 127)=x:=⟨_,rfl⟩;rw[hw1] at hown1 hB1 hq ⊢;have q1:_=some (Value.map (some b)):=hq.cell 1;clear hw1;go_wp2_with (at_range;refine wpList_range_own _ rfl _ 125 rfl 9 132 law3 Tryz.underlying125 HR b (Maps.size D) D rfl hown1 ?_;intro w0 hrg0 hg0 hs0)
 obtain ⟨r,hr⟩:∃r,w1.heap.size=r:=⟨_,rfl⟩;have hB0:Below w.heap.size w w0:=hB1.trans ⟨hg0.os,hg0.tape,hg0.output,hg0.size,fun k hk=>hg0.block k (by have:=hB1.size;omega) (by simp)⟩;have hrl:w.heap.size≤r:=by rw[←hr];exact hB1.size
 rw[hr] at hrg0 ⊢;clear hr hs0;go_frame
 go_loopg [5] (Maps.size D) (fun g s5 wr=>∃(left:Lit→Bool) (cnt:Nat) (out:List Txt) (v5:Value),v5=s5∧cnt≤g∧wr.ranges Tryz.prog 9 HR b r (Maps.size D) D left cnt∧wr.ownsRow (r+1) 9 1 v5 out.length (out.map txtV)∧out.Nodup∧(∀x,x∈out↔(f (dir.data.toList ++ [47]++x)).isSome=true∧left (.string (dir.data.toList ++ [47]++x))=false)∧Below w.heap.size w wr)
 case atStart=>
  refine ⟨Maps.has D,Maps.size D,[],_,rfl,Nat.le_refl _,hrg0,World.ownsRow_nil _ _ _ _,List.nodup_nil,fun x=>?_,hB0⟩;rw[HHAS.out (dir.data.toList ++ [47]++x)];cases (f (dir.data.toList ++ [47]++x)).isSome <;> simp
 case round=>
  obtain ⟨left,cnt,out,v5,rfl,hcg,hrg,hrow,hnd,hout,hB⟩:=hrel;have HOUT:=Jh hout;have hol:out.length≤1073741824:=Nat.le_trans (Knb hnd fun x hx=>HL.out _ ((HOUT.out x).1 hx).1) hn;clear hout;go_wp2_with (at_next;refine wpList_next_ranges _ rfl _ rfl 9 law3 HR Value.string (fun v:Value=>v) (fun key kl hk=>by obtain ⟨x,e,_⟩:=Maps.keyOf_str Tryz.underlying9 hk;exact ⟨_,e⟩) (fun v _ _=>⟨v,rfl⟩) b r (Maps.size D) D left cnt rfl hrg ?_ ?_)
  ·intro hc0 hl0;have hout2:∀x,x∈out↔(f (dir.data.toList ++ [47]++x)).isSome=true:=fun x=>by rw[HOUT.out x,hl0];simp
   have HO2:=Jh hout2;have HND:=Jh hnd;have HL0:=Jh hl0;clear hout2 hl0 hnd hc0;obtain ⟨A,c,rfl,hs,hbase,hcc⟩:=Strs.of_own hrow rfl;obtain ⟨m,hm⟩:∃m,out.length=m:=⟨_,rfl⟩;have HM:=Jh hm;rw[hm] at hs hcc hrow hol ⊢;clear hm
   by_cases hm0:m=0
   ·subst hm0;obtain rfl:out = []:=List.eq_nil_of_length_eq_zero HM.out;go_wp2_with fail
    refine (Tryz.slices_Sort_string_none A c wr).mono ?_;rintro e w3 ⟨rfl,rfl⟩;go_wp2_with fail
    go_ret
    exact ⟨A,c,[],rfl,Strs.nil,Nat.zero_le _,List.Pairwise.nil,HO2.out,hB⟩
   ·obtain ⟨g,rfl⟩:∃g,A=some ⟨g,0,none⟩:=by
     rcases hrow.2 with ⟨h1,h2⟩ | ⟨g,cap,cur,h1,_⟩
     ·exact absurd h2 hm0
     ·injection h1 with h1;exact ⟨g,h1⟩
    have hglt:=hrow.lt g rfl;have hsort:=Tryz.slices_Sort_string g 0 c out wr (Qhb hrow HM.out) hglt.2 (by rw[HM.out];omega);rw[HM.out] at hsort;have HS:=Jh hsort;clear hsort;go_wp2_with fail
    refine HS.out.mono ?_;rintro e w3 ⟨rfl,q,os,hw3⟩;obtain ⟨z,hz⟩:∃z,out.mergeSort (fun x y=>decide (x≤y))=z:=⟨_,rfl⟩;rw[hz] at hw3;have hzl:z.length=out.length:=by rw[←hz,List.length_mergeSort]
    have hperm:z.Perm out:=by rw[←hz];exact List.mergeSort_perm out _
    have hasc:Asc z:=by
     have h1:z.Pairwise (fun a b=>a≤b):=by
      have:=List.pairwise_mergeSort (le:=fun x y:Txt=>decide (x≤y)) (by intro a b c;simp;exact List.le_trans) (by intro a b;simp;exact List.le_total a b) out;rw[hz] at this;simpa using this
     unfold Asc;refine (h1.and ((hperm.nodup_iff).2 HND.out)).imp ?_;rintro a b ⟨h1,h2⟩;exact Kjc h1 (Ne.symm h2)
    have hcur:∃cur,wr.heap[g]? = some (.cells cur 9 (0,0))∧cur.size=c*1∧c≤maxLen:=by
     rcases hrow.2 with ⟨e,_⟩ | ⟨g',cap',cur,e,_,hh,_,hcm,hsz,_⟩
     ·cases e
     ·injection e with e e2 e3;injection e with e;injection e with e;subst e e3;exact ⟨cur,hh,hsz,hcm⟩
    obtain ⟨cur,hcur1,hcur2,hcm⟩:=hcur
    have hown2:w3.ownsRow (r+1) 9 1 (.slice (some ⟨g,0,none⟩) m c) m (z.map txtV):=by
     have:=ownsRow_sorted (n:=q) (os:=os) (ss:=out) (ts:=z) (base:=r+1) (cap:=c) hzl hglt.1 hcur1 (by rw[HM.out];exact hcc) hcm hcur2;rw[←hw3,HM.out] at this;exact this
    have hg3:wr.grownBy w3 (some g):=by rw[hw3];exact grownBy_sorted _
    have hB3:Below w.heap.size w w3:=hB.trans (Qiq hB.size hg3 (by have:=hglt.1;omega));obtain ⟨A4,c4,e4,hs4,_,hc4⟩:=Strs.of_own hown2 (by rw[hzl,HM.out]);injection e4 with e4 e5 e6;subst e4 e6
    have hfin:Ksv w f dir.data.toList (.returned (.slice (some ⟨g,0,none⟩) m c)) w3:=by
     refine ⟨some ⟨g,0,none⟩,c,z,by rw[hzl,HM.out],by rw[hzl,HM.out];exact hs4,by rw[hzl,HM.out];exact hcc,hasc,fun x=>?_,hB3⟩;rw[hperm.mem_iff];exact HO2.out x
    have HFIN:=Jh hfin;clear hfin hs4 hown2 hg3 hB3 hcur1 hcur2 hcm hasc hperm hzl hz hw3 hrow hs HS hrg;go_wp2_with fail
    go_ret
    exact HFIN.out
  ·intro x c kl y y2 w2 cnt2 hkx hlk hv hat2 hrg2 hlt hg2 hs2 hen;clear hs2;obtain ⟨k,e1,rfl,_⟩:=Maps.keyOf_str Tryz.underlying9 hkx
   have hxk:x.data.toList=k:=by
    have:(Value.string x)=encStr k:=e1;unfold encStr at this;injection this with this;rw[this]
   have hfk:(f k).isSome=true:=by rw[←HHAS.out k];exact Maps.has_true_of_atKey hat2
   have hkz:x.size≤1073741824:=by rw[←Kas,hxk];exact HZ.out k (HL.out k hfk)
   have hB2:Below w.heap.size w w2:=hB.trans ⟨hg2.os,hg2.tape,hg2.output,hg2.size,fun j hj=>hg2.block j (by have:=hB.size;omega) (fun e=>by injection e with e;omega)⟩
   have hrow2:w2.ownsRow (r+1) 9 1 v5 out.length (out.map txtV):=hrow.kept hg2 (.inr fun e=>by
    have:=(hrow.lt r e).1
    omega)
   have hleft:∀z:Txt,((left (.string z) && !(Lit.string z).sameKey (.string k))=false)↔(left (.string z)=false∨z=k):=by
    intro z
    cases h1:left (.string z) with
    | false=>simp
    | true=>
     rw[Bool.true_and];constructor
     ·intro h2;right;exact Kgl.1 (by simpa using h2)
     ·rintro (h2 | h2)
      ·cases h2
      ·rw[Kgl.2 h2];rfl
   have HLEFT:=Jh hleft;have HLK:=Jh hlk;have HXK:=Jh hxk;have HFK:=Jh hfk;have hcut:=Tryz.strings_CutPrefix x (dir++(⟨#[47]⟩:ByteArray)) w2;rw[hxk,Qgu] at hcut;have HND:=Jh hnd
   by_cases hp:Lib.hasPrefix k (dir.data.toList ++ [47])=true
   ·obtain ⟨s,rfl⟩:=Kks.1 hp;rw[hp,Qoe] at hcut;obtain ⟨S,hS⟩:∃S:ByteArray,(⟨s.toArray⟩:ByteArray)=S:=⟨_,rfl⟩;rw[hS] at hcut;have HS:=Jh hS;have HC:=Jh hcut
    have hnot:s∉out:=by
     intro hm;have:=((HOUT.out s).1 hm).2;rw[HLK.out] at this;cases this
    have hnd':(out ++ [s]).Nodup:=by
     rw[List.nodup_append];refine ⟨hnd,by simp,?_⟩;intro p hpo q hq;simp at hq;subst hq;intro e;exact hnot (e▸hpo)
    have hout':∀z,z∈out ++ [s]↔(f (dir.data.toList ++ [47]++z)).isSome=true∧(left (.string (dir.data.toList ++ [47]++z)) && !(Lit.string (dir.data.toList ++ [47]++z)).sameKey (.string (dir.data.toList ++ [47]++s)))=false:=by
     intro z;rw[List.mem_append,HOUT.out z,HLEFT.out,List.mem_singleton];constructor
     ·rintro (⟨h1,h2⟩ | rfl)
      ·exact ⟨h1,.inl h2⟩
      ·exact ⟨HFK.out,.inr rfl⟩
     ·rintro ⟨h1,h2 | h2⟩
      ·exact .inl ⟨h1,h2⟩
      ·exact .inr (Kej h2)
    have hol2:(out ++ [s]).length≤1073741824:=Nat.le_trans (Knb (dir:=dir.data.toList) hnd' fun z hz=>HL.out _ ((hout' z).1 hz).1) hn;rw[List.length_append] at hol2;simp only[List.length_singleton] at hol2;obtain ⟨m,hm⟩:∃m,out.length=m:=⟨_,rfl⟩;have HM:=Jh hm;rw[hm] at hrow2 hol2;have HND2:=Jh hnd';have HOUT2:=Jh hout';have hr2:r+1≤w2.heap.size:=hrg2.lt;clear hcut hS hnot hnd' hout' hm hp hnd hlk hfk hxk hleft hrow hrg hkx e1 hat2 hv hg2;go_wp2_with fail
    refine HC.out.mono ?_;rintro e w3 ⟨rfl,rfl⟩;go_wp2_with (at_builtin;refine wpList_append_own_at _ rfl _ _ 150 rfl (r+1) 9 i0 (.string ⟨#[]⟩) 1 16 Tryz.underlying150 hi0 hz0 hz1 hz2 rfl (by decide) _ _ _ rfl (hrow2.alloc _) ⟨w3.heap.size,0,none⟩ 1 1 [.string S] rfl rfl ?p1 ?p2 ?p3 ?p4 ?p5 ?_)
    case p1=>exact Kav (l:=[.string S]) (Blk.new w3 _ _)
    case p2=>intro u hu;rw[List.mem_singleton.1 hu];rfl
    case p3=>unfold maxLen;omega
    case p4=>omega
    case p5=>simp;omega
    intro v' w4 hown' hgrow _ _;have hall:w3.grownBy w4 v5.ownBlock:=(World.grownBy_alloc w3 _ _).trans hgrow;have hB4:Below w.heap.size w w4:=hB2.trans ⟨hall.os,hall.tape,hall.output,hall.size,fun j hj=>hall.block j (by have:=hB2.size;omega) (fun e=>by have:=(hrow2.lt j e.symm).1;omega)⟩;have hrg4:=hrg2.kept hall (fun e=>by have:=(hrow2.lt b e.symm).1;omega) (fun e=>by have:=(hrow2.lt r e.symm).1;omega)
    have hrow4:w4.ownsRow (r+1) 9 1 v' (out ++ [s]).length ((out ++ [s]).map txtV):=by
     have e1:(out ++ [s]).map txtV=out.map txtV ++ [.string S]:=by rw[List.map_append];simp[txtV,HS.out]
     rw[e1,List.length_append,HM.out];exact hown'
    clear hown' hgrow hall hrow2 hrg2;go_wp2_with fail
    go_roundg (gk - 1)
    case measure=>omega
    case rel=>exact ⟨_,cnt2,out ++ [s],_,rfl,by omega,hrg4,hrow4,HND2.out,HOUT2.out,hB4⟩
   ·have hpf:Lib.hasPrefix k (dir.data.toList ++ [47])=false:=by simpa using hp
    rw[hpf] at hcut;obtain ⟨S,hS⟩:∃S:ByteArray,(⟨(Lib.trimPrefix k (dir.data.toList ++ [47])).toArray⟩:ByteArray)=S:=⟨_,rfl⟩;rw[hS] at hcut;have HC:=Jh hcut
    have hout':∀z,z∈out↔(f (dir.data.toList ++ [47]++z)).isSome=true∧(left (.string (dir.data.toList ++ [47]++z)) && !(Lit.string (dir.data.toList ++ [47]++z)).sameKey (.string k))=false:=by
     intro z;rw[HOUT.out z,HLEFT.out];constructor
     ·rintro ⟨h1,h2⟩;exact ⟨h1,.inl h2⟩
     ·rintro ⟨h1,h2 | h2⟩
      ·exact ⟨h1,h2⟩
      ·exact absurd (Kks.2 ⟨z,h2.symm⟩) hp
    have HOUT2:=Jh hout';clear hcut hS hout' hp hpf hnd hlk hfk hxk hleft hrow hrg hkx e1 hat2 hv hg2;go_wp2_with fail
    refine HC.out.mono ?_;rintro e w3 ⟨rfl,rfl⟩;go_wp2_with fail
    go_roundg (gk - 1)
    case measure=>omega
    case rel=>exact ⟨_,cnt2,out,_,rfl,by omega,hrg2,hrow2,HND.out,HOUT2.out,hB2⟩
def two (x y k:Nat):Nat:=if k=x∨k=y then 1 else 0
theorem two_l (x y:Nat):two x y x≠0:=by simp[two]
theorem two_r (x y:Nat):two x y y≠0:=by simp[two]
def DoOut (md mf:Nat) (f g:Txt→Option Value) (w:World) (e:Ending) (w':World):Prop:=
 e = .returned (.tuple #[])∧SM w' md f∧SM w' mf g∧Own (two md mf) (two md mf) w w'
theorem Kcw {R R':Nat→Nat} {w w':World} (h:Own R R' w w') {b i:Nat} {v:Value} (hc:w.cell? ⟨b,i,none⟩=some v) (hb:R b=0):w'.cell? ⟨b,i,none⟩=some v:=
 (World.cell?_of_block (h.block b (Kaf hc) hb)).trans hc
theorem Kdo {x y k:Nat} (h1:k≠x) (h2:k≠y):two x y k=0:=by simp[two,h1,h2]
section
variable {md mf : Nat} {f g : Txt → Option Value}
theorem Kux (b c:Nat) (S:ByteArray) (P:Option Addr) (w:World) (hd:SM w md f) (hf:SM w mf g) (hne:md≠mf) (hb:w.cell? ⟨b,0,none⟩=some (.string S)) (hc:w.cell? ⟨c,0,none⟩=some (.pointer P)) (hS:S.size≤maxLen) (L:List Txt) (hL:∀x,(g x).isSome=true→x∈L) (hn:L.length < maxLen) :
  Calls Tryz.prog 115 #[.agg #[.map (some md),.map (some mf)],.pointer (some ⟨c,0,none⟩),.pointer (some ⟨b,0,none⟩)] w (DoOut md mf f (upd g S.data.toList (some (.pointer P))) w):=by
 have hbl:=Kaf hb;have hcl:=Kaf hc;have HL:=Jh hL;clear hL;go_enter Tryz.func115,Tryz.ntmps115
 go_upto_region 1 with fail
 obtain ⟨w1,hw1⟩:∃x,w.alloc (.cells #[.map (some md),.map (some mf)] 127)=x:=⟨_,rfl⟩;have hb1:Below w.heap.size w w1:=by rw[←hw1];exact (Below.refl _ _).alloc (Nat.le_refl _) _
 have hq:Blk w1 w.heap.size 127 #[.map (some md),.map (some mf)]:=by rw[←hw1];exact Blk.new _ _ _
 rw[hw1];obtain ⟨q,hqq⟩:∃q,w.heap.size=q:=⟨_,rfl⟩;rw[hqq] at hq ⊢;have q1:_=some (Value.map (some mf)):=hq.cell 1;have c1:=later hb1 hb;have c2:=later hb1 hc;have hd1:=hd.below hb1 hd.lt;have hf1:=hf.below hb1 hf.lt;clear hw1 hqq hb hd hf hc;go_wp2_with (at_mapUpdate;refine Khx _ rfl _ _ _ rfl Tryz.underlying9 Tryz.underlying125 rfl hf1 rfl hS _ rfl L HL.out hn ?_)
 intro w2 hf2 hg2 _;have hd2:=hd1.grown hg2 (by simpa using hne);have hO:Own (two md mf) (two md mf) w w2:=(Own.of_below hb1).trans (Own.of_grown hg2 (two_r _ _));go_wp2_with fail
 go_end0
 exact ⟨rfl,hd2,hf2,hO⟩
theorem Kta (a:ByteArray) (s:Txt):(a++(⟨#[47]⟩:ByteArray)++(⟨s.toArray⟩:ByteArray)).data.toList=a.data.toList ++ [47]++s:=by simp
theorem Kor (a:ByteArray) (s:Txt):(a++(⟨#[47]⟩:ByteArray)++(⟨s.toArray⟩:ByteArray)).size=a.size+1+s.length:=by
 rw[←Kas,Kta];simp;omega
theorem Qlz {f:Txt→Option Value} {a:Txt} {bs:List Txt} {i:Nat} (h:i < bs.length):rmF f a (bs.take (i+1))=upd (rmF f a (bs.take i)) (a ++ [47]++bs[i]!) none:=by
 unfold rmF;rw[List.take_succ_eq_append_getElem h,getElem!_pos bs i h,List.foldl_append];rfl
theorem Kvi (b:Nat) (S:ByteArray) (w:World) (hd:SM w md f) (hf:SM w mf g) (hne:md≠mf) (hb:w.cell? ⟨b,0,none⟩=some (.string S)) (hbd:b≠md) (hbf:b≠mf) (hS:S.size≤1073741824) (L:List Txt) (hL:∀x,(g x).isSome=true→x∈L) (hn:L.length≤1073741824) (hz:∀x∈L,x.length≤1073741824) :
  Calls Tryz.prog 111 #[.agg #[.map (some md),.map (some mf)],.pointer (some ⟨b,0,none⟩)] w fun e w'=>∃bs:List Txt,bs.Nodup∧(∀x,x∈bs↔(g (S.data.toList ++ [47]++x)).isSome=true)∧DoOut md mf (upd f S.data.toList none) (upd (rmF g S.data.toList bs) S.data.toList none) w e w':=by
 have hbl:=Kaf hb;have HL:=Jh hL;have HZ:=Jh hz;clear hL hz;go_enter Tryz.func111,Tryz.ntmps111
 go_upto_region 1 with fail
 obtain ⟨w1,hw1⟩:∃x,w.alloc (.cells #[.map (some md),.map (some mf)] 127)=x:=⟨_,rfl⟩;have hb1:Below w.heap.size w w1:=by rw[←hw1];exact (Below.refl _ _).alloc (Nat.le_refl _) _
 have hq:Blk w1 w.heap.size 127 #[.map (some md),.map (some mf)]:=by rw[←hw1];exact Blk.new _ _ _
 rw[hw1];obtain ⟨q,hqq⟩:∃q,w.heap.size=q:=⟨_,rfl⟩;have hqd:q≠md:=by have:=hd.lt;omega
 have hqf:q≠mf:=by have:=hf.lt;omega
 rw[hqq] at hq ⊢;have q0:_=some (Value.map (some md)):=hq.cell 0;have q1:_=some (Value.map (some mf)):=hq.cell 1;have c1:=later hb1 hb;have hd1:=hd.below hb1 hd.lt;have hf1:=hf.below hb1 hf.lt;clear hw1 hb hd hf;go_wp2_with fail
 refine (Klo (some md) (some mf) mf rfl g S w1 hf1 L HL.out hn hS HZ.out).mono ?_;rintro e w2 ⟨A,c,bs,rfl,hs,hc,hasc,hbs,hb2⟩;have hnd:bs.Nodup:=List.Pairwise.imp (fun {a b} h=>by intro e;subst e;exact List.lt_irrefl _ h) hasc
 have hbl2:∀x∈bs,x.length≤1073741824:=by
  intro x hx;have h1:=HZ.out _ (HL.out _ ((hbs x).1 hx));simp at h1;omega
 have HBS:=Jh hbs;have HND:=Jh hnd;have HBL:=Jh hbl2;have hB2:=then_ hb1 hb2;have hd2:=hd1.below hb2 hd1.lt;have hf2:=hf1.below hb2 hf1.lt;have hq2:=hq.below hb2 hq.lt;have c2:=later hb2 c1;obtain ⟨m,hm⟩:∃m,bs.length=m:=⟨_,rfl⟩;have HM:=Jh hm;rw[hm] at hs hc ⊢;have hml:m≤1073741824:=by rw[←hm];exact Nat.le_trans (Knb hnd fun x hx=>HL.out _ ((hbs x).1 hx)) hn
 clear hbs hnd hbl2 hb1 hb2 hd1 hf1 hq q0 q1 c1 hm hqq hasc;go_upto_block 0 with fail
 go_cut [] (fun wz=>SM wz md f∧SM wz mf (rmF g S.data.toList bs)∧Own (two md mf) (two md mf) w2 wz)
 case first=>
  go_wp2_with fail
  go_loopg [9] m (fun k s9 wr=>∃i:Nat,i+k=m∧s9 = .int .i64 (i:Int)∧SM wr md f∧SM wr mf (rmF g S.data.toList (bs.take i))∧Own (two md mf) (two md mf) w2 wr)
  case atStart=>exact ⟨0,by omega,rfl,hd2,by simpa[rmF] using hf2,Own.refl _ _⟩
  case round=>
   obtain ⟨i,hig,rfl,hdr,hfr,hO⟩:=hrel;have HIG:=Jh hig
   by_cases hi:i < m
   ·have el:decide ((i:Int) < (m:Int))=true:=by simp;omega
    have el':decide (i < m)=true:=by simp;omega
    clear hig;obtain ⟨bb,oo,rfl,hbb,hcell⟩:=hs.at_ hi;have hrt:=Qlz (f:=g) (a:=S.data.toList) (bs:=bs) (i:=i) (by have:=HM.out;omega);have hsz:=HBL.out bs[i]! (by rw[getElem!_pos bs i (by have:=HM.out;omega)];exact List.getElem_mem _);obtain ⟨s,hs'⟩:∃s,bs[i]! = s:=⟨_,rfl⟩;rw[hs'] at hcell hrt hsz;unfold txtV at hcell;have hks:=Kor S s;have hkz:(S++(⟨#[47]⟩:ByteArray)++(⟨s.toArray⟩:ByteArray)).size≤maxLen:=by rw[hks];unfold maxLen;omega
    obtain ⟨X,hX⟩:∃X:ByteArray,(⟨s.toArray⟩:ByteArray)=X:=⟨_,rfl⟩;have hkb:S.data.toList++47 :: X.data.toList=S.data.toList ++ [47]++s:=by rw[←hX];simp
    rw[hX] at hcell hkz;have hXz:X.size≤1073741824:=by rw[←hX,←Kas];exact hsz
    have hbbne:two md mf bb=0:=by
     apply Kdo
     ·rintro rfl;obtain ⟨D,⟨es,clock,h1,_⟩,_⟩:=hd2;simp[World.cell?,h1] at hcell
     ·rintro rfl;obtain ⟨D,⟨es,clock,h1,_⟩,_⟩:=hf2;simp[World.cell?,h1] at hcell
    have e1:=Kcw hO hcell hbbne;have e2:=Kcw hO c2 (Kdo hbd hbf);have e3:_=some (Value.map (some mf)):=Kcw hO (hq2.cell 1) (Kdo hqd hqf);have HRT:=Jh hrt;have HKB:=Jh hkb;clear hrt hkb hs' hX hcell hks;go_wp2_with (at_delete;refine Kff _ rfl _ _ rfl Tryz.underlying9 Tryz.underlying125 rfl hfr rfl hkz ?_)
    intro w3 hf3 hg3 _;rw[HKB.out] at hf3;have hd3:=hdr.grown hg3 (by simpa using hne);have hO3:=hO.trans (Own.of_grown hg3 (two_r md mf));go_wp2_with fail
    go_roundg (gk - 1)
    case measure=>have:=HIG.out;omega
    case rel=>exact ⟨i+1,by have:=HIG.out;omega,by go_num,hd3,by rw[HRT.out];exact hf3,hO3⟩
   ·have el:decide ((i:Int) < (m:Int))=false:=by simp;omega
    have el':decide (i < m)=false:=by simp;omega
    have htk:bs.take i=bs:=List.take_of_length_le (by have:=HM.out;omega);rw[htk] at hfr;clear htk hig;go_wp2_with fail
    go_meet
    exact ⟨hdr,hfr,hO⟩
 case rest=>
  obtain ⟨hd3,hf3,hO3⟩:=hcut;obtain ⟨w3,rfl⟩:∃x,x=wc:=⟨_,rfl⟩;have e1:=Kcw hO3 c2 (Kdo hbd hbf);have e2:_=some (Value.map (some mf)):=Kcw hO3 (hq2.cell 1) (Kdo hqd hqf);have hSm:S.size≤maxLen:=by unfold maxLen;omega
  clear c2;go_wp2_with (at_delete;refine Kff _ rfl _ _ rfl Tryz.underlying9 Tryz.underlying125 rfl hf3 rfl hSm ?_)
  intro w4 hf4 hg4 _;have hd4:=hd3.grown hg4 (by simpa using hne);have hO4:=hO3.trans (Own.of_grown hg4 (two_r md mf));have e3:=Kcw (Own.of_grown (R:=two md mf) hg4 (two_r md mf)) e1 (Kdo hbd hbf);have e4:_=some (Value.map (some md)):=Kcw hO4 (hq2.cell 0) (Kdo hqd hqf);clear e1 e2;go_wp2_with (at_delete;refine Kff _ rfl _ _ rfl Tryz.underlying9 Tryz.underlying124 rfl hd4 rfl hSm ?_)
  intro w5 hd5 hg5 _;have hf5:=hf4.grown hg5 (by simpa using Ne.symm hne);have hO5:=hO4.trans (Own.of_grown hg5 (two_l md mf));go_wp2_with fail
  go_end0
  exact ⟨bs,HND.out,HBS.out,rfl,hd5,hf5,(Own.of_below hB2).trans hO5⟩
end
theorem Qle {f:Txt→Option Value} {a b:Txt} {bs:List Txt} {i:Nat} (h:i < bs.length):mvF f a b (bs.take (i+1))=upd (upd (mvF f a b (bs.take i)) (b ++ [47]++bs[i]!) (mvF f a b (bs.take i) (a ++ [47]++bs[i]!))) (a ++ [47]++bs[i]!) none:=by
 unfold mvF;rw[List.take_succ_eq_append_getElem h,getElem!_pos bs i h,List.foldl_append];rfl
theorem Qnl {f:Txt→Option Value} {a b:Txt} {bs:List Txt} (hn:bs.Nodup) (hab:∀s t:Txt,a ++ [47]++s≠b ++ [47]++t) {i:Nat} (h:i < bs.length):mvF f a b (bs.take i) (a ++ [47]++bs[i]!)=f (a ++ [47]++bs[i]!):=by
 rw[Kqj f hab (bs.take i) (hn.sublist (List.take_sublist _ _)) f (fun _ _=>rfl),if_neg]
 ·have hf:(bs.take i).find? (fun s=>a ++ [47]++bs[i]! == b ++ [47]++s)=none:=by
   rw[List.find?_eq_none];intro t _;simp only[beq_iff_eq];exact hab _ t
  rw[hf]
 ·rintro ⟨s,hs,e⟩;have:=Kej e;rw[getElem!_pos bs i h] at this;obtain ⟨j,hj,e2⟩:=List.getElem_of_mem hs;rw[List.length_take] at hj;rw[List.getElem_take] at e2;have:=(List.getElem_inj hn).1 (e2.trans this.symm);omega
theorem Qld {f:Txt→Option Value} {a b:Txt} {bs L:List Txt} (hn:bs.Nodup) (hab:∀s t:Txt,a ++ [47]++s≠b ++ [47]++t) (hL:∀x,(f x).isSome=true→x∈L) (i:Nat):∀x,(mvF f a b (bs.take i) x).isSome=true→x∈L++bs.map (fun s=>b ++ [47]++s):=by
 intro x hx;rw[Kqj f hab (bs.take i) (hn.sublist (List.take_sublist _ _)) f (fun _ _=>rfl)] at hx
 split at hx
 ·cases hx
 ·split at hx
  ·rename_i s hs
   have h1:=List.find?_some hs;have h2:=List.mem_of_find?_eq_some hs;simp only[beq_iff_eq] at h1;rw[h1];exact List.mem_append.2 (.inr (List.mem_map.2 ⟨s,List.mem_of_mem_take h2,rfl⟩))
  ·exact List.mem_append.2 (.inl (hL x hx))
section
variable {md mf : Nat} {f g : Txt → Option Value}
theorem Kqi (S T:ByteArray) (P:Option Addr) (w:World) (hd:SM w md f) (hf:SM w mf g) (hne:md≠mf) (hfa:f S.data.toList=none) (hga:g S.data.toList=some (.pointer P)) (hS:S.size≤maxLen) (hT:T.size≤maxLen) (L:List Txt) (hL:∀x,(g x).isSome=true→x∈L) (hn:L.length < maxLen) :
  Calls Tryz.prog 120 #[.agg #[.map (some md),.map (some mf)],.string S,.string T] w (DoOut md mf f (upd (upd g T.data.toList (some (.pointer P))) S.data.toList none) w):=by
 have HL:=Jh hL;have HFA:=Jh hfa;have HGA:=Jh hga;clear hL hfa hga;go_enter Tryz.func120,Tryz.ntmps120
 go_upto_region 1 with fail
 obtain ⟨w1,hw1⟩:∃x,w.alloc (.cells #[.map (some md),.map (some mf)] 127)=x:=⟨_,rfl⟩;have hb1:Below w.heap.size w w1:=by rw[←hw1];exact (Below.refl _ _).alloc (Nat.le_refl _) _
 have hq:Blk w1 w.heap.size 127 #[.map (some md),.map (some mf)]:=by rw[←hw1];exact Blk.new _ _ _
 rw[hw1];obtain ⟨q,hqq⟩:∃q,w.heap.size=q:=⟨_,rfl⟩;have hqd:q≠md:=by have:=hd.lt;omega
 have hqf:q≠mf:=by have:=hf.lt;omega
 rw[hqq] at hq ⊢;have q0:_=some (Value.map (some md)):=hq.cell 0;have q1:_=some (Value.map (some mf)):=hq.cell 1;have hd1:=hd.below hb1 hd.lt;have hf1:=hf.below hb1 hf.lt;clear hw1 hd hf hqq
 go_wp2_with (first
  | (at_lookup;refine Kgq (T:=124) _ rfl _ _ rfl Tryz.underlying9 Tryz.underlying124 (zeroI _) rfl hd1 rfl hS (.int .i64 0) (by rw[HFA.out];rfl) ?_)
  | (at_lookup;refine Kgq (T:=125) _ rfl _ _ rfl Tryz.underlying9 Tryz.underlying125 (Kkb _) rfl hf1 rfl hS (.pointer P) (by rw[HGA.out];rfl) ?_)
  | (at_mapUpdate;refine Khx _ rfl _ _ _ rfl Tryz.underlying9 Tryz.underlying125 rfl hf1 rfl hT _ rfl L HL.out hn ?_))
 intro w2 hf2 hg2 _;have hd2:=hd1.grown hg2 (by simpa using hne);have hq2:=hq.grown hg2 (by simpa using hqf);have e1:_=some (Value.map (some mf)):=hq2.cell 1;clear q0 q1;go_wp2_with (at_delete;refine Kff _ rfl _ _ rfl Tryz.underlying9 Tryz.underlying125 rfl hf2 rfl hS ?_)
 intro w3 hf3 hg3 _;have hd3:=hd2.grown hg3 (by simpa using hne);have hO:Own (two md mf) (two md mf) w w3:=((Own.of_below hb1).trans (Own.of_grown hg2 (two_r _ _))).trans (Own.of_grown hg3 (two_r _ _));go_wp2_with fail
 go_end0
 exact ⟨rfl,hd3,hf3,hO⟩
theorem Ksi (S T:ByteArray) (w:World) (hd:SM w md f) (hf:SM w mf g) (hne:md≠mf) (hfa:f S.data.toList=some (.int .i64 1)) (hST:∀s t:Txt,S.data.toList ++ [47]++s≠T.data.toList ++ [47]++t) (hg:∀x v,g x=some v→∃P,v = .pointer P) (hS:S.size≤1073741824) (hT:T.size≤1073741824)
  (L:List Txt) (hL:∀x,(g x).isSome=true→x∈L) (hn:L.length≤1073741824) (hz:∀x∈L,x.length≤1073741824) (LD:List Txt) (hLD:∀x,(f x).isSome=true→x∈LD) (hnD:LD.length≤1073741824) :
  Calls Tryz.prog 120 #[.agg #[.map (some md),.map (some mf)],.string S,.string T] w fun e w'=>∃bs:List Txt,bs.Nodup∧(∀x,x∈bs↔(g (S.data.toList ++ [47]++x)).isSome=true)∧DoOut md mf (upd (upd f S.data.toList none) T.data.toList (some (.int .i64 1))) (mvF g S.data.toList T.data.toList bs) w e w':=by
 have hSm:S.size≤maxLen:=by unfold maxLen;omega
 have hTm:T.size≤maxLen:=by unfold maxLen;omega
 have hLD2:∀x,(upd f S.data.toList none x).isSome=true→x∈LD:=by
  intro x hx;unfold upd at hx
  split at hx
  ·cases hx
  ·exact hLD x hx
 have HLD:=Jh hLD2;have HL:=Jh hL;have HZ:=Jh hz;have HFA:=Jh hfa;have HST:=Jh hST;have HG:=Jh hg;clear hL hfa hST hz hLD hLD2 hg;go_enter Tryz.func120,Tryz.ntmps120
 go_upto_region 1 with fail
 obtain ⟨w1,hw1⟩:∃x,w.alloc (.cells #[.map (some md),.map (some mf)] 127)=x:=⟨_,rfl⟩;have hb1:Below w.heap.size w w1:=by rw[←hw1];exact (Below.refl _ _).alloc (Nat.le_refl _) _
 have hq:Blk w1 w.heap.size 127 #[.map (some md),.map (some mf)]:=by rw[←hw1];exact Blk.new _ _ _
 rw[hw1];obtain ⟨q,hqq⟩:∃q,w.heap.size=q:=⟨_,rfl⟩;have hqd:q≠md:=by have:=hd.lt;omega
 have hqf:q≠mf:=by have:=hf.lt;omega
 rw[hqq] at hq ⊢;have q0:_=some (Value.map (some md)):=hq.cell 0;have hd1:=hd.below hb1 hd.lt;have hf1:=hf.below hb1 hf.lt;clear hw1 hd hf hqq
 go_wp2_with (first
  | (at_lookup;refine Kgq (T:=124) _ rfl _ _ rfl Tryz.underlying9 Tryz.underlying124 (zeroI _) rfl hd1 rfl hSm (.int .i64 1) (by rw[HFA.out];rfl) ?_)
  | (at_delete;refine Kff _ rfl _ _ rfl Tryz.underlying9 Tryz.underlying124 rfl hd1 rfl hSm ?_))
 intro w2 hd2 hg2 _;have hf2:=hf1.grown hg2 (by simpa using Ne.symm hne);have hq2:=hq.grown hg2 (by simpa using hqd);have e0:_=some (Value.map (some md)):=hq2.cell 0;clear q0;go_wp2_with (at_mapUpdate;refine Khx _ rfl _ _ _ rfl Tryz.underlying9 Tryz.underlying124 rfl hd2 rfl hTm _ rfl LD HLD.out (by unfold maxLen;omega) ?_)
 intro w3 hd3 hg3 _;have hf3:=hf2.grown hg3 (by simpa using Ne.symm hne);have hq3:=hq2.grown hg3 (by simpa using hqd);have e0':_=some (Value.map (some md)):=hq3.cell 0;have e1':_=some (Value.map (some mf)):=hq3.cell 1;have hO3:Own (two md mf) (two md mf) w w3:=((Own.of_below hb1).trans (Own.of_grown hg2 (two_l _ _))).trans (Own.of_grown hg3 (two_l _ _));clear e0 hd1 hf1 hd2 hf2 hg2 hg3 hb1 hq hq2;go_wp2_with fail
 refine (Klo (some md) (some mf) mf rfl g S w3 hf3 L HL.out hn hS HZ.out).mono ?_;rintro e w4 ⟨A,c,bs,rfl,hs,hc,hasc,hbs,hb4⟩;have hnd:bs.Nodup:=List.Pairwise.imp (fun {a b} h=>by intro e;subst e;exact List.lt_irrefl _ h) hasc
 have hbl2:∀x∈bs,x.length≤1073741824:=by
  intro x hx;have h1:=HZ.out _ (HL.out _ ((hbs x).1 hx));simp at h1;omega
 have HBS:=Jh hbs;have HND:=Jh hnd;have HBL:=Jh hbl2;have hd4:=hd3.below hb4 hd3.lt;have hf4:=hf3.below hb4 hf3.lt;have hq4:=hq3.below hb4 hq3.lt;have hO4:=hO3.trans (Own.of_below hb4);obtain ⟨m,hm⟩:∃m,bs.length=m:=⟨_,rfl⟩;have HM:=Jh hm;rw[hm] at hs hc ⊢;have hml:m≤1073741824:=by rw[←hm];exact Nat.le_trans (Knb hnd fun x hx=>HL.out _ ((hbs x).1 hx)) hn
 clear hbs hnd hbl2 hb4 hd3 hf3 hq3 e0' e1' hm hasc hO3;go_wp2_with fail
 go_loopg [33] m (fun k s33 wr=>∃i:Nat,i+k=m∧s33 = .int .i64 (i:Int)∧SM wr md (upd (upd f S.data.toList none) T.data.toList (some (.int .i64 1)))∧SM wr mf (mvF g S.data.toList T.data.toList (bs.take i))∧Own (two md mf) (two md mf) w4 wr)
 case atStart=>exact ⟨0,by omega,rfl,hd4,by simpa[mvF] using hf4,Own.refl _ _⟩
 case round=>
  obtain ⟨i,hig,rfl,hdr,hfr,hO⟩:=hrel;have HIG:=Jh hig
  by_cases hi:i < m
  ·have el:decide ((i:Int) < (m:Int))=true:=by simp;omega
   have el':decide (i < m)=true:=by simp;omega
   clear hig;obtain ⟨bb,oo,rfl,hbb,hcell⟩:=hs.at_ hi;have hil:i < bs.length:=by have:=HM.out;omega
   have hmt:=Qle (f:=g) (a:=S.data.toList) (b:=T.data.toList) hil;have hmo:=Qnl (f:=g) (a:=S.data.toList) (b:=T.data.toList) HND.out HST.out hil;have hmk:=Qld (f:=g) (a:=S.data.toList) (b:=T.data.toList) (bs:=bs) (L:=L) HND.out HST.out HL.out i;have hmem:bs[i]!∈bs:=by rw[getElem!_pos bs i hil];exact List.getElem_mem _
   have hsz:=HBL.out bs[i]! hmem;have hsome:=(HBS.out bs[i]!).1 hmem;obtain ⟨s,hs'⟩:∃s,bs[i]! = s:=⟨_,rfl⟩;rw[hs'] at hcell hmt hmo hsz hsome;obtain ⟨v,hv⟩:=Option.isSome_iff_exists.1 hsome;obtain ⟨P,rfl⟩:=HG.out _ v hv;rw[hv] at hmo;rw[hmo] at hmt;unfold txtV at hcell;have k1:(S++(⟨#[47]⟩:ByteArray)++(⟨s.toArray⟩:ByteArray)).size≤maxLen:=by rw[Kor];unfold maxLen;omega
   have k2:(T++(⟨#[47]⟩:ByteArray)++(⟨s.toArray⟩:ByteArray)).size≤maxLen:=by rw[Kor];unfold maxLen;omega
   have hgk:mvF g S.data.toList T.data.toList (bs.take i) (S++(⟨#[47]⟩:ByteArray)++(⟨s.toArray⟩:ByteArray)).data.toList=some (.pointer P):=by rw[Kta];exact hmo
   obtain ⟨X,hX⟩:∃X:ByteArray,(⟨s.toArray⟩:ByteArray)=X:=⟨_,rfl⟩;have b1:S.data.toList++47 :: X.data.toList=S.data.toList ++ [47]++s:=by rw[←hX];simp
   have b2:T.data.toList++47 :: X.data.toList=T.data.toList ++ [47]++s:=by rw[←hX];simp
   rw[hX] at hcell k1 k2 hgk;have hXz:X.size≤1073741824:=by rw[←hX,←Kas];exact hsz
   have hbbne:two md mf bb=0:=by
    apply Kdo
    ·rintro rfl;obtain ⟨D,⟨es,clock,h1,_⟩,_⟩:=hd4;simp[World.cell?,h1] at hcell
    ·rintro rfl;obtain ⟨D,⟨es,clock,h1,_⟩,_⟩:=hf4;simp[World.cell?,h1] at hcell
   have e1:=Kcw hO hcell hbbne;have e3:_=some (Value.map (some mf)):=Kcw hO (hq4.cell 1) (Kdo hqd hqf);have hLn:(L++bs.map (fun s=>T.data.toList ++ [47]++s)).length < maxLen:=by rw[List.length_append,List.length_map,HM.out];unfold maxLen;omega
   have HMT:=Jh hmt;have B1:=Jh b1;have B2:=Jh b2;have HGK:=Jh hgk;have HMK:=Jh hmk;clear hmt hmo hmk b1 b2 hgk hs' hX hcell hv hsome hsz hmem hil
   go_wp2_with (first
    | (at_lookup;refine Kgq (T:=125) _ rfl _ _ rfl Tryz.underlying9 Tryz.underlying125 (Kkb _) rfl hfr rfl k1 (.pointer P) (by rw[HGK.out];rfl) ?_)
    | (at_mapUpdate;refine Khx _ rfl _ _ _ rfl Tryz.underlying9 Tryz.underlying125 rfl hfr rfl k2 _ rfl _ HMK.out hLn ?_))
   intro w5 hf5 hg5 _;rw[B2.out] at hf5;have hd5:=hdr.grown hg5 (by simpa using hne);have hO5:=hO.trans (Own.of_grown hg5 (two_r md mf));have e4:_=some (Value.map (some mf)):=Kcw hO5 (hq4.cell 1) (Kdo hqd hqf);clear e3 e1;go_wp2_with (at_delete;refine Kff _ rfl _ _ rfl Tryz.underlying9 Tryz.underlying125 rfl hf5 rfl k1 ?_)
   intro w6 hf6 hg6 _;rw[B1.out,show T.data.toList++47 :: s=T.data.toList ++ [47]++s by simp] at hf6;have hd6:=hd5.grown hg6 (by simpa using hne);have hO6:=hO5.trans (Own.of_grown hg6 (two_r md mf));go_wp2_with fail
   go_roundg (gk - 1)
   case measure=>have:=HIG.out;omega
   case rel=>exact ⟨i+1,by have:=HIG.out;omega,by go_num,hd6,by rw[HMT.out];exact hf6,hO6⟩
  ·have el:decide ((i:Int) < (m:Int))=false:=by simp;omega
   have el':decide (i < m)=false:=by simp;omega
   have htk:bs.take i=bs:=List.take_of_length_le (by have:=HM.out;omega);rw[htk] at hfr;clear htk hig;go_wp2_with fail
   go_end0
   exact ⟨bs,HND.out,HBS.out,rfl,hdr,hfr,hO4.trans hO⟩
theorem Kvj (b c:Nat) (S T:ByteArray) (w:World) (Q:Ending→World→Prop) (hb:w.cell? ⟨b,0,none⟩=some (.string S)) (hc:w.cell? ⟨c,0,none⟩=some (.string T))
  (hQ:∀w1,Below w.heap.size w w1→Calls Tryz.prog 120 #[.agg #[.map (some md),.map (some mf)],.string S,.string T] w1 fun e w'=>e = .returned (.tuple #[])∧Q e w') :
  Calls Tryz.prog 119 #[.agg #[.map (some md),.map (some mf)],.pointer (some ⟨b,0,none⟩),.pointer (some ⟨c,0,none⟩)] w Q:=by
 have HQ:=Jh hQ;clear hQ;go_enter Tryz.func119,Tryz.ntmps119
 go_upto_region 1 with fail
 obtain ⟨w1,hw1⟩:∃x,w.alloc (.cells #[.map (some md),.map (some mf)] 127)=x:=⟨_,rfl⟩;have hb1:Below w.heap.size w w1:=by rw[←hw1];exact (Below.refl _ _).alloc (Nat.le_refl _) _
 have hq:Blk w1 w.heap.size 127 #[.map (some md),.map (some mf)]:=by rw[←hw1];exact Blk.new _ _ _
 rw[hw1];obtain ⟨q,hqq⟩:∃q,w.heap.size=q:=⟨_,rfl⟩;have c1:=later hb1 hb;have c2:=later hb1 hc;have HB1:=Jh hb1;rw[hqq] at hq ⊢;have q0:_=some (Value.map (some md)):=hq.cell 0;have q1:_=some (Value.map (some mf)):=hq.cell 1;clear hw1 hqq hb hc hb1;go_wp2_with fail
 refine (HQ.out w1 HB1.out).mono ?_;rintro e w2 ⟨rfl,hq2⟩;have H2:=Jh hq2;clear hq2;go_wp2_with fail
 go_end0
 exact H2.out
end
end
section
open Go.RowKit Go.Shelf Go.Maps Go.Sort
attribute [local go_sem ↓] Go.wp_at_zero Go.wp_at_succ
attribute [local go_sem] Later.cell
theorem Kme {s:Txt} (h:nameB s=true):s.length≤32:=by
 simp only[nameB,Bool.and_eq_true,decide_eq_true_eq] at h;exact h.2
theorem Kha {s:Txt} (h:pathB s=true):s.length≤65:=by
 unfold pathB at h
 cases hs:Kai s with
 | none=>rw[hs] at h;have:=Kme h;omega
 | some k=>
  rw[hs] at h;simp only[Bool.and_eq_true] at h;have h1:=Kme h.1;have h2:=Kme h.2;have:=Kji hs;rw[List.length_take] at h1;rw[List.length_drop] at h2;omega
theorem Qbv {w:World} {b m:Nat} {T:TypeId} {cs:Array Value} {f:Txt→Option Value} (h:Blk w b T cs) (k:SM w m f):b≠m:=by
 rintro rfl;obtain ⟨D,⟨es,clock,h1,_⟩,_⟩:=k;unfold Blk at h;rw[h] at h1;cases h1
theorem Kef (a:Txt):(⟨a.toArray⟩:ByteArray).data.toList=a:=by simp
theorem Kjy (a:Txt):(⟨a.toArray⟩:ByteArray).size=a.length:=by rw[←Kas]
section
variable {n : Nat} {l : List Th} {φ : List Nat} {md mf : Nat} {w : World} {R : Nat → Nat}
theorem Qcb {x:Txt} (h:(dirF l x).isSome=true):x∈l.map Th.path:=by
 obtain ⟨y,hy,_,e⟩:=Kdf.1 h;exact List.mem_map.2 ⟨y,hy,e⟩
theorem Kgg {x:Txt} (h:(filF φ l x).isSome=true):x∈l.map Th.path:=by
 unfold filF at h
 cases hf:l.find? fun y=>!y.dir && y.path == x with
 | none=>rw[hf] at h;cases h
 | some y=>
  have h1:=List.find?_some hf;simp only[Bool.and_eq_true,beq_iff_eq] at h1;exact List.mem_map.2 ⟨y,List.mem_of_find?_eq_some hf,h1.2⟩
theorem Kjg (hw:TW n l):∀x∈l.map Th.path,x.length≤1073741824:=by
 intro x hx;obtain ⟨y,hy,rfl⟩:=List.mem_map.1 hx;have:=Kha (hw.paths y hy);omega
theorem Kxe {x:Txt} {v:Value} (h:filF φ l x=some v):∃P,v = .pointer P:=by
 unfold filF at h
 cases hf:l.find? fun y=>!y.dir && y.path == x with
 | none=>rw[hf] at h;cases h
 | some y=>rw[hf] at h;injection h with h;exact ⟨_,h.symm⟩
theorem Kwz (s:St) (F:Nat) (C:Array Value) (hw:TW n l) (hok:StOk n l s) (hl:l.length≤1073741824) (hd:SM w md (dirF l)) (hf:SM w mf (filF φ l)) (hne:md≠mf) (hv:StepM w R φ s (.func (.func F) #[] C)) :
  Calls Tryz.prog F (#[.agg #[.map (some md),.map (some mf)]]++C) w (DoOut md mf (dirF (Kad l s)) (filF φ (Kad l s)) w):=by
 have hlm:(l.map Th.path).length≤1073741824:=by rw[List.length_map];exact hl
 have hmx:maxLen=9223372036854775807:=rfl
 cases s with
 | mkdir a=>exact (show False from hv).elim
 | create a i=>
  obtain ⟨b,c,e,⟨h1,h2⟩,h3,h4⟩:=hv;injection e with e1 e2 e3;injection e1 with e1;subst e1 e3;have hc:_=some (Value.string ⟨a.toArray⟩):=h1.cell 0;have hc2:_=some (fptr φ i):=h3.cell 0;have ha:=Kha hok.1;have:=Kux (md:=md) (mf:=mf) b c ⟨a.toArray⟩ _ w hd hf hne hc hc2 (by rw[Kjy];omega) (l.map Th.path) (fun x hx=>Kgg hx) (by omega);rw[Kef] at this;rw[Qam,Qap hok.2.2.1];exact this
 | remove a=>
  obtain ⟨b,e,h1,h2⟩:=hv;injection e with e1 e2 e3;injection e1 with e1;subst e1 e3;have hc:_=some (Value.string ⟨a.toArray⟩):=h1.cell 0;have ha:=Kha hok.1;have:=Kvi (md:=md) (mf:=mf) b ⟨a.toArray⟩ w hd hf hne hc (Qbv h1 hd) (Qbv h1 hf) (by rw[Kjy];omega) (l.map Th.path) (fun x hx=>Kgg hx) hlm (Kjg hw);rw[Kef] at this;refine this.mono ?_;rintro e w' ⟨bs,_,hbs,hD⟩;rw[Qan hw,Qng hw hbs];exact hD
 | rename a b=>
  obtain ⟨b',c,e,⟨h1,h2⟩,h3,h4⟩:=hv;injection e with e1 e2 e3;injection e1 with e1;subst e1 e3;have hc:_=some (Value.string ⟨a.toArray⟩):=h1.cell 0;have hc2:_=some (Value.string ⟨b.toArray⟩):=h3.cell 0;have ha:=Kha hok.1;have hb:=Kha hok.2.1;refine Kvj (md:=md) (mf:=mf) b' c ⟨a.toArray⟩ ⟨b.toArray⟩ w _ hc hc2 ?_;intro w1 hb1;have hd1:=hd.below hb1 hd.lt;have hf1:=hf.below hb1 hf.lt;rcases Kei l a with h0 | h0 | h0
  ·exact absurd h0 hok.2.2.1
  ·obtain ⟨v,hv⟩:=Option.isSome_iff_exists.1 ((Kii (φ:=φ) hw).2 h0);obtain ⟨P,rfl⟩:=Kxe hv
   have hda:dirF l a=none:=by
    cases hda:dirF l a with
    | none=>rfl
    | some u=>
     have:=(Kgd hw).1 (show (dirF l a).isSome=true by rw[hda];rfl);omega
   have:=Kqi (md:=md) (mf:=mf) ⟨a.toArray⟩ ⟨b.toArray⟩ P w1 hd1 hf1 hne (by rw[Kef];exact hda) (by rw[Kef];exact hv) (by rw[Kjy];omega) (by rw[Kjy];omega) (l.map Th.path) (fun x hx=>Kgg hx) (by omega);rw[Kef,Kef] at this;refine this.mono ?_;rintro e w' ⟨k1,k2,k3,k4⟩;refine ⟨k1,k1,?_,?_,(Own.of_below hb1).trans k4⟩
   ·rw[Kuz hw hok h0];exact k2
   ·rw[Kva hw hok h0,hv];exact k3
  ·obtain ⟨v,hv⟩:=Option.isSome_iff_exists.1 ((Kgd hw).2 h0);have hv1:=Kge hv;subst hv1
   have hna:nameB a=true:=by
    obtain ⟨z,hz,hzd,hzp⟩:=(Kmx hw.nodup).1 h0;rw[←hzp];exact hw.dirs z hz hzd
   have hnb:=(hok.2.2.2.2.2.1 h0).1
   have hST:∀s t:Txt,a ++ [47]++s≠b ++ [47]++t:=by
    intro s t e;have k1:=Kcv s (Kbs hna);have k2:=Kcv t (Kbs hnb);rw[e,k2] at k1;injection k1 with k1;apply hok.2.2.2.2.2.2;have k3:=congrArg (List.take b.length) e;rw[List.append_assoc,List.append_assoc,List.take_left] at k3;rw[←k3,k1,List.take_left]
   have:=Ksi (md:=md) (mf:=mf) ⟨a.toArray⟩ ⟨b.toArray⟩ w1 hd1 hf1 hne (by rw[Kef];exact hv) (by rw[Kef,Kef];exact hST) (fun x v h=>Kxe h) (by rw[Kjy];omega) (by rw[Kjy];omega) (l.map Th.path) (fun x hx=>Kgg hx) hlm (Kjg hw) (l.map Th.path) (fun x hx=>Qcb hx) hlm;rw[Kef,Kef] at this;refine this.mono ?_;rintro e w' ⟨bs,hnd,hbs,k1,k2,k3,k4⟩;refine ⟨k1,k1,?_,?_,(Own.of_below hb1).trans k4⟩
   ·rw[Kwy hw hok h0];exact k2
   ·rw[Kxf hw hok h0 hnd hbs];exact k3
end
section
variable {B0 : Nat} {a : Nat → Addr} {R : Nat → Nat} {A : Adr} {d : Ds} {w w' : World}
theorem CD.maps_only (h:CD B0 w R A d) {l:List Th} (ho:Own (two A.md A.mf) (two A.md A.mf) w w') (hd:SM w' A.md (dirF l)) (hf:SM w' A.mf (filF A.φ l)):CD B0 w' R A { d with things:=l }:=by
 have key:∀k,R k≠0→R k≠2→R k≠3→w'.heap[k]? = w.heap[k]?∧R k=R k:=fun k hk h2 h3=>⟨ho.block k (h.inw k hk) (Kdo (fun e=>h2 (by rw[e];exact h.dirs.2)) (fun e=>h3 (by rw[e];exact h.files.2))),rfl⟩
 exact {
  blk:=((key A.p (by rw[h.rp];omega) (by rw[h.rp];omega) (by rw[h.rp];omega)).1).trans h.blk
  rp:=h.rp
  dirs:=⟨hd,h.dirs.2⟩
  files:=⟨hf,h.files.2⟩
  sdirs:=h.sdirs.same fun k hk=>key k (by omega) (by omega) (by omega)
  sfiles:=h.sfiles.same fun k hk=>key k (by omega) (by omega) (by omega)
  steps:=h.steps.same fun k hk=>key k (by omega) (by omega) (by omega)
  bytes:=h.bytes.same fun k hk=>key k (by omega) (by omega) (by omega)
  inw:=h.inw.mono ho.size
  low:=h.low }
theorem CD.md_mf (h:CD B0 w R A d):A.md≠A.mf:=by
 intro e;have h1:=h.dirs.2;have h2:=h.files.2;rw[e] at h1;omega
theorem Own.of_two (h:CD B0 w R A d) (ho:Own (two A.md A.mf) (two A.md A.mf) w w'):Own R R w w':=
 ⟨ho.os,ho.tape,ho.output,ho.size,fun k hk hr=>ho.block k hk (Kdo (fun e=>by have:=h.dirs.2;rw[←e] at this;omega) (fun e=>by have:=h.files.2;rw[←e] at this;omega)),fun _ _=>rfl⟩
def rowR (R:Nat→Nat) (v:Value) (r:Nat):Nat→Nat:=fun k=>if v.ownBlock=some k then r else R k
theorem Kyr {v v':Value} {r:Nat} (hv:∀g,v.ownBlock=some g→R g=r) (hat:v'.ownBlock=v.ownBlock∨∃g,v'.ownBlock=some g∧w.heap.size≤g) {k:Nat} (hk:k < w.heap.size):rowR R v' r k=R k:=by
 unfold rowR
 split
 ·rename_i e
  rcases hat with h1 | ⟨g,h1,h2⟩
  ·rw[h1] at e;exact (hv k e).symm
  ·rw[h1] at e;injection e with e;omega
 ·rfl
theorem Qhd:(Tryz.prog.info? 156).map (fun i=>(i.zero,i.size,i.bytes))=some (some .nilFunc,1,8):=by kernel_rfl
end
end
section
open Go.RowKit Go.Shelf Go.Maps Go.Sort
open Lib renaming hid → Jh
attribute [local go_sem ↓] Go.wp_at_zero Go.wp_at_succ
attribute [local go_sem] Later.cell
section
variable {B0 : Nat} {a : Nat → Addr} {R : Nat → Nat} {A : Adr} {d : Ds} {w w' : World}
theorem CD.step_more (h:CD B0 w R A d) {s:St} {f v':Value} {fs:List Value} {w2:World} (hs:StepM w R A.φ s f) (hfs:fs.length=d.steps.length) (hall:∀(i:Nat) s f,d.steps[i]? = some s→fs[i]? = some f→StepM w R A.φ s f)
  (hv:∀g,A.sv.ownBlock=some g→R g=7) (hg:w.grownBy w2 A.sv.ownBlock) (hrow:w2.ownsRow 0 156 1 v' (d.steps.length+1) (fs ++ [f])) (hat:v'.ownBlock=A.sv.ownBlock∨∃g,v'.ownBlock=some g∧w.heap.size≤g) :
  CD B0 (w2.setCell ⟨A.p,4,none⟩ v') (rowR R v' 7) { A with sv:=v' } { d with steps:=d.steps ++ [s] }∧Own R (rowR R v' 7) w (w2.setCell ⟨A.p,4,none⟩ v'):=by
 have hold:∀k,k < w.heap.size→rowR R v' 7 k=R k:=fun k hk=>Kyr hv hat hk
 have hpl:=Blk.lt h.blk
 have key:∀k,R k≠0→R k≠1→R k≠7→(w2.setCell ⟨A.p,4,none⟩ v').heap[k]? = w.heap[k]?∧rowR R v' 7 k=R k:=by
  intro k hk h1 h7;have hkl:=h.inw k hk;refine ⟨(Below.heap_setCell _ _ _ k (fun e=>h1 (by rw[e];exact h.rp))).trans (hg.block k hkl (fun e=>h7 (hv k e.symm))),hold k hkl⟩
 have hpv:v'.ownBlock≠some A.p:=by
  intro e;rcases hat with h1 | ⟨g,h1,h2⟩
  ·rw[h1] at e;have:=hv _ e;have:=h.rp;omega
  ·rw[h1] at e;injection e with e;omega
 have hpS:some A.p≠A.sv.ownBlock:=by
  intro e;have:=hv _ e.symm;have:=h.rp;omega
 have hblk2:Blk w2 A.p _ _:=Blk.grown h.blk hg hpS;have hsz2:(w2.setCell ⟨A.p,4,none⟩ v').heap.size=w2.heap.size:=by simp[World.setCell]
 refine ⟨{
  blk:=hblk2.set_ 4 v'
  rp:=(hold _ hpl).trans h.rp
  dirs:=h.dirs.same fun k hk=>key k (by omega) (by omega) (by omega)
  files:=h.files.same fun k hk=>key k (by omega) (by omega) (by omega)
  sdirs:=h.sdirs.same fun k hk=>key k (by omega) (by omega) (by omega)
  sfiles:=h.sfiles.same fun k hk=>key k (by omega) (by omega) (by omega)
  steps:=?_
  bytes:=h.bytes.same fun k hk=>key k (by omega) (by omega) (by omega)
  inw:=?_
  low:=?_ },?_⟩
 ·refine ⟨fs ++ [f],⟨?_,fun g hg'=>by simp[rowR,hg']⟩,by simp[hfs],fun i s' f' hs' hf'=>?_⟩
  ·rw[List.length_append];exact ownsRow_setCell_other hrow (a:=⟨A.p,4,none⟩) hpv _
  ·have k5:∀k,R k=5→(w2.setCell ⟨A.p,4,none⟩ v').heap[k]? = w.heap[k]?∧rowR R v' 7 k=R k:=fun k hk=>key k (by omega) (by omega) (by omega)
   rw[List.getElem?_append] at hs' hf';rw[hfs] at hf'
   split at hs'
   ·rename_i hi
    rw[if_pos hi] at hf';exact (hall i s' f' hs' hf').same k5
   ·rename_i hi
    rw[if_neg hi] at hf'
    have hi0:i - d.steps.length=0:=by
     apply Classical.byContradiction;intro hne;rw[List.getElem?_eq_none (by simp;omega)] at hs';cases hs'
    rw[hi0] at hs' hf';simp at hs' hf';subst hs' hf';exact hs.same k5
 ·intro k hk;rw[hsz2];unfold rowR at hk
  split at hk
  ·rename_i e
   exact (hrow.lt k e).2
  ·exact Nat.lt_of_lt_of_le (h.inw k hk) hg.size
 ·intro k hk;unfold rowR
  split
  ·rename_i e
   rcases hat with h1 | ⟨g,h1,h2⟩
   ·rw[h1] at e;have:=hv k e;have:=h.low k hk;omega
   ·rw[h1] at e;injection e with e;have h3:k < w.heap.size∨w.heap.size≤k:=by omega
    have hB:B0≤w.heap.size∨w.heap.size < B0:=by omega
    rcases hB with hB | hB
    ·omega
    ·have:=h.low A.p (by omega);have:=h.rp;omega
  ·exact h.low k hk
 ·refine ⟨hg.os,hg.tape,hg.output,by rw[hsz2];exact hg.size,fun k hk hr=>?_,hold⟩;exact (Below.heap_setCell _ _ _ k (fun e=>by have e':k=A.p:=e;have:=h.rp;rw[e'] at hr;omega)).trans (hg.block k hk (fun e=>by have:=hv k e.symm;omega))
theorem Koa {φ : List Nat} {st:St} {F:Nat} {C:Array Value} (h:StepM w R φ st (.func (.func F) #[] C)):∀(args:Array Value) (w:World),(callFunc F args).run Tryz.prog w = .ok (.enter F args) w:=by
 cases st with
 | mkdir x=>exact (show False from h).elim
 | create x i=>
  obtain ⟨b,c,e,_⟩:=h;injection e with e1 _ _;injection e1 with e1;subst e1;exact enters_of Tryz.func115 (by kernel_rfl) rfl
 | rename x y=>
  obtain ⟨b,c,e,_⟩:=h;injection e with e1 _ _;injection e1 with e1;subst e1;exact enters_of Tryz.func119 (by kernel_rfl) rfl
 | remove x=>
  obtain ⟨b,e,_⟩:=h;injection e with e1 _ _;injection e1 with e1;subst e1;exact enters_of Tryz.func111 (by kernel_rfl) rfl
def Kae (B0:Nat) (a:Nat→Addr) (R:Nat→Nat) (A:Adr) (r:Nat×Ds) (op s:ByteArray) (w:World) (e:Ending) (w':World):Prop:=
 ∃v R' A',e = .returned v∧ErrV a w' op s r.1 v∧CD B0 w' R' A' r.2∧Own R R' w w'∧A'.p=A.p∧A'.φ=A.φ
theorem Kes (op s:ByteArray) (st:St) (F:Nat) (C:Array Value) (w:World) (h:CD B0 w R A d) (hv:StepM w R A.φ st (.func (.func F) #[] C)) (hw:TW d.files.length d.things) (hok:StOk d.files.length d.things st) (hl:d.things.length≤1073741824) (hsl:d.steps.length≤1073741824)
  (haw:d.await≤9223372036854775807) (hB:B0≤w.heap.size) (hF:Fails B0 a w) :
  Calls Tryz.prog 110 #[.pointer (some ⟨A.p,0,none⟩),.string op,.string s,.func (.func F) #[] C] w (Kae B0 a R A (Kbb d st) op s w):=by
 obtain ⟨i0,hi0,hz0,hz1,hz2⟩:=info_parts Qhd;have HST:=Jh (Kht op s w h haw hB hF);have HN:=Jh (rfl:Kbb d st=Kbb d st);obtain ⟨p,hp⟩:∃p,A.p=p:=⟨_,rfl⟩;have HP:=Jh hp;rw[hp] at HST ⊢;have HV:=Jh hv;have HW:=Jh hw;have HOK:=Jh hok;have hbase:=Jh h;clear hp hv hw hok h haw hF;go_enter Tryz.func110,Tryz.ntmps110
 go_wp2_with fail
 refine HST.out.mono ?_;rintro _ w1 ⟨v,rfl,hv1,hcd,hO,hfar⟩;obtain ⟨k,d1,hk⟩:∃k d1,stepD d=(k,d1):=⟨_,_,rfl⟩;rw[hk] at hv1 hcd;have HK:=Jh hk;clear hk HST
 cases k with
 | succ k=>
  obtain ⟨q,rfl,hq⟩:=hv1
  have hfin:Kae B0 a R A (Kbb d st) op s w (.returned (.iface 56 (.pointer (some ⟨q,0,none⟩)))) w1:=by
   have e1:Kbb d st=(k+1,d1):=by unfold Kbb;rw[HK.out];simp
   rw[e1];exact ⟨_,R,A,rfl,⟨q,rfl,hq⟩,hcd,hO,rfl,rfl⟩
  have HFIN:=Jh hfin;clear hfin hcd hO hq;go_wp2_with fail
  go_ret
  exact HFIN.out
 | zero=>
  obtain rfl:v = .nilIface:=hv1
  have hd1:d1.things=d.things∧d1.steps=d.steps∧d1.files=d.files:=by
   have:=HK.out;unfold stepD at this
   repeat' split at this
   all_goals (injection this with t1 t2;subst t2;exact ⟨rfl,rfl,rfl⟩)
  have e1:Kbb d st=(0,{ d1 with things:=Kad d.things st,steps:=d.steps ++ [st] }):=by unfold Kbb;rw[HK.out];simp
  have HE1:=Jh e1;have HD1:=Jh hd1;clear e1 hd1;have hpp:=HP.out;have c0:w1.cell? ⟨p,0,none⟩=some (.map (some A.md)):=by rw[←hpp];exact Blk.cell hcd.blk 0
  have c1:w1.cell? ⟨p,1,none⟩=some (.map (some A.mf)):=by rw[←hpp];exact Blk.cell hcd.blk 1
  have hvs:StepM w1 R A.φ st (.func (.func F) #[] C):=by
   refine StepM.same HV.out fun k hk=>?_
   exact ⟨hfar k (hbase.out.inw k (by omega)) (fun e=>by have:=hbase.out.rp;rw[←e] at this;omega),rfl⟩
  have hdo:=Kwz (R:=R) st F C HW.out HOK.out hl (by rw[←HD1.out.1];exact hcd.dirs.1) (by rw[←HD1.out.1];exact hcd.files.1) hcd.md_mf hvs;have HDO:=Jh hdo;have hcell4:w1.cell? ⟨p,4,none⟩=some A.sv:=by rw[←hpp];exact Blk.cell hcd.blk 4
  have HVS:=Jh hvs;clear hdo hvs hfar;have heg:=Koa HVS.out;go_wp2_with fail
  refine HDO.out.mono ?_;rintro _ w2 ⟨rfl,hd2,hf2,hO2⟩;clear heg;have hcd2:=hcd.maps_only hO2 hd2 hf2;have hO2R:=Own.of_two hcd hO2;have hvs2:StepM w2 R A.φ st (.func (.func F) #[] C):=HVS.out.same fun k hk=>⟨hO2.block k (hcd.inw k (by omega)) (Kdo (fun e=>by have:=hcd.dirs.2;rw[←e] at this;omega) (fun e=>by have:=hcd.files.2;rw[←e] at this;omega)),rfl⟩
  obtain ⟨fs,hrow,hfs,hall⟩:=hcd2.steps;have hst1:({ d1 with things:=Kad d.things st }:Ds).steps=d.steps:=HD1.out.2.1;rw[hst1] at hrow hfs hall;obtain ⟨m,hm⟩:∃m,d.steps.length=m:=⟨_,rfl⟩;rw[hm] at hrow hsl;obtain ⟨X,c,hsv,_,_,hmc⟩:=Elems.of_own (enc:=fun v:Value=>[v]) (xs:=fs) (fun _ _=>rfl) (by simp) hrow.1 (by rw[hfs,hm]);have c4:w2.cell? ⟨p,4,none⟩=some (.slice X m c):=by rw[←hsv,←hpp];exact Blk.cell hcd2.blk 4
  have hrow':=hrow.1;rw[hsv] at hrow';have hlt2:=Blk.lt hcd2.blk;rw[hpp] at hlt2;have HALL:=Jh hall;have HFS:=Jh hfs;have HM:=Jh hm;have HSV:=Jh hsv;have HROW2:=Jh hrow.2;have HVS2:=Jh hvs2;have HST1:=Jh hst1;have HCD2:=Jh hcd2;have HO12:=Jh (hO.trans hO2R);have hPblk:=hcd2.blk;unfold DBlk at hPblk;rw[hpp] at hPblk
  have hpS:some p≠(Value.slice X m c).ownBlock:=by
   rw[←hsv];intro e;have h1:=hrow.2 _ e.symm;have h2:=hcd2.rp;rw[hpp] at h2;omega
  clear hall hfs hm hsv hrow hvs2 hst1 hcd2 hO2R hO2 hd2 hf2 hO hcd HDO hcell4 c0 c1 HVS;go_wp2_with (at_builtin;refine wpList_append_own_at _ rfl _ _ 128 rfl 0 156 i0 .nilFunc 1 8 Tryz.underlying128 hi0 hz0 hz1 hz2 rfl (by decide) _ _ _ rfl (hrow'.alloc _) ⟨w2.heap.size,0,none⟩ 1 1 [.func (.func F) #[] C] rfl rfl ?p1 ?p2 ?p3 ?p4 ?p5 ?_)
  case p1=>exact Kav (l:=[.func (.func F) #[] C]) (Blk.new w2 _ _)
  case p2=>intro u hu;rw[List.mem_singleton.1 hu];rfl
  case p3=>unfold maxLen;omega
  case p4=>omega
  case p5=>exact Nat.zero_le _
  intro v' w3 hown' hgrow _ hat;have hall2:w2.grownBy w3 (Value.slice X m c).ownBlock:=(World.grownBy_alloc w2 _ _).trans hgrow;have hP3:=hPblk.grown hall2 hpS;obtain ⟨X3,c3,rfl,_,_,_⟩:=Elems.of_own (enc:=fun v:Value=>[v]) (xs:=fs ++ [.func (.func F) #[] C]) (fun _ _=>rfl) (by simp) hown' (by rw[List.length_append,HFS.out,HM.out];rfl)
  have hat':(Value.slice X3 (m+1) c3).ownBlock=(Value.slice X m c).ownBlock∨∃g,(Value.slice X3 (m+1) c3).ownBlock=some g∧w2.heap.size≤g:=by
   rcases hat with h1 | h1
   ·exact .inl h1
   ·exact .inr ⟨_,h1,by simp⟩
  have hmore:=CD.step_more HCD2.out (s:=st) (f:=.func (.func F) #[] C) (v':=.slice X3 (m+1) c3) (fs:=fs) (w2:=w3) HVS2.out (by rw[HST1.out];exact HFS.out) (by rw[HST1.out];exact HALL.out) HROW2.out (by rw[HSV.out];exact hall2) (by rw[HST1.out,HM.out];exact hown') (by rw[HSV.out];exact hat');rw[hpp,HST1.out] at hmore;obtain ⟨hc4,ho4⟩:=hmore
  have k4:w3.cell? ⟨p,4,none⟩=some (Value.slice X m c):=by
   have:=hP3.cell 4;rw[HSV.out] at this;exact this
  have g4:=hP3.frozen 4;have HC4:=Jh hc4;have HO4:=Jh (HO12.out.trans ho4);clear hc4 ho4 hown' hgrow hat hat' hall2 hP3 hPblk hrow' hpS;go_wp2_with fail
  go_ret
  exact ⟨_,_,⟨p,A.md,A.mf,A.sd,A.sf,.slice X3 (m+1) c3,A.φ⟩,rfl,by rw[HE1.out];rfl,by rw[HE1.out];exact HC4.out,HO4.out,HP.out.symm,rfl⟩
end
end
section
open Go.RowKit Go.Shelf Go.Maps Go.Sort
attribute [local go_sem ↓] Go.wp_at_zero Go.wp_at_succ
attribute [local go_sem] Later.cell
section
variable {B0 : Nat} {a : Nat → Addr} {R : Nat → Nat} {A : Adr} {d : Ds} {w w' : World}
theorem CD.grant (h:CD B0 w R A d) {b:Nat} (hb:b < w.heap.size) (hR:R b=0) (hB:B0≤b) (r:Nat):CD B0 w (giv R b r) A d:=
 h.same (fun k hk=>⟨rfl,Kax (by rintro rfl;exact hk hR)⟩) (h.inw.give (Nat.le_refl _) hb) (fun k hk=>by rw[Kax (by omega)];exact h.low k hk)
structure Fit (d:Ds):Prop where
 tw:TW d.files.length d.things
 tl:d.things.length≤536870912
 sl:d.steps.length≤536870912
 fl:d.files.length≤536870912
 aw:d.await≤9223372036854775807
theorem Kcf (h:CD B0 w R A d) (hf:Fit d) (S:ByteArray) (hS:S.size≤1073741824) (r:Int) (hr:(if isT d.things S.data.toList=2 then 1 else 0)=r) (x:Later w):(Instr.lookup 124 (.map (some A.md)) (.string S) false).run Tryz.prog x.w = .ok (.int .i64 r) x.w:=by
 have h1:=h.dirs.1.below x.h h.dirs.1.lt;have:=h1.look Tryz.underlying9 Tryz.underlying124 (zeroI x.w) (s:=S) (by unfold maxLen;omega)
 have key:(dirF d.things S.data.toList).getD (.int .i64 0) = .int .i64 r:=by
  rw[←hr]
  split
  ·rename_i e
   obtain ⟨v,hv⟩:=Option.isSome_iff_exists.1 ((Kgd hf.tw).2 e);rw[hv,Kge hv];rfl
  ·rename_i e
   cases hv:dirF d.things S.data.toList with
   | none=>rfl
   | some v=>exact absurd ((Kgd hf.tw).1 (by rw[hv];rfl)) e
 rw[this,key]
theorem Kek (h:CD B0 w R A d) (hf:Fit d) (S:ByteArray) (hS:S.size≤1073741824):∃P:Option Addr,(P=none↔isT d.things S.data.toList≠1)∧∀x:Later w,(Instr.lookup 125 (.map (some A.mf)) (.string S) false).run Tryz.prog x.w = .ok (.pointer P) x.w:=by
 cases hv:filF A.φ d.things S.data.toList with
 | none=>
  refine ⟨none,⟨fun _ e=>?_,fun _=>rfl⟩,fun x=>?_⟩
  ·have:=(Kii (φ:=A.φ) hf.tw).2 e;rw[hv] at this;cases this
  ·have h1:=h.files.1.below x.h h.files.1.lt;have:=h1.look Tryz.underlying9 Tryz.underlying125 (Kkb x.w) (s:=S) (by unfold maxLen;omega);rw[this,hv];rfl
 | some v=>
  obtain ⟨y,hy,_,_,rfl⟩:=(Kca hf.tw.nodup).1 hv;refine ⟨some ⟨A.φ[y.at_]?.getD 0,0,none⟩,⟨(fun e=>by cases e),fun e=>?_⟩,fun x=>?_⟩
  ·exact absurd ((Kii (φ:=A.φ) hf.tw).1 (by rw[hv];rfl)) e
  ·have h1:=h.files.1.below x.h h.files.1.lt;have:=h1.look Tryz.underlying9 Tryz.underlying125 (Kkb x.w) (s:=S) (by unfold maxLen;omega);rw[this,hv];rfl
theorem Kae.bad {k:Nat} {op s:ByteArray} {w0:World} {v:Value} (h:CD B0 w0 R A d) (hb:Below w0.heap.size w0 w) (hv:ErrV a w op s k v):Kae B0 a R A (k,d) op s w0 (.returned v) w:=
 ⟨v,R,A,rfl,hv,h.below hb,Own.of_below hb,rfl,rfl⟩
end
end
section
open Go.RowKit Go.Shelf Go.Maps Go.Sort
open Lib renaming hid → Jh
attribute [local go_sem ↓] Go.wp_at_zero Go.wp_at_succ
attribute [local go_sem] Later.cell
section
variable {B0 : Nat} {a : Nat → Addr} {R : Nat → Nat} {A : Adr} {d : Ds} {w w' : World}
theorem Kyn (S:ByteArray) (w:World) (h:CD B0 w R A d) (hf:Fit d) (hS:S.size≤1073741824) (hB:B0≤w.heap.size) (hF:Fails B0 a w) :
  Calls Tryz.prog 54 #[.pointer (some ⟨A.p,0,none⟩),.string S] w (Kae B0 a R A (Kat d S.data.toList) ⟨#[114,101,109,111,118,101]⟩ S w):=by
 obtain ⟨rn,hrn⟩:∃r,pathB S.data.toList=r:=⟨_,rfl⟩;have HNM:=Jh (fun w=>Kfv S rn hrn hS w);have HRN:=Jh hrn;obtain ⟨p,hp⟩:∃p,A.p=p:=⟨_,rfl⟩;have HP:=Jh hp;rw[hp];have H0:=Jh h;clear hrn hp;go_enter Tryz.func54,Tryz.ntmps54
 go_upto_region 1 with fail
 obtain ⟨w1,hw1⟩:∃x,w.alloc (.cells #[.string S] 9)=x:=⟨_,rfl⟩;have hb1:Below w.heap.size w w1:=by rw[←hw1];exact (Below.refl _ _).alloc (Nat.le_refl _) _
 have hq:Blk w1 w.heap.size 9 #[.string S]:=by rw[←hw1];exact Blk.new _ _ _
 rw[hw1];obtain ⟨q,hqq⟩:∃q,w.heap.size=q:=⟨_,rfl⟩;have hR0:R q=0:=h.inw.new (by omega);rw[hqq] at hq hB ⊢;have HQ:=Jh hqq;have q0:_=some (Value.string S):=hq.cell 0;have hql:=hq.lt;clear hw1 hqq;refine Kag 4 (by kernel_rfl) (by kernel_rfl) ?_;simp only[List.take_succ_cons,List.take_zero,List.drop_succ_cons,List.drop_zero]
 repeat (go_big_quiet_step ((go_at_call 109;exact Kbe _ (HNM.out _))))
 refine wpQuiet_nil ?_;rintro w2 ⟨⟨_,hb2⟩,rfl⟩;have hB2:=then_ hb1 hb2;have hcd2:=h.below hB2;have hF2:Fails B0 a w2:=hF.below (hB2.mono (by have:=HQ.out;omega));have hoff:w2.cell? ⟨p,6,none⟩=some (.bool d.off):=by rw[←HP.out];exact Blk.cell hcd2.blk 6
 obtain ⟨k,hk⟩:∃k,Kcc d.off rn=k:=⟨_,rfl⟩;have HK:=Jh hk;have hq2:=hq.below hb2 hq.lt;have hready:=Kea (B0:=B0) (a:=a) p d.off rn ⟨#[114,101,109,111,118,101]⟩ S k hk w2 hoff hF2;have HRD:=Jh hready;clear hk hready hq q0 hql hb1 hb2;go_wp2_with fail
 refine HRD.out.mono ?_;rintro _ w3 ⟨v,rfl,hv3,hb3⟩;have hB3:=then_ hB2 hb3;have hcd3:=h.below hB3;have hF3:=hF2.below (hb3.mono (by have:=hB2.size;have:=HQ.out;omega));have hq3:=hq2.below hb3 hq2.lt;clear hcd2 hF2 hoff hq2 hb3 HRD hB2
 cases k with
 | succ k=>
  have hfin:Kae B0 a R A (Kat d S.data.toList) ⟨#[114,101,109,111,118,101]⟩ S w (.returned v) w3:=by
   have e1:Kat d S.data.toList=(k+1,d):=by
    have hk:=HK.out;unfold Kcc at hk;unfold Kat;rw[←hk,HRN.out]
    cases ho:d.off with
    | true=>simp
    | false=>
     rw[ho] at hk
     cases rn with
     | true=>simp at hk
     | false=>simp
   rw[e1];exact Kae.bad h hB3 hv3
  obtain ⟨q4,rfl,_⟩:=hv3;have HFIN:=Jh hfin;clear hfin hcd3 hF3 hq3 hB3;go_wp2_with fail
  go_ret
  exact HFIN.out
 | zero=>
  obtain rfl:v = .nilIface:=hv3
  obtain ⟨ho,hn⟩:d.off=false∧rn=true:=by
   have hk:=HK.out;unfold Kcc at hk
   cases ho:d.off with
   | true=>rw[ho] at hk;simp at hk
   | false=>
    rw[ho] at hk
    cases rn with
    | true=>exact ⟨rfl,rfl⟩
    | false=>simp at hk
  have e1:Kat d S.data.toList=if isT d.things S.data.toList=0 then (4,d) else Kbb d (.remove S.data.toList):=by
   unfold Kat;rw[ho,HRN.out,hn];simp
  have HE1:=Jh e1;obtain ⟨P,hP,hlf⟩:=Kek hcd3 hf S hS;have c0:w3.cell? ⟨p,0,none⟩=some (.map (some A.md)):=by rw[←HP.out];exact Blk.cell hcd3.blk 0
  have c1:w3.cell? ⟨p,1,none⟩=some (.map (some A.mf)):=by rw[←HP.out];exact Blk.cell hcd3.blk 1
  have q0:_=some (Value.string S):=hq3.cell 0;have hql:=hq3.lt;have hpl:p < w3.heap.size:=Kaf c0;have HPP:=Jh hP;have HNB:=Jh (HRN.out.trans hn);clear ho hn e1 hP HK;go_upto_region 4 with fail
  rcases Kei d.things S.data.toList with h0 | h0 | h0
  ·obtain rfl:P=none:=HPP.out.2 (by rw[h0];omega);have hlk:=Kcf hcd3 hf S hS 0 (by rw[h0];rfl);refine Kab (by kernel_rfl) (by kernel_rfl) ?_
   repeat (go_big_quiet_step (fail))
   refine wpQuiet_nil ?_;rintro w4 ⟨⟨_,hb4⟩,rfl⟩;have hB4:=then_ hB3 hb4;have hq4:=hq3.below hb4 hq3.lt;have hF4:=hF3.below (hb4.mono (by have:=hB3.size;have:=HQ.out;omega));have f5:_=some (failV a 4):=(hF4 4 (by decide)).2;have hfl:=Kbw (a:=a) ⟨#[114,101,109,111,118,101]⟩ S 3 w4;unfold failV at f5 hfl;simp only[failG] at f5;have HFL:=Jh hfl;have e2:Kat d S.data.toList=(4,d):=by rw[HE1.out,if_pos h0]
   have HE2:=Jh e2;have q0':_=some (Value.string S):=hq4.cell 0;clear hfl hF4 e2 hlk hlf q0 c0 c1 h0;go_wp2_with fail
   refine HFL.out.mono ?_;rintro e w5 ⟨v,rfl,hv5,hb5⟩
   have hfin:Kae B0 a R A (Kat d S.data.toList) ⟨#[114,101,109,111,118,101]⟩ S w (.returned v) w5:=by
    rw[HE2.out];exact Kae.bad h (then_ hB4 hb5) hv5
   have HFIN:=Jh hfin;clear hfin hv5;go_wp2_with fail
   go_ret
   exact HFIN.out
  ·obtain ⟨P',rfl⟩:∃P',P=some P':=by
    cases P with
    | none=>exact absurd h0 (HPP.out.1 rfl)
    | some P'=>exact ⟨P',rfl⟩
   have hlk:=Kcf hcd3 hf S hS 0 (by rw[h0];rfl);refine Kab (by kernel_rfl) (by kernel_rfl) ?_
   repeat (go_big_quiet_step (fail))
   refine wpQuiet_nil ?_;rintro w4 ⟨⟨_,hb4⟩,rfl⟩;have hB4:=then_ hB3 hb4;have hcd4:=h.below hB4;have hq4:=hq3.below hb4 hq3.lt;have hcd5:CD B0 w4 (giv R q 5) A d:=hcd4.grant hq4.lt hR0 hB 5
   have hST:StepM w4 (giv R q 5) A.φ (.remove S.data.toList) (.func (.func 111) #[] #[.pointer (some ⟨q,0,none⟩)]):=⟨q,rfl,by
    have e:txtV S.data.toList = .string S:=by unfold txtV;rw[←Kcs rfl]
    rw[Box,e]
    exact ⟨hq4,Kck R q 5⟩⟩
   have hF4:=hF3.below (hb4.mono (by have:=hB3.size;have:=HQ.out;omega));have hnm:=Kes (a:=a) ⟨#[114,101,109,111,118,101]⟩ S (.remove S.data.toList) _ _ w4 hcd5 hST hf.tw ⟨HNB.out,by rw[h0];simp⟩ (by have:=hf.tl;omega) (by have:=hf.sl;omega) hf.aw (by have:=hB4.size;have:=HQ.out;omega) hF4;rw[HP.out] at hnm;have e2:Kat d S.data.toList=Kbb d (.remove S.data.toList):=by rw[HE1.out,if_neg (by rw[h0];simp)]
   have HE2:=Jh e2;have hO:Own R (giv R q 5) w w4:=(Own.of_below hB4).give (by have:=HQ.out;omega);have HO:=Jh hO;have HNM2:=Jh hnm;have q0':_=some (Value.string S):=hq4.cell 0;clear hnm hST hcd4 hcd5 hF4 e2 hO hlk hlf q0 c0 c1 h0;go_wp2_with fail
   refine HNM2.out.mono ?_;rintro e w5 hN;obtain ⟨v,R',A',rfl,k2,k3,k4,k5⟩:=hN
   have hfin:Kae B0 a R A (Kat d S.data.toList) ⟨#[114,101,109,111,118,101]⟩ S w (.returned v) w5:=by
    rw[HE2.out];exact ⟨v,R',A',rfl,k2,k3,HO.out.trans k4,k5⟩
   have HFIN:=Jh hfin;clear hfin k2 k3 k4 k5;go_wp2_with fail
   go_ret
   exact HFIN.out
  ·have _t:=trivial;have hlk:=Kcf hcd3 hf S hS 1 (by rw[h0];rfl);refine Kab (by kernel_rfl) (by kernel_rfl) ?_
   repeat (go_big_quiet_step (fail))
   refine wpQuiet_nil ?_;rintro w4 ⟨⟨_,hb4⟩,rfl⟩;have hB4:=then_ hB3 hb4;have hcd4:=h.below hB4;have hq4:=hq3.below hb4 hq3.lt;have hcd5:CD B0 w4 (giv R q 5) A d:=hcd4.grant hq4.lt hR0 hB 5
   have hST:StepM w4 (giv R q 5) A.φ (.remove S.data.toList) (.func (.func 111) #[] #[.pointer (some ⟨q,0,none⟩)]):=⟨q,rfl,by
    have e:txtV S.data.toList = .string S:=by unfold txtV;rw[←Kcs rfl]
    rw[Box,e]
    exact ⟨hq4,Kck R q 5⟩⟩
   have hF4:=hF3.below (hb4.mono (by have:=hB3.size;have:=HQ.out;omega));have hnm:=Kes (a:=a) ⟨#[114,101,109,111,118,101]⟩ S (.remove S.data.toList) _ _ w4 hcd5 hST hf.tw ⟨HNB.out,by rw[h0];simp⟩ (by have:=hf.tl;omega) (by have:=hf.sl;omega) hf.aw (by have:=hB4.size;have:=HQ.out;omega) hF4;rw[HP.out] at hnm;have e2:Kat d S.data.toList=Kbb d (.remove S.data.toList):=by rw[HE1.out,if_neg (by rw[h0];simp)]
   have HE2:=Jh e2;have hO:Own R (giv R q 5) w w4:=(Own.of_below hB4).give (by have:=HQ.out;omega);have HO:=Jh hO;have HNM2:=Jh hnm;have q0':_=some (Value.string S):=hq4.cell 0;clear hnm hST hcd4 hcd5 hF4 e2 hO hlk hlf q0 c0 c1 h0;go_wp2_with fail
   refine HNM2.out.mono ?_;rintro e w5 hN;obtain ⟨v,R',A',rfl,k2,k3,k4,k5⟩:=hN
   have hfin:Kae B0 a R A (Kat d S.data.toList) ⟨#[114,101,109,111,118,101]⟩ S w (.returned v) w5:=by
    rw[HE2.out];exact ⟨v,R',A',rfl,k2,k3,HO.out.trans k4,k5⟩
   have HFIN:=Jh hfin;clear hfin k2 k3 k4 k5;go_wp2_with fail
   go_ret
   exact HFIN.out
end
end
section
open Go.RowKit Go.Shelf Go.Maps Go.Sort
attribute [local go_sem ↓] Go.wp_at_zero Go.wp_at_succ
attribute [local go_sem] Later.cell
theorem Khj {n:Nat} {l:List Th} (md mf:Nat) (S:ByteArray) (r:Bool) (hr:Kdd l S.data.toList=r) (w:World) (hd:SM w md (dirF l)) (hw:TW n l) (hS:S.size≤1073741824) :
  Calls Tryz.prog 114 #[.agg #[.map (some md),.map (some mf)],.string S] w fun e w'=>e = .returned (.bool r)∧Below w.heap.size w w':=by
 obtain ⟨X,Y,f,h1,h2,h3,_⟩:=Kws S;have HC:=Lib.hid (fun w=>Kpu S X Y f h1 hS w)
 have hrf:r=if f then decide (isT l X.data.toList=2) else true:=by
  rw[←hr];unfold cutR at h1;unfold Kdd
  cases hs:Kai S.data.toList with
  | none=>
   rw[hs] at h1;obtain ⟨_,_,rfl⟩:S.data.toList=X.data.toList∧[]=Y.data.toList∧false=f:=by simpa using h1
   rfl
  | some k=>
   rw[hs] at h1;obtain ⟨e1,_,rfl⟩:S.data.toList.take k=X.data.toList∧S.data.toList.drop (k+1)=Y.data.toList∧true=f:=by simpa using h1
   rw[←e1];simp only[if_true];rw[Bool.eq_iff_iff];simp
 have HR:=Lib.hid hrf;clear hr h1 hrf;go_enter Tryz.func114,Tryz.ntmps114
 go_upto_region 1 with fail
 obtain ⟨w1,hw1⟩:∃x,w.alloc (.cells #[.map (some md),.map (some mf)] 127)=x:=⟨_,rfl⟩;have hb1:Below w.heap.size w w1:=by rw[←hw1];exact (Below.refl _ _).alloc (Nat.le_refl _) _
 have hq:Blk w1 w.heap.size 127 #[.map (some md),.map (some mf)]:=by rw[←hw1];exact Blk.new _ _ _
 rw[hw1];obtain ⟨q,hqq⟩:∃q,w.heap.size=q:=⟨_,rfl⟩;have HB1:=Lib.hid hb1;have hd1:=hd.below hb1 hd.lt;rw[hqq] at hq ⊢;clear hw1 hqq hb1;go_wp2_with fail
 refine (HC.out w1).mono ?_;rintro e w2 ⟨rfl,hb2⟩;have hB2:=then_ HB1.out hb2;have hq2:=hq.below hb2 hq.lt;have q0:_=some (Value.map (some md)):=hq2.cell 0;have hd2:=hd1.below hb2 hd1.lt
 cases f with
 | false=>
  obtain rfl:r=true:=by have:=HR.out;simpa using this
  go_wp2_with fail
  go_ret
  exact ⟨rfl,hB2⟩
 | true=>
  have hrr:=HR.out;simp only[if_true] at hrr;have hlk:=hd2.look Tryz.underlying9 Tryz.underlying124 (zeroI w2) (s:=X) (by unfold maxLen;omega)
  by_cases h2:isT l X.data.toList=2
  ·obtain rfl:r=true:=by rw[hrr];simp[h2]
   obtain ⟨v,hv⟩:=Option.isSome_iff_exists.1 ((Kgd hw).2 h2);rw[hv,Kge hv] at hlk;simp only[Option.getD_some] at hlk;clear hrr hv h2;go_wp2_with fail
   go_ret
   exact ⟨rfl,hB2⟩
  ·obtain rfl:r=false:=by rw[hrr];simp[h2]
   have hv:dirF l X.data.toList=none:=by
    cases hv:dirF l X.data.toList with
    | none=>rfl
    | some v=>exact absurd ((Kgd hw).1 (by rw[hv];rfl)) h2
   rw[hv] at hlk;simp only[Option.getD_none] at hlk;clear hrr hv h2;go_wp2_with fail
   go_ret
   exact ⟨rfl,hB2⟩
section
variable {B0 : Nat} {a : Nat → Addr} {R : Nat → Nat} {A : Adr} {d : Ds} {w w' : World}
structure Nums (d:Ds):Prop where
 things:∀x∈d.things,x.dir=false→x.at_ < d.files.length
 safe:∀x∈d.safe,x.dir=false→x.at_ < d.files.length
 steps:∀s i,St.create s i∈d.steps→i < d.files.length
theorem Kxj {φ : List Nat} {g i:Nat} (h:i < φ.length):fptr (φ ++ [g]) i=fptr φ i:=by
 unfold fptr;rw[List.getElem?_append_left h]
theorem Kkf {φ : List Nat} {g:Nat} {l:List Th} (h:∀x∈l,x.dir=false→x.at_ < φ.length):filF (φ ++ [g]) l=filF φ l:=by
 funext x;unfold filF
 cases hf:l.find? fun y=>!y.dir && y.path == x with
 | none=>rfl
 | some y=>
  have h1:=List.find?_some hf;simp only[Bool.and_eq_true,Bool.not_eq_true'] at h1;simp only[Option.map_some];rw[Kxj (h y (List.mem_of_find?_eq_some hf) h1.1)]
theorem Ksu {φ : List Nat} {g:Nat} {s:St} {v:Value} (h:∀x i,s = .create x i→i < φ.length):StepM w R (φ ++ [g]) s v↔StepM w R φ s v:=by
 cases s with
 | mkdir a=>exact Iff.rfl
 | create a i=>simp only[StepM];rw[Kxj (h a i rfl)]
 | rename a b=>exact Iff.rfl
 | remove a=>exact Iff.rfl
theorem Kpl {φ : List Nat} {g:Nat} {l:List St} {v:Value} (h:∀x i,St.create x i∈l→i < φ.length):Kid w R v (φ ++ [g]) l↔Kid w R v φ l:=by
 unfold Kid;constructor
 ·rintro ⟨fs,h1,h2,h3⟩;exact ⟨fs,h1,h2,fun i s f hs hf=>(Ksu fun x j e=>h x j (e▸List.mem_of_getElem? hs)).1 (h3 i s f hs hf)⟩
 ·rintro ⟨fs,h1,h2,h3⟩;exact ⟨fs,h1,h2,fun i s f hs hf=>(Ksu fun x j e=>h x j (e▸List.mem_of_getElem? hs)).2 (h3 i s f hs hf)⟩
theorem CD.new_file (h:CD B0 w R A d) (hn:Nums d) {g:Nat} (hg:Blk w g 137 #[.string ⟨#[]⟩,.string ⟨#[]⟩,.slice none 0 0]) (hR:R g=0) (hB:B0≤g) :
  CD B0 w (giv R g (10+2*d.files.length)) { A with φ:=A.φ ++ [g] } { d with files:=d.files ++ [⟨[],[],[]⟩] }:=by
 have h1:=h.grant hg.lt hR hB (10+2*d.files.length);have hl:=h.bytes.1
 exact {
  blk:=h1.blk
  rp:=h1.rp
  dirs:=h1.dirs
  files:=by rw[Kkf (fun x hx hd=>by rw[hl];exact hn.things x hx hd)];exact h1.files
  sdirs:=h1.sdirs
  sfiles:=by rw[Kkf (fun x hx hd=>by rw[hl];exact hn.safe x hx hd)];exact h1.sfiles
  steps:=(Kpl (fun x i hx=>by rw[hl];exact hn.steps x i hx)).2 h1.steps
  bytes:=by
   refine ⟨by simp[hl],fun i b f hb hf=>?_⟩;rw[List.getElem?_append] at hb hf;rw[hl] at hb
   split at hb
   ·rename_i hi
    rw[if_pos hi] at hf;exact h1.bytes.2 i b f hb hf
   ·rename_i hi
    rw[if_neg hi] at hf
    have hi0:i - d.files.length=0:=by
     apply Classical.byContradiction;intro hne;rw[List.getElem?_eq_none (by simp;omega)] at hb;cases hb
    rw[hi0] at hb hf;simp at hb hf;subst hb hf;obtain rfl:i=d.files.length:=by omega
    exact ⟨.slice none 0 0,hg,Kck _ _ _,RowIs.nil⟩
  inw:=h1.inw
  low:=h1.low }
theorem CD.drop_file {φ : List Nat} {g:Nat} {fs:List By} {f:By} (h:CD B0 w R { A with φ:=φ ++ [g] } { d with files:=fs ++ [f] }) (hl:φ.length=fs.length) (hn:Nums { d with files:=fs }):CD B0 w R { A with φ:=φ } { d with files:=fs } where
 blk:=h.blk
 rp:=h.rp
 dirs:=h.dirs
 files:=by have:=h.files;rw[Kkf (fun x hx hd=>by rw[hl];exact hn.things x hx hd)] at this;exact this
 sdirs:=h.sdirs
 sfiles:=by have:=h.sfiles;rw[Kkf (fun x hx hd=>by rw[hl];exact hn.safe x hx hd)] at this;exact this
 steps:=(Kpl (fun x i hx=>by rw[hl];exact hn.steps x i hx)).1 h.steps
 bytes:=⟨hl,fun i b f' hb hf=>h.bytes.2 i b f' (by rw[List.getElem?_append_left (List.getElem?_eq_some_iff.1 hb).1];exact hb) (by rw[List.getElem?_append_left (List.getElem?_eq_some_iff.1 hf).1];exact hf)⟩
 inw:=h.inw
 low:=h.low
end
end
end Go.Proofs.YtefpndiiedkmpaaGreatDoor
