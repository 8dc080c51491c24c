/- Merged (what the claim wants of): MrgCat, RegTake2, MrgApp2, MrgDel, MrgCompP, MrgSortP. -/
import Derived.Test.YtdoiekknhnbepaaGreatDoorCsp06
import Derived.Shelf.Spec.SlicesGrow
import Derived.Lib.BufferOwn
set_option linter.unusedVariables false
set_option linter.unusedSimpArgs false
set_option maxRecDepth 1000000
set_option maxHeartbeats 8000000
namespace Go.Proofs.YtdoiekknhnbepaaGreatDoor
open List renaming getElem?_eq_getElem->a2,length_eq_one_iff->a5,filter_eq_self->a6,mem_flatMap->a7,length->ba
open IntKind renaming wrap_i64->bb,i64->be
open Calls renaming grown_of->bk,mono->bl
open Sem renaming run->bp
open Ending renaming returned->bw
open Tryz
open List renaming length_cons->aQ,length_nil->aR,size_toArray->aS,eq_nil_of_length_eq_zero->aT,append_assoc->aU,take_append_drop->aV,length_append->aX,append_nil->aZ,length_take->a8,take_length->bc,take_of_length_le->bg,singleton_append->bh,concat_eq_append->bi,flatten_append->bj,flatMap_append->bm,toList_toArray->bn,take_add_one->bo,getElem_mem->bq,filter_cons->br,length_drop->bs,take_left'->bt,take_zero->bv
open Nat renaming lt_or_ge->aW,le_refl->aY,eq_zero_or_pos->bd
open Bool renaming noConfusion->bf
section
open Go.Shelf Go.RowKit Go.Lib Go.Sort
open Lib renaming hid -> Jh
attribute [local go_sem ↓] Go.wp_at_zero Go.wp_at_succ
attribute [local go_sem] Later.cell
section
def Khh:Go.Shelf.Ren:=⟨fun | 4=>125 | n=>n,fun | 0=>0 | 3=>3 | 4=>4 | 9=>9 | 20=>20 | 22=>26 | 25=>58 | n=>n,fun | n=>n⟩
theorem Kvm:Lays8.n4 prog Khh:={
 mixed:=by kernel_rfl
 f4:=⟨Tryz.f125.name,by decide,func125.trans (jk some (by kernel_rfl))⟩
 t0:=underlying0
 a0:=isAgg0
 z0:=sizeOf0
 v0:=zeroValue0
 t3:=underlying3
 a3:=isAgg3
 z3:=sizeOf3
 v3:=zeroValue3
 t4:=underlying4
 a4:=isAgg4
 z4:=sizeOf4
 v4:=zeroValue4
 t9:=underlying9
 a9:=isAgg9
 z9:=sizeOf9
 v9:=zeroValue9
 t20:=underlying20
 a20:=isAgg20
 z20:=sizeOf20
 v20:=zeroValue20
 t22:=underlying26
 a22:=isAgg26
 z22:=sizeOf26
 v22:=zeroValue26 }
theorem Kib:(prog.info? 58).map (fun i=>(i.zero,i.size,i.bytes))=some (some (.agg #[.slice none 0 0,.slice none 0 0,.slice none 0 0]),3,72):=by kernel_rfl
theorem Qau (n:Nat) (w:World) (hn:n<=1099511627776):Calls prog 125 #[.slice none 0 0,.int .i64 n] w fun e w'=>∃v,e = .returned v/\w'.ownsRow w.heap.size 58 3 v 0 []/\Below w.heap.size w w':=by
 rcases bd n with rfl | h0
 .refine (Any8.slices_Grow_room Kvm none 0 0 0 w (by omega) (by omega) (by omega) (by omega)).mono ?_;rintro e w' ⟨rfl,rfl⟩;exact ⟨_,rfl,World.ownsRow_nil _ _ _ _,Below.refl _ _⟩
 .obtain ⟨ib,af,ae,hz1,ac⟩:=info_parts Kib;refine (Any8.slices_Grow_grow Kvm ib _ af ae (by omega) none 0 0 n [] w (by omega) (by omega) (by rw[ac];omega) (by omega) (by simp) (fun _=>rfl) (fun a h=>by cases h)).mono ?_;rintro e w' ⟨rfl,rfl⟩;have ad:=grownCap_ge w (0+n) 0 58;have ab:=grownCap_le_maxLen w (0+n) 0 58 (by unfold maxLen;omega);refine ⟨_,rfl,⟨by simp,.inr ⟨w.heap.size,_,_,rfl,aY _,heap_alloc_new w.drew _,Nat.zero_le _,ab,?_,by simp⟩⟩,(Below.refl _ _).drew.alloc (aY _) _⟩;have aa:0+n<=grownCap w (0+n) 0 (Khh.t 25):=ad;simp only[Array.size_append,aS,aR,Builtin.zeroCells,Array.size_map,Array.size_range,Value.cells];show 0+(0+n - 0)*3+(grownCap w (0+n) 0 58 - (0+n))*3=_*3
  have:grownCap w (0+n) 0 (Khh.t 25)=grownCap w (0+n) 0 58:=rfl;rw[this] at aa |-;omega
def Kfe (h:Hd):List Value:=[.slice h.A h.n h.c]
structure CatIn (w:World) (A:Option Addr) (n:Nat) (hs:List Hd) (Ks:List (List Hd3)):Prop where
 e:Elems w w.heap.size 1 Kfe A n hs
 l:Ks.length=n
 k:∀(i:Nat) (h:Hd),hs[i]? = some h->Elems w w.heap.size 3 encH3 h.A h.n Ks[i]!
 c:∀h∈hs,h.n<=h.c
theorem CatIn.below {w w':World} {A:Option Addr} {n:Nat} {hs:List Hd} {Ks:List (List Hd3)} (h:CatIn w A n hs Ks) (hb:Below w.heap.size w w'):CatIn w' A n hs Ks:=
 ⟨(h.e.below hb).more hb.size,h.l,fun i x hi=>((h.k i x hi).below hb).more hb.size,h.c⟩
theorem CatIn.at_ {w:World} {A:Option Addr} {n:Nat} {hs:List Hd} {Ks:List (List Hd3)} (h:CatIn w A n hs Ks) {i:Nat} (hi:i < n):∃(b off:Nat) (x:Hd),A=some ⟨b,off,none⟩/\b < w.heap.size/\w.cell? ⟨b,off+i,none⟩=some (.slice x.A x.n x.c)/\Elems w w.heap.size 3 encH3 x.A x.n Ks[i]!/\x.n<=x.c:=by obtain ⟨b,off,e,hb,hc⟩:=h.e.2 (by omega);have hl:=h.e.len;have hx:hs[i]? = some (hs[i]'(by omega)):=a2 _;have:=hc i _ hx 0 _ rfl;exact ⟨b,off,_,e,hb,by simpa using this,h.k i _ hx,h.c _ (bq _)⟩
theorem Kxw (l:List Hd3):(l.flatMap encH3).length=l.length*3:=Kdh Kda l
theorem Kuo (A:Option Addr) (n c:Nat) (hs:List Hd) (Ks:List (List Hd3)) (F:List Hd3) (hF:Ks.flatten=F) (w:World) (h:CatIn w A n hs Ks) (hN:F.length<=274877906944) (hn:n<=140737488355328) :
  Calls prog 57 #[.slice A n c] w fun e w'=>∃v,e = .returned v/\w'.ownsRow w.heap.size 58 3 v F.length (F.flatMap encH3)/\Below w.heap.size w w':=by
 obtain ⟨ib,aq,aF,aB,aG⟩:=info_parts Kib;have HK:=Jh h;rw[<-hF] at hN;have aD:=Jh hF;have HNN:=Jh hN;obtain ⟨T,hT⟩:=i7 Ks.flatten.length;have HT:=Jh hT;have hTN:T<=274877906944:=by omega
 have HG:=Jh (Qau T w (by omega))
 have ar:∀i,i < n->(Ks.take (i+1)).flatten=(Ks.take i).flatten++Ks[i]!:=fun i hi=>by
  have hl:i < Ks.length:=by rw[h.l];exact hi
  rw[bo,a2 hl,i9 Ks i hl,bj];simp
 have av:∀i,(Ks.take i).flatten.length<=T:=fun i=>by
  rw[hT]
  conv=>rhs;rw[<-aV i Ks]
  rw[bj,aX];omega
 have af:=Jh ar;have am:=Jh av;clear h hN hT ar av hF;go_enter func57,ntmps57
 go_wp2
 go_loopg [3,11] n (fun kx s3 s11 wr=>∃(i m:Nat),s3 = .int .i64 (m:Int)/\s11 = .int .i64 (i:Int)/\i+kx=n/\m<=T/\Hid (m=(Ks.take i).flatten.length)/\w=wr)
 case atStart=>exact ⟨0,0,rfl,rfl,by omega,by omega,(by simp:0=(Ks.take 0).flatten.length),rfl⟩
 case round=>
  obtain ⟨i,m,rfl,rfl,hi,hm,HM,rfl⟩:=hrel;rcases aW i n with hlt | hge
  .have ai:(i:Int) < (n:Int):=by omega
   obtain ⟨b,az,x,e,hb,c0,hx,aj⟩:=HK.out.at_ hlt;have aa:=hx.len
   have ad:m+x.n<=T:=by have h1:=am.out (i+1);rw[af.out i hlt,aX,<-HM.out,aa] at h1;exact h1
   have ax:Hid (m+x.n=(Ks.take (i+1)).flatten.length):=by
    show _=_
    rw[af.out i hlt,aX,<-HM.out,aa]
   subst e;obtain ⟨A1,n1,c1⟩:=x;dsimp only at c0 ad ax;have aC:¬(m:Int)+(n1:Int) < 0:=by omega
   clear hx aa aj HM;go_wp2_with fail
   go_roundg (n - (i+1))
   case measure=>omega
   case rel=>exact ⟨i+1,m+n1,by first | rfl | go_num,by first | rfl | go_num,by omega,ad,ax,rfl⟩
  .have ai:¬(i:Int) < (n:Int):=by omega
   have aA:m=T:=by rw[HM.out,HT.out,bg (by rw[HK.out.l];exact hge)]
   subst aA;clear HM hm;go_wp2_with fail
   refine HG.out.mono ?_;rintro e1 w1 ⟨v1,rfl,h1,h2⟩
   have an:Hid (w1.ownsRow w.heap.size 58 3 v1 (Ks.take 0).flatten.length ((Ks.take 0).flatten.flatMap encH3)):=by
    show w1.ownsRow _ _ _ _ _ _
    rw[bv];exact h1
   have aw:=Jh h2;clear h1 h2;go_wp2_with fail
   go_loopg [6,27] n (fun kx s6 s27 wq=>∃(i:Nat),s27 = .int .i64 (i:Int)/\i+kx=n/\Hid (wq.ownsRow w.heap.size 58 3 s6 (Ks.take i).flatten.length ((Ks.take i).flatten.flatMap encH3))/\Hid (Below w.heap.size w wq))
   case atStart=>exact ⟨0,rfl,by omega,an,aw⟩
   case round=>
    clear an aw;obtain ⟨i,rfl,hi,HR,HB⟩:=hrel;rcases aW i n with hlt | hge
    .have ai:(i:Int) < (n:Int):=by omega
     obtain ⟨A0,cV,hv⟩:=Kag HR.out;subst hv;obtain ⟨b,az,x,e,hb,c0,hx,aj⟩:=(HK.out.below HB.out).at_ hlt;have aa:=hx.len
     have ad:(Ks.take i).flatten.length+x.n<=m:=by have h1:=am.out (i+1);rw[af.out i hlt,aX,aa] at h1;exact h1
     subst e;have al:w.heap.size<=wr.heap.size:=HB.out.size;have ah:wr.ownsRow w.heap.size 58 3 (.slice A0 (Ks.take i).flatten.length cV) (Ks.take i).flatten.length ((Ks.take i).flatten.flatMap encH3):=HR.out;have ac:=af.out i hlt;obtain ⟨K1,ap⟩:=i7 (Ks[i]!);rw[<-ap] at ac hx aa;have ao:=Jh ac;clear ac ap;obtain ⟨p,hp⟩:=iZ ((Ks.take i).flatten.length);rw[hp] at ah ad |-;have HP:=Jh hp;obtain ⟨A1,n1,c1⟩:=x;dsimp only at c0 ad aa aj hx;have HX:Hid (Elems wr wr.heap.size 3 encH3 A1 n1 K1):=hx;have ae:Hid (K1.length=n1):=aa;have ab:=Jh ah;clear hx aa HR hp ah
     cases A1 with
     | none=>
      have ak:K1 = []:=by
       rcases bd n1 with h0 | h0
       .exact aT (by rw[ae.out,h0])
       .obtain ⟨b',aH,e,_⟩:=HX.out.2 h0;cases e
      have aE:n1=0:=by rw[<-ae.out,ak];rfl
      subst aE
      have ag:Hid (wr.ownsRow w.heap.size 58 3 (.slice A0 p cV) (Ks.take (i+1)).flatten.length ((Ks.take (i+1)).flatten.flatMap encH3)):=by
       show wr.ownsRow _ _ _ _ _ _
       rw[ao.out,ak,aZ,HP.out];exact ab.out
      clear ak;go_wp2_with (at_builtin;refine Kki rfl _ _ 26 rfl w.heap.size 58 ib 3 underlying26 aq (.slice A0 p cV) _ c1 _ rfl ab.out rfl ?_)
      go_wp2_with fail
      go_roundg (n - (i+1))
      case measure=>omega
      case rel=>exact ⟨i+1,by first | rfl | go_num,by omega,ag,HB⟩
     | some a1=>
      go_wp2_with (at_builtin;refine wpList_append_own_at _ rfl _ _ 26 rfl w.heap.size 58 ib (.agg #[.slice none 0 0,.slice none 0 0,.slice none 0 0]) 3 72 underlying26 aq aF aB aG rfl (by decide) (.slice A0 p cV) p _ rfl ab.out a1 n1 c1 (K1.flatMap encH3) rfl ?c0 ?c1 ?c2 ?c3 ?c4 ?c5 ?_)
      case c3=>unfold maxLen;omega
      case c4=>omega
      case c0=>rw[Kxw,ae.out]
      case c1=>exact Elems.cellsM (fun x _=>Kda x) HX.out
      case c2=>
       intro u hu;obtain ⟨x,_,hx⟩:=a7.1 hu;exact Kqh x u hx
      .exact al
      intro v' w4 hown' hgrow _ _
      have ag:Hid (w4.ownsRow w.heap.size 58 3 v' (Ks.take (i+1)).flatten.length ((Ks.take (i+1)).flatten.flatMap encH3)):=by
       show w4.ownsRow _ _ _ _ _ _
       rw[ao.out,aX,HP.out,ae.out,bm];exact hown'
      have ay:Hid (Below w.heap.size w w4):=HB.out.grown hgrow al (fun k hk=>(ab.out.lt k hk).1);clear hown' hgrow;go_wp2_with fail
      go_roundg (n - (i+1))
      case measure=>omega
      case rel=>exact ⟨i+1,by first | rfl | go_num,by omega,ag,ay⟩
    .have ai:¬(i:Int) < (n:Int):=by omega
     have HF:Hid (wr.ownsRow w.heap.size 58 3 u6 F.length (F.flatMap encH3)):=by have h:=HR.out;rw[bg (by rw[HK.out.l];exact hge),aD.out] at h;exact h
     clear HR;go_wp2_with fail
     go_ret
     exact ⟨_,rfl,HF.out,HB.out⟩
end
end
section
open Go.RowKit
section
variable {P : Program} {ops : Array Oper} {Q : Exit -> Act -> World -> Prop} {md : Region.Mode} {S : World -> Prop} {k : Nat}
theorem Klx {i:Nat} {o:Oper} {f:Nat} {L:Array Bool} {a:Act} {w:World} (hr0:(Region.ready md ops L == [i])=true) (ho:ops[i]? = some o) (hw:Region.wanted o (yielded ops a.tmps)=true)
  (h:OpW o P a w (fun a' w'=>((L.setIfInBounds i true).getD k false=false->S w')/\Kca P md ops Q S k f (L.setIfInBounds i true) a' w') Q):Kca P md ops Q S k (f+1) L a w:=by
 have hr:Region.ready md ops L = [i]:=eq_of_beq hr0;refine ⟨fun h0=>jl (hr.symm.trans h0) (by simp),fun j hj=>?_⟩;rw[hr] at hj;obtain rfl:j=i:=by simpa using hj
 unfold wpOp;simp only[ho];rw[jf hw];exact .inl h.out
end
theorem Kmm {P:Program} {o:Oper} {a:Act} {w w':World} {v' sv xv:Value} (s x:Operand) (t:TypeId) (ho:o.op = .call { callee:=.builtin .append,args:=#[s,x],argTypes:=#[t,t] }) (hs:a.eval s=sv) (hx:a.eval x=xv)
  (hr:(Builtin.append_ #[t,t] o.type #[sv,xv]).run P w = .ok v' w'):(execOp a.eval o).run P w = .ok (.value v') w':=by
 unfold execOp;simp only[ho,resolve,invoke,builtin,Sem.run_bind,Sem.run_pure,Result.andThen_ok,List.map_toArray,List.map_cons,List.map_nil,hs,hx,hr]
theorem Kiz {P:Program} {α : Type} {enc:α->List Value} {w:World} (base:Nat) (t ty e:TypeId) (i:TypeInfo) (z:Value) (size bytes:Nat) (ht:P.underlying t=some (.slice e)) (hi:P.info? e=some i) (hz:i.zero=some z)
  (hsize:i.size=size) (hby:i.bytes=bytes) (hzs:z.cells.size=size) (hsz:0 < size) (hk:∀x,(enc x).length=size) (h1:∀x,∀u∈enc x,u.oneCell'=true)
  (v:Value) (xs:List α) (hown:w.ownsRow base e size v xs.length (xs.flatMap enc)) (A:Option Addr) (n c:Nat) (l:List α) (hE:Elems w w.heap.size size enc A n l)
  (h63:xs.length+n<=maxLen) (hbytes:(xs.length+n)*bytes<=140737488355328) (hbase:base<=w.heap.size) :
  ∃v' w',(Builtin.append_ #[t,t] ty #[v,.slice A n c]).run P w = .ok v' w'/\w'.ownsRow base e size v' (xs++l).length ((xs++l).flatMap enc)/\w.grownBy w' v.ownBlock/\(v'.ownBlock=v.ownBlock\/∃b,v'.ownBlock=some b/\w.heap.size<=b):=by
 have hl:=hE.len
 cases A with
 | none=>
  have hn:n=0:=by
   rcases bd n with h | h
   .exact h
   .obtain ⟨b,off,e,_⟩:=hE.2 h;cases e
  subst hn;have aa:l = []:=aT hl;subst aa;exact ⟨v,w,Kho base t ty e i size ht hi v xs.length c _ hown,by simpa using hown,⟨rfl,rfl,rfl,aY _,fun _ _ _=>rfl⟩,.inl rfl⟩
 | some a=>
  obtain ⟨v',w',h2,h3,h4,_,h6⟩:=run_append_own_at (P:=P) w base t ty e i z size bytes ht hi hz hsize hby hzs hsz v xs.length _ hown a n c (l.flatMap enc) (by rw[Kdh hk,hl]) (Elems.cellsM (fun x _=>hk x) hE) (fun u hu=>by
   obtain ⟨x,_,hx⟩:=a7.1 hu
   exact h1 x u hx) h63 hbytes hbase
  refine ⟨v',w',h2,?_,h4,h6.imp id fun e=>⟨_,e,aY _⟩⟩;rw[aX,hl,bm];exact h3
end
section
open Go.Shelf Go.RowKit Go.Lib Go.Sort
open Lib renaming hid -> Jh
open List renaming length_append -> Jd
attribute [local go_sem ↓] Go.wp_at_zero Go.wp_at_succ
attribute [local go_sem] Later.cell
section
def goodH (h:Hd3):Bool:=decide (0 < h.s.n+h.w.n)
def szH (h:Hd3):Prop:=h.s.n<=140737488351232/\h.w.n<=140737488351232
theorem Kpl (h:Hd3) (hz:szH h) (w:World):Calls prog 68 #[.agg (encH3 h).toArray] w fun e w'=>e = .returned (.bool (goodH h))/\Grown w w':=by
 obtain ⟨⟨A1,n1,c1⟩,⟨A2,n2,c2⟩,⟨A3,n3,c3⟩⟩:=h;obtain ⟨z1,z2⟩:=hz;obtain ⟨r,hr⟩:=iZ (goodH ⟨⟨A1,n1,c1⟩,⟨A2,n2,c2⟩,⟨A3,n3,c3⟩⟩);rw[hr];unfold encH3;dsimp only at z1 z2 |-;have aa:decide (0 < n2+n3)=r:=hr;have ab:decide ((0:Int) < (n2:Int)+(n3:Int))=r:=by rw[<-aa,decide_eq_decide];omega
 go_enter func68,ntmps68
 go_wp2_with fail
 go_ret
 exact ⟨by first | rfl | (congr 2;first | exact ab | exact aa),(Grown.refl _).alloc _⟩
theorem Kke (h:Hd3) (hz:szH h) (w:World):Calls prog 67 #[.agg (encH3 h).toArray] w fun e w'=>e = .returned (.bool (!goodH h))/\Grown w w':=by
 have HS:=Jh (fun w=>Kpl h hz w);obtain ⟨r,hr⟩:=iZ (goodH h);rw[hr] at HS |-;obtain ⟨⟨A1,n1,c1⟩,⟨A2,n2,c2⟩,⟨A3,n3,c3⟩⟩:=h;unfold encH3 at HS |-;dsimp only at HS |-;clear hr hz;go_enter func67,ntmps67
 go_wp2_with fail
 refine (HS.out _).mono ?_;rintro _ w1 ⟨rfl,hg⟩;have HG:=Jh hg;clear hg;go_wp2_with fail
 go_ret
 exact ⟨by cases r <;> rfl,((Grown.refl _).alloc _).trans HG.out⟩
theorem Kjx {w0 W:World} {blk off:Nat} {dk d0:Array Hd3} (h:SWK encH3 3 w0 blk off dk W) (R:RowK encH3 3 w0 blk off d0) (hs:dk.size=d0.size) (i:Nat) (hi:i < dk.size) :
  (W.cell? ⟨blk,off+i*3,none⟩=some (.slice dk[i]!.l.A dk[i]!.l.n dk[i]!.l.c)/\W.cell? ⟨blk,off+i*3+1,none⟩=some (.slice dk[i]!.s.A dk[i]!.s.n dk[i]!.s.c)/\W.cell? ⟨blk,off+i*3+2,none⟩=some (.slice dk[i]!.w.A dk[i]!.w.n dk[i]!.w.c))/\
  (W.frozen? ⟨blk,off+i*3,none⟩=false/\W.frozen? ⟨blk,off+i*3+1,none⟩=false/\W.frozen? ⟨blk,off+i*3+2,none⟩=false)/\blk < W.heap.size:=by
 have hH:=h.holds R.hblk R.hH hs
 have g:∀j,j < 3->W.cell? ⟨blk,off+(i*3+j),none⟩=some ((encH3 dk[i]!)[j]!)/\W.frozen? ⟨blk,off+(i*3+j),none⟩=false:=fun j hj=>by
  have aa:i*3+j < dk.size*3:=by omega
  have:=hH (i*3+j) (by rw[size_flatK];exact aa);rw[get_flatK _ _ _ _ aa,show (i*3+j) / 3=i by omega,show (i*3+j) % 3=j by omega] at this;exact this
 exact ⟨⟨(g 0 (by decide)).1,(g 1 (by decide)).1,(g 2 (by decide)).1⟩,⟨(g 0 (by decide)).2,(g 1 (by decide)).2,(g 2 (by decide)).2⟩,h.lt R.hblk⟩
section
variable {d0 : Array Hd3} {w0 : World} {blk off cap N : Nat}
theorem Kqi (R:RowK encH3 3 w0 blk off d0) (hN:d0.size=N) (hsz:N < 1152921504606846976) (xs:List Hd3) (hx:∀h∈xs,szH h) (w:World) (hl:xs.length=N) (S0:SWK encH3 3 w0 blk off xs.toArray w) :
  Calls prog 141 #[.slice (some ⟨blk,off,none⟩) N cap,.func (.func 67) #[] #[]] w fun e w'=>(∃k:Nat,k<=N/\e = .returned (.int .i64 (if k < N then (k:Int) else -1))/\(∀a∈xs.take k,goodH a=true)/\(k < N->goodH xs[k]! = false))/\SWK encH3 3 w0 blk off xs.toArray w':=by
 have S1:Aside (SWK encH3 3 w0 blk off xs.toArray w):=S0;have HQ:=Jh (And.intro hN hl);have HX:=Jh hx;have HC:=Jh (fun (h:Hd3) (hz:szH h) (W:World)=>Kke h hz W);have ab:xs.toArray.size=N:=by simpa using hl
 clear S0 hN hl hx;go_enter func141,ntmps141
 go_wp2
 go_loopg [8] N (fun kx s8 wr=>∃k:Nat,s8 = .int .i64 k/\k+kx=N/\Hid (∀a∈xs.take k,goodH a=true)/\Aside (SWK encH3 3 w0 blk off xs.toArray wr))
 case atStart=>exact ⟨0,rfl,by omega,(by rw[bv];exact fun _ h=>jl h List.not_mem_nil),S1⟩
 case round=>
  clear S1;obtain ⟨k,rfl,hk,HA,S1⟩:=hrel;rcases aW k N with hlt | hge
  .have ai:(k:Int) < (N:Int):=by omega
   obtain ⟨⟨c0,c1,c2⟩,_,ah⟩:=Kjx S1.out R (by rw[ab,HQ.out.1]) k (by rw[ab];exact hlt);have af:xs.toArray[k]! = xs[k]!:=by simp
   rw[af] at c0 c1 c2;have ac:xs[k]!∈xs:=by rw[i9 xs k (by have:=HQ.out.2;omega)];exact bq _
   have aa:=HC.out xs[k]! (HX.out _ ac);obtain ⟨x,hx⟩:∃x,xs[k]! = x:=⟨_,rfl⟩;rw[hx] at c0 c1 c2 aa;have ad:=Jh hx;obtain ⟨r,hr⟩:=iZ (goodH x);rw[hr] at aa;have ae:=Jh hr;clear hx af ac hr;obtain ⟨⟨A1,n1,k1⟩,⟨A2,n2,k2⟩,⟨A3,n3,k3⟩⟩:=x;unfold encH3 at aa;dsimp only at c0 c1 c2 aa;have ag:=Jh aa;clear aa;go_wp2_with fail
   refine (ag.out _).mono ?_;rintro _ w1 ⟨rfl,hg⟩;have S2:Aside (SWK encH3 3 w0 blk off xs.toArray w1):=SWK.of_grown S1.out hg;clear hg S1 c0 c1 c2 ah
   cases r with
   | true=>
    have aj:Hid (∀a∈xs.take (k+1),goodH a=true):=by
     intro a ha;rw[bo,a2 (by have:=HQ.out.2;omega)] at ha;rcases List.mem_append.1 ha with ha | ha
     .exact HA.out a ha
     .have h1:=ae.out;rw[<-ad.out,i9 xs k (by have:=HQ.out.2;omega)] at h1;have h2:a=xs[k]'(by have:=HQ.out.2;omega):=by simpa using ha
      rw[h2];exact h1
    clear HA ad ae;go_wp2_with fail
    go_roundg (N - (k+1))
    case measure=>omega
    case rel=>exact ⟨k+1,by first | rfl | go_num,by omega,aj,S2⟩
   | false=>
    go_wp2_with fail
    go_ret
    exact ⟨⟨k,by omega,by rw[jf hlt];rfl,HA.out,fun _=>by rw[ad.out];exact ae.out⟩,S2.out⟩
  .have ai:¬(k:Int) < (N:Int):=by omega
   have hkN:k=N:=by omega
   go_wp2_with fail
   go_ret
   exact ⟨⟨k,by omega,by rw[je (by omega)];rfl,HA.out,fun h=>jl h (by omega)⟩,S1.out⟩
theorem Kur (R:RowK encH3 3 w0 blk off d0) (hN:d0.size=N) (hsz:N < 1152921504606846976) (xs:List Hd3) (hx:∀h∈xs,szH h) (w:World) (hl:xs.length=N) (hcN:N<=cap)
  (S0:SWK encH3 3 w0 blk off xs.toArray w) :
  Calls prog 66 #[.slice (some ⟨blk,off,none⟩) N cap,.func (.func 67) #[] #[]] w fun e w'=>e = .returned (.slice (some ⟨blk,off,none⟩) (xs.filter goodH).length cap)/\∃zs:List Hd3,zs.length=N/\zs.take (xs.filter goodH).length=xs.filter goodH/\SWK encH3 3 w0 blk off zs.toArray w':=by
 have HI:=Jh (Kqi (cap:=cap) R hN hsz xs hx w hl S0);have HQ:=Jh (And.intro hN hl);have HX:=Jh hx;have HC:=Jh (fun (h:Hd3) (hz:szH h) (W:World)=>Kke h hz W);have ax:=fun (W:World) (dk:Array Hd3) (i:Nat) (a:dk.size=N) (b:SWK encH3 3 w0 blk off dk W) (c:i<=N)=>Kls (P:=prog) underlying26 (⟨⟨none,0,0⟩,⟨none,0,0⟩,⟨none,0,0⟩⟩:Hd3) (fun w=>zeroValue58 w) (by decide) R hN W dk i (cap - i) a b c
 have aJ:Aside _:=ax;clear S0 hN hl hx ax;go_enter func66,ntmps66
 go_wp2_with fail
 refine HI.out.mono ?_;rintro _ w1 ⟨⟨k,hk,rfl,ab,ad⟩,S0⟩;have S1:Aside (SWK encH3 3 w0 blk off xs.toArray w1):=S0;clear S0;rcases aW k N with hkn | hkn
 .rw[jf hkn];have aA:¬(k:Int) = -1:=by omega
  have hk2:((k:Int) == -1)=false:=jg.2 aA;have hk3:decide ((k:Int) = -1)=false:=ja aA
  have aM:∃(y:Hd3) (R0:List Hd3),xs=xs.take k++y :: R0/\goodH y=false:=by
   have aC:k < xs.length:=by have:=HQ.out.2;omega
   refine ⟨xs[k],xs.drop (k+1),?_,?_⟩
   .conv=>lhs;rw[<-aV k xs,List.drop_eq_getElem_cons aC]
   .have:=ad hkn;rwa[i9 xs k aC] at this
  obtain ⟨y,R0,ai,hy⟩:=aM
  have aj:xs.filter goodH=xs.take k++R0.filter goodH:=by
   conv=>lhs;rw[ai]
   rw[List.filter_append,a6.2 (fun a ha=>ab a ha),br,je (by rw[hy];exact bf)]
  have aw:(xs.take k).length=k:=by rw[a8];have:=HQ.out.2;omega
  have HL:Hid ((xs.take k).length=k/\k+1=(xs.take k).length + [y].length/\(xs.take k).length + [y].length+R0.length=N/\xs.filter goodH=xs.take k++R0.filter goodH/\∀h∈R0,szH h):=by refine ⟨aw,by rw[aw];rfl,?_,aj,fun h hh=>HX.out h (by rw[ai];simp[hh])⟩;have:=jk ba ai;have hq:=HQ.out.2;simp only[Jd,aQ,aR] at this |-;omega
  have S2:Aside (SWK encH3 3 w0 blk off (xs.take k++([y]++R0)).toArray w1):=by
   show SWK _ _ _ _ _ _ _
   rw[show xs.take k++([y]++R0)=xs by rw[bh];exact ai.symm];exact S1.out
  generalize xs.take k=K0 at HL S2;clear ab ad ai hy aj aw S1;have hkc:k < cap:=by omega
  go_wp2_with fail
  go_loopg [5,6,7] N (fun gg s5 s6 _ wr=>∃(i j:Nat) (K1 M R1:List Hd3),s5 = .int .i64 (i:Int)/\s6 = .int .i64 (j:Int)/\i < j/\j<=N/\N<=j+gg/\Hid (K1.length=i/\j=K1.length+M.length/\K1.length+M.length+R1.length=N/\xs.filter goodH=K1++R1.filter goodH/\∀h∈R1,szH h)/\Aside (SWK encH3 3 w0 blk off (K1++(M++R1)).toArray wr))
  case atStart=>exact ⟨k,k+1,K0,[y],R0,rfl,by first | rfl | go_num,by omega,by omega,by omega,HL,S2⟩
  case round=>
   clear HL S2;obtain ⟨i,j,K1,M,R1,rfl,rfl,hij,hjN,hjg,HB,S1⟩:=hrel;rcases aW j N with hj | hj
   .have hj2:(j:Int) < (N:Int):=by omega
    obtain ⟨b1,b2,b3,b4,b5⟩:=HB.out
    have aE:∃x R2,R1=x :: R2:=by
     cases R1 with
     | nil=>simp only[aR] at b3;omega
     | cons x R2=>exact ⟨x,R2,rfl⟩
    obtain ⟨x,R2,rfl⟩:=aE;have aa:(K1++(M++x :: R2)).toArray.size=N:=by simp only[aS,Jd];omega
    obtain ⟨⟨c0,c1,c2⟩,_,aF⟩:=Kjx S1.out R (by rw[aa,HQ.out.1]) j (by rw[aa];exact hj);have aB:(K1++(M++x :: R2)).toArray[j]! = x:=by rw[<-aU];exact Kct (by rw[Jd];exact b2)
    rw[aB] at c0 c1 c2;have ay:=b5 x (List.mem_cons_self ..);have ak:=HC.out x ay;obtain ⟨r,hr⟩:=iZ (goodH x);rw[hr] at ak;simp only[aQ] at b3;have ae:Hid (K1.length=i/\j=K1.length+M.length/\K1.length+M.length+(R2.length+1)=N/\xs.filter goodH=K1++(if r=true then x :: R2.filter goodH else R2.filter goodH)/\∀h∈R2,szH h):=⟨b1,b2,b3,by rw[b4,br,hr],fun h hh=>b5 h (List.mem_cons_of_mem _ hh)⟩;clear HB b1 b2 b3 b4 b5 aB hr ay;obtain ⟨xx,aD⟩:=i7 x;have HXX:=Jh aD;clear aD;obtain ⟨⟨A1,n1,k1⟩,⟨A2,n2,k2⟩,⟨A3,n3,k3⟩⟩:=x;unfold encH3 at ak;dsimp only at c0 c1 c2 ak;have aK:=Jh ak;clear ak;obtain ⟨wo,aG⟩:=i7 wr;subst aG;go_upto_region 8 with fail
    obtain ⟨w2,ao⟩:=iZ (wo.alloc (.cells #[.slice A1 n1 k1,.slice A2 n2 k2,.slice A3 n3 k3] 58));have ah:Blk w2 wo.heap.size 58 #[.slice A1 n1 k1,.slice A2 n2 k2,.slice A3 n3 k3]:=by rw[<-ao];exact Blk.new _ _ _
    have S2:Aside (SWK encH3 3 w0 blk off (K1++(M++(⟨⟨A1,n1,k1⟩,⟨A2,n2,k2⟩,⟨A3,n3,k3⟩⟩:Hd3) :: R2)).toArray w2):=by rw[<-ao];exact S1.out.alloc _
    have ap:blk < wo.heap.size:=S1.out.lt R.hblk;have az:=S1.out.le;obtain ⟨qb,av⟩:=iZ wo.heap.size;rw[av] at ah ap az;rw[ao,av];have ar:=Jh ah;have HNE:=Jh ap;have am:=ah.cell 0;have an:=ah.cell 1;have al:=ah.cell 2;simp at am an al;clear ao ah av c0 c1 c2 aF S1 ap az;go_wp2_with fail
    refine (aK.out _).mono ?_;rintro _ w3 ⟨rfl,aq⟩;have ac:=ar.out.below aq.below ar.out.lt;have S3:Aside (SWK encH3 3 w0 blk off (K1++(M++(⟨⟨A1,n1,k1⟩,⟨A2,n2,k2⟩,⟨A3,n3,k3⟩⟩:Hd3) :: R2)).toArray w3):=SWK.of_grown S2.out aq;clear am an al aq S2 ar
    cases r with
    | false=>
     have ag:Hid (K1.length=i/\j+1=K1.length+(M ++ [(⟨⟨A1,n1,k1⟩,⟨A2,n2,k2⟩,⟨A3,n3,k3⟩⟩:Hd3)]).length/\K1.length+(M ++ [(⟨⟨A1,n1,k1⟩,⟨A2,n2,k2⟩,⟨A3,n3,k3⟩⟩:Hd3)]).length+R2.length=N/\xs.filter goodH=K1++R2.filter goodH/\∀h∈R2,szH h):=by obtain ⟨b1,b2,b3,b4,b5⟩:=ae.out;exact ⟨b1,by simp only[Jd,aQ,aR];omega,by simp only[Jd,aQ,aR];omega,by rw[b4];rfl,b5⟩
     have S4:Aside (SWK encH3 3 w0 blk off (K1++((M ++ [(⟨⟨A1,n1,k1⟩,⟨A2,n2,k2⟩,⟨A3,n3,k3⟩⟩:Hd3)])++R2)).toArray w3):=by
      show SWK _ _ _ _ _ _ _
      rw[aU,bh];exact S3.out
     clear S3 ae ac;generalize M ++ [(⟨⟨A1,n1,k1⟩,⟨A2,n2,k2⟩,⟨A3,n3,k3⟩⟩:Hd3)]=M2 at ag S4;go_wp2_with fail
     go_roundg (N - (j+1))
     case measure=>omega
     case rel=>exact ⟨i,j+1,K1,M2,R2,rfl,by first | rfl | go_num,by omega,by omega,by omega,ag,S4⟩
    | true=>
     have aP:∃m M2,M=m :: M2:=by
      obtain ⟨b1,b2,b3,b4,b5⟩:=ae.out
      cases M with
      | nil=>simp only[aR] at b2;omega
      | cons m M2=>exact ⟨m,M2,rfl⟩
     obtain ⟨m,M2,rfl⟩:=aP
     have aa:(K1++(m :: M2++(⟨⟨A1,n1,k1⟩,⟨A2,n2,k2⟩,⟨A3,n3,k3⟩⟩:Hd3) :: R2)).toArray.size=N:=by obtain ⟨b1,b2,b3,b4,b5⟩:=ae.out;simp only[aS,Jd,aQ] at b2 b3 |-;omega
     obtain ⟨⟨e0,e1,e2⟩,⟨f0,f1,f2⟩,aI⟩:=Kjx S3.out R (by rw[aa,HQ.out.1]) i (by rw[aa];omega)
     have ag:Hid ((K1 ++ [(⟨⟨A1,n1,k1⟩,⟨A2,n2,k2⟩,⟨A3,n3,k3⟩⟩:Hd3)]).length=i+1/\j+1=(K1 ++ [(⟨⟨A1,n1,k1⟩,⟨A2,n2,k2⟩,⟨A3,n3,k3⟩⟩:Hd3)]).length+(M2 ++ [(⟨⟨A1,n1,k1⟩,⟨A2,n2,k2⟩,⟨A3,n3,k3⟩⟩:Hd3)]).length/\(K1 ++ [(⟨⟨A1,n1,k1⟩,⟨A2,n2,k2⟩,⟨A3,n3,k3⟩⟩:Hd3)]).length+(M2 ++ [(⟨⟨A1,n1,k1⟩,⟨A2,n2,k2⟩,⟨A3,n3,k3⟩⟩:Hd3)]).length+R2.length=N/\xs.filter goodH=(K1 ++ [(⟨⟨A1,n1,k1⟩,⟨A2,n2,k2⟩,⟨A3,n3,k3⟩⟩:Hd3)])++R2.filter goodH/\∀h∈R2,szH h):=by
      obtain ⟨b1,b2,b3,b4,b5⟩:=ae.out;simp only[aQ] at b2 b3;refine ⟨?_,?_,?_,?_,b5⟩
      .simp only[Jd,aQ,aR];omega
      .simp only[Jd,aQ,aR];omega
      .simp only[Jd,aQ,aR];omega
      .rw[b4];simp
     have af:=SWK.put S3.out R i (by rw[aa];omega) (⟨⟨A1,n1,k1⟩,⟨A2,n2,k2⟩,⟨A3,n3,k3⟩⟩:Hd3)
     rw[show (K1++(m :: M2++(⟨⟨A1,n1,k1⟩,⟨A2,n2,k2⟩,⟨A3,n3,k3⟩⟩:Hd3) :: R2)).toArray.setIfInBounds i (⟨⟨A1,n1,k1⟩,⟨A2,n2,k2⟩,⟨A3,n3,k3⟩⟩:Hd3)=((K1 ++ [(⟨⟨A1,n1,k1⟩,⟨A2,n2,k2⟩,⟨A3,n3,k3⟩⟩:Hd3)])++((M2 ++ [(⟨⟨A1,n1,k1⟩,⟨A2,n2,k2⟩,⟨A3,n3,k3⟩⟩:Hd3)])++R2)).toArray by rw[List.cons_append,Klm ae.out.1.symm];simp] at af
     have S4:Aside (SWK encH3 3 w0 blk off ((K1 ++ [(⟨⟨A1,n1,k1⟩,⟨A2,n2,k2⟩,⟨A3,n3,k3⟩⟩:Hd3)])++((M2 ++ [(⟨⟨A1,n1,k1⟩,⟨A2,n2,k2⟩,⟨A3,n3,k3⟩⟩:Hd3)])++R2)).toArray (((w3.setCell ⟨blk,off+i*3,none⟩ (.slice A1 n1 k1)).setCell ⟨blk,off+i*3+1,none⟩ (.slice A2 n2 k2)).setCell ⟨blk,off+i*3+2,none⟩ (.slice A3 n3 k3))):=af;have am:=ac.cell 0;have an:=ac.cell 1;have al:=ac.cell 2;simp at am an al;have hiN:(i:Int) < (N:Int):=by omega
     clear af S3 ae ac aa;generalize M2 ++ [(⟨⟨A1,n1,k1⟩,⟨A2,n2,k2⟩,⟨A3,n3,k3⟩⟩:Hd3)]=M3 at ag S4;generalize K1 ++ [(⟨⟨A1,n1,k1⟩,⟨A2,n2,k2⟩,⟨A3,n3,k3⟩⟩:Hd3)]=K2 at ag S4;go_wp2_with fail
     go_roundg (N - (j+1))
     case measure=>omega
     case rel=>exact ⟨i+1,j+1,K2,M3,R2,by first | rfl | go_num,by first | rfl | go_num,by omega,by omega,by omega,ag,S4⟩
   .have hjz:¬(j:Int) < (N:Int):=by omega
    obtain ⟨b1,b2,b3,b4,b5⟩:=HB.out;have aH:R1 = []:=aT (by omega);subst aH;obtain ⟨W',hcr,aL,d1,d2,d3⟩:=aJ.out wr _ i (by simp only[aS,Jd,aR] at b3 |-;omega) S1.out (by omega)
    have HF:Hid (∃zs:List Hd3,i=(xs.filter goodH).length/\zs.length=N/\zs.take (xs.filter goodH).length=xs.filter goodH/\SWK encH3 3 w0 blk off zs.toArray W'):=by rw[List.filter_nil,aZ] at b4;refine ⟨aL.toList,by rw[b4];exact b1.symm,by simpa using d1,?_,by simpa using d3⟩;rw[b4,b1,d2];simp only[bn];rw[<-b1,bt rfl]
    have aN:i<=N:=by omega
    have hic:i<=cap:=by omega
    have i1z:(i:Int)<=(N:Int):=by omega
    have i2z:(i:Int)<=(cap:Int):=by omega
    have i3z:(0:Int)<=(i:Int):=by omega
    clear b1 b2 b3 b4 b5 d1 d2 d3 S1 HB;go_wp2_with fail
    go_ret
    obtain ⟨zs,f1,f2,f3,f4⟩:=HF.out;refine ⟨?_,zs,f2,f3,f4⟩;show bw (.slice (some ⟨blk,off,none⟩) i cap)=_
    rw[f1]
 .rw[je (by omega)];have aO:k=N:=by omega
  have HE:Hid (xs.filter goodH=xs):=by
   show _=_
   rw[aO,<-HQ.out.2,bc] at ab;exact a6.2 fun a ha=>ab a ha
  clear ab ad;go_wp2_with fail
  go_ret
  refine ⟨?_,xs,HQ.out.2,?_,S1.out⟩
  .show bw (.slice (some ⟨blk,off,none⟩) N cap)=_
   rw[HE.out,HQ.out.2]
  .rw[HE.out,bc]
end
theorem Ksz (w:World):Calls prog 66 #[.slice none 0 0,.func (.func 67) #[] #[]] w fun e w'=>e = .returned (.slice none 0 0)/\w=w':=by
 have aa:∀W:World,Calls prog 141 #[.slice none 0 0,.func (.func 67) #[] #[]] W fun e w'=>e = .returned (.int .i64 (-1))/\W=w':=by
  intro W;go_enter func141,ntmps141
  go_wp2
  go_loopg [8] 0 (fun kx s8 wr=>s8 = .int .i64 0/\wr=W)
  case atStart=>exact ⟨rfl,rfl⟩
  case round=>
   obtain ⟨rfl,rfl⟩:=hrel;go_wp2_with fail
   go_ret
   exact ⟨rfl,rfl⟩
 have HI:=Jh aa;clear aa;go_enter func66,ntmps66
 go_wp2_with fail
 refine (HI.out _).mono ?_;rintro _ w1 ⟨rfl,rfl⟩;go_wp2_with fail
 go_ret
 exact ⟨rfl,rfl⟩
end
end
section
open List renaming length_append -> Jd
attribute [-go_sem] loadCells
open Go.Shelf Go.RowKit Go.Lib Go.Sort
section
variable {α : Type} [Inhabited α] {enc : α -> List Value} {ef : α -> α -> Bool} {d0 : Array α} {w0 : World} {blk off cap g N : Nat} {cb : Array Value}
theorem Kqa (eg:∀args w,(callFunc g args).run prog w = .ok (.enter g args) w) (heq:Kny prog g cb enc 2 ef blk off d0.size w0) (R:RowK enc 2 w0 blk off d0) (hN:d0.size=N) (hsz:N < 1152921504606846976) (xs:List α) (w:World) (hl:xs.length=N)
  (hcl:∀(W:World) (dk:Array α) (i:Nat),dk.size=N->SWK enc 2 w0 blk off dk W->i<=N->∃W',(∀ty,(Builtin.clear_ #[55] ty #[.slice (some ⟨blk,off+i*2,none⟩) (N - i) (cap - i)]).run prog W = .ok (.tuple #[]) W')/\∃dk':Array α,dk'.size=N/\dk'.toList.take i=dk.toList.take i/\SWK enc 2 w0 blk off dk' W')
  (hcN:N<=cap) (S0:SWK enc 2 w0 blk off xs.toArray w) :
  Calls prog 135 #[.slice (some ⟨blk,off,none⟩) N cap,.func (.func g) #[] cb] w fun e w'=>e = .returned (.slice (some ⟨blk,off,none⟩) (dupE ef xs).length cap)/\∃zs:List α,zs.length=N/\zs.take (dupE ef xs).length=dupE ef xs/\SWK enc 2 w0 blk off zs.toArray w':=by
 have mixed:prog.follows .mixedOrders=true:=by kernel_rfl
 have HC:Aside _:=heq;have aC:Aside _:=hcl;have S1:Aside (SWK enc 2 w0 blk off xs.toArray w):=S0;have HQ:Hid (d0.size=N/\xs.length=N):=⟨hN,hl⟩;clear heq hcl S0 hN hl;go_enter func135,ntmps135
 rcases aW N 2 with h2 | h2
 .have hz:(N:Int) < 2:=by omega
  have HE:Hid (dupE ef xs=xs):=by
   have q:=HQ.out.2
   match xs,q with
   | [],q=>rfl
   | [x],_=>rfl
   | _ :: _ :: _,q=>simp at q;omega
  go_wp2_with fail
  go_ret
  refine ⟨?_,xs,HQ.out.2,?_,S1.out⟩
  .show bw (.slice (some ⟨blk,off,none⟩) N cap)=_
   rw[HE.out,HQ.out.2]
  .rw[HE.out,bc]
 have hz:¬(N:Int) < 2:=by omega
 have aK:∃x l,xs=x :: l:=by
  have q:=HQ.out.2
  cases xs with
  | nil=>simp at q;omega
  | cons x l=>exact ⟨x,l,rfl⟩
 obtain ⟨x0,l0,al⟩:=aK;have ar:Hid (xs = []++x0 :: l0/\dupE ef xs = []++x0 :: ddE ef x0 l0):=⟨al,by rw[al];rfl⟩;clear al;go_wp2_with fail
 go_loopg [5] N (fun kx s5 wr=>∃(k:Nat) (K0 R0:List α) (p:α),s5 = .int .i64 k/\0 < k/\k<=N/\N<=k+kx/\Hid (K0.length+1=k/\xs=K0++p :: R0/\dupE ef xs=K0++p :: ddE ef p R0)/\Aside (SWK enc 2 w0 blk off xs.toArray wr))
 case atStart=>exact ⟨1,[],l0,x0,rfl,by omega,by omega,by omega,⟨rfl,ar.out.1,ar.out.2⟩,S1⟩
 case round=>
  clear S1 ar;obtain ⟨k,K0,R0,p,rfl,hk0,hkN,ay,HB,S1⟩:=hrel;rcases aW k N with hlt | hge
  .have ak:(k:Int) < (N:Int):=by omega
   obtain ⟨b1,b2,b3⟩:=HB.out;obtain ⟨q1,q2⟩:=HQ.out
   have am:∃y R1,R0=y :: R1:=by
    cases R0 with
    | nil=>rw[b2] at q2;simp at q2;omega
    | cons y R1=>exact ⟨y,R1,rfl⟩
   obtain ⟨y,R1,ac⟩:=am;have av:xs.toArray[k]! = y:=by rw[b2,ac,show K0++p :: y :: R1=(K0 ++ [p])++y :: R1 by simp];exact Kct (by simp only[Jd,aQ,aR];omega)
   have aj:xs.toArray[k - 1]! = p:=by rw[b2];exact Kct (by omega)
   have aa:xs.toArray.size=N:=by simpa using q2
   obtain ⟨k1,ah⟩:∃k1,k=k1+1:=⟨k - 1,by omega⟩;have ao:k - 1=k1:=by omega
   rw[ao] at aj;have hk3:(k:Int) - 1=(k1:Int):=by omega
   have la:∀n os,bp prog (loadCells ⟨blk,off+k*2,none⟩ 2) (grow (wr.drewN n) os) = .ok (enc y).toArray (grow (wr.drewN n) os):=by rw[<-av];exact S1.out.ld R (by omega) prog k (by omega)
   have lb:∀n os,bp prog (loadCells ⟨blk,off+k1*2,none⟩ 2) (grow (wr.drewN n) os) = .ok (enc p).toArray (grow (wr.drewN n) os):=by rw[<-aj];exact S1.out.ld R (by omega) prog k1 (by omega)
   have hc:=fun n os=>HC.out (grow (wr.drewN n) os) xs.toArray (by omega) (S1.out.grown n os) y p
   have e2:(k1:Int) < (N:Int):=by omega
   have iak:((k:Int)).toNat=k:=by omega
   have ibk:(0:Int)<=(k:Int):=by omega
   have ick:be.wrap (k:Int)=(k:Int):=by rw[bb];omega
   have idk:((k1:Int)).toNat=k1:=by omega
   have iek:(0:Int)<=(k1:Int):=by omega
   have ifk:be.wrap (k1:Int)=(k1:Int):=by rw[bb];omega
   have aB:k1 < N:=by omega
   have aw:Hid (k=k1+1):=ah;have ax:Hid (R0=y :: R1):=ac
   cases hL:ef y p with
   | true=>
    rw[hL] at hc;have ab:Hid (K0.length+1=k/\xs=K0++p :: y :: R1/\dupE ef xs=(K0 ++ [p])++ddE ef y R1):=⟨b1,by rw[b2,ac],by rw[b3,ac,ddE,jf hL];simp⟩;clear b1 b2 b3 q1 q2 ac av aj aa HB ax hL ah ao;go_wp2_with fail
    go_quiet_grown (first | (go_at_fn g;refine bk (hc _ _)))
    have S2:Aside (SWK enc 2 w0 blk off xs.toArray (grow (wr.drewN nq) osq)):=S1.out.grown nq osq;clear la lb hc S1;generalize grow (wr.drewN nq) osq=w2 at S2 |-;clear nq osq;have S3:Aside (SWK enc 2 w0 blk off ((K0 ++ [p])++([]++y :: R1)).toArray w2):=by rw[show (K0 ++ [p])++([]++y :: R1)=K0++p :: y :: R1 by simp,<-ab.out.2.1];exact S2.out
    have ah:=aw.out;have ag:K0.length=k1:=by have:=ab.out.1;omega
    have aI:R1.length+(k+1)=N:=by have q:=HQ.out.2;rw[ab.out.2.1] at q;simp only[Jd,aQ] at q;omega
    have HL:Hid ((K0 ++ [p]).length=k/\k+1=(K0 ++ [p]).length+([]:List α).length+1/\(K0 ++ [p]).length+([]:List α).length+1+R1.length=N/\dupE ef xs=(K0 ++ [p])++ddE ef y R1):=⟨by simp only[Jd,aQ,aR];omega,by simp only[Jd,aQ,aR];omega,by simp only[Jd,aQ,aR];omega,ab.out.2.2⟩;clear ag aI ab S2 ah aw;obtain ⟨c0,aG⟩:=i7 k;subst aG;have aF:c0<=cap:=by omega
    clear ak ay;go_wp2_with fail
    go_loopg [5,7] N (fun kx s5 s7 wr=>∃(k j:Nat) (K1 M R2:List α) (z:α),s5 = .int .i64 k/\s7 = .int .i64 j/\0 < j/\k < c0+j/\c0+j<=N/\N<=c0+j+kx/\Hid (K1.length=k/\c0+j=K1.length+M.length+1/\K1.length+M.length+1+R2.length=N/\dupE ef xs=K1++ddE ef z R2)/\Aside (SWK enc 2 w0 blk off (K1++(M++z :: R2)).toArray wr))
    case atStart=>exact ⟨c0,1,K0 ++ [p],[],R1,y,by first | rfl | go_num,rfl,by omega,by omega,by omega,by omega,HL,S3⟩
    case round=>
     clear HL S3;obtain ⟨k,j,K1,M,R2,z,rfl,rfl,hj0,hkj,hjN,hjg,HB,S1⟩:=hrel;rcases aW (c0+j) N with hlt | hge
     .have ak:(j:Int) < (N:Int) - (c0:Int):=by omega
      have am:∃v R3,R2=v :: R3:=by
       obtain ⟨b1,b2,b3,b4⟩:=HB.out
       cases R2 with
       | nil=>simp only[aR] at b3;omega
       | cons v R3=>exact ⟨v,R3,rfl⟩
      obtain ⟨v,R3,aq⟩:=am;obtain ⟨b1,b2,b3,b4⟩:=HB.out;obtain ⟨j1,rfl⟩:∃j1,j=j1+1:=⟨j - 1,by omega⟩;subst aq;simp only[aQ] at b3;have ad:(K1++(M++z :: v :: R3)).toArray[c0+(j1+1)]! = v:=by rw[show K1++(M++z :: v :: R3)=(K1++(M ++ [z]))++v :: R3 by simp];exact Kct (by simp only[Jd,aQ,aR];omega)
      have ai:(K1++(M++z :: v :: R3)).toArray[c0+j1]! = z:=by rw[show K1++(M++z :: v :: R3)=(K1++M)++z :: v :: R3 by simp];exact Kct (by simp only[Jd];omega)
      have aa:(K1++(M++z :: v :: R3)).toArray.size=N:=by simp only[aS,Jd,aQ];omega
      obtain ⟨dk,af⟩:=i7 ((K1++(M++z :: v :: R3)).toArray);rw[<-af] at ad ai aa S1;have q1:=HQ.out.1
      have la:∀n os,bp prog (loadCells ⟨blk,off+c0*2+(j1+1)*2,none⟩ 2) (grow (wr.drewN n) os) = .ok (enc v).toArray (grow (wr.drewN n) os):=by rw[show off+c0*2+(j1+1)*2=off+(c0+(j1+1))*2 by omega,<-ad];exact S1.out.ld R (by omega) prog (c0+(j1+1)) (by omega)
      have lb:∀n os,bp prog (loadCells ⟨blk,off+c0*2+j1*2,none⟩ 2) (grow (wr.drewN n) os) = .ok (enc z).toArray (grow (wr.drewN n) os):=by rw[show off+c0*2+j1*2=off+(c0+j1)*2 by omega,<-ai];exact S1.out.ld R (by omega) prog (c0+j1) (by omega)
      have hc:=fun n os=>HC.out (grow (wr.drewN n) os) dk (by omega) (S1.out.grown n os) v z
      have e1:(j1:Int)+1 < ((N - c0:Nat):Int):=by omega
      have e2:(j1:Int) < ((N - c0:Nat):Int):=by omega
      have aN:(((j1:Int)+1)).toNat=j1+1:=by omega
      have az:(0:Int)<=(j1:Int)+1:=by omega
      have aA:be.wrap ((j1:Int)+1)=(j1:Int)+1:=by rw[bb];omega
      have aD:((j1:Int)).toNat=j1:=by omega
      have aE:(0:Int)<=(j1:Int):=by omega
      have aL:be.wrap (j1:Int)=(j1:Int):=by rw[bb];omega
      have ae:Hid (dk=(K1++(M++z :: v :: R3)).toArray/\dk.size=N):=⟨af,aa⟩
      cases hL:ef v z with
      | true=>
       rw[hL] at hc;have ab:Hid (K1.length=k/\c0+(j1+1+1)=K1.length+(M ++ [z]).length+1/\K1.length+(M ++ [z]).length+1+R3.length=N/\dupE ef xs=K1++ddE ef v R3):=⟨b1,by simp only[Jd,aQ,aR];omega,by simp only[Jd,aQ,aR];omega,by rw[b4,ddE,jf hL]⟩;clear b1 b2 b3 b4 ad ai aa af HB hL q1;go_wp2_with fail
       go_quiet_grown (first | (go_at_fn g;refine bk (hc _ _)))
       have S2:Aside (SWK enc 2 w0 blk off dk (grow (wr.drewN nq) osq)):=S1.out.grown nq osq;clear la lb hc S1;generalize grow (wr.drewN nq) osq=w2 at S2 |-;clear nq osq;have S3:Aside (SWK enc 2 w0 blk off (K1++((M ++ [z])++v :: R3)).toArray w2):=by rw[show K1++((M ++ [z])++v :: R3)=K1++(M++z :: v :: R3) by simp,<-ae.out.1];exact S2.out
       clear S2 ae;go_wp2_with fail
       go_roundg (N - (c0+(j1+2)))
       case measure=>omega
       case rel=>exact ⟨k,j1+2,K1,M ++ [z],R3,v,rfl,by first | rfl | go_num,by omega,by omega,by omega,by omega,ab,S3⟩
      | false=>
       rw[hL] at hc
       have aO:∃m M2,M ++ [z]=m :: M2:=by
        cases M with
        | nil=>exact ⟨z,[],rfl⟩
        | cons a M=>exact ⟨a,M ++ [z],rfl⟩
       obtain ⟨m,M2,an⟩:=aO;have aM:M2.length=M.length:=by have:=jk ba an;simp only[Jd,aQ,aR] at this;omega
       have ab:Hid ((K1 ++ [v]).length=k+1/\c0+(j1+1+1)=(K1 ++ [v]).length+M2.length+1/\(K1 ++ [v]).length+M2.length+1+R3.length=N/\dupE ef xs=(K1 ++ [v])++ddE ef v R3):=⟨by simp[b1],by simp only[Jd,aQ,aR];omega,by simp only[Jd,aQ,aR];omega,by rw[b4,ddE,je (by rw[hL];exact bf)];simp⟩
       have HN:Hid (dk.setIfInBounds k v=((K1 ++ [v])++(M2++v :: R3)).toArray):=by
        show _=_
        rw[af,show K1++(M++z :: v :: R3)=K1++m :: (M2++v :: R3) by rw[show M++z :: v :: R3=(M ++ [z])++v :: R3 by simp,an];rfl,Klm b1.symm];simp
       have ap:k < N:=by omega
       have aJ:k < cap:=by omega
       clear b1 b2 b3 b4 ad ai aa af HB hL an aM q1;go_wp2_with fail
       go_quiet_grown (first | (go_at_fn g;refine bk (hc _ _)))
       have S2:Aside (SWK enc 2 w0 blk off dk (grow (wr.drewN nq) osq)):=S1.out.grown nq osq;clear la lb hc S1;generalize grow (wr.drewN nq) osq=w2 at S2 |-;clear nq osq;have aa:=ae.out.2;have q1:=HQ.out.1
       have ad:dk[c0+(j1+1)]! = v:=by rw[ae.out.1,show K1++(M++z :: v :: R3)=(K1++(M ++ [z]))++v :: R3 by simp];have t1:=ab.out.1;have t2:=ab.out.2.1;have t3:=ab.out.2.2.1;have t4:=jk Array.size ae.out.1;simp only[aS,Jd,aQ,aR] at t1 t2 t3 t4;exact Kct (by simp only[Jd,aQ,aR];omega)
       have l1:bp prog (loadCells ⟨blk,off+c0*2+(j1+1)*2,none⟩ 2) w2 = .ok (enc v).toArray w2:=by rw[show off+c0*2+(j1+1)*2=off+(c0+(j1+1))*2 by omega,<-ad];exact S2.out.load R (by omega) prog (c0+(j1+1)) (by omega)
       have s1:bp prog (storeCells ⟨blk,off+k*2,none⟩ (enc v) 0) w2 = .ok () (w2.setCells blk (off+k*2) (enc v)):=SWK.st S2.out R (by omega) prog k (by omega) v;have S3:Aside (SWK enc 2 w0 blk off ((K1 ++ [v])++(M2++v :: R3)).toArray (w2.setCells blk (off+k*2) (enc v))):=by rw[<-HN.out];exact SWK.put S2.out R k (by omega) v
       have n1:(enc v).length=2:=R.hk _;clear S2 ae aa q1 ad HN;generalize enc v=cV at l1 s1 S3 n1;have aH:(k:Int) < (N:Int):=by omega
       go_wp2_with fail
       clear l1 s1;generalize w2.setCells blk (off+k*2) cV=w3 at S3 |-;go_wp2_with fail
       go_roundg (N - (c0+(j1+2)))
       case measure=>omega
       case rel=>exact ⟨k+1,j1+2,K1 ++ [v],M2,R3,v,by first | rfl | go_num,by first | rfl | go_num,by omega,by omega,by omega,by omega,ab,S3⟩
     .have ak:¬(j:Int) < (N:Int) - (c0:Int):=by omega
      obtain ⟨b1,b2,b3,b4⟩:=HB.out;have aq:R2 = []:=aT (by omega);subst aq;obtain ⟨W',hcr,dk',d1,d2,d3⟩:=aC.out wr _ k (by simp only[aS,Jd,aQ,aR] at b3 |-;omega) S1.out (by omega)
      have HF:Hid (∃zs:List α,k=(dupE ef xs).length/\zs.length=N/\zs.take (dupE ef xs).length=dupE ef xs/\SWK enc 2 w0 blk off zs.toArray W'):=by rw[ddE,aZ] at b4;refine ⟨dk'.toList,by rw[b4];exact b1.symm,by simpa using d1,?_,by simpa using d3⟩;rw[b4,b1,d2];simp only[bn];rw[<-b1,bt rfl]
      have ap:k<=N:=by omega
      have aJ:k<=cap:=by omega
      have aH:(k:Int)<=(N:Int):=by omega
      have k2z:(k:Int)<=(cap:Int):=by omega
      have k3z:(0:Int)<=(k:Int):=by omega
      clear b1 b2 b3 b4 d1 d2 d3 S1 HB;go_wp2_with fail
      go_ret
      obtain ⟨zs,f1,f2,f3,f4⟩:=HF.out;refine ⟨?_,zs,f2,f3,f4⟩;show bw (.slice (some ⟨blk,off,none⟩) k cap)=_
      rw[f1]
   | false=>
    rw[hL] at hc;have ab:Hid ((K0 ++ [p]).length+1=k+1/\xs=(K0 ++ [p])++y :: R1/\dupE ef xs=(K0 ++ [p])++y :: ddE ef y R1):=⟨by simp only[Jd,aQ,aR];omega,by rw[b2,ac];simp,by rw[b3,ac,ddE,je (by rw[hL];exact bf)];simp⟩;clear b1 b2 b3 q1 q2 ac av aj aa HB ax hL ah ao;go_wp2_with fail
    go_quiet_grown (first | (go_at_fn g;refine bk (hc _ _)))
    have S2:Aside (SWK enc 2 w0 blk off xs.toArray (grow (wr.drewN nq) osq)):=S1.out.grown nq osq;clear la lb hc S1;generalize grow (wr.drewN nq) osq=w2 at S2 |-;clear nq osq;go_wp2_with fail
    go_roundg (N - (k+1))
    case measure=>omega
    case rel=>exact ⟨k+1,K0 ++ [p],R1,y,by first | rfl | go_num,by omega,by omega,by omega,ab,S2⟩
  .have ak:¬(k:Int) < (N:Int):=by omega
   obtain ⟨b1,b2,b3⟩:=HB.out;have q2:=HQ.out.2
   have ac:R0 = []:=by refine aT ?_;rw[b2] at q2;simp only[Jd,aQ] at q2;omega
   have HE:Hid (dupE ef xs=xs):=by
    show _=_
    rw[b3,b2,ac];rfl
   clear b1 b2 b3 q2 ac HB;go_wp2_with fail
   go_ret
   refine ⟨?_,xs,HQ.out.2,?_,S1.out⟩
   .show bw (.slice (some ⟨blk,off,none⟩) N cap)=_
    rw[HE.out,HQ.out.2]
   .rw[HE.out,bc]
end
attribute [-go_sem] loadCells
open Go.Shelf Go.RowKit Go.Lib Go.Sort
section
variable {α : Type} [Inhabited α] {enc : α -> List Value} {cf : α -> α -> Int} {d0 : Array α} {w0 : World} {blk off cap g N : Nat} {cb : Array Value}
theorem Kew (A X M Y S:List α) (a b n:Nat) (w:World) (R:RowK enc 2 w0 blk off d0) (hN:d0.size=N) (hl:A.length+X.length+M.length+Y.length+S.length=N) (hX:X.length=n) (hY:Y.length=n) (ha:a=A.length) (hb:b=A.length+n+M.length) (hsz:N < 4611686018427387904)
  (S0:SWK enc 2 w0 blk off (A++(X++(M++(Y++S)))).toArray w) :
  Calls prog 263 #[.slice (some ⟨blk,off,none⟩) N cap,.int .i64 a,.int .i64 b,.int .i64 n,.func (.func g) #[] cb] w fun e w'=>e = .returned (.tuple #[])/\SWK enc 2 w0 blk off (A++(Y++(M++(X++S)))).toArray w':=by
 have S1:Aside (SWK enc 2 w0 blk off (A++(X++(M++(Y++S)))).toArray w):=S0;have HQ:Hid (d0.size=N/\A.length+X.length+M.length+Y.length+S.length=N/\X.length=n/\Y.length=n/\a=A.length/\b=A.length+n+M.length):=⟨hN,hl,hX,hY,ha,hb⟩;have ban:a+n<=b:=by omega
 have bbn:b+n<=N:=by omega
 clear hN hl hX hY ha hb;have mixed:prog.follows .mixedOrders=true:=by kernel_rfl
 clear S0;go_enter func263,ntmps263
 go_wp2
 go_loopg [10] n (fun kx s10 wr=>∃(i:Nat) (X1 X2 Y1 Y2:List α),s10 = .int .i64 i/\i+kx=n/\Hid (X1.length=i/\Y1.length=i/\X=X1++X2/\Y=Y1++Y2)/\Aside (SWK enc 2 w0 blk off (A++(Y1++(X2++(M++(X1++(Y2++S)))))).toArray wr))
 case atStart=>exact ⟨0,[],X,[],Y,rfl,by omega,⟨rfl,rfl,rfl,rfl⟩,S1⟩
 case round=>
  clear S1;obtain ⟨i,X1,X2,Y1,Y2,rfl,hk,ac,S1⟩:=hrel;obtain ⟨hN,hl,hX,hY,ha,hb⟩:=HQ.out;obtain ⟨h1,h2,h3,h4⟩:=ac.out;have e1:X1.length+X2.length=n:=by rw[<-hX,h3,Jd]
  have e2:Y1.length+Y2.length=n:=by rw[<-hY,h4,Jd]
  by_cases hlt:i < n
  .have hlz:(i:Int) < (n:Int):=by omega
   obtain ⟨x,X2,rfl⟩:∃x l,X2=x :: l:=by
    cases X2 with
    | nil=>simp at e1;omega
    | cons x l=>exact ⟨x,l,rfl⟩
   obtain ⟨y,Y2,rfl⟩:∃y l,Y2=y :: l:=by
    cases Y2 with
    | nil=>simp at e2;omega
    | cons y l=>exact ⟨y,l,rfl⟩
   simp only[aQ] at e1 e2
   have HN:Hid (swp (A++(Y1++(x :: X2++(M++(X1++(y :: Y2++S)))))).toArray (a+i) (b+i)=(A++((Y1 ++ [y])++(X2++(M++((X1 ++ [x])++(Y2++S)))))).toArray):=by
    show _=_
    rw[show A++(Y1++(x :: X2++(M++(X1++(y :: Y2++S)))))=(A++Y1)++x :: ((X2++(M++X1))++y :: (Y2++S)) by simp,Kek (by simp only[Jd];omega) (by simp only[Jd];omega)];simp
   have aa:(A++(Y1++(x :: X2++(M++(X1++(y :: Y2++S)))))).toArray.size=N:=by simp only[aS,Jd,aQ];omega
   obtain ⟨dk,ag⟩:=i7 ((A++(Y1++(x :: X2++(M++(X1++(y :: Y2++S)))))).toArray);rw[<-ag] at HN S1 aa;have ad:Hid ((X1 ++ [x]).length=i+1/\(Y1 ++ [y]).length=i+1/\X=(X1 ++ [x])++X2/\Y=(Y1 ++ [y])++Y2):=⟨by simp[h1],by simp[h2],by rw[h3];simp,by rw[h4];simp⟩;clear ag ac hl hX hY ha hb h1 h2 h3 h4 e1 e2;go_wp2_with fail
   have eat:((a:Int)+(i:Int)).toNat=a+i:=by omega
   have pat:(0:Int)<=(a:Int)+(i:Int):=by omega
   have bat:(a:Int)+(i:Int) < (N:Int):=by omega
   have rat:be.wrap ((a:Int)+(i:Int))=(a:Int)+(i:Int):=by rw[bb];omega
   have ect:((b:Int)+(i:Int)).toNat=b+i:=by omega
   have pct:(0:Int)<=(b:Int)+(i:Int):=by omega
   have bct:(b:Int)+(i:Int) < (N:Int):=by omega
   have rct:be.wrap ((b:Int)+(i:Int))=(b:Int)+(i:Int):=by rw[bb];omega
   have S2:Aside (SWK enc 2 w0 blk off (swp dk (a+i) (b+i)) ((wr.drew.setCells blk (off+(a+i)*2) (enc dk[b+i]!)).setCells blk (off+(b+i)*2) (enc dk[a+i]!))):=S1.out.swapped R (a+i) (b+i) (by omega) (by omega);have af:bp prog (loadCells ⟨blk,off+(a+i)*2,none⟩ 2) wr.drew = .ok (enc dk[a+i]!).toArray wr.drew:=S1.out.ld1 R (by omega) prog (a+i) (by omega);have ae:bp prog (loadCells ⟨blk,off+(b+i)*2,none⟩ 2) wr.drew = .ok (enc dk[b+i]!).toArray wr.drew:=S1.out.ld1 R (by omega) prog (b+i) (by omega);have ah:=S1.out.st1 R (by omega) prog (a+i) (by omega) dk[b+i]!;have ab:=S1.out.st2 R (by omega) prog (a+i) (b+i) (by omega) (by omega) dk[b+i]! dk[a+i]!;have aj:(enc dk[a+i]!).length=2:=R.hk _;have ai:(enc dk[b+i]!).length=2:=R.hk _;generalize enc dk[a+i]! = cIt at S2 af ab aj;generalize enc dk[b+i]! = cJt at S2 ae ah ab ai;clear S1 aa hN;go_wp2_with fail
   go_big_region_o
   clear af ae ah ab;generalize (wr.drew.setCells blk (off+(a+i)*2) cJt).setCells blk (off+(b+i)*2) cIt=w2 at S2 |-;rw[HN.out] at S2;go_wp2
   go_roundg (n - (i+1))
   case measure=>omega
   case rel=>exact ⟨i+1,X1 ++ [x],X2,Y1 ++ [y],Y2,by first | rfl | go_num,by omega,ad,S2⟩
  .have al:X2 = []:=aT (by omega);have ak:Y2 = []:=aT (by omega);subst al ak
   have S2:Aside (SWK enc 2 w0 blk off (A++(Y++(M++(X++S)))).toArray wr):=by rw[aZ] at h3 h4;rw[h3,h4];exact S1.out
   clear S1 ac hl hX hY ha hb h1 h2 h3 h4 e1 e2 hN;go_wp2
   go_end0
   exact ⟨rfl,S2.out⟩
theorem Ktj (A X Y S:List α) (a m b:Nat) (w:World) (R:RowK enc 2 w0 blk off d0) (hN:d0.size=N) (hl:A.length+X.length+Y.length+S.length=N) (ha:a=A.length) (hm:m=A.length+X.length) (hb:b=A.length+X.length+Y.length) (hX:0 < X.length) (hY:0 < Y.length) (hsz:N < 4611686018427387904)
  (S0:SWK enc 2 w0 blk off (A++(X++(Y++S))).toArray w) :
  Calls prog 255 #[.slice (some ⟨blk,off,none⟩) N cap,.int .i64 a,.int .i64 m,.int .i64 b,.func (.func g) #[] cb] w fun e w'=>e = .returned (.tuple #[])/\SWK enc 2 w0 blk off (A++(Y++(X++S))).toArray w':=by
 have S1:Aside (SWK enc 2 w0 blk off (A++(X++(Y++S))).toArray w):=S0;obtain ⟨L,hL⟩:=i7 (A++(Y++(X++S)));rw[<-hL];have HL:Hid (A++(Y++(X++S))=L):=hL.symm;obtain ⟨i0,ah⟩:=i7 X.length;obtain ⟨j0,ai⟩:=i7 Y.length;have w1:wrap64 ((m:Int) - (a:Int))=(i0:Int):=by unfold wrap64;omega
 have w2:wrap64 ((b:Int) - (m:Int))=(j0:Int):=by unfold wrap64;omega
 have hmN:m<=N:=by omega
 have HQ:Hid (d0.size=N/\A.length+X.length+Y.length+S.length=N/\a=A.length/\m=A.length+X.length/\b=A.length+X.length+Y.length/\i0=X.length/\j0=Y.length):=⟨hN,hl,ha,hm,hb,ah,ai⟩;have pi0:0 < i0:=by omega
 have pj0:0 < j0:=by omega
 clear S0 hL hN hl ha hm hb ah ai hX hY;go_enter func255,ntmps255
 go_wp2
 go_loopg [10,11] (i0+j0) (fun kx s10 s11 wr=>∃(i j:Nat) (A' X' Y' S':List α),s10 = .int .i64 i/\s11 = .int .i64 j/\0 < i/\0 < j/\i+j<=kx/\i<=m/\m+j<=N/\Hid (X'.length=i/\Y'.length=j/\A'.length+i=m/\A'.length+X'.length+Y'.length+S'.length=N)/\Hid (A'++(Y'++(X'++S'))=L)/\Aside (SWK enc 2 w0 blk off (A'++(X'++(Y'++S'))).toArray wr))
 case atStart=>exact ⟨i0,j0,A,X,Y,S,by first | rfl | go_num | (congr 1;omega),by first | rfl | go_num | (congr 1;omega),by omega,by omega,aY _,by have:=HQ.out;omega,by have:=HQ.out;omega,by have q:=HQ.out;refine ⟨?_,?_,?_,?_⟩ <;> omega,HL,S1⟩
 case round=>
  clear S1 HL w1 w2;obtain ⟨i,j,A',X',Y',S',rfl,rfl,hi,hj,hk,him,hjm,HR,HL,S1⟩:=hrel;have hN:=HQ.out.1;obtain ⟨ab,aa,ag,ad⟩:=HR.out;rcases (by omega:i=j\/j < i\/i < j) with he | hgt | hlt
  .subst he;have HS:=Kew (cap:=cap) (g:=g) (cb:=cb) A' X' [] Y' S' (m - i) m i wr R hN (by simp only[aR];omega) ab aa (by omega) (by simp only[aR];omega) hsz S1.out;have HC:=HS;have d1:((i:Int) != (i:Int))=false:=by simp
   rw[show ((m - i:Nat):Int)=(m:Int) - (i:Int) by omega] at HC;have ac:Aside _:=HC;clear HS S1 HC hN ab aa ag ad HR;go_wp2_with fail
   refine bl ac.out ?_;rintro _ w3 ⟨rfl,h3⟩;have S2:Aside (SWK enc 2 w0 blk off L.toArray w3):=by rw[<-HL.out];exact h3
   clear h3;go_wp2_with fail
   go_end0
   exact ⟨rfl,S2.out⟩
  .obtain ⟨X1,X2,rfl,h1⟩:∃X1 X2,X'=X1++X2/\X1.length=j:=⟨X'.take j,X'.drop j,(aV _ _).symm,by rw[a8];omega⟩;rw[Jd] at ab ad;have HS:=Kew (cap:=cap) (g:=g) (cb:=cb) A' X1 X2 Y' S' (m - i) m j wr R hN (by omega) h1 aa (by omega) (by omega) hsz (by have:=S1.out;rw[aU] at this;exact this);have HC:=HS;have d1:((i:Int) != (j:Int))=true:=by simp;omega
   have d2:decide ((j:Int) < (i:Int))=true:=by simp;omega
   rw[show ((m - i:Nat):Int)=(m:Int) - (i:Int) by omega] at HC;have af:Hid (X2.length=i - j/\X1.length=j/\(A'++Y').length+(i - j)=m/\(A'++Y').length+X2.length+X1.length+S'.length=N):=by simp only[Jd];refine ⟨?_,?_,?_,?_⟩ <;> omega
   have ac:Aside _:=HC;clear HS S1 HC hN ab aa ag ad HR h1;go_wp2_with fail
   refine bl ac.out ?_;rintro _ w3 ⟨rfl,h3⟩;have S2:Aside (SWK enc 2 w0 blk off ((A'++Y')++(X2++(X1++S'))).toArray w3):=by rw[aU];exact h3
   have ae:Hid ((A'++Y')++(X1++(X2++S'))=L):=by show _=_;rw[<-HL.out];simp
   clear h3 HL;go_wp2_with fail
   go_roundg (i - j+j)
   case measure=>omega
   case rel=>exact ⟨i - j,j,A'++Y',X2,X1,S',by first | rfl | go_num | (congr 1;omega),by first | rfl | go_num | (congr 1;omega),by omega,by omega,by omega,by omega,by omega,af,ae,S2⟩
  .obtain ⟨Y1,Y2,rfl,h1⟩:∃Y1 Y2,Y'=Y1++Y2/\Y2.length=i:=⟨Y'.take (j - i),Y'.drop (j - i),(aV _ _).symm,by rw[bs];omega⟩;rw[Jd] at aa ad;have HS:=Kew (cap:=cap) (g:=g) (cb:=cb) A' X' Y1 Y2 S' (m - i) (m+j - i) i wr R hN (by omega) ab h1 (by omega) (by omega) hsz (by have:=S1.out;rw[aU] at this;exact this);have HC:=HS;have d1:((i:Int) != (j:Int))=true:=by simp;omega
   have d2:decide ((j:Int) < (i:Int))=false:=by simp;omega
   rw[show ((m - i:Nat):Int)=(m:Int) - (i:Int) by omega] at HC;rw[show ((m+j - i:Nat):Int)=(m:Int)+(j:Int) - (i:Int) by omega] at HC;have af:Hid (Y2.length=i/\Y1.length=j - i/\A'.length+i=m/\A'.length+Y2.length+Y1.length+(X'++S').length=N):=by simp only[Jd];refine ⟨?_,?_,?_,?_⟩ <;> omega
   have ac:Aside _:=HC;clear HS S1 HC hN ab aa ag ad HR h1;go_wp2_with fail
   refine bl ac.out ?_;rintro _ w4 ⟨rfl,h3⟩;have S2:Aside (SWK enc 2 w0 blk off (A'++(Y2++(Y1++(X'++S')))).toArray w4):=h3;have ae:Hid (A'++(Y1++(Y2++(X'++S')))=L):=by show _=_;rw[<-HL.out];simp
   clear h3 HL;go_wp2_with fail
   go_roundg (i+(j - i))
   case measure=>omega
   case rel=>exact ⟨i,j - i,A',Y2,Y1,X'++S',by first | rfl | go_num | (congr 1;omega),by first | rfl | go_num | (congr 1;omega),by omega,by omega,by omega,by omega,by omega,af,ae,S2⟩
theorem Ktv (SW:SWO (ltOf cf)) (eg:∀args w,(callFunc g args).run prog w = .ok (.enter g args) w) (hcmp:CmpLays prog g cb enc 2 cf blk off d0.size w0) (R:RowK enc 2 w0 blk off d0) (hN:d0.size=N) (hsz:N < 4611686018427387904) (A:List α) (x:α) (Y S:List α) (a m b:Nat) (w:World) (hl:A.length+1+Y.length+S.length=N) (ha:a=A.length) (hm:m=a+1) (hb:b=m+Y.length) (hY0:0 < Y.length) (hY:(Y.Pairwise fun a b=>ltOf cf b a=false))
  (S0:SWK enc 2 w0 blk off (A++([x]++(Y++S))).toArray w) :
  Calls prog 225 #[.slice (some ⟨blk,off,none⟩) N cap,.int .i64 a,.int .i64 m,.int .i64 b,.func (.func g) #[] cb] w fun e w'=>e = .returned (.tuple #[])/\SWK enc 2 w0 blk off (A++(mrg (ltOf cf) [x] Y++S)).toArray w':=by
 have mixed:prog.follows .mixedOrders=true:=by kernel_rfl
 have HC:Aside _:=hcmp;have hma:(m:Int) - (a:Int)=1:=by omega
 have hmb:m < b:=by omega
 have hbN:b<=N:=by omega
 have ham:a < m:=by omega
 obtain ⟨dk,ab⟩:=i7 ((A++([x]++(Y++S))).toArray);have aa:dk.size=N:=by rw[ab];simp only[aS,Jd,aQ,aR];omega
 have DA:Hid (dk[a]! = x):=by
  show _=_
  rw[ab,Kdr (A:=A) (X:=[x]) (T:=Y++S) (i:=0) (by simp) (by omega)];rfl
 have DY:Hid (∀t,m<=t->t < b->dk[t]! = Y[t - m]!):=by intro t h1 h2;rw[ab,Kdu (A:=A) (X:=[x]) (Y:=Y) (T:=S) (i:=t - m) (by omega) (by simp only[aQ,aR];omega)]
 have HQ:Hid (dk=(A++([x]++(Y++S))).toArray/\d0.size=N/\A.length+1+Y.length+S.length=N/\a=A.length/\m=a+1/\b=m+Y.length/\(Y.Pairwise fun a b=>ltOf cf b a=false)):=⟨ab,hN,hl,ha,hm,hb,hY⟩;have aj:Hid (d0.size=N):=hN;rw[<-ab] at S0;have S1:Aside (SWK enc 2 w0 blk off dk w):=S0;clear S0 ab hl ha hm hb hY hcmp hN;have ax:Hid (dk.size=N):=aa;clear aa;go_enter func225,ntmps225
 go_wp2
 go_loopg [10,11] (b - m) (fun kx s10 s11 wr=>∃(i j:Nat),s10 = .int .i64 i/\s11 = .int .i64 j/\m<=i/\i<=j/\j<=b/\j - i<=kx/\Hid ((i=m\/ltOf cf Y[i - m - 1]! x=true)/\(j=b\/ltOf cf Y[j - m]! x=false))/\Aside (SWK enc 2 w0 blk off dk wr))
 case atStart=>exact ⟨m,b,rfl,rfl,by omega,by omega,by omega,by omega,⟨.inl rfl,.inl rfl⟩,S1⟩
 case round=>
  clear S1;obtain ⟨i,j,rfl,rfl,aB,aC,aw,hk,HB,S1⟩:=hrel;rcases aW i j with hlt | hge
  .have hlz:(i:Int) < (j:Int):=by omega
   obtain ⟨h,hh⟩:=i7 ((i+j) / 2);have hm2:(((i:Int)+(j:Int)) / 2)=(h:Int):=by omega
   have hih:i<=h:=by omega
   have hjh:h < j:=by omega
   clear hh;obtain ⟨y,hy⟩:=i7 (Y[h - m]!);have ai:dk[a]! = x:=DA.out;have aq:dk[h]! = y:=by rw[hy];exact DY.out h (by omega) (by omega)
   have aa:=ax.out;have hN:=aj.out;obtain ⟨L,hL⟩:=iZ (ltOf cf y x);have HL:=Lib.hid hL;have HY:=Lib.hid hy;clear hy;obtain ⟨eac,pac,bac,rac⟩:=ixf (i:=h) (N:=N) (by omega) (by omega);obtain ⟨ecc,pcc,bcc,rcc⟩:=ixf (i:=a) (N:=N) (by omega) (by omega);have am:∀n os,bp prog (loadCells ⟨blk,off+(h)*2,none⟩ 2) (grow (wr.drewN n) os) = .ok (enc dk[h]!).toArray (grow (wr.drewN n) os):=S1.out.ld R (by omega) prog (h) (by omega);have al:∀n os,bp prog (loadCells ⟨blk,off+(a)*2,none⟩ 2) (grow (wr.drewN n) os) = .ok (enc dk[a]!).toArray (grow (wr.drewN n) os):=S1.out.ld R (by omega) prog (a) (by omega);rw[aq] at am;rw[ai] at al;have ap:=S1.out.cmp HC.out (by omega) y x;have hdc:decide (cf y x < 0)=L:=hL;go_wp2_with fail
   go_quiet_grown (first | (go_at_fn g;refine bk (ap _ _)))
   have S2:Aside (SWK enc 2 w0 blk off dk (grow (wr.drewN nq) osq)):=S1.out.grown nq osq;clear aa hN ai aq hL am al ap S1;generalize grow (wr.drewN nq) osq=w2 at S2 |-;clear nq osq
   cases L with
   | true=>
    have ac:Hid ((h+1=m\/ltOf cf Y[h+1 - m - 1]! x=true)/\(j=b\/ltOf cf Y[j - m]! x=false)):=⟨.inr (by rw[show h+1 - m - 1=h - m by omega,<-HY.out];exact HL.out),HB.out.2⟩;clear HB HY HL;go_wp2_with fail
    go_roundg (j - (h+1))
    case measure=>omega
    case rel=>exact ⟨h+1,j,by first | rfl | go_num,rfl,by omega,by omega,aw,by omega,ac,S2⟩
   | false=>
    have ac:Hid ((i=m\/ltOf cf Y[i - m - 1]! x=true)/\(h=b\/ltOf cf Y[h - m]! x=false)):=⟨HB.out.1,.inr (by rw[<-HY.out];exact HL.out)⟩;clear HB HY HL;go_wp2_with fail
    go_roundg (h - i)
    case measure=>omega
    case rel=>exact ⟨i,h,rfl,rfl,aB,by omega,by omega,by omega,ac,S2⟩
  .have he:j=i:=by omega
   subst he;have aD:¬(j:Int) < (j:Int):=by omega
   obtain ⟨p,hp⟩:=i7 (j - m)
   have HE:Hid (mrg (ltOf cf) [x] Y=Y.take p++x :: Y.drop p):=by obtain ⟨q1,q2,q3,q4,q5,q6,q7⟩:=HQ.out;refine Khj SW q7 p (by omega) (HB.out.2.imp (fun h=>by omega) fun h=>by rw[hp];exact h) (HB.out.1.imp (fun h=>by omega) fun h=>by rw[hp];exact h)
   have HP:Hid (j=a+1+p/\p<=Y.length):=by obtain ⟨q1,q2,q3,q4,q5,q6,q7⟩:=HQ.out;exact ⟨by omega,by omega⟩
   have S2:Aside (SWK enc 2 w0 blk off (A++([]++x :: (Y.take p++(Y.drop p++S)))).toArray wr):=by have e:=S1.out;rw[HQ.out.1] at e;rw[<-aU (Y.take p),aV];exact e
   clear hp HB S1 aC;go_wp2_with fail
   go_loopg [13] p (fun kx s13 wr=>∃(k:Nat) (U V:List α),s13 = .int .i64 k/\a<=k/\k+1<=j/\Hid (V.length<=kx/\U.length+a=k/\k+V.length+1=j/\Y.take p=U++V)/\Aside (SWK enc 2 w0 blk off (A++(U++x :: (V++(Y.drop p++S)))).toArray wr))
   case atStart=>
    have hl:(Y.take p).length=p:=by rw[a8];have:=HP.out.2;omega
    have q:=HP.out.1;exact ⟨a,[],Y.take p,rfl,aY _,by omega,⟨by omega,by simp,by omega,rfl⟩,S2⟩
   case round=>
    clear S2;obtain ⟨k,U,V,rfl,hak,hkj,HU,S1⟩:=hrel
    cases V with
    | nil=>
     have aA:¬(k:Int) < (j:Int) - 1:=by have:=HU.out.2.2.1;simp only[aR] at this;omega
     have e2:SWK enc 2 w0 blk off (A++(mrg (ltOf cf) [x] Y++S)).toArray wr:=by have e:=S1.out;have q:=HU.out.2.2.2;rw[aZ] at q;rw[HE.out,q];simpa using e
     have S2:Aside (SWK enc 2 w0 blk off (A++(mrg (ltOf cf) [x] Y++S)).toArray wr):=e2;clear e2;clear S1;go_wp2_with fail
     (try simp only[Exit.inBlock,Exit.then]);refine bodyPost_ret (results_none rfl _ _ _) rfl ?_
     exact ⟨rfl,S2.out⟩
    | cons v V=>
     obtain ⟨ao,av,af,ae⟩:=HU.out;simp only[aQ] at ao af;have aA:(k:Int) < (j:Int) - 1:=by omega
     obtain ⟨q1,q2,q3,q4,q5,q6,q7⟩:=HQ.out
     have HN:Hid (swp (A++(U++x :: (v :: V++(Y.drop p++S)))).toArray (k) (k+1)=(A++((U ++ [v])++x :: (V++(Y.drop p++S)))).toArray):=by
      show _=_
      rw[show A++(U++x :: (v :: V++(Y.drop p++S)))=(A++U)++x :: ([]++v :: (V++(Y.drop p++S))) by simp,Kek (by simp only[Jd];omega) (by simp only[Jd,aR];omega)];simp
     have ar:Hid (V.length<=gk - 1/\(U ++ [v]).length+a=k+1/\k+1+V.length+1=j/\Y.take p=(U ++ [v])++V):=⟨by omega,by simp only[Jd,aQ,aR];omega,by omega,by rw[ae];simp⟩;have hgk:0 < gk:=by omega
     have aa:(A++(U++x :: (v :: V++(Y.drop p++S)))).toArray.size=N:=by
      have hl:(Y.take p).length=U.length+(V.length+1):=by rw[ae];simp
      have hl2:(Y.take p).length+(Y.drop p).length=Y.length:=by rw[<-Jd,aV]
      simp only[aS,Jd,aQ];omega
     have hN:=aj.out;obtain ⟨dm,an⟩:=i7 ((A++(U++x :: (v :: V++(Y.drop p++S)))).toArray);rw[<-an] at HN S1 aa;clear an HU ao av af ae q1 q2 q3 q4 q5 q6 q7;go_wp2_with fail
     have eat:((k:Int)).toNat=k:=by omega
     have pat:(0:Int)<=(k:Int):=by omega
     have bat:(k:Int) < (N:Int):=by omega
     have rat:be.wrap ((k:Int))=(k:Int):=by rw[bb];omega
     have ect:((k:Int)+1).toNat=k+1:=by omega
     have pct:(0:Int)<=(k:Int)+1:=by omega
     have bct:(k:Int)+1 < (N:Int):=by omega
     have rct:be.wrap ((k:Int)+1)=(k:Int)+1:=by rw[bb];omega
     have S2:Aside (SWK enc 2 w0 blk off (swp dm (k) (k+1)) ((wr.drew.setCells blk (off+(k)*2) (enc dm[k+1]!)).setCells blk (off+(k+1)*2) (enc dm[k]!))):=S1.out.swapped R (k) (k+1) (by omega) (by omega);have ah:bp prog (loadCells ⟨blk,off+(k)*2,none⟩ 2) wr.drew = .ok (enc dm[k]!).toArray wr.drew:=S1.out.ld1 R (by omega) prog (k) (by omega);have ag:bp prog (loadCells ⟨blk,off+(k+1)*2,none⟩ 2) wr.drew = .ok (enc dm[k+1]!).toArray wr.drew:=S1.out.ld1 R (by omega) prog (k+1) (by omega);have ak:=S1.out.st1 R (by omega) prog (k) (by omega) dm[k+1]!;have ad:=S1.out.st2 R (by omega) prog (k) (k+1) (by omega) (by omega) dm[k+1]! dm[k]!;have az:(enc dm[k]!).length=2:=R.hk _;have ay:(enc dm[k+1]!).length=2:=R.hk _;generalize enc dm[k]! = cIt at S2 ah ad az;generalize enc dm[k+1]! = cJt at S2 ag ak ad ay;clear S1 aa hN;go_wp2_with fail
     go_big_region_o
     clear ah ag ak ad;generalize (wr.drew.setCells blk (off+(k)*2) cJt).setCells blk (off+(k+1)*2) cIt=w2 at S2 |-;rw[HN.out] at S2;go_wp2
     go_roundg (gk - 1)
     case measure=>omega
     case rel=>exact ⟨k+1,U ++ [v],V,by first | rfl | go_num,by omega,by omega,ar,S2⟩
theorem Kqt (SW:SWO (ltOf cf)) (eg:∀args w,(callFunc g args).run prog w = .ok (.enter g args) w) (hcmp:CmpLays prog g cb enc 2 cf blk off d0.size w0) (R:RowK enc 2 w0 blk off d0) (hN:d0.size=N) (hsz:N < 4611686018427387904) (A:List α) (y:α) (X S:List α) (a m b:Nat) (w:World) (hl:A.length+X.length+1+S.length=N) (ha:a=A.length) (hm:m=a+X.length) (hb:b=m+1) (hX0:1 < X.length) (hX:(X.Pairwise fun a b=>ltOf cf b a=false))
  (S0:SWK enc 2 w0 blk off (A++(X++([y]++S))).toArray w) :
  Calls prog 225 #[.slice (some ⟨blk,off,none⟩) N cap,.int .i64 a,.int .i64 m,.int .i64 b,.func (.func g) #[] cb] w fun e w'=>e = .returned (.tuple #[])/\SWK enc 2 w0 blk off (A++(mrg (ltOf cf) X [y]++S)).toArray w':=by
 have mixed:prog.follows .mixedOrders=true:=by kernel_rfl
 have HC:Aside _:=hcmp;have hmb:(b:Int) - (m:Int)=1:=by omega
 have dma:(((m:Int) - (a:Int)) == 1)=false:=by simp;omega
 have hbN:b<=N:=by omega
 have ham:a < m:=by omega
 have az:m < b:=by omega
 obtain ⟨dk,ab⟩:=i7 ((A++(X++([y]++S))).toArray);have aa:dk.size=N:=by rw[ab];simp only[aS,Jd,aQ,aR];omega
 have DA:Hid (dk[m]! = y):=by
  show _=_
  rw[ab,Kdu (A:=A) (X:=X) (Y:=[y]) (T:=S) (i:=0) (by simp) (by omega)];rfl
 have DX:Hid (∀t,a<=t->t < m->dk[t]! = X[t - a]!):=by intro t h1 h2;rw[ab,Kdr (A:=A) (X:=X) (T:=[y]++S) (i:=t - a) (by omega) (by omega)]
 have HQ:Hid (dk=(A++(X++([y]++S))).toArray/\d0.size=N/\A.length+X.length+1+S.length=N/\a=A.length/\m=a+X.length/\b=m+1/\(X.Pairwise fun a b=>ltOf cf b a=false)):=⟨ab,hN,hl,ha,hm,hb,hX⟩;have aj:Hid (d0.size=N):=hN;rw[<-ab] at S0;have S1:Aside (SWK enc 2 w0 blk off dk w):=S0;have aw:Hid (dk.size=N):=aa;clear S0 ab hl ha hm hb hX hcmp hN aa;go_enter func225,ntmps225
 go_wp2
 go_loopg [14,15] (m - a) (fun kx s10 s11 wr=>∃(i j:Nat),s10 = .int .i64 i/\s11 = .int .i64 j/\a<=i/\i<=j/\j<=m/\j - i<=kx/\Hid ((i=a\/ltOf cf y X[i - a - 1]! = false)/\(j=m\/ltOf cf y X[j - a]! = true))/\Aside (SWK enc 2 w0 blk off dk wr))
 case atStart=>exact ⟨a,m,rfl,rfl,by omega,by omega,by omega,by omega,⟨.inl rfl,.inl rfl⟩,S1⟩
 case round=>
  clear S1;obtain ⟨i,j,rfl,rfl,aB,aC,av,hk,HB,S1⟩:=hrel;rcases aW i j with hlt | hge
  .have hlz:(i:Int) < (j:Int):=by omega
   obtain ⟨h,hh⟩:=i7 ((i+j) / 2);have hm2:(((i:Int)+(j:Int)) / 2)=(h:Int):=by omega
   have hih:i<=h:=by omega
   have hjh:h < j:=by omega
   clear hh;obtain ⟨x,hx⟩:=i7 (X[h - a]!);have aq:dk[m]! = y:=DA.out;have ai:dk[h]! = x:=by rw[hx];exact DX.out h (by omega) (by omega)
   have aa:=aw.out;have hN:=aj.out;obtain ⟨L,hL⟩:=iZ (ltOf cf y x);have HL:=Lib.hid hL;have HX:=Lib.hid hx;clear hx;obtain ⟨eac,pac,bac,rac⟩:=ixf (i:=m) (N:=N) (by omega) (by omega);obtain ⟨ecc,pcc,bcc,rcc⟩:=ixf (i:=h) (N:=N) (by omega) (by omega);have am:∀n os,bp prog (loadCells ⟨blk,off+(m)*2,none⟩ 2) (grow (wr.drewN n) os) = .ok (enc dk[m]!).toArray (grow (wr.drewN n) os):=S1.out.ld R (by omega) prog (m) (by omega);have al:∀n os,bp prog (loadCells ⟨blk,off+(h)*2,none⟩ 2) (grow (wr.drewN n) os) = .ok (enc dk[h]!).toArray (grow (wr.drewN n) os):=S1.out.ld R (by omega) prog (h) (by omega);rw[aq] at am;rw[ai] at al;have ap:=S1.out.cmp HC.out (by omega) y x;have hdc:decide (cf y x < 0)=L:=hL;go_wp2_with fail
   go_quiet_grown (first | (go_at_fn g;refine bk (ap _ _)))
   have S2:Aside (SWK enc 2 w0 blk off dk (grow (wr.drewN nq) osq)):=S1.out.grown nq osq;clear aa hN ai aq hL am al ap S1;generalize grow (wr.drewN nq) osq=w2 at S2 |-;clear nq osq
   cases L with
   | false=>
    have ad:Hid ((h+1=a\/ltOf cf y X[h+1 - a - 1]! = false)/\(j=m\/ltOf cf y X[j - a]! = true)):=⟨.inr (by rw[show h+1 - a - 1=h - a by omega,<-HX.out];exact HL.out),HB.out.2⟩;clear HB HX HL;go_wp2_with fail
    go_roundg (j - (h+1))
    case measure=>omega
    case rel=>exact ⟨h+1,j,by first | rfl | go_num,rfl,by omega,by omega,av,by omega,ad,S2⟩
   | true=>
    have ad:Hid ((i=a\/ltOf cf y X[i - a - 1]! = false)/\(h=m\/ltOf cf y X[h - a]! = true)):=⟨HB.out.1,.inr (by rw[<-HX.out];exact HL.out)⟩;clear HB HX HL;go_wp2_with fail
    go_roundg (h - i)
    case measure=>omega
    case rel=>exact ⟨i,h,rfl,rfl,aB,by omega,by omega,by omega,ad,S2⟩
  .have he:j=i:=by omega
   subst he;have aE:¬(j:Int) < (j:Int):=by omega
   obtain ⟨p,hp⟩:=i7 (j - a)
   have HE:Hid (mrg (ltOf cf) X [y]=X.take p++y :: X.drop p):=by obtain ⟨q1,q2,q3,q4,q5,q6,q7⟩:=HQ.out;refine Kgi SW q7 p (by omega) (HB.out.1.imp (fun h=>by omega) fun h=>by rw[hp];exact h) (HB.out.2.imp (fun h=>by omega) fun h=>by rw[hp];exact h)
   have HP:Hid (j=a+p/\p<=X.length):=by obtain ⟨q1,q2,q3,q4,q5,q6,q7⟩:=HQ.out;exact ⟨by omega,by omega⟩
   have S2:Aside (SWK enc 2 w0 blk off (A++(X.take p++(X.drop p++y :: ([]++S)))).toArray wr):=by have e:=S1.out;rw[HQ.out.1] at e;rw[<-aU (X.take p),aV];exact e
   clear hp HB S1 aC;go_wp2_with fail
   go_loopg [17] (X.length - p) (fun kx s13 wr=>∃(k:Nat) (U V:List α),s13 = .int .i64 k/\j<=k/\k<=m/\Hid (U.length<=kx/\j+U.length=k/\X.drop p=U++V)/\Aside (SWK enc 2 w0 blk off (A++(X.take p++(U++y :: (V++S)))).toArray wr))
   case atStart=>
    have hl:(X.drop p).length=X.length - p:=by rw[bs]
    have q:=HP.out;have q2:=HQ.out.2.2.2.2.1;exact ⟨m,X.drop p,[],rfl,by omega,aY _,⟨by omega,by omega,by simp⟩,S2⟩
   case round=>
    clear S2;obtain ⟨k,U,V,rfl,hak,hkj,HU,S1⟩:=hrel;rcases List.eq_nil_or_concat U with rfl | ⟨U',u,rfl⟩
    .have aA:¬(j:Int) < (k:Int):=by have:=HU.out.2.1;simp only[aR] at this;omega
     have e2:SWK enc 2 w0 blk off (A++(mrg (ltOf cf) X [y]++S)).toArray wr:=by have e:=S1.out;have q:=HU.out.2.2;rw[List.nil_append] at q;rw[HE.out,q];simpa using e
     have S2:Aside (SWK enc 2 w0 blk off (A++(mrg (ltOf cf) X [y]++S)).toArray wr):=e2;clear S1 e2;go_wp2_with fail
     (try simp only[Exit.inBlock,Exit.then]);refine bodyPost_ret (results_none rfl _ _ _) rfl ?_
     exact ⟨rfl,S2.out⟩
    .obtain ⟨ao,ah,ac⟩:=HU.out;simp only[bi,Jd,aQ,aR] at ao ah;obtain ⟨kp,rfl⟩:∃kp,k=kp+1:=⟨k - 1,by omega⟩;have aA:(j:Int) < (kp:Int)+1:=by omega
     have hjk:j<=kp:=by omega
     obtain ⟨q1,q2,q3,q4,q5,q6,q7⟩:=HQ.out;obtain ⟨p1,p2⟩:=HP.out;have aD:(X.take p).length=p:=by rw[a8];omega
     have HN:Hid (swp (A++(X.take p++(U'.concat u++y :: (V++S)))).toArray (kp+1) (kp)=(A++(X.take p++(U'++y :: (u :: V++S)))).toArray):=by
      show _=_
      rw[show A++(X.take p++(U'.concat u++y :: (V++S)))=(A++(X.take p++U'))++u :: ([]++y :: (V++S)) by simp,Kgu (i:=kp) (by simp only[Jd];omega) (by simp only[Jd,aR];omega)];simp
     have ar:Hid (U'.length<=gk - 1/\j+U'.length=kp/\X.drop p=U'++(u :: V)):=⟨by omega,by omega,by rw[ac];simp⟩;have hgk:0 < gk:=by omega
     have aa:(A++(X.take p++(U'.concat u++y :: (V++S)))).toArray.size=N:=by
      have hl:(X.drop p).length=U'.length+1+V.length:=by rw[ac];simp;omega
      have hl2:(X.take p).length+(X.drop p).length=X.length:=by rw[<-Jd,aV]
      simp only[bi,aS,Jd,aQ,aR];omega
     have hN:=aj.out;obtain ⟨dm,an⟩:=i7 ((A++(X.take p++(U'.concat u++y :: (V++S)))).toArray);rw[<-an] at HN S1 aa;clear an HU ao ah ac q1 q2 q3 q4 q5 q6 q7 p1 p2 aD;go_wp2_with fail
     have eat:((kp:Int)+1).toNat=kp+1:=by omega
     have pat:(0:Int)<=(kp:Int)+1:=by omega
     have bat:(kp:Int)+1 < (N:Int):=by omega
     have rat:be.wrap ((kp:Int)+1)=(kp:Int)+1:=by rw[bb];omega
     have ect:((kp:Int)).toNat=kp:=by omega
     have pct:(0:Int)<=(kp:Int):=by omega
     have bct:(kp:Int) < (N:Int):=by omega
     have rct:be.wrap ((kp:Int))=(kp:Int):=by rw[bb];omega
     have S2:Aside (SWK enc 2 w0 blk off (swp dm (kp+1) (kp)) ((wr.drew.setCells blk (off+(kp+1)*2) (enc dm[kp]!)).setCells blk (off+(kp)*2) (enc dm[kp+1]!))):=S1.out.swapped R (kp+1) (kp) (by omega) (by omega);have ag:bp prog (loadCells ⟨blk,off+(kp+1)*2,none⟩ 2) wr.drew = .ok (enc dm[kp+1]!).toArray wr.drew:=S1.out.ld1 R (by omega) prog (kp+1) (by omega);have af:bp prog (loadCells ⟨blk,off+(kp)*2,none⟩ 2) wr.drew = .ok (enc dm[kp]!).toArray wr.drew:=S1.out.ld1 R (by omega) prog (kp) (by omega);have ak:=S1.out.st1 R (by omega) prog (kp+1) (by omega) dm[kp]!;have ae:=S1.out.st2 R (by omega) prog (kp+1) (kp) (by omega) (by omega) dm[kp]! dm[kp+1]!;have ay:(enc dm[kp+1]!).length=2:=R.hk _;have ax:(enc dm[kp]!).length=2:=R.hk _;generalize enc dm[kp+1]! = cIt at S2 ag ae ay;generalize enc dm[kp]! = cJt at S2 af ak ae ax;clear S1 aa hN;go_wp2_with fail
     go_big_region_o
     clear ag af ak ae;generalize (wr.drew.setCells blk (off+(kp+1)*2) cJt).setCells blk (off+(kp)*2) cIt=w2 at S2 |-;rw[HN.out] at S2;go_wp2
     go_roundg (gk - 1)
     case measure=>omega
     case rel=>exact ⟨kp,U',u :: V,by first | rfl | go_num,by omega,by omega,ar,S2⟩
theorem Kqw (SW:SWO (ltOf cf)) (eg:∀args w,(callFunc g args).run prog w = .ok (.enter g args) w) (hcmp:CmpLays prog g cb enc 2 cf blk off d0.size w0) (R:RowK enc 2 w0 blk off d0) (hN:d0.size=N) (hsz:N < 4611686018427387904) (nn:Nat) (IH:∀(A X Y S:List α) (a m b:Nat) (w:World),X.length+Y.length<=nn->A.length+X.length+Y.length+S.length=N->a=A.length->m=a+X.length->b=m+Y.length->0 < X.length->0 < Y.length->(X.Pairwise fun a b=>ltOf cf b a=false)->(Y.Pairwise fun a b=>ltOf cf b a=false)->SWK enc 2 w0 blk off (A++(X++(Y++S))).toArray w->Calls prog 225 #[.slice (some ⟨blk,off,none⟩) N cap,.int .i64 a,.int .i64 m,.int .i64 b,.func (.func g) #[] cb] w fun e w'=>e = .returned (.tuple #[])/\SWK enc 2 w0 blk off (A++(mrg (ltOf cf) X Y++S)).toArray w')
  (A X Y S:List α) (a m b:Nat) (w:World) (hnn:X.length+Y.length<=nn+1) (hl:A.length+X.length+Y.length+S.length=N) (ha:a=A.length) (hm:m=a+X.length) (hb:b=m+Y.length) (X2:1 < X.length) (Y2:1 < Y.length) (hX:(X.Pairwise fun a b=>ltOf cf b a=false)) (hY:(Y.Pairwise fun a b=>ltOf cf b a=false))
  (S0:SWK enc 2 w0 blk off (A++(X++(Y++S))).toArray w) :
  Calls prog 225 #[.slice (some ⟨blk,off,none⟩) N cap,.int .i64 a,.int .i64 m,.int .i64 b,.func (.func g) #[] cb] w fun e w'=>e = .returned (.tuple #[])/\SWK enc 2 w0 blk off (A++(mrg (ltOf cf) X Y++S)).toArray w':=by
 have mixed:prog.follows .mixedOrders=true:=by kernel_rfl
 have HC:Aside _:=hcmp;have ar:Aside _:=IH;have dma:(((m:Int) - (a:Int)) == 1)=false:=by simp;omega
 have dbm:(((b:Int) - (m:Int)) == 1)=false:=by simp;omega
 have hbN:b<=N:=by omega
 have ham:a+2<=m:=by omega
 have hmb:m+2<=b:=by omega
 obtain ⟨mid,av⟩:=i7 ((a+b) / 2);have aE:((a:Int)+(b:Int)) / 2=(mid:Int):=by omega
 have aj:2*mid<=a+b:=by omega
 have ak:a+b<=2*mid+1:=by omega
 obtain ⟨dk,al⟩:=i7 ((A++(X++(Y++S))).toArray);have ac:dk.size=N:=by rw[al];simp only[aS,Jd];omega
 have ao:Hid (d0.size=N):=hN;rw[<-al] at S0;have S1:Aside (SWK enc 2 w0 blk off dk w):=S0;have aA:Hid (dk.size=N):=ac
 have ag:∃lo hi:Nat,lo<=hi/\a<=lo/\hi<=m/\hi<=mid/\mid+m<=lo+b/\((mid < m/\lo+b=mid+m/\hi=mid)\/(m<=mid/\lo=a/\hi=m)):=by
  rcases aW mid m with h | h
  .exact ⟨mid+m - b,mid,by omega,by omega,by omega,by omega,by omega,.inl ⟨h,by omega,rfl⟩⟩
  .exact ⟨a,m,by omega,by omega,by omega,by omega,by omega,.inr ⟨h,rfl,rfl⟩⟩
 obtain ⟨lo,hi,ax,aC,aD,ae,ah,ab⟩:=ag;have af:Hid ((mid < m/\lo+b=mid+m/\hi=mid)\/(m<=mid/\lo=a/\hi=m)):=ab;have ad:Hid _:=fun (e j:Nat)=>@Klt _ _ (ltOf cf) A X Y S dk a m b mid lo hi e j nn N SW al hl ha hm hb hX hY hnn X2 Y2 aj ak ab
 clear S0 al hl ha hm hb hX hY hnn hcmp hN ac av IH X2 Y2 ab;go_enter func225,ntmps225
 go_upto_if 140 with fail
 go_cut [20,21] from 138 to 146 (fun s20 s21 wz=>∃l h:Int,s20 = .int .i64 l/\s21 = .int .i64 h/\l=(lo:Int)/\h=(hi:Int)/\wz=w)
 case first=>
  rcases af.out with ⟨hc1,hc2,hc3⟩ | ⟨hc1,hc2,hc3⟩
  .have aI:(mid:Int) < (m:Int):=by omega
   have ai:Hid (lo+b=mid+m/\hi=mid):=⟨hc2,hc3⟩;clear hc2 hc3;go_wp2_with fail
   go_meet
   exact ⟨_,_,rfl,rfl,by have:=ai.out;omega,by have:=ai.out;omega,rfl⟩
  .have aI:¬(mid:Int) < (m:Int):=by omega
   have ai:Hid (lo=a/\hi=m):=⟨hc2,hc3⟩;clear hc2 hc3;go_wp2_with fail
   go_meet
   exact ⟨_,_,rfl,rfl,by have:=ai.out;omega,by have:=ai.out;omega,rfl⟩
 case rest=>
  obtain ⟨l0,h0,rfl,rfl,aK,aG,aa⟩:=hcut;have aa:=aa.symm;subst aa;subst aK;subst aG;go_wp2_with fail
  go_loopg [20,21] (hi - lo) (fun kx s10 s11 wr=>∃(i j:Nat),s10 = .int .i64 i/\s11 = .int .i64 j/\lo<=i/\i<=j/\j<=hi/\j - i<=kx/\Hid ((i=lo\/ltOf cf dk[mid+m - i]! dk[i - 1]! = false)/\(j=hi\/ltOf cf dk[mid+m - 1 - j]! dk[j]! = true))/\Aside (SWK enc 2 w0 blk off dk wr))
  case atStart=>exact ⟨lo,hi,rfl,rfl,aY _,ax,aY _,aY _,⟨.inl rfl,.inl rfl⟩,S1⟩
  case round=>
   clear S1;obtain ⟨i,j,rfl,rfl,aq,aL,ap,hk,HB,S1⟩:=hrel;rcases aW i j with hlt | hge
   .have hlz:(i:Int) < (j:Int):=by omega
    obtain ⟨h,hh⟩:=i7 ((i+j) / 2);have hm2:(((i:Int)+(j:Int)) / 2)=(h:Int):=by omega
    have hih:i<=h:=by omega
    have hjh:h < j:=by omega
    clear hh;obtain ⟨q,hq⟩:=i7 (mid+m - 1 - h);have aH:(mid:Int)+(m:Int) - 1 - (h:Int)=(q:Int):=by omega
    have aN:q < N:=by omega
    have aF:h < N:=by omega
    obtain ⟨y,hy⟩:=i7 (dk[q]!);obtain ⟨x,hx⟩:=i7 (dk[h]!);have aw:dk[q]! = y:=hy.symm;have an:dk[h]! = x:=hx.symm;have ac:=aA.out;have hN:=ao.out;obtain ⟨L,hL⟩:=iZ (ltOf cf y x);have HL:Hid (ltOf cf y x=L/\q=mid+m - 1 - h/\dk[q]! = y/\dk[h]! = x):=⟨hL,hq,aw,an⟩;clear hy hx hq;obtain ⟨eac,pac,bac,rac⟩:=ixf (i:=q) (N:=N) (by omega) (by omega);obtain ⟨ecc,pcc,bcc,rcc⟩:=ixf (i:=h) (N:=N) (by omega) (by omega);have az:∀n os,bp prog (loadCells ⟨blk,off+(q)*2,none⟩ 2) (grow (wr.drewN n) os) = .ok (enc dk[q]!).toArray (grow (wr.drewN n) os):=S1.out.ld R (by omega) prog (q) (by omega);have ay:∀n os,bp prog (loadCells ⟨blk,off+(h)*2,none⟩ 2) (grow (wr.drewN n) os) = .ok (enc dk[h]!).toArray (grow (wr.drewN n) os):=S1.out.ld R (by omega) prog (h) (by omega);rw[aw] at az;rw[an] at ay;have aB:=S1.out.cmp HC.out (by omega) y x;have hdc:decide (cf y x < 0)=L:=hL;go_wp2_with fail
    go_quiet_grown (first | (go_at_fn g;refine bk (aB _ _)))
    have S2:Aside (SWK enc 2 w0 blk off dk (grow (wr.drewN nq) osq)):=S1.out.grown nq osq;clear ac hN an aw hL aN aF aH az ay aB S1;generalize grow (wr.drewN nq) osq=w2 at S2 |-;clear nq osq
    cases L with
    | false=>
     have am:Hid ((h+1=lo\/ltOf cf dk[mid+m - (h+1)]! dk[h+1 - 1]! = false)/\(j=hi\/ltOf cf dk[mid+m - 1 - j]! dk[j]! = true)):=⟨.inr (by obtain ⟨h1,h2,h3,h4⟩:=HL.out;rw[show mid+m - (h+1)=q by omega,Nat.add_sub_cancel,h3,h4];exact h1),HB.out.2⟩;clear HB HL;go_wp2_with fail
     go_roundg (j - (h+1))
     case measure=>omega
     case rel=>exact ⟨h+1,j,by first | rfl | go_num,rfl,by omega,by omega,ap,by omega,am,S2⟩
    | true=>
     have am:Hid ((i=lo\/ltOf cf dk[mid+m - i]! dk[i - 1]! = false)/\(h=hi\/ltOf cf dk[mid+m - 1 - h]! dk[h]! = true)):=⟨HB.out.1,.inr (by obtain ⟨h1,h2,h3,h4⟩:=HL.out;rw[<-h2,h3,h4];exact h1)⟩;clear HB HL;go_wp2_with fail
     go_roundg (h - i)
     case measure=>omega
     case rel=>exact ⟨i,h,rfl,rfl,aq,by omega,by omega,by omega,am,S2⟩
   .have he:j=i:=by omega
    subst he;have aM:¬(j:Int) < (j:Int):=by omega
    obtain ⟨e,he⟩:=i7 (mid+m - j);have he2:(mid:Int)+(m:Int) - (j:Int)=(e:Int):=by omega
    have hN:=ao.out;obtain ⟨X1,X2,Y1,Y2,m1,m2,m3,m4,m5,m6,m7,m8,m9,mA,mB,mC,mD,mE,mF⟩:=ad.out e j he aq ap aC aD ae ah HB.out.1 HB.out.2;have aJ:=Kmc (ltOf cf) X1 Y1;have T0:Aside (SWK enc 2 w0 blk off (A++(X1++(X2++(Y1++(Y2++S))))).toArray wr):=by have:=S1.out;rw[m1] at this;exact this
    have C1:Aside (j < m->m < e->∀W,SWK enc 2 w0 blk off (A++(X1++(X2++(Y1++(Y2++S))))).toArray W->Calls prog 255 #[.slice (some ⟨blk,off,none⟩) N cap,.int .i64 j,.int .i64 m,.int .i64 e,.func (.func g) #[] cb] W fun e w'=>e = .returned (.tuple #[])/\SWK enc 2 w0 blk off (A++(X1++(Y1++(X2++(Y2++S))))).toArray w'):=fun g1 g2 W h=>by have:=Ktj (cap:=cap) (g:=g) (cb:=cb) (A++X1) X2 Y1 (Y2++S) j m e W R hN (by simp only[Jd];omega) (by simp only[Jd];omega) (by simp only[Jd];omega) (by simp only[Jd];omega) (by omega) (by omega) hsz (by rw[aU];exact h);rw[aU] at this;exact this
    have C2:Aside (a < j->j < mid->∀W,SWK enc 2 w0 blk off (A++(X1++(Y1++(X2++(Y2++S))))).toArray W->Calls prog 225 #[.slice (some ⟨blk,off,none⟩) N cap,.int .i64 a,.int .i64 j,.int .i64 mid,.func (.func g) #[] cb] W fun e w'=>e = .returned (.tuple #[])/\SWK enc 2 w0 blk off (A++(mrg (ltOf cf) X1 Y1++(X2++(Y2++S)))).toArray w'):=fun g1 g2 W h=>
     ar.out A X1 Y1 (X2++(Y2++S)) a j mid W (by omega) (by simp only[Jd];omega) (by omega) (by omega) (by omega) (by omega) (by omega) mC mE h
    have C3:Aside (mid < e->e < b->∀W,SWK enc 2 w0 blk off (A++(mrg (ltOf cf) X1 Y1++(X2++(Y2++S)))).toArray W->Calls prog 225 #[.slice (some ⟨blk,off,none⟩) N cap,.int .i64 mid,.int .i64 e,.int .i64 b,.func (.func g) #[] cb] W fun e w'=>e = .returned (.tuple #[])/\SWK enc 2 w0 blk off (A++(mrg (ltOf cf) X Y++S)).toArray w'):=fun g1 g2 W h=>by have:=ar.out (A++mrg (ltOf cf) X1 Y1) X2 Y2 S mid e b W (by omega) (by simp only[Jd];omega) (by simp only[Jd];omega) (by omega) (by omega) (by omega) (by omega) mD mF (by rw[aU];exact h);rw[m2];rw[aU] at this |-;exact this
    have N1:Aside (¬(j < m/\m < e)->A++(X1++(X2++(Y1++(Y2++S))))=A++(X1++(Y1++(X2++(Y2++S))))):=fun h=>Kqs (by omega)
    have N2:Aside (¬(a < j/\j < mid)->A++(X1++(Y1++(X2++(Y2++S))))=A++(mrg (ltOf cf) X1 Y1++(X2++(Y2++S)))):=fun h=>Kgx _ (by omega)
    have N3:Aside (¬(mid < e/\e < b)->A++(mrg (ltOf cf) X1 Y1++(X2++(Y2++S)))=A++(mrg (ltOf cf) X Y++S)):=fun h=>by rw[m2,aU,<-Kgx (A:=mrg (ltOf cf) X1 Y1) _ (by omega)]
    have hjN:j<=N:=by omega
    have heN:e<=N:=by omega
    clear m1 m2 m3 m4 m5 m6 m7 m8 m9 mA mB mC mD mE mF aJ hN he HB af ad S1 aL hk hge ar HC aq ap ax aC aD ae ah aA ao;obtain ⟨q,hq⟩:∃q:Bool,q=decide (j < m/\m < e):=⟨_,rfl⟩;have HQ:Hid _:=hq;clear hq;go_upto_region 39 with fail
    go_cut [185] from 178 to 184 (fun s wz=>s = .bool q/\wz=wr)
    case first=>
     have hq:=HQ.out
     by_cases g1:j < m
     .have d1:(j:Int) < (m:Int):=by omega
      by_cases g2:m < e
      .have d2:(m:Int) < (e:Int):=by omega
       rw[jd ⟨g1,g2⟩] at hq;subst hq;go_wp2_with fail
       go_meet
       exact ⟨rfl,rfl⟩
      .have d2:¬(m:Int) < (e:Int):=by omega
       rw[ja (fun h=>g2 h.2)] at hq;subst hq;go_wp2_with fail
       go_meet
       exact ⟨rfl,rfl⟩
     .have d1:¬(j:Int) < (m:Int):=by omega
      rw[ja (fun h=>g1 h.1)] at hq;subst hq;go_wp2_with fail
      go_meet
      exact ⟨rfl,rfl⟩
    case rest=>
     obtain ⟨rfl,aa⟩:=hcut;have aa:=aa.symm;subst aa;go_upto_if 185 with fail
     go_cut [] from 186 to 191 (fun wz=>Aside (SWK enc 2 w0 blk off (A++(X1++(Y1++(X2++(Y2++S))))).toArray wz))
     case first=>
      cases q with
      | true=>
       obtain ⟨g1,g2⟩:=jh HQ.out.symm;have D:Aside _:=C1.out g1 g2;clear g1 g2 HQ;go_wp2_with fail
       refine bl (D.out _ T0.out) ?_;rintro _ w9 ⟨rfl,h1⟩;have T9:Aside _:=h1;clear h1;go_wp2_with fail
       go_meet
       exact T9
      | false=>
       have T9:Aside (SWK enc 2 w0 blk off (A++(X1++(Y1++(X2++(Y2++S))))).toArray wr):=by rw[<-N1.out (ji HQ.out.symm)];exact T0.out
       clear HQ;go_wp2_with fail
       go_meet
       exact T9
     case rest=>
      have T1:Aside _:=hcut.out;clear hcut HQ T0;obtain ⟨w3,rfl⟩:=i7 wc;obtain ⟨q,hq⟩:∃q:Bool,q=decide (a < j/\j < mid):=⟨_,rfl⟩;have HQ:Hid _:=hq;clear hq;go_upto_region 41 with fail
      go_cut [199] from 192 to 198 (fun s wz=>s = .bool q/\wz=w3)
      case first=>
       have hq:=HQ.out
       by_cases g1:a < j
       .have d1:(a:Int) < (j:Int):=by omega
        by_cases g2:j < mid
        .have d2:(j:Int) < (mid:Int):=by omega
         rw[jd ⟨g1,g2⟩] at hq;subst hq;go_wp2_with fail
         go_meet
         exact ⟨rfl,rfl⟩
        .have d2:¬(j:Int) < (mid:Int):=by omega
         rw[ja (fun h=>g2 h.2)] at hq;subst hq;go_wp2_with fail
         go_meet
         exact ⟨rfl,rfl⟩
       .have d1:¬(a:Int) < (j:Int):=by omega
        rw[ja (fun h=>g1 h.1)] at hq;subst hq;go_wp2_with fail
        go_meet
        exact ⟨rfl,rfl⟩
      case rest=>
       obtain ⟨rfl,aa⟩:=hcut;have aa:=aa.symm;subst aa;go_upto_if 199 with fail
       go_cut [] from 200 to 205 (fun wz=>Aside (SWK enc 2 w0 blk off (A++(mrg (ltOf cf) X1 Y1++(X2++(Y2++S)))).toArray wz))
       case first=>
        cases q with
        | true=>
         obtain ⟨g1,g2⟩:=jh HQ.out.symm;have D:Aside _:=C2.out g1 g2;clear g1 g2 HQ;go_wp2_with fail
         refine bl (D.out _ T1.out) ?_;rintro _ w9 ⟨rfl,h1⟩;have T9:Aside _:=h1;clear h1;go_wp2_with fail
         go_meet
         exact T9
        | false=>
         have T9:Aside (SWK enc 2 w0 blk off (A++(mrg (ltOf cf) X1 Y1++(X2++(Y2++S)))).toArray w3):=by rw[<-N2.out (ji HQ.out.symm)];exact T1.out
         clear HQ;go_wp2_with fail
         go_meet
         exact T9
       case rest=>
        have T2:Aside _:=hcut.out;clear hcut HQ T1;obtain ⟨w4,rfl⟩:=i7 wc;obtain ⟨q,hq⟩:∃q:Bool,q=decide (mid < e/\e < b):=⟨_,rfl⟩;have HQ:Hid _:=hq;clear hq;go_upto_region 43 with fail
        go_cut [213] from 206 to 212 (fun s wz=>s = .bool q/\wz=w4)
        case first=>
         have hq:=HQ.out
         by_cases g1:mid < e
         .have d1:(mid:Int) < (e:Int):=by omega
          by_cases g2:e < b
          .have d2:(e:Int) < (b:Int):=by omega
           rw[jd ⟨g1,g2⟩] at hq;subst hq;go_wp2_with fail
           go_meet
           exact ⟨rfl,rfl⟩
          .have d2:¬(e:Int) < (b:Int):=by omega
           rw[ja (fun h=>g2 h.2)] at hq;subst hq;go_wp2_with fail
           go_meet
           exact ⟨rfl,rfl⟩
         .have d1:¬(mid:Int) < (e:Int):=by omega
          rw[ja (fun h=>g1 h.1)] at hq;subst hq;go_wp2_with fail
          go_meet
          exact ⟨rfl,rfl⟩
        case rest=>
         obtain ⟨rfl,aa⟩:=hcut;have aa:=aa.symm;subst aa
         cases q with
         | true=>
          obtain ⟨g1,g2⟩:=jh HQ.out.symm;have D:Aside _:=C3.out g1 g2;clear g1 g2 HQ;go_wp2_with fail
          refine bl (D.out _ T2.out) ?_;rintro _ w9 ⟨rfl,h1⟩;have T9:Aside _:=h1;clear h1;go_wp2_with fail
          go_end0
          exact ⟨rfl,T9.out⟩
         | false=>
          have T9:Aside (SWK enc 2 w0 blk off (A++(mrg (ltOf cf) X Y++S)).toArray w4):=by rw[<-N3.out (ji HQ.out.symm)];exact T2.out
          clear HQ;go_wp2_with fail
          go_end0
          exact ⟨rfl,T9.out⟩
theorem Kij (SW:SWO (ltOf cf)) (eg:∀args w,(callFunc g args).run prog w = .ok (.enter g args) w) (hcmp:CmpLays prog g cb enc 2 cf blk off d0.size w0) (R:RowK enc 2 w0 blk off d0) (hN:d0.size=N) (hsz:N < 4611686018427387904):∀(nn:Nat) (A X Y S:List α) (a m b:Nat) (w:World),X.length+Y.length<=nn->A.length+X.length+Y.length+S.length=N->a=A.length->m=a+X.length->b=m+Y.length->0 < X.length->0 < Y.length->(X.Pairwise fun a b=>ltOf cf b a=false)->(Y.Pairwise fun a b=>ltOf cf b a=false)->SWK enc 2 w0 blk off (A++(X++(Y++S))).toArray w->Calls prog 225 #[.slice (some ⟨blk,off,none⟩) N cap,.int .i64 a,.int .i64 m,.int .i64 b,.func (.func g) #[] cb] w fun e w'=>e = .returned (.tuple #[])/\SWK enc 2 w0 blk off (A++(mrg (ltOf cf) X Y++S)).toArray w'
 | 0,A,X,Y,S,a,m,b,w,h,_,_,_,_,hx,_,_,_,_=>jl h (by omega)
 | nn+1,A,X,Y,S,a,m,b,w,h,hl,ha,hm,hb,hx,hy,hX,hY,S0=>by
  rcases aW 1 X.length with h1 | h1
  .rcases aW 1 Y.length with h2 | h2
   .exact Kqw SW eg hcmp R hN hsz nn (Kij SW eg hcmp R hN hsz nn) A X Y S a m b w h hl ha hm hb h1 h2 hX hY S0
   .obtain ⟨y,rfl⟩:∃y,Y = [y]:=a5.1 (by omega);exact Kqt SW eg hcmp R hN hsz A y X S a m b w (by simpa using hl) ha hm (by simpa using hb) h1 hX S0
  .obtain ⟨x,rfl⟩:∃x,X = [x]:=a5.1 (by omega);exact Ktv SW eg hcmp R hN hsz A x Y S a m b w (by simpa using hl) ha (by simpa using hm) hb hy hY S0
end
end
end Go.Proofs.YtdoiekknhnbepaaGreatDoor
