/- Merged (what the claim wants of): ChkPlain, ChkPlain2, ChkPlain3, LabCmp, BlkPlain, BlkMem, MrgEnc, OncePlain, OncePlain2, MrgLaw, MrgPlain, MrgPlain2, MrgLaw2, MrgLaw3, MrgSym. -/
import Derived.Test.YtdoiekknhnbepaaGreatDoorCsp02
set_option linter.unusedVariables false
set_option linter.unusedSimpArgs false
set_option maxRecDepth 1000000
set_option maxHeartbeats 8000000
namespace Go.Proofs.YtdoiekknhnbepaaGreatDoor
open List renaming pairwise_cons->aw,mem_cons->a0,mem_singleton->a4,pairwise_append->a5,getElem?_eq_getElem->a6,mem_append->a7,filter_eq_nil_iff->a9,find?_cons->ba,mem_take_iff_getElem->bb,mem_drop_iff_getElem->be,getLast?_singleton->bk,getLast?_append->bl,not_lt->bp
open Wnd renaming start->bt
open Classical renaming byContradiction->bv
open List.Pairwise renaming nil->bw,filter->bx
open Option.some renaming inj->bz,injEq->bA
open List renaming mem_cons_self->ar,mem_cons_of_mem->av,eq_nil_of_length_eq_zero->ax,length_cons->ay,pairwise_singleton->az,append_nil->aA,append_assoc->aB,nil_append->aC,not_mem_nil->aD,cons_append->aE,mem_cons->aF,length_nil->aG,filter_cons->aH,length_drop->aJ,mem_singleton->aK,length_append->aL,foldl_cons->aM,take_append_drop->aN,lt_irrefl->aO,set_append_right->aR,mem_append_left->aS,dropLast_concat_getLast->aT,set_cons_zero->aU,filter_append->aV,take_zero->aW,drop_zero->aX,getElem_append_right->aY,length_take->bc,cons_merge_cons->bf,flatMap_append->bg,set_cons_succ->bh,getElem_drop->bj,set_append->bn,mem_append->bo,lt_asymm->br,lt_trans->bs
open Nat renaming eq_zero_or_pos->aI,sub_self->aP,lt_or_ge->aQ,le_refl->aZ,add_sub_cancel->bi
open Bool renaming and_eq_true->a8,noConfusion->bd,not_eq_true'->bm
open Option renaming some_or->bq
section
structure Smp where
 t:Int
 v:Nat
structure Cst where
 n:Nat
 last:Smp
 step:Int
 lead:Nat
 tail:Nat
 window:Bool
def cst0:Cst:=⟨0,⟨0,0⟩,0,0,0,false⟩
def u64N (c:Int):Nat:=(c % 18446744073709551616).toNat
def Kcs (c:Int):List Bool:=
 if c=0 then [false] else
 if -64<=c/\c < 64 then putN 2 2++putN (u64N c) 7 else
 if -256<=c/\c < 256 then putN 6 3++putN (u64N c) 9 else
 if -2048<=c/\c < 2048 then putN 14 4++putN (u64N c) 12 else putN 15 4++putN (u64N c) 64
def clzN (x:Nat):Nat:=64 - (if x=0 then 0 else x.log2+1)
def ctzF (x:Nat):Nat->Nat
 | 0=>0
 | f+1=>if x % 2=1 then 0 else ctzF (x / 2) f+1
def ctzN (x:Nat):Nat:=ctzF x 64
def Kbp (c:Cst) (x:Nat):List Bool×Cst:=
 if x=0 then ([false],c) else
 if c.window=true/\c.lead<=min (clzN x) 31/\c.tail<=ctzN x then (putN 2 2++putN (x >>> c.tail) (64 - c.lead - c.tail),c) else
 (putN 3 2++putN (min (clzN x) 31) 5++putN (63 - min (clzN x) 31 - ctzN x) 6++putN (x >>> ctzN x) (64 - min (clzN x) 31 - ctzN x),{ c with lead:=min (clzN x) 31,tail:=ctzN x,window:=true })
def Kbq (c:Cst) (s:Smp):List Bool×Cst:=
 if c.n=0 then (putN (u64N s.t) 64++putN s.v 64,{ c with n:=1,last:=s }) else
 (Kcs (s.t - c.last.t - c.step)++(Kbp { c with step:=s.t - c.last.t } (s.v ^^^ c.last.v)).1,{ (Kbp { c with step:=s.t - c.last.t } (s.v ^^^ c.last.v)).2 with last:=s,n:=c.n+1 })
def Kbw:Cst->List Smp->List Bool
 | _,[]=>[]
 | c,s :: l=>(Kbq c s).1++Kbw (Kbq c s).2 l
theorem Qit {x:Nat} (h0:x≠0) (h:x < 2 ^ 64):clzN x<=63/\x < 2 ^ (64 - clzN x):=by unfold clzN;rw[je h0];have h1:=(Nat.log2_lt h0).2 h;refine ⟨by omega,?_⟩;rw[show 64 - (64 - (x.log2+1))=x.log2+1 by omega];exact Nat.lt_log2_self
theorem Kkq:∀(f x:Nat),x≠0->x < 2 ^ f->2 ^ ctzF x f ∣ x/\ctzF x f < f/\(x >>> ctzF x f) % 2=1
 | 0,x,h0,h=>by simp at h;omega
 | f+1,x,h0,h=>by
  rw[ctzF]
  by_cases hx:x % 2=1
  .rw[jf hx];exact ⟨by simp,by omega,by simpa using hx⟩
  .rw[je hx];obtain ⟨⟨q,hq⟩,h2,h3⟩:=Kkq f (x / 2) (by omega) (by rw[Nat.pow_succ] at h;omega);refine ⟨⟨q,?_⟩,by omega,?_⟩
   .rw[Nat.pow_succ,Nat.mul_right_comm,<-hq];omega
   .rw[Nat.shiftRight_succ_inside];exact h3
theorem Qfq {x:Nat} (h0:x≠0) (h:x < 2 ^ 64):2 ^ ctzN x ∣ x/\ctzN x < 64:=⟨(Kkq 64 x h0 h).1,(Kkq 64 x h0 h).2.1⟩
theorem Kzi {x:Nat} (h0:x≠0) (h:x < 2 ^ 64):clzN x+ctzN x<=63:=by obtain ⟨h1,h2⟩:=Qit h0 h;obtain ⟨⟨q,hq⟩,h4⟩:=Qfq h0 h;have aa:2 ^ ctzN x<=x:=Nat.le_of_dvd (by omega) ⟨q,hq⟩;have:2 ^ ctzN x < 2 ^ (64 - clzN x):=Nat.lt_of_le_of_lt aa h2;have:=(Nat.pow_lt_pow_iff_right (by omega:1 < 2)).1 this;omega
def Cst.Ok (c:Cst):Prop:=c.lead<=31/\c.lead+c.tail<=63
theorem Cst.ok0:cst0.Ok:=⟨by decide,by decide⟩
theorem Qcz {c:Cst} (h:c.Ok) {x:Nat} (hx:x < 2 ^ 64):(Kbp c x).2.Ok:=by
 unfold Kbp
 split
 .exact h
 .rename_i h0
  split
  .exact h
  .have:=Kzi h0 hx;exact ⟨Nat.min_le_right _ _,by show min (clzN x) 31+ctzN x<=63;omega⟩
end
section
open Go.RowKit
def SmpOk (s:Smp):Prop:=0<=s.t/\s.t<=1125899906842624/\s.v < 2 ^ 64
def Rises:List Smp->Prop
 | []=>True
 | [_]=>True
 | a :: b :: l=>a.t < b.t/\Rises (b :: l)
structure Cst.Good (c:Cst):Prop where
 ok:c.Ok
 t0:0<=c.last.t
 t1:c.last.t<=1125899906842624
 v:c.last.v < 2 ^ 64
 s0:-1125899906842624<=c.step
 s1:c.step<=1125899906842624
theorem Cst.good0:cst0.Good:=⟨Cst.ok0,by decide,by decide,by decide,by decide,by decide⟩
theorem Cst.Ok.step {c:Cst} (h:c.Ok) (z:Int):Cst.Ok { c with step:=z }:=h
theorem Kxr (c:Cst) (x:Nat):(Kbp c x).2.step=c.step:=by
 unfold Kbp
 split
 .rfl
 .split <;> rfl
theorem Kyv {c:Cst} (h:c.Good) {s:Smp} (hs:SmpOk s):(Kbq c s).2.Good:=by
 unfold Kbq
 split
 .exact ⟨h.ok,hs.1,hs.2.1,hs.2.2,h.s0,h.s1⟩
 .have hx:s.v ^^^ c.last.v < 2 ^ 64:=Nat.xor_lt_two_pow hs.2.2 h.v;have hd:=Qcz (h.ok.step (s.t - c.last.t)) hx;have aa:=Kxr { c with step:=s.t - c.last.t } (s.v ^^^ c.last.v);dsimp only at aa;refine ⟨hd,hs.1,hs.2.1,hs.2.2,?_,?_⟩
  .show _<=(Kbp { c with step:=s.t - c.last.t } (s.v ^^^ c.last.v)).2.step
   rw[aa];have:=hs.1;have:=h.t1;omega
  .show (Kbp { c with step:=s.t - c.last.t } (s.v ^^^ c.last.v)).2.step<=_
   rw[aa];have:=hs.2.1;have:=h.t0;omega
theorem Kii (c:Cst) (s:Smp):(Kbq c s).2.n=c.n+1/\(Kbq c s).2.last=s:=by
 unfold Kbq
 split
 .rename_i h
  exact ⟨by rw[h],rfl⟩
 .exact ⟨rfl,rfl⟩
end
section
def Qhg (l:List Smp):Prop:=(∀x∈l,SmpOk x)/\Rises l/\l.length<=120
def Kdb (l:List Smp):List UInt8:=uintT l.length++packB (Kbw cst0 l)
def fitC:Option Smp->Nat->List Smp->Bool
 | _,_,[]=>true
 | prev,n,x :: l=>decide (0<=x.t) && decide (x.t<=1125899906842624) && (match prev with | none=>true | some y=>decide (y.t < x.t)) && decide (n < 120) && fitC (some x) (n+1) l
theorem Qbt {x:Smp}:∀{l:List Smp},Rises (x :: l)↔(∀y,l.head? = some y->x.t < y.t)/\Rises l
 | []=>⟨fun _=>⟨fun y h=>(by cases h),trivial⟩,fun _=>trivial⟩
 | z :: l=>⟨fun h=>⟨fun y hy=>(by obtain rfl:=bz hy;exact h.1),h.2⟩,fun h=>⟨h.1 z rfl,h.2⟩⟩
theorem Kuu:∀(l:List Smp) (prev:Option Smp) (n:Nat),fitC prev n l=true↔(∀x∈l,0<=x.t/\x.t<=1125899906842624)/\Rises l/\(∀y x,prev=some y->l.head? = some x->y.t < x.t)/\(l = []\/n+l.length<=120)
 | [],prev,n=>by simp[fitC,Rises]
 | x :: l,prev,n=>by
  have ih:=Kuu l (some x) (n+1);rw[show fitC prev n (x :: l)=(decide (0<=x.t) && decide (x.t<=1125899906842624) && (match prev with | none=>true | some y=>decide (y.t < x.t)) && decide (n < 120) && fitC (some x) (n+1) l) from by cases prev <;> rfl,a8,ih,Qbt];simp only[a8,i8,aF,forall_eq_or_imp,ay,reduceCtorEq,false_or,List.head?_cons,bA];constructor
  .rintro ⟨⟨⟨⟨h1,h2⟩,h3⟩,h4⟩,h5,h6,h7,h8⟩;refine ⟨⟨⟨h1,h2⟩,h5⟩,⟨fun y hy=>h7 x y rfl hy,h6⟩,?_,?_⟩
   .rintro y _ rfl rfl;simpa using h3
   .rcases h8 with rfl | h8
    .simp;omega
    .omega
  .rintro ⟨⟨⟨h1,h2⟩,h5⟩,⟨h7,h6⟩,h3,h8⟩;refine ⟨⟨⟨⟨h1,h2⟩,?_⟩,by omega⟩,h5,h6,?_,.inr (by omega)⟩
   .cases prev with
    | none=>rfl
    | some y=>simpa using h3 y x rfl rfl
   .rintro y z hy hz;exact hy▸h7 z hz
def cmpL:List Lb->List Lb->Int
 | [],[]=>0
 | [],_ :: _=>-1
 | _ :: _,[]=>1
 | x :: a,y :: b=>if x.n < y.n then -1 else if y.n < x.n then 1 else if x.v < y.v then -1 else if y.v < x.v then 1 else cmpL a b
theorem Kel {a b:Txt} (h1:¬a < b) (h2:¬b < a):a=b:=List.le_antisymm (bp.1 h2) (bp.1 h1)
theorem Kcz:∀a:List Lb,cmpL a a=0
 | []=>rfl
 | x :: a=>by have h1:¬x.n < x.n:=aO _;have h2:¬x.v < x.v:=aO _;rw[cmpL,je h1,je h1,je h2,je h2,Kcz a]
theorem Kdg:∀{a b:List Lb},cmpL a b=0->a=b
 | [],[],_=>rfl
 | [],_ :: _,h=>by simp[cmpL] at h
 | _ :: _,[],h=>by simp[cmpL] at h
 | x :: a,y :: b,h=>by
  rw[cmpL] at h
  split at h
  .simp at h
  .rename_i h1
   split at h
   .simp at h
   .rename_i h2
    split at h
    .simp at h
    .rename_i h3
     split at h
     .simp at h
     .rename_i h4
      have e1:=Kel h1 h2;have e2:=Kel h3 h4;rw[Kdg h];cases x;cases y
      simp_all
theorem Kde:∀a b:List Lb,cmpL a b = -cmpL b a
 | [],[]=>rfl
 | [],_ :: _=>rfl
 | _ :: _,[]=>rfl
 | x :: a,y :: b=>by
  rw[cmpL,cmpL]
  by_cases h1:x.n < y.n
  .have h2:¬y.n < x.n:=br h1;rw[jf h1,je h2,jf h1]
  .rw[je h1]
   by_cases h2:y.n < x.n
   .rw[jf h2,jf h2];rfl
   .rw[je h2,je h2,je h1]
    by_cases h3:x.v < y.v
    .have h4:¬y.v < x.v:=br h3;rw[jf h3,je h4,jf h3]
    .rw[je h3]
     by_cases h4:y.v < x.v
     .rw[jf h4,jf h4];rfl
     .rw[je h4,je h4,je h3,Kde a b]
def ltB (x y:Lb):Prop:=x.n < y.n\/(x.n=y.n/\x.v < y.v)
theorem Kfb {x y z:Lb} (h1:ltB x y) (h2:ltB y z):ltB x z:=by
 rcases h1 with h1 | ⟨e1,h1⟩
 .rcases h2 with h2 | ⟨e2,_⟩
  .exact .inl (bs h1 h2)
  .exact .inl (e2▸h1)
 .rcases h2 with h2 | ⟨e2,h2⟩
  .exact .inl (e1▸h2)
  .exact .inr ⟨e1.trans e2,bs h1 h2⟩
theorem Kun {x y:Lb} {a b:List Lb}:cmpL (x :: a) (y :: b) < 0↔ltB x y\/(x=y/\cmpL a b < 0):=by
 rw[cmpL];unfold ltB
 by_cases h1:x.n < y.n
 .rw[jf h1];exact ⟨fun _=>.inl (.inl h1),fun _=>by decide⟩
 .rw[je h1]
  by_cases h2:y.n < x.n
  .rw[jf h2];refine ⟨fun h=>by simp at h,?_⟩;rintro ((h | ⟨e,_⟩) | ⟨e,_⟩)
   .exact jl h h1
   .rw[e] at h2;exact jl h2 (aO _)
   .rw[e] at h2;exact jl h2 (aO _)
  .rw[je h2];have en:=Kel h1 h2
   by_cases h3:x.v < y.v
   .rw[jf h3];exact ⟨fun _=>.inl (.inr ⟨en,h3⟩),fun _=>by decide⟩
   .rw[je h3]
    by_cases h4:y.v < x.v
    .rw[jf h4];refine ⟨fun h=>by simp at h,?_⟩;rintro ((h | ⟨_,h⟩) | ⟨e,_⟩)
     .exact jl h h1
     .exact jl h h3
     .rw[e] at h4;exact jl h4 (aO _)
    .rw[je h4];have ev:=Kel h3 h4;have aa:x=y:=by cases x;cases y;simp_all
     constructor
     .exact fun h=>.inr ⟨aa,h⟩
     .rintro ((h | ⟨_,h⟩) | ⟨_,h⟩)
      .exact jl h h1
      .exact jl h h3
      .exact h
theorem Kdf:∀{a b c:List Lb},cmpL a b < 0->cmpL b c < 0->cmpL a c < 0
 | [],[],_,h,_=>by simp[cmpL] at h
 | [],_ :: _,[],_,h=>by simp[cmpL] at h
 | [],_ :: _,_ :: _,_,_=>by simp[cmpL]
 | _ :: _,[],_,h,_=>by simp[cmpL] at h
 | _ :: _,_ :: _,[],_,h=>by simp[cmpL] at h
 | x :: a,y :: b,z :: c,h1,h2=>by
  rw[Kun] at h1 h2 |-;rcases h1 with h1 | ⟨e1,h1⟩
  .rcases h2 with h2 | ⟨e2,_⟩
   .exact .inl (Kfb h1 h2)
   .exact .inl (e2▸h1)
  .rcases h2 with h2 | ⟨e2,h2⟩
   .exact .inl (e1▸h2)
   .exact .inr ⟨e1.trans e2,Kdf h1 h2⟩
structure Ser where
 labels:List Lb
 samples:List Smp
 windows:List Wnd
structure Cont where
 res:Int
 frm:Int
 to_:Int
 series:List Ser
def riseI:List Int->Bool
 | []=>true
 | [_]=>true
 | a :: b :: l=>decide (a < b) && riseI (b :: l)
def Kco (f t:Int) (l:List Int):Bool:=decide (l≠[]) && l.all (fun x=>decide (f<=x) && decide (x < t)) && riseI l
def Kdy (c:Cont) (s:Ser):Bool:=
 if c.res=0 then decide (s.windows.length=0) && Kco c.frm c.to_ (s.samples.map Smp.t)
 else Kch wnd0 true s.windows && decide (s.samples.length=0) && Kco c.frm c.to_ (s.windows.map bt)
def Kzm (c:Cont) (s:Ser):Bool:=
 Kch wnd0 true s.windows && !((decide (c.res=0) && decide (0 < s.windows.length)) || (decide (0 < c.res) && decide (0 < s.samples.length))) && Kco c.frm c.to_ (s.samples.map Smp.t++s.windows.map bt)
theorem Qdg {c:Cont} (h:0<=c.res) (s:Ser):Kdy c s=Kzm c s:=by
 unfold Kdy Kzm
 by_cases h0:c.res=0
 .rw[jf h0];have h1:¬0 < c.res:=by omega
  cases hw:s.windows with
  | nil=>simp[h0,Kch]
  | cons w l=>simp[h0]
 .rw[je h0];have h1:0 < c.res:=by omega
  cases hs:s.samples with
  | nil=>simp[h0,h1]
  | cons x l=>simp[h0,h1]
end
section
open Go.RowKit
def Kac (x:Smp):List Value:=[.int .i64 x.t,.int .u64 (x.v:Int)]
def Kad (x:Wnd):List Value:=[.int .i64 x.start,.int .i64 x.count,.int .u64 (x.sum:Int),.int .u64 (x.min:Int),.int .u64 (x.max:Int),.int .u64 (x.last:Int)]
instance smpIn:Inhabited Smp:=⟨⟨0,0⟩⟩
instance wndIn:Inhabited Wnd:=⟨wnd0⟩
instance serIn:Inhabited Ser:=⟨⟨[],[],[]⟩⟩
structure Hd3 where
 l:Hd
 s:Hd
 w:Hd
instance hd3In:Inhabited Hd3:=⟨⟨default,default,default⟩⟩
def encH3 (h:Hd3):List Value:=[.slice h.l.A h.l.n h.l.c,.slice h.s.A h.s.n h.s.c,.slice h.w.A h.w.n h.w.c]
structure SerAt (w:World) (h:Hd3) (x:Ser):Prop where
 l:Elems w w.heap.size 2 encLb h.l.A h.l.n x.labels
 lc:h.l.n<=h.l.c
 s:Elems w w.heap.size 2 Kac h.s.A h.s.n x.samples
 sc:h.s.n<=h.s.c
 w:Elems w w.heap.size 6 Kad h.w.A h.w.n x.windows
 wc:h.w.n<=h.w.c
theorem SerAt.below {w w':World} {h:Hd3} {x:Ser} (hs:SerAt w h x) (hb:Below w.heap.size w w'):SerAt w' h x:=
 ⟨(hs.l.below hb).more hb.size,hs.lc,(hs.s.below hb).more hb.size,hs.sc,(hs.w.below hb).more hb.size,hs.wc⟩
def Sers (w:World) (A:Option Addr) (n:Nat) (L:List Ser):Prop:=
 ∃hs:List Hd3,Elems w w.heap.size 3 encH3 A n hs/\L.length=n/\∀(i:Nat) (h:Hd3),hs[i]? = some h->SerAt w h L[i]!
section
variable {w w' : World} {A : Option Addr} {n : Nat} {L : List Ser}
theorem Sers.below (h:Sers w A n L) (hb:Below w.heap.size w w'):Sers w' A n L:=by obtain ⟨hs,h1,h2,h3⟩:=h;exact ⟨hs,(h1.below hb).more hb.size,h2,fun i x hx=>(h3 i x hx).below hb⟩
theorem Sers.len (h:Sers w A n L):L.length=n:=by obtain ⟨_,_,h2,_⟩:=h;exact h2
theorem Sers.nil (w:World):Sers w none 0 []:=⟨[],Elems.nil_,rfl,fun i h hi=>by simp at hi⟩
theorem Sers.at_ (h:Sers w A n L) {i:Nat} (hi:i < n):∃b off x,A=some ⟨b,off,none⟩/\b < w.heap.size/\
  w.cell? ⟨b,off+i*3,none⟩=some (.slice x.l.A x.l.n x.l.c)/\w.cell? ⟨b,off+i*3+1,none⟩=some (.slice x.s.A x.s.n x.s.c)/\w.cell? ⟨b,off+i*3+2,none⟩=some (.slice x.w.A x.w.n x.w.c)/\SerAt w x L[i]!:=by
 obtain ⟨hs,h1,h2,h3⟩:=h;obtain ⟨b,off,e,hb,hc⟩:=h1.2 (by omega);have hl:i < hs.length:=by have:=h1.len;omega
 have a1:=h3 i hs[i] (a6 hl);have c0:=hc i hs[i] (a6 hl) 0 _ rfl;have c1:=hc i hs[i] (a6 hl) 1 _ rfl;have c2:=hc i hs[i] (a6 hl) 2 _ rfl;exact ⟨b,off,hs[i],e,hb,by simpa using c0,c1,c2,a1⟩
end
end
section
theorem Khq (x:Smp):(Kac x).length=2:=rfl
theorem Khs (x:Wnd):(Kad x).length=6:=rfl
theorem Kda (x:Hd3):(encH3 x).length=3:=rfl
theorem Kwo:∀x:Smp,∀v∈Kac x,v.oneCell'=true:=by intro s v hv;simp only[Kac,aF,aD,or_false] at hv;rcases hv with rfl | rfl <;> rfl
theorem Kxd:∀x:Wnd,∀v∈Kad x,v.oneCell'=true:=by intro s v hv;simp only[Kad,aF,aD,or_false] at hv;rcases hv with rfl | rfl | rfl | rfl | rfl | rfl <;> rfl
theorem Kqh:∀x:Hd3,∀v∈encH3 x,v.oneCell'=true:=by intro s v hv;simp only[encH3,aF,aD,or_false] at hv;rcases hv with rfl | rfl | rfl <;> rfl
section
variable {α : Type} (k : α -> Int)
structure Kbe (xs l:List α):Prop where
 asc:l.Pairwise fun a b=>k a < k b
 mem:∀x,x∈l↔xs.find? (fun y=>k y == k x)=some x
theorem Kjf:∀{a b:List α},(a.Pairwise fun x y=>k x < k y)->(b.Pairwise fun x y=>k x < k y)->(∀x,x∈a↔x∈b)->a=b
 | [],[],_,_,_=>rfl
 | [],y :: b,_,_,h=>jl ((h y).2 (ar ..)) (by simp)
 | x :: a,[],_,_,h=>jl ((h x).1 (ar ..)) (by simp)
 | x :: a,y :: b,ha,hb,h=>by
  obtain ⟨a1,a2⟩:=aw.1 ha;obtain ⟨b1,b2⟩:=aw.1 hb
  have aa:x=y:=by
   have h1:=(h x).1 (ar ..);have h2:=(h y).2 (ar ..);rcases a0.1 h1 with e | h1
   .exact e
   .rcases a0.1 h2 with e | h2
    .exact e.symm
    .have:=b1 x h1;have:=a1 y h2;omega
  subst aa;congr 1;refine Kjf a2 b2 fun z=>⟨fun hz=>?_,fun hz=>?_⟩
  .rcases a0.1 ((h z).1 (av _ hz)) with e | hz2
   .subst e;exact jl (a1 z hz) (Int.lt_irrefl _)
   .exact hz2
  .rcases a0.1 ((h z).2 (av _ hz)) with e | hz2
   .subst e;exact jl (b1 z hz) (Int.lt_irrefl _)
   .exact hz2
theorem Kbe.unique {xs a b:List α} (ha:Kbe k xs a) (hb:Kbe k xs b):a=b:=
 Kjf k ha.asc hb.asc fun x=>(ha.mem x).trans (hb.mem x).symm
theorem Kbe.nil:Kbe k ([]:List α) []:=⟨bw,fun x=>by simp⟩
def insO (x:α):List α->List α
 | []=>[x]
 | y :: l=>if k x < k y then x :: y :: l else if k x=k y then y :: l else y :: insO x l
theorem Knn (x:α):∀{l:List α},(l.Pairwise fun a b=>k a < k b)->∀z,z∈insO k x l↔z∈l\/(z=x/\∀y∈l,k y≠k x)
 | [],_,z=>by simp[insO]
 | y :: l,h,z=>by
  obtain ⟨h1,h2⟩:=aw.1 h;unfold insO
  split
  .rename_i hlt
   constructor
   .intro hz;rcases a0.1 hz with e | hz
    .refine .inr ⟨e,fun w hw=>?_⟩;rcases a0.1 hw with rfl | hw
     .omega
     .have:=h1 w hw;omega
    .exact .inl hz
   .rintro (hz | ⟨rfl,_⟩)
    .exact av _ hz
    .exact ar ..
  .split
   .rename_i he
    constructor
    .exact .inl
    .rintro (hz | ⟨rfl,hz⟩)
     .exact hz
     .exact jl he.symm (hz y (ar ..))
   .rename_i hn he
    rw[aF,Knn x h2 z,aF];constructor
    .rintro (rfl | hz | ⟨rfl,hz⟩)
     .exact .inl (.inl rfl)
     .exact .inl (.inr hz)
     .refine .inr ⟨rfl,fun w hw=>?_⟩;rcases a0.1 hw with rfl | hw
      .exact fun e=>he e.symm
      .exact hz w hw
    .rintro ((rfl | hz) | ⟨rfl,hz⟩)
     .exact .inl rfl
     .exact .inr (.inl hz)
     .exact .inr (.inr ⟨rfl,fun w hw=>hz w (av _ hw)⟩)
theorem Knm (x:α):∀{l:List α},(l.Pairwise fun a b=>k a < k b)->(insO k x l).Pairwise fun a b=>k a < k b
 | [],_=>az _ _
 | y :: l,h=>by
  obtain ⟨h1,h2⟩:=aw.1 h;unfold insO
  split
  .rename_i hlt
   refine aw.2 ⟨fun w hw=>?_,h⟩;rcases a0.1 hw with rfl | hw
   .exact hlt
   .have:=h1 w hw;omega
  .split
   .exact h
   .rename_i hn he
    refine aw.2 ⟨fun w hw=>?_,Knm x h2⟩;rcases (Knn k x h2 w).1 hw with hw | ⟨rfl,_⟩
    .exact h1 w hw
    .omega
theorem Kbe.snoc {xs l:List α} (h:Kbe k xs l) (x:α):Kbe k (xs ++ [x]) (insO k x l):=by
 refine ⟨Knm k x h.asc,fun z=>?_⟩;rw[Knn k x h.asc z,List.find?_append];constructor
 .rintro (hz | ⟨rfl,hz⟩)
  .rw[(h.mem z).1 hz];rfl
  .cases hf:xs.find? (fun y=>k y == k z) with
   | none=>simp
   | some w=>
    have hk:k w=k z:=by simpa using List.find?_some hf
    have hw:w∈l:=by rw[h.mem w,hk];exact hf
    exact jl hk (hz w hw)
 .intro hz
  cases hf:xs.find? (fun y=>k y == k z) with
  | some w=>
   rw[hf] at hz;have:w=z:=by simpa using hz
   subst this;exact .inl ((h.mem w).2 hf)
  | none=>
   rw[hf] at hz;have aa:k x=k z/\x=z:=by simpa using hz
   refine .inr ⟨aa.2.symm,fun y hy e=>?_⟩;have h1:=(h.mem y).1 hy;have h2:k y=k z:=e.trans aa.1;rw[h2,hf] at h1;cases h1
theorem Kft:∀(xs ys l:List α),Kbe k ys l->Kbe k (ys++xs) (xs.foldl (fun a x=>insO k x a) l)
 | [],ys,l,h=>by rw[aA];exact h
 | x :: xs,ys,l,h=>by have:=Kft xs (ys ++ [x]) _ (h.snoc k x);rw[aB] at this;exact this
end
section
variable {α : Type} (k : α -> Int)
def compO:List α->List α
 | []=>[]
 | [x]=>[x]
 | x :: y :: l=>if k x=k y then compO (x :: l) else x :: compO (y :: l)
 termination_by l=>l.length
theorem Kji:∀(n:Nat) (ys:List α),ys.length<=n->(ys.Pairwise fun a b=>k a<=k b)->Kbe k ys (compO k ys)
 | _,[],_,_=>by rw[compO];exact Kbe.nil k
 | _,[x],_,_=>by
  rw[compO];refine ⟨az _ _,fun z=>?_⟩;simp only[aK,ba,List.find?_nil];constructor
  .rintro rfl;simp
  .intro h
   split at h
   .exact (bz h).symm
   .cases h
 | 0,x :: y :: l,hn,_=>by simp at hn
 | n+1,x :: y :: l,hn,hp=>by
  obtain ⟨h1,h2⟩:=aw.1 hp;obtain ⟨h3,h4⟩:=aw.1 h2;rw[compO]
  by_cases he:k x=k y
  .rw[jf he];have ih:=Kji n (x :: l) (by simp only[ay] at hn |-;omega) (aw.2 ⟨fun z hz=>h1 z (av _ hz),h4⟩);refine ⟨ih.asc,fun z=>?_⟩;rw[ih.mem z];simp only[ba]
   by_cases hz:k x=k z
   .rw[show (k x == k z)=true by simpa using hz]
   .rw[show (k x == k z)=false by simpa using hz,show (k y == k z)=false by simpa using (he▸hz)]
  .rw[je he];have ab:k x < k y:=by have:=h1 y (ar ..);omega
   have ih:=Kji n (y :: l) (by simp only[ay] at hn |-;omega) h2
   have aa:∀z∈compO k (y :: l),k x < k z:=fun z hz=>by
    have h5:=(ih.mem z).1 hz;have h6:=List.mem_of_find?_eq_some h5;rcases a0.1 h6 with rfl | h6
    .exact ab
    .have:=h3 z h6;omega
   refine ⟨aw.2 ⟨aa,ih.asc⟩,fun z=>?_⟩;rw[aF,ih.mem z,ba (a:=x)]
   by_cases hz:k x=k z
   .rw[show (k x == k z)=true by simpa using hz];constructor
    .rintro (rfl | h)
     .rfl
     .have:=aa z ((ih.mem z).2 h);omega
    .intro h;exact .inl (bz h).symm
   .rw[show (k x == k z)=false by simpa using hz];constructor
    .rintro (rfl | h)
     .exact jl rfl hz
     .exact h
    .exact .inr
theorem Kmn (xs:List α) (t:Int):xs.find? (fun y=>k y == t)=(xs.filter fun y=>k y == t).head?:=by
 induction xs with
 | nil=>rfl
 | cons x xs ih=>
  rw[ba,aH]
  cases hx:k x == t with
  | true=>simp
  | false=>simp
theorem Qea {xs ys:List α} (hp:ys.Pairwise fun a b=>k a<=k b) (hs:∀t,(ys.filter fun y=>k y == t)=xs.filter fun y=>k y == t):Kbe k xs (compO k ys):=by have h:=Kji k ys.length ys (aZ _) hp;refine ⟨h.asc,fun x=>?_⟩;rw[h.mem x,Kmn,Kmn,hs]
end
def lastS (gs:List Ser):Ser:=gs[gs.length - 1]!
def openG (gs:List Ser) (s:Ser):List Ser:=if gs = []\/cmpL (lastS gs).labels s.labels≠0 then gs ++ [⟨s.labels,[],[]⟩] else gs
def addG (gs:List Ser) (s:Ser):List Ser:=gs.set (gs.length - 1) ⟨(lastS gs).labels,(lastS gs).samples++s.samples,(lastS gs).windows++s.windows⟩
def stepG (gs:List Ser) (s:Ser):List Ser:=addG (openG gs s) s
def grpG (l:List Ser):List Ser:=l.foldl stepG []
def sumS (l:List Ser):Nat:=(l.map fun s=>s.samples.length+s.windows.length).sum
theorem Krz (gs:List Ser) (s:Ser):0 < (openG gs s).length:=by
 unfold openG
 split
 .simp
 .rename_i h
  cases gs with
  | nil=>simp at h
  | cons x l=>simp
theorem Kjv (a b:List Ser):sumS (a++b)=sumS a+sumS b:=by unfold sumS;simp
theorem Klr (gs:List Ser) (s:Ser):sumS (openG gs s)=sumS gs:=by
 unfold openG
 split
 .rw[Kjv];simp[sumS]
 .rfl
theorem Khr:∀(gs:List Ser) (k:Nat) (x:Ser),k < gs.length->sumS (gs.set k x)+(gs[k]!.samples.length+gs[k]!.windows.length)=sumS gs+(x.samples.length+x.windows.length)
 | [],k,x,h=>by simp at h
 | y :: l,0,x,_=>by simp[sumS];omega
 | y :: l,k+1,x,h=>by have ih:=Khr l k x (by simpa using h);simp only[bh,sumS,List.map_cons,List.sum_cons] at ih |-;rw[show (y :: l)[k+1]! = l[k]! by simp];omega
theorem Qgu {gs:List Ser} (h:0 < gs.length) (s:Ser):sumS (addG gs s)=sumS gs+(s.samples.length+s.windows.length):=by have:=Khr gs (gs.length - 1) ⟨(lastS gs).labels,(lastS gs).samples++s.samples,(lastS gs).windows++s.windows⟩ (by omega);simp only[aL] at this;unfold addG;unfold lastS at this |-;omega
theorem Qer (gs:List Ser) (s:Ser):sumS (stepG gs s)=sumS gs+(s.samples.length+s.windows.length):=by unfold stepG;rw[Qgu (Krz gs s),Klr]
theorem Kwt (l:List Ser):∀gs:List Ser,sumS (l.foldl stepG gs)=sumS gs+sumS l:=by
 induction l with
 | nil=>intro gs;simp[sumS]
 | cons s l ih=>
  intro gs;rw[aM,ih,Qer];simp[sumS];omega
theorem Kjb {gs:List Ser} {k:Nat} (h:k < gs.length):gs[k]!.samples.length+gs[k]!.windows.length<=sumS gs:=by have:=Khr gs k ⟨[],[],[]⟩ h;simp only[aG] at this;omega
theorem Qhu (gs:List Ser) (s:Ser):(addG gs s).length=gs.length:=by unfold addG;simp
def Kaz (s:Ser):Ser:=⟨s.labels,s.samples.foldl (fun a x=>insO Smp.t x a) [],s.windows.foldl (fun a x=>insO bt x a) []⟩
theorem Kyj {s:Ser} {zs:List Smp} (h:Kbe Smp.t s.samples zs):(Kaz s).samples=zs:=
 (Kbe.unique Smp.t h (Kft Smp.t s.samples [] [] (Kbe.nil _))).symm
theorem Kyk {s:Ser} {zs:List Wnd} (h:Kbe bt s.windows zs):(Kaz s).windows=zs:=
 (Kbe.unique bt h (Kft bt s.windows [] [] (Kbe.nil _))).symm
def Kam (s:Ser):Bool:=decide (0 < s.samples.length+s.windows.length)
def Kev (l:List Ser):List Ser:=((grpG l).map Kaz).filter Kam
theorem Qaw (P:List Lb->Prop) (l:List Ser):∀gs:List Ser,(∀g∈gs,P g.labels)->(∀s∈l,P s.labels)->∀g∈l.foldl stepG gs,P g.labels:=by
 induction l with
 | nil=>intro gs h _;exact h
 | cons s l ih=>
  intro gs h1 h2;rw[aM];refine ih _ ?_ (fun x hx=>h2 x (av _ hx))
  have ho:∀g∈openG gs s,P g.labels:=by
   unfold openG
   split
   .intro g hg;rcases a7.1 hg with hg | hg
    .exact h1 g hg
    .rw[a4.1 hg];exact h2 s (ar ..)
   .exact h1
  intro g hg;unfold stepG addG at hg;rcases List.mem_or_eq_of_mem_set hg with hg | hg
  .exact ho g hg
  .rw[hg];show P (lastS (openG gs s)).labels
   refine ho (lastS (openG gs s)) ?_;have hp:=Krz gs s;unfold lastS;rw[i9 _ _ (by omega)];exact List.getElem_mem _
theorem Kvb {α : Type} (k:α->Int) (x:α):∀l:List α,(insO k x l).length<=l.length+1
 | []=>by simp[insO]
 | y :: l=>by
  unfold insO
  split
  .simp
  .split
   .simp
   .have:=Kvb k x l;simp only[ay];omega
theorem Kei {α : Type} (k:α->Int):∀(xs l:List α),(xs.foldl (fun a x=>insO k x a) l).length<=l.length+xs.length
 | [],l=>by simp
 | x :: xs,l=>by rw[aM];have h1:=Kei k xs (insO k x l);have h2:=Kvb k x l;rw[ay];omega
theorem Kyi (s:Ser):(Kaz s).samples.length<=s.samples.length/\(Kaz s).windows.length<=s.windows.length:=by have h1:=Kei Smp.t s.samples [];have h2:=Kei bt s.windows [];unfold Kaz;dsimp only;rw[aG] at h1 h2;omega
def Pairs {α β : Type} (R:α->β->Prop):List α->List β->Prop
 | [],[]=>True
 | a :: l,b :: m=>R a b/\Pairs R l m
 | _,_=>False
theorem Pairs.of {α β : Type} [Inhabited β] {R:α->β->Prop}:∀{l:List α} {m:List β},l.length=m.length->(∀(i:Nat) (a:α),l[i]? = some a->R a m[i]!)->Pairs R l m
 | [],[],_,_=>trivial
 | [],_ :: _,h,_=>by simp at h
 | _ :: _,[],h,_=>by simp at h
 | a :: l,b :: m,h,hr=>⟨by simpa using hr 0 a rfl,Pairs.of (by simpa using h) fun i x hx=>by simpa using hr (i+1) x (by simpa using hx)⟩
theorem Pairs.at_ {α β : Type} [Inhabited β] {R:α->β->Prop}:∀{l:List α} {m:List β},Pairs R l m->∀(i:Nat) (a:α),l[i]? = some a->R a m[i]!
 | [],_,_,i,a,h=>by simp at h
 | _ :: _,[],h,_,_,_=>h.elim
 | a :: l,b :: m,h,0,x,hx=>by
  have:a=x:=by simpa using hx
  subst this;exact h.1
 | a :: l,b :: m,h,i+1,x,hx=>by have:=Pairs.at_ h.2 i x (by simpa using hx);simpa using this
theorem Pairs.len {α β : Type} {R:α->β->Prop}:∀{l:List α} {m:List β},Pairs R l m->l.length=m.length
 | [],[],_=>rfl
 | [],_ :: _,h=>h.elim
 | _ :: _,[],h=>h.elim
 | a :: l,b :: m,h=>by rw[ay,ay,h.2.len]
theorem Pairs.filter {α β : Type} {R:α->β->Prop} {f:α->Bool} {g:β->Bool} (hfg:∀a b,R a b->f a=g b):∀{l:List α} {m:List β},Pairs R l m->Pairs R (l.filter f) (m.filter g)
 | [],[],_=>trivial
 | [],_ :: _,h=>h.elim
 | _ :: _,[],h=>h.elim
 | a :: l,b :: m,h=>by
  rw[aH,aH,hfg a b h.1]
  split
  .exact ⟨h.1,h.2.filter hfg⟩
  .exact h.2.filter hfg
theorem Qeb (gs:List Ser) {i:Nat} (hi:i < gs.length):((gs.take i).map Kaz++gs.drop i).set i (Kaz gs[i]!)=(gs.take (i+1)).map Kaz++gs.drop (i+1)/\((gs.take i).map Kaz++gs.drop i)[i]! = gs[i]!:=by
 have hl:((gs.take i).map Kaz).length=i:=by rw[List.length_map,bc];omega
 have hd:gs.drop i=gs[i] :: gs.drop (i+1):=List.drop_eq_getElem_cons hi;refine ⟨?_,?_⟩
 .rw[aR _ _ (by omega),hl,aP,hd,aU,List.take_add_one,a6 hi,List.map_append,i9 gs i hi];simp
 .rw[i9 _ i (by rw[aL,hl,aJ];omega),aY (by omega),i9 gs i hi];simp only[hl,bj,aP,Nat.add_zero]
end
section
open Go.Sort
open List renaming length_append -> Jd
section
variable {α : Type} (lt : α -> α -> Bool)
def eqv (x y:α):Bool:=!lt x y && !lt y x
structure Stab (xs ys:List α):Prop where
 perm:ys.Perm xs
 asc:ys.Pairwise fun a b=>lt b a=false
 keep:∀x,ys.filter (eqv lt x)=xs.filter (eqv lt x)
def mrg (X Y:List α):List α:=List.merge X Y fun a b=>!lt b a
theorem Kbr (Y:List α):mrg lt [] Y=Y:=by unfold mrg;exact List.nil_merge ..
theorem Kbs (X:List α):mrg lt X []=X:=by unfold mrg;exact List.merge_right ..
theorem Kic {x y:α} (X Y:List α) (h:lt y x=false):mrg lt (x :: X) (y :: Y)=x :: mrg lt X (y :: Y):=by unfold mrg;rw[bf,jf (by simp[h])]
theorem Kgr {x y:α} (X Y:List α) (h:lt y x=true):mrg lt (x :: X) (y :: Y)=y :: mrg lt (x :: X) Y:=by unfold mrg;rw[bf,je (by simp[h])]
theorem Kvt (X Y:List α):(mrg lt X Y).Perm (X++Y):=List.merge_perm_append _
theorem Kmc (X Y:List α):(mrg lt X Y).length=X.length+Y.length:=by rw[(Kvt lt X Y).length_eq,Jd]
theorem Kgc:∀(n:Nat) (X1 X2 Y1 Y2:List α),X1.length+Y1.length<=n->(∀x∈X1,∀y∈Y2,lt y x=false)->(∀x∈X2,∀y∈Y1,lt y x=true)->mrg lt (X1++X2) (Y1++Y2)=mrg lt X1 Y1++mrg lt X2 Y2
 | _,[],X2,[],Y2,_,_,_=>by rw[Kbr];rfl
 | 0,[],_,y :: Y1,_,h,_,_=>by simp at h
 | 0,x :: X1,_,_,_,h,_,_=>by simp at h
 | n+1,[],X2,y :: Y1,Y2,hn,h1,h2=>by
  rw[Kbr,aC]
  cases X2 with
  | nil=>rw[Kbr,Kbr]
  | cons x X2=>
   have ih:=Kgc n [] (x :: X2) Y1 Y2 (by simp only[ay,aG] at hn |-;omega) (fun _ h=>jl h aD) (fun a ha b hb=>h2 a ha b (av _ hb));rw[Kbr,aC] at ih;rw[aE,Kgr lt X2 _ (h2 x (ar ..) y (ar ..)),ih];rfl
 | n+1,x :: X1,X2,[],Y2,hn,h1,h2=>by
  rw[Kbs,aC]
  cases Y2 with
  | nil=>rw[Kbs,Kbs]
  | cons y Y2=>
   have ih:=Kgc n X1 X2 [] (y :: Y2) (by simp only[ay,aG] at hn |-;omega) (fun a ha b hb=>h1 a (av _ ha) b hb) (fun _ _ _ h=>jl h aD);rw[Kbs,aC] at ih;rw[aE,Kic lt _ Y2 (h1 x (ar ..) y (ar ..)),ih];rfl
 | n+1,x :: X1,X2,y :: Y1,Y2,hn,h1,h2=>by
  cases h:lt y x with
  | false=>
   have ih:=Kgc n X1 X2 (y :: Y1) Y2 (by simp only[ay] at hn |-;omega) (fun a ha b hb=>h1 a (av _ ha) b hb) h2;rw[Kic lt X1 Y1 h,aE,aE,Kic lt _ _ h];rw[aE] at ih |-;rw[ih]
  | true=>
   have ih:=Kgc n (x :: X1) X2 Y1 Y2 (by simp only[ay] at hn |-;omega) h1 (fun a ha b hb=>h2 a ha b (av _ hb));rw[Kgr lt X1 Y1 h,aE,aE,Kgr lt _ _ h];rw[aE] at ih |-;rw[ih]
theorem Kld (X1 X2 Y1 Y2:List α) (h1:∀x∈X1,∀y∈Y2,lt y x=false) (h2:∀x∈X2,∀y∈Y1,lt y x=true):mrg lt (X1++X2) (Y1++Y2)=mrg lt X1 Y1++mrg lt X2 Y2:=
 Kgc lt _ X1 X2 Y1 Y2 (aZ _) h1 h2
variable {lt} (S : SWO lt)
include S
theorem lt_le {x y z:α} (h1:lt x y=true) (h2:lt z y=false):lt x z=true:=by
 cases h:lt x z with
 | true=>rfl
 | false=>exact jl (S.ntrans x z y h h2) (by rw[h1];exact bd)
theorem le_lt {x y z:α} (h1:lt y x=false) (h2:lt y z=true):lt x z=true:=by
 cases h:lt x z with
 | true=>rfl
 | false=>exact jl (S.ntrans y x z h1 h) (by rw[h2];exact bd)
theorem lt_asymm {x y:α} (h:lt x y=true):lt y x=false:=by
 cases h2:lt y x with
 | false=>rfl
 | true=>exact jl (S.trans x y x h h2) (by rw[S.irrefl];exact bd)
theorem Qhy {X Y:List α} (hX:X.Pairwise fun a b=>lt b a=false) (hY:Y.Pairwise fun a b=>lt b a=false):(mrg lt X Y).Pairwise fun a b=>lt b a=false:=by
 have h:(mrg lt X Y).Pairwise fun a b=>(!lt b a)=true:=by
  unfold mrg;refine List.pairwise_merge (fun a b c h1 h2=>?_) (fun a b=>?_) X Y ?_ ?_
  .simp only[bm] at h1 h2 |-;exact S.ntrans c b a h2 h1
  .cases h:lt b a with
   | false=>simp
   | true=>simp[lt_asymm S h]
  .exact hX.imp fun h=>by simp[h]
  .exact hY.imp fun h=>by simp[h]
 exact h.imp fun h=>by simpa using h
theorem Kns (z:α):∀(n:Nat) (X Y:List α),X.length+Y.length<=n->(X.Pairwise fun a b=>lt b a=false)->(Y.Pairwise fun a b=>lt b a=false)->(mrg lt X Y).filter (eqv lt z)=X.filter (eqv lt z)++Y.filter (eqv lt z)
 | _,[],Y,_,_,_=>by rw[Kbr];rfl
 | _,x :: X,[],_,_,_=>by rw[Kbs];simp
 | 0,x :: X,y :: Y,h,_,_=>by simp at h
 | n+1,x :: X,y :: Y,hn,hX,hY=>by
  obtain ⟨x1,x2⟩:=aw.1 hX;obtain ⟨y1,y2⟩:=aw.1 hY
  cases h:lt y x with
  | false=>
   rw[Kic lt X Y h,aH,aH,Kns z n X (y :: Y) (by simp only[ay] at hn |-;omega) x2 hY]
   split <;> rfl
  | true=>
   rw[Kgr lt X Y h,aH,Kns z n (x :: X) Y (by simp only[ay] at hn |-;omega) hX y2,aH (x:=y)]
   split
   .rename_i hz
    have hn:(x :: X).filter (eqv lt z) = []:=by
     rw[a9];intro a ha he
     have aa:lt y a=true:=by
      rcases a0.1 ha with rfl | ha
      .exact h
      .exact lt_le S h (x1 a ha)
     simp only[eqv,a8,bm] at hz he;have:=le_lt S hz.2 aa;rw[he.1] at this;cases this
    rw[hn];rfl
   .rfl
theorem Stab.mrg {xs ys us vs:List α} (h1:Stab lt xs ys) (h2:Stab lt us vs):Stab lt (xs++us) (mrg lt ys vs) where
 perm:=(Kvt lt ys vs).trans (h1.perm.append h2.perm)
 asc:=Qhy S h1.asc h2.asc
 keep x:=by rw[Kns S x _ ys vs (aZ _) h1.asc h2.asc,h1.keep,h2.keep,aV]
omit S
theorem Stab.nil:Stab lt ([]:List α) []:=⟨.refl _,bw,fun _=>rfl⟩
theorem Stab.one (x:α):Stab lt [x] [x]:=⟨.refl _,az _ _,fun _=>rfl⟩
theorem Stab.len {xs ys:List α} (h:Stab lt xs ys):ys.length=xs.length:=h.perm.length_eq
inductive Blks (lt:α->α->Bool) (c:Nat):List α->List α->Prop where
 | last {xs ys:List α}:xs.length<=c->Stab lt xs ys->Blks lt c xs ys
 | more {xs ys us vs:List α}:xs.length=c->Stab lt xs ys->Blks lt c us vs->Blks lt c (xs++us) (ys++vs)
inductive Whole (lt:α->α->Bool) (c:Nat):List α->List α->Prop where
 | nil:Whole lt c [] []
 | more {xs ys us vs:List α}:xs.length=c->Stab lt xs ys->Whole lt c us vs->Whole lt c (xs++us) (ys++vs)
theorem Whole.len {c:Nat} {xs ys:List α} (h:Whole lt c xs ys):ys.length=xs.length:=by
 induction h with
 | nil=>rfl
 | more _ h _ ih=>rw[Jd,Jd,h.len,ih]
theorem Blks.len {c:Nat} {xs ys:List α} (h:Blks lt c xs ys):ys.length=xs.length:=by
 induction h with
 | last _ h=>exact h.len
 | more _ h _ ih=>rw[Jd,Jd,h.len,ih]
theorem Whole.snoc {c:Nat} {xs ys us vs:List α} (h:Whole lt c xs ys) (hc:us.length=c) (hs:Stab lt us vs):Whole lt c (xs++us) (ys++vs):=by
 induction h with
 | nil=>rw[aC,aC,<-aA us,<-aA vs];exact .more hc hs .nil
 | more h1 h2 _ ih=>rw[aB,aB];exact .more h1 h2 ih
theorem Whole.close {c:Nat} {xs ys us vs:List α} (h:Whole lt c xs ys) (hs:Blks lt c us vs):Blks lt c (xs++us) (ys++vs):=by
 induction h with
 | nil=>exact hs
 | more h1 h2 _ ih=>rw[aB,aB];exact .more h1 h2 ih
theorem Blks.first {c:Nat} {xs ys:List α} (h:Blks lt c xs ys) (hc:c<=xs.length):∃x1 x2 y1 y2,xs=x1++x2/\ys=y1++y2/\x1.length=c/\Stab lt x1 y1/\Blks lt c x2 y2:=by
 cases h with
 | last h1 h2=>exact ⟨xs,[],ys,[],by simp,by simp,by omega,h2,.last (by simp) .nil⟩
 | more h1 h2 h3=>exact ⟨_,_,_,_,rfl,rfl,h1,h2,h3⟩
theorem Blks.short {c:Nat} {xs ys:List α} (h:Blks lt c xs ys) (hc:xs.length<=c) (h0:0 < c):Stab lt xs ys:=by
 cases h with
 | last h1 h2=>exact h2
 | more h1 h2 h3=>
  rename_i x1 y1 x2 y2
  have hx:x2 = []:=ax (by rw[Jd] at hc;omega);subst hx;have hy:y2 = []:=ax (by have:=h3.len;simpa using this);subst hy;simpa using h2
end
section
variable {α : Type} [Inhabited α]
theorem Kct {A B:List α} {x:α} {i:Nat} (h:i=A.length):(A++x :: B).toArray[i]! = x:=by subst h;simp
theorem Kek {A B C:List α} {x y:α} {i j:Nat} (hi:i=A.length) (hj:j=A.length+1+B.length):swp (A++x :: (B++y :: C)).toArray i j=(A++y :: (B++x :: C)).toArray:=by
 have e1:(A++x :: (B++y :: C)).toArray[i]! = x:=Kct hi
 have e2:(A++x :: (B++y :: C)).toArray[j]! = y:=by rw[show A++x :: (B++y :: C)=(A++x :: B)++y :: C by simp];exact Kct (by simp only[Jd,ay];omega)
 unfold swp;rw[e1,e2];subst hi hj;apply Array.ext';simp only[List.setIfInBounds_toArray,bn,Nat.lt_irrefl,if_false,aP,aU];rw[je (by omega),show A.length+1+B.length - A.length=B.length+1 by omega,bh,bn,je (by omega),aP,aU]
theorem Kgu {A B C:List α} {x y:α} {i j:Nat} (hi:i=A.length) (hj:j=A.length+1+B.length):swp (A++x :: (B++y :: C)).toArray j i=(A++y :: (B++x :: C)).toArray:=by
 refine Eq.trans ?_ (Kek hi hj);have aa:i≠j:=by omega
 unfold swp;exact Array.setIfInBounds_comm _ _ (Ne.symm aa)
variable {lt : α -> α -> Bool} (S : SWO lt)
include S
theorem Kiu:∀(n:Nat) (P A T:List α) (x:α),A.length=n->(A.Pairwise fun a b=>lt b a=false)->insInner lt P.length (P.length+n) (P++(A++x :: T)).toArray=(P++(mrg lt A [x]++T)).toArray
 | 0,P,A,T,x,hn,_=>by have:A = []:=ax hn;subst this;rw[insInner_stop lt _ _ _ (.inl (by omega)),Kbr];rfl
 | n+1,P,A,T,x,hn,hA=>by
  obtain ⟨A',y,rfl⟩:∃A' y,A=A' ++ [y]:=by
   have aa:A≠[]:=by intro h;subst h;simp at hn
   exact ⟨A.dropLast,A.getLast aa,(aT aa).symm⟩
  have ab:A'.length=n:=by simpa using hn
  obtain ⟨a1,_,a3⟩:=a5.1 hA
  have ex:(P++(A' ++ [y]++x :: T)).toArray[P.length+(n+1)]! = x:=by rw[show P++(A' ++ [y]++x :: T)=(P++(A' ++ [y]))++x :: T by simp];exact Kct (by simp only[Jd,ay,aG];omega)
  have ey:(P++(A' ++ [y]++x :: T)).toArray[P.length+(n+1) - 1]! = y:=by rw[show P++(A' ++ [y]++x :: T)=(P++A')++y :: (x :: T) by simp];exact Kct (by simp only[Jd];omega)
  cases h:lt x y with
  | true=>
   rw[insInner_go lt _ _ _ (by omega) (by rw[ex,ey];exact h)]
   have e:swp (P++(A' ++ [y]++x :: T)).toArray (P.length+(n+1)) (P.length+(n+1) - 1)=(P++(A'++x :: (y :: T))).toArray:=by rw[show P++(A' ++ [y]++x :: T)=(P++A')++y :: ([]++x :: T) by simp,Kgu (A:=P++A') (B:=[]) (by simp only[Jd];omega) (by simp only[Jd,aG];omega)];simp
   rw[e,show P.length+(n+1) - 1=P.length+n by omega,Kiu n P A' (y :: T) x ab a1];have:=Kld lt A' [y] [x] [] (fun _ _ _ h=>jl h aD) (fun a ha b hb=>by rw[a4.1 ha,a4.1 hb];exact h);rw[aA] at this;rw[this,Kbs];simp
  | false=>
   rw[insInner_stop lt _ _ _ (.inr (by rw[ex,ey];exact h))]
   have:=Kld lt (A' ++ [y]) [] [] [x] (fun a ha b hb=>by
    rw[a4.1 hb];rcases a7.1 ha with ha | ha
    .exact S.ntrans x y a h (a3 a ha y (a4.2 rfl))
    .rw[a4.1 ha];exact h) (fun _ h=>jl h aD)
   rw[aA,aC,Kbs,Kbr] at this;rw[this];simp
theorem Kiv:∀(n:Nat) (P A0 A R T:List α),R.length=n->Stab lt A0 A->∃Z,Stab lt (A0++R) Z/\insOuter lt P.length (P.length+A.length+n) (P.length+A.length) (P++(A++(R++T))).toArray=(P++(Z++T)).toArray
 | 0,P,A0,A,R,T,hn,h=>by have:R = []:=ax hn;subst this;refine ⟨A,by simpa using h,?_⟩;rw[insOuter,je (by omega)];simp
 | n+1,P,A0,A,[],T,hn,h=>by simp at hn
 | n+1,P,A0,A,x :: R,T,hn,h=>by have h1:Stab lt (A0 ++ [x]) (mrg lt A [x]):=h.mrg S (.one x);obtain ⟨Z,hz,e⟩:=Kiv n P (A0 ++ [x]) (mrg lt A [x]) R T (by simpa using hn) h1;refine ⟨Z,by simpa using hz,?_⟩;rw[insOuter_go _ _ _ _ _ (by omega),show P++(A++(x :: R++T))=P++(A++x :: (R++T)) by simp,Kiu S A.length P A (R++T) x rfl h.asc,<-e];rw[Kmc];simp only[ay,aG];congr 1 <;> omega
theorem Kfi (P R T:List α) (h:0 < R.length):∃Z,Stab lt R Z/\insertionSort lt (P++(R++T)).toArray P.length (P.length+R.length)=(P++(Z++T)).toArray:=by
 cases R with
 | nil=>simp at h
 | cons x R=>
  obtain ⟨Z,hz,e⟩:=Kiv S R.length P [x] [x] R T rfl (.one x);refine ⟨Z,hz,?_⟩;rw[insertionSort,show P++(x :: R++T)=P++([x]++(R++T)) by simp,<-e];simp only[ay,aG];congr 1 <;> omega
omit S
theorem Kfo (P T:List α):insertionSort lt (P++T).toArray P.length P.length=(P++T).toArray:=by rw[insertionSort,insOuter,je (by omega)]
end
end
section
open Go.Sort
section
variable {α : Type} [Inhabited α] {lt : α -> α -> Bool}
theorem Kmb (S:SWO lt) {X:List α} (h:X.Pairwise fun a b=>lt b a=false) {i j:Nat} (hij:i<=j) (hj:j < X.length):lt X[j]! X[i]! = false:=by
 rcases Nat.eq_or_lt_of_le hij with rfl | hlt
 .exact S.irrefl _
 .rw[i9 X j hj,i9 X i (by omega)];exact List.pairwise_iff_getElem.1 h i j (by omega) hj hlt
theorem Kix (S:SWO lt) {X Y:List α} (hX:X.Pairwise fun a b=>lt b a=false) (hY:Y.Pairwise fun a b=>lt b a=false) (s e:Nat) (hs:s<=X.length) (he:e<=Y.length)
  (h1:s=0\/e=Y.length\/lt Y[e]! X[s - 1]! = false) (h2:s=X.length\/e=0\/lt Y[e - 1]! X[s]! = true) :
  mrg lt X Y=mrg lt (X.take s) (Y.take e)++mrg lt (X.drop s) (Y.drop e):=by
 have:=Kld lt (X.take s) (X.drop s) (Y.take e) (Y.drop e) ?_ ?_
 .rwa[aN,aN] at this
 .intro x hx y hy;obtain ⟨i,hi,rfl⟩:=bb.1 hx;obtain ⟨k,hk,rfl⟩:=be.1 hy;rcases h1 with h | h | h
  .omega
  .omega
  .rw[<-i9 X i (by omega),<-i9 Y (e+k) (by omega)];exact S.ntrans _ _ _ (S.ntrans _ _ _ (Kmb S hY (i:=e) (j:=e+k) (by omega) (by omega)) h) (Kmb S hX (i:=i) (j:=s - 1) (by omega) (by omega))
 .intro x hx y hy;obtain ⟨i,hi,rfl⟩:=be.1 hx;obtain ⟨k,hk,rfl⟩:=bb.1 hy;rcases h2 with h | h | h
  .omega
  .omega
  .rw[<-i9 X (s+i) (by omega),<-i9 Y k (by omega)];exact lt_le S (le_lt S (Kmb S hY (i:=k) (j:=e - 1) (by omega) (by omega)) h) (Kmb S hX (i:=s) (j:=s+i) (by omega) (by omega))
theorem Krn {X:List α} {s:Nat} (h:s < X.length):(X.drop s)[0]! = X[s]!:=by rw[i9 _ _ (by rw[aJ];omega),i9 X s h,bj];rfl
theorem Khj (S:SWO lt) {x:α} {Y:List α} (hY:Y.Pairwise fun a b=>lt b a=false) (e:Nat) (he:e<=Y.length) (h1:e=Y.length\/lt Y[e]! x=false) (h2:e=0\/lt Y[e - 1]! x=true):mrg lt [x] Y=Y.take e++x :: Y.drop e:=by
 rw[Kix S (az _ _) hY 0 e (by simp) he (.inl rfl) (.inr (h2.imp id fun h=>h)),aW,aX,Kbr];congr 1;rw[Kix S (az _ _) (hY.drop) 1 0 (by simp) (Nat.zero_le _) (.inr ?_) (.inl rfl)]
 .rw[aW,Kbs,aX,show ([x].drop 1:List α) = [] from rfl,Kbr];rfl
 .rcases aQ e Y.length with h | h
  .rcases h1 with h1 | h1
   .omega
   .right;rw[Krn h];exact h1
  .left;rw[aJ];omega
theorem Kgi (S:SWO lt) {y:α} {X:List α} (hX:X.Pairwise fun a b=>lt b a=false) (s:Nat) (hs:s<=X.length) (h1:s=0\/lt y X[s - 1]! = false) (h2:s=X.length\/lt y X[s]! = true):mrg lt X [y]=X.take s++y :: X.drop s:=by
 rw[Kix S hX (az _ _) s 0 hs (by simp) (h1.imp id .inr) (h2.imp id fun _=>.inl rfl),aW,Kbs,aX];congr 1;rw[Kix S (hX.drop) (az _ _) 0 1 (Nat.zero_le _) (by simp) (.inl rfl) ?_]
 .rw[aW,Kbr,show ([y].drop 1:List α) = [] from rfl,aX,Kbs];rfl
 .rcases aQ s X.length with h | h
  .rcases h2 with h2 | h2
   .omega
   .right;right;rw[Krn h];exact h2
  .left;rw[aJ];omega
theorem Kdr {A X T:List α} {i t:Nat} (hi:i < X.length) (ht:t=A.length+i):(A++(X++T)).toArray[t]! = X[i]!:=by subst ht;rw[i9 _ _ (by simp only[List.size_toArray,aL];omega),i9 X i hi];simp only[List.getElem_toArray];rw[aY (by omega)];simp only[Nat.add_sub_cancel_left];rw[List.getElem_append_left hi]
theorem Kdu {A X Y T:List α} {i t:Nat} (hi:i < Y.length) (ht:t=A.length+X.length+i):(A++(X++(Y++T))).toArray[t]! = Y[i]!:=by rw[<-aB];exact Kdr hi (by rw[aL];exact ht)
end
end
section
instance lbDecM:DecidableEq Lb:=fun a b=>if h:a.n=b.n/\a.v=b.v then isTrue (by cases a;cases b;obtain ⟨h1,h2⟩:=h;simp only at h1 h2;rw[h1,h2]) else isFalse (fun e=>h (by rw[e];exact ⟨rfl,rfl⟩))
def onceL {α : Type} (k:α->Int) (xs:List α):List α:=xs.foldl (fun a x=>insO k x a) []
def gS (l:List Ser) (L:List Lb):List Smp:=(l.filter fun x=>decide (x.labels=L)).flatMap Ser.samples
def gW (l:List Ser) (L:List Lb):List Wnd:=(l.filter fun x=>decide (x.labels=L)).flatMap Ser.windows
theorem Koq (a b:List Ser) (L:List Lb):gS (a++b) L=gS a L++gS b L:=by unfold gS;rw[aV,bg]
theorem Kos (a b:List Ser) (L:List Lb):gW (a++b) L=gW a L++gW b L:=by unfold gW;rw[aV,bg]
theorem Kor (s:Ser) (L:List Lb):gS [s] L=if s.labels=L then s.samples else []:=by unfold gS;by_cases h:s.labels=L <;> simp[h]
theorem Kot (s:Ser) (L:List Lb):gW [s] L=if s.labels=L then s.windows else []:=by unfold gW;by_cases h:s.labels=L <;> simp[h]
def ascS (l:List Ser):Prop:=l.Pairwise fun a b=>cmpL a.labels b.labels < 0
theorem Kog {a b:List Lb} (h:cmpL a b < 0):a≠b:=fun e=>by rw[e,Kcz] at h;exact jl h (by decide)
theorem Kmj:∀{a b:List Ser},ascS a->ascS b->(∀x,x∈a↔x∈b)->a=b
 | [],[],_,_,_=>rfl
 | [],y :: b,_,_,h=>jl ((h y).2 (ar ..)) (by simp)
 | x :: a,[],_,_,h=>jl ((h x).1 (ar ..)) (by simp)
 | x :: a,y :: b,ha,hb,h=>by
  obtain ⟨a1,a2⟩:=aw.1 ha;obtain ⟨b1,b2⟩:=aw.1 hb
  have aa:x=y:=by
   rcases a0.1 ((h x).1 (ar ..)) with e | h1
   .exact e
   .rcases a0.1 ((h y).2 (ar ..)) with e | h2
    .exact e.symm
    .have h3:=Kdf (b1 x h1) (a1 y h2);rw[Kcz] at h3;exact jl h3 (by decide)
  subst aa;congr 1;refine Kmj a2 b2 fun z=>⟨fun hz=>?_,fun hz=>?_⟩
  .rcases a0.1 ((h z).1 (av _ hz)) with e | hz2
   .subst e;exact jl rfl (Kog (a1 z hz))
   .exact hz2
  .rcases a0.1 ((h z).2 (av _ hz)) with e | hz2
   .subst e;exact jl rfl (Kog (b1 z hz))
   .exact hz2
structure IsGrp (l gs:List Ser):Prop where
 asc:ascS gs
 mem:∀g,g∈gs↔(∃x∈l,x.labels=g.labels)/\g.samples=gS l g.labels/\g.windows=gW l g.labels
 last:∀x,l.getLast? = some x->gs≠[]/\(lastS gs).labels=x.labels
theorem IsGrp.nil:IsGrp [] []:=⟨bw,fun g=>by simp,fun x h=>by simp at h⟩
theorem Knq (gs:List Ser) (x:Ser):lastS (gs ++ [x])=x:=by unfold lastS;simp
theorem Kvl {gs:List Ser} (h:gs≠[]):∃ini,gs=ini ++ [lastS gs]:=by have hp:0 < gs.length:=List.length_pos_iff.2 h;refine ⟨gs.dropLast,?_⟩;have:=(aT h).symm;rw[show lastS gs=gs.getLast h by unfold lastS;rw[i9 gs _ (by omega),List.getLast_eq_getElem]];exact this
theorem IsGrp.step {l gs:List Ser} (h:IsGrp l gs) (s:Ser) (hs:∀x,l.getLast? = some x->¬cmpL s.labels x.labels < 0) (hl:l.Pairwise fun a b=>¬cmpL b.labels a.labels < 0):IsGrp (l ++ [s]) (stepG gs s):=by
 have ao:∀g∈gs,∃x∈l,x.labels=g.labels:=fun g hg=>((h.mem g).1 hg).1
 unfold stepG openG
 by_cases hc:gs = []\/cmpL (lastS gs).labels s.labels≠0
 .rw[jf hc]
  have ak:∀g∈gs,cmpL g.labels s.labels < 0:=by
   intro g hg;have ad:gs≠[]:=fun e=>by rw[e] at hg;cases hg
   rcases hc with hc | hc
   .exact jl hc ad
   .obtain ⟨ini,aa⟩:=Kvl ad
    have ac:cmpL (lastS gs).labels s.labels < 0:=by
     obtain ⟨x,hx⟩:∃x,l.getLast? = some x:=by
      cases hq:l.getLast? with
      | some x=>exact ⟨x,rfl⟩
      | none=>
       have:l = []:=List.getLast?_eq_none_iff.1 hq;obtain ⟨y,hy,_⟩:=ao g hg;rw[this] at hy;cases hy
     have h1:=hs x hx;have h2:=(h.last x hx).2;rw[<-h2] at h1;have:=Kde (lastS gs).labels s.labels;omega
    have ha:=h.asc;rw[aa] at hg ha;rcases a7.1 hg with hg | hg
    .exact Kdf ((a5.1 ha).2.2 g hg _ (a4.2 rfl)) ac
    .rw[a4.1 hg];exact ac
  have ai:∀x∈l,x.labels≠s.labels:=by intro x hx e;have hg:(⟨x.labels,gS l x.labels,gW l x.labels⟩:Ser)∈gs:=(h.mem _).2 ⟨⟨x,hx,rfl⟩,rfl,rfl⟩;exact Kog (ak _ hg) e
  have ag:gS l s.labels = []/\gW l s.labels = []:=by
   have:l.filter (fun x=>decide (x.labels=s.labels)) = []:=a9.2 fun x hx=>by simpa using ai x hx
   unfold gS gW;rw[this];exact ⟨rfl,rfl⟩
  have ae:addG (gs ++ [⟨s.labels,[],[]⟩]) s=gs ++ [⟨s.labels,s.samples,s.windows⟩]:=by unfold addG;rw[Knq,aL,List.length_singleton,bi,aR _ _ (aZ _),aP];simp
  rw[ae];refine ⟨a5.2 ⟨h.asc,az _ _,fun g hg y hy=>?_⟩,fun g=>?_,fun x hx=>?_⟩
  .rw[a4.1 hy];exact ak g hg
  .rw[bo,aK,h.mem g,Koq,Kos,Kor,Kot];constructor
   .rintro (⟨⟨x,hx,e⟩,h1,h2⟩ | rfl)
    .have ad:s.labels≠g.labels:=fun e2=>ai x hx (e.trans e2.symm)
     rw[je ad,je ad,aA,aA];exact ⟨⟨x,aS _ hx,e⟩,h1,h2⟩
    .rw[jf rfl,jf rfl,ag.1,ag.2];exact ⟨⟨s,by simp,rfl⟩,rfl,rfl⟩
   .rintro ⟨⟨x,hx,e⟩,h1,h2⟩
    by_cases hsl:s.labels=g.labels
    .right;rw[jf hsl,<-hsl,ag.1] at h1;rw[jf hsl,<-hsl,ag.2] at h2;obtain ⟨g1,g2,g3⟩:=g;dsimp only at h1 h2 hsl;rw[hsl,h1,h2];rfl
    .left;rw[je hsl,aA] at h1 h2;rcases a7.1 hx with hx | hx
     .exact ⟨⟨x,hx,e⟩,h1,h2⟩
     .rw[a4.1 hx] at e;exact jl e hsl
  .rw[bl,bk,bq] at hx;injection hx with hx;subst hx;exact ⟨by simp,by rw[Knq]⟩
 .rw[je hc];have ad:gs≠[]:=fun e=>hc (.inl e)
  have hz:cmpL (lastS gs).labels s.labels=0:=bv fun e=>hc (.inr e)
  have ab:=Kdg hz;obtain ⟨ini,aa⟩:=Kvl ad
  have aq:lastS gs∈gs:=by have:lastS gs∈ini ++ [lastS gs]:=List.mem_append_right _ (a4.2 rfl);rw[<-aa] at this;exact this
  obtain ⟨⟨x0,hx0,e0⟩,am,aj⟩:=(h.mem (lastS gs)).1 aq
  have ae:addG gs s=ini ++ [⟨(lastS gs).labels,(lastS gs).samples++s.samples,(lastS gs).windows++s.windows⟩]:=by
   unfold addG;have ap:gs.length=ini.length+1:=by rw[aa];simp
   conv=>lhs;arg 1;rw[aa]
   rw[ap,bi,aR _ _ (aZ _),aP];simp
  have ha:=h.asc
  have ah:∀g∈ini,g∈gs/\g.labels≠s.labels:=fun g hg=>by rw[aa] at ha |-;have:=(a5.1 ha).2.2 g hg _ (a4.2 rfl);exact ⟨aS _ hg,fun e=>Kog this (by rw[e];exact ab.symm)⟩
  rw[ae];refine ⟨?_,fun g=>?_,fun x hx=>?_⟩
  .rw[aa] at ha;obtain ⟨p1,p2,p3⟩:=a5.1 ha;refine a5.2 ⟨p1,az _ _,fun g hg y hy=>?_⟩;rw[a4.1 hy];exact p3 g hg (lastS gs) (a4.2 rfl)
  .rw[bo,aK,Koq,Kos,Kor,Kot];constructor
   .rintro (hg | rfl)
    .obtain ⟨an,al⟩:=ah g hg;obtain ⟨⟨x,hx,e⟩,h1,h2⟩:=(h.mem g).1 an;rw[je (Ne.symm al),je (Ne.symm al),aA,aA];exact ⟨⟨x,aS _ hx,e⟩,h1,h2⟩
    .dsimp only;rw[jf ab.symm,jf ab.symm,<-am,<-aj];exact ⟨⟨s,by simp,ab.symm⟩,rfl,rfl⟩
   .rintro ⟨⟨x,hx,e⟩,h1,h2⟩
    by_cases hsl:s.labels=g.labels
    .right;rw[jf hsl,<-hsl,<-ab,<-am] at h1;rw[jf hsl,<-hsl,<-ab,<-aj] at h2;obtain ⟨g1,g2,g3⟩:=g;dsimp only at h1 h2 hsl;rw[h1,h2,ab,hsl]
    .left;rw[je hsl,aA] at h1 h2
     have af:g∈gs:=(h.mem g).2 ⟨by
      rcases a7.1 hx with hx | hx
      .exact ⟨x,hx,e⟩
      .rw[a4.1 hx] at e;exact jl e hsl,h1,h2⟩
     rw[aa] at af;rcases a7.1 af with af | af
     .exact af
     .rw[a4.1 af] at hsl;exact jl ab.symm hsl
  .rw[bl,bk,bq] at hx;injection hx with hx;subst hx;exact ⟨by simp,by rw[Knq];exact ab⟩
theorem Qdk:∀(l p gs:List Ser),((p++l).Pairwise fun a b=>¬cmpL b.labels a.labels < 0)->IsGrp p gs->IsGrp (p++l) (l.foldl stepG gs)
 | [],p,gs,_,h=>by simpa using h
 | s :: l,p,gs,hp,h=>by rw[aM,show p++s :: l=(p ++ [s])++l by simp];obtain ⟨p1,p2,p3⟩:=a5.1 hp;refine Qdk l (p ++ [s]) (stepG gs s) (by simpa using hp) (h.step s (fun x hx=>p3 x (List.mem_of_getLast? hx) s (ar ..)) p1)
theorem Kvc {α : Type} (k:α->Int) (x:α):∀l:List α,0 < (insO k x l).length/\l.length<=(insO k x l).length
 | []=>by simp[insO]
 | y :: l=>by
  unfold insO
  split
  .simp
  .split
   .simp
   .have:=Kvc k x l;simp only[ay];omega
theorem Khx {α : Type} (k:α->Int):∀(xs l:List α),l.length<=(xs.foldl (fun a x=>insO k x a) l).length/\(0 < xs.length->0 < (xs.foldl (fun a x=>insO k x a) l).length)
 | [],l=>by simp
 | x :: xs,l=>by rw[aM];have h1:=Khx k xs (insO k x l);have h2:=Kvc k x l;exact ⟨by omega,fun _=>by omega⟩
theorem Kds {α : Type} (k:α->Int) (xs:List α):0 < (onceL k xs).length↔0 < xs.length:=by
 constructor
 .intro h
  cases xs with
  | nil=>simp[onceL] at h
  | cons x l=>simp
 .exact (Khx k xs []).2
theorem Kry {α : Type} (k:α->Int) (a b:List α):onceL k (a++b)=b.foldl (fun a x=>insO k x a) (onceL k a):=by unfold onceL;rw[List.foldl_append]
def Kbg:List Ser->Ser->List Ser
 | [],s=>[⟨s.labels,onceL Smp.t s.samples,onceL bt s.windows⟩]
 | y :: l,s=>if y.labels=s.labels then ⟨y.labels,s.samples.foldl (fun a x=>insO Smp.t x a) y.samples,s.windows.foldl (fun a x=>insO bt x a) y.windows⟩ :: l
  else if cmpL s.labels y.labels < 0 then ⟨s.labels,onceL Smp.t s.samples,onceL bt s.windows⟩ :: y :: l else y :: Kbg l s
def Kcn (out:List Ser) (s:Ser):List Ser:=if Kam s=true then Kbg out s else out
def Kaf (l:List Ser):List Ser:=l.foldl Kcn []
structure IsMrg (l out:List Ser):Prop where
 asc:ascS out
 mem:∀g,g∈out↔Kam g=true/\g.samples=onceL Smp.t (gS l g.labels)/\g.windows=onceL bt (gW l g.labels)
theorem IsMrg.unique {l a b:List Ser} (ha:IsMrg l a) (hb:IsMrg l b):a=b:=Kmj ha.asc hb.asc fun x=>(ha.mem x).trans (hb.mem x).symm
theorem Keh (g:Ser):Kam g=true↔0 < g.samples.length\/0 < g.windows.length:=by unfold Kam;rw[i8];omega
theorem IsGrp.merged {l gs:List Ser} (h:IsGrp l gs):IsMrg l ((gs.map Kaz).filter Kam):=by
 refine ⟨?_,fun g=>?_⟩
 .refine bx _ ?_;rw[List.pairwise_map];exact h.asc
 .rw[List.mem_filter,List.mem_map];constructor
  .rintro ⟨⟨g0,aa,rfl⟩,h2⟩;obtain ⟨_,h3,h4⟩:=(h.mem g0).1 aa;refine ⟨h2,?_,?_⟩
   .show onceL Smp.t g0.samples=_;rw[h3];rfl
   .show onceL bt g0.windows=_;rw[h4];rfl
  .rintro ⟨h1,h2,h3⟩;refine ⟨⟨⟨g.labels,gS l g.labels,gW l g.labels⟩,(h.mem _).2 ⟨?_,rfl,rfl⟩,?_⟩,h1⟩
   .refine bv fun hn=>?_
    have hf:l.filter (fun x=>decide (x.labels=g.labels)) = []:=a9.2 fun x hx he=>hn ⟨x,hx,by simpa using he⟩
    have e1:gS l g.labels = []:=by unfold gS;rw[hf];rfl
    have e2:gW l g.labels = []:=by unfold gW;rw[hf];rfl
    rw[e1] at h2;rw[e2] at h3;rw[Keh,h2,h3] at h1;simp[onceL] at h1
   .obtain ⟨g1,g2,g3⟩:=g;dsimp only at h2 h3 |-;rw[h2,h3];rfl
theorem Kpb (z:List Lb) (s:Ser):∀out:List Ser,(∀g∈out,cmpL z g.labels < 0)->cmpL z s.labels < 0->∀g∈Kbg out s,cmpL z g.labels < 0
 | [],_,h,g,hg=>by rw[Kbg,aK] at hg;rw[hg];exact h
 | y :: l,h1,h,g,hg=>by
  rw[Kbg] at hg
  split at hg
  .rcases a0.1 hg with rfl | hg
   .exact h1 y (ar ..)
   .exact h1 g (av _ hg)
  .split at hg
   .rcases a0.1 hg with rfl | hg
    .exact h
    .exact h1 g hg
   .rcases a0.1 hg with rfl | hg
    .exact h1 g (ar ..)
    .exact Kpb z s l (fun g hg=>h1 g (av _ hg)) h g hg
theorem Kpa (s:Ser):∀out:List Ser,ascS out->ascS (Kbg out s)
 | [],_=>by rw[Kbg];exact az _ _
 | y :: l,h=>by
  obtain ⟨h1,h2⟩:=aw.1 h;rw[Kbg]
  split
  .exact aw.2 ⟨h1,h2⟩
  .rename_i hne
   split
   .rename_i hlt
    refine aw.2 ⟨fun g hg=>?_,h⟩;rcases a0.1 hg with rfl | hg
    .exact hlt
    .exact Kdf hlt (h1 g hg)
   .rename_i hge
    have aa:cmpL y.labels s.labels < 0:=by
     have h3:=Kde y.labels s.labels;rcases (by omega:cmpL y.labels s.labels < 0\/cmpL y.labels s.labels=0) with h4 | h4
     .exact h4
     .exact jl (Kdg h4) hne
    exact aw.2 ⟨Kpb y.labels s l h1 aa,Kpa s l h2⟩
theorem Kpc (s:Ser):∀(out:List Ser),ascS out->∀g,g∈Kbg out s↔(g∈out/\g.labels≠s.labels)\/(g.labels=s.labels/\((∃y∈out,y.labels=s.labels/\g.samples=s.samples.foldl (fun a x=>insO Smp.t x a) y.samples/\g.windows=s.windows.foldl (fun a x=>insO bt x a) y.windows)\/((∀y∈out,y.labels≠s.labels)/\g.samples=onceL Smp.t s.samples/\g.windows=onceL bt s.windows)))
 | [],_,g=>by
  rw[Kbg,aK];constructor
  .rintro rfl;exact .inr ⟨rfl,.inr ⟨fun y hy=>jl hy aD,rfl,rfl⟩⟩
  .rintro (⟨h,_⟩ | ⟨h,⟨y,hy,_⟩ | ⟨_,h1,h2⟩⟩)
   .cases h
   .cases hy
   .obtain ⟨g1,g2,g3⟩:=g;dsimp only at h h1 h2;rw[h,h1,h2]
 | y :: l,ha,g=>by
  obtain ⟨a1,a2⟩:=aw.1 ha
  have aa:∀z,cmpL z y.labels < 0\/z=y.labels->∀x∈l,x.labels≠z:=fun z hz x hx e=>by
   have h1:=a1 x hx;rcases hz with hz | hz
   .have h2:=Kdf hz h1;rw[e,Kcz] at h2;exact jl h2 (by decide)
   .rw[e,hz,Kcz] at h1;exact jl h1 (by decide)
  rw[Kbg]
  split
  .rename_i he
   have hl:=aa s.labels (.inr he.symm);rw[aF];constructor
   .rintro (rfl | hg)
    .exact .inr ⟨he,.inl ⟨y,ar ..,he,rfl,rfl⟩⟩
    .exact .inl ⟨av _ hg,hl g hg⟩
   .rintro (⟨h,hn⟩ | ⟨h,⟨x,hx,e,h1,h2⟩ | ⟨hn,_⟩⟩)
    .rcases a0.1 h with rfl | h
     .exact jl he hn
     .exact .inr h
    .rcases a0.1 hx with rfl | hx
     .left;obtain ⟨g1,g2,g3⟩:=g;dsimp only at h h1 h2;rw[h,h1,h2,he]
     .exact jl e (hl x hx)
    .exact jl he (hn y (ar ..))
  .rename_i hne
   split
   .rename_i hlt
    have hl:=aa s.labels (.inl hlt);rw[aF];constructor
    .rintro (rfl | hg)
     .refine .inr ⟨rfl,.inr ⟨fun x hx=>?_,rfl,rfl⟩⟩;rcases a0.1 hx with rfl | hx
      .exact hne
      .exact hl x hx
     .refine .inl ⟨hg,?_⟩;rcases a0.1 hg with rfl | hg
      .exact hne
      .exact hl g hg
    .rintro (⟨h,hn⟩ | ⟨h,⟨x,hx,e,_⟩ | ⟨_,h1,h2⟩⟩)
     .exact .inr h
     .rcases a0.1 hx with rfl | hx
      .exact jl e hne
      .exact jl e (hl x hx)
     .left;obtain ⟨g1,g2,g3⟩:=g;dsimp only at h h1 h2;rw[h,h1,h2]
   .rw[aF,Kpc s l a2 g];constructor
    .rintro (rfl | ⟨h,hn⟩ | ⟨h,⟨x,hx,e⟩ | ⟨hn,e⟩⟩)
     .exact .inl ⟨ar ..,hne⟩
     .exact .inl ⟨av _ h,hn⟩
     .exact .inr ⟨h,.inl ⟨x,av _ hx,e⟩⟩
     .refine .inr ⟨h,.inr ⟨fun x hx=>?_,e⟩⟩;rcases a0.1 hx with rfl | hx
      .exact hne
      .exact hn x hx
    .rintro (⟨h,hn⟩ | ⟨h,⟨x,hx,e⟩ | ⟨hn,e⟩⟩)
     .rcases a0.1 h with rfl | h
      .exact .inl rfl
      .exact .inr (.inl ⟨h,hn⟩)
     .rcases a0.1 hx with rfl | hx
      .exact jl e.1 hne
      .exact .inr (.inr ⟨h,.inl ⟨x,hx,e⟩⟩)
     .exact .inr (.inr ⟨h,.inr ⟨fun x hx=>hn x (av _ hx),e⟩⟩)
theorem IsMrg.step {l out:List Ser} (h:IsMrg l out) (s:Ser):IsMrg (l ++ [s]) (Kcn out s):=by
 unfold Kcn
 by_cases hs:Kam s=true
 .rw[jf hs];refine ⟨Kpa s out h.asc,fun g=>?_⟩;rw[Kpc s out h.asc g,Koq,Kos,Kor,Kot]
  by_cases hl:g.labels=s.labels
  .rw[jf hl.symm,jf hl.symm,Kry,Kry,hl];have hg:Kam g=true↔0 < g.samples.length\/0 < g.windows.length:=Keh g;have ab:=(Keh s).1 hs;constructor
   .rintro (⟨_,h1⟩ | ⟨_,⟨y,hy,e,h1,h2⟩ | ⟨hn,h1,h2⟩⟩)
    .exact jl rfl h1
    .obtain ⟨_,h3,h4⟩:=(h.mem y).1 hy;rw[e] at h3 h4;rw[h3] at h1;rw[h4] at h2;refine ⟨?_,h1,h2⟩;rw[hg,h1,h2];have f1:=(Khx Smp.t s.samples (onceL Smp.t (gS l s.labels))).2;have f2:=(Khx bt s.windows (onceL bt (gW l s.labels))).2;exact ab.imp f1 f2
    .have aa:gS l s.labels = []/\gW l s.labels = []:=by
      refine bv fun hc=>?_
      refine hn ⟨s.labels,onceL Smp.t (gS l s.labels),onceL bt (gW l s.labels)⟩ ((h.mem _).2 ⟨?_,rfl,rfl⟩) rfl;rw[Keh];dsimp only;rw[Kds,Kds];rcases aI (gS l s.labels).length with q | q
      .rcases aI (gW l s.labels).length with q2 | q2
       .exact jl ⟨ax q,ax q2⟩ hc
       .exact .inr q2
      .exact .inl q
     rw[aa.1,aa.2];refine ⟨?_,h1,h2⟩;rw[hg,h1,h2,Kds,Kds];exact ab
   .rintro ⟨h0,h1,h2⟩;refine .inr ⟨rfl,?_⟩
    by_cases hy:∃y∈out,y.labels=s.labels
    .obtain ⟨y,hy,e⟩:=hy;obtain ⟨_,h3,h4⟩:=(h.mem y).1 hy;rw[e] at h3 h4;exact .inl ⟨y,hy,e,by rw[h3];exact h1,by rw[h4];exact h2⟩
    .have hn:∀y∈out,y.labels≠s.labels:=fun y hy' e=>hy ⟨y,hy',e⟩
     have aa:gS l s.labels = []/\gW l s.labels = []:=by
      refine bv fun hc=>?_
      refine hn ⟨s.labels,onceL Smp.t (gS l s.labels),onceL bt (gW l s.labels)⟩ ((h.mem _).2 ⟨?_,rfl,rfl⟩) rfl;rw[Keh];dsimp only;rw[Kds,Kds];rcases aI (gS l s.labels).length with q | q
      .rcases aI (gW l s.labels).length with q2 | q2
       .exact jl ⟨ax q,ax q2⟩ hc
       .exact .inr q2
      .exact .inl q
     rw[aa.1] at h1;rw[aa.2] at h2;exact .inr ⟨hn,h1,h2⟩
  .rw[je (Ne.symm hl),je (Ne.symm hl),aA,aA,<-h.mem g];constructor
   .rintro (⟨h1,_⟩ | ⟨h1,_⟩)
    .exact h1
    .exact jl h1 hl
   .intro h1;exact .inl ⟨h1,hl⟩
 .rw[je hs]
  have h0:s.samples = []/\s.windows = []:=by
   have:=fun q=>hs ((Keh s).2 q)
   exact ⟨ax (by rcases aI s.samples.length with q | q;exact q;exact jl (.inl q) this),ax (by rcases aI s.windows.length with q | q;exact q;exact jl (.inr q) this)⟩
  refine ⟨h.asc,fun g=>?_⟩;rw[h.mem g,Koq,Kos,Kor,Kot,h0.1,h0.2];simp
theorem Kfs:∀(l p out:List Ser),IsMrg p out->IsMrg (p++l) (l.foldl Kcn out)
 | [],p,out,h=>by simpa using h
 | s :: l,p,out,h=>by rw[aM,show p++s :: l=(p ++ [s])++l by simp];exact Kfs l (p ++ [s]) _ (h.step s)
theorem IsMrg.nil:IsMrg [] []:=⟨bw,fun g=>by
 constructor
 .intro h;cases h
 .rintro ⟨h1,h2,h3⟩;rw[Keh,h2,h3] at h1
  simp[onceL,gS,gW] at h1⟩
theorem Qdx {xs ys:List Ser} (hs:ys.Pairwise fun a b=>¬cmpL b.labels a.labels < 0) (hk:∀L,ys.filter (fun x=>decide (x.labels=L))=xs.filter (fun x=>decide (x.labels=L))):Kev ys=Kaf xs:=by
 have h1:IsMrg ys (Kev ys):=by have:=Qdk ys [] [] (by simpa using hs) IsGrp.nil;simp only[aC] at this;exact this.merged
 have h2:IsMrg xs (Kaf xs):=by have:=Kfs xs [] [] IsMrg.nil;rw[aC] at this;exact this
 refine IsMrg.unique h1 ⟨h2.asc,fun g=>?_⟩;rw[h2.mem g];unfold gS gW;rw[hk]
end
section
open Go.Sort
theorem ixf {i N:Nat} (h:i < N) (hN:N < 4611686018427387904):((i:Int)).toNat=i/\(0:Int)<=(i:Int)/\(i:Int) < (N:Int)/\IntKind.i64.wrap (i:Int)=(i:Int):=⟨by omega,by omega,by omega,by rw[IntKind.wrap_i64];omega⟩
theorem Kqs {α : Type} {A X1 X2 Y1 R:List α} (h:X2.length=0\/Y1.length=0):A++(X1++(X2++(Y1++R)))=A++(X1++(Y1++(X2++R))):=by rcases h with h | h <;> rw[ax h] <;> simp
theorem Kgx {α : Type} (lt:α->α->Bool) {A X Y R:List α} (h:X.length=0\/Y.length=0):A++(X++(Y++R))=A++(mrg lt X Y++R):=by
 rcases h with h | h <;> rw[ax h]
 .rw[Kbr];simp
 .rw[Kbs];simp
theorem Klt {α : Type} [Inhabited α] {lt:α->α->Bool} {A X Y S:List α} {dk:Array α} {a m b mid lo hi e j nn N:Nat} (SW:SWO lt) (hdk:dk=(A++(X++(Y++S))).toArray) (hl:A.length+X.length+Y.length+S.length=N) (ha:a=A.length) (hm:m=a+X.length) (hb:b=m+Y.length)
  (hX:X.Pairwise fun a b=>lt b a=false) (hY:Y.Pairwise fun a b=>lt b a=false) (hnn:X.length+Y.length<=nn+1) (X2:1 < X.length) (Y2:1 < Y.length) (hmid3:2*mid<=a+b) (hmid4:a+b<=2*mid+1)
  (hcase:(mid < m/\lo+b=mid+m/\hi=mid)\/(m<=mid/\lo=a/\hi=m)) (he:e=mid+m - j) (h1:lo<=j) (h2:j<=hi) (hal:a<=lo) (him:hi<=m) (himid:hi<=mid) (hlob:mid+m<=lo+b)
  (hB1:j=lo\/lt dk[mid+m - j]! dk[j - 1]! = false) (hB2:j=hi\/lt dk[mid+m - 1 - j]! dk[j]! = true) :
  ∃X1 X2 Y1 Y2:List α,dk=(A++(X1++(X2++(Y1++(Y2++S))))).toArray/\mrg lt X Y=mrg lt X1 Y1++mrg lt X2 Y2/\a=A.length/\j=a+X1.length/\m=j+X2.length/\e=m+Y1.length/\b=e+Y2.length/\mid=j+Y1.length/\X1.length+Y1.length<=nn/\X2.length+Y2.length<=nn/\
   A.length+X1.length+X2.length+Y1.length+Y2.length+S.length=N/\(X1.Pairwise fun a b=>lt b a=false)/\(X2.Pairwise fun a b=>lt b a=false)/\(Y1.Pairwise fun a b=>lt b a=false)/\(Y2.Pairwise fun a b=>lt b a=false):=by
 have DX:∀t,a<=t->t < m->dk[t]! = X[t - a]!:=fun t h1 h2=>by rw[hdk,Kdr (A:=A) (X:=X) (T:=Y++S) (i:=t - a) (by omega) (by omega)]
 have DY:∀t,m<=t->t < b->dk[t]! = Y[t - m]!:=fun t h1 h2=>by rw[hdk,Kdu (A:=A) (X:=X) (Y:=Y) (T:=S) (i:=t - m) (by omega) (by omega)]
 have hcut:=Kix SW hX hY (j - a) (e - m) (by omega) (by omega) ?_ ?_
 .have t1:(X.take (j - a)).length=j - a:=by rw[bc];omega
  have t2:(X.drop (j - a)).length=m - j:=by rw[aJ];omega
  have t3:(Y.take (e - m)).length=e - m:=by rw[bc];omega
  have t4:(Y.drop (e - m)).length=b - e:=by rw[aJ];omega
  refine ⟨X.take (j - a),X.drop (j - a),Y.take (e - m),Y.drop (e - m),?_,hcut,ha,by omega,by omega,by omega,by omega,by omega,by omega,by omega,by omega,hX.take,hX.drop,hY.take,hY.drop⟩;rw[hdk,<-aB (X.take (j - a)),aN,<-aB (Y.take (e - m)),aN]
 .rcases hB1 with h | h
  .rcases hcase with ⟨_,_,_⟩ | ⟨_,_,_⟩
   .right;left;omega
   .left;omega
  .rcases aQ a j with hj1 | hj1
   .rcases aQ e b with hb1 | hb1
    .right;right;rw[<-he,DY e (by omega) hb1,DX (j - 1) (by omega) (by omega)] at h;rw[show j - a - 1=j - 1 - a by omega];exact h
    .right;left;omega
   .left;omega
 .rcases hB2 with h | h
  .rcases hcase with ⟨_,_,_⟩ | ⟨_,_,_⟩
   .right;left;omega
   .left;omega
  .rcases aQ j m with hj1 | hj1
   .rcases aQ m e with hb1 | hb1
    .right;right;rw[show mid+m - 1 - j=e - 1 by omega,DY (e - 1) (by omega) (by omega),DX j (by omega) (by omega)] at h;rw[show e - m - 1=e - 1 - m by omega];exact h
    .right;left;omega
   .left;omega
end
end Go.Proofs.YtdoiekknhnbepaaGreatDoor
