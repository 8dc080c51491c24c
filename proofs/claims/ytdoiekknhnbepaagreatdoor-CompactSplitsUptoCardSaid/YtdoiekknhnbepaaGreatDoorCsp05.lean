/- Merged (what the claim wants of): MrgPut2, SpnPlain, PostPlain, CrcPlain, BlkPlain2, BlkPlain3, PostWalksA, KeyMap, KeyMap2, BitWalks, ResRow, ChkWalksA, ShelfC, ChkWalksB, ChkWalksC. -/
import Derived.Test.YtdoiekknhnbepaaGreatDoorCsp04
import Derived.WideKeyEntry
import Derived.Shelf.Spec.TrailingZeros
set_option linter.unusedVariables false
set_option linter.unusedSimpArgs false
set_option maxRecDepth 1000000
set_option maxHeartbeats 8000000
namespace Go.Proofs.YtdoiekknhnbepaaGreatDoor
open Go renaming wpQuiet_nil->cq
open List renaming pairwise_cons->a1,mem_cons->a2,getElem?_eq_none->a6,getElem?_eq_getElem->a7,mem_iff_getElem?->a9,pairwise_map->ba,getElem?_map->bb,length->be,range->bl
open _root_.Array renaming getElem?_eq_some_iff->bp,getElem?_toList->bx,getElem?_modify->bA,getElem?_setIfInBounds->bL,ext'->bN
open Lib renaming byteCells->bO,bitLenAux->bQ,ctzFrom->bR,bitLen->bS,ctz->bT
open Instr renaming entryStore->bU,mapEntry->bV,index->bW,lookup->bX
open UInt8 renaming ofNat->bY,toNat_lt->bZ
open MapKept renaming run_getObj_map->b0,run_setObj_map->b5
open World.ownsRow renaming lt->b6,frozenAt->b7,cellAt->b8,stored->b9,alloc->ca
open IntKind renaming u64->cb,wrap_u64->cc,u8->cd,wrap_u8->ce
open WideElems renaming findIdx_born->cf,findIdx_arr->cg,modify_last->ci,set_self->cj
open Builtin renaming zeroCells->cm,clear_->cn
open Result renaming andThen->co
open List.Pairwise renaming nil->cp
open Tryz
open List renaming append_assoc->aW,take_succ_cons->aY,drop_succ_cons->aZ,length_append->bc,take_zero->bd,drop_zero->bf,replicate->bg,mem_of_getElem?->bh,length_replicate->bi,size_toArray->bj,pairwise_singleton->bo,mem_cons->bt,length_take->bv,length_eq_zero_iff->bw,length_singleton->bz,take_take->bC,pairwise_cons->bF,mem_singleton->bG,take_sublist->bH,cons_append->bJ,length_cons->bK,all_eq_true->bM
open Nat renaming le_trans->aX,le_refl->a8,shiftRight_eq_div_pow->bm,lt_of_le_of_lt->bn,shiftRight_le->bs,mul_le_mul_right->bB,xor_lt_two_pow->bE,min_eq_left->bP
open _root_.Array renaming toList_push->bq,toList_modify->bD,toList->bI
open Bool renaming and_eq_true->br
section
open Go.Shelf Go.RowKit Go.Lib Go.Sort
theorem Kll (b:Nat):∀(vs us:List Value) (o:Nat) (w:World),w.setCells b o (vs++us)=(w.setCells b o vs).setCells b (o+vs.length) us
 | [],us,o,w=>rfl
 | v :: vs,us,o,w=>by rw[bJ,World.setCells,World.setCells,Kll b vs us (o+1),bK];congr 1;omega
theorem Knt {xs:List Value} {B n k g cap i:Nat} {T:TypeId} {w:World} (h:w.ownsRow B T k (.slice (some ⟨g,0,none⟩) n cap) n xs) (hi:i<=n):w.ownsRow B T k (.slice (some ⟨g,0,none⟩) i cap) i (xs.take (i*k)):=by
 rcases h.2 with ⟨h',_⟩ | ⟨g',cap',cur,h',hb,hg,hnc,hcm,hcs,htake⟩
 .cases h'
 .injection h' with h1 _ h3;injection h1 with h1;injection h1 with h1 _ _;subst h1 h3;have aa:i*k<=n*k:=bB k hi;refine ⟨by rw[bv,h.1];omega,.inr ⟨g,cap,cur,rfl,hb,hg,by omega,hcm,hcs,?_⟩⟩;rw[<-htake,bC,bP aa]
section
variable {α : Type} [Inhabited α] {enc : α -> List Value} {k : Nat} {w0 : World} {blk off : Nat} {d0 : Array α}
theorem Qfb (hk:∀x,(enc x).length=k) (h0:0 < k) (z:α) (n:Nat):(cm (enc z).toArray n).toList=(bg n z).flatMap enc:=by
 have hl:(cm (enc z).toArray n).toList.length=n*k:=by simp[cm,hk]
 have h1:((bg n z).flatMap enc).length=n*k:=by rw[Kdh hk,bi]
 apply List.ext_getElem?;intro t
 by_cases ht:t < n*k
 .rw[Kkw hk h0 (l:=bg n z) (by rw[bi];exact ht)];have hd:t / k < (bg n z).length:=by rw[bi];exact Nat.div_lt_of_lt_mul (by rw[Nat.mul_comm];exact ht)
  have aa:(bg n z)[t / k]! = z:=by rw[i9 (bg n z) (t / k) hd,List.getElem_replicate]
  rw[aa,a7 (by rw[hl];exact ht)];simp[cm,hk]
 .rw[a6 (by rw[hl];omega),a6 (by rw[h1];omega)]
theorem Kwu (R:RowK enc k w0 blk off d0) (z:α):∀(n i:Nat) (dk:Array α) (W:World),SWK enc k w0 blk off dk W->i+n<=dk.size->∃dk':Array α,dk'.size=dk.size/\dk'.toList.take i=dk.toList.take i/\SWK enc k w0 blk off dk' (W.setCells blk (off+i*k) ((bg n z).flatMap enc))
 | 0,i,dk,W,h,_=>⟨dk,rfl,rfl,h⟩
 | n+1,i,dk,W,h,hi=>by rw[List.replicate_succ,List.flatMap_cons,Kll,R.hk,show off+i*k+k=off+(i+1)*k by rw[Nat.succ_mul];omega];obtain ⟨dk',h1,h2,h3⟩:=Kwu R z n (i+1) (dk.setIfInBounds i z) _ (SWK.put h R i (by omega) z) (by simp;omega);refine ⟨dk',by simpa using h1,?_,h3⟩;have h4:=jk (List.take i) h2;rw[bC,bC,bP (Nat.le_succ i),Array.toList_setIfInBounds,List.take_set_of_le (a8 i)] at h4;exact h4
theorem Kls {P:Program} {S T:TypeId} (hu:P.underlying S=some (.slice T)) (z:α) (hz:∀w,(zeroValue T).run P w = .ok (.agg (enc z).toArray) w) (h0:0 < k) (R:RowK enc k w0 blk off d0) {N:Nat} (hN:d0.size=N) (W:World) (dk:Array α) (i c:Nat) (hdk:dk.size=N) (h:SWK enc k w0 blk off dk W) (hi:i<=N) :
  ∃W',(∀ty,(cn #[S] ty #[.slice (some ⟨blk,off+i*k,none⟩) (N - i) c]).run P W = .ok (.tuple #[]) W')/\∃dk':Array α,dk'.size=N/\dk'.toList.take i=dk.toList.take i/\SWK enc k w0 blk off dk' W':=by
 rcases Nat.eq_zero_or_pos (N - i) with h1 | h1
 .refine ⟨W,?_,dk,hdk,rfl,h⟩;intro ty;rw[h1];simp[cn,run_underlying hu]
 .obtain ⟨dk',e1,e2,e3⟩:=Kwu R z (N - i) i dk W h (by omega);refine ⟨W.setCells blk (off+i*k) ((bg (N - i) z).flatMap enc),?_,dk',by omega,e2,e3⟩
  have aa:=stores_of_holds P (h.holds R.hblk R.hH (by omega)) (i*k) ((bg (N - i) z).flatMap enc) (by
   rw[Kdh R.hk,bi,size_flatK,hdk,<-Nat.add_mul]
   exact bB k (by omega)) (fun v hv=>by
    obtain ⟨x,hx,hv⟩:=List.mem_flatMap.1 hv
    exact R.h1 x v hv)
  rw[<-Qfb R.hk h0] at aa |-;obtain ⟨m,hm⟩:∃m,N - i=m+1:=⟨N - i - 1,by omega⟩;rw[hm] at aa |-;intro ty;have ab:(Value.agg (enc z).toArray).cells=(enc z).toArray:=rfl;simp[cn,run_underlying hu,hz,ab,aa]
end
end
section
structure Spn where
 frm:Int
 to_:Int
def Kcr:Nat->List Nat->List UInt8
 | _,[]=>[]
 | a,x :: l=>uintT (x - a)++Kcr x l
def postT (l:List Nat):List UInt8:=uintT l.length++Kcr 0 l
def zig (v:Int):Nat:=if 0<=v then (2*v).toNat else (-2*v - 1).toNat
theorem Kxg {v:Int} (h1:-9223372036854775808<=v) (h2:v<=9223372036854775807):zig v < 2 ^ 64:=by
 unfold zig
 split <;> omega
def intT (v:Int):List UInt8:=uintT (zig v)
def nibs:List Nat:=[0x00000000,0x105ec76f,0x20bd8ede,0x30e349b1,0x417b1dbc,0x5125dad3,0x61c69362,0x7198540d,0x82f63b78,0x92a8fc17,0xa24bb5a6,0xb21572c9,0xc38d26c4,0xd3d3e1ab,0xe330a81a,0xf36e6f75]
def nibN (c:Nat):Nat:=nibs.getD (c % 16) 0 ^^^ (c / 16)
def crcB (c:Nat) (b:UInt8):Nat:=nibN (nibN (c ^^^ b.toNat))
def crcF (c:Nat) (l:List UInt8):Nat:=l.foldl crcB c
def crcL (l:List UInt8):Nat:=crcF 4294967295 l ^^^ 4294967295
theorem Kzu:∀i,nibs.getD i 0 < 4294967296:=by
 intro i
 by_cases h:i < 16
 .revert i
  decide
 .have:nibs.length<=i:=by simp[nibs];omega
  rw[List.getD_eq_getElem?_getD,a6 this];decide
theorem Kht {a b:Nat} (ha:a < 4294967296) (hb:b < 4294967296):a ^^^ b < 4294967296:=bE (n:=32) ha hb
theorem Kmd {c:Nat} (h:c < 4294967296):nibN c < 4294967296:=Kht (Kzu _) (by omega)
theorem Qho {c:Nat} (h:c < 4294967296) (b:UInt8):crcB c b < 4294967296:=Kmd (Kmd (Kht h (by have:=bZ b;omega)))
theorem Kzj:∀(l:List UInt8) {c:Nat},c < 4294967296->crcF c l < 4294967296
 | [],_,h=>h
 | b :: l,_,h=>Kzj l (Qho h b)
theorem Qhp (l:List UInt8):crcL l < 4294967296:=Kht (Kzj l (by decide)) (by decide)
theorem Kxp (c:Nat) (l m:List UInt8):crcF c (l++m)=crcF (crcF c l) m:=by unfold crcF;rw[List.foldl_append]
theorem Qcw (c:Nat) (l:List UInt8) (b:UInt8):crcF c (l ++ [b])=crcB (crcF c l) b:=by rw[Kxp];rfl
def fourT (v:Nat):List UInt8:=[bY v,bY (v / 256),bY (v / 65536),bY (v / 16777216)]
def sealT (b:List UInt8):List UInt8:=b++fourT (crcL b)
theorem Ksf (b:List UInt8):(sealT b).length=b.length+4:=by simp[sealT,fourT]
end
section
open Go.RowKit
def Kby:Nat->List Smp->List (List Smp)
 | 0,_=>[]
 | _+1,[]=>[]
 | f+1,x :: l=>(x :: l).take 120 :: Kby f ((x :: l).drop 120)
theorem Kmr:∀(f:Nat) (l p:List Smp),p∈Kby f l->p≠[]/\p.length<=120/\p.Sublist l
 | 0,_,_,h=>by simp[Kby] at h
 | _+1,[],_,h=>by simp[Kby] at h
 | f+1,x :: l,p,h=>by
  rw[Kby,bt] at h;rcases h with rfl | h
  .exact ⟨by simp,by rw[bv];omega,bH _ _⟩
  .obtain ⟨h1,h2,h3⟩:=Kmr f _ p h;exact ⟨h1,h2,h3.trans (List.drop_sublist _ _)⟩
theorem Kgj:∀(f:Nat) (l:List Smp),(Kby f l).length<=f
 | 0,_=>a8 _
 | _+1,[]=>Nat.zero_le _
 | f+1,x :: l=>by rw[Kby,bK];have:=Kgj f ((x :: l).drop 120);omega
def aggsT:List Wnd->List (List UInt8)
 | []=>[]
 | w :: l=>[aggT (w :: l)]
def Kbf (s:Ser):List (List UInt8):=(Kby s.samples.length s.samples).map Kdb++aggsT s.windows
def lensT (P:List (List UInt8)):List UInt8:=P.flatMap fun p=>uintT p.length
def serT (t:List Txt) (s:Ser):List UInt8:=pk t s.labels++(uintT (Kbf s).length++lensT (Kbf s))
theorem Kgt:∀{l:List Smp},Rises l↔l.Pairwise fun a b=>a.t < b.t
 | []=>⟨fun _=>cp,fun _=>trivial⟩
 | [x]=>⟨fun _=>bo _ _,fun _=>trivial⟩
 | x :: y :: l=>by
  have ih:=Kgt (l:=y :: l);rw[Rises,bF,ih];constructor
  .rintro ⟨h1,h2⟩;refine ⟨fun z hz=>?_,h2⟩;rcases a2.1 hz with rfl | hz
   .exact h1
   .have:=(a1.1 h2).1 z hz;omega
  .rintro ⟨h1,h2⟩;exact ⟨h1 y (by simp),h2⟩
theorem Kph:∀{l:List Int},riseI l=true↔l.Pairwise fun a b=>a < b
 | []=>⟨fun _=>cp,fun _=>rfl⟩
 | [x]=>⟨fun _=>bo _ _,fun _=>rfl⟩
 | x :: y :: l=>by
  have ih:=Kph (l:=y :: l);rw[riseI,br,bF,ih,i8];constructor
  .rintro ⟨h1,h2⟩;refine ⟨fun z hz=>?_,h2⟩;rcases a2.1 hz with rfl | hz
   .exact h1
   .have:=(a1.1 h2).1 z hz;omega
  .rintro ⟨h1,h2⟩;exact ⟨h1 y (by simp),h2⟩
theorem Kzd {f t:Int} {l:List Int}:Kco f t l=true↔l≠[]/\(∀x∈l,f<=x/\x < t)/\l.Pairwise fun a b=>a < b:=by unfold Kco;simp only[br,i8,bM,Kph,and_assoc]
theorem Qck {f t:Int} {l:List Smp}:Kco f t (l.map Smp.t)=true↔l≠[]/\(∀x∈l,f<=x.t/\x.t < t)/\Rises l:=by rw[Kzd,Kgt,ba];simp
theorem Qgl {l:List Smp} (h:∀x∈l,SmpOk x) (hr:Rises l) {f:Nat} {p:List Smp} (hp:p∈Kby f l):Qhg p:=by obtain ⟨h1,h2,h3⟩:=Kmr f l p hp;exact ⟨fun x hx=>h x (h3.subset hx),Kgt.2 ((Kgt.1 hr).sublist h3),h2⟩
instance lbEq:DecidableEq Lb:=fun a b=>by
 cases a with
 | mk n v=>
  cases b with
  | mk n' v'=>exact if h:n=n'/\v=v' then isTrue (by rw[h.1,h.2]) else isFalse fun e=>h (by injection e with e1 e2;exact ⟨e1,e2⟩)
instance ltBDec:DecidableRel ltB:=fun x y=>by unfold ltB;infer_instance
theorem Keo (x:Lb):¬ltB x x:=by rintro (h | ⟨_,h⟩) <;> exact List.lt_irrefl _ h
theorem Kqm {x y:Lb} (h1:¬ltB x y) (h2:¬ltB y x):x=y:=by
 unfold ltB at h1 h2;have hn:x.n=y.n:=Kel (fun h=>h1 (.inl h)) (fun h=>h2 (.inl h));have hv:x.v=y.v:=Kel (fun h=>h1 (.inr ⟨hn,h⟩)) (fun h=>h2 (.inr ⟨hn.symm,h⟩));cases x;cases y
 simp_all
def Qip (S:List (List Lb)) (K:List Lb):Prop:=K.Pairwise ltB/\∀x,x∈K↔∃s∈S,x∈s
theorem Kvf:∀{t t':List Lb},t.Pairwise ltB->t'.Pairwise ltB->(∀x,x∈t↔x∈t')->t=t'
 | [],[],_,_,_=>rfl
 | [],b :: s',_,_,h=>by have:=(h b).2 (by simp);simp at this
 | a :: s,[],_,_,h=>by have:=(h a).1 (by simp);simp at this
 | a :: s,b :: s',h1,h2,h=>by
  have ha:=a1.1 h1;have hb:=a1.1 h2
  have aa:a=b:=by
   apply Kqm
   .intro hlt;rcases a2.1 ((h a).1 (by simp)) with e | e
    .exact Keo a (by rw[e] at hlt |-;exact hlt)
    .exact Keo a (Kfb hlt (hb.1 a e))
   .intro hlt;rcases a2.1 ((h b).2 (by simp)) with e | e
    .exact Keo b (by rw[e] at hlt |-;exact hlt)
    .exact Keo b (Kfb hlt (ha.1 b e))
  subst aa;rw[Kvf ha.2 hb.2 fun x=>?_];constructor
  .intro hx;rcases a2.1 ((h x).1 (by simp[hx])) with e | e
   .subst e;exact jl (ha.1 x hx) (Keo x)
   .exact e
  .intro hx;rcases a2.1 ((h x).2 (by simp[hx])) with e | e
   .subst e;exact jl (hb.1 x hx) (Keo x)
   .exact e
def insK (x:Lb):List Lb->List Lb
 | []=>[x]
 | y :: l=>if ltB x y then x :: y :: l else if ltB y x then y :: insK x l else y :: l
theorem Knl (x:Lb):∀(l:List Lb) (z:Lb),z∈insK x l↔z=x\/z∈l
 | [],z=>by simp[insK]
 | y :: l,z=>by
  rw[insK]
  split
  .simp
  .split
   .rw[bt,Knl x l z,bt];constructor
    .rintro (h | h | h)
     .exact .inr (.inl h)
     .exact .inl h
     .exact .inr (.inr h)
    .rintro (h | h | h)
     .exact .inr (.inl h)
     .exact .inl h
     .exact .inr (.inr h)
   .rename_i h1 h2
    have e:=Kqm h1 h2;subst e;simp
theorem Krr (x:Lb):∀(l:List Lb),l.Pairwise ltB->(insK x l).Pairwise ltB
 | [],_=>bo _ _
 | y :: l,h=>by
  have hc:=a1.1 h;rw[insK]
  split
  .rename_i h1
   refine a1.2 ⟨fun z hz=>?_,h⟩;rcases a2.1 hz with rfl | hz
   .exact h1
   .exact Kfb h1 (hc.1 z hz)
  .split
   .rename_i h1 h2
    refine a1.2 ⟨fun z hz=>?_,Krr x l hc.2⟩;rcases (Knl x l z).1 hz with rfl | hz
    .exact h2
    .exact hc.1 z hz
   .exact h
def keysOf (S:List (List Lb)):List Lb:=S.flatten.foldr insK []
theorem Kez (S:List (List Lb)):Qip S (keysOf S):=by
 have aa:∀l:List Lb,(l.foldr insK []).Pairwise ltB/\∀x,x∈l.foldr insK []↔x∈l:=by
  intro l
  induction l with
  | nil=>exact ⟨cp,fun _=>Iff.rfl⟩
  | cons y l ih=>exact ⟨Krr y _ ih.1,fun x=>by rw[List.foldr_cons,Knl,ih.2,bt]⟩
 obtain ⟨h1,h2⟩:=aa S.flatten;exact ⟨h1,fun x=>(h2 x).trans (by rw[List.mem_flatten])⟩
def Kap (S:List (List Lb)) (x:Lb):List Nat:=(bl S.length).filter fun i=>decide (x∈S.getD i [])
theorem Kms (S:List (List Lb)) (x:Lb):(Kap S x).length<=S.length:=by have:=List.length_filter_le (fun i=>decide (x∈S.getD i [])) (bl S.length);rwa[List.length_range] at this
def keyT (S:List (List Lb)) (x:Lb):List UInt8:=textT x.n++(textT x.v++postT (Kap S x))
def Kcx (S:List (List Lb)):List UInt8:=uintT (keysOf S).length++(keysOf S).flatMap (keyT S)
structure Fil where
 mt:List UInt8
 ck:List UInt8
 ix:List UInt8
instance filEq:DecidableEq Fil:=fun a b=>by
 cases a with
 | mk m c i=>
  cases b with
  | mk m' c' i'=>exact if h:m=m'/\c=c'/\i=i' then isTrue (by rw[h.1,h.2.1,h.2.2]) else isFalse fun e=>h (by injection e with e1 e2 e3;exact ⟨e1,e2,e3⟩)
def Kaq (c:Cont):List (List Lb):=c.series.map Ser.labels
def allS (S:List (List Lb)):List Txt:=S.flatMap texts
def tabOf (S:List (List Lb)):List Txt:=Lib.compact ((allS S).mergeSort fun x y=>decide (x<=y))
theorem Kwv (S:List (List Lb)):IsTab (allS S) (tabOf S):=Qgx _
def metaB (c:Cont):List UInt8:=uintT c.res.toNat++(intT c.frm++intT c.to_)
def Kdc (c:Cont):List UInt8:=c.series.flatMap fun s=>(Kbf s).flatten
def Kcp (c:Cont):List UInt8:=tabT (tabOf (Kaq c))++(uintT c.series.length++(c.series.flatMap (serT (tabOf (Kaq c)))++Kcx (Kaq c)))
def Kfg (c:Cont):Fil:=⟨sealT (metaB c),sealT (Kdc c),sealT (Kcp c)⟩
def ordS:List Ser->Bool
 | []=>true
 | [_]=>true
 | a :: b :: l=>decide (cmpL a.labels b.labels < 0) && ordS (b :: l)
def fitB (c:Cont):Bool:=decide (0<=c.res) && decide (c.res < 3) && decide (0<=c.frm) && decide (c.frm < c.to_) && decide (c.to_<=1125899906842625) && c.series.all (fun s=>Kcl s.labels && Kdy c s) && ordS c.series
theorem Khf {c:Cont}:fitB c=true↔0<=c.res/\c.res < 3/\0<=c.frm/\c.frm < c.to_/\c.to_<=1125899906842625/\(∀s∈c.series,Kcl s.labels=true/\Kdy c s=true)/\ordS c.series=true:=by unfold fitB;simp only[br,i8,bM,and_assoc]
theorem Qci {l:List Lb} (h:Kcl l=true):Kdo l=0:=by unfold Kcl at h;rw[br,i8,i8] at h;unfold Kdo;rw[je (by simp[h.1]),jf h.2]
end
section
open Go.RowKit
open Lib renaming hid -> Jh
attribute [local go_sem ↓] Go.wp_at_zero Go.wp_at_succ
attribute [local go_sem] Later.cell
def encN (x:Nat):List Value:=[.int .i64 (x:Int)]
def lastN:Nat->List Nat->Nat
 | a,[]=>a
 | _,x :: l=>lastN x l
theorem Kjm:∀(l:List Nat) (a x:Nat),lastN a (l ++ [x])=x
 | [],_,_=>rfl
 | _ :: l,_,x=>Kjm l _ x
theorem Kio:∀(l:List Nat) (a x:Nat),Kcr a (l ++ [x])=Kcr a l++uintT (x - lastN a l)
 | [],a,x=>by simp[Kcr,lastN]
 | w :: l,a,x=>by rw[bJ,Kcr,Kcr,Kio l,lastN,aW]
theorem Kvk:∀(l:List Nat) (a x:Nat),(l ++ [x]).Pairwise (· < ·)->l≠[]->lastN a l < x
 | [],_,_,_,h=>jl rfl h
 | [y],a,x,h,_=>by have:=a1.1 h;exact this.1 x (by simp)
 | y :: z :: l,a,x,h,_=>Kvk (z :: l) y x (a1.1 h).2 (by simp)
theorem Kth (l:List Nat) (A:Option Addr) (n cap:Nat) (w:World) (hE:Elems w w.heap.size 1 encN A n l) (hn:n<=1099511627776) (hp:l.Pairwise (· < ·)) (hv:∀x∈l,x<=1099511627776) :
  Calls prog 121 #[.slice A n cap] w fun e w'=>e = .returned (.tuple #[.string ⟨(postT l).toArray⟩,.int .i64 0])/\Below w.heap.size w w':=by
 have ag:=hE.len;have HE:=Jh hE;have HV:=Jh hv;have HP:=Jh hp;have ab:=Jh ag;have aQ:=Jh (fun w=>Kau n (by omega) w);have h0:Bld w.heap.size w.heap.size [] (w.alloc (.cells #[.pointer none,.slice none 0 0] 109)):=Bld.new w (a8 _);have ah:Below w.heap.size w (w.alloc (.cells #[.pointer none,.slice none 0 0] 109)):=(Below.refl _ _).alloc (a8 _) _;clear hE hv hp ag;go_enter func121,ntmps121
 go_upto_region 2 with fail
 obtain ⟨w1,aq⟩:=iZ (w.alloc (.cells #[.pointer none,.slice none 0 0] 109));rw[aq] at h0 ah;rw[aq];obtain ⟨b,hb⟩:=iZ w.heap.size;rw[hb] at h0 ah HE |-;have HB:=Jh hb;have aS:=Jh h0;have aL:=Jh ah;have aC:b<=w1.heap.size:=by have:=ah.size;omega
 clear aq h0 ah hb;go_wp2_with fail
 refine (aQ.out w1).mono ?_;rintro _ w2 ⟨rfl,ao⟩;have aO:=Jh (aS.out.below ao);have aH:=Jh (aL.out.trans (ao.mono aC));have aR:b<=w2.heap.size:=aX aC ao.size;clear ao;go_wp2_with fail
 refine (Kba b b [] ⟨(uintT n).toArray⟩ w2 aO.out (by show 0+(uintT n).toArray.size<=_;have:=(Kab n).2;simp only[bj];omega) aR).mono ?_;rintro _ w3 ⟨rfl,h5,h6,_⟩;have aP:Hid (Bld b b (uintT n) w3):=Jh h5;have aK:=Jh (aH.out.trans h6);clear h5 h6;go_wp2_with fail
 go_loopg [5,15] n (fun g s5 s15 wr=>∃i:Nat,i+g=n/\s15 = .int .i64 (i:Int)/\s5 = .int .i64 ((lastN 0 (l.take i):Nat):Int)/\Bld b b (uintT n++Kcr 0 (l.take i)) wr/\Below b w wr/\(uintT n++Kcr 0 (l.take i)).length<=11+11*i/\lastN 0 (l.take i)<=1099511627776)
 case atStart=>exact ⟨0,by omega,rfl,rfl,by simpa[Kcr] using aP.out,aK.out,by have:=(Kab n).2;simp[Kcr];omega,Nat.zero_le _⟩
 case round=>
  obtain ⟨i,hi,rfl,rfl,aB,ar,aE,aN⟩:=hrel;have HI:=Jh hi;have HL:=Jh aB;have HR:=Jh ar;have af:=Jh aE;have ai:b<=wr.heap.size:=aX (by rw[HB.out];exact a8 _) ar.size;clear aB ar aE
  by_cases hin:i < n
  .have al:i < l.length:=by have:=ab.out;omega
   obtain ⟨bk,aA,rfl,aI,aa⟩:=HE.out.2 (by omega);have m0:wr.cell? ⟨bk,aA+i,none⟩=some (.int .i64 ((l[i]:Nat):Int)):=(HR.out.cell (p:=⟨bk,aA+i,none⟩) aI).trans (by simpa using aa i l[i] (a7 al) 0 _ rfl);have az:=HV.out l[i] (List.getElem_mem al);have ac:l.take (i+1)=l.take i ++ [l[i]]:=List.take_succ_eq_append_getElem al
   have ad:i≠0->lastN 0 (l.take i) < l[i]:=by
    intro h0;refine Kvk _ _ _ ?_ ?_
    .rw[<-ac];exact HP.out.sublist (bH _ _)
    .intro he;have:=jk be he;rw[bv,List.length_nil] at this;omega
   obtain ⟨x,aF⟩:=iZ (l[i]);rw[aF] at m0 az ac ad;obtain ⟨a,am⟩:=iZ (lastN 0 (l.take i));rw[am] at ad aN |-;obtain ⟨T,hT⟩:=iZ (uintT n++Kcr 0 (l.take i));rw[hT] at HL af;have an:=Jh ac;have aD:=Jh am;have HT:=Jh hT
   have hax:a<=x:=by
    by_cases h0:i=0
    .subst h0;have:a=0:=by rw[<-am];rfl
     omega
    .have:=ad h0;omega
   have el:(i:Int) < (n:Int):=by omega
   have e1:decide ((x:Int) < 0)=false:=by rw[jb];omega
   obtain ⟨y,hy⟩:=iZ (x - a);have hyi:(x:Int) - (a:Int)=(y:Int):=by omega
   have hyw:wrap64 ((x:Int) - (a:Int))=(y:Int):=by unfold wrap64;omega
   have hyu:cb.wrap (y:Int)=(y:Int):=by rw[cc];omega
   have HY:=Jh hy;have HU:=Jh (fun w=>Kau y (by omega) w);have HIN:=Jh hin;clear hi ac aF am hT aa hy al
   by_cases h0:i=0
   .subst h0;rw[Nat.add_zero] at m0;clear ad hin;go_wp2_with fail
    refine (HU.out wr).mono ?_;rintro _ w5 ⟨rfl,h5⟩;have ap:=Jh (HL.out.below h5);have ay:=Jh (HR.out.trans (h5.mono ai));have av:b<=w5.heap.size:=aX ai h5.size;clear h5;go_wp2_with fail
    refine (Kba b b T ⟨(uintT y).toArray⟩ w5 ap.out (by show _+(uintT y).toArray.size<=_;have:=(Kab y).2;have:=af.out;have:=HI.out;simp only[bj];omega) av).mono ?_;rintro _ w6 ⟨rfl,h6,h7,_⟩;have ax:=Jh h6;have aw:=Jh (ay.out.trans h7);clear h6 h7;go_wp2_with fail
    go_roundg (gk - 1)
    case measure=>have:=HI.out;omega
    case rel=>
     have ae:lastN 0 (l.take (0+1))=x:=by rw[an.out,Kjm]
     have aj:uintT n++Kcr 0 (l.take (0+1))=T++uintT y:=by rw[an.out,Kio,aD.out,HY.out,<-HT.out,aW]
     refine ⟨1,by have:=HI.out;omega,by go_num,by rw[ae],by rw[aj];exact ax.out,aw.out,?_,by rw[ae];exact az⟩;rw[aj,bc];have:=(Kab y).2;have:=af.out;omega
   .have aM:=ad h0;have e2:decide ((0:Int) < (i:Int))=true:=by rw[i8];omega
    have e2':decide (0 < i)=true:=by rw[i8];omega
    have e3:decide ((x:Int)<=(a:Int))=false:=by rw[jb];omega
    have e3':decide (x<=a)=false:=by rw[jb];omega
    clear ad hin;go_wp2_with fail
    refine (HU.out wr).mono ?_;rintro _ w5 ⟨rfl,h5⟩;have ap:=Jh (HL.out.below h5);have ay:=Jh (HR.out.trans (h5.mono ai));have av:b<=w5.heap.size:=aX ai h5.size;clear h5;go_wp2_with fail
    refine (Kba b b T ⟨(uintT y).toArray⟩ w5 ap.out (by show _+(uintT y).toArray.size<=_;have:=(Kab y).2;have:=af.out;have:=HI.out;simp only[bj];omega) av).mono ?_;rintro _ w6 ⟨rfl,h6,h7,_⟩;have ax:=Jh h6;have aw:=Jh (ay.out.trans h7);clear h6 h7;go_wp2_with fail
    go_roundg (gk - 1)
    case measure=>have:=HI.out;omega
    case rel=>
     have ae:lastN 0 (l.take (i+1))=x:=by rw[an.out,Kjm]
     have aj:uintT n++Kcr 0 (l.take (i+1))=T++uintT y:=by rw[an.out,Kio,aD.out,HY.out,<-HT.out,aW]
     refine ⟨i+1,by have:=HI.out;omega,by go_num,by rw[ae],by rw[aj];exact ax.out,aw.out,?_,by rw[ae];exact az⟩;rw[aj,bc];have:=(Kab y).2;have:=af.out;omega
  .have aG:i=n:=by have:=HI.out;omega
   subst aG;have ac:l.take i=l:=List.take_of_length_le (by have:=ab.out;omega);rw[ac] at HL;have aJ:Hid (uintT i++Kcr 0 l=postT l):=Jh (by unfold postT;rw[ab.out]);rw[aJ.out] at HL;have ak:=Jh (Kdx b b _ wr HL.out ai);obtain ⟨S,hS⟩:∃S:ByteArray,(⟨(postT l).toArray⟩:ByteArray)=S:=⟨_,rfl⟩;rw[hS] at ak;have HS:=Jh hS;clear ac hS;go_wp2_with fail
   refine ak.out.mono ?_;rintro _ w3 ⟨rfl,h6⟩;go_wp2_with fail
   go_ret2
   rw[<-HS.out];exact ⟨rfl,by rw[HB.out];exact HR.out.trans h6⟩
end
section
open Go.RowKit
open Go.ChangeMaps (setBlock)
open Go.MapKept
open Go.WideMaps (KeyLaw)
def lbV (x:Lb):Value:=.agg #[.string ⟨x.n.toArray⟩,.string ⟨x.v.toArray⟩]
theorem Kfa {x y:Lb} (h:lbV x=lbV y):x=y:=by obtain ⟨a,b⟩:=x;obtain ⟨c,d⟩:=y;unfold lbV at h;injection h with h;have h1:=jk bI h;injection h1 with h2 h3;injection h3 with h4 _;injection h2 with h2;injection h4 with h4;injection h2 with h2;injection h4 with h4;have e1:=jk bI h2;have e2:=jk bI h4;simp only[List.toList_toArray] at e1 e2;rw[e1,e2]
theorem lbLaw:KeyLaw prog 99:=by
 have aa:Nat.blt 99 prog.types.size=true:=by kernel_rfl
 exact deep_law_laid (by kernel_rfl) (m:=2) (by omega) (Nat.blt_eq.mp aa) (by kernel_rfl) (by kernel_rfl)
theorem Qbc:∃f1 f2,prog.underlying 99 = some (.struct #[f1,f2])/\(f1.name != "_")=true/\(f2.name != "_")=true/\f1.offset=0/\f2.offset=1/\f1.type = 9/\f2.type = 9:=⟨_,_,underlying99,by decide,by decide,rfl,rfl,rfl,rfl⟩
theorem Knp (x:Lb) (h1:x.n.length<=maxLen) (h2:x.v.length<=maxLen):∃l,keyOf prog 99 (lbV x)=some l:=by
 obtain ⟨f1,f2,hu,n1,n2,o1,o2,t1,t2⟩:=Qbc;have ad:prog.keyType 99 = true:=by kernel_rfl
 have aa:prog.cellsOf 99 = 2:=by kernel_rfl
 have ae:prog.cellsOf 9 = 1:=by kernel_rfl
 have ac:Nat.blt 0 prog.types.size=true:=by kernel_rfl
 obtain ⟨m,hm⟩:∃m,prog.types.size=m+1:=⟨prog.types.size - 1,by have:=Nat.blt_eq.mp ac;omega⟩;have hs:prog.underlying 9 = some .string:=underlying9;unfold keyOf lbV;rw[hu];dsimp only;rw[jf (by simp[ad,Value.formed,hu,aa]),hm];unfold Program.keyLits;simp only[hu,Value.cells];rw[jf (by simp[aa,n1,n2])]
 have ab:∀(d:Nat) (s:ByteArray),s.size<=maxLen->prog.keyLits (d+1) 9 [.string s]=some [.string s.data.toList]:=fun d s h=>by unfold Program.keyLits;simp only[hs];rw[jf h]
 have s1:(⟨x.n.toArray⟩:ByteArray).size<=maxLen:=by show x.n.toArray.size<=_;rw[bj];exact h1
 have s2:(⟨x.v.toArray⟩:ByteArray).size<=maxLen:=by show x.v.toArray.size<=_;rw[bj];exact h2
 simp[o1,o2,t1,t2,ae,ab m _ s1,ab m _ s2]
section
variable {w : World} {b : Nat} {es : Array MapEntry} {clock : Nat}
theorem Kya (hb:w.heap[b]? = some (.map es clock)) (hst:Stamped es clock) (hk:∀e∈es.toList,∃l,keyOf prog 99 e.key=some l) {key:Value} {kl:Lit} (hkey:keyOf prog 99 key=some kl) :
  (∃j e0,es.toList[j]? = some e0/\e0.key=key/\(bV 104 (.map (some b)) key).run prog w = .ok (.tuple #[e0.val,goInt e0.born]) (setBlock w b (.map es clock))/\
   ∀(w2:World) (val:Value),w2.heap[b]? = some (.map es clock)->(bU 104 (.map (some b)) (goInt e0.born) val).run prog w2 = .ok () (setBlock w2 b (.map (es.modify j fun e=>{ e with val:=val }) clock)))\/
  ((∀e∈es.toList,e.key≠key)/\(bV 104 (.map (some b)) key).run prog w = .ok (.tuple #[.slice none 0 0,goInt clock]) (setBlock w b (.map (es.push ⟨key,.slice none 0 0,clock⟩) (clock+1)))/\
   ∀(w2:World) (val:Value),w2.heap[b]? = some (.map (es.push ⟨key,.slice none 0 0,clock⟩) (clock+1))->(bU 104 (.map (some b)) (goInt clock) val).run prog w2 = .ok () (setBlock w2 b (.map (es.push ⟨key,val,clock⟩) (clock+1)))):=by
 have ht:prog.underlying 104 = some (.map 99 69):=underlying104;have hz:∀u:World,(zeroValue 69).run prog u = .ok (.slice none 0 0) u:=fun u=>by kernel_rfl
 obtain ⟨s1,s2,_⟩:=hst;rcases lbLaw.find w hkey es.toList hk with ⟨h1,h2⟩ | ⟨j,e0,h1,h2,h3⟩
 .refine .inr ⟨h2,?_,fun w2 val hw2=>?_⟩
  .simp[bV,run_underlying ht,b0 hb,lbLaw.check w false hkey,h1,hz,b5 _ hb,co,setBlock]
  .have aa:(es.push ⟨key,.slice none 0 0,clock⟩).findIdx? (fun e=>((e.born:Nat):Int) == ((clock:Nat):Int))=some es.size:=by
    rw[cg]
    have:=cf (l:=(es.push ⟨key,.slice none 0 0,clock⟩).toList) (j:=es.size) (e0:=⟨key,.slice none 0 0,clock⟩) (by
     simp only[bq,List.map_append,List.map_cons,List.map_nil];refine List.nodup_append.2 ⟨s2,by simp,fun a ha c hc e1=>?_⟩;simp only[bG] at hc;obtain ⟨x,hx,rfl⟩:=List.mem_map.1 ha;have:=s1 x hx
     omega) (by simp)
    exact this
   have ac:(es.push ⟨key,.slice none 0 0,clock⟩).modify es.size (fun e=>{ e with val:=val })=es.push ⟨key,val,clock⟩:=by apply bN;rw[bD,bq,bq,<-Array.length_toList,ci]
   simp[bU,b0 hw2,asInt,asIntOf,goInt,aa,ac,b5 _ hw2,co,setBlock]
 .have hj:es[j]? = some e0:=by simpa using h2
  have ab:es.modify j (fun e=>{ e with key:=key })=es:=by
   apply bN;rw[bD,ChangeMaps.modify_eq_set _ _ _ _ h2];have:({ e0 with key:=key }:MapEntry)=e0:=by rw[<-h3]
   rw[this];exact cj _ _ _ h2
  refine .inl ⟨j,e0,h2,h3,?_,fun w2 val hw2=>?_⟩
  .simp[bV,run_underlying ht,b0 hb,lbLaw.check w false hkey,h1,hj,h3,lbLaw.stays w hkey,ab,b5 _ hb,co,setBlock]
  .have aa:es.findIdx? (fun e=>((e.born:Nat):Int) == ((e0.born:Nat):Int))=some j:=by
    rw[cg];exact cf s2 h2
   simp[bU,b0 hw2,asInt,asIntOf,goInt,aa,b5 _ hw2,co,setBlock]
theorem Qbg (hb:w.heap[b]? = some (.map es clock)) (hk:∀e∈es.toList,∃l,keyOf prog 99 e.key=some l) {key:Value} {kl:Lit} (hkey:keyOf prog 99 key=some kl) {e0:MapEntry} (he:e0∈es.toList) (hek:e0.key=key) (hn:(es.toList.map (·.key)).Nodup) :
  (bX 104 (.map (some b)) key false).run prog w = .ok e0.val w:=by
 have ht:prog.underlying 104 = some (.map 99 69):=underlying104;rcases lbLaw.find w hkey es.toList hk with ⟨h1,h2⟩ | ⟨j,e1,h1,h2,h3⟩
 .exact jl hek (h2 _ he)
 .have aa:e1=e0:=by
   have hm:=bh h2;have hp:=ba.1 (show (es.toList.map (·.key)).Pairwise (·≠·) from hn);exact entry_eq_of_key hp hm he (h3.trans hek.symm)
  subst aa;simp[bX,run_underlying ht,b0 hb,lbLaw.check w es.isEmpty hkey,h1,co]
end
theorem Qhw {es:Array MapEntry} {j:Nat} {e0:MapEntry} (hj:es.toList[j]? = some e0) (hn:(es.toList.map (·.key)).Nodup) (val:Value) (e':MapEntry):e'∈(es.modify j fun e=>{ e with val:=val }).toList↔e' = { e0 with val:=val }\/(e'∈es.toList/\e'.key≠e0.key):=by
 have ac:es[j]? = some e0:=by simpa using hj
 constructor
 .intro h;obtain ⟨i,hi⟩:=a9.1 h;rw[bx,bA] at hi
  by_cases aa:j=i
  .subst aa;simp[ac] at hi;exact .inl hi.symm
  .rw[je aa] at hi;have ab:es.toList[i]? = some e':=by simpa using hi
   refine .inr ⟨bh ab,fun hk=>aa ?_⟩;have h1:(es.toList.map (·.key))[i]? = some e'.key:=by rw[bb,ab];rfl
   have h2:(es.toList.map (·.key))[j]? = some e0.key:=by rw[bb,hj];rfl
   rw[hk,<-h2] at h1
   have ad:i < (es.toList.map (·.key)).length:=by have:=(List.getElem?_eq_some_iff.1 ab).1;rwa[List.length_map]
   exact ((List.getElem?_inj ad hn).1 h1).symm
 .rintro (rfl | ⟨h,hk⟩)
  .exact bh (i:=j) (by rw[bx,bA];simp[ac])
  .obtain ⟨i,hi⟩:=a9.1 h
   have aa:j≠i:=by rintro rfl;rw[hj] at hi;injection hi with hi;exact hk (by rw[hi])
   exact bh (i:=i) (by rw[bx,bA,je aa];simpa using hi)
section
variable {w : World} {b : Nat} {es : Array MapEntry} {clock : Nat}
theorem Qga (hb:w.heap[b]? = some (.map es clock)) (hst:Stamped es clock) (hk:∀e∈es.toList,∃l,keyOf prog 99 e.key=some l) {key:Value} {kl:Lit} (hkey:keyOf prog 99 key=some kl) :
  ∃(v0:Value) (st:Nat) (es1:Array MapEntry) (clock1:Nat),(bV 104 (.map (some b)) key).run prog w = .ok (.tuple #[v0,.int .i64 (st:Int)]) (setBlock w b (.map es1 clock1))/\
   ((∃e0∈es.toList,e0.key=key/\v0=e0.val)\/((∀e∈es.toList,e.key≠key)/\v0 = .slice none 0 0))/\
   ∀(w2:World) (val:Value),w2.heap[b]? = some (.map es1 clock1)->∃es' clock',(bU 104 (.map (some b)) (.int .i64 (st:Int)) val).run prog w2 = .ok () (setBlock w2 b (.map es' clock'))/\Stamped es' clock'/\es'.size<=es.size+1/\
    ∀e',e'∈es'.toList↔e'=⟨key,val,st⟩\/(e'∈es.toList/\e'.key≠key):=by
 rcases Kya hb hst hk hkey with ⟨j,e0,h1,h2,h3,h4⟩ | ⟨h1,h2,h3⟩
 .refine ⟨e0.val,e0.born,es,clock,h3,.inl ⟨e0,bh h1,h2,rfl⟩,fun w2 val hw2=>⟨_,_,h4 w2 val hw2,?_,?_,fun e'=>?_⟩⟩
  .exact stamped_modify hst j _ (fun _ _=>rfl) (fun _ _ _=>rfl)
  .rw[Array.size_modify];omega
  .rw[Qhw h1 hst.2.2];rw[<-h2]
 .refine ⟨_,clock,_,_,h2,.inr ⟨h1,rfl⟩,fun w2 val hw2=>⟨_,_,h3 w2 val hw2,stamped_push hst h1,by rw[Array.size_push];omega,fun e'=>?_⟩⟩;rw[bq,List.mem_append,bG];constructor
  .rintro (h | h)
   .exact .inr ⟨h,h1 _ h⟩
   .exact .inl h
  .rintro (h | h)
   .exact .inr h
   .exact .inl h.1
end
structure LMap (w:World) (B b:Nat) (f:Lb->List Nat) (n:Nat) (es:Array MapEntry) (clock:Nat):Prop where
 h:w.heap[b]? = some (.map es clock)
 st:Stamped es clock
 sz:es.size<=n
 k:∀e∈es.toList,∃x:Lb,(x.n.length<=1099511627776/\x.v.length<=1099511627776)/\e.key=lbV x/\f x≠[]/\w.ownsRow B 3 1 e.val (f x).length ((f x).flatMap encN)
 a:∀x,f x≠[]->∃e∈es.toList,e.key=lbV x
 o:∀e∈es.toList,∀e'∈es.toList,e.key≠e'.key->e.val.ownBlock≠e'.val.ownBlock
theorem Kax {w:World} {B n sz r:Nat} {T:TypeId} {v:Value} {xs:List Value} (h:w.ownsRow B T sz v n xs) (hv:v.ownBlock=some r):∃cur,w.heap[r]? = some (.cells cur T (0,0)):=by
 rcases h.2 with ⟨rfl,_⟩ | ⟨g,cap,cur,rfl,_,hg,_⟩
 .cases hv
 .cases hv;exact ⟨cur,hg⟩
theorem Kwj {w:World} {B n sz:Nat} {T:TypeId} {v:Value} {xs:List Value} (h:w.ownsRow B T sz v n xs) (hn:n≠0):∃r,v.ownBlock=some r:=by
 rcases h.2 with ⟨rfl,h0⟩ | ⟨g,cap,cur,rfl,_⟩
 .exact jl h0 hn
 .exact ⟨g,rfl⟩
theorem Ken {w:World} {b:Nat} (o':Obj):w.grownBy (setBlock w b o') (some b):=
 ⟨rfl,rfl,rfl,by show _<=(w.heap.setIfInBounds b o').size;simp,fun k hk hne=>by
  show (w.heap.setIfInBounds b o')[k]? = _
  rw[bL,je];rintro rfl
  exact hne rfl⟩
theorem Kin {w:World} {b:Nat} {o:Obj} (o':Obj) (h:w.heap[b]? = some o):(setBlock w b o').heap[b]? = some o':=by
 show (w.heap.setIfInBounds b o')[b]? = _
 rw[bL,jf rfl,jf (bp.1 h).1]
theorem Kmv (w:World) (b:Nat) (o':Obj):(setBlock w b o').heap.size=w.heap.size:=by
 show (w.heap.setIfInBounds b o').size=_
 simp
theorem Kiy {w:World} {B n sz b:Nat} {T:TypeId} {v:Value} {xs:List Value} {es:Array MapEntry} {clock:Nat} (h:w.ownsRow B T sz v n xs) (hb:w.heap[b]? = some (.map es clock)):v.ownBlock≠some b:=fun hv=>by obtain ⟨cur,hc⟩:=Kax h hv;rw[hb] at hc;cases hc
theorem Kzq {w:World} {B b n:Nat} {f:Lb->List Nat} {es:Array MapEntry} {clock:Nat} (h:LMap w B b f n es clock):∀e∈es.toList,∃l,keyOf prog 99 e.key=some l:=fun e he=>by obtain ⟨x,hz,hk,_⟩:=h.k e he;rw[hk];exact Knp x (by unfold maxLen;omega) (by unfold maxLen;omega)
theorem LMap.new (w:World) (B:Nat):LMap (w.alloc (.map #[] 0)) B w.heap.size (fun _=>[]) 0 #[] 0:=
 ⟨World.alloc_heap_new w _,⟨by simp,by simp,by simp⟩,by simp,by simp,fun x hx=>jl rfl hx,by simp⟩
theorem LMap.kept {w w':World} {B b n:Nat} {f:Lb->List Nat} {es:Array MapEntry} {clock:Nat} (h:LMap w B b f n es clock) {row:Option Nat} (hg:w.grownBy w' row) (hr:∀r,row=some r->∃cur t,w.heap[r]? = some (.cells cur t (0,0))/\t≠3):LMap w' B b f n es clock:=by
 have ad:=(bp.1 h.h).1;refine ⟨(hg.block b ad (fun e=>?_)).trans h.h,h.st,h.sz,fun e he=>?_,h.a,h.o⟩
 .obtain ⟨cur,t,hc,_⟩:=hr b e.symm;rw[h.h] at hc;cases hc
 .obtain ⟨x,hz,hk,hf,hw⟩:=h.k e he;refine ⟨x,hz,hk,hf,hw.kept hg (.inr fun e'=>?_)⟩;obtain ⟨r,ab⟩:=Kwj hw (by rw[Ne,bw];exact hf);obtain ⟨cur,hc⟩:=Kax hw ab;obtain ⟨ac,t,aa,ht⟩:=hr r (e'▸ab);rw[hc] at aa;injection aa with aa;injection aa with _ aa;exact ht aa.symm
theorem LMap.mono {w:World} {B b n m:Nat} {f:Lb->List Nat} {es:Array MapEntry} {clock:Nat} (h:LMap w B b f n es clock) (hm:n<=m):LMap w B b f m es clock:=⟨h.h,h.st,aX h.sz hm,h.k,h.a,h.o⟩
theorem LMap.below {w w':World} {B b n:Nat} {f:Lb->List Nat} {es:Array MapEntry} {clock:Nat} (h:LMap w B b f n es clock) (hb:Below w.heap.size w w'):LMap w' B b f n es clock:=
 h.kept (row:=none) ⟨hb.os,hb.tape,hb.output,hb.size,fun k hk _=>hb.block k hk⟩ (fun r e=>by cases e)
def addF (f:Lb->List Nat) (x:Lb) (i:Nat):Lb->List Nat:=fun y=>if y=x then f x ++ [i] else f y
theorem LMap.step {w:World} {B b n:Nat} {f:Lb->List Nat} {es:Array MapEntry} {clock:Nat} (h:LMap w B b f n es clock) (x:Lb) (hx:x.n.length<=1099511627776/\x.v.length<=1099511627776) (i:Nat) (hB:B<=w.heap.size) :
  ∃(v0:Value) (st:Nat) (es1:Array MapEntry) (clock1:Nat),(bV 104 (.map (some b)) (lbV x)).run prog w = .ok (.tuple #[v0,.int .i64 (st:Int)]) (setBlock w b (.map es1 clock1))/\
   (setBlock w b (.map es1 clock1)).ownsRow B 3 1 v0 (f x).length ((f x).flatMap encN)/\v0.ownBlock≠some b/\
   ∀(w2:World) (val:Value),(setBlock w b (.map es1 clock1)).grownBy w2 v0.ownBlock->w2.ownsRow B 3 1 val ((f x).length+1) ((f x).flatMap encN++encN i)->(val.ownBlock=v0.ownBlock\/val.ownBlock=some w.heap.size)->
    ∃es' clock',(bU 104 (.map (some b)) (.int .i64 (st:Int)) val).run prog w2 = .ok () (setBlock w2 b (.map es' clock'))/\LMap (setBlock w2 b (.map es' clock')) B b (addF f x i) (n+1) es' clock'/\(∀e'∈es'.toList,e'.val=val\/e'∈es.toList)/\(v0.ownBlock=none\/∃e∈es.toList,e.val=v0):=by
 obtain ⟨kl,ai⟩:=Knp x (by unfold maxLen;omega) (by unfold maxLen;omega);obtain ⟨v0,st,es1,clock1,h1,h2,h3⟩:=Qga h.h h.st (Kzq h) ai;have af:w.grownBy (setBlock w b (.map es1 clock1)) (some b):=Ken _
 have ab:w.ownsRow B 3 1 v0 (f x).length ((f x).flatMap encN):=by
  rcases h2 with ⟨e0,he0,hk0,rfl⟩ | ⟨hno,rfl⟩
  .obtain ⟨y,_,hy,_,hw⟩:=h.k e0 he0;rw[hk0] at hy;rw[Kfa hy];exact hw
  .have hf:f x = []:=by
    rcases hfx:f x with _ | ⟨a,l⟩
    .rfl
    .obtain ⟨e,he,hk⟩:=h.a x (by rw[hfx];simp);exact jl hk (hno e he)
   rw[hf];exact World.ownsRow_nil _ _ _ _
 have ae:=Kiy ab h.h;refine ⟨v0,st,es1,clock1,h1,ab.kept af (.inr ae),ae,fun w2 val hg2 hr2 hblk=>?_⟩;have ad:w2.heap[b]? = some (.map es1 clock1):=(hg2.block b (by rw[Kmv];exact (bp.1 h.h).1) (Ne.symm ae)).trans (Kin _ h.h);obtain ⟨es',clock',h4,h5,h6,h7⟩:=h3 w2 val ad;have ag:w2.grownBy (setBlock w2 b (.map es' clock')) (some b):=Ken _
 have aa:∀e∈es.toList,e.key≠lbV x->e.val.ownBlock≠v0.ownBlock/\e.val.ownBlock≠val.ownBlock:=fun e he hk=>by
  obtain ⟨y,_,hy,hf,hw⟩:=h.k e he;obtain ⟨r,hr⟩:=Kwj hw (by rw[Ne,bw];exact hf)
  have q1:e.val.ownBlock≠v0.ownBlock:=by
   rcases h2 with ⟨e0,he0,hk0,rfl⟩ | ⟨_,rfl⟩
   .exact h.o e he e0 he0 (by rw[hk0];exact hk)
   .rw[hr];intro h;cases h
  refine ⟨q1,fun hh=>?_⟩;rcases hblk with hv | hv
  .exact q1 (hh.trans hv)
  .rw[hr] at hh;rw[hv] at hh;injection hh with hh;have:=(hw.lt r hr).2;omega
 refine ⟨es',clock',h4,⟨Kin _ ad,h5,by have:=h.sz;omega,fun e he=>?_,fun y hy=>?_,fun e he e' he' hne=>?_⟩,fun e he=>?_,?_⟩
 .rcases (h7 e).1 he with rfl | ⟨he,hk⟩
  .refine ⟨x,hx,rfl,by simp[addF],?_⟩;have e1:addF f x i x=f x ++ [i]:=by simp[addF]
   rw[e1,bc,List.flatMap_append];have:=hr2.kept ag (.inr (Kiy hr2 ad));simpa using this
  .obtain ⟨y,hz,hy,hf,hw⟩:=h.k e he
   have ac:y≠x:=by rintro rfl;exact hk hy
   have e1:addF f x i y=f y:=by simp[addF,ac]
   refine ⟨y,hz,hy,by rw[e1];exact hf,?_⟩;rw[e1];have w1:=hw.kept af (.inr (Kiy hw h.h));have ah:=w1.kept hg2 (.inr (aa e he hk).1);exact ah.kept ag (.inr (Kiy ah ad))
 .by_cases ac:y=x
  .subst ac;exact ⟨_,(h7 _).2 (.inl rfl),rfl⟩
  .have e1:addF f x i y=f y:=by simp[addF,ac]
   rw[e1] at hy;obtain ⟨e,he,hk⟩:=h.a y hy;exact ⟨e,(h7 e).2 (.inr ⟨he,by rw[hk];exact fun h=>ac (Kfa h)⟩),hk⟩
 .rcases (h7 e).1 he with rfl | ⟨he,hk⟩
  .rcases (h7 e').1 he' with rfl | ⟨he',hk'⟩
   .exact jl rfl hne
   .exact Ne.symm (aa e' he' hk').2
  .rcases (h7 e').1 he' with rfl | ⟨he',hk'⟩
   .exact (aa e he hk).2
   .exact h.o e he e' he' hne
 .rcases (h7 e).1 he with rfl | ⟨he,_⟩
  .exact .inl rfl
  .exact .inr he
 .rcases h2 with ⟨e0,he0,_,rfl⟩ | ⟨_,rfl⟩
  .exact .inr ⟨e0,he0,rfl⟩
  .exact .inl rfl
end
section
open Go.RowKit
open Lib renaming hid -> Jh
open List renaming length_append -> Jd
attribute [local go_sem ↓] Go.wp_at_zero Go.wp_at_succ
attribute [local go_sem] Later.cell
theorem Qfv:(prog.info? 5).map (fun i=>(i.zero,i.size,i.bytes))=some (some (.int .u8 0),1,1):=by kernel_rfl
theorem Kzc (n:Nat) (hn:n<=64) (w:World):Calls prog 242 #[.int .i64 (n:Int)] w fun e w'=>e = .returned (.int .i64 (n:Int))/\w=w':=by
 go_enter func242,ntmps242
 go_wp2_with fail
 all_goals go_ret
 all_goals refine ⟨?_,rfl⟩
 all_goals apply Qie
 all_goals omega
theorem Kse {w:World} {B n:Nat} {T:TypeId} {v:Value} {xs:List Value} (h:w.ownsRow B T 1 v (n+1) xs):∃g c,v = .slice (some ⟨g,0,none⟩) (n+1) c:=by
 rcases h.2 with ⟨_,h2⟩ | ⟨g,cap,cur,rfl,_⟩
 .omega
 .exact ⟨g,cap,rfl⟩
theorem Qbl {base e sz n:Nat} {w0 wr w1:World} {v:Value} {xs:List Value} {o:Obj} (hwr:Below base w0 wr) (hbs:base<=wr.heap.size) (hown:wr.ownsRow base e sz v n xs) (hg:(wr.alloc o).grownBy w1 v.ownBlock):Below base w0 w1:=
 hwr.trans ⟨hg.os,hg.tape,hg.output,by have:=hg.size;simp at this;omega,fun k hk=>(hg.block k (by simp;omega) (fun e=>by have:=(hown.lt k e.symm).1;omega)).trans (Below.heap_alloc _ _ _ (by omega))⟩
theorem Kfq {w:World} {B g n cap i:Nat} {s:List UInt8} {y:UInt8} (h:w.ownsRow B 5 1 (.slice (some ⟨g,0,none⟩) n cap) n (bO s)) (hy:s.getD i 0=y) (hi:i < s.length) :
  w.cell? ⟨g,i,none⟩=some (.int .u8 (y.toNat:Int))/\w.frozen? ⟨g,i,none⟩=false:=by
 have hl:(bO s).length=n*1:=h.1;have hl2:(bO s).length=s.length:=by simp[bO]
 refine ⟨?_,b7 h _⟩;rw[b8 h i (by omega)];subst hy;simp[bO,hi]
theorem Kjq {w:World} {B n:Nat} {T:TypeId} {v:Value} {xs:List Value} (h:w.ownsRow B T 1 v n xs) {p:Addr} (hp:v.ownBlock≠some p.block) (u:Value):(w.setCell p u).ownsRow B T 1 v n xs:=
 h.kept (row:=some p.block) ⟨rfl,rfl,rfl,by simp[World.setCell],fun k _ hk=>Below.heap_setCell _ _ _ _ (fun e=>hk (by rw[e]))⟩ (.inr hp)
theorem Kfj {w w':World} {B:Nat} {T:TypeId} {sz n:Nat} {v:Value} {xs:List Value} (h:w.ownsRow B T sz v n xs) (k:Below w.heap.size w w'):w'.ownsRow B T sz v n xs:=
 h.kept (row:=none) ⟨k.os,k.tape,k.output,k.size,fun i hi _=>k.block i hi⟩ (by cases v.ownBlock <;> simp)
theorem Kma (n:Int) (h0:0<=n) (h1:n < 2 ^ 64):cb.wrap n=n:=by rw[cc];omega
theorem Qhc (n:Int) (h0:0<=n) (h1:n < 2 ^ 8):cd.wrap n=n:=by rw[ce];omega
theorem Qha (v:Nat) (h:v < 2 ^ 64):bits .and .u64 (v:Int) 1=((v % 2:Nat):Int):=by have:=(bits_nat .u64 64 (by decide) Kma v 1 h (by decide)).1;rw[show ((1:Nat):Int)=1 from rfl] at this;rw[this,show (1:Nat)=2 ^ 1 - 1 from rfl,Nat.and_two_pow_sub_one_eq_mod]
theorem Kim {x k:Nat} (hx:x < 2 ^ 64):(bits .and .u64 ((x:Int) / 2 ^ k) 1 == 1)=x.testBit k:=by
 have h:(x:Int) / 2 ^ k=((x / 2 ^ k:Nat):Int):=by simp
 rw[h,Nat.testBit_eq_decide_div_mod_eq,Qha _ (bn (Nat.div_le_self _ _) hx)];rcases Nat.mod_two_eq_zero_or_one (x / 2 ^ k) with h | h <;> rw[h] <;> rfl
theorem Kpi {w:World} {B n g:Nat} {T:TypeId} {v:Value} {xs:List Value} {cs:Array Value} (h:w.ownsRow B 5 1 v n xs) (hb:Blk w g T cs) (ht:T≠5):v.ownBlock≠some g:=by
 rcases h.2 with ⟨rfl,_⟩ | ⟨g',cap,cur,rfl,_,hh,_⟩
 .intro e;cases e
 .intro e;injection e with e;have e:g'=g:=e;subst e;unfold Blk at hb;rw[hh] at hb;injection hb with hb;injection hb with _ hb;exact ht hb.symm
def WrAt (B b:Nat) (T:TypeId) (rest:List Value) (l:List Bool) (w:World):Prop:=
 B<=b/\∃v,Blk w b T (v :: .int .i64 (l.length:Int) :: rest).toArray/\w.ownsRow B 5 1 v ((l.length+7) / 8) (bO (packB l))/\v.ownBlock≠some b
theorem WrAt.lt {B b:Nat} {T:TypeId} {rest:List Value} {l:List Bool} {w:World} (h:WrAt B b T rest l w):b < w.heap.size:=by obtain ⟨_,v,h,_⟩:=h;exact h.lt
theorem Qhb (y:UInt8) (k:Nat) (hk:k < 256):bits .or .u8 (y.toNat:Int) (k:Int)=(((y ||| bY k).toNat:Nat):Int):=by rw[(bits_nat .u8 8 (by decide) Qhc y.toNat k (bZ y) hk).2,UInt8.toNat_or,UInt8.toNat_ofNat',Nat.mod_eq_of_lt (by omega:k < 2 ^ 8)]
theorem Ksr (y:UInt8) (j:Nat) (z:Int) (hz:z=128 / 2 ^ j):bits .or .u8 (y.toNat:Int) z=(((y ||| bY (128 >>> j)).toNat:Nat):Int):=by
 have h:z=((128 >>> j:Nat):Int):=by rw[hz,bm];simp
 rw[h];exact Qhb y _ (bn (bs _ _) (by decide))
section
variable {w : World} {B b g m cap : Nat} {T : TypeId} {rest : List Value} {L : List Bool} {s : List UInt8} {y : UInt8}
theorem Qac (hm:L.length=m) (hs:packB L=s) (hBb:B<=b) (hgb:g≠b) (hblk:Blk w b T (.slice (some ⟨g,0,none⟩) (m / 8+1) cap :: .int .i64 (m:Int) :: rest).toArray)
  (hrow:w.ownsRow B 5 1 (.slice (some ⟨g,0,none⟩) (m / 8+1) cap) (m / 8+1) (bO (roomB s m))) (hl:(roomB s m).length=m / 8+1) :
  WrAt B b T rest (L ++ [false]) (w.setCell ⟨b,1,none⟩ (.int .i64 ((m:Int)+1))):=by
 have hp:packB (L ++ [false])=roomB s m:=by rw[Koz,hm,hs];rfl
 refine ⟨hBb,.slice (some ⟨g,0,none⟩) (m / 8+1) cap,?_,?_,fun e=>hgb (by injection e)⟩
 .have:=hblk.set_ 1 (.int .i64 ((m:Int)+1));rw[Jd,hm];simpa using this
 .rw[hp,Jd,hm,bz,show (m+1+7) / 8=m / 8+1 by omega];exact Kjq hrow (fun e=>hgb (by injection e)) _
theorem Qad (hm:L.length=m) (hs:packB L=s) (hBb:B<=b) (hgb:g≠b) (hblk:Blk w b T (.slice (some ⟨g,0,none⟩) (m / 8+1) cap :: .int .i64 (m:Int) :: rest).toArray)
  (hrow:w.ownsRow B 5 1 (.slice (some ⟨g,0,none⟩) (m / 8+1) cap) (m / 8+1) (bO (roomB s m))) (hy:(roomB s m).getD (m / 8) 0=y) (hl:(roomB s m).length=m / 8+1) :
  WrAt B b T rest (L ++ [true]) ((w.setCell ⟨g,m / 8,none⟩ (.int .u8 (((y ||| bY (128 >>> (m % 8))).toNat:Nat):Int))).setCell ⟨b,1,none⟩ (.int .i64 ((m:Int)+1))):=by
 have hp:packB (L ++ [true])=(roomB s m).set (m / 8) (y ||| bY (128 >>> (m % 8))):=by rw[Koz,hm,hs,<-hy];rfl
 refine ⟨hBb,.slice (some ⟨g,0,none⟩) (m / 8+1) cap,?_,?_,fun e=>hgb (by injection e)⟩
 .have:=(hblk.far (p:=⟨g,m / 8,none⟩) (fun e=>hgb e.symm) (.int .u8 (((y ||| bY (128 >>> (m % 8))).toNat:Nat):Int))).set_ 1 (.int .i64 ((m:Int)+1));rw[Jd,hm];simpa using this
 .rw[hp,Jd,hm,bz,show (m+1+7) / 8=m / 8+1 by omega];have h1:=(b9 hrow (m / 8) (.int .u8 (((y ||| bY (128 >>> (m % 8))).toNat:Nat):Int))).1
  have e:(bO (roomB s m)).set (m / 8) (.int .u8 (((y ||| bY (128 >>> (m % 8))).toNat:Nat):Int))=bO ((roomB s m).set (m / 8) (y ||| bY (128 >>> (m % 8)))):=by unfold bO;rw[List.map_set]
  rw[e] at h1;exact Kjq h1 (fun e=>hgb (by injection e)) _
end
def KeepT (b:Nat) (w w':World):Prop:=∀g T cs,Blk w g T cs->g≠b->T≠5->Blk w' g T cs
theorem KeepT.refl (b:Nat) (w:World):KeepT b w w:=fun _ _ _ h _ _=>h
theorem KeepT.trans {b:Nat} {w w1 w2:World} (h:KeepT b w w1) (k:KeepT b w1 w2):KeepT b w w2:=fun g T cs hg hb ht=>k g T cs (h g T cs hg hb ht) hb ht
theorem KeepT.of_below {b:Nat} {w w1:World} (h:Below w.heap.size w w1):KeepT b w w1:=fun _ _ _ hg _ _=>hg.below h hg.lt
theorem KeepT.grown {b:Nat} {w w1:World} {B n:Nat} {v:Value} {xs:List Value} {o:Obj} (h:w.ownsRow B 5 1 v n xs) (hg:(w.alloc o).grownBy w1 v.ownBlock):KeepT b w w1:=
 fun g T cs hb _ ht=>(hb.alloc o).grown hg (fun e=>Kpi h hb ht e.symm)
theorem KeepT.own {b i:Nat} {w:World} {u:Value}:KeepT b w (w.setCell ⟨b,i,none⟩ u):=fun _ _ _ hb hne _=>hb.far (p:=⟨b,i,none⟩) hne _
theorem KeepT.row {b g cap B n m i:Nat} {w:World} {u:Value} {xs:List Value} (h:w.ownsRow B 5 1 (.slice (some ⟨g,0,none⟩) m cap) n xs):KeepT b w (w.setCell ⟨g,i,none⟩ u):=
 fun k T cs hb _ ht=>hb.far (p:=⟨g,i,none⟩) (fun e=>Kpi h hb ht (by rw[e];rfl)) _
theorem Kbj (B b:Nat) (T:TypeId) (rest:List Value) (l:List Bool) (x n:Nat) (w:World) (h:WrAt B b T rest l w) (hn:n<=64) (hlen:l.length<=1099511627776) (hx:x < 2 ^ 64) (hB:B<=w.heap.size) :
  Calls prog 199 #[.pointer (some ⟨b,0,none⟩),.int .u64 (x:Int),.int .i64 (n:Int)] w fun e w'=>e = .returned (.tuple #[])/\WrAt B b T rest (l++putN x n) w'/\Below B w w'/\KeepT b w w':=by
 obtain ⟨i0,aR,aT,aQ,aU⟩:=info_parts Qfv;have H:=Jh h;clear h;go_enter func199,ntmps199
 go_wp2_with fail
 refine (Kzc n hn w).mono ?_;rintro _ _ ⟨rfl,rfl⟩;go_wp2_with fail
 go_loopg [2] n (fun k s2 wr=>s2 = .int .i64 (k:Int)/\∃d,d++putN x k=putN x n/\WrAt B b T rest (l++d) wr/\Below B w wr/\KeepT b w wr)
 case atStart=>exact ⟨rfl,[],rfl,by simpa using H.out,Below.refl _ _,KeepT.refl _ _⟩
 case round=>
  obtain ⟨rfl,d,hd,hw,hb,aJ⟩:=hrel;have aE:=Jh aJ;clear aJ;obtain ⟨am,v,aa,ab,ay⟩:=hw
  cases gk with
  | zero=>
   have HD:=Jh hd;clear hd;go_wp2_with fail
   go_end0
   rw[putN,List.append_nil] at HD;refine ⟨rfl,?_,hb,aE.out⟩;rw[<-HD.out];exact ⟨am,v,aa,ab,ay⟩
  | succ k=>
   obtain ⟨m,hm⟩:=iZ ((l++d).length);obtain ⟨s,hs⟩:=iZ (packB (l++d));have aI:=jk be hd;rw[Jd,Kbh,Kbh] at aI
   have hml:m<=1099511627840:=by rw[Jd] at hm;omega
   have hk:k < 64:=by omega
   clear aI;have aV:B<=wr.heap.size:=aX hB hb.size;have av:B<=w.heap.size:=hB;have HM:=Jh hm;have HS:=Jh hs;have HD:=Jh hd;have aM:=Jh hb;have HBK:=Jh aa;rw[hm,hs] at ab;rw[hm] at aa;have c0:wr.cell? ⟨b,0,none⟩=some v:=aa.cell 0;have c1:wr.cell? ⟨b,1,none⟩=some (.int .i64 (m:Int)):=aa.cell 1;have z0:=aa.frozen 0;have z1:=aa.frozen 1;clear hd hm hs hb;have aK:s.length=(m+7) / 8:=by rw[<-HS.out,(Kfp (l++d)).len,HM.out]
   by_cases h8:m % 8=0
   .have e8:((m:Int) % 8 == 0)=true:=by simp;omega
    go_wp2_with (at_builtin;refine wpList_append_own_at _ rfl _ _ 76 rfl B 5 i0 (.int .u8 0) 1 1 underlying76 aR aT aQ aU rfl (by decide) _ _ _ rfl (ca ab _) ⟨wr.heap.size,0,none⟩ 1 1 [.int .u8 0] rfl rfl ?c1 ?c2 ?c3 ?c4 ?c5 ?_)
    case c1=>exact Kao (l:=[.int .u8 0]) (Blk.new wr _ _)
    case c2=>intro u hu;rw[List.mem_singleton.1 hu];rfl
    case c3=>unfold maxLen;omega
    case c4=>omega
    case c5=>simp;omega
    intro v' w1 hown' hgrow hx1 hat;have az:roomB s m=s ++ [0]:=jf h8
    have aq:w1.ownsRow B 5 1 v' (m / 8+1) (bO (roomB s m)):=by rw[az,show m / 8+1=(m+7) / 8+1 by omega,show bO (s ++ [0])=bO s ++ [.int .u8 0] by simp[bO]];exact hown'
    have aL:Below B w w1:=Qbl aM.out aV ab hgrow;have aO:=Jh (aE.out.trans (KeepT.grown (b:=b) ab hgrow));have ah:Blk w1 b T (v :: .int .i64 (m:Int) :: rest).toArray:=(aa.alloc _).grown hgrow (fun e=>ay e.symm)
    have ax:v'.ownBlock≠some b:=by
     rcases hat with e | e
     .rw[e];exact ay
     .rw[e];intro e2;injection e2 with e2;have:=aa.lt;omega
    obtain ⟨g,al,rfl⟩:=Kse aq;clear hown' hgrow hat hx1 c0 c1 z0 z1;have c0:w1.cell? ⟨b,0,none⟩=some v:=ah.cell 0;have z0:=ah.frozen 0;go_upto_region 6 with fail
    have aj:(roomB s m).length=m / 8+1:=Kli aK;have ac:Blk (w1.setCell ⟨b,0,none⟩ (.slice (some ⟨g,0,none⟩) (m / 8+1) al)) b T (.slice (some ⟨g,0,none⟩) (m / 8+1) al :: .int .i64 (m:Int) :: rest).toArray:=by simpa using ah.set_ 0 (.slice (some ⟨g,0,none⟩) (m / 8+1) al)
    have ad:=Kjq aq (p:=⟨b,0,none⟩) ax (.slice (some ⟨g,0,none⟩) (m / 8+1) al);have aG:Below B w (w1.setCell ⟨b,0,none⟩ (.slice (some ⟨g,0,none⟩) (m / 8+1) al)):=aL.setCell (p:=⟨b,0,none⟩) am _;have aC:KeepT b w (w1.setCell ⟨b,0,none⟩ (.slice (some ⟨g,0,none⟩) (m / 8+1) al)):=aO.out.trans KeepT.own;obtain ⟨w2,aF⟩:=iZ (w1.setCell ⟨b,0,none⟩ (.slice (some ⟨g,0,none⟩) (m / 8+1) al));rw[aF] at ac ad aG aC;have aw:=Jh aC;clear aC;rw[aF];clear aF ah aq aL c0 z0 aa ab;have ao:=Jh aG;have af:=Jh ac;have ai:=Jh ad;have ap:g≠b:=fun e=>ax (by rw[e];rfl)
    have aP:b≠g:=fun e=>ap e.symm
    obtain ⟨y,hy⟩:∃y:UInt8,(roomB s m).getD (m / 8) 0=y:=⟨_,rfl⟩;have an:=Kfq ad hy (by omega);have HY:=Jh hy;clear hy;have c2:=an.1;have z2:=an.2;clear an;have c0:_=some (Value.slice (some ⟨g,0,none⟩) (m / 8+1) al):=ac.cell 0;have c1:_=some (Value.int .i64 (m:Int)):=ac.cell 1;have z1:=ac.frozen 1;have aN:=ac.lt;have aS:=(b6 ad g rfl).2;have aA:=(b6 ad g rfl).1;clear aG ac ad
    cases hbt:x.testBit k with
    | true=>
     have ar:(bits .and .u64 ((x:Int) / 2 ^ k) 1 == 1)=true:=by rw[Kim hx,hbt]
     go_upto_region 7 with fail
     refine Kal 19 (by kernel_rfl) (by kernel_rfl) ?_;simp only[aY,bd,aZ,bf]
     repeat (go_big_quiet_step (fail))
     refine cq ?_;rintro w3 ⟨⟨_,ak⟩,rfl⟩;have ae:=Jh (Kfj ai.out ak);have ag:=Jh (af.out.below ak af.out.lt);have aD:=Jh (ao.out.trans (ak.mono (aX av ao.out.size)));have aH:=Jh (aw.out.trans (KeepT.of_below (b:=b) ak));have c1:w3.cell? ⟨b,1,none⟩=_:=ag.out.cell 1;have z1:=ag.out.frozen 1;have c2:=(Kfq ae.out HY.out (by omega)).1;have z2:=(Kfq ae.out HY.out (by omega)).2;clear ak c0;go_wp2_with fail
     go_roundg k
     case measure=>omega
     case rel=>
      have aB:bits .or .u8 (y.toNat:Int) 128=(((y ||| bY (128 >>> (m % 8))).toNat:Nat):Int):=Ksr y (m % 8) _ (by rw[h8];rfl);rw[aB];refine ⟨by go_num,d ++ [true],by rw[aW,<-HD.out,putN,hbt];rfl,?_,(aD.out.setCell (p:=⟨g,m / 8,none⟩) aA _).setCell (p:=⟨b,1,none⟩) am _,(aH.out.trans (KeepT.row ae.out)).trans KeepT.own⟩;rw[<-aW];exact Qad HM.out HS.out am ap ag.out ae.out HY.out aj
    | false=>
     have ar:(bits .and .u64 ((x:Int) / 2 ^ k) 1 == 1)=false:=by rw[Kim hx,hbt]
     go_wp2_with fail
     go_roundg k
     case measure=>omega
     case rel=>
      refine ⟨by go_num,d ++ [false],by rw[aW,<-HD.out,putN,hbt];rfl,?_,ao.out.setCell (p:=⟨b,1,none⟩) am _,aw.out.trans KeepT.own⟩;rw[<-aW];exact Qac HM.out HS.out am ap af.out ai.out aj
   .have e8:((m:Int) % 8 == 0)=false:=by simp;omega
    obtain ⟨q,hq⟩:∃q,(m+7) / 8=q+1:=⟨(m+7) / 8 - 1,by omega⟩;obtain rfl:q=m / 8:=by omega
    rw[hq] at ab;obtain ⟨g,al,rfl⟩:=Kse ab;go_upto_region 6 with fail
    have az:roomB s m=s:=je h8;have aj:(roomB s m).length=m / 8+1:=Kli aK;have ao:=Jh aM.out;have aw:=Jh aE.out;have af:=Jh aa;have ai:Hid (wr.ownsRow B 5 1 (.slice (some ⟨g,0,none⟩) (m / 8+1) al) (m / 8+1) (bO (roomB s m))):=Jh (by rw[az];exact ab);have ap:g≠b:=fun e=>ay (by rw[e];rfl)
    have aP:b≠g:=fun e=>ap e.symm
    obtain ⟨y,hy⟩:∃y:UInt8,(roomB s m).getD (m / 8) 0=y:=⟨_,rfl⟩;have an:=Kfq ai.out hy (by omega);have HY:=Jh hy;clear hy;have c2:=an.1;have z2:=an.2;clear an;have aN:=aa.lt;have aS:=(b6 ab g rfl).2;have aA:=(b6 ab g rfl).1;clear aa ab az hq
    cases hbt:x.testBit k with
    | true=>
     have ar:(bits .and .u64 ((x:Int) / 2 ^ k) 1 == 1)=true:=by rw[Kim hx,hbt]
     go_upto_region 7 with fail
     refine Kal 19 (by kernel_rfl) (by kernel_rfl) ?_;simp only[aY,bd,aZ,bf]
     repeat (go_big_quiet_step (fail))
     refine cq ?_;rintro w3 ⟨⟨_,ak⟩,rfl⟩;have ae:=Jh (Kfj ai.out ak);have ag:=Jh (af.out.below ak af.out.lt);have aD:=Jh (ao.out.trans (ak.mono (aX av ao.out.size)));have aH:=Jh (aw.out.trans (KeepT.of_below (b:=b) ak));have c1:w3.cell? ⟨b,1,none⟩=_:=ag.out.cell 1;have z1:=ag.out.frozen 1;have c2:=(Kfq ae.out HY.out (by omega)).1;have z2:=(Kfq ae.out HY.out (by omega)).2;clear ak c0;go_wp2_with fail
     go_roundg k
     case measure=>omega
     case rel=>
      have aB:bits .or .u8 (y.toNat:Int) (128 / 2 ^ (m % 8))=(((y ||| bY (128 >>> (m % 8))).toNat:Nat):Int):=Ksr y (m % 8) _ rfl;rw[aB];refine ⟨by go_num,d ++ [true],by rw[aW,<-HD.out,putN,hbt];rfl,?_,(aD.out.setCell (p:=⟨g,m / 8,none⟩) aA _).setCell (p:=⟨b,1,none⟩) am _,(aH.out.trans (KeepT.row ae.out)).trans KeepT.own⟩;rw[<-aW];exact Qad HM.out HS.out am ap ag.out ae.out HY.out aj
    | false=>
     have ar:(bits .and .u64 ((x:Int) / 2 ^ k) 1 == 1)=false:=by rw[Kim hx,hbt]
     go_wp2_with fail
     go_roundg k
     case measure=>omega
     case rel=>
      refine ⟨by go_num,d ++ [false],by rw[aW,<-HD.out,putN,hbt];rfl,?_,ao.out.setCell (p:=⟨b,1,none⟩) am _,aw.out.trans KeepT.own⟩;rw[<-aW];exact Qac HM.out HS.out am ap af.out ai.out aj
end
section
open Go.RowKit
theorem Kgk {fn:Func} {p:Tmp} {t:TypeId} (h:fn.results = #[.cell p t]) (tmps:Array Value) (w:World) (a:Addr) (x:Value)
  (hp:tmps.getD p undef = .pointer (some a)) (hx:(loadVar t a).run prog w = .ok x w) :
  (results fn tmps).run prog w = .ok x w:=by
 have aa:tmps[p]?.getD undef = .pointer (some a):=by simpa using hp
 simp only[results,h];simp[Sem.run_bind,co,asAddr,aa,hx]
theorem Kdd {fn:Func} {p q:Tmp} {t:TypeId} (h:fn.results = #[.cell p t,.tmp q]) (tmps:Array Value) (w:World) (a:Addr) (x:Value)
  (hp:tmps.getD p undef = .pointer (some a)) (hx:(loadVar t a).run prog w = .ok x w) :
  (results fn tmps).run prog w = .ok (.tuple #[x,tmps.getD q undef]) w:=by
 have aa:tmps[p]?.getD undef = .pointer (some a):=by simpa using hp
 simp only[results,h];simp[Sem.run_bind,co,asAddr,aa,hx]
end
section
open Go.RowKit
open Lib renaming hid -> Jh
attribute [local go_sem ↓] Go.wp_at_zero Go.wp_at_succ
attribute [local go_sem] Later.cell
def restC (c:Cst):List Value:=[.int .i64 (c.n:Int),.int .i64 c.last.t,.int .u64 (c.last.v:Int),.int .i64 c.step,.int .i64 (c.lead:Int),.int .i64 (c.tail:Int),.bool c.window]
def ChAt (B b:Nat) (c:Cst) (l:List Bool) (w:World):Prop:=WrAt B b 271 (restC c) l w
theorem WrAt.far {B b:Nat} {T:TypeId} {rest:List Value} {l:List Bool} {w:World} (h:WrAt B b T rest l w) {w':World} (hb:Below w.heap.size w w'):WrAt B b T rest l w':=by obtain ⟨h0,v,h1,h2,h3⟩:=h;exact ⟨h0,v,h1.below hb h1.lt,Kfj h2 hb,h3⟩
theorem WrAt.rest_set {B b:Nat} {T:TypeId} {rest:List Value} {l:List Bool} {w:World} (h:WrAt B b T rest l w) (i:Nat) (u:Value):WrAt B b T (rest.set i u) l (w.setCell ⟨b,i+2,none⟩ u):=by obtain ⟨h0,v,h1,h2,h3⟩:=h;refine ⟨h0,v,?_,Kjq h2 h3 _,h3⟩;have:=h1.set_ (i+2) u;simpa using this
theorem ChAt.cells {B b:Nat} {c:Cst} {l:List Bool} {w:World} (h:ChAt B b c l w) :
  w.cell? ⟨b,2,none⟩=some (.int .i64 (c.n:Int))/\w.cell? ⟨b,3,none⟩=some (.int .i64 c.last.t)/\w.cell? ⟨b,4,none⟩=some (.int .u64 (c.last.v:Int))/\w.cell? ⟨b,5,none⟩=some (.int .i64 c.step)/\
  w.cell? ⟨b,6,none⟩=some (.int .i64 (c.lead:Int))/\w.cell? ⟨b,7,none⟩=some (.int .i64 (c.tail:Int))/\w.cell? ⟨b,8,none⟩=some (.bool c.window)/\∀i,w.frozen? ⟨b,i,none⟩=false:=by
 obtain ⟨h0,v,h1,h2,h3⟩:=h;exact ⟨h1.cell 2,h1.cell 3,h1.cell 4,h1.cell 5,h1.cell 6,h1.cell 7,h1.cell 8,h1.frozen⟩
theorem Kgh (z:Int):cb.wrap z=((u64N z:Nat):Int):=by rw[cc];unfold u64N;omega
theorem Kjd (z:Int):u64N z < 2 ^ 64:=by unfold u64N;omega
theorem Kyx (w:World):Calls prog 243 #[] w fun e w'=>e = .returned (.agg #[.int .u64 2,.int .i64 2,.int .i64 7,.int .u64 6,.int .i64 3,.int .i64 9,.int .u64 14,.int .i64 4,.int .i64 12,.int .u64 15,.int .i64 4,.int .i64 64])/\Below w.heap.size w w':=by
 go_enter func243,ntmps243
 go_wp2_with fail
 refine bodyPost_ret (Kgk rfl _ _ ⟨w.heap.size,0,none⟩ _ rfl (run_loadVar_row _ w.heap.size 335 335 _ (0,0) _ (heap_alloc_new w _) underlying335 rfl (by kernel_rfl))) rfl ?_;exact ⟨rfl,(Below.refl _ _).alloc (a8 _) _⟩
def Klo:Value:=.agg #[.int .u64 2,.int .i64 2,.int .i64 7,.int .u64 6,.int .i64 3,.int .i64 9,.int .u64 14,.int .i64 4,.int .i64 12,.int .u64 15,.int .i64 4,.int .i64 64]
theorem size0 (w:World):(bW 335 Klo (.int .i64 0)).run prog w = .ok (.agg #[.int .u64 2,.int .i64 2,.int .i64 7]) w:=by kernel_rfl
theorem size1 (w:World):(bW 335 Klo (.int .i64 1)).run prog w = .ok (.agg #[.int .u64 6,.int .i64 3,.int .i64 9]) w:=by kernel_rfl
theorem size2 (w:World):(bW 335 Klo (.int .i64 2)).run prog w = .ok (.agg #[.int .u64 14,.int .i64 4,.int .i64 12]) w:=by kernel_rfl
theorem size3 (w:World):(bW 335 Klo (.int .i64 3)).run prog w = .ok (.agg #[.int .u64 15,.int .i64 4,.int .i64 64]) w:=by kernel_rfl
theorem Qcg (B b:Nat) (c:Cst) (l:List Bool) (st:Int) (w:World) (h:ChAt B b c l w) (h1:-1125899906842624<=c.step) (h2:c.step<=1125899906842624) (h3:-1125899906842624<=st) (h4:st<=1125899906842624) (hlen:l.length<=1099511627000) (hB:B<=w.heap.size) :
  Calls prog 200 #[.pointer (some ⟨b,0,none⟩),.int .i64 st] w fun e w'=>e = .returned (.tuple #[])/\ChAt B b { c with step:=st } (l++Kcs (st - c.step)) w'/\Below B w w'/\KeepT b w w':=by
 have hc:=h.cells;have c3:=hc.2.2.2.1;have z3:=hc.2.2.2.2.2.2.2 5;have H:=Jh h;have H0:=Jh h.1;clear h hc;have hw:wrap64 (st - c.step)=st - c.step:=by unfold wrap64;omega
 obtain ⟨ch,aK⟩:=iZ (st - c.step);rw[aK] at hw |-;have b1:-2251799813685248<=ch:=by omega
 have b2:ch<=2251799813685248:=by omega
 have HCH:=Jh aK;go_enter func200,ntmps200
 go_upto_region 2 with fail
 have H1:Hid (ChAt B b { c with step:=st } l (w.setCell ⟨b,5,none⟩ (.int .i64 st))):=Jh (H.out.rest_set 3 _);have aI:Hid (Below B w (w.setCell ⟨b,5,none⟩ (.int .i64 st))):=Jh ((Below.refl _ _).setCell (p:=⟨b,5,none⟩) H0.out _);have aF:Hid (KeepT b w (w.setCell ⟨b,5,none⟩ (.int .i64 st))):=Jh KeepT.own;have aD:B<=(w.setCell ⟨b,5,none⟩ (.int .i64 st)).heap.size:=by simpa[World.setCell] using hB
 obtain ⟨w1,aE⟩:=iZ (w.setCell ⟨b,5,none⟩ (.int .i64 st));rw[aE] at H1 aI aF aD;rw[aE];clear aE c3 z3 hw
 by_cases h0:ch=0
 .subst h0;go_wp2_with fail
  refine (Kbj B b _ _ l 0 1 w1 H1.out (by omega) (by omega) (by decide) aD).mono ?_;rintro _ w2 ⟨rfl,h5,h6,ad⟩;go_wp2_with fail
  refine bodyPost_ret (results_none rfl _ _ _) rfl ?_;exact ⟨rfl,h5,aI.out.trans h6,aF.out.trans ad⟩
 .have e0:(ch == 0)=false:=by simp[h0]
  have aC:=Jh h0;go_wp2_with fail
  refine (Kyx w1).mono ?_;rintro _ w2 ⟨rfl,aB⟩;obtain ⟨vs,aJ⟩:=iZ Klo;have i0:=size0;have i1:=size1;have i2:=size2;have i3:=size3;rw[aJ] at i0 i1 i2 i3;rw[show (Value.agg #[.int .u64 2,.int .i64 2,.int .i64 7,.int .u64 6,.int .i64 3,.int .i64 9,.int .u64 14,.int .i64 4,.int .i64 12,.int .u64 15,.int .i64 4,.int .i64 64])=vs from aJ];clear aJ;have H2:Hid (ChAt B b { c with step:=st } l w2):=Jh (H1.out.far aB);have aO:=Jh (aI.out.trans (aB.mono aD));have aQ:=Jh (aF.out.trans (KeepT.of_below (b:=b) aB));have aP:B<=w2.heap.size:=aX aD aB.size;clear aB;go_wp2_with fail
  go_loopg [25] 4 (fun g s25 wr=>∃i:Nat,i+g=4/\s25 = .int .i64 (i:Int)/\(1<=i->¬(-64<=ch/\ch < 64))/\(2<=i->¬(-256<=ch/\ch < 256))/\(3<=i->¬(-2048<=ch/\ch < 2048))/\i<=3/\ChAt B b { c with step:=st } l wr/\Below B w wr/\KeepT b w wr)
  case atStart=>exact ⟨0,rfl,rfl,by omega,by omega,by omega,by omega,H2.out,aO.out,aQ.out⟩
  case round=>
   obtain ⟨i,hi,rfl,n1,n2,n3,h3,aL,aG,aN⟩:=hrel;have am:=Jh aN;clear aN;have N1:=Jh n1;have N2:=Jh n2;have N3:=Jh n3;have HC:=Jh aL;have al:=Jh aG;have ag:B<=wr.heap.size:=aX hB aG.size;clear n1 n2 n3 aL aG;rcases (by omega:i=0\/i=1\/i=2\/i=3) with rfl | rfl | rfl | rfl
   .obtain rfl:gk=4:=by omega
    by_cases hf:-64<=ch/\ch < 64
    .have f1:decide (-64<=ch)=true:=by simp;omega
     have f2:decide (ch < 64)=true:=by simp;omega
     have f3:=hf.1;have f4:=hf.2;go_upto_region 9 with fail
     have aa:Blk (wr.alloc (.cells #[.int .u64 2,.int .i64 2,.int .i64 7] 334)) wr.heap.size 334 #[.int .u64 2,.int .i64 2,.int .i64 7]:=Blk.new _ _ _;have ha:Below wr.heap.size wr (wr.alloc (.cells #[.int .u64 2,.int .i64 2,.int .i64 7] 334)):=(Below.refl _ _).alloc (a8 _) _;obtain ⟨w3,af⟩:=iZ (wr.alloc (.cells #[.int .u64 2,.int .i64 2,.int .i64 7] 334));obtain ⟨q,hq⟩:=iZ wr.heap.size;rw[af] at aa ha;rw[af];rw[hq] at aa;have ay:q≠b:=by have:=HC.out.lt;omega
     rw[hq];have HQ:=Jh hq;have an:=Jh aa;have HA:=Jh ha;clear af hq ha;have s0:w3.cell? ⟨q,0,none⟩=_:=aa.cell 0;have s1:w3.cell? ⟨q,1,none⟩=_:=aa.cell 1;have sl:=aa.lt;clear aa;refine Kal 7 (by kernel_rfl) (by kernel_rfl) ?_;simp only[aY,bd,aZ,bf]
     repeat (go_big_quiet_step (fail))
     refine cq ?_;rintro w4 ⟨⟨_,ae⟩,rfl⟩;have ac:=Jh (then_ HA.out ae);have av:=Jh (al.out.trans (ac.out.mono ag));have ah:=Jh (an.out.below ae sl);have aj:B<=w4.heap.size:=aX ag ac.out.size;have az:=Jh (am.out.trans (KeepT.of_below (b:=b) ac.out));clear s0 s1 sl ae;go_wp2_with fail
     refine (Kbj B b _ _ l 2 2 w4 (HC.out.far ac.out) (by decide) (by omega) (by decide) aj).mono ?_;rintro _ w5 ⟨rfl,h5,h6,ad⟩;have aH:q < w4.heap.size:=ah.out.lt;have H5:=Jh h5;have H6:=Jh h6;have aA:=Jh (av.out.trans h6);have ai:B<=w5.heap.size:=aX aj h6.size;have ak:Hid (Blk w5 q 334 #[.int .u64 2,.int .i64 2,.int .i64 7]):=Jh (ad _ _ _ ah.out (fun e=>ay e) (by decide));have ao:=Jh (az.out.trans ad);clear h5 h6 ad;go_upto_region 10 with fail
     have s2:w5.cell? ⟨q,2,none⟩=_:=ak.out.cell 2;have sl:=ak.out.lt;refine Kal 7 (by kernel_rfl) (by kernel_rfl) ?_;simp only[aY,bd,aZ,bf]
     repeat (go_big_quiet_step (fail))
     refine cq ?_;rintro w6 ⟨⟨_,ab⟩,rfl⟩;rw[Kgh];have H7:=Jh (WrAt.far H5.out ab);have aq:=Jh (ao.out.trans (KeepT.of_below (b:=b) ab));have ar:=Jh (aA.out.trans (ab.mono ai));have aw:B<=w6.heap.size:=aX ai ab.size;clear s2 sl ab;go_wp2_with fail
     refine (Kbj B b _ _ (l++putN 2 2) (u64N ch) 7 w6 H7.out (by decide) (by rw[bc,Kbh];omega) (Kjd _) aw).mono ?_;rintro _ w7 ⟨rfl,h8,h9,ax⟩;go_wp2_with fail
     refine bodyPost_ret (results_none rfl _ _ _) rfl ?_;refine ⟨rfl,?_,ar.out.trans h9,aq.out.trans ax⟩;rw[aW] at h8
     have ap:Kcs ch=putN 2 2++putN (u64N ch) 7:=by unfold Kcs;rw[je aC.out,jf hf]
     rw[ap];exact h8
    .by_cases hf1:-64<=ch
     .have aM:¬ch < 64:=fun h=>hf ⟨hf1,h⟩
      have f1:decide (-64<=ch)=true:=by simp;omega
      have f2:decide (ch < 64)=false:=by simp;omega
      go_wp2_with fail
      go_roundg 3
      case measure=>omega
      case rel=>exact ⟨1,rfl,rfl,fun _=>hf,by omega,by omega,by omega,HC.out.far ((Below.refl _ _).alloc (a8 _) _),al.out.trans ((Below.refl _ _).alloc ag _),am.out.trans (KeepT.of_below ((Below.refl _ _).alloc (a8 _) _))⟩
     .have f1:decide (-64<=ch)=false:=by simp;omega
      go_wp2_with fail
      go_roundg 3
      case measure=>omega
      case rel=>exact ⟨1,rfl,rfl,fun _=>hf,by omega,by omega,by omega,HC.out.far ((Below.refl _ _).alloc (a8 _) _),al.out.trans ((Below.refl _ _).alloc ag _),am.out.trans (KeepT.of_below ((Below.refl _ _).alloc (a8 _) _))⟩
   .obtain rfl:gk=3:=by omega
    by_cases hf:-256<=ch/\ch < 256
    .have f1:decide (-256<=ch)=true:=by simp;omega
     have f2:decide (ch < 256)=true:=by simp;omega
     have f3:=hf.1;have f4:=hf.2;go_upto_region 9 with fail
     have aa:Blk (wr.alloc (.cells #[.int .u64 6,.int .i64 3,.int .i64 9] 334)) wr.heap.size 334 #[.int .u64 6,.int .i64 3,.int .i64 9]:=Blk.new _ _ _;have ha:Below wr.heap.size wr (wr.alloc (.cells #[.int .u64 6,.int .i64 3,.int .i64 9] 334)):=(Below.refl _ _).alloc (a8 _) _;obtain ⟨w3,af⟩:=iZ (wr.alloc (.cells #[.int .u64 6,.int .i64 3,.int .i64 9] 334));obtain ⟨q,hq⟩:=iZ wr.heap.size;rw[af] at aa ha;rw[af];rw[hq] at aa;have ay:q≠b:=by have:=HC.out.lt;omega
     rw[hq];have HQ:=Jh hq;have an:=Jh aa;have HA:=Jh ha;clear af hq ha;have s0:w3.cell? ⟨q,0,none⟩=_:=aa.cell 0;have s1:w3.cell? ⟨q,1,none⟩=_:=aa.cell 1;have sl:=aa.lt;clear aa;refine Kal 7 (by kernel_rfl) (by kernel_rfl) ?_;simp only[aY,bd,aZ,bf]
     repeat (go_big_quiet_step (fail))
     refine cq ?_;rintro w4 ⟨⟨_,ae⟩,rfl⟩;have ac:=Jh (then_ HA.out ae);have av:=Jh (al.out.trans (ac.out.mono ag));have ah:=Jh (an.out.below ae sl);have aj:B<=w4.heap.size:=aX ag ac.out.size;have az:=Jh (am.out.trans (KeepT.of_below (b:=b) ac.out));clear s0 s1 sl ae;go_wp2_with fail
     refine (Kbj B b _ _ l 6 3 w4 (HC.out.far ac.out) (by decide) (by omega) (by decide) aj).mono ?_;rintro _ w5 ⟨rfl,h5,h6,ad⟩;have aH:q < w4.heap.size:=ah.out.lt;have H5:=Jh h5;have H6:=Jh h6;have aA:=Jh (av.out.trans h6);have ai:B<=w5.heap.size:=aX aj h6.size;have ak:Hid (Blk w5 q 334 #[.int .u64 6,.int .i64 3,.int .i64 9]):=Jh (ad _ _ _ ah.out (fun e=>ay e) (by decide));have ao:=Jh (az.out.trans ad);clear h5 h6 ad;go_upto_region 10 with fail
     have s2:w5.cell? ⟨q,2,none⟩=_:=ak.out.cell 2;have sl:=ak.out.lt;refine Kal 7 (by kernel_rfl) (by kernel_rfl) ?_;simp only[aY,bd,aZ,bf]
     repeat (go_big_quiet_step (fail))
     refine cq ?_;rintro w6 ⟨⟨_,ab⟩,rfl⟩;rw[Kgh];have H7:=Jh (WrAt.far H5.out ab);have aq:=Jh (ao.out.trans (KeepT.of_below (b:=b) ab));have ar:=Jh (aA.out.trans (ab.mono ai));have aw:B<=w6.heap.size:=aX ai ab.size;clear s2 sl ab;go_wp2_with fail
     refine (Kbj B b _ _ (l++putN 6 3) (u64N ch) 9 w6 H7.out (by decide) (by rw[bc,Kbh];omega) (Kjd _) aw).mono ?_;rintro _ w7 ⟨rfl,h8,h9,ax⟩;go_wp2_with fail
     refine bodyPost_ret (results_none rfl _ _ _) rfl ?_;refine ⟨rfl,?_,ar.out.trans h9,aq.out.trans ax⟩;rw[aW] at h8
     have ap:Kcs ch=putN 6 3++putN (u64N ch) 9:=by unfold Kcs;rw[je aC.out,je (N1.out (by decide)),jf hf]
     rw[ap];exact h8
    .by_cases hf1:-256<=ch
     .have aM:¬ch < 256:=fun h=>hf ⟨hf1,h⟩
      have f1:decide (-256<=ch)=true:=by simp;omega
      have f2:decide (ch < 256)=false:=by simp;omega
      go_wp2_with fail
      go_roundg 2
      case measure=>omega
      case rel=>exact ⟨2,rfl,rfl,fun _=>N1.out (by decide),fun _=>hf,by omega,by omega,HC.out.far ((Below.refl _ _).alloc (a8 _) _),al.out.trans ((Below.refl _ _).alloc ag _),am.out.trans (KeepT.of_below ((Below.refl _ _).alloc (a8 _) _))⟩
     .have f1:decide (-256<=ch)=false:=by simp;omega
      go_wp2_with fail
      go_roundg 2
      case measure=>omega
      case rel=>exact ⟨2,rfl,rfl,fun _=>N1.out (by decide),fun _=>hf,by omega,by omega,HC.out.far ((Below.refl _ _).alloc (a8 _) _),al.out.trans ((Below.refl _ _).alloc ag _),am.out.trans (KeepT.of_below ((Below.refl _ _).alloc (a8 _) _))⟩
   .obtain rfl:gk=2:=by omega
    by_cases hf:-2048<=ch/\ch < 2048
    .have f1:decide (-2048<=ch)=true:=by simp;omega
     have f2:decide (ch < 2048)=true:=by simp;omega
     have f3:=hf.1;have f4:=hf.2;go_upto_region 9 with fail
     have aa:Blk (wr.alloc (.cells #[.int .u64 14,.int .i64 4,.int .i64 12] 334)) wr.heap.size 334 #[.int .u64 14,.int .i64 4,.int .i64 12]:=Blk.new _ _ _;have ha:Below wr.heap.size wr (wr.alloc (.cells #[.int .u64 14,.int .i64 4,.int .i64 12] 334)):=(Below.refl _ _).alloc (a8 _) _;obtain ⟨w3,af⟩:=iZ (wr.alloc (.cells #[.int .u64 14,.int .i64 4,.int .i64 12] 334));obtain ⟨q,hq⟩:=iZ wr.heap.size;rw[af] at aa ha;rw[af];rw[hq] at aa;have ay:q≠b:=by have:=HC.out.lt;omega
     rw[hq];have HQ:=Jh hq;have an:=Jh aa;have HA:=Jh ha;clear af hq ha;have s0:w3.cell? ⟨q,0,none⟩=_:=aa.cell 0;have s1:w3.cell? ⟨q,1,none⟩=_:=aa.cell 1;have sl:=aa.lt;clear aa;refine Kal 7 (by kernel_rfl) (by kernel_rfl) ?_;simp only[aY,bd,aZ,bf]
     repeat (go_big_quiet_step (fail))
     refine cq ?_;rintro w4 ⟨⟨_,ae⟩,rfl⟩;have ac:=Jh (then_ HA.out ae);have av:=Jh (al.out.trans (ac.out.mono ag));have ah:=Jh (an.out.below ae sl);have aj:B<=w4.heap.size:=aX ag ac.out.size;have az:=Jh (am.out.trans (KeepT.of_below (b:=b) ac.out));clear s0 s1 sl ae;go_wp2_with fail
     refine (Kbj B b _ _ l 14 4 w4 (HC.out.far ac.out) (by decide) (by omega) (by decide) aj).mono ?_;rintro _ w5 ⟨rfl,h5,h6,ad⟩;have aH:q < w4.heap.size:=ah.out.lt;have H5:=Jh h5;have H6:=Jh h6;have aA:=Jh (av.out.trans h6);have ai:B<=w5.heap.size:=aX aj h6.size;have ak:Hid (Blk w5 q 334 #[.int .u64 14,.int .i64 4,.int .i64 12]):=Jh (ad _ _ _ ah.out (fun e=>ay e) (by decide));have ao:=Jh (az.out.trans ad);clear h5 h6 ad;go_upto_region 10 with fail
     have s2:w5.cell? ⟨q,2,none⟩=_:=ak.out.cell 2;have sl:=ak.out.lt;refine Kal 7 (by kernel_rfl) (by kernel_rfl) ?_;simp only[aY,bd,aZ,bf]
     repeat (go_big_quiet_step (fail))
     refine cq ?_;rintro w6 ⟨⟨_,ab⟩,rfl⟩;rw[Kgh];have H7:=Jh (WrAt.far H5.out ab);have aq:=Jh (ao.out.trans (KeepT.of_below (b:=b) ab));have ar:=Jh (aA.out.trans (ab.mono ai));have aw:B<=w6.heap.size:=aX ai ab.size;clear s2 sl ab;go_wp2_with fail
     refine (Kbj B b _ _ (l++putN 14 4) (u64N ch) 12 w6 H7.out (by decide) (by rw[bc,Kbh];omega) (Kjd _) aw).mono ?_;rintro _ w7 ⟨rfl,h8,h9,ax⟩;go_wp2_with fail
     refine bodyPost_ret (results_none rfl _ _ _) rfl ?_;refine ⟨rfl,?_,ar.out.trans h9,aq.out.trans ax⟩;rw[aW] at h8
     have ap:Kcs ch=putN 14 4++putN (u64N ch) 12:=by unfold Kcs;rw[je aC.out,je (N1.out (by decide)),je (N2.out (by decide)),jf hf]
     rw[ap];exact h8
    .by_cases hf1:-2048<=ch
     .have aM:¬ch < 2048:=fun h=>hf ⟨hf1,h⟩
      have f1:decide (-2048<=ch)=true:=by simp;omega
      have f2:decide (ch < 2048)=false:=by simp;omega
      go_wp2_with fail
      go_roundg 1
      case measure=>omega
      case rel=>exact ⟨3,rfl,rfl,fun _=>N1.out (by decide),fun _=>N2.out (by decide),fun _=>hf,by omega,HC.out.far ((Below.refl _ _).alloc (a8 _) _),al.out.trans ((Below.refl _ _).alloc ag _),am.out.trans (KeepT.of_below ((Below.refl _ _).alloc (a8 _) _))⟩
     .have f1:decide (-2048<=ch)=false:=by simp;omega
      go_wp2_with fail
      go_roundg 1
      case measure=>omega
      case rel=>exact ⟨3,rfl,rfl,fun _=>N1.out (by decide),fun _=>N2.out (by decide),fun _=>hf,by omega,HC.out.far ((Below.refl _ _).alloc (a8 _) _),al.out.trans ((Below.refl _ _).alloc ag _),am.out.trans (KeepT.of_below ((Below.refl _ _).alloc (a8 _) _))⟩
   .obtain rfl:gk=1:=by omega
    go_upto_region 9 with fail
    have aa:Blk (wr.alloc (.cells #[.int .u64 15,.int .i64 4,.int .i64 64] 334)) wr.heap.size 334 #[.int .u64 15,.int .i64 4,.int .i64 64]:=Blk.new _ _ _;have ha:Below wr.heap.size wr (wr.alloc (.cells #[.int .u64 15,.int .i64 4,.int .i64 64] 334)):=(Below.refl _ _).alloc (a8 _) _;obtain ⟨w3,af⟩:=iZ (wr.alloc (.cells #[.int .u64 15,.int .i64 4,.int .i64 64] 334));obtain ⟨q,hq⟩:=iZ wr.heap.size;rw[af] at aa ha;rw[af];rw[hq] at aa;have ay:q≠b:=by have:=HC.out.lt;omega
    rw[hq];have HQ:=Jh hq;have an:=Jh aa;have HA:=Jh ha;clear af hq ha;have s0:w3.cell? ⟨q,0,none⟩=_:=aa.cell 0;have s1:w3.cell? ⟨q,1,none⟩=_:=aa.cell 1;have sl:=aa.lt;clear aa;refine Kal 7 (by kernel_rfl) (by kernel_rfl) ?_;simp only[aY,bd,aZ,bf]
    repeat (go_big_quiet_step (fail))
    refine cq ?_;rintro w4 ⟨⟨_,ae⟩,rfl⟩;have ac:=Jh (then_ HA.out ae);have av:=Jh (al.out.trans (ac.out.mono ag));have ah:=Jh (an.out.below ae sl);have aj:B<=w4.heap.size:=aX ag ac.out.size;have az:=Jh (am.out.trans (KeepT.of_below (b:=b) ac.out));clear s0 s1 sl ae;go_wp2_with fail
    refine (Kbj B b _ _ l 15 4 w4 (HC.out.far ac.out) (by decide) (by omega) (by decide) aj).mono ?_;rintro _ w5 ⟨rfl,h5,h6,ad⟩;have aH:q < w4.heap.size:=ah.out.lt;have H5:=Jh h5;have H6:=Jh h6;have aA:=Jh (av.out.trans h6);have ai:B<=w5.heap.size:=aX aj h6.size;have ak:Hid (Blk w5 q 334 #[.int .u64 15,.int .i64 4,.int .i64 64]):=Jh (ad _ _ _ ah.out (fun e=>ay e) (by decide));have ao:=Jh (az.out.trans ad);clear h5 h6 ad;go_upto_region 10 with fail
    have s2:w5.cell? ⟨q,2,none⟩=_:=ak.out.cell 2;have sl:=ak.out.lt;refine Kal 7 (by kernel_rfl) (by kernel_rfl) ?_;simp only[aY,bd,aZ,bf]
    repeat (go_big_quiet_step (fail))
    refine cq ?_;rintro w6 ⟨⟨_,ab⟩,rfl⟩;rw[Kgh];have H7:=Jh (WrAt.far H5.out ab);have aq:=Jh (ao.out.trans (KeepT.of_below (b:=b) ab));have ar:=Jh (aA.out.trans (ab.mono ai));have aw:B<=w6.heap.size:=aX ai ab.size;clear s2 sl ab;go_wp2_with fail
    refine (Kbj B b _ _ (l++putN 15 4) (u64N ch) 64 w6 H7.out (by decide) (by rw[bc,Kbh];omega) (Kjd _) aw).mono ?_;rintro _ w7 ⟨rfl,h8,h9,ax⟩;go_wp2_with fail
    refine bodyPost_ret (results_none rfl _ _ _) rfl ?_;refine ⟨rfl,?_,ar.out.trans h9,aq.out.trans ax⟩;rw[aW] at h8
    have ap:Kcs ch=putN 15 4++putN (u64N ch) 64:=by unfold Kcs;rw[je aC.out,je (N1.out (by decide)),je (N2.out (by decide)),je (N3.out (by decide))]
    rw[ap];exact h8
end
end Go.Proofs.YtdoiekknhnbepaaGreatDoor
namespace Go.Proofs
open Go.Shelf
def Tryz.lays7_29_ren:Go.Shelf.Ren:=⟨fun | 29=>245 | n=>n,fun | 22=>100 | 3=>3 | 4=>4 | 25=>200 | 54=>348 | 0=>0 | 5=>5 | n=>n,fun | 1=>2 | n=>n⟩
theorem Tryz.lays7_29:Go.Proofs.Lays7.n29 Tryz.prog Tryz.lays7_29_ren:={
 mixed:=by kernel_rfl
 f29:=Tryz.func245.trans (congrArg some (by kernel_rfl))
 t0:=Tryz.underlying0
 a0:=Tryz.isAgg0
 z0:=Tryz.sizeOf0
 v0:=Tryz.zeroValue0
 i0:=by kernel_rfl
 t3:=Tryz.underlying3
 a3:=Tryz.isAgg3
 z3:=Tryz.sizeOf3
 v3:=Tryz.zeroValue3
 i3:=by kernel_rfl
 t4:=Tryz.underlying4
 a4:=Tryz.isAgg4
 z4:=Tryz.sizeOf4
 v4:=Tryz.zeroValue4
 i4:=by kernel_rfl
 t5:=Tryz.underlying5
 a5:=Tryz.isAgg5
 z5:=Tryz.sizeOf5
 v5:=Tryz.zeroValue5
 i5:=by kernel_rfl
 t22:=Tryz.underlying100
 a22:=Tryz.isAgg100
 z22:=Tryz.sizeOf100
 v22:=Tryz.zeroValue100
 i22:=by kernel_rfl
 t25:=Tryz.underlying200
 a25:=Tryz.isAgg200
 z25:=Tryz.sizeOf200
 v25:=Tryz.zeroValue200
 i25:=by kernel_rfl
 t54:=Tryz.underlying348
 a54:=Tryz.isAgg348
 z54:=Tryz.sizeOf348
 g1:=by kernel_rfl }
end Go.Proofs
namespace Go.Proofs.YtdoiekknhnbepaaGreatDoor
open Go renaming wpQuiet_nil->cq
open List renaming pairwise_cons->a1,mem_cons->a2,getElem?_eq_none->a6,getElem?_eq_getElem->a7,mem_iff_getElem?->a9,pairwise_map->ba,getElem?_map->bb,length->be,range->bl
open _root_.Array renaming getElem?_eq_some_iff->bp,getElem?_toList->bx,getElem?_modify->bA,getElem?_setIfInBounds->bL,ext'->bN
open Lib renaming byteCells->bO,bitLenAux->bQ,ctzFrom->bR,bitLen->bS,ctz->bT
open Instr renaming entryStore->bU,mapEntry->bV,index->bW,lookup->bX
open UInt8 renaming ofNat->bY,toNat_lt->bZ
open MapKept renaming run_getObj_map->b0,run_setObj_map->b5
open World.ownsRow renaming lt->b6,frozenAt->b7,cellAt->b8,stored->b9,alloc->ca
open IntKind renaming u64->cb,wrap_u64->cc,u8->cd,wrap_u8->ce
open WideElems renaming findIdx_born->cf,findIdx_arr->cg,modify_last->ci,set_self->cj
open Builtin renaming zeroCells->cm,clear_->cn
open Result renaming andThen->co
open List.Pairwise renaming nil->cp
open Tryz
open List renaming append_assoc->aW,take_succ_cons->aY,drop_succ_cons->aZ,length_append->bc,take_zero->bd,drop_zero->bf,replicate->bg,mem_of_getElem?->bh,length_replicate->bi,size_toArray->bj,pairwise_singleton->bo,mem_cons->bt,length_take->bv,length_eq_zero_iff->bw,length_singleton->bz,take_take->bC,pairwise_cons->bF,mem_singleton->bG,take_sublist->bH,cons_append->bJ,length_cons->bK,all_eq_true->bM
open Nat renaming le_trans->aX,le_refl->a8,shiftRight_eq_div_pow->bm,lt_of_le_of_lt->bn,shiftRight_le->bs,mul_le_mul_right->bB,xor_lt_two_pow->bE,min_eq_left->bP
open _root_.Array renaming toList_push->bq,toList_modify->bD,toList->bI
open Bool renaming and_eq_true->br
section
open Go.RowKit
open Lib renaming hid -> Jh
open List renaming length_append -> Jd
attribute [local go_sem ↓] Go.wp_at_zero Go.wp_at_succ
attribute [local go_sem] Later.cell
theorem Kzr:∀(f x:Nat),x < 2 ^ f->bQ f x=if x=0 then 0 else x.log2+1
 | 0,x,h=>by
  have:x=0:=by omega
  simp[bQ,this]
 | f+1,x,h=>by
  rw[bQ]
  by_cases h0:x=0
  .rw[jf h0,jf h0]
  .rw[je h0,je h0,Kzr f (x / 2) (by rw[Nat.pow_succ] at h;omega)]
   by_cases h1:x / 2=0
   .rw[jf h1];have:x=1:=by omega
    subst this;decide
   .rw[je h1];rw[Nat.log2_def x,jf (by omega)];omega
theorem Qhn {x:Nat} (h:x < 2 ^ 64):(64:Int) - (bS x:Int)=((clzN x:Nat):Int):=by
 unfold bS clzN;rw[Kzr 64 x h]
 by_cases h0:x=0
 .rw[jf h0];rfl
 .rw[je h0];have:=(Nat.log2_lt h0).2 h;omega
theorem Kzk:∀(f x:Nat),bR f x=ctzF x f
 | 0,_=>rfl
 | f+1,x=>by
  rw[bR,ctzF,Kzk f (x / 2)]
  split
  .rfl
  .omega
theorem Qhr {x:Nat} (h0:x≠0):bT 64 x=ctzN x:=by unfold bT ctzN;rw[je h0,Kzk]
def DbTab (w:World):Prop:=Go.Proofs.TabAt 2 Lib.deBruijn64tab w
theorem DbTab.below {w w':World} (h:DbTab w) (hb:Below w.heap.size w w'):DbTab w':=fun j hj=>later hb (h j hj)
theorem Qcu (x:Nat) (hx:x < 2 ^ 64) (w:World):Calls prog 244 #[.int .u64 (x:Int)] w fun e w'=>e = .returned (.int .i64 ((clzN x:Nat):Int))/\w'=w:=by have:=Tryz.bits_LeadingZeros64 (x:Int) w (by omega) (by omega);rw[Int.toNat_natCast,Qhn hx] at this;exact this
theorem Qcy (x:Nat) (hx:x < 2 ^ 64) (h0:x≠0) (w:World) (hT:DbTab w):Calls prog 245 #[.int .u64 (x:Int)] w fun e w'=>e = .returned (.int .i64 ((ctzN x:Nat):Int))/\w'=w:=by have:=Any7.bits_TrailingZeros64 Tryz.lays7_29 x hx w (fun _=>hT);rw[Qhr h0] at this;exact this
theorem Kzb (B b:Nat) (c:Cst) (l:List Bool) (x:Nat) (w:World) (h:ChAt B b c l w) (hc:c.Ok) (hx:x < 2 ^ 64) (hlen:l.length<=1099511627000) (hB:B<=w.heap.size) (hT:DbTab w) :
  Calls prog 201 #[.pointer (some ⟨b,0,none⟩),.int .u64 (x:Int)] w fun e w'=>e = .returned (.tuple #[])/\ChAt B b (Kbp c x).2 (l++(Kbp c x).1) w'/\Below B w w'/\KeepT b w w':=by
 have ab:=h.cells;have c6:=ab.2.2.2.2.1;have c7:=ab.2.2.2.2.2.1;have c8:=ab.2.2.2.2.2.2.1;have z6:=ab.2.2.2.2.2.2.2 6;have z7:=ab.2.2.2.2.2.2.2 7;have z8:=ab.2.2.2.2.2.2.2 8;have H:=Jh h;have H0:=Jh h.1;clear h ab
 by_cases h0:x=0
 .subst h0;go_enter func201,ntmps201
  go_wp2_with fail
  refine (Kbj B b _ _ l 0 1 w H.out (by omega) (by omega) (by decide) hB).mono ?_;rintro _ w2 ⟨rfl,h5,h6,aa⟩;go_wp2_with fail
  refine bodyPost_ret (results_none rfl _ _ _) rfl ?_;exact ⟨rfl,h5,h6,aa⟩
 .have e0:((x:Int) == 0)=false:=by simp[h0]
  have aK:=Jh h0;have aF:=Jh (Qcu x hx w);have aH:=Jh (Qcy x hx h0 w hT);have aJ:=Kzi h0 hx;obtain ⟨cl,al⟩:=iZ (clzN x);obtain ⟨ct,ay⟩:=iZ (ctzN x);rw[al] at aF aJ;rw[ay] at aH aJ;have ai:=Jh al;have aj:=Jh ay;clear al ay;obtain ⟨ld,aC⟩:=iZ (min cl 31);have ao:=Jh aC;have aO:ld<=31:=by omega
  have hlc:ld+ct<=63:=by omega
  go_enter func201,ntmps201
  go_upto_region 2 with fail
  go_cut [4,5] (fun s4 s5 wx=>s4 = .int .i64 (ld:Int)/\s5 = .int .i64 (ct:Int)/\wx=w)
  case first=>
   clear aC;go_wp2_with fail
   refine aF.out.mono ?_;rintro _ _ ⟨rfl,rfl⟩;go_wp2_with fail
   refine aH.out.mono ?_;rintro _ _ ⟨rfl,rfl⟩;go_wp2_with fail
   go_meet
   exact ⟨vi (by have:=ao.out;omega),rfl,rfl⟩
  case rest=>
   obtain ⟨rfl,rfl,rfl⟩:=hcut;go_upto_region 3 with fail
   have hce:=hc.2
   by_cases hwin:c.window=true/\c.lead<=ld/\c.tail<=ct
   .have f1:=hwin.1;have f2:decide ((c.lead:Int)<=(ld:Int))=true:=by simp;omega
    have f3:decide ((c.tail:Int)<=(ct:Int))=true:=by simp;omega
    have g2:(c.lead:Int)<=(ld:Int):=by omega
    have g3:(c.tail:Int)<=(ct:Int):=by omega
    rw[f1] at c8;go_wp2_with fail
    refine (Kbj B b _ _ l 2 2 wc H.out (by omega) (by omega) (by decide) hB).mono ?_;rintro _ w2 ⟨rfl,h5,h6,aa⟩;have HX:Hid (ChAt B b c (l++putN 2 2) w2):=Jh h5;have ax:=Jh h6;have ar:=Jh aa;have ak:B<=w2.heap.size:=aX hB h6.size;clear h5 h6 aa c6 c7 c8 z6 z7 z8;go_upto_region 9 with fail
    have ab:=HX.out.cells;have c6:=ab.2.2.2.2.1;have c7:=ab.2.2.2.2.2.1;have sl:=HX.out.lt;clear ab;have av:c.tail<=63:=by omega
    have e1:wrap64 (64 - (c.lead:Int) - (c.tail:Int))=64 - (c.lead:Int) - (c.tail:Int):=by unfold wrap64;omega
    refine Kal 19 (by kernel_rfl) (by kernel_rfl) ?_;simp only[aY,bd,aZ,bf]
    repeat (go_big_quiet_step (fail))
    refine cq ?_;rintro w4 ⟨⟨_,ac⟩,rfl⟩;have H4:=Jh (WrAt.far HX.out ac);have aw:=Jh (ax.out.trans (ac.mono ak));have aB:=Jh (ar.out.trans (KeepT.of_below (b:=b) ac));have aq:B<=w4.heap.size:=aX ak ac.size;clear ac sl c6 c7;have ah:(x:Int) / 2 ^ c.tail=((x >>> c.tail:Nat):Int):=by rw[bm];simp
    have af:(64:Int) - (c.lead:Int) - (c.tail:Int)=((64 - c.lead - c.tail:Nat):Int):=by omega
    rw[ah,af];have ag:x >>> c.tail < 2 ^ 64:=bn (bs _ _) hx;obtain ⟨sx,ae⟩:∃sx,x >>> c.tail=sx:=⟨_,rfl⟩;obtain ⟨wd,ad⟩:=iZ (64 - c.lead - c.tail);rw[ae] at ag;rw[ae,ad];have az:=Jh ae;have am:=Jh ad;clear ah af ae;go_wp2_with fail
    refine (Kbj B b _ _ (l++putN 2 2) sx wd w4 H4.out (by omega) (by rw[Jd];rw[Kbh];omega) ag aq).mono ?_;rintro _ w5 ⟨rfl,h5,h6,aa⟩;go_wp2_with fail
    go_end0
    rw[aW] at h5
    have hd:Kbp c x=(putN 2 2++putN sx wd,c):=by unfold Kbp;rw[je aK.out,ai.out,aj.out,ao.out,jf hwin];rw[az.out,am.out]
    rw[hd];exact ⟨rfl,h5,aw.out.trans h6,aB.out.trans aa⟩
   .go_cut [36] (fun s36 wx=>s36 = .bool false/\wx=wc)
    case first=>
     cases hw:c.window with
     | false=>
      rw[hw] at c8;go_wp2_with fail
      go_meet
      exact ⟨rfl,rfl⟩
     | true=>
      rw[hw] at c8
      by_cases k2:c.lead<=ld
      .have f2:decide ((c.lead:Int)<=(ld:Int))=true:=by simp;omega
       have k3:¬c.tail<=ct:=fun h=>hwin ⟨hw,k2,h⟩
       have f3:decide ((c.tail:Int)<=(ct:Int))=false:=by simp;omega
       have g2:(c.lead:Int)<=(ld:Int):=by omega
       go_wp2_with fail
       go_meet
       exact ⟨rfl,rfl⟩
      .have f2:decide ((c.lead:Int)<=(ld:Int))=false:=by simp;omega
       go_wp2_with fail
       go_meet
       exact ⟨rfl,rfl⟩
    case rest=>
     obtain ⟨rfl,rfl⟩:=hcut
     have aL:Hid (ChAt B b { c with lead:=ld,tail:=ct,window:=true } l (((wc.setCell ⟨b,6,none⟩ (.int .i64 (ld:Int))).setCell ⟨b,7,none⟩ (.int .i64 (ct:Int))).setCell ⟨b,8,none⟩ (.bool true))):=
      Jh (((H.out.rest_set 4 (.int .i64 (ld:Int))).rest_set 5 (.int .i64 (ct:Int))).rest_set 6 (.bool true))
     have aA:Hid (Below B wc (((wc.setCell ⟨b,6,none⟩ (.int .i64 (ld:Int))).setCell ⟨b,7,none⟩ (.int .i64 (ct:Int))).setCell ⟨b,8,none⟩ (.bool true))):=
      Jh ((((Below.refl _ _).setCell (p:=⟨b,6,none⟩) H0.out _).setCell (p:=⟨b,7,none⟩) H0.out _).setCell (p:=⟨b,8,none⟩) H0.out _)
     have aD:Hid (KeepT b wc (((wc.setCell ⟨b,6,none⟩ (.int .i64 (ld:Int))).setCell ⟨b,7,none⟩ (.int .i64 (ct:Int))).setCell ⟨b,8,none⟩ (.bool true))):=Jh ((KeepT.own.trans KeepT.own).trans KeepT.own);go_upto_region 6 with fail
     obtain ⟨w1,an⟩:=iZ ((((wc.setCell ⟨b,6,none⟩ (.int .i64 (ld:Int))).setCell ⟨b,7,none⟩ (.int .i64 (ct:Int))).setCell ⟨b,8,none⟩ (.bool true)));rw[an] at aL aA aD;rw[an];have aE:B<=w1.heap.size:=aX hB aA.out.size;clear an c6 c7 c8 z6 z7 z8;go_wp2_with fail
     refine (Kbj B b _ _ l 3 2 w1 aL.out (by omega) (by omega) (by decide) aE).mono ?_;rintro _ w2 ⟨rfl,h5,h6,aa⟩;have aU:=Jh h5;have aN:=Jh (aA.out.trans h6);have aR:=Jh (aD.out.trans aa);have aM:B<=w2.heap.size:=aX aE h6.size;clear h5 h6 aa;have aS:cb.wrap (ld:Int)=(ld:Int):=Kma _ (by omega) (by omega);go_wp2_with fail
     refine (Kbj B b _ _ (l++putN 3 2) ld 5 w2 aU.out (by omega) (by rw[Jd,Kbh];omega) (by omega) aM).mono ?_;rintro _ w3 ⟨rfl,h5,h6,aa⟩;have aP:=Jh h5;have aQ:=Jh (aN.out.trans h6);have aT:=Jh (aR.out.trans aa);have aI:B<=w3.heap.size:=aX aM h6.size;clear h5 h6 aa;have e2:wrap64 (63 - (ld:Int) - (ct:Int))=((63 - ld - ct:Nat):Int):=by unfold wrap64;omega
     have e3:(63:Int) - (ld:Int) - (ct:Int)=((63 - ld - ct:Nat):Int):=by omega
     have e4:cb.wrap ((63 - ld - ct:Nat):Int)=((63 - ld - ct:Nat):Int):=Kma _ (by omega) (by omega);obtain ⟨mm,ap⟩:=iZ (63 - ld - ct);have aG:=Jh ap;rw[ap] at e2 e3 e4;clear ap;go_wp2_with fail
     refine (Kbj B b _ _ (l++putN 3 2++putN ld 5) mm 6 w3 aP.out (by omega) (by rw[Jd,Jd,Kbh,Kbh];omega) (by have:=aG.out;omega) aI).mono ?_;rintro _ w4 ⟨rfl,h5,h6,aa⟩
     have HX:Hid (ChAt B b { c with lead:=ld,tail:=ct,window:=true } (l++(putN 3 2++putN ld 5++putN (63 - ld - ct) 6)) w4):=Jh (by
      rw[<-aW,<-aW,aG.out]
      exact h5)
     have ax:=Jh (aQ.out.trans h6);have ar:=Jh (aT.out.trans aa);have ak:B<=w4.heap.size:=aX aI h6.size;clear h5 h6 aa;go_upto_region 9 with fail
     have ab:=HX.out.cells;have c6:=ab.2.2.2.2.1;have c7:=ab.2.2.2.2.2.1;have sl:=HX.out.lt;clear ab;have av:ct<=63:=by omega
     have e1:wrap64 (64 - (ld:Int) - (ct:Int))=64 - (ld:Int) - (ct:Int):=by unfold wrap64;omega
     refine Kal 19 (by kernel_rfl) (by kernel_rfl) ?_;simp only[aY,bd,aZ,bf]
     repeat (go_big_quiet_step (fail))
     refine cq ?_;rintro w4 ⟨⟨_,ac⟩,rfl⟩;have H4:=Jh (WrAt.far HX.out ac);have aw:=Jh (ax.out.trans (ac.mono ak));have aB:=Jh (ar.out.trans (KeepT.of_below (b:=b) ac));have aq:B<=w4.heap.size:=aX ak ac.size;clear ac sl c6 c7;have ah:(x:Int) / 2 ^ ct=((x >>> ct:Nat):Int):=by rw[bm];simp
     have af:(64:Int) - (ld:Int) - (ct:Int)=((64 - ld - ct:Nat):Int):=by omega
     rw[ah,af];have ag:x >>> ct < 2 ^ 64:=bn (bs _ _) hx;obtain ⟨sx,ae⟩:∃sx,x >>> ct=sx:=⟨_,rfl⟩;obtain ⟨wd,ad⟩:=iZ (64 - ld - ct);rw[ae] at ag;rw[ae,ad];have az:=Jh ae;have am:=Jh ad;clear ah af ae;go_wp2_with fail
     refine (Kbj B b _ _ (l++(putN 3 2++putN ld 5++putN (63 - ld - ct) 6)) sx wd w4 H4.out (by omega) (by rw[Jd];rw[Jd,Jd,Kbh,Kbh,Kbh];omega) ag aq).mono ?_;rintro _ w5 ⟨rfl,h5,h6,aa⟩;go_wp2_with fail
     go_end0
     rw[aW] at h5
     have hd:Kbp c x=((putN 3 2++putN ld 5++putN (63 - ld - ct) 6)++putN sx wd,{ c with lead:=ld,tail:=ct,window:=true }):=by unfold Kbp;rw[je aK.out,ai.out,aj.out,ao.out,je hwin];rw[az.out,am.out]
     rw[hd];exact ⟨rfl,h5,aw.out.trans h6,aB.out.trans aa⟩
end
section
open Go.RowKit
open Lib renaming hid -> Jh
attribute [local go_sem ↓] Go.wp_at_zero Go.wp_at_succ
attribute [local go_sem] Later.cell
def stepE (c:Cst) (s:Smp):Nat:=if s.t < 0\/1125899906842624 < s.t then 91 else if 0 < c.n/\s.t<=c.last.t then 90 else if c.n=120 then 92 else 0
theorem Kof (ch:Int):(Kcs ch).length<=70:=by
 unfold Kcs
 repeat' split
 all_goals simp[Kbh]
def DbAt (B:Nat) (w:World):Prop:=DbTab w/\2 < B
theorem DbAt.below {B:Nat} {w w':World} (h:DbAt B w) (hb:Below B w w'):DbAt B w':=⟨fun j hj=>(hb.cell (p:=⟨2,j,none⟩) h.2).trans (h.1 j hj),h.2⟩
theorem Qfr (c:Cst) (x:Nat):(Kbp c x).2.n=c.n:=by
 unfold Kbp
 split
 .rfl
 .split <;> rfl
def Qio (B b:Nat) (c:Cst) (l:List Bool) (s:Smp) (E:Nat) (w:World) (e:Ending) (w':World):Prop:=
 e = .returned (.int .i64 (E:Nat))/\(E=0->ChAt B b (Kbq c s).2 (l++(Kbq c s).1) w')/\Below B w w'/\KeepT b w w'
theorem Kuc (B b:Nat) (c:Cst) (l:List Bool) (s:Smp) (w:World) (h:ChAt B b c l w) (hg:c.Good) (hn:c.n<=120) (hv:s.v < 2 ^ 64) (hlen:l.length<=1000000) (hB:B<=w.heap.size) (hT:DbAt B w) :
  Calls prog 171 #[.pointer (some ⟨b,0,none⟩),.int .i64 s.t,.int .u64 (s.v:Int)] w (Qio B b c l s (stepE c s) w):=by
 obtain ⟨t,v⟩:=s;have aa:=h.cells;have c2:=aa.1;have c3:=aa.2.1;have c4:=aa.2.2.1;have z2:=aa.2.2.2.2.2.2.2 2;have H:=Jh h;have H0:=Jh h.1;have HG:=Jh hg;clear h aa;dsimp only at hv |-;obtain ⟨E,hE⟩:=iZ (stepE c ⟨t,v⟩);have HE:=Jh hE;rw[hE];unfold stepE at hE;dsimp only at hE
 by_cases b1:t < 0
 .rw[jf (.inl b1)] at hE;have d1:decide (t < 0)=true:=by simp[b1]
  subst hE;go_enter func171,ntmps171
  go_wp2_with fail
  go_ret
  exact ⟨rfl,fun h=>jl h (by decide),Below.refl _ _,KeepT.refl _ _⟩
 by_cases b2:1125899906842624 < t
 .rw[jf (.inr b2)] at hE;have d1:decide (t < 0)=false:=by simp;omega
  have d2:decide (1125899906842624 < t)=true:=by simp;omega
  subst hE;go_enter func171,ntmps171
  go_wp2_with fail
  go_ret
  exact ⟨rfl,fun h=>jl h (by decide),Below.refl _ _,KeepT.refl _ _⟩
 rw[je (by omega)] at hE;have d1:decide (t < 0)=false:=by simp;omega
 have d2:decide (1125899906842624 < t)=false:=by simp;omega
 cases hn0:c.n with
 | zero=>
  rw[hn0] at hE c2;rw[je (by omega),je (by omega)] at hE;subst hE;have htu:cb.wrap t=((u64N t:Nat):Int):=Kgh t;go_enter func171,ntmps171
  go_wp2_with fail
  refine (Kbj B b _ _ l (u64N t) 64 w H.out (by omega) (by omega) (Kjd _) hB).mono ?_;rintro _ w2 ⟨rfl,h5,h6,ab⟩;have ag:=Jh h5;have ah:=Jh h6;have ak:=Jh ab;have am:B<=w2.heap.size:=aX hB h6.size;clear h5 h6 ab;go_wp2_with fail
  refine (Kbj B b _ _ (l++putN (u64N t) 64) v 64 w2 ag.out (by omega) (by rw[bc,Kbh];omega) hv am).mono ?_;rintro _ w3 ⟨rfl,h5,h6,ab⟩;have ac:Hid (ChAt B b c (l++putN (u64N t) 64++putN v 64) w3):=Jh h5;have aj:=Jh (ah.out.trans h6);have al:=Jh (ak.out.trans ab);clear h5 h6 ab c2 c3 c4 z2;have aa:=ac.out.cells;have c2:=aa.1;have c3:=aa.2.1;have c4:=aa.2.2.1;have z2:=aa.2.2.2.2.2.2.2 2;have z3:=aa.2.2.2.2.2.2.2 3;have z4:=aa.2.2.2.2.2.2.2 4;rw[hn0] at c2;clear aa;go_wp2_with fail
  go_ret
  refine ⟨rfl,fun _=>?_,((aj.out.setCell (p:=⟨b,3,none⟩) H0.out _).setCell (p:=⟨b,4,none⟩) H0.out _).setCell (p:=⟨b,2,none⟩) H0.out _,((al.out.trans KeepT.own).trans KeepT.own).trans KeepT.own⟩;have:=((ac.out.rest_set 1 (.int .i64 t)).rest_set 2 (.int .u64 (v:Int))).rest_set 0 (.int .i64 1);unfold Kbq;rw[jf hn0];rw[aW] at this;exact this
 | succ n=>
  rw[hn0] at hE c2 hn;have d3:decide ((0:Int) < (n:Int)+1)=true:=by rw[i8];omega
  by_cases b3:t<=c.last.t
  .rw[jf ⟨by omega,b3⟩] at hE;have d4:decide (t<=c.last.t)=true:=by simp;omega
   subst hE;go_enter func171,ntmps171
   go_wp2_with fail
   go_ret
   exact ⟨rfl,fun h=>jl h (by decide),Below.refl _ _,KeepT.refl _ _⟩
  rw[je (by omega)] at hE;have d4:decide (t<=c.last.t)=false:=by simp;omega
  by_cases b4:n+1=120
  .rw[jf b4] at hE;have d5:(((n:Int)+1) == 120)=true:=by simp;omega
   subst hE;go_enter func171,ntmps171
   go_wp2_with fail
   go_ret
   exact ⟨rfl,fun h=>jl h (by decide),Below.refl _ _,KeepT.refl _ _⟩
  rw[je b4] at hE;have d5:(((n:Int)+1) == 120)=false:=by simp;omega
  have d6:(((n:Int)+1) == 0)=false:=by simp;omega
  subst hE;have g1:=HG.out.t0;have g2:=HG.out.t1;have g3:=HG.out.v;have g4:=HG.out.s0;have g5:=HG.out.s1;have ax:wrap64 (t - c.last.t)=t - c.last.t:=by unfold wrap64;omega
  obtain ⟨st,ad⟩:=iZ (t - c.last.t);rw[ad] at ax;have aw:=Jh ad;have ai:bits .xor .u64 (v:Int) (c.last.v:Int)=((v ^^^ c.last.v:Nat):Int):=bits_xor_u64_nat _ _ (by omega) (by omega);obtain ⟨xv,af⟩:=iZ (v ^^^ c.last.v);have ao:xv < 2 ^ 64:=by rw[<-af];exact bE hv g3
  rw[af] at ai;have ar:=Jh af;have av:-1125899906842624<=st:=by omega
  have aq:st<=1125899906842624:=by omega
  clear af;go_enter func171,ntmps171
  go_wp2_with fail
  refine (Qcg B b c l st w H.out g4 g5 av aq (by omega) hB).mono ?_;rintro _ w2 ⟨rfl,h5,h6,ab⟩;obtain ⟨tb,ae⟩:=iZ (Kcs (st - c.step));have htl:tb.length<=70:=by rw[<-ae];exact Kof _
  rw[ae] at h5;have ap:=Jh ae;clear ae;have ag:=Jh h5;have ah:=Jh h6;have ak:=Jh ab;have am:B<=w2.heap.size:=aX hB h6.size;have ay:=Jh (hT.below h6);clear h5 h6 ab c2 c3 c4 z2;have aa:=ag.out.cells;have c4:w2.cell? ⟨b,4,none⟩=some (.int .u64 (c.last.v:Int)):=aa.2.2.1;clear aa;go_wp2_with fail
  refine (Kzb B b _ (l++tb) xv w2 ag.out (HG.out.ok.step st) ao (by rw[bc];omega) am ay.out.1).mono ?_;rintro _ w3 ⟨rfl,h5,h6,ab⟩;have ac:=Jh h5;have aj:=Jh (ah.out.trans h6);have al:=Jh (ak.out.trans ab);clear h5 h6 ab c4;have aa:=ac.out.cells;have an:(Kbp { c with step:=st } xv).2.n=n+1:=(Qfr _ _).trans hn0;have c2:=aa.1;rw[an] at c2;have c3:=aa.2.1;have c4:=aa.2.2.1;have z2:=aa.2.2.2.2.2.2.2 2;have z3:=aa.2.2.2.2.2.2.2 3;have z4:=aa.2.2.2.2.2.2.2 4;clear aa;obtain ⟨D,hD⟩:∃D,Kbp { c with step:=st } xv=D:=⟨_,rfl⟩;rw[hD] at c3 c4 ac an;have HD:=Jh hD;clear hD;go_wp2_with fail
  go_ret
  refine ⟨rfl,fun _=>?_,((aj.out.setCell (p:=⟨b,3,none⟩) H0.out _).setCell (p:=⟨b,4,none⟩) H0.out _).setCell (p:=⟨b,2,none⟩) H0.out _,((al.out.trans KeepT.own).trans KeepT.own).trans KeepT.own⟩;have:=((ac.out.rest_set 1 (.int .i64 t)).rest_set 2 (.int .u64 (v:Int))).rest_set 0 (.int .i64 ((n:Int)+1+1));unfold Kbq;rw[je (by omega)];dsimp only;rw[aw.out,ar.out,ap.out,HD.out,hn0];rw[aW] at this;exact this
end
end Go.Proofs.YtdoiekknhnbepaaGreatDoor
