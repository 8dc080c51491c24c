/- Merged (what the claim wants of): LabCmpG, MrgPut, MrgPut2, SpnPlain, PostPlain, CrcPlain, BlkPlain2, BlkPlain3, PostWalksA, KeyMap, KeyMap2, BitWalks, ResRow, ChkWalksA, ShelfC, ChkWalksB, ChkWalksC, ChkWalksD, ChkWalksE, RegTake, ChkRdE, AggWalksA. -/
import Derived.Test.YtdoiekknhnbepaaGreatDoorCmk02
import Derived.WideKeyEntry
import Derived.Shelf.Spec.TrailingZeros
import Derived.Deep.Onto
set_option linter.unusedVariables false
set_option linter.unusedSimpArgs false
set_option maxRecDepth 1000000
set_option maxHeartbeats 8000000
namespace Go.Proofs.YtdoiekknhnbepaaGreatDoor
open Go renaming wpQuiet_nil->dc
open List renaming pairwise_cons->a6,getElem?_eq_getElem->a7,mem_cons->a9,getElem?_eq_none->be,mem_iff_getElem?->bl,pairwise_map->bp,getElem?_map->bx,length->bA,range->bL
open Region renaming ready->bN,binds->bO,wanted->bS,noSelect->b6,Mode->b7,free->b9,noSelect_spec->cc,free_spec->ce
open _root_.Array renaming getElem?_modify->cf,getElem?_eq_some_iff->cg,getElem?_toList->ci,getElem?_setIfInBounds->cj,getElem?_eq_none->cm
open Lib renaming byteCells->cn,compareBytes->co,hid->cp,bitLenAux->cq,ctzFrom->cr,bitLen->cv,ctz->cw
open Instr renaming entryStore->cx,mapEntry->cy,index->cz,lookup->cA
open UInt8 renaming ofNat->cB,toNat_lt->cC
open MapKept renaming run_getObj_map->cD,run_setObj_map->cE
open Value renaming string->cF,agg->cG
open World.ownsRow renaming lt->cH,frozenAt->cI,cellAt->cJ,stored->cK,alloc->cL
open IntKind renaming u64->cM,wrap_u64->cN,u8->cO,wrap_u8->cP
open World renaming setCell->cQ,ownsRow_nil->cR,setCells->cS
open WideElems renaming findIdx_born->cT,findIdx_arr->cU,modify_last->cV,set_self->cW
open Builtin renaming zeroCells->cX,clear_->cY
open Result renaming andThen->cZ
open Blk renaming new->c9
open List.Pairwise renaming nil->da
open Ne renaming symm->db
open Tryz
open Nat renaming le_trans->aX,le_refl->aZ,shiftRight_eq_div_pow->bs,lt_of_le_of_lt->bv,shiftRight_le->bD,mul_le_mul_right->bK,eq_zero_or_pos->bQ,xor_lt_two_pow->bR,zero_le->bZ,min_eq_left->b8
open List renaming append_assoc->aY,take_succ_cons->a8,drop_succ_cons->bc,length_append->bd,take_zero->bf,drop_zero->bg,replicate->bh,size_toArray->bi,drop_eq_getElem_cons->bm,mem_of_getElem?->bn,drop_eq_nil_of_le->bo,length_replicate->bq,length_cons->br,pairwise_singleton->bw,take_succ_eq_append_getElem->bz,length_take->bC,mem_cons->bE,cons_append->bF,length_eq_zero_iff->bG,filter_eq_nil_iff->bH,take_of_length_le->bI,length_singleton->bJ,take_take->bM,pairwise_cons->bT,mem_singleton->bU,take_sublist->bV,all_eq_true->bX,getElem_mem->bY
open Bool renaming and_eq_true->bj
open _root_.Array renaming setIfInBounds_comm->bt,toList_push->bB,toList_modify->bP,toList->bW,ext'->cd
section
open Go.RowKit Go.Sort
open Lib renaming hid -> Jh
attribute [local go_sem ↓] Go.wp_at_zero Go.wp_at_succ
def Grown (w w':World):Prop:=∃p:GrownBy,w'=grow (w.drewN p.n) p.os
section
variable {w w1 w2 : World}
theorem Grown.of (w:World) (q:Nat) (os:Array Obj):Grown w (grow (w.drewN q) os):=⟨⟨q,os⟩,rfl⟩
theorem Grown.refl (w:World):Grown w w:=⟨⟨0,#[]⟩,by rw[grow_empty];rfl⟩
theorem Grown.trans (h:Grown w w1) (k:Grown w1 w2):Grown w w2:=by obtain⟨p,rfl⟩:=h;obtain⟨q,rfl⟩:=k;exact⟨⟨p.n+q.n,p.os++q.os⟩,by show grow (grow ((w.drewN p.n).drewN q.n) p.os) q.os=_;rw[grow_grow,World.drewN_drewN]⟩
theorem Grown.below (h:Grown w w1):Below w.heap.size w w1:=by obtain⟨p,rfl⟩:=h;exact below_grown w p.n p.os
theorem Grown.alloc (h:Grown w w1) (o:Obj):Grown w (w1.alloc o):=h.trans ⟨⟨0,#[o]⟩,by rw[alloc_eq_grow];rfl⟩
theorem Grown.drew (h:Grown w w1):Grown w w1.drew:=h.trans ⟨⟨1,#[]⟩,by rw[grow_empty];rfl⟩
end
structure Kbw (w0:World) where
 w:World
 h:Grown w0 w
instance Kbw.some {w:World}:Nonempty (Kbw w):=⟨⟨w,Grown.refl _⟩⟩
theorem Kbw.cell {w:World}(x:Kbw w) (b o:Nat) (hb:b<w.heap.size):x.w.cell? ⟨b,o,none⟩=w.cell? ⟨b,o,none⟩:=x.h.below.cell (p:=⟨b,o,none⟩) hb
attribute [local go_sem] Kbw.cell
theorem Kar {P:Program}{f:FuncId}{args:Array Value}{w:World}(x:Kbw w) {v:Value}(h:Calls P f args x.w fun e w'=>e = .returned v/\Grown x.w w') :
  Calls P f args x.w fun e w''=>e = .returned v/\∃y:Kbw w,w''=y.w:=
 h.mono fun _ w' ⟨he,hb⟩=>⟨he,⟨w',x.h.trans hb⟩,rfl⟩
theorem Kza {P:Program}{f:FuncId}{args:Array Value}{w:World}(x:Kbw w) {v:Value}(h:Calls P f args x.w fun e w'=>e = .returned v/\x.w=w') :
  Calls P f args x.w fun e w''=>e = .returned v/\∃y:Kbw w,w''=y.w:=
 h.mono fun _ _ ⟨he,hb⟩=>⟨he,x,hb.symm⟩
theorem Kap {P:Program}{id:Nat}{Q:Exit->Act->World->Prop}{a:Act}{w:World}{l:List Oper}(n:Nat) (hm:P.follows .mixedOrders=true) (hB:Region.lexTailB .any l.toArray n=true)
  (h:wpQuiet P l.toArray (fun w'=>∃x:Kbw w,w'=x.w) (fun a'=>∀w',(∃x:Kbw w,w'=x.w)->wpList P l.toArray Q (l.drop n) a' w') (l.take n) a):(Code.region id l.toArray true).wp P Q a w:=
 Kfm (C:=fun w'=>∃x:Kbw w,w'=x.w) n hm hB ⟨⟨w.drew,(Grown.refl _).drew⟩,rfl⟩ h
theorem Qhv (x y:Lb) (W:World) :
  Calls prog 130 #[.agg #[.string ⟨x.n.toArray⟩,.string ⟨x.v.toArray⟩],.agg #[.string ⟨y.n.toArray⟩,.string ⟨y.v.toArray⟩]] W fun e w'=>e = .returned (.int .i64 (co x.n y.n))/\Grown W w':=by
 refine(Khe x y W).mono ?_;rintro e w' ⟨he,q,os,rfl⟩;exact⟨he,Grown.of _ _ _⟩
theorem Kot (x y:Lb) (w:World) :
  Calls prog 128 #[.agg #[.string ⟨x.n.toArray⟩,.string ⟨x.v.toArray⟩],.agg #[.string ⟨y.n.toArray⟩,.string ⟨y.v.toArray⟩]] w fun e w'=>e = .returned (.int .i64 (cmp1 x y))/\Grown w w':=by
 obtain⟨ca,ab⟩:=jF (co x.n y.n);obtain⟨cb,af⟩:=jF (co x.v y.v)
 have ac:∀W:World,Calls prog 130 #[.agg #[.string ⟨x.n.toArray⟩,.string ⟨x.v.toArray⟩],.agg #[.string ⟨y.n.toArray⟩,.string ⟨y.v.toArray⟩]] W fun e w'=>e = .returned (.int .i64 ca)/\Grown W w':=fun W=>by have:=Qhv x y W;rwa[ab]at this
 have ag:∀W:World,Calls prog 131 #[.string ⟨x.v.toArray⟩,.string ⟨y.v.toArray⟩] W fun e w'=>e = .returned (.int .i64 cb)/\W=w':=fun W=>by refine(Tryz.strings_Compare ⟨x.v.toArray⟩ ⟨y.v.toArray⟩ W).mono ?_;rintro e w' ⟨rfl,rfl⟩;exact⟨by rw[<-af],rfl⟩
 have hr:cmp1 x y=if ca≠0 then ca else cb:=by unfold cmp1;rw[ab,af]
 obtain⟨rr,ad⟩:=jF (if ca≠0 then ca else cb);rw[hr,ad];have al:=Jh ad;clear ab af hr ad;obtain⟨N,hN⟩:∃N:ByteArray,(⟨x.n.toArray⟩:ByteArray)=N:=⟨_,rfl⟩;obtain⟨V,hV⟩:∃N:ByteArray,(⟨x.v.toArray⟩:ByteArray)=N:=⟨_,rfl⟩;obtain⟨N2,ah⟩:∃N:ByteArray,(⟨y.n.toArray⟩:ByteArray)=N:=⟨_,rfl⟩;obtain⟨V2,ae⟩:∃N:ByteArray,(⟨y.v.toArray⟩:ByteArray)=N:=⟨_,rfl⟩;rw[hN,hV,ah,ae]at ac |-;rw[hV,ae]at ag;have aj:=Jh ac;have an:=Jh ag;clear hN hV ah ae ac ag;go_enter func128,ntmps128
 go_upto_region 1 with fail
 obtain⟨w1,aa⟩:=jF ((w.alloc (.cells #[.string N,.string V] 99)).alloc (.cells #[.string N2,.string V2] 99));have ak:Grown w w1:=by rw[<-aa];exact((Grown.refl _).alloc _).alloc _
 have hq:Blk w1 w.heap.size 99 #[.string N,.string V]:=by rw[<-aa];exact(c9 _ _ _).alloc _
 have hp:Blk w1 (w.heap.size+1) 99 #[.string N2,.string V2]:=by rw[<-aa];exact Blk.newAt (by simp)
 rw[aa];obtain⟨a,hA⟩:=jF w.heap.size;rw[hA]at hq hp |-;clear aa;have q0:_=some (cF N):=hq.cell 0;have q1:_=some (cF V):=hq.cell 1;have p0:_=some (cF N2):=hp.cell 0;have p1:_=some (cF V2):=hp.cell 1;have hql:=hq.lt;have hpl:=hp.lt;refine Kap 8 (by kernel_rfl) (by kernel_rfl) ?_;simp only[a8,bf,bc,bg]
 repeat (go_big_quiet_step ((first | (go_at_call 130;exact Kar _ (aj.out _)) | (go_at_call 131;exact Kza _ (an.out _)))))
 refine dc ?_;rintro w2 ⟨⟨_,am⟩,rfl⟩;have ai:Grown w w2:=ak.trans am;go_wp2_with fail
 have hg:Blk (w2.alloc (.cells #[.int .i64 ca,.int .i64 cb] 3)) w2.heap.size 3 #[.int .i64 ca,.int .i64 cb]:=c9 _ _ _;refine(Ksl _ ca cb _ hg).mono ?_;rintro _ w3 ⟨rfl,rfl⟩;rw[al.out];go_wp2_with fail
 go_ret
 exact⟨rfl,by first | exact ai.alloc _ | (rw[<-hA];exact ai.alloc _)⟩
theorem Kkj (l m:List Lb) (A B:Option Addr) (n k ca cb:Nat) (w:World) (r:Int) (hr:cmpL l m=r) (hA:Elems w w.heap.size 2 encLb A n l) (hB:Elems w w.heap.size 2 encLb B k m) (hn:n<=140737488351232) (hk:k<=140737488351232) :
  Calls prog 127 #[.slice A n ca,.slice B k cb,.func (.func 128) #[] #[]] w fun e w'=>e = .returned (.int .i64 r)/\Grown w w':=by
 have hl:=hA.len;have hm:=hB.len;have HL:=Jh hl;have HM:=Jh hm;have HR:=Jh hr;clear hl hm hr;go_enter func127,ntmps127
 go_wp2_with fail
 go_loopg [13] n (fun g s13 wr=>∃i:Nat,i+g=n/\s13 = .int .i64 (i:Int)/\Grown w wr/\i<=k/\cmpL (l.drop i) (m.drop i)=r)
 case atStart=>exact⟨0,by omega,rfl,Grown.refl _,bZ _,HR.out⟩
 case round=>
  obtain⟨i,aA,rfl,ae,hik,aa⟩:=hrel;have aq:=Jh aA;have ai:=Jh aa;clear aA aa
  by_cases hi:i<n
  .have el:decide ((i:Int)<(n:Int))=true:=by simp;omega
   have el':decide (i<n)=true:=by simp;omega
   have aj:i<l.length:=by have:=HL.out;omega
   have ad:l.drop i=l[i]! :: l.drop (i+1):=by rw[jI l i aj];exact bm aj
   obtain⟨ba,oa,rfl,_,_⟩:=hA.2 (by omega);obtain⟨hba,a0,a1⟩:=Kbk hA (by omega) ae.below i aj;obtain⟨X,hX⟩:∃N:ByteArray,(⟨l[i]!.n.toArray⟩:ByteArray)=N:=⟨_,rfl⟩;obtain⟨Y,hY⟩:∃N:ByteArray,(⟨l[i]!.v.toArray⟩:ByteArray)=N:=⟨_,rfl⟩;have HX:=Jh hX;have HY:=Jh hY;have az:=Jh ad;rw[hX]at a0;rw[hY]at a1;clear hX hY ad
   by_cases hk2:i<k
   .have eg:decide ((k:Int)<=(i:Int))=false:=by simp;omega
    have ao:decide (k<=i)=false:=by simp;omega
    have ag:i<m.length:=by have:=HM.out;omega
    have ab:m.drop i=m[i]! :: m.drop (i+1):=by rw[jI m i ag];exact bm ag
    obtain⟨bb,ob,rfl,_,_⟩:=hB.2 (by omega);have ac:=fun W=>Kot l[i]! m[i]! W
    obtain⟨X2,al⟩:∃N:ByteArray,(⟨m[i]!.n.toArray⟩:ByteArray)=N:=⟨_,rfl⟩;obtain⟨Y2,ar⟩:∃N:ByteArray,(⟨m[i]!.v.toArray⟩:ByteArray)=N:=⟨_,rfl⟩;have aD:=Jh al;have aE:=Jh ar;have aa:=ai.out;rw[az.out,ab,Krx]at aa;obtain⟨c,hc⟩:∃c,cmp1 l[i]! m[i]! = c:=⟨_,rfl⟩;simp only[HX.out,HY.out,al,ar,hc]at ac;rw[hc]at aa;have an:=Jh ac;have ax:=Jh aa;clear al ar ac aa hc ab;go_upto_region 4 with fail
    obtain⟨w1,ah⟩:=jF (wr.alloc (.cells #[.string X,.string Y] 99));have ak:Grown w w1:=by rw[<-ah];exact ae.alloc _
    have hq:Blk w1 wr.heap.size 99 #[.string X,.string Y]:=by rw[<-ah];exact c9 _ _ _
    rw[ah];obtain⟨p,hp⟩:=jF wr.heap.size;rw[hp]at hq |-;obtain⟨hbb,b0,b1⟩:=Kbk hB (by omega) ak.below i ag;rw[aD.out]at b0;rw[aE.out]at b1;clear ah hp a0 a1 ae;go_upto_region 7 with fail
    obtain⟨w2,af⟩:=jF (w1.alloc (.cells #[.string X2,.string Y2] 99));have aF:Grown w w2:=by rw[<-af];exact ak.alloc _
    have ay:Blk w2 p 99 #[.string X,.string Y]:=by rw[<-af];exact hq.alloc _
    have am:Blk w2 w1.heap.size 99 #[.string X2,.string Y2]:=by rw[<-af];exact c9 _ _ _
    rw[af];obtain⟨p2,aw⟩:=jF w1.heap.size;rw[aw]at am |-;clear af aw b0 b1 ak hq;have q0:_=some (cF X):=ay.cell 0;have q1:_=some (cF Y):=ay.cell 1;have r0:_=some (cF X2):=am.cell 0;have r1:_=some (cF Y2):=am.cell 1;go_wp2_with fail
    refine(an.out w2).mono ?_;rintro _ w3 ⟨rfl,aC⟩;have av:=aF.trans aC
    by_cases h0:c=0
    .subst h0;have h1:=ax.out;rw[jM (by simp)]at h1;have ap:=Jh h1;clear h1;go_wp2_with fail
     go_roundg (gk - 1)
     case measure=>have:=aq.out;omega
     case rel=>exact⟨i+1,by have:=aq.out;omega,by go_num,av,by omega,ap.out⟩
    .have e0:(c != 0)=true:=by simp[h0]
     have h1:=ax.out;rw[jN h0]at h1;have ap:=Jh h1;clear h1;go_wp2_with fail
     go_ret
     exact⟨by rw[<-ap.out];rfl,av⟩
   .have eg:decide ((k:Int)<=(i:Int))=true:=by simp;omega
    have ao:decide (k<=i)=true:=by simp;omega
    have ab:m.drop i = []:=bo (by have:=HM.out;omega);have aa:=ai.out;rw[az.out,ab]at aa;have h1:(1:Int)=r:=aa;have H1:=Jh h1;clear ab aa h1;go_wp2_with fail
    go_ret
    exact⟨by rw[<-H1.out];rfl,ae.alloc _⟩
  .have aB:i=n:=by have:=aq.out;omega
   subst aB;have ad:l.drop i = []:=bo (by have:=HL.out;omega);have aa:=ai.out;rw[ad]at aa;have el:decide ((i:Int)<(i:Int))=false:=by simp
   by_cases hk2:i<k
   .have eg:decide ((i:Int)<(k:Int))=true:=by simp;omega
    have ao:decide (i<k)=true:=by simp;omega
    have ag:i<m.length:=by have:=HM.out;omega
    have ab:m.drop i=m[i] :: m.drop (i+1):=bm ag;rw[ab]at aa;have h1:(-1:Int)=r:=aa;have H1:=Jh h1;clear ab aa h1 ad;go_wp2_with fail
    go_ret
    exact⟨by rw[<-H1.out];rfl,ae⟩
   .have eg:decide ((i:Int)<(k:Int))=false:=by simp;omega
    have ao:decide (i<k)=false:=by simp;omega
    have ab:m.drop i = []:=bo (by have:=HM.out;omega);rw[ab]at aa;have h1:(0:Int)=r:=aa;have H1:=Jh h1;clear ab aa h1 ad;go_wp2_with fail
    go_ret
    exact⟨by rw[<-H1.out];rfl,ae⟩
theorem Kdy (l m:List Lb) (A B:Option Addr) (n k ca cb:Nat) (w:World) (r:Int) (hr:cmpL l m=r) (hA:Elems w w.heap.size 2 encLb A n l) (hB:Elems w w.heap.size 2 encLb B k m) (hn:n<=140737488351232) (hk:k<=140737488351232) :
  Calls prog 60 #[.slice A n ca,.slice B k cb] w fun e w'=>e = .returned (.int .i64 r)/\Grown w w':=by
 have HC:=Jh (Kkj l m A B n k ca cb w r hr hA hB hn hk);clear hr;go_enter func60,ntmps60
 go_wp2_with fail
 refine HC.out.mono ?_;rintro _ w1 ⟨rfl,hb⟩;go_wp2_with fail
 go_ret
 exact⟨rfl,hb⟩
end
section
open Go.Shelf Go.RowKit Go.Lib Go.Sort
section
variable {α : Type}[Inhabited α] {enc : α -> List Value}{k : Nat}{w0 W : World}{blk off : Nat}{dk d0 : Array α}
theorem Kze (hk:∀x,(enc x).length=k) (d:Array α) (i:Nat) (x:α) (hi:i<d.size):setMany (flatK enc k d) (i*k) (enc x)=flatK enc k (d.setIfInBounds i x):=by
 refine ext_get! (by simp) fun t ht=>?_
 have aa:t<d.size*k:=by simpa using ht
 have k0:0<k:=by
  rcases bQ k with h | h
  .subst h;simp at aa
  .exact h
 rw[get_setMany _ _ _ t (by simpa using aa),get_flatK _ _ _ t aa,get_flatK _ _ _ t (by simpa using aa),hk]
 by_cases b:t / k=i
 .rw[jN ((blk_iff k i t k0).2 b),b,getElem!_set_same d i x hi];subst b;rw[Nat.mod_eq_sub_div_mul]
 .rw[jM (fun h=>b ((blk_iff k i t k0).1 h)),getElem!_set_other d i _ x b]
theorem SWK.put (h:SWK enc k w0 blk off dk W) (R:RowK enc k w0 blk off d0) (i:Nat) (hi:i<dk.size) (x:α):SWK enc k w0 blk off (dk.setIfInBounds i x) (W.setCells blk (off+i*k) (enc x)):=by obtain⟨m,os,rfl⟩:=h;refine⟨m,os,?_⟩;unfold sortWorldK;rw[setCells_grow os blk _ _ _ (by show blk<(putRowK enc k _ blk off dk).heap.size;rw[size_putRowK];exact R.hblk)];congr 1;unfold putRowK;rw[setCells_putRow _ _ _ _ _ _ (by rw[R.hk,size_flatK];exact rowK_bnd dk k i hi),Kze R.hk dk i x hi]
theorem SWK.st (h:SWK enc k w0 blk off dk W) (R:RowK enc k w0 blk off d0) (hs:dk.size=d0.size) (P:Program) (i:Nat) (hi:i<dk.size) (y:α) :
  Sem.run P (storeCells ⟨blk,off+i*k,none⟩ (enc y) 0) W = .ok () (W.setCells blk (off+i*k) (enc y)):=
 stores_of_holds P (h.holds R.hblk R.hH hs) (i*k) _ (by rw[R.hk,size_flatK];exact rowK_bnd dk k i hi) (R.h1 _)
theorem SWK.of_grown (h:SWK enc k w0 blk off dk W) {w':World}(hg:Grown W w'):SWK enc k w0 blk off dk w':=by obtain⟨⟨q,os⟩,rfl⟩:=hg;exact h.grown q os
theorem SWK.by (h:SWK enc k w0 blk off dk W):w0.grownBy W (some blk):=by
 obtain⟨m,os,rfl⟩:=h;refine⟨rfl,rfl,rfl,?_,?_⟩
 .simp[sortWorldK,grow,putRowK,putRow,mapBlock,Sort.ahead]
 .intro j hj hne;have hb:¬blk=j:=fun e=>hne (by rw[e])
  simp only[sortWorldK,grow,putRowK,putRow,mapBlock,Sort.ahead];rw[Array.getElem?_append_left (by simpa using hj),cf,jM hb]
omit [Inhabited α] in
theorem Klv {A B:List α}{x y:α}{i:Nat}(h:i=A.length):(A++x :: B).toArray.setIfInBounds i y=(A++y :: B).toArray:=by subst h;apply cd;simp
def Koh (P:Program) (g:Nat) (cb:Array Value) (enc:α->List Value) (k:Nat) (ef:α->α->Bool) (blk off size:Nat) (w:World):Prop:=
 ∀(W:World) (dk:Array α),dk.size=size->SWK enc k w blk off dk W->∀x y:α,
  Calls P g (#[.agg (enc x).toArray,.agg (enc y).toArray]++cb) W fun e w'=>e = .returned (.bool (ef x y))/\∃q os',w'=grow (W.drewN q) os'
end
section
variable {α : Type}
def ddE (ef:α->α->Bool):α->List α->List α
 | _,[]=>[]
 | p,y :: l=>if ef y p then ddE ef y l else y :: ddE ef y l
def dupE (ef:α->α->Bool):List α->List α
 | []=>[]
 | x :: l=>x :: ddE ef x l
theorem Knp (k:α->Int) (ef:α->α->Bool) (he:∀x y,ef x y=decide (k x=k y)):∀(n:Nat) (x p:α) (l:List α),l.length<=n->k x=k p->compO k (x :: l)=x :: ddE ef p l
 | _,x,p,[],_,_=>by rw[compO,ddE]
 | 0,_,_,y :: l,h,_=>by simp at h
 | n+1,x,p,y :: l,h,hp=>by
  rw[compO,ddE,he]
  by_cases hxy:k x=k y
  .rw[jN hxy,jN (by rw[jH];omega)];exact Knp k ef he n x y l (by simp only[br]at h |-;omega) hxy
  .rw[jM hxy,jM (by rw[jH];omega)];rw[Knp k ef he n y y l (by simp only[br]at h |-;omega) rfl]
theorem Qjg (k:α->Int) (ef:α->α->Bool) (he:∀x y,ef x y=decide (k x=k y)) (l:List α):dupE ef l=compO k l:=by
 cases l with
 | nil=>rw[dupE,compO]
 | cons x l=>rw[dupE,Knp k ef he l.length x x l (aZ _) rfl]
def cfT (k:α->Int) (x y:α):Int:=if k x<k y then -1 else if k y<k x then 1 else 0
theorem ltT (k:α->Int) (x y:α):ltOf (cfT k) x y=decide (k x<k y):=by
 unfold ltOf cfT;rw[decide_eq_decide]
 split
 .simp_all
 .split
  .simp;omega
  .simp;omega
theorem swoT (k:α->Int):SWO (ltOf (cfT k)) where
 irrefl x:=by rw[ltT];simp
 trans x y z h1 h2:=by rw[ltT,jH]at h1 h2 |-;omega
 ntrans x y z h1 h2:=by rw[ltT,jK]at h1 h2 |-;omega
theorem Ksu (k:α->Int) (ef:α->α->Bool) (he:∀x y,ef x y=decide (k x=k y)) {xs ys:List α}(h:Stab (ltOf (cfT k)) xs ys):Kbd k xs (dupE ef ys):=by
 rw[Qjg k ef he];refine Qei k (h.asc.imp fun h=>?_) fun t=>?_
 .rw[ltT,jK]at h;omega
 .by_cases hex:∃z∈xs,k z=t
  .obtain ⟨z,_,rfl⟩:=hex;have:=h.keep z
   have e:eqv (ltOf (cfT k)) z=fun y=>k y == k z:=by
    funext y;unfold eqv;rw[ltT,ltT];rcases (by omega:k z<k y\/k y<k z\/k y=k z) with h | h | h
    .rw[jL h,show(k y == k z)=false by rw[jO];omega];rfl
    .rw[jL h,show(k y == k z)=false by rw[jO];omega];simp
    .rw[h];simp
   rw[e]at this;exact this
  .have h1:xs.filter (fun y=>k y == t) = []:=by
    rw[bH];intro a ha he;exact hex ⟨a,ha,by simpa using he⟩
   have h2:ys.filter (fun y=>k y == t) = []:=by rw[bH];intro a ha he;exact hex ⟨a,h.perm.mem_iff.1 ha,by simpa using he⟩
   rw[h1,h2]
end
theorem Klu (b:Nat):∀(vs us:List Value) (o:Nat) (w:World),w.setCells b o (vs++us)=(w.setCells b o vs).setCells b (o+vs.length) us
 | [],us,o,w=>rfl
 | v :: vs,us,o,w=>by rw[bF,cS,cS,Klu b vs us (o+1),br];congr 1;omega
theorem Koc {xs:List Value}{B n k g cap i:Nat}{T:TypeId}{w:World}(h:w.ownsRow B T k (.slice (some ⟨g,0,none⟩) n cap) n xs) (hi:i<=n):w.ownsRow B T k (.slice (some ⟨g,0,none⟩) i cap) i (xs.take (i*k)):=by
 rcases h.2 with ⟨h',_⟩ | ⟨g',cap',cur,h',hb,hg,hnc,hcm,hcs,htake⟩
 .cases h'
 .injection h' with h1 _ h3;injection h1 with h1;injection h1 with h1 _ _;subst h1 h3;have aa:i*k<=n*k:=bK k hi;refine⟨by rw[bC,h.1];omega,.inr ⟨g,cap,cur,rfl,hb,hg,by omega,hcm,hcs,?_⟩⟩;rw[<-htake,bM,b8 aa]
section
variable {α : Type}[Inhabited α] {enc : α -> List Value}{k : Nat}{w0 : World}{blk off : Nat}{d0 : Array α}
theorem Qfl (hk:∀x,(enc x).length=k) (h0:0<k) (z:α) (n:Nat):(cX (enc z).toArray n).toList=(bh n z).flatMap enc:=by
 have hl:(cX (enc z).toArray n).toList.length=n*k:=by simp[cX,hk]
 have h1:((bh n z).flatMap enc).length=n*k:=by rw[Kdg hk,bq]
 apply List.ext_getElem?;intro t
 by_cases ht:t<n*k
 .rw[Kky hk h0 (l:=bh n z) (by rw[bq];exact ht)];have hd:t / k<(bh n z).length:=by rw[bq];exact Nat.div_lt_of_lt_mul (by rw[Nat.mul_comm];exact ht)
  have aa:(bh n z)[t / k]! = z:=by rw[jI (bh n z) (t / k) hd,List.getElem_replicate]
  rw[aa,a7 (by rw[hl];exact ht)];simp[cX,hk]
 .rw[be (by rw[hl];omega),be (by rw[h1];omega)]
theorem Kwx (R:RowK enc k w0 blk off d0) (z:α):∀(n i:Nat) (dk:Array α) (W:World),SWK enc k w0 blk off dk W->i+n<=dk.size->∃dk':Array α,dk'.size=dk.size/\dk'.toList.take i=dk.toList.take i/\SWK enc k w0 blk off dk' (W.setCells blk (off+i*k) ((bh n z).flatMap enc))
 | 0,i,dk,W,h,_=>⟨dk,rfl,rfl,h⟩
 | n+1,i,dk,W,h,hi=>by rw[List.replicate_succ,List.flatMap_cons,Klu,R.hk,show off+i*k+k=off+(i+1)*k by rw[Nat.succ_mul];omega];obtain⟨dk',h1,h2,h3⟩:=Kwx R z n (i+1) (dk.setIfInBounds i z) _ (SWK.put h R i (by omega) z) (by simp;omega);refine⟨dk',by simpa using h1,?_,h3⟩;have h4:=jR (List.take i) h2;rw[bM,bM,b8 (Nat.le_succ i),Array.toList_setIfInBounds,List.take_set_of_le (aZ i)]at h4;exact h4
theorem Kmb {P:Program}{S T:TypeId}(hu:P.underlying S=some (.slice T)) (z:α) (hz:∀w,(zeroValue T).run P w = .ok (.agg (enc z).toArray) w) (h0:0<k) (R:RowK enc k w0 blk off d0) {N:Nat}(hN:d0.size=N) (W:World) (dk:Array α) (i c:Nat) (hdk:dk.size=N) (h:SWK enc k w0 blk off dk W) (hi:i<=N) :
  ∃W',(∀ty,(cY #[S] ty #[.slice (some ⟨blk,off+i*k,none⟩) (N - i) c]).run P W = .ok (.tuple #[]) W')/\∃dk':Array α,dk'.size=N/\dk'.toList.take i=dk.toList.take i/\SWK enc k w0 blk off dk' W':=by
 rcases bQ (N - i) with h1 | h1
 .refine ⟨W,?_,dk,hdk,rfl,h⟩;intro ty;rw[h1];simp[cY,run_underlying hu]
 .obtain ⟨dk',e1,e2,e3⟩:=Kwx R z (N - i) i dk W h (by omega);refine⟨W.setCells blk (off+i*k) ((bh (N - i) z).flatMap enc),?_,dk',by omega,e2,e3⟩
  have aa:=stores_of_holds P (h.holds R.hblk R.hH (by omega)) (i*k) ((bh (N - i) z).flatMap enc) (by
   rw[Kdg R.hk,bq,size_flatK,hdk,<-Nat.add_mul]
   exact bK k (by omega)) (fun v hv=>by
    obtain⟨x,hx,hv⟩:=List.mem_flatMap.1 hv
    exact R.h1 x v hv)
  rw[<-Qfl R.hk h0]at aa |-;obtain⟨m,hm⟩:∃m,N - i=m+1:=⟨N - i - 1,by omega⟩;rw[hm]at aa |-;intro ty;have ab:(cG (enc z).toArray).cells=(enc z).toArray:=rfl;simp[cY,run_underlying hu,hz,ab,aa]
end
end
section
structure Spn where
 frm:Int
 to_:Int
def Kcr:Nat->List Nat->List UInt8
 | _,[]=>[]
 | a,x :: l=>uintT (x - a)++Kcr x l
def postT (l:List Nat):List UInt8:=uintT l.length++Kcr 0 l
def zig (v:Int):Nat:=if 0<=v then (2*v).toNat else (-2*v - 1).toNat
theorem Kxj {v:Int}(h1:-9223372036854775808<=v) (h2:v<=9223372036854775807):zig v<2 ^ 64:=by
 unfold zig
 split <;> omega
def intT (v:Int):List UInt8:=uintT (zig v)
def nibs:List Nat:=[0x00000000,0x105ec76f,0x20bd8ede,0x30e349b1,0x417b1dbc,0x5125dad3,0x61c69362,0x7198540d,0x82f63b78,0x92a8fc17,0xa24bb5a6,0xb21572c9,0xc38d26c4,0xd3d3e1ab,0xe330a81a,0xf36e6f75]
def nibN (c:Nat):Nat:=nibs.getD (c % 16) 0 ^^^ (c / 16)
def crcB (c:Nat) (b:UInt8):Nat:=nibN (nibN (c ^^^ b.toNat))
def crcF (c:Nat) (l:List UInt8):Nat:=l.foldl crcB c
def crcL (l:List UInt8):Nat:=crcF 4294967295 l ^^^ 4294967295
theorem Qaf:∀i,nibs.getD i 0<4294967296:=by
 intro i
 by_cases h:i<16
 .revert i
  decide
 .have:nibs.length<=i:=by simp[nibs];omega
  rw[List.getD_eq_getElem?_getD,be this];decide
theorem Khz {a b:Nat}(ha:a<4294967296) (hb:b<4294967296):a ^^^ b<4294967296:=bR (n:=32) ha hb
theorem Kmm {c:Nat}(h:c<4294967296):nibN c<4294967296:=Khz (Qaf _) (by omega)
theorem Qhz {c:Nat}(h:c<4294967296) (b:UInt8):crcB c b<4294967296:=Kmm (Kmm (Khz h (by have:=cC b;omega)))
theorem Kzt:∀(l:List UInt8) {c:Nat},c<4294967296->crcF c l<4294967296
 | [],_,h=>h
 | b :: l,_,h=>Kzt l (Qhz h b)
theorem Qia (l:List UInt8):crcL l<4294967296:=Khz (Kzt l (by decide)) (by decide)
theorem Kxu (c:Nat) (l m:List UInt8):crcF c (l++m)=crcF (crcF c l) m:=by unfold crcF;rw[List.foldl_append]
theorem Qdh (c:Nat) (l:List UInt8) (b:UInt8):crcF c (l ++ [b])=crcB (crcF c l) b:=by rw[Kxu];rfl
def fourT (v:Nat):List UInt8:=[cB v,cB (v / 256),cB (v / 65536),cB (v / 16777216)]
def sealT (b:List UInt8):List UInt8:=b++fourT (crcL b)
theorem Ksq (b:List UInt8):(sealT b).length=b.length+4:=by simp[sealT,fourT]
end
section
open Go.RowKit
def Kcb:Nat->List Smp->List (List Smp)
 | 0,_=>[]
 | _+1,[]=>[]
 | f+1,x :: l=>(x :: l).take 120 :: Kcb f ((x :: l).drop 120)
theorem Knd:∀(f:Nat) (l p:List Smp),p∈Kcb f l->p≠[]/\p.length<=120/\p.Sublist l
 | 0,_,_,h=>by simp[Kcb]at h
 | _+1,[],_,h=>by simp[Kcb]at h
 | f+1,x :: l,p,h=>by
  rw[Kcb,bE]at h;rcases h with rfl | h
  .exact ⟨by simp,by rw[bC];omega,bV _ _⟩
  .obtain ⟨h1,h2,h3⟩:=Knd f _ p h;exact⟨h1,h2,h3.trans (List.drop_sublist _ _)⟩
theorem Kgn:∀(f:Nat) (l:List Smp),(Kcb f l).length<=f
 | 0,_=>aZ _
 | _+1,[]=>bZ _
 | f+1,x :: l=>by rw[Kcb,br];have:=Kgn f ((x :: l).drop 120);omega
def aggsT:List Wnd->List (List UInt8)
 | []=>[]
 | w :: l=>[aggT (w :: l)]
def Kbf (s:Ser):List (List UInt8):=(Kcb s.samples.length s.samples).map Kdb++aggsT s.windows
def lensT (P:List (List UInt8)):List UInt8:=P.flatMap fun p=>uintT p.length
def serT (t:List Txt) (s:Ser):List UInt8:=pk t s.labels++(uintT (Kbf s).length++lensT (Kbf s))
theorem Kgx:∀{l:List Smp},Rises l↔l.Pairwise fun a b=>a.t<b.t
 | []=>⟨fun _=>da,fun _=>trivial⟩
 | [x]=>⟨fun _=>bw _ _,fun _=>trivial⟩
 | x :: y :: l=>by
  have ih:=Kgx (l:=y :: l);rw[Rises,bT,ih];constructor
  .rintro ⟨h1,h2⟩;refine⟨fun z hz=>?_,h2⟩;rcases a9.1 hz with rfl | hz
   .exact h1
   .have:=(a6.1 h2).1 z hz;omega
  .rintro ⟨h1,h2⟩;exact⟨h1 y (by simp),h2⟩
theorem Kpu:∀{l:List Int},riseI l=true↔l.Pairwise fun a b=>a<b
 | []=>⟨fun _=>da,fun _=>rfl⟩
 | [x]=>⟨fun _=>bw _ _,fun _=>rfl⟩
 | x :: y :: l=>by
  have ih:=Kpu (l:=y :: l);rw[riseI,bj,bT,ih,jH];constructor
  .rintro ⟨h1,h2⟩;refine⟨fun z hz=>?_,h2⟩;rcases a9.1 hz with rfl | hz
   .exact h1
   .have:=(a6.1 h2).1 z hz;omega
  .rintro ⟨h1,h2⟩;exact⟨h1 y (by simp),h2⟩
theorem Kzn {f t:Int}{l:List Int}:Kcp f t l=true↔l≠[]/\(∀x∈l,f<=x/\x<t)/\l.Pairwise fun a b=>a<b:=by unfold Kcp;simp only[bj,jH,bX,Kpu,and_assoc]
theorem Qcs {f t:Int}{l:List Smp}:Kcp f t (l.map Smp.t)=true↔l≠[]/\(∀x∈l,f<=x.t/\x.t<t)/\Rises l:=by rw[Kzn,Kgx,bp];simp
theorem Qgw {l:List Smp}(h:∀x∈l,SmpOk x) (hr:Rises l) {f:Nat}{p:List Smp}(hp:p∈Kcb f l):Qhr p:=by obtain⟨h1,h2,h3⟩:=Knd f l p hp;exact⟨fun x hx=>h x (h3.subset hx),Kgx.2 ((Kgx.1 hr).sublist h3),h2⟩
instance lbEq:DecidableEq Lb:=fun a b=>by
 cases a with
 | mk n v=>
  cases b with
  | mk n' v'=>exact if h:n=n'/\v=v' then isTrue (by rw[h.1,h.2]) else isFalse fun e=>h (by injection e with e1 e2;exact⟨e1,e2⟩)
instance ltBDec:DecidableRel ltB:=fun x y=>by unfold ltB;infer_instance
theorem Keo (x:Lb):¬ltB x x:=by rintro (h | ⟨_,h⟩) <;> exact List.lt_irrefl _ h
theorem Kqx {x y:Lb}(h1:¬ltB x y) (h2:¬ltB y x):x=y:=by
 unfold ltB at h1 h2;have hn:x.n=y.n:=Kek (fun h=>h1 (.inl h)) (fun h=>h2 (.inl h));have hv:x.v=y.v:=Kek (fun h=>h1 (.inr ⟨hn,h⟩)) (fun h=>h2 (.inr ⟨hn.symm,h⟩));cases x;cases y
 simp_all
def Qiz (S:List (List Lb)) (K:List Lb):Prop:=K.Pairwise ltB/\∀x,x∈K↔∃s∈S,x∈s
theorem Kvo:∀{t t':List Lb},t.Pairwise ltB->t'.Pairwise ltB->(∀x,x∈t↔x∈t')->t=t'
 | [],[],_,_,_=>rfl
 | [],b :: s',_,_,h=>by have:=(h b).2 (by simp);simp at this
 | a :: s,[],_,_,h=>by have:=(h a).1 (by simp);simp at this
 | a :: s,b :: s',h1,h2,h=>by
  have ha:=a6.1 h1;have hb:=a6.1 h2
  have aa:a=b:=by
   apply Kqx
   .intro hlt;rcases a9.1 ((h a).1 (by simp)) with e | e
    .exact Keo a (by rw[e]at hlt |-;exact hlt)
    .exact Keo a (Kfb hlt (hb.1 a e))
   .intro hlt;rcases a9.1 ((h b).2 (by simp)) with e | e
    .exact Keo b (by rw[e]at hlt |-;exact hlt)
    .exact Keo b (Kfb hlt (ha.1 b e))
  subst aa;rw[Kvo ha.2 hb.2 fun x=>?_];constructor
  .intro hx;rcases a9.1 ((h x).1 (by simp[hx])) with e | e
   .subst e;exact jS (ha.1 x hx) (Keo x)
   .exact e
  .intro hx;rcases a9.1 ((h x).2 (by simp[hx])) with e | e
   .subst e;exact jS (hb.1 x hx) (Keo x)
   .exact e
def insK (x:Lb):List Lb->List Lb
 | []=>[x]
 | y :: l=>if ltB x y then x :: y :: l else if ltB y x then y :: insK x l else y :: l
theorem Knt (x:Lb):∀(l:List Lb) (z:Lb),z∈insK x l↔z=x\/z∈l
 | [],z=>by simp[insK]
 | y :: l,z=>by
  rw[insK]
  split
  .simp
  .split
   .rw[bE,Knt x l z,bE];constructor
    .rintro (h | h | h)
     .exact .inr (.inl h)
     .exact .inl h
     .exact .inr (.inr h)
    .rintro (h | h | h)
     .exact .inr (.inl h)
     .exact .inl h
     .exact .inr (.inr h)
   .rename_i h1 h2
    have e:=Kqx h1 h2;subst e;simp
theorem Kse (x:Lb):∀(l:List Lb),l.Pairwise ltB->(insK x l).Pairwise ltB
 | [],_=>bw _ _
 | y :: l,h=>by
  have hc:=a6.1 h;rw[insK]
  split
  .rename_i h1
   refine a6.2 ⟨fun z hz=>?_,h⟩;rcases a9.1 hz with rfl | hz
   .exact h1
   .exact Kfb h1 (hc.1 z hz)
  .split
   .rename_i h1 h2
    refine a6.2 ⟨fun z hz=>?_,Kse x l hc.2⟩;rcases (Knt x l z).1 hz with rfl | hz
    .exact h2
    .exact hc.1 z hz
   .exact h
def keysOf (S:List (List Lb)):List Lb:=S.flatten.foldr insK []
theorem Kez (S:List (List Lb)):Qiz S (keysOf S):=by
 have aa:∀l:List Lb,(l.foldr insK []).Pairwise ltB/\∀x,x∈l.foldr insK []↔x∈l:=by
  intro l
  induction l with
  | nil=>exact⟨da,fun _=>Iff.rfl⟩
  | cons y l ih=>exact⟨Kse y _ ih.1,fun x=>by rw[List.foldr_cons,Knt,ih.2,bE]⟩
 obtain⟨h1,h2⟩:=aa S.flatten;exact⟨h1,fun x=>(h2 x).trans (by rw[List.mem_flatten])⟩
def Kan (S:List (List Lb)) (x:Lb):List Nat:=(bL S.length).filter fun i=>decide (x∈S.getD i [])
theorem Kne (S:List (List Lb)) (x:Lb):(Kan S x).length<=S.length:=by have:=List.length_filter_le (fun i=>decide (x∈S.getD i [])) (bL S.length);rwa[List.length_range]at this
def keyT (S:List (List Lb)) (x:Lb):List UInt8:=textT x.n++(textT x.v++postT (Kan S x))
def Kcx (S:List (List Lb)):List UInt8:=uintT (keysOf S).length++(keysOf S).flatMap (keyT S)
structure Fil where
 mt:List UInt8
 ck:List UInt8
 ix:List UInt8
instance filEq:DecidableEq Fil:=fun a b=>by
 cases a with
 | mk m c i=>
  cases b with
  | mk m' c' i'=>exact if h:m=m'/\c=c'/\i=i' then isTrue (by rw[h.1,h.2.1,h.2.2]) else isFalse fun e=>h (by injection e with e1 e2 e3;exact⟨e1,e2,e3⟩)
def Kao (c:Cont):List (List Lb):=c.series.map Ser.labels
def allS (S:List (List Lb)):List Txt:=S.flatMap texts
def tabOf (S:List (List Lb)):List Txt:=Lib.compact ((allS S).mergeSort fun x y=>decide (x<=y))
theorem Kwy (S:List (List Lb)):IsTab (allS S) (tabOf S):=Qhi _
def metaB (c:Cont):List UInt8:=uintT c.res.toNat++(intT c.frm++intT c.to_)
def Kdc (c:Cont):List UInt8:=c.series.flatMap fun s=>(Kbf s).flatten
def Kcq (c:Cont):List UInt8:=tabT (tabOf (Kao c))++(uintT c.series.length++(c.series.flatMap (serT (tabOf (Kao c)))++Kcx (Kao c)))
def Kff (c:Cont):Fil:=⟨sealT (metaB c),sealT (Kdc c),sealT (Kcq c)⟩
def ordS:List Ser->Bool
 | []=>true
 | [_]=>true
 | a :: b :: l=>decide (cmpL a.labels b.labels<0) && ordS (b :: l)
def fitB (c:Cont):Bool:=decide (0<=c.res) && decide (c.res<3) && decide (0<=c.frm) && decide (c.frm<c.to_) && decide (c.to_<=1125899906842625) && c.series.all (fun s=>Kcm s.labels && Kdw c s) && ordS c.series
theorem Khi {c:Cont}:fitB c=true↔0<=c.res/\c.res<3/\0<=c.frm/\c.frm<c.to_/\c.to_<=1125899906842625/\(∀s∈c.series,Kcm s.labels=true/\Kdw c s=true)/\ordS c.series=true:=by unfold fitB;simp only[bj,jH,bX,and_assoc]
theorem Qcq {l:List Lb}(h:Kcm l=true):Kdn l=0:=by unfold Kcm at h;rw[bj,jH,jH]at h;unfold Kdn;rw[jM (by simp[h.1]),jN h.2]
end
section
open Go.RowKit
open Lib renaming hid -> Jh
attribute [local go_sem ↓] Go.wp_at_zero Go.wp_at_succ
attribute [local go_sem] Later.cell
def encN (x:Nat):List Value:=[.int .i64 (x:Int)]
def lastN:Nat->List Nat->Nat
 | a,[]=>a
 | _,x :: l=>lastN x l
theorem Kjp:∀(l:List Nat) (a x:Nat),lastN a (l ++ [x])=x
 | [],_,_=>rfl
 | _ :: l,_,x=>Kjp l _ x
theorem Kir:∀(l:List Nat) (a x:Nat),Kcr a (l ++ [x])=Kcr a l++uintT (x - lastN a l)
 | [],a,x=>by simp[Kcr,lastN]
 | w :: l,a,x=>by rw[bF,Kcr,Kcr,Kir l,lastN,aY]
theorem Kvt:∀(l:List Nat) (a x:Nat),(l ++ [x]).Pairwise (· < ·)->l≠[]->lastN a l<x
 | [],_,_,_,h=>jS rfl h
 | [y],a,x,h,_=>by have:=a6.1 h;exact this.1 x (by simp)
 | y :: z :: l,a,x,h,_=>Kvt (z :: l) y x (a6.1 h).2 (by simp)
theorem Kto (l:List Nat) (A:Option Addr) (n cap:Nat) (w:World) (hE:Elems w w.heap.size 1 encN A n l) (hn:n<=1099511627776) (hp:l.Pairwise (· < ·)) (hv:∀x∈l,x<=1099511627776) :
  Calls prog 121 #[.slice A n cap] w fun e w'=>e = .returned (.tuple #[.string ⟨(postT l).toArray⟩,.int .i64 0])/\Below w.heap.size w w':=by
 have ag:=hE.len;have HE:=Jh hE;have HV:=Jh hv;have HP:=Jh hp;have ac:=Jh ag;have aS:=Jh (fun w=>Kav n (by omega) w);have h0:Bld w.heap.size w.heap.size [] (w.alloc (.cells #[.pointer none,.slice none 0 0] 109)):=Bld.new w (aZ _);have ae:Below w.heap.size w (w.alloc (.cells #[.pointer none,.slice none 0 0] 109)):=(Below.refl _ _).alloc (aZ _) _;clear hE hv hp ag;go_enter func121,ntmps121
 go_upto_region 2 with fail
 obtain⟨w1,ay⟩:=jF (w.alloc (.cells #[.pointer none,.slice none 0 0] 109));rw[ay]at h0 ae;rw[ay];obtain⟨b,hb⟩:=jF w.heap.size;rw[hb]at h0 ae HE |-;have HB:=Jh hb;have aP:=Jh h0;have aK:=Jh ae;have aD:b<=w1.heap.size:=by have:=ae.size;omega
 clear ay h0 ae hb;go_wp2_with fail
 refine(aS.out w1).mono ?_;rintro _ w2 ⟨rfl,an⟩;have aQ:=Jh (aP.out.below an);have aG:=Jh (aK.out.trans (an.mono aD));have aR:b<=w2.heap.size:=aX aD an.size;clear an;go_wp2_with fail
 refine(Kaz b b [] ⟨(uintT n).toArray⟩ w2 aQ.out (by show 0+(uintT n).toArray.size<=_;have:=(Kab n).2;simp only[bi];omega) aR).mono ?_;rintro _ w3 ⟨rfl,h5,h6,_⟩;have aH:Hid (Bld b b (uintT n) w3):=Jh h5;have aN:=Jh (aG.out.trans h6);clear h5 h6;go_wp2_with fail
 go_loopg [5,15] n (fun g s5 s15 wr=>∃i:Nat,i+g=n/\s15 = .int .i64 (i:Int)/\s5 = .int .i64 ((lastN 0 (l.take i):Nat):Int)/\Bld b b (uintT n++Kcr 0 (l.take i)) wr/\Below b w wr/\(uintT n++Kcr 0 (l.take i)).length<=11+11*i/\lastN 0 (l.take i)<=1099511627776)
 case atStart=>exact⟨0,by omega,rfl,rfl,by simpa[Kcr]using aH.out,aN.out,by have:=(Kab n).2;simp[Kcr];omega,bZ _⟩
 case round=>
  obtain⟨i,hi,rfl,rfl,aE,ax,aB,aI⟩:=hrel;have HI:=Jh hi;have HL:=Jh aE;have HR:=Jh ax;have ak:=Jh aB;have aj:b<=wr.heap.size:=aX (by rw[HB.out];exact aZ _) ax.size;clear aE ax aB
  by_cases hin:i<n
  .have al:i<l.length:=by have:=ac.out;omega
   obtain⟨bk,aF,rfl,aM,aa⟩:=HE.out.2 (by omega);have m0:wr.cell? ⟨bk,aF+i,none⟩=some (.int .i64 ((l[i]:Nat):Int)):=(HR.out.cell (p:=⟨bk,aF+i,none⟩) aM).trans (by simpa using aa i l[i] (a7 al) 0 _ rfl);have ar:=HV.out l[i] (bY al);have ab:l.take (i+1)=l.take i ++ [l[i]]:=bz al
   have ad:i≠0->lastN 0 (l.take i)<l[i]:=by
    intro h0;refine Kvt _ _ _ ?_ ?_
    .rw[<-ab];exact HP.out.sublist (bV _ _)
    .intro he;have:=jR bA he;rw[bC,List.length_nil]at this;omega
   obtain⟨x,aC⟩:=jF (l[i]);rw[aC]at m0 ar ab ad;obtain⟨a,ao⟩:=jF (lastN 0 (l.take i));rw[ao]at ad aI |-;obtain⟨T,hT⟩:=jF (uintT n++Kcr 0 (l.take i));rw[hT]at HL ak;have am:=Jh ab;have aA:=Jh ao;have HT:=Jh hT
   have hax:a<=x:=by
    by_cases h0:i=0
    .subst h0;have:a=0:=by rw[<-ao];rfl
     omega
    .have:=ad h0;omega
   have el:(i:Int)<(n:Int):=by omega
   have e1:decide ((x:Int)<0)=false:=by rw[jK];omega
   obtain⟨y,hy⟩:=jF (x - a);have hyi:(x:Int) - (a:Int)=(y:Int):=by omega
   have hyw:wrap64 ((x:Int) - (a:Int))=(y:Int):=by unfold wrap64;omega
   have hyu:cM.wrap (y:Int)=(y:Int):=by rw[cN];omega
   have HY:=Jh hy;have HU:=Jh (fun w=>Kav y (by omega) w);have HIN:=Jh hin;clear hi ab aC ao hT aa hy al
   by_cases h0:i=0
   .subst h0;rw[Nat.add_zero]at m0;clear ad hin;go_wp2_with fail
    refine(HU.out wr).mono ?_;rintro _ w5 ⟨rfl,h5⟩;have az:=Jh (HL.out.below h5);have ap:=Jh (HR.out.trans (h5.mono aj));have av:b<=w5.heap.size:=aX aj h5.size;clear h5;go_wp2_with fail
    refine(Kaz b b T ⟨(uintT y).toArray⟩ w5 az.out (by show _+(uintT y).toArray.size<=_;have:=(Kab y).2;have:=ak.out;have:=HI.out;simp only[bi];omega) av).mono ?_;rintro _ w6 ⟨rfl,h6,h7,_⟩;have aq:=Jh h6;have aw:=Jh (ap.out.trans h7);clear h6 h7;go_wp2_with fail
    go_roundg (gk - 1)
    case measure=>have:=HI.out;omega
    case rel=>
     have ah:lastN 0 (l.take (0+1))=x:=by rw[am.out,Kjp]
     have ai:uintT n++Kcr 0 (l.take (0+1))=T++uintT y:=by rw[am.out,Kir,aA.out,HY.out,<-HT.out,aY]
     refine⟨1,by have:=HI.out;omega,by go_num,by rw[ah],by rw[ai];exact aq.out,aw.out,?_,by rw[ah];exact ar⟩;rw[ai,bd];have:=(Kab y).2;have:=ak.out;omega
   .have aJ:=ad h0;have e2:decide ((0:Int)<(i:Int))=true:=by rw[jH];omega
    have e2':decide (0<i)=true:=by rw[jH];omega
    have e3:decide ((x:Int)<=(a:Int))=false:=by rw[jK];omega
    have e3':decide (x<=a)=false:=by rw[jK];omega
    clear ad hin;go_wp2_with fail
    refine(HU.out wr).mono ?_;rintro _ w5 ⟨rfl,h5⟩;have az:=Jh (HL.out.below h5);have ap:=Jh (HR.out.trans (h5.mono aj));have av:b<=w5.heap.size:=aX aj h5.size;clear h5;go_wp2_with fail
    refine(Kaz b b T ⟨(uintT y).toArray⟩ w5 az.out (by show _+(uintT y).toArray.size<=_;have:=(Kab y).2;have:=ak.out;have:=HI.out;simp only[bi];omega) av).mono ?_;rintro _ w6 ⟨rfl,h6,h7,_⟩;have aq:=Jh h6;have aw:=Jh (ap.out.trans h7);clear h6 h7;go_wp2_with fail
    go_roundg (gk - 1)
    case measure=>have:=HI.out;omega
    case rel=>
     have ah:lastN 0 (l.take (i+1))=x:=by rw[am.out,Kjp]
     have ai:uintT n++Kcr 0 (l.take (i+1))=T++uintT y:=by rw[am.out,Kir,aA.out,HY.out,<-HT.out,aY]
     refine⟨i+1,by have:=HI.out;omega,by go_num,by rw[ah],by rw[ai];exact aq.out,aw.out,?_,by rw[ah];exact ar⟩;rw[ai,bd];have:=(Kab y).2;have:=ak.out;omega
  .have aL:i=n:=by have:=HI.out;omega
   subst aL;have ab:l.take i=l:=bI (by have:=ac.out;omega);rw[ab]at HL;have aO:Hid (uintT i++Kcr 0 l=postT l):=Jh (by unfold postT;rw[ac.out]);rw[aO.out]at HL;have af:=Jh (Kdv b b _ wr HL.out aj);obtain⟨S,hS⟩:∃S:ByteArray,(⟨(postT l).toArray⟩:ByteArray)=S:=⟨_,rfl⟩;rw[hS]at af;have HS:=Jh hS;clear ab hS;go_wp2_with fail
   refine af.out.mono ?_;rintro _ w3 ⟨rfl,h6⟩;go_wp2_with fail
   go_ret2
   rw[<-HS.out];exact⟨rfl,by rw[HB.out];exact HR.out.trans h6⟩
end
section
open Go.RowKit
open Go.ChangeMaps (setBlock)
open Go.MapKept
open Go.WideMaps (KeyLaw)
def lbV (x:Lb):Value:=.agg #[.string ⟨x.n.toArray⟩,.string ⟨x.v.toArray⟩]
theorem Kfa {x y:Lb}(h:lbV x=lbV y):x=y:=by obtain⟨a,b⟩:=x;obtain⟨c,d⟩:=y;unfold lbV at h;injection h with h;have h1:=jR bW h;injection h1 with h2 h3;injection h3 with h4 _;injection h2 with h2;injection h4 with h4;injection h2 with h2;injection h4 with h4;have e1:=jR bW h2;have e2:=jR bW h4;simp only[List.toList_toArray]at e1 e2;rw[e1,e2]
theorem lbLaw:KeyLaw prog 99:=by
 have aa:Nat.blt 99 prog.types.size=true:=by kernel_rfl
 exact deep_law_laid (by kernel_rfl) (m:=2) (by omega) (Nat.blt_eq.mp aa) (by kernel_rfl) (by kernel_rfl)
theorem Qbg:∃f1 f2,prog.underlying 99 = some (.struct #[f1,f2])/\(f1.name != "_")=true/\(f2.name != "_")=true/\f1.offset=0/\f2.offset=1/\f1.type = 9/\f2.type = 9:=⟨_,_,underlying99,by decide,by decide,rfl,rfl,rfl,rfl⟩
theorem Knx (x:Lb) (h1:x.n.length<=maxLen) (h2:x.v.length<=maxLen):∃l,keyOf prog 99 (lbV x)=some l:=by
 obtain⟨f1,f2,hu,n1,n2,o1,o2,t1,t2⟩:=Qbg;have ae:prog.keyType 99 = true:=by kernel_rfl
 have ab:prog.cellsOf 99 = 2:=by kernel_rfl
 have ac:prog.cellsOf 9 = 1:=by kernel_rfl
 have ad:Nat.blt 0 prog.types.size=true:=by kernel_rfl
 obtain⟨m,hm⟩:∃m,prog.types.size=m+1:=⟨prog.types.size - 1,by have:=Nat.blt_eq.mp ad;omega⟩;have hs:prog.underlying 9 = some .string:=underlying9;unfold keyOf lbV;rw[hu];dsimp only;rw[jN (by simp[ae,Value.formed,hu,ab]),hm];unfold Program.keyLits;simp only[hu,Value.cells];rw[jN (by simp[ab,n1,n2])]
 have aa:∀(d:Nat) (s:ByteArray),s.size<=maxLen->prog.keyLits (d+1) 9 [.string s]=some [.string s.data.toList]:=fun d s h=>by unfold Program.keyLits;simp only[hs];rw[jN h]
 have s1:(⟨x.n.toArray⟩:ByteArray).size<=maxLen:=by show x.n.toArray.size<=_;rw[bi];exact h1
 have s2:(⟨x.v.toArray⟩:ByteArray).size<=maxLen:=by show x.v.toArray.size<=_;rw[bi];exact h2
 simp[o1,o2,t1,t2,ac,aa m _ s1,aa m _ s2]
section
variable {w : World}{b : Nat}{es : Array MapEntry}{clock : Nat}
theorem Kyi (hb:w.heap[b]? = some (.map es clock)) (hst:Stamped es clock) (hk:∀e∈es.toList,∃l,keyOf prog 99 e.key=some l) {key:Value} {kl:Lit} (hkey:keyOf prog 99 key=some kl) :
  (∃j e0,es.toList[j]? = some e0/\e0.key=key/\(cy 104 (.map (some b)) key).run prog w = .ok (.tuple #[e0.val,goInt e0.born]) (setBlock w b (.map es clock))/\
   ∀(w2:World) (val:Value),w2.heap[b]? = some (.map es clock)->(cx 104 (.map (some b)) (goInt e0.born) val).run prog w2 = .ok () (setBlock w2 b (.map (es.modify j fun e=>{ e with val:=val }) clock)))\/
  ((∀e∈es.toList,e.key≠key)/\(cy 104 (.map (some b)) key).run prog w = .ok (.tuple #[.slice none 0 0,goInt clock]) (setBlock w b (.map (es.push ⟨key,.slice none 0 0,clock⟩) (clock+1)))/\
   ∀(w2:World) (val:Value),w2.heap[b]? = some (.map (es.push ⟨key,.slice none 0 0,clock⟩) (clock+1))->(cx 104 (.map (some b)) (goInt clock) val).run prog w2 = .ok () (setBlock w2 b (.map (es.push ⟨key,val,clock⟩) (clock+1)))):=by
 have ht:prog.underlying 104 = some (.map 99 69):=underlying104;have hz:∀u:World,(zeroValue 69).run prog u = .ok (.slice none 0 0) u:=fun u=>by kernel_rfl
 obtain⟨s1,s2,_⟩:=hst;rcases lbLaw.find w hkey es.toList hk with ⟨h1,h2⟩ | ⟨j,e0,h1,h2,h3⟩
 .refine .inr ⟨h2,?_,fun w2 val hw2=>?_⟩
  .simp[cy,run_underlying ht,cD hb,lbLaw.check w false hkey,h1,hz,cE _ hb,cZ,setBlock]
  .have aa:(es.push ⟨key,.slice none 0 0,clock⟩).findIdx? (fun e=>((e.born:Nat):Int) == ((clock:Nat):Int))=some es.size:=by
    rw[cU]
    have:=cT (l:=(es.push ⟨key,.slice none 0 0,clock⟩).toList) (j:=es.size) (e0:=⟨key,.slice none 0 0,clock⟩) (by
     simp only[bB,List.map_append,List.map_cons,List.map_nil];refine List.nodup_append.2 ⟨s2,by simp,fun a ha c hc e1=>?_⟩;simp only[bU]at hc;obtain⟨x,hx,rfl⟩:=List.mem_map.1 ha;have:=s1 x hx
     omega) (by simp)
    exact this
   have ac:(es.push ⟨key,.slice none 0 0,clock⟩).modify es.size (fun e=>{ e with val:=val })=es.push ⟨key,val,clock⟩:=by apply cd;rw[bP,bB,bB,<-Array.length_toList,cV]
   simp[cx,cD hw2,asInt,asIntOf,goInt,aa,ac,cE _ hw2,cZ,setBlock]
 .have hj:es[j]? = some e0:=by simpa using h2
  have ab:es.modify j (fun e=>{ e with key:=key })=es:=by
   apply cd;rw[bP,ChangeMaps.modify_eq_set _ _ _ _ h2];have:({ e0 with key:=key }:MapEntry)=e0:=by rw[<-h3]
   rw[this];exact cW _ _ _ h2
  refine .inl ⟨j,e0,h2,h3,?_,fun w2 val hw2=>?_⟩
  .simp[cy,run_underlying ht,cD hb,lbLaw.check w false hkey,h1,hj,h3,lbLaw.stays w hkey,ab,cE _ hb,cZ,setBlock]
  .have aa:es.findIdx? (fun e=>((e.born:Nat):Int) == ((e0.born:Nat):Int))=some j:=by
    rw[cU];exact cT s2 h2
   simp[cx,cD hw2,asInt,asIntOf,goInt,aa,cE _ hw2,cZ,setBlock]
theorem Qbk (hb:w.heap[b]? = some (.map es clock)) (hk:∀e∈es.toList,∃l,keyOf prog 99 e.key=some l) {key:Value} {kl:Lit} (hkey:keyOf prog 99 key=some kl) {e0:MapEntry} (he:e0∈es.toList) (hek:e0.key=key) (hn:(es.toList.map (·.key)).Nodup) :
  (cA 104 (.map (some b)) key false).run prog w = .ok e0.val w:=by
 have ht:prog.underlying 104 = some (.map 99 69):=underlying104;rcases lbLaw.find w hkey es.toList hk with ⟨h1,h2⟩ | ⟨j,e1,h1,h2,h3⟩
 .exact jS hek (h2 _ he)
 .have aa:e1=e0:=by
   have hm:=bn h2;have hp:=bp.1 (show(es.toList.map (·.key)).Pairwise (·≠·) from hn);exact entry_eq_of_key hp hm he (h3.trans hek.symm)
  subst aa;simp[cA,run_underlying ht,cD hb,lbLaw.check w es.isEmpty hkey,h1,cZ]
end
theorem Qih {es:Array MapEntry}{j:Nat}{e0:MapEntry}(hj:es.toList[j]? = some e0) (hn:(es.toList.map (·.key)).Nodup) (val:Value) (e':MapEntry):e'∈(es.modify j fun e=>{ e with val:=val }).toList↔e' = { e0 with val:=val }\/(e'∈es.toList/\e'.key≠e0.key):=by
 have ac:es[j]? = some e0:=by simpa using hj
 constructor
 .intro h;obtain⟨i,hi⟩:=bl.1 h;rw[ci,cf]at hi
  by_cases aa:j=i
  .subst aa;simp[ac]at hi;exact .inl hi.symm
  .rw[jM aa]at hi;have ab:es.toList[i]? = some e':=by simpa using hi
   refine .inr ⟨bn ab,fun hk=>aa ?_⟩;have h1:(es.toList.map (·.key))[i]? = some e'.key:=by rw[bx,ab];rfl
   have h2:(es.toList.map (·.key))[j]? = some e0.key:=by rw[bx,hj];rfl
   rw[hk,<-h2]at h1
   have ad:i<(es.toList.map (·.key)).length:=by have:=(List.getElem?_eq_some_iff.1 ab).1;rwa[List.length_map]
   exact((List.getElem?_inj ad hn).1 h1).symm
 .rintro (rfl | ⟨h,hk⟩)
  .exact bn (i:=j) (by rw[ci,cf];simp[ac])
  .obtain ⟨i,hi⟩:=bl.1 h
   have aa:j≠i:=by rintro rfl;rw[hj]at hi;injection hi with hi;exact hk (by rw[hi])
   exact bn (i:=i) (by rw[ci,cf,jM aa];simpa using hi)
section
variable {w : World}{b : Nat}{es : Array MapEntry}{clock : Nat}
theorem Qgl (hb:w.heap[b]? = some (.map es clock)) (hst:Stamped es clock) (hk:∀e∈es.toList,∃l,keyOf prog 99 e.key=some l) {key:Value} {kl:Lit} (hkey:keyOf prog 99 key=some kl) :
  ∃(v0:Value) (st:Nat) (es1:Array MapEntry) (clock1:Nat),(cy 104 (.map (some b)) key).run prog w = .ok (.tuple #[v0,.int .i64 (st:Int)]) (setBlock w b (.map es1 clock1))/\
   ((∃e0∈es.toList,e0.key=key/\v0=e0.val)\/((∀e∈es.toList,e.key≠key)/\v0 = .slice none 0 0))/\
   ∀(w2:World) (val:Value),w2.heap[b]? = some (.map es1 clock1)->∃es' clock',(cx 104 (.map (some b)) (.int .i64 (st:Int)) val).run prog w2 = .ok () (setBlock w2 b (.map es' clock'))/\Stamped es' clock'/\es'.size<=es.size+1/\
    ∀e',e'∈es'.toList↔e'=⟨key,val,st⟩\/(e'∈es.toList/\e'.key≠key):=by
 rcases Kyi hb hst hk hkey with ⟨j,e0,h1,h2,h3,h4⟩ | ⟨h1,h2,h3⟩
 .refine ⟨e0.val,e0.born,es,clock,h3,.inl ⟨e0,bn h1,h2,rfl⟩,fun w2 val hw2=>⟨_,_,h4 w2 val hw2,?_,?_,fun e'=>?_⟩⟩
  .exact stamped_modify hst j _ (fun _ _=>rfl) (fun _ _ _=>rfl)
  .rw[Array.size_modify];omega
  .rw[Qih h1 hst.2.2];rw[<-h2]
 .refine ⟨_,clock,_,_,h2,.inr ⟨h1,rfl⟩,fun w2 val hw2=>⟨_,_,h3 w2 val hw2,stamped_push hst h1,by rw[Array.size_push];omega,fun e'=>?_⟩⟩;rw[bB,List.mem_append,bU];constructor
  .rintro (h | h)
   .exact .inr ⟨h,h1 _ h⟩
   .exact .inl h
  .rintro (h | h)
   .exact .inr h
   .exact .inl h.1
end
structure LMap (w:World) (B b:Nat) (f:Lb->List Nat) (n:Nat) (es:Array MapEntry) (clock:Nat):Prop where
 h:w.heap[b]? = some (.map es clock)
 st:Stamped es clock
 sz:es.size<=n
 k:∀e∈es.toList,∃x:Lb,(x.n.length<=1099511627776/\x.v.length<=1099511627776)/\e.key=lbV x/\f x≠[]/\w.ownsRow B 3 1 e.val (f x).length ((f x).flatMap encN)
 a:∀x,f x≠[]->∃e∈es.toList,e.key=lbV x
 o:∀e∈es.toList,∀e'∈es.toList,e.key≠e'.key->e.val.ownBlock≠e'.val.ownBlock
theorem Kax {w:World}{B n sz r:Nat}{T:TypeId}{v:Value}{xs:List Value}(h:w.ownsRow B T sz v n xs) (hv:v.ownBlock=some r):∃cur,w.heap[r]? = some (.cells cur T (0,0)):=by
 rcases h.2 with ⟨rfl,_⟩ | ⟨g,cap,cur,rfl,_,hg,_⟩
 .cases hv
 .cases hv;exact⟨cur,hg⟩
theorem Kwn {w:World}{B n sz:Nat}{T:TypeId}{v:Value}{xs:List Value}(h:w.ownsRow B T sz v n xs) (hn:n≠0):∃r,v.ownBlock=some r:=by
 rcases h.2 with ⟨rfl,h0⟩ | ⟨g,cap,cur,rfl,_⟩
 .exact jS h0 hn
 .exact ⟨g,rfl⟩
theorem Ken {w:World}{b:Nat}(o':Obj):w.grownBy (setBlock w b o') (some b):=
 ⟨rfl,rfl,rfl,by show _<=(w.heap.setIfInBounds b o').size;simp,fun k hk hne=>by
  show(w.heap.setIfInBounds b o')[k]? = _
  rw[cj,jM];rintro rfl
  exact hne rfl⟩
theorem Kiq {w:World}{b:Nat}{o:Obj}(o':Obj) (h:w.heap[b]? = some o):(setBlock w b o').heap[b]? = some o':=by
 show(w.heap.setIfInBounds b o')[b]? = _
 rw[cj,jN rfl,jN (cg.1 h).1]
theorem Knh (w:World) (b:Nat) (o':Obj):(setBlock w b o').heap.size=w.heap.size:=by
 show(w.heap.setIfInBounds b o').size=_
 simp
theorem Kjc {w:World}{B n sz b:Nat}{T:TypeId}{v:Value}{xs:List Value}{es:Array MapEntry}{clock:Nat}(h:w.ownsRow B T sz v n xs) (hb:w.heap[b]? = some (.map es clock)):v.ownBlock≠some b:=fun hv=>by obtain⟨cur,hc⟩:=Kax h hv;rw[hb]at hc;cases hc
theorem Qaa {w:World}{B b n:Nat}{f:Lb->List Nat}{es:Array MapEntry}{clock:Nat}(h:LMap w B b f n es clock):∀e∈es.toList,∃l,keyOf prog 99 e.key=some l:=fun e he=>by obtain⟨x,hz,hk,_⟩:=h.k e he;rw[hk];exact Knx x (by unfold maxLen;omega) (by unfold maxLen;omega)
theorem LMap.new (w:World) (B:Nat):LMap (w.alloc (.map #[] 0)) B w.heap.size (fun _=>[]) 0 #[] 0:=
 ⟨World.alloc_heap_new w _,⟨by simp,by simp,by simp⟩,by simp,by simp,fun x hx=>jS rfl hx,by simp⟩
theorem LMap.kept {w w':World}{B b n:Nat}{f:Lb->List Nat}{es:Array MapEntry}{clock:Nat}(h:LMap w B b f n es clock) {row:Option Nat}(hg:w.grownBy w' row) (hr:∀r,row=some r->∃cur t,w.heap[r]? = some (.cells cur t (0,0))/\t≠3):LMap w' B b f n es clock:=by
 have ac:=(cg.1 h.h).1;refine⟨(hg.block b ac (fun e=>?_)).trans h.h,h.st,h.sz,fun e he=>?_,h.a,h.o⟩
 .obtain ⟨cur,t,hc,_⟩:=hr b e.symm;rw[h.h]at hc;cases hc
 .obtain ⟨x,hz,hk,hf,hw⟩:=h.k e he;refine⟨x,hz,hk,hf,hw.kept hg (.inr fun e'=>?_)⟩;obtain⟨r,ab⟩:=Kwn hw (by rw[Ne,bG];exact hf);obtain⟨cur,hc⟩:=Kax hw ab;obtain⟨ad,t,aa,ht⟩:=hr r (e'▸ab);rw[hc]at aa;injection aa with aa;injection aa with _ aa;exact ht aa.symm
theorem LMap.mono {w:World}{B b n m:Nat}{f:Lb->List Nat}{es:Array MapEntry}{clock:Nat}(h:LMap w B b f n es clock) (hm:n<=m):LMap w B b f m es clock:=⟨h.h,h.st,aX h.sz hm,h.k,h.a,h.o⟩
theorem LMap.below {w w':World}{B b n:Nat}{f:Lb->List Nat}{es:Array MapEntry}{clock:Nat}(h:LMap w B b f n es clock) (hb:Below w.heap.size w w'):LMap w' B b f n es clock:=
 h.kept (row:=none) ⟨hb.os,hb.tape,hb.output,hb.size,fun k hk _=>hb.block k hk⟩ (fun r e=>by cases e)
def addF (f:Lb->List Nat) (x:Lb) (i:Nat):Lb->List Nat:=fun y=>if y=x then f x ++ [i] else f y
theorem LMap.step {w:World}{B b n:Nat}{f:Lb->List Nat}{es:Array MapEntry}{clock:Nat}(h:LMap w B b f n es clock) (x:Lb) (hx:x.n.length<=1099511627776/\x.v.length<=1099511627776) (i:Nat) (hB:B<=w.heap.size) :
  ∃(v0:Value) (st:Nat) (es1:Array MapEntry) (clock1:Nat),(cy 104 (.map (some b)) (lbV x)).run prog w = .ok (.tuple #[v0,.int .i64 (st:Int)]) (setBlock w b (.map es1 clock1))/\
   (setBlock w b (.map es1 clock1)).ownsRow B 3 1 v0 (f x).length ((f x).flatMap encN)/\v0.ownBlock≠some b/\
   ∀(w2:World) (val:Value),(setBlock w b (.map es1 clock1)).grownBy w2 v0.ownBlock->w2.ownsRow B 3 1 val ((f x).length+1) ((f x).flatMap encN++encN i)->(val.ownBlock=v0.ownBlock\/val.ownBlock=some w.heap.size)->
    ∃es' clock',(cx 104 (.map (some b)) (.int .i64 (st:Int)) val).run prog w2 = .ok () (setBlock w2 b (.map es' clock'))/\LMap (setBlock w2 b (.map es' clock')) B b (addF f x i) (n+1) es' clock'/\(∀e'∈es'.toList,e'.val=val\/e'∈es.toList)/\(v0.ownBlock=none\/∃e∈es.toList,e.val=v0):=by
 obtain⟨kl,ai⟩:=Knx x (by unfold maxLen;omega) (by unfold maxLen;omega);obtain⟨v0,st,es1,clock1,h1,h2,h3⟩:=Qgl h.h h.st (Qaa h) ai;have ah:w.grownBy (setBlock w b (.map es1 clock1)) (some b):=Ken _
 have ac:w.ownsRow B 3 1 v0 (f x).length ((f x).flatMap encN):=by
  rcases h2 with ⟨e0,he0,hk0,rfl⟩ | ⟨hno,rfl⟩
  .obtain ⟨y,_,hy,_,hw⟩:=h.k e0 he0;rw[hk0]at hy;rw[Kfa hy];exact hw
  .have hf:f x = []:=by
    rcases hfx:f x with _ | ⟨a,l⟩
    .rfl
    .obtain ⟨e,he,hk⟩:=h.a x (by rw[hfx];simp);exact jS hk (hno e he)
   rw[hf];exact cR _ _ _ _
 have ae:=Kjc ac h.h;refine⟨v0,st,es1,clock1,h1,ac.kept ah (.inr ae),ae,fun w2 val hg2 hr2 hblk=>?_⟩;have ad:w2.heap[b]? = some (.map es1 clock1):=(hg2.block b (by rw[Knh];exact(cg.1 h.h).1) (db ae)).trans (Kiq _ h.h);obtain⟨es',clock',h4,h5,h6,h7⟩:=h3 w2 val ad;have af:w2.grownBy (setBlock w2 b (.map es' clock')) (some b):=Ken _
 have aa:∀e∈es.toList,e.key≠lbV x->e.val.ownBlock≠v0.ownBlock/\e.val.ownBlock≠val.ownBlock:=fun e he hk=>by
  obtain⟨y,_,hy,hf,hw⟩:=h.k e he;obtain⟨r,hr⟩:=Kwn hw (by rw[Ne,bG];exact hf)
  have q1:e.val.ownBlock≠v0.ownBlock:=by
   rcases h2 with ⟨e0,he0,hk0,rfl⟩ | ⟨_,rfl⟩
   .exact h.o e he e0 he0 (by rw[hk0];exact hk)
   .rw[hr];intro h;cases h
  refine⟨q1,fun hh=>?_⟩;rcases hblk with hv | hv
  .exact q1 (hh.trans hv)
  .rw[hr]at hh;rw[hv]at hh;injection hh with hh;have:=(hw.lt r hr).2;omega
 refine⟨es',clock',h4,⟨Kiq _ ad,h5,by have:=h.sz;omega,fun e he=>?_,fun y hy=>?_,fun e he e' he' hne=>?_⟩,fun e he=>?_,?_⟩
 .rcases (h7 e).1 he with rfl | ⟨he,hk⟩
  .refine ⟨x,hx,rfl,by simp[addF],?_⟩;have e1:addF f x i x=f x ++ [i]:=by simp[addF]
   rw[e1,bd,List.flatMap_append];have:=hr2.kept af (.inr (Kjc hr2 ad));simpa using this
  .obtain ⟨y,hz,hy,hf,hw⟩:=h.k e he
   have ab:y≠x:=by rintro rfl;exact hk hy
   have e1:addF f x i y=f y:=by simp[addF,ab]
   refine⟨y,hz,hy,by rw[e1];exact hf,?_⟩;rw[e1];have w1:=hw.kept ah (.inr (Kjc hw h.h));have ag:=w1.kept hg2 (.inr (aa e he hk).1);exact ag.kept af (.inr (Kjc ag ad))
 .by_cases ab:y=x
  .subst ab;exact⟨_,(h7 _).2 (.inl rfl),rfl⟩
  .have e1:addF f x i y=f y:=by simp[addF,ab]
   rw[e1]at hy;obtain⟨e,he,hk⟩:=h.a y hy;exact⟨e,(h7 e).2 (.inr ⟨he,by rw[hk];exact fun h=>ab (Kfa h)⟩),hk⟩
 .rcases (h7 e).1 he with rfl | ⟨he,hk⟩
  .rcases (h7 e').1 he' with rfl | ⟨he',hk'⟩
   .exact jS rfl hne
   .exact db (aa e' he' hk').2
  .rcases (h7 e').1 he' with rfl | ⟨he',hk'⟩
   .exact (aa e he hk).2
   .exact h.o e he e' he' hne
 .rcases (h7 e).1 he with rfl | ⟨he,_⟩
  .exact .inl rfl
  .exact .inr he
 .rcases h2 with ⟨e0,he0,_,rfl⟩ | ⟨_,rfl⟩
  .exact .inr ⟨e0,he0,rfl⟩
  .exact .inl rfl
end
section
open Go.RowKit
open Lib renaming hid -> Jh
open List renaming length_append -> Jd
attribute [local go_sem ↓] Go.wp_at_zero Go.wp_at_succ
attribute [local go_sem] Later.cell
theorem Qgg:(prog.info? 5).map (fun i=>(i.zero,i.size,i.bytes))=some (some (.int .u8 0),1,1):=by kernel_rfl
theorem Kzm (n:Nat) (hn:n<=64) (w:World):Calls prog 242 #[.int .i64 (n:Int)] w fun e w'=>e = .returned (.int .i64 (n:Int))/\w=w':=by
 go_enter func242,ntmps242
 go_wp2_with fail
 all_goals go_ret
 all_goals refine⟨?_,rfl⟩
 all_goals apply Qip
 all_goals omega
theorem Ksp {w:World}{B n:Nat}{T:TypeId}{v:Value}{xs:List Value}(h:w.ownsRow B T 1 v (n+1) xs):∃g c,v = .slice (some ⟨g,0,none⟩) (n+1) c:=by
 rcases h.2 with ⟨_,h2⟩ | ⟨g,cap,cur,rfl,_⟩
 .omega
 .exact ⟨g,cap,rfl⟩
theorem Qbt {base e sz n:Nat}{w0 wr w1:World}{v:Value}{xs:List Value}{o:Obj}(hwr:Below base w0 wr) (hbs:base<=wr.heap.size) (hown:wr.ownsRow base e sz v n xs) (hg:(wr.alloc o).grownBy w1 v.ownBlock):Below base w0 w1:=
 hwr.trans ⟨hg.os,hg.tape,hg.output,by have:=hg.size;simp at this;omega,fun k hk=>(hg.block k (by simp;omega) (fun e=>by have:=(hown.lt k e.symm).1;omega)).trans (Below.heap_alloc _ _ _ (by omega))⟩
theorem Kfs {w:World}{B g n cap i:Nat}{s:List UInt8}{y:UInt8}(h:w.ownsRow B 5 1 (.slice (some ⟨g,0,none⟩) n cap) n (cn s)) (hy:s.getD i 0=y) (hi:i<s.length) :
  w.cell? ⟨g,i,none⟩=some (.int .u8 (y.toNat:Int))/\w.frozen? ⟨g,i,none⟩=false:=by
 have hl:(cn s).length=n*1:=h.1;have hl2:(cn s).length=s.length:=by simp[cn]
 refine⟨?_,cI h _⟩;rw[cJ h i (by omega)];subst hy;simp[cn,hi]
theorem Kjt {w:World}{B n:Nat}{T:TypeId}{v:Value}{xs:List Value}(h:w.ownsRow B T 1 v n xs) {p:Addr}(hp:v.ownBlock≠some p.block) (u:Value):(w.setCell p u).ownsRow B T 1 v n xs:=
 h.kept (row:=some p.block) ⟨rfl,rfl,rfl,by simp[cQ],fun k _ hk=>Below.heap_setCell _ _ _ _ (fun e=>hk (by rw[e]))⟩ (.inr hp)
theorem Kfi {w w':World}{B:Nat}{T:TypeId}{sz n:Nat}{v:Value}{xs:List Value}(h:w.ownsRow B T sz v n xs) (k:Below w.heap.size w w'):w'.ownsRow B T sz v n xs:=
 h.kept (row:=none) ⟨k.os,k.tape,k.output,k.size,fun i hi _=>k.block i hi⟩ (by cases v.ownBlock <;> simp)
theorem Kmi (n:Int) (h0:0<=n) (h1:n<2 ^ 64):cM.wrap n=n:=by rw[cN];omega
theorem Qhn (n:Int) (h0:0<=n) (h1:n<2 ^ 8):cO.wrap n=n:=by rw[cP];omega
theorem Qhl (v:Nat) (h:v<2 ^ 64):bits .and .u64 (v:Int) 1=((v % 2:Nat):Int):=by have:=(bits_nat .u64 64 (by decide) Kmi v 1 h (by decide)).1;rw[show((1:Nat):Int)=1 from rfl]at this;rw[this,show(1:Nat)=2 ^ 1 - 1 from rfl,Nat.and_two_pow_sub_one_eq_mod]
theorem Kio {x k:Nat}(hx:x<2 ^ 64):(bits .and .u64 ((x:Int) / 2 ^ k) 1 == 1)=x.testBit k:=by
 have h:(x:Int) / 2 ^ k=((x / 2 ^ k:Nat):Int):=by simp
 rw[h,Nat.testBit_eq_decide_div_mod_eq,Qhl _ (bv (Nat.div_le_self _ _) hx)];rcases Nat.mod_two_eq_zero_or_one (x / 2 ^ k) with h | h <;> rw[h] <;> rfl
theorem Kpv {w:World}{B n g:Nat}{T:TypeId}{v:Value}{xs:List Value}{cs:Array Value}(h:w.ownsRow B 5 1 v n xs) (hb:Blk w g T cs) (ht:T≠5):v.ownBlock≠some g:=by
 rcases h.2 with ⟨rfl,_⟩ | ⟨g',cap,cur,rfl,_,hh,_⟩
 .intro e;cases e
 .intro e;injection e with e;have e:g'=g:=e;subst e;unfold Blk at hb;rw[hh]at hb;injection hb with hb;injection hb with _ hb;exact ht hb.symm
def WrAt (B b:Nat) (T:TypeId) (rest:List Value) (l:List Bool) (w:World):Prop:=
 B<=b/\∃v,Blk w b T (v :: .int .i64 (l.length:Int) :: rest).toArray/\w.ownsRow B 5 1 v ((l.length+7) / 8) (cn (packB l))/\v.ownBlock≠some b
theorem WrAt.lt {B b:Nat}{T:TypeId}{rest:List Value}{l:List Bool}{w:World}(h:WrAt B b T rest l w):b<w.heap.size:=by obtain⟨_,v,h,_⟩:=h;exact h.lt
theorem Qhm (y:UInt8) (k:Nat) (hk:k<256):bits .or .u8 (y.toNat:Int) (k:Int)=(((y ||| cB k).toNat:Nat):Int):=by rw[(bits_nat .u8 8 (by decide) Qhn y.toNat k (cC y) hk).2,UInt8.toNat_or,UInt8.toNat_ofNat',Nat.mod_eq_of_lt (by omega:k<2 ^ 8)]
theorem Ktb (y:UInt8) (j:Nat) (z:Int) (hz:z=128 / 2 ^ j):bits .or .u8 (y.toNat:Int) z=(((y ||| cB (128 >>> j)).toNat:Nat):Int):=by
 have h:z=((128 >>> j:Nat):Int):=by rw[hz,bs];simp
 rw[h];exact Qhm y _ (bv (bD _ _) (by decide))
section
variable {w : World}{B b g m cap : Nat}{T : TypeId}{rest : List Value}{L : List Bool}{s : List UInt8}{y : UInt8}
theorem Qam (hm:L.length=m) (hs:packB L=s) (hBb:B<=b) (hgb:g≠b) (hblk:Blk w b T (.slice (some ⟨g,0,none⟩) (m / 8+1) cap :: .int .i64 (m:Int) :: rest).toArray)
  (hrow:w.ownsRow B 5 1 (.slice (some ⟨g,0,none⟩) (m / 8+1) cap) (m / 8+1) (cn (roomB s m))) (hl:(roomB s m).length=m / 8+1) :
  WrAt B b T rest (L ++ [false]) (w.setCell ⟨b,1,none⟩ (.int .i64 ((m:Int)+1))):=by
 have hp:packB (L ++ [false])=roomB s m:=by rw[Kpm,hm,hs];rfl
 refine⟨hBb,.slice (some ⟨g,0,none⟩) (m / 8+1) cap,?_,?_,fun e=>hgb (by injection e)⟩
 .have:=hblk.set_ 1 (.int .i64 ((m:Int)+1));rw[Jd,hm];simpa using this
 .rw[hp,Jd,hm,bJ,show(m+1+7) / 8=m / 8+1 by omega];exact Kjt hrow (fun e=>hgb (by injection e)) _
theorem Qan (hm:L.length=m) (hs:packB L=s) (hBb:B<=b) (hgb:g≠b) (hblk:Blk w b T (.slice (some ⟨g,0,none⟩) (m / 8+1) cap :: .int .i64 (m:Int) :: rest).toArray)
  (hrow:w.ownsRow B 5 1 (.slice (some ⟨g,0,none⟩) (m / 8+1) cap) (m / 8+1) (cn (roomB s m))) (hy:(roomB s m).getD (m / 8) 0=y) (hl:(roomB s m).length=m / 8+1) :
  WrAt B b T rest (L ++ [true]) ((w.setCell ⟨g,m / 8,none⟩ (.int .u8 (((y ||| cB (128 >>> (m % 8))).toNat:Nat):Int))).setCell ⟨b,1,none⟩ (.int .i64 ((m:Int)+1))):=by
 have hp:packB (L ++ [true])=(roomB s m).set (m / 8) (y ||| cB (128 >>> (m % 8))):=by rw[Kpm,hm,hs,<-hy];rfl
 refine⟨hBb,.slice (some ⟨g,0,none⟩) (m / 8+1) cap,?_,?_,fun e=>hgb (by injection e)⟩
 .have:=(hblk.far (p:=⟨g,m / 8,none⟩) (fun e=>hgb e.symm) (.int .u8 (((y ||| cB (128 >>> (m % 8))).toNat:Nat):Int))).set_ 1 (.int .i64 ((m:Int)+1));rw[Jd,hm];simpa using this
 .rw[hp,Jd,hm,bJ,show(m+1+7) / 8=m / 8+1 by omega];have h1:=(cK hrow (m / 8) (.int .u8 (((y ||| cB (128 >>> (m % 8))).toNat:Nat):Int))).1
  have e:(cn (roomB s m)).set (m / 8) (.int .u8 (((y ||| cB (128 >>> (m % 8))).toNat:Nat):Int))=cn ((roomB s m).set (m / 8) (y ||| cB (128 >>> (m % 8)))):=by unfold cn;rw[List.map_set]
  rw[e]at h1;exact Kjt h1 (fun e=>hgb (by injection e)) _
end
def KeepT (b:Nat) (w w':World):Prop:=∀g T cs,Blk w g T cs->g≠b->T≠5->Blk w' g T cs
theorem KeepT.refl (b:Nat) (w:World):KeepT b w w:=fun _ _ _ h _ _=>h
theorem KeepT.trans {b:Nat}{w w1 w2:World}(h:KeepT b w w1) (k:KeepT b w1 w2):KeepT b w w2:=fun g T cs hg hb ht=>k g T cs (h g T cs hg hb ht) hb ht
theorem KeepT.of_below {b:Nat}{w w1:World}(h:Below w.heap.size w w1):KeepT b w w1:=fun _ _ _ hg _ _=>hg.below h hg.lt
theorem KeepT.grown {b:Nat}{w w1:World}{B n:Nat}{v:Value}{xs:List Value}{o:Obj}(h:w.ownsRow B 5 1 v n xs) (hg:(w.alloc o).grownBy w1 v.ownBlock):KeepT b w w1:=
 fun g T cs hb _ ht=>(hb.alloc o).grown hg (fun e=>Kpv h hb ht e.symm)
theorem KeepT.own {b i:Nat}{w:World}{u:Value}:KeepT b w (w.setCell ⟨b,i,none⟩ u):=fun _ _ _ hb hne _=>hb.far (p:=⟨b,i,none⟩) hne _
theorem KeepT.row {b g cap B n m i:Nat}{w:World}{u:Value}{xs:List Value}(h:w.ownsRow B 5 1 (.slice (some ⟨g,0,none⟩) m cap) n xs):KeepT b w (w.setCell ⟨g,i,none⟩ u):=
 fun k T cs hb _ ht=>hb.far (p:=⟨g,i,none⟩) (fun e=>Kpv h hb ht (by rw[e];rfl)) _
theorem Kbl (B b:Nat) (T:TypeId) (rest:List Value) (l:List Bool) (x n:Nat) (w:World) (h:WrAt B b T rest l w) (hn:n<=64) (hlen:l.length<=1099511627776) (hx:x<2 ^ 64) (hB:B<=w.heap.size) :
  Calls prog 199 #[.pointer (some ⟨b,0,none⟩),.int .u64 (x:Int),.int .i64 (n:Int)] w fun e w'=>e = .returned (.tuple #[])/\WrAt B b T rest (l++putN x n) w'/\Below B w w'/\KeepT b w w':=by
 obtain⟨i0,aR,aU,aP,aQ⟩:=info_parts Qgg;have H:=Jh h;clear h;go_enter func199,ntmps199
 go_wp2_with fail
 refine(Kzm n hn w).mono ?_;rintro _ _ ⟨rfl,rfl⟩;go_wp2_with fail
 go_loopg [2] n (fun k s2 wr=>s2 = .int .i64 (k:Int)/\∃d,d++putN x k=putN x n/\WrAt B b T rest (l++d) wr/\Below B w wr/\KeepT b w wr)
 case atStart=>exact⟨rfl,[],rfl,by simpa using H.out,Below.refl _ _,KeepT.refl _ _⟩
 case round=>
  obtain⟨rfl,d,hd,hw,hb,aL⟩:=hrel;have aA:=Jh aL;clear aL;obtain⟨am,v,aa,ab,az⟩:=hw
  cases gk with
  | zero=>
   have HD:=Jh hd;clear hd;go_wp2_with fail
   go_end0
   rw[putN,List.append_nil]at HD;refine⟨rfl,?_,hb,aA.out⟩;rw[<-HD.out];exact⟨am,v,aa,ab,az⟩
  | succ k=>
   obtain⟨m,hm⟩:=jF ((l++d).length);obtain⟨s,hs⟩:=jF (packB (l++d));have aM:=jR bA hd;rw[Jd,Kbi,Kbi]at aM
   have hml:m<=1099511627840:=by rw[Jd]at hm;omega
   have hk:k<64:=by omega
   clear aM;have aV:B<=wr.heap.size:=aX hB hb.size;have av:B<=w.heap.size:=hB;have HM:=Jh hm;have HS:=Jh hs;have HD:=Jh hd;have aI:=Jh hb;have HBK:=Jh aa;rw[hm,hs]at ab;rw[hm]at aa;have c0:wr.cell? ⟨b,0,none⟩=some v:=aa.cell 0;have c1:wr.cell? ⟨b,1,none⟩=some (.int .i64 (m:Int)):=aa.cell 1;have z0:=aa.frozen 0;have z1:=aa.frozen 1;clear hd hm hs hb;have aJ:s.length=(m+7) / 8:=by rw[<-HS.out,(Kfr (l++d)).len,HM.out]
   by_cases h8:m % 8=0
   .have e8:((m:Int) % 8 == 0)=true:=by simp;omega
    go_wp2_with (at_builtin;refine wpList_append_own_at _ rfl _ _ 76 rfl B 5 i0 (.int .u8 0) 1 1 underlying76 aR aU aP aQ rfl (by decide) _ _ _ rfl (cL ab _) ⟨wr.heap.size,0,none⟩ 1 1 [.int .u8 0] rfl rfl ?c1 ?c2 ?c3 ?c4 ?c5 ?_)
    case c1=>exact Kam (l:=[.int .u8 0]) (c9 wr _ _)
    case c2=>intro u hu;rw[List.mem_singleton.1 hu];rfl
    case c3=>unfold maxLen;omega
    case c4=>omega
    case c5=>simp;omega
    intro v' w1 hown' hgrow hx1 hat;have ay:roomB s m=s ++ [0]:=jN h8
    have aq:w1.ownsRow B 5 1 v' (m / 8+1) (cn (roomB s m)):=by rw[ay,show m / 8+1=(m+7) / 8+1 by omega,show cn (s ++ [0])=cn s ++ [.int .u8 0] by simp[cn]];exact hown'
    have aK:Below B w w1:=Qbt aI.out aV ab hgrow;have aN:=Jh (aA.out.trans (KeepT.grown (b:=b) ab hgrow));have ah:Blk w1 b T (v :: .int .i64 (m:Int) :: rest).toArray:=(aa.alloc _).grown hgrow (fun e=>az e.symm)
    have ax:v'.ownBlock≠some b:=by
     rcases hat with e | e
     .rw[e];exact az
     .rw[e];intro e2;injection e2 with e2;have:=aa.lt;omega
    obtain⟨g,al,rfl⟩:=Ksp aq;clear hown' hgrow hat hx1 c0 c1 z0 z1;have c0:w1.cell? ⟨b,0,none⟩=some v:=ah.cell 0;have z0:=ah.frozen 0;go_upto_region 6 with fail
    have aj:(roomB s m).length=m / 8+1:=Klr aJ;have ac:Blk (w1.setCell ⟨b,0,none⟩ (.slice (some ⟨g,0,none⟩) (m / 8+1) al)) b T (.slice (some ⟨g,0,none⟩) (m / 8+1) al :: .int .i64 (m:Int) :: rest).toArray:=by simpa using ah.set_ 0 (.slice (some ⟨g,0,none⟩) (m / 8+1) al)
    have ad:=Kjt aq (p:=⟨b,0,none⟩) ax (.slice (some ⟨g,0,none⟩) (m / 8+1) al);have aF:Below B w (w1.setCell ⟨b,0,none⟩ (.slice (some ⟨g,0,none⟩) (m / 8+1) al)):=aK.setCell (p:=⟨b,0,none⟩) am _;have aE:KeepT b w (w1.setCell ⟨b,0,none⟩ (.slice (some ⟨g,0,none⟩) (m / 8+1) al)):=aN.out.trans KeepT.own;obtain⟨w2,aB⟩:=jF (w1.setCell ⟨b,0,none⟩ (.slice (some ⟨g,0,none⟩) (m / 8+1) al));rw[aB]at ac ad aF aE;have aw:=Jh aE;clear aE;rw[aB];clear aB ah aq aK c0 z0 aa ab;have an:=Jh aF;have ag:=Jh ac;have ai:=Jh ad;have ap:g≠b:=fun e=>ax (by rw[e];rfl)
    have aO:b≠g:=fun e=>ap e.symm
    obtain⟨y,hy⟩:∃y:UInt8,(roomB s m).getD (m / 8) 0=y:=⟨_,rfl⟩;have ao:=Kfs ad hy (by omega);have HY:=Jh hy;clear hy;have c2:=ao.1;have z2:=ao.2;clear ao;have c0:_=some (Value.slice (some ⟨g,0,none⟩) (m / 8+1) al):=ac.cell 0;have c1:_=some (Value.int .i64 (m:Int)):=ac.cell 1;have z1:=ac.frozen 1;have aS:=ac.lt;have aT:=(cH ad g rfl).2;have aC:=(cH ad g rfl).1;clear aF ac ad
    cases hbt:x.testBit k with
    | true=>
     have ar:(bits .and .u64 ((x:Int) / 2 ^ k) 1 == 1)=true:=by rw[Kio hx,hbt]
     go_upto_region 7 with fail
     refine Kal 19 (by kernel_rfl) (by kernel_rfl) ?_;simp only[a8,bf,bc,bg]
     repeat (go_big_quiet_step (fail))
     refine dc ?_;rintro w3 ⟨⟨_,ak⟩,rfl⟩;have ae:=Jh (Kfi ai.out ak);have af:=Jh (ag.out.below ak ag.out.lt);have aD:=Jh (an.out.trans (ak.mono (aX av an.out.size)));have aH:=Jh (aw.out.trans (KeepT.of_below (b:=b) ak));have c1:w3.cell? ⟨b,1,none⟩=_:=af.out.cell 1;have z1:=af.out.frozen 1;have c2:=(Kfs ae.out HY.out (by omega)).1;have z2:=(Kfs ae.out HY.out (by omega)).2;clear ak c0;go_wp2_with fail
     go_roundg k
     case measure=>omega
     case rel=>
      have aG:bits .or .u8 (y.toNat:Int) 128=(((y ||| cB (128 >>> (m % 8))).toNat:Nat):Int):=Ktb y (m % 8) _ (by rw[h8];rfl);rw[aG];refine⟨by go_num,d ++ [true],by rw[aY,<-HD.out,putN,hbt];rfl,?_,(aD.out.setCell (p:=⟨g,m / 8,none⟩) aC _).setCell (p:=⟨b,1,none⟩) am _,(aH.out.trans (KeepT.row ae.out)).trans KeepT.own⟩;rw[<-aY];exact Qan HM.out HS.out am ap af.out ae.out HY.out aj
    | false=>
     have ar:(bits .and .u64 ((x:Int) / 2 ^ k) 1 == 1)=false:=by rw[Kio hx,hbt]
     go_wp2_with fail
     go_roundg k
     case measure=>omega
     case rel=>
      refine⟨by go_num,d ++ [false],by rw[aY,<-HD.out,putN,hbt];rfl,?_,an.out.setCell (p:=⟨b,1,none⟩) am _,aw.out.trans KeepT.own⟩;rw[<-aY];exact Qam HM.out HS.out am ap ag.out ai.out aj
   .have e8:((m:Int) % 8 == 0)=false:=by simp;omega
    obtain⟨q,hq⟩:∃q,(m+7) / 8=q+1:=⟨(m+7) / 8 - 1,by omega⟩;obtain rfl:q=m / 8:=by omega
    rw[hq]at ab;obtain⟨g,al,rfl⟩:=Ksp ab;go_upto_region 6 with fail
    have ay:roomB s m=s:=jM h8;have aj:(roomB s m).length=m / 8+1:=Klr aJ;have an:=Jh aI.out;have aw:=Jh aA.out;have ag:=Jh aa;have ai:Hid (wr.ownsRow B 5 1 (.slice (some ⟨g,0,none⟩) (m / 8+1) al) (m / 8+1) (cn (roomB s m))):=Jh (by rw[ay];exact ab);have ap:g≠b:=fun e=>az (by rw[e];rfl)
    have aO:b≠g:=fun e=>ap e.symm
    obtain⟨y,hy⟩:∃y:UInt8,(roomB s m).getD (m / 8) 0=y:=⟨_,rfl⟩;have ao:=Kfs ai.out hy (by omega);have HY:=Jh hy;clear hy;have c2:=ao.1;have z2:=ao.2;clear ao;have aS:=aa.lt;have aT:=(cH ab g rfl).2;have aC:=(cH ab g rfl).1;clear aa ab ay hq
    cases hbt:x.testBit k with
    | true=>
     have ar:(bits .and .u64 ((x:Int) / 2 ^ k) 1 == 1)=true:=by rw[Kio hx,hbt]
     go_upto_region 7 with fail
     refine Kal 19 (by kernel_rfl) (by kernel_rfl) ?_;simp only[a8,bf,bc,bg]
     repeat (go_big_quiet_step (fail))
     refine dc ?_;rintro w3 ⟨⟨_,ak⟩,rfl⟩;have ae:=Jh (Kfi ai.out ak);have af:=Jh (ag.out.below ak ag.out.lt);have aD:=Jh (an.out.trans (ak.mono (aX av an.out.size)));have aH:=Jh (aw.out.trans (KeepT.of_below (b:=b) ak));have c1:w3.cell? ⟨b,1,none⟩=_:=af.out.cell 1;have z1:=af.out.frozen 1;have c2:=(Kfs ae.out HY.out (by omega)).1;have z2:=(Kfs ae.out HY.out (by omega)).2;clear ak c0;go_wp2_with fail
     go_roundg k
     case measure=>omega
     case rel=>
      have aG:bits .or .u8 (y.toNat:Int) (128 / 2 ^ (m % 8))=(((y ||| cB (128 >>> (m % 8))).toNat:Nat):Int):=Ktb y (m % 8) _ rfl;rw[aG];refine⟨by go_num,d ++ [true],by rw[aY,<-HD.out,putN,hbt];rfl,?_,(aD.out.setCell (p:=⟨g,m / 8,none⟩) aC _).setCell (p:=⟨b,1,none⟩) am _,(aH.out.trans (KeepT.row ae.out)).trans KeepT.own⟩;rw[<-aY];exact Qan HM.out HS.out am ap af.out ae.out HY.out aj
    | false=>
     have ar:(bits .and .u64 ((x:Int) / 2 ^ k) 1 == 1)=false:=by rw[Kio hx,hbt]
     go_wp2_with fail
     go_roundg k
     case measure=>omega
     case rel=>
      refine⟨by go_num,d ++ [false],by rw[aY,<-HD.out,putN,hbt];rfl,?_,an.out.setCell (p:=⟨b,1,none⟩) am _,aw.out.trans KeepT.own⟩;rw[<-aY];exact Qam HM.out HS.out am ap ag.out ai.out aj
end
section
open Go.RowKit
theorem Kgo {fn:Func}{p:Tmp}{t:TypeId}(h:fn.results = #[.cell p t]) (tmps:Array Value) (w:World) (a:Addr) (x:Value)
  (hp:tmps.getD p undef = .pointer (some a)) (hx:(loadVar t a).run prog w = .ok x w) :
  (results fn tmps).run prog w = .ok x w:=by
 have aa:tmps[p]?.getD undef = .pointer (some a):=by simpa using hp
 simp only[results,h];simp[Sem.run_bind,cZ,asAddr,aa,hx]
theorem Kbx {fn:Func}{p q:Tmp}{t:TypeId}(h:fn.results = #[.cell p t,.tmp q]) (tmps:Array Value) (w:World) (a:Addr) (x:Value)
  (hp:tmps.getD p undef = .pointer (some a)) (hx:(loadVar t a).run prog w = .ok x w) :
  (results fn tmps).run prog w = .ok (.tuple #[x,tmps.getD q undef]) w:=by
 have aa:tmps[p]?.getD undef = .pointer (some a):=by simpa using hp
 simp only[results,h];simp[Sem.run_bind,cZ,asAddr,aa,hx]
end
section
open Go.RowKit
open Lib renaming hid -> Jh
attribute [local go_sem ↓] Go.wp_at_zero Go.wp_at_succ
attribute [local go_sem] Later.cell
def restC (c:Cst):List Value:=[.int .i64 (c.n:Int),.int .i64 c.last.t,.int .u64 (c.last.v:Int),.int .i64 c.step,.int .i64 (c.lead:Int),.int .i64 (c.tail:Int),.bool c.window]
def ChAt (B b:Nat) (c:Cst) (l:List Bool) (w:World):Prop:=WrAt B b 271 (restC c) l w
theorem WrAt.far {B b:Nat}{T:TypeId}{rest:List Value}{l:List Bool}{w:World}(h:WrAt B b T rest l w) {w':World}(hb:Below w.heap.size w w'):WrAt B b T rest l w':=by obtain⟨h0,v,h1,h2,h3⟩:=h;exact⟨h0,v,h1.below hb h1.lt,Kfi h2 hb,h3⟩
theorem WrAt.rest_set {B b:Nat}{T:TypeId}{rest:List Value}{l:List Bool}{w:World}(h:WrAt B b T rest l w) (i:Nat) (u:Value):WrAt B b T (rest.set i u) l (w.setCell ⟨b,i+2,none⟩ u):=by obtain⟨h0,v,h1,h2,h3⟩:=h;refine⟨h0,v,?_,Kjt h2 h3 _,h3⟩;have:=h1.set_ (i+2) u;simpa using this
theorem ChAt.cells {B b:Nat}{c:Cst}{l:List Bool}{w:World}(h:ChAt B b c l w) :
  w.cell? ⟨b,2,none⟩=some (.int .i64 (c.n:Int))/\w.cell? ⟨b,3,none⟩=some (.int .i64 c.last.t)/\w.cell? ⟨b,4,none⟩=some (.int .u64 (c.last.v:Int))/\w.cell? ⟨b,5,none⟩=some (.int .i64 c.step)/\
  w.cell? ⟨b,6,none⟩=some (.int .i64 (c.lead:Int))/\w.cell? ⟨b,7,none⟩=some (.int .i64 (c.tail:Int))/\w.cell? ⟨b,8,none⟩=some (.bool c.window)/\∀i,w.frozen? ⟨b,i,none⟩=false:=by
 obtain⟨h0,v,h1,h2,h3⟩:=h;exact⟨h1.cell 2,h1.cell 3,h1.cell 4,h1.cell 5,h1.cell 6,h1.cell 7,h1.cell 8,h1.frozen⟩
theorem Kgl (z:Int):cM.wrap z=((u64N z:Nat):Int):=by rw[cN];unfold u64N;omega
theorem Kji (z:Int):u64N z<2 ^ 64:=by unfold u64N;omega
theorem Kzf (w:World):Calls prog 243 #[] w fun e w'=>e = .returned (.agg #[.int .u64 2,.int .i64 2,.int .i64 7,.int .u64 6,.int .i64 3,.int .i64 9,.int .u64 14,.int .i64 4,.int .i64 12,.int .u64 15,.int .i64 4,.int .i64 64])/\Below w.heap.size w w':=by
 go_enter func243,ntmps243
 go_wp2_with fail
 refine bodyPost_ret (Kgo rfl _ _ ⟨w.heap.size,0,none⟩ _ rfl (run_loadVar_row _ w.heap.size 335 335 _ (0,0) _ (heap_alloc_new w _) underlying335 rfl (by kernel_rfl))) rfl ?_;exact⟨rfl,(Below.refl _ _).alloc (aZ _) _⟩
def Klx:Value:=.agg #[.int .u64 2,.int .i64 2,.int .i64 7,.int .u64 6,.int .i64 3,.int .i64 9,.int .u64 14,.int .i64 4,.int .i64 12,.int .u64 15,.int .i64 4,.int .i64 64]
theorem size0 (w:World):(cz 335 Klx (.int .i64 0)).run prog w = .ok (.agg #[.int .u64 2,.int .i64 2,.int .i64 7]) w:=by kernel_rfl
theorem size1 (w:World):(cz 335 Klx (.int .i64 1)).run prog w = .ok (.agg #[.int .u64 6,.int .i64 3,.int .i64 9]) w:=by kernel_rfl
theorem size2 (w:World):(cz 335 Klx (.int .i64 2)).run prog w = .ok (.agg #[.int .u64 14,.int .i64 4,.int .i64 12]) w:=by kernel_rfl
theorem size3 (w:World):(cz 335 Klx (.int .i64 3)).run prog w = .ok (.agg #[.int .u64 15,.int .i64 4,.int .i64 64]) w:=by kernel_rfl
theorem Qco (B b:Nat) (c:Cst) (l:List Bool) (st:Int) (w:World) (h:ChAt B b c l w) (h1:-1125899906842624<=c.step) (h2:c.step<=1125899906842624) (h3:-1125899906842624<=st) (h4:st<=1125899906842624) (hlen:l.length<=1099511627000) (hB:B<=w.heap.size) :
  Calls prog 200 #[.pointer (some ⟨b,0,none⟩),.int .i64 st] w fun e w'=>e = .returned (.tuple #[])/\ChAt B b { c with step:=st } (l++Kcs (st - c.step)) w'/\Below B w w'/\KeepT b w w':=by
 have hc:=h.cells;have c3:=hc.2.2.2.1;have z3:=hc.2.2.2.2.2.2.2 5;have H:=Jh h;have H0:=Jh h.1;clear h hc;have hw:wrap64 (st - c.step)=st - c.step:=by unfold wrap64;omega
 obtain⟨ch,aL⟩:=jF (st - c.step);rw[aL]at hw |-;have b1:-2251799813685248<=ch:=by omega
 have b2:ch<=2251799813685248:=by omega
 have HCH:=Jh aL;go_enter func200,ntmps200
 go_upto_region 2 with fail
 have H1:Hid (ChAt B b { c with step:=st } l (w.setCell ⟨b,5,none⟩ (.int .i64 st))):=Jh (H.out.rest_set 3 _);have aF:Hid (Below B w (w.setCell ⟨b,5,none⟩ (.int .i64 st))):=Jh ((Below.refl _ _).setCell (p:=⟨b,5,none⟩) H0.out _);have aE:Hid (KeepT b w (w.setCell ⟨b,5,none⟩ (.int .i64 st))):=Jh KeepT.own;have aD:B<=(w.setCell ⟨b,5,none⟩ (.int .i64 st)).heap.size:=by simpa[cQ]using hB
 obtain⟨w1,aJ⟩:=jF (w.setCell ⟨b,5,none⟩ (.int .i64 st));rw[aJ]at H1 aF aE aD;rw[aJ];clear aJ c3 z3 hw
 by_cases h0:ch=0
 .subst h0;go_wp2_with fail
  refine(Kbl B b _ _ l 0 1 w1 H1.out (by omega) (by omega) (by decide) aD).mono ?_;rintro _ w2 ⟨rfl,h5,h6,ad⟩;go_wp2_with fail
  refine bodyPost_ret (results_none rfl _ _ _) rfl ?_;exact⟨rfl,h5,aF.out.trans h6,aE.out.trans ad⟩
 .have e0:(ch == 0)=false:=by simp[h0]
  have aC:=Jh h0;go_wp2_with fail
  refine(Kzf w1).mono ?_;rintro _ w2 ⟨rfl,aB⟩;obtain⟨vs,aG⟩:=jF Klx;have i0:=size0;have i1:=size1;have i2:=size2;have i3:=size3;rw[aG]at i0 i1 i2 i3;rw[show(cG #[.int .u64 2,.int .i64 2,.int .i64 7,.int .u64 6,.int .i64 3,.int .i64 9,.int .u64 14,.int .i64 4,.int .i64 12,.int .u64 15,.int .i64 4,.int .i64 64])=vs from aG];clear aG;have H2:Hid (ChAt B b { c with step:=st } l w2):=Jh (H1.out.far aB);have aO:=Jh (aF.out.trans (aB.mono aD));have aQ:=Jh (aE.out.trans (KeepT.of_below (b:=b) aB));have aP:B<=w2.heap.size:=aX aD aB.size;clear aB;go_wp2_with fail
  go_loopg [25] 4 (fun g s25 wr=>∃i:Nat,i+g=4/\s25 = .int .i64 (i:Int)/\(1<=i->¬(-64<=ch/\ch<64))/\(2<=i->¬(-256<=ch/\ch<256))/\(3<=i->¬(-2048<=ch/\ch<2048))/\i<=3/\ChAt B b { c with step:=st } l wr/\Below B w wr/\KeepT b w wr)
  case atStart=>exact⟨0,rfl,rfl,by omega,by omega,by omega,by omega,H2.out,aO.out,aQ.out⟩
  case round=>
   obtain⟨i,hi,rfl,n1,n2,n3,h3,aM,aH,aK⟩:=hrel;have al:=Jh aK;clear aK;have N1:=Jh n1;have N2:=Jh n2;have N3:=Jh n3;have HC:=Jh aM;have am:=Jh aH;have ag:B<=wr.heap.size:=aX hB aH.size;clear n1 n2 n3 aM aH;rcases (by omega:i=0\/i=1\/i=2\/i=3) with rfl | rfl | rfl | rfl
   .obtain rfl:gk=4:=by omega
    by_cases hf:-64<=ch/\ch<64
    .have f1:decide (-64<=ch)=true:=by simp;omega
     have f2:decide (ch<64)=true:=by simp;omega
     have f3:=hf.1;have f4:=hf.2;go_upto_region 9 with fail
     have aa:Blk (wr.alloc (.cells #[.int .u64 2,.int .i64 2,.int .i64 7] 334)) wr.heap.size 334 #[.int .u64 2,.int .i64 2,.int .i64 7]:=c9 _ _ _;have ha:Below wr.heap.size wr (wr.alloc (.cells #[.int .u64 2,.int .i64 2,.int .i64 7] 334)):=(Below.refl _ _).alloc (aZ _) _;obtain⟨w3,af⟩:=jF (wr.alloc (.cells #[.int .u64 2,.int .i64 2,.int .i64 7] 334));obtain⟨q,hq⟩:=jF wr.heap.size;rw[af]at aa ha;rw[af];rw[hq]at aa;have aA:q≠b:=by have:=HC.out.lt;omega
     rw[hq];have HQ:=Jh hq;have ay:=Jh aa;have HA:=Jh ha;clear af hq ha;have s0:w3.cell? ⟨q,0,none⟩=_:=aa.cell 0;have s1:w3.cell? ⟨q,1,none⟩=_:=aa.cell 1;have sl:=aa.lt;clear aa;refine Kal 7 (by kernel_rfl) (by kernel_rfl) ?_;simp only[a8,bf,bc,bg]
     repeat (go_big_quiet_step (fail))
     refine dc ?_;rintro w4 ⟨⟨_,ae⟩,rfl⟩;have ac:=Jh (then_ HA.out ae);have ao:=Jh (am.out.trans (ac.out.mono ag));have aj:=Jh (ay.out.below ae sl);have ak:B<=w4.heap.size:=aX ag ac.out.size;have aw:=Jh (al.out.trans (KeepT.of_below (b:=b) ac.out));clear s0 s1 sl ae;go_wp2_with fail
     refine(Kbl B b _ _ l 2 2 w4 (HC.out.far ac.out) (by decide) (by omega) (by decide) ak).mono ?_;rintro _ w5 ⟨rfl,h5,h6,ad⟩;have aI:q<w4.heap.size:=aj.out.lt;have H5:=Jh h5;have H6:=Jh h6;have an:=Jh (ao.out.trans h6);have ah:B<=w5.heap.size:=aX ak h6.size;have ai:Hid (Blk w5 q 334 #[.int .u64 2,.int .i64 2,.int .i64 7]):=Jh (ad _ _ _ aj.out (fun e=>aA e) (by decide));have aq:=Jh (aw.out.trans ad);clear h5 h6 ad;go_upto_region 10 with fail
     have s2:w5.cell? ⟨q,2,none⟩=_:=ai.out.cell 2;have sl:=ai.out.lt;refine Kal 7 (by kernel_rfl) (by kernel_rfl) ?_;simp only[a8,bf,bc,bg]
     repeat (go_big_quiet_step (fail))
     refine dc ?_;rintro w6 ⟨⟨_,ab⟩,rfl⟩;rw[Kgl];have H7:=Jh (WrAt.far H5.out ab);have ap:=Jh (aq.out.trans (KeepT.of_below (b:=b) ab));have ar:=Jh (an.out.trans (ab.mono ah));have av:B<=w6.heap.size:=aX ah ab.size;clear s2 sl ab;go_wp2_with fail
     refine(Kbl B b _ _ (l++putN 2 2) (u64N ch) 7 w6 H7.out (by decide) (by rw[bd,Kbi];omega) (Kji _) av).mono ?_;rintro _ w7 ⟨rfl,h8,h9,az⟩;go_wp2_with fail
     refine bodyPost_ret (results_none rfl _ _ _) rfl ?_;refine⟨rfl,?_,ar.out.trans h9,ap.out.trans az⟩;rw[aY]at h8
     have ax:Kcs ch=putN 2 2++putN (u64N ch) 7:=by unfold Kcs;rw[jM aC.out,jN hf]
     rw[ax];exact h8
    .by_cases hf1:-64<=ch
     .have aN:¬ch<64:=fun h=>hf ⟨hf1,h⟩
      have f1:decide (-64<=ch)=true:=by simp;omega
      have f2:decide (ch<64)=false:=by simp;omega
      go_wp2_with fail
      go_roundg 3
      case measure=>omega
      case rel=>exact⟨1,rfl,rfl,fun _=>hf,by omega,by omega,by omega,HC.out.far ((Below.refl _ _).alloc (aZ _) _),am.out.trans ((Below.refl _ _).alloc ag _),al.out.trans (KeepT.of_below ((Below.refl _ _).alloc (aZ _) _))⟩
     .have f1:decide (-64<=ch)=false:=by simp;omega
      go_wp2_with fail
      go_roundg 3
      case measure=>omega
      case rel=>exact⟨1,rfl,rfl,fun _=>hf,by omega,by omega,by omega,HC.out.far ((Below.refl _ _).alloc (aZ _) _),am.out.trans ((Below.refl _ _).alloc ag _),al.out.trans (KeepT.of_below ((Below.refl _ _).alloc (aZ _) _))⟩
   .obtain rfl:gk=3:=by omega
    by_cases hf:-256<=ch/\ch<256
    .have f1:decide (-256<=ch)=true:=by simp;omega
     have f2:decide (ch<256)=true:=by simp;omega
     have f3:=hf.1;have f4:=hf.2;go_upto_region 9 with fail
     have aa:Blk (wr.alloc (.cells #[.int .u64 6,.int .i64 3,.int .i64 9] 334)) wr.heap.size 334 #[.int .u64 6,.int .i64 3,.int .i64 9]:=c9 _ _ _;have ha:Below wr.heap.size wr (wr.alloc (.cells #[.int .u64 6,.int .i64 3,.int .i64 9] 334)):=(Below.refl _ _).alloc (aZ _) _;obtain⟨w3,af⟩:=jF (wr.alloc (.cells #[.int .u64 6,.int .i64 3,.int .i64 9] 334));obtain⟨q,hq⟩:=jF wr.heap.size;rw[af]at aa ha;rw[af];rw[hq]at aa;have aA:q≠b:=by have:=HC.out.lt;omega
     rw[hq];have HQ:=Jh hq;have ay:=Jh aa;have HA:=Jh ha;clear af hq ha;have s0:w3.cell? ⟨q,0,none⟩=_:=aa.cell 0;have s1:w3.cell? ⟨q,1,none⟩=_:=aa.cell 1;have sl:=aa.lt;clear aa;refine Kal 7 (by kernel_rfl) (by kernel_rfl) ?_;simp only[a8,bf,bc,bg]
     repeat (go_big_quiet_step (fail))
     refine dc ?_;rintro w4 ⟨⟨_,ae⟩,rfl⟩;have ac:=Jh (then_ HA.out ae);have ao:=Jh (am.out.trans (ac.out.mono ag));have aj:=Jh (ay.out.below ae sl);have ak:B<=w4.heap.size:=aX ag ac.out.size;have aw:=Jh (al.out.trans (KeepT.of_below (b:=b) ac.out));clear s0 s1 sl ae;go_wp2_with fail
     refine(Kbl B b _ _ l 6 3 w4 (HC.out.far ac.out) (by decide) (by omega) (by decide) ak).mono ?_;rintro _ w5 ⟨rfl,h5,h6,ad⟩;have aI:q<w4.heap.size:=aj.out.lt;have H5:=Jh h5;have H6:=Jh h6;have an:=Jh (ao.out.trans h6);have ah:B<=w5.heap.size:=aX ak h6.size;have ai:Hid (Blk w5 q 334 #[.int .u64 6,.int .i64 3,.int .i64 9]):=Jh (ad _ _ _ aj.out (fun e=>aA e) (by decide));have aq:=Jh (aw.out.trans ad);clear h5 h6 ad;go_upto_region 10 with fail
     have s2:w5.cell? ⟨q,2,none⟩=_:=ai.out.cell 2;have sl:=ai.out.lt;refine Kal 7 (by kernel_rfl) (by kernel_rfl) ?_;simp only[a8,bf,bc,bg]
     repeat (go_big_quiet_step (fail))
     refine dc ?_;rintro w6 ⟨⟨_,ab⟩,rfl⟩;rw[Kgl];have H7:=Jh (WrAt.far H5.out ab);have ap:=Jh (aq.out.trans (KeepT.of_below (b:=b) ab));have ar:=Jh (an.out.trans (ab.mono ah));have av:B<=w6.heap.size:=aX ah ab.size;clear s2 sl ab;go_wp2_with fail
     refine(Kbl B b _ _ (l++putN 6 3) (u64N ch) 9 w6 H7.out (by decide) (by rw[bd,Kbi];omega) (Kji _) av).mono ?_;rintro _ w7 ⟨rfl,h8,h9,az⟩;go_wp2_with fail
     refine bodyPost_ret (results_none rfl _ _ _) rfl ?_;refine⟨rfl,?_,ar.out.trans h9,ap.out.trans az⟩;rw[aY]at h8
     have ax:Kcs ch=putN 6 3++putN (u64N ch) 9:=by unfold Kcs;rw[jM aC.out,jM (N1.out (by decide)),jN hf]
     rw[ax];exact h8
    .by_cases hf1:-256<=ch
     .have aN:¬ch<256:=fun h=>hf ⟨hf1,h⟩
      have f1:decide (-256<=ch)=true:=by simp;omega
      have f2:decide (ch<256)=false:=by simp;omega
      go_wp2_with fail
      go_roundg 2
      case measure=>omega
      case rel=>exact⟨2,rfl,rfl,fun _=>N1.out (by decide),fun _=>hf,by omega,by omega,HC.out.far ((Below.refl _ _).alloc (aZ _) _),am.out.trans ((Below.refl _ _).alloc ag _),al.out.trans (KeepT.of_below ((Below.refl _ _).alloc (aZ _) _))⟩
     .have f1:decide (-256<=ch)=false:=by simp;omega
      go_wp2_with fail
      go_roundg 2
      case measure=>omega
      case rel=>exact⟨2,rfl,rfl,fun _=>N1.out (by decide),fun _=>hf,by omega,by omega,HC.out.far ((Below.refl _ _).alloc (aZ _) _),am.out.trans ((Below.refl _ _).alloc ag _),al.out.trans (KeepT.of_below ((Below.refl _ _).alloc (aZ _) _))⟩
   .obtain rfl:gk=2:=by omega
    by_cases hf:-2048<=ch/\ch<2048
    .have f1:decide (-2048<=ch)=true:=by simp;omega
     have f2:decide (ch<2048)=true:=by simp;omega
     have f3:=hf.1;have f4:=hf.2;go_upto_region 9 with fail
     have aa:Blk (wr.alloc (.cells #[.int .u64 14,.int .i64 4,.int .i64 12] 334)) wr.heap.size 334 #[.int .u64 14,.int .i64 4,.int .i64 12]:=c9 _ _ _;have ha:Below wr.heap.size wr (wr.alloc (.cells #[.int .u64 14,.int .i64 4,.int .i64 12] 334)):=(Below.refl _ _).alloc (aZ _) _;obtain⟨w3,af⟩:=jF (wr.alloc (.cells #[.int .u64 14,.int .i64 4,.int .i64 12] 334));obtain⟨q,hq⟩:=jF wr.heap.size;rw[af]at aa ha;rw[af];rw[hq]at aa;have aA:q≠b:=by have:=HC.out.lt;omega
     rw[hq];have HQ:=Jh hq;have ay:=Jh aa;have HA:=Jh ha;clear af hq ha;have s0:w3.cell? ⟨q,0,none⟩=_:=aa.cell 0;have s1:w3.cell? ⟨q,1,none⟩=_:=aa.cell 1;have sl:=aa.lt;clear aa;refine Kal 7 (by kernel_rfl) (by kernel_rfl) ?_;simp only[a8,bf,bc,bg]
     repeat (go_big_quiet_step (fail))
     refine dc ?_;rintro w4 ⟨⟨_,ae⟩,rfl⟩;have ac:=Jh (then_ HA.out ae);have ao:=Jh (am.out.trans (ac.out.mono ag));have aj:=Jh (ay.out.below ae sl);have ak:B<=w4.heap.size:=aX ag ac.out.size;have aw:=Jh (al.out.trans (KeepT.of_below (b:=b) ac.out));clear s0 s1 sl ae;go_wp2_with fail
     refine(Kbl B b _ _ l 14 4 w4 (HC.out.far ac.out) (by decide) (by omega) (by decide) ak).mono ?_;rintro _ w5 ⟨rfl,h5,h6,ad⟩;have aI:q<w4.heap.size:=aj.out.lt;have H5:=Jh h5;have H6:=Jh h6;have an:=Jh (ao.out.trans h6);have ah:B<=w5.heap.size:=aX ak h6.size;have ai:Hid (Blk w5 q 334 #[.int .u64 14,.int .i64 4,.int .i64 12]):=Jh (ad _ _ _ aj.out (fun e=>aA e) (by decide));have aq:=Jh (aw.out.trans ad);clear h5 h6 ad;go_upto_region 10 with fail
     have s2:w5.cell? ⟨q,2,none⟩=_:=ai.out.cell 2;have sl:=ai.out.lt;refine Kal 7 (by kernel_rfl) (by kernel_rfl) ?_;simp only[a8,bf,bc,bg]
     repeat (go_big_quiet_step (fail))
     refine dc ?_;rintro w6 ⟨⟨_,ab⟩,rfl⟩;rw[Kgl];have H7:=Jh (WrAt.far H5.out ab);have ap:=Jh (aq.out.trans (KeepT.of_below (b:=b) ab));have ar:=Jh (an.out.trans (ab.mono ah));have av:B<=w6.heap.size:=aX ah ab.size;clear s2 sl ab;go_wp2_with fail
     refine(Kbl B b _ _ (l++putN 14 4) (u64N ch) 12 w6 H7.out (by decide) (by rw[bd,Kbi];omega) (Kji _) av).mono ?_;rintro _ w7 ⟨rfl,h8,h9,az⟩;go_wp2_with fail
     refine bodyPost_ret (results_none rfl _ _ _) rfl ?_;refine⟨rfl,?_,ar.out.trans h9,ap.out.trans az⟩;rw[aY]at h8
     have ax:Kcs ch=putN 14 4++putN (u64N ch) 12:=by unfold Kcs;rw[jM aC.out,jM (N1.out (by decide)),jM (N2.out (by decide)),jN hf]
     rw[ax];exact h8
    .by_cases hf1:-2048<=ch
     .have aN:¬ch<2048:=fun h=>hf ⟨hf1,h⟩
      have f1:decide (-2048<=ch)=true:=by simp;omega
      have f2:decide (ch<2048)=false:=by simp;omega
      go_wp2_with fail
      go_roundg 1
      case measure=>omega
      case rel=>exact⟨3,rfl,rfl,fun _=>N1.out (by decide),fun _=>N2.out (by decide),fun _=>hf,by omega,HC.out.far ((Below.refl _ _).alloc (aZ _) _),am.out.trans ((Below.refl _ _).alloc ag _),al.out.trans (KeepT.of_below ((Below.refl _ _).alloc (aZ _) _))⟩
     .have f1:decide (-2048<=ch)=false:=by simp;omega
      go_wp2_with fail
      go_roundg 1
      case measure=>omega
      case rel=>exact⟨3,rfl,rfl,fun _=>N1.out (by decide),fun _=>N2.out (by decide),fun _=>hf,by omega,HC.out.far ((Below.refl _ _).alloc (aZ _) _),am.out.trans ((Below.refl _ _).alloc ag _),al.out.trans (KeepT.of_below ((Below.refl _ _).alloc (aZ _) _))⟩
   .obtain rfl:gk=1:=by omega
    go_upto_region 9 with fail
    have aa:Blk (wr.alloc (.cells #[.int .u64 15,.int .i64 4,.int .i64 64] 334)) wr.heap.size 334 #[.int .u64 15,.int .i64 4,.int .i64 64]:=c9 _ _ _;have ha:Below wr.heap.size wr (wr.alloc (.cells #[.int .u64 15,.int .i64 4,.int .i64 64] 334)):=(Below.refl _ _).alloc (aZ _) _;obtain⟨w3,af⟩:=jF (wr.alloc (.cells #[.int .u64 15,.int .i64 4,.int .i64 64] 334));obtain⟨q,hq⟩:=jF wr.heap.size;rw[af]at aa ha;rw[af];rw[hq]at aa;have aA:q≠b:=by have:=HC.out.lt;omega
    rw[hq];have HQ:=Jh hq;have ay:=Jh aa;have HA:=Jh ha;clear af hq ha;have s0:w3.cell? ⟨q,0,none⟩=_:=aa.cell 0;have s1:w3.cell? ⟨q,1,none⟩=_:=aa.cell 1;have sl:=aa.lt;clear aa;refine Kal 7 (by kernel_rfl) (by kernel_rfl) ?_;simp only[a8,bf,bc,bg]
    repeat (go_big_quiet_step (fail))
    refine dc ?_;rintro w4 ⟨⟨_,ae⟩,rfl⟩;have ac:=Jh (then_ HA.out ae);have ao:=Jh (am.out.trans (ac.out.mono ag));have aj:=Jh (ay.out.below ae sl);have ak:B<=w4.heap.size:=aX ag ac.out.size;have aw:=Jh (al.out.trans (KeepT.of_below (b:=b) ac.out));clear s0 s1 sl ae;go_wp2_with fail
    refine(Kbl B b _ _ l 15 4 w4 (HC.out.far ac.out) (by decide) (by omega) (by decide) ak).mono ?_;rintro _ w5 ⟨rfl,h5,h6,ad⟩;have aI:q<w4.heap.size:=aj.out.lt;have H5:=Jh h5;have H6:=Jh h6;have an:=Jh (ao.out.trans h6);have ah:B<=w5.heap.size:=aX ak h6.size;have ai:Hid (Blk w5 q 334 #[.int .u64 15,.int .i64 4,.int .i64 64]):=Jh (ad _ _ _ aj.out (fun e=>aA e) (by decide));have aq:=Jh (aw.out.trans ad);clear h5 h6 ad;go_upto_region 10 with fail
    have s2:w5.cell? ⟨q,2,none⟩=_:=ai.out.cell 2;have sl:=ai.out.lt;refine Kal 7 (by kernel_rfl) (by kernel_rfl) ?_;simp only[a8,bf,bc,bg]
    repeat (go_big_quiet_step (fail))
    refine dc ?_;rintro w6 ⟨⟨_,ab⟩,rfl⟩;rw[Kgl];have H7:=Jh (WrAt.far H5.out ab);have ap:=Jh (aq.out.trans (KeepT.of_below (b:=b) ab));have ar:=Jh (an.out.trans (ab.mono ah));have av:B<=w6.heap.size:=aX ah ab.size;clear s2 sl ab;go_wp2_with fail
    refine(Kbl B b _ _ (l++putN 15 4) (u64N ch) 64 w6 H7.out (by decide) (by rw[bd,Kbi];omega) (Kji _) av).mono ?_;rintro _ w7 ⟨rfl,h8,h9,az⟩;go_wp2_with fail
    refine bodyPost_ret (results_none rfl _ _ _) rfl ?_;refine⟨rfl,?_,ar.out.trans h9,ap.out.trans az⟩;rw[aY]at h8
    have ax:Kcs ch=putN 15 4++putN (u64N ch) 64:=by unfold Kcs;rw[jM aC.out,jM (N1.out (by decide)),jM (N2.out (by decide)),jM (N3.out (by decide))]
    rw[ax];exact h8
end
end Go.Proofs.YtdoiekknhnbepaaGreatDoor
namespace Go.Proofs
open Go.Shelf
def Tryz.lays7_29_ren:Go.Shelf.Ren:=⟨fun | 29=>245 | n=>n,fun | 22=>100 | 3=>3 | 4=>4 | 25=>200 | 54=>348 | 0=>0 | 5=>5 | n=>n,fun | 1=>2 | n=>n⟩
theorem Tryz.lays7_29:Go.Proofs.Lays7.n29 Tryz.prog Tryz.lays7_29_ren:={
 mixed:=by kernel_rfl
 f29:=Tryz.func245.trans (congrArg some (by kernel_rfl))
 t0:=Tryz.underlying0
 a0:=Tryz.isAgg0
 z0:=Tryz.sizeOf0
 v0:=Tryz.zeroValue0
 i0:=by kernel_rfl
 t3:=Tryz.underlying3
 a3:=Tryz.isAgg3
 z3:=Tryz.sizeOf3
 v3:=Tryz.zeroValue3
 i3:=by kernel_rfl
 t4:=Tryz.underlying4
 a4:=Tryz.isAgg4
 z4:=Tryz.sizeOf4
 v4:=Tryz.zeroValue4
 i4:=by kernel_rfl
 t5:=Tryz.underlying5
 a5:=Tryz.isAgg5
 z5:=Tryz.sizeOf5
 v5:=Tryz.zeroValue5
 i5:=by kernel_rfl
 t22:=Tryz.underlying100
 a22:=Tryz.isAgg100
 z22:=Tryz.sizeOf100
 v22:=Tryz.zeroValue100
 i22:=by kernel_rfl
 t25:=Tryz.underlying200
 a25:=Tryz.isAgg200
 z25:=Tryz.sizeOf200
 v25:=Tryz.zeroValue200
 i25:=by kernel_rfl
 t54:=Tryz.underlying348
 a54:=Tryz.isAgg348
 z54:=Tryz.sizeOf348
 g1:=by kernel_rfl }
end Go.Proofs
namespace Go.Proofs.YtdoiekknhnbepaaGreatDoor
open Go renaming wpQuiet_nil->dc
open List renaming pairwise_cons->a6,getElem?_eq_getElem->a7,mem_cons->a9,getElem?_eq_none->be,mem_iff_getElem?->bl,pairwise_map->bp,getElem?_map->bx,length->bA,range->bL
open Region renaming ready->bN,binds->bO,wanted->bS,noSelect->b6,Mode->b7,free->b9,noSelect_spec->cc,free_spec->ce
open _root_.Array renaming getElem?_modify->cf,getElem?_eq_some_iff->cg,getElem?_toList->ci,getElem?_setIfInBounds->cj,getElem?_eq_none->cm
open Lib renaming byteCells->cn,compareBytes->co,hid->cp,bitLenAux->cq,ctzFrom->cr,bitLen->cv,ctz->cw
open Instr renaming entryStore->cx,mapEntry->cy,index->cz,lookup->cA
open UInt8 renaming ofNat->cB,toNat_lt->cC
open MapKept renaming run_getObj_map->cD,run_setObj_map->cE
open Value renaming string->cF,agg->cG
open World.ownsRow renaming lt->cH,frozenAt->cI,cellAt->cJ,stored->cK,alloc->cL
open IntKind renaming u64->cM,wrap_u64->cN,u8->cO,wrap_u8->cP
open World renaming setCell->cQ,ownsRow_nil->cR,setCells->cS
open WideElems renaming findIdx_born->cT,findIdx_arr->cU,modify_last->cV,set_self->cW
open Builtin renaming zeroCells->cX,clear_->cY
open Result renaming andThen->cZ
open Blk renaming new->c9
open List.Pairwise renaming nil->da
open Ne renaming symm->db
open Tryz
open Nat renaming le_trans->aX,le_refl->aZ,shiftRight_eq_div_pow->bs,lt_of_le_of_lt->bv,shiftRight_le->bD,mul_le_mul_right->bK,eq_zero_or_pos->bQ,xor_lt_two_pow->bR,zero_le->bZ,min_eq_left->b8
open List renaming append_assoc->aY,take_succ_cons->a8,drop_succ_cons->bc,length_append->bd,take_zero->bf,drop_zero->bg,replicate->bh,size_toArray->bi,drop_eq_getElem_cons->bm,mem_of_getElem?->bn,drop_eq_nil_of_le->bo,length_replicate->bq,length_cons->br,pairwise_singleton->bw,take_succ_eq_append_getElem->bz,length_take->bC,mem_cons->bE,cons_append->bF,length_eq_zero_iff->bG,filter_eq_nil_iff->bH,take_of_length_le->bI,length_singleton->bJ,take_take->bM,pairwise_cons->bT,mem_singleton->bU,take_sublist->bV,all_eq_true->bX,getElem_mem->bY
open Bool renaming and_eq_true->bj
open _root_.Array renaming setIfInBounds_comm->bt,toList_push->bB,toList_modify->bP,toList->bW,ext'->cd
section
open Go.RowKit
open Lib renaming hid -> Jh
open List renaming length_append -> Jd
attribute [local go_sem ↓] Go.wp_at_zero Go.wp_at_succ
attribute [local go_sem] Later.cell
theorem Qab:∀(f x:Nat),x<2 ^ f->cq f x=if x=0 then 0 else x.log2+1
 | 0,x,h=>by
  have:x=0:=by omega
  simp[cq,this]
 | f+1,x,h=>by
  rw[cq]
  by_cases h0:x=0
  .rw[jN h0,jN h0]
  .rw[jM h0,jM h0,Qab f (x / 2) (by rw[Nat.pow_succ]at h;omega)]
   by_cases h1:x / 2=0
   .rw[jN h1];have:x=1:=by omega
    subst this;decide
   .rw[jM h1];rw[Nat.log2_def x,jN (by omega)];omega
theorem Qhy {x:Nat}(h:x<2 ^ 64):(64:Int) - (cv x:Int)=((clzN x:Nat):Int):=by
 unfold cv clzN;rw[Qab 64 x h]
 by_cases h0:x=0
 .rw[jN h0];rfl
 .rw[jM h0];have:=(Nat.log2_lt h0).2 h;omega
theorem Kzu:∀(f x:Nat),cr f x=ctzF x f
 | 0,_=>rfl
 | f+1,x=>by
  rw[cr,ctzF,Kzu f (x / 2)]
  split
  .rfl
  .omega
theorem Qic {x:Nat}(h0:x≠0):cw 64 x=ctzN x:=by unfold cw ctzN;rw[jM h0,Kzu]
def DbTab (w:World):Prop:=Go.Proofs.TabAt 2 Lib.deBruijn64tab w
theorem DbTab.below {w w':World}(h:DbTab w) (hb:Below w.heap.size w w'):DbTab w':=fun j hj=>later hb (h j hj)
theorem Qdb (x:Nat) (hx:x<2 ^ 64) (w:World):Calls prog 244 #[.int .u64 (x:Int)] w fun e w'=>e = .returned (.int .i64 ((clzN x:Nat):Int))/\w'=w:=by have:=Tryz.bits_LeadingZeros64 (x:Int) w (by omega) (by omega);rw[Int.toNat_natCast,Qhy hx]at this;exact this
theorem Qdj (x:Nat) (hx:x<2 ^ 64) (h0:x≠0) (w:World) (hT:DbTab w):Calls prog 245 #[.int .u64 (x:Int)] w fun e w'=>e = .returned (.int .i64 ((ctzN x:Nat):Int))/\w'=w:=by have:=Any7.bits_TrailingZeros64 Tryz.lays7_29 x hx w (fun _=>hT);rw[Qic h0]at this;exact this
theorem Kzl (B b:Nat) (c:Cst) (l:List Bool) (x:Nat) (w:World) (h:ChAt B b c l w) (hc:c.Ok) (hx:x<2 ^ 64) (hlen:l.length<=1099511627000) (hB:B<=w.heap.size) (hT:DbTab w) :
  Calls prog 201 #[.pointer (some ⟨b,0,none⟩),.int .u64 (x:Int)] w fun e w'=>e = .returned (.tuple #[])/\ChAt B b (Kbr c x).2 (l++(Kbr c x).1) w'/\Below B w w'/\KeepT b w w':=by
 have ab:=h.cells;have c6:=ab.2.2.2.2.1;have c7:=ab.2.2.2.2.2.1;have c8:=ab.2.2.2.2.2.2.1;have z6:=ab.2.2.2.2.2.2.2 6;have z7:=ab.2.2.2.2.2.2.2 7;have z8:=ab.2.2.2.2.2.2.2 8;have H:=Jh h;have H0:=Jh h.1;clear h ab
 by_cases h0:x=0
 .subst h0;go_enter func201,ntmps201
  go_wp2_with fail
  refine(Kbl B b _ _ l 0 1 w H.out (by omega) (by omega) (by decide) hB).mono ?_;rintro _ w2 ⟨rfl,h5,h6,aa⟩;go_wp2_with fail
  refine bodyPost_ret (results_none rfl _ _ _) rfl ?_;exact⟨rfl,h5,h6,aa⟩
 .have e0:((x:Int) == 0)=false:=by simp[h0]
  have aH:=Jh h0;have aG:=Jh (Qdb x hx w);have aE:=Jh (Qdj x hx h0 w hT);have aI:=Kzs h0 hx;obtain⟨cl,ap⟩:=jF (clzN x);obtain⟨ct,az⟩:=jF (ctzN x);rw[ap]at aG aI;rw[az]at aE aI;have ai:=Jh ap;have ag:=Jh az;clear ap az;obtain⟨ld,aK⟩:=jF (min cl 31);have al:=Jh aK;have aO:ld<=31:=by omega
  have hlc:ld+ct<=63:=by omega
  go_enter func201,ntmps201
  go_upto_region 2 with fail
  go_cut [4,5] (fun s4 s5 wx=>s4 = .int .i64 (ld:Int)/\s5 = .int .i64 (ct:Int)/\wx=w)
  case first=>
   clear aK;go_wp2_with fail
   refine aG.out.mono ?_;rintro _ _ ⟨rfl,rfl⟩;go_wp2_with fail
   refine aE.out.mono ?_;rintro _ _ ⟨rfl,rfl⟩;go_wp2_with fail
   go_meet
   exact⟨vi (by have:=al.out;omega),rfl,rfl⟩
  case rest=>
   obtain⟨rfl,rfl,rfl⟩:=hcut;go_upto_region 3 with fail
   have hce:=hc.2
   by_cases hwin:c.window=true/\c.lead<=ld/\c.tail<=ct
   .have f1:=hwin.1;have f2:decide ((c.lead:Int)<=(ld:Int))=true:=by simp;omega
    have f3:decide ((c.tail:Int)<=(ct:Int))=true:=by simp;omega
    have g2:(c.lead:Int)<=(ld:Int):=by omega
    have g3:(c.tail:Int)<=(ct:Int):=by omega
    rw[f1]at c8;go_wp2_with fail
    refine(Kbl B b _ _ l 2 2 wc H.out (by omega) (by omega) (by decide) hB).mono ?_;rintro _ w2 ⟨rfl,h5,h6,aa⟩;have HX:Hid (ChAt B b c (l++putN 2 2) w2):=Jh h5;have ao:=Jh h6;have ay:=Jh aa;have ak:B<=w2.heap.size:=aX hB h6.size;clear h5 h6 aa c6 c7 c8 z6 z7 z8;go_upto_region 9 with fail
    have ab:=HX.out.cells;have c6:=ab.2.2.2.2.1;have c7:=ab.2.2.2.2.2.1;have sl:=HX.out.lt;clear ab;have aB:c.tail<=63:=by omega
    have e1:wrap64 (64 - (c.lead:Int) - (c.tail:Int))=64 - (c.lead:Int) - (c.tail:Int):=by unfold wrap64;omega
    refine Kal 19 (by kernel_rfl) (by kernel_rfl) ?_;simp only[a8,bf,bc,bg]
    repeat (go_big_quiet_step (fail))
    refine dc ?_;rintro w4 ⟨⟨_,ac⟩,rfl⟩;have H4:=Jh (WrAt.far HX.out ac);have an:=Jh (ao.out.trans (ac.mono ak));have ax:=Jh (ay.out.trans (KeepT.of_below (b:=b) ac));have av:B<=w4.heap.size:=aX ak ac.size;clear ac sl c6 c7;have ah:(x:Int) / 2 ^ c.tail=((x >>> c.tail:Nat):Int):=by rw[bs];simp
    have af:(64:Int) - (c.lead:Int) - (c.tail:Int)=((64 - c.lead - c.tail:Nat):Int):=by omega
    rw[ah,af];have aj:x >>> c.tail<2 ^ 64:=bv (bD _ _) hx;obtain⟨sx,ae⟩:∃sx,x >>> c.tail=sx:=⟨_,rfl⟩;obtain⟨wd,ad⟩:=jF (64 - c.lead - c.tail);rw[ae]at aj;rw[ae,ad];have aq:=Jh ae;have am:=Jh ad;clear ah af ae;go_wp2_with fail
    refine(Kbl B b _ _ (l++putN 2 2) sx wd w4 H4.out (by omega) (by rw[Jd];rw[Kbi];omega) aj av).mono ?_;rintro _ w5 ⟨rfl,h5,h6,aa⟩;go_wp2_with fail
    go_end0
    rw[aY]at h5
    have hd:Kbr c x=(putN 2 2++putN sx wd,c):=by unfold Kbr;rw[jM aH.out,ai.out,ag.out,al.out,jN hwin];rw[aq.out,am.out]
    rw[hd];exact⟨rfl,h5,an.out.trans h6,ax.out.trans aa⟩
   .go_cut [36] (fun s36 wx=>s36 = .bool false/\wx=wc)
    case first=>
     cases hw:c.window with
     | false=>
      rw[hw]at c8;go_wp2_with fail
      go_meet
      exact⟨rfl,rfl⟩
     | true=>
      rw[hw]at c8
      by_cases k2:c.lead<=ld
      .have f2:decide ((c.lead:Int)<=(ld:Int))=true:=by simp;omega
       have k3:¬c.tail<=ct:=fun h=>hwin ⟨hw,k2,h⟩
       have f3:decide ((c.tail:Int)<=(ct:Int))=false:=by simp;omega
       have g2:(c.lead:Int)<=(ld:Int):=by omega
       go_wp2_with fail
       go_meet
       exact⟨rfl,rfl⟩
      .have f2:decide ((c.lead:Int)<=(ld:Int))=false:=by simp;omega
       go_wp2_with fail
       go_meet
       exact⟨rfl,rfl⟩
    case rest=>
     obtain⟨rfl,rfl⟩:=hcut
     have aC:Hid (ChAt B b { c with lead:=ld,tail:=ct,window:=true } l (((wc.setCell ⟨b,6,none⟩ (.int .i64 (ld:Int))).setCell ⟨b,7,none⟩ (.int .i64 (ct:Int))).setCell ⟨b,8,none⟩ (.bool true))):=
      Jh (((H.out.rest_set 4 (.int .i64 (ld:Int))).rest_set 5 (.int .i64 (ct:Int))).rest_set 6 (.bool true))
     have ar:Hid (Below B wc (((wc.setCell ⟨b,6,none⟩ (.int .i64 (ld:Int))).setCell ⟨b,7,none⟩ (.int .i64 (ct:Int))).setCell ⟨b,8,none⟩ (.bool true))):=
      Jh ((((Below.refl _ _).setCell (p:=⟨b,6,none⟩) H0.out _).setCell (p:=⟨b,7,none⟩) H0.out _).setCell (p:=⟨b,8,none⟩) H0.out _)
     have aL:Hid (KeepT b wc (((wc.setCell ⟨b,6,none⟩ (.int .i64 (ld:Int))).setCell ⟨b,7,none⟩ (.int .i64 (ct:Int))).setCell ⟨b,8,none⟩ (.bool true))):=Jh ((KeepT.own.trans KeepT.own).trans KeepT.own);go_upto_region 6 with fail
     obtain⟨w1,aA⟩:=jF ((((wc.setCell ⟨b,6,none⟩ (.int .i64 (ld:Int))).setCell ⟨b,7,none⟩ (.int .i64 (ct:Int))).setCell ⟨b,8,none⟩ (.bool true)));rw[aA]at aC ar aL;rw[aA];have aF:B<=w1.heap.size:=aX hB ar.out.size;clear aA c6 c7 c8 z6 z7 z8;go_wp2_with fail
     refine(Kbl B b _ _ l 3 2 w1 aC.out (by omega) (by omega) (by decide) aF).mono ?_;rintro _ w2 ⟨rfl,h5,h6,aa⟩;have aT:=Jh h5;have aN:=Jh (ar.out.trans h6);have aP:=Jh (aL.out.trans aa);have aJ:B<=w2.heap.size:=aX aF h6.size;clear h5 h6 aa;have aS:cM.wrap (ld:Int)=(ld:Int):=Kmi _ (by omega) (by omega);go_wp2_with fail
     refine(Kbl B b _ _ (l++putN 3 2) ld 5 w2 aT.out (by omega) (by rw[Jd,Kbi];omega) (by omega) aJ).mono ?_;rintro _ w3 ⟨rfl,h5,h6,aa⟩;have aQ:=Jh h5;have aR:=Jh (aN.out.trans h6);have aU:=Jh (aP.out.trans aa);have aD:B<=w3.heap.size:=aX aJ h6.size;clear h5 h6 aa;have e2:wrap64 (63 - (ld:Int) - (ct:Int))=((63 - ld - ct:Nat):Int):=by unfold wrap64;omega
     have e3:(63:Int) - (ld:Int) - (ct:Int)=((63 - ld - ct:Nat):Int):=by omega
     have e4:cM.wrap ((63 - ld - ct:Nat):Int)=((63 - ld - ct:Nat):Int):=Kmi _ (by omega) (by omega);obtain⟨mm,aw⟩:=jF (63 - ld - ct);have aM:=Jh aw;rw[aw]at e2 e3 e4;clear aw;go_wp2_with fail
     refine(Kbl B b _ _ (l++putN 3 2++putN ld 5) mm 6 w3 aQ.out (by omega) (by rw[Jd,Jd,Kbi,Kbi];omega) (by have:=aM.out;omega) aD).mono ?_;rintro _ w4 ⟨rfl,h5,h6,aa⟩
     have HX:Hid (ChAt B b { c with lead:=ld,tail:=ct,window:=true } (l++(putN 3 2++putN ld 5++putN (63 - ld - ct) 6)) w4):=Jh (by
      rw[<-aY,<-aY,aM.out]
      exact h5)
     have ao:=Jh (aR.out.trans h6);have ay:=Jh (aU.out.trans aa);have ak:B<=w4.heap.size:=aX aD h6.size;clear h5 h6 aa;go_upto_region 9 with fail
     have ab:=HX.out.cells;have c6:=ab.2.2.2.2.1;have c7:=ab.2.2.2.2.2.1;have sl:=HX.out.lt;clear ab;have aB:ct<=63:=by omega
     have e1:wrap64 (64 - (ld:Int) - (ct:Int))=64 - (ld:Int) - (ct:Int):=by unfold wrap64;omega
     refine Kal 19 (by kernel_rfl) (by kernel_rfl) ?_;simp only[a8,bf,bc,bg]
     repeat (go_big_quiet_step (fail))
     refine dc ?_;rintro w4 ⟨⟨_,ac⟩,rfl⟩;have H4:=Jh (WrAt.far HX.out ac);have an:=Jh (ao.out.trans (ac.mono ak));have ax:=Jh (ay.out.trans (KeepT.of_below (b:=b) ac));have av:B<=w4.heap.size:=aX ak ac.size;clear ac sl c6 c7;have ah:(x:Int) / 2 ^ ct=((x >>> ct:Nat):Int):=by rw[bs];simp
     have af:(64:Int) - (ld:Int) - (ct:Int)=((64 - ld - ct:Nat):Int):=by omega
     rw[ah,af];have aj:x >>> ct<2 ^ 64:=bv (bD _ _) hx;obtain⟨sx,ae⟩:∃sx,x >>> ct=sx:=⟨_,rfl⟩;obtain⟨wd,ad⟩:=jF (64 - ld - ct);rw[ae]at aj;rw[ae,ad];have aq:=Jh ae;have am:=Jh ad;clear ah af ae;go_wp2_with fail
     refine(Kbl B b _ _ (l++(putN 3 2++putN ld 5++putN (63 - ld - ct) 6)) sx wd w4 H4.out (by omega) (by rw[Jd];rw[Jd,Jd,Kbi,Kbi,Kbi];omega) aj av).mono ?_;rintro _ w5 ⟨rfl,h5,h6,aa⟩;go_wp2_with fail
     go_end0
     rw[aY]at h5
     have hd:Kbr c x=((putN 3 2++putN ld 5++putN (63 - ld - ct) 6)++putN sx wd,{ c with lead:=ld,tail:=ct,window:=true }):=by unfold Kbr;rw[jM aH.out,ai.out,ag.out,al.out,jM hwin];rw[aq.out,am.out]
     rw[hd];exact⟨rfl,h5,an.out.trans h6,ax.out.trans aa⟩
end
section
open Go.RowKit
open Lib renaming hid -> Jh
attribute [local go_sem ↓] Go.wp_at_zero Go.wp_at_succ
attribute [local go_sem] Later.cell
def stepE (c:Cst) (s:Smp):Nat:=if s.t<0\/1125899906842624<s.t then 91 else if 0<c.n/\s.t<=c.last.t then 90 else if c.n=120 then 92 else 0
theorem Koq (ch:Int):(Kcs ch).length<=70:=by
 unfold Kcs
 repeat' split
 all_goals simp[Kbi]
def DbAt (B:Nat) (w:World):Prop:=DbTab w/\2 < B
theorem DbAt.below {B:Nat}{w w':World}(h:DbAt B w) (hb:Below B w w'):DbAt B w':=⟨fun j hj=>(hb.cell (p:=⟨2,j,none⟩) h.2).trans (h.1 j hj),h.2⟩
theorem Qgc (c:Cst) (x:Nat):(Kbr c x).2.n=c.n:=by
 unfold Kbr
 split
 .rfl
 .split <;> rfl
def Qiy (B b:Nat) (c:Cst) (l:List Bool) (s:Smp) (E:Nat) (w:World) (e:Ending) (w':World):Prop:=
 e = .returned (.int .i64 (E:Nat))/\(E=0->ChAt B b (Kbs c s).2 (l++(Kbs c s).1) w')/\Below B w w'/\KeepT b w w'
theorem Kuk (B b:Nat) (c:Cst) (l:List Bool) (s:Smp) (w:World) (h:ChAt B b c l w) (hg:c.Good) (hn:c.n<=120) (hv:s.v<2 ^ 64) (hlen:l.length<=1000000) (hB:B<=w.heap.size) (hT:DbAt B w) :
  Calls prog 171 #[.pointer (some ⟨b,0,none⟩),.int .i64 s.t,.int .u64 (s.v:Int)] w (Qiy B b c l s (stepE c s) w):=by
 obtain⟨t,v⟩:=s;have aa:=h.cells;have c2:=aa.1;have c3:=aa.2.1;have c4:=aa.2.2.1;have z2:=aa.2.2.2.2.2.2.2 2;have H:=Jh h;have H0:=Jh h.1;have HG:=Jh hg;clear h aa;dsimp only at hv |-;obtain⟨E,hE⟩:=jF (stepE c ⟨t,v⟩);have HE:=Jh hE;rw[hE];unfold stepE at hE;dsimp only at hE
 by_cases b1:t<0
 .rw[jN (.inl b1)]at hE;have d1:decide (t<0)=true:=by simp[b1]
  subst hE;go_enter func171,ntmps171
  go_wp2_with fail
  go_ret
  exact⟨rfl,fun h=>jS h (by decide),Below.refl _ _,KeepT.refl _ _⟩
 by_cases b2:1125899906842624<t
 .rw[jN (.inr b2)]at hE;have d1:decide (t<0)=false:=by simp;omega
  have d2:decide (1125899906842624<t)=true:=by simp;omega
  subst hE;go_enter func171,ntmps171
  go_wp2_with fail
  go_ret
  exact⟨rfl,fun h=>jS h (by decide),Below.refl _ _,KeepT.refl _ _⟩
 rw[jM (by omega)]at hE;have d1:decide (t<0)=false:=by simp;omega
 have d2:decide (1125899906842624<t)=false:=by simp;omega
 cases hn0:c.n with
 | zero=>
  rw[hn0]at hE c2;rw[jM (by omega),jM (by omega)]at hE;subst hE;have htu:cM.wrap t=((u64N t:Nat):Int):=Kgl t;go_enter func171,ntmps171
  go_wp2_with fail
  refine(Kbl B b _ _ l (u64N t) 64 w H.out (by omega) (by omega) (Kji _) hB).mono ?_;rintro _ w2 ⟨rfl,h5,h6,ab⟩;have ag:=Jh h5;have ah:=Jh h6;have aj:=Jh ab;have al:B<=w2.heap.size:=aX hB h6.size;clear h5 h6 ab;go_wp2_with fail
  refine(Kbl B b _ _ (l++putN (u64N t) 64) v 64 w2 ag.out (by omega) (by rw[bd,Kbi];omega) hv al).mono ?_;rintro _ w3 ⟨rfl,h5,h6,ab⟩;have ac:Hid (ChAt B b c (l++putN (u64N t) 64++putN v 64) w3):=Jh h5;have ak:=Jh (ah.out.trans h6);have am:=Jh (aj.out.trans ab);clear h5 h6 ab c2 c3 c4 z2;have aa:=ac.out.cells;have c2:=aa.1;have c3:=aa.2.1;have c4:=aa.2.2.1;have z2:=aa.2.2.2.2.2.2.2 2;have z3:=aa.2.2.2.2.2.2.2 3;have z4:=aa.2.2.2.2.2.2.2 4;rw[hn0]at c2;clear aa;go_wp2_with fail
  go_ret
  refine⟨rfl,fun _=>?_,((ak.out.setCell (p:=⟨b,3,none⟩) H0.out _).setCell (p:=⟨b,4,none⟩) H0.out _).setCell (p:=⟨b,2,none⟩) H0.out _,((am.out.trans KeepT.own).trans KeepT.own).trans KeepT.own⟩;have:=((ac.out.rest_set 1 (.int .i64 t)).rest_set 2 (.int .u64 (v:Int))).rest_set 0 (.int .i64 1);unfold Kbs;rw[jN hn0];rw[aY]at this;exact this
 | succ n=>
  rw[hn0]at hE c2 hn;have d3:decide ((0:Int)<(n:Int)+1)=true:=by rw[jH];omega
  by_cases b3:t<=c.last.t
  .rw[jN ⟨by omega,b3⟩]at hE;have d4:decide (t<=c.last.t)=true:=by simp;omega
   subst hE;go_enter func171,ntmps171
   go_wp2_with fail
   go_ret
   exact⟨rfl,fun h=>jS h (by decide),Below.refl _ _,KeepT.refl _ _⟩
  rw[jM (by omega)]at hE;have d4:decide (t<=c.last.t)=false:=by simp;omega
  by_cases b4:n+1=120
  .rw[jN b4]at hE;have d5:(((n:Int)+1) == 120)=true:=by simp;omega
   subst hE;go_enter func171,ntmps171
   go_wp2_with fail
   go_ret
   exact⟨rfl,fun h=>jS h (by decide),Below.refl _ _,KeepT.refl _ _⟩
  rw[jM b4]at hE;have d5:(((n:Int)+1) == 120)=false:=by simp;omega
  have d6:(((n:Int)+1) == 0)=false:=by simp;omega
  subst hE;have g1:=HG.out.t0;have g2:=HG.out.t1;have g3:=HG.out.v;have g4:=HG.out.s0;have g5:=HG.out.s1;have av:wrap64 (t - c.last.t)=t - c.last.t:=by unfold wrap64;omega
  obtain⟨st,ad⟩:=jF (t - c.last.t);rw[ad]at av;have aw:=Jh ad;have ai:bits .xor .u64 (v:Int) (c.last.v:Int)=((v ^^^ c.last.v:Nat):Int):=bits_xor_u64_nat _ _ (by omega) (by omega);obtain⟨xv,af⟩:=jF (v ^^^ c.last.v);have ax:xv<2 ^ 64:=by rw[<-af];exact bR hv g3
  rw[af]at ai;have ao:=Jh af;have ay:-1125899906842624<=st:=by omega
  have aq:st<=1125899906842624:=by omega
  clear af;go_enter func171,ntmps171
  go_wp2_with fail
  refine(Qco B b c l st w H.out g4 g5 ay aq (by omega) hB).mono ?_;rintro _ w2 ⟨rfl,h5,h6,ab⟩;obtain⟨tb,ae⟩:=jF (Kcs (st - c.step));have htl:tb.length<=70:=by rw[<-ae];exact Koq _
  rw[ae]at h5;have ar:=Jh ae;clear ae;have ag:=Jh h5;have ah:=Jh h6;have aj:=Jh ab;have al:B<=w2.heap.size:=aX hB h6.size;have ap:=Jh (hT.below h6);clear h5 h6 ab c2 c3 c4 z2;have aa:=ag.out.cells;have c4:w2.cell? ⟨b,4,none⟩=some (.int .u64 (c.last.v:Int)):=aa.2.2.1;clear aa;go_wp2_with fail
  refine(Kzl B b _ (l++tb) xv w2 ag.out (HG.out.ok.step st) ax (by rw[bd];omega) al ap.out.1).mono ?_;rintro _ w3 ⟨rfl,h5,h6,ab⟩;have ac:=Jh h5;have ak:=Jh (ah.out.trans h6);have am:=Jh (aj.out.trans ab);clear h5 h6 ab c4;have aa:=ac.out.cells;have an:(Kbr { c with step:=st } xv).2.n=n+1:=(Qgc _ _).trans hn0;have c2:=aa.1;rw[an]at c2;have c3:=aa.2.1;have c4:=aa.2.2.1;have z2:=aa.2.2.2.2.2.2.2 2;have z3:=aa.2.2.2.2.2.2.2 3;have z4:=aa.2.2.2.2.2.2.2 4;clear aa;obtain⟨D,hD⟩:∃D,Kbr { c with step:=st } xv=D:=⟨_,rfl⟩;rw[hD]at c3 c4 ac an;have HD:=Jh hD;clear hD;go_wp2_with fail
  go_ret
  refine⟨rfl,fun _=>?_,((ak.out.setCell (p:=⟨b,3,none⟩) H0.out _).setCell (p:=⟨b,4,none⟩) H0.out _).setCell (p:=⟨b,2,none⟩) H0.out _,((am.out.trans KeepT.own).trans KeepT.own).trans KeepT.own⟩;have:=((ac.out.rest_set 1 (.int .i64 t)).rest_set 2 (.int .u64 (v:Int))).rest_set 0 (.int .i64 ((n:Int)+1+1));unfold Kbs;rw[jM (by omega)];dsimp only;rw[aw.out,ao.out,ar.out,HD.out,hn0];rw[aY]at this;exact this
end
section
open Go.RowKit
attribute [local go_sem ↓] Go.wp_at_zero Go.wp_at_succ
attribute [local go_sem] Later.cell
theorem Qhb {w:World}{B n:Nat}{v:Value}{s:List UInt8}(h:w.ownsRow B 5 1 v n (cn s)) (hn:s.length=n):(convert 76 9 v).run prog w = .ok (.string ⟨s.toArray⟩) w:=by
 subst hn
 by_cases h0:s = []
 .subst h0;rcases h.2 with ⟨rfl,_⟩ | ⟨g',aa,cur,rfl,_⟩
  .kernel_rfl
  .kernel_rfl
 .obtain ⟨a,aa,rfl,hc⟩:=Kcf.text (l:=s) h h0;exact hc
theorem Kxf (B b:Nat) (T:TypeId) (rest:List Value) (l:List Bool) (w:World) (h:WrAt B b T rest l w) :
  Calls prog 202 #[.pointer (some ⟨b,0,none⟩)] w fun e w'=>e = .returned (.string ⟨(packB l).toArray⟩)/\w=w':=by
 obtain⟨h0,v,h1,h2,h3⟩:=h;have hc:=Qhb h2 (Kfr l).len;have c0:w.cell? ⟨b,0,none⟩=some v:=h1.cell 0;obtain⟨S,hS⟩:∃S:ByteArray,(⟨(packB l).toArray⟩:ByteArray)=S:=⟨_,rfl⟩;rw[hS]at hc |-;clear h1 h2 h3 hS;go_enter func202,ntmps202
 go_wp2_with fail
 go_ret
 exact⟨rfl,rfl⟩
theorem Kxl (B b:Nat) (c:Cst) (l:List Bool) (w:World) (h:ChAt B b c l w) (hn:c.n<=120) (hlen:l.length<=2000000) (hB:B<=w.heap.size) :
  Calls prog 172 #[.pointer (some ⟨b,0,none⟩)] w fun e w'=>e = .returned (.string ⟨(uintT c.n++packB l).toArray⟩)/\Below w.heap.size w w':=by
 have c2:=h.cells.1;have hbl:=h.lt;have H:=cp h;obtain⟨n,aa⟩:=jF c.n;rw[aa]at c2 hn |-;clear h aa;have hu:=fun w=>Kav n (by omega) w
 obtain⟨U,hU⟩:∃U:ByteArray,(⟨(uintT n).toArray⟩:ByteArray)=U:=⟨_,rfl⟩;obtain⟨V,hV⟩:∃V:ByteArray,(⟨(packB l).toArray⟩:ByteArray)=V:=⟨_,rfl⟩;have hUz:U.size<=11:=by rw[<-hU];simp only[ByteArray.size,bi];exact(Kab n).2
 have hVz:V.size<=2000000:=by rw[<-hV];simp only[ByteArray.size,bi];rw[(Kfr l).len];omega
 have ab:U++V=(⟨(uintT n++packB l).toArray⟩:ByteArray):=by rw[<-hU,<-hV];apply ByteArray.ext;simp[ByteArray.data_append]
 have HW:=cp (fun (w':World) (hb:Below w.heap.size w w')=>Kxf B b _ _ l w' (H.out.far hb));simp only[hU]at hu;rw[hV]at HW;have HU:=cp hu;have ad:=cp ab;clear hu hU hV ab;go_enter func172,ntmps172
 go_upto_region 3 with fail
 refine Kaa (by kernel_rfl) (by kernel_rfl) ?_
 repeat (go_big_quiet_step ((first | (go_at_call 42;exact Kaj _ (HU.out _)) | (go_at_call 202;exact Kps _ (HW.out _ (Later.h _))))))
 refine dc ?_;rintro w2 ⟨⟨_,ac⟩,rfl⟩;go_wp2_with fail
 go_ret
 rw[ad.out];exact⟨rfl,ac⟩
end
section
open Go.RowKit
open Lib renaming hid -> Jh
attribute [local go_sem ↓] Go.wp_at_zero Go.wp_at_succ
attribute [local go_sem] Later.cell
def stW:Cst->List Smp->Cst
 | c,[]=>c
 | c,s :: l=>stW (Kbs c s).2 l
def encE:Cst->List Smp->Nat
 | _,[]=>0
 | c,s :: l=>if stepE c s≠0 then stepE c s else encE (Kbs c s).2 l
theorem Kjx:∀(l:List Smp) (c:Cst) (s:Smp),stW c (l ++ [s])=(Kbs (stW c l) s).2
 | [],_,_=>rfl
 | x :: l,c,s=>Kjx l (Kbs c x).2 s
theorem Kgp:∀(l:List Smp) (c:Cst) (s:Smp),Kbz c (l ++ [s])=Kbz c l++(Kbs (stW c l) s).1
 | [],c,s=>by simp[Kbz,stW]
 | x :: l,c,s=>by rw[bF,Kbz,Kbz,Kgp l,stW,aY]
theorem stW_n:∀(l:List Smp) (c:Cst),(stW c l).n=c.n+l.length
 | [],c=>rfl
 | x :: l,c=>by rw[stW,stW_n l,(Kik c x).1,br];omega
theorem Qav (c:Cst) (h:c.Ok) (x:Nat):(Kbr c x).1.length<=80:=by
 have:=h.2;unfold Kbr
 repeat' split
 all_goals simp[Kbi]
 all_goals omega
theorem Qcc (c:Cst) (h:c.Ok) (s:Smp):(Kbs c s).1.length<=150:=by
 unfold Kbs
 split
 .simp[Kbi]
 .have h1:=Koq (s.t - c.last.t - c.step);have h2:=Qav { c with step:=s.t - c.last.t } h (s.v ^^^ c.last.v);simp only[bd];omega
theorem Kwt {c:Cst}{s:Smp}(h:stepE c s=0):0<=s.t/\s.t<=1125899906842624/\(c.n=0\/c.last.t<s.t)/\c.n≠120:=by
 unfold stepE at h
 split at h
 .omega
 .split at h
  .omega
  .split at h
   .omega
   .exact ⟨by omega,by omega,by omega,by omega⟩
def prevB (prev:Option Smp) (x:Smp):Bool:=match prev with | none=>true | some y=>decide (y.t<x.t)
theorem Kry (prev:Option Smp) (n:Nat) (x:Smp) (l:List Smp):fitC prev n (x :: l)=(decide (0<=x.t) && decide (x.t<=1125899906842624) && prevB prev x && decide (n<120) && fitC (some x) (n+1) l):=by cases prev <;> rfl
theorem Kva:∀(l:List Smp) (c:Cst) (prev:Option Smp),c.n<=120->(∀p,prev=some p->c.n≠0/\c.last=p)->(prev=none->c.n=0)->(encE c l=0↔fitC prev c.n l=true)
 | [],c,prev,_,_,_=>by cases prev <;> simp[encE,fitC]
 | x :: l,c,prev,hn,h1,h2=>by
  have ih:=fun h=>Kva l (Kbs c x).2 (some x) h (fun p hp=>by injection hp with hp;subst hp;exact⟨by rw[(Kik c x).1];omega,(Kik c x).2⟩) (fun h=>by cases h)
  rw[(Kik c x).1]at ih;rw[encE]
  by_cases h0:stepE c x=0
  .rw[jM (by simp[h0])];obtain⟨a1,a2,a3,a4⟩:=Kwt h0;rw[ih (by omega)]
   have hp:prevB prev x=true:=by
    cases prev with
    | none=>rfl
    | some p=>obtain⟨q1,q2⟩:=h1 p rfl;subst q2;exact jL (by omega)
   rw[Kry,hp,jL a1,jL a2,jL (show c.n<120 by omega)];simp
  .rw[jN h0];constructor
   .intro h;exact jS h h0
   .intro h;exfalso;apply h0;rw[Kry]at h;simp only[bj,jH]at h;obtain⟨⟨⟨⟨a1,a2⟩,a3⟩,a4⟩,_⟩:=h;unfold stepE;rw[jM (by omega),jM,jM (by omega)];rintro⟨q1,q2⟩
    cases prev with
    | none=>have:=h2 rfl;omega
    | some p=>
     rw[(h1 p rfl).2]at q2;have a3':p.t<x.t:=jP a3;omega
theorem Qdm (l:List Smp):encE cst0 l=0↔fitC none 0 l=true:=Kva l cst0 none (by decide) (fun p h=>by cases h) (fun _=>rfl)
def Ker (l:List Smp):List UInt8×Nat:=if encE cst0 l=0 then (Kdb l,0) else ([],encE cst0 l)
theorem Ktd (l:List Smp) (A:Option Addr) (n cap:Nat) (w:World) (hE:Elems w w.heap.size 2 Kac A n l) (hn:n<=140737488351232) (hv:∀x∈l,x.v<2 ^ 64) (hT:DbTab w) :
  Calls prog 117 #[.slice A n cap] w fun e w'=>e = .returned (.tuple #[.string ⟨(Ker l).1.toArray⟩,.int .i64 ((Ker l).2:Nat)])/\Below w.heap.size w w':=by
 have ai:=hE.len;have HE:=Jh hE;have HV:=Jh hv;have aP:DbAt w.heap.size w:=⟨hT,Kdt (hT 0 (by decide))⟩;have aM:=Jh aP;obtain⟨E,aI⟩:=jF (encE cst0 l);have am:=Jh aI;have ab:=Jh ai
 have h0:ChAt w.heap.size w.heap.size cst0 [] (w.alloc (.cells #[.slice none 0 0,.int .i64 0,.int .i64 0,.int .i64 0,.int .u64 0,.int .i64 0,.int .i64 0,.int .i64 0,.bool false] 271)):=
  ⟨aZ _,.slice none 0 0,c9 _ _ _,cR _ _ _ _,by simp[Value.ownBlock]⟩
 have ak:Below w.heap.size w (w.alloc (.cells #[.slice none 0 0,.int .i64 0,.int .i64 0,.int .i64 0,.int .u64 0,.int .i64 0,.int .i64 0,.int .i64 0,.bool false] 271)):=(Below.refl _ _).alloc (aZ _) _;clear hE hv aP hT aI ai;go_enter func117,ntmps117
 go_upto_region 2 with fail
 obtain⟨w1,aC⟩:=jF (w.alloc (.cells #[.slice none 0 0,.int .i64 0,.int .i64 0,.int .i64 0,.int .u64 0,.int .i64 0,.int .i64 0,.int .i64 0,.bool false] 271));rw[aC]at h0 ak;rw[aC];obtain⟨B,hB⟩:=jF w.heap.size;rw[hB]at h0 ak HE aM |-;have HB:=Jh hB;have H1:=Jh h0;have aU:=Jh ak;clear aC h0 ak hB;go_wp2_with fail
 go_loopg [10] n (fun g s10 wr=>∃i:Nat,i+g=n/\s10 = .int .i64 (i:Int)/\i<=120/\encE (stW cst0 (l.take i)) (l.drop i)=E/\(stW cst0 (l.take i)).Good/\(Kbz cst0 (l.take i)).length<=150*i/\ChAt B B (stW cst0 (l.take i)) (Kbz cst0 (l.take i)) wr/\Below B w wr)
 case atStart=>exact⟨0,by omega,rfl,by omega,am.out,Cst.good0,by simp[Kbz],H1.out,aU.out⟩
 case round=>
  obtain⟨i,hi,rfl,aR,he,hg,aN,aO,hb⟩:=hrel;have HI:=Jh hi;have ay:=Jh he;have HG:=Jh hg;have af:=Jh aN;have aj:=Jh aO;have aq:=Jh hb;have ao:B<=wr.heap.size:=aX (by rw[HB.out];exact aZ _) hb.size;clear he hg aN aO hb
  by_cases hin:i<n
  .have ah:i<l.length:=by have:=ab.out;omega
   obtain⟨bk,av,rfl,aK,aa⟩:=HE.out.2 (by omega);have m0:wr.cell? ⟨bk,av+i*2,none⟩=some (.int .i64 l[i].t):=(aq.out.cell (p:=⟨bk,av+i*2,none⟩) aK).trans (by simpa using aa i l[i] (a7 ah) 0 _ rfl);have m1:wr.cell? ⟨bk,av+i*2+1,none⟩=some (.int .u64 (l[i].v:Int)):=(aq.out.cell (p:=⟨bk,av+i*2+1,none⟩) aK).trans (by simpa using aa i l[i] (a7 ah) 1 _ rfl);have ax:=HV.out l[i] (bY ah);have ad:l.drop i=l[i] :: l.drop (i+1):=bm ah;have ae:l.take (i+1)=l.take i ++ [l[i]]:=bz ah;obtain⟨x,hx⟩:=jF (l[i]);rw[hx]at m0 m1 ax ad ae;have aS:=Jh ad;have al:=Jh ae
   have an:(stW cst0 (l.take i)).n=i:=by
    rw[stW_n,bC];show 0+_=i
    omega
   obtain⟨C,hC⟩:=jF (stW cst0 (l.take i));obtain⟨L,hL⟩:=jF (Kbz cst0 (l.take i));rw[hC]at ay HG aj an;rw[hL]at af aj;have ap:=Jh hC;have aF:=Jh hL;have HX:=Jh hx;have el:decide ((i:Int)<(n:Int))=true:=by simp;omega
   have el2:(i:Int)<(n:Int):=by omega
   clear hi ad ae hC hL hx aa;go_upto_region 5 with fail
   have ha:Below wr.heap.size wr (wr.alloc (.cells #[.int .i64 x.t,.int .u64 (x.v:Int)] 102)):=(Below.refl _ _).alloc (aZ _) _;have hq:Blk (wr.alloc (.cells #[.int .i64 x.t,.int .u64 (x.v:Int)] 102)) wr.heap.size 102 #[.int .i64 x.t,.int .u64 (x.v:Int)]:=c9 _ _ _;obtain⟨w2,az⟩:=jF (wr.alloc (.cells #[.int .i64 x.t,.int .u64 (x.v:Int)] 102));obtain⟨q,aD⟩:=jF wr.heap.size;rw[az]at ha hq;rw[az];rw[aD]at hq;rw[aD];have q0:w2.cell? ⟨q,0,none⟩=_:=hq.cell 0;have q1:w2.cell? ⟨q,1,none⟩=_:=hq.cell 1;have aw:=Jh (aj.out.far ha);have aG:=Jh (aq.out.trans (ha.mono ao));have aQ:B<=w2.heap.size:=aX ao ha.size;have aJ:=Jh (Kuk B B C L x w2 aw.out HG.out (by omega) ax (by have:=af.out;omega) aQ (aM.out.below aG.out));obtain⟨se,ag⟩:=jF (stepE C x);rw[ag]at aJ;have aW:=Jh ag;have ac:=ay.out;rw[aS.out,encE,ag]at ac;have aE:se<=92:=by (rw[<-ag];unfold stepE;repeat' split);all_goals omega
   clear ha hq az aD ag;go_wp2_with fail
   refine aJ.out.mono ?_;rintro _ w3 ⟨rfl,h5,h6,_⟩;have H5:=Jh h5;have aL:=Jh (aG.out.trans h6);have hB3:B<=w3.heap.size:=aX aQ h6.size;clear h5 h6 q0 q1
   by_cases hs0:se=0
   .subst hs0;rw[jM (by simp)]at ac;have ar:=Jh ac;clear ac;have aB:=Kwt aW.out;go_wp2_with fail
    go_roundg (gk - 1)
    case measure=>have:=HI.out;omega
    case rel=>
     refine⟨i+1,by have:=HI.out;omega,by go_num,by have:=aB.2.2.2;omega,?_,?_,?_,?_,aL.out⟩
     .rw[al.out,Kjx,ap.out];exact ar.out
     .rw[al.out,Kjx,ap.out];exact Kzd HG.out ⟨aB.1,aB.2.1,ax⟩
     .rw[al.out,Kgp,ap.out,aF.out,bd];have:=Qcc C HG.out.ok x;have:=af.out;omega
     .rw[al.out,Kjx,Kgp,ap.out,aF.out];exact H5.out trivial
   .rw[jN hs0]at ac;have e0:((se:Int) != 0)=true:=by simp;omega
    have ar:=Jh ac;have aT:=Jh hs0;clear ac;go_wp2_with fail
    go_ret2
    unfold Ker;rw[jM (by rw[am.out,<-ar.out];exact aT.out),am.out,<-ar.out];exact⟨rfl,by rw[HB.out];exact aL.out⟩
  .have el:decide ((i:Int)<(n:Int))=false:=by simp;omega
   have aV:i=n:=by have:=HI.out;omega
   subst aV;have ae:l.take i=l:=bI (by have:=ab.out;omega);have ad:l.drop i = []:=bo (by have:=ab.out;omega)
   have aH:E=0:=by have:=ay.out;rw[ad]at this;exact this.symm
   rw[ae]at aj af HG
   have an:(stW cst0 l).n=i:=by
    rw[stW_n,ab.out];show 0+_=i
    omega
   have aA:=Jh (Kxl B B _ _ wr aj.out (by omega) (by have:=af.out;omega) ao)
   have ho:Ker l=(uintT i++packB (Kbz cst0 l),0):=by unfold Ker;rw[jN (by rw[am.out,aH]),Kdb,ab.out]
   rw[an]at aA;have HO:=Jh ho;obtain⟨S,hS⟩:∃S:ByteArray,(⟨(uintT i++packB (Kbz cst0 l)).toArray⟩:ByteArray)=S:=⟨_,rfl⟩;rw[hS]at aA;have HS:=Jh hS;clear an ho hS ae ad aH;go_wp2_with fail
   refine aA.out.mono ?_;rintro _ w3 ⟨rfl,h6⟩;go_wp2_with fail
   go_ret2
   rw[HO.out,<-HS.out];exact⟨rfl,by rw[HB.out];exact aq.out.trans (h6.mono ao)⟩
end
section
open Go.RowKit
section
variable {P : Program}{ops : Array Oper}{Q : Exit -> Act -> World -> Prop}{md : b7}{S : World -> Prop}{k : Nat}
def Kce (P:Program) (md:b7) (ops:Array Oper) (Q:Exit->Act->World->Prop) (S:World->Prop) (k:Nat):Nat->Array Bool->Act->World->Prop
 | 0,L,a,w=>bN md ops L = []/\Q .normal a w
 | f+1,L,a,w=>(bN md ops L = []->Q .normal a w)/\∀i∈bN md ops L,wpOp P ops Q i (fun a' w'=>((L.setIfInBounds i true).getD k false=false->S w')/\Kce P md ops Q S k f (L.setIfInBounds i true) a' w') a w
theorem Kqh:∀(f:Nat) (L:Array Bool) (a:Act) (w:World),Kce P md ops Q S k f L a w->wpAny P md ops Q f L a w
 | 0,_,_,_,h=>h
 | f+1,_,_,_,h=>⟨h.1,fun i hi=>wpOp_mono (fun a' w' h'=>Kqh f _ a' w' h'.2) (h.2 i hi)⟩
theorem Kxh {i:Nat}{oi:Oper}{v:Value}(hi:ops[i]? = some oi) (hsel:∀(j:Nat) (o:Oper) cs b,ops[j]? = some o->o.op≠.select cs b)
  (hQ:∀c a w,Q (.panic c) (a.put oi.dst v) w->Q (.panic c) a w) (hki:k≠i) (hkw:∀ok,ops[k]? = some ok->∃e∈ok.after,bO md e=true/\e.on=i) :
  ∀(f:Nat) (L:Array Bool) (a:Act) (w:World),
   (∀j oj,ops[j]? = some oj->j≠i->L.getD j true=false->(∀e∈oj.after,bO md e=true->e.on≠i)->oi.apart ops oj=true)->
   i∈bN md ops L->YieldsIf P ops S oi v a->L.getD k false=false->S w->
   Kce P md ops Q S k f (L.setIfInBounds i true) (a.put oi.dst v) w->Kce P md ops Q S k (f+1) L a w:=by
 intro f
 induction f with
 | zero=>
  intro L a w hfree hr hy hl hS H;refine⟨fun h=>(by rw[h]at hr;cases hr),fun j hj=>?_⟩
  by_cases hji:j=i
  .subst hji;exact hy.wpOp hi hS ⟨fun _=>hS,H⟩
  .have:=ready_mono hj hji;rw[H.1]at this;cases this
 | succ f ih=>
  intro L a w hfree hr hy hl hS H;refine⟨fun h=>(by rw[h]at hr;cases hr),fun j hj=>?_⟩
  by_cases hji:j=i
  .subst hji;exact hy.wpOp hi hS ⟨fun _=>hS,H⟩
  .have h1:=H.2 j (ready_mono hj hji);obtain⟨ad,oj,ae,af⟩:=mem_ready.1 hj
   have ab:∀e∈oj.after,bO md e=true->e.on≠i:=fun e he hb heq=>by
    have h1:=af e he hb;have h0:=(mem_ready.1 hr).1;rw[heq]at h1;rcases Nat.lt_or_ge i L.size with h' | h'
    .simp[h']at h0 h1;rw[h0]at h1;cases h1
    .simp[cm h']at h1
   have ac:j≠k:=by rintro rfl;obtain⟨e,he,hb,heq⟩:=hkw oj ae;exact ab e he hb heq
   have h2:=wpOp_putIf ae (hfree j oj ae hji ad ab) (fun cs b=>hsel i oi cs b hi) (fun cs b=>hsel j oj cs b ae) hQ hy h1
   have aa:∀k ok,ops[k]? = some ok->k≠i->(L.setIfInBounds j true).getD k true=false->
     (∀e∈ok.after,bO md e=true->e.on≠i)->oi.apart ops ok=true:=fun k ok hk hki hun hno=>by
    refine hfree k ok hk hki ?_ hno
    by_cases ac:j=k
    .subst ac;exact ad
    .rw[getD_set_ne true ac]at hun;exact hun
   have ah:(L.setIfInBounds j true).getD k false=false:=by rw[getD_set_ne false ac];exact hl
   have ag:((L.setIfInBounds i true).setIfInBounds j true).getD k false=false:=by rw[getD_set_ne false ac,getD_set_ne false (db hki)];exact hl
   refine wpOp_mono (fun a' w' h3=>⟨fun _=>h3.2.1 ag,ih (L.setIfInBounds j true) a' w' aa (ready_mono hr (db hji)) h3.1 ah (h3.2.1 ag) ?_⟩) h2;rw[bt _ _ hji];exact h3.2.2
theorem Kug {i:Nat}{oi:Oper}{v:Value}(hi:ops[i]? = some oi) (hsel:∀(j:Nat) (o:Oper) cs b,ops[j]? = some o->o.op≠.select cs b)
  (hQ:∀c a w,Q (.panic c) (a.put oi.dst v) w->Q (.panic c) a w) (hki:k≠i) :
  ∀(f:Nat) (L:Array Bool) (a:Act) (w:World),
   (∀j oj,ops[j]? = some oj->j≠i->L.getD j true=false->(∀e∈oj.after,bO md e=true->e.on≠i)->oi.apart ops oj=true)->
   i∈bN md ops L->YieldsIf P ops (fun _=>True) oi v a->(L.getD k false=false->S w)->
   Kce P md ops Q S k f (L.setIfInBounds i true) (a.put oi.dst v) w->Kce P md ops Q S k (f+1) L a w:=by
 have ab:∀L:Array Bool,(L.setIfInBounds i true).getD k false=L.getD k false:=fun L=>getD_set_ne false (db hki)
 intro f
 induction f with
 | zero=>
  intro L a w hfree hr hy hS H;refine⟨fun h=>(by rw[h]at hr;cases hr),fun j hj=>?_⟩
  by_cases hji:j=i
  .subst hji;exact hy.wpOp hi trivial ⟨fun h=>hS (by rw[ab]at h;exact h),H⟩
  .have:=ready_mono hj hji;rw[H.1]at this;cases this
 | succ f ih=>
  intro L a w hfree hr hy hS H;refine⟨fun h=>(by rw[h]at hr;cases hr),fun j hj=>?_⟩
  by_cases hji:j=i
  .subst hji;exact hy.wpOp hi trivial ⟨fun h=>hS (by rw[ab]at h;exact h),H⟩
  .have h1:=H.2 j (ready_mono hj hji);obtain⟨ac,oj,af,ae⟩:=mem_ready.1 hj
   have ad:∀e∈oj.after,bO md e=true->e.on≠i:=fun e he hb heq=>by
    have h1:=ae e he hb;have h0:=(mem_ready.1 hr).1;rw[heq]at h1;rcases Nat.lt_or_ge i L.size with h' | h'
    .simp[h']at h0 h1;rw[h0]at h1;cases h1
    .simp[cm h']at h1
   have h2:=wpOp_putIf af (hfree j oj af hji ac ad) (fun cs b=>hsel i oi cs b hi) (fun cs b=>hsel j oj cs b af) hQ hy h1
   have aa:∀k ok,ops[k]? = some ok->k≠i->(L.setIfInBounds j true).getD k true=false->
     (∀e∈ok.after,bO md e=true->e.on≠i)->oi.apart ops ok=true:=fun k ok hk hki hun hno=>by
    refine hfree k ok hk hki ?_ hno
    by_cases hjk:j=k
    .subst hjk;exact ac
    .rw[getD_set_ne true hjk]at hun;exact hun
   have ag:((L.setIfInBounds i true).setIfInBounds j true).getD k false=(L.setIfInBounds j true).getD k false:=by rw[bt _ _ (db hji),ab]
   refine wpOp_mono (fun a' w' h3=>⟨fun h=>h3.2.1 (by rw[ag];exact h),ih (L.setIfInBounds j true) a' w' aa (ready_mono hr (db hji)) h3.1 (fun h=>h3.2.1 (by rw[ag];exact h)) ?_⟩) h2;rw[bt _ _ hji];exact h3.2.2
def Kxd (md:b7) (ops:Array Oper) (k i:Nat):Bool:=k != i && match ops[k]? with | some ok=>ok.after.any fun e=>bO md e && e.on == i | none=>true
theorem Kbc {i:Nat}{oi:Oper}{v:Value}{f:Nat}{L:Array Bool}{a:Act}{w:World}{d:Option Tmp}(hi:ops[i]? = some oi) (hd:oi.dst=d)
  (hs:b6 ops=true) (hf:b9 md ops L i=true) (hr:(bN md ops L).contains i=true) (hkw:Kxd md ops k i=true) (hl:L.getD k false=false)
  (hQ:∀c a w,Q (.panic c) (a.put oi.dst v) w->Q (.panic c) a w) (hy:YieldsIf P ops S oi v a) (hS:S w)
  (h:Kce P md ops Q S k f (L.setIfInBounds i true) (a.put d v) w):Kce P md ops Q S k (f+1) L a w:=by
 subst hd;simp only[Kxd,bj,bne_iff_ne,ne_eq]at hkw;refine Kxh hi (cc hs) hQ hkw.1 (fun ok hok=>?_) f L a w (ce hi hf) (by simpa using hr) hy hl hS h;have h2:=hkw.2;rw[hok]at h2;obtain⟨e,he,hb⟩:=Array.any_eq_true'.1 h2;simp only[bj,beq_iff_eq]at hb;exact⟨e,he,hb.1,hb.2⟩
theorem Kcu {i:Nat}{oi:Oper}{v:Value}{f:Nat}{L:Array Bool}{a:Act}{w:World}{d:Option Tmp}(hi:ops[i]? = some oi) (hd:oi.dst=d)
  (hs:b6 ops=true) (hf:b9 md ops L i=true) (hr:(bN md ops L).contains i=true) (hki:(k != i)=true)
  (hQ:∀c a w,Q (.panic c) (a.put oi.dst v) w->Q (.panic c) a w) (hw:bS oi (yielded ops a.tmps)=true) (hy:∀w,(execOp a.eval oi).run P w = .ok (.value v) w) (hS:L.getD k false=false->S w)
  (h:Kce P md ops Q S k f (L.setIfInBounds i true) (a.put d v) w):Kce P md ops Q S k (f+1) L a w:=by
 subst hd;exact Kug hi (cc hs) hQ (by simpa using hki) f L a w (ce hi hf) (by simpa using hr) (.inl ⟨hw,fun w _=>hy w⟩) hS h
@[irreducible] def OpW (o:Oper) (P:Program) (a:Act) (w:World) (K:Act->World->Prop) (Q:Exit->Act->World->Prop):Prop:=o.wp P a w K Q
theorem OpW.of {o:Oper}{P:Program}{a:Act}{w:World}{K:Act->World->Prop}{Q:Exit->Act->World->Prop}(h:o.wp P a w K Q):OpW o P a w K Q:=by unfold OpW;exact h
theorem OpW.out {o:Oper}{P:Program}{a:Act}{w:World}{K:Act->World->Prop}{Q:Exit->Act->World->Prop}(h:OpW o P a w K Q):o.wp P a w K Q:=by unfold OpW at h;exact h
theorem Kag {i:Nat}{o:Oper}{f:Nat}{L:Array Bool}{a:Act}{w:World}(hr0:(bN md ops L == [i])=true) (ho:ops[i]? = some o) (hg:o.guard=none)
  (h:OpW o P a w (fun a' w'=>((L.setIfInBounds i true).getD k false=false->S w')/\Kce P md ops Q S k f (L.setIfInBounds i true) a' w') Q):Kce P md ops Q S k (f+1) L a w:=by
 have hr:bN md ops L = [i]:=eq_of_beq hr0;refine⟨fun h0=>jS (hr.symm.trans h0) (by simp),fun j hj=>?_⟩;rw[hr]at hj;obtain rfl:j=i:=by simpa using hj
 unfold wpOp;simp only[ho];rw[jN (by simp[bS,hg])];exact .inl h.out
theorem Kha {i j:Nat}{o o':Oper}{f:Nat}{L:Array Bool}{a:Act}{w:World}(hr0:(bN md ops L == [i,j])=true) (ho:ops[i]? = some o) (hg:o.guard=none) (ho':ops[j]? = some o') (hg':o'.guard=none)
  (h:OpW o P a w (fun a' w'=>((L.setIfInBounds i true).getD k false=false->S w')/\Kce P md ops Q S k f (L.setIfInBounds i true) a' w') Q)
  (h':OpW o' P a w (fun a' w'=>((L.setIfInBounds j true).getD k false=false->S w')/\Kce P md ops Q S k f (L.setIfInBounds j true) a' w') Q):Kce P md ops Q S k (f+1) L a w:=by
 have hr:bN md ops L = [i,j]:=eq_of_beq hr0;refine⟨fun h0=>jS (hr.symm.trans h0) (by simp),fun l hl=>?_⟩;rw[hr]at hl;rcases (by simpa using hl:l=i\/l=j) with rfl | rfl
 .unfold wpOp;simp only[ho];rw[jN (by simp[bS,hg])];exact .inl h.out
 .unfold wpOp;simp only[ho'];rw[jN (by simp[bS,hg'])];exact .inl h'.out
theorem Kby {L:Array Bool}{a:Act}{w:World}(hr:(bN md ops L == [])=true) (h:Q .normal a w):∀f,Kce P md ops Q S k f L a w
 | 0=>⟨eq_of_beq hr,h⟩
 | _+1=>⟨fun _=>h,by rw[eq_of_beq hr];simp⟩
theorem Kck {id:Nat}{a:Act}{w:World}(S:World->Prop) (k n:Nat) (hm:P.follows .mixedOrders=true) (hn:ops.size=n)
  (h:Kce P .any ops Q S k n (Array.replicate n false) a w.drew):(Code.region id ops true).wp P Q a w:=by
 subst hn;exact wp_region_any hm (Kqh _ _ _ _ h)
theorem Oper.wp_ran {o:Oper}{a:Act}{w w':World}{v:Value}{d:Option Tmp}{K:Act->World->Prop}(hd:o.dst=d) (h:(execOp a.eval o).run P w = .ok (.value v) w') (hK:K (a.put d v) w'):OpW o P a w K Q:=.of <| by subst hd;unfold Oper.wp;rw[h];exact hK
theorem Oper.wp_skipped {o:Oper}{a:Act}{w w':World}{K:Act->World->Prop}(hd:o.dst=none) (h:(execOp a.eval o).run P w = .ok .skip w') (hK:K (a.put none undef) w'):OpW o P a w K Q:=.of <| by
 unfold Oper.wp;rw[h];show K (a.put o.dst undef) w'
 rw[hd];exact hK
theorem Oper.wp_called {o:Oper}{a:Act}{w w1:World}{g:FuncId}{args:Array Value}{d:Option Tmp}{K:Act->World->Prop}(hd:o.dst=d) (h:(execOp a.eval o).run P w = .ok (.enter g args) w1) {N:Value->World->Prop}
  (hc:Calls P g args w1 fun e w'=>∃u,e = .returned u/\N u w') (hK:∀u w',N u w'->K (a.put d u) w'):OpW o P a w K Q:=.of <| by
 subst hd;unfold Oper.wp;rw[h];refine Calls.mono hc ?_;rintro e w' ⟨u,rfl,hn⟩;exact hK u w' hn
theorem kP {i:Nat}{oi:Oper}{v:Value}{f:Nat}{L:Array Bool}{a:Act}{w:World}{d:Option Tmp}(hS:S w)
  (h:Kce P md ops Q S k f (L.setIfInBounds i true) (a.put d v) w) (hi:ops[i]? = some oi:=by rfl) (hd:oi.dst=d:=by rfl)
  (hs:b6 ops=true:=by kernel_rfl) (hf:b9 md ops L i=true:=by kernel_rfl) (hr:(bN md ops L).contains i=true:=by kernel_rfl) (hki:(k != i)=true:=by rfl)
  (hQ:∀c a w,Q (.panic c) (a.put oi.dst v) w->Q (.panic c) a w:=by exact fun _ _ _ h=>h) (hw:bS oi (yielded ops a.tmps)=true:=by rfl) (hy:∀w,(execOp a.eval oi).run P w = .ok (.value v) w:=by (intro w;go_simp;try rfl)):Kce P md ops Q S k (f+1) L a w:=
 Kcu hi hd hs hf hr hki hQ hw hy (fun _=>hS) h
end
end
section
open Go.RowKit
attribute [local go_sem ↓] Go.wp_at_zero Go.wp_at_succ
attribute [local go_sem] Later.cell
theorem Kei {w:World}{B n sz:Nat}{T:TypeId}{v:Value}{xs:List Value}(h:w.ownsRow B T sz v n xs) {p:Addr}(hp:v.ownBlock≠some p.block) (u:Value):(w.setCell p u).ownsRow B T sz v n xs:=
 h.kept (row:=some p.block) ⟨rfl,rfl,rfl,by simp[cQ],fun k _ hk=>Below.heap_setCell _ _ _ _ (fun e=>hk (by rw[e]))⟩ (.inr hp)
theorem Khp {w:World}{B n sz k:Nat}{T:TypeId}{v:Value}{xs:List Value}(h:w.ownsRow B T sz v n xs) (hk:k<B):v.ownBlock≠some k:=fun e=>by have:=(h.lt k e).1;omega
theorem Qgt {w w':World}{base:Nat}{T:TypeId}{sz n:Nat}{v:Value}{xs:List Value}(h:w.ownsRow base T sz v n xs) (hb:∀g,v.ownBlock=some g->w'.heap[g]? = w.heap[g]?):w'.ownsRow base T sz v n xs:=by
 refine⟨h.1,?_⟩;rcases h.2 with h2 | ⟨g,cap,cur,rfl,h3,h4,h5⟩
 .exact .inl h2
 .exact .inr ⟨g,cap,cur,rfl,h3,(hb g rfl).trans h4,h5⟩
def wndV (w:Wnd):Value:=.agg #[.int .i64 w.start,.int .i64 w.count,.int .u64 (w.sum:Int),.int .u64 (w.min:Int),.int .u64 (w.max:Int),.int .u64 (w.last:Int)]
def Kdj (w a:Wnd) (first:Bool):Nat:=
 if w.start<0\/1125899906842624<w.start then 91 else if first=false/\w.start<=a.start then 90 else if w.count<1\/4611686018427387904<w.count then 110 else 0
theorem Kkg (w a:Wnd) (first:Bool):Kdj w a first=0↔Kee w a first=0:=by
 unfold Kdj Kee
 split
 .simp
 .split
  .simp
  .split <;> simp
theorem Ktk (x a:Wnd) (first:Bool) (w:World) :
  Calls prog 155 #[wndV x,wndV a,.bool first] w fun e w'=>e = .returned (.int .i64 (Kdj x a first:Nat))/\Below w.heap.size w w':=by
 obtain⟨r,hr⟩:=jF (Kdj x a first)
 rw[hr];unfold Kdj at hr
 have hb:Below w.heap.size w ((w.alloc (.cells #[.int .i64 x.start,.int .i64 x.count,.int .u64 (x.sum:Int),.int .u64 (x.min:Int),.int .u64 (x.max:Int),.int .u64 (x.last:Int)] 135)).alloc (.cells #[.int .i64 a.start,.int .i64 a.count,.int .u64 (a.sum:Int),.int .u64 (a.min:Int),.int .u64 (a.max:Int),.int .u64 (a.last:Int)] 135)):=
  ((Below.refl _ _).alloc (aZ _) _).alloc (by simp) _
 have HB:=cp hb;unfold wndV
 by_cases b1:x.start<0
 .rw[jN (.inl b1)]at hr;subst hr;have d1:decide (x.start<0)=true:=jL b1;go_enter func155,ntmps155
  go_wp2_with fail
  go_ret
  exact⟨rfl,HB.out⟩
 have d1:decide (x.start<0)=false:=jJ b1
 by_cases b2:1125899906842624<x.start
 .rw[jN (.inr b2)]at hr;subst hr;have d2:decide (1125899906842624<x.start)=true:=jL b2;go_enter func155,ntmps155
  go_wp2_with fail
  go_ret
  exact⟨rfl,HB.out⟩
 have d2:decide (1125899906842624<x.start)=false:=jJ b2;rw[jM (by omega)]at hr
 by_cases b3:first=false/\x.start<=a.start
 .obtain ⟨rfl,b3⟩:=b3;rw[jN ⟨rfl,b3⟩]at hr;subst hr;have d3:decide (x.start<=a.start)=true:=jL b3;go_enter func155,ntmps155
  go_wp2_with fail
  go_ret
  exact⟨rfl,HB.out⟩
 rw[jM b3]at hr;have HF:Hid (first=true\/(first=false/\¬x.start<=a.start)):=cp (by cases first <;> simp_all);clear b3
 by_cases b4:x.count<1
 .rw[jN (.inl b4)]at hr;subst hr;have d4:decide (x.count<1)=true:=jL b4;rcases HF.out with rfl | ⟨rfl,b3⟩
  .go_enter func155,ntmps155
   go_wp2_with fail
   go_ret
   exact⟨rfl,HB.out⟩
  .have d3:decide (x.start<=a.start)=false:=jJ b3;go_enter func155,ntmps155
   go_wp2_with fail
   go_ret
   exact⟨rfl,HB.out⟩
 have d4:decide (x.count<1)=false:=jJ b4
 by_cases b5:4611686018427387904<x.count
 .rw[jN (.inr b5)]at hr;subst hr;have d5:decide (4611686018427387904<x.count)=true:=jL b5;rcases HF.out with rfl | ⟨rfl,b3⟩
  .go_enter func155,ntmps155
   go_wp2_with fail
   go_ret
   exact⟨rfl,HB.out⟩
  .have d3:decide (x.start<=a.start)=false:=jJ b3;go_enter func155,ntmps155
   go_wp2_with fail
   go_ret
   exact⟨rfl,HB.out⟩
 have d5:decide (4611686018427387904<x.count)=false:=jJ b5;rw[jM (by omega)]at hr;subst hr;rcases HF.out with rfl | ⟨rfl,b3⟩
 .go_enter func155,ntmps155
  go_wp2_with fail
  go_ret
  exact⟨rfl,HB.out⟩
 .have d3:decide (x.start<=a.start)=false:=jJ b3;go_enter func155,ntmps155
  go_wp2_with fail
  go_ret
  exact⟨rfl,HB.out⟩
def fldsV (q:Nat):Value:=.agg #[.pointer (some ⟨q,2,none⟩),.pointer (some ⟨q,3,none⟩),.pointer (some ⟨q,4,none⟩),.pointer (some ⟨q,5,none⟩)]
theorem Kkw (q:Nat) (w:World):Calls prog 154 #[.pointer (some ⟨q,0,none⟩)] w fun e w'=>e = .returned (fldsV q)/\Below w.heap.size w w':=by
 go_enter func154,ntmps154
 go_upto_region 1 with fail
 have hb:Below w.heap.size w (w.alloc (.cells #[.pointer none,.pointer none,.pointer none,.pointer none] 246)):=(Below.refl _ _).alloc (aZ _) _;have hq:Blk (w.alloc (.cells #[.pointer none,.pointer none,.pointer none,.pointer none] 246)) w.heap.size 246 #[.pointer none,.pointer none,.pointer none,.pointer none]:=c9 _ _ _;obtain⟨w1,ab⟩:=jF (w.alloc (.cells #[.pointer none,.pointer none,.pointer none,.pointer none] 246));obtain⟨p,hp⟩:=jF w.heap.size;rw[ab,hp]at hb hq;rw[ab];rw[hp];clear ab;refine Kal 13 (by kernel_rfl) (by kernel_rfl) ?_;simp only[a8,bf,bc,bg]
 repeat (go_big_quiet_step (fail))
 refine dc ?_;rintro w2 ⟨⟨_,ac⟩,rfl⟩;have aa:=hq.below ac hq.lt;have p0:w2.cell? ⟨p,0,none⟩=some (.pointer none):=aa.cell 0;have p1:w2.cell? ⟨p,1,none⟩=some (.pointer none):=aa.cell 1;have p2:w2.cell? ⟨p,2,none⟩=some (.pointer none):=aa.cell 2;have p3:w2.cell? ⟨p,3,none⟩=some (.pointer none):=aa.cell 3;have z:=aa.frozen;have z0:=z 0;have z1:=z 1;have z2:=z 2;have z3:=z 3;clear z;go_wp2_with fail
 have ae:=(((aa.set_ 0 (.pointer (some ⟨q,2,none⟩))).set_ 1 (.pointer (some ⟨q,3,none⟩))).set_ 2 (.pointer (some ⟨q,4,none⟩))).set_ 3 (.pointer (some ⟨q,5,none⟩));have ad:=((((hb.trans (ac.mono (by have:=hb.size;omega))).setCell (p:=⟨p,0,none⟩) (aZ _) (.pointer (some ⟨q,2,none⟩))).setCell (p:=⟨p,1,none⟩) (aZ _) (.pointer (some ⟨q,3,none⟩))).setCell (p:=⟨p,2,none⟩) (aZ _) (.pointer (some ⟨q,4,none⟩))).setCell (p:=⟨p,3,none⟩) (aZ _) (.pointer (some ⟨q,5,none⟩));refine bodyPost_ret (Kgo rfl _ _ ⟨p,0,none⟩ _ rfl (run_loadVar_row _ p 246 246 _ (0,0) _ ae underlying246 rfl (by kernel_rfl))) rfl ?_;exact⟨rfl,by rw[hp];exact ad⟩
end
end Go.Proofs.YtdoiekknhnbepaaGreatDoor
