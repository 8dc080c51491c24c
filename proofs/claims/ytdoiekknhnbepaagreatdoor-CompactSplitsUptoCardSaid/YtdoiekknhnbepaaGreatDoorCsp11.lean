/- Merged (what the claim wants of): CStarts, EncSealE, EncSealF, BlkPlain4, BlkPlain5, BlkTake2, KeyIter, BlkListsA, BlkListsB, BlkFitA. -/
import Derived.Test.YtdoiekknhnbepaaGreatDoorCsp10
set_option linter.unusedVariables false
set_option linter.unusedSimpArgs false
set_option maxRecDepth 1000000
set_option linter.ambiguousOpen false
set_option maxHeartbeats 8000000
namespace Go.Proofs.YtdoiekknhnbepaaGreatDoor
open List renaming getElem?_eq_getElem->ch,getD_eq_getElem?_getD->cj,getElem?_cons_zero->ck,mem_range->cl,mem_singleton->cm,mem_map->cn,nodup_append->cp,pairwise_map->cq,range->cs
open BitVec renaming toNat_ofNat->ct,ofInt_natCast->cx,toNat_xor->cy,ofInt->cF
open Value renaming int->cS,string->cV,slice->cW
open World renaming grownBy_alloc->cX,ownsRow_nil->cY
open UInt8 renaming toNat_ofNat'->c3,ofNat->c6
open Maps renaming size->c7,keyOf_int_inv->c8
open _root_.Array renaming getElem?_eq_some_iff->c9
open IntKind renaming u32->dg,wrap_u64->di,u64->dk,wrap_u32->dm
open Wnd renaming start->dq
open Smp renaming t->dr
open Blk renaming new->ds,newAt->dt
open Classical renaming byContradiction->dv
open Instr renaming entry->dw,next->dx
open Option.some renaming injEq->dy
open Result renaming andThen->dz
open Tryz
open List renaming length_append->cg,eq_nil_of_length_eq_zero->cr,take_of_length_le->cw,map_append->cz,append_assoc->cA,flatMap_append->cC,mem_map_of_mem->cH,length_map->cI,take_add_one->cJ,getElem_mem->cK,nodup_cons->cL,filter_append->cM,mem_singleton->cN,filter_eq_nil_iff->cR,flatMap_singleton->cT,mem_append->cU,length_singleton->cZ,getElem_of_mem->dc,length_take->df,filter_cons->dh,take_length->dj,append_nil->dl,filter_nil->dn,map_cons->dp
open Bool renaming and_eq_true->ci,or_eq_false_iff->cB,and_eq_false_iff->da
open Nat renaming le_refl->co,and_two_pow_sub_one_eq_mod->cD,le_of_lt->cE,shiftLeft_eq->cG,mod_eq_of_lt->cO,le_trans->cP,or_assoc->cQ,or_comm->db,lt_of_lt_of_le->dd,lt_or_ge->de
section
open Go.Shelf Go.RowKit Go.Lib Go.Sort Go.Maps
open Lib renaming hid -> Jh
attribute [local go_sem ↓] Go.wp_at_zero Go.wp_at_succ
attribute [local go_sem] Later.cell
section
def Kbn (t width:Int):Int×Int:=if width < 1\/1099511627776 < width then (0,100) else if t < 0\/1125899906842624 < t then (0,91) else (t - t % width,0)
def inT (t:Int):Bool:=decide (0<=t) && decide (t<=1125899906842624)
theorem Kdp {t:Int}:inT t=true↔0<=t/\t<=1125899906842624:=by unfold inT;rw[ci,i8,i8]
theorem Kiw (t width:Int) (h:0<=t) (h':1<=width):0<=t % width/\t % width<=t:=by refine ⟨Int.emod_nonneg _ (by omega),?_⟩;have h1:=Int.emod_add_mul_ediv t width;have h2:0<=width*(t / width):=Int.mul_nonneg (by omega) (Int.ediv_nonneg h (by omega));omega
theorem Kfv (t width:Int) (w:World) :
  Calls prog 49 #[.int .i64 t,.int .i64 width] w fun e w'=>e = .returned (.tuple #[.int .i64 (Kbn t width).1,.int .i64 (Kbn t width).2])/\w'=w:=by
 by_cases h1:width < 1
 .have hf:Hid (Kbn t width=(0,100)):=by show _=_;rw[Kbn,jf (by omega)]
  go_enter func49,ntmps49
  go_wp2
  go_ret2
  exact ⟨ret2 (vi (by rw[hf.out])) (vi (by rw[hf.out])),rfl⟩
 by_cases h2:1099511627776 < width
 .have hf:Hid (Kbn t width=(0,100)):=by show _=_;rw[Kbn,jf (by omega)]
  go_enter func49,ntmps49
  go_wp2
  go_ret2
  exact ⟨ret2 (vi (by rw[hf.out])) (vi (by rw[hf.out])),rfl⟩
 by_cases h3:t < 0
 .have hf:Hid (Kbn t width=(0,91)):=by show _=_;rw[Kbn,je (by omega),jf (by omega)]
  go_enter func49,ntmps49
  go_wp2
  go_ret2
  exact ⟨ret2 (vi (by rw[hf.out])) (vi (by rw[hf.out])),rfl⟩
 by_cases h4:1125899906842624 < t
 .have hf:Hid (Kbn t width=(0,91)):=by show _=_;rw[Kbn,je (by omega),jf (by omega)]
  go_enter func49,ntmps49
  go_wp2
  go_ret2
  exact ⟨ret2 (vi (by rw[hf.out])) (vi (by rw[hf.out])),rfl⟩
 .obtain ⟨hm1,hm2⟩:=Kiw t width (by omega) (by omega);have hf:Hid (Kbn t width=(t - t % width,0)):=by show _=_;rw[Kbn,je (by omega),je (by omega)]
  go_enter func49,ntmps49
  go_wp2
  go_ret2
  exact ⟨ret2 (vi (by rw[hf.out])) (vi (by rw[hf.out])),rfl⟩
def Knv (s:Ser):List Int:=s.samples.map dr++s.windows.map dq
def Kak (l:List Ser):List Int:=l.flatMap Knv
def Kbv (width:Int) (ts:List Int):List Int:=(ts.filter inT).map fun t=>t - t % width
theorem Keq (l:List Ser):(Kak l).length=sumS l:=by
 induction l with
 | nil=>rfl
 | cons x l ih=>
  rw[Kbo,<-ih];unfold Kak Knv;simp[List.length_flatMap];omega
theorem Kmy (l:List Ser) (s:Ser):Kak (l ++ [s])=Kak l++s.samples.map dr++s.windows.map dq:=by unfold Kak Knv;simp[cC]
theorem Keu (width:Int) (ts:List Int):(Kbv width ts).length<=ts.length:=by unfold Kbv;rw[cI];exact List.length_filter_le _ _
structure Kcd (width:Int) (ts L:List Int):Prop where
 asc:L.Pairwise fun a b=>a < b
 mem:∀x,x∈L↔x∈Kbv width ts
def Kbd (width:Int) (f:Int->Option Int) (ts:List Int):Prop:=∀x,(f x).isSome=true↔x∈Kbv width ts
theorem Kbd.nil (width:Int):Kbd width (fun _=>none) []:=fun x=>by simp[Kbv]
theorem Kbd.add {width:Int} {f:Int->Option Int} {ts:List Int} (h:Kbd width f ts) {t:Int} (ht:inT t=true) (u:Int):Kbd width (updI f (t - t % width) u) (ts ++ [t]):=fun x=>by
 unfold updI;have e:Kbv width (ts ++ [t])=Kbv width ts ++ [t - t % width]:=by unfold Kbv;rw[cM,cz];simp[ht]
 rw[e,cU,cN]
 by_cases hx:x=t - t % width
 .rw[jf hx];simp[hx]
 .rw[je hx,h x];simp[hx]
theorem Kbd.skip {width:Int} {f:Int->Option Int} {ts:List Int} (h:Kbd width f ts) {t:Int} (ht:inT t=false):Kbd width f (ts ++ [t]):=fun x=>by
 have e:Kbv width (ts ++ [t])=Kbv width ts:=by unfold Kbv;rw[cM,cz];simp[ht]
 rw[e];exact h x
theorem Kzz:∀{l:List Ser} {i:Nat} {s:Ser},l[i]? = some s->sumS (l.take i)+(s.samples.length+s.windows.length)<=sumS l
 | [],i,s,h=>by simp at h
 | x :: l,0,s,h=>by simp only[ck,dy] at h;subst h;rw[Kbo];simp[sumS]
 | x :: l,i+1,s,h=>by have:=Kzz (l:=l) (i:=i) (s:=s) (by simpa using h);rw[List.take_succ_cons,Kbo,Kbo];omega
def encZ1 (x:Int):List Value:=[.int .i64 x]
theorem Qdd (l:List Int):l.flatMap encZ1=l.map (cS .i64):=by
 induction l with
 | nil=>rfl
 | cons x l ih=>rw[List.flatMap_cons,ih];rfl
theorem Qfa (w:World):(zeroValue 3).run prog w = .ok (.int .i64 0) w:=by kernel_rfl
theorem Qdn:(prog.info? 2).map (fun i=>(i.zero,i.size,i.bytes))=some (some (.int .i64 0),1,8):=by kernel_rfl
theorem hK64:prog.underlying 2 = some (.int .i64):=underlying2
theorem hT64:prog.underlying 216 = some (.map 2 3):=underlying216
theorem Qix {w:World} {base g cap n:Nat} {l:List Int} (h:w.ownsRow base 2 1 (.slice (some ⟨g,0,none⟩) n cap) n (l.map (cS .i64))) (hn:l.length=n):Holds (cS .i64) w g 0 l.toArray/\∃cur,w.heap[g]? = some (.cells cur 2 (0,0))/\n<=cap/\cap<=maxLen/\cur.size=cap*1:=by
 rcases h.2 with ⟨he,_⟩ | ⟨g',cap',cur,he,h1,h2,h3,h4,h5,h6⟩
 .cases he
 .injection he with he _ hcc;injection he with he;injection he with he _ _;subst he hcc;refine ⟨fun t ht=>?_,cur,h2,h3,h4,h5⟩;have aa:t < l.length:=by simpa using ht
  refine ⟨?_,by simp[World.frozen?,h2]⟩;rw[Nat.zero_add,cell_of_row w g t cur _ (0,0) h2]
  have e1:cur[t]? = (l.map (cS .i64))[t]?:=by rw[<-h6,List.getElem?_take_of_lt (by rw[Nat.mul_one,<-hn];exact aa)];simp
  rw[e1];simp[aa]
theorem Kwp (width:Int) (hw:1<=width/\width<=1099511627776) (A:Option Addr) (n c:Nat) (ss:List Ser) (w0:World) (h:SersZ w0 A n ss) (hsum:sumS ss<=137438953472) :
  Calls prog 50 #[.int .i64 width,.slice A n c] w0 fun e w'=>∃(A':Option Addr) (n' c':Nat) (L:List Int),e = .returned (.slice A' n' c')/\Kcd width (Kak ss) L/\L.length=n'/\Elems w' w'.heap.size 1 encZ1 A' n' L/\n'<=c'/\Below w0.heap.size w0 w':=by
 obtain ⟨ib,b1,b5,bQ,aB⟩:=info_parts Qdn;obtain ⟨bJ,hE,b2,bL⟩:=h.s;have hn:=h.n;have HE:=Jh hE;have bS:=Jh b2;have cd:=Jh bL;have HZ:=Jh h.z;have aJ:=Jh hsum;obtain ⟨b,hb⟩:=iZ w0.heap.size;have aE:Hid (w0.heap.size=b):=hb;clear hE b2 bL h hsum;have a0:=@run_makeMap prog;go_enter func50,ntmps50
 go_upto_region 2 with fail
 clear a0;obtain ⟨wa,bi⟩:=i7 (w0.alloc (.map #[] 0));have HM:Hid (IMap prog 2 wa b (fun _=>none)):=by show IMap _ _ _ _ _;rw[bi,<-hb];exact IMap.made w0
 have HB:Hid (Below b w0 wa):=by show Below _ _ _;rw[bi,<-hb];exact (Below.refl _ _).alloc (co _) _
 have HK:Hid (Kbd width (fun _=>none) (Kak (ss.take 0))):=Kbd.nil width;rw[<-bi]
 try rw[hb]
 clear bi hb;go_wp2_with fail
 go_loopg [21] n (fun kx s21 wr=>∃(i:Nat) (f:Int->Option Int),s21 = .int .i64 (i:Int)/\i+kx=n/\Hid (Below b w0 wr)/\Hid (IMap prog 2 wr b f)/\Hid (Kbd width f (Kak (ss.take i))))
 case atStart=>exact ⟨0,_,rfl,by omega,HB,HM,HK⟩
 case round=>
  clear HB HM HK;obtain ⟨i,f,rfl,hi,HB,HM,HK⟩:=hrel;rcases de i n with hlt | hge
  .have a3:(i:Int) < (n:Int):=by omega
   obtain ⟨b0,ao,cc,bl,bg⟩:=HE.out.2 (by omega);have bh:=HE.out.len;obtain ⟨h,hh⟩:∃h,bJ[i]? = some h:=⟨bJ[i]'(by omega),ch _⟩;obtain ⟨s,bB⟩:∃s,ss[i]! = s:=⟨_,rfl⟩;have aw:=cd.out i h hh;rw[bB] at aw;have bp:ss[i]? = some s:=by rw[<-bB,i9 ss i (by rw[bS.out];exact hlt)];exact ch _
   have b7:Hid (Kak (ss.take (i+1))=Kak (ss.take i)++s.samples.map dr++s.windows.map dq):=by
    show _=_
    rw[cJ,bp];exact Kmy _ _
   have aI:Hid (sumS (ss.take i)+(s.samples.length+s.windows.length)<=137438953472):=cP (Kzz bp) aJ.out;have aa:∀r v,r < 3->(encH3 h)[r]? = some v->wr.cell? ⟨b0,ao+i*3+r,none⟩=some v:=fun r v _ hv=>(HB.out.cell (p:=⟨b0,ao+i*3+r,none⟩) (by rw[<-aE.out];exact bl)).trans (bg i h hh r v hv)
   have bo:b0 < wr.heap.size:=Nat.lt_trans (by rw[<-aE.out];exact bl) HM.out.lt;subst cc;obtain ⟨lA,bR⟩:=i7 h.l.A;obtain ⟨ln,bM⟩:=i7 h.l.n;obtain ⟨lc,bY⟩:=i7 h.l.c;obtain ⟨sA,bE⟩:=i7 h.s.A;obtain ⟨sn,bx⟩:=i7 h.s.n;obtain ⟨sc,bX⟩:=i7 h.s.c;obtain ⟨wA,bw⟩:=i7 h.w.A;obtain ⟨wn,bj⟩:=i7 h.w.n;obtain ⟨wc,bI⟩:=i7 h.w.c;have k0:wr.cell? ⟨b0,ao+i*3,none⟩=some (.slice lA ln lc):=by rw[bR,bM,bY];exact aa 0 _ (by decide) rfl
   have k1:wr.cell? ⟨b0,ao+i*3+1,none⟩=some (.slice sA sn sc):=by rw[bE,bx,bX];exact aa 1 _ (by decide) rfl
   have k2:wr.cell? ⟨b0,ao+i*3+2,none⟩=some (.slice wA wn wc):=by rw[bw,bj,bI];exact aa 2 _ (by decide) rfl
   have bn:Hid (Elems w0 w0.heap.size 2 Kac sA sn s.samples):=by show Elems _ _ _ _ _ _ _;rw[bE,bx];exact aw.s
   have bs:Hid (Elems w0 w0.heap.size 6 Kad wA wn s.windows):=by show Elems _ _ _ _ _ _ _;rw[bw,bj];exact aw.w
   have hls:=bn.out.len;have hlw:=bs.out.len;have hsz:sn<=137438953472/\wn<=137438953472:=by have:=aI.out;omega
   clear bg bh hh bB aw bp aa bl bR bM bY bE bx bX bw bj bI;go_upto_region 5 with fail
   obtain ⟨wx,a5⟩:=i7 (wr.alloc (.cells #[.slice lA ln lc,.slice sA sn sc,.slice wA wn wc] 58));obtain ⟨p1,be⟩:=i7 wr.heap.size;have b4:Hid (b < p1):=by show _ < _;rw[be];exact HM.out.lt
   have ah:Hid (Blk wx p1 58 #[.slice lA ln lc,.slice sA sn sc,.slice wA wn wc]):=by show Blk _ _ _ _;rw[a5,be];exact ds _ _ _
   have bZ:Hid (Below b w0 wx):=by show Below _ _ _;rw[a5];exact HB.out.alloc (cE HM.out.lt) _
   have bU:Hid (IMap prog 2 wx b f):=by show IMap _ _ _ _ _;rw[a5];exact HM.out.grown (cX wr _ none) (by simp)
   rw[<-a5,<-be];have l1:=ah.out.cell 1;simp at l1;have bD:=ah.out.lt;clear a5 be HB HM k0 k1 k2 bo;go_wp2_with fail
   clear l1 bD;have HB:=bZ;have HM:=bU;clear bZ bU;go_loopg [28] sn (fun kx sj wr=>∃(j:Nat) (f:Int->Option Int),sj = .int .i64 (j:Int)/\j+kx=sn/\Hid (Below b w0 wr)/\Hid (Blk wr p1 58 #[.slice lA ln lc,.slice sA sn sc,.slice wA wn wc])/\Hid (IMap prog 2 wr b f)/\Hid (Kbd width f (Kak (ss.take i)++(s.samples.take j).map dr)))
   case atStart=>exact ⟨0,f,rfl,by omega,HB,ah,HM,(show Kbd _ _ _ by have:=HK.out;simpa using this)⟩
   case round=>
    clear HB ah HM HK;clear f;obtain ⟨j,f,rfl,hj,HB,ah,HM,HK⟩:=hrel;rcases de j sn with hlt | hge
    .have a3:(j:Int) < (sn:Int):=by omega
     obtain ⟨bb,af,hA,aF,hc⟩:=bn.out.2 (by omega);have hl:=bn.out.len;obtain ⟨y,hy⟩:∃y,s.samples[j]? = some y:=⟨s.samples[j]'(by omega),ch _⟩;have aa:∀r v,r < 2->(Kac y)[r]? = some v->wr.cell? ⟨bb,af+j*2+r,none⟩=some v:=fun r v _ hv=>(HB.out.cell (p:=⟨bb,af+j*2+r,none⟩) (by rw[<-aE.out];exact aF)).trans (hc j y hy r v hv)
     have aS:Hid (Kak (ss.take i)++(s.samples.take (j+1)).map dr=(Kak (ss.take i)++(s.samples.take j).map dr) ++ [dr y]):=by
      show _=_
      rw[cJ,hy,cz,<-cA];rfl
     have aQ:Hid ((Kak (ss.take i)++(s.samples.take j).map dr).length<=137438953472):=by
      show _<=_
      have h1:=aI.out;rw[<-Keq] at h1;simp only[cg,cI,df];omega
     subst hA;obtain ⟨y1,y2⟩:=y;dsimp only at aS;have k0:wr.cell? ⟨bb,af+j*2,none⟩=some (.int .i64 y1):=aa 0 _ (by decide) rfl;have k1:wr.cell? ⟨bb,af+j*2+1,none⟩=some (.int .u64 (y2:Int)):=aa 1 _ (by decide) rfl;have aP:bb < wr.heap.size:=dd aF (by rw[aE.out];exact cP (cE HM.out.lt) (co _));clear hc hl aa hy aF;go_upto_region 8 with fail
     obtain ⟨wb,ak⟩:=i7 (wr.alloc (.cells #[.int .i64 y1,.int .u64 (y2:Int)] 102));obtain ⟨p3,aN⟩:=i7 wr.heap.size;have aO:Hid (Blk wb p3 102 #[.int .i64 y1,.int .u64 (y2:Int)]):=by show Blk _ _ _ _;rw[ak,aN];exact ds _ _ _
     have aG:wr.grownBy wb none:=by rw[ak];exact cX wr _ none
     have aR:Hid (Below b w0 wb):=by show Below _ _ _;rw[ak];exact HB.out.alloc (cE HM.out.lt) _
     have aL:Hid (Blk wb p1 58 #[.slice lA ln lc,.slice (some ⟨bb,af,none⟩) sn sc,.slice wA wn wc]):=ah.out.grown aG (by simp);have an:Hid (IMap prog 2 wb b f):=HM.out.grown aG (by simp);rw[<-ak,<-aN];have q0:=aO.out.cell 0;simp at q0;have aM:=aO.out.lt;clear ak aN aG HB ah HM aP k0 k1;obtain ⟨z,hz⟩:=i7 ((Kbn y1 width).1);obtain ⟨er,aq⟩:=i7 ((Kbn y1 width).2)
     have av:Hid (∀W,Calls prog 49 #[.int .i64 y1,.int .i64 width] W fun e w'=>e = .returned (.tuple #[.int .i64 z,.int .i64 er])/\w'=W):=fun W=>by rw[hz,aq];exact Kfv y1 width W
     cases hin:inT y1 with
     | false=>
      obtain rfl:er=91:=by
       have h1:=hin;rw[aq,Kbn,je (by omega),jf];refine dv fun hq=>?_
       rw[Kdp.2 (by omega)] at h1;cases h1
      have al:Hid (Kbd width f (Kak (ss.take i)++(s.samples.take (j+1)).map dr)):=by show Kbd _ _ _;rw[aS.out];exact HK.out.skip hin
      clear hz aq hin HK;go_wp2_with fail
      refine (av.out wb).mono ?_;rintro _ w5 ⟨rfl,rfl⟩;go_wp2_with fail
      go_roundg (sn - (j+1))
      case measure=>omega
      case rel=>exact ⟨j+1,f,by first | rfl | go_num,by omega,aR,aL,an,al⟩
     | true=>
      have aK:=Kdp.1 hin;have aT:Kbn y1 width=(y1 - y1 % width,0):=by rw[Kbn,je (by omega),je (by omega)]
      obtain rfl:er=0:=by rw[aq,aT]
      obtain rfl:z=y1 - y1 % width:=by rw[hz,aT]
      have a0:=Kiw y1 width (by omega) (by omega);have aU:(Lit.int .i64 (y1 - y1 % width)).wf=true:=wfI (by omega) (by omega);have al:Hid (∀u,Kbd width (updI f (y1 - y1 % width) u) (Kak (ss.take i)++(s.samples.take (j+1)).map dr)):=fun u=>by rw[aS.out];exact HK.out.add hin u
      obtain ⟨z,aB⟩:=i7 (y1 - y1 % width);rw[<-aB] at av al aU;clear hz aq hin aK aT a0 aB;have aY:=Jh aU;clear aU;go_wp2_with fail
      refine (av.out wb).mono ?_;rintro _ w5 ⟨rfl,rfl⟩;clear av q0 aM aO
      go_wp2_with (first
       | (at_lookup;refine Klz (T:=216) _ rfl _ _ rfl hK64 hT64 (Qfa _) rfl an.out rfl aY.out ?_)
       | (at_mapUpdate;refine Kna _ rfl _ _ _ rfl hK64 hT64 rfl an.out rfl aY.out _ rfl (Kbv width (Kak (ss.take i)++(s.samples.take j).map dr)) (fun x hx=>(HK.out x).1 hx) (by have h1:=Keu width (Kak (ss.take i)++(s.samples.take j).map dr);have h2:=aQ.out;unfold maxLen;omega) ?_;intro w6 hI6 hg6 hs6))
      have ab:∀k,some b=some k->b<=k:=fun k hk=>by injection hk with hk;omega
      have bq:Hid (Below b w0 w6):=aR.out.grown hg6 (cE an.out.lt) ab;have bC:Hid (Blk w6 p1 58 #[.slice lA ln lc,.slice (some ⟨bb,af,none⟩) sn sc,.slice wA wn wc]):=aL.out.grown hg6 (fun e=>by injection e with e;have:=b4.out;omega);obtain ⟨u6,a1⟩:∃u,IMap prog 2 w6 b (updI f z u):=⟨_,hI6⟩;have bm:=Jh a1;have br:=Jh (al.out u6);clear hI6 a1 hg6 hs6 ab aR aL an HK al;go_wp2_with fail
      go_roundg (sn - (j+1))
      case measure=>omega
      case rel=>exact ⟨j+1,_,by first | rfl | go_num,by omega,bq,bC,bm,br⟩
    .have a3:¬(j:Int) < (sn:Int):=by omega
     have aW:Hid (Kbd width f (Kak (ss.take i)++s.samples.map dr)):=by
      show Kbd _ _ _
      have h1:=HK.out;rw[cw (show s.samples.length<=j by omega)] at h1;exact h1
     have l2:=ah.out.cell 2;simp at l2;have bD:=ah.out.lt;clear HK;have HK:=aW;clear aW;go_wp2_with fail
     clear l2 bD;go_loopg [49] wn (fun kx sj wr=>∃(j:Nat) (f:Int->Option Int),sj = .int .i64 (j:Int)/\j+kx=wn/\Hid (Below b w0 wr)/\Hid (Blk wr p1 58 #[.slice lA ln lc,.slice sA sn sc,.slice wA wn wc])/\Hid (IMap prog 2 wr b f)/\Hid (Kbd width f ((Kak (ss.take i)++s.samples.map dr)++(s.windows.take j).map dq)))
     case atStart=>exact ⟨0,f,rfl,by omega,HB,ah,HM,(show Kbd _ _ _ by have:=HK.out;simpa using this)⟩
     case round=>
      clear HB ah HM HK;clear f;obtain ⟨j,f,rfl,hj,HB,ah,HM,HK⟩:=hrel;rcases de j wn with hlt | hge
      .have a3:(j:Int) < (wn:Int):=by omega
       obtain ⟨bb,af,hA,aF,hc⟩:=bs.out.2 (by omega);have hl:=bs.out.len;obtain ⟨y,hy⟩:∃y,s.windows[j]? = some y:=⟨s.windows[j]'(by omega),ch _⟩;have aa:∀r v,r < 6->(Kad y)[r]? = some v->wr.cell? ⟨bb,af+j*6+r,none⟩=some v:=fun r v _ hv=>(HB.out.cell (p:=⟨bb,af+j*6+r,none⟩) (by rw[<-aE.out];exact aF)).trans (hc j y hy r v hv)
       have aS:Hid ((Kak (ss.take i)++s.samples.map dr)++(s.windows.take (j+1)).map dq=((Kak (ss.take i)++s.samples.map dr)++(s.windows.take j).map dq) ++ [dq y]):=by
        show _=_
        rw[cJ,hy,cz,<-cA];rfl
       have aQ:Hid (((Kak (ss.take i)++s.samples.map dr)++(s.windows.take j).map dq).length<=137438953472):=by
        show _<=_
        have h1:=aI.out;rw[<-Keq] at h1;simp only[cg,cI,df];omega
       subst hA;obtain ⟨y1,y2,y3,y4,y5,y6⟩:=y;dsimp only at aS;have k0:wr.cell? ⟨bb,af+j*6,none⟩=some (.int .i64 y1):=aa 0 _ (by decide) rfl;have k1:wr.cell? ⟨bb,af+j*6+1,none⟩=some (.int .i64 y2):=aa 1 _ (by decide) rfl;have k2:wr.cell? ⟨bb,af+j*6+2,none⟩=some (.int .u64 (y3:Int)):=aa 2 _ (by decide) rfl;have k3:wr.cell? ⟨bb,af+j*6+3,none⟩=some (.int .u64 (y4:Int)):=aa 3 _ (by decide) rfl;have k4:wr.cell? ⟨bb,af+j*6+4,none⟩=some (.int .u64 (y5:Int)):=aa 4 _ (by decide) rfl;have k5:wr.cell? ⟨bb,af+j*6+5,none⟩=some (.int .u64 (y6:Int)):=aa 5 _ (by decide) rfl;have aP:bb < wr.heap.size:=dd aF (by rw[aE.out];exact cP (cE HM.out.lt) (co _));clear hc hl aa hy aF;go_upto_region 15 with fail
       obtain ⟨wb,ak⟩:=i7 (wr.alloc (.cells #[.int .i64 y1,.int .i64 y2,.int .u64 (y3:Int),.int .u64 (y4:Int),.int .u64 (y5:Int),.int .u64 (y6:Int)] 135));obtain ⟨p3,aN⟩:=i7 wr.heap.size;have aO:Hid (Blk wb p3 135 #[.int .i64 y1,.int .i64 y2,.int .u64 (y3:Int),.int .u64 (y4:Int),.int .u64 (y5:Int),.int .u64 (y6:Int)]):=by show Blk _ _ _ _;rw[ak,aN];exact ds _ _ _
       have aG:wr.grownBy wb none:=by rw[ak];exact cX wr _ none
       have aR:Hid (Below b w0 wb):=by show Below _ _ _;rw[ak];exact HB.out.alloc (cE HM.out.lt) _
       have aL:Hid (Blk wb p1 58 #[.slice lA ln lc,.slice sA sn sc,.slice (some ⟨bb,af,none⟩) wn wc]):=ah.out.grown aG (by simp);have an:Hid (IMap prog 2 wb b f):=HM.out.grown aG (by simp);rw[<-ak,<-aN];have q0:=aO.out.cell 0;simp at q0;have aM:=aO.out.lt;clear ak aN aG HB ah HM aP k0 k1 k2 k3 k4 k5;obtain ⟨z,hz⟩:=i7 ((Kbn y1 width).1);obtain ⟨er,aq⟩:=i7 ((Kbn y1 width).2)
       have av:Hid (∀W,Calls prog 49 #[.int .i64 y1,.int .i64 width] W fun e w'=>e = .returned (.tuple #[.int .i64 z,.int .i64 er])/\w'=W):=fun W=>by rw[hz,aq];exact Kfv y1 width W
       cases hin:inT y1 with
       | false=>
        obtain rfl:er=91:=by
         have h1:=hin;rw[aq,Kbn,je (by omega),jf];refine dv fun hq=>?_
         rw[Kdp.2 (by omega)] at h1;cases h1
        have al:Hid (Kbd width f ((Kak (ss.take i)++s.samples.map dr)++(s.windows.take (j+1)).map dq)):=by show Kbd _ _ _;rw[aS.out];exact HK.out.skip hin
        clear hz aq hin HK;go_wp2_with fail
        refine (av.out wb).mono ?_;rintro _ w5 ⟨rfl,rfl⟩;go_wp2_with fail
        go_roundg (wn - (j+1))
        case measure=>omega
        case rel=>exact ⟨j+1,f,by first | rfl | go_num,by omega,aR,aL,an,al⟩
       | true=>
        have aK:=Kdp.1 hin;have aT:Kbn y1 width=(y1 - y1 % width,0):=by rw[Kbn,je (by omega),je (by omega)]
        obtain rfl:er=0:=by rw[aq,aT]
        obtain rfl:z=y1 - y1 % width:=by rw[hz,aT]
        have a0:=Kiw y1 width (by omega) (by omega);have aU:(Lit.int .i64 (y1 - y1 % width)).wf=true:=wfI (by omega) (by omega);have al:Hid (∀u,Kbd width (updI f (y1 - y1 % width) u) ((Kak (ss.take i)++s.samples.map dr)++(s.windows.take (j+1)).map dq)):=fun u=>by rw[aS.out];exact HK.out.add hin u
        obtain ⟨z,aB⟩:=i7 (y1 - y1 % width);rw[<-aB] at av al aU;clear hz aq hin aK aT a0 aB;have aY:=Jh aU;clear aU;go_wp2_with fail
        refine (av.out wb).mono ?_;rintro _ w5 ⟨rfl,rfl⟩;clear av q0 aM aO
        go_wp2_with (first
         | (at_lookup;refine Klz (T:=216) _ rfl _ _ rfl hK64 hT64 (Qfa _) rfl an.out rfl aY.out ?_)
         | (at_mapUpdate;refine Kna _ rfl _ _ _ rfl hK64 hT64 rfl an.out rfl aY.out _ rfl (Kbv width ((Kak (ss.take i)++s.samples.map dr)++(s.windows.take j).map dq)) (fun x hx=>(HK.out x).1 hx) (by have h1:=Keu width ((Kak (ss.take i)++s.samples.map dr)++(s.windows.take j).map dq);have h2:=aQ.out;unfold maxLen;omega) ?_;intro w6 hI6 hg6 hs6))
        have ab:∀k,some b=some k->b<=k:=fun k hk=>by injection hk with hk;omega
        have bq:Hid (Below b w0 w6):=aR.out.grown hg6 (cE an.out.lt) ab;have bC:Hid (Blk w6 p1 58 #[.slice lA ln lc,.slice sA sn sc,.slice (some ⟨bb,af,none⟩) wn wc]):=aL.out.grown hg6 (fun e=>by injection e with e;have:=b4.out;omega);obtain ⟨u6,a1⟩:∃u,IMap prog 2 w6 b (updI f z u):=⟨_,hI6⟩;have bm:=Jh a1;have br:=Jh (al.out u6);clear hI6 a1 hg6 hs6 ab aR aL an HK al;go_wp2_with fail
        go_roundg (wn - (j+1))
        case measure=>omega
        case rel=>exact ⟨j+1,_,by first | rfl | go_num,by omega,bq,bC,bm,br⟩
      .have a3:¬(j:Int) < (wn:Int):=by omega
       have b8:Hid (Kbd width f (Kak (ss.take (i+1)))):=by
        show Kbd _ _ _
        have h1:=HK.out;rw[cw (show s.windows.length<=j by omega),<-b7.out] at h1;exact h1
       go_wp2_with fail
       go_roundg (n - (i+1))
       case measure=>omega
       case rel=>exact ⟨i+1,f,by first | rfl | go_num,by omega,HB,HM,b8⟩
  .have a3:¬(i:Int) < (n:Int):=by omega
   have aW:Hid (Kbd width f (Kak ss)):=by
    show Kbd _ _ _
    have h1:=HK.out;rw[cw (by rw[bS.out];omega)] at h1;exact h1
   obtain ⟨D,ax,aH,_⟩:=HM.out;have a7:=Jh aH
   have hdz:c7 D<=137438953472:=by
    have h1:=IMap.size_le hK64 ax (Kbv width (Kak ss)) fun x hx=>(aW.out x).1 (by rw[<-aH];exact hx)
    have h2:=Keu width (Kak ss);have h3:=aJ.out;rw[Keq] at h2;omega
   have bP:=HB;have aP:=ax.lt;clear HK HM HB aH hi hge;go_wp2_with (at_range;refine wpList_range_own _ rfl _ 216 rfl 2 3 (int_keyed hK64) hT64 HRi b (c7 D) D rfl ax ?_;intro w1 hrg0 hg0 hsz0)
   obtain ⟨r,hr⟩:=iZ wr.heap.size;have bH:Below b w0 w1:=bP.out.grown hg0 (cE aP) (fun k hk=>by cases hk);have hrl:b < r:=by rw[<-hr];exact aP
   rw[hr] at hrg0 |-;clear hr hsz0 hg0 bP ax aP
   try go_frame
   obtain ⟨wo,rfl⟩:=i7 wr;go_loopg [16] (c7 D) (fun g s16 wr=>∃(left:Lit->Bool) (cnt:Nat) (out:List Int) (v5:Value),v5=s16/\cnt<=g/\Hid (wr.ranges prog 2 HRi b r (c7 D) D left cnt)/\Hid (wr.ownsRow (r+1) 2 1 v5 out.length (out.map (cS .i64)))/\Hid out.Nodup/\Hid (∀x,x∈out↔(f x).isSome=true/\left (.int .i64 x)=false)/\Hid (Below b w0 wr)/\out.length<=137438953472)
   case atStart=>
    refine ⟨Maps.has D,c7 D,[],_,rfl,co _,hrg0,(show Hid _ from cY _ _ _ _),List.nodup_nil,(show ∀x,_ from fun x=>?_),bH,by simp⟩;rw[a7.out x];cases (f x).isSome <;> simp
   case round=>
    clear hrg0 bH;obtain ⟨left,cnt,out,v5,rfl,hcg,bc,ag,bF,am,HB,ca⟩:=hrel;obtain ⟨A5,c5,rfl⟩:=Kag ag.out;obtain ⟨m,hm⟩:=iZ out.length;have HM:=Jh hm;rw[hm] at ag ca |-;clear hm;go_wp2_with (at_next;refine wpList_next_ranges _ rfl _ rfl 2 (int_keyed hK64) HRi (cS .i64) (fun v:Value=>v) (fun key kl hk=>by obtain ⟨x,e,_⟩:=c8 hK64 hk;exact ⟨_,e⟩) (fun v _ _=>⟨v,rfl⟩) b r (c7 D) D left cnt rfl bc.out ?_ ?_)
    .intro bg bh;have bO:Hid (∀x,x∈out↔x∈Kbv width (Kak ss)):=fun x=>by rw[am.out x,bh,<-aW.out x];simp
     clear bh bg am bc
     by_cases hm0:m=0
     .subst hm0;obtain rfl:out = []:=cr HM.out;go_wp2_with fail
      refine (Tryz.slices_Sort_int_none A5 c5 wr).mono ?_;rintro e w3 ⟨rfl,rfl⟩;go_wp2_with fail
      go_ret
      exact ⟨A5,0,c5,[],rfl,⟨List.Pairwise.nil,bO.out⟩,rfl,⟨rfl,fun h=>jl h (by omega)⟩,Nat.zero_le _,by rw[aE.out];exact HB.out⟩
     .obtain ⟨g,rfl⟩:∃g,A5=some ⟨g,0,none⟩:=by
       rcases ag.out.2 with ⟨h1,h2⟩ | ⟨g,cap,bG,h1,_⟩
       .exact jl h2 hm0
       .injection h1 with h1;exact ⟨g,h1⟩
      have ac:=ag.out.lt g rfl;obtain ⟨ay,bG,ad,aV,a2,ae⟩:=Qix ag.out HM.out;have ar:=Tryz.slices_Sort_int g 0 c5 out wr ay ac.2 (by rw[HM.out];omega);rw[HM.out] at ar;have HS:=Jh ar;have ba:=Jh (⟨ad,aV,a2,ae,ac⟩:(wr.heap[g]? = some (.cells bG 2 (0,0))/\m<=c5/\c5<=maxLen/\bG.size=c5*1/\_));clear ar ay ad aV a2 ae ac;go_wp2_with fail
      refine HS.out.mono ?_;rintro e w3 ⟨rfl,q,os,bf⟩;obtain ⟨ad,aV,a2,ae,ac⟩:=ba.out;obtain ⟨z,hz⟩:=iZ (out.mergeSort (fun x y=>decide (x<=y)));rw[hz] at bf;have bd:z.length=out.length:=by rw[<-hz,List.length_mergeSort]
      have aj:z.Perm out:=by rw[<-hz];exact List.mergeSort_perm out _
      have a4:z.Pairwise fun a b=>a < b:=by
       have h1:z.Pairwise (fun a b=>a<=b):=by have:=List.pairwise_mergeSort (le:=fun x y:Int=>decide (x<=y)) (by intro a b c;simp;omega) (by intro a b;simp;omega) out;rw[hz] at this;simpa using this
       refine (h1.and ((aj.nodup_iff).2 bF.out)).imp ?_;rintro a b ⟨h1,h2⟩;omega
      have ai:w3.ownsRow (r+1) 2 1 (.slice (some ⟨g,0,none⟩) m c5) m (z.map (cS .i64)):=by have:=ownsRow_sortedI (n:=q) (os:=os) (ss:=out) (ts:=z) (base:=r+1) (cap:=c5) bd ac.1 ad (by rw[HM.out];exact aV) a2 ae;rw[<-bf,HM.out] at this;exact this
      have bN:wr.grownBy w3 (some g):=by rw[bf];exact grownBy_sortedI _
      have bK:Below b w0 w3:=HB.out.grown bN (by have:=ac.1;have:=ac.2;omega) (fun k hk=>by injection hk with hk;have:=ac.1;omega);rw[<-Qdd] at ai;obtain ⟨A4,c4,e4,b3,cf,_⟩:=Elems.of_own (xs:=z) (enc:=encZ1) (fun _ _=>rfl) rfl ai (by rw[bd,HM.out]);injection e4 with e4 e5 e6;subst e4 e6
      have bA:Hid (∃(A':Option Addr) (n' c':Nat) (L:List Int),Ending.returned (cW (some ⟨g,0,none⟩) m c5)=Ending.returned (cW A' n' c')/\Kcd width (Kak ss) L/\L.length=n'/\Elems w3 w3.heap.size 1 encZ1 A' n' L/\n'<=c'/\Below w0.heap.size w0 w3):=
       ⟨some ⟨g,0,none⟩,m,c5,z,rfl,⟨a4,fun x=>by rw[aj.mem_iff];exact bO.out x⟩,by rw[bd,HM.out],b3,aV,by rw[aE.out];exact bK⟩
      clear b3 cf ai bN bK ad ae a2 aV ac a4 aj bd hz bf HS ba;go_wp2_with fail
      go_ret
      exact bA.out
    .intro x cv kl y2 y3 w2 cnt2 hkx hlk hv hat2 hrg2 hlt hg2 hs2 hen;clear hs2 hv;obtain ⟨k,e1,rfl,_⟩:=c8 hK64 hkx;obtain rfl:x=k:=by injection e1
     have bT:(f x).isSome=true:=by rw[<-a7.out x];exact Maps.has_true_of_atKey hat2
     have bW:Hid (Below b w0 w2):=HB.out.grown hg2 (by have:=bc.out.lt;omega) (fun k hk=>by injection hk with hk;omega)
     have aD:Hid (w2.ownsRow (r+1) 2 1 (.slice A5 m c5) m (out.map (cS .i64))):=ag.out.kept hg2 (.inr fun e=>by
      have:=(ag.out.lt r e).1
      omega)
     have a8:x∉out:=by intro hm;have:=((am.out x).1 hm).2;rw[hlk] at this;cases this
     have aZ:Hid (out ++ [x]).Nodup:=by
      show List.Nodup _
      rw[cp];refine ⟨bF.out,by simp,?_⟩;intro p hpo q hq;simp at hq;subst hq;intro e;exact a8 (e▸hpo)
     have aA:Hid (∀z,z∈out ++ [x]↔(f z).isSome=true/\(left (.int .i64 z) && !(Lit.int .i64 z).sameKey (.int .i64 x))=false):=fun z=>by
      have b6:(Lit.int .i64 z).sameKey (.int .i64 x)=decide (z=x):=by simp[Lit.sameKey]
      rw[cU,am.out z,cN,b6]
      by_cases hzx:z=x
      .subst hzx;simp[bT]
      .cases left (.int .i64 z) <;> simp[hzx]
     have bk:m+1<=137438953472:=by
      have h1:=Kid (out ++ [x]) (Kbv width (Kak ss)) aZ.out fun z hz=>(aW.out z).1 ((aA.out z).1 hz).1
      have h2:=Keu width (Kak ss);have h3:=aJ.out;rw[Keq] at h2;rw[cg,HM.out,cZ] at h1;omega
     have a6:=Jh hrg2;have hr2:r < w2.heap.size:=hrg2.lt;have bV:Hid (cnt2 < cnt):=hlt;clear bT a8 hrg2 hg2 hkx hlk hat2 HB ag bF am bc e1 hlt;obtain ⟨w6,aX⟩:=i7 (w2.alloc (.cells #[.int .i64 x] 2));have bt:Below w2.heap.size w2 w6:=by rw[aX];exact (Below.refl _ _).alloc (co _) _
     have aC:Blk w6 w2.heap.size 2 #[.int .i64 x]:=by rw[aX];exact ds _ _ _
     have ap:w6.ownsRow (r+1) 2 1 (.slice A5 m c5) m (out.map (cS .i64)):=Kbb aD.out bt;have az:=Jh ap;have bv:Hid (w2.grownBy w6 none):=by show World.grownBy _ _ _;rw[aX];exact cX w2 _ none
     have b9:w2.heap.size<=w6.heap.size:=bt.size;go_wp2_with (at_builtin;(try rw[<-aX]);refine wpList_append_own_at _ rfl _ _ 125 rfl (r+1) 2 ib (.int .i64 0) 1 8 underlying125 b1 b5 bQ aB rfl (by decide) (.slice A5 m c5) m _ rfl ap ⟨w2.heap.size,0,none⟩ 1 1 [.int .i64 x] rfl rfl (Kao (l:=[.int .i64 x]) aC) ?p2 ?p3 ?p4 ?p5 ?_)
     case p2=>intro u hu;simp only[List.mem_cons,List.not_mem_nil,or_false] at hu;rcases hu with rfl;rfl
     case p3=>unfold maxLen;omega
     case p4=>omega
     case p5=>omega
     intro v9 w9 hown' hgrow _ _;rw[<-aX] at hgrow;have ab:∀k,(cW A5 m c5).ownBlock=some k->r+1<=k:=fun k hk=>(az.out.lt k hk).1
     have ce:Hid (Below b w0 w9):=(bW.out.grown bv.out (by omega) (fun k hk=>by cases hk)).grown hgrow (by omega) (fun k hk=>by have:=ab k hk;omega);have bz:Hid (w9.ranges prog 2 HRi b r (c7 D) D (fun z=>left z && !z.sameKey (.int .i64 x)) cnt2):=(a6.out.kept bv.out (by simp) (by simp)).kept hgrow (fun e=>by have:=ab b e.symm;omega) (fun e=>by have:=ab r e.symm;omega)
     have a9:Hid (w9.ownsRow (r+1) 2 1 v9 (out ++ [x]).length ((out ++ [x]).map (cS .i64))):=by
      show World.ownsRow _ _ _ _ _ _ _
      rw[cg,HM.out,cz];exact hown'
     have cb:(out ++ [x]).length<=137438953472:=by rw[cg,HM.out];exact bk
     clear hown' hgrow ab ap aC az aD bv aX b9 bt bW a6 b1 b5 bQ aB;go_wp2_with fail
     go_roundg (gk - 1)
     case measure=>have:=bV.out;omega
     case rel=>exact ⟨_,cnt2,out ++ [x],_,rfl,by have:=bV.out;omega,bz,a9,aZ,aA,ce,cb⟩
end
end
section
open Go.RowKit
open Lib renaming hid -> Jh
attribute [local go_sem ↓] Go.wp_at_zero Go.wp_at_succ
attribute [local go_sem] Later.cell
theorem Qdi {l:List Txt} {i:Nat} (hi:i < l.length):(l.take (i+1)).flatten=(l.take i).flatten++l[i]!:=by rw[List.take_succ_eq_append_getElem hi,List.flatten_append,i9 l i hi];simp
theorem Qhd {n a:Nat} (ha:a < 2 ^ n):a ^^^ (2 ^ n - 1)=2 ^ n - 1 - a:=by have h:=BitVec.toNat_not (x:=BitVec.ofNat n a);rw[<-BitVec.xor_allOnes,cy,BitVec.toNat_allOnes,ct,cO ha] at h;exact h
theorem Qcl {a:Nat} (ha:a < 18446744073709551616):a ^^^ 18446744073709551615=18446744073709551615 - a:=Qhd (n:=64) ha
theorem Qhe {v:Int} (h1:-9223372036854775808<=v) (h2:v<=9223372036854775807) :
  bits .xor .u64 (dk.wrap (wrap64 (v*2))) (dk.wrap (v / 9223372036854775808))=((zig v:Nat):Int):=by
 rw[di,di];unfold wrap64
 by_cases h:0<=v
 .have e1:((v*2+9223372036854775808) % 18446744073709551616 - 9223372036854775808) % 18446744073709551616=((zig v:Nat):Int):=by unfold zig;rw[jf h];omega
  have e2:v / 9223372036854775808 % 18446744073709551616=((0:Nat):Int):=by omega
  rw[e1,e2,bits_xor_u64_nat _ _ (by have:=Kxg h1 h2;omega) (by decide),Nat.xor_zero]
 .have e1:((v*2+9223372036854775808) % 18446744073709551616 - 9223372036854775808) % 18446744073709551616=((18446744073709551615 - zig v:Nat):Int):=by unfold zig;rw[je h];omega
  have e2:v / 9223372036854775808 % 18446744073709551616=((18446744073709551615:Nat):Int):=by omega
  rw[e1,e2,bits_xor_u64_nat _ _ (by omega) (by decide),Qcl (by omega)];have:=Kxg h1 h2;omega
theorem Knw (n:Int) (h0:0<=n) (h1:n < 2 ^ 32):dg.wrap n=n:=by rw[dm];omega
theorem Kzg {a b:Nat} (ha:a < 4294967296) (hb:b < 4294967296):bits .and .u32 (a:Int) (b:Int)=((a &&& b:Nat):Int):=(bits_nat .u32 32 (by decide) Knw a b ha hb).1
theorem Qee {a b:Nat} (ha:a < 4294967296) (hb:b < 4294967296):bits .or .u32 (a:Int) (b:Int)=((a ||| b:Nat):Int):=(bits_nat .u32 32 (by decide) Knw a b ha hb).2
theorem Krb {a b:Nat} (ha:a < 4294967296) (hb:b < 4294967296):bits .xor .u32 (a:Int) (b:Int)=((a ^^^ b:Nat):Int):=by have h:bits .xor .u32 (a:Int) (b:Int)=dg.wrap (((cF 32 (a:Int) ^^^ cF 32 (b:Int)).toNat:Nat):Int):=rfl;rw[h,cx,cx,cy,ct,ct,cO (show a < 2 ^ 32 by omega),cO (show b < 2 ^ 32 by omega)];exact Knw _ (Int.natCast_nonneg _) (by have:=Kht ha hb;omega)
theorem Khk {k x:Nat} (y:Nat) (h:x < 2 ^ k):(y*2 ^ k) ||| x=y*2 ^ k+x:=by have:=Nat.shiftLeft_add_eq_or_of_lt h y;rw[cG] at this;exact this.symm
theorem Qgh {x1 x0 y1 y0:Nat} (hx:x0 < 65536) (hy:y0 < 65536):(x1*65536+x0) ||| (y1*65536+y0)=(x1 ||| y1)*65536+(x0 ||| y0):=by
 have e1:=Khk (k:=16) x1 (show x0 < 2 ^ 16 from hx);have e2:=Khk (k:=16) y1 (show y0 < 2 ^ 16 from hy);have e3:=Khk (k:=16) (x1 ||| y1) (Nat.or_lt_two_pow (show x0 < 2 ^ 16 from hx) (show y0 < 2 ^ 16 from hy))
 have e4:(x1 ||| y1)*2 ^ 16=x1*2 ^ 16 ||| y1*2 ^ 16:=by rw[<-cG,<-cG,<-cG,Nat.shiftLeft_or_distrib]
 have aa:(65536:Nat)=2 ^ 16:=by decide
 rw[aa,<-e1,<-e2,<-e3,e4,cQ,cQ];congr 1;rw[<-cQ,<-cQ,db x0]
theorem Khb (v:Nat):v &&& 16711935=v / 65536 % 256*65536+v % 256:=by
 have h1:(16711935:Nat)=255 <<< 16 ||| 255:=by decide
 have h2:v &&& 255=v % 256:=cD v 8
 have h3:v &&& (255 <<< 16)=((v >>> 16) &&& 255) <<< 16:=by
  apply Nat.eq_of_testBit_eq;intro i;simp only[Nat.testBit_and,Nat.testBit_shiftLeft,Nat.testBit_shiftRight]
  by_cases h:16<=i
  .simp[h,Nat.add_sub_cancel' h]
  .simp[h]
 have h4:(v >>> 16) &&& 255=v / 65536 % 256:=by rw[Nat.shiftRight_eq_div_pow];exact cD _ 8
 rw[h1,Nat.and_or_distrib_left,h2,h3,h4,cG];exact Khk (k:=16) _ (by omega)
def revN (v:Nat):Nat:=v % 256*16777216+v / 256 % 256*65536+v / 65536 % 256*256+v / 16777216
theorem Qgp {v:Nat} (hv:v < 4294967296):((v / 256) &&& 16711935) ||| ((v &&& 16711935)*256)=(v / 65536 % 256*256+v / 16777216)*65536+(v % 256*256+v / 256 % 256):=by
 rw[Khb,Khb];have e1:(v / 65536 % 256*65536+v % 256)*256=(v / 65536 % 256*256)*65536+v % 256*256:=by omega
 have e2:v / 256 / 65536 % 256=v / 16777216:=by omega
 rw[e1,e2,Qgh (by omega) (by omega)];have e3:=Khk (k:=8) (v / 65536 % 256) (show v / 16777216 < 2 ^ 8 by omega);have e4:=Khk (k:=8) (v % 256) (show v / 256 % 256 < 2 ^ 8 by omega);have e8:(2:Nat) ^ 8=256:=by decide
 rw[e8] at e3 e4;rw[db (v / 16777216),db (v / 256 % 256),e3,e4]
theorem Krs (v:Int) (h1:-9223372036854775808<=v) (h2:v<=9223372036854775807) (w:World) :
  Calls prog 46 #[.int .i64 v] w fun e w'=>e = .returned (.string ⟨(intT v).toArray⟩)/\Below w.heap.size w w':=by
 have HU:=Jh (fun w=>Kau (zig v) (Kxg h1 h2) w);go_enter func46,ntmps46
 go_wp2_with fail
 rw[Qhe h1 h2];refine (HU.out w).mono ?_;rintro _ w1 ⟨rfl,hb⟩;go_wp2_with fail
 go_ret
 exact ⟨rfl,hb⟩
theorem Qgo {v:Nat} (hv:v < 4294967296):bits .or .u32 (bits .and .u32 ((v:Int) / 256) 16711935) (bits .and .u32 (v:Int) 16711935*256 % 4294967296)=(((v / 65536 % 256*256+v / 16777216)*65536+(v % 256*256+v / 256 % 256):Nat):Int):=by
 have e1:(v:Int) / 256=((v / 256:Nat):Int):=by omega
 have e2:∀x:Nat,x < 4294967296->bits .and .u32 (x:Int) 16711935=((x &&& 16711935:Nat):Int):=fun x hx=>Kzg hx (by decide)
 have e3:((v &&& 16711935:Nat):Int)*256 % 4294967296=(((v &&& 16711935)*256:Nat):Int):=by rw[Khb];omega
 rw[e1,e2 _ (by omega),e2 _ hv,e3,Qee (by rw[Khb];omega) (by rw[Khb];omega),Qgp hv]
theorem Qgn {v:Nat} (hv:v < 4294967296) {T:Int} (hT:T=(((v / 65536 % 256*256+v / 16777216)*65536+(v % 256*256+v / 256 % 256):Nat):Int)) :
  bits .or .u32 (T / 65536) (T*65536 % 4294967296)=((revN v:Nat):Int):=by
 subst hT;have e1:(((v / 65536 % 256*256+v / 16777216)*65536+(v % 256*256+v / 256 % 256):Nat):Int) / 65536=((v / 65536 % 256*256+v / 16777216:Nat):Int):=by omega
 have e2:(((v / 65536 % 256*256+v / 16777216)*65536+(v % 256*256+v / 256 % 256):Nat):Int)*65536 % 4294967296=(((v % 256*256+v / 256 % 256)*65536:Nat):Int):=by omega
 rw[e1,e2,Qee (by omega) (by omega),db];have e3:=Khk (k:=16) (v % 256*256+v / 256 % 256) (show v / 65536 % 256*256+v / 16777216 < 2 ^ 16 by omega);have aa:(2:Nat) ^ 16=65536:=by decide
 rw[aa] at e3;rw[e3];unfold revN;omega
theorem Qek (v:Nat) (hv:v < 4294967296) (w:World) :
  Calls prog 175 #[.int .u32 v] w fun e w'=>e = .returned (.int .u32 (revN v:Nat))/\w=w':=by
 go_enter func175,ntmps175
 go_wp2_with fail
 rw[Qgn hv (Qgo hv)];go_ret
 exact ⟨rfl,rfl⟩
theorem Qar (a b c d:UInt8) (g:Nat) (w:World) (h0:w.cell? ⟨g,0,none⟩=some (.int .u8 (a.toNat:Int))) (h1:w.cell? ⟨g,1,none⟩=some (.int .u8 (b.toNat:Int))) (h2:w.cell? ⟨g,2,none⟩=some (.int .u8 (c.toNat:Int))) (h3:w.cell? ⟨g,3,none⟩=some (.int .u8 (d.toNat:Int))) :
  (convert 76 9 (.slice (some ⟨g,0,none⟩) 4 4)).run prog w = .ok (.string ⟨#[a,b,c,d]⟩) w:=
 run_convert_bytes_back w _ _ 5 ⟨g,0,none⟩ 4 [a,b,c,d] underlying76 underlying5 underlying9 (fun j hj=>by
  match j,hj with
  | 0,_=>exact h0
  | 1,_=>exact h1
  | 2,_=>exact h2
  | 3,_=>exact h3
  | _+4,hj=>simp at hj;omega)
theorem Qel {a b c d r:Nat} (ha:a < 256) (hb:b < 256) (hc:c < 256) (hd:d < 256) (hr:a*16777216+b*65536+c*256+d=r) :
  (r:Int) / 16777216=(a:Int)/\(r:Int) / 65536 % 256=(b:Int)/\(r:Int) / 256 % 256=(c:Int)/\(r:Int) % 256=(d:Int):=by
 subst hr;refine ⟨?_,?_,?_,?_⟩ <;> omega
theorem Qas (v:Nat) (hv:v < 4294967296) (w:World) :
  Calls prog 122 #[.int .u32 v] w fun e w'=>e = .returned (.string ⟨(fourT v).toArray⟩)/\Below w.heap.size w w':=by
 have HR:=Jh (Qek v hv w);obtain ⟨r,hr⟩:=iZ (revN v);rw[hr] at HR;have hr2:r < 4294967296:=by rw[<-hr];unfold revN;omega
 obtain ⟨b0,h0⟩:=iZ (c6 v);obtain ⟨b1,h1⟩:=iZ (c6 (v / 256));obtain ⟨b2,h2⟩:=iZ (c6 (v / 65536));obtain ⟨b3,h3⟩:=iZ (c6 (v / 16777216));obtain ⟨p0,p1,p2,p3⟩:=Qel (a:=v % 256) (b:=v / 256 % 256) (c:=v / 65536 % 256) (d:=v / 16777216) (by omega) (by omega) (by omega) (by omega) hr;have k0:(r:Int) / 16777216=(b0.toNat:Int):=by rw[p0,<-h0,c3]
 have k1:(r:Int) / 65536 % 256=(b1.toNat:Int):=by rw[p1,<-h1,c3]
 have k2:(r:Int) / 256 % 256=(b2.toNat:Int):=by rw[p2,<-h2,c3]
 have k3:(r:Int) % 256=(b3.toNat:Int):=by rw[p3,<-h3,c3];omega
 have hcv:=Qar b0 b1 b2 b3 w.heap.size (w.alloc (.cells #[.int .u8 ((r:Int) / 16777216),.int .u8 ((r:Int) / 65536 % 256),.int .u8 ((r:Int) / 256 % 256),.int .u8 ((r:Int) % 256)] 5)) (by rw[k0];simp[go_sem]) (by rw[k1];simp[go_sem]) (by rw[k2];simp[go_sem]) (by rw[k3];simp[go_sem]);have hb:Below w.heap.size w (w.alloc (.cells #[.int .u8 ((r:Int) / 16777216),.int .u8 ((r:Int) / 65536 % 256),.int .u8 ((r:Int) / 256 % 256),.int .u8 ((r:Int) % 256)] 5)):=(Below.refl _ _).alloc (co _) _;have aa:(⟨#[b0,b1,b2,b3]⟩:ByteArray)=⟨(fourT v).toArray⟩:=by rw[<-h0,<-h1,<-h2,<-h3];rfl
 have ab:=Jh aa;have HB:=Jh hb;clear k0 k1 k2 k3 h0 h1 h2 h3 hr aa hb p0 p1 p2 p3;go_enter func122,ntmps122
 go_wp2_with fail
 refine HR.out.mono ?_;rintro _ w1 ⟨rfl,rfl⟩;go_wp2_with fail
 go_ret
 exact ⟨by first | rfl | (rw[ab.out];rfl),HB.out⟩
def Kec (w:World):Prop:=∀i,i < 16->w.cell? ⟨0,i,none⟩=some (.int .u32 (nibs.getD i 0:Nat))
theorem Kec.below {B:Nat} {w w':World} (h:Kec w) (hB:0 < B) (hb:Below B w w'):Kec w':=fun i hi=>(hb.cell (p:=⟨0,i,none⟩) hB).trans (h i hi)
theorem and15 {c:Nat} (h:c < 4294967296):bits .and .u32 (c:Int) 15=((c % 16:Nat):Int):=by have h1:bits .and .u32 (c:Int) 15=((c &&& 15:Nat):Int):=Kzg h (by decide);rw[h1];congr 1;exact cD c 4
theorem Kzt {c:Nat} (h:c < 4294967296):bits .xor .u32 ((nibs.getD (c % 16) 0:Nat):Int) ((c:Int) / 16)=((nibN c:Nat):Int):=by
 have e1:(c:Int) / 16=((c / 16:Nat):Int):=by omega
 rw[e1,Krb (Kzu _) (by omega)];rfl
theorem Qcx (Ao:Option Addr) (n c:Nat) (l:List Txt) (w:World) (h:Strs w Ao n l) (hn:n<=140737488355328) (hs:∀s∈l,s.length<=140737488355328) (hT:Kec w) :
  Calls prog 123 #[.slice Ao n c] w fun e w'=>e = .returned (.int .u32 (crcL l.flatten:Nat))/\w=w':=by
 have hln:=h.len;have HS:=Jh hs;have HH:=Jh h;have HT:=Jh hT;clear hs h hT;go_enter func123,ntmps123
 go_wp2_with fail
 go_loopg [3,9] n (fun g s3 s9 wr=>∃i c:Nat,i+g=n/\s9 = .int .i64 (i:Int)/\s3 = .int .u32 (c:Int)/\c < 4294967296/\crcF 4294967295 (l.take i).flatten=c/\wr=w)
 case atStart=>exact ⟨0,4294967295,by omega,rfl,rfl,by decide,rfl,rfl⟩
 case round=>
  obtain ⟨i,c,aw,rfl,rfl,hc,ax,rfl⟩:=hrel;have av:=Jh aw;have aA:=Jh ax;clear aw ax
  by_cases hi:i < n
  .have el:decide ((i:Int) < (n:Int))=true:=by simp;omega
   have aM:decide (i < n)=true:=by simp;omega
   have aE:(i:Int) < (n:Int):=by omega
   obtain ⟨b,off,aK,hbl,x0⟩:=HH.out.at_ hi;subst aK;have ay:i < l.length:=by omega
   obtain ⟨T,hT⟩:∃T:ByteArray,(⟨l[i]!.toArray⟩:ByteArray)=T:=⟨_,rfl⟩;have ao:T.data.toList=l[i]!:=by rw[<-hT]
   have hTs:T.size<=140737488355328:=by have:=HS.out l[i]! (by rw[i9 l i ay];exact cK _);rw[<-ao,Kai] at this;exact this
   unfold txtV at x0;rw[hT] at x0;have ah:=Qdi ay;rw[<-ao] at ah;have aJ:=Jh ah;obtain ⟨og,rfl⟩:=i7 gk;clear ah hT ao;go_wp2_with fail
   go_loopg [3,15] T.size (fun g s3 s15 wr2=>∃j c:Nat,j+g=T.size/\s15 = .int .i64 (j:Int)/\s3 = .int .u32 (c:Int)/\c < 4294967296/\crcF 4294967295 ((l.take i).flatten++T.data.toList.take j)=c/\wr2=wr)
   case atStart=>exact ⟨0,c,by omega,rfl,rfl,hc,by rw[List.take_zero,dl];exact aA.out,rfl⟩
   case round=>
    obtain ⟨j,c',aB,rfl,rfl,an,ad,rfl⟩:=hrel;have az:=Jh aB;have ac:=Jh ad;clear aB ad
    by_cases hj:j < T.size
    .have fl:decide ((j:Int) < (T.size:Int))=true:=by simp;omega
     have aD:decide (j < T.size)=true:=by simp;omega
     have aC:(j:Int) < (T.size:Int):=by omega
     have hbt:=UInt8.toNat_lt T[j];obtain ⟨c0,ag⟩:=iZ (c' ^^^ T[j].toNat);have hx0:bits .xor .u32 (c':Int) (T[j].toNat:Int)=(c0:Int):=by rw[<-ag];exact Krb an (by omega)
     have aq:c0 < 4294967296:=by rw[<-ag];exact Kht an (by omega)
     obtain ⟨i0,am⟩:=iZ (c0 % 16);have ha0:bits .and .u32 (c0:Int) 15=(i0:Int):=by rw[<-am];exact and15 aq
     have aj:i0 < 16:=by omega
     obtain ⟨n0,ap⟩:=iZ (nibs.getD i0 0);have aF:=HT.out i0 aj;rw[ap] at aF;obtain ⟨c1,af⟩:=iZ (nibN c0);have hy0:bits .xor .u32 (n0:Int) ((c0:Int) / 16)=(c1:Int):=by rw[<-ap,<-am,<-af];exact Kzt aq
     have ak:c1 < 4294967296:=by rw[<-af];exact Kmd aq
     obtain ⟨i1,ai⟩:=iZ (c1 % 16);have ha1:bits .and .u32 (c1:Int) 15=(i1:Int):=by rw[<-ai];exact and15 ak
     have al:i1 < 16:=by omega
     obtain ⟨n1,ar⟩:=iZ (nibs.getD i1 0);have aG:=HT.out i1 al;rw[ar] at aG;obtain ⟨c2,ae⟩:=iZ (nibN c1);have hy1:bits .xor .u32 (n1:Int) ((c1:Int) / 16)=(c2:Int):=by rw[<-ar,<-ai,<-ae];exact Kzt ak
     have aH:c2 < 4294967296:=by rw[<-ae];exact Kmd ak
     have ab:crcF 4294967295 ((l.take i).flatten++T.data.toList.take (j+1))=c2:=by
      have e:T.data.toList.take (j+1)=T.data.toList.take j ++ [T[j]]:=by rw[cJ,ch (by simpa using hj)];simp[ByteArray.getElem_eq_getElem_data]
      rw[e,<-cA,Qcw,ac.out,<-ae,<-af,<-ag];rfl
     have aI:=Jh ab;clear ab ag af ae ap ar am ai;go_wp2_with fail
     go_roundg (gk - 1)
     case measure=>have:=az.out;omega
     case rel=>exact ⟨j+1,c2,by have:=az.out;omega,by go_num,rfl,aH,aI.out,rfl⟩
    .have fl:decide ((j:Int) < (T.size:Int))=false:=by simp;omega
     have aD:decide (j < T.size)=false:=by simp;omega
     have aa:crcF 4294967295 (l.take (i+1)).flatten=c':=by have:=ac.out;have e:T.data.toList.take j=T.data.toList:=cw (by rw[Kai];omega);rw[e,<-aJ.out] at this;exact this
     have HF:=Jh aa;clear aa;go_wp2_with fail
     go_roundg (og - 1)
     case measure=>have:=av.out;omega
     case rel=>exact ⟨i+1,c',by have:=av.out;omega,by go_num,rfl,an,HF.out,rfl⟩
  .have el:decide ((i:Int) < (n:Int))=false:=by simp;omega
   have aM:decide (i < n)=false:=by simp;omega
   have aL:bits .xor .u32 dg.max (c:Int)=((crcL l.flatten:Nat):Int):=by have h1:bits .xor .u32 dg.max (c:Int)=((4294967295 ^^^ c:Nat):Int):=Krb (a:=4294967295) (by decide) hc;have h2:=aA.out;rw[cw (by omega)] at h2;rw[h1];unfold crcL;rw[h2,Nat.xor_comm]
   go_wp2_with fail
   go_ret
   exact ⟨rfl,rfl⟩
end
section
open Go.RowKit
attribute [local go_sem ↓] Go.wp_at_zero Go.wp_at_succ
attribute [local go_sem] Later.cell
theorem Qij {w:World} {b:Nat} {l:List Txt} (h:Blk w b 9 (l.map txtV).toArray):Strs w (some ⟨b,0,none⟩) l.length l:=
 ⟨rfl,fun _=>⟨b,0,rfl,h.lt,fun i x hx j v hv=>by
  match j,hv with
  | 0,hv=>
   injection hv with hv;subst hv;have h1:=h.cell i;have h2:(l.map txtV).toArray[i]? = some (txtV x):=by simp[hx]
   simpa[h2] using h1
  | j+1,hv=>simp[enc1] at hv⟩⟩
theorem Qfk {a b:ByteArray} (h:a.data.toList=b.data.toList):a=b:=by
 cases a;cases b
 simp at h;rw[h]
theorem Kec.lt {w:World} (h:Kec w):0 < w.heap.size:=Kdv (h 0 (by decide))
theorem Qgt {w:World} {b:Nat} {S:ByteArray} (h:Blk w b 9 #[.string S]):Strs w (some ⟨b,0,none⟩) 1 [S.data.toList]:=Qij (by unfold txtV;exact h)
theorem Qhq {w:World} {b c:Nat} {S:ByteArray} (h:Blk w b 9 #[.string S]) (hS:S.size<=140737488355328) (hT:Kec w) :
  Calls prog 123 #[.slice (some ⟨b,0,none⟩) 1 c] w fun e w'=>e = .returned (.int .u32 (crcL S.data.toList:Nat))/\w=w':=by
 have h1:=Qcx (some ⟨b,0,none⟩) 1 c [S.data.toList] w (Qgt h) (by decide) (fun s hs=>by rw[cm.1 hs,Kai];exact hS) hT;have e:[S.data.toList].flatten=S.data.toList:=by simp
 rw[e] at h1;exact h1
theorem Qbv (s:ByteArray) (hs:s.size<=140737488351232) (w:World) (hT:Kec w) :
  Calls prog 47 #[.string s] w fun e w'=>e = .returned (.string ⟨(sealT s.data.toList).toArray⟩)/\Below w.heap.size w w':=by
 obtain ⟨w1,ab⟩:=iZ (w.alloc (.cells #[.string s] 9));have ad:Below w.heap.size w w1:=by rw[<-ab];exact (Below.refl _ _).alloc (co _) _
 have ae:Blk w1 w.heap.size 9 #[.string s]:=by rw[<-ab];exact ds _ _ _
 have HC:=Lib.hid (Qhq (c:=1) ae (by omega) (hT.below hT.lt ad));have HF:=Lib.hid (fun w=>Qas (crcL s.data.toList) (Qhp _) w);have HW:=Lib.hid ab;obtain ⟨F,hF⟩:∃F:ByteArray,(⟨(fourT (crcL s.data.toList)).toArray⟩:ByteArray)=F:=⟨_,rfl⟩;have hF4:F.size=4:=by rw[<-hF];rfl
 have aa:s++F=(⟨(sealT s.data.toList).toArray⟩:ByteArray):=Qfk (by rw[<-hF];simp[sealT,ByteArray.data_append]);rw[hF] at HF;have ac:=Lib.hid aa;clear ab ae aa hF;go_enter func47,ntmps47
 go_wp2_with fail
 rw[HW.out];refine HC.out.mono ?_;rintro _ w2 ⟨rfl,rfl⟩;go_wp2_with fail
 refine (HF.out w1).mono ?_;rintro _ w2 ⟨rfl,af⟩;go_wp2_with fail
 rw[ac.out];go_ret
 exact ⟨rfl,then_ ad af⟩
end
section
open Go.RowKit
theorem Kwb {S:List (List Lb)} {q:Lb} (h:q∉keysOf S):Kap S q = []:=by unfold Kap;rw[cR];intro i hi;rw[i8];intro hm;apply h;rw[(Kez S).2];have hl:=cl.1 hi;rw[cj,ch hl] at hm;exact ⟨S[i],cK hl,hm⟩
def Ket (S:List (List Lb)) (l:List Lb) (k:Nat):Lb->List Nat:=fun y=>if y∈l.take k then Kap S y ++ [S.length] else Kap S y
theorem Kyq (S:List (List Lb)) (l:List Lb):Ket S l 0=Kap S:=by funext y;simp[Ket]
theorem Khm (S:List (List Lb)) (l:List Lb) (y:Lb):Kap (S ++ [l]) y=if y∈l then Kap S y ++ [S.length] else Kap S y:=by
 unfold Kap;rw[cg,cZ,List.range_succ,cM]
 have h1:(cs S.length).filter (fun i=>decide (y∈(S ++ [l]).getD i []))=(cs S.length).filter (fun i=>decide (y∈S.getD i [])):=by apply List.filter_congr;intro i hi;rw[cj,cj,List.getElem?_append_left (cl.1 hi)]
 have h2:(S ++ [l]).getD S.length []=l:=by simp[cj]
 rw[h1]
 by_cases hy:y∈l
 .rw[jf hy,dh,dn,h2,jf (jd hy)]
 .rw[je hy,dh,dn,h2,je (by simpa using hy),dl]
theorem Qbq (S:List (List Lb)) (l:List Lb):Ket S l l.length=Kap (S ++ [l]):=by funext y;rw[Khm,Ket,dj]
theorem Kyr:Kap []=fun _=>[]:=rfl
theorem Kfw {l:List Lb} (h:Kcl l=true):l.Nodup/\l≠[]/\l.length<=8/\(∀x∈l,x.n.length<=32/\x.v.length<=64)/\Kdo l=0:=by
 have he:=Qci h;unfold Kcl at h;rw[ci,i8,i8] at h;obtain ⟨h1,h2⟩:=h;have hm:=h1;unfold Kaw at h1
 split at h1
 .cases h1
 .split at h1
  .cases h1
  .rename_i h3 h4
   refine ⟨?_,fun e=>h3 (by rw[e];rfl),by omega,fun x hx=>?_,he⟩
   .unfold names at h2;rw[cq] at h2;exact h2.imp fun hab e=>by subst e;exact List.lt_irrefl _ hab
   .obtain ⟨a,b⟩:=Kjr h1 x hx;unfold fitN at a;unfold fitV at b;simp only[ci,i8] at a b;omega
theorem Qgj {c:Cont} {s:Ser} (h:Kdy c s=true) (h0:0<=c.frm) (h1:c.to_<=1125899906842625) (hv:∀x∈s.samples,x.v < 2 ^ 64) :
  (∀p∈Kby s.samples.length s.samples,(Kes p).1=Kdb p)/\(aggO s.windows).1=aggT s.windows:=by
 unfold Kdy at h
 split at h
 .rename_i hr
  rw[ci,i8,Qck] at h;obtain ⟨hw,_,hi,ad⟩:=h;have ac:s.windows = []:=cr hw;refine ⟨fun p hp=>?_,by rw[ac];rfl⟩;have aa:=Qgl (fun x hx=>(⟨by have:=hi x hx;omega,by have:=hi x hx;omega,hv x hx⟩:SmpOk x)) ad hp;have ab:fitC none 0 p=true:=(Kuu p none 0).2 ⟨fun x hx=>⟨(aa.1 x hx).1,(aa.1 x hx).2.1⟩,aa.2.1,fun y x hy=>(by cases hy),.inr (by have:=aa.2.2;omega)⟩;unfold Kes;rw[jf ((Qdb p).2 ab)]
 .rename_i hr
  rw[ci,ci,i8] at h;have ae:s.samples = []:=cr h.1.2;refine ⟨fun p hp=>by rw[ae] at hp;simp[Kby] at hp,?_⟩;unfold aggO;rw[jf ((Kkk _ _ _).2 h.1.1)]
theorem Qae {w w':World} (h:Below w.drew.heap.size w.drew w'):Below w.heap.size w w':=⟨h.os,h.tape,h.output,h.size,h.block⟩
end
section
open Go.RowKit
open Go.ChangeMaps (setBlock)
open Go.MapKept
structure RIt (w:World) (b r:Nat) (es:Array MapEntry) (clock:Nat) (out:List MapEntry) (cnt:Nat):Prop where
 ex:∃since seen c0,w.heap[b]? = some (.map es clock)/\w.heap[r]? = some (.mapIter (some b) since seen c0)/\(∀x∈es.toList,x.born < since)/\(leftOf es seen).size=cnt/\
  (∀x∈es.toList,seen.contains x.born=true↔x∈out)/\since<=c0/\since<=clock
 sub:∀x∈out,x∈es.toList
 nd:out.Nodup
section
variable {w w' : World} {b r : Nat} {es : Array MapEntry} {clock : Nat} {out : List MapEntry} {cnt : Nat}
theorem RIt.map (h:RIt w b r es clock out cnt):w.heap[b]? = some (.map es clock):=by obtain ⟨_,_,_,hb,_⟩:=h.ex;exact hb
theorem RIt.blt (h:RIt w b r es clock out cnt):b < w.heap.size:=(c9.1 h.map).1
theorem RIt.rlt (h:RIt w b r es clock out cnt):r < w.heap.size:=by obtain ⟨_,_,_,_,hr,_⟩:=h.ex;exact (c9.1 hr).1
theorem RIt.ne (h:RIt w b r es clock out cnt):r≠b:=by obtain ⟨_,_,_,hb,hr,_⟩:=h.ex;intro e;rw[e,hb] at hr;cases hr
theorem RIt.kept {row:Option Nat} (h:RIt w b r es clock out cnt) (hg:w.grownBy w' row) (hb':some b≠row) (hr':some r≠row):RIt w' b r es clock out cnt:=by have h1:=h.blt;have h2:=h.rlt;obtain ⟨aa,ab,c0,hb,hr,rest⟩:=h.ex;exact ⟨⟨aa,ab,c0,(hg.block b h1 hb').trans hb,(hg.block r h2 hr').trans hr,rest⟩,h.sub,h.nd⟩
theorem RIt.below (h:RIt w b r es clock out cnt) (hb:Below w.heap.size w w'):RIt w' b r es clock out cnt:=h.kept (row:=none) ⟨hb.os,hb.tape,hb.output,hb.size,fun k hk _=>hb.block k hk⟩ (by simp) (by simp)
variable {P : Program} {ops : Array Oper} {rest : List Oper} {o : Oper} {a : Act} {Q : Exit -> Act -> World -> Prop}
theorem Knx (hg:o.guard=none) (m:Operand) (t:TypeId) (hop:o.op=Op.range t m) (k e:TypeId) (ht:P.underlying t=some (.map k e)) (hm:a.eval m = .map (some b)) (hb:w.heap[b]? = some (.map es clock)) (hst:Stamped es clock)
  (hK:∀w',RIt w' b w.heap.size es clock [] es.size->w.grownBy w' none->w'.heap.size=w.heap.size+1->wpList P ops Q rest (a.put o.dst (.pointer (some ⟨w.heap.size,0,none⟩))) w') :
  wpList P ops Q (o :: rest) a w:=by
 refine wpList_plain hg fun K' hK'=>?_
 have ab:=(c9.1 hb).1;have aa:=run_range_map (P:=P) w t k e b es clock ht hb;unfold Oper.wp;simp[execOp,hop,hm,aa,dz];refine hK' _ _ (hK _ ⟨⟨clock,#[],clock,((MapKept.heap_alloc w _).2 b ab).trans hb,(MapKept.heap_alloc w _).1,hst.1,by simp[leftOf],fun x _=>by simp,co _,co _⟩,by simp,by simp⟩ (cX w _ none) (by simp))
theorem RIt.next (h:RIt w b r es clock out cnt) (hst:Stamped es clock) (ty:TypeId) :
  (cnt=0/\(∀x∈es.toList,x∈out)/\(dx (.pointer (some ⟨r,0,none⟩)) false ty).run P w = .ok (.tuple #[.bool false]) w)\/
  ∃e w' cnt',e∈es.toList/\e∉out/\(dx (.pointer (some ⟨r,0,none⟩)) false ty).run P w = .ok (.tuple #[.bool true,e.key,e.val]) w'/\RIt w' b r es clock (out ++ [e]) cnt'/\cnt' < cnt/\w.grownBy w' (some r)/\w'.heap.size=w.heap.size/\
   (dw (.pointer (some ⟨r,0,none⟩))).run P w' = .ok (.tuple #[e.key,e.val]) w':=by
 have ak:=h.ne;have ag:=h.sub;have ap:=h.nd;obtain ⟨aa,ab,c0,hb,hr,ae,rfl,af,am,ah⟩:=h.ex;rcases run_next_at (P:=P) w ty r b aa c0 ab es clock hr hb ae am with ⟨h0,hrun⟩ | ⟨e,he,w1,hal,hrun⟩
 .exact Or.inl ⟨h0,fun x hx=>(af x hx).1 (all_seen es ab h0 x hx),hrun⟩
 .obtain ⟨ad,an⟩:=mem_left he;have ao:w1.heap[r]? = some (.mapIter (some b) aa ab c0):=by rcases hal with rfl | rfl <;> exact hr
  have al:w1.heap[b]? = some (.map es clock):=by rcases hal with rfl | rfl <;> exact hb
  have ac:=heap_set (o':=.mapIter (some b) aa (ab.push e.born) clock) ao;have aj:(setBlock w1 r (.mapIter (some b) aa (ab.push e.born) clock)).heap[b]? = some (.map es clock):=(ac.2 b (fun e1=>ak e1.symm)).trans al
  have ai:e∉out:=fun hm=>by have:=(af e ad).2 hm;rw[an] at this;cases this
  refine Or.inr ⟨e,_,_,ad,ai,hrun,⟨⟨aa,ab.push e.born,clock,aj,ac.1,ae,rfl,fun x hx=>?_,ah,ah⟩,fun x hx=>?_,?_⟩,left_shrinks es ab e he,?_,?_,run_entry_at _ r b aa ab es clock e ac.1 aj ad hst.2.1⟩
  .rw[contains_push,cU,cN,<-af x hx,Bool.or_eq_true,beq_iff_eq];constructor
   .rintro (h | h)
    .exact .inl h
    .exact .inr (born_inj hst.2.1 hx ad h)
   .rintro (h | h)
    .exact .inl h
    .exact .inr (by rw[h])
  .rcases List.mem_append.1 hx with h | h
   .exact ag x h
   .rw[cm.1 h];exact ad
  .exact cp.2 ⟨ap,by simp,fun x hx y hy=>by rw[cm.1 hy];rintro rfl;exact ai hx⟩
  .rcases hal with rfl | rfl <;> exact ⟨rfl,rfl,rfl,by simp[setBlock],fun i _ hi=>ac.2 i (fun e1=>hi (by rw[e1]))⟩
  .rcases hal with rfl | rfl <;> simp[setBlock]
structure Qin (es:Array MapEntry) (out:List MapEntry) (cnt:Nat):Prop where
 z:cnt=0
 all:∀x∈es.toList,x∈out
structure Qhf {α : Type} (P:Program) (mkK:α->Value) (w:World) (b r:Nat) (es:Array MapEntry) (clock:Nat) (out:List MapEntry) (cnt:Nat) (x:α) (v:Value) (w':World):Prop where
 ex:∃e cnt',e∈es.toList/\e∉out/\e.key=mkK x/\e.val=v/\RIt w' b r es clock (out ++ [e]) cnt'/\cnt' < cnt
 g:w.grownBy w' (some r)
 s:w'.heap.size=w.heap.size
 run:(dw (.pointer (some ⟨r,0,none⟩))).run P w' = .ok (.tuple #[mkK x,v]) w'
theorem Kpx {α : Type} (hg:o.guard=none) (it:Operand) (hop:o.op=Op.next it false) (mkK:α->Value) (b r:Nat) (es:Array MapEntry) (clock:Nat) (out:List MapEntry) (cnt:Nat) (hst:Stamped es clock) (hk:∀e∈es.toList,∃x,e.key=mkK x)
  (hit:a.eval it = .pointer (some ⟨r,0,none⟩)) (h:RIt w b r es clock out cnt)
  (hDone:Qin es out cnt->wpList P ops Q rest (a.put o.dst (.tuple #[.bool false])) w)
  (hMore:∀(x:α) (v:Value) (w':World),Qhf P mkK w b r es clock out cnt x v w'->wpList P ops Q rest (a.put o.dst (.tuple #[.bool true,mkK x,v])) w') :
  wpList P ops Q (o :: rest) a w:=by
 refine wpList_plain hg fun K' hK'=>?_
 unfold Oper.wp;rcases h.next (P:=P) hst o.type with ⟨h0,hl,hrun⟩ | ⟨e,w',cnt',he,hno,hrun,hrg,hlt,hgr,hsz,hen⟩
 .simp[execOp,hop,hit,hrun,dz];exact hK' _ _ (hDone ⟨h0,hl⟩)
 .obtain ⟨x,hx⟩:=hk e he;rw[hx] at hrun hen;simp[execOp,hop,hit,hrun,dz];exact hK' _ _ (hMore x _ w' ⟨⟨e,cnt',he,hno,hx,rfl,hrg,hlt⟩,hgr,hsz,hen⟩)
end
end
section
open Go.RowKit Go.Shelf Go.Sort
attribute [local go_sem ↓] Go.wp_at_zero Go.wp_at_succ
attribute [local go_sem] Later.cell
def cfK (x y:Lb):Int:=cmpL [x] [y]
theorem Qfn (x y:Lb):cmpL [x] [y] < 0↔ltB x y:=by
 rw[Kun];constructor
 .rintro (h | ⟨_,h⟩)
  .exact h
  .simp[cmpL] at h
 .exact .inl
theorem ltK (x y:Lb):ltOf cfK x y=decide (ltB x y):=by unfold ltOf cfK;rw[decide_eq_decide];exact Qfn x y
theorem Krt (x y:Lb):ltB x y\/x=y\/ltB y x:=by
 by_cases h1:ltB x y
 .exact .inl h1
 .by_cases h2:ltB y x
  .exact .inr (.inr h2)
  .exact .inr (.inl (Kqm h1 h2))
theorem swoK:SWO (ltOf cfK) where
 irrefl x:=by rw[ltK];simpa using Keo x
 trans x y z h1 h2:=by rw[ltK,i8] at h1 h2 |-;exact Kfb h1 h2
 ntrans x y z h1 h2:=by
  rw[ltK,jb] at h1 h2 |-;intro h;rcases Krt x y with k | rfl | k
  .exact h1 k
  .exact h2 h
  .exact h2 (Kfb k h)
theorem Kyb (x y:Lb) (W:World) :
  Calls prog 120 #[.agg (encLb x).toArray,.agg (encLb y).toArray] W fun e w'=>e = .returned (.int .i64 (cfK x y))/\∃q os',w'=grow (W.drewN q) os':=by
 suffices h:Calls prog 120 #[.agg (encLb x).toArray,.agg (encLb y).toArray] W fun e w'=>e = .returned (.int .i64 (cfK x y))/\Grown W w' by refine h.mono ?_;rintro e w' ⟨he,⟨p,hp⟩⟩;exact ⟨he,p.n,p.os,hp⟩
 have HC:=Lib.hid (fun (w:World) (p q:Nat) (h1:Blk w p 99 #[.string ⟨x.n.toArray⟩,.string ⟨x.v.toArray⟩]) (h2:Blk w q 99 #[.string ⟨y.n.toArray⟩,.string ⟨y.v.toArray⟩])=>
  Kea [x] [y] (some ⟨p,0,none⟩) (some ⟨q,0,none⟩) 1 1 1 1 w (cfK x y) rfl
   (⟨rfl,fun _=>⟨p,0,rfl,h1.lt,fun i z hz j v hv=>by
    cases i with
    | zero=>simp only[ck,dy] at hz;subst hz;rw[h1.cell];simpa[encLb] using hv
    | succ i=>simp at hz⟩⟩)
   (⟨rfl,fun _=>⟨q,0,rfl,h2.lt,fun i z hz j v hv=>by
    cases i with
    | zero=>simp only[ck,dy] at hz;subst hz;rw[h2.cell];simpa[encLb] using hv
    | succ i=>simp at hz⟩⟩) (by decide) (by decide))
 obtain ⟨r,hr⟩:=iZ (cfK x y);unfold encLb;obtain ⟨N,hN⟩:∃N:ByteArray,(⟨x.n.toArray⟩:ByteArray)=N:=⟨_,rfl⟩;obtain ⟨V,hV⟩:∃N:ByteArray,(⟨x.v.toArray⟩:ByteArray)=N:=⟨_,rfl⟩;obtain ⟨N2,aa⟩:∃N:ByteArray,(⟨y.n.toArray⟩:ByteArray)=N:=⟨_,rfl⟩;obtain ⟨V2,ab⟩:∃N:ByteArray,(⟨y.v.toArray⟩:ByteArray)=N:=⟨_,rfl⟩;rw[hr] at HC |-;rw[hN,hV,aa,ab] at HC |-;clear hN hV aa ab hr;go_enter func120,ntmps120
 go_wp2_with fail
 have hg:Grown W ((((W.alloc (.cells #[.string N,.string V] 99)).alloc (.cells #[.string N2,.string V2] 99)).alloc (.cells #[.string N,.string V] 99)).alloc (.cells #[.string N2,.string V2] 99)):=((((Grown.refl _).alloc _).alloc _).alloc _).alloc _;refine (HC.out _ (W.heap.size+1+1) (W.heap.size+1+1+1) ((dt (by simp)).alloc _) (dt (by simp))).mono ?_;rintro _ w' ⟨rfl,hb⟩;go_wp2_with fail
 go_ret
 exact ⟨rfl,hg.trans hb⟩
end
section
open Go.RowKit Go.Shelf Go.Sort Go.Maps
open Lib renaming hid -> Jh
attribute [local go_sem ↓] Go.wp_at_zero Go.wp_at_succ
attribute [local go_sem] Later.cell
def Qfc (w:World) (B:Nat) (v:Value) (l:List Lb) (e:Ending) (w':World):Prop:=
 e = .returned (.tuple #[])/\∃l':List Lb,l'.Perm l/\(l'.Pairwise fun a b=>¬ltB b a)/\w'.ownsRow B 99 2 v l'.length (l'.flatMap encLb)/\w.grownBy w' v.ownBlock
theorem Kqq (l:List Lb) (B:Nat) (v:Value) (w:World) (h:w.ownsRow B 99 2 v l.length (l.flatMap encLb)) (hn:l.length<=1099511627776) :
  Calls prog 119 #[v,.func (.func 120) #[] #[]] w (Qfc w B v l):=by
 have ac:(l = []/\v = .slice none 0 0)\/∃g c,v = .slice (some ⟨g,0,none⟩) l.length c:=by
  rcases h.2 with ⟨h1,h0⟩ | ⟨g,cap,cur,h1,_⟩
  .exact .inl ⟨cr h0,h1⟩
  .exact .inr ⟨g,cap,h1⟩
 rcases ac with ⟨rfl,rfl⟩ | ⟨g,c,rfl⟩
 .refine (AnyF.slices_SortFunc_none Tryz.laysSFL none 0 _ w).mono ?_;rintro e w' ⟨rfl,rfl⟩;exact ⟨rfl,[],.refl _,List.Pairwise.nil,h,⟨rfl,rfl,rfl,co _,fun _ _ _=>rfl⟩⟩
 .have ad:=World.ownsRow.lt h g rfl;have eg:∀args w,(callFunc 120 args).run prog w = .ok (.enter 120 args) w:=enters_of func120 (by kernel_rfl) rfl;have aa:=AnyQ.slices_SortFunc Tryz.laysSFL 2 isAgg99 sizeOf99 encLb Kbx Khv cfK swoK 120 #[] g 0 c l.toArray w eg (fun _ _ _ _ x y=>Kyb x y _) (Kfh Kbx (by decide) h rfl) ad.2 (by simp;omega);simp only[List.size_toArray] at aa;refine aa.mono ?_;rintro e w' ⟨rfl,d',m,os,hp,hs,rfl⟩;obtain ⟨ab,ae⟩:=Qbp rfl hp;refine ⟨rfl,d'.toList,ae,?_,?_,Kxv _ _ _ _ _ _ _ _⟩
  .refine (Qbn ab hs).imp ?_;intro a b hab;rw[ltK,jb] at hab;exact hab
  .have:=Kfk Kbx (by decide) h rfl d' ab m os;rw[show d'.toList.length=l.length by simpa using ab];exact this
theorem Kjp {S:List (List Lb)} {x:Lb}:Kap S x≠[]↔x∈keysOf S:=by
 constructor
 .intro h;exact dv fun hk=>h (Kwb hk)
 .intro h h0;obtain ⟨s,hs,hx⟩:=((Kez S).2 x).1 h;obtain ⟨i,hi,rfl⟩:=dc hs;unfold Kap at h0;rw[cR] at h0;refine h0 i (cl.2 hi) ?_;rw[i8,cj,ch hi];exact hx
theorem Kxz {S:List (List Lb)} {ks l':List Lb} (hn:ks.Nodup) (hm:∀x,x∈ks↔x∈keysOf S) (hp:l'.Perm ks) (hs:l'.Pairwise fun a b=>¬ltB b a):l'=keysOf S:=by
 refine Kvf ?_ (Kez S).1 fun x=>by rw[hp.mem_iff,hm]
 refine (hs.and (hp.nodup_iff.2 hn)).imp ?_;rintro a b ⟨h1,h2⟩;rcases Krt a b with h | h | h
 .exact h
 .exact jl h h2
 .exact jl h h1
theorem Kox {α β : Type} {f:α->β}:∀{l:List α},l.Nodup->(∀x∈l,∀y∈l,f x=f y->x=y)->(l.map f).Nodup
 | [],_,_=>by simp
 | a :: l,h,hi=>by rw[cL] at h;rw[dp,cL];refine ⟨?_,Kox h.2 fun x hx y hy=>hi x (by simp[hx]) y (by simp[hy])⟩;intro hm;obtain ⟨y,hy,e⟩:=cn.1 hm;have:=hi y (by simp[hy]) a (by simp) e;exact h.1 (this▸hy)
theorem Qdz {α β : Type} {f:α->β} {l:List α} (h:(l.map f).Nodup):l.Nodup:=by
 induction l with
 | nil=>simp
 | cons a l ih=>
  rw[dp,cL] at h;rw[cL];exact ⟨fun hm=>h.1 (cH hm),ih h.2⟩
theorem Krx:∀(l L:List Lb),l.Nodup->(∀x∈l,x∈L)->l.length<=L.length
 | [],_,_,_=>by simp
 | a :: l,L,hn,h=>by have ha:=List.nodup_cons.1 hn;have:=Krx l (L.erase a) ha.2 (fun x hx=>(List.mem_erase_of_ne (fun e:x=a=>ha.1 (by rw[<-e];exact hx))).2 (h x (by simp[hx])));rw[List.length_erase_of_mem (h a (by simp))] at this;have h0:0 < L.length:=List.length_pos_of_mem (h a (by simp));simp only[List.length_cons];omega
theorem Kvg {w:World} {B b n:Nat} {S:List (List Lb)} {es:Array MapEntry} {clock:Nat} (h:LMap w B b (Kap S) n es clock) {out:List MapEntry} {ks:List Lb} (hnd:out.Nodup) (hsub:∀x∈out,x∈es.toList) (hks:out.map (·.key)=ks.map lbV) :
  ks.Nodup/\(∀x∈ks,x∈keysOf S)/\((∀e∈es.toList,e∈out)->∀x,x∈ks↔x∈keysOf S)/\ks.length<=es.size:=by
 have ae:(es.toList.map (·.key)).Nodup:=h.st.2.2;have ac:(out.map (·.key)).Nodup:=Kox hnd fun x hx y hy e=>entry_eq_of_key (cq.1 (show (es.toList.map (·.key)).Pairwise (·≠·) from ae)) (hsub x hx) (hsub y hy) e
 rw[hks] at ac;have aa:=Qdz ac
 have ab:∀x∈ks,∃e∈out,e.key=lbV x:=fun x hx=>by
  have:lbV x∈out.map (·.key):=by rw[hks];exact cH hx
  obtain ⟨e,he,hk⟩:=cn.1 this;exact ⟨e,he,hk⟩
 have ad:∀e∈es.toList,∀x,e.key=lbV x->x∈keysOf S:=fun e he x hk=>by obtain ⟨y,_,hy,hf,_⟩:=h.k e he;rw[hk] at hy;rw[Kfa hy];exact Kjp.1 hf
 refine ⟨aa,fun x hx=>?_,fun hall x=>⟨fun hx=>?_,fun hx=>?_⟩,?_⟩
 .obtain ⟨e,he,hk⟩:=ab x hx;exact ad e (hsub e he) x hk
 .obtain ⟨e,he,hk⟩:=ab x hx;exact ad e (hsub e he) x hk
 .obtain ⟨e,he,hk⟩:=h.a x (Kjp.2 hx)
  have:lbV x∈ks.map lbV:=by rw[<-hks,<-hk];exact cH (hall e he)
  obtain ⟨y,hy,e1⟩:=cn.1 this;rw[<-Kfa e1];exact hy
 .obtain ⟨L,hL⟩:∃L:List Lb,es.toList.map (·.key)=L.map lbV:=by
   have:∀l:List MapEntry,(∀e∈l,∃x,e.key=lbV x)->∃L:List Lb,l.map (·.key)=L.map lbV:=by
    intro l
    induction l with
    | nil=>intro _;exact ⟨[],rfl⟩
    | cons e l ih=>
     intro hl;obtain ⟨x,hx⟩:=hl e (by simp);obtain ⟨L,hL⟩:=ih fun e he=>hl e (by simp[he])
     exact ⟨x :: L,by simp[hx,hL]⟩
   exact this _ fun e he=>by obtain ⟨x,_,hk,_⟩:=h.k e he;exact ⟨x,hk⟩
  have h1:=Krx ks L aa fun x hx=>by
   obtain ⟨e,he,hk⟩:=ab x hx;have:lbV x∈L.map lbV:=by rw[<-hL,<-hk];exact cH (hsub e he)
   obtain ⟨y,hy,e1⟩:=cn.1 this;rw[<-Kfa e1];exact hy
  have h2:=jk List.length hL;rw[cI,cI] at h2;have h3:es.toList.length=es.size:=by simp
  omega
structure LK where
 a:ByteArray
 b:ByteArray
def mkP (p:LK):Value:=.agg #[.string p.a,.string p.b]
theorem Qht (x:Lb):lbV x=mkP ⟨⟨x.n.toArray⟩,⟨x.v.toArray⟩⟩:=rfl
theorem Qhx {p:LK} {x:Lb} (h:mkP p=lbV x):p.a=⟨x.n.toArray⟩/\p.b=⟨x.v.toArray⟩:=by obtain ⟨a,b⟩:=p;unfold mkP lbV at h;simp at h;exact ⟨h.1,h.2⟩
theorem Kyd (S:List (List Lb)) (b n B:Nat) (es:Array MapEntry) (clock:Nat) (w:World) (h:LMap w B b (Kap S) n es clock) (hn:n<=1099511627776) (hS:S.length<=1099511627776) (hz:(Kcx S).length<=35184372088832) :
  Calls prog 45 #[.map (some b)] w fun e w'=>e = .returned (.string ⟨(Kcx S).toArray⟩)/\Below w.heap.size w w':=by
 obtain ⟨i0,bP,cb,bW,bS⟩:=info_parts Knj
 have bn:∀e∈es.toList,∃p,e.key=mkP p:=fun e he=>by obtain ⟨x,_,hk,_⟩:=h.k e he;exact ⟨_,hk.trans (Qht x)⟩
 have H:=Jh h;have ca:=Jh bn;have HZ:=Jh hz;have b1:es.size<=1099511627776:=cP h.sz hn;have hh:=h.h;have aS:=h.st;clear h bn hz;go_enter func45,ntmps45
 go_wp2_with (at_range;refine Knx rfl _ 104 rfl 99 69 underlying104 rfl hh aS ?_;intro w0 hrg0 hg0 hs0)
 obtain ⟨r,hr⟩:=iZ w.heap.size;have bM:Below r w w0:=⟨hg0.os,hg0.tape,hg0.output,hg0.size,fun k hk=>hg0.block k (by omega) (by simp)⟩;rw[hr] at hrg0 |-;have HR:=Jh hr;have bQ:=Jh aS;clear hr hs0 hg0 hh aS;go_frame
 go_loopg [3] es.size (fun g s3 wr=>∃(out:List MapEntry) (cnt:Nat) (ks:List Lb) (v3:Value),v3=s3/\cnt<=g/\RIt wr b r es clock out cnt/\out.map (·.key)=ks.map lbV/\wr.ownsRow (r+1) 99 2 v3 ks.length (ks.flatMap encLb)/\Below r w wr)
 case atStart=>exact ⟨[],es.size,[],_,rfl,co _,hrg0,rfl,cY _ _ _ _,bM⟩
 case round=>
  obtain ⟨out,cnt,ks,v3,rfl,hcg,ao,bd,ac,hB⟩:=hrel;have aU:=Jh bd;clear bd;go_wp2_with (at_next;refine Kpx rfl _ rfl mkP b r es clock out cnt bQ.out ca.out rfl ao ?_ ?_)
  .intro hao;have ab:=hao.all;obtain ⟨k1,k2,k3,k4⟩:=Kvg H.out ao.nd ao.sub aU.out;have hL:LMap wr B b (Kap S) n es clock:=H.out.below (HR.out.symm▸hB);have bG:=Jh (Kqq ks (r+1) v3 wr ac (by omega));have b2:=Jh k1;have ce:=Jh (k3 ab);obtain ⟨A,cap,rfl⟩:=Kag ac;obtain ⟨m,hm⟩:=iZ ks.length;have HM:=Jh hm;have bO:m<=1099511627776:=by omega
   rw[hm] at bG ac |-;have HL:=Jh hL;have az:=Jh ac;have HB:=Jh hB;clear hao ab k1 k2 k3 k4 hL hm ac hB ao;go_wp2_with fail
   refine bG.out.mono ?_;rintro e w3 ⟨rfl,l',hp,hs,aa,ah⟩;have hK:=Kxz b2.out ce.out hp hs;have hl'm:l'.length=m:=hp.length_eq.trans HM.out;rw[hl'm] at aa;have aH:Below r w w3:=HB.out.trans ⟨ah.os,ah.tape,ah.output,ah.size,fun j hj=>ah.block j (by have:=HB.out.size;rw[HR.out] at this;omega) (fun e=>by have:=(World.ownsRow.lt az.out j e.symm).1;omega)⟩;have bL:LMap w3 B b (Kap S) n es clock:=HL.out.kept ah (fun q e=>by obtain ⟨cd,hc⟩:=Kax az.out e;exact ⟨cd,_,hc,by decide⟩);obtain ⟨A',bZ,he,bt,_,_⟩:=Elems.of_own (fun x _=>Kbx x) rfl aa hl'm;injection he with heA _ hec;subst heA hec;have hu:=Kau m (by omega) w3;obtain ⟨U,hU⟩:∃U:ByteArray,(⟨(uintT m).toArray⟩:ByteArray)=U:=⟨_,rfl⟩;have ba:U.data.toList=uintT m:=by rw[<-hU]
   rw[hU] at hu;have HU:=Jh hu;have b0:=Jh ba;have HK:=Jh hK;have aG:=Jh hl'm;have bz:=Jh aH;have b7:=Jh bt;have bR:=Jh bL;clear hU hu ba hK hl'm aH bt bL aa ah hp hs;go_wp2_with fail
   refine HU.out.mono ?_;rintro e w4 ⟨rfl,ax⟩;have bI:=Jh (bz.out.trans (ax.mono (by have:=bz.out.size;rw[HR.out] at this;omega)));have bs:=Jh ((b7.out.below ax).more ax.size);have aQ:=Jh (bR.out.below ax);have bA:uintT m++l'.flatMap (keyT S)=Kcx S:=by unfold Kcx;rw[HK.out,<-HK.out,aG.out]
   have bH:=Jh bA;clear ax bA;go_wp2_with fail
   go_loopg [5,28] m (fun g s5 s28 wz=>∃(i:Nat) (Z:ByteArray),i+g=m/\s28 = .int .i64 (i:Int)/\s5 = .string Z/\Z.data.toList=uintT m++(l'.take i).flatMap (keyT S)/\Below w4.heap.size w4 wz)
   case atStart=>exact ⟨0,U,by omega,rfl,rfl,by rw[b0.out];simp,Below.refl _ _⟩
   case round=>
    obtain ⟨i,Z,bp,rfl,rfl,hZ,aM⟩:=hrel;have a0:=Jh bp;have aP:=Jh hZ;obtain ⟨wz,rfl⟩:=i7 wr;clear bp hZ
    by_cases hi:i < m
    .have ap:i < l'.length:=by have:=aG.out;omega
     have el:decide ((i:Int) < (m:Int))=true:=by simp;omega
     have bY:decide (i < m)=true:=by simp;omega
     obtain ⟨bk,ok,rfl,_,_⟩:=bs.out.2 (by omega);obtain ⟨hbl,c0,c1⟩:=Kbi bs.out (by omega) aM i ap;have aj:l'[i]!∈l':=by rw[i9 l' i ap];exact cK ap
     have aI:l'.take (i+1)=l'.take i ++ [l'[i]!]:=by rw[i9 l' i ap];exact (List.take_append_getElem ap).symm
     obtain ⟨x,hx⟩:∃x,l'[i]! = x:=⟨_,rfl⟩;rw[hx] at c0 c1 aj aI
     have ae:(uintT m++(l'.take (i+1)).flatMap (keyT S)).length<=35184372088832:=by
      have h1:=HZ.out;rw[<-bH.out,cg] at h1;rw[cg]
      have h2:((l'.take (i+1)).flatMap (keyT S)).length<=(l'.flatMap (keyT S)).length:=by
       have:l'.flatMap (keyT S)=(l'.take (i+1)).flatMap (keyT S)++(l'.drop (i+1)).flatMap (keyT S):=by rw[<-cC,List.take_append_drop]
       rw[this,cg];omega
      omega
     rw[aI,cC,cT,<-cA,<-aP.out] at ae;have bv:keyT S x=textT x.n++(textT x.v++postT (Kap S x)):=rfl;rw[bv] at ae;simp only[cg] at ae;have bq:Z.data.toList.length=Z.size:=rfl;rw[bq] at ae;obtain ⟨N,hN⟩:∃N:ByteArray,(⟨x.n.toArray⟩:ByteArray)=N:=⟨_,rfl⟩;obtain ⟨V,hV⟩:∃N:ByteArray,(⟨x.v.toArray⟩:ByteArray)=N:=⟨_,rfl⟩;have bi:N.data.toList=x.n:=by rw[<-hN]
     have be:V.data.toList=x.v:=by rw[<-hV]
     rw[hN] at c0;rw[hV] at c1;have bc:lbV x = .agg #[.string N,.string V]:=by unfold lbV;rw[hN,hV]
     have bg:x∈keysOf S:=by rw[<-HK.out];exact aj
     obtain ⟨aE,e0,aD,af⟩:(x.n.length<=1099511627776/\x.v.length<=1099511627776)/\∃e0,e0∈es.toList/\e0.key=lbV x:=by obtain ⟨e0,aD,af⟩:=aQ.out.a x (Kjp.2 bg);obtain ⟨y,bT,hy,_⟩:=aQ.out.k e0 aD;rw[af] at hy;rw[Kfa hy];exact ⟨bT,e0,aD,by rw[af,Kfa hy]⟩
     have aF:=Jh aE;have bJ:=Jh aD;have bB:=Jh af;have b6:=Jh bc;have cc:=Jh aI;have bF:=Jh bi;have bl:=Jh be;clear hx hN hV bi be bc bg aE aD af aI bq bv aj;go_upto_region 11 with fail
     have aW:Below wz.heap.size wz (wz.alloc (.cells #[.string N,.string V] 99)):=(Below.refl _ _).alloc (co _) _;have hq:Blk (wz.alloc (.cells #[.string N,.string V] 99)) wz.heap.size 99 #[.string N,.string V]:=ds _ _ _;obtain ⟨w5,bx⟩:=iZ (wz.alloc (.cells #[.string N,.string V] 99));rw[bx] at aW hq |-;obtain ⟨p,hp⟩:=iZ wz.heap.size;rw[hp] at hq |-;have a5:=then_ aM aW;have ar:=aQ.out.below a5;clear bx hp c0 c1 aW aM;have q0:_=some (cV N):=hq.cell 0;have q1:_=some (cV V):=hq.cell 1;obtain ⟨kl,aK⟩:=Knp x (by have:=aF.out.1;unfold maxLen;omega) (by have:=aF.out.2;unfold maxLen;omega);have ad:=Qbg ar.h (Kzq ar) aK bJ.out bB.out ar.st.2.2;rw[b6.out] at ad;obtain ⟨y,_,hy,b3,aA⟩:=ar.k e0 bJ.out;rw[bB.out] at hy;obtain rfl:y=x:=(Kfa hy).symm;obtain ⟨A2,c2,br,bo,_,_⟩:=Elems.of_own (fun (x:Nat) _=>(rfl:(encN x).length=1)) rfl aA rfl;rw[br] at ad;have bf:(Kap S y).Pairwise (· < ·):=by unfold Kap;exact List.pairwise_lt_range.filter _
     have bm:∀z∈Kap S y,z<=1099511627776:=fun z hz=>by unfold Kap at hz;have:=cl.1 (List.mem_filter.1 hz).1;omega
     have aw:=Kms S y;have bj:=Jh (Kth (Kap S y) A2 (Kap S y).length c2 w5 bo (by omega) bf bm);obtain ⟨PT,a2⟩:∃N:ByteArray,(⟨(postT (Kap S y)).toArray⟩:ByteArray)=N:=⟨_,rfl⟩;obtain ⟨n2,a8⟩:=iZ ((Kap S y).length);have aO:PT.data.toList=postT (Kap S y):=by rw[<-a2]
     have bC:PT.size=(postT (Kap S y)).length:=by rw[<-Kai,aO]
     rw[a2,a8] at bj;rw[a8] at ad;have bX:=Jh aO;have HQ:=Jh hq;rw[<-bC] at ae;clear hy b3 aA br bo bf bm aw a2 a8 bC aO ar aK;go_wp2_with fail
     refine bj.out.mono ?_;rintro _ w6 ⟨rfl,aX⟩;have aN:=HQ.out.below aX HQ.out.lt;have bN:=then_ a5 aX;have q0:w6.cell? ⟨p,0,none⟩=some (cV N):=aN.cell 0;have q1:w6.cell? ⟨p,1,none⟩=some (cV V):=aN.cell 1;have hp6:=aN.lt;have bE:N.size<=140737488351232:=by rw[<-Kai,bF.out];have:=aF.out.1;omega
     have bw:V.size<=140737488351232:=by rw[<-Kai,bl.out];have:=aF.out.2;omega
     have aR:=Jh (fun u:Later w6=>Kfl N bE u.w);have aZ:=Jh (fun u:Later w6=>Kfl V bw u.w);rw[bF.out] at aR;rw[bl.out] at aZ;obtain ⟨T1,a3⟩:∃N:ByteArray,(⟨(textT y.n).toArray⟩:ByteArray)=N:=⟨_,rfl⟩;obtain ⟨T2,aT⟩:∃N:ByteArray,(⟨(textT y.v).toArray⟩:ByteArray)=N:=⟨_,rfl⟩;have al:T1.data.toList=textT y.n:=by rw[<-a3]
     have ak:T2.data.toList=textT y.v:=by rw[<-aT]
     have av:T1.size=(textT y.n).length:=by rw[<-Kai,al]
     have aB:T2.size=(textT y.v).length:=by rw[<-Kai,ak]
     rw[a3] at aR;rw[aT] at aZ;rw[<-av,<-aB] at ae;have a6:=Jh al;have a1:=Jh ak;clear a3 aT av aB al ak bE bw aN hq aX ad a5;go_upto_region 12 with fail
     refine Kaa (by kernel_rfl) (by kernel_rfl) ?_
     repeat (go_big_quiet_step ((first | (go_at_call 112;first | with_reducible exact Kaj _ (aR.out _) | with_reducible exact Kaj _ (aZ.out _)))))
     refine wpQuiet_nil ?_;rintro w7 ⟨⟨_,b9⟩,rfl⟩;go_wp2_with fail
     go_roundg (gk - 1)
     case measure=>have:=a0.out;omega
     case rel=>
      refine ⟨i+1,_,by have:=a0.out;omega,by go_num,rfl,?_,then_ bN b9⟩;rw[cc.out,cC,cT,<-cA,<-aP.out];show _=_++keyT S y
      unfold keyT;simp only[ByteArray.data_append,Array.toList_append,a6.out,a1.out,bX.out,cA]
    .have el:decide ((i:Int) < (m:Int))=false:=by simp;omega
     have bY:decide (i < m)=false:=by simp;omega
     have bK:i=m:=by have:=a0.out;omega
     have aC:(⟨(Kcx S).toArray⟩:ByteArray)=Z:=by have h1:=aP.out;rw[bK,<-aG.out,dj,aG.out,bH.out] at h1;rw[<-h1]
     have HF:=Jh aC;have cf:=Jh (bI.out.trans (aM.mono (by have:=bI.out.size;rw[HR.out] at this;omega)));clear aC bK;go_wp2_with fail
     go_ret
     rw[HF.out];exact ⟨rfl,by rw[HR.out];exact cf.out⟩
  .intro p v w2 hco;obtain ⟨e,a4,he,bU,bD,b4,ai,hlt⟩:=hco.ex;have am:=hco.g;have bb:=hco.run;obtain ⟨x,aE,aL,b5,_⟩:=H.out.k e he;have ay:=aL;rw[bD] at aL;obtain ⟨hX,hY⟩:=Qhx aL;obtain ⟨X,Y⟩:=p;dsimp only at hX hY;have bh:Below r w w2:=hB.trans ⟨am.os,am.tape,am.output,am.size,fun j hj=>am.block j (by have:=hB.size;rw[HR.out] at this;omega) (fun e=>by injection e with e;omega)⟩;have ag:w2.ownsRow (r+1) 99 2 v3 ks.length (ks.flatMap encLb):=ac.kept am (.inr fun e=>by have:=(ac.lt r e).1;omega);have aK:=(Kvg H.out ao.nd ao.sub aU.out).2.2.2;have hr2:r < w2.heap.size:=ai.rlt;have hbr:b < r:=by have:=(c9.1 H.out.h).1;have:=HR.out;omega
   obtain ⟨m,hm⟩:=iZ ks.length;rw[hm] at aK ag;have HM:=Jh hm;have HX:=Jh hX;have HY:=Jh hY;have b8:=Jh ay;have a7:(dw (.pointer (some ⟨r,0,none⟩))).run prog w2 = .ok (.tuple #[.agg #[.string X,.string Y],v]) w2:=bb;clear hco aL ay hX hY ac ao hm am hB bb bD b4 bU b5 aE he;unfold mkP;dsimp only;go_upto_region 5 with fail
   have aJ:Below w2.heap.size w2 (w2.alloc (.cells #[.string X,.string Y] 99)):=(Below.refl _ _).alloc (co _) _;have hq:Blk (w2.alloc (.cells #[.string X,.string Y] 99)) w2.heap.size 99 #[.string X,.string Y]:=ds _ _ _;obtain ⟨w3,aV⟩:=iZ (w2.alloc (.cells #[.string X,.string Y] 99));rw[aV] at aJ hq |-;obtain ⟨p,hp⟩:=iZ w2.heap.size;have aa:w3.ownsRow (r+1) 99 2 v3 m (ks.flatMap encLb):=by rw[<-aV];exact ag.alloc _
   have an:=ai.below aJ;have aH:Below r w w3:=bh.trans (aJ.mono (by omega));rw[hp] at hq |-;have q0:_=some (cV X):=hq.cell 0;have q1:_=some (cV Y):=hq.cell 1;have hr3:r < w3.heap.size:=an.rlt;clear hp aV aJ ag ai bh a7;go_wp2_with (at_builtin;refine wpList_append_own_at _ rfl _ _ 54 rfl (r+1) 99 i0 (.agg #[.string ⟨#[]⟩,.string ⟨#[]⟩]) 2 32 underlying54 bP cb bW bS rfl (by decide) _ _ _ rfl (aa.alloc _) ⟨w3.heap.size,0,none⟩ 1 1 [.string X,.string Y] rfl rfl ?p1 ?p2 ?p3 ?p4 ?p5 ?_)
   case p1=>exact Kao (l:=[.string X,.string Y]) (ds w3 _ _)
   case p2=>intro u hu;simp at hu;rcases hu with rfl | rfl <;> rfl
   case p3=>unfold maxLen;omega
   case p4=>omega
   case p5=>simp;omega
   intro v' w4 hown' hgrow _ _;have ab:w3.grownBy w4 v3.ownBlock:=(cX w3 _ _).trans hgrow;have bV:Below r w w4:=aH.trans ⟨ab.os,ab.tape,ab.output,ab.size,fun j hj=>ab.block j (by omega) (fun e=>by have:=(aa.lt j e.symm).1;omega)⟩;have a9:=an.kept ab (fun e=>by have:=(aa.lt b e.symm).1;omega) (fun e=>by have:=(aa.lt r e.symm).1;omega)
   have aq:w4.ownsRow (r+1) 99 2 v' (ks ++ [x]).length ((ks ++ [x]).flatMap encLb):=by
    have e1:(ks ++ [x]).flatMap encLb=ks.flatMap encLb ++ [.string X,.string Y]:=by rw[cC];simp[encLb,HX.out,HY.out]
    rw[e1,cg,HM.out];exact hown'
   have aY:=Jh (show (out ++ [e]).map (·.key)=(ks ++ [x]).map lbV by rw[cz,cz,aU.out];simp[b8.out]);clear hown' hgrow ab aa an q0 q1 hq;go_wp2_with fail
   go_roundg (gk - 1)
   case measure=>omega
   case rel=>exact ⟨out ++ [e],a4,ks ++ [x],_,rfl,by omega,a9,aY.out,aq,bV⟩
end
section
open Go.RowKit
open Lib renaming hid -> Jh
attribute [local go_sem ↓] Go.wp_at_zero Go.wp_at_succ
attribute [local go_sem] Later.cell
theorem Elems.get {α : Type} [Inhabited α] {w:World} {B sz n:Nat} {enc:α->List Value} {A:Option Addr} {xs:List α} (h:Elems w B sz enc A n xs) {i:Nat} (hi:i < n):∃b off,A=some ⟨b,off,none⟩/\b < B/\∀j v,(enc xs[i]!)[j]? = some v->w.cell? ⟨b,off+i*sz+j,none⟩=some v:=by
 obtain ⟨b,off,e,hb,hc⟩:=h.2 (by omega);have hl:i < xs.length:=by have:=h.len;omega
 refine ⟨b,off,e,hb,fun j v hv=>hc i xs[i]! (by rw[i9 xs i hl];exact ch hl) j v hv⟩
def Kis (w:World) (b:Nat) (h:Hd3) (x:Ser):Prop:=Blk w b 58 #[.slice h.l.A h.l.n h.l.c,.slice h.s.A h.s.n h.s.c,.slice h.w.A h.w.n h.w.c]/\SerAt w h x
theorem Qev (w:World) (b:Nat) (h:Hd3) (x:Ser) (hb:Kis w b h x) (hn:h.s.n<=1099511627776) (i:Nat) (hi:i < h.s.n) :
  Calls prog 163 #[.int .i64 (i:Int),.pointer (some ⟨b,0,none⟩)] w fun e w'=>e = .returned (.int .i64 (x.samples[i]!).t)/\w=w':=by
 obtain ⟨bb,ac,hA,hlt,hc⟩:=hb.2.s.get hi;have c1:w.cell? ⟨b,1,none⟩=some (.slice h.s.A h.s.n h.s.c):=hb.1.cell 1;have d0:w.cell? ⟨bb,ac+i*2,none⟩=some (.int .i64 (x.samples[i]!).t):=hc 0 _ rfl;obtain ⟨t,ht⟩:=iZ ((x.samples[i]!).t);rw[ht] at d0 |-;rw[hA] at c1;obtain ⟨n,ab⟩:=iZ h.s.n;obtain ⟨c,aa⟩:=iZ h.s.c;rw[ab] at hn hi c1;rw[aa] at c1;clear hb hc hA ht ab aa;have hi':(i:Int) < (n:Int):=by omega
 go_enter func163,ntmps163
 go_wp2_with fail
 go_ret
 exact ⟨rfl,rfl⟩
theorem Qew (w:World) (b:Nat) (h:Hd3) (x:Ser) (hb:Kis w b h x) (hn:h.w.n<=1099511627776) (i:Nat) (hi:i < h.w.n) :
  Calls prog 164 #[.int .i64 (i:Int),.pointer (some ⟨b,0,none⟩)] w fun e w'=>e = .returned (.int .i64 (x.windows[i]!).start)/\w=w':=by
 obtain ⟨bb,ac,hA,hlt,hc⟩:=hb.2.w.get hi;have c1:w.cell? ⟨b,2,none⟩=some (.slice h.w.A h.w.n h.w.c):=hb.1.cell 2;have d0:w.cell? ⟨bb,ac+i*6,none⟩=some (.int .i64 (x.windows[i]!).start):=hc 0 _ rfl;obtain ⟨t,ht⟩:=iZ ((x.windows[i]!).start);rw[ht] at d0 |-;rw[hA] at c1;obtain ⟨n,ab⟩:=iZ h.w.n;obtain ⟨c,aa⟩:=iZ h.w.c;rw[ab] at hn hi c1;rw[aa] at c1;clear hb hc hA ht ab aa;have hi':(i:Int) < (n:Int):=by omega
 go_enter func164,ntmps164
 go_wp2_with fail
 go_ret
 exact ⟨rfl,rfl⟩
def badAt (f t:Int) (l:List Int) (i:Nat):Bool:=decide (l[i]! < f) || decide (t<=l[i]!) || (decide (0 < i) && decide (l[i]!<=l[i - 1]!))
theorem Qcj (f t:Int):∀l:List Int,Kco f t l=true↔l≠[]/\∀i,i < l.length->badAt f t l i=false:=by
 have aa:∀l:List Int,riseI l=true↔∀i,i+1 < l.length->l[i]! < l[i+1]!:=by
  intro l
  induction l with
  | nil=>simp[riseI]
  | cons a l ih=>
   cases l with
   | nil=>simp[riseI]
   | cons b l=>
    rw[riseI,ci,i8,ih];constructor
    .rintro ⟨h1,h2⟩ i hi
     cases i with
     | zero=>simpa using h1
     | succ i=>simpa using h2 i (by simpa using hi)
    .intro h;refine ⟨by simpa using h 0 (by simp),fun i hi=>?_⟩;simpa using h (i+1) (by simpa using hi)
 intro l;unfold Kco;rw[ci,ci,i8,aa,List.all_eq_true];constructor
 .rintro ⟨⟨h0,h1⟩,h2⟩;refine ⟨h0,fun i hi=>?_⟩;have hm:=h1 l[i]! (by rw[i9 l i hi];exact cK hi);rw[ci,i8,i8] at hm;unfold badAt;rw[cB,cB,jb,jb];refine ⟨⟨by omega,by omega⟩,?_⟩
  cases i with
  | zero=>rfl
  | succ i=>
   have:=h2 i (by omega);rw[da];right;rw[jb,show i+1 - 1=i from rfl];omega
 .rintro ⟨h0,h1⟩;refine ⟨⟨h0,fun x hx=>?_⟩,fun i hi=>?_⟩
  .obtain ⟨i,hi,rfl⟩:=dc hx;have:=h1 i hi;unfold badAt at this;rw[cB,cB,jb,jb,i9 l i hi] at this;rw[ci,i8,i8];omega
  .have:=h1 (i+1) hi;unfold badAt at this;rw[cB,da,show i+1 - 1=i from rfl] at this;rcases this.2 with h | h
   .rw[jb] at h;omega
   .rw[jb] at h;omega
def contV (r f t:Int) (h:Hd):Value:=.agg #[.int .i64 r,.int .i64 f,.int .i64 t,.slice h.A h.n h.c]
theorem Klw (r f t:Int) (h:Hd) (ts:List Int) (g:Nat) (b:Nat) (w:World) (hn:ts.length<=1099511627776) (heg:∀args W,(callFunc g args).run prog W = .ok (.enter g args) W)
  (hT:∀i,i < ts.length->∀W,Below w.heap.size w W->Calls prog g #[.int .i64 (i:Int),.pointer (some ⟨b,0,none⟩)] W fun e w'=>e = .returned (.int .i64 ts[i]!)/\W=w') :
  Calls prog 162 #[contV r f t h,.int .i64 (ts.length:Int),.func (.func g) #[] #[.pointer (some ⟨b,0,none⟩)]] w fun e w'=>e = .returned (.bool (Kco f t ts))/\Below w.heap.size w w':=by
 obtain ⟨n,hl⟩:=iZ ts.length;obtain ⟨R,hR⟩:=iZ (Kco f t ts);have aa:=Qcj f t ts;rw[hl] at hn hT aa;rw[hl,hR];rw[hR] at aa;have ao:ts≠[]↔0 < n:=by rw[<-hl];exact List.length_pos_iff.symm
 rw[ao] at aa;have ag:=Jh aa;have HT:=Jh hT;obtain ⟨q,hq⟩:=iZ w.heap.size;have al:Below q w (w.alloc (.cells #[.int .i64 r,.int .i64 f,.int .i64 t,.slice h.A h.n h.c] 28)):=(Below.refl _ _).alloc (by omega) _;have am:Blk (w.alloc (.cells #[.int .i64 r,.int .i64 f,.int .i64 t,.slice h.A h.n h.c] 28)) q 28 #[.int .i64 r,.int .i64 f,.int .i64 t,.slice h.A h.n h.c]:=dt hq.symm;unfold contV;clear hl hR aa hT ao;go_enter func162,ntmps162
 go_upto_region 1 with fail
 obtain ⟨w1,ak⟩:=iZ (w.alloc (.cells #[.int .i64 r,.int .i64 f,.int .i64 t,.slice h.A h.n h.c] 28));rw[ak] at al am;rw[ak]
 try rw[hq]
 have HQ:=Jh hq;have HB:=Jh al;clear ak hq al;have c1:w1.cell? ⟨q,1,none⟩=some (.int .i64 f):=am.cell 1;have c2:w1.cell? ⟨q,2,none⟩=some (.int .i64 t):=am.cell 2;go_wp2_with fail
 go_loopg [10] n (fun g10 s10 wr=>∃i:Nat,i+g10=n/\s10 = .int .i64 (i:Int)/\wr=w1/\∀j,j < i->badAt f t ts j=false)
 case atStart=>exact ⟨0,by omega,rfl,rfl,fun j hj=>by omega⟩
 case round=>
  obtain ⟨i,hi,rfl,rfl,af⟩:=hrel;have ah:=Jh af;clear af
  cases gk with
  | zero=>
   have el:decide (i < n)=false:=by rw[jb];omega
   have ad:R=decide ((0:Int) < (n:Int)):=by
    rw[Bool.eq_iff_iff,ag.out,i8];constructor
    .intro h;omega
    .intro h;exact ⟨by omega,fun j hj=>ah.out j (by omega)⟩
   have ap:=Jh ad;clear ad;go_wp2_with fail
   go_ret
   rw[ap.out];exact ⟨by simp,by rw[HQ.out];exact HB.out⟩
  | succ gk=>
   have el:decide (i < n)=true:=by rw[i8];omega
   have HC:=Jh (HT.out i (by omega) wr (by rw[HQ.out];exact HB.out))
   have HP:Hid (0 < i->Calls prog g #[.int .i64 ((i:Int) - 1),.pointer (some ⟨b,0,none⟩)] wr fun e w'=>e = .returned (.int .i64 ts[i - 1]!)/\wr=w'):=Jh (fun h=>by
    have:=HT.out (i - 1) (by omega) wr (by rw[HQ.out];exact HB.out)
    rwa[show ((i - 1:Nat):Int)=(i:Int) - 1 by omega] at this)
   obtain ⟨x,hx⟩:∃x,ts[i]! = x:=⟨_,rfl⟩;obtain ⟨y,hy⟩:∃y,ts[i - 1]! = y:=⟨_,rfl⟩;have ae:badAt f t ts i=(decide (x < f) || decide (t<=x) || (decide (0 < i) && decide (x<=y))):=by unfold badAt;rw[hx,hy]
   have ab:=Jh ae;rw[hx] at HC;rw[hy] at HP;clear hx hy ae;go_wp2_with fail
   refine HC.out.mono ?_;rintro _ w3 ⟨rfl,rfl⟩
   have ac:badAt f t ts i=true->R=false:=fun hb=>by rw[Bool.eq_false_iff];intro hR;have:=(ag.out.1 hR).2 i (by omega);rw[hb] at this;cases this
   have aj:=Jh ac;clear ac
   by_cases h1:x < f
   .have e1:decide (x < f)=true:=jd h1;have ad:R=false:=aj.out (by rw[ab.out,e1];rfl);go_wp2_with fail
    go_ret
    rw[ad];exact ⟨rfl,by rw[HQ.out];exact HB.out⟩
   have e1:decide (x < f)=false:=ja h1
   by_cases h2:t<=x
   .have e2:decide (t<=x)=true:=jd h2;have ad:R=false:=aj.out (by rw[ab.out,e1,e2];rfl);go_wp2_with fail
    go_ret
    rw[ad];exact ⟨rfl,by rw[HQ.out];exact HB.out⟩
   have e2:decide (t<=x)=false:=ja h2
   have go:∀(h:badAt f t ts i=false) (j:Nat),j < i+1->badAt f t ts j=false:=fun h j hj=>by
    by_cases e:j=i
    .rw[e];exact h
    .exact ah.out j (by omega)
   have GO:=Jh go;clear go
   by_cases h3:0 < i
   .have e3:decide ((0:Int) < (i:Int))=true:=by rw[i8];omega
    have an:=Jh (HP.out h3)
    by_cases h4:x<=y
    .have e4:decide (x<=y)=true:=jd h4;have ad:R=false:=aj.out (by rw[ab.out,e1,e2,e4,jd h3];rfl);go_wp2_with fail
     refine an.out.mono ?_;rintro _ w4 ⟨rfl,rfl⟩;go_wp2_with fail
     go_ret
     rw[ad];exact ⟨rfl,by rw[HQ.out];exact HB.out⟩
    .have e4:decide (x<=y)=false:=ja h4;have hb:badAt f t ts i=false:=by rw[ab.out,e1,e2,e4,jd h3];rfl
     have ai:=Jh hb;clear hb;go_wp2_with fail
     refine an.out.mono ?_;rintro _ w4 ⟨rfl,rfl⟩;go_wp2_with fail
     go_roundg gk
     case measure=>omega
     case rel=>exact ⟨i+1,by omega,by go_num,rfl,GO.out ai.out⟩
   .have e3:decide ((0:Int) < (i:Int))=false:=by rw[jb];omega
    obtain rfl:i=0:=by omega
    have hb:badAt f t ts 0=false:=by rw[ab.out,e1,e2];rfl
    have ai:=Jh hb;clear hb;go_wp2_with fail
    go_roundg gk
    case measure=>omega
    case rel=>exact ⟨1,by omega,by go_num,rfl,GO.out ai.out⟩
end
end Go.Proofs.YtdoiekknhnbepaaGreatDoor
