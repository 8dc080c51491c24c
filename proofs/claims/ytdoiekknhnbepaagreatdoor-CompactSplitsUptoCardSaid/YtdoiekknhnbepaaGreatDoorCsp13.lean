/- Merged (what the claim wants of): BlkBuild, BlkSize, RefB2, RefBPlain, RefBEq, RefB5, RefB1. -/
import Derived.Test.YtdoiekknhnbepaaGreatDoorCsp12
set_option linter.unusedVariables false
set_option linter.unusedSimpArgs false
set_option maxRecDepth 1000000
set_option linter.ambiguousOpen false
set_option maxHeartbeats 8000000
namespace Go.Proofs.YtdoiekknhnbepaaGreatDoor
open Go renaming wpQuiet_nil->jt
open List renaming getElem?_eq_getElem->is,mem_flatMap->it,mem_singleton->iw,getElem?_map->i2,mem_map->i3,mem_append->i4,map_nil->i5
open _root_.ByteArray renaming toList_eq->i6,size_append->jc,data_append->jj
open Op renaming eqFields->jm,equalIn->jn,bytesLess->jo
open World.ownsRow renaming mono->jp,lt->jq
open Decidable renaming byContradiction->jr
open Hd3 renaming l->js
open Tryz
open List renaming length_cons->iv,map_cons->iB,length_map->iC,flatMap_append->iD,take_add_one->iE,append_assoc->iF,flatMap_cons->iG,getElem_mem->iH,drop_eq_getElem_cons->iI,sum_cons->iJ,flatMap_singleton->iL,take_append_drop->iM,length_singleton->iN,filter_cons->iO,drop_eq_nil_iff->iP,flatten_append->iQ,lt_irrefl->iR,length_take->iS,take_length->iT,take_of_length_le->iV,drop_eq_nil_of_le->iW,flatten_cons->iX,take_zero->iY
open Nat renaming le_trans->iy,le_refl->iA,lt_of_lt_of_le->iK,lt_add_of_pos_right->iU
open Bool renaming eq_iff_iff->iz
section
open Go.RowKit Go.Shelf Go.Sort Go.Maps
open Go.ChangeMaps (setBlock)
open Lib renaming hid -> Jh
open List renaming length_append -> Jd
attribute [local go_sem ↓] Go.wp_at_zero Go.wp_at_succ
attribute [local go_sem] Later.cell
theorem Kyp {S:List (List Lb)} {l:List Lb} (hd:l.Nodup) {k:Nat} (hk:k < l.length):addF (Ket S l k) l[k]! S.length=Ket S l (k+1):=by
 have hx:l[k]! = l[k]:=i9 l k hk;have aa:l.take (k+1)=l.take k ++ [l[k]]:=(List.take_append_getElem hk).symm;have hl:l=l.take k++l[k] :: l.drop (k+1):=by rw[<-iI hk,iM]
 have ac:(l.take k++l[k] :: l.drop (k+1)).Nodup:=by rw[<-hl];exact hd
 have ab:l[k]∉l.take k:=fun hm=>(List.nodup_append.1 ac).2.2 _ hm _ (List.mem_cons_self ..) rfl
 funext y;unfold addF Ket;rw[hx,aa]
 by_cases hy:y=l[k]
 .rw[jf hy,je ab,hy,jf (i4.2 (.inr (iw.2 rfl)))]
 .rw[je hy]
  have:y∈l.take k ++ [l[k]]↔y∈l.take k:=by rw[i4,iw];exact ⟨fun h=>h.resolve_right hy,.inl⟩
  by_cases hm:y∈l.take k
  .rw[jf hm,jf (this.2 hm)]
  .rw[je hm,je (fun h=>hm (this.1 h))]
def filV (f:Fil):Value:=.agg #[txtV f.mt,txtV f.ck,txtV f.ix]
def Kdn (c:Cont):Fil:=if fitB c=true then Kfg c else ⟨[],[],[]⟩
theorem Qdp:(prog.info? 54).map (fun i=>(i.zero,i.size,i.bytes))=some (some (.slice none 0 0),1,24):=by kernel_rfl
theorem Qfs (h:Hd):(encH h).length=1:=rfl
structure FstAt (c:Cont) (hs:List Hd3) (q m i:Nat) (vs:Value) (w1 w:World):Prop where
 row:w.ownsRow (q+2) 54 1 vs i (((hs.map js).take i).flatMap encH)
 map:∃es clock,LMap w (q+2) m (Kap ((Kaq c).take i)) (i*8) es clock
 b:Below (q+2) w1 w
theorem Qen {c:Cont} {i:Nat} (h:i < c.series.length):(Kaq c).take (i+1)=(Kaq c).take i ++ [(c.series[i]!).labels]/\((Kaq c).take i).length=i:=by
 have e:(Kaq c)[i]? = some (c.series[i]!).labels:=by unfold Kaq;rw[i2,is h,i9 _ i h];rfl
 refine ⟨by rw[iE,e];rfl,?_⟩;have:(Kaq c).length=c.series.length:=by unfold Kaq;rw[iC]
 rw[iS];omega
theorem Kmu {w:World} {B n sz b:Nat} {T:TypeId} {v:Value} {xs:List Value} {es:Array MapEntry} {clock:Nat} (h:w.ownsRow B T sz v n xs) (hb:w.heap[b]? = some (.map es clock)):v.ownBlock=none\/v.ownBlock≠some b:=.inr (Kiy h hb)
def ixAt (c:Cont) (T:List Txt) (i:Nat):List UInt8:=tabT T++(uintT c.series.length++(c.series.take i).flatMap (serT T))
def ckAt (c:Cont) (i:Nat):List UInt8:=(c.series.take i).flatMap fun s=>(Kbf s).flatten
theorem Kwy {c:Cont} {i:Nat} (h:i < c.series.length):c.series.take (i+1)=c.series.take i ++ [c.series[i]!]:=by rw[iE,is h,i9 _ i h];rfl
theorem Qdr {c:Cont} {T:List Txt} {i:Nat} (h:i < c.series.length):ixAt c T (i+1)=ixAt c T i++serT T c.series[i]!:=by unfold ixAt;rw[Kwy h,iD,iL];simp only[iF]
theorem Qct {c:Cont} {i:Nat} (h:i < c.series.length):ckAt c (i+1)=ckAt c i++(Kbf c.series[i]!).flatten:=by unfold ckAt;rw[Kwy h,iD,iL]
theorem Kkv {α β : Type} (f:α->List β) (l:List α) (i:Nat):((l.take i).flatMap f).length<=(l.flatMap f).length:=by
 have:l.flatMap f=(l.take i).flatMap f++(l.drop i).flatMap f:=by rw[<-iD,iM]
 rw[this,Jd];omega
theorem Kzo (c:Cont) (i:Nat):(ixAt c (tabOf (Kaq c)) i).length+(Kcx (Kaq c)).length<=(Kcp c).length:=by unfold ixAt Kcp;have:=Kkv (serT (tabOf (Kaq c))) c.series i;simp only[Jd];omega
theorem Qfw (c:Cont):ixAt c (tabOf (Kaq c)) c.series.length++Kcx (Kaq c)=Kcp c:=by unfold ixAt Kcp;rw[iT];simp only[iF]
theorem Qhm (c:Cont) (i:Nat):(ckAt c i).length<=(Kdc c).length:=Kkv _ c.series i
theorem Qfm (c:Cont):ckAt c c.series.length=Kdc c:=by unfold ckAt Kdc;rw[iT]
theorem Kob:∀{L:List (List Lb)},(∀s∈L,s.length<=8)->(allT L).length<=16*L.length
 | [],_=>by simp[allT]
 | l :: L,h=>by
  have h1:=Kob (L:=L) fun s hs=>h s (by simp[hs])
  have h2:=h l (by simp);rw[Krd,Jd,Kgg,iv];omega
theorem Qeu {l:List Lb} {x:Txt} (h:x∈texts l):∃y∈l,x=y.n\/x=y.v:=by unfold texts at h;obtain ⟨y,hy,hx⟩:=it.1 h;simp at hx;exact ⟨y,hy,hx⟩
theorem Qdt (P:List (List UInt8)):(lensT P).length<=11*P.length:=by
 induction P with
 | nil=>simp[lensT]
 | cons p P ih=>
  have h:=(Kab p.length).2;have e:lensT (p :: P)=uintT p.length++lensT P:=rfl;rw[e,Jd,iv];omega
theorem Qbo (s:Ser):(Kbf s).length<=s.samples.length+1:=by
 have a1:=Kgj s.samples.length s.samples;have a2:(aggsT s.windows).length<=1:=by cases s.windows <;> simp[aggsT]
 unfold Kbf;rw[Jd,iC];omega
theorem Kuy {P:List (List UInt8)} {k:Nat} (h:k < P.length):(P.take (k+1)).flatten=(P.take k).flatten++P[k]!/\((P.take (k+1)).flatten).length<=P.flatten.length:=by
 have e:P.take (k+1)=P.take k ++ [P[k]!]:=by rw[iE,is h,i9 _ k h];rfl
 refine ⟨by rw[e,iQ];simp,?_⟩;have:P.flatten=(P.take (k+1)).flatten++(P.drop (k+1)).flatten:=by rw[<-iQ,iM]
 rw[this,Jd];omega
theorem Qbh {P:List (List UInt8)} {k:Nat} (h:k < P.length):lensT (P.take (k+1))=lensT (P.take k)++uintT (P[k]!).length:=by
 have e:P.take (k+1)=P.take k ++ [P[k]!]:=by rw[iE,is h,i9 _ k h];rfl
 unfold lensT;rw[e,iD,iL]
theorem bnd1 {A X U L Z I l l' k u n:Nat} (h:A+(X+(U+L))+Z<=I) (hI:I<=35184372088832) (hl:l<=11*l') (hl':l'<=k) (hk:k < n) (hn:n<=1099511627777) (hu:u<=11):A+X+U+l+u<=140737488355328:=by omega
theorem bnd2 {A F C f y:Nat} (h:A+F<=C) (hC:C<=35184372088832) (hf:f+y<=F):A+f+y<=140737488355328:=by omega
theorem Kxh (c:Cont) (hd:Hd) (w:World) (hS:Sers w hd.A hd.n c.series) (hz:∀s∈c.series,SerSz s) (hn:hd.n<=1073741824) (hT:DbTab w) (hN:Kec w)
  (hsz:fitB c=true->(Kdc c).length<=35184372088832/\(Kcp c).length<=35184372088832) :
  Calls prog 19 #[contV c.res c.frm c.to_ hd] w fun e w'=>e = .returned (.tuple #[filV (Kdn c),.int .i64 (if fitB c=true then 0 else 190)])/\Below w.heap.size w w':=by
 have hZ:=@run_makeMap prog;obtain ⟨i0,gW,gS,g5,gm⟩:=info_parts Qdp;obtain ⟨i1,gG,gt,go,f9⟩:=info_parts Qfu;have cr:c.series.length=hd.n:=hS.len;obtain ⟨r,hr⟩:=iZ c.res;obtain ⟨f,hf⟩:=iZ c.frm;obtain ⟨t,ht⟩:=iZ c.to_;obtain ⟨F,hF⟩:=iZ (fitB c);have bm:=fun (w:World) (h:Sers w hd.A hd.n c.series)=>Qdh c hd w h hz (by omega)
 obtain ⟨A,hA⟩:=iZ hd.A;obtain ⟨n,dp⟩:=iZ hd.n;obtain ⟨cc,fp⟩:=iZ hd.c;obtain ⟨G,hG⟩:=iZ (Kdn c);unfold contV;unfold contV at bm;rw[hA,dp,fp,hr,hf,ht,hF] at bm;rw[hr,hf,ht,hA,dp,fp,hF,hG];rw[hA,dp] at hS;rw[dp] at cr hn;rw[hF] at hsz;have c4:=Jh bm;have HS:=Jh hS;have HZ:=Jh hz;have HT:=Jh hT;have HN:=Jh hN;have gQ:=Jh hsz;have HF:=Jh hF;have HG:=Jh hG;have ay:=Jh cr;have gb:=Jh hr;have gv:=Jh hf;have gj:=Jh ht;obtain ⟨q,hq⟩:=iZ w.heap.size;have em:Below q w ((w.alloc (.cells #[.int .i64 r,.int .i64 f,.int .i64 t,.slice A n cc] 28)).alloc (.cells #[.string ⟨#[]⟩,.string ⟨#[]⟩,.string ⟨#[]⟩] 44)):=((Below.refl _ _).alloc (by omega) _).alloc (by simp;omega) _;have cH:Blk ((w.alloc (.cells #[.int .i64 r,.int .i64 f,.int .i64 t,.slice A n cc] 28)).alloc (.cells #[.string ⟨#[]⟩,.string ⟨#[]⟩,.string ⟨#[]⟩] 44)) q 28 #[.int .i64 r,.int .i64 f,.int .i64 t,.slice A n cc]:=(Blk.newAt hq.symm).alloc _;have ea:Blk ((w.alloc (.cells #[.int .i64 r,.int .i64 f,.int .i64 t,.slice A n cc] 28)).alloc (.cells #[.string ⟨#[]⟩,.string ⟨#[]⟩,.string ⟨#[]⟩] 44)) (q+1) 44 #[.string ⟨#[]⟩,.string ⟨#[]⟩,.string ⟨#[]⟩]:=Blk.newAt (by simp;omega);clear bm hS hz hT hN hsz hF hA dp fp hr hf ht hG cr;go_enter func19,ntmps19
 go_upto_region 1 with fail
 obtain ⟨w1,fX⟩:=iZ ((w.alloc (.cells #[.int .i64 r,.int .i64 f,.int .i64 t,.slice A n cc] 28)).alloc (.cells #[.string ⟨#[]⟩,.string ⟨#[]⟩,.string ⟨#[]⟩] 44));rw[fX] at em cH ea;rw[fX]
 try rw[hq]
 have HQ:=Jh hq;have cW:=Jh em;have ej:=Jh cH;have ev:=Jh ea;have hQ:q+1 < w1.heap.size:=ea.lt;have k0:w1.cell? ⟨q,0,none⟩=some (.int .i64 r):=cH.cell 0;have k1:w1.cell? ⟨q,1,none⟩=some (.int .i64 f):=cH.cell 1;have k2:w1.cell? ⟨q,2,none⟩=some (.int .i64 t):=cH.cell 2;have k3:w1.cell? ⟨q,3,none⟩=some (.slice A n cc):=cH.cell 3;have cX:=HS.out.below (HQ.out.symm▸em);have gI:=Jh (c4.out w1 cX);clear fX hq em cH ea cX;go_wp2_with fail
 refine gI.out.mono ?_;rintro e w2 ⟨rfl,eG⟩;have c9:=Jh (show Below (q+2) w1 w2 from eG.mono (by omega));have ij:q+1 < w2.heap.size:=by have:=eG.size;omega
 clear eG;have gM:=ej.out.below c9.out (by omega);have bn:=ev.out.below c9.out (by omega);have df:Hid (Below q w w2):=Jh (cW.out.trans (c9.out.mono (by omega)))
 cases F with
 | false=>
  have eT:G=⟨[],[],[]⟩:=by rw[<-HG.out];unfold Kdn;rw[je (by rw[HF.out];decide)]
  subst eT;have g0:w2.cell? ⟨q+1,0,none⟩=some (.string ⟨#[]⟩):=bn.cell 0;have g1:w2.cell? ⟨q+1,1,none⟩=some (.string ⟨#[]⟩):=bn.cell 1;have g2:w2.cell? ⟨q+1,2,none⟩=some (.string ⟨#[]⟩):=bn.cell 2;have e0:=bn.frozen 0;have e1:=bn.frozen 1;have e2:=bn.frozen 2;have ii:=Jh bn;clear gM bn k0 k1 k2 k3;go_wp2_with fail
  refine bodyPost_ret (Kdd rfl _ _ ⟨q+1,0,none⟩ (filV ⟨[],[],[]⟩) rfl (run_loadVar_row _ (q+1) 44 44 _ (0,0) _ (((ii.out.set_ 0 _).set_ 1 _).set_ 2 _) underlying44 rfl (by kernel_rfl))) rfl ?_;exact ⟨rfl,by rw[HQ.out];exact ((df.out.setCell (p:=⟨q+1,0,none⟩) (by show q<=q+1;omega) _).setCell (p:=⟨q+1,1,none⟩) (by show q<=q+1;omega) _).setCell (p:=⟨q+1,2,none⟩) (by show q<=q+1;omega) _⟩
 | true=>
  obtain ⟨ik,h3,h5,ig,hO,gr,ib⟩:=Khf.1 HF.out;have HC:=Jh gr;have eT:G=Kfg c:=by rw[<-HG.out];unfold Kdn;rw[jf HF.out]
  subst eT;obtain ⟨hs,fN,d6,gf⟩:=HS.out;have gV:hs.length=n:=fN.len;have ct:=Jh fN;have ed:=Jh gf;clear ik h3 h5 ig hO gr ib fN d6 gf;go_upto_region 5 with fail
  have hm:LMap (w2.alloc (.map #[] 0)) (q+2) w2.heap.size (fun _=>[]) 0 #[] 0:=LMap.new w2 (q+2);have dl:Below (q+2) w1 (w2.alloc (.map #[] 0)):=c9.out.alloc (by omega) _;obtain ⟨w3,fr⟩:=iZ (w2.alloc (.map #[] 0));obtain ⟨m,cT⟩:=iZ w2.heap.size;have h8:q+2<=m:=by omega
  rw[fr,cT] at hm;rw[fr] at dl |-;rw[cT];have hL:q+1 < w3.heap.size:=by have:=dl.size;omega
  have gK:=ej.out.below dl (by omega);have k3:w3.cell? ⟨q,3,none⟩=some (.slice A n cc):=gK.cell 3;have HM:=Jh hm;have gp:=Jh dl;clear fr cT gM bn k0 k1 k2 hm dl gK ij;go_upto_block 0 with fail
  go_cut [4] (fun s4 wz=>∃vs:Value,vs=s4/\FstAt c hs q m n vs w1 wz)
  case first=>
   go_wp2_with fail
   go_loopg [4,29] n (fun g s4 s29 wr=>∃(i:Nat) (vs:Value),vs=s4/\i+g=n/\s29 = .int .i64 (i:Int)/\FstAt c hs q m i vs w1 wr)
   case atStart=>exact ⟨0,_,rfl,by omega,rfl,⟨World.ownsRow_nil _ _ _ _,⟨#[],0,by rw[iY,Kyr];exact HM.out⟩,gp.out⟩⟩
   case round=>
    obtain ⟨i,vs,rfl,dO,rfl,aH⟩:=hrel;have cN:=Jh dO;have dI:=Jh aH;clear dO aH
    by_cases hi:i < n
    .have el:decide (i < n)=true:=by rw[i8];omega
     obtain ⟨wo,rfl⟩:=i7 wr;obtain ⟨aj,⟨es,clock,ak⟩,aA⟩:=dI.out;have bZ:Below w.heap.size w wo:=by rw[HQ.out];exact cW.out.trans (aA.mono (by omega))
     obtain ⟨bb,ci,hA,fO,ao⟩:=ct.out.2 (by omega);subst hA;have eQ:i < hs.length:=by omega
     obtain ⟨x,hx⟩:=iZ (hs[i]);have b8:hs[i]? = some x:=by rw[is eQ,hx]
     have gX:(hs.map js).take (i+1)=(hs.map js).take i ++ [x.l]:=by rw[iE,i2,b8];rfl
     have bW:=ed.out i x b8;have bJ:=ao i x b8;obtain ⟨⟨LA,ln,lc⟩,⟨SA,sn,sc⟩,⟨WA,wn,aJ⟩⟩:=x;have c0:wo.cell? ⟨bb,ci+i*3,none⟩=some (.slice LA ln lc):=later bZ (by simpa using bJ 0 _ rfl);have c1:wo.cell? ⟨bb,ci+i*3+1,none⟩=some (.slice SA sn sc):=later bZ (by simpa using bJ 1 _ rfl);have c2:wo.cell? ⟨bb,ci+i*3+2,none⟩=some (.slice WA wn aJ):=later bZ (by simpa using bJ 2 _ rfl);have a2:i < c.series.length:=by have:=ay.out;omega
     obtain ⟨cL,aK⟩:=Qen a2;obtain ⟨l,hl⟩:=iZ ((c.series[i]!).labels);have hE:Elems w w.heap.size 2 encLb LA ln l:=by rw[<-hl];exact bW.l
     have hlc:ln<=lc:=bW.lc;have az:=Kfw (HC.out (c.series[i]!) (by rw[i9 _ i a2];exact iH a2)).1;rw[hl] at cL az;have HE:=Jh hE;have g6:=Jh hE.len;have fq:=Jh cL;have aC:=Jh aK;have aB:=Jh az;have h7:=Jh gX;have bt:=Jh ak;have eH:=Jh aj;have cn:=Jh aA;clear bW bJ ao b8 gX hx cL aK az hE ak aj aA hl fO;go_upto_block 1 with fail
     go_cut [4] (fun s4 wz=>∃vs':Value,vs'=s4/\FstAt c hs q m (i+1) vs' w1 wz)
     case first=>
      go_upto_region 8 with fail
      have bB:Below wo.heap.size wo (wo.alloc (.cells #[.slice LA ln lc,.slice SA sn sc,.slice WA wn aJ] 58)):=(Below.refl _ _).alloc (iA _) _;have cY:Blk (wo.alloc (.cells #[.slice LA ln lc,.slice SA sn sc,.slice WA wn aJ] 58)) wo.heap.size 58 #[.slice LA ln lc,.slice SA sn sc,.slice WA wn aJ]:=Blk.new _ _ _;obtain ⟨w4,eC⟩:=iZ (wo.alloc (.cells #[.slice LA ln lc,.slice SA sn sc,.slice WA wn aJ] 58));obtain ⟨p,hp⟩:=iZ wo.heap.size;rw[eC] at bB cY |-;have ap:w4.ownsRow (q+2) 54 1 vs i (((hs.map js).take i).flatMap encH):=by rw[<-eC];exact eH.out.alloc _
      have ca:=bt.out.below bB;have ex:Below (q+2) w1 w4:=cn.out.trans (bB.mono (by have:=cn.out.size;omega));rw[hp] at cY |-;have fZ:q+2<=w4.heap.size:=by have:=ex.size;omega
      have s0:w4.cell? ⟨p,0,none⟩=some (.slice LA ln lc):=cY.cell 0;have gq:=Jh cY;have c8:=Jh ca;have en:=Jh ex;have ew:=cY.lt;clear eC hp bB cY ca ex c0 c1 c2 bZ;go_wp2_with (at_builtin;refine wpList_append_own_at _ rfl _ _ 103 rfl (q+2) 54 i0 (.slice none 0 0) 1 24 underlying103 gW gS g5 gm rfl (by decide) _ _ _ rfl (ap.alloc _) ⟨w4.heap.size,0,none⟩ 1 1 [.slice LA ln lc] rfl rfl ?p1 ?p2 ?p3 ?p4 ?p5 ?_)
      case p2=>first | rfl | (intro u hu;rw[iw.1 hu];rfl)
      case p3=>unfold maxLen;omega
      case p4=>omega
      case p5=>first | omega | (simp;omega)
      intro vs' w5 hown' hgrow _ _;have ac:w4.grownBy w5 vs.ownBlock:=(World.grownBy_alloc w4 _ _).trans hgrow
      have bO:w5.ownsRow (q+2) 54 1 vs' (i+1) (((hs.map js).take (i+1)).flatMap encH):=by rw[h7.out,iD];exact hown'
      have gy:Below (q+2) w1 w5:=en.out.trans ⟨ac.os,ac.tape,ac.output,ac.size,fun j hj=>ac.block j (by omega) (fun e=>by have:=(ap.lt j e.symm).1;omega)⟩;have b6:=c8.out.kept ac (fun k e=>by obtain ⟨gC,hc⟩:=Kax ap e;exact ⟨gC,_,hc,by decide⟩);have gJ:=gq.out.grown ac (fun e=>by obtain ⟨gC,hc⟩:=Kax ap e.symm;exact gq.out.ne_ (show Blk w4 p _ _ from hc) (by decide) rfl);have s0:w5.cell? ⟨p,0,none⟩=some (.slice LA ln lc):=gJ.cell 0;have cZ:=Jh bO;have cP:=Jh gy;have aE:=Jh b6;clear hown' hgrow ac ap bO gy b6 gJ ew fZ;go_wp2_with fail
      go_loopg [42] ln (fun g s42 wz=>∃k:Nat,k+g=ln/\s42 = .int .i64 (k:Int)/\wz.ownsRow (q+2) 54 1 vs' (i+1) (((hs.map js).take (i+1)).flatMap encH)/\(∃es clock,LMap wz (q+2) m (Ket ((Kaq c).take i) l k) (i*8+k) es clock)/\Below (q+2) w1 wz)
      case atStart=>exact ⟨0,by omega,rfl,cZ.out,⟨_,_,by rw[Kyq];exact aE.out⟩,cP.out⟩
      case round=>
       obtain ⟨k,dG,rfl,aj,⟨es,clock,ak⟩,aA⟩:=hrel;have cB:=Jh dG;have bV:=Jh aj;have bY:=Jh ak;have an:=Jh aA;clear dG aj ak aA
       by_cases hk:k < ln
       .have el:decide (k < ln)=true:=by rw[i8];omega
        obtain ⟨wk,rfl⟩:=i7 wr;have gs:Below w.heap.size w wk:=by rw[HQ.out];exact cW.out.trans (an.out.mono (by omega))
        have cM:k < l.length:=by have:=g6.out;omega
        have ez:k < 8:=by have:=aB.out.2.2.1;omega
        obtain ⟨ba,oa,hB,_,_⟩:=HE.out.2 (by omega);have hE:=HE.out;subst hB;obtain ⟨hba,a0,a1⟩:=Kbi hE (by omega) gs k cM;have eO:=aB.out.2.2.2.1 l[k]! (by rw[i9 l k cM];exact iH cM);obtain ⟨x,hx⟩:∃x,l[k]! = x:=⟨_,rfl⟩;have aF:=Kyp (S:=(Kaq c).take i) aB.out.1 cM;rw[hx] at a0 a1 eO aF;rw[aC.out] at aF;obtain ⟨N,hN⟩:∃N:ByteArray,(⟨x.n.toArray⟩:ByteArray)=N:=⟨_,rfl⟩;obtain ⟨V,hV⟩:∃N:ByteArray,(⟨x.v.toArray⟩:ByteArray)=N:=⟨_,rfl⟩;have gi:lbV x = .agg #[.string N,.string V]:=by unfold lbV;rw[hN,hV]
        rw[hN] at a0;rw[hV] at a1;have h9:=Jh eO;have dP:=Jh aF;have iq:=Jh gi;clear hx hN hV gi eO aF hE;go_upto_region 12 with fail
        have bc:Below wk.heap.size wk (wk.alloc (.cells #[.string N,.string V] 99)):=(Below.refl _ _).alloc (iA _) _;have dX:Blk (wk.alloc (.cells #[.string N,.string V] 99)) wk.heap.size 99 #[.string N,.string V]:=Blk.new _ _ _;obtain ⟨w6,cS⟩:=iZ (wk.alloc (.cells #[.string N,.string V] 99));rw[cS] at bc dX |-;obtain ⟨p9,gh⟩:=iZ wk.heap.size;have fK:Below (q+2) w1 w6:=an.out.trans (bc.mono (by have:=an.out.size;omega));have bP:w6.ownsRow (q+2) 54 1 vs' (i+1) (((hs.map js).take (i+1)).flatMap encH):=by rw[<-cS];exact bV.out.alloc _
        have bR:=bY.out.below bc;rw[gh] at dX |-;have q0:w6.cell? ⟨p9,0,none⟩=some (.string N):=dX.cell 0;have q1:w6.cell? ⟨p9,1,none⟩=some (.string V):=dX.cell 1;obtain ⟨w7,fn⟩:=iZ (w6.alloc (.cells #[.int .i64 (i:Int)] 3));have bQ:Below w6.heap.size w6 w7:=by rw[<-fn];exact (Below.refl _ _).alloc (iA _) _
        have d3:Blk w7 w6.heap.size 3 #[.int .i64 (i:Int)]:=by rw[<-fn];exact Blk.new _ _ _
        have a6:w7.ownsRow (q+2) 54 1 vs' (i+1) (((hs.map js).take (i+1)).flatMap encH):=by rw[<-fn];exact bP.alloc _
        have av:=bR.below bQ;have fH:Below (q+2) w1 w7:=fK.trans (bQ.mono (by have:=fK.size;omega));have ip:q+2<=w7.heap.size:=by have:=fH.size;omega
        obtain ⟨b7,fG⟩:=iZ w6.heap.size;rw[fG] at d3;obtain ⟨v0,st,de,aa,a4,aI,fb,bF⟩:=av.step x (by have:=h9.out;omega) i ip;rw[iq.out] at a4;have bC:w7.grownBy (setBlock w7 m (.map de aa)) (some m):=Ken _;have aq:=Kmv w7 m (.map de aa);have eD:=Kin (.map de aa) av.h;obtain ⟨w8,f8⟩:=iZ (setBlock w7 m (.map de aa));rw[f8] at a4 aI bF bC aq eD
        have dr:some b7≠some m:=fun e=>by injection e with e;have h1:=av.h;rw[<-e] at h1;rw[show w7.heap[b7]? = _ from d3] at h1;cases h1
        have gz:Blk w8 b7 3 #[.int .i64 (i:Int)]:=d3.grown bC dr;have b5:=a6.kept bC (Kmu a6 av.h);have gH:Below (q+2) w1 w8:=fH.trans ⟨bC.os,bC.tape,bC.output,bC.size,fun j hj=>bC.block j (by omega) (fun e=>by injection e with e;omega)⟩;obtain ⟨A0,hH,rfl⟩:=Kag aI;obtain ⟨n0,fL⟩:=iZ ((Ket ((Kaq c).take i) l k x).length)
        have gY:n0<=i+1:=by
         rw[<-fL];unfold Ket;have h1:=Kms ((Kaq c).take i) x;rw[aC.out] at h1
         split
         .rw[Jd,iN];omega
         .omega
        rw[fL] at aI bF a4 fb;have eB:=Jh bF;have f4:=Jh eD;have h2:=Jh fb;have b9:=Jh b5;have dM:=Jh gH;have fg:=Jh aq;have hq8:q+2<=w8.heap.size:=by omega
        have aW:=Jh aI;have ir:=Jh gz;clear cS gh bc dX fK bP bR bQ d3 a6 av fH bC aq dr gz b5 gH bF f8 a0 a1 gs fL fb eD;go_wp2_with (at_builtin;refine wpList_append_own_at _ rfl _ _ 69 rfl (q+2) 3 i1 (.int .i64 0) 1 8 underlying69 gG gt go f9 rfl (by decide) _ _ _ rfl aW.out ⟨b7,0,none⟩ 1 1 [.int .i64 (i:Int)] rfl rfl (Kao (l:=[.int .i64 (i:Int)]) ir.out) ?p2 ?p3 ?p4 ?p5 ?_)
        case p2=>first | rfl | (intro u hu;rw[iw.1 hu];rfl)
        case p3=>unfold maxLen;omega
        case p4=>omega
        case p5=>omega
        intro v' w9 hown' hgrow _ hat;obtain ⟨gc,bj,dm,ef,_⟩:=eB.out w9 v' hgrow hown' (hat.imp id (fun h=>by rw[fg.out] at h;exact h));rw[dP.out] at ef;have aw:w9.grownBy (setBlock w9 m (.map gc bj)) (some m):=Ken _;obtain ⟨w10,dy⟩:=iZ (setBlock w9 m (.map gc bj));rw[dy] at dm ef aw;have cT:w9.heap[m]? = some (.map de aa):=(hgrow.block m (Array.getElem?_eq_some_iff.1 f4.out).1 (Ne.symm h2.out)).trans f4.out;have bk:=b9.out.kept hgrow (Kav b9.out aW.out (by decide));have bi:=bk.kept aw (Kmu bk cT);have dW:Below (q+2) w1 w10:=(dM.out.trans ⟨hgrow.os,hgrow.tape,hgrow.output,hgrow.size,fun j hj=>hgrow.block j (by omega) (fun e=>by have:=(jq aW.out j e.symm).1;omega)⟩).trans ⟨aw.os,aw.tape,aw.output,aw.size,fun j hj=>aw.block j (by have:=hgrow.size;omega) (fun e=>by injection e with e;omega)⟩;have e6:=Jh ef;have cI:=Jh bi;have bl:=Jh dW;clear hown' hgrow hat ef aw dy cT bk bi dW;go_wp2_with fail
        go_roundg (gk - 1)
        case measure=>have:=cB.out;omega
        case rel=>exact ⟨k+1,by have:=cB.out;omega,by go_num,cI.out,⟨_,_,e6.out⟩,bl.out⟩
       .have el:decide (k < ln)=false:=by rw[jb];omega
        have cM:k=l.length:=by have:=cB.out;have:=g6.out;omega
        have da:FstAt c hs q m (i+1) vs' w1 wr:=⟨bV.out,⟨_,_,by
         have h1:=bY.out;rw[cM,Qbq,<-fq.out] at h1
         exact h1.mono (by have:=aB.out.2.2.1;omega)⟩,an.out⟩
        have cA:=Jh da;clear da cM;go_wp2_with fail
        go_meet
        exact ⟨_,rfl,cA.out⟩
     case rest=>
      obtain ⟨vs',rfl,aH⟩:=hcut;have cA:=Jh aH;clear aH;go_wp2_with fail
      go_roundg (gk - 1)
      case measure=>have:=cN.out;omega
      case rel=>exact ⟨i+1,_,rfl,by have:=cN.out;omega,by go_num,cA.out⟩
    .have el:decide (i < n)=false:=by rw[jb];omega
     have dS:i=n:=by have:=cN.out;omega
     have aH:FstAt c hs q m n vs w1 wr:=by rw[<-dS];exact dI.out
     have aC:=Jh aH;clear aH dS;go_wp2_with fail
     go_meet
     exact ⟨_,rfl,aC.out⟩
  case rest=>
   obtain ⟨vs,rfl,aH⟩:=hcut;obtain ⟨w4,rfl⟩:=i7 wc;obtain ⟨aj,⟨es,clock,ak⟩,bB⟩:=aH;have d6:(Kaq c).length=n:=by unfold Kaq;rw[iC];exact ay.out
   have gR:(hs.map js).length=n:=by rw[iC];exact gV
   rw[iV (by omega)] at ak;rw[iV (by omega)] at aj;have bZ:Below w.heap.size w w4:=by rw[HQ.out];exact cW.out.trans (bB.mono (by omega))
   obtain ⟨AS,cs,rfl,g8,fR,er⟩:=Elems.of_own (fun x _=>Qfs x) rfl aj gR
   have b3:Sets w4 AS n (Kaq c):=by
    refine ⟨_,g8,d6,fun i h hi=>?_⟩;rw[i2] at hi
    cases hx:hs[i]? with
    | none=>rw[hx] at hi;cases hi
    | some x=>
     rw[hx] at hi;injection hi with hi;subst hi;have h1:=ed.out i x hx;have a2:i < c.series.length:=by have:=(List.getElem?_eq_some_iff.1 hx).1;have:=ay.out;omega
     have e:(Kaq c)[i]! = (c.series[i]!).labels:=by
      have e2:(Kaq c)[i]? = some (c.series[i]!).labels:=by unfold Kaq;rw[i2,is a2,i9 _ i a2];rfl
      rw[List.getElem!_eq_getElem?_getD,e2];rfl
     rw[e];exact ⟨(h1.l.below bZ).more bZ.size,h1.lc⟩
   have aq:∀s∈Kaq c,s.length<=8/\∀x∈s,x.n.length<=32/\x.v.length<=64:=fun s hs=>by unfold Kaq at hs;obtain ⟨y,hy,rfl⟩:=i3.1 hs;have:=Kfw (HC.out y hy).1;exact ⟨this.2.2.1,this.2.2.2.1⟩
   have ac:(allT (Kaq c)).length<=16*n:=by
    have:=Kob (L:=Kaq c) fun s hs=>(aq s hs).1
    omega
   have dc:∀x∈allT (Kaq c),x.length<=64:=fun x hx=>by
    obtain ⟨s,hs,hx⟩:=it.1 hx;obtain ⟨y,hy,h1 | h1⟩:=Qeu hx
    .rw[h1];have:=((aq s hs).2 y hy).1;omega
    .rw[h1];have:=((aq s hs).2 y hy).2;omega
   have gn:=Jh (Ksu (Kaq c) AS n cs w4 b3 (by omega) (by omega) (fun x hx=>by have:=dc x hx;omega));have bt:=Jh ak;have en:=Jh bB;have cD:=Jh ac;have aN:=Jh (gQ.out (by first | trivial | rfl));have fZ:q+2<=w4.heap.size:=by have:=bB.size;omega
   clear aj ak bB bZ g8 b3 aq ac dc d6 gR fR er;go_wp2_with fail
   refine gn.out.mono ?_;rintro _ w5 ⟨pt,T,rfl,cK,bE,fD,eY,hW⟩;obtain rfl:T=tabOf (Kaq c):=bE.one (show IsTab (allT (Kaq c)) _ from Kwv (Kaq c));obtain ⟨T,eN⟩:=iZ (tabOf (Kaq c));rw[eN] at cK bE fD;have ee:=Jh eN;have ch:=Jh cK;have bN:=Jh bE;have eE:=Jh fD;have cP:=Jh (show Below (q+2) w1 w5 from en.out.trans (eY.mono (by omega)));have aE:=Jh (bt.out.below eY);clear cK bE fD eY hW eN fZ;go_upto_region 17 with fail
   have dz:BldR w5.heap.size w5.heap.size none [] (w5.alloc (.cells #[.pointer none,.slice none 0 0] 109)):=BldR.new w5 (iA _)
   have ds:BldR w5.heap.size (w5.heap.size+1) none [] ((w5.alloc (.cells #[.pointer none,.slice none 0 0] 109)).alloc (.cells #[.pointer none,.slice none 0 0] 109)):=by have:=BldR.new (B:=w5.heap.size) (w5.alloc (.cells #[.pointer none,.slice none 0 0] 109)) (by simp);rw[World.size_alloc] at this;exact this
   have bc:Below w5.heap.size w5 ((w5.alloc (.cells #[.pointer none,.slice none 0 0] 109)).alloc (.cells #[.pointer none,.slice none 0 0] 109)):=((Below.refl _ _).alloc (iA _) _).alloc (by simp) _;have bo:Two w5.heap.size w5.heap.size (w5.heap.size+1) [] [] ((w5.alloc (.cells #[.pointer none,.slice none 0 0] 109)).alloc (.cells #[.pointer none,.slice none 0 0] 109)):=⟨none,none,dz.below ((Below.refl _ _).alloc (iA _) _),ds,by omega,fun k h=>by cases h⟩;obtain ⟨w6,cS⟩:=iZ ((w5.alloc (.cells #[.pointer none,.slice none 0 0] 109)).alloc (.cells #[.pointer none,.slice none 0 0] 109));rw[cS] at bc bo |-;have dk:q+2<=w5.heap.size:=by have:=cP.out.size;omega
   have d9:=Jh (ej.out.below cP.out (by omega));have ha:=Jh (ev.out.below cP.out (by omega));have bw:Hid (Below w.heap.size w w5):=Jh (by rw[HQ.out];exact cW.out.trans (cP.out.mono (by omega)));obtain ⟨d,hd⟩:=iZ w5.heap.size;have HD:=Jh hd;rw[hd] at bc bo dk |-
   have hM:(tabT T).length<=35184372088832:=by have h1:=aN.out.2;unfold Kcp at h1;rw[ee.out,Jd] at h1;omega
   have ct:=Jh (Kpq (.pointer (some ⟨pt,0,none⟩)) T w6 (ch.out.below (hd.symm▸bc)) (by have:=eE.out;have:=cD.out;omega) (by omega));obtain ⟨X,hX⟩:∃X:ByteArray,(⟨(tabT T).toArray⟩:ByteArray)=X:=⟨_,rfl⟩;have fv:X.data.toList=tabT T:=by rw[<-hX]
   have h4:X.size=(tabT T).length:=by rw[<-Kai,fv]
   rw[hX] at ct;have gP:=Jh fv;have f5:=Jh bc;have dx:=Jh bo;have gw:d<=w6.heap.size:=by have:=bc.size;omega
   clear dz ds cS hd hX fv bc bo;go_wp2_with fail
   refine ct.out.mono ?_;rintro _ w7 ⟨rfl,bQ⟩;have gU:=Jh (f5.out.trans (bQ.mono gw));have gD:d<=w7.heap.size:=by have:=bQ.size;omega
   have ho:=Jh (Kdz X w7 (dx.out.below bQ) (by simp;omega) gD);clear bQ f5 dx ct;go_wp2_with fail
   refine ho.out.mono ?_;rintro _ w8 ⟨rfl,co,fY,bf⟩;clear bf;rw[List.nil_append,gP.out] at co;have dM:=Jh (gU.out.trans fY);have hv:d<=w8.heap.size:=by have:=fY.size;omega
   have ez:=d9.out.below dM.out (by omega);have k3:w8.cell? ⟨q,3,none⟩=some (.slice A n cc):=ez.cell 3;have hu:=Kau n (by omega) w8;obtain ⟨U,hU⟩:∃U:ByteArray,(⟨(uintT n).toArray⟩:ByteArray)=U:=⟨_,rfl⟩;have f2:U.data.toList=uintT n:=by rw[<-hU]
   have hK:U.size<=11:=by rw[<-Kai,f2];exact (Kab n).2
   rw[hU] at hu;have HU:=Jh hu;have gl:=Jh f2;have dR:=Jh co;clear fY ez hu hU f2 co gU ho;go_wp2_with fail
   refine HU.out.mono ?_;rintro _ w9 ⟨rfl,ei⟩;have ge:=Jh (dM.out.trans (ei.mono hv));have hh:d<=w9.heap.size:=by have:=ei.size;omega
   have hg:=Jh (Kdz U w9 (dR.out.below ei) (by omega) hh);clear ei k3;go_wp2_with fail
   refine hg.out.mono ?_;rintro _ w10 ⟨rfl,aT,cE,bf⟩;clear bf;have gg:tabT T++U.data.toList=ixAt c T 0:=by unfold ixAt;rw[gl.out,ay.out,iY];simp
   rw[gg] at aT;have bl:=Jh (ge.out.trans cE);have fB:d<=w10.heap.size:=by have:=cE.size;omega
   have bS:=Jh (show Two d d (d+1) (ckAt c 0) (ixAt c T 0) w10 from aT);have dT:=d9.out.below bl.out (by omega);have k3:w10.cell? ⟨q,3,none⟩=some (.slice A n cc):=dT.cell 3;clear aT cE dT gg ge dM hg dR;go_upto_block 4 with fail
   go_cut [] (fun wz=>Two d d (d+1) (ckAt c n) (ixAt c T n) wz/\Below d w5 wz)
   case first=>
    go_wp2_with fail
    go_loopg [70] n (fun g s70 wr=>∃i:Nat,i+g=n/\s70 = .int .i64 (i:Int)/\Two d d (d+1) (ckAt c i) (ixAt c T i) wr/\Below d w5 wr)
    case atStart=>exact ⟨0,by omega,rfl,bS.out,bl.out⟩
    case round=>
     obtain ⟨i,dO,rfl,aO,aA⟩:=hrel;have cN:=Jh dO;have gA:=Jh aO;have cn:=Jh aA;clear dO aO aA
     by_cases hi:i < n
     .have el:decide (i < n)=true:=by rw[i8];omega
      obtain ⟨wo,rfl⟩:=i7 wr;have aV:Below w.heap.size w wo:=bw.out.trans (cn.out.mono (by have:=HQ.out;omega));obtain ⟨bb,ci,hA,fO,ao⟩:=ct.out.2 (by omega);subst hA;have eQ:i < hs.length:=by omega
      obtain ⟨x,hx⟩:=iZ (hs[i]);have b8:hs[i]? = some x:=by rw[is eQ,hx]
      have bW:=(ed.out i x b8).below aV;have bJ:=ao i x b8;obtain ⟨⟨LA,ln,lc⟩,⟨SA,sn,sc⟩,⟨WA,wn,aJ⟩⟩:=x;have c0:wo.cell? ⟨bb,ci+i*3,none⟩=some (.slice LA ln lc):=later aV (by simpa using bJ 0 _ rfl);have c1:wo.cell? ⟨bb,ci+i*3+1,none⟩=some (.slice SA sn sc):=later aV (by simpa using bJ 1 _ rfl);have c2:wo.cell? ⟨bb,ci+i*3+2,none⟩=some (.slice WA wn aJ):=later aV (by simpa using bJ 2 _ rfl);have a2:i < c.series.length:=by have:=ay.out;omega
      have bv:c.series[i]!∈c.series:=by rw[i9 _ i a2];exact iH a2
      have ek:=HC.out _ bv;have dg:=HZ.out _ bv;have a7:=Qdr (T:=T) a2;have bq:=Qct a2;have ad:=Kzo c (i+1);have br:=Qhm c (i+1);rw[ee.out] at ad;have aY:(c.series[i]!).labels∈Kaq c:=i3.2 ⟨_,bv,rfl⟩;obtain ⟨s,gN⟩:∃s,c.series[i]! = s:=⟨_,rfl⟩;rw[gN] at bW ek dg a7 bq aY;have az:=Kfw ek.1;have gO:packR T s.labels=(pk T s.labels,0):=Qeh bN.out.1 az.2.2.2.2 (fun x hx=>(bN.out.2 x).2 (it.2 ⟨_,aY,hx⟩))
      obtain ⟨f0,f1⟩:0<=c.frm/\c.to_<=1125899906842625:=by obtain ⟨_,_,a,_,b,_⟩:=Khf.1 HF.out;exact ⟨a,b⟩
      obtain ⟨c7,c3⟩:=Qgj ek.2 f0 f1 dg.v;have fj:=Qbo s;have fz:=dg.n;have di:=bW.l.len;rw[a7] at ad;rw[bq] at br;have dH:serT T s=pk T s.labels++(uintT (Kbf s).length++lensT (Kbf s)):=rfl;rw[dH] at ad a7;simp only[Jd] at ad br;have d1:=aN.out.2;have d8:=aN.out.1;have aB:=Jh az;have fC:=Jh gO;have e7:=Jh a7;have fF:=Jh bq;have ep:=Jh c7;have eV:=Jh c3;have eb:=Jh dg;have fh:=Jh bW;clear bW bJ ao b8 hx bv ek dg a7 bq aY gN az gO f0 f1 c7 c3 dH fO;go_upto_block 5 with fail
      go_cut [] (fun wz=>Two d d (d+1) (ckAt c (i+1)) (ixAt c T (i+1)) wz/\Below d w5 wz)
      case first=>
       go_upto_region 22 with fail
       have ab:Below wo.heap.size wo (wo.alloc (.cells #[.slice LA ln lc,.slice SA sn sc,.slice WA wn aJ] 58)):=(Below.refl _ _).alloc (iA _) _;have bh:Blk (wo.alloc (.cells #[.slice LA ln lc,.slice SA sn sc,.slice WA wn aJ] 58)) wo.heap.size 58 #[.slice LA ln lc,.slice SA sn sc,.slice WA wn aJ]:=Blk.new _ _ _;obtain ⟨w12,dL⟩:=iZ (wo.alloc (.cells #[.slice LA ln lc,.slice SA sn sc,.slice WA wn aJ] 58));obtain ⟨p,hp⟩:=iZ wo.heap.size;have h0:d<=wo.heap.size:=by have:=cn.out.size;have:=HD.out;omega
       rw[dL] at ab bh |-;have cw:Below d w5 w12:=cn.out.trans (ab.mono h0);have b4:=gA.out.below ab;have aG:=fh.out.below ab;rw[hp] at bh |-;have s0:w12.cell? ⟨p,0,none⟩=some (.slice LA ln lc):=bh.cell 0;have dv:=Jh bh;have a3:=ch.out.below (HD.out.symm▸cw);have g9:=Jh (Qbm (.pointer (some ⟨pt,0,none⟩)) T s.labels LA ln lc w12 (pk T s.labels) 0 fC.out a3 bN.out.1 (by have:=eE.out;have:=cD.out;omega) aG.l aG.lc (by have:=aB.out.2.2.1;have:s.labels.length=ln:=di;omega) (fun x hx=>by have:=aB.out.2.2.2.1 x hx;omega));obtain ⟨X2,eZ⟩:∃X:ByteArray,(⟨(pk T s.labels).toArray⟩:ByteArray)=X:=⟨_,rfl⟩;have cz:X2.data.toList=pk T s.labels:=by rw[<-eZ]
       have hC:X2.size=(pk T s.labels).length:=by rw[<-Kai,cz]
       rw[eZ] at g9;have dZ:=Jh cz;have bA:=Jh cw;have d0:=Jh b4;have dF:=Jh aG;have bM:d<=w12.heap.size:=by have:=ab.size;omega
       clear ab bh dL hp cw b4 aG a3 eZ cz c0 c1 c2 aV;go_wp2_with fail
       refine g9.out.mono ?_;rintro _ w13 ⟨rfl,ae⟩;have bG:=dv.out.below ae dv.out.lt;have s0:w13.cell? ⟨p,0,none⟩=some (.slice LA ln lc):=bG.cell 0;have s1:w13.cell? ⟨p,1,none⟩=some (.slice SA sn sc):=bG.cell 1;have s2:w13.cell? ⟨p,2,none⟩=some (.slice WA wn aJ):=bG.cell 2;have cG:Below d w5 w13:=bA.out.trans (ae.mono bM);have eg:=Kyn s ⟨⟨LA,ln,lc⟩,⟨SA,sn,sc⟩,⟨WA,wn,aJ⟩⟩ w13 (dF.out.below ae) eb.out.n eb.out.m eb.out.v eb.out.b (HT.out.below (bw.out.trans (cG.mono (by have:=HQ.out;omega)))) ep.out eV.out;unfold serV at eg;dsimp only at eg;have hI:=Jh eg;have be:=Jh cG;have aD:=Jh (d0.out.below ae);have aM:d<=w13.heap.size:=by have:=ae.size;omega
       clear ae bG cG eg;go_wp2_with fail
       refine hI.out.mono ?_;rintro _ dD ⟨v,rfl,am,ah⟩;obtain ⟨AP,cp,rfl⟩:=Kag am;obtain ⟨P,hP⟩:=iZ (Kbf s);rw[hP] at am ad br fj |-;obtain ⟨np,fl⟩:=iZ P.length;rw[fl] at am ad fj |-;have HP:=Jh hP;have eh:=Jh fl;have aX:=Jh (be.out.trans (ah.mono aM));have fE:=Jh am;have a9:d<=dD.heap.size:=by have:=ah.size;omega
       have eM:=Jh (Kdz X2 dD (aD.out.below ah) (by omega) a9);clear ah am hP fl s0 s1 s2;go_wp2_with fail
       refine eM.out.mono ?_;rintro _ dt ⟨rfl,b2,ax,db⟩;have bK:=Jh (aX.out.trans ax);have cR:=Jh (db.own fE.out (by decide) (by decide));have dK:=Jh b2;have aQ:d<=dt.heap.size:=by have:=ax.size;omega
       have eF:=Kau np (by omega) dt;obtain ⟨U2,fx⟩:∃U:ByteArray,(⟨(uintT np).toArray⟩:ByteArray)=U:=⟨_,rfl⟩;have cm:U2.data.toList=uintT np:=by rw[<-fx]
       have ie:U2.size=(uintT np).length:=by rw[<-Kai,cm]
       rw[fx] at eF;have hw:=Jh eF;have e8:=Jh cm;clear eF fx cm b2 ax db;go_wp2_with fail
       refine hw.out.mono ?_;rintro _ dB ⟨rfl,ag⟩;have aP:=Jh (bK.out.trans (ag.mono aQ));have ce:=Jh ((Rest.below ag).own cR.out (by decide) (by decide));have a5:d<=dB.heap.size:=by have:=ag.size;omega
       have fQ:(ixAt c T i++X2.data.toList).length=(ixAt c T i).length+(pk T s.labels).length:=by rw[Jd,dZ.out]
       have fT:=Jh (Kdz U2 dB (dK.out.below ag) (by omega) a5);clear ag;go_wp2_with fail
       refine fT.out.mono ?_;rintro _ cV ⟨rfl,aR,al,dh⟩;rw[dZ.out,e8.out] at aR;have bD:=Jh (aP.out.trans al);have cf:=Jh (dh.own ce.out (by decide) (by decide));have bz:d<=cV.heap.size:=by have:=al.size;omega
       have dj:=Jh (show Two d d (d+1) (ckAt c i++(P.take 0).flatten) (ixAt c T i++pk T s.labels++uintT np++lensT (P.take 0)) cV by simpa[lensT] using aR);clear aR al dh fQ;go_wp2_with fail
       go_loopg [92] np (fun g s92 wz=>∃k:Nat,k+g=np/\s92 = .int .i64 (k:Int)/\Two d d (d+1) (ckAt c i++(P.take k).flatten) (ixAt c T i++pk T s.labels++uintT np++lensT (P.take k)) wz/\wz.ownsRow w13.heap.size 9 1 (.slice AP np cp) np (P.map txtV)/\Below d w5 wz)
       case atStart=>exact ⟨0,by omega,rfl,dj.out,cf.out,bD.out⟩
       case round=>
        obtain ⟨k,dG,rfl,aO,am,aA⟩:=hrel;have cB:=Jh dG;have dq:=Jh aO;have bX:=Jh am;have an:=Jh aA;obtain ⟨wk,rfl⟩:=i7 wr;clear dG aO am aA
        by_cases hk:k < np
        .have el:decide (k < np)=true:=by rw[i8];omega
         have g7:k < P.length:=by have:=eh.out;omega
         obtain ⟨AQ,cq,he,c6,_,_⟩:=Strs.of_own bX.out eh.out;injection he with e1 _ e2;subst e1 e2;obtain ⟨bp,op,ic,hbp,gZ⟩:=c6.at_ hk;subst ic;obtain ⟨cj,dC⟩:=Kuy g7;have f3:=Qbh g7;have ia:=Qdt (P.take k);have fd:(P.take k).length<=k:=by rw[iS];omega
         obtain ⟨Y,hY⟩:∃Y:ByteArray,(⟨P[k]!.toArray⟩:ByteArray)=Y:=⟨_,rfl⟩;have fP:Y.data.toList=P[k]!:=by rw[<-hY]
         have e4:Y.size=(P[k]!).length:=by rw[<-Kai,fP]
         have hR:wk.cell? ⟨bp,op+k,none⟩=some (.string Y):=by rw[gZ];unfold txtV;rw[hY]
         rw[<-e4] at f3;rw[cj,Jd,<-e4] at dC;have hYz:Y.size<=35184372088832:=by omega
         have ff:=Kau Y.size (by omega) wk;obtain ⟨U3,fo⟩:∃U:ByteArray,(⟨(uintT Y.size).toArray⟩:ByteArray)=U:=⟨_,rfl⟩;have ck:U3.data.toList=uintT Y.size:=by rw[<-fo]
         have fk:U3.size<=11:=by rw[<-Kai,ck];exact (Kab _).2
         rw[fo] at ff;have hD:=Jh ff;have eA:=Jh ck;have hJ:=Jh cj;have im:=Jh f3;have io:=Jh fP;have gF:d<=wk.heap.size:=by have:=an.out.size;have:=HD.out;omega
         clear ff fo ck cj f3 hY fP gZ c6 e4;go_wp2_with fail
         refine hD.out.mono ?_;rintro _ cU ⟨rfl,ai⟩;have bd:=Jh (an.out.trans (ai.mono gF));have cx:=Jh ((Rest.below ai).own bX.out (by decide) (by decide));have aU:d<=cU.heap.size:=iy gF ai.size;have fJ:=Jh (Kdz U3 cU (dq.out.below ai) (by rw[Jd,Jd,Jd];exact bnd1 ad d1 ia fd hk (iy fj (Nat.add_le_add_right fz 1)) fk) aU);clear ai;go_wp2_with fail
         refine fJ.out.mono ?_;rintro _ bL ⟨rfl,bT,aL,dN⟩;have bI:=Jh (bd.out.trans aL);have cO:=Jh (dN.own cx.out (by decide) (by decide));have et:d<=bL.heap.size:=iy aU aL.size;have fS:=Jh (Kpy Y bL bT (by rw[Jd];exact bnd2 br d8 dC) et);clear aL dN bT;go_wp2_with fail
         refine fS.out.mono ?_;rintro _ il ⟨rfl,aZ,dE,dU⟩
         have cl:Hid (Two d d (d+1) (ckAt c i++(P.take (k+1)).flatten) (ixAt c T i++pk T s.labels++uintT np++lensT (P.take (k+1))) il):=Jh (by
          rw[hJ.out,im.out];rw[eA.out,io.out] at aZ
          simpa only[iF] using aZ)
         have fU:=Jh (bI.out.trans dE);have cg:=Jh (dU.own cO.out (by decide) (by decide));clear dE dU aZ;go_wp2_with fail
         go_roundg (gk - 1)
         case measure=>have:=cB.out;omega
         case rel=>exact ⟨k+1,by have:=cB.out;omega,by go_num,cl.out,cg.out,fU.out⟩
        .have el:decide (k < np)=false:=by rw[jb];omega
         have gd:k=P.length:=by have:=cB.out;have:=eh.out;omega
         have cl:Hid (Two d d (d+1) (ckAt c (i+1)) (ixAt c T (i+1)) wk/\Below d w5 wk):=Jh (by
          have h1:=dq.out;rw[gd,iT] at h1;rw[fF.out,e7.out,HP.out,eh.out];refine ⟨?_,an.out⟩
          simpa only[iF] using h1)
         clear gd;go_wp2_with fail
         go_meet
         exact cl.out
      case rest=>
       obtain ⟨aO,aA⟩:=hcut;have fV:=Jh aO;have fA:=Jh aA;clear aO aA;go_wp2_with fail
       go_roundg (gk - 1)
       case measure=>have:=cN.out;omega
       case rel=>exact ⟨i+1,by have:=cN.out;omega,by go_num,fV.out,fA.out⟩
     .have el:decide (i < n)=false:=by rw[jb];omega
      have dS:i=n:=by have:=cN.out;omega
      have HE:Hid (Two d d (d+1) (ckAt c n) (ixAt c T n) wr/\Below d w5 wr):=Jh (by rw[<-dS];exact ⟨gA.out,cn.out⟩);clear dS;go_wp2_with fail
      go_meet
      exact HE.out
   case rest=>
    obtain ⟨aO,bs⟩:=hcut;obtain ⟨gL,rfl⟩:=i7 wc;have dn:d<=gL.heap.size:=by have:=bs.size;have:=HD.out;omega
    have bH:=Qfw c;have a8:=Qfm c;have ad:=Kzo c n;rw[ay.out] at bH a8;rw[ee.out] at bH ad;rw[a8] at aO;have d1:=aN.out.2;have d8:=aN.out.1;have ga:(Kcx (Kaq c)).length<=35184372088832:=by omega
    have cd:(Kaq c).length<=1099511627776:=by unfold Kaq;rw[iC,ay.out];omega
    have ey:=Jh (Kyd (Kaq c) m (n*8) (q+2) es clock gL (aE.out.below (HD.out.symm▸bs)) (by omega) cd ga);obtain ⟨X3,fm⟩:∃X:ByteArray,(⟨(Kcx (Kaq c)).toArray⟩:ByteArray)=X:=⟨_,rfl⟩;have cv:X3.data.toList=Kcx (Kaq c):=by rw[<-fm]
    have ft:X3.size=(Kcx (Kaq c)).length:=by rw[<-Kai,cv]
    rw[fm] at ey;have dY:=Jh cv;have b0:=Jh aO;have dw:=Jh bs;have dd:=Jh bH;clear aO bs bH a8 fm cv cd;go_wp2_with fail
    refine ey.out.mono ?_;rintro _ w12 ⟨rfl,ab⟩;have bA:=Jh (dw.out.trans (ab.mono dn));have bM:d<=w12.heap.size:=by have:=ab.size;omega
    have dV:=Jh (Kdz X3 w12 (b0.out.below ab) (by omega) bM);clear ab;go_wp2_with fail
    refine dV.out.mono ?_;rintro _ w13 ⟨rfl,bg,ae,bf⟩;clear bf;rw[dY.out,dd.out] at bg;have be:=Jh (bA.out.trans ae);have aD:=Jh bg;have aM:d<=w13.heap.size:=by have:=ae.size;omega
    have bx:=d9.out.below be.out (by omega);have k0:w13.cell? ⟨q,0,none⟩=some (.int .i64 r):=bx.cell 0;have k1:w13.cell? ⟨q,1,none⟩=some (.int .i64 f):=bx.cell 1;have k2:w13.cell? ⟨q,2,none⟩=some (.int .i64 t):=bx.cell 2
    obtain ⟨g0,g1,g2,g3,g4⟩:0<=c.res/\c.res < 3/\0<=c.frm/\c.frm < c.to_/\c.to_<=1125899906842625:=by obtain ⟨a,b,e,f,g,_⟩:=Khf.1 HF.out;exact ⟨a,b,e,f,g⟩
    have af:metaB c=uintT c.res.toNat++(intT c.frm++intT c.to_):=rfl;rw[gb.out] at g0 g1 af;rw[gv.out] at g2 g3 af;rw[gj.out] at g3 g4 af;obtain ⟨rn,rfl⟩:∃rn:Nat,r=(rn:Int):=⟨r.toNat,by omega⟩;rw[Int.toNat_natCast] at af;have eP:=Jh (fun u:Later w13=>Kau rn (by omega) u.w);have fc:=Jh (fun u:Later w13=>Krs f (by omega) (by omega) u.w);have fa:=Jh (fun u:Later w13=>Krs t (by omega) (by omega) u.w);obtain ⟨M0,eo⟩:∃X:ByteArray,(⟨(uintT rn).toArray⟩:ByteArray)=X:=⟨_,rfl⟩;obtain ⟨M1,eX⟩:∃X:ByteArray,(⟨(intT f).toArray⟩:ByteArray)=X:=⟨_,rfl⟩;obtain ⟨M2,e5⟩:∃X:ByteArray,(⟨(intT t).toArray⟩:ByteArray)=X:=⟨_,rfl⟩;have cJ:M0.data.toList=uintT rn:=by rw[<-eo]
    have cQ:M1.data.toList=intT f:=by rw[<-eX]
    have cy:M2.data.toList=intT t:=by rw[<-e5]
    have eU:M0.size<=11:=by rw[<-Kai,cJ];exact (Kab _).2
    have e3:M1.size<=11:=by rw[<-Kai,cQ];exact (Kab _).2
    have fw:M2.size<=11:=by rw[<-Kai,cy];exact (Kab _).2
    rw[eo] at eP;rw[eX] at fc;rw[e5] at fa
    have gB:(M0++M1++M2).data.toList=metaB c:=by rw[af];simp only[jj,Array.toList_append,cJ,cQ,cy,iF]
    have e9:=Jh gB;clear eo eX e5 cJ cQ cy gB af bx bg ae k3;have fM:q < w13.heap.size:=iK (iK (iU (by decide:0 < 2)) dk) aM;go_upto_region 34 with fail
    refine Kaa (by kernel_rfl) (by kernel_rfl) ?_
    repeat (go_big_quiet_step ((first | (go_at_call 42;with_reducible exact Kaj _ (eP.out _)) | (go_at_call 46;first | with_reducible exact Kaj _ (fc.out _) | with_reducible exact Kaj _ (fa.out _)))))
    refine jt ?_;rintro dD ⟨⟨_,ah⟩,rfl⟩;obtain ⟨MB,fI⟩:=iZ (M0++M1++M2);have eR:MB.size<=33:=by rw[<-fI,jc,jc];omega
    rw[fI] at e9 |-;have f6:w.heap.size<=d:=by rw[HQ.out];exact Nat.le_of_lt (iK (iU (by decide:0 < 2)) dk)
    have d4:=Jh (fun (s:ByteArray) (hs:s.size<=140737488351232) (W:World) (hb:Below d w5 W)=>Qbv s hs W (Kec.below HN.out HN.out.lt (bw.out.trans (hb.mono f6))));have aX:=Jh (be.out.trans (ah.mono aM));have b1:=Jh (aD.out.below ah);have a9:d<=dD.heap.size:=iy aM ah.size;have d2:=d4.out MB (by omega) dD aX.out;rw[e9.out] at d2;obtain ⟨S1,cX⟩:∃S:ByteArray,(⟨(sealT (metaB c)).toArray⟩:ByteArray)=S:=⟨_,rfl⟩;rw[cX] at d2;have gT:=Jh d2;have fs:=Jh cX;clear fI ah d2 cX k0 k1 k2 eP fc fa eU e3 fw;go_wp2_with fail
    refine gT.out.mono ?_;rintro _ dt ⟨rfl,ax⟩;have bK:=Jh (aX.out.trans (ax.mono a9));have aQ:d<=dt.heap.size:=iy a9 ax.size;have aH:=Qcd dt (b1.out.below ax) aQ;obtain ⟨CB,fi⟩:∃S:ByteArray,(⟨(Kdc c).toArray⟩:ByteArray)=S:=⟨_,rfl⟩;rw[fi] at aH;have cF:CB.data.toList=Kdc c:=by rw[<-fi]
    have eK:CB.size<=35184372088832:=by rw[<-Kai,cF];exact d8
    have dI:=Jh aH;have dQ:=Jh cF;clear ax aH fi cF;go_wp2_with fail
    refine dI.out.mono ?_;rintro _ dB ⟨rfl,⟨r2,bU⟩,ag⟩;have aP:=Jh (bK.out.trans ag);have a5:d<=dB.heap.size:=iy aQ ag.size;have cb:=Jh bU;have ec:=d4.out CB (by omega) dB aP.out;rw[dQ.out] at ec;obtain ⟨S2,fy⟩:∃S:ByteArray,(⟨(sealT (Kdc c)).toArray⟩:ByteArray)=S:=⟨_,rfl⟩;rw[fy] at ec;have f7:=Jh ec;have eW:=Jh fy;clear ag bU ec fy;go_wp2_with fail
    refine f7.out.mono ?_;rintro _ cV ⟨rfl,al⟩;have bD:=Jh (aP.out.trans (al.mono a5));have bz:d<=cV.heap.size:=iy a5 al.size;have aS:=Jh (cb.out.below al);have aK:=Kit d (d+1) r2 (Kcp c) cV aS.out;obtain ⟨IB,eI⟩:∃S:ByteArray,(⟨(Kcp c).toArray⟩:ByteArray)=S:=⟨_,rfl⟩;rw[eI] at aK;have cC:IB.data.toList=Kcp c:=by rw[<-eI]
    have eq:IB.size<=35184372088832:=by rw[<-Kai,cC];exact d1
    have aC:=Jh aK;have dJ:=Jh cC;clear al aK eI cC;go_wp2_with fail
    refine aC.out.mono ?_;rintro _ cU ⟨rfl,c5⟩;have ai:Below d cV cU:=c5.below (Nat.le_succ d) (fun k hk=>(aS.out.row hk).1) bz;have bd:=Jh (bD.out.trans ai);have aU:d<=cU.heap.size:=iy bz ai.size;have d5:=d4.out IB (by omega) cU bd.out;rw[dJ.out] at d5;obtain ⟨S3,fe⟩:∃S:ByteArray,(⟨(sealT (Kcp c)).toArray⟩:ByteArray)=S:=⟨_,rfl⟩;rw[fe] at d5;have gx:=Jh d5;have eJ:=Jh fe;clear ai c5 d5 fe;go_wp2_with fail
    refine gx.out.mono ?_;rintro _ bL ⟨rfl,aL⟩;have bI:=Jh (bd.out.trans (aL.mono aU));have ar:=ha.out.below bI.out (iK (Nat.lt_succ_self _) dk);have e0:bL.cell? ⟨q+1,0,none⟩=some (.string ⟨#[]⟩):=ar.cell 0;have e1:bL.cell? ⟨q+1,1,none⟩=some (.string ⟨#[]⟩):=ar.cell 1;have e2:bL.cell? ⟨q+1,2,none⟩=some (.string ⟨#[]⟩):=ar.cell 2;have z0:=ar.frozen 0;have z1:=ar.frozen 1;have z2:=ar.frozen 2;have dA:=Jh ar;clear ar aL;clear hZ gW gS g5 gm gG gt go f9 hQ gV h8 hL k3 dk hM h4 gw gD hv hh fB dn bM aM a9 aQ a5 bz aU hK ad d1 d8 ga ft g0 g1 g2 g3 g4 fM eR eK eq hn
    try clear d4
    try clear gx
    try clear aC
    try clear f7
    try clear dI
    try clear gT
    try clear dJ
    try clear dQ
    try clear e9
    try clear dd
    try clear dY
    try clear gl
    try clear gP
    try clear aS
    try clear cb
    try clear b1
    try clear aD
    try clear b0
    try clear bS
    try clear bd
    try clear bD
    try clear aP
    try clear bK
    try clear aX
    try clear be
    try clear bA
    try clear dw
    try clear bl
    try clear dV
    try clear ey
    try clear HU
    try clear d9
    try clear gI
    try clear c4
    try clear ej
    try clear gb
    try clear aE
    try clear ch
    try clear bN
    try clear eE
    try clear cD
    try clear ee
    try clear aN
    try clear bt
    try clear gn
    try clear cP
    try clear en
    try clear HM
    try clear gp
    try clear ed
    try clear ct
    try clear gQ
    try clear HG
    try clear HC
    try clear HF
    try clear df
    try clear c9
    try clear ev
    try clear cW
    try clear ay
    try clear gv
    try clear gj
    try clear HN
    try clear HT
    try clear HZ
    try clear HS
    try clear ha
    try clear HD
    dsimp only
    iterate 12 (try (first | go_values | go_skip | go_guarded | go_step | go_upon | go_back))
    have fW:Blk (((bL.setCell ⟨q+1,0,none⟩ (.string S1)).setCell ⟨q+1,1,none⟩ (.string S2)).setCell ⟨q+1,2,none⟩ (.string S3)) (q+1) 44 #[.string S1,.string S2,.string S3]:=((dA.out.set_ 0 _).set_ 1 _).set_ 2 _;have d7:w.heap.size<=q+1:=by rw[HQ.out];exact Nat.le_succ _
    have eL:Below w.heap.size w (((bL.setCell ⟨q+1,0,none⟩ (.string S1)).setCell ⟨q+1,1,none⟩ (.string S2)).setCell ⟨q+1,2,none⟩ (.string S3)):=(((bw.out.trans (bI.out.mono f6)).setCell (p:=⟨q+1,0,none⟩) d7 _).setCell (p:=⟨q+1,1,none⟩) d7 _).setCell (p:=⟨q+1,2,none⟩) d7 _;obtain ⟨wf,gE⟩:=iZ (((bL.setCell ⟨q+1,0,none⟩ (.string S1)).setCell ⟨q+1,1,none⟩ (.string S2)).setCell ⟨q+1,2,none⟩ (.string S3));rw[gE] at fW eL |-;have ih:=Jh fW;have h6:=Jh eL;clear gE fW eL e0 e1 e2 z0 z1 z2 d7 dA
    iterate 2 (try (first | go_values | go_skip | go_guarded | go_step | go_upon | go_back))
    refine bodyPost_ret (Kdd rfl _ _ ⟨q+1,0,none⟩ (.agg #[.string S1,.string S2,.string S3]) rfl (run_loadVar_row _ (q+1) 44 44 _ (0,0) _ ih.out underlying44 rfl (by kernel_rfl))) rfl ?_
    have eS:filV (Kfg c) = .agg #[.string S1,.string S2,.string S3]:=by unfold filV Kfg txtV;rw[fs.out,eW.out,eJ.out]
    rw[eS];exact ⟨rfl,h6.out⟩
end
section
open Go.RowKit
open List renaming length_append -> Jd
theorem Kxj (c:Int):(Kcs c).length<=68:=by
 unfold Kcs
 repeat' split
 all_goals simp[Kbh]
theorem Kxq (c:Cst) (x:Nat):(Kbp c x).1.length<=77:=by
 unfold Kbp
 repeat' split
 all_goals simp[Kbh]
 all_goals omega
theorem Kyu (c:Cst) (s:Smp):(Kbq c s).1.length<=145:=by
 unfold Kbq
 split
 .simp[Kbh]
 .have h1:=Kxj (s.t - c.last.t - c.step);have h2:=Kxq { c with step:=s.t - c.last.t } (s.v ^^^ c.last.v);simp only[Jd];omega
theorem Klk:∀(l:List Smp) (c:Cst),(Kbw c l).length<=145*l.length
 | [],_=>iA _
 | s :: l,c=>by have h1:=Kyu c s;have h2:=Klk l (Kbq c s).2;rw[Kbw,Jd,iv];omega
theorem Qak (p:List Smp):(Kdb p).length<=12+19*p.length:=by unfold Kdb;have h1:=(Kab p.length).2;have h2:=(Kfp (Kbw cst0 p)).len;have h3:=Klk p cst0;rw[Jd];omega
theorem Ksq:∀(l:List Wnd) (a:Wnd),(wndsT a l).length<=66*l.length
 | [],_=>iA _
 | w :: l,a=>by have h:=Ksq l w;have h1:=(Kab (w.start - a.start).toNat).2;have h2:=(Kab w.count.toNat).2;have h3:=(Kab (w.sum ^^^ a.sum)).2;have h4:=(Kab (w.min ^^^ a.min)).2;have h5:=(Kab (w.max ^^^ a.max)).2;have h6:=(Kab (w.last ^^^ a.last)).2;rw[wndsT];unfold wndT;simp only[Jd,iv];omega
theorem Qcm (l:List Wnd):(aggsT l).flatten.length<=77*l.length:=by
 cases l with
 | nil=>simp[aggsT]
 | cons w l=>
  have h1:=(Kab (w :: l).length).2;have h2:=Ksq (w :: l) wnd0;have e:(aggsT (w :: l)).flatten=uintT (w :: l).length++wndsT wnd0 (w :: l):=by simp[aggsT,aggT]
  rw[e,Jd];rw[iv] at *;omega
theorem Kih:∀(f:Nat) (l:List Smp),((Kby f l).map Kdb).flatten.length<=31*l.length
 | 0,l=>by simp[Kby]
 | f+1,[]=>by simp[Kby]
 | f+1,x :: l=>by
  have h1:=Qak ((x :: l).take 120);have h2:=Kih f ((x :: l).drop 120);have h3:((x :: l).take 120).length=min 120 (l.length+1):=by rw[iS,iv]
  have h4:((x :: l).drop 120).length=l.length+1 - 120:=by rw[List.length_drop,iv]
  rw[Kby,iB,iX,Jd,iv];omega
theorem Kqn (s:Ser):(Kbf s).flatten.length<=31*s.samples.length+77*s.windows.length:=by unfold Kbf;rw[iQ,Jd];have h1:=Kih s.samples.length s.samples;have h2:=Qcm s.windows;omega
theorem Kvq (P:List (List UInt8)):(lensT P).length<=11*P.length:=by
 induction P with
 | nil=>simp[lensT]
 | cons p P ih=>
  have h:=(Kab p.length).2;have e:lensT (p :: P)=uintT p.length++lensT P:=rfl;rw[e,Jd,iv];omega
theorem Kmq (s:Ser):(Kbf s).length<=s.samples.length+1:=by
 have a1:=Kgj s.samples.length s.samples;have a2:(aggsT s.windows).length<=1:=by cases s.windows <;> simp[aggsT]
 unfold Kbf;rw[Jd,iC];omega
def smpsN (l:List Ser):Nat:=(l.map fun s=>s.samples.length).sum
def wndsN (l:List Ser):Nat:=(l.map fun s=>s.windows.length).sum
theorem Kmk:∀l:List Ser,(l.flatMap fun s=>(Kbf s).flatten).length<=31*smpsN l+77*wndsN l
 | []=>by simp[smpsN,wndsN]
 | s :: l=>by have h1:=Kqn s;have h2:=Kmk l;simp only[smpsN,wndsN,iB,iJ,iG,Jd] at *;omega
theorem Qgs (t:List Txt) (s:Ser) (h:s.labels.length<=8):(serT t s).length<=209+11*s.samples.length:=by unfold serT;rw[Jd,Jd];have h1:=Qei t s.labels;have h2:=(Kab (Kbf s).length).2;have h3:=Kvq (Kbf s);have h4:=Kmq s;omega
theorem Ksg (t:List Txt):∀l:List Ser,(∀s∈l,s.labels.length<=8)->(l.flatMap (serT t)).length<=209*l.length+11*smpsN l
 | [],_=>by simp[smpsN]
 | s :: l,h=>by have h1:=Qgs t s (h s (by simp));have h2:=Ksg t l (fun x hx=>h x (by simp[hx]));simp only[smpsN,iB,iJ,iG,Jd,iv] at *;omega
theorem Kfr (m:Nat):∀l:List Txt,(∀x∈l,x.length<=m)->(l.flatMap textT).length<=(11+m)*l.length
 | [],_=>by simp
 | x :: l,h=>by have h1:=h x (by simp);have h2:=Kfr m l (fun y hy=>h y (by simp[hy]));have h3:=(Kab x.length).2;rw[iG,Jd,iv,Nat.mul_succ];unfold textT at *;rw[Jd];omega
theorem Kkn (l:List Txt):(Lib.compact l).length<=l.length:=by unfold Lib.compact Lib.compactUpTo;rw[iC];exact iy (List.length_filter_le _ _) (by rw[List.length_range];exact iA _)
theorem Kub:∀S:List (List Lb),(∀l∈S,l.length<=8)->(allS S).length<=16*S.length
 | [],_=>by simp[allS]
 | l :: S,h=>by
  have h1:=h l (by simp);have h2:=Kub S (fun x hx=>h x (by simp[hx]))
  have h3:(texts l).length=2*l.length:=by
   clear h1 h2 h
   induction l with
   | nil=>rfl
   | cons x l ih=>simp[texts] at *;omega
  unfold allS at *;rw[iG,Jd,iv];omega
theorem Qgz {l:List Lb} {x:Txt} (h:x∈texts l):∃y∈l,x=y.n\/x=y.v:=by unfold texts at h;obtain ⟨y,hy,hx⟩:=it.1 h;refine ⟨y,hy,?_⟩;simpa using hx
def Kfx (S:List (List Lb)):Prop:=∀l∈S,l.length<=8/\∀y∈l,y.n.length<=32/\y.v.length<=64
theorem Kpr {S:List (List Lb)} (h:Kfx S):(tabOf S).length<=16*S.length/\∀x∈tabOf S,x.length<=64:=by
 refine ⟨?_,fun x hx=>?_⟩
 .refine iy (Kkn _) ?_;rw[List.length_mergeSort];exact Kub S fun l hl=>(h l hl).1
 .have h1:=((Kwv S).2 x).1 hx;obtain ⟨l,hl,hx⟩:=it.1 h1;obtain ⟨y,hy,hh⟩:=Qgz hx;have:=(h l hl).2 y hy;rcases hh with rfl | rfl <;> omega
theorem Kyz {S:List (List Lb)} (h:Kfx S):(tabT (tabOf S)).length<=11+1200*S.length:=by obtain ⟨h1,h2⟩:=Kpr h;have h3:=Kfr 64 (tabOf S) h2;have h4:=(Kab (tabOf S).length).2;unfold tabT;rw[Jd];omega
theorem Knk (x:Lb):∀l:List Lb,(insK x l).length<=l.length+1
 | []=>iA _
 | y :: l=>by
  rw[insK]
  split
  .simp
  .split
   .have:=Knk x l;simp only[iv];omega
   .simp
theorem Qbd {S:List (List Lb)} (h:Kfx S):(keysOf S).length<=8*S.length:=by
 have h1:∀l:List Lb,(l.foldr insK []).length<=l.length:=by
  intro l
  induction l with
  | nil=>exact iA _
  | cons y l ih=>rw[List.foldr_cons,iv];exact iy (Knk y _) (by omega)
 refine iy (h1 _) ?_
 induction S with
 | nil=>simp
 | cons l S ih=>
  have:=(h l (by simp)).1;have:=ih (fun x hx=>h x (by simp[hx]));rw[iX,Jd,iv];omega
theorem Kla {S:List (List Lb)} (h:Kfx S):∀x∈keysOf S,x.n.length<=32/\x.v.length<=64:=fun x hx=>by obtain ⟨l,hl,hm⟩:=((Kez S).2 x).1 hx;exact (h l hl).2 x hm
theorem Kni:∀(l K:List Lb),K.Nodup->(K.filter fun x=>decide (x∈l)).length<=l.length
 | [],K,_=>by simp
 | a :: l,K,hK=>by
  have h1:=Kni l K hK
  have h2:∀K:List Lb,K.Nodup->(K.filter fun x=>decide (x∈a :: l)).length<=(K.filter fun x=>decide (x∈l)).length+(if a∈K then 1 else 0):=by
   intro K
   induction K with
   | nil=>intro _;simp
   | cons y K ih=>
    intro hn;have hc:=List.nodup_cons.1 hn;have ih:=ih hc.2
    by_cases hya:y=a
    .subst hya;rw[je hc.1] at ih;rw[jf (by simp),List.filter_cons_of_pos (by simp),iv];rw[iO]
     split
     .rw[iv];omega
     .omega
    .have e:decide (y∈a :: l)=decide (y∈l):=by simp[hya]
     have e2:(a∈y :: K)↔a∈K:=by simp[Ne.symm hya]
     rw[iO,iO,e];simp only[e2]
     split
     .simp only[iv];omega
     .omega
  have h3:=h2 K hK;rw[iv]
  split at h3 <;> omega
theorem Qes (K:List Lb) (hK:K.Nodup):∀(n:Nat) (S:List (List Lb)),S.length=n->(∀l∈S,l.length<=8)->(K.map fun x=>(Kap S x).length).sum<=8*S.length:=by
 intro n
 induction n with
 | zero=>
  intro S h _;have h0:S = []:=List.eq_nil_of_length_eq_zero h;subst h0
  have:∀K:List Lb,(K.map fun x=>(Kap [] x).length).sum=0:=by
   intro K
   induction K with
   | nil=>rfl
   | cons y K ih=>rw[iB,iJ,ih];rfl
  rw[this];exact Nat.zero_le _
 | succ n ih=>
  intro S h h8;have aa:S≠[]:=by intro e;rw[e] at h;cases h
  obtain ⟨T,l,rfl⟩:∃T l,S=T ++ [l]:=⟨S.dropLast,S.getLast aa,(List.dropLast_concat_getLast aa).symm⟩;have h1:=ih T (by rw[Jd,iN] at h;omega) (fun x hx=>h8 x (by simp[hx]));have h2:=h8 l (by simp);have h3:=Kni l K hK
  have e:∀K:List Lb,(K.map fun x=>(Kap (T ++ [l]) x).length).sum=(K.map fun x=>(Kap T x).length).sum+(K.filter fun x=>decide (x∈l)).length:=by
   intro K
   induction K with
   | nil=>rfl
   | cons y K ih=>
    rw[iB,iJ,iB,iJ,ih,Khm,iO]
    by_cases hy:y∈l
    .rw[jf hy,jf (jd hy),Jd,iv];simp;omega
    .rw[je hy,je (by simpa using hy)];omega
  rw[e,Jd,iN];omega
theorem Kpp:∀(l:List Nat) (a:Nat),(Kcr a l).length<=11*l.length
 | [],_=>by simp[Kcr]
 | x :: l,a=>by have h:=Kpp l x;have h1:=(Kab (x - a)).2;rw[Kcr,Jd,iv];omega
theorem Kve (S:List (List Lb)) (x:Lb) (h:x.n.length<=32/\x.v.length<=64):(keyT S x).length<=129+11*(Kap S x).length:=by have h1:=(Kab x.n.length).2;have h2:=(Kab x.v.length).2;have h3:=(Kab (Kap S x).length).2;have h4:=Kpp (Kap S x) 0;unfold keyT textT postT;simp only[Jd];omega
theorem Qbi {S:List (List Lb)} (h:Kfx S):(Kcx S).length<=11+1120*S.length:=by
 have h1:=(Kab (keysOf S).length).2;have h2:=Qbd h;have h3:=Qes (keysOf S) ((Kez S).1.imp fun hab e=>by subst e;exact Keo _ hab) S.length S rfl (fun l hl=>(h l hl).1)
 have h4:∀K:List Lb,(∀x∈K,x.n.length<=32/\x.v.length<=64)->(K.flatMap (keyT S)).length<=129*K.length+11*(K.map fun x=>(Kap S x).length).sum:=by
  intro K
  induction K with
  | nil=>intro _;simp
  | cons y K ih=>
   intro hk;have k1:=Kve S y (hk y (by simp));have k2:=ih (fun x hx=>hk x (by simp[hx]));rw[iG,Jd,iv,iB,iJ];omega
 have h5:=h4 (keysOf S) (Kla h);unfold Kcx;rw[Jd];omega
theorem Ksj {c:Cont} (h:fitB c=true):Kfx (Kaq c):=by intro l hl;obtain ⟨s,hs,rfl⟩:=i3.1 hl;have:=Kfw ((Khf.1 h).2.2.2.2.2.1 s hs).1;exact ⟨this.2.2.1,this.2.2.2.1⟩
theorem Qde {c:Cont} (h:fitB c=true):(metaB c).length<=33/\(Kdc c).length<=31*smpsN c.series+77*wndsN c.series/\(Kcp c).length<=33+2529*c.series.length+11*smpsN c.series:=by
 have hs:=Ksj h;have hn:(Kaq c).length=c.series.length:=by simp[Kaq]
 refine ⟨?_,Kmk c.series,?_⟩
 .have h1:=(Kab c.res.toNat).2;have h2:(intT c.frm).length<=11:=(Kab _).2;have h3:(intT c.to_).length<=11:=(Kab _).2;unfold metaB;simp only[Jd];omega
 .have h1:=Kyz hs;have h2:=(Kab c.series.length).2;have h3:=Ksg (tabOf (Kaq c)) c.series (fun s hx=>(hs s.labels (i3.2 ⟨s,hx,rfl⟩)).1);have h4:=Qbi hs;unfold Kcp;simp only[Jd];omega
end
section
open Go.RowKit
open Lib renaming hid -> Jh
attribute [local go_sem ↓] Go.wp_at_zero Go.wp_at_succ
attribute [local go_sem] Later.cell
theorem Qfp (m:List Lb):cmpL [] m=if m = [] then 0 else -1:=by cases m <;> rfl
theorem Qcv (m:List Lb):cmpL m []=if m = [] then 0 else 1:=by cases m <;> rfl
theorem Kdq (l m:List Lb) (A B:Option Addr) (n k ca cb:Nat) (w:World) (r:Int) (hr:cmpL l m=r) (hA:Elems w w.heap.size 2 encLb A n l) (hB:Elems w w.heap.size 2 encLb B k m) (hn:n<=140737488351232) (hk:k<=140737488351232) :
  Calls prog 69 #[.slice A n ca,.slice B k cb] w fun e w'=>e = .returned (.int .i64 r)/\Below w.heap.size w w':=by
 have HR:=Jh hr;have ay:=Jh hA.len;have aw:=Jh hB.len;clear hr;go_enter func69,ntmps69
 go_wp2_with fail
 go_loopg [5] n (fun g s5 wr=>∃i:Nat,s5 = .int .i64 (i:Int)/\i+g=n/\i<=k/\cmpL (l.drop i) (m.drop i)=r/\Below w.heap.size w wr)
 case atStart=>exact ⟨0,rfl,by omega,Nat.zero_le _,HR.out,Below.refl _ _⟩
 case round=>
  obtain ⟨i,rfl,aA,hik,aa,ac⟩:=hrel;have ax:=Jh aA;have az:=Jh aa;clear aA aa
  by_cases hi:i < n
  .have el:decide (i < n)=true:=by rw[i8];exact hi
   by_cases hi2:i < k
   .have aL:decide (i < k)=true:=by rw[i8];exact hi2
    obtain ⟨w0,rfl⟩:=i7 wr;have ad:i < l.length:=by have:=ay.out;omega
    have ae:i < m.length:=by have:=aw.out;omega
    have ai:0 < n:=by omega
    have aj:0 < k:=by omega
    obtain ⟨b,off,rfl,hbl,_⟩:=hA.2 ai;obtain ⟨b',aK,rfl,hbm,_⟩:=hB.2 aj;obtain ⟨x,hx⟩:∃x,l[i]! = x:=⟨_,rfl⟩;obtain ⟨y,hy⟩:∃y,m[i]! = y:=⟨_,rfl⟩;obtain ⟨XN,an⟩:∃N:ByteArray,(⟨x.n.toArray⟩:ByteArray)=N:=⟨_,rfl⟩;obtain ⟨XV,am⟩:∃N:ByteArray,(⟨x.v.toArray⟩:ByteArray)=N:=⟨_,rfl⟩;obtain ⟨YN,al⟩:∃N:ByteArray,(⟨y.n.toArray⟩:ByteArray)=N:=⟨_,rfl⟩;obtain ⟨YV,ao⟩:∃N:ByteArray,(⟨y.v.toArray⟩:ByteArray)=N:=⟨_,rfl⟩;have aB:l.drop i=x :: l.drop (i+1):=by rw[<-hx,i9 l i ad];exact iI ad
    have aD:m.drop i=y :: m.drop (i+1):=by rw[<-hy,i9 m i ae];exact iI ae
    have aa:=az.out;rw[aB,aD,cmpL] at aa;obtain ⟨q1,aU⟩:=iZ (jo XN.toList YN.toList);obtain ⟨q2,aM⟩:=iZ (XN.toList == YN.toList);obtain ⟨q3,aH⟩:=iZ (jo XV.toList YV.toList);obtain ⟨q4,aQ⟩:=iZ (XV.toList == YV.toList);have k1:q1=decide (x.n < y.n):=by rw[<-aU,<-an,Knr,<-al]
    have k2:q2=decide (x.n=y.n):=by rw[<-aM,<-an,<-al,i6,i6,iz];simp
    have k3:q3=decide (x.v < y.v):=by rw[<-aH,<-am,Knr,<-ao]
    have k4:q4=decide (x.v=y.v):=by rw[<-aQ,<-am,<-ao,i6,i6,iz];simp
    have aN:Hid (q1=true->r = -1):=Jh (fun h=>by rw[k1,i8] at h;rw[jf h] at aa;exact aa.symm);have aZ:Hid (q1=false->q2=false->r=1):=Jh (fun h1 h=>by rw[k1,jb] at h1;rw[k2,jb] at h;rw[je h1,jf (jr fun h3=>h (Kel h1 h3))] at aa;exact aa.symm);have aE:Hid (q1=false->q2=true->q3=true->r = -1):=Jh (fun h1 h2 h=>by rw[k1,jb] at h1;rw[k2,i8] at h2;rw[k3,i8] at h;rw[je h1,je (by rw[h2];exact iR _),jf h] at aa;exact aa.symm);have aS:Hid (q1=false->q2=true->q3=false->q4=false->r=1):=Jh (fun h1 h2 h3 h=>by rw[k1,jb] at h1;rw[k2,i8] at h2;rw[k3,jb] at h3;rw[k4,jb] at h;rw[je h1,je (by rw[h2];exact iR _),je h3,jf (jr fun h5=>h (Kel h3 h5))] at aa;exact aa.symm);have aC:Hid (q1=false->q2=true->q3=false->q4=true->cmpL (l.drop (i+1)) (m.drop (i+1))=r):=Jh (fun h1 h2 h3 h=>by rw[k1,jb] at h1;rw[k2,i8] at h2;rw[k3,jb] at h3;rw[k4,i8] at h;rw[je h1,je (by rw[h2];exact iR _),je h3,je (by rw[h];exact iR _)] at aa;exact aa);have HX:=Jh hx;have HY:=Jh hy;have aq:=Jh an;have ar:=Jh am;have ap:=Jh al;have av:=Jh ao;obtain ⟨_,a0,a1⟩:=Kbi hA ai ac i ad;obtain ⟨_,d0,d1⟩:=Kbi hB aj ac i ae;rw[hx,an] at a0;rw[hx,am] at a1;rw[hy,al] at d0;rw[hy,ao] at d1;have aV:b < w0.heap.size:=by have:=ac.size;omega
    have aF:b' < w0.heap.size:=by have:=ac.size;omega
    clear k1 k2 k3 k4 aa aB aD hx hy an am al ao;go_upto_region 4 with fail
    refine Kaa (by kernel_rfl) (by kernel_rfl) ?_
    repeat (go_big_quiet_step (fail))
    refine jt ?_;rintro w1 ⟨⟨_,aO⟩,rfl⟩;have af:Below w.heap.size w w1:=then_ ac aO;obtain ⟨_,a0,a1⟩:=Kbi hA ai af i ad;obtain ⟨_,d0,d1⟩:=Kbi hB aj af i ae;rw[HX.out,aq.out] at a0;rw[HX.out,ar.out] at a1;rw[HY.out,ap.out] at d0;rw[HY.out,av.out] at d1;have a4:b < w1.heap.size:=by have:=af.size;omega
    have aR:b' < w1.heap.size:=by have:=af.size;omega
    cases q1 with
    | true=>
     have ab:r = -1:=aN.out rfl;subst ab;go_wp2_with fail
     go_ret
     exact ⟨rfl,af⟩
    | false=>
     go_upto_region 6 with fail
     refine Kaa (by kernel_rfl) (by kernel_rfl) ?_
     repeat (go_big_quiet_step (fail))
     refine jt ?_;rintro w2 ⟨⟨_,aX⟩,rfl⟩;have ak:Below w.heap.size w w2:=then_ af aX;obtain ⟨_,a0,a1⟩:=Kbi hA ai ak i ad;obtain ⟨_,d0,d1⟩:=Kbi hB aj ak i ae;rw[HX.out,aq.out] at a0;rw[HX.out,ar.out] at a1;rw[HY.out,ap.out] at d0;rw[HY.out,av.out] at d1;have aY:b < w2.heap.size:=by have:=ak.size;omega
     have aJ:b' < w2.heap.size:=by have:=ak.size;omega
     cases q2 with
     | false=>
      have ab:r=1:=aZ.out rfl rfl;subst ab;go_wp2_with fail
      go_ret
      exact ⟨rfl,ak⟩
     | true=>
      go_upto_region 8 with fail
      refine Kaa (by kernel_rfl) (by kernel_rfl) ?_
      repeat (go_big_quiet_step (fail))
      refine jt ?_;rintro w3 ⟨⟨_,aT⟩,rfl⟩;have ah:Below w.heap.size w w3:=then_ ak aT;obtain ⟨_,a0,a1⟩:=Kbi hA ai ah i ad;obtain ⟨_,d0,d1⟩:=Kbi hB aj ah i ae;rw[HX.out,aq.out] at a0;rw[HX.out,ar.out] at a1;rw[HY.out,ap.out] at d0;rw[HY.out,av.out] at d1;have aW:b < w3.heap.size:=by have:=ah.size;omega
      have a3:b' < w3.heap.size:=by have:=ah.size;omega
      cases q3 with
      | true=>
       have ab:r = -1:=aE.out rfl rfl rfl;subst ab;go_wp2_with fail
       go_ret
       exact ⟨rfl,ah⟩
      | false=>
       go_upto_region 10 with fail
       refine Kaa (by kernel_rfl) (by kernel_rfl) ?_
       repeat (go_big_quiet_step (fail))
       refine jt ?_;rintro w4 ⟨⟨_,aG⟩,rfl⟩;have ag:Below w.heap.size w w4:=then_ ah aG;obtain ⟨_,a0,a1⟩:=Kbi hA ai ag i ad;obtain ⟨_,d0,d1⟩:=Kbi hB aj ag i ae;rw[HX.out,aq.out] at a0;rw[HX.out,ar.out] at a1;rw[HY.out,ap.out] at d0;rw[HY.out,av.out] at d1;have a2:b < w4.heap.size:=by have:=ag.size;omega
       have aI:b' < w4.heap.size:=by have:=ag.size;omega
       cases q4 with
       | false=>
        have ab:r=1:=aS.out rfl rfl rfl rfl;subst ab;go_wp2_with fail
        go_ret
        exact ⟨rfl,ag⟩
       | true=>
         go_wp2_with fail
         go_roundg (gk - 1)
         case measure=>have:=ax.out;omega
         case rel=>exact ⟨i+1,by go_num,by have:=ax.out;omega,by omega,by first | exact aC.out rfl rfl rfl rfl | simpa using aC.out,ag⟩
   .have aL:decide (i < k)=false:=by rw[jb];exact hi2
    have aP:i=k:=by omega
    have ab:r=1:=by have h1:=az.out;rw[iW (show m.length<=i by have:=aw.out;omega),Qcv,je (by rw[iP];have:=ay.out;omega)] at h1;exact h1.symm
    have e1:decide (n < k)=false:=by rw[jb];omega
    have e2:decide (k < n)=true:=by rw[i8];omega
    subst ab;go_wp2_with fail
    go_ret
    exact ⟨rfl,ac⟩
  .have el:decide (i < n)=false:=by rw[jb];exact hi
   have hin:i=n:=by have:=ax.out;omega
   have h1:=az.out;rw[iW (show l.length<=i by have:=ay.out;omega),Qfp] at h1
   by_cases hnk:n < k
   .have ab:r = -1:=by
     rw[je (by rw[iP];have:=aw.out;omega)] at h1;exact h1.symm
    have e1:decide (n < k)=true:=by rw[i8];exact hnk
    subst ab;clear h1;go_wp2_with fail
    go_ret
    exact ⟨rfl,ac⟩
   .have ab:r=0:=by
     rw[jf (by rw[iP];have:=aw.out;omega)] at h1;exact h1.symm
    have e1:decide (n < k)=false:=by rw[jb];exact hnk
    have e2:decide (k < n)=false:=by rw[jb];omega
    subst ab;clear h1;go_wp2_with fail
    go_ret
    exact ⟨rfl,ac⟩
end
section
open Go.RowKit
instance smpEq:DecidableEq Smp:=fun a b=>by
 cases a with
 | mk t v=>
  cases b with
  | mk t' v'=>exact if h:t=t'/\v=v' then isTrue (by rw[h.1,h.2]) else isFalse fun e=>h (by injection e with e1 e2;exact ⟨e1,e2⟩)
instance wndEq:DecidableEq Wnd:=fun a b=>by
 cases a with
 | mk a1 a2 a3 a4 a5 a6=>
  cases b with
  | mk b1 b2 b3 b4 b5 b6=>
   exact if h:a1=b1/\a2=b2/\a3=b3/\a4=b4/\a5=b5/\a6=b6 then isTrue (by obtain ⟨rfl,rfl,rfl,rfl,rfl,rfl⟩:=h;rfl) else isFalse fun e=>h (by injection e with e1 e2 e3 e4 e5 e6;exact ⟨e1,e2,e3,e4,e5,e6⟩)
instance serEq:DecidableEq Ser:=fun a b=>by
 cases a with
 | mk l s w=>
  cases b with
  | mk l' s' w'=>exact if h:l=l'/\s=s'/\w=w' then isTrue (by rw[h.1,h.2.1,h.2.2]) else isFalse fun e=>h (by injection e with e1 e2 e3;exact ⟨e1,e2,e3⟩)
instance contEq:DecidableEq Cont:=fun a b=>by
 cases a with
 | mk r f t s=>
  cases b with
  | mk r' f' t' s'=>exact if h:r=r'/\f=f'/\t=t'/\s=s' then isTrue (by obtain ⟨rfl,rfl,rfl,rfl⟩:=h;rfl) else isFalse fun e=>h (by injection e with e1 e2 e3 e4;exact ⟨e1,e2,e3,e4⟩)
theorem Klb {α : Type} [Inhabited α] {a b:List α} (h:a.length=b.length) (hi:∀i,i < a.length->a[i]! = b[i]!):a=b:=by apply List.ext_getElem h;intro i h1 h2;have:=hi i h1;rwa[i9 a i h1,i9 b i h2] at this
theorem Kef {P:Program} {w:World} {d:Nat} {xs ys:Array Value} {f:Field} {fs:List Field} {t:TypeId} {o:Nat} {a b:Value} {r:Bool} (hf:(f.name != "_",f.type,f.offset)=(true,t,o)) (ha:(part t xs o).run P w = .ok a w) (hb:(part t ys o).run P w = .ok b w) (he:(jn d t a b).run P w = .ok r w) :
  (jm d xs ys (f :: fs)).run P w=if r then (jm d xs ys fs).run P w else .ok false w:=by
 injection hf with h1 h2;injection h2 with h2 h3;subst h2 h3;have aa:f.name≠"_":=by simpa using h1
 rw[jm];simp only[ne_eq,aa,not_false_eq_true,if_true,Sem.run_bind,ha,hb,he,Result.andThen_ok];cases r <;> simp
theorem Kzl {P:Program} {w:World} {d:Nat} {xs ys:Array Value}:(jm d xs ys []).run P w = .ok true w:=rfl
theorem Qif (x y:Smp) (w:World):(jn 10000 133 (.agg #[.int .i64 x.t,.int .u64 (x.v:Int)]) (.agg #[.int .i64 y.t,.int .u64 (y.v:Int)])).run prog w = .ok (decide (x=y)) w:=by
 rw[run_equalIn_struct (d:=9999) w 133 _ _ (by kernel_rfl) (by kernel_rfl)];obtain ⟨fs,aa⟩:=iZ ((prog.fieldsOf 133).toList);have hf:fs.map (fun f=>(f.name != "_",f.type,f.offset)) = [(true,2,0),(true,100,1)]:=by rw[<-aa];kernel_rfl
 rw[aa]
 match fs,hf with
 | [f0,f1],hf=>
  simp only[iB,i5] at hf;injection hf with h0 hf;injection hf with h1 hf;rw[Kef (a:=.int .i64 x.t) (b:=.int .i64 y.t) h0 (by kernel_rfl) (by kernel_rfl) (run_equalIn_int w 9998 2 .i64 .i64 _ _ underlying2)];rw[Kef (a:=.int .u64 (x.v:Int)) (b:=.int .u64 (y.v:Int)) h1 (by kernel_rfl) (by kernel_rfl) (run_equalIn_int w 9998 100 .u64 .u64 _ _ underlying100)];rw[Kzl];have k0:(x.t == y.t)=decide (x.t=y.t):=by rw[iz];simp
  have k1:((x.v:Int) == (y.v:Int))=decide (x.v=y.v):=by rw[iz];simp;omega
  rw[k0,k1];cases x
  cases y
  simp only[Smp.mk.injEq]
  repeat' split
  all_goals simp_all
theorem Qig (x y:Smp) (w:World):(binOp .neq 133 (.agg #[.int .i64 x.t,.int .u64 (x.v:Int)]) (.agg #[.int .i64 y.t,.int .u64 (y.v:Int)])).run prog w = .ok (.bool (!decide (x=y))) w:=by rw[run_neq_struct,Qif];rfl
theorem Qil (x y:Wnd) (w:World):(jn 10000 136 (.agg #[.int .i64 x.start,.int .i64 x.count,.int .u64 (x.sum:Int),.int .u64 (x.min:Int),.int .u64 (x.max:Int),.int .u64 (x.last:Int)]) (.agg #[.int .i64 y.start,.int .i64 y.count,.int .u64 (y.sum:Int),.int .u64 (y.min:Int),.int .u64 (y.max:Int),.int .u64 (y.last:Int)])).run prog w = .ok (decide (x=y)) w:=by
 rw[run_equalIn_struct (d:=9999) w 136 _ _ (by kernel_rfl) (by kernel_rfl)];obtain ⟨fs,aa⟩:=iZ ((prog.fieldsOf 136).toList);have hf:fs.map (fun f=>(f.name != "_",f.type,f.offset)) = [(true,2,0),(true,3,1),(true,100,2),(true,100,3),(true,100,4),(true,100,5)]:=by rw[<-aa];kernel_rfl
 rw[aa]
 match fs,hf with
 | [f0,f1,f2,f3,f4,f5],hf=>
  simp only[iB,i5] at hf;injection hf with h0 hf;injection hf with h1 hf;injection hf with h2 hf;injection hf with h3 hf;injection hf with h4 hf;injection hf with h5 hf;rw[Kef (a:=.int .i64 x.start) (b:=.int .i64 y.start) h0 (by kernel_rfl) (by kernel_rfl) (run_equalIn_int w 9998 2 .i64 .i64 _ _ underlying2)];rw[Kef (a:=.int .i64 x.count) (b:=.int .i64 y.count) h1 (by kernel_rfl) (by kernel_rfl) (run_equalIn_int w 9998 3 .i64 .i64 _ _ underlying3)];rw[Kef (a:=.int .u64 (x.sum:Int)) (b:=.int .u64 (y.sum:Int)) h2 (by kernel_rfl) (by kernel_rfl) (run_equalIn_int w 9998 100 .u64 .u64 _ _ underlying100)];rw[Kef (a:=.int .u64 (x.min:Int)) (b:=.int .u64 (y.min:Int)) h3 (by kernel_rfl) (by kernel_rfl) (run_equalIn_int w 9998 100 .u64 .u64 _ _ underlying100)];rw[Kef (a:=.int .u64 (x.max:Int)) (b:=.int .u64 (y.max:Int)) h4 (by kernel_rfl) (by kernel_rfl) (run_equalIn_int w 9998 100 .u64 .u64 _ _ underlying100)];rw[Kef (a:=.int .u64 (x.last:Int)) (b:=.int .u64 (y.last:Int)) h5 (by kernel_rfl) (by kernel_rfl) (run_equalIn_int w 9998 100 .u64 .u64 _ _ underlying100)];rw[Kzl];have k0:(x.start == y.start)=decide (x.start=y.start):=by rw[iz];simp
  have k1:(x.count == y.count)=decide (x.count=y.count):=by rw[iz];simp
  have k2:((x.sum:Int) == (y.sum:Int))=decide (x.sum=y.sum):=by rw[iz];simp;omega
  have k3:((x.min:Int) == (y.min:Int))=decide (x.min=y.min):=by rw[iz];simp;omega
  have k4:((x.max:Int) == (y.max:Int))=decide (x.max=y.max):=by rw[iz];simp;omega
  have k5:((x.last:Int) == (y.last:Int))=decide (x.last=y.last):=by rw[iz];simp;omega
  rw[k0,k1,k2,k3,k4,k5];cases x
  cases y
  simp only[Wnd.mk.injEq]
  repeat' split
  all_goals simp_all
theorem Qim (x y:Wnd) (w:World):(binOp .neq 136 (.agg #[.int .i64 x.start,.int .i64 x.count,.int .u64 (x.sum:Int),.int .u64 (x.min:Int),.int .u64 (x.max:Int),.int .u64 (x.last:Int)]) (.agg #[.int .i64 y.start,.int .i64 y.count,.int .u64 (y.sum:Int),.int .u64 (y.min:Int),.int .u64 (y.max:Int),.int .u64 (y.last:Int)])).run prog w = .ok (.bool (!decide (x=y))) w:=by rw[run_neq_struct,Qil];rfl
end
section
open Go.RowKit
open Lib renaming hid -> Jh
attribute [local go_sem ↓] Go.wp_at_zero Go.wp_at_succ
attribute [local go_sem] Later.cell
theorem Ktm (La Lb:List Ser) (A B:Option Addr) (n m ca cb:Nat) (w:World) (hA:Sers w A n La) (hB:Sers w B m Lb) (hn:n<=1099511627776) (hm:m<=1099511627776)
  (hza:∀s∈La,s.samples.length<=1099511627776/\s.windows.length<=1099511627776/\s.labels.length<=1099511627776) (hzb:∀s∈Lb,s.samples.length<=1099511627776/\s.windows.length<=1099511627776/\s.labels.length<=1099511627776) :
  Calls prog 25 #[.slice A n ca,.slice B m cb] w fun e w'=>e = .returned (.bool (decide (La=Lb)))/\Below w.heap.size w w':=by
 have aV:=Jh hA.len;have bg:=Jh hB.len;have a5:=Jh hA;have bc:=Jh hB;have bz:=Jh hza;have bC:=Jh hzb;obtain ⟨R,hR⟩:=iZ (decide (La=Lb));rw[hR];have HR:=Jh hR;obtain ⟨q,hq⟩:=iZ w.heap.size;have HQ:=Jh hq;rw[hq];clear hR hq hA hB hza hzb
 by_cases hnm:n=m
 .subst hnm;go_enter func25,ntmps25
  go_wp2_with fail
  go_loopg [5] n (fun g s5 wr=>∃i:Nat,i+g=n/\s5 = .int .i64 (i:Int)/\(∀j,j < i->La[j]! = Lb[j]!)/\Below q w wr)
  case atStart=>exact ⟨0,by omega,rfl,fun j hj=>by omega,Below.refl _ _⟩
  case round=>
   obtain ⟨i,bl,rfl,ar,ap⟩:=hrel;have bk:=Jh bl;have av:=Jh ar;have aE:=Jh ap;clear bl ar ap
   by_cases hi:i < n
   .have el:decide (i < n)=true:=by rw[i8];exact hi
    obtain ⟨wo,rfl⟩:=i7 wr;have ah:Below w.heap.size w wo:=by rw[HQ.out];exact aE.out
    have aP:i < La.length:=by have:=aV.out;omega
    have aH:i < Lb.length:=by have:=bg.out;omega
    obtain ⟨b,aL,x,rfl,hbl,c0,c1,c2,aw⟩:=a5.out.at_ hi;obtain ⟨b',am,x',rfl,bG,d0,d1,d2,aF⟩:=bc.out.at_ hi;obtain ⟨⟨LA,ln,lc⟩,⟨SA,sn,sc⟩,⟨WA,wn,wc9⟩⟩:=x;obtain ⟨⟨bx,bd,bs⟩,⟨SA',sn',sc'⟩,⟨WA',wn',bF⟩⟩:=x';have hza:=bz.out La[i]! (by rw[i9 _ i aP];exact iH aP);have hzb:=bC.out Lb[i]! (by rw[i9 _ i aH];exact iH aH);obtain ⟨aa,ay⟩:∃s,La[i]! = s:=⟨_,rfl⟩;obtain ⟨ab,aD⟩:∃s,Lb[i]! = s:=⟨_,rfl⟩;rw[ay] at aw hza;rw[aD] at aF hzb;have a0:wo.cell? ⟨b,aL+i*3,none⟩=some _:=later ah c0;have b0:wo.cell? ⟨b',am+i*3,none⟩=some _:=later ah d0;have a9:ln<=140737488351232:=by have h1:aa.labels.length=ln:=aw.l.len;omega
    have a6:bd<=140737488351232:=by have h1:ab.labels.length=bd:=aF.l.len;omega
    have bw:sn<=1099511627776:=by have h1:aa.samples.length=sn:=aw.s.len;omega
    have bt:wn<=1099511627776:=by have h1:aa.windows.length=wn:=aw.w.len;omega
    obtain ⟨r,hr⟩:=iZ (cmpL aa.labels ab.labels);have HC:=Jh (fun u:Later wo=>Kdq aa.labels ab.labels LA bx ln bd lc bs u.w r hr ((aw.l.below (ah.trans (u.h.mono ah.size))).more (iy ah.size u.h.size)) ((aF.l.below (ah.trans (u.h.mono ah.size))).more (iy ah.size u.h.size)) a9 a6);have bm:=Jh hr;have aJ:=Jh ay;have aI:=Jh aD;have bp:=Jh c1;have bi:=Jh c2;have bj:=Jh d1;have bn:=Jh d2;have aX:=Jh aw.s;have aZ:=Jh aF.s;have aW:=Jh aw.w;have ba:=Jh aF.w;have bB:b < wo.heap.size:=by have:=ah.size;omega
    have bb:b' < wo.heap.size:=by have:=ah.size;omega
    have bo:aa≠ab->R=false:=fun h=>by rw[<-HR.out,jb];intro e;apply h;rw[<-aJ.out,<-aI.out,e]
    have aQ:=Jh bo;clear hr ay aD c0 c1 c2 d0 d1 d2 aw aF hza hzb ah bo;go_upto_region 6 with fail
    refine Kaa (by kernel_rfl) (by kernel_rfl) ?_
    repeat (go_big_quiet_step ((go_at_call 69;exact Kaj _ (HC.out _))))
    refine jt ?_;rintro w2 ⟨⟨_,bf⟩,rfl⟩;have an:Below w.heap.size w w2:=then_ (by rw[HQ.out];exact aE.out) bf;have a1:w2.cell? ⟨b,aL+i*3+1,none⟩=some _:=later an bp.out;have a2:w2.cell? ⟨b,aL+i*3+2,none⟩=some _:=later an bi.out;have b1:w2.cell? ⟨b',am+i*3+1,none⟩=some _:=later an bj.out;have b2:w2.cell? ⟨b',am+i*3+2,none⟩=some _:=later an bn.out;have a8:b < w2.heap.size:=by have:=an.size;omega
    have aM:b' < w2.heap.size:=by have:=an.size;omega
    by_cases h1:r=0
    rotate_left
    .have ae:R=false:=aQ.out (fun e=>h1 (by rw[<-bm.out,e];exact Kcz _));have e1:(r != 0)=true:=by rw[bne_iff_ne];exact h1
     have e1':decide (r=0)=false:=ja h1;go_upto_region 7 with fail
     refine Kaa (by kernel_rfl) (by kernel_rfl) ?_
     repeat (go_big_quiet_step (fail))
     refine jt ?_;rintro w3 ⟨⟨_,aq⟩,rfl⟩;have az:=Jh (then_ an aq);subst ae;go_wp2_with fail
     go_ret
     exact ⟨rfl,by rw[<-HQ.out];exact az.out⟩
    subst h1;have aU:aa.labels=ab.labels:=Kdg bm.out
    by_cases h2:sn=sn'
    rotate_left
    .have ae:R=false:=aQ.out (fun e=>h2 (by have a:=aX.out.len;have b:=aZ.out.len;rw[e] at a;exact a.symm.trans b));have e2:((sn:Int) != (sn':Int))=true:=by rw[bne_iff_ne];omega
     have e2':(sn != sn')=true:=by rw[bne_iff_ne];exact h2
     go_upto_region 7 with fail
     refine Kaa (by kernel_rfl) (by kernel_rfl) ?_
     repeat (go_big_quiet_step (fail))
     refine jt ?_;rintro w3 ⟨⟨_,aq⟩,rfl⟩;have az:=Jh (then_ an aq);subst ae;go_wp2_with fail
     go_ret
     exact ⟨rfl,by rw[<-HQ.out];exact az.out⟩
    subst h2
    by_cases h3:wn=wn'
    rotate_left
    .have ae:R=false:=aQ.out (fun e=>h3 (by have a:=aW.out.len;have b:=ba.out.len;rw[e] at a;exact a.symm.trans b));have e3:((wn:Int) != (wn':Int))=true:=by rw[bne_iff_ne];omega
     have e3':(wn != wn')=true:=by rw[bne_iff_ne];exact h3
     go_upto_region 7 with fail
     refine Kaa (by kernel_rfl) (by kernel_rfl) ?_
     repeat (go_big_quiet_step (fail))
     refine jt ?_;rintro w3 ⟨⟨_,aq⟩,rfl⟩;have az:=Jh (then_ an aq);subst ae;go_wp2_with fail
     go_ret
     exact ⟨rfl,by rw[<-HQ.out];exact az.out⟩
    subst h3;have aY:=Jh aU;go_upto_region 7 with fail
    refine Kaa (by kernel_rfl) (by kernel_rfl) ?_
    repeat (go_big_quiet_step (fail))
    refine jt ?_;rintro w3 ⟨⟨_,aq⟩,rfl⟩;have az:=Jh (then_ an aq);have a3:=Jh (show Below q w w3 by rw[<-HQ.out];exact az.out);clear aU aq a1 a2 b1 b2 a0 b0 bB bb a8 aM;go_upto_block 2 with fail
    go_cut [] (fun wz=>aa.samples=ab.samples/\Below q w wz)
    case first=>
     go_wp2_with fail
     go_loopg [7] sn (fun g s7 wr=>∃k:Nat,k+g=sn/\s7 = .int .i64 (k:Int)/\(∀j,j < k->aa.samples[j]! = ab.samples[j]!)/\Below q w wr)
     case atStart=>exact ⟨0,by omega,rfl,fun j hj=>by omega,a3.out⟩
     case round=>
      obtain ⟨k,aO,rfl,ak,ap⟩:=hrel;have aB:=Jh aO;have ai:=Jh ak;have ao:=Jh ap;clear aO ak ap;obtain ⟨wk,rfl⟩:=i7 wr;have ad:Below w.heap.size w wk:=by rw[HQ.out];exact ao.out
      have ba1:wk.cell? ⟨b,aL+i*3+1,none⟩=some _:=later ad bp.out;have bb1:wk.cell? ⟨b',am+i*3+1,none⟩=some _:=later ad bj.out;have a7:b < wk.heap.size:=by have:=ad.size;omega
      have aS:b' < wk.heap.size:=by have:=ad.size;omega
      by_cases hk:k < sn
      .have el:decide (k < sn)=true:=by rw[i8];exact hk
       obtain ⟨b1,o1,aR,bE,af⟩:=(aX.out.below ad).get hk;obtain ⟨b2,o2,aG,bf,ag⟩:=(aZ.out.below ad).get hk
       try dsimp only at aR aG
       subst aR aG;obtain ⟨x,hx⟩:∃x,aa.samples[k]! = x:=⟨_,rfl⟩;obtain ⟨y,hy⟩:∃y,ab.samples[k]! = y:=⟨_,rfl⟩;rw[hx] at af;rw[hy] at ag;have bA:wk.cell? ⟨b1,o1+k*2,none⟩=some (.int .i64 x.t):=af 0 _ rfl;have bD:wk.cell? ⟨b1,o1+k*2+1,none⟩=some (.int .u64 (x.v:Int)):=af 1 _ rfl;have bv:wk.cell? ⟨b2,o2+k*2,none⟩=some (.int .i64 y.t):=ag 0 _ rfl;have br:wk.cell? ⟨b2,o2+k*2+1,none⟩=some (.int .u64 (y.v:Int)):=ag 1 _ rfl;have HX:=Jh hx;have HY:=Jh hy;have a4:b1 < wk.heap.size:=by have:=ad.size;omega
       have be:b2 < wk.heap.size:=by have:=ad.size;omega
       have aC:=Qig x y;obtain ⟨dq,aA⟩:=iZ (decide (x=y));rw[aA] at aC;have aT:=Jh aA;clear hx hy af ag aA;go_upto_region 12 with fail
       refine Kaa (by kernel_rfl) (by kernel_rfl) ?_
       repeat (go_big_quiet_step (fail))
       refine jt ?_;rintro w5 ⟨⟨_,aK⟩,rfl⟩;have aN:=Jh (ao.out.trans (aK.mono (by have:=ao.out.size;have:=HQ.out;omega)))
       cases dq with
       | false=>
        have ae:R=false:=aQ.out (fun e=>ji aT.out (by rw[<-HX.out,<-HY.out,e]));subst ae;go_wp2_with fail
        go_ret
        exact ⟨rfl,aN.out⟩
       | true=>
        have ac:∀j,j < k+1->aa.samples[j]! = ab.samples[j]!:=fun j hj=>by
         by_cases hji:j=k
         .subst hji;rw[HX.out,HY.out];exact jh aT.out
         .exact ai.out j (by omega)
        have aj:=Jh ac;clear ac aK;go_wp2_with fail
        go_roundg (gk - 1)
        case measure=>have:=aB.out;omega
        case rel=>exact ⟨k+1,by have:=aB.out;omega,by go_num,aj.out,aN.out⟩
      .have el:decide (k < sn)=false:=by rw[jb];exact hk
       have al:aa.samples=ab.samples:=Klb (by have h1:aa.samples.length=sn:=aX.out.len;have h2:ab.samples.length=sn:=aZ.out.len;omega) (fun j hj=>ai.out j (by have h1:aa.samples.length=sn:=aX.out.len;have:=aB.out;omega));have ax:=Jh al;clear al;go_wp2_with fail
       go_meet
       exact ⟨ax.out,ao.out⟩
    obtain ⟨al,bq⟩:=hcut;obtain ⟨ws9,rfl⟩:=i7 wc;have ax:=Jh al;have a3:=Jh bq;clear al bq;go_wp2_with fail
    go_loopg [8] wn (fun g s8 wr=>∃k:Nat,k+g=wn/\s8 = .int .i64 (k:Int)/\(∀j,j < k->aa.windows[j]! = ab.windows[j]!)/\Below q w wr)
    case atStart=>exact ⟨0,by omega,rfl,fun j hj=>by omega,a3.out⟩
    case round=>
     obtain ⟨k,aO,rfl,ak,ap⟩:=hrel;have aB:=Jh aO;have ai:=Jh ak;have ao:=Jh ap;clear aO ak ap;obtain ⟨wk,rfl⟩:=i7 wr;have ad:Below w.heap.size w wk:=by rw[HQ.out];exact ao.out
     have ba2:wk.cell? ⟨b,aL+i*3+2,none⟩=some _:=later ad bi.out;have bb2:wk.cell? ⟨b',am+i*3+2,none⟩=some _:=later ad bn.out;have a7:b < wk.heap.size:=by have:=ad.size;omega
     have aS:b' < wk.heap.size:=by have:=ad.size;omega
     by_cases hk:k < wn
     .have el:decide (k < wn)=true:=by rw[i8];exact hk
      obtain ⟨b1,o1,aR,bE,af⟩:=(aW.out.below ad).get hk;obtain ⟨b2,o2,aG,bf,ag⟩:=(ba.out.below ad).get hk
      try dsimp only at aR aG
      subst aR aG;obtain ⟨x,hx⟩:∃x,aa.windows[k]! = x:=⟨_,rfl⟩;obtain ⟨y,hy⟩:∃y,ab.windows[k]! = y:=⟨_,rfl⟩;rw[hx] at af;rw[hy] at ag;have bA:wk.cell? ⟨b1,o1+k*6,none⟩=some (.int .i64 x.start):=af 0 _ rfl;have bD:wk.cell? ⟨b1,o1+k*6+1,none⟩=some (.int .i64 x.count):=af 1 _ rfl;have cx2:wk.cell? ⟨b1,o1+k*6+2,none⟩=some (.int .u64 (x.sum:Int)):=af 2 _ rfl;have cx3:wk.cell? ⟨b1,o1+k*6+3,none⟩=some (.int .u64 (x.min:Int)):=af 3 _ rfl;have cx4:wk.cell? ⟨b1,o1+k*6+4,none⟩=some (.int .u64 (x.max:Int)):=af 4 _ rfl;have cx5:wk.cell? ⟨b1,o1+k*6+5,none⟩=some (.int .u64 (x.last:Int)):=af 5 _ rfl;have bv:wk.cell? ⟨b2,o2+k*6,none⟩=some (.int .i64 y.start):=ag 0 _ rfl;have br:wk.cell? ⟨b2,o2+k*6+1,none⟩=some (.int .i64 y.count):=ag 1 _ rfl;have cy2:wk.cell? ⟨b2,o2+k*6+2,none⟩=some (.int .u64 (y.sum:Int)):=ag 2 _ rfl;have cy3:wk.cell? ⟨b2,o2+k*6+3,none⟩=some (.int .u64 (y.min:Int)):=ag 3 _ rfl;have cy4:wk.cell? ⟨b2,o2+k*6+4,none⟩=some (.int .u64 (y.max:Int)):=ag 4 _ rfl;have cy5:wk.cell? ⟨b2,o2+k*6+5,none⟩=some (.int .u64 (y.last:Int)):=ag 5 _ rfl;have HX:=Jh hx;have HY:=Jh hy;have a4:b1 < wk.heap.size:=by have:=ad.size;omega
      have be:b2 < wk.heap.size:=by have:=ad.size;omega
      have aC:=Qim x y;obtain ⟨dq,aA⟩:=iZ (decide (x=y));rw[aA] at aC;have aT:=Jh aA;clear hx hy af ag aA;go_upto_region 17 with fail
      refine Kaa (by kernel_rfl) (by kernel_rfl) ?_
      repeat (go_big_quiet_step (fail))
      refine jt ?_;rintro w5 ⟨⟨_,aK⟩,rfl⟩;have aN:=Jh (ao.out.trans (aK.mono (by have:=ao.out.size;have:=HQ.out;omega)))
      cases dq with
      | false=>
       have ae:R=false:=aQ.out (fun e=>ji aT.out (by rw[<-HX.out,<-HY.out,e]));subst ae;go_wp2_with fail
       go_ret
       exact ⟨rfl,aN.out⟩
      | true=>
       have ac:∀j,j < k+1->aa.windows[j]! = ab.windows[j]!:=fun j hj=>by
        by_cases hji:j=k
        .subst hji;rw[HX.out,HY.out];exact jh aT.out
        .exact ai.out j (by omega)
       have aj:=Jh ac;clear ac aK;go_wp2_with fail
       go_roundg (gk - 1)
       case measure=>have:=aB.out;omega
       case rel=>exact ⟨k+1,by have:=aB.out;omega,by go_num,aj.out,aN.out⟩
     .have el:decide (k < wn)=false:=by rw[jb];exact hk
      have al:aa.windows=ab.windows:=Klb (by have h1:aa.windows.length=wn:=aW.out.len;have h2:ab.windows.length=wn:=ba.out.len;omega) (fun j hj=>ai.out j (by have h1:aa.windows.length=wn:=aW.out.len;have:=aB.out;omega));have bh:=Jh al;clear al
      have al:aa=ab:=by
       cases aa
       cases ab
       have h1:=aY.out;have h2:=ax.out;have h3:=bh.out;dsimp only at h1 h2 h3;rw[h1,h2,h3]
      have ac:∀j,j < i+1->La[j]! = Lb[j]!:=fun j hj=>by
       by_cases hji:j=i
       .subst hji;rw[aJ.out,aI.out,al]
       .exact av.out j (by omega)
      have aj:=Jh ac;clear al ac;go_wp2_with fail
      go_roundg (n - i - 1)
      case measure=>have:=bk.out;omega
      case rel=>exact ⟨i+1,by have:=bk.out;omega,by go_num,aj.out,ao.out⟩
   .have el:decide (i < n)=false:=by rw[jb];exact hi
    have ae:R=true:=by rw[<-HR.out,i8];exact Klb (by have:=aV.out;have:=bg.out;omega) (fun j hj=>av.out j (by have:=aV.out;omega))
    subst ae;go_wp2_with fail
    go_ret
    exact ⟨rfl,aE.out⟩
 .have ae:R=false:=by
   rw[<-HR.out,jb];intro e;apply hnm;rw[<-aV.out,<-bg.out,e]
  have el:((n:Int) != (m:Int))=true:=by rw[bne_iff_ne];omega
  have el2:(n != m)=true:=by rw[bne_iff_ne];omega
  subst ae;go_enter func25,ntmps25
  go_wp2_with fail
  go_ret
  exact ⟨rfl,Below.refl _ _⟩
end
section
open Go.RowKit
attribute [local go_sem ↓] Go.wp_at_zero Go.wp_at_succ
attribute [local go_sem] Later.cell
theorem Khz:(prog.info? 133).map (fun i=>(i.zero,i.size,i.bytes))=some (some (.agg #[.int .i64 0,.int .u64 0]),2,16):=by kernel_rfl
theorem Kia:(prog.info? 136).map (fun i=>(i.zero,i.size,i.bytes))=some (some (.agg #[.int .i64 0,.int .i64 0,.int .u64 0,.int .u64 0,.int .u64 0,.int .u64 0]),6,48):=by kernel_rfl
theorem Khy:(prog.info? 132).map (fun i=>(i.zero,i.size,i.bytes))=some (some (.agg #[.slice none 0 0,.slice none 0 0,.slice none 0 0]),3,72):=by kernel_rfl
structure RSer (B:Nat) (w:World) (h:Hd3) (x:Ser):Prop where
 l:w.ownsRow B 180 2 (.slice h.l.A h.l.n h.l.c) x.labels.length (x.labels.flatMap encLb)
 s:w.ownsRow B 133 2 (.slice h.s.A h.s.n h.s.c) x.samples.length (x.samples.flatMap Kac)
 w:w.ownsRow B 136 6 (.slice h.w.A h.w.n h.w.c) x.windows.length (x.windows.flatMap Kad)
theorem Kbc {w w':World} {B n sz:Nat} {T:TypeId} {v:Value} {xs:List Value} (h:w.ownsRow B T sz v n xs) (hb:Below w.heap.size w w'):w'.ownsRow B T sz v n xs:=
 Qgi h fun g hg=>hb.block g (h.lt g hg).2
theorem RSer.below {w w':World} {B:Nat} {h:Hd3} {x:Ser} (hs:RSer B w h x) (hb:Below w.heap.size w w'):RSer B w' h x:=⟨Kbc hs.l hb,Kbc hs.s hb,Kbc hs.w hb⟩
theorem RSer.mono {w:World} {B B':Nat} {h:Hd3} {x:Ser} (hs:RSer B w h x) (hb:B'<=B):RSer B' w h x:=⟨jp hs.l hb,jp hs.s hb,jp hs.w hb⟩
theorem RSer.grown {w w':World} {B B' n:Nat} {v:Value} {xs:List Value} {h:Hd3} {x:Ser} (hs:RSer B w h x) (hv:w.ownsRow B' 132 3 v n xs) (hg:w.grownBy w' v.ownBlock):RSer B w' h x:=
 ⟨hs.l.kept hg (Kav hs.l hv (by decide)),hs.s.kept hg (Kav hs.s hv (by decide)),hs.w.kept hg (Kav hs.w hv (by decide))⟩
structure SrfAt (q:Nat) (wo:World) (p:Nat) (hl:Hd) (l:List Lb) (vs vw:Value) (xs:List Smp) (ys:List Wnd) (wr:World):Prop where
 b:Blk wr p 132 #[.slice hl.A hl.n hl.c,vs,vw]
 l:wr.ownsRow q 180 2 (.slice hl.A hl.n hl.c) l.length (l.flatMap encLb)
 s:wr.ownsRow q 133 2 vs xs.length (xs.flatMap Kac)
 w:wr.ownsRow q 136 6 vw ys.length (ys.flatMap Kad)
 be:Below q wo wr
 qp:q<=p
end
end Go.Proofs.YtdoiekknhnbepaaGreatDoor
