/- Merged (what the claim wants of): DskWalksX, DskInv, DskWalksY, RdkWalksC, RdkWalksL, DskWalksZ, DskList, DskListA, DskLaw, DskStep, DskPower, DskTwo, DskRun. -/
import Derived.Test.YtefpndiiedkmpaaGreatDoorKpw13
import Derived.Test.YtefpndiiedkmpaaGreatDoorKpw11
import Derived.Test.YtefpndiiedkmpaaGreatDoorKpw03
import Derived.Laws.OwnMore
import Derived.Deep.AppendLies
import Derived.Deep.Onto
import Derived.Sort.Walk0
import Derived.Deep.RegionHeldLaw
import Derived.Laws.AppendOwnNone
set_option linter.unusedVariables false
set_option linter.unusedSimpArgs false
set_option maxRecDepth 100000
set_option maxHeartbeats 8000000
namespace Go.Proofs.YtefpndiiedkmpaaGreatDoor
section
open Go.RowKit Go.Shelf Go.Maps Go.Sort
open Lib renaming hid → Jh
attribute [local go_sem ↓] Go.wp_at_zero Go.wp_at_succ
attribute [local go_sem] Later.cell
theorem Qfs {l:List Ch} {i:Nat} (h:i < l.length):units (l.take (i+1))=units (l.take i)+(l[i]!.text.length+if l[i]!.cut then 1 else 0):=by
 have e:l.take (i+1)=l.take i ++ [l[i]!]:=by rw[List.take_add_one,List.getElem?_eq_getElem h,getElem!_pos l i h];rfl
 rw[e];unfold units;simp
theorem Kln (l:List Ch) (i:Nat):units (l.take i)≤units l:=by
 unfold units
 conv=>rhs;rw[←List.take_append_drop i l]
 rw[List.map_append,List.sum_append];omega
def Chs (w:World) (A:Option Addr) (n:Nat) (l:List Ch):Prop:=Elems w w.heap.size 2 encC A n l
theorem Chs.at_ {w:World} {A:Option Addr} {n:Nat} {l:List Ch} (h:Chs w A n l) {i:Nat} (hi:i < n):∃b off,A=some ⟨b,off,none⟩∧b < w.heap.size∧w.cell? ⟨b,off+i*2,none⟩=some (txtV l[i]!.text)∧w.cell? ⟨b,off+i*2+1,none⟩=some (.int .i64 (if l[i]!.cut then (l[i]!.size:Int) else -1)):=by
 obtain ⟨b,off,e,hb,hc⟩:=h.2 (by omega);have hl:i < l.length:=by have:l.length=n:=Elems.len h;omega
 have hx:=hc i l[i]! (by rw[getElem!_pos l i hl,List.getElem?_eq_getElem hl]);exact ⟨b,off,e,hb,by simpa using hx 0 _ rfl,by simpa using hx 1 _ rfl⟩
theorem Chs.of_own {w:World} {base:Nat} {v:Value} {n:Nat} {l:List Ch} (h:w.ownsRow base 213 2 v n (l.flatMap encC)) (hn:l.length=n):∃A c,v = .slice A n c∧Chs w A n l∧(∀a,A=some a→base≤a.block)∧n≤c:=
 Elems.of_own (enc:=encC) (xs:=l) (fun _ _=>rfl) rfl h hn
theorem Knu:∀m:Nat,Lib.repeatL ([0]:Txt) m=List.replicate m 0
 | 0=>rfl
 | m+1=>by rw[Lib.repeatL,Knu m];rfl
theorem Kyp (m:Nat) (hm:m≤140737488355328) (w:World):Calls Tryz.prog 129 #[.string ⟨#[0]⟩,.int .i64 (m:Int)] w fun e w'=>e = .returned (.string ⟨(List.replicate m (0:UInt8)).toArray⟩)∧Below w.heap.size w w':=by
 rcases Nat.lt_or_ge m 2 with h | h
 ·rcases (by omega:m=0∨m=1) with rfl | rfl
  ·refine (Tryz.strings_Repeat_zero ⟨#[0]⟩ w).mono ?_;rintro _ w1 ⟨rfl,rfl⟩;exact ⟨rfl,Below.refl _ _⟩
  ·refine (Tryz.strings_Repeat_one ⟨#[0]⟩ w).mono ?_;rintro _ w1 ⟨rfl,rfl⟩;exact ⟨rfl,Below.refl _ _⟩
 ·have:=Tryz.strings_Repeat_main ⟨#[0]⟩ m w h (by omega) (by show 1*m≤_;omega) (by decide);have e:Lib.repeatL (⟨#[0]⟩:ByteArray).data.toList m=List.replicate m 0:=Knu m;rw[e] at this;exact this
def Kmv (b:Nat) (f:By) (w:World) (e:Ending) (w':World):Prop:=
 e = .returned (.tuple #[])∧Blk w' b 137 #[txtV f.now,txtV f.safe,.slice none 0 0]∧Own (two b b) (two b b) w w'
theorem Ktq {b:Nat} {T X:ByteArray} {s:Value} {w wr:World} (hb:Blk wr b 137 #[.string T,.string X,s]) (ho:Own (two b b) (two b b) w wr) (o:Obj) (N:ByteArray) :
  Blk ((wr.setCell ⟨b,0,none⟩ (.string N)).alloc o).drew b 137 #[.string N,.string X,s]∧Own (two b b) (two b b) w ((wr.setCell ⟨b,0,none⟩ (.string N)).alloc o).drew:=
 ⟨(hb.set_ 0 (.string N)).alloc o,ho.trans ((Own.of_set _ (two_l b b)).trans ((Own.of_alloc _).trans (Own.of_below (Below.refl _ _).drew)))⟩
theorem Qek {b:Nat} {T X:ByteArray} {s:Value} {w wr:World} (hb:Blk wr b 137 #[.string T,.string X,s]) (ho:Own (two b b) (two b b) w wr) (o:Obj) :
  Blk (wr.alloc o) b 137 #[.string T,.string X,s]∧Own (two b b) (two b b) w (wr.alloc o):=
 ⟨hb.alloc o,ho.trans (Own.of_alloc _)⟩
theorem Qej (b:Nat) (f:By) (v:Value) (wish:Int) (zeros:Bool) (w:World) (hblk:Blk w b 137 #[txtV f.now,txtV f.safe,v]) (hrow:w.ownsRow 0 213 2 v f.steps.length (f.steps.flatMap encC)) (hvb:v.ownBlock≠some b)
  (h1:-9223372036854775808≤wish) (h2:wish≤9223372036854775807) (M:Nat) (hM:M≤1073741824) (hok:Kbu M f.steps f.safe.length) (hsf:f.safe.length≤M) (hun:units f.steps≤140737488355328) (hsl:f.steps.length≤1073741824) :
  Calls Tryz.prog 75 #[.pointer (some ⟨b,0,none⟩),.int .i64 wish,.bool zeros] w (Kmv b (keepF f wish zeros) w):=by
 obtain ⟨A,c,rfl,hch,hbase,hnc⟩:=Chs.of_own hrow rfl;obtain ⟨n,hn⟩:∃n,f.steps.length=n:=⟨_,rfl⟩;rw[hn] at hch hblk hnc hsl;have c2:w.cell? ⟨b,2,none⟩=some (.slice A n c):=hblk.cell 2;have HBLK:=Jh hblk;have HROW:=Jh hrow;have HN:=Jh hn;have HCH:=Jh hch;clear hblk hrow hn hch hbase;go_enter Tryz.func75,Tryz.ntmps75
 go_upto_block 0 with fail
 go_cut [6] (fun s6 wz=>s6 = .int .i64 (units f.steps:Int)∧Below w.heap.size w wz)
 case first=>
  go_wp2_with fail
  go_loopg [6,20] n (fun g s6 s20 wr=>∃i:Nat,i+g=n∧s20 = .int .i64 (i:Int)∧s6 = .int .i64 (units (f.steps.take i):Int)∧Below w.heap.size w wr)
  case atStart=>exact ⟨0,by omega,rfl,rfl,Below.refl _ _⟩
  case round=>
   obtain ⟨i,hig,rfl,rfl,hB⟩:=hrel;have hut:=Kln f.steps i
   by_cases hi:i < n
   ·have el:decide ((i:Int) < (n:Int))=true:=by simp;omega
    have el':decide (i < n)=true:=by simp;omega
    obtain ⟨bb,off,rfl,hbl,k0,k1⟩:=HCH.out.at_ hi;have m0:=(hB.cell (p:=⟨bb,off+i*2,none⟩) hbl).trans k0;have m1:=(hB.cell (p:=⟨bb,off+i*2+1,none⟩) hbl).trans k1;have hu1:=Qfs (l:=f.steps) (i:=i) (by rw[HN.out];exact hi);have hut1:=Kln f.steps (i+1);obtain ⟨ch,hch⟩:∃x,f.steps[i]! = x:=⟨_,rfl⟩;rw[hch] at m0 m1 hu1;obtain ⟨T,hT⟩:∃T:ByteArray,(⟨ch.text.toArray⟩:ByteArray)=T:=⟨_,rfl⟩;have hTs:ch.text.length=T.size:=by rw[←hT];rfl
    unfold txtV at m0;rw[hT] at m0;rw[hTs] at hu1;obtain ⟨u,hu⟩:∃u,units (f.steps.take i)=u:=⟨_,rfl⟩;rw[hu] at hu1 hut ⊢;have HU1:=Jh hu1
    cases hcut:ch.cut with
    | true=>
     rw[hcut] at m1 hu1;simp only[if_true] at m1 hu1;have e2:decide ((0:Int)≤(ch.size:Int))=true:=by simp
     clear k0 k1 hch hT hTs hu;go_wp2_with fail
     go_roundg (gk - 1)
     case measure=>omega
     case rel=>exact ⟨i+1,by omega,by simp,by rw[HU1.out,hcut];simp;omega,hB.alloc hB.size _⟩
    | false=>
     rw[hcut] at m1 hu1;simp only[Bool.false_eq_true,if_false] at m1 hu1;clear k0 k1 hch hT hTs hu;go_wp2_with fail
     go_roundg (gk - 1)
     case measure=>omega
     case rel=>exact ⟨i+1,by omega,by simp,by rw[HU1.out,hcut];simp,hB.alloc hB.size _⟩
   ·have el:decide ((i:Int) < (n:Int))=false:=by simp;omega
    have el':decide (i < n)=false:=by simp;omega
    obtain rfl:i=n:=by omega
    have hall:units (f.steps.take i)=units f.steps:=by rw[←HN.out,List.take_length]
    rw[hall];have HB:=Jh hB;clear hall hut hB;go_wp2_with fail
    go_meet
    exact ⟨rfl,HB.out⟩
 case rest=>
  obtain ⟨rfl,hB⟩:=hcut;obtain ⟨U,hU⟩:∃U,units f.steps=U:=⟨_,rfl⟩;rw[hU] at hun ⊢;have HU:=Jh hU;have HSH:=Jh (Knw wish U · h1 h2 (by omega));have hle:=Kmn wish U;obtain ⟨L,hL⟩:∃L,Kct wish U=L:=⟨_,rfl⟩;rw[hL] at HSH hle;have HL:=Jh hL;obtain ⟨X,hX⟩:∃X:ByteArray,(⟨f.safe.toArray⟩:ByteArray)=X:=⟨_,rfl⟩;obtain ⟨Y,hY⟩:∃Y:ByteArray,(⟨f.now.toArray⟩:ByteArray)=Y:=⟨_,rfl⟩;have HX:=Jh hX
  have hb2:Blk wc b 137 #[.string Y,.string X,.slice A n c]:=by
   have:=HBLK.out.below hB HBLK.out.lt;unfold txtV at this;rw[hX,hY] at this;exact this
  have m0:wc.cell? ⟨b,0,none⟩=some (.string Y):=hb2.cell 0;have m1:wc.cell? ⟨b,1,none⟩=some (.string X):=hb2.cell 1;have m2:wc.cell? ⟨b,2,none⟩=some (.slice A n c):=hb2.cell 2;have g0:=hb2.frozen 0;have HB2:=Jh hb2;clear hU hL hX hY c2 hb2;go_wp2_with fail
  refine (HSH.out _).mono ?_;rintro _ w3 ⟨rfl,rfl⟩;go_upto_block 2 with fail
  have hb3:Blk (wc.setCell ⟨b,0,none⟩ (.string X)) b 137 #[.string X,.string X,.slice A n c]:=HB2.out.set_ 0 _;have hO3:Own (two b b) (two b b) w (wc.setCell ⟨b,0,none⟩ (.string X)):=(Own.of_below hB).trans (Own.of_set _ (two_l b b));obtain ⟨w4,hw4⟩:∃x,wc.setCell ⟨b,0,none⟩ (.string X)=x:=⟨_,rfl⟩;rw[hw4] at hb3 hO3 ⊢;obtain ⟨RES,hRES⟩:∃r,keepL f.steps f.safe L zeros=r:=⟨_,rfl⟩;have HRES:=Jh hRES;have hXl:X.data.toList=f.safe:=by rw[←HX.out]
  have HXL:=Jh hXl;have hXz:X.size≤M:=by rw[←Kas,hXl];exact hsf
  have HOK:=Jh hok;clear hw4 m0 m1 m2 g0 hRES hXl hok hB;go_cut [7,10] (fun s7 s10 wz=>∃(cuts left:Nat) (T:ByteArray),s7 = .int .i64 (cuts:Int)∧s10 = .int .i64 (left:Int)∧Blk wz b 137 #[.string T,.string X,.slice A n c]∧Own (two b b) (two b b) w wz∧RES=(T.data.toList,left,zeros && decide (cuts=0))∧T.size+left≤X.size+L∧cuts≤n)
  case first=>
   go_wp2_with fail
   go_loopg [7,10,53] n (fun g s7 s10 s53 wz=>∃(i cuts left:Nat) (T:ByteArray),i+g=n∧s53 = .int .i64 (i:Int)∧s7 = .int .i64 (cuts:Int)∧s10 = .int .i64 (left:Int)∧Blk wz b 137 #[.string T,.string X,.slice A n c]∧Own (two b b) (two b b) w wz∧RES=keepL (f.steps.drop i) T.data.toList left (zeros && decide (cuts=0))∧(0 < left→Kbu M (f.steps.drop i) T.size)∧T.size+left≤X.size+L∧cuts≤i)
   case atStart=>exact ⟨0,0,L,X,by omega,rfl,rfl,rfl,hb3,hO3,by rw[List.drop_zero,HXL.out,←HRES.out];simp,fun _=>by rw[List.drop_zero,←Kas,HXL.out];exact HOK.out,Nat.le_refl _,Nat.le_refl _⟩
   case round=>
    obtain ⟨i,cuts,left,T,hig,rfl,rfl,rfl,hbr,hOr,hres,hsok,hsum,hci⟩:=hrel
    by_cases hi:i < n
    ·have el:decide ((i:Int) < (n:Int))=true:=by simp;omega
     have el':decide (i < n)=true:=by simp;omega
     obtain ⟨bb,off,hA,hbl,k0,k1⟩:=HCH.out.at_ hi;have hbb:bb≠b:=fun e=>hvb (by rw[hA,e];rfl)
     have m0:=Kcw hOr k0 (Kdo hbb hbb);have m1:=Kcw hOr k1 (Kdo hbb hbb);subst hA
     have hdr:f.steps.drop i=f.steps[i]! :: f.steps.drop (i+1):=by
      have hl:i < f.steps.length:=by rw[HN.out];exact hi
      rw[List.drop_eq_getElem_cons hl,getElem!_pos f.steps i hl]
     obtain ⟨ch,hch⟩:∃x,f.steps[i]! = x:=⟨_,rfl⟩;rw[hch] at m0 m1 hdr;obtain ⟨T2,hT⟩:∃T:ByteArray,(⟨ch.text.toArray⟩:ByteArray)=T:=⟨_,rfl⟩;have hT2:ch.text=T2.data.toList:=by rw[←hT]
     have hTs:ch.text.length=T2.size:=by rw[hT2];rfl
     unfold txtV at m0;rw[hT] at m0;rw[hdr] at hres hsok;have hb0:wr.cell? ⟨b,0,none⟩=some (.string T):=hbr.cell 0;have g0:=hbr.frozen 0;have hbz:=hbr.lt;have HBR:=Jh hbr;have HOR:=Jh hOr;have HSOK:=Jh hsok;have HRS:=Jh hres;have HDR:=Jh hdr;have HT2:=Jh hT2;clear k0 k1 hch hT hT2 hdr hbr hOr hsok hres
     cases hcut:ch.cut with
     | false=>
      rw[hcut] at m1;simp only[Bool.false_eq_true,if_false] at m1;obtain ⟨mm,hmm⟩:∃mm,min left T2.size=mm:=⟨_,rfl⟩;have hmi:min (left:Int) (T2.size:Int)=(mm:Int):=by omega
      have hmz:mm≤T2.size:=by omega
      have hml:mm≤left:=by omega
      go_upto_region 17 with fail
      go_region
      obtain ⟨kb,ko⟩:=Ktq HBR.out HOR.out (.cells #[.string T2,.int .i64 (-1)] 213) (T++T2.extract 0 mm);have hNl:(T++T2.extract 0 mm).data.toList=T.data.toList++T2.data.toList.take mm:=by rw[←Kjl];simp
      have hNs:(T++T2.extract 0 mm).size=T.size+mm:=by rw[←Kas,hNl,List.length_append,List.length_take,Kas,Kas];omega
      have hres2:RES=keepL (f.steps.drop (i+1)) (T++T2.extract 0 mm).data.toList (left - mm) (zeros && decide (cuts=0)):=by
       rw[HRS.out,keepL,hcut];simp only[Bool.false_eq_true,if_false];rw[HT2.out,Kas,hmm,hNl]
      have hsok2:0 < left - mm→Kbu M (f.steps.drop (i+1)) (T++T2.extract 0 mm).size:=by
       intro hp;have h3:=HSOK.out (by omega);unfold Kbu at h3;rw[hcut] at h3;simp only[Bool.false_eq_true,if_false] at h3;rw[hNs,show mm=T2.size by omega];rw[hTs] at h3;exact h3.2
      obtain ⟨N,hN⟩:∃N,T++T2.extract 0 mm=N:=⟨_,rfl⟩;rw[hN] at kb ko hNs hres2 hsok2 ⊢;obtain ⟨w5,hw5⟩:∃x,((wr.setCell ⟨b,0,none⟩ (.string N)).alloc (.cells #[.string T2,.int .i64 (-1)] 213)).drew=x:=⟨_,rfl⟩;rw[hw5] at kb ko ⊢;have HKB:=Jh kb;have HKO:=Jh ko;have HR2:=Jh hres2;have HS2:=Jh hsok2;clear kb ko hres2 hsok2 hN hw5 hNl m0 m1 hb0 g0 hbz;go_wp2_with fail
      go_roundg (gk - 1)
      case measure=>omega
      case rel=>exact ⟨i+1,cuts,left - mm,N,by omega,by go_num,rfl,by go_num,HKB.out,HKO.out,HR2.out,HS2.out,by omega,by omega⟩
     | true=>
      rw[hcut] at m1;simp only[if_true] at m1;have e0:decide ((ch.size:Int) < 0)=false:=by simp
      by_cases hlp:0 < left
      ·have e1:decide ((0:Int) < (left:Int))=true:=by simpa using hlp
       have e1':decide (0 < left)=true:=by simpa using hlp
       have h3:=HSOK.out hlp;unfold Kbu at h3;rw[hcut] at h3;simp only[if_true] at h3;obtain ⟨hcs,hs3⟩:=h3;have HS3:=Jh hs3;obtain ⟨z,hz⟩:∃z,ch.size=z:=⟨_,rfl⟩;rw[hz] at m1 e0 hcs;have HZ:=Jh hz;clear hs3 hz;go_upto_region 20 with fail
       go_region
       obtain ⟨kb,ko⟩:=Ktq HBR.out HOR.out (.cells #[.string T2,.int .i64 (z:Int)] 213) (T.extract 0 z);have hNl:(T.extract 0 z).data.toList=T.data.toList.take z:=Kjl T z;have hNs:(T.extract 0 z).size=z:=by rw[←Kas,hNl,List.length_take,Kas];omega
       have hres2:RES=keepL (f.steps.drop (i+1)) (T.extract 0 z).data.toList (left - 1) (zeros && decide (cuts=0)):=by
        rw[HRS.out,keepL,hcut];simp only[if_true];rw[if_pos hlp,HZ.out,hNl]
       have hsok2:0 < left - 1→Kbu M (f.steps.drop (i+1)) (T.extract 0 z).size:=by
        intro _;rw[hNs,←HZ.out];exact HS3.out
       obtain ⟨N,hN⟩:∃N,T.extract 0 z=N:=⟨_,rfl⟩;rw[hN] at kb ko hNs hres2 hsok2 ⊢;obtain ⟨w5,hw5⟩:∃x,((wr.setCell ⟨b,0,none⟩ (.string N)).alloc (.cells #[.string T2,.int .i64 (z:Int)] 213)).drew=x:=⟨_,rfl⟩;rw[hw5] at kb ko ⊢;have HKB:=Jh kb;have HKO:=Jh ko;have HR2:=Jh hres2;have HS2:=Jh hsok2;clear kb ko hres2 hsok2 hN hw5 hNl m0 m1 hb0 g0 hbz;go_wp2_with fail
       go_roundg (gk - 1)
       case measure=>omega
       case rel=>exact ⟨i+1,cuts,left - 1,N,by omega,by go_num,rfl,by go_num,HKB.out,HKO.out,HR2.out,HS2.out,by omega,by omega⟩
      ·have e1:decide ((0:Int) < (left:Int))=false:=by simpa using hlp
       have e1':decide (0 < left)=false:=by simpa using hlp
       obtain ⟨z,hz⟩:∃z,ch.size=z:=⟨_,rfl⟩;rw[hz] at m1 e0;obtain ⟨kb,ko⟩:=Qek HBR.out HOR.out (.cells #[.string T2,.int .i64 (z:Int)] 213)
       have hres2:RES=keepL (f.steps.drop (i+1)) T.data.toList left (zeros && decide (cuts+1=0)):=by
        rw[HRS.out,keepL,hcut];simp only[if_true];rw[if_neg hlp];simp
       have HKB:=Jh kb;have HKO:=Jh ko;have HR2:=Jh hres2;clear kb ko hres2 hz;go_wp2_with fail
       go_roundg (gk - 1)
       case measure=>omega
       case rel=>exact ⟨i+1,cuts+1,left,T,by omega,by go_num,by go_num,rfl,HKB.out,HKO.out,HR2.out,fun h=>absurd h hlp,by omega,by omega⟩
    ·have el:decide ((i:Int) < (n:Int))=false:=by simp;omega
     have el':decide (i < n)=false:=by simp;omega
     have hin:i=n:=by omega
     have hfin:RES=(T.data.toList,left,zeros && decide (cuts=0)):=by
      rw[hres,List.drop_eq_nil_of_le (by rw[HN.out];omega),keepL]
     have HBR:=Jh hbr;have HOR:=Jh hOr;have HFI:=Jh hfin;clear hbr hOr hfin hres hsok;go_wp2_with fail
     go_meet
     exact ⟨cuts,left,T,rfl,rfl,HBR.out,HOR.out,HFI.out,hsum,by omega⟩
  case rest=>
   obtain ⟨cuts,left,T,rfl,rfl,hb5,hO5,hres,hsum,hcn⟩:=hcut
   have hkf:keepF f wish zeros=(if (zeros && decide (cuts=0))=true then ⟨T.data.toList++List.replicate (U - L) 0,T.data.toList++List.replicate (U - L) 0,[]⟩ else ⟨T.data.toList,T.data.toList,[]⟩):=by
    unfold keepF;simp only[];rw[HU.out,HL.out,HRES.out,hres];simp only[]
    split <;> rfl
   have HKF:=Jh hkf;have HB5:=Jh hb5;have HO5:=Jh hO5;have m0:wc.cell? ⟨b,0,none⟩=some (.string T):=hb5.cell 0;have m1:wc.cell? ⟨b,1,none⟩=some (.string X):=hb5.cell 1;have m2:wc.cell? ⟨b,2,none⟩=some (.slice A n c):=hb5.cell 2;have g0:=hb5.frozen 0;have g1:=hb5.frozen 1;have g2:=hb5.frozen 2;have hbl:=hb5.lt;have hTv:txtV T.data.toList = .string T:=by unfold txtV;rw[←Kcs rfl]
   have HTV:=Jh hTv;clear hkf hb5 hO5 hres hTv;obtain ⟨m,hm⟩:∃m:Nat,(U:Int) - (L:Int)=(m:Int):=⟨U - L,by omega⟩;have hm2:m=U - L:=by omega
   have HM2:=Jh hm2;clear hm2
   by_cases hz:(zeros && decide (cuts=0))=true
   ·have hz1:zeros=true:=by simp at hz;exact hz.1
    have hz2:cuts=0:=by simp at hz;exact hz.2
    have hkf2:=HKF.out;rw[if_pos hz] at hkf2;have HKF2:=Jh hkf2;have HRP:=Jh (Kyp m (by have:=HM2.out;omega));subst hz1 hz2
    have hcat:txtV (T.data.toList++List.replicate (U - L) 0) = .string (T++⟨(List.replicate m (0:UInt8)).toArray⟩):=by
     unfold txtV;rw[←HM2.out];exact congrArg _ (Kcs (by simp)).symm
    have HCAT:=Jh hcat;clear hkf2 hz hcat HKF;go_upto_region 24 with fail
    (try rw[hm])
    refine Kag 9 (by kernel_rfl) (by kernel_rfl) ?_;simp only[List.take_succ_cons,List.take_zero,List.drop_succ_cons,List.drop_zero]
    repeat (go_big_quiet_step ((go_at_call 129;exact Kbe _ (HRP.out _))))
    refine wpQuiet_nil ?_;rintro w2 ⟨⟨_,hb2⟩,rfl⟩;have hbs:=HB5.out.below hb2 HB5.out.lt;have hOs:=HO5.out.trans (Own.of_below hb2);have k0:w2.cell? ⟨b,0,none⟩=some (.string T):=hbs.cell 0;have k1:w2.cell? ⟨b,1,none⟩=some (.string X):=hbs.cell 1;have k2:w2.cell? ⟨b,2,none⟩=some (.slice A n c):=hbs.cell 2;have f0:=hbs.frozen 0;have f1:=hbs.frozen 1;have f2:=hbs.frozen 2;have hbl2:=hbs.lt
    have hfin:Kmv b (keepF f wish true) w (.returned (.tuple #[])) (((w2.setCell ⟨b,0,none⟩ (.string (T++⟨(List.replicate m (0:UInt8)).toArray⟩))).setCell ⟨b,1,none⟩ (.string (T++⟨(List.replicate m (0:UInt8)).toArray⟩))).setCell ⟨b,2,none⟩ (.slice none 0 0)):=by
     refine ⟨rfl,?_,((hOs.trans (Own.of_set _ (two_l b b))).trans (Own.of_set _ (two_l b b))).trans (Own.of_set _ (two_l b b))⟩;rw[HKF2.out];simp only[];rw[HCAT.out];exact ((hbs.set_ 0 _).set_ 1 _).set_ 2 _
    have HFIN:=Jh hfin;clear hfin hOs hbs m0 m1 m2 g0 g1 g2 hbl hb2;go_wp2_with fail
    go_end0
    exact HFIN.out
   ·have hkf2:=HKF.out;rw[if_neg hz] at hkf2;have HKF2:=Jh hkf2;have hzz:(zeros && decide (cuts=0))=false:=by simpa using hz
    have hbs:=HB5.out;have hOs:=HO5.out
    have hfin:Kmv b (keepF f wish zeros) w (.returned (.tuple #[])) ((wc.setCell ⟨b,1,none⟩ (.string T)).setCell ⟨b,2,none⟩ (.slice none 0 0)):=by
     refine ⟨rfl,?_,(hOs.trans (Own.of_set _ (two_l b b))).trans (Own.of_set _ (two_l b b))⟩;rw[HKF2.out];simp only[];rw[HTV.out];exact (hbs.set_ 1 _).set_ 2 _
    have HFIN:=Jh hfin
    cases zeros with
    | false=>
     clear hfin hkf2 hz hzz hbs hOs HKF;go_wp2_with fail
     go_end0
     exact HFIN.out
    | true=>
     have hc0:cuts≠0:=by simpa using hz
     have d1:((cuts:Int) == 0)=false:=by rw[beq_eq_false_iff_ne];omega
     have d2:(cuts == 0)=false:=by simpa using hc0
     clear hfin hkf2 hz hzz hbs hOs HKF hc0;go_wp2_with fail
     go_end0
     exact HFIN.out
end
section
def Chain (n:Nat):List Th→List St→Prop
 | _,[]=>True
 | l,s :: r=>StOk n l s∧Chain n (Kad l s) r
theorem Chain.append {n:Nat}:∀{l:List Th} {r:List St} {s:St},Chain n l r→StOk n (r.foldl Kad l) s→Chain n l (r ++ [s])
 | _,[],_,_,h=>⟨h,trivial⟩
 | _,_ :: _,_,h,k=>⟨h.1,Chain.append h.2 k⟩
theorem StOk.more {n m:Nat} {l:List Th} {s:St} (h:StOk n l s) (hm:n≤m):StOk m l s:=by
 cases s with
 | mkdir a=>exact h
 | create a i=>exact ⟨h.1,h.2.1,h.2.2.1,by have:=h.2.2.2.1;omega,h.2.2.2.2⟩
 | remove a=>exact h
 | rename a b=>exact h
theorem Chain.more {n m:Nat} (hm:n≤m):∀{l:List Th} {r:List St},Chain n l r→Chain m l r
 | _,[],_=>trivial
 | _,_ :: _,h=>⟨h.1.more hm,Chain.more hm h.2⟩
theorem TW.more {n m:Nat} {l:List Th} (h:TW n l) (hm:n≤m):TW m l:=⟨h.nodup,h.dirs,h.paths,h.par,fun x hx hd=>by have:=h.ats x hx hd;omega,h.inj⟩
theorem Chain.tw {n:Nat}:∀{l:List Th} {r:List St},TW n l→Chain n l r→TW n (r.foldl Kad l)
 | _,[],h,_=>h
 | l,s :: r,h,k=>by rw[List.foldl_cons];exact Chain.tw (h.apply k.1) k.2
theorem Chain.take {n:Nat}:∀{l:List Th} {r:List St} (i:Nat),Chain n l r→Chain n l (r.take i)
 | _,_,0,_=>trivial
 | _,[],_+1,_=>trivial
 | _,_ :: _,i+1,h=>⟨h.1,Chain.take i h.2⟩
theorem Chain.at_ {n:Nat}:∀{l:List Th} {r:List St} {i:Nat} {s:St},Chain n l r→r[i]? = some s→StOk n ((r.take i).foldl Kad l) s
 | _,_ :: _,0,_,h,e=>by simp at e;subst e;exact h.1
 | _,_ :: _,_+1,_,h,e=>by simpa using Chain.at_ h.2 (by simpa using e)
theorem Qdh (l:List Th) (s:St):(Kad l s).length≤l.length+1:=by
 cases s with
 | mkdir a=>simp[Kad]
 | create a i=>simp[Kad]
 | remove a=>simp only[Kad];exact Nat.le_succ_of_le (List.length_filter_le _ _)
 | rename a b=>simp only[Kad,List.length_map];exact Nat.le_succ_of_le (List.length_filter_le _ _)
theorem Kgv:∀(r:List St) (l:List Th),(r.foldl Kad l).length≤l.length+r.length
 | [],_=>Nat.le_refl _
 | s :: r,l=>by
  have h1:=Kgv r (Kad l s);have h2:=Qdh l s;simp only[List.foldl_cons,List.length_cons];omega
theorem Qdy {r:List St} {i:Nat} {s:St} {l:List Th} (h:r[i]? = some s):(r.take (i+1)).foldl Kad l=Kad ((r.take i).foldl Kad l) s:=by
 rw[List.take_add_one,h,List.foldl_append];rfl
def lenOf:List Ch→Nat→Nat
 | [],n=>n
 | c :: r,n=>lenOf r (if c.cut then c.size else n+c.text.length)
theorem Kmd:∀(r:List Ch) (c:Ch) (n:Nat),lenOf (r ++ [c]) n=if c.cut then c.size else lenOf r n+c.text.length
 | [],c,n=>rfl
 | x :: r,c,n=>by rw[List.cons_append,lenOf,Kmd r c];rfl
theorem Kzm (r:List Ch) (c:Ch):units (r ++ [c])=units r+(c.text.length+if c.cut then 1 else 0):=by
 unfold units;simp
theorem Qfr (r:List Ch) (c:Ch):units (c :: r)=(c.text.length+if c.cut then 1 else 0)+units r:=by
 unfold units;simp
theorem Kpe {M:Nat}:∀(r:List Ch) (n:Nat),Kbu M r n→lenOf r n≤n+units r
 | [],n,_=>by simp[lenOf]
 | c :: r,n,h=>by
  rw[lenOf,Qfr];unfold Kbu at h
  cases hc:c.cut with
  | true=>
   rw[hc] at h;simp only[if_true] at h ⊢;have:=Kpe r c.size h.2;omega
  | false=>
   rw[hc] at h;simp only[Bool.false_eq_true,if_false] at h ⊢;have:=Kpe r _ h.2;omega
theorem Kbu.more {M M':Nat} (hM:M≤M'):∀{r:List Ch} {n:Nat},Kbu M r n→Kbu M' r n
 | [],_,_=>trivial
 | c :: r,n,h=>by
  unfold Kbu at h ⊢
  split
  ·rename_i hc
   rw[if_pos hc] at h;exact ⟨h.1,Kbu.more hM h.2⟩
  ·rename_i hc
   rw[if_neg hc] at h;exact ⟨by omega,Kbu.more hM h.2⟩
theorem Kbu.append {M:Nat}:∀{r:List Ch} {c:Ch} {n:Nat},Kbu M r n→(if c.cut then c.size≤lenOf r n else lenOf r n+c.text.length≤M)→Kbu M (r ++ [c]) n
 | [],c,n,_,h=>by
  rw[List.nil_append];unfold Kbu
  split
  ·rename_i hc
   rw[if_pos hc] at h;exact ⟨h,trivial⟩
  ·rename_i hc
   rw[if_neg hc] at h;exact ⟨h,trivial⟩
 | x :: r,c,n,h,k=>by
  rw[List.cons_append];unfold Kbu at h ⊢;rw[lenOf] at k
  split
  ·rename_i hx
   rw[if_pos hx] at h k;exact ⟨h.1,Kbu.append h.2 k⟩
  ·rename_i hx
   rw[if_neg hx] at h k;exact ⟨h.1,Kbu.append h.2 k⟩
structure FOk (M:Nat) (f:By):Prop where
 ok:Kbu M f.steps f.safe.length
 len:lenOf f.steps f.safe.length=f.now.length
 sum:f.safe.length+units f.steps≤M
 sl:f.steps.length≤M
section
variable {M M' : Nat} {f : By}
theorem FOk.more (h:FOk M f) (hM:M≤M'):FOk M' f:=⟨h.ok.more hM,h.len,Nat.le_trans h.sum hM,Nat.le_trans h.sl hM⟩
theorem FOk.now (h:FOk M f):f.now.length≤M:=by
 have h1:=Kpe _ _ h.ok;have h2:=h.len;have h3:=h.sum;omega
theorem FOk.plain {s:Txt} (h:s.length≤M):FOk M ⟨s,s,[]⟩:=⟨trivial,rfl,by simp[units];exact h,Nat.zero_le _⟩
theorem FOk.append (h:FOk M f) (t:Txt):FOk (M+t.length+1) { f with now:=f.now++t,steps:=f.steps ++ [⟨t,false,0⟩] } where
 ok:=(h.ok.more (by omega)).append (by
  have h1:=h.now;have h2:=h.len;simp only[Bool.false_eq_true,if_false]
  omega)
 len:=by
  have h2:=h.len;simp[Kmd,h2]
 sum:=by
  have h3:=h.sum;simp only[Kzm,Bool.false_eq_true,if_false];omega
 sl:=by
  have:=h.sl;simp;omega
theorem Kix:∀(r:List Ch) (now:Txt) (left:Nat) (z:Bool),(keepL r now left z).1.length+(keepL r now left z).2.1≤now.length+left
 | [],_,_,_=>Nat.le_refl _
 | c :: r,now,left,z=>by
  rw[keepL]
  split
  ·split
   ·have:=Kix r (now.take c.size) (left - 1) z;rw[List.length_take] at this;omega
   ·exact Kix r now left false
  ·have:=Kix r (now++c.text.take (min left c.text.length)) (left - min left c.text.length) z;rw[List.length_append,List.length_take] at this;omega
theorem FOk.keep (h:FOk M f) (wish:Int) (z:Bool):FOk M (keepF f wish z):=by
 have h1:=Kix f.steps f.safe (Kct wish (units f.steps)) z;have h2:=Kmn wish (units f.steps);have h3:=h.sum;unfold keepF;refine FOk.plain ?_
 split
 ·rw[List.length_append,List.length_replicate];omega
 ·omega
end
structure WF (M:Nat) (d:Ds):Prop where
 safe:TW d.files.length d.safe
 chain:Chain d.files.length d.safe d.steps
 things:d.things=d.steps.foldl Kad d.safe
 files:∀f∈d.files,FOk M f
 names:d.safe.length+d.steps.length≤M
 fl:d.files.length≤M
 aw:d.await≤9223372036854775807
 cap:d.cap≤67108864
section
variable {M M' : Nat} {d : Ds}
theorem WF.more (h:WF M d) (hM:M≤M'):WF M' d:=⟨h.safe,h.chain,h.things,fun f hf=>(h.files f hf).more hM,Nat.le_trans h.names hM,Nat.le_trans h.fl hM,h.aw,h.cap⟩
theorem WF.tw (h:WF M d):TW d.files.length d.things:=by rw[h.things];exact h.chain.tw h.safe
theorem WF.tl (h:WF M d):d.things.length≤M:=by
 rw[h.things];exact Nat.le_trans (Kgv _ _) h.names
theorem WF.fit (h:WF M d) (hM:M≤536870912):Fit d:=⟨h.tw,Nat.le_trans h.tl hM,by have:=h.names;omega,Nat.le_trans h.fl hM,h.aw⟩
theorem WF.nums (h:WF M d):Nums d:=by
 refine ⟨h.tw.ats,h.safe.ats,fun s i hs=>?_⟩;obtain ⟨j,hj⟩:=List.mem_iff_getElem?.1 hs;exact (h.chain.at_ hj).2.2.2.1
theorem WF.fAt (h:WF M d) (i:Nat):FOk M (fAt d i):=by
 unfold Go.Proofs.YtefpndiiedkmpaaGreatDoor.fAt
 cases hf:d.files[i]? with
 | none=>exact FOk.plain (Nat.zero_le _)
 | some f=>exact h.files f (List.mem_of_getElem? hf)
theorem WF.new (n:Int):WF 0 (newD n) where
 safe:=⟨by simp[newD],by simp[newD],by simp[newD],by simp[newD],by simp[newD],by simp[newD]⟩
 chain:=trivial
 things:=rfl
 files:=by simp[newD]
 names:=by simp[newD]
 fl:=by simp[newD]
 aw:=by simp[newD]
 cap:=by simp[newD];omega
theorem WF.same (h:WF M d) {d':Ds} (h1:d'.things=d.things) (h2:d'.safe=d.safe) (h3:d'.steps=d.steps) (h4:d'.files=d.files) (h5:d'.await≤9223372036854775807) (h6:d'.cap=d.cap):WF M d':=
 ⟨by rw[h4,h2];exact h.safe,by rw[h4,h2,h3];exact h.chain,by rw[h1,h2,h3];exact h.things,by rw[h4];exact h.files,by rw[h2,h3];exact h.names,by rw[h4];exact h.fl,h5,by rw[h6];exact h.cap⟩
theorem Khr (d:Ds):(stepD d).2.things=d.things∧(stepD d).2.safe=d.safe∧(stepD d).2.steps=d.steps∧(stepD d).2.files=d.files∧(stepD d).2.await≤d.await∧(stepD d).2.cap=d.cap:=by
 unfold stepD
 split
 ·exact ⟨rfl,rfl,rfl,rfl,Nat.le_refl _,rfl⟩
 ·split
  ·exact ⟨rfl,rfl,rfl,rfl,Nat.zero_le _,rfl⟩
  ·exact ⟨rfl,rfl,rfl,rfl,Nat.sub_le _ _,rfl⟩
theorem WF.step (h:WF M d):WF M (stepD d).2:=by
 obtain ⟨h1,h2,h3,h4,h5,h6⟩:=Khr d;exact h.same h1 h2 h3 h4 (Nat.le_trans h5 h.aw) h6
theorem WF.names_ (h:WF M d) {s:St} (hs:StOk d.files.length d.things s):WF (M+1) (Kbb d s).2:=by
 unfold Kbb;obtain ⟨h1,h2,h3,h4,h5,h6⟩:=Khr d
 split
 ·exact h.step.more (by omega)
 ·exact {
   safe:=by simp only[h2,h4];exact h.safe
   chain:=by simp only[h2,h4];exact h.chain.append (by rw[←h.things];exact hs)
   things:=by simp only[h2];rw[List.foldl_append,←h.things];rfl
   files:=by simp only[h4];exact fun f hf=>(h.files f hf).more (by omega)
   names:=by simp only[h2,List.length_append];have:=h.names;simp;omega
   fl:=by simp only[h4];have:=h.fl;omega
   aw:=Nat.le_trans h5 h.aw
   cap:=by simp only[h6];exact h.cap }
theorem WF.mkdir (h:WF M d) (s:Txt):WF (M+1) (Qia d s).2:=by
 unfold Qia
 split
 ·exact h.more (by omega)
 split
 ·exact h.more (by omega)
 split
 ·exact h.more (by omega)
 rename_i h1 h2 h3
 exact h.names_ ⟨by simpa using h2,by simpa using h3⟩
theorem WF.remove (h:WF M d) (s:Txt):WF (M+1) (Kat d s).2:=by
 unfold Kat
 split
 ·exact h.more (by omega)
 split
 ·exact h.more (by omega)
 split
 ·exact h.more (by omega)
 rename_i h1 h2 h3
 exact h.names_ ⟨by simpa using h2,by simpa using h3⟩
theorem WF.rename (h:WF M d) (a b:Txt):WF (M+1) (Kal d a b).2:=by
 unfold Kal
 split
 ·exact h.more (by omega)
 split
 ·exact h.more (by omega)
 split
 ·exact h.more (by omega)
 split
 ·exact h.more (by omega)
 split
 ·exact h.more (by omega)
 rename_i h1 h2 h3 h4 h5
 simp only[not_or,not_and,Bool.not_eq_false] at h2 h3 h4 h5;refine h.names_ ⟨h2.1,h2.2,h4.1,h4.2,h5.1,fun e=>⟨h3 e,?_⟩,?_⟩
 ·rcases Kei d.things b with h0 | h0 | h0
  ·exact h0
  ·exact absurd e (h5.2 h0).1
  ·exact absurd h0 h5.1
 ·rintro rfl;rcases Kei d.things a with h0 | h0 | h0
  ·exact h4.1 h0
  ·exact (h5.2 h0).2 rfl
  ·exact h5.1 h0
theorem WF.create (h:WF M d) (s:Txt):WF (M+1) (Kbd d s).2:=by
 unfold Kbd
 split
 ·exact h.more (by omega)
 split
 ·exact h.more (by omega)
 split
 ·exact h.more (by omega)
 split
 ·exact h.more (by omega)
 split
 ·exact h.step.more (by omega)
 rename_i h1 h2 h3 h4 h5
 obtain ⟨k1,k2,k3,k4,k5,k6⟩:=Khr d
 have e:(Kbb d (.create s d.files.length)).2 = { (stepD d).2 with things:=Kad d.things (.create s d.files.length),steps:=d.steps ++ [.create s d.files.length] }:=by
  unfold Kbb;rw[if_neg h5]
 rw[e];have hle:d.files.length≤(d.files ++ [(⟨[],[],[]⟩:By)]).length:=by simp
 exact {
  safe:=by simp only[k2];exact h.safe.more hle
  chain:=by
   simp only[k2];refine (h.chain.more hle).append ?_;rw[←h.things];exact ⟨by simpa using h2,by simpa using h3,by simpa using h4,by simp,fun x hx hd=>Nat.ne_of_lt (h.tw.ats x hx hd)⟩
  things:=by simp only[k2];rw[List.foldl_append,←h.things];rfl
  files:=by
   intro f hf;rcases List.mem_append.1 hf with hf | hf
   ·exact (h.files f hf).more (by omega)
   ·rw[List.mem_singleton.1 hf];exact FOk.plain (Nat.zero_le _)
  names:=by simp only[k2,List.length_append];have:=h.names;simp;omega
  fl:=by have:=h.fl;simp;omega
  aw:=Nat.le_trans k5 h.aw
  cap:=by simp only[k6];exact h.cap }
theorem WF.set_ (h:WF M d) {i:Nat} {f:By} (hf:FOk M' f) (hM:M≤M'):WF M' (setF d i f) where
 safe:=by simp only[setF,List.length_set];exact h.safe
 chain:=by simp only[setF,List.length_set];exact h.chain
 things:=h.things
 files:=by
  intro g hg;rcases List.mem_or_eq_of_mem_set hg with hg | rfl
  ·exact (h.files g hg).more hM
  ·exact hf
 names:=Nat.le_trans h.names hM
 fl:=by simp only[setF,List.length_set];exact Nat.le_trans h.fl hM
 aw:=h.aw
 cap:=h.cap
theorem WF.append (h:WF M d) (s t:Txt):WF (M+t.length+1) (Kbp d s t).2:=by
 unfold Kbp
 split
 ·exact h.more (by omega)
 split
 ·exact h.more (by omega)
 split
 ·exact h.step.more (by omega)
 rename_i i _ _ _
 exact h.step.set_ ((h.fAt i).append t) (by omega)
theorem WF.sync (h:WF M d) (s:Txt):WF (M+1) (syncD d s).2:=by
 unfold syncD
 split
 ·exact h.more (by omega)
 split
 ·exact h.step.more (by omega)
 rename_i i _ _
 exact h.step.set_ (FOk.plain (Nat.le_succ_of_le (h.fAt i).now)) (by omega)
theorem WF.syncNames (h:WF M d):WF (M+1) (Kay d).2:=by
 unfold Kay
 split
 ·exact h.more (by omega)
 split
 ·exact h.step.more (by omega)
 obtain ⟨k1,k2,k3,k4,k5,k6⟩:=Khr d
 exact {
  safe:=by simp only[k4];exact h.tw
  chain:=trivial
  things:=by simp only[k1];rfl
  files:=by simp only[k4];exact fun f hf=>(h.files f hf).more (by omega)
  names:=by have:=h.tl;simp;omega
  fl:=by simp only[k4];have:=h.fl;omega
  aw:=Nat.le_trans k5 h.aw
  cap:=by simp only[k6];exact h.cap }
theorem WF.crash (h:WF M d) {n:Int} (hn:n≤9223372036854775807):WF (M+1) (Kgt d n):=(h.same (d':=Kgt d n) rfl rfl rfl rfl (by simp only[Kgt];omega) rfl).more (by omega)
theorem Kgn (data:List Int) (z:Bool):∀(l:List En) (i:Nat) (fs:List By),(Kba data z l i fs).length=fs.length
 | [],_,_=>rfl
 | x :: r,i,fs=>by rw[Kba,Kgn data z r];simp
theorem Kki (data:List Int) (z:Bool):∀(l:List En) (i:Nat) (fs:List By),(∀f∈fs,FOk M f)→∀f∈Kba data z l i fs,FOk M f
 | [],_,_,h=>h
 | x :: r,i,fs,h=>by
  rw[Kba];refine Kki data z r _ _ fun f hf=>?_
  rcases List.mem_or_eq_of_mem_set hf with hf | rfl
  ·exact h f hf
  ·refine FOk.keep ?_ _ _
   cases hx:fs[x.size]? with
   | none=>exact FOk.plain (Nat.zero_le _)
   | some g=>exact h g (List.mem_of_getElem? hx)
theorem WF.restart (h:WF M d) (n:Int) (data:List Int) (z:Bool):WF (M+1) (Kbc d n data z) where
 safe:=by
  simp only[Kbc,Kgn];exact (h.chain.take _).tw h.safe
 chain:=trivial
 things:=rfl
 files:=by
  simp only[Kbc];exact fun f hf=>(Kki data z _ _ _ h.files f hf).more (by omega)
 names:=by
  have h1:=h.names;have h2:=Kgv (d.steps.take (Kct n d.steps.length)) d.safe;rw[List.length_take] at h2;simp only[Kbc,List.length_nil];omega
 fl:=by simp only[Kbc,Kgn];have:=h.fl;omega
 aw:=by simp[Kbc]
 cap:=h.cap
end
end
section
open Go.RowKit Go.Shelf Go.Maps Go.Sort
open Lib renaming hid → Jh
attribute [local go_sem ↓] Go.wp_at_zero Go.wp_at_succ
attribute [local go_sem] Later.cell
theorem Qkv {D:DataW Value} {w:World} {b n:Nat} {ss:List Txt} (hown:w.ownsMap Tryz.prog 9 HR b n D) (hp:ss.Perm (strKeys D)):Asc (ss.mergeSort fun x y=>decide (x≤y))∧∀x,x∈ss.mergeSort (fun x y=>decide (x≤y))↔Maps.has D (.string x)=true:=by
 obtain ⟨es,rfl,hpw⟩:=hown.tidy law3;obtain ⟨es',e',hko⟩:=hown.keysOf;injection e' with e';subst e'
 have hstr:∀p∈es,∃x,p.1 = .string x:=fun p hp=>by
  obtain ⟨v,hv⟩:=hko p hp;obtain ⟨x,_,hx,_⟩:=Maps.keyOf_str Tryz.underlying9 hv;exact ⟨x,hx⟩
 have hnd:(strKeys (.map es)).Nodup:=by
  show (es.map fun p=>strOf p.1).Nodup
  refine List.pairwise_map.2 (hpw.imp_of_mem fun {p q} hp' hq' hne e=>hne ?_);obtain ⟨a,ha⟩:=hstr p hp';obtain ⟨b,hb⟩:=hstr q hq';rw[ha,hb] at e ⊢;exact congrArg _ e
 have hmem:∀x,x∈strKeys (.map es)↔Maps.has (.map es:DataW Value) (.string x)=true:=by
  intro x;rw[has_eq,List.any_eq_true];show x∈es.map (fun p=>strOf p.1)↔_
  rw[List.mem_map];constructor
  ·rintro ⟨p,hp,rfl⟩;obtain ⟨a,ha⟩:=hstr p hp;exact ⟨p,hp,by rw[ha];simp[strOf,Lit.sameKey]⟩
  ·rintro ⟨p,hp,e⟩;obtain ⟨a,ha⟩:=hstr p hp;rw[ha] at e;exact ⟨p,hp,by rw[ha];simpa[strOf,Lit.sameKey] using e⟩
 have hsorted:(ss.mergeSort fun x y=>decide (x≤y)).Pairwise (fun a b=>a≤b):=by
  have:=List.pairwise_mergeSort (le:=fun x y:Txt=>decide (x≤y)) (by intro a b c;simp;exact List.le_trans) (by intro a b;simp;exact List.le_total a b) ss;simpa using this
 have hperm:=(List.mergeSort_perm ss fun x y=>decide (x≤y)).trans hp;have hnd':=(hperm.nodup_iff).2 hnd;refine ⟨?_,fun x=>?_⟩
 ·unfold Asc;refine (hsorted.and hnd').imp ?_;rintro a b ⟨h1,h2⟩;exact Kjc h1 (Ne.symm h2)
 ·rw[←hmem x];exact hperm.mem_iff
def Qmu (w:World) (f:Txt→Option Value) (e:Ending) (w':World):Prop:=
 ∃A c ks,e = .returned (.slice A ks.length c)∧Strs w' A ks.length ks∧ks.length≤c∧Asc ks∧(∀x,x∈ks↔(f x).isSome=true)∧(∀a,A=some a→w.heap.size≤a.block)∧Below w.heap.size w w'
theorem Qav (b:Nat) (f:Txt→Option Value) (w:World) (h:SM w b f) (L:List Txt) (hL:∀x,(f x).isSome=true→x∈L) (hn:L.length≤1073741824) :
  ∃v:Value,(Calls Tryz.prog 74 #[.map (some b)] w fun e w'=>e = .returned v∧w'=w.alloc (.cells #[.map (some b)] 125))∧
   Calls Tryz.prog 73 #[v] (w.alloc (.cells #[.map (some b)] 125)) (Qmu w f):=by
 have hkeys:=callsIn_wide.1 (Tryz.maps_Keys_74 (some b) w);obtain ⟨D,hown,hhas,_⟩:=h;have hsz:Maps.size D≤L.length:=SMap.size_le Tryz.underlying9 hown L (fun x hx=>hL x (by rw[←hhas];exact hx));have hsorted:=callsIn_wide.1 (Tryz.slices_Sorted_keys_73_74 b (Maps.size D) D _ w hown (by unfold maxLen;omega) (by omega));refine ⟨_,hkeys,hsorted.mono ?_⟩;rintro e w3 ⟨v,ss,rfl,hP,hrow,_,hb3⟩;obtain ⟨h1,h2⟩:=Qkv hown hP;have hml:(ss.mergeSort fun x y=>decide (x≤y)).length=ss.length:=List.length_mergeSort _;obtain ⟨z,hz⟩:∃z,ss.mergeSort (fun x y=>decide (x≤y))=z:=⟨_,rfl⟩;rw[hz] at h1 h2 hml hrow;rw[←hml] at hrow
 obtain ⟨A',c',rfl,hs3,hfr,hc3⟩:=Strs.of_own (l:=z) (by
  have e1:z.map encStr=z.map txtV:=rfl;rw[←e1]
  exact hrow) rfl
 exact ⟨A',c',z,rfl,hs3,hc3,h1,fun x=>by rw[h2 x,hhas],fun a ha=>by have:=hfr a ha;simp at this;omega,then_ ((Below.refl _ _).alloc (Nat.le_refl _) _) hb3⟩
section
variable {B0 M : Nat} {R : Nat → Nat} {A : Adr} {d : Ds} {w : World}
def treeW (w:World) (p x y:Nat):World:=(w.setCell ⟨p,0,none⟩ (.map (some x))).setCell ⟨p,1,none⟩ (.map (some y))
theorem Krm (w:World) (p x y:Nat):(treeW w p x y).heap.size=w.heap.size:=by simp[treeW,World.setCell]
theorem Khw (w:World) {p x y k:Nat} (h:k≠p):(treeW w p x y).heap[k]? = w.heap[k]?:=
 (Below.heap_setCell _ _ _ k h).trans (Below.heap_setCell _ _ _ k h)
theorem CD.retree (h:CD B0 w R A d) {w1:World} {x y:Nat} {l:List Th} (hb:Below w.heap.size w w1) (hx:SM w1 x (dirF l)) (hy:SM w1 y (filF A.φ l)) (hxy:x≠y) (hxl:w.heap.size≤x) (hyl:w.heap.size≤y) (hB:B0≤w.heap.size) :
  CD B0 (treeW w1 A.p x y) (giv (giv R x 2) y 3) { A with md:=x,mf:=y } { d with things:=l }∧Own R (giv (giv R x 2) y 3) w (treeW w1 A.p x y):=by
 have hpl:=Blk.lt h.blk;have hp0:A.p≠x:=by omega
 have hp1:A.p≠y:=by omega
 have hold:∀k,k < w.heap.size→giv (giv R x 2) y 3 k=R k:=fun k hk=>by rw[Kax (by omega),Kax (by omega)]
 have hblk:=Blk.below h.blk hb hpl;have hx1:=SMap.lt hx;have hy1:=SMap.lt hy
 have key:∀k,R k≠0→R k≠1→(treeW w1 A.p x y).heap[k]? = w.heap[k]?∧giv (giv R x 2) y 3 k=R k:=fun k hk h1=>
  ⟨(Khw w1 (fun e=>h1 (by rw[e];exact h.rp))).trans (hb.block k (h.inw k hk)),hold k (h.inw k hk)⟩
 have hin:InW (giv (giv R x 2) y 3) (treeW w1 A.p x y):=by
  intro k hk;rw[Krm]
  by_cases e1:k=y
  ·omega
  by_cases e2:k=x
  ·omega
  rw[Kax e1,Kax e2] at hk;exact Nat.lt_of_lt_of_le (h.inw k hk) hb.size
 refine ⟨?_,?_⟩
 ·exact {
   blk:=(Blk.set_ hblk 0 _).set_ 1 _
   rp:=by rw[hold _ hpl];exact h.rp
   dirs:=⟨hx.same (Khw w1 (Ne.symm hp0)),by show giv (giv R x 2) y 3 x=2;rw[Kax hxy,Kck]⟩
   files:=⟨hy.same (Khw w1 (Ne.symm hp1)),Kck _ _ _⟩
   sdirs:=h.sdirs.same fun k hk=>key k (by omega) (by omega)
   sfiles:=h.sfiles.same fun k hk=>key k (by omega) (by omega)
   steps:=h.steps.same fun k hk=>key k (by omega) (by omega)
   bytes:=h.bytes.same fun k hk=>key k (by omega) (by omega)
   inw:=hin
   low:=fun k hk=>by rw[hold k (by omega)];exact h.low k hk }
 ·exact ⟨hb.os,hb.tape,hb.output,by rw[Krm];exact hb.size,fun k hk hr=>(Khw w1 (fun e=>by rw[e,h.rp] at hr;omega)).trans (hb.block k hk),hold⟩
theorem CD.lights (h:CD B0 w R A d):CD B0 ((w.setCell ⟨A.p,6,none⟩ (.bool false)).setCell ⟨A.p,7,none⟩ (.int .i64 0)) R A { d with off:=false,await:=0 }∧Own R R w ((w.setCell ⟨A.p,6,none⟩ (.bool false)).setCell ⟨A.p,7,none⟩ (.int .i64 0)):=by
 have hp1:R A.p≠0:=by rw[h.rp];omega
 have h1:DBlk (w.setCell ⟨A.p,6,none⟩ (.bool false)) A { d with off:=false }:=DBlk.set w h.blk rfl;exact ⟨h.blk_only (fun k _ hk=>(Below.heap_setCell _ _ _ k hk).trans (Below.heap_setCell _ _ _ k hk)) (by simp[World.setCell]) (DBlk.set _ h1 rfl) rfl rfl rfl rfl,(Own.of_set _ hp1).trans (Own.of_set _ hp1)⟩
theorem StepM.fn {φ : List Nat} {s:St} {v:Value} (h:StepM w R φ s v):∃F C,v = .func (.func F) #[] C:=by
 cases s with
 | mkdir a=>exact (show False from h).elim
 | create a i=>obtain ⟨b,c,h1,_⟩:=h;exact ⟨_,_,h1⟩
 | rename a b=>obtain ⟨b,c,h1,_⟩:=h;exact ⟨_,_,h1⟩
 | remove a=>obtain ⟨b,h1,_⟩:=h;exact ⟨_,_,h1⟩
def Kne (data:List Int) (i:Nat):Int:=if data = [] then 0 else data[i % data.length]?.getD 0
def Ints3 (w:World) (A:Option Addr) (n:Nat) (l:List Int):Prop:=Elems w w.heap.size 1 I1 A n l
theorem Ints3.at_ {w:World} {A:Option Addr} {n:Nat} {l:List Int} (h:Ints3 w A n l) {i:Nat} (hi:i < n):∃b off,A=some ⟨b,off,none⟩∧b < w.heap.size∧w.cell? ⟨b,off+i,none⟩=some (.int .i64 l[i]!):=by
 obtain ⟨b,off,e,hb,hc⟩:=h.2 (by omega);have hl:i < l.length:=by have:l.length=n:=Elems.len h;omega
 have hx:=hc i l[i]! (by rw[getElem!_pos l i hl,List.getElem?_eq_getElem hl]);exact ⟨b,off,e,hb,by simpa using hx 0 _ rfl⟩
def Qbt (B0:Nat) (R:Nat→Nat) (A:Adr) (d':Ds) (w:World) (e:Ending) (w':World):Prop:=
 ∃R' A',e = .returned (.tuple #[])∧CD B0 w' R' A' d'∧Own R R' w w'∧A'.p=A.p
theorem Kvk (nst:Int) (Ad:Option Addr) (nd cd:Nat) (data:List Int) (zeros:Bool) (w:World) (h:CD B0 w R A d) (hw:WF M d) (hM:M≤536870912) (hB:B0≤w.heap.size) (hn1:-9223372036854775808≤nst) (hn2:nst≤9223372036854775807)
  (hdat:Ints3 w Ad nd data) (hdr:∀a,Ad=some a→0 < nd→R a.block=0) (hdb:∀x∈data,-9223372036854775808≤x∧x≤9223372036854775807) (hnd:nd≤140737488355328) :
  Calls Tryz.prog 25 #[.pointer (some ⟨A.p,0,none⟩),.int .i64 nst,.slice Ad nd cd,.bool zeros] w (Qbt B0 R A (Kbc d nst data zeros) w):=by
 obtain ⟨p,hp⟩:∃p,A.p=p:=⟨_,rfl⟩;have HP:=Jh hp;obtain ⟨ns,hns⟩:∃n,d.steps.length=n:=⟨_,rfl⟩;have hnsM:ns≤536870912:=by have:=hw.names;omega
 have HSH:=Jh (Knw nst ns · hn1 hn2 (by omega));have hle:=Kmn nst ns;obtain ⟨m,hm⟩:∃m,Kct nst ns=m:=⟨_,rfl⟩;rw[hm] at HSH hle
 have hE:Kbc d nst data zeros = { d with things:=(d.steps.take m).foldl Kad d.safe,safe:=(d.steps.take m).foldl Kad d.safe,steps:=[],files:=Kba data zeros (Kci ((d.steps.take m).foldl Kad d.safe)) 0 d.files,off:=false,await:=0 }:=by
  unfold Kbc;rw[hns,hm]
 obtain ⟨sd,hsd⟩:∃x,A.sd=x:=⟨_,rfl⟩;obtain ⟨sf,hsf⟩:∃x,A.sf=x:=⟨_,rfl⟩;obtain ⟨md,hmd⟩:∃x,A.md=x:=⟨_,rfl⟩;obtain ⟨mf,hmf⟩:∃x,A.mf=x:=⟨_,rfl⟩;have hblk:=h.blk;unfold DBlk at hblk;rw[hp,hsd,hsf,hmd,hmf] at hblk;have k2:w.cell? ⟨p,2,none⟩=some (.map (some sd)):=hblk.cell 2;have k3:w.cell? ⟨p,3,none⟩=some (.map (some sf)):=hblk.cell 3;have HTW:=Jh (Kgp sd sf (dirF d.safe) (filF A.φ d.safe) w (by rw[←hsd];exact h.sdirs.1) (by rw[←hsf];exact h.sfiles.1));have HBLK:=Jh hblk;have hpl:p < w.heap.size:=Kaf k2;have HE:=Jh hE;have HNS:=Jh hns;have HDAT:=Jh hdat;have HDR:=Jh hdr;have HDB:=Jh hdb;rw[hp];clear hE hns hm hp hblk hdat hdr hdb hsd hsf hmd hmf;go_enter Tryz.func25,Tryz.ntmps25
 go_wp2_with fail
 refine HTW.out.mono ?_;rintro _ w1 ⟨x,y,rfl,hx,hy,hxy,hxl,hyl,hb1⟩;obtain ⟨hcd1,hO1⟩:=h.retree hb1 hx hy hxy hxl hyl hB;rw[HP.out] at hcd1 hO1;have hblk1:=HBLK.out.below hb1 hpl;have j0:w1.cell? ⟨p,0,none⟩=some (.map (some md)):=hblk1.cell 0;have j1:w1.cell? ⟨p,1,none⟩=some (.map (some mf)):=hblk1.cell 1;have g0:=hblk1.frozen 0;have g1:=hblk1.frozen 1;unfold treeW at hcd1 hO1;have HCD1:=Jh hcd1;have HO1:=Jh hO1;clear hcd1 hO1 hblk1 k2 k3 hb1 hx hy;go_upto_region 2 with fail
 obtain ⟨w2,hw2⟩:∃X,(w1.setCell ⟨p,0,none⟩ (.map (some x))).setCell ⟨p,1,none⟩ (.map (some y))=X:=⟨_,rfl⟩;have hcd2:=HCD1.out;have hO2:=HO1.out;rw[hw2] at hcd2 hO2 ⊢;obtain ⟨R1,hR1⟩:∃r,giv (giv R x 2) y 3=r:=⟨_,rfl⟩;rw[hR1] at hcd2 hO2;obtain ⟨A1,hA1⟩:∃r,({ A with p:=p,md:=x,mf:=y }:Adr)=r:=⟨_,rfl⟩;have hp1:A1.p=p:=by rw[←hA1]
 have hφ : A1.φ=A.φ:=by rw[←hA1]
 have hmd1:A1.md=x:=by rw[←hA1]
 have hmf1:A1.mf=y:=by rw[←hA1]
 rw[hA1] at hcd2
 obtain ⟨X2,c2,hsv,hc2⟩:∃X2 c2,A1.sv = .slice X2 ns c2∧ns≤c2:=by
  obtain ⟨fs,hrow,hfs,_⟩:=hcd2.steps;have h1:=hrow.1;have e1:({ d with things:=d.safe }:Ds).steps.length=ns:=HNS.out;rw[e1] at h1;rcases h1.2 with ⟨h2,h0⟩ | ⟨g,cap,cur,h2,_,_,hnc,_⟩
  ·exact ⟨none,0,by rw[h0];exact h2,by omega⟩
  ·exact ⟨_,cap,h2,hnc⟩
 have k4:w2.cell? ⟨p,4,none⟩=some (.slice X2 ns c2):=by rw[←hp1,←hsv];exact Blk.cell hcd2.blk 4
 have hpl2:p < w2.heap.size:=Kaf k4;have HP1:=Jh hp1;have HPH:=Jh hφ;have HMD:=Jh hmd1;have HMF:=Jh hmf1;have HSV:=Jh hsv;have HCD2:=Jh hcd2;have HO2:=Jh hO2;clear hw2 hR1 hA1 hp1 hφ hmd1 hmf1 hsv hcd2 hO2 j0 j1 g0 g1 HCD1 HO1 hxy hxl hyl;refine Kab (by kernel_rfl) (by kernel_rfl) ?_
 repeat (go_big_quiet_step ((go_at_call 72;exact Kqs _ (HSH.out _))))
 refine wpQuiet_nil ?_;rintro w3 ⟨⟨_,hb3⟩,rfl⟩;have HCD3:=Jh (HCD2.out.below hb3);have HO3:=Jh (HO2.out.trans (Own.of_below (R:=R1) hb3));clear hb3 k4 hpl2;go_upto_block 0 with fail
 go_cut [] (fun wz=>CD B0 wz R1 A1 { d with things:=(d.steps.take m).foldl Kad d.safe }∧Own R R1 w wz)
 case first=>
  go_wp2_with fail
  go_loopg [36] m (fun g s36 wr=>∃i:Nat,i+g=m∧s36 = .int .i64 (i:Int)∧CD B0 wr R1 A1 { d with things:=(d.steps.take i).foldl Kad d.safe }∧Own R R1 w wr)
  case atStart=>exact ⟨0,by omega,rfl,HCD3.out,HO3.out⟩
  case round=>
   obtain ⟨i,hig,rfl,hcd,hO⟩:=hrel;have HIG:=Jh hig;have HCD:=Jh hcd;have HO:=Jh hO;clear hig
   by_cases hi:i < m
   ·have el:decide ((i:Int) < (m:Int))=true:=by simp;omega
    have el':decide (i < m)=true:=by simp;omega
    have hil:i < d.steps.length:=by rw[HNS.out];omega
    obtain ⟨s,hs⟩:∃s,d.steps[i]? = some s:=⟨_,List.getElem?_eq_getElem hil⟩;have hok:=hw.chain.at_ hs;have htw:=(hw.chain.take i).tw hw.safe;have hft:=Qdy (l:=d.safe) hs;have hfl:=Kgv (d.steps.take i) d.safe;have hnm:=hw.names;rw[List.length_take] at hfl;obtain ⟨L,hL⟩:∃L,(d.steps.take i).foldl Kad d.safe=L:=⟨_,rfl⟩;rw[hL] at hok htw hft hfl hcd;obtain ⟨fs,hrow,hfs,hall⟩:=hcd.steps;have e1:({ d with things:=L }:Ds).steps.length=ns:=HNS.out;have hfl2:fs.length=ns:=by rw[hfs];exact e1
    obtain ⟨f,hf⟩:∃f,fs[i]? = some f:=⟨_,List.getElem?_eq_getElem (by rw[hfl2];omega)⟩;have hst:=hall i s f hs hf;obtain ⟨F,C,rfl⟩:=hst.fn;have hown:=hrow.1;rw[e1,HSV.out] at hown
    obtain ⟨g,hX2⟩:∃g,X2=some ⟨g,0,none⟩:=by
     rcases hown.2 with ⟨h1,h0⟩ | ⟨g,cap,cur,h1,_⟩
     ·omega
     ·injection h1 with h1;exact ⟨g,h1⟩
    subst hX2;have kf:wr.cell? ⟨g,i,none⟩=some (.func (.func F) #[] C):=by rw[World.ownsRow.cellAt hown i (by omega)];exact hf
    have j0:wr.cell? ⟨p,0,none⟩=some (.map (some x)):=by rw[←HP1.out,←HMD.out];exact Blk.cell hcd.blk 0
    have j1:wr.cell? ⟨p,1,none⟩=some (.map (some y)):=by rw[←HP1.out,←HMF.out];exact Blk.cell hcd.blk 1
    have HDO:=Jh (Kwz (R:=R1) (φ:=A1.φ) (md:=x) (mf:=y) s F C htw hok (by omega) (by rw[←HMD.out];exact hcd.dirs.1) (by rw[←HMF.out];exact hcd.files.1) (by rw[←HMD.out,←HMF.out];exact hcd.md_mf) hst);have heg:=Koa hst;have HFT:=Jh hft;have him:(i:Int) < (m:Int):=by omega
    have HCL:=Jh hcd;have hmc:m≤c2:=by omega
    clear hs hok htw hft hfl hL hrow hfs hall hf hst hown hcd hO HCD;go_wp2_with fail
    refine HDO.out.mono ?_;rintro _ w4 ⟨rfl,hd4,hf4,hO4⟩;clear heg;rw[←HMD.out,←HMF.out] at hO4;rw[←HMD.out] at hd4;rw[←HMF.out] at hf4;have hcd4:=HCL.out.maps_only hO4 hd4 hf4;have hO5:=HO.out.trans (Own.of_two HCL.out hO4);have hcd5:CD B0 w4 R1 A1 { d with things:=(d.steps.take (i+1)).foldl Kad d.safe }:=by rw[HFT.out];exact hcd4
    clear hcd4 hO4 hd4 hf4 kf j0 j1;go_wp2_with fail
    go_roundg (gk - 1)
    case measure=>have:=HIG.out;omega
    case rel=>exact ⟨i+1,by have:=HIG.out;omega,by go_num,hcd5,hO5⟩
   ·have el:decide ((i:Int) < (m:Int))=false:=by simp;omega
    have el':decide (i < m)=false:=by simp;omega
    have hig:=HIG.out;obtain rfl:i=m:=by omega
    clear hcd hO hig;go_wp2_with fail
    go_meet
    exact ⟨HCD.out,HO.out⟩
 case rest=>
  obtain ⟨hcd,hO⟩:=hcut;obtain ⟨w5,rfl⟩:∃x,x=wc:=⟨_,rfl⟩;have htw:=(hw.chain.take m).tw hw.safe;have hfl:=Kgv (d.steps.take m) d.safe;have hnm:=hw.names;rw[List.length_take] at hfl;obtain ⟨L,hL⟩:∃L,(d.steps.take m).foldl Kad d.safe=L:=⟨_,rfl⟩;rw[hL] at htw hfl hcd HE;have hsy:SM w5 y (filF A1.φ L):=by rw[←HMF.out];exact hcd.files.1
  obtain ⟨kv,hk1,hk2⟩:=Qav y (filF A1.φ L) w5 hsy (L.map Th.path) (fun x hx=>Kgg hx) (by rw[List.length_map];omega);have j1:w5.cell? ⟨p,1,none⟩=some (.map (some y)):=by rw[←HP1.out,←HMF.out];exact Blk.cell hcd.blk 1
  have hpl5:p < w5.heap.size:=Kaf j1;have HK1:=Jh hk1;have HK2:=Jh hk2;have HCD:=Jh hcd;have HO:=Jh hO;have HTW:=Jh htw;have hLz:L.length≤1073741824:=by omega
  clear hk1 hk2 hcd hO htw hL hsy HCD3 HO3;go_wp2_with fail
  refine HK1.out.mono ?_;rintro _ w6 ⟨rfl,rfl⟩;go_wp2_with fail
  refine HK2.out.mono ?_;rintro _ w7 ⟨Ak,ck,ks,rfl,hks,hkc,hasc,hmem,hkfr,hb7⟩;have hnames:(Kci L).map En.name=ks:=Kvr HTW.out.nodup hasc (fun z=>by rw[hmem z,Kii HTW.out,Qcg HTW.out.nodup]);obtain ⟨S,hS⟩:∃S,Kci L=S:=⟨_,rfl⟩;have hSmem:∀e∈S,∃x∈L,x.dir=false∧e=⟨x.path,false,x.at_⟩:=fun e he=>Kjj.1 (by rw[hS];exact he)
  rw[hS] at hnames HE;obtain ⟨KN,hKN⟩:∃n,ks.length=n:=⟨_,rfl⟩;have hSN:S.length=KN:=by rw[←hKN,←hnames,List.length_map]
  have hKz:KN≤1073741824:=by
   rw[←hSN,←hS];unfold Kci;rw[(Khq _).length_eq,List.length_map];exact Nat.le_trans (List.length_filter_le _ _) hLz
  rw[hKN] at hks hkc ⊢;have hcd7:=HCD.out.below hb7;have hO7:=HO.out.trans (Own.of_below (R:=R1) hb7);have hkr:∀a,Ak=some a→R1 a.block=0:=fun a ha=>HCD.out.inw.new (hkfr a ha)
  have HKS:=Jh hks;have HKR:=Jh hkr;have HNM:=Jh hnames;have HSM:=Jh hSmem;have HSN:=Jh hSN;have HC7:=Jh hcd7;have HO7:=Jh hO7;clear hks hkc hasc hmem hkfr hb7 hnames hS hSmem hKN hSN hcd7 hO7 hkr j1 hpl5;go_wp2_with fail
  go_loopg [55] KN (fun g s55 wr=>∃i:Nat,i+g=KN∧s55 = .int .i64 (i:Int)∧CD B0 wr R1 A1 { d with things:=L,files:=Kba data zeros (S.take i) 0 d.files }∧Own R1 R1 w7 wr)
  case atStart=>exact ⟨0,by omega,rfl,HC7.out,Own.refl _ _⟩
  case round=>
   obtain ⟨i,hig,rfl,hcd,hOr⟩:=hrel;have HIG:=Jh hig;have HOR:=Jh hOr;clear hig
   by_cases hi:i < KN
   ·have el:decide ((i:Int) < (KN:Int))=true:=by simp;omega
    have el':decide (i < KN)=true:=by simp;omega
    have hiKN:(i:Int) < (KN:Int):=by omega
    have hil:i < S.length:=by rw[HSN.out];exact hi
    have hkt:=Kxv data zeros S d.files hil;obtain ⟨th,hth,hthd,hthe⟩:=HSM.out S[i]! (by rw[getElem!_pos S i hil];exact List.getElem_mem hil)
    have hkn:ks[i]! = th.path:=by
     have h1:ks[i]? = some (S[i]!.name):=by
      rw[←HNM.out,List.getElem?_map,List.getElem?_eq_getElem hil,getElem!_pos S i hil];rfl
     have hil2:i < ks.length:=(List.getElem?_eq_some_iff.1 h1).1;rw[getElem!_pos ks i hil2];rw[List.getElem?_eq_getElem hil2] at h1;injection h1 with h1;rw[h1,hthe]
    have hidx:=HTW.out.ats th hth hthd;have hsz:S[i]!.size=th.at_:=by rw[hthe]
    rw[hsz] at hkt;obtain ⟨idx,hix⟩:∃n,th.at_=n:=⟨_,rfl⟩;have hval:filF A1.φ L th.path=some (fptr A1.φ idx):=(Kca HTW.out.nodup).2 ⟨th,hth,hthd,rfl,by rw[hix]⟩;have hpz:th.path.length≤1073741824:=Kjg HTW.out th.path (List.mem_map.2 ⟨th,hth,rfl⟩);rw[hix] at hkt hidx;obtain ⟨bk,ok,hAk,hbk,kk⟩:=HKS.out.at_ hi;have hRk:=HKR.out _ hAk;have mk:=Kcw hOr kk hRk;rw[hkn] at mk;subst hAk;obtain ⟨N,hN⟩:∃N:ByteArray,(⟨th.path.toArray⟩:ByteArray)=N:=⟨_,rfl⟩;have hNl:N.data.toList=th.path:=by rw[←hN]
    unfold txtV at mk;rw[hN] at mk;have hsy:SM wr y (filF A1.φ L):=by rw[←HMF.out];exact hcd.files.1
    have hlk:(Instr.lookup 125 (.map (some y)) (.string N) false).run Tryz.prog wr = .ok (fptr A1.φ idx) wr:=by
     have:=SMap.look hsy Tryz.underlying9 Tryz.underlying125 (Kkb wr) (s:=N) (by rw[←Kas,hNl];unfold maxLen;omega);rw[hNl,hval] at this;exact this
    have j1:wr.cell? ⟨p,1,none⟩=some (.map (some y)):=by rw[←HP1.out,←HMF.out];exact Blk.cell hcd.blk 1
    have hlenk:(Kba data zeros (S.take i) 0 d.files).length=d.files.length:=Kgn _ _ _ _ _;have hokk:=Kki (M:=M) data zeros (S.take i) 0 d.files hw.files;obtain ⟨fs,hfs⟩:∃fs,Kba data zeros (S.take i) 0 d.files=fs:=⟨_,rfl⟩;rw[hfs] at hcd hkt hlenk hokk;have hxl:idx < ({ d with things:=L,files:=fs }:Ds).files.length:=by show idx < fs.length;rw[hlenk];exact hidx
    have hfm:=Khz hcd hxl;have hfa:fAt ({ d with things:=L,files:=fs }:Ds) idx=fs[idx]?.getD default:=rfl;rw[hfa] at hfm
    have hfok:FOk M (fs[idx]?.getD default):=by
     rw[List.getElem?_eq_getElem (by rw[hlenk];exact hidx)];exact hokk _ (List.getElem_mem _)
    obtain ⟨F,hF⟩:∃F,fs[idx]?.getD default=F:=⟨_,rfl⟩;rw[hF] at hfm hkt hfok;obtain ⟨v,hblk,hRb,hrow⟩:=hfm;obtain ⟨b,hb⟩:∃b,A1.φ[idx]?.getD 0=b:=⟨_,rfl⟩;have hfp:fptr A1.φ idx = .pointer (some ⟨b,0,none⟩):=by unfold fptr;rw[hb]
    rw[hb] at hblk hRb;rw[hfp] at hlk;have hvb:v.ownBlock≠some b:=fun e=>by have:=hrow.2 b e;omega
    obtain ⟨wv,hwv⟩:∃u,Kne data i=u:=⟨_,rfl⟩
    have hwb:-9223372036854775808≤wv∧wv≤9223372036854775807:=by
     rw[←hwv];unfold Kne
     split
     ·omega
     ·rename_i hne
      have hp:0 < data.length:=List.length_pos_iff.2 hne;have hm:=Nat.mod_lt i hp;rw[List.getElem?_eq_getElem hm];exact HDB.out _ (List.getElem_mem hm)
    have hKC:=Qej b F v wv zeros wr hblk hrow.1 hvb hwb.1 hwb.2 M (by omega) hfok.ok (by have:=hfok.sum;omega) (by have:=hfok.sum;omega) (by have:=hfok.sl;omega);obtain ⟨kt,hktx⟩:∃t,(keepF F wv zeros).now=t:=⟨_,rfl⟩;have hkp:keepF F wv zeros=⟨kt,kt,[]⟩:=by rw[←hktx];rfl
    rw[hkp] at hKC
    have hkt2:Kba data zeros (S.take (i+1)) 0 d.files=fs.set idx ⟨kt,kt,[]⟩:=by
     rw[hkt,←hkp,←hwv];rfl
    have HKC:=Jh hKC;have HKT:=Jh hkt2;have HXL:=Jh hxl;have HCD2:=Jh hcd;have HRB:=Jh hRb;have HB:=Jh hb;have HDO:=Jh (HO7.out.trans hOr);have hpr:p < wr.heap.size:=Kaf j1;clear hkt hth hthd hthe hkn hidx hsz hval hpz kk hRk hNl hN hsy hlenk hokk hfs hxl hfa hfok hF hblk hRb hrow hb hfp hvb hKC hktx hkp hkt2 hcd hOr hix
    have hnext:∀w8,Kmv b ⟨kt,kt,[]⟩ wr (.returned (.tuple #[])) w8→CD B0 w8 R1 A1 { d with things:=L,files:=Kba data zeros (S.take (i+1)) 0 d.files }∧Own R1 R1 w7 w8:=by
     rintro w8 ⟨_,hbl8,hO8⟩;have hk8:∀k,R1 k≠10+2*idx→k < wr.heap.size→w8.heap[k]? = wr.heap[k]?:=fun k hk hkl=>hO8.block k hkl (Kdo (fun e=>hk (by rw[e];exact HRB.out)) (fun e=>hk (by rw[e];exact HRB.out)))
     rw[HKT.out];refine ⟨HCD2.out.file_only HXL.out (fun k h0 h1 _=>⟨hk8 k h1 (HCD2.out.inw k h0),rfl⟩) (HCD2.out.inw.mono hO8.size) HCD2.out.low ?_,HOR.out.trans ⟨hO8.os,hO8.tape,hO8.output,hO8.size,fun k hk hr=>hk8 k (by omega) hk,fun _ _=>rfl⟩⟩;rw[HB.out];exact ⟨.slice none 0 0,hbl8,HRB.out,RowIs.nil⟩
    have HNX:=Jh hnext;clear hnext
    by_cases hnd0:nd=0
    ·have g1:decide ((0:Int) < (nd:Int))=false:=by simp;omega
     have g2:decide (0 < nd)=false:=by simp;omega
     have hw0:wv=0:=by
      rw[←hwv];unfold Kne;rw[if_pos (List.eq_nil_of_length_eq_zero (by rw[Elems.len HDAT.out];exact hnd0))]
     subst hw0;clear hwv hnd0;go_wp2_with fail
     refine HKC.out.mono ?_;rintro e w8 hK8;obtain ⟨hc8,hO8⟩:=HNX.out w8 ⟨rfl,hK8.2⟩;obtain ⟨rfl,_⟩:=hK8;clear hlk j1 mk;go_wp2_with fail
     go_roundg (gk - 1)
     case measure=>have:=HIG.out;omega
     case rel=>exact ⟨i+1,by have:=HIG.out;omega,by go_num,hc8,hO8⟩
    ·have g1:decide ((0:Int) < (nd:Int))=true:=by simp;omega
     have g2:decide (0 < nd)=true:=by simp;omega
     have hln:=Elems.len HDAT.out;have hne:data≠[]:=fun e=>by rw[e] at hln;exact hnd0 (by simpa using hln.symm)
     have hmod:=Nat.mod_lt i (show 0 < nd by omega);obtain ⟨bd,od,hAd,hbd,kd⟩:=HDAT.out.at_ hmod;have hRbd:=HDR.out _ hAd (by omega);have md':=Kcw HDO.out kd hRbd;subst hAd;obtain ⟨r,hr⟩:∃r,i % nd=r:=⟨_,rfl⟩;have hrr:(i:Int) % (nd:Int)=(r:Int):=by omega
     have hval:data[i % nd]! = wv:=by
      rw[←hwv];unfold Kne;rw[if_neg hne,hln,getElem!_pos data (i % nd) (by rw[hln];exact hmod),List.getElem?_eq_getElem (by rw[hln];exact hmod)];rfl
     rw[hval,hr] at md';rw[hr] at hmod;have hrn:(r:Int) < (nd:Int):=by omega
     have hmin:(i:Int).tmod (nd:Int)=(r:Int):=by rw[Int.tmod_eq_emod_of_nonneg (by omega)];exact hrr
     clear hwv hnd0 hln hne hr hval kd hRbd;go_wp2_with fail
     refine HKC.out.mono ?_;rintro e w8 hK8;obtain ⟨hc8,hO8⟩:=HNX.out w8 ⟨rfl,hK8.2⟩;obtain ⟨rfl,_⟩:=hK8;clear hlk j1 mk md' hrr hmin;go_wp2_with fail
     go_roundg (gk - 1)
     case measure=>have:=HIG.out;omega
     case rel=>exact ⟨i+1,by have:=HIG.out;omega,by go_num,hc8,hO8⟩
   ·have el:decide ((i:Int) < (KN:Int))=false:=by simp;omega
    have el':decide (i < KN)=false:=by simp;omega
    have htk:S.take i=S:=List.take_of_length_le (by rw[HSN.out];omega);rw[htk] at hcd;have hsx:SM wr x (dirF L):=by rw[←HMD.out];exact hcd.dirs.1
    have hsy:SM wr y (filF A1.φ L):=by rw[←HMF.out];exact hcd.files.1
    have HTW2:=Jh (Kgp x y (dirF L) (filF A1.φ L) wr hsx hsy);have j0:wr.cell? ⟨p,0,none⟩=some (.map (some x)):=by rw[←HP1.out,←HMD.out];exact Blk.cell hcd.blk 0
    have j1:wr.cell? ⟨p,1,none⟩=some (.map (some y)):=by rw[←HP1.out,←HMF.out];exact Blk.cell hcd.blk 1
    have hpr:p < wr.heap.size:=Kaf j1;have HC9:=Jh hcd;clear hsx hsy htk hcd hOr;go_wp2_with fail
    refine HTW2.out.mono ?_;rintro _ w9 ⟨x2,y2,rfl,hx2,hy2,hxy2,hxl2,hyl2,hb9⟩;have hBr:B0≤wr.heap.size:=by have:=(HO7.out.trans HOR.out).size;omega
    obtain ⟨hcd9,hO9⟩:=HC9.out.resafe hb9 hx2 hy2 hxy2 hxl2 hyl2 hBr;obtain ⟨hcd10,hO10⟩:=hcd9.lights;have hblk:=HC9.out.blk;unfold DBlk at hblk;have hblk9:=hblk.below hb9 hblk.lt;rw[HP1.out] at hblk9;obtain ⟨sd2,hsd2⟩:∃x,A1.sd=x:=⟨_,rfl⟩;obtain ⟨sf2,hsf2⟩:∃x,A1.sf=x:=⟨_,rfl⟩;rw[hsd2,hsf2,HSV.out] at hblk9;have q2:w9.cell? ⟨p,2,none⟩=some (.map (some sd2)):=hblk9.cell 2;have q3:w9.cell? ⟨p,3,none⟩=some (.map (some sf2)):=hblk9.cell 3;have q4:w9.cell? ⟨p,4,none⟩=some (.slice X2 ns c2):=hblk9.cell 4;have q6:w9.cell? ⟨p,6,none⟩=some (.bool d.off):=hblk9.cell 6;have q7:w9.cell? ⟨p,7,none⟩=some (.int .i64 (d.await:Int)):=hblk9.cell 7;have f2:=hblk9.frozen 2;have f3:=hblk9.frozen 3;have f4:=hblk9.frozen 4;have f6:=hblk9.frozen 6;have f7:=hblk9.frozen 7;have hpl9:p < w9.heap.size:=Kaf q2
    have hfin:Qbt B0 R A (Kbc d nst data zeros) w (.returned (.tuple #[])) (((((w9.setCell ⟨p,2,none⟩ (.map (some x2))).setCell ⟨p,3,none⟩ (.map (some y2))).setCell ⟨p,4,none⟩ (.slice none 0 0)).setCell ⟨p,6,none⟩ (.bool false)).setCell ⟨p,7,none⟩ (.int .i64 0)):=by
     rw[HE.out];simp only[HP1.out] at hcd9 hO9 hcd10 hO10;unfold safeW at hcd10 hO9 hO10;exact ⟨_,_,rfl,hcd10,((HO7.out.trans HOR.out).trans hO9).trans hO10,HP.out.symm⟩
    have HFIN:=Jh hfin;clear hfin hcd9 hO9 hcd10 hO10 hblk hblk9 hsd2 hsf2 hx2 hy2 hxy2 hxl2 hyl2 hb9 j0 j1;go_wp2_with fail
    go_end0
    exact HFIN.out
end
end
section
open Go.RowKit Go.Shelf Go.Maps Go.Sort
attribute [local go_sem ↓] Go.wp_at_zero Go.wp_at_succ
attribute [local go_sem] Later.cell
def one:St→Th→List Th
 | .mkdir _,x=>[x]
 | .create _ _,x=>[x]
 | .remove a,x=>if x.path == a || Kbm x.path a then [] else [x]
 | .rename a b,x=>if x.path == b then [] else [mv a b x]
section
variable {l : List Th} {X : Option Addr} {n c : Nat} {w : World}
end
def encEn (e:En):List Value:=[txtV e.name,.bool e.dir,.int .i64 (e.size:Int)]
theorem Qcc:∀{m:List En} {j:Nat} {e:En} (k:Nat),m[j]? = some e→k < 3→(m.flatMap encEn)[j*3+k]? = (encEn e)[k]?
 | [],_,_,_,h,_=>by simp at h
 | f :: m,0,e,k,h,hk=>by
  simp at h;subst h;rw[List.flatMap_cons,Nat.zero_mul,Nat.zero_add,List.getElem?_append_left (by simpa[encEn] using hk)]
 | f :: m,j+1,e,k,h,hk=>by
  rw[List.flatMap_cons,List.getElem?_append_right (by simp[encEn];omega)];rw[show (j+1)*3+k - (encEn f).length=j*3+k by simp[encEn];omega];exact Qcc k (by simpa using h) hk
theorem Qbw:∀a b:Txt,Lib.compareBytes a b < 0↔a < b
 | [],[]=>by simp[Lib.compareBytes]
 | [],_ :: _=>by simp[Lib.compareBytes]
 | _ :: _,[]=>by simp[Lib.compareBytes]
 | a :: p,b :: q=>by
  rw[Lib.compareBytes,List.cons_lt_cons_iff]
  by_cases h1:a < b
  ·simp[h1]
  ·rw[if_neg h1]
   by_cases h2:b < a
   ·rw[if_pos h2];have hne:a≠b:=fun e=>by subst e;exact UInt8.lt_irrefl _ h2
    simp[h1,hne]
   ·rw[if_neg h2,Qbw p q];have he:a=b:=UInt8.le_antisymm (UInt8.not_lt.1 h2) (UInt8.not_lt.1 h1);simp[h1,he]
def cfE (x y:En):Int:=Lib.compareBytes x.name y.name
theorem ltE (x y:En):ltOf cfE x y=decide (x.name < y.name):=by
 unfold ltOf cfE;rw[decide_eq_decide];exact Qbw _ _
theorem swoE:SWO (ltOf cfE) where
 irrefl x:=by rw[ltE];simp[List.lt_irrefl]
 trans x y z h1 h2:=by
  rw[ltE,decide_eq_true_eq] at h1 h2 ⊢;exact List.lt_trans h1 h2
 ntrans x y z h1 h2:=by
  rw[ltE,decide_eq_false_iff_not] at h1 h2 ⊢;exact List.not_lt.2 (List.le_trans (List.not_lt.1 h2) (List.not_lt.1 h1))
theorem Kos (x:En):(encEn x).length=3:=rfl
theorem Qkn (x:En):∀v∈encEn x,v.oneCell'=true:=by
 intro v hv;simp[encEn] at hv;rcases hv with rfl | rfl | rfl <;> rfl
theorem Ktm (l:List En):(l.flatMap encEn).length=l.length*3:=by
 induction l with
 | nil=>rfl
 | cons x l ih=>rw[List.flatMap_cons,List.length_append,ih,Kos,List.length_cons];omega
theorem Ktl {l:List En} {t:Nat} (h:t < l.length*3):(l.flatMap encEn)[t]? = some ((encEn l[t / 3]!)[t % 3]!):=by
 have hl:t / 3 < l.length:=by omega
 have h1:l[t / 3]? = some l[t / 3]!:=by rw[getElem!_pos l _ hl,List.getElem?_eq_getElem hl]
 have h2:=Qcc (t % 3) h1 (by omega);rw[show t / 3*3+t % 3=t by omega] at h2;have h3:t % 3 < (encEn l[t / 3]!).length:=by rw[Kos];omega
 rw[h2,List.getElem?_eq_getElem h3,getElem!_pos (encEn l[t / 3]!) _ h3]
set_option maxHeartbeats 400000 in
theorem Qeq (x y:En) (W:World) :
  Calls Tryz.prog 70 #[.agg (encEn x).toArray,.agg (encEn y).toArray] W fun e w'=>e = .returned (.int .i64 (cfE x y))∧∃q os',w'=grow (W.drewN q) os':=by
 obtain ⟨xn,xd,xs⟩:=x;obtain ⟨yn,yd,ys⟩:=y;have hcon:=fun W'=>Tryz.strings_Compare ⟨xn.toArray⟩ ⟨yn.toArray⟩ W'
 simp only[List.toList_toArray] at hcon;unfold cfE;obtain ⟨r,hr⟩:∃r,Lib.compareBytes xn yn=r:=⟨_,rfl⟩;simp only[hr] at hcon ⊢;have HC:=Lib.hid hcon;clear hcon hr;unfold encEn txtV;obtain ⟨X,hX⟩:∃X:ByteArray,(⟨xn.toArray⟩:ByteArray)=X:=⟨_,rfl⟩;obtain ⟨Y,hY⟩:∃X:ByteArray,(⟨yn.toArray⟩:ByteArray)=X:=⟨_,rfl⟩;simp only[hX,hY] at HC ⊢;clear hX hY;go_enter Tryz.func70,Tryz.ntmps70
 go_wp2_with fail
 refine (HC.out _).mono ?_;rintro e w' ⟨rfl,rfl⟩;go_wp2_with fail
 go_ret
 exact ⟨rfl,0,_,by rw[alloc_eq_grow,alloc_eq_grow,grow_grow];rfl⟩
theorem Kxl {α : Type} [Inhabited α] (enc:α→List Value) (k:Nat) (w:World) (blk off n:Nat) (d:Array α) (os:Array Obj):w.grownBy (sortWorldK enc k w blk off n d os) (some blk):=by
 refine ⟨rfl,rfl,rfl,?_,?_⟩
 ·simp[sortWorldK,grow,putRowK,putRow,mapBlock,Sort.ahead]
 ·intro j hj hne;have hb:¬blk=j:=fun e=>hne (by rw[e])
  simp only[sortWorldK,grow,putRowK,putRow,mapBlock,Sort.ahead];rw[Array.getElem?_append_left (by simpa using hj),Array.getElem?_modify,if_neg hb]
def Qmx (w:World) (B g n cap:Nat) (l:List En) (e:Ending) (w':World):Prop:=
 e = .returned (.tuple #[])∧∃l':List En,l'.Perm l∧l'.Pairwise LeE∧w'.ownsRow B 148 3 (.slice (some ⟨g,0,none⟩) n cap) n (l'.flatMap encEn)∧w.grownBy w' (some g)
theorem Kvs (l:List En) (g cap n B:Nat) (w:World) (hown:w.ownsRow B 148 3 (.slice (some ⟨g,0,none⟩) n cap) n (l.flatMap encEn)) (hl:l.length=n) (hn:n≤1073741824) :
  Calls Tryz.prog 69 #[.slice (some ⟨g,0,none⟩) n cap,.func (.func 70) #[] #[]] w (Qmx w B g n cap l):=by
 have hlt:=World.ownsRow.lt hown g rfl;rcases hown.2 with ⟨he,_⟩ | ⟨g',cap',cur,he,h1,h2,h3,h4,h5,h6⟩
 ·cases he
 ·injection he with he _ hcc;injection he with he;injection he with he _ _;subst he hcc
  have hH:HoldsK encEn 3 w g 0 l.toArray:=by
   intro t ht;rw[size_flatK] at ht;have ht':t < l.length*3:=by simpa using ht
   refine ⟨?_,by simp[World.frozen?,h2]⟩;rw[get_flatK _ _ _ _ ht,Nat.zero_add,cell_of_row w g t cur _ (0,0) h2]
   have e1:cur[t]? = (l.flatMap encEn)[t]?:=by
    rw[←h6,List.getElem?_take_of_lt (by omega)];simp
   rw[e1,Ktl ht'];simp only[List.getElem!_toArray,id]
  have eg:∀args w,(callFunc 70 args).run Tryz.prog w = .ok (.enter 70 args) w:=enters_of Tryz.func70 (by kernel_rfl) rfl;have hcon:=AnyQ.slices_SortFunc Tryz.laysSFE 3 Tryz.isAgg148 Tryz.sizeOf148 encEn Kos Qkn cfE swoE 70 #[] g 0 cap l.toArray w eg (fun _ _ _ _ x y=>Qeq x y _) hH hlt.2 (by simp;omega);simp only[List.size_toArray,hl] at hcon;refine hcon.mono ?_;rintro e w' ⟨rfl,d',m,os,hp,hs,rfl⟩;obtain ⟨hsz,_,hpm⟩:=hp;have hsz':d'.size=n:=by rw[hsz];simpa using hl
  have hpm':d'.toList.Perm l:=by
   have e1:(d'.extract 0 n)=d':=by rw[←hsz'];simp
   have e2:(l.toArray.extract 0 n)=l.toArray:=by rw[←hl];simp
   rw[e1,e2] at hpm;simpa using hpm
  refine ⟨rfl,d'.toList,hpm',?_,?_,Kxl _ _ _ _ _ _ _ _⟩
  ·rw[List.pairwise_iff_getElem];intro i j hi hj hij;have hi':i < d'.size:=by simpa using hi
   have hj':j < d'.size:=by simpa using hj
   have:=hs i j (Nat.zero_le _) hij (by omega);rw[ltE,decide_eq_false_iff_not,getElem!_pos d' j hj',getElem!_pos d' i hi'] at this;exact this
  ·refine ⟨by rw[Ktm];simp[hsz'],.inr ⟨g,cap,putCells id 0 (flatK encEn 3 d') cur,rfl,h1,?_,h3,h4,by simp[putCells,h5],?_⟩⟩
   ·simp only[sortWorldK,grow,putRowK,putRow,mapBlock,Sort.ahead];rw[Array.getElem?_append_left (by simpa using hlt.2),Array.getElem?_modify,if_pos rfl,h2];rfl
   ·apply List.ext_getElem?;intro t
    by_cases ht:t < n*3
    ·rw[List.getElem?_take_of_lt ht,Ktl (by simpa[hsz'] using ht)];have htc:t < cur.size:=by rw[h5];exact Nat.lt_of_lt_of_le ht (Nat.mul_le_mul_right 3 h3)
     have hts:t < (flatK encEn 3 d').size:=by rw[size_flatK,hsz'];exact ht
     simp only[putCells,Array.getElem?_toList,Array.getElem?_mapIdx,Array.getElem?_eq_getElem htc,Option.map_some];rw[if_pos ⟨Nat.zero_le _,by simpa using hts⟩,Nat.sub_zero,get_flatK _ _ _ _ (by rw[hsz'];exact ht)];congr 2;have hq:t / 3 < d'.size:=by omega
     rw[getElem!_pos d' _ hq,getElem!_pos d'.toList _ (by simpa using hq)];simp
    ·rw[List.getElem?_eq_none (by rw[List.length_take];omega),List.getElem?_eq_none (by rw[Ktm];simp[hsz'];omega)]
end
section
open Go.RowKit Go.Shelf Go.Maps Go.Sort
theorem Qnq {out tgt:List En} (h1:(out.map En.name).Nodup) (h2:(tgt.map En.name).Nodup) (h:∀e,e∈out↔e∈tgt):out.Perm tgt:=
 (List.perm_ext_iff_of_nodup (Kim h1) (Kim h2)).2 h
theorem Ktt (left:Lit→Bool) (k z:Txt):(left (.string z) && !(Lit.string z).sameKey (.string k))=false↔(left (.string z)=false∨z=k):=by
 cases h1:left (.string z) with
 | false=>simp
 | true=>
  rw[Bool.true_and];constructor
  ·intro h2;right;exact Kgl.1 (by simpa using h2)
  ·rintro (h2 | h2)
   ·cases h2
   ·rw[Kgl.2 h2];rfl
def Inv1 (l:List Th) (left:Txt→Bool) (out:List En):Prop:=
 (out.map En.name).Nodup∧∀e,e∈out↔∃x∈l,x.dir=true∧left x.path=false∧e=⟨x.path,true,0⟩
def Inv2 (d:Ds) (l:List Th) (left:Txt→Bool) (out:List En):Prop:=
 (out.map En.name).Nodup∧∀e,e∈out↔(∃x∈l,x.dir=true∧e=⟨x.path,true,0⟩)∨∃x∈l,x.dir=false∧Kai x.path=none∧left x.path=false∧e=⟨x.path,false,(nowAt d x.at_).length⟩
section
variable {d : Ds} {l : List Th} {n : Nat} {left left' : Txt → Bool} {out : List En}
theorem Inv1.start (h:∀x∈l,x.dir=true→left x.path=true):Inv1 l left []:=by
 refine ⟨by simp,fun e=>⟨fun h=>by simp at h,?_⟩⟩;rintro ⟨x,hx,h1,h2,_⟩;rw[h x hx h1] at h2;cases h2
theorem Inv1.step (hw:TW n l) (h:Inv1 l left out) {k:Txt} (hk:∃x∈l,x.dir=true∧x.path=k) (hlk:left k=true) (hl:∀z,left' z=false↔(left z=false∨z=k)):Inv1 l left' (out ++ [⟨k,true,0⟩]):=by
 obtain ⟨y,hy,hyd,rfl⟩:=hk;refine ⟨?_,fun e=>?_⟩
 ·rw[List.map_append,List.nodup_append];refine ⟨h.1,by simp,?_⟩;intro a ha b hb e;simp at hb;subst hb e;obtain ⟨e1,he1,hne⟩:=List.mem_map.1 ha;obtain ⟨x,hx,_,hx2,rfl⟩:=(h.2 e1).1 he1;simp only at hne;rw[hne] at hx2;rw[hx2] at hlk;cases hlk
 ·rw[List.mem_append,h.2 e,List.mem_singleton];constructor
  ·rintro (⟨x,hx,h1,h2,rfl⟩ | rfl)
   ·exact ⟨x,hx,h1,(hl _).2 (.inl h2),rfl⟩
   ·exact ⟨y,hy,hyd,(hl _).2 (.inr rfl),rfl⟩
  ·rintro ⟨x,hx,h1,h2,rfl⟩;rcases (hl _).1 h2 with h3 | h3
   ·exact .inl ⟨x,hx,h1,h3,rfl⟩
   ·exact .inr (by rw[h3])
theorem Inv1.to_two (hw:TW n l) (h:Inv1 l left out) (h0:∀x,left x=false) (hs:∀x∈l,x.dir=false→left' x.path=true):Inv2 d l left' out:=by
 refine ⟨h.1,fun e=>?_⟩;rw[h.2 e];constructor
 ·rintro ⟨x,hx,h1,_,rfl⟩;exact .inl ⟨x,hx,h1,rfl⟩
 ·rintro (⟨x,hx,h1,rfl⟩ | ⟨x,hx,h1,_,h3,rfl⟩)
  ·exact ⟨x,hx,h1,h0 _,rfl⟩
  ·rw[hs x hx h1] at h3;cases h3
theorem Inv2.step (hw:TW n l) (h:Inv2 d l left out) {x:Th} (hx:x∈l) (hd:x.dir=false) (hs:Kai x.path=none) (hlk:left x.path=true) (hl:∀z,left' z=false↔(left z=false∨z=x.path)):Inv2 d l left' (out ++ [⟨x.path,false,(nowAt d x.at_).length⟩]):=by
 refine ⟨?_,fun e=>?_⟩
 ·rw[List.map_append,List.nodup_append];refine ⟨h.1,by simp,?_⟩;intro a ha b hb e;simp at hb;subst hb e;obtain ⟨e1,he1,hne⟩:=List.mem_map.1 ha;rcases (h.2 e1).1 he1 with ⟨y,hy,hyd,rfl⟩ | ⟨y,hy,hyd,_,hy2,rfl⟩
  ·have:=Kfp hw.nodup hy hx hne;rw[this,hd] at hyd;cases hyd
  ·simp only at hne;rw[hne,hlk] at hy2;cases hy2
 ·rw[List.mem_append,h.2 e,List.mem_singleton];constructor
  ·rintro ((h1 | ⟨y,hy,h1,h2,h3,rfl⟩) | rfl)
   ·exact .inl h1
   ·exact .inr ⟨y,hy,h1,h2,(hl _).2 (.inl h3),rfl⟩
   ·exact .inr ⟨x,hx,hd,hs,(hl _).2 (.inr rfl),rfl⟩
  ·rintro (h1 | ⟨y,hy,h1,h2,h3,rfl⟩)
   ·exact .inl (.inl h1)
   ·rcases (hl _).1 h3 with h4 | h4
    ·exact .inl (.inr ⟨y,hy,h1,h2,h4,rfl⟩)
    ·have:=Kfp hw.nodup hy hx h4;subst this;exact .inr rfl
theorem Inv2.skip (hw:TW n l) (h:Inv2 d l left out) {x:Th} (hx:x∈l) (hs:Kai x.path≠none) (hl:∀z,left' z=false↔(left z=false∨z=x.path)):Inv2 d l left' out:=by
 refine ⟨h.1,fun e=>?_⟩;rw[h.2 e];constructor
 ·rintro (h1 | ⟨y,hy,h1,h2,h3,rfl⟩)
  ·exact .inl h1
  ·exact .inr ⟨y,hy,h1,h2,(hl _).2 (.inl h3),rfl⟩
 ·rintro (h1 | ⟨y,hy,h1,h2,h3,rfl⟩)
  ·exact .inl h1
  ·rcases (hl _).1 h3 with h4 | h4
   ·exact .inr ⟨y,hy,h1,h2,h4,rfl⟩
   ·rw[h4] at h2;exact absurd h2 hs
theorem Inv1.len (h:Inv1 l left out):out.length≤l.length:=by
 have:=Kgx (out.map En.name) (l.map Th.path) h.1 (fun z hz=>by
  obtain ⟨e,he,rfl⟩:=List.mem_map.1 hz;obtain ⟨x,hx,_,_,rfl⟩:=(h.2 e).1 he
  exact List.mem_map.2 ⟨x,hx,rfl⟩)
 simpa using this
theorem Inv2.len (h:Inv2 d l left out):out.length≤l.length:=by
 have:=Kgx (out.map En.name) (l.map Th.path) h.1 (fun z hz=>by
  obtain ⟨e,he,rfl⟩:=List.mem_map.1 hz;rcases (h.2 e).1 he with ⟨x,hx,_,rfl⟩ | ⟨x,hx,_,_,_,rfl⟩
  ·exact List.mem_map.2 ⟨x,hx,rfl⟩
  ·exact List.mem_map.2 ⟨x,hx,rfl⟩)
 simpa using this
theorem Inv2.all (hw:TW n d.things) (h:Inv2 d d.things left out) (h0:∀x,left x=false):out.Perm (entD d []):=by
 refine Qnq h.1 (Kpx hw.nodup []) fun e=>?_
 rw[h.2 e];unfold entD;rw[List.mem_filterMap];constructor
 ·rintro (⟨x,hx,h1,rfl⟩ | ⟨x,hx,h1,h2,_,rfl⟩)
  ·refine ⟨x,hx,?_⟩;rw[if_pos rfl,Kbs (hw.dirs x hx h1),h1];rfl
  ·refine ⟨x,hx,?_⟩;rw[if_pos rfl,h2,h1];rfl
 ·rintro ⟨x,hx,h1⟩;rw[if_pos rfl] at h1
  cases hs:Kai x.path with
  | some k=>rw[hs] at h1;simp at h1
  | none=>
   rw[hs] at h1;simp only[Option.isSome_none,Bool.false_eq_true,if_false,Option.some.injEq] at h1
   cases hd:x.dir with
   | true=>exact .inl ⟨x,hx,hd,by rw[←h1,hd];rfl⟩
   | false=>exact .inr ⟨x,hx,hd,hs,h0 _,by rw[←h1,hd];rfl⟩
end
theorem Qla {d:Ds} {n:Nat} (hw:TW n d.things) {dir:Txt} {l:List En} (hp:l.Perm (entD d dir)) (hs:l.Pairwise LeE):l=sortE (entD d dir):=Qjg hw.nodup hp hs
end
section
open Go.RowKit Go.Shelf Go.Maps Go.Sort
open Lib renaming hid → Jh
attribute [local go_sem ↓] Go.wp_at_zero Go.wp_at_succ
attribute [local go_sem] Later.cell
def Kdn (w:World) (B:Nat) (v:Value) (l:List En):Prop:=w.ownsRow B 148 3 v l.length (l.flatMap encEn)
def Khy (a:Nat→Addr) (r:List En×Nat) (s:ByteArray) (w:World) (e:Ending) (w':World):Prop:=
 ∃v u,e = .returned (.tuple #[v,u])∧ErrV a w' ⟨#[108,105,115,116]⟩ s r.2 u∧Kdn w' w.heap.size v r.1∧Below w.heap.size w w'
theorem Qhc:(Tryz.prog.info? 148).map (fun i=>(i.zero,i.size,i.bytes))=some (some (.agg #[.string ⟨#[]⟩,.bool false,.int .i64 0]),3,32):=by kernel_rfl
theorem Khy.bad {a:Nat→Addr} {w w':World} {s:ByteArray} {k:Nat} {u:Value} (hu:ErrV a w' ⟨#[108,105,115,116]⟩ s k u) (hb:Below w.heap.size w w'):Khy a ([],k) s w (.returned (.tuple #[.slice none 0 0,u])) w':=⟨_,_,rfl,hu,World.ownsRow_nil _ _ _ _,hb⟩
theorem Kdn.slice {w:World} {B:Nat} {v:Value} {l:List En} (h:Kdn w B v l):(l = []∧v = .slice none 0 0)∨∃g c,v = .slice (some ⟨g,0,none⟩) l.length c:=by
 rcases h.2 with ⟨h1,h0⟩ | ⟨g,cap,cur,h1,_⟩
 ·exact .inl ⟨List.eq_nil_of_length_eq_zero h0,h1⟩
 ·exact .inr ⟨g,cap,h1⟩
def Qmw (w:World) (B:Nat) (v:Value) (l:List En) (e:Ending) (w':World):Prop:=
 e = .returned (.tuple #[])∧∃l':List En,l'.Perm l∧l'.Pairwise LeE∧Kdn w' B v l'∧w.grownBy w' v.ownBlock
theorem Kvq (l:List En) (B:Nat) (v:Value) (w:World) (h:Kdn w B v l) (hn:l.length≤1073741824) :
  Calls Tryz.prog 69 #[v,.func (.func 70) #[] #[]] w (Qmw w B v l):=by
 rcases h.slice with ⟨rfl,rfl⟩ | ⟨g,c,rfl⟩
 ·refine (AnyF.slices_SortFunc_none Tryz.laysSFE none 0 _ w).mono ?_;rintro e w' ⟨rfl,rfl⟩;exact ⟨rfl,[],.refl _,List.Pairwise.nil,h,⟨rfl,rfl,rfl,Nat.le_refl _,fun _ _ _=>rfl⟩⟩
 ·refine (Kvs l g c l.length B w h rfl hn).mono ?_;rintro e w' ⟨rfl,l',h1,h2,h3,h4⟩;refine ⟨rfl,l',h1,h2,?_,h4⟩;unfold Kdn;rw[h1.length_eq];exact h3
theorem Ksa (s:ByteArray):(decide (0≤Lib.indexByte s.data.toList 47))=(Kai s.data.toList).isSome:=by
 rw[Kjf]
 cases Kai s.data.toList with
 | none=>rfl
 | some k=>simp
section
variable {B0 : Nat} {a : Nat → Addr} {R : Nat → Nat} {A : Adr} {d : Ds}
theorem Qhx (w:World) (h:CD B0 w R A d) (hf:Fit d) (hB:B0≤w.heap.size) (hF:Fails B0 a w) (hnl:∀i,(fAt d i).now.length≤1073741824) :
  Calls Tryz.prog 22 #[.pointer (some ⟨A.p,0,none⟩),.string ⟨#[]⟩] w (Khy a (listD d []) ⟨#[]⟩ w):=by
 obtain ⟨i0,hi0,hz0,hz1,hz2⟩:=info_parts Qhc;obtain ⟨p,hp⟩:∃p,A.p=p:=⟨_,rfl⟩;have HP:=Jh hp;have hoff:w.cell? ⟨p,6,none⟩=some (.bool d.off):=by rw[←hp];exact Blk.cell h.blk 6
 obtain ⟨k,hk⟩:∃k,Kcc d.off true=k:=⟨_,rfl⟩;have HK:=Jh hk;have HRD:=Jh (Kea (B0:=B0) (a:=a) p d.off true ⟨#[108,105,115,116]⟩ ⟨#[]⟩ k hk w hoff hF);obtain ⟨LD,hLD⟩:∃r,listD d []=r:=⟨_,rfl⟩;have hld:LD=if d.off=true then ([],1) else (sortE (entD d []),0):=by rw[←hLD];unfold listD;simp
 have HLD:=Jh hld;rw[hLD,hp];have HNL:=Jh hnl;clear hk hp hoff hLD hld hnl;go_enter Tryz.func22,Tryz.ntmps22
 go_wp2_with fail
 refine HRD.out.mono ?_;rintro _ w1 ⟨v,rfl,hv1,hb1⟩
 cases k with
 | succ k=>
  have hfin:Khy a LD ⟨#[]⟩ w (.returned (.tuple #[.slice none 0 0,v])) w1:=by
   have e1:LD=([],k+1):=by
    have hk:=HK.out;unfold Kcc at hk;rw[HLD.out,←hk]
    cases ho:d.off with
    | true=>rfl
    | false=>rw[ho] at hk;simp at hk
   rw[e1];exact Khy.bad hv1 hb1
  obtain ⟨q4,rfl,_⟩:=hv1;have HFIN:=Jh hfin;clear hfin;go_wp2_with fail
  go_ret2
  exact HFIN.out
 | zero=>
  obtain rfl:v = .nilIface:=hv1
  have ho:d.off=false:=by
   have hk:=HK.out;unfold Kcc at hk
   cases ho:d.off with
   | true=>rw[ho] at hk;simp at hk
   | false=>rfl
  have hld:LD=(sortE (entD d []),0):=by rw[HLD.out,ho];rfl
  have HLE:=Jh hld;have hcd1:=h.below hb1;obtain ⟨md,hmd⟩:∃x,A.md=x:=⟨_,rfl⟩;obtain ⟨mf,hmf⟩:∃x,A.mf=x:=⟨_,rfl⟩;have c0:w1.cell? ⟨p,0,none⟩=some (.map (some md)):=by rw[←HP.out,←hmd];exact Blk.cell hcd1.blk 0
  have c1:w1.cell? ⟨p,1,none⟩=some (.map (some mf)):=by rw[←HP.out,←hmf];exact Blk.cell hcd1.blk 1
  have hsd:SM w1 md (dirF d.things):=by rw[←hmd];exact hcd1.dirs.1
  have hsf:SM w1 mf (filF A.φ d.things):=by rw[←hmf];exact hcd1.files.1
  have HCD1:=Jh hcd1;have HSF:=Jh hsf;have HB1:=Jh hb1;have hpl:p < w1.heap.size:=Kaf c0;have htl:=hf.tl;clear hcd1 hmd hmf hsf hld ho hb1;obtain ⟨D,hown,hhas,hat⟩:=hsd;have hsize:=SMap.size_le Tryz.underlying9 hown (d.things.map Th.path) (fun x hx=>Qcb (by rw[←hhas];exact hx));rw[List.length_map] at hsize;have HHAS:=Jh hhas;have hbl:=hown.lt;clear hhas hat;go_upto_block 0 with fail
  go_cut [7] (fun s7 wz=>∃v7 out,v7=s7∧Kdn wz w.heap.size v7 out∧out.Perm (entD d [])∧Below w.heap.size w wz)
  case first=>
   go_upto_block 3 with (at_range;refine wpList_range_own _ rfl _ 124 rfl 9 3 law3 Tryz.underlying124 HR md (Maps.size D) D rfl hown ?_;intro w0 hrg0 hg0 hs0)
   obtain ⟨r,hr⟩:∃r,w1.heap.size=r:=⟨_,rfl⟩;have hB0:Below r w1 w0:=⟨hg0.os,hg0.tape,hg0.output,hg0.size,fun k hk=>hg0.block k (by omega) (by simp)⟩;have HRS:=Jh hr;rw[hr] at hrg0 ⊢;clear hr hs0;go_frame
   go_cut [7] (fun s7 wz=>∃v7 out,v7=s7∧Kdn wz (r+1) v7 out∧Inv1 d.things (fun _=>false) out∧Below r w1 wz)
   case first=>
    go_wp2_with fail
    go_loopg [7] (Maps.size D) (fun g s7 wr=>∃(left:Lit→Bool) (cnt:Nat) (out:List En) (v7:Value),v7=s7∧cnt≤g∧wr.ranges Tryz.prog 9 HR md r (Maps.size D) D left cnt∧Kdn wr (r+1) v7 out∧Inv1 d.things (fun z=>left (.string z)) out∧Below r w1 wr)
    case atStart=>
     refine ⟨Maps.has D,Maps.size D,[],_,rfl,Nat.le_refl _,hrg0,World.ownsRow_nil _ _ _ _,Inv1.start fun x hx hd=>?_,hB0⟩;rw[HHAS.out x.path];exact Kdf.2 ⟨x,hx,hd,rfl⟩
    case round=>
     obtain ⟨left,cnt,out,v7,rfl,hcg,hrg,hrow,hinv,hB⟩:=hrel;have HINV:=Jh hinv;have HROW:=Jh hrow;have hol:=hinv.len;clear hinv;go_wp2_with (at_next;refine wpList_next_ranges _ rfl _ rfl 9 law3 HR Value.string (fun v:Value=>v) (fun key kl hk=>by obtain ⟨x,e,_⟩:=Maps.keyOf_str Tryz.underlying9 hk;exact ⟨_,e⟩) (fun v _ _=>⟨v,rfl⟩) md r (Maps.size D) D left cnt rfl hrg ?_ ?_)
     ·intro hc0 hl0
      have hfin:Inv1 d.things (fun _=>false) out:=by
       have h1:=HINV.out;have e:(fun z:Txt=>left (.string z))=fun _=>false:=by funext z;rw[hl0]
       rw[e] at h1;exact h1
      have HFI:=Jh hfin;clear hfin hc0 hl0;go_wp2_with fail
      go_meet
      exact ⟨v7,out,rfl,HROW.out,HFI.out,hB⟩
     ·intro x c kl y y2 w2 cnt2 hkx hlk hv hat2 hrg2 hlt hg2 hs2 hen;clear hs2;obtain ⟨k,e1,rfl,_⟩:=Maps.keyOf_str Tryz.underlying9 hkx
      have hxk:x.data.toList=k:=by
       have:(Value.string x)=encStr k:=e1;unfold encStr at this;injection this with this;rw[this]
      have hfk:(dirF d.things k).isSome=true:=by rw[←HHAS.out k];exact Maps.has_true_of_atKey hat2
      have hB2:Below r w1 w2:=hB.trans ⟨hg2.os,hg2.tape,hg2.output,hg2.size,fun j hj=>hg2.block j (by have:=hB.size;have:=HRS.out;omega) (fun e=>by injection e with e;omega)⟩
      have hrow2:w2.ownsRow (r+1) 148 3 v7 out.length (out.flatMap encEn):=World.ownsRow.kept hrow hg2 (.inr fun e=>by
       have:=(World.ownsRow.lt hrow r e).1
       omega)
      have hinv2:Inv1 d.things (fun z=>left (.string z) && !(Lit.string z).sameKey (.string k)) (out ++ [⟨k,true,0⟩]):=HINV.out.step hf.tw (Kdf.1 hfk) hlk (fun z=>Ktt left k z)
      have henc:(out ++ [(⟨k,true,0⟩:En)]).flatMap encEn=out.flatMap encEn ++ [.string x,.bool true,.int .i64 0]:=by
       rw[List.flatMap_append,←hxk];simp[encEn];unfold txtV;rw[←Kcs rfl]
      have HENC:=Jh henc;have HINV2:=Jh hinv2;obtain ⟨m,hm⟩:∃m,out.length=m:=⟨_,rfl⟩;have HM:=Jh hm;rw[hm] at hrow2 hol;have hrl2:r+1≤w2.heap.size:=hrg2.lt;clear henc hinv2 hm hfk hv hat2 hkx e1 hlk hg2 hrg hxk;go_wp2_with (at_builtin;refine wpList_append_own_at _ rfl _ _ 53 rfl (r+1) 148 i0 (.agg #[.string ⟨#[]⟩,.bool false,.int .i64 0]) 3 32 Tryz.underlying53 hi0 hz0 hz1 hz2 rfl (by decide) _ _ _ rfl (hrow2.alloc _) ⟨w2.heap.size,0,none⟩ 1 1 [.string x,.bool true,.int .i64 0] rfl rfl ?p1 ?p2 ?p3 ?p4 ?p5 ?_)
      case p1=>exact Kav (l:=[.string x,.bool true,.int .i64 0]) (Blk.new w2 _ _)
      case p2=>intro u hu;simp at hu;rcases hu with rfl | rfl | rfl <;> rfl
      case p3=>unfold maxLen;omega
      case p4=>omega
      case p5=>simp;omega
      intro v' w4 hown' hgrow _ _;have hall:w2.grownBy w4 v7.ownBlock:=(World.grownBy_alloc w2 _ _).trans hgrow;have hB4:Below r w1 w4:=hB2.trans ⟨hall.os,hall.tape,hall.output,hall.size,fun j hj=>hall.block j (by have:=hB2.size;omega) (fun e=>by have:=(World.ownsRow.lt hrow2 j e.symm).1;omega)⟩;have hrg4:=hrg2.kept hall (fun e=>by have:=(World.ownsRow.lt hrow2 md e.symm).1;have:=HRS.out;omega) (fun e=>by have:=(World.ownsRow.lt hrow2 r e.symm).1;omega)
      have hrow4:Kdn w4 (r+1) v' (out ++ [⟨k,true,0⟩]):=by
       unfold Kdn;rw[HENC.out,List.length_append,HM.out];exact hown'
      clear hown' hgrow hall hrow2 hrg2;go_wp2_with fail
      go_roundg (gk - 1)
      case measure=>omega
      case rel=>exact ⟨_,cnt2,_,_,rfl,by omega,hrg4,hrow4,HINV2.out,hB4⟩
   case rest=>
    obtain ⟨v7,out1,rfl,hrow,hinv,hB⟩:=hcut;obtain ⟨w5,rfl⟩:∃x,x=wc:=⟨_,rfl⟩;have hsf5:=HSF.out.below (by rw[HRS.out];exact hB) HSF.out.lt;obtain ⟨D2,hown2,hhas2,hat2⟩:=hsf5;have hsize2:=SMap.size_le Tryz.underlying9 hown2 (d.things.map Th.path) (fun x hx=>Kgg (φ:=A.φ) (by rw[←hhas2];exact hx));rw[List.length_map] at hsize2;have HHAS2:=Jh hhas2;have HAT2:=Jh hat2;have HINV1:=Jh hinv;have HROW1:=Jh hrow;have HB5:=Jh hB;have c1':w5.cell? ⟨p,1,none⟩=some (.map (some mf)):=(hB.cell (p:=⟨p,1,none⟩) (by rw[←HRS.out];exact hpl)).trans c1;have hmfl:mf < w1.heap.size:=HSF.out.lt;have hr5:r≤w5.heap.size:=by have:=hB.size;have:=HRS.out;omega
    clear hhas2 hat2 hinv hrow hB c0 c1 hrg0 hg0 hB0 hown;go_upto_block 5 with (at_range;refine wpList_range_own _ rfl _ 125 rfl 9 132 law3 Tryz.underlying125 HR mf (Maps.size D2) D2 rfl hown2 ?_;intro w6 hrg6 hg6 hs6)
    obtain ⟨r2,hr2⟩:∃r,w5.heap.size=r:=⟨_,rfl⟩;have hB6:Below r w1 w6:=HB5.out.trans ⟨hg6.os,hg6.tape,hg6.output,hg6.size,fun k hk=>hg6.block k (by omega) (by simp)⟩
    have hrow6:Kdn w6 (r+1) v7 out1:=World.ownsRow.kept HROW1.out hg6 (by
     cases v7.ownBlock with
     | none=>exact .inl rfl
     | some g=>exact .inr (by simp))
    have hvr:∀g,v7.ownBlock=some g→g≠r2:=fun g hg=>by have:=(World.ownsRow.lt HROW1.out g hg).2;omega
    have HRS2:=Jh hr2;rw[hr2] at hrg6 ⊢;clear hr2 hs6;go_frame
    go_wp2_with fail
    go_loopg [7] (Maps.size D2) (fun g s7 wr=>∃(left:Lit→Bool) (cnt:Nat) (out:List En) (v7:Value),v7=s7∧cnt≤g∧wr.ranges Tryz.prog 9 HR mf r2 (Maps.size D2) D2 left cnt∧Kdn wr (r+1) v7 out∧Inv2 d d.things (fun z=>left (.string z)) out∧Below r w1 wr∧(∀g,v7.ownBlock=some g→g≠r2))
    case atStart=>
     refine ⟨Maps.has D2,Maps.size D2,out1,_,rfl,Nat.le_refl _,hrg6,hrow6,HINV1.out.to_two hf.tw (fun _=>rfl) (fun x hx hd=>?_),hB6,hvr⟩;rw[HHAS2.out x.path];exact Option.isSome_iff_exists.2 ⟨_,(Kca hf.tw.nodup).2 ⟨x,hx,hd,rfl,rfl⟩⟩
    case round=>
     obtain ⟨left,cnt,out,v7,rfl,hcg,hrg,hrow,hinv,hB,hvr⟩:=hrel;have HINV:=Jh hinv;have HROW:=Jh hrow;have HVR:=Jh hvr;have hol:=hinv.len;clear hinv hvr;go_wp2_with (at_next;refine wpList_next_ranges _ rfl _ rfl 9 law3 HR Value.string (fun v:Value=>v) (fun key kl hk=>by obtain ⟨x,e,_⟩:=Maps.keyOf_str Tryz.underlying9 hk;exact ⟨_,e⟩) (fun v _ _=>⟨v,rfl⟩) mf r2 (Maps.size D2) D2 left cnt rfl hrg ?_ ?_)
     ·intro hc0 hl0;have hfin:out.Perm (entD d []):=HINV.out.all hf.tw (fun x=>by rw[hl0]);have hB':Below w.heap.size w wr:=HB1.out.trans ((show Below w1.heap.size w1 wr by rw[HRS.out];exact hB).mono HB1.out.size);have HFI:=Jh hfin;have HB':=Jh hB';have HRW:=Jh (show Kdn wr w.heap.size v7 out from World.ownsRow.mono HROW.out (by have:=HB1.out.size;have:=HRS.out;omega));clear hfin hc0 hl0 hB';go_wp2_with fail
      go_meet
      exact ⟨v7,out,rfl,HRW.out,HFI.out,HB'.out⟩
     ·intro x c kl y y2 w2 cnt2 hkx hlk hv hat2 hrg2 hlt hg2 hs2 hen;clear hs2;obtain ⟨k,e1,rfl,_⟩:=Maps.keyOf_str Tryz.underlying9 hkx
      have hxk:x.data.toList=k:=by
       have:(Value.string x)=encStr k:=e1;unfold encStr at this;injection this with this;rw[this]
      have hfk:(filF A.φ d.things k).isSome=true:=by rw[←HHAS2.out k];exact Maps.has_true_of_atKey hat2
      obtain ⟨v,hfv⟩:=Option.isSome_iff_exists.1 hfk
      have hcv:c=v:=by
       have h1:=HAT2.out k v hfv (.held v);rw[hat2] at h1;unfold HR at hv;injection hv with hv;injection hv with hv;rw[←hv] at h1;injection h1
      subst hcv;obtain ⟨t,htm,htd,rfl,hct⟩:=(Kca hf.tw.nodup).1 hfv;have hB2:Below r w1 w2:=hB.trans ⟨hg2.os,hg2.tape,hg2.output,hg2.size,fun j hj=>hg2.block j (by have:=hB.size;have:=HRS.out;omega) (fun e=>by injection e with e;have:=HRS2.out;omega)⟩;have hi:=hf.tw.ats t htm htd;obtain ⟨u1,hblk1,_⟩:=Khz HCD1.out hi;obtain ⟨g,hg⟩:∃g,A.φ[t.at_]?.getD 0=g:=⟨_,rfl⟩;unfold fptr at hct;rw[hg] at hblk1 hct;subst hct;obtain ⟨T,hT⟩:∃T:ByteArray,(⟨(fAt d t.at_).now.toArray⟩:ByteArray)=T:=⟨_,rfl⟩;have hTs:(nowAt d t.at_).length=T.size:=by rw[←hT];rfl
      have hTz:T.size≤1073741824:=by rw[←hTs];exact HNL.out t.at_
      have hblk2:=hblk1.below hB2 (by have:=hblk1.lt;have:=HRS.out;omega);have f0:w2.cell? ⟨g,0,none⟩=some (.string T):=by rw[←hT];exact hblk2.cell 0
      have hrow2:w2.ownsRow (r+1) 148 3 v7 out.length (out.flatMap encEn):=World.ownsRow.kept hrow hg2 (.inr fun e=>HVR.out r2 e rfl);obtain ⟨cs,hcs⟩:∃b,(Kai t.path).isSome=b:=⟨_,rfl⟩;have HCON:=Jh (fun w=>Tryz.strings_Contains_one x 47 w);have hcd:decide (0≤Lib.indexByte x.data.toList 47)=cs:=by rw[Ksa,hxk,hcs]
      rw[hcd] at HCON;have HHRG:=Jh hrg2;have HB2:=Jh hB2;have HR2:=Jh hrow2;have hls:=fun z=>Ktt left t.path z
      cases cs with
      | true=>
       have hinv2:Inv2 d d.things (fun z=>left (.string z) && !(Lit.string z).sameKey (.string t.path)) out:=HINV.out.skip hf.tw htm (by intro e;rw[e] at hcs;cases hcs) hls;have HINV2:=Jh hinv2;clear hinv2 hblk1 hblk2 hT hg hi htm htd hfv hfk hv hat2 hkx e1 hlk hg2 hrg hxk hcs hcd hls hB2 hrow2 hrg2;go_wp2_with fail
       refine (HCON.out _).mono ?_;rintro e w3 ⟨rfl,rfl⟩;go_wp2_with fail
       go_roundg (gk - 1)
       case measure=>omega
       case rel=>exact ⟨_,cnt2,out,_,rfl,by omega,HHRG.out,HR2.out,HINV2.out,HB2.out,HVR.out⟩
      | false=>
       have hs0:Kai t.path=none:=by
        cases e:Kai t.path with
        | none=>rfl
        | some j=>rw[e] at hcs;cases hcs
       have hinv2:Inv2 d d.things (fun z=>left (.string z) && !(Lit.string z).sameKey (.string t.path)) (out ++ [⟨t.path,false,(nowAt d t.at_).length⟩]):=HINV.out.step hf.tw htm htd hs0 hlk hls;rw[hTs] at hinv2
       have henc:(out ++ [(⟨t.path,false,T.size⟩:En)]).flatMap encEn=out.flatMap encEn ++ [.string x,.bool false,.int .i64 (T.size:Int)]:=by
        rw[List.flatMap_append,←hxk];simp[encEn];unfold txtV;rw[←Kcs rfl]
       have HENC:=Jh henc;have HINV2:=Jh hinv2;obtain ⟨m,hm⟩:∃m,out.length=m:=⟨_,rfl⟩;have HM:=Jh hm;rw[hm] at hrow2 hol;have hrl2:r2 < w2.heap.size:=hrg2.lt;clear henc hinv2 hm hblk1 hblk2 hT hg hi htm htd hfv hfk hv hat2 hkx e1 hlk hg2 hrg hxk hcs hcd hls hs0 hrg2;go_wp2_with fail
       refine (HCON.out _).mono ?_;rintro e w3 ⟨rfl,rfl⟩;have hrr:r+1≤w3.heap.size:=by have:=HRS2.out;omega
       go_wp2_with (at_builtin;refine wpList_append_own_at _ rfl _ _ 53 rfl (r+1) 148 i0 (.agg #[.string ⟨#[]⟩,.bool false,.int .i64 0]) 3 32 Tryz.underlying53 hi0 hz0 hz1 hz2 rfl (by decide) _ _ _ rfl (hrow2.alloc _) ⟨w3.heap.size,0,none⟩ 1 1 [.string x,.bool false,.int .i64 (T.size:Int)] rfl rfl ?p1 ?p2 ?p3 ?p4 ?p5 ?_)
       case p1=>exact Kav (l:=[.string x,.bool false,.int .i64 (T.size:Int)]) (Blk.new w3 _ _)
       case p2=>intro u hu;simp at hu;rcases hu with rfl | rfl | rfl <;> rfl
       case p3=>unfold maxLen;omega
       case p4=>omega
       case p5=>simp;omega
       intro v' w4 hown' hgrow _ hat';have hall:w3.grownBy w4 v7.ownBlock:=(World.grownBy_alloc w3 _ _).trans hgrow;have hB4:Below r w1 w4:=HB2.out.trans ⟨hall.os,hall.tape,hall.output,hall.size,fun j hj=>hall.block j (by have:=HB2.out.size;have:=HRS.out;omega) (fun e=>by have:=(World.ownsRow.lt hrow2 j e.symm).1;omega)⟩;have hrg4:=HHRG.out.kept hall (fun e=>by have:=(World.ownsRow.lt hrow2 mf e.symm).1;have:=HRS.out;omega) (fun e=>HVR.out r2 e.symm rfl)
       have hrow4:Kdn w4 (r+1) v' (out ++ [⟨t.path,false,T.size⟩]):=by
        unfold Kdn;rw[HENC.out,List.length_append,HM.out];exact hown'
       have hvr4:∀g,v'.ownBlock=some g→g≠r2:=by
        intro g hg;rcases hat' with h1 | h1
        ·exact HVR.out g (by rw[←h1];exact hg)
        ·rw[h1] at hg;injection hg with hg;omega
       clear hown' hgrow hall hrow2 hat';go_wp2_with fail
       go_roundg (gk - 1)
       case measure=>omega
       case rel=>exact ⟨_,cnt2,_,_,rfl,by omega,hrg4,hrow4,HINV2.out,hB4,hvr4⟩
  case rest=>
   obtain ⟨v7,out,rfl,hrow,hperm,hB⟩:=hcut;obtain ⟨w7,rfl⟩:∃x,x=wc:=⟨_,rfl⟩
   have hol:out.length≤1073741824:=by
    rw[hperm.length_eq];unfold entD;have:=List.length_filterMap_le (fun x:Th=>if ([]:Txt) = [] then (if (Kai x.path).isSome then none else some (⟨x.path,x.dir,if x.dir then 0 else (nowAt d x.at_).length⟩:En)) else if Kbm x.path [] then some ⟨x.path.drop (([]:Txt).length+1),x.dir,if x.dir then 0 else (nowAt d x.at_).length⟩ else none) d.things;omega
   have HSO:=Jh (Kvq out w.heap.size v7 w7 hrow hol);have HROW:=Jh hrow;have HPM:=Jh hperm;have HB:=Jh hB;clear hrow hperm hB hown c0 c1 hol;go_wp2_with fail
   refine HSO.out.mono ?_;rintro e w8 ⟨rfl,l',hp',hs',hrow8,hg8⟩
   have hb8:Below w.heap.size w w8:=by
    have hb:=HB.out;exact hb.trans ⟨hg8.os,hg8.tape,hg8.output,hg8.size,fun k hk=>hg8.block k (by have:=hb.size;omega) (fun e=>by have:=(World.ownsRow.lt HROW.out k e.symm).1;omega)⟩
   have hfin:Khy a LD ⟨#[]⟩ w (.returned (.tuple #[v7,.nilIface])) w8:=by
    rw[HLE.out,←Qla hf.tw (hp'.trans HPM.out) hs'];exact ⟨_,_,rfl,rfl,hrow8,hb8⟩
   have HFIN:=Jh hfin;clear hfin hb8 hrow8 hg8 hp' hs';go_wp2_with fail
   go_ret2
   exact HFIN.out
end
end
section
open Go.RowKit Go.Shelf Go.Maps Go.Sort
attribute [local go_sem ↓] Go.wp_at_zero Go.wp_at_succ
attribute [local go_sem] Later.cell
def Apart (a:Nat→Addr):Prop:=∀i j,1≤i→i≤7→1≤j→j≤7→i≠j→a i≠a j
section
variable {B0 : Nat} {a : Nat → Addr}
def Sents (B0:Nat) (a:Nat→Addr) (w:World):Prop:=∀k,1≤k→k≤7→(a k).block < B0∧∃cs t,w.heap[(a k).block]? = some (.cells cs t (0,0))
theorem Sents.below {w w':World} (h:Sents B0 a w) (hb:Below B0 w w'):Sents B0 a w':=fun k h1 h2=>by
 obtain ⟨h3,cs,t,h4⟩:=h k h1 h2;exact ⟨h3,cs,t,(hb.block _ h3).trans h4⟩
theorem Qce:(Tryz.prog.info? 360).map (·.comparable)=some true:=by kernel_rfl
theorem Qcf:(Tryz.prog.info? 382).map (·.size)=some 1:=by kernel_rfl
theorem Qos (i:Nat) (w:World):(binOp .eql 40 (failV a i) (failV a i)).run Tryz.prog w = .ok (.bool true) w:=by
 obtain ⟨i0,h1,h2⟩:=Option.map_eq_some_iff.1 Qce;obtain ⟨j0,h3,_⟩:=Option.map_eq_some_iff.1 Qcf;exact run_eql_iface_ptr_same w (a i) Tryz.underlying40 Tryz.underlying360 h1 h2 h3
theorem Qot {i j:Nat} {w:World} (hs:Sents B0 a w) (ha:Apart a) (h1:1≤i) (h2:i≤7) (h3:1≤j) (h4:j≤7) (hne:i≠j):(binOp .eql 40 (failV a i) (failV a j)).run Tryz.prog w = .ok (.bool false) w:=by
 obtain ⟨i0,k1,k2⟩:=Option.map_eq_some_iff.1 Qce;obtain ⟨j0,k3,k4⟩:=Option.map_eq_some_iff.1 Qcf;obtain ⟨_,ci,ti,hi⟩:=hs i h1 h2;obtain ⟨_,cj,tj,hj⟩:=hs j h3 h4;exact run_eql_iface_ptr_other w Tryz.underlying40 Tryz.underlying360 k1 k2 k3 (by rw[k4];decide) (ha i j h1 h2 h3 h4 hne) hi hj
end
structure OpV where
 kind:Int
 a:ByteArray
 b:ByteArray
 n:Int
 m:Int
 pa:Option Addr
 pn:Nat
 pc:Nat
 da:Option Addr
 dn:Nat
 dc:Nat
 yes:Bool
section
variable {M : Value → World → Prop} {N : World → Prop} {k : Nat}
end
theorem Krh {P:Program} {w w':World} {ops:Array Oper} {o:Oper} {a:Act} {K:Act→World→Prop} {Q:Exit→Act→World→Prop} {E:Prop} (hgd:o.guard=none) (s x:Operand) (t:TypeId)
  (ho:o.op = .call { callee:=.builtin .append,args:=#[s,x],argTypes:=#[t,t] }) (v u v':Value) (hs:a.eval s=v) (hx:a.eval x=u)
  (hrun:(Builtin.append_ #[t,t] o.type #[v,u]).run P w = .ok v' w') (h:K (a.put o.dst v') w') :
  if Region.wanted o (yielded ops a.tmps)=true then Oper.wp P o a w K Q else E:=by
 have hw:Region.wanted o (yielded ops a.tmps)=true:=by simp[Region.wanted,hgd]
 rw[if_pos hw];unfold Oper.wp execOp;simp only[ho,resolve,invoke,builtin,Sem.run_bind,Sem.run_pure,Result.andThen_ok,List.map_toArray,List.map_cons,List.map_nil,hs,hx,hrun];exact h
theorem Qhe:(Tryz.prog.info? 3).map (fun i=>(i.zero,i.size,i.bytes))=some (some (.int .i64 0),1,8):=by kernel_rfl
theorem Kyt (Ad:Option Addr) (n c:Nat) (data:List Int) (w:World) (h:Ints3 w Ad n data) (hA:Ad=none→c=0) (hn:n*8≤140737488355328) :
  ∃A' c' w',(Builtin.append_ #[61,61] 61 #[.slice none 0 0,.slice Ad n c]).run Tryz.prog w = .ok (.slice A' n c') w'∧Ints3 w' A' n data∧Below w.heap.size w w'∧∀x,A'=some x→w.heap.size≤x.block:=by
 obtain ⟨i0,hi0,hz0,hz1,hz2⟩:=info_parts Qhe;have hl:data.length=n:=Elems.len h
 cases Ad with
 | none=>
  have h0:n=0:=by
   rcases Nat.eq_zero_or_pos n with h0 | h0
   ·exact h0
   ·obtain ⟨b,off,e,_⟩:=h.2 h0;cases e
  subst h0;obtain rfl:=hA rfl;exact ⟨none,0,w,run_append_owned_none w w.heap.size 61 61 3 i0 1 Tryz.underlying61 hi0 _ 0 [] (World.ownsRow_nil _ _ _ _),h,Below.refl _ _,fun x e=>by cases e⟩
 | some a=>
  have hcells:∀j u,(data.map (Value.int .i64))[j]? = some u→w.cell? (a.add j)=some u:=by
   intro j u hj;rw[List.getElem?_map,Option.map_eq_some_iff] at hj;obtain ⟨x,hx,rfl⟩:=hj;have hjn:j < n:=by have:=(List.getElem?_eq_some_iff.1 hx).1;omega
   obtain ⟨b,off,e,hb,hc⟩:=h.2 (by omega);have:=hc j x hx 0 (.int .i64 x) rfl;injection e with e;rw[e]
   have e2:(⟨b,off,none⟩:Addr).add j=⟨b,off+j,none⟩:=by
    unfold Addr.add
    split
    ·rename_i h0;subst h0;rfl
    ·rfl
   rw[e2];simpa using this
  obtain ⟨v',w',h1,h2,h3,h4,h5⟩:=run_append_own_at (P:=Tryz.prog) (w:=w) w.heap.size 61 61 3 i0 (.int .i64 0) 1 8 Tryz.underlying61 hi0 hz0 hz1 hz2 rfl (by decide) (.slice none 0 0) 0 [] (World.ownsRow_nil _ _ _ _) a n c (data.map (Value.int .i64)) (by rw[List.length_map,hl,Nat.mul_one]) hcells (by intro u hu;obtain ⟨x,_,rfl⟩:=List.mem_map.1 hu;rfl) (by unfold maxLen;omega) (by omega) (Nat.le_refl _);rw[Nat.zero_add,List.nil_append] at h2;obtain ⟨A',c',rfl,hs,hbase,hnc⟩:=Elems.of_own (enc:=I1) (xs:=data) (fun _ _=>rfl) (Qdx data) h2 hl;exact ⟨A',c',w',h1,hs,⟨h3.os,h3.tape,h3.output,h3.size,fun k hk=>h3.block k hk (fun e=>by cases e)⟩,hbase⟩
section
variable {M : World → Prop} {N : World → Prop} {k : Nat}
end
end
section
open Go.RowKit Go.Shelf Go.Maps Go.Sort
section
variable {B0 M : Nat} {a : Nat → Addr} {R R' S S' : Nat → Nat} {A A' : Adr} {d d' : Ds} {w w' w'' : World}
theorem Qmh (d:Ds):(stepD d).1≤7:=by
 unfold stepD
 repeat' split
 all_goals simp
theorem Qic (d:Ds) (s:St):(Kbb d s).1≤7:=by
 unfold Kbb;have:=Qmh d
 repeat' split
 all_goals first | exact this | simp
theorem Qfb (d:Ds) (s:Txt):(Kat d s).1≤7:=by
 unfold Kat;have:=Qic d (.remove s)
 repeat' split
 all_goals first | exact this | simp
theorem WF.nl (h:WF M d) (hM:M≤536870912):∀i,(Go.Proofs.YtefpndiiedkmpaaGreatDoor.fAt d i).now.length≤1073741824:=fun i=>by have:=(h.fAt i).now;omega
theorem WF.sl (h:WF M d) (hM:M≤536870912):∀i,(Go.Proofs.YtefpndiiedkmpaaGreatDoor.fAt d i).steps.length≤1073741824:=fun i=>by have:=(h.fAt i).sl;omega
theorem WF.usedL (h:WF M d):∀l:List Th,Go.Proofs.YtefpndiiedkmpaaGreatDoor.usedL d l≤l.length*M
 | []=>by simp[Go.Proofs.YtefpndiiedkmpaaGreatDoor.usedL]
 | x :: l=>by
  have h1:=h.usedL l
  have h2:(if x.dir then 0 else (nowAt d x.at_).length)≤M:=by
   split
   ·omega
   ·have:=(h.fAt x.at_).now;exact this
  have h3:Go.Proofs.YtefpndiiedkmpaaGreatDoor.usedL d (x :: l)=(if x.dir then 0 else (nowAt d x.at_).length)+Go.Proofs.YtefpndiiedkmpaaGreatDoor.usedL d l:=by simp[Go.Proofs.YtefpndiiedkmpaaGreatDoor.usedL]
  rw[h3,List.length_cons,Nat.add_mul];omega
theorem WF.used (h:WF M d) (hM:M≤536870912):Go.Proofs.YtefpndiiedkmpaaGreatDoor.usedL d d.things≤4611686018427387904:=by
 have h1:=h.usedL d.things;have h2:=h.tl;have h3:d.things.length*M≤536870912*536870912:=Nat.mul_le_mul (by omega) hM;omega
theorem WF.capl (h:WF M d):d.cap≤4611686018427387904:=by have:=h.cap;omega
end
structure OpE where
 o:OpV
 parts:List Txt
 data:List Int
instance:Inhabited OpE:=⟨⟨⟨0,⟨#[]⟩,⟨#[]⟩,0,0,none,0,0,none,0,0,false⟩,[],[]⟩⟩
section
variable {a : Nat → Addr} {M : Nat} {W w w' : World} {p q : Nat} {d : Ds}
end
end
end Go.Proofs.YtefpndiiedkmpaaGreatDoor
