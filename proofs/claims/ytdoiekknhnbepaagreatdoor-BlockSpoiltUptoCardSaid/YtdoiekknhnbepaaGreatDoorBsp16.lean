/- Merged (what the claim wants of): BlkLawF, BlkD, BlkProofSF, BlkProofS. -/
import Derived.Test.YtdoiekknhnbepaaGreatDoorBsp15
import Derived.Test.YtdoiekknhnbepaaGreatDoorCards
import Derived.Test.YtdoiekknhnbepaaGreatDoorTie
import Derived.WalkKit
import Derived.Deep.DeepHandedRow
import Derived.Deep.DeepWitnessRowRef
import Derived.Lib.LaidTab
import Derived.Stop.LaidTwo
import Derived.Test.YtdoiekknhnbepaaGreatDoorRows
import Derived.ProofKit
set_option linter.unusedVariables false
set_option linter.unusedSimpArgs false
set_option maxRecDepth 100000
set_option maxHeartbeats 8000000
namespace Go.Proofs.YtdoiekknhnbepaaGreatDoor
section
open Go.RowKit
open Lib renaming hid → Jh
attribute [local go_sem ↓] Go.wp_at_zero Go.wp_at_succ
attribute [local go_sem] Later.cell
theorem Qdo (z : Nat) (j : Nat) : ((mb z j).toNat : Int) = ((z / 256 ^ j % 256 : Nat) : Int) := by
 unfold mb; rw [UInt8.toNat_ofNat']; congr 1; omega
theorem Kuf {c : Cont} (hf : fitB c = true) {S0 S1 S2 : ByteArray} (hfil : filOf S0 S1 S2 = Kaz c) (i : Nat) (hi : i < 3) (k m n : Nat) (hn : n ≤ 4) (hk : k + n ≤ (sel i S0 S1 S2).size) (ha : anyM m n = true) (h0 : S0.size ≤ 200000000) (h1 : S1.size ≤ 200000000) (h2 : S2.size ≤ 200000000) (T0 T1 T2 : ByteArray)
  (e0 : T0.data.toList = if i = 0 then spl S0.data.toList k m n else S0.data.toList) (e1 : T1.data.toList = if i = 1 then spl S1.data.toList k m n else S1.data.toList) (e2 : T2.data.toList = if i = 2 then spl S2.data.toList k m n else S2.data.toList) (w : World) (hE : BEnv w) :
  Calls Tryz.prog 29 #[.agg #[.string T0, .string T1, .string T2]] w fun e w' => e = .returned (.tuple #[.agg #[.int .i64 0, .int .i64 0, .int .i64 0, .slice none 0 0], .int .i64 22]) ∧ Below w.heap.size w w' := by
 have f0 : S0.data.toList = sealT (metaB c) := congrArg Fil.mt hfil; have f1 : S1.data.toList = sealT (Kbw c) := congrArg Fil.ck hfil; have f2 : S2.data.toList = sealT (Kax c) := congrArg Fil.ix hfil
 have z : ∀ (S T : ByteArray) (b : Bool), T.data.toList = (if b = true then spl S.data.toList k m n else S.data.toList) → T.size = S.size := fun S T b h => by
  have h3 := congrArg List.length h; have h4 : T.data.toList.length = T.size := rfl; have h5 : S.data.toList.length = S.size := rfl
  cases b with
  | true => rw [if_pos rfl, Kcu] at h3; omega
  | false => rw [if_neg (by simp)] at h3; omega
 have z0 := z S0 T0 (decide (i = 0)) (by simpa using e0); have z1 := z S1 T1 (decide (i = 1)) (by simpa using e1); have z2 := z S2 T2 (decide (i = 2)) (by simpa using e2)
 have u0 : Kan T0.data.toList = if i = 0 then .error 22 else .ok (metaB c) := by
  rw [e0]
  by_cases h : i = 0
  ·rw [if_pos h, if_pos h, f0]; subst h; have hs : (sealT (metaB c)).length = S0.size := by rw [← f0]; rfl
   exact Kpo _ _ _ _ hn (by rw [hs]; exact hk) ha
  ·rw [if_neg h, if_neg h, f0, Keu]
 have u1 : Kan T1.data.toList = if i = 1 then .error 22 else .ok (Kbw c) := by
  rw [e1]
  by_cases h : i = 1
  ·rw [if_pos h, if_pos h, f1]; subst h; have hs : (sealT (Kbw c)).length = S1.size := by rw [← f1]; rfl
   exact Kpo _ _ _ _ hn (by rw [hs]; exact hk) ha
  ·rw [if_neg h, if_neg h, f1, Keu]
 have u2 : Kan T2.data.toList = if i = 2 then .error 22 else .ok (Kax c) := by
  rw [e2]
  by_cases h : i = 2
  ·rw [if_pos h, if_pos h, f2]; subst h; have hs : (sealT (Kax c)).length = S2.size := by rw [← f2]; rfl
   exact Kpo _ _ _ _ hn (by rw [hs]; exact hk) ha
  ·rw [if_neg h, if_neg h, f2, Keu]
 have hp := Kwo (filOf T0 T1 T2) i hi _ _ _ u0 u1 u2; have := Kfs T0 T1 T2 w (by unfold bSz; omega) (by unfold bSz; omega) (by unfold bSz; omega) hE.n hE.d; rw [hp.1, show Kau [T0.data.toList, T1.data.toList, T2.data.toList] = 22 from hp.2] at this; exact this
theorem Klg (c : Cont) (A : Option Addr) (n k : Nat) (at_ msk : Int) (w : World) (hS : Kbq w A n c.series) (hc : CSz c) (ha : (Lit.int .i64 at_).wf = true) (hm : (Lit.int .u32 msk).wf = true) (hE : BEnv w) :
  Calls Tryz.prog 11 #[.agg #[.int .i64 c.res, .int .i64 c.frm, .int .i64 c.to_, .slice A n k], .int .i64 at_, .int .u32 msk] w fun e w' => e = .returned (.bool true) ∧ Below w.heap.size w w' := by
 have hbuild := fun W hs he => Qga c A n k W hs hc he
 obtain ⟨z, rfl, hz⟩ : ∃ z : Nat, msk = (z : Int) ∧ z < 2 ^ 32 := by
  have h1 : IntKind.u32.min = 0 := rfl; have h2 : IntKind.u32.max = 4294967295 := rfl; simp only [Lit.wf, Bool.and_eq_true, decide_eq_true_eq] at hm; exact ⟨msk.toNat, by omega, by omega⟩
 have hat := Kld ha; unfold i64B at hat; have hsp := fun (hf : fitB c = true) S0 S1 S2 h => Kuf hf (S0 := S0) (S1 := S1) (S2 := S2) h
 obtain ⟨r, hr⟩ : ∃ r, c.res = r := ⟨_, rfl⟩; obtain ⟨f, hf⟩ : ∃ f, c.frm = f := ⟨_, rfl⟩; obtain ⟨t, ht⟩ : ∃ t, c.to_ = t := ⟨_, rfl⟩; rw [hr, hf, ht] at hbuild ⊢; have HE0 := Jh hE; have HLW := Jh (LW.start hE); have HS := Jh hS; have HBU := Jh hbuild; have HZM := Jh hz; have HAT := Jh hat; have HSP := Jh hsp; clear hr hf ht hS hbuild hE hc ha hm hz hat hsp; go_enter Tryz.func11, Tryz.ntmps11
 go_upto_region 1 with fail
 obtain ⟨q, hz_q⟩ : ∃ p, w.heap.size = p := ⟨_, rfl⟩; have hbx : Below w.heap.size w (w.alloc (.cells #[.int .i64 r, .int .i64 f, .int .i64 t, .slice A n k] 28)) := (Below.refl _ _).alloc (Nat.le_refl _) _; have hkx : Blk (w.alloc (.cells #[.int .i64 r, .int .i64 f, .int .i64 t, .slice A n k] 28)) q 28 #[.int .i64 r, .int .i64 f, .int .i64 t, .slice A n k] := by rw [← hz_q]; exact Blk.new _ _ _
 have hz_q1 : (w.alloc (.cells #[.int .i64 r, .int .i64 f, .int .i64 t, .slice A n k] 28)).heap.size = q + 1 := by rw [World.alloc, Array.size_push, hz_q]
 obtain ⟨w1, hw_w1⟩ : ∃ x, w.alloc (.cells #[.int .i64 r, .int .i64 f, .int .i64 t, .slice A n k] 28) = x := ⟨_, rfl⟩; rw [hw_w1] at hbx hkx hz_q1; rw [hw_w1, hz_q]; replace HLW := Jh (HLW.out.below hbx); have HC := Jh (CBox.mk hkx (HS.out.below hbx)); clear hbx hkx hw_w1 hz_q; clear hz_q1; have x0 := HC.out.k.cell 0; have x1 := HC.out.k.cell 1; have x2 := HC.out.k.cell 2; have x3 := HC.out.k.cell 3; simp at x0 x1 x2 x3; go_wp2_with fail
 refine (HBU.out w1 HC.out.s HLW.out.e).mono ?_; rintro _ w2 ⟨⟨S0, S1, S2, rfl, hbt⟩, hb2⟩; have HBT := Jh hbt; clear hbt x0 x1 x2 x3; obtain ⟨fi, hfi⟩ : ∃ b, fitB c = b := ⟨_, rfl⟩; obtain ⟨er, her⟩ : ∃ z : Int, (if fitB c = true then (0 : Int) else 190) = z := ⟨_, rfl⟩; rw [her]; rw [hfi] at her; have HFB := Jh hfi; have HER := Jh her; clear hfi her; go_upto_region 2 with fail
 replace HLW := Jh (HLW.out.below hb2); replace HC := Jh (HC.out.below hb2); clear hb2; obtain ⟨p, hp_p⟩ : ∃ p, w2.heap.size = p := ⟨_, rfl⟩; have HGEp := Jh (show w.heap.size ≤ p by rw [← hp_p]; exact HLW.out.b.size); have hbx : Below w2.heap.size w2 (w2.alloc (.cells #[.string S0, .string S1, .string S2] 44)) := (Below.refl _ _).alloc (Nat.le_refl _) _; have hkx : Blk (w2.alloc (.cells #[.string S0, .string S1, .string S2] 44)) p 44 #[.string S0, .string S1, .string S2] := by rw [← hp_p]; exact Blk.new _ _ _
 obtain ⟨w3, hw_w3⟩ : ∃ x, w2.alloc (.cells #[.string S0, .string S1, .string S2] 44) = x := ⟨_, rfl⟩; rw [hw_w3] at hbx hkx; rw [hw_w3, hp_p]; replace HLW := Jh (HLW.out.below hbx); replace HC := Jh (HC.out.below hbx); have HF := Jh ((show FBox p S0 S1 S2 _ from hkx)); clear hbx hkx hw_w3 hp_p; have HWK := Jh (Kjh w3 HLW.out.e); go_wp2_with fail
 refine HWK.out.mono ?_; rintro _ w4 ⟨rfl, hb4⟩; replace HLW := Jh (HLW.out.below hb4); replace HF := Jh (HF.out.below hb4); clear hb4 HWK; clear HC
 cases fi with
 | false =>
  have her : er = 190 := HER.out.symm; subst her; have HWK := Jh (Kjh w4 HLW.out.e); go_wp2_with fail
  refine HWK.out.mono ?_; rintro _ w5 ⟨rfl, hb5⟩; replace HLW := Jh (HLW.out.below hb5); clear hb5 HWK; go_wp2_with fail
  go_ret
  exact ⟨rfl, HLW.out.b⟩
 | true =>
  have her : er = 0 := HER.out.symm; subst her
  have hfil : filOf S0 S1 S2 = Kaz c := by
   have h := HBT.out.f; rwa [Kyq HFB.out] at h
  have HFIL := Jh hfil; clear hfil; have u0 := (show Blk w4 _ _ _ from HF.out).cell 0; have u1 := (show Blk w4 _ _ _ from HF.out).cell 1; have u2 := (show Blk w4 _ _ _ from HF.out).cell 2; simp at u0 u1 u2; go_wp2_with fail
  go_loopg [38] 3 (fun g s38 wr => ∃ i : Nat, i + g = 3 ∧ s38 = .int .i64 (i : Int) ∧ LW w wr ∧ FBox p S0 S1 S2 wr)
  case atStart => exact ⟨0, by omega, rfl, HLW.out, HF.out⟩
  case round =>
   obtain ⟨i, hig, rfl, hlw, hf⟩ := hrel; have HIG := Jh hig; replace HLW := Jh hlw; replace HF := Jh hf; clear hig hlw hf u0 u1 u2; obtain ⟨wo, rfl⟩ : ∃ x, x = wr := ⟨_, rfl⟩
   by_cases hi : i < 3
   ·have el : decide (i < 3) = true := by rw [decide_eq_true_eq]; exact hi
    have el2 : (i : Int) < 3 := by omega
    obtain ⟨S, hS⟩ : ∃ S, sel i S0 S1 S2 = S := ⟨_, rfl⟩; have HSE := Jh hS; clear hS; go_upto_region 6 with fail
    go_cut [9, 10] (fun s9 s10 wz => wz = wo ∧ s9 = .int .i64 (i : Int) ∧ s10 = .string S)
    case first =>
     have ipt : ∀ w : World, (Instr.index 75 (.agg #[.string S0, .string S1, .string S2]) (.int .i64 (i : Int))).run Tryz.prog w = .ok (.string S) w := fun w => by
      rw [← HSE.out]; rcases (by omega : i = 0 ∨ i = 1 ∨ i = 2) with rfl | rfl | rfl
      ·kernel_rfl
      ·kernel_rfl
      ·kernel_rfl
     go_wp2_with fail
     go_meet
     exact ⟨rfl, rfl, rfl⟩
    case rest =>
     obtain ⟨rfl, rfl, rfl⟩ := hcut; obtain ⟨wo, rfl⟩ : ∃ x, x = wc := ⟨_, rfl⟩; have hcv := Qch wo S; have hby := Bytes.made wo S; have hbb : Below wo.heap.size wo (wo.drew.alloc (.cells (bytesRow S (grownCap wo S.size 0 5)) 5 ((bytesRow S (grownCap wo S.size 0 5)).size, (bytesRow S (grownCap wo S.size 0 5)).size + 1))) := ((Below.refl _ _).drew).alloc (Nat.le_refl _) _; obtain ⟨kc, hkc⟩ : ∃ kc, grownCap wo S.size 0 5 = kc := ⟨_, rfl⟩; rw [hkc] at hcv hby hbb; obtain ⟨wb, hwb⟩ : ∃ x, wo.drew.alloc (.cells (bytesRow S kc) 5 ((bytesRow S kc).size, (bytesRow S kc).size + 1)) = x := ⟨_, rfl⟩; rw [hwb] at hcv hby hbb; have hpo : p < wo.heap.size := Blk.lt (show Blk wo _ _ _ from HF.out); replace HLW := Jh (HLW.out.below hbb); replace HF := Jh (HF.out.below hbb); obtain ⟨g, hg⟩ : ∃ x, wo.heap.size = x := ⟨_, rfl⟩; rw [hg] at hcv hby; have HBY := Jh hby; have HGP : Hid (p < g) := Jh (by rw [← hg]; exact hpo); clear hpo
     have hsz : 4 ≤ S.size := by
      have h : S.data.toList.length = S.size := rfl; have f0 : S0.data.toList = sealT (metaB c) := congrArg Fil.mt HFIL.out; have f1 : S1.data.toList = sealT (Kbw c) := congrArg Fil.ck HFIL.out; have f2 : S2.data.toList = sealT (Kax c) := congrArg Fil.ix HFIL.out; rw [← HSE.out] at h ⊢; rcases (by omega : i = 0 ∨ i = 1 ∨ i = 2) with rfl | rfl | rfl
      ·have h2 := congrArg List.length f0; rw [Kdc] at h2; have h3 : S0.data.toList.length = S0.size := rfl; show 4 ≤ S0.size; omega
      ·have h2 := congrArg List.length f1; rw [Kdc] at h2; have h3 : S1.data.toList.length = S1.size := rfl; show 4 ≤ S1.size; omega
      ·have h2 := congrArg List.length f2; rw [Kdc] at h2; have h3 : S2.data.toList.length = S2.size := rfl; show 4 ≤ S2.size; omega
     have hsm : S.size ≤ 200000000 := by
      rw [← HSE.out]; rcases (by omega : i = 0 ∨ i = 1 ∨ i = 2) with rfl | rfl | rfl
      ·exact HBT.out.z0
      ·exact HBT.out.z1
      ·exact HBT.out.z2
     have HSZ := Jh (⟨hsz, hsm⟩ : 4 ≤ S.size ∧ S.size ≤ 200000000); clear hby hbb hkc hwb hg; go_upto_region 8 with fail
     clear hcv; obtain ⟨kk, hkk⟩ : ∃ kk, (max 0 at_).toNat % S.size = kk := ⟨_, rfl⟩; have hkl : kk < S.size := by rw [← hkk]; exact Nat.mod_lt _ (by omega)
     have HKL := Jh hkl; have hs0 : (S.size : Int) ≠ 0 := by omega
     have hs1 : ((S.size : Int) == 0) = false := by rw [beq_eq_false_iff_ne]; exact hs0
     have hs2 : S.size ≠ 0 := by omega
     have hat := HAT.out; go_cut [12] (fun s12 wz => wz = wb ∧ s12 = .int .i64 (kk : Int))
     case first =>
      go_wp2_with fail
      go_meet
      refine ⟨rfl, vi ?_⟩; rw [← hkk, Int.natCast_emod, Int.toNat_of_nonneg (by omega)]
     case rest =>
      obtain ⟨rfl, rfl⟩ := hcut; obtain ⟨wb, rfl⟩ : ∃ x, x = wc := ⟨_, rfl⟩; obtain ⟨n4, hn4⟩ : ∃ n4, min 4 (S.size - kk) = n4 := ⟨_, rfl⟩; have HN4 := Jh hn4; clear hkk hs0 hs1 hs2 hat hsz hsm hn4 hkl; go_wp2_with fail
      go_loopg [13, 14] n4 (fun gg s13 s14 wr => ∃ j : Nat, j + gg = n4 ∧ s14 = .int .i64 (j : Int) ∧ s13 = .bool (anyM z j) ∧ Bytes wr g (spl S.data.toList kk z j) ∧ LW w wr ∧ FBox p S0 S1 S2 wr)
      case atStart => exact ⟨0, by omega, rfl, rfl, by rw [Qfu]; exact HBY.out, HLW.out, HF.out⟩
      case round =>
       obtain ⟨j, hjg, rfl, rfl, hby, hlw, hf⟩ := hrel; have HJG := Jh hjg; replace HBY := Jh hby; replace HLW := Jh hlw; replace HF := Jh hf; clear hjg hby hlw hf; obtain ⟨wj, rfl⟩ : ∃ x, x = wr := ⟨_, rfl⟩; have hn := HN4.out; have hsz := HSZ.out; have hkl := HKL.out
       have w1 : IntKind.i64.wrap ((kk : Int) + (j : Int)) = ((kk + j : Nat) : Int) := by
        have := HJG.out; rw [IntWalk.i64_in _ (by omega)]; omega
       by_cases hj : j < n4
       ·have j1 : decide (j < 4) = true := by rw [decide_eq_true_eq]; omega
        have j2 : (j : Int) < 4 := by omega
        have j3 : kk + j < S.size := by omega
        have j4 : decide (kk + j < S.size) = true := by rw [decide_eq_true_eq]; exact j3
        go_upto_region 13 with fail
        go_cut [15] (fun s15 wz => wz = wj ∧ s15 = .int .u8 ((mb z j).toNat : Int))
        case first =>
         go_wp2_with fail
         go_meet
         refine ⟨rfl, vi ?_⟩; rw [Qdo, show (256 : Nat) ^ j = 2 ^ (8 * j) by rw [Nat.pow_mul]]; simp
        case rest =>
         obtain ⟨rfl, rfl⟩ := hcut; obtain ⟨wj, rfl⟩ : ∃ x, x = wc := ⟨_, rfl⟩; have hlen : kk + j < (spl S.data.toList kk z j).length := by rw [Kcu]; exact j3
         have c0 := HBY.out.cell hlen; rw [Khw _ _ _ _ _ (show kk + j < S.data.toList.length from j3), if_neg (by omega)] at c0; have c1 := HBY.out.frozen hlen; have hset := HBY.out.set_ hlen (S.data.toList[kk + j]'(j3) ^^^ mb z j); rw [← Qfs _ _ _ _ (show kk + j < S.data.toList.length from j3)] at hset; obtain ⟨x, hx⟩ : ∃ x, S.data.toList[kk + j]'(j3) = x := ⟨_, rfl⟩; rw [hx] at c0 hset; obtain ⟨m8, hm8⟩ : ∃ m8, mb z j = m8 := ⟨_, rfl⟩; rw [hm8] at hset ⊢; have hxr := Kxg x m8; obtain ⟨wn, hwn⟩ : ∃ wn, wj.setCell ⟨g, kk + j, none⟩ (.int .u8 ((x.toNat ^^^ m8.toNat : Nat) : Int)) = wn := ⟨_, rfl⟩; rw [UInt8.toNat_xor, hwn] at hset; have hfs : FBox p S0 S1 S2 wn := by rw [← hwn]; exact Blk.far (show Blk wj _ _ _ from HF.out) (by have := HGP.out; show p ≠ g; omega) _
         have hls : LW w wn := by
          have hb : Below w.heap.size w wn := by rw [← hwn]; exact HLW.out.b.setCell (p := ⟨g, kk + j, none⟩) (by have := HGP.out; have := HGEp.out; show w.heap.size ≤ g; omega) _
          exact ⟨hb, HE0.out.below hb⟩
         have HNB := Jh hset; have HNF := Jh hfs; have HNL := Jh hls; clear hset hfs hls hlen hx; go_upto_region 15 with fail
         try rw [hwn]
         obtain ⟨av, hav⟩ : ∃ b, anyM z j = b := ⟨_, rfl⟩; have hsu := Qcm z j; rw [hm8, hav] at hsu; rw [hav]; clear hwn c0 c1 hxr
         by_cases hz8 : (m8.toNat : Int) = 0
         ·have hz9 : m8 = 0 := by apply UInt8.toNat_inj.1; have : (0 : UInt8).toNat = 0 := rfl; omega
          have n1 : ((m8.toNat : Int) != 0) = false := by rw [hz8]; rfl
          have n2 : decide ((m8.toNat : Int) = 0) = true := decide_eq_true hz8; have n3 : ((m8.toNat : Int) == 0) = true := by rw [hz8]; rfl
          have hsu2 : anyM z (j + 1) = av := by rw [hsu, hz9]; simp
          cases av with
          | true =>
           go_wp2_with fail
           go_roundg (gk - 1)
           case measure => have := HJG.out; omega
           case rel => exact ⟨j + 1, by have := HJG.out; omega, by first | rfl | go_num, by rw [hsu2], HNB.out, HNL.out, HNF.out⟩
          | false =>
           go_wp2_with fail
           go_roundg (gk - 1)
           case measure => have := HJG.out; omega
           case rel => exact ⟨j + 1, by have := HJG.out; omega, by first | rfl | go_num, by rw [hsu2], HNB.out, HNL.out, HNF.out⟩
         ·have hz9 : m8 ≠ 0 := fun e => hz8 (by rw [e]; rfl)
          have hz8' : ¬ m8.toNat = 0 := by omega
          have n1 : ((m8.toNat : Int) != 0) = true := by simp [hz8']
          have n2 : decide ((m8.toNat : Int) = 0) = false := decide_eq_false hz8; have n3 : ((m8.toNat : Int) == 0) = false := by simp [hz8']
          have hsu2 : anyM z (j + 1) = true := by rw [hsu, decide_eq_true hz9, Bool.or_true]
          cases av with
          | true =>
           go_wp2_with fail
           go_roundg (gk - 1)
           case measure => have := HJG.out; omega
           case rel => exact ⟨j + 1, by have := HJG.out; omega, by first | rfl | go_num, by rw [hsu2], HNB.out, HNL.out, HNF.out⟩
          | false =>
           go_wp2_with fail
           go_roundg (gk - 1)
           case measure => have := HJG.out; omega
           case rel => exact ⟨j + 1, by have := HJG.out; omega, by first | rfl | go_num, by rw [hsu2], HNB.out, HNL.out, HNF.out⟩
       ·have hjn : j = n4 := by have := HJG.out; omega
        subst hjn; have HK4 := Jh (⟨by omega, by omega⟩ : j ≤ 4 ∧ kk + j ≤ S.size); obtain ⟨av, hav⟩ : ∃ b, anyM z j = b := ⟨_, rfl⟩; rw [hav]; have HAV := Jh hav; clear hav; rcases (by omega : j = 4 ∨ (j < 4 ∧ kk + j = S.size)) with hj4 | ⟨hj4, hj5⟩
        ·have q1 : decide (j < 4) = false := by rw [decide_eq_false_iff_not]; omega
         have q2 : ¬ (j : Int) < 4 := by omega
         go_upto_region 16 with fail
         clear q1 q2 hj4; have u0 := (show Blk wj _ _ _ from HF.out).cell 0; have u1 := (show Blk wj _ _ _ from HF.out).cell 1; have u2 := (show Blk wj _ _ _ from HF.out).cell 2; simp at u0 u1 u2; go_upto_region 17 with fail
         obtain ⟨p3, hp_p3⟩ : ∃ p, wj.heap.size = p := ⟨_, rfl⟩; have hbx : Below wj.heap.size wj (wj.alloc (.cells #[.string S0, .string S1, .string S2] 44)) := (Below.refl _ _).alloc (Nat.le_refl _) _; have hkx : Blk (wj.alloc (.cells #[.string S0, .string S1, .string S2] 44)) p3 44 #[.string S0, .string S1, .string S2] := by rw [← hp_p3]; exact Blk.new _ _ _
         obtain ⟨wg, hw_wg⟩ : ∃ x, wj.alloc (.cells #[.string S0, .string S1, .string S2] 44) = x := ⟨_, rfl⟩; rw [hw_wg] at hbx hkx; rw [hw_wg, hp_p3]; have HP3 := Jh (show w.heap.size ≤ p3 ∧ g < p3 by rw [← hp_p3]; exact ⟨HLW.out.b.size, HBY.out.lt⟩); replace HLW := Jh (HLW.out.below hbx); replace HF := Jh (HF.out.below hbx); replace HBY := Jh (HBY.out.below hbx); have HG := Jh ((show FBox p3 S0 S1 S2 _ from hkx)); clear hbx hkx hw_wg hp_p3; clear u0 u1 u2; go_cut [] (fun wz => LW w wz ∧ FBox p S0 S1 S2 wz ∧ ∃ T0 T1 T2 : ByteArray, FBox p3 T0 T1 T2 wz ∧ (T0.data.toList = if i = 0 then spl S0.data.toList kk z j else S0.data.toList) ∧ (T1.data.toList = if i = 1 then spl S1.data.toList kk z j else S1.data.toList) ∧ (T2.data.toList = if i = 2 then spl S2.data.toList kk z j else S2.data.toList))
         case first =>
          have hlen : (spl S.data.toList kk z j).length = S.size := by rw [Kcu]; rfl
          have htx : ∀ x : Later wg, (convert 76 9 (.slice (some ⟨g, 0, none⟩) S.size kc)).run Tryz.prog x.w = .ok (.string ⟨(spl S.data.toList kk z j).toArray⟩) x.w := fun x => Ksk (HBY.out.below x.h) S.size kc hlen
          have ipt : ∀ w : World, (Instr.index 78 (.agg #[.pointer (some ⟨p3, 0, none⟩), .pointer (some ⟨p3, 1, none⟩), .pointer (some ⟨p3, 2, none⟩)]) (.int .i64 (i : Int))).run Tryz.prog w = .ok (.pointer (some ⟨p3, i, none⟩)) w := fun w => by
           rcases (by omega : i = 0 ∨ i = 1 ∨ i = 2) with rfl | rfl | rfl
           ·kernel_rfl
           ·kernel_rfl
           ·kernel_rfl
          have hgl := HBY.out.lt; refine Kae 8 (by kernel_rfl) (by kernel_rfl) ?_; simp only [List.take_succ_cons, List.take_zero, List.drop_succ_cons, List.drop_zero]
          repeat (go_big_quiet_step (fail))
          refine wpQuiet_nil ?_; rintro wh ⟨⟨_, hbh⟩, rfl⟩; replace HLW := Jh (HLW.out.below hbh); replace HF := Jh (HF.out.below hbh); replace HG := Jh (HG.out.below hbh); clear hbh htx hgl; have hk3 := show Blk wh _ _ _ from HG.out
          have hg0 : wh.cell? ⟨p3, i, none⟩ = some (.string S) := by
           rw [← HSE.out]; rcases (by omega : i = 0 ∨ i = 1 ∨ i = 2) with rfl | rfl | rfl
           ·exact hk3.cell 0
           ·exact hk3.cell 1
           ·exact hk3.cell 2
          have hf0 : wh.frozen? ⟨p3, i, none⟩ = false := hk3.frozen i; obtain ⟨Y, hY⟩ : ∃ Y : ByteArray, ⟨(spl S.data.toList kk z j).toArray⟩ = Y := ⟨_, rfl⟩; have hYl : Y.data.toList = spl S.data.toList kk z j := by rw [← hY]
          try rw [hY]
          obtain ⟨wk, hwk⟩ : ∃ x, wh.setCell ⟨p3, i, none⟩ (.string Y) = x := ⟨_, rfl⟩; have hbk : Below w.heap.size w wk := by rw [← hwk]; exact HLW.out.b.setCell (p := ⟨p3, i, none⟩) HP3.out.1 _
          have hfk : FBox p S0 S1 S2 wk := by rw [← hwk]; exact Blk.far (show Blk wh _ _ _ from HF.out) (by have := HGP.out; have := HP3.out.2; show p ≠ p3; omega) _
          have hgk : ∃ T0 T1 T2 : ByteArray, FBox p3 T0 T1 T2 wk ∧ (T0.data.toList = if i = 0 then spl S0.data.toList kk z j else S0.data.toList) ∧ (T1.data.toList = if i = 1 then spl S1.data.toList kk z j else S1.data.toList) ∧ (T2.data.toList = if i = 2 then spl S2.data.toList kk z j else S2.data.toList) := by
           have hse := HSE.out; rw [← hwk]; rcases (by omega : i = 0 ∨ i = 1 ∨ i = 2) with rfl | rfl | rfl
           ·exact ⟨Y, S1, S2, hk3.set_ 0 (.string Y), by rw [if_pos rfl, hYl, ← hse]; rfl, rfl, rfl⟩
           ·exact ⟨S0, Y, S2, hk3.set_ 1 (.string Y), rfl, by rw [if_pos rfl, hYl, ← hse]; rfl, rfl⟩
           ·exact ⟨S0, S1, Y, hk3.set_ 2 (.string Y), rfl, rfl, by rw [if_pos rfl, hYl, ← hse]; rfl⟩
          have HBK := Jh hbk; have HFK := Jh hfk; have HGK := Jh hgk; clear hk3 hbk hfk hgk hYl; go_wp2_with fail
          go_meet
          exact ⟨⟨HBK.out, HE0.out.below HBK.out⟩, HFK.out, HGK.out⟩
         case rest =>
          obtain ⟨hlw, hf, T0, T1, T2, hg, ht0, ht1, ht2⟩ := hcut; obtain ⟨wh, rfl⟩ : ∃ x, x = wc := ⟨_, rfl⟩; replace HLW := Jh hlw; replace HF := Jh hf; replace HG := Jh hg; have HT := Jh (⟨ht0, ht1, ht2⟩ : (T0.data.toList = if i = 0 then spl S0.data.toList kk z j else S0.data.toList) ∧ (T1.data.toList = if i = 1 then spl S1.data.toList kk z j else S1.data.toList) ∧ (T2.data.toList = if i = 2 then spl S2.data.toList kk z j else S2.data.toList))
          have hz3 : T0.size ≤ 200000000 ∧ T1.size ≤ 200000000 ∧ T2.size ≤ 200000000 := by
           have zz : ∀ (S T : ByteArray) (q : Prop) [Decidable q], T.data.toList = (if q then spl S.data.toList kk z j else S.data.toList) → T.size = S.size := fun S T q _ h => by
            have h3 := congrArg List.length h; have h4 : T.data.toList.length = T.size := rfl; have h5 : S.data.toList.length = S.size := rfl
            by_cases hq : q
            ·rw [if_pos hq, Kcu] at h3; omega
            ·rw [if_neg hq] at h3; omega
           rw [zz S0 T0 _ ht0, zz S1 T1 _ ht1, zz S2 T2 _ ht2]; exact ⟨HBT.out.z0, HBT.out.z1, HBT.out.z2⟩
          have HZ3 := Jh hz3; clear hlw hf hg ht0 ht1 ht2 hz3; have u0 := (show Blk wh _ _ _ from HG.out).cell 0; have u1 := (show Blk wh _ _ _ from HG.out).cell 1; have u2 := (show Blk wh _ _ _ from HG.out).cell 2; simp at u0 u1 u2
          cases av with
          | true =>
           have HPS := Jh (HSP.out HFB.out S0 S1 S2 HFIL.out i hi kk z j HK4.out.1 (by rw [HSE.out]; exact HK4.out.2) HAV.out HBT.out.z0 HBT.out.z1 HBT.out.z2 T0 T1 T2 HT.out.1 HT.out.2.1 HT.out.2.2 wh HLW.out.e); go_wp2_with fail
           refine HPS.out.mono ?_; rintro _ wl ⟨rfl, hbl⟩; clear u0 u1 u2; go_upto_region 19 with fail
           replace HLW := Jh (HLW.out.below hbl); replace HF := Jh (HF.out.below hbl); clear hbl HPS; obtain ⟨q5, hp_q5⟩ : ∃ p, wl.heap.size = p := ⟨_, rfl⟩; have hbx : Below wl.heap.size wl (wl.alloc (.cells #[.int .i64 0, .int .i64 0, .int .i64 0, .slice none 0 0] 28)) := (Below.refl _ _).alloc (Nat.le_refl _) _; have hkx : Blk (wl.alloc (.cells #[.int .i64 0, .int .i64 0, .int .i64 0, .slice none 0 0] 28)) q5 28 #[.int .i64 0, .int .i64 0, .int .i64 0, .slice none 0 0] := by rw [← hp_q5]; exact Blk.new _ _ _
           obtain ⟨wm, hw_wm⟩ : ∃ x, wl.alloc (.cells #[.int .i64 0, .int .i64 0, .int .i64 0, .slice none 0 0] 28) = x := ⟨_, rfl⟩; rw [hw_wm] at hbx hkx; rw [hw_wm, hp_q5]; replace HLW := Jh (HLW.out.below hbx); replace HF := Jh (HF.out.below hbx); have HGC := Jh (CBox.mk hkx (⟨Sers.nil _, by decide, fun s hs => by cases hs⟩ : Kbq _ none 0 [])); clear hbx hkx hw_wm hp_q5; have x0 := HGC.out.k.cell 0; have x1 := HGC.out.k.cell 1; have x2 := HGC.out.k.cell 2; have x3 := HGC.out.k.cell 3; simp at x0 x1 x2 x3; have hal := Kgi nilK nilK ⟨none, 0, 0⟩ ⟨none, 0, 0⟩ wm HGC.out.s HGC.out.s; rw [show decide (nilK = nilK) = true by simp] at hal; have hal2 : Calls Tryz.prog 30 #[.agg #[.int .i64 0, .int .i64 0, .int .i64 0, .slice none 0 0], .agg #[.int .i64 0, .int .i64 0, .int .i64 0, .slice none 0 0]] wm fun e w' => e = .returned (.bool true) ∧ Below wm.heap.size wm w' := hal
           have HAL := Jh hal2; clear hal hal2; go_wp2_with fail
           refine HAL.out.mono ?_; rintro _ wo2 ⟨rfl, hbo⟩; replace HLW := Jh (HLW.out.below hbo); replace HF := Jh (HF.out.below hbo); clear hbo HAL x0 x1 x2 x3; go_wp2_with fail
           go_roundg (2 - i)
           case measure => have := HIG.out; omega
           case rel => exact ⟨i + 1, by have := HIG.out; omega, by first | rfl | go_num, HLW.out, HF.out⟩
          | false =>
           have HPY := Jh (Kqy T0 T1 T2 wh (by have := HZ3.out; omega) (by have := HZ3.out; omega) (by have := HZ3.out; omega) HLW.out.e); go_wp2_with fail
           refine HPY.out.mono ?_; rintro _ wl ⟨⟨y, Ay, ny, ky, _, rfl, _⟩ | ⟨h9, rfl, _⟩, hbl⟩
           ·clear u0 u1 u2; replace HLW := Jh (HLW.out.below hbl); replace HF := Jh (HF.out.below hbl); clear hbl HPY; go_wp2_with fail
            go_roundg (2 - i)
            case measure => have := HIG.out; omega
            case rel => exact ⟨i + 1, by have := HIG.out; omega, by first | rfl | go_num, HLW.out.below ((Below.refl _ _).alloc (Nat.le_refl _) _), HF.out.below ((Below.refl _ _).alloc (Nat.le_refl _) _)⟩
           ·clear u0 u1 u2; replace HLW := Jh (HLW.out.below hbl); replace HF := Jh (HF.out.below hbl); clear hbl HPY; go_wp2_with fail
            go_roundg (2 - i)
            case measure => have := HIG.out; omega
            case rel => exact ⟨i + 1, by have := HIG.out; omega, by first | rfl | go_num, HLW.out.below ((Below.refl _ _).alloc (Nat.le_refl _) _), HF.out.below ((Below.refl _ _).alloc (Nat.le_refl _) _)⟩
        ·have q1 : decide (j < 4) = true := by rw [decide_eq_true_eq]; omega
         have q2 : (j : Int) < 4 := by omega
         have q3 : decide (kk + j < S.size) = false := by rw [decide_eq_false_iff_not]; omega
         go_upto_region 16 with fail
         clear q1 q2 q3 hj4 hj5; have u0 := (show Blk wj _ _ _ from HF.out).cell 0; have u1 := (show Blk wj _ _ _ from HF.out).cell 1; have u2 := (show Blk wj _ _ _ from HF.out).cell 2; simp at u0 u1 u2; go_upto_region 17 with fail
         obtain ⟨p3, hp_p3⟩ : ∃ p, wj.heap.size = p := ⟨_, rfl⟩; have hbx : Below wj.heap.size wj (wj.alloc (.cells #[.string S0, .string S1, .string S2] 44)) := (Below.refl _ _).alloc (Nat.le_refl _) _; have hkx : Blk (wj.alloc (.cells #[.string S0, .string S1, .string S2] 44)) p3 44 #[.string S0, .string S1, .string S2] := by rw [← hp_p3]; exact Blk.new _ _ _
         obtain ⟨wg, hw_wg⟩ : ∃ x, wj.alloc (.cells #[.string S0, .string S1, .string S2] 44) = x := ⟨_, rfl⟩; rw [hw_wg] at hbx hkx; rw [hw_wg, hp_p3]; have HP3 := Jh (show w.heap.size ≤ p3 ∧ g < p3 by rw [← hp_p3]; exact ⟨HLW.out.b.size, HBY.out.lt⟩); replace HLW := Jh (HLW.out.below hbx); replace HF := Jh (HF.out.below hbx); replace HBY := Jh (HBY.out.below hbx); have HG := Jh ((show FBox p3 S0 S1 S2 _ from hkx)); clear hbx hkx hw_wg hp_p3; clear u0 u1 u2; go_cut [] (fun wz => LW w wz ∧ FBox p S0 S1 S2 wz ∧ ∃ T0 T1 T2 : ByteArray, FBox p3 T0 T1 T2 wz ∧ (T0.data.toList = if i = 0 then spl S0.data.toList kk z j else S0.data.toList) ∧ (T1.data.toList = if i = 1 then spl S1.data.toList kk z j else S1.data.toList) ∧ (T2.data.toList = if i = 2 then spl S2.data.toList kk z j else S2.data.toList))
         case first =>
          have hlen : (spl S.data.toList kk z j).length = S.size := by rw [Kcu]; rfl
          have htx : ∀ x : Later wg, (convert 76 9 (.slice (some ⟨g, 0, none⟩) S.size kc)).run Tryz.prog x.w = .ok (.string ⟨(spl S.data.toList kk z j).toArray⟩) x.w := fun x => Ksk (HBY.out.below x.h) S.size kc hlen
          have ipt : ∀ w : World, (Instr.index 78 (.agg #[.pointer (some ⟨p3, 0, none⟩), .pointer (some ⟨p3, 1, none⟩), .pointer (some ⟨p3, 2, none⟩)]) (.int .i64 (i : Int))).run Tryz.prog w = .ok (.pointer (some ⟨p3, i, none⟩)) w := fun w => by
           rcases (by omega : i = 0 ∨ i = 1 ∨ i = 2) with rfl | rfl | rfl
           ·kernel_rfl
           ·kernel_rfl
           ·kernel_rfl
          have hgl := HBY.out.lt; refine Kae 8 (by kernel_rfl) (by kernel_rfl) ?_; simp only [List.take_succ_cons, List.take_zero, List.drop_succ_cons, List.drop_zero]
          repeat (go_big_quiet_step (fail))
          refine wpQuiet_nil ?_; rintro wh ⟨⟨_, hbh⟩, rfl⟩; replace HLW := Jh (HLW.out.below hbh); replace HF := Jh (HF.out.below hbh); replace HG := Jh (HG.out.below hbh); clear hbh htx hgl; have hk3 := show Blk wh _ _ _ from HG.out
          have hg0 : wh.cell? ⟨p3, i, none⟩ = some (.string S) := by
           rw [← HSE.out]; rcases (by omega : i = 0 ∨ i = 1 ∨ i = 2) with rfl | rfl | rfl
           ·exact hk3.cell 0
           ·exact hk3.cell 1
           ·exact hk3.cell 2
          have hf0 : wh.frozen? ⟨p3, i, none⟩ = false := hk3.frozen i; obtain ⟨Y, hY⟩ : ∃ Y : ByteArray, ⟨(spl S.data.toList kk z j).toArray⟩ = Y := ⟨_, rfl⟩; have hYl : Y.data.toList = spl S.data.toList kk z j := by rw [← hY]
          try rw [hY]
          obtain ⟨wk, hwk⟩ : ∃ x, wh.setCell ⟨p3, i, none⟩ (.string Y) = x := ⟨_, rfl⟩; have hbk : Below w.heap.size w wk := by rw [← hwk]; exact HLW.out.b.setCell (p := ⟨p3, i, none⟩) HP3.out.1 _
          have hfk : FBox p S0 S1 S2 wk := by rw [← hwk]; exact Blk.far (show Blk wh _ _ _ from HF.out) (by have := HGP.out; have := HP3.out.2; show p ≠ p3; omega) _
          have hgk : ∃ T0 T1 T2 : ByteArray, FBox p3 T0 T1 T2 wk ∧ (T0.data.toList = if i = 0 then spl S0.data.toList kk z j else S0.data.toList) ∧ (T1.data.toList = if i = 1 then spl S1.data.toList kk z j else S1.data.toList) ∧ (T2.data.toList = if i = 2 then spl S2.data.toList kk z j else S2.data.toList) := by
           have hse := HSE.out; rw [← hwk]; rcases (by omega : i = 0 ∨ i = 1 ∨ i = 2) with rfl | rfl | rfl
           ·exact ⟨Y, S1, S2, hk3.set_ 0 (.string Y), by rw [if_pos rfl, hYl, ← hse]; rfl, rfl, rfl⟩
           ·exact ⟨S0, Y, S2, hk3.set_ 1 (.string Y), rfl, by rw [if_pos rfl, hYl, ← hse]; rfl, rfl⟩
           ·exact ⟨S0, S1, Y, hk3.set_ 2 (.string Y), rfl, rfl, by rw [if_pos rfl, hYl, ← hse]; rfl⟩
          have HBK := Jh hbk; have HFK := Jh hfk; have HGK := Jh hgk; clear hk3 hbk hfk hgk hYl; go_wp2_with fail
          go_meet
          exact ⟨⟨HBK.out, HE0.out.below HBK.out⟩, HFK.out, HGK.out⟩
         case rest =>
          obtain ⟨hlw, hf, T0, T1, T2, hg, ht0, ht1, ht2⟩ := hcut; obtain ⟨wh, rfl⟩ : ∃ x, x = wc := ⟨_, rfl⟩; replace HLW := Jh hlw; replace HF := Jh hf; replace HG := Jh hg; have HT := Jh (⟨ht0, ht1, ht2⟩ : (T0.data.toList = if i = 0 then spl S0.data.toList kk z j else S0.data.toList) ∧ (T1.data.toList = if i = 1 then spl S1.data.toList kk z j else S1.data.toList) ∧ (T2.data.toList = if i = 2 then spl S2.data.toList kk z j else S2.data.toList))
          have hz3 : T0.size ≤ 200000000 ∧ T1.size ≤ 200000000 ∧ T2.size ≤ 200000000 := by
           have zz : ∀ (S T : ByteArray) (q : Prop) [Decidable q], T.data.toList = (if q then spl S.data.toList kk z j else S.data.toList) → T.size = S.size := fun S T q _ h => by
            have h3 := congrArg List.length h; have h4 : T.data.toList.length = T.size := rfl; have h5 : S.data.toList.length = S.size := rfl
            by_cases hq : q
            ·rw [if_pos hq, Kcu] at h3; omega
            ·rw [if_neg hq] at h3; omega
           rw [zz S0 T0 _ ht0, zz S1 T1 _ ht1, zz S2 T2 _ ht2]; exact ⟨HBT.out.z0, HBT.out.z1, HBT.out.z2⟩
          have HZ3 := Jh hz3; clear hlw hf hg ht0 ht1 ht2 hz3; have u0 := (show Blk wh _ _ _ from HG.out).cell 0; have u1 := (show Blk wh _ _ _ from HG.out).cell 1; have u2 := (show Blk wh _ _ _ from HG.out).cell 2; simp at u0 u1 u2
          cases av with
          | true =>
           have HPS := Jh (HSP.out HFB.out S0 S1 S2 HFIL.out i hi kk z j HK4.out.1 (by rw [HSE.out]; exact HK4.out.2) HAV.out HBT.out.z0 HBT.out.z1 HBT.out.z2 T0 T1 T2 HT.out.1 HT.out.2.1 HT.out.2.2 wh HLW.out.e); go_wp2_with fail
           refine HPS.out.mono ?_; rintro _ wl ⟨rfl, hbl⟩; clear u0 u1 u2; go_upto_region 19 with fail
           replace HLW := Jh (HLW.out.below hbl); replace HF := Jh (HF.out.below hbl); clear hbl HPS; obtain ⟨q5, hp_q5⟩ : ∃ p, wl.heap.size = p := ⟨_, rfl⟩; have hbx : Below wl.heap.size wl (wl.alloc (.cells #[.int .i64 0, .int .i64 0, .int .i64 0, .slice none 0 0] 28)) := (Below.refl _ _).alloc (Nat.le_refl _) _; have hkx : Blk (wl.alloc (.cells #[.int .i64 0, .int .i64 0, .int .i64 0, .slice none 0 0] 28)) q5 28 #[.int .i64 0, .int .i64 0, .int .i64 0, .slice none 0 0] := by rw [← hp_q5]; exact Blk.new _ _ _
           obtain ⟨wm, hw_wm⟩ : ∃ x, wl.alloc (.cells #[.int .i64 0, .int .i64 0, .int .i64 0, .slice none 0 0] 28) = x := ⟨_, rfl⟩; rw [hw_wm] at hbx hkx; rw [hw_wm, hp_q5]; replace HLW := Jh (HLW.out.below hbx); replace HF := Jh (HF.out.below hbx); have HGC := Jh (CBox.mk hkx (⟨Sers.nil _, by decide, fun s hs => by cases hs⟩ : Kbq _ none 0 [])); clear hbx hkx hw_wm hp_q5; have x0 := HGC.out.k.cell 0; have x1 := HGC.out.k.cell 1; have x2 := HGC.out.k.cell 2; have x3 := HGC.out.k.cell 3; simp at x0 x1 x2 x3; have hal := Kgi nilK nilK ⟨none, 0, 0⟩ ⟨none, 0, 0⟩ wm HGC.out.s HGC.out.s; rw [show decide (nilK = nilK) = true by simp] at hal; have hal2 : Calls Tryz.prog 30 #[.agg #[.int .i64 0, .int .i64 0, .int .i64 0, .slice none 0 0], .agg #[.int .i64 0, .int .i64 0, .int .i64 0, .slice none 0 0]] wm fun e w' => e = .returned (.bool true) ∧ Below wm.heap.size wm w' := hal
           have HAL := Jh hal2; clear hal hal2; go_wp2_with fail
           refine HAL.out.mono ?_; rintro _ wo2 ⟨rfl, hbo⟩; replace HLW := Jh (HLW.out.below hbo); replace HF := Jh (HF.out.below hbo); clear hbo HAL x0 x1 x2 x3; go_wp2_with fail
           go_roundg (2 - i)
           case measure => have := HIG.out; omega
           case rel => exact ⟨i + 1, by have := HIG.out; omega, by first | rfl | go_num, HLW.out, HF.out⟩
          | false =>
           have HPY := Jh (Kqy T0 T1 T2 wh (by have := HZ3.out; omega) (by have := HZ3.out; omega) (by have := HZ3.out; omega) HLW.out.e); go_wp2_with fail
           refine HPY.out.mono ?_; rintro _ wl ⟨⟨y, Ay, ny, ky, _, rfl, _⟩ | ⟨h9, rfl, _⟩, hbl⟩
           ·clear u0 u1 u2; replace HLW := Jh (HLW.out.below hbl); replace HF := Jh (HF.out.below hbl); clear hbl HPY; go_wp2_with fail
            go_roundg (2 - i)
            case measure => have := HIG.out; omega
            case rel => exact ⟨i + 1, by have := HIG.out; omega, by first | rfl | go_num, HLW.out.below ((Below.refl _ _).alloc (Nat.le_refl _) _), HF.out.below ((Below.refl _ _).alloc (Nat.le_refl _) _)⟩
           ·clear u0 u1 u2; replace HLW := Jh (HLW.out.below hbl); replace HF := Jh (HF.out.below hbl); clear hbl HPY; go_wp2_with fail
            go_roundg (2 - i)
            case measure => have := HIG.out; omega
            case rel => exact ⟨i + 1, by have := HIG.out; omega, by first | rfl | go_num, HLW.out.below ((Below.refl _ _).alloc (Nat.le_refl _) _), HF.out.below ((Below.refl _ _).alloc (Nat.le_refl _) _)⟩
   ·have el : decide (i < 3) = false := by rw [decide_eq_false_iff_not]; exact hi
    have hi3 : i = 3 := by have := HIG.out; omega
    subst hi3; go_wp2_with fail
    go_ret
    exact ⟨rfl, HLW.out.b⟩
end
section
open Go.ChangeShapes Go.WideShapes Go.ChangeAt Go.RowKit Go.ChangeMaps
theorem Kuw {P : Program} {W : World} {x : String × DataW Unit} {r : List (String × DataW Unit)} (h : laidMet P (x :: r) W) : laidMet P r W := by
 obtain ⟨ps, ⟨g, t, cs, f, p, q, hg, ht, hv, hd, hr, e⟩, hnd, hrows⟩ := h; subst e; refine ⟨q, hr, ?_, fun b off hm => hrows b off (by simp [hm])⟩
 first | exact (List.nodup_append.1 hnd).2.1 | exact (List.nodup_append.1 (List.nodup_append.1 hnd).2.1).2.1
theorem Qaw {W : World} (h : laidMet Tryz.prog Rows.blockBackRow.laid W) : BEnv W := by
 have h1 := Kuw h; have hdbT : Lib.TabIs Tryz.prog W "math/bits.deBruijn64tab" .u8 (Lib.deBruijn64tab.map fun n : Nat => (n : Int)) := Lib.tabIs_of_head (g := 2) (t := 348) (e := 5) (n := 64) (by kernel_rfl) (by kernel_rfl) (by kernel_rfl) (by kernel_rfl) (by kernel_rfl) (by kernel_rfl) h; have hnibT : Lib.TabIs Tryz.prog W "almanac/enc.nibbles" .u32 [0, 274646895, 549293790, 820201905, 1098587580, 1361435347, 1640403810, 1905808397, 2197175160, 2460548119, 2722870694, 2987750089, 3280807620, 3553878443, 3811616794, 4084100981] := Lib.tabIs_of_head (g := 0) (t := 276) (e := 74) (n := 16) (by kernel_rfl) (by kernel_rfl) (by kernel_rfl) (by kernel_rfl) (by kernel_rfl) (by kernel_rfl) h1; refine ⟨fun i hi => ?_, fun i hi => ?_⟩
 ·rw [hnibT.cell (by kernel_rfl) i hi]; rcases (by omega : i = 0 ∨ i = 1 ∨ i = 2 ∨ i = 3 ∨ i = 4 ∨ i = 5 ∨ i = 6 ∨ i = 7 ∨ i = 8 ∨ i = 9 ∨ i = 10 ∨ i = 11 ∨ i = 12 ∨ i = 13 ∨ i = 14 ∨ i = 15) with rfl | rfl | rfl | rfl | rfl | rfl | rfl | rfl | rfl | rfl | rfl | rfl | rfl | rfl | rfl | rfl <;> rfl
 ·rw [hdbT.cell (by kernel_rfl) i (by rw [List.length_map]; exact hi)]; congr 2; rw [List.getD_eq_getElem?_getD, List.getElem?_map, List.getD_eq_getElem?_getD, List.getElem?_eq_getElem hi]; rfl
def Qen : DataW Unit → Array Value
 | .agg l => (l.map fun | .lit (.int k v) => Value.int k v | _ => undef).toArray
 | _ => #[]
noncomputable def Kmn (os : Os) : World :=
 let w0 := World.settled Tryz.prog os
 let tab (h : Array Obj) (g : Nat) (d : DataW Unit) : Array Obj := h.modify g fun
  | .cells _ t frozen => .cells (Qen d) t frozen
  | o => o
 { w0 with heap := tab (tab w0.heap 2 Rows.laid_math_bits_deBruijn64tab) 0 Rows.laid_almanac_enc_nibbles }
set_option maxRecDepth 1000000 in
theorem Qgt (os : Os) (args : Array Value) : laidMet Tryz.prog Rows.blockBackRow.laid ((Kmn os).forCall (fun _ _ => 0) ⟨#[], args, []⟩).memory :=
 laidMet_of_run' 8 (by kernel_rfl) (by kernel_rfl)
theorem Qcn : (Rows.blockSpoiltUptoRow.inPlace == Tryz.pinned.checked.prog.inPlace 11) = true := by kernel_rfl
theorem Qcd : (Rows.blockSpoiltUptoRow.unfollowed == Tryz.pinned.checked.prog.unfollowed 11) = true := by kernel_rfl
theorem Qdg : (Rows.blockSpoiltUptoRow.recurses == Tryz.pinned.checked.prog.recurses 11) = true := by kernel_rfl
theorem Qdd : (Rows.blockSpoiltUptoRow.named == Tryz.pinned.checked.prog.varsNamed 11) = true := by kernel_rfl
theorem Kus : joinedFacts Tryz.pinned.checked.prog 11 Tryz.f11 (Rows.OpenSpec.upto Rows.blockSpoiltSpec).bare Rows.blockSpoiltUptoRow = true := by
 unfold joinedFacts; simp only [Bool.and_eq_true]
 repeat' apply And.intro
 all_goals first | with_reducible exact Qcn | with_reducible exact Qcd | with_reducible exact Qdg | with_reducible exact Qdd | kernel_rfl
theorem Kvg (os : Os) {H : Type} (enc : TypeId × Value → H) : ∃ places, DataW.whole enc Tryz.prog ((Kmn os).forCall (fun _ _ => 0) ⟨#[], #[.agg #[.int .i64 0, .int .i64 0, .int .i64 0, .slice none 0 0], .int .i64 0, .int .u32 0], []⟩).memory Tryz.f11.params.toList Rows.blockSpoiltSpec.vars false #[Value.agg #[.int .i64 0, .int .i64 0, .int .i64 0, .slice none 0 0], .int .i64 0, .int .u32 0].toList 8 = some ([.agg [.lit (.int .i64 0), .lit (.int .i64 0), .lit (.int .i64 0), .nil], .lit (.int .i64 0), .lit (.int .u32 0)], [], places) :=
 ⟨[], by kernel_rfl⟩
theorem Koh (H : Type) (enc : TypeId × Value → H) (W : World) (base : Nat) (args : Array Value) (ds gs : List (DataW H)) (before : List MemPlace)
  (hval0 : ∀ (j : Nat) t v, Tryz.f11.params[j]? = some t → args[j]? = some v → Value.okWide Tryz.prog W .any base t v)
  (hW : DataW.Whole enc Tryz.prog Tryz.f11.params.toList Rows.blockSpoiltSpec.vars false W args.toList ds gs before) (hsz0 : (DataW.weightsEach Tryz.prog (Tryz.f11.params.toList ++ Rows.blockSpoiltSpec.plain.varTypes Tryz.prog) (ds ++ gs)).all (· ≤ reachBytes) = true) (hk0 : Rows.uptoSmall H (ds ++ gs) = true) (hL : laidMetH Tryz.prog Rows.blockSpoiltRow.laid W) :
  Calls Tryz.prog 11 args W fun e W' => ∃ v, e = .returned v ∧ Rows.blockSpoiltSpec.post enc Tryz.prog Tryz.f11 false true false false W args v W' := by
 have hval := hval0; have hW' := hW; have hsz := hsz0; obtain ⟨p, q, hA0, hV, rfl, _, _⟩ := hW; have hA : DataW.TrodAll enc Tryz.prog W 0 (fun _ => true) true Tryz.f11.params.toList args.toList ds p := hA0; rw [Tryz.params11] at hA hval hsz; obtain ⟨v0, v1, v2, d0, d1, d2, p0, p1, p2, rfl, rfl, rfl, h0, h1, h2⟩ := trodAll_three hA; obtain ⟨rfl, rfl⟩ := trodVars_none hV; clear hA0 hval0 hsz0; simp only [List.append_nil] at hW'; simp only [List.append_nil] at hk0; have hbulk := Qeg hk0; simp only [Rows.uptoBulkAll, Nat.add_zero] at hbulk; have hlt : ∀ x ∈ p0 ++ (p1 ++ p2), x.block < W.heap.size := fun x hx => by simpa using hW'.lt x (by simpa using hx)
 have hargs : ∀ (W' : World), Below W.heap.size W W' → DataW.TrodAll enc Tryz.prog W' 0 (fun b => decide (b < W.heap.size)) true [28, 3, 74] [v0, v1, v2] [d0, d1, d2] (p0 ++ (p1 ++ p2)) :=
  fun W' hn => trodAll_mk3 (Below.trod Tryz.laidOut (by kernel_rfl) (of_decide_eq_true (by kernel_rfl)) h0 hn (fun x hx => hlt x (by simp [hx]))) (Below.trod Tryz.laidOut (by kernel_rfl) (of_decide_eq_true (by kernel_rfl)) h1 hn (fun x hx => hlt x (by simp [hx]))) (Below.trod Tryz.laidOut (by kernel_rfl) (of_decide_eq_true (by kernel_rfl)) h2 hn (fun x hx => hlt x (by simp [hx])))
 obtain ⟨c0, hd0, rfl, hnc0, hS0, hr0, hf0, ht0, hb0⟩ := Qan (hval 0 28 v0 rfl rfl) h0; have hI0 := hb0 (by omega); have hZ0 : CSz c0 := ⟨hI0.n, hI0.m, hI0.k, hI0.z⟩; obtain ⟨z1, rfl, rfl, rfl, hz1⟩ := open_int Tryz.underlying3 (hval 1 3 v1 rfl rfl) h1; obtain ⟨z2, rfl, rfl, rfl, hz2⟩ := open_int Tryz.underlying74 (hval 2 74 v2 rfl rfl) h2; have hE := Qaw hL; refine (Klg c0 hd0.A hd0.n hd0.c z1 z2 W hI0.ok hZ0 hz1 hz2 hE).mono fun e W' ⟨he, hb⟩ => ?_
 subst he; exact ⟨_, rfl, _, _, _, [], _, [], hW', trodAll_mk1 (shut_bool Tryz.underlying4 true), hargs _ hb, rfl, hb.frame _, fun h => by cases h⟩
theorem Kse (os : Os) (started : os.Started) (H : Type) (enc : TypeId × Value → H) (F : Stop.Interp) :
  ReturnsInHanded {} Tryz.checked os 11 .any ((Rows.OpenSpec.upto Rows.blockSpoiltSpec).preRow enc Tryz.prog Tryz.f11 Rows.blockSpoiltUptoRow.domain false Rows.blockSpoiltUptoRow.laid) (((Rows.OpenSpec.upto Rows.blockSpoiltSpec).at F).post enc Tryz.prog Tryz.f11 false true false false) := by
 obtain ⟨places, hx⟩ := Kvg os enc
 refine returnsInHanded_of_row (C := Tryz.checked) (s := Rows.OpenSpec.upto Rows.blockSpoiltSpec) Tryz.own started (by kernel_rfl) Tryz.func11
  (witness_row_atRef (enc := enc) (C := Tryz.checked) false (Kmn os) #[.agg #[.int .i64 0, .int .i64 0, .int .i64 0, .slice none 0 0], .int .i64 0, .int .u32 0] rfl (by kernel_rfl) (by kernel_rfl) (by kernel_rfl)
   (OpenSpec.preRow_of_cond 8 hx (by kernel_rfl) (fun k hk => by cases hk; kernel_rfl) (by kernel_rfl) (Qgt os _))) ?_
 intro W base args ds gs before hval hW _ hcond hsz hL _ _; exact Koh H enc W base args ds gs before hval hW hsz (hcond _ rfl) hL
theorem Kwd : Rows.BlockSpoiltUptoSaid :=
 OpenClaim.holds_of_cond 11 Tryz.f11 rfl rfl rfl rfl rfl rfl rfl ⟨rfl, rfl, rfl, rfl, rfl⟩ rfl rfl rfl rfl rfl (by kernel_rfl) Tryz.func11 Kus
  (of_decide_eq_true (by kernel_rfl)) (by unfold Func.isWrapper; first | (rw [if_pos (by decide +kernel)]; kernel_rfl) | (rw [if_neg (by decide +kernel)]; exact ⟨rfl, rfl⟩))
  (fun os started H enc _ F => by rw [OpenClaim.pre_eq_preRow]; exact Kse os started H enc F)
theorem Ktj (f : FuncId) (fn : Func) (hf : Tryz.pinned.checked.prog.funcNamed "almanac/almanaclaw19.BlockSpoilt" = some f) (hfn : Tryz.pinned.checked.prog.funcs[f]? = some fn) :
  true = Tryz.pinned.checked.prog.looks [] ∧ ∀ (j : Nat) t, fn.params[j]? = some t → Tryz.pinned.checked.prog.wantsStandIn t = false := by
 obtain rfl : f = 11 := Option.some.inj ((show Tryz.prog.funcNamed "almanac/almanaclaw19.BlockSpoilt" = some 11 by kernel_rfl).symm.trans hf) |>.symm; obtain rfl : fn = Tryz.f11 := (Option.some.inj (Tryz.func11.symm.trans hfn)).symm; refine ⟨by kernel_rfl, fun j t ht => ?_⟩; rw [Tryz.params11] at ht; have hm : t = 28 ∨ t = 3 ∨ t = 74 := by simpa using Array.mem_of_getElem? ht
 rcases hm with rfl | rfl | rfl
 ·exact (show Tryz.prog.wantsStandIn 28 = false by kernel_rfl)
 ·exact (show Tryz.prog.wantsStandIn 3 = false by kernel_rfl)
 ·exact (show Tryz.prog.wantsStandIn 74 = false by kernel_rfl)
theorem blockSpoilt_holds : Rows.BlockSpoiltUptoCardSaid :=
 Claim7.holds_tied_plain_at .later [] _ _ _ _ Kwd (fun _ h => by cases h) (by kernel_rfl) (fun _ h => by cases h) blockSpoiltUpto_row_tie rfl ⟨rfl, rfl⟩ (by kernel_rfl) rfl Ktj (by kernel_rfl)
end
end Go.Proofs.YtdoiekknhnbepaaGreatDoor
