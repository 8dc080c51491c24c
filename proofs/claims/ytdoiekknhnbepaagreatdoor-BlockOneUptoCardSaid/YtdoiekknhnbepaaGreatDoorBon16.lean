/- Merged (what the claim wants of): BlkLawA, OpenS, OpenBulk, OpenSym, OpenLab, OpenSets, BlkOpenC, BlkLawB, BlkLawC, BlkLawG, BlkLawE, BlkTurnO, BlkD, BlkProofOF, BlkProofO. -/
import Derived.Test.YtdoiekknhnbepaaGreatDoorBon15
import Derived.Test.YtdoiekknhnbepaaGreatDoorRows
import Derived.ProofKit
import Derived.SizedLaws
import Derived.OpenShut
import Derived.ChangeMaps5
import Derived.Test.YtdoiekknhnbepaaGreatDoorBon01
import Derived.Deep.Slices
import Derived.Test.YtdoiekknhnbepaaGreatDoorBon02
import Derived.Test.YtdoiekknhnbepaaGreatDoorBon03
import Derived.Test.YtdoiekknhnbepaaGreatDoorBon09
import Derived.Test.YtdoiekknhnbepaaGreatDoorBon12
import Derived.Test.YtdoiekknhnbepaaGreatDoorBon04
import Derived.Test.YtdoiekknhnbepaaGreatDoorCards
import Derived.Test.YtdoiekknhnbepaaGreatDoorTie
import Derived.WalkKit
import Derived.Deep.DeepHandedRow
import Derived.Deep.DeepWitnessRowRef
import Derived.Lib.LaidTab
import Derived.Stop.LaidTwo
set_option linter.unusedVariables false
set_option linter.unusedSimpArgs false
set_option maxRecDepth 100000
set_option maxHeartbeats 8000000
namespace Go.Proofs.YtdoiekknhnbepaaGreatDoor
section
open Go.RowKit
open Lib renaming hid → Jh
attribute [local go_sem ↓] Go.wp_at_zero Go.wp_at_succ
attribute [local go_sem] Later.cell
structure BEnv (w : World) : Prop where
 n : Kca w
 d : DbTab w
theorem BEnv.below {w w' : World} (h : BEnv w) (hb : Below w.heap.size w w') : BEnv w' := ⟨h.n.below h.n.lt hb, h.d.below hb⟩
def wakeC : Cont := ⟨0, 0, 10, [⟨[⟨[97], [120]⟩], [⟨3, 4⟩, ⟨9, 1⟩], []⟩]⟩
theorem Kgr : fitB wakeC = true := by kernel_rfl
theorem Qhi : Kds ⟨[], [], []⟩ = none := by kernel_rfl
theorem Qcp : Kbi [[], [], []] = 20 := by kernel_rfl
theorem Ksv : Kfr wakeC := Qgt Kgr (fun s hs => by
 rw [List.mem_singleton.1 hs]; refine ⟨fun x hx => ?_, fun x hx => ?_⟩
 ·rcases List.mem_cons.1 hx with rfl | hx
  ·decide
  ·rw [List.mem_singleton.1 hx]; decide
 ·cases hx) (by decide) (by decide) (by decide)
theorem Qdl : Kaj (Kae wakeC) ⟨[97], [120]⟩ = [0] := by kernel_rfl
theorem Kki {c : Cont} (h : fitB c = true) (hn : c.series.length ≤ 1048576) (hm : smpsN c.series + wndsN c.series ≤ 1048576) (hk : labsN c.series ≤ 349525) : (Kbc c).mt.length ≤ 200000000 ∧ (Kbc c).ck.length ≤ 200000000 ∧ (Kbc c).ix.length ≤ 200000000 := Kxo h hn hm hk
theorem Khp : (Kbc wakeC).mt.length ≤ 200000000 ∧ (Kbc wakeC).ck.length ≤ 200000000 ∧ (Kbc wakeC).ix.length ≤ 200000000 := Kki Kgr (by decide) (by decide) (by decide)
theorem Qcv {c : Cont} (hf : fitB c = true) (hb : Kfr c) (hn : c.series.length ≤ 1099511627776) (q : Lb) : Kih (Kbc c).ix q = some (Kaj (Kae c) q) := by
 unfold Kih; rw [show (Kbc c).ix = sealT (Kba c) from rfl, Kmj]; have hs := Khn hf; have h1 := Koy hs; have hl : (Kae c).length = c.series.length := by simp [Kae]
 exact Qaf hf hb (fun x hx => by have := Khd hs x hx; omega) (by omega) q
theorem Qdg {w : World} {q : Nat} (h0 : Blk w q 99 #[.string ⟨#[97]⟩, .string ⟨#[120]⟩]) (h1 : Blk w (q + 1) 102 #[.int .i64 3, .int .u64 4, .int .i64 9, .int .u64 1]) (h2 : Blk w (q + 2) 58 #[.slice (some ⟨q, 0, none⟩) 1 1, .slice (some ⟨q + 1, 0, none⟩) 2 2, .slice none 0 0]) :
  Kbo w (some ⟨q + 2, 0, none⟩) 1 wakeC.series := by
 refine ⟨⟨[⟨⟨some ⟨q, 0, none⟩, 1, 1⟩, ⟨some ⟨q + 1, 0, none⟩, 2, 2⟩, ⟨none, 0, 0⟩⟩], ⟨rfl, fun _ => ⟨q + 2, 0, rfl, h2.lt, fun i x hx j v hv => ?_⟩⟩, rfl, fun i h hi => ?_⟩, by decide, fun s hs => ?_⟩
 ·match i, hx with
  | 0, hx =>
   injection hx with hx; subst hx
   match j, hv with
   | 0, hv => injection hv with hv; subst hv; exact h2.cell 0
   | 1, hv => injection hv with hv; subst hv; exact h2.cell 1
   | 2, hv => injection hv with hv; subst hv; exact h2.cell 2
 ·match i, hi with
  | 0, hi =>
   injection hi with hi; subst hi; refine ⟨⟨rfl, fun _ => ⟨q, 0, rfl, h0.lt, fun i x hx j v hv => ?_⟩⟩, Nat.le_refl _, ⟨rfl, fun _ => ⟨q + 1, 0, rfl, h1.lt, fun i x hx j v hv => ?_⟩⟩, Nat.le_refl _, Elems.nil_, Nat.le_refl _⟩
   ·match i, hx with
    | 0, hx =>
     injection hx with hx; subst hx
     match j, hv with
     | 0, hv => injection hv with hv; subst hv; exact h0.cell 0
     | 1, hv => injection hv with hv; subst hv; exact h0.cell 1
   ·match i, hx with
    | 0, hx =>
     injection hx with hx; subst hx
     match j, hv with
     | 0, hv => injection hv with hv; subst hv; exact h1.cell 0
     | 1, hv => injection hv with hv; subst hv; exact h1.cell 1
    | 1, hx =>
     injection hx with hx; subst hx
     match j, hv with
     | 0, hv => injection hv with hv; subst hv; exact h1.cell 2
     | 1, hv => injection hv with hv; subst hv; exact h1.cell 3
 ·rw [List.mem_singleton.1 hs]; refine ⟨by decide, by decide, by decide, fun x hx => ?_, fun x hx => ?_, fun x hx => ?_⟩
  ·rcases List.mem_cons.1 hx with rfl | hx
   ·decide
   ·rw [List.mem_singleton.1 hx]; decide
  ·cases hx
  ·rw [List.mem_singleton.1 hx]; decide
theorem Kky (c : Cont) (hd : Hd) (w : World) (hS : Kbo w hd.A hd.n c.series) (hE : BEnv w) (hsz : fitB c = true → (Kce c).length ≤ 35184372088832 ∧ (Kba c).length ≤ 35184372088832) :
  Calls Tryz.prog 19 #[contV c.res c.frm c.to_ hd] w fun e w' => e = .returned (.tuple #[filV (Kci c), .int .i64 (if fitB c = true then 0 else 190)]) ∧ Below w.heap.size w w' :=
 Kmn c hd w hS.s hS.z (by have h1 : c.series.length = hd.n := hS.s.len; have := hS.n; omega) hE.d hE.n hsz
theorem Kvt {c : Cont} (hf : fitB c = true) (hb : Kfr c) {S0 S1 S2 : ByteArray} (hfil : filOf S0 S1 S2 = Kbc c) (h0 : bSz S0) (h1 : bSz S1) (h2 : bSz S2) (w : World) (hE : BEnv w) :
  Calls Tryz.prog 29 #[.agg #[.string S0, .string S1, .string S2]] w fun e w' => (∃ A n k, e = .returned (.tuple #[.agg #[.int .i64 c.res, .int .i64 c.frm, .int .i64 c.to_, .slice A n k], .int .i64 0]) ∧ Kbo w' A n c.series) ∧ Below w.heap.size w w' := by
 have := Khv S0 S1 S2 w h0 h1 h2 hE.n hE.d; rw [hfil, Kzu hf hb] at this; refine this.mono ?_; rintro e w' ⟨⟨⟨A, n, k⟩, rfl, hs, _⟩, hb⟩; exact ⟨⟨A, n, k, rfl, hs⟩, hb⟩
theorem Kwm (w : World) (hE : BEnv w) :
  Calls Tryz.prog 29 #[.agg #[.string ⟨#[]⟩, .string ⟨#[]⟩, .string ⟨#[]⟩]] w fun e w' => e = .returned (.tuple #[.agg #[.int .i64 0, .int .i64 0, .int .i64 0, .slice none 0 0], .int .i64 20]) ∧ Below w.heap.size w w' := by
 have := Khv ⟨#[]⟩ ⟨#[]⟩ ⟨#[]⟩ w (by unfold bSz; decide) (by unfold bSz; decide) (by unfold bSz; decide) hE.n hE.d; rw [show Kds (filOf ⟨#[]⟩ ⟨#[]⟩ ⟨#[]⟩) = none from Qhi, show Kbi [(⟨#[]⟩ : ByteArray).data.toList, (⟨#[]⟩ : ByteArray).data.toList, (⟨#[]⟩ : ByteArray).data.toList] = 20 from Qcp] at this; exact this
theorem Ksf (w : World) (hE : BEnv w) : Calls Tryz.prog 26 #[] w fun e w' => e = .returned (.bool true) ∧ Below w.heap.size w w' := by
 have HE := Jh hE; clear hE; go_enter Tryz.func26, Tryz.ntmps26
 go_upto_region 2 with fail
 have hb1 : Below w.heap.size w ((((w.alloc (.cells #[.string ⟨#[97]⟩, .string ⟨#[120]⟩] 99)).alloc (.cells #[.int .i64 3, .int .u64 4, .int .i64 9, .int .u64 1] 102)).alloc (.cells #[.slice (some ⟨w.heap.size, 0, none⟩) 1 1, .slice (some ⟨w.heap.size + 1, 0, none⟩) 2 2, .slice none 0 0] 58)).alloc (.cells #[.int .i64 0, .int .i64 0, .int .i64 10, .slice (some ⟨w.heap.size + 1 + 1, 0, none⟩) 1 1] 28)) := ((((Below.refl _ _).alloc (Nat.le_refl _) _).alloc (by simp) _).alloc (by simp; omega) _).alloc (by simp; omega) _; have k0 : Blk ((((w.alloc (.cells #[.string ⟨#[97]⟩, .string ⟨#[120]⟩] 99)).alloc (.cells #[.int .i64 3, .int .u64 4, .int .i64 9, .int .u64 1] 102)).alloc (.cells #[.slice (some ⟨w.heap.size, 0, none⟩) 1 1, .slice (some ⟨w.heap.size + 1, 0, none⟩) 2 2, .slice none 0 0] 58)).alloc (.cells #[.int .i64 0, .int .i64 0, .int .i64 10, .slice (some ⟨w.heap.size + 1 + 1, 0, none⟩) 1 1] 28)) w.heap.size 99 #[.string ⟨#[97]⟩, .string ⟨#[120]⟩] := (((Blk.new _ _ _).alloc _).alloc _).alloc _; have k1 : Blk ((((w.alloc (.cells #[.string ⟨#[97]⟩, .string ⟨#[120]⟩] 99)).alloc (.cells #[.int .i64 3, .int .u64 4, .int .i64 9, .int .u64 1] 102)).alloc (.cells #[.slice (some ⟨w.heap.size, 0, none⟩) 1 1, .slice (some ⟨w.heap.size + 1, 0, none⟩) 2 2, .slice none 0 0] 58)).alloc (.cells #[.int .i64 0, .int .i64 0, .int .i64 10, .slice (some ⟨w.heap.size + 1 + 1, 0, none⟩) 1 1] 28)) (w.heap.size + 1) 102 #[.int .i64 3, .int .u64 4, .int .i64 9, .int .u64 1] := ((Blk.newAt (by simp)).alloc _).alloc _; have k2 : Blk ((((w.alloc (.cells #[.string ⟨#[97]⟩, .string ⟨#[120]⟩] 99)).alloc (.cells #[.int .i64 3, .int .u64 4, .int .i64 9, .int .u64 1] 102)).alloc (.cells #[.slice (some ⟨w.heap.size, 0, none⟩) 1 1, .slice (some ⟨w.heap.size + 1, 0, none⟩) 2 2, .slice none 0 0] 58)).alloc (.cells #[.int .i64 0, .int .i64 0, .int .i64 10, .slice (some ⟨w.heap.size + 1 + 1, 0, none⟩) 1 1] 28)) (w.heap.size + 1 + 1) 58 #[.slice (some ⟨w.heap.size, 0, none⟩) 1 1, .slice (some ⟨w.heap.size + 1, 0, none⟩) 2 2, .slice none 0 0] := (Blk.newAt (by simp)).alloc _; have k3 : Blk ((((w.alloc (.cells #[.string ⟨#[97]⟩, .string ⟨#[120]⟩] 99)).alloc (.cells #[.int .i64 3, .int .u64 4, .int .i64 9, .int .u64 1] 102)).alloc (.cells #[.slice (some ⟨w.heap.size, 0, none⟩) 1 1, .slice (some ⟨w.heap.size + 1, 0, none⟩) 2 2, .slice none 0 0] 58)).alloc (.cells #[.int .i64 0, .int .i64 0, .int .i64 10, .slice (some ⟨w.heap.size + 1 + 1, 0, none⟩) 1 1] 28)) (w.heap.size + 1 + 1 + 1) 28 #[.int .i64 0, .int .i64 0, .int .i64 10, .slice (some ⟨w.heap.size + 1 + 1, 0, none⟩) 1 1] := Blk.newAt (by simp); obtain ⟨w1, hw1⟩ : ∃ w1, (((w.alloc (.cells #[.string ⟨#[97]⟩, .string ⟨#[120]⟩] 99)).alloc (.cells #[.int .i64 3, .int .u64 4, .int .i64 9, .int .u64 1] 102)).alloc (.cells #[.slice (some ⟨w.heap.size, 0, none⟩) 1 1, .slice (some ⟨w.heap.size + 1, 0, none⟩) 2 2, .slice none 0 0] 58)).alloc (.cells #[.int .i64 0, .int .i64 0, .int .i64 10, .slice (some ⟨w.heap.size + 1 + 1, 0, none⟩) 1 1] 28) = w1 := ⟨_, rfl⟩; rw [hw1] at hb1 k0 k1 k2 k3
 try rw [hw1]
 obtain ⟨q, hq⟩ : ∃ q, w.heap.size = q := ⟨_, rfl⟩; rw [hq] at k0 k1 k2 k3 ⊢; have hb1q : Below q w w1 := by rw [← hq]; exact hb1
 have HQ := Jh hq; have HSO := Jh (Qdg k0 k1 k2); have HK3 := Jh k3; have HB1 := Jh hb1q; have HE1 := Jh (HE.out.below hb1); have x0 := k3.cell 0; have x1 := k3.cell 1; have x2 := k3.cell 2; have x3 := k3.cell 3; simp at x0 x1 x2 x3; have hbl := Kky wakeC ⟨some ⟨q + 2, 0, none⟩, 1, 1⟩ w1 HSO.out HE1.out (fun _ => by have h1 := Khp; have h2 : ∀ l : List UInt8, (sealT l).length = l.length + 4 := (fun l => by unfold sealT; rw [List.length_append]; rfl); have h3 := h2 (Kce wakeC); have h4 := h2 (Kba wakeC); have h5 : (Kbc wakeC).ck = sealT (Kce wakeC) := rfl; have h6 : (Kbc wakeC).ix = sealT (Kba wakeC) := rfl; rw [h5, h6] at h1; omega); unfold Kci at hbl; rw [if_pos Kgr, if_pos Kgr] at hbl; obtain ⟨S0, hS0⟩ : ∃ S : ByteArray, (⟨(Kbc wakeC).mt.toArray⟩ : ByteArray) = S := ⟨_, rfl⟩; obtain ⟨S1, hS1⟩ : ∃ S : ByteArray, (⟨(Kbc wakeC).ck.toArray⟩ : ByteArray) = S := ⟨_, rfl⟩; obtain ⟨S2, hS2⟩ : ∃ S : ByteArray, (⟨(Kbc wakeC).ix.toArray⟩ : ByteArray) = S := ⟨_, rfl⟩; unfold filV txtV at hbl; rw [hS0, hS1, hS2] at hbl; have hbl2 : Calls Tryz.prog 19 #[.agg #[.int .i64 0, .int .i64 0, .int .i64 10, .slice (some ⟨q + 1 + 1, 0, none⟩) 1 1]] w1 fun e w' => e = .returned (.tuple #[.agg #[.string S0, .string S1, .string S2], .int .i64 0]) ∧ Below w1.heap.size w1 w' := hbl
 have HBL := Jh hbl2; have e0 : S0.data.toList = (Kbc wakeC).mt := by rw [← hS0]
 have e1 : S1.data.toList = (Kbc wakeC).ck := by rw [← hS1]
 have e2 : S2.data.toList = (Kbc wakeC).ix := by rw [← hS2]
 have hfil : filOf S0 S1 S2 = Kbc wakeC := by unfold filOf; rw [e0, e1, e2]
 have HZ0 : Hid (bSz S0) := Jh (by have h := Khp.1; rw [← e0] at h; have h1 : S0.data.toList.length = S0.size := rfl; unfold bSz; omega); have HZ1 : Hid (bSz S1) := Jh (by have h := Khp.2.1; rw [← e1] at h; have h1 : S1.data.toList.length = S1.size := rfl; unfold bSz; omega); have HZ2 : Hid (bSz S2) := Jh (by have h := Khp.2.2; rw [← e2] at h; have h1 : S2.data.toList.length = S2.size := rfl; unfold bSz; omega); have HFI := Jh hfil; have HE2 := Jh e2; clear hbl hbl2 hS0 hS1 hS2 e0 e1 e2 hfil hw1 hb1 hb1q hq k0 k1 k2 k3; go_wp2_with fail
 refine HBL.out.mono ?_; rintro _ w2 ⟨rfl, hb2⟩; go_upto_region 3 with fail
 have HK3b := Jh (HK3.out.below hb2 HK3.out.lt); have HSOb := Jh (HSO.out.below hb2); have HB2 := Jh (HB1.out.trans (hb2.mono (by have := HB1.out.size; have := HQ.out; omega))); have HEb := Jh (HE1.out.below hb2); clear x0 x1 x2 x3 hb2; obtain ⟨p2, hp2⟩ : ∃ p, w2.heap.size = p := ⟨_, rfl⟩; have hb3 : Below w2.heap.size w2 (w2.alloc (.cells #[.string S0, .string S1, .string S2] 44)) := (Below.refl _ _).alloc (Nat.le_refl _) _; have kf : Blk (w2.alloc (.cells #[.string S0, .string S1, .string S2] 44)) p2 44 #[.string S0, .string S1, .string S2] := by rw [← hp2]; exact Blk.new _ _ _
 obtain ⟨w3, hw3⟩ : ∃ w3, w2.alloc (.cells #[.string S0, .string S1, .string S2] 44) = w3 := ⟨_, rfl⟩; rw [hw3] at hb3 kf; rw [hw3, hp2]; have HK3c := Jh (HK3b.out.below hb3 HK3b.out.lt); have HSOc := Jh (HSOb.out.below hb3); have HB3 := Jh (HB2.out.trans (hb3.mono (by have := HB2.out.size; have := HQ.out; omega))); have HEc := Jh (HEb.out.below hb3); have HKF := Jh kf; have f0 := kf.cell 0; have f1 := kf.cell 1; have f2 := kf.cell 2; simp at f0 f1 f2; have hpa := Kvt Kgr Ksv HFI.out HZ0.out HZ1.out HZ2.out w3 HEc.out; have hpa2 : Calls Tryz.prog 29 #[.agg #[.string S0, .string S1, .string S2]] w3 fun e w' => (∃ A n k, e = .returned (.tuple #[.agg #[.int .i64 0, .int .i64 0, .int .i64 10, .slice A n k], .int .i64 0]) ∧ Kbo w' A n wakeC.series) ∧ Below w3.heap.size w3 w' := hpa
 have HPA := Jh hpa2; clear hpa hpa2 hb3 hw3 hp2 kf; go_wp2_with fail
 refine HPA.out.mono ?_; rintro _ w4 ⟨⟨A4, n4, k4, rfl, hs4⟩, hb4⟩; go_upto_region 4 with fail
 have HK3d := Jh (HK3c.out.below hb4 HK3c.out.lt); have HSOd := Jh (HSOc.out.below hb4); have HB4 := Jh (HB3.out.trans (hb4.mono (by have := HB3.out.size; have := HQ.out; omega))); have HEd := Jh (HEc.out.below hb4); have HKFd := Jh (HKF.out.below hb4 HKF.out.lt); have HS4 := Jh hs4; clear f0 f1 f2 hb4 hs4; obtain ⟨p4, hp4⟩ : ∃ p, w4.heap.size = p := ⟨_, rfl⟩; have hb5 : Below w4.heap.size w4 (w4.alloc (.cells #[.int .i64 0, .int .i64 0, .int .i64 10, .slice A4 n4 k4] 28)) := (Below.refl _ _).alloc (Nat.le_refl _) _; have kc : Blk (w4.alloc (.cells #[.int .i64 0, .int .i64 0, .int .i64 10, .slice A4 n4 k4] 28)) p4 28 #[.int .i64 0, .int .i64 0, .int .i64 10, .slice A4 n4 k4] := by rw [← hp4]; exact Blk.new _ _ _
 obtain ⟨w5, hw5⟩ : ∃ w5, w4.alloc (.cells #[.int .i64 0, .int .i64 0, .int .i64 10, .slice A4 n4 k4] 28) = w5 := ⟨_, rfl⟩; rw [hw5] at hb5 kc; rw [hw5, hp4]; have HK3e := Jh (HK3d.out.below hb5 HK3d.out.lt); have HSOe := Jh (HSOd.out.below hb5); have HB5 := Jh (HB4.out.trans (hb5.mono (by have := HB4.out.size; have := HQ.out; omega))); have HEe := Jh (HEd.out.below hb5); have hkfe := HKFd.out.below hb5 HKFd.out.lt; have HS5 := Jh (HS4.out.below hb5); have HKC := Jh kc; have f2 := hkfe.cell 2; simp at f2; have hpo := Kxf S2 ⟨#[97]⟩ ⟨#[120]⟩ w5 HZ2.out HEe.out.n; rw [HE2.out, Qcv Kgr Ksv (by decide) _, show Kaj (Kae wakeC) ⟨(⟨#[97]⟩ : ByteArray).data.toList, (⟨#[120]⟩ : ByteArray).data.toList⟩ = [0] from Qdl] at hpo; have HPO := Jh hpo; clear hpo hb5 hw5 hp4 kc hkfe; go_wp2_with fail
 refine HPO.out.mono ?_; rintro _ w6 ⟨⟨A6, k6, rfl, hE6⟩, hb6⟩; go_upto_region 5 with fail
 have HK3f := Jh (HK3e.out.below hb6 HK3e.out.lt); have HSOf := Jh (HSOe.out.below hb6); have HB6 := Jh (HB5.out.trans (hb6.mono (by have := HB5.out.size; have := HQ.out; omega))); have HEf := Jh (HEe.out.below hb6); have HS6 := Jh (HS5.out.below hb6); have HKCf := Jh (HKC.out.below hb6 HKC.out.lt); have HE6 := Jh hE6; have HPE := Jh (Kwm w6 HEf.out); clear f2 hb6 hE6; go_wp2_with fail
 refine HPE.out.mono ?_; rintro _ w7 ⟨rfl, hb7⟩; go_upto_region 6 with fail
 have HK3g := Jh (HK3f.out.below hb7 HK3f.out.lt); have HSOg := Jh (HSOf.out.below hb7); have HB7 := Jh (HB6.out.trans (hb7.mono (by have := HB6.out.size; have := HQ.out; omega))); have HS7 := Jh (HS6.out.below hb7); have HKCg := Jh (HKCf.out.below hb7 HKCf.out.lt); have HE7 := Jh ((HE6.out.below hb7).more hb7.size); clear hb7; have hb8 : Below w7.heap.size w7 (w7.alloc (.cells #[.int .i64 0, .int .i64 0, .int .i64 0, .slice none 0 0] 28)) := (Below.refl _ _).alloc (Nat.le_refl _) _; obtain ⟨w8, hw8⟩ : ∃ w8, w7.alloc (.cells #[.int .i64 0, .int .i64 0, .int .i64 0, .slice none 0 0] 28) = w8 := ⟨_, rfl⟩; rw [hw8] at hb8; rw [hw8]; have hk3 := HK3g.out.below hb8 HK3g.out.lt; have hkc := HKCg.out.below hb8 HKCg.out.lt; have hso := HSOg.out.below hb8; have hs8 := HS7.out.below hb8; have HB8 := Jh (HB7.out.trans (hb8.mono (by have := HB7.out.size; have := HQ.out; omega))); have he8 := (HE7.out.below hb8).more hb8.size; obtain ⟨b6, o6, rfl, hl6, hg6⟩ := he8.get (i := 0) (by simp); have HG6 := Jh (show w8.cell? ⟨b6, o6 + 0 * 1 + 0, none⟩ = some (.int .i64 0) from hg6 0 _ rfl); have x0 := hk3.cell 0; have x1 := hk3.cell 1; have x2 := hk3.cell 2; have x3 := hk3.cell 3; have y0 := hkc.cell 0; have y1 := hkc.cell 1; have y2 := hkc.cell 2; have y3 := hkc.cell 3; simp at x0 x1 x2 x3 y0 y1 y2 y3; have hal := Kji wakeC wakeC ⟨some ⟨q + 2, 0, none⟩, 1, 1⟩ ⟨A4, n4, k4⟩ w8 hso hs8; rw [show decide (wakeC = wakeC) = true by simp] at hal; have hal2 : Calls Tryz.prog 30 #[.agg #[.int .i64 0, .int .i64 0, .int .i64 10, .slice (some ⟨q + 1 + 1, 0, none⟩) 1 1], .agg #[.int .i64 0, .int .i64 0, .int .i64 10, .slice A4 n4 k4]] w8 fun e w' => e = .returned (.bool true) ∧ Below w8.heap.size w8 w' := hal
 have HAL := Jh hal2; have HL6 := Jh hl6; clear hal hal2 hb8 hw8 hk3 hkc hso hs8 he8 hg6 hl6; go_wp2_with fail
 refine HAL.out.mono ?_; rintro _ w9 ⟨rfl, hb9⟩; have g0 : w9.cell? ⟨b6, o6, none⟩ = some (.int .i64 0) := (hb9.cell HL6.out).trans HG6.out; have HB9 := Jh (HB8.out.trans (hb9.mono (by have := HB8.out.size; have := HQ.out; omega))); clear hb9 x0 x1 x2 x3 y0 y1 y2 y3; go_wp2_with fail
 go_ret
 exact ⟨rfl, by rw [HQ.out]; exact HB9.out⟩
end
section
open Go.ChangeShapes Go.WideShapes Go.ChangeAt Go.RowKit
theorem Tryz.own : ownKnob Tryz.prog.godebug = none := by kernel_rfl
theorem Tryz.laidOut : laidOutB Tryz.prog = true := by kernel_rfl
end
section
open Go.ChangeShapes Go.WideShapes Go.ChangeAt Go.RowKit Go.Deep
section
variable {H : Type} {enc : TypeId × Value → H} {P : Program} {w : World} {base : Nat} {spare : Nat → Bool} {held : Bool}
theorem Kfy {α : Type} [Inhabited α] {t e : TypeId} {sz : Nat} {ea : α → List Value} {Q : DataW H → α → Prop} (ht : P.underlying t = some (.slice e)) (hc : P.cellsOf e = sz) (h0 : 0 < sz) (hz : ∀ y, (ea y).length = sz)
  (ho : ∀ (fuel : Nat) (l : List Value) (x : DataW H × List MemPlace), DataW.trod enc P w base spare held fuel e l = some x → ∃ y, l = ea y ∧ Q x.1 y)
  {fuel : Nat} {v : Value} {x : DataW H × List MemPlace} (h : DataW.trod enc P w base spare held fuel t [v] = some x) :
  ∃ A n c ys, v = .slice A n c ∧ (A = none → c = 0) ∧ n ≤ c ∧ Elems w w.heap.size sz ea A n ys ∧ ∃ ds sp, (x.1 = .slice ds sp ∨ (x.1 = .nil ∧ ds = [])) ∧ ds.length = ys.length ∧ ∀ (i : Nat) d y, ds[i]? = some d → ys[i]? = some y → Q d y := by
 rcases open_slice ht h with ⟨hcs, hx⟩ | ⟨a, len, cap, m, n, D, Pl, hcs, _, hl, _, hmm, hx, hi⟩
 ·simp at hcs; subst hcs; exact ⟨none, 0, 0, [], rfl, fun _ => rfl, Nat.le_refl _, Elems.nil_, [], [], .inr ⟨by rw [hx], rfl⟩, rfl, fun i d y hd => by simp at hd⟩
 ·simp at hcs; subst hcs; rw [hc] at hi; have hlm : len ≤ m := by rw [hmm]; split <;> omega
  obtain ⟨f, hf⟩ := choose_lt (α := α) (n := len) (p := fun i y => (∀ j u, (ea y)[j]? = some u → w.cell? (a.add (i * sz + j)) = some u) ∧ Q (D i) y) (by
   intro i hlt; obtain ⟨cs', hc', ht'⟩ := hi i (by omega); obtain ⟨y, rfl, hq⟩ := ho _ _ _ ht'; obtain ⟨_, hcl, hat⟩ := World.cells?_some hc'; refine ⟨y, fun j u hu => ?_, hq⟩; have hj : j < sz := by have := (List.getElem?_eq_some_iff.1 hu).1; rw [hz] at this; exact this
   have := hat j hj; rw [Go.Deep.add_add] at this
   rw [this, hu])
  refine ⟨some a, len, cap, (List.range len).map f, rfl, (fun h => by cases h), hl, ⟨by simp, fun h0' => ?_⟩, (List.range len).map D, _, .inl (by rw [hx]), by simp, fun i d y hd hy => ?_⟩
  ·obtain ⟨b, off, spot⟩ := a; have hp : 0 < (ea (f 0)).length := by rw [hz]; exact h0
   have h00 := (hf 0 h0').1 0 _ (List.getElem?_eq_getElem hp); have hspot : spot = none := by simpa [Addr.add] using World.cell?_spot h00
   subst hspot; refine ⟨b, off, rfl, by simpa [Addr.add] using Kdi h00, fun i x hx j u hu => ?_⟩; have hil : i < len := by have := (List.getElem?_eq_some_iff.1 hx).1; simpa using this
   have hxe : f i = x := by simpa [hil] using hx
   subst hxe; have := (hf i hil).1 j u hu; rw [add_plain] at this; rw [← this, Nat.add_assoc]
  ·have hil : i < len := by have := (List.getElem?_eq_some_iff.1 hd).1; simpa using this
   have h1 : D i = d := by simpa [hil] using hd
   have h2 : f i = y := by simpa [hil] using hy
   rw [← h1, ← h2]; exact (hf i hil).2
end
theorem Kip {H : Type} (d : DataW H) : 1 ≤ Rows.uptoBulk d := by
 cases d with
 | lit l => cases l <;> simp [Rows.uptoBulk]
 | nil => simp [Rows.uptoBulk]
 | ptr d => simp [Rows.uptoBulk]
 | slice elems spare => simp [Rows.uptoBulk]
 | agg parts => simp [Rows.uptoBulk]
 | iface t d => simp [Rows.uptoBulk]
 | map entries => simp [Rows.uptoBulk]
 | held h => simp [Rows.uptoBulk]
theorem Kyx {H : Type} (l sp : List (DataW H)) : Rows.uptoBulkAll l + 1 ≤ Rows.uptoBulk (.slice l sp) := by simp only [Rows.uptoBulk]; omega
theorem Qft {H : Type} {l : List (DataW H)} (hk : Rows.uptoSmall H l = true) : Rows.uptoBulkAll l ≤ 1048576 := of_decide_eq_true hk
theorem Kvk {H α : Type} (mu : α → Nat) : ∀ (ds : List (DataW H)) (ys : List α), ds.length = ys.length → (∀ (i : Nat) d y, ds[i]? = some d → ys[i]? = some y → mu y ≤ Rows.uptoBulk d) → (ys.map mu).sum ≤ Rows.uptoBulkAll ds
 | [], [], _, _ => by simp
 | d :: ds, y :: ys, hl, h => by
  have h1 := h 0 d y rfl rfl; have h2 := Kvk mu ds ys (by simpa using hl) (fun i d' y' hd hy => h (i + 1) d' y' (by simpa using hd) (by simpa using hy)); simp only [List.map_cons, List.sum_cons, Rows.uptoBulkAll]; omega
 | [], _ :: _, hl, _ => by simp at hl
 | _ :: _, [], hl, _ => by simp at hl
theorem Khe {H α : Type} (mu : α → Nat) {d : DataW H} {ds sp : List (DataW H)} {ys : List α} (hd : d = .slice ds sp ∨ (d = .nil ∧ ds = [])) (hl : ds.length = ys.length) (h : ∀ (i : Nat) d y, ds[i]? = some d → ys[i]? = some y → mu y ≤ Rows.uptoBulk d) : (ys.map mu).sum + 1 ≤ Rows.uptoBulk d := by
 have := Kvk mu ds ys hl h; rcases hd with rfl | ⟨rfl, rfl⟩
 ·have := Kyx ds sp; omega
 ·obtain rfl : ys = [] := List.eq_nil_of_length_eq_zero (by simpa using hl.symm); simp [Rows.uptoBulk]
section
variable {H : Type} {enc : TypeId × Value → H} {w : World} {base : Nat} {spare : Nat → Bool} {held : Bool}
theorem Kug : Tryz.prog.cellsOf 9 = 1 := by kernel_rfl
def litT (s : Txt) : DataW H := .lit (.string s)
theorem Kvm {fuel : Nat} {l : List Value} {x : DataW H × List MemPlace} (h : DataW.trod enc Tryz.prog w base spare held fuel 9 l = some x) : ∃ s : Txt, l = [txtV s] ∧ x.1 = litT s := by
 obtain ⟨s, rfl, rfl, _⟩ := DataW.trod_string Tryz.underlying9 h; exact ⟨s.data.toList, rfl, rfl⟩
end
section
variable {H : Type} {enc : TypeId × Value → H} {w : World} {base : Nat} {spare : Nat → Bool} {held : Bool}
theorem Krt : Tryz.prog.cellsOf 99 = 2 := by kernel_rfl
theorem Qer {fuel : Nat} {l : List Value} {x : DataW H × List MemPlace} (h : DataW.trod enc Tryz.prog w base spare held fuel 99 l = some x) : ∃ y : Lb, l = encLb y ∧ x.1 = .agg [litT y.n, litT y.v] := by
 obtain ⟨xs, n, _, hx, hcl, hlen, hg⟩ := DataW.trod_struct Tryz.underlying99 h; rw [Krt] at hcl
 match l, hcl, xs, hlen with
 | [c0, c1], _, [x0, x1], _ =>
  have g0 := hg 0 _ rfl; have g1 := hg 1 _ rfl; simp [Kug] at g0 g1; obtain ⟨a, e0, f0⟩ := Kvm g0; obtain ⟨b, e1, f1⟩ := Kvm g1; simp at e0 e1; subst e0 e1; refine ⟨⟨a, b⟩, rfl, ?_⟩; rw [hx]; simp [f0, f1]
end
section
variable {H : Type} {enc : TypeId × Value → H} {w : World} {base : Nat} {spare : Nat → Bool} {held : Bool}
def Lb.mass (x : Lb) : Nat := x.n.length + x.v.length + 3
def massL (l : List Lb) : Nat := (l.map Lb.mass).sum + 1
theorem Kqd : ∀ l : List Lb, 2 * l.length + 1 ≤ massL l
 | [] => by simp [massL]
 | x :: l => by have := Kqd l; simp only [massL, List.map_cons, List.sum_cons, List.length_cons, Lb.mass] at *; omega
theorem Qar {l : List Lb} {x : Lb} (h : x ∈ l) : x.n.length ≤ massL l ∧ x.v.length ≤ massL l := by
 induction l with
 | nil => cases h
 | cons y l ih =>
  simp only [massL, List.map_cons, List.sum_cons, Lb.mass] at *; rcases List.mem_cons.1 h with rfl | h
  ·omega
  ·have := ih h; omega
theorem Kzq : Tryz.prog.cellsOf 54 = 1 := by kernel_rfl
theorem Ktt {fuel : Nat} {v : Value} {x : DataW H × List MemPlace} (h : DataW.trod enc Tryz.prog w base spare held fuel 54 [v] = some x) :
  ∃ A n c l, v = .slice A n c ∧ n ≤ c ∧ Elems w w.heap.size 2 encLb A n l ∧ massL l ≤ Rows.uptoBulk x.1 := by
 obtain ⟨A, n, c, l, rfl, _, h2, h3, ds, sp, hx, hl, hQ⟩ := Kfy (ea := encLb) (Q := fun d s => d = .agg [litT s.n, litT s.v]) Tryz.underlying54 Krt (by omega) (fun _ => rfl) (fun _ _ _ h => Qer h) h; refine ⟨A, n, c, l, rfl, h2, h3, Khe Lb.mass hx hl fun i d y hd hy => ?_⟩; rw [hQ i d y hd hy]; simp [Rows.uptoBulk, Rows.uptoBulkAll, litT, Lb.mass]; omega
theorem Kxq {α : Type} (f : α → Nat) : ∀ {l : List α} {x : α}, x ∈ l → f x ≤ (l.map f).sum
 | y :: l, x, h => by
  simp only [List.map_cons, List.sum_cons]; rcases List.mem_cons.1 h with rfl | h
  ·omega
  ·have := Kxq f h; omega
end
theorem Kjd : Tryz.prog.cellsOf 2 = 1 := by kernel_rfl
theorem Koz : Tryz.prog.cellsOf 100 = 1 := by kernel_rfl
theorem Kjc : Tryz.prog.cellsOf 3 = 1 := by kernel_rfl
theorem Kqr : Tryz.prog.cellsOf 102 = 2 := by kernel_rfl
theorem Krq : Tryz.prog.cellsOf 135 = 6 := by kernel_rfl
theorem Kzh : Tryz.prog.cellsOf 55 = 1 := by kernel_rfl
theorem Kzg : Tryz.prog.cellsOf 56 = 1 := by kernel_rfl
theorem Ksa : Tryz.prog.cellsOf 58 = 3 := by kernel_rfl
theorem Kys : Tryz.prog.cellsOf 26 = 1 := by kernel_rfl
theorem Kyz : Tryz.prog.cellsOf 28 = 4 := by kernel_rfl
def i64B (v : Int) : Prop := -9223372036854775808 ≤ v ∧ v ≤ 9223372036854775807
theorem Kgs {n : Int} (h : (Lit.int .i64 n).wf = true) : i64B n := by
 have h1 : IntKind.i64.min = -9223372036854775808 := rfl; have h2 : IntKind.i64.max = 9223372036854775807 := rfl; simp only [Lit.wf, Bool.and_eq_true, decide_eq_true_eq] at h; unfold i64B; omega
theorem Kkb {z : Int} (h : (Lit.int .u64 z).wf = true) : ∃ n : Nat, z = (n : Int) ∧ n < 2 ^ 64 := by
 have h1 : IntKind.u64.min = 0 := rfl; have h2 : IntKind.u64.max = 18446744073709551615 := rfl; simp only [Lit.wf, Bool.and_eq_true, decide_eq_true_eq] at h; exact ⟨z.toNat, by omega, by omega⟩
section
variable {H : Type} {enc : TypeId × Value → H} {w : World} {base : Nat} {spare : Nat → Bool} {held : Bool}
theorem Qfj {fuel : Nat} {l : List Value} {x : DataW H × List MemPlace} (h : DataW.trod enc Tryz.prog w base spare held fuel 102 l = some x) : ∃ y : Smp, l = Kbg y ∧ (y.v < 2 ^ 64 ∧ 1 ≤ Rows.uptoBulk x.1) := by
 obtain ⟨xs, n, _, hx, hcl, hlen, hg⟩ := DataW.trod_struct Tryz.underlying102 h; rw [Kqr] at hcl
 match l, hcl, xs, hlen with
 | [c0, c1], _, [x0, x1], _ =>
  have g0 := hg 0 _ rfl; have g1 := hg 1 _ rfl; simp [Kjd, Koz] at g0 g1; obtain ⟨a, e0, _, _⟩ := DataW.trod_int Tryz.underlying2 g0; obtain ⟨b, e1, _, wb⟩ := DataW.trod_int Tryz.underlying100 g1; simp at e0 e1; subst e0 e1; obtain ⟨v, rfl, hv⟩ := Kkb wb; exact ⟨⟨a, v⟩, rfl, hv, Kip _⟩
theorem Qfi {fuel : Nat} {l : List Value} {x : DataW H × List MemPlace} (h : DataW.trod enc Tryz.prog w base spare held fuel 135 l = some x) : ∃ y : Wnd, l = Kau y ∧ (Kaz y ∧ 1 ≤ Rows.uptoBulk x.1) := by
 obtain ⟨xs, n, _, hx, hcl, hlen, hg⟩ := DataW.trod_struct Tryz.underlying135 h; rw [Krq] at hcl
 match l, hcl, xs, hlen with
 | [c0, c1, c2, c3, c4, c5], _, [x0, x1, x2, x3, x4, x5], _ =>
  have g0 := hg 0 _ rfl; have g1 := hg 1 _ rfl; have g2 := hg 2 _ rfl; have g3 := hg 3 _ rfl; have g4 := hg 4 _ rfl; have g5 := hg 5 _ rfl; simp [Kjd, Koz, Kjc] at g0 g1 g2 g3 g4 g5; obtain ⟨a, e0, _, _⟩ := DataW.trod_int Tryz.underlying2 g0; obtain ⟨b, e1, _, _⟩ := DataW.trod_int Tryz.underlying3 g1; obtain ⟨c, e2, _, wc⟩ := DataW.trod_int Tryz.underlying100 g2; obtain ⟨d, e3, _, wd⟩ := DataW.trod_int Tryz.underlying100 g3; obtain ⟨e, e4, _, we⟩ := DataW.trod_int Tryz.underlying100 g4; obtain ⟨f, e5, _, wf⟩ := DataW.trod_int Tryz.underlying100 g5; simp at e0 e1 e2 e3 e4 e5; subst e0 e1 e2 e3 e4 e5; obtain ⟨c, rfl, hc⟩ := Kkb wc; obtain ⟨d, rfl, hd⟩ := Kkb wd; obtain ⟨e, rfl, he⟩ := Kkb we; obtain ⟨f, rfl, hf⟩ := Kkb wf; exact ⟨⟨a, b, c, d, e, f⟩, rfl, ⟨hc, hd, he, hf⟩, Kip _⟩
theorem Kna {α : Type} : ∀ l : List α, (l.map fun _ => 1).sum = l.length
 | [] => rfl
 | x :: l => by rw [List.map_cons, List.sum_cons, Kna l, List.length_cons]; omega
theorem Qdx {fuel : Nat} {v : Value} {x : DataW H × List MemPlace} (h : DataW.trod enc Tryz.prog w base spare held fuel 55 [v] = some x) :
  ∃ A n c l, v = .slice A n c ∧ n ≤ c ∧ Elems w w.heap.size 2 Kbg A n l ∧ (∀ y ∈ l, y.v < 2 ^ 64) ∧ l.length + 1 ≤ Rows.uptoBulk x.1 := by
 obtain ⟨A, n, c, l, rfl, _, h2, h3, ds, sp, hx, hl, hQ⟩ := Kfy (ea := Kbg) (Q := fun d (y : Smp) => y.v < 2 ^ 64 ∧ 1 ≤ Rows.uptoBulk d) Tryz.underlying55 Kqr (by omega) (fun _ => rfl) (fun _ _ _ h => Qfj h) h; refine ⟨A, n, c, l, rfl, h2, h3, fun y hy => ?_, ?_⟩
 ·obtain ⟨i, hi, rfl⟩ := List.mem_iff_getElem.1 hy; exact (hQ i (ds[i]'(by omega)) l[i] (List.getElem?_eq_getElem _) (List.getElem?_eq_getElem hi)).1
 ·have := Khe (fun _ : Smp => 1) hx hl fun i d y hd hy => (hQ i d y hd hy).2
  rwa [Kna] at this
theorem Qcb {fuel : Nat} {v : Value} {x : DataW H × List MemPlace} (h : DataW.trod enc Tryz.prog w base spare held fuel 56 [v] = some x) :
  ∃ A n c l, v = .slice A n c ∧ n ≤ c ∧ Elems w w.heap.size 6 Kau A n l ∧ (∀ y ∈ l, Kaz y) ∧ l.length + 1 ≤ Rows.uptoBulk x.1 := by
 obtain ⟨A, n, c, l, rfl, _, h2, h3, ds, sp, hx, hl, hQ⟩ := Kfy (ea := Kau) (Q := fun d (y : Wnd) => Kaz y ∧ 1 ≤ Rows.uptoBulk d) Tryz.underlying56 Krq (by omega) (fun _ => rfl) (fun _ _ _ h => Qfi h) h; refine ⟨A, n, c, l, rfl, h2, h3, fun y hy => ?_, ?_⟩
 ·obtain ⟨i, hi, rfl⟩ := List.mem_iff_getElem.1 hy; exact (hQ i (ds[i]'(by omega)) l[i] (List.getElem?_eq_getElem _) (List.getElem?_eq_getElem hi)).1
 ·have := Khe (fun _ : Wnd => 1) hx hl fun i d y hd hy => (hQ i d y hd hy).2
  rwa [Kna] at this
def Ser.mass (s : Ser) : Nat := massL s.labels + s.samples.length + s.windows.length + 2
structure SerIn (w : World) (y : Hd3) (s : Ser) : Prop where
 at_ : SerAt w y s
 v : ∀ x ∈ s.samples, x.v < 2 ^ 64
 b : ∀ x ∈ s.windows, Kaz x
theorem Qet {fuel : Nat} {l : List Value} {x : DataW H × List MemPlace} (h : DataW.trod enc Tryz.prog w base spare held fuel 58 l = some x) : ∃ y : Hd3, l = encH3 y ∧ ∃ s, SerIn w y s ∧ Ser.mass s ≤ Rows.uptoBulk x.1 := by
 obtain ⟨xs, n, _, hx, hcl, hlen, hg⟩ := DataW.trod_struct Tryz.underlying58 h; rw [Ksa] at hcl
 match l, hcl, xs, hlen with
 | [c0, c1, c2], _, [x0, x1, x2], _ =>
  have g0 := hg 0 _ rfl; have g1 := hg 1 _ rfl; have g2 := hg 2 _ rfl; simp [Kzq, Kzh, Kzg] at g0 g1 g2; obtain ⟨A0, n0, k0, l0, rfl, a1, a2, a3⟩ := Ktt g0; obtain ⟨A1, n1, k1, l1, rfl, b1, b2, b3, b4⟩ := Qdx g1; obtain ⟨A2, n2, k2, l2, rfl, d1, d2, d3, d4⟩ := Qcb g2; refine ⟨⟨⟨A0, n0, k0⟩, ⟨A1, n1, k1⟩, ⟨A2, n2, k2⟩⟩, rfl, ⟨l0, l1, l2⟩, ⟨⟨a2, a1, b2, b1, d2, d1⟩, b3, d3⟩, ?_⟩; rw [hx]; simp only [List.map_cons, List.map_nil, Rows.uptoBulk, Rows.uptoBulkAll, Ser.mass]; omega
theorem Kon : ∀ l : List Lb, 3 * l.length + 1 ≤ massL l
 | [] => by simp [massL]
 | x :: l => by have := Kon l; simp only [massL, List.map_cons, List.sum_cons, List.length_cons, Lb.mass] at *; omega
theorem Kqp : ∀ L : List Ser, smpsN L + wndsN L + L.length + 3 * labsN L ≤ (L.map Ser.mass).sum
 | [] => by simp [smpsN, wndsN, labsN]
 | s :: L => by
  have := Kqp L; have := Kon s.labels; simp only [smpsN, wndsN, labsN, List.map_cons, List.sum_cons, List.length_cons, Ser.mass] at *; omega
structure Kov (w : World) (A : Option Addr) (n : Nat) (L : List Ser) : Prop where
 s : Sers w A n L
 n : L.length ≤ 1048576
 m : smpsN L + wndsN L ≤ 1048576
 k : labsN L ≤ 349525
 z : ∀ s ∈ L, SerSz s
theorem Qbq {fuel : Nat} {v : Value} {x : DataW H × List MemPlace} (h : DataW.trod enc Tryz.prog w base spare held fuel 26 [v] = some x) :
  ∃ A n c L, v = .slice A n c ∧ n ≤ c ∧ Sers w A n L ∧ (Rows.uptoBulk x.1 ≤ 1048576 → Kov w A n L) := by
 obtain ⟨A, n, c, hs, rfl, _, h2, h3, ds, sp, hx, hl, hQ⟩ := Kfy (ea := encH3) (Q := fun d y => ∃ s, SerIn w y s ∧ Ser.mass s ≤ Rows.uptoBulk d) Tryz.underlying26 Ksa (by omega) (fun _ => rfl) (fun _ _ _ h => Qet h) h; have hn := h3.len
 obtain ⟨f, hf⟩ := choose_lt (α := Ser) (n := n) (p := fun i s => ∀ d y, ds[i]? = some d → hs[i]? = some y → SerIn w y s ∧ Ser.mass s ≤ Rows.uptoBulk d) (by
  intro i hi; have h1 : i < hs.length := by omega
  have h4 : i < ds.length := by omega
  obtain ⟨l, hl'⟩ := hQ i ds[i] hs[i] (List.getElem?_eq_getElem h4) (List.getElem?_eq_getElem h1); refine ⟨l, fun d y hd hy => ?_⟩; rw [List.getElem?_eq_getElem h4] at hd; rw [List.getElem?_eq_getElem h1] at hy; injection hd with hd; injection hy with hy; subst hd hy
  exact hl')
 have hS : Sers w A n ((List.range n).map f) := ⟨hs, h3, by simp, fun i y hy => by
  have hi : i < n := by have := (List.getElem?_eq_some_iff.1 hy).1; omega
  have h4 : i < ds.length := by omega
  obtain ⟨a1, a2⟩ := hf i hi ds[i] y (List.getElem?_eq_getElem h4) hy; rw [getElem!_pos _ i (by simpa using hi)]
  simpa using a1.at_⟩
 refine ⟨A, n, c, (List.range n).map f, rfl, h2, hS, fun hb => ?_⟩
 have hsum : (((List.range n).map f).map Ser.mass).sum + 1 ≤ Rows.uptoBulk x.1 := by
  refine Khe Ser.mass hx (by simp; omega) fun i d l hd hl' => ?_
  have hi : i < n := by have := (List.getElem?_eq_some_iff.1 hl').1; simpa using this
  have e : f i = l := by simpa [hi] using hl'
  have h1 : i < hs.length := by omega
  rw [← e]; exact (hf i hi d hs[i] hd (List.getElem?_eq_getElem h1)).2
 have hm := Kqp ((List.range n).map f); refine ⟨hS, by omega, by omega, by omega, fun s hs9 => ?_⟩; have h5 := Kxq Ser.mass hs9; obtain ⟨i, hi, rfl⟩ := List.mem_map.1 hs9; have hi : i < n := List.mem_range.1 hi; have h1 : i < hs.length := by omega
 have h4 : i < ds.length := by omega
 obtain ⟨a1, a2⟩ := hf i hi ds[i] hs[i] (List.getElem?_eq_getElem h4) (List.getElem?_eq_getElem h1); have h7 : massL (f i).labels + (f i).samples.length + (f i).windows.length + 2 ≤ (((List.range n).map f).map Ser.mass).sum := h5; have h6 := Kqd (f i).labels; refine ⟨by omega, by omega, by omega, a1.v, a1.b, fun y hy => ?_⟩; have := Qar hy; omega
theorem Kqm {r : Reach} {b0 : Nat} {v : Value} {d : DataW H} {ps : List MemPlace} (hv : Value.okWide Tryz.prog w r b0 28 v) (h : DataW.Trod enc Tryz.prog w base spare held 28 v d ps) :
  ∃ (c : Cont) (hd : Hd), v = contV c.res c.frm c.to_ hd ∧ hd.n ≤ hd.c ∧ Sers w hd.A hd.n c.series ∧ i64B c.res ∧ i64B c.frm ∧ i64B c.to_ ∧ (Rows.uptoBulk d ≤ 1048576 → Kov w hd.A hd.n c.series) := by
 obtain ⟨cs, rfl, hsz⟩ := okWide_struct Tryz.underlying28 hv; obtain ⟨l⟩ := cs; obtain ⟨fuel, hf⟩ := h; obtain ⟨xs, n, _, hx, hcl, hlen, hg⟩ := DataW.trod_struct Tryz.underlying28 hf; rw [Kyz] at hcl; have hcl2 : l.length = 4 := by simpa [Value.cells] using hcl
 match l, hcl2, xs, hlen with
 | [c0, c1, c2, c3], _, [x0, x1, x2, x3], _ =>
  have g0 := hg 0 _ rfl; have g1 := hg 1 _ rfl; have g2 := hg 2 _ rfl; have g3 := hg 3 _ rfl; simp [Kjd, Kjc, Kys, Value.cells] at g0 g1 g2 g3; obtain ⟨a, e0, _, wa⟩ := DataW.trod_int Tryz.underlying3 g0; obtain ⟨b, e1, _, wb⟩ := DataW.trod_int Tryz.underlying2 g1; obtain ⟨c, e2, _, wc⟩ := DataW.trod_int Tryz.underlying2 g2; obtain ⟨A, k, cp, L, rfl, k1, k2, k3⟩ := Qbq g3; simp at e0 e1 e2; subst e0 e1 e2; refine ⟨⟨a, b, c, L⟩, ⟨A, k, cp⟩, rfl, k1, k2, Kgs wa, Kgs wb, Kgs wc, fun hb => k3 ?_⟩; have hx2 : d = _ := congrArg Prod.fst hx; rw [hx2] at hb; simp only [List.map_cons, List.map_nil, Rows.uptoBulk, Rows.uptoBulkAll] at hb; omega
end
end
section
open Go.RowKit
attribute [local go_sem ↓] Go.wp_at_zero Go.wp_at_succ
attribute [local go_sem] Later.cell
structure CSz (c : Cont) : Prop where
 n : c.series.length ≤ 1048576
 m : smpsN c.series + wndsN c.series ≤ 1048576
 k : labsN c.series ≤ 349525
 z : ∀ s ∈ c.series, SerSz s
structure LW (w0 w : World) : Prop where
 b : Below w0.heap.size w0 w
 e : BEnv w
theorem LW.below {w0 w w' : World} (h : LW w0 w) (hb : Below w.heap.size w w') : LW w0 w' := ⟨h.b.trans (hb.mono h.b.size), h.e.below hb⟩
theorem LW.start {w : World} (h : BEnv w) : LW w w := ⟨Below.refl _ _, h⟩
structure CBox (q : Nat) (r f t : Int) (A : Option Addr) (n k : Nat) (L : List Ser) (w : World) : Prop where
 k : Blk w q 28 #[.int .i64 r, .int .i64 f, .int .i64 t, .slice A n k]
 s : Kbo w A n L
theorem CBox.below {q : Nat} {r f t : Int} {A : Option Addr} {n k : Nat} {L : List Ser} {w w' : World} (h : CBox q r f t A n k L w) (hb : Below w.heap.size w w') : CBox q r f t A n k L w' := ⟨h.k.below hb h.k.lt, h.s.below hb⟩
structure Built (c : Cont) (S0 S1 S2 : ByteArray) : Prop where
 f : filOf S0 S1 S2 = Kci c
 z0 : S0.size ≤ 200000000
 z1 : S1.size ≤ 200000000
 z2 : S2.size ≤ 200000000
theorem Ksy (c : Cont) (A : Option Addr) (n k : Nat) (w : World) (hS : Kbo w A n c.series) (hc : CSz c) (hE : BEnv w) :
  Calls Tryz.prog 19 #[.agg #[.int .i64 c.res, .int .i64 c.frm, .int .i64 c.to_, .slice A n k]] w fun e w' => (∃ S0 S1 S2, e = .returned (.tuple #[.agg #[.string S0, .string S1, .string S2], .int .i64 (if fitB c = true then 0 else 190)]) ∧ Built c S0 S1 S2) ∧ Below w.heap.size w w' := by
 have hsm := fun hf => Kki (c := c) hf hc.n hc.m hc.k
 refine (Kky c ⟨A, n, k⟩ w hS hE (fun hf => ?_)).mono ?_
 ·have h1 := hsm hf; have h2 : (Kbc c).ck = sealT (Kce c) := rfl; have h3 : (Kbc c).ix = sealT (Kba c) := rfl; rw [h2, h3, Kej, Kej] at h1; omega
 ·rintro e w' ⟨rfl, hb⟩
  have h1 : (Kci c).mt.length ≤ 200000000 ∧ (Kci c).ck.length ≤ 200000000 ∧ (Kci c).ix.length ≤ 200000000 := by
   unfold Kci
   by_cases hf : fitB c = true
   ·rw [if_pos hf]; exact hsm hf
   ·rw [if_neg hf]; exact ⟨by decide, by decide, by decide⟩
  refine ⟨⟨⟨(Kci c).mt.toArray⟩, ⟨(Kci c).ck.toArray⟩, ⟨(Kci c).ix.toArray⟩, rfl, ⟨rfl, ?_, ?_, ?_⟩⟩, hb⟩
  ·exact h1.1
  ·exact h1.2.1
  ·exact h1.2.2
theorem Kov.ok {w : World} {A : Option Addr} {n : Nat} {L : List Ser} (h : Kov w A n L) : Kbo w A n L := ⟨h.s, by have := h.n; omega, h.z⟩
theorem Qed (S0 S1 S2 T0 T1 T2 : ByteArray) (W : World) : (binOp .eql 44 (.agg #[.string S0, .string S1, .string S2]) (.agg #[.string T0, .string T1, .string T2])).run Tryz.prog W = .ok (.bool (decide (filOf S0 S1 S2 = filOf T0 T1 T2))) W := Qgh (filOf S0 S1 S2) (filOf T0 T1 T2) W
theorem Kyr {c : Cont} (h : fitB c = true) : Kci c = Kbc c := by unfold Kci; rw [if_pos h]
end
section
open Go.RowKit
def nilK : Cont := ⟨0, 0, 0, []⟩
theorem Qds (S0 S1 S2 : ByteArray) (w : World) (h0 : S0.size ≤ 201048576) (h1 : S1.size ≤ 201048576) (h2 : S2.size ≤ 201048576) (hE : BEnv w) :
  Calls Tryz.prog 29 #[.agg #[.string S0, .string S1, .string S2]] w fun e w' => ((∃ c A n k, (fitB c = true ∧ Kbc c = filOf S0 S1 S2) ∧ e = .returned (.tuple #[.agg #[.int .i64 c.res, .int .i64 c.frm, .int .i64 c.to_, .slice A n k], .int .i64 0]) ∧ Kbo w' A n c.series) ∨ ∃ h : Int, e = .returned (.tuple #[.agg #[.int .i64 0, .int .i64 0, .int .i64 0, .slice none 0 0], .int .i64 h]) ∧ (h = 20 ∨ h = 22 ∨ h = 190)) ∧ Below w.heap.size w w' := by
 refine (Khv S0 S1 S2 w (by unfold bSz; omega) (by unfold bSz; omega) (by unfold bSz; omega) hE.n hE.d).mono ?_; rintro e w' ⟨hp, hb⟩; refine ⟨?_, hb⟩
 cases hr : Kds (filOf S0 S1 S2) with
 | some c =>
  rw [hr] at hp; obtain ⟨⟨A, n, k⟩, rfl, hs, _⟩ := hp; exact .inl ⟨c, A, n, k, Qaw hr, rfl, hs⟩
 | none =>
  rw [hr] at hp; refine .inr ⟨(Kbi [S0.data.toList, S1.data.toList, S2.data.toList] : Int), hp, ?_⟩; rcases Klv [S0.data.toList, S1.data.toList, S2.data.toList] with h | h | h <;> rw [h] <;> simp
end
section
open Go.RowKit
open Lib renaming hid → Jh
attribute [local go_sem ↓] Go.wp_at_zero Go.wp_at_succ
attribute [local go_sem] Later.cell
theorem Kyv {c : Cont} (hf : fitB c = true) {S0 S1 S2 : ByteArray} (hfil : Kbc c = filOf S0 S1 S2) (h1 : S1.size ≤ 201048576) (h2 : S2.size ≤ 201048576) (A : Option Addr) (n k : Nat) (w : World) (hS : Kbo w A n c.series) (hE : BEnv w) :
  Calls Tryz.prog 19 #[.agg #[.int .i64 c.res, .int .i64 c.frm, .int .i64 c.to_, .slice A n k]] w fun e w' => e = .returned (.tuple #[.agg #[.string S0, .string S1, .string S2], .int .i64 0]) ∧ Below w.heap.size w w' := by
 have e1 : (Kce c).length + 4 = S1.size := by
  have h := congrArg Fil.ck hfil; have h := congrArg List.length (show sealT (Kce c) = S1.data.toList from h); rw [Kej] at h; exact h
 have e2 : (Kba c).length + 4 = S2.size := by
  have h := congrArg Fil.ix hfil; have h := congrArg List.length (show sealT (Kba c) = S2.data.toList from h); rw [Kej] at h; exact h
 have := Kky c ⟨A, n, k⟩ w hS hE (fun _ => by omega); rw [if_pos hf, Kyr hf, hfil] at this; exact this
theorem Kpq (c d : Cont) (A : Option Addr) (n k : Nat) (A2 : Option Addr) (n2 k2 : Nat) (A3 : Option Addr) (n3 k3 : Nat) (l : List Trn) (w : World) (hS : Kbo w A n c.series) (hS2 : Kbo w A2 n2 d.series) (hc : CSz c) (hd : CSz d)
  (hT : Turns w A3 n3 l) (hi : ∀ y ∈ l, i64T y.file ∧ i64T y.at_ ∧ i64T y.out) (hsum : Trn.len l ≤ 1048576) (hkl : l.length ≤ 1048576) (hE : BEnv w) :
  Calls Tryz.prog 8 #[.agg #[.int .i64 c.res, .int .i64 c.frm, .int .i64 c.to_, .slice A n k], .agg #[.int .i64 d.res, .int .i64 d.frm, .int .i64 d.to_, .slice A2 n2 k2], .slice A3 n3 k3] w fun e w' => e = .returned (.bool true) ∧ Below w.heap.size w w' := by
 have hbuild := fun W hs he => Ksy c A n k W hs hc he
 have hbuild2 := fun W hs he => Ksy d A2 n2 k2 W hs hd he
 have htd := fun S0 S1 S2 h0 h1 h2 W ht => Kqb S0 S1 S2 200000000 (Nat.le_refl _) h0 h1 h2 A3 n3 k3 l W ht hi hsum hkl
 have HN3 : Hid (n3 ≤ 1048576) := Jh (by have := Elems.len hT; omega); have HSUM := Jh hsum; obtain ⟨r, hr⟩ : ∃ r, c.res = r := ⟨_, rfl⟩; obtain ⟨f, hf⟩ : ∃ f, c.frm = f := ⟨_, rfl⟩; obtain ⟨t, ht⟩ : ∃ t, c.to_ = t := ⟨_, rfl⟩; obtain ⟨r2, hr2⟩ : ∃ r, d.res = r := ⟨_, rfl⟩; obtain ⟨f2, hf2⟩ : ∃ f, d.frm = f := ⟨_, rfl⟩; obtain ⟨t2, ht2⟩ : ∃ t, d.to_ = t := ⟨_, rfl⟩; rw [hr, hf, ht] at hbuild ⊢; rw [hr2, hf2, ht2] at hbuild2 ⊢; have HE0 := Jh hE; have HLW := Jh (LW.start hE); have HS := Jh hS; have HS2 := Jh hS2; have HTU := Jh hT; have HBU := Jh hbuild; have HBU2 := Jh hbuild2; have HTD := Jh htd; clear hr hf ht hr2 hf2 ht2 hS hS2 hbuild hbuild2 htd hE hc hd hT hi hsum hkl; go_enter Tryz.func8, Tryz.ntmps8
 go_upto_region 1 with fail
 obtain ⟨q, hz_q⟩ : ∃ p, w.heap.size = p := ⟨_, rfl⟩; have hbx : Below w.heap.size w (w.alloc (.cells #[.int .i64 r, .int .i64 f, .int .i64 t, .slice A n k] 28)) := (Below.refl _ _).alloc (Nat.le_refl _) _; have hkx : Blk (w.alloc (.cells #[.int .i64 r, .int .i64 f, .int .i64 t, .slice A n k] 28)) q 28 #[.int .i64 r, .int .i64 f, .int .i64 t, .slice A n k] := by rw [← hz_q]; exact Blk.new _ _ _
 have hz_q1 : (w.alloc (.cells #[.int .i64 r, .int .i64 f, .int .i64 t, .slice A n k] 28)).heap.size = q + 1 := by rw [World.alloc, Array.size_push, hz_q]
 obtain ⟨w1, hw_w1⟩ : ∃ x, w.alloc (.cells #[.int .i64 r, .int .i64 f, .int .i64 t, .slice A n k] 28) = x := ⟨_, rfl⟩; rw [hw_w1] at hbx hkx hz_q1; rw [hw_w1, hz_q]; replace HLW := Jh (HLW.out.below hbx); replace HS2 := Jh (HS2.out.below hbx); have HC := Jh (CBox.mk hkx (HS.out.below hbx)); clear hbx hkx hw_w1 hz_q; have hbx : Below w1.heap.size w1 (w1.alloc (.cells #[.int .i64 r2, .int .i64 f2, .int .i64 t2, .slice A2 n2 k2] 28)) := (Below.refl _ _).alloc (Nat.le_refl _) _; have hkx : Blk (w1.alloc (.cells #[.int .i64 r2, .int .i64 f2, .int .i64 t2, .slice A2 n2 k2] 28)) (q + 1) 28 #[.int .i64 r2, .int .i64 f2, .int .i64 t2, .slice A2 n2 k2] := by rw [← hz_q1]; exact Blk.new _ _ _
 have hz_q2 : (w1.alloc (.cells #[.int .i64 r2, .int .i64 f2, .int .i64 t2, .slice A2 n2 k2] 28)).heap.size = q + 2 := by rw [World.alloc, Array.size_push, hz_q1]
 obtain ⟨w2, hw_w2⟩ : ∃ x, w1.alloc (.cells #[.int .i64 r2, .int .i64 f2, .int .i64 t2, .slice A2 n2 k2] 28) = x := ⟨_, rfl⟩; rw [hw_w2] at hbx hkx hz_q2; rw [hw_w2]; replace HLW := Jh (HLW.out.below hbx); replace HC := Jh (HC.out.below hbx); have HD := Jh (CBox.mk hkx (HS2.out.below hbx)); clear hbx hkx hw_w2 hz_q1; clear hz_q2; have HWK := Jh (Ksf w2 HLW.out.e); go_wp2_with fail
 refine HWK.out.mono ?_; rintro _ w3 ⟨rfl, hb3⟩; replace HLW := Jh (HLW.out.below hb3); replace HC := Jh (HC.out.below hb3); replace HD := Jh (HD.out.below hb3); clear hb3 HWK; go_upto_region 3 with fail
 have x0 := HC.out.k.cell 0; have x1 := HC.out.k.cell 1; have x2 := HC.out.k.cell 2; have x3 := HC.out.k.cell 3; simp at x0 x1 x2 x3; go_wp2_with fail
 refine (HBU.out w3 HC.out.s HLW.out.e).mono ?_; rintro _ w4 ⟨⟨S0, S1, S2, rfl, hbt⟩, hb4⟩; have HBT := Jh hbt; clear hbt x0 x1 x2 x3; obtain ⟨fi, hfi⟩ : ∃ b, fitB c = b := ⟨_, rfl⟩; obtain ⟨er, her⟩ : ∃ z : Int, (if fitB c = true then (0 : Int) else 190) = z := ⟨_, rfl⟩; rw [her]; rw [hfi] at her; have HFB := Jh hfi; have HER := Jh her; clear hfi her; go_upto_region 4 with fail
 replace HLW := Jh (HLW.out.below hb4); replace HC := Jh (HC.out.below hb4); replace HD := Jh (HD.out.below hb4); clear hb4; obtain ⟨p, hp_p⟩ : ∃ p, w4.heap.size = p := ⟨_, rfl⟩; have HGEp := Jh (show w.heap.size ≤ p by rw [← hp_p]; exact HLW.out.b.size); have hbx : Below w4.heap.size w4 (w4.alloc (.cells #[.string S0, .string S1, .string S2] 44)) := (Below.refl _ _).alloc (Nat.le_refl _) _; have hkx : Blk (w4.alloc (.cells #[.string S0, .string S1, .string S2] 44)) p 44 #[.string S0, .string S1, .string S2] := by rw [← hp_p]; exact Blk.new _ _ _
 obtain ⟨w5, hw_w5⟩ : ∃ x, w4.alloc (.cells #[.string S0, .string S1, .string S2] 44) = x := ⟨_, rfl⟩; rw [hw_w5] at hbx hkx; rw [hw_w5, hp_p]; replace HLW := Jh (HLW.out.below hbx); replace HC := Jh (HC.out.below hbx); replace HD := Jh (HD.out.below hbx); have HF := Jh ((show FBox p S0 S1 S2 _ from hkx)); clear hbx hkx hw_w5 hp_p; have x0 := HD.out.k.cell 0; have x1 := HD.out.k.cell 1; have x2 := HD.out.k.cell 2; have x3 := HD.out.k.cell 3; simp at x0 x1 x2 x3; go_wp2_with fail
 refine (HBU2.out w5 HD.out.s HLW.out.e).mono ?_; rintro _ w6 ⟨⟨T0, T1, T2, rfl, hbt⟩, hb6⟩; have HBT2 := Jh hbt; clear hbt x0 x1 x2 x3; obtain ⟨fj, hfi⟩ : ∃ b, fitB d = b := ⟨_, rfl⟩; obtain ⟨es, her⟩ : ∃ z : Int, (if fitB d = true then (0 : Int) else 190) = z := ⟨_, rfl⟩; rw [her]; rw [hfi] at her; have HFB2 := Jh hfi; have HER2 := Jh her; clear hfi her; go_upto_region 5 with fail
 replace HLW := Jh (HLW.out.below hb6); replace HC := Jh (HC.out.below hb6); replace HD := Jh (HD.out.below hb6); replace HF := Jh (HF.out.below hb6); clear hb6; obtain ⟨p2, hp_p2⟩ : ∃ p, w6.heap.size = p := ⟨_, rfl⟩; have HGEp2 := Jh (show w.heap.size ≤ p2 by rw [← hp_p2]; exact HLW.out.b.size); have hbx : Below w6.heap.size w6 (w6.alloc (.cells #[.string T0, .string T1, .string T2] 44)) := (Below.refl _ _).alloc (Nat.le_refl _) _; have hkx : Blk (w6.alloc (.cells #[.string T0, .string T1, .string T2] 44)) p2 44 #[.string T0, .string T1, .string T2] := by rw [← hp_p2]; exact Blk.new _ _ _
 obtain ⟨w7, hw_w7⟩ : ∃ x, w6.alloc (.cells #[.string T0, .string T1, .string T2] 44) = x := ⟨_, rfl⟩; rw [hw_w7] at hbx hkx; rw [hw_w7, hp_p2]; replace HLW := Jh (HLW.out.below hbx); replace HC := Jh (HC.out.below hbx); replace HD := Jh (HD.out.below hbx); replace HF := Jh (HF.out.below hbx); have HG := Jh ((show FBox p2 T0 T1 T2 _ from hkx)); clear hbx hkx hw_w7 hp_p2; go_cut [33] (fun s33 wz => wz = w7 ∧ ∃ bb : Bool, s33 = .bool bb)
 case first =>
  cases fj with
  | false =>
   have her2 : es = 190 := HER2.out.symm; subst her2; go_wp2_with fail
   go_meet
   exact ⟨rfl, _, rfl⟩
  | true =>
   have her2 : es = 0 := HER2.out.symm; subst her2; go_wp2_with fail
   go_meet
   exact ⟨rfl, _, rfl⟩
 case rest =>
  obtain ⟨rfl, bb, rfl⟩ := hcut; obtain ⟨w7, rfl⟩ : ∃ x, x = wc := ⟨_, rfl⟩; go_upto_if 33 with fail
  go_cut [] (fun wz => LW w wz ∧ ∃ X : ByteArray, FBox p S0 S1 X wz ∧ X.size ≤ 200000000)
  case first =>
   cases bb with
   | false =>
    go_wp2_with fail
    go_meet
    exact ⟨HLW.out, S2, HF.out, HBT.out.z2⟩
   | true =>
    have v0 := (show Blk w7 _ _ _ from HG.out).cell 0; have v1 := (show Blk w7 _ _ _ from HG.out).cell 1; have v2 := (show Blk w7 _ _ _ from HG.out).cell 2; simp at v0 v1 v2; have HKF := Jh (show Blk w7 _ _ _ from HF.out); have fz := HKF.out.frozen 2; have f2 : w7.cell? ⟨p, 2, none⟩ = some (.string S2) := HKF.out.cell 2; go_wp2_with fail
    go_meet
    have hbn := HLW.out.b.setCell (p := ⟨p, 2, none⟩) HGEp.out (.string T2); exact ⟨⟨hbn, HE0.out.below hbn⟩, T2, HKF.out.set_ 2 _, HBT2.out.z2⟩
  case rest =>
   obtain ⟨hlw, X, hf, hX⟩ := hcut; obtain ⟨w8, rfl⟩ : ∃ x, x = wc := ⟨_, rfl⟩; replace HLW := Jh hlw; replace HF := Jh hf; have HX := Jh hX; clear hlw hf hX HC HD HG; have HTT := Jh (HTD.out S0 S1 X HBT.out.z0 HBT.out.z1 HX.out w8 (HTU.out.below HLW.out.b)); have u0 := (show Blk w8 _ _ _ from HF.out).cell 0; have u1 := (show Blk w8 _ _ _ from HF.out).cell 1; have u2 := (show Blk w8 _ _ _ from HF.out).cell 2; simp at u0 u1 u2; go_wp2_with fail
   refine HTT.out.mono ?_; rintro _ w9 ⟨⟨U0, U1, U2, rfl, hu⟩, hb9⟩; have HU := Jh hu; replace HLW := Jh (HLW.out.below hb9); replace HF := Jh (HF.out.below hb9); clear hb9 hu u0 u1 u2 HTT; have HUZ : Hid (U0.size ≤ 201048576 ∧ U1.size ≤ 201048576 ∧ U2.size ≤ 201048576) := Jh (by have := HU.out; have := HSUM.out; omega); have HKF := Jh (show Blk w9 _ _ _ from HF.out); have u0 := (show Blk w9 _ _ _ from HF.out).cell 0; have u1 := (show Blk w9 _ _ _ from HF.out).cell 1; have u2 := (show Blk w9 _ _ _ from HF.out).cell 2; simp at u0 u1 u2; have z0 := HKF.out.frozen 0; have z1 := HKF.out.frozen 1; have z2 := HKF.out.frozen 2; go_upto_region 8 with fail
   obtain ⟨w10, hw10⟩ : ∃ x, ((w9.setCell ⟨p, 0, none⟩ (.string U0)).setCell ⟨p, 1, none⟩ (.string U1)).setCell ⟨p, 2, none⟩ (.string U2) = x := ⟨_, rfl⟩; have hkn : Blk w10 p 44 #[.string U0, .string U1, .string U2] := by rw [← hw10]; exact ((HKF.out.set_ 0 _).set_ 1 _).set_ 2 _
   have hbn : Below w.heap.size w w10 := by rw [← hw10]; exact ((HLW.out.b.setCell (p := ⟨p, 0, none⟩) HGEp.out _).setCell (p := ⟨p, 1, none⟩) HGEp.out _).setCell (p := ⟨p, 2, none⟩) HGEp.out _
   rw [hw10]; replace HLW := Jh (LW.mk hbn (HE0.out.below hbn)); replace HF := Jh (show FBox p U0 U1 U2 w10 from hkn); clear hw10 hkn hbn HKF u0 u1 u2 z0 z1 z2; have HPA := Jh (Qds U0 U1 U2 w10 HUZ.out.1 HUZ.out.2.1 HUZ.out.2.2 HLW.out.e); have u0 := (show Blk w10 _ _ _ from HF.out).cell 0; have u1 := (show Blk w10 _ _ _ from HF.out).cell 1; have u2 := (show Blk w10 _ _ _ from HF.out).cell 2; simp at u0 u1 u2; go_wp2_with fail
   refine HPA.out.mono ?_; rintro _ w11 ⟨⟨g, Ag, ng, kg, hg, rfl, hsg⟩ | ⟨h9, rfl, hh9⟩, hb11⟩
   ·have HGG := Jh hg; have HSG := Jh hsg; clear hg hsg u0 u1 u2 HPA; obtain ⟨rg, hrg⟩ : ∃ r, g.res = r := ⟨_, rfl⟩; obtain ⟨fg, hfg⟩ : ∃ r, g.frm = r := ⟨_, rfl⟩; obtain ⟨tg, htg⟩ : ∃ r, g.to_ = r := ⟨_, rfl⟩; have hbb := fun W hs he => Kyv HGG.out.1 HGG.out.2 HUZ.out.2.1 HUZ.out.2.2 Ag ng kg W hs he
    have href := fun W hs => Kin g ⟨Ag, ng, kg⟩ W hs
    have hfit := fun (h : Hd) W hs => Kzz g h W hs
    rw [HGG.out.1] at hfit; unfold contV at href hfit; rw [hrg, hfg, htg] at hbb href hfit ⊢; have HBB := Jh hbb; have HRF := Jh href; have HFT := Jh hfit; clear hrg hfg htg hbb href hfit; go_upto_region 9 with fail
    replace HLW := Jh (HLW.out.below hb11); replace HF := Jh (HF.out.below hb11); clear hb11; obtain ⟨qg, hp_qg⟩ : ∃ p, w11.heap.size = p := ⟨_, rfl⟩; have hbx : Below w11.heap.size w11 (w11.alloc (.cells #[.int .i64 rg, .int .i64 fg, .int .i64 tg, .slice Ag ng kg] 28)) := (Below.refl _ _).alloc (Nat.le_refl _) _; have hkx : Blk (w11.alloc (.cells #[.int .i64 rg, .int .i64 fg, .int .i64 tg, .slice Ag ng kg] 28)) qg 28 #[.int .i64 rg, .int .i64 fg, .int .i64 tg, .slice Ag ng kg] := by rw [← hp_qg]; exact Blk.new _ _ _
    obtain ⟨w12, hw_w12⟩ : ∃ x, w11.alloc (.cells #[.int .i64 rg, .int .i64 fg, .int .i64 tg, .slice Ag ng kg] 28) = x := ⟨_, rfl⟩; rw [hw_w12] at hbx hkx; rw [hw_w12, hp_qg]; replace HLW := Jh (HLW.out.below hbx); replace HF := Jh (HF.out.below hbx); replace HSG := Jh (HSG.out.below hbx); have HGC := Jh (CBox.mk hkx HSG.out); clear hbx hkx hw_w12 hp_qg; have x0 := HGC.out.k.cell 0; have x1 := HGC.out.k.cell 1; have x2 := HGC.out.k.cell 2; have x3 := HGC.out.k.cell 3; simp at x0 x1 x2 x3; have HB1 := Jh (HBB.out w12 HGC.out.s HLW.out.e); go_wp2_with fail
    refine HB1.out.mono ?_; rintro _ w13 ⟨rfl, hb13⟩; clear x0 x1 x2 x3; go_upto_region 12 with fail
    replace HLW := Jh (HLW.out.below hb13); replace HF := Jh (HF.out.below hb13); replace HGC := Jh (HGC.out.below hb13); clear hb13 HB1; obtain ⟨pg, hp_pg⟩ : ∃ p, w13.heap.size = p := ⟨_, rfl⟩; have hbx : Below w13.heap.size w13 (w13.alloc (.cells #[.string U0, .string U1, .string U2] 44)) := (Below.refl _ _).alloc (Nat.le_refl _) _; have hkx : Blk (w13.alloc (.cells #[.string U0, .string U1, .string U2] 44)) pg 44 #[.string U0, .string U1, .string U2] := by rw [← hp_pg]; exact Blk.new _ _ _
    obtain ⟨w14, hw_w14⟩ : ∃ x, w13.alloc (.cells #[.string U0, .string U1, .string U2] 44) = x := ⟨_, rfl⟩; rw [hw_w14] at hbx hkx; rw [hw_w14, hp_pg]; replace HLW := Jh (HLW.out.below hbx); replace HF := Jh (HF.out.below hbx); replace HGC := Jh (HGC.out.below hbx); have HFG := Jh ((show FBox pg U0 U1 U2 _ from hkx)); clear hbx hkx hw_w14 hp_pg; have u0 := (show Blk w14 _ _ _ from HF.out).cell 0; have u1 := (show Blk w14 _ _ _ from HF.out).cell 1; have u2 := (show Blk w14 _ _ _ from HF.out).cell 2; simp at u0 u1 u2; have v0 := (show Blk w14 _ _ _ from HFG.out).cell 0; have v1 := (show Blk w14 _ _ _ from HFG.out).cell 1; have v2 := (show Blk w14 _ _ _ from HFG.out).cell 2; simp at v0 v1 v2; have x0 := HGC.out.k.cell 0; have x1 := HGC.out.k.cell 1; have x2 := HGC.out.k.cell 2; have x3 := HGC.out.k.cell 3; simp at x0 x1 x2 x3; have heq : ∀ W, (binOp .eql 44 (.agg #[.string U0, .string U1, .string U2]) (.agg #[.string U0, .string U1, .string U2])).run Tryz.prog W = .ok (.bool true) W := fun W => by rw [Qed]; simp
    go_wp2_with fail
    refine (HRF.out w14 HGC.out.s).mono ?_; rintro _ w15 ⟨⟨⟨A5, n5, k5⟩, rfl, hs5⟩, hb15⟩; have HF5 := Jh (HFT.out ⟨A5, n5, k5⟩ w15 hs5); replace HLW := Jh (HLW.out.below hb15); clear hb15 x0 x1 x2 x3 u0 u1 u2 v0 v1 v2 hs5; go_wp2_with fail
    refine HF5.out.mono ?_; rintro _ w16 ⟨rfl, hb16⟩; replace HLW := Jh (HLW.out.below hb16); clear hb16 HF5; go_wp2_with fail
    go_ret
    exact ⟨rfl, HLW.out.b⟩
   ·clear u0 u1 u2 HPA; have hne : ¬ h9 = 0 := by omega
    have e9 : (h9 != 0) = true := by simp [hne]
    have e8 : decide (h9 = 0) = false := decide_eq_false hne; have e7 : (h9 == 0) = false := by simp [hne]
    go_upto_region 10 with fail
    replace HLW := Jh (HLW.out.below hb11); clear hb11; obtain ⟨qg, hp_qg⟩ : ∃ p, w11.heap.size = p := ⟨_, rfl⟩; have hbx : Below w11.heap.size w11 (w11.alloc (.cells #[.int .i64 0, .int .i64 0, .int .i64 0, .slice none 0 0] 28)) := (Below.refl _ _).alloc (Nat.le_refl _) _; have hkx : Blk (w11.alloc (.cells #[.int .i64 0, .int .i64 0, .int .i64 0, .slice none 0 0] 28)) qg 28 #[.int .i64 0, .int .i64 0, .int .i64 0, .slice none 0 0] := by rw [← hp_qg]; exact Blk.new _ _ _
    obtain ⟨w12, hw_w12⟩ : ∃ x, w11.alloc (.cells #[.int .i64 0, .int .i64 0, .int .i64 0, .slice none 0 0] 28) = x := ⟨_, rfl⟩; rw [hw_w12] at hbx hkx; rw [hw_w12, hp_qg]; replace HLW := Jh (HLW.out.below hbx); have HGC := Jh (CBox.mk hkx (⟨Sers.nil _, by decide, fun s hs => by cases hs⟩ : Kbo _ none 0 [])); clear hbx hkx hw_w12 hp_qg; have x0 := HGC.out.k.cell 0; have x1 := HGC.out.k.cell 1; have x2 := HGC.out.k.cell 2; have x3 := HGC.out.k.cell 3; simp at x0 x1 x2 x3; have hal := Kji nilK nilK ⟨none, 0, 0⟩ ⟨none, 0, 0⟩ w12 HGC.out.s HGC.out.s; rw [show decide (nilK = nilK) = true by simp] at hal; have hal2 : Calls Tryz.prog 30 #[.agg #[.int .i64 0, .int .i64 0, .int .i64 0, .slice none 0 0], .agg #[.int .i64 0, .int .i64 0, .int .i64 0, .slice none 0 0]] w12 fun e w' => e = .returned (.bool true) ∧ Below w12.heap.size w12 w' := hal
    have HAL := Jh hal2; clear hal hal2; go_wp2_with fail
    refine HAL.out.mono ?_; rintro _ w13 ⟨rfl, hb13⟩; replace HLW := Jh (HLW.out.below hb13); clear hb13 HAL x0 x1 x2 x3 e9 e8 e7 hne; rcases hh9 with rfl | rfl | rfl
    ·go_wp2_with fail
     go_ret
     exact ⟨rfl, HLW.out.b⟩
    ·go_wp2_with fail
     go_ret
     exact ⟨rfl, HLW.out.b⟩
    ·go_wp2_with fail
     go_ret
     exact ⟨rfl, HLW.out.b⟩
end
section
open Go.ChangeShapes Go.WideShapes Go.ChangeAt Go.RowKit Go.Deep
theorem Kom : Tryz.prog.cellsOf 175 = 4 := by kernel_rfl
theorem Kym : Tryz.prog.cellsOf 9 = 1 := by kernel_rfl
section
variable {H : Type} {enc : TypeId × Value → H} {w : World} {base : Nat} {spare : Nat → Bool} {held : Bool}
theorem Qbd {fuel : Nat} {l : List Value} {x : DataW H × List MemPlace} (h : DataW.trod enc Tryz.prog w base spare held fuel 175 l = some x) : ∃ y : Trn, l = Kpa y ∧ (i64T y.file ∧ i64T y.at_ ∧ i64T y.out ∧ y.t.length + 1 ≤ Rows.uptoBulk x.1) := by
 obtain ⟨xs, n, _, hx, hcl, hlen, hg⟩ := DataW.trod_struct Tryz.underlying175 h; rw [Kom] at hcl
 match l, hcl, xs, hlen with
 | [c0, c1, c2, c3], _, [x0, x1, x2, x3], _ =>
  have g0 := hg 0 _ rfl; have g1 := hg 1 _ rfl; have g2 := hg 2 _ rfl; have g3 := hg 3 _ rfl; simp [Kjc, Kym] at g0 g1 g2 g3; obtain ⟨a, e0, f0, wa⟩ := DataW.trod_int Tryz.underlying3 g0; obtain ⟨b, e1, f1, wb⟩ := DataW.trod_int Tryz.underlying3 g1; obtain ⟨c, e2, f2, wc⟩ := DataW.trod_int Tryz.underlying3 g2; obtain ⟨X, e3, f3, _⟩ := DataW.trod_string Tryz.underlying9 g3; simp at e0 e1 e2 e3; subst e0 e1 e2 e3; refine ⟨⟨a, b, c, X.data.toList⟩, rfl, Kgs wa, Kgs wb, Kgs wc, ?_⟩; rw [hx]; simp only [List.map_cons, List.map_nil, Rows.uptoBulk, Rows.uptoBulkAll, f0, f1, f2, f3]; have : X.data.toList.length = X.size := rfl; omega
theorem Krr : ∀ l : List Trn, Trn.len l + l.length = (l.map fun y => y.t.length + 1).sum
 | [] => rfl
 | s :: l => by
  have := Krr l; simp only [Trn.len, List.length_cons, List.map_cons, List.sum_cons] at *; omega
theorem Qac {fuel : Nat} {v : Value} {x : DataW H × List MemPlace} (h : DataW.trod enc Tryz.prog w base spare held fuel 66 [v] = some x) :
  ∃ A n c l, v = .slice A n c ∧ (A = none → c = 0) ∧ n ≤ c ∧ Turns w A n l ∧ (∀ y ∈ l, i64T y.file ∧ i64T y.at_ ∧ i64T y.out) ∧ Trn.len l + l.length + 1 ≤ Rows.uptoBulk x.1 := by
 obtain ⟨A, n, c, l, rfl, h1, h2, h3, ds, sp, hx, hl, hQ⟩ := Kfy (ea := Kpa) (Q := fun d (y : Trn) => i64T y.file ∧ i64T y.at_ ∧ i64T y.out ∧ y.t.length + 1 ≤ Rows.uptoBulk d) Tryz.underlying66 Kom (by omega) (fun _ => rfl) (fun _ _ _ h => Qbd h) h; refine ⟨A, n, c, l, rfl, h1, h2, h3, fun y hy => ?_, ?_⟩
 ·obtain ⟨i, hi, rfl⟩ := List.mem_iff_getElem.1 hy; have := hQ i (ds[i]'(by omega)) l[i] (List.getElem?_eq_getElem _) (List.getElem?_eq_getElem hi); exact ⟨this.1, this.2.1, this.2.2.1⟩
 ·rw [Krr]; exact Khe (fun y : Trn => y.t.length + 1) hx hl fun i d y hd hy => (hQ i d y hd hy).2.2.2
end
end
section
open Go.ChangeShapes Go.WideShapes Go.ChangeAt Go.RowKit Go.ChangeMaps
theorem Ktc {P : Program} {W : World} {x : String × DataW Unit} {r : List (String × DataW Unit)} (h : laidMet P (x :: r) W) : laidMet P r W := by
 obtain ⟨ps, ⟨g, t, cs, f, p, q, hg, ht, hv, hd, hr, e⟩, hnd, hrows⟩ := h; subst e; refine ⟨q, hr, ?_, fun b off hm => hrows b off (by simp [hm])⟩
 first | exact (List.nodup_append.1 hnd).2.1 | exact (List.nodup_append.1 (List.nodup_append.1 hnd).2.1).2.1
theorem Qdr {W : World} (h : laidMet Tryz.prog Rows.blockBackRow.laid W) : BEnv W := by
 have h1 := Ktc h; have hdbT : Lib.TabIs Tryz.prog W "math/bits.deBruijn64tab" .u8 (Lib.deBruijn64tab.map fun n : Nat => (n : Int)) := Lib.tabIs_of_head (g := 2) (t := 348) (e := 5) (n := 64) (by kernel_rfl) (by kernel_rfl) (by kernel_rfl) (by kernel_rfl) (by kernel_rfl) (by kernel_rfl) h; have hnibT : Lib.TabIs Tryz.prog W "almanac/enc.nibbles" .u32 [0, 274646895, 549293790, 820201905, 1098587580, 1361435347, 1640403810, 1905808397, 2197175160, 2460548119, 2722870694, 2987750089, 3280807620, 3553878443, 3811616794, 4084100981] := Lib.tabIs_of_head (g := 0) (t := 276) (e := 74) (n := 16) (by kernel_rfl) (by kernel_rfl) (by kernel_rfl) (by kernel_rfl) (by kernel_rfl) (by kernel_rfl) h1; refine ⟨fun i hi => ?_, fun i hi => ?_⟩
 ·rw [hnibT.cell (by kernel_rfl) i hi]; rcases (by omega : i = 0 ∨ i = 1 ∨ i = 2 ∨ i = 3 ∨ i = 4 ∨ i = 5 ∨ i = 6 ∨ i = 7 ∨ i = 8 ∨ i = 9 ∨ i = 10 ∨ i = 11 ∨ i = 12 ∨ i = 13 ∨ i = 14 ∨ i = 15) with rfl | rfl | rfl | rfl | rfl | rfl | rfl | rfl | rfl | rfl | rfl | rfl | rfl | rfl | rfl | rfl <;> rfl
 ·rw [hdbT.cell (by kernel_rfl) i (by rw [List.length_map]; exact hi)]; congr 2; rw [List.getD_eq_getElem?_getD, List.getElem?_map, List.getD_eq_getElem?_getD, List.getElem?_eq_getElem hi]; rfl
def Qfh : DataW Unit → Array Value
 | .agg l => (l.map fun | .lit (.int k v) => Value.int k v | _ => undef).toArray
 | _ => #[]
noncomputable def Kmu (os : Os) : World :=
 let w0 := World.settled Tryz.prog os
 let tab (h : Array Obj) (g : Nat) (d : DataW Unit) : Array Obj := h.modify g fun
  | .cells _ t frozen => .cells (Qfh d) t frozen
  | o => o
 { w0 with heap := tab (tab w0.heap 2 Rows.laid_math_bits_deBruijn64tab) 0 Rows.laid_almanac_enc_nibbles }
set_option maxRecDepth 1000000 in
theorem Qhp (os : Os) (args : Array Value) : laidMet Tryz.prog Rows.blockBackRow.laid ((Kmu os).forCall (fun _ _ => 0) ⟨#[], args, []⟩).memory :=
 laidMet_of_run' 8 (by kernel_rfl) (by kernel_rfl)
theorem Qht : (Rows.blockOneUptoRow.inPlace == Tryz.pinned.checked.prog.inPlace 8) = true := by kernel_rfl
theorem Qhm : (Rows.blockOneUptoRow.unfollowed == Tryz.pinned.checked.prog.unfollowed 8) = true := by kernel_rfl
theorem Qho : (Rows.blockOneUptoRow.recurses == Tryz.pinned.checked.prog.recurses 8) = true := by kernel_rfl
theorem Qgv : (Rows.blockOneUptoRow.named == Tryz.pinned.checked.prog.varsNamed 8) = true := by kernel_rfl
theorem Qal : joinedFacts Tryz.pinned.checked.prog 8 Tryz.f8 (Rows.OpenSpec.upto Rows.blockOneSpec).bare Rows.blockOneUptoRow = true := by
 unfold joinedFacts; simp only [Bool.and_eq_true]
 repeat' apply And.intro
 all_goals first | with_reducible exact Qht | with_reducible exact Qhm | with_reducible exact Qho | with_reducible exact Qgv | kernel_rfl
theorem Kzs (os : Os) {H : Type} (enc : TypeId × Value → H) : ∃ places, DataW.whole enc Tryz.prog ((Kmu os).forCall (fun _ _ => 0) ⟨#[], #[.agg #[.int .i64 0, .int .i64 0, .int .i64 0, .slice none 0 0], .agg #[.int .i64 0, .int .i64 0, .int .i64 0, .slice none 0 0], .slice none 0 0], []⟩).memory Tryz.f8.params.toList Rows.blockOneSpec.vars false #[Value.agg #[.int .i64 0, .int .i64 0, .int .i64 0, .slice none 0 0], .agg #[.int .i64 0, .int .i64 0, .int .i64 0, .slice none 0 0], .slice none 0 0].toList 8 = some ([.agg [.lit (.int .i64 0), .lit (.int .i64 0), .lit (.int .i64 0), .nil], .agg [.lit (.int .i64 0), .lit (.int .i64 0), .lit (.int .i64 0), .nil], .nil], [], places) :=
 ⟨[], by kernel_rfl⟩
theorem Ksb (H : Type) (enc : TypeId × Value → H) (W : World) (base : Nat) (args : Array Value) (ds gs : List (DataW H)) (before : List MemPlace)
  (hval0 : ∀ (j : Nat) t v, Tryz.f8.params[j]? = some t → args[j]? = some v → Value.okWide Tryz.prog W .any base t v)
  (hW : DataW.Whole enc Tryz.prog Tryz.f8.params.toList Rows.blockOneSpec.vars false W args.toList ds gs before) (hsz0 : (DataW.weightsEach Tryz.prog (Tryz.f8.params.toList ++ Rows.blockOneSpec.plain.varTypes Tryz.prog) (ds ++ gs)).all (· ≤ reachBytes) = true) (hk0 : Rows.uptoSmall H (ds ++ gs) = true) (hL : laidMetH Tryz.prog Rows.blockOneRow.laid W) :
  Calls Tryz.prog 8 args W fun e W' => ∃ v, e = .returned v ∧ Rows.blockOneSpec.post enc Tryz.prog Tryz.f8 false true false false W args v W' := by
 have hval := hval0; have hW' := hW; have hsz := hsz0; obtain ⟨p, q, hA0, hV, rfl, _, _⟩ := hW; have hA : DataW.TrodAll enc Tryz.prog W 0 (fun _ => true) true Tryz.f8.params.toList args.toList ds p := hA0; rw [Tryz.params8] at hA hval hsz; obtain ⟨v0, v1, v2, d0, d1, d2, p0, p1, p2, rfl, rfl, rfl, h0, h1, h2⟩ := trodAll_three hA; obtain ⟨rfl, rfl⟩ := trodVars_none hV; clear hA0 hval0 hsz0; simp only [List.append_nil] at hW'; simp only [List.append_nil] at hk0; have hbulk := Qft hk0; simp only [Rows.uptoBulkAll, Nat.add_zero] at hbulk; have hlt : ∀ x ∈ p0 ++ (p1 ++ p2), x.block < W.heap.size := fun x hx => by simpa using hW'.lt x (by simpa using hx)
 have hargs : ∀ (W' : World), Below W.heap.size W W' → DataW.TrodAll enc Tryz.prog W' 0 (fun b => decide (b < W.heap.size)) true [28, 28, 66] [v0, v1, v2] [d0, d1, d2] (p0 ++ (p1 ++ p2)) :=
  fun W' hn => trodAll_mk3 (Below.trod Tryz.laidOut (by kernel_rfl) (of_decide_eq_true (by kernel_rfl)) h0 hn (fun x hx => hlt x (by simp [hx]))) (Below.trod Tryz.laidOut (by kernel_rfl) (of_decide_eq_true (by kernel_rfl)) h1 hn (fun x hx => hlt x (by simp [hx]))) (Below.trod Tryz.laidOut (by kernel_rfl) (of_decide_eq_true (by kernel_rfl)) h2 hn (fun x hx => hlt x (by simp [hx])))
 obtain ⟨c0, hd0, rfl, hnc0, hS0, hr0, hf0, ht0, hb0⟩ := Kqm (hval 0 28 v0 rfl rfl) h0; have hI0 := hb0 (by omega); have hZ0 : CSz c0 := ⟨hI0.n, hI0.m, hI0.k, hI0.z⟩; obtain ⟨c1, hd1, rfl, hnc1, hS1, hr1, hf1, ht1, hb1⟩ := Kqm (hval 1 28 v1 rfl rfl) h1; have hI1 := hb1 (by omega); have hZ1 : CSz c1 := ⟨hI1.n, hI1.m, hI1.k, hI1.z⟩; obtain ⟨fu2, hf2⟩ := id h2; obtain ⟨x2, y2, z2, rfl⟩ := okWide_slice Tryz.underlying66 (hval 2 66 v2 rfl rfl); obtain ⟨A2, n2, c2, l2, he2, hA2, hc2, hE2, hr2, hb2⟩ := Qac hf2; injection he2 with x2e y2e z2e; subst x2e y2e z2e; have hE := Qdr hL; have hU0 := Kip d0; have hU1 := Kip d1; refine (Kpq c0 c1 hd0.A hd0.n hd0.c hd1.A hd1.n hd1.c x2 y2 z2 l2 W hI0.ok hI1.ok hZ0 hZ1 hE2 hr2 (by dsimp only at *; omega) (by dsimp only at *; omega) hE).mono fun e W' ⟨he, hb⟩ => ?_
 subst he; exact ⟨_, rfl, _, _, _, [], _, [], hW', trodAll_mk1 (shut_bool Tryz.underlying4 true), hargs _ hb, rfl, hb.frame _, fun h => by cases h⟩
theorem Kvy (os : Os) (started : os.Started) (H : Type) (enc : TypeId × Value → H) (F : Stop.Interp) :
  ReturnsInHanded {} Tryz.checked os 8 .any ((Rows.OpenSpec.upto Rows.blockOneSpec).preRow enc Tryz.prog Tryz.f8 Rows.blockOneUptoRow.domain false Rows.blockOneUptoRow.laid) (((Rows.OpenSpec.upto Rows.blockOneSpec).at F).post enc Tryz.prog Tryz.f8 false true false false) := by
 obtain ⟨places, hx⟩ := Kzs os enc
 refine returnsInHanded_of_row (C := Tryz.checked) (s := Rows.OpenSpec.upto Rows.blockOneSpec) Tryz.own started (by kernel_rfl) Tryz.func8
  (witness_row_atRef (enc := enc) (C := Tryz.checked) false (Kmu os) #[.agg #[.int .i64 0, .int .i64 0, .int .i64 0, .slice none 0 0], .agg #[.int .i64 0, .int .i64 0, .int .i64 0, .slice none 0 0], .slice none 0 0] rfl (by kernel_rfl) (by kernel_rfl) (by kernel_rfl)
   (OpenSpec.preRow_of_cond 8 hx (by kernel_rfl) (fun k hk => by cases hk; kernel_rfl) (by kernel_rfl) (Qhp os _))) ?_
 intro W base args ds gs before hval hW _ hcond hsz hL _ _; exact Ksb H enc W base args ds gs before hval hW hsz (hcond _ rfl) hL
theorem Qch : Rows.BlockOneUptoSaid :=
 OpenClaim.holds_of_cond 8 Tryz.f8 rfl rfl rfl rfl rfl rfl rfl ⟨rfl, rfl, rfl, rfl, rfl⟩ rfl rfl rfl rfl rfl (by kernel_rfl) Tryz.func8 Qal
  (of_decide_eq_true (by kernel_rfl)) (by unfold Func.isWrapper; first | (rw [if_pos (by decide +kernel)]; kernel_rfl) | (rw [if_neg (by decide +kernel)]; exact ⟨rfl, rfl⟩))
  (fun os started H enc _ F => by rw [OpenClaim.pre_eq_preRow]; exact Kvy os started H enc F)
theorem Kza (f : FuncId) (fn : Func) (hf : Tryz.pinned.checked.prog.funcNamed "almanac/almanaclaw19.BlockOne" = some f) (hfn : Tryz.pinned.checked.prog.funcs[f]? = some fn) :
  true = Tryz.pinned.checked.prog.looks [] ∧ ∀ (j : Nat) t, fn.params[j]? = some t → Tryz.pinned.checked.prog.wantsStandIn t = false := by
 obtain rfl : f = 8 := Option.some.inj ((show Tryz.prog.funcNamed "almanac/almanaclaw19.BlockOne" = some 8 by kernel_rfl).symm.trans hf) |>.symm; obtain rfl : fn = Tryz.f8 := (Option.some.inj (Tryz.func8.symm.trans hfn)).symm; refine ⟨by kernel_rfl, fun j t ht => ?_⟩; rw [Tryz.params8] at ht; have hm : t = 28 ∨ t = 28 ∨ t = 66 := by simpa using Array.mem_of_getElem? ht
 rcases hm with rfl | rfl | rfl
 ·exact (show Tryz.prog.wantsStandIn 28 = false by kernel_rfl)
 ·exact (show Tryz.prog.wantsStandIn 28 = false by kernel_rfl)
 ·exact (show Tryz.prog.wantsStandIn 66 = false by kernel_rfl)
theorem blockOne_holds : Rows.BlockOneUptoCardSaid :=
 Claim7.holds_tied_plain_at .later [] _ _ _ _ Qch (fun _ h => by cases h) (by kernel_rfl) (fun _ h => by cases h) blockOneUpto_row_tie rfl ⟨rfl, rfl⟩ (by kernel_rfl) rfl Kza (by kernel_rfl)
end
end Go.Proofs.YtdoiekknhnbepaaGreatDoor
