/- StoreBack (layer 20) for every manifest: Commit of one that the disk has no room for (printed by gen_stobig.py). -/
import Derived.Test.YtfpgbhimgfdddaaGreatDoorStoBackW
import Derived.Test.YtfpgbhimgfdddaaGreatDoorStoPutB
set_option linter.unusedVariables false
set_option linter.unusedSimpArgs false
namespace Go.Proofs.YtfpgbhimgfdddaaGreatDoor
open Go.RowKit Go.Shelf Go.Sort
attribute [local go_sem ↓] Go.wp_at_zero Go.wp_at_succ
attribute [local go_sem] Later.cell Later.frozen

theorem encM_len {m : Man} (h : m.fit = true) : (encM m).length ≤ 140737488351232 := by
  have h1 := fit_len h
  have h2 := bodyAt_len m m.blocks.length (Nat.le_refl _)
  rw [bodyAt_full] at h2
  unfold encM
  rw [sealT_len]
  omega
section
variable {B0 M p : Nat} {a : Nat → Addr} {R R' : Nat → Nat} {d : Ds} {w w' : World}
set_option maxHeartbeats 4000000 in
theorem commit_big (m : Man) (A : Option Addr) (c : Nat) (w : World) (hinf : Infs w A m.blocks.length m.blocks) (hlen : m.blocks.length ≤ 3518437208780) (hsm : m.small) (hC : SCon B0 a) (hE : SEnv B0 a w) (hf : m.fit = true) (hD : Dk B0 M w R p d) (hM : M + 8 ≤ 536870912) (hcap : d.cap < (encM m).length) :
    Calls Tryz.prog 12 #[.pointer (some ⟨p, 0, none⟩), .agg (manV m (.slice A m.blocks.length c))] w (DkOut a B0 (M + 7) R p (putD d sManifest (encM m)) w) := by
  obtain ⟨W, hW⟩ : ∃ W, w.alloc (.cells (manV m (.slice A m.blocks.length c)) 25) = W := ⟨_, rfl⟩
  have hbl : Below w.heap.size w W := by rw [← hW]; exact (Below.refl _ _).alloc (Nat.le_refl _) _
  have HK : Hid (Blk W w.heap.size 25 (manV m (.slice A m.blocks.length c))) := Lib.hid (by rw [← hW]; exact Blk.new _ _ _)
  have HN := Lib.hid (enc_yes m A c W (hinf.below hbl) hlen hsm (hE.low hC hbl).nib hf)
  obtain ⟨T, hT⟩ : ∃ T : ByteArray, (⟨(encM m).toArray⟩ : ByteArray) = T := ⟨_, rfl⟩
  have hTl : T.data.toList = encM m := by rw [← hT]
  have hTz : T.size = (encM m).length := by rw [← hT]; show (encM m).toArray.size = _; simp
  have HT := Lib.hid (⟨hTl, hTz⟩ : _ ∧ _)
  rw [hT] at HN
  have HW := Lib.hid hW
  have HB := Lib.hid hbl
  have HD := Lib.hid (hD.below hbl)
  have HE := Lib.hid (hE.low hC hbl)
  have HC := Lib.hid hC
  have HM := Lib.hid (⟨hM, hcap, encM_len hf⟩ : _ ∧ _ ∧ _)
  clear hE hC hinf hlen hsm hf hbl hW hT hTl hTz hD hM
  go_enter Tryz.func12, Tryz.ntmps12
  go_upto_region 1 with fail
  have hW2 := HW.out
  rw [hW2]
  clear hW2
  have x0 : W.cell? ⟨w.heap.size, 0, none⟩ = some (.int .i64 m.w0) := HK.out.cell 0
  have x1 : W.cell? ⟨w.heap.size, 1, none⟩ = some (.int .i64 m.w1) := HK.out.cell 1
  have x2 : W.cell? ⟨w.heap.size, 2, none⟩ = some (.int .i64 m.w2) := HK.out.cell 2
  have x3 : W.cell? ⟨w.heap.size, 3, none⟩ = some (.int .i64 m.next) := HK.out.cell 3
  have x4 : W.cell? ⟨w.heap.size, 4, none⟩ = some (.int .i64 m.log) := HK.out.cell 4
  have x5 : W.cell? ⟨w.heap.size, 5, none⟩ = some ((.slice A m.blocks.length c)) := HK.out.cell 5
  have x6 : W.cell? ⟨w.heap.size, 6, none⟩ = some (.int .i64 m.cut) := HK.out.cell 6
  have x7 : W.cell? ⟨w.heap.size, 7, none⟩ = some (.int .i64 m.r0) := HK.out.cell 7
  have x8 : W.cell? ⟨w.heap.size, 8, none⟩ = some (.int .i64 m.r1) := HK.out.cell 8
  have x9 : W.cell? ⟨w.heap.size, 9, none⟩ = some (.int .i64 m.r2) := HK.out.cell 9
  have x10 : W.cell? ⟨w.heap.size, 10, none⟩ = some (.int .i64 m.l0) := HK.out.cell 10
  have x11 : W.cell? ⟨w.heap.size, 11, none⟩ = some (.int .i64 m.l1) := HK.out.cell 11
  have x12 : W.cell? ⟨w.heap.size, 12, none⟩ = some (.int .i64 m.l2) := HK.out.cell 12
  go_wp2_with fail
  refine HN.out.mono ?_
  rintro e w1 ⟨rfl, hb1⟩
  have HD1 := Lib.hid (HD.out.below hb1)
  have HE1 := Lib.hid (HE.out.low HC.out hb1)
  have HO1 : Hid (Out R R w w1) := Lib.hid (Out.of_below (HB.out.trans (hb1.mono HB.out.size)))
  have HP := Lib.hid (putfile_big ⟨#[109, 97, 110, 105, 102, 101, 115, 116]⟩ T w1 HD1.out HM.out.1 (by have := HM.out.2.2; have := HT.out.2; omega) (by have := HM.out.2.1; have := HT.out.2; omega) HE1.out.hb HE1.out.e HC.out.ap (by decide))
  clear x0 x1 x2 x3 x4 x5 x6 x7 x8 x9 x10 x11 x12
  clear hb1
  go_wp2_with fail
  refine HP.out.mono ?_
  rintro e w2 ⟨v, R2, rfl, h1, h2, h3⟩
  have hp : putD d (⟨#[109, 97, 110, 105, 102, 101, 115, 116]⟩ : ByteArray).data.toList T.data.toList = putD d sManifest (encM m) := by rw [HT.out.1]; rfl
  rw [hp] at h1 h2
  have H1 := Lib.hid h1
  have H2 := Lib.hid h2
  have H3 := Lib.hid h3
  clear h1 h2 h3 hp
  go_wp2_with fail
  go_ret
  exact ⟨_, R2, rfl, H1.out, H2.out, HO1.out.trans H3.out⟩
set_option maxRecDepth 100000 in
set_option maxHeartbeats 8000000 in
theorem storeback_big (m : Man) (A : Option Addr) (c : Nat) (w : World) (hinf : Infs w A m.blocks.length m.blocks) (hlen : m.blocks.length ≤ 3518437208780) (hsm : m.small) (hf : m.fit = true) (hbig : 67108864 < (encM m).length) (hC : SCon B0 a) (hE : SEnv B0 a w) :
    Calls Tryz.prog 3 #[.agg (manV m (.slice A m.blocks.length c))] w fun e w' => e = .returned (.bool true) ∧ Below w.heap.size w w' := by
  obtain ⟨b, hb⟩ : ∃ b, w.heap.size = b := ⟨_, rfl⟩
  obtain ⟨W, hW⟩ : ∃ W, w.alloc (.cells (manV m (.slice A m.blocks.length c)) 25) = W := ⟨_, rfl⟩
  have hbl : Below w.heap.size w W := by rw [← hW]; exact (Below.refl _ _).alloc (Nat.le_refl _) _
  have HK : Hid (Blk W b 25 (manV m (.slice A m.blocks.length c))) := Lib.hid (by rw [← hW, ← hb]; exact Blk.new _ _ _)
  have HI := Lib.hid (hinf.below hbl)
  have HE := Lib.hid (hE.low hC hbl)
  have HC := Lib.hid hC
  have HW := Lib.hid hW
  have HG := Lib.hid hb
  have HB := Lib.hid hbl
  have HEN := Lib.hid (enc_yes m A c W HI.out hlen hsm HE.out.nib hf)
  obtain ⟨T, hT⟩ : ∃ T : ByteArray, (⟨(encM m).toArray⟩ : ByteArray) = T := ⟨_, rfl⟩
  have hTl : T.data.toList = encM m := by rw [← hT]
  have hTz : T.size = (encM m).length := by rw [← hT]; show (encM m).toArray.size = _; simp
  have HT := Lib.hid (⟨hTl, hTz, hbig⟩ : _ ∧ _ ∧ _)
  rw [hT] at HEN
  have HCO : Hid (∀ (w' : World) (p : Nat) (R : Nat → Nat), Below W.heap.size W w' → Dk B0 0 w' R p (newD 67108864) → Calls Tryz.prog 12 #[.pointer (some ⟨p, 0, none⟩), .agg (manV m (.slice A m.blocks.length c))] w' (DkOut a B0 (0 + 7) R p (putD (newD 67108864) sManifest (encM m)) w')) := Lib.hid fun w' p R h hd =>
    commit_big m A c w' (HI.out.below h) hlen hsm HC.out (HE.out.low HC.out h) hf hd (by omega) (by rw [newD_room]; exact hbig)
  have HRF : Hid (∀ w' : World, Below W.heap.size W w' → Calls Tryz.prog 15 #[.agg (manV m (.slice A m.blocks.length c))] w' fun e w2 => ∃ u, e = .returned u ∧ ∃ A' c', u = .agg (manV m (.slice A' m.blocks.length c')) ∧ Infs w2 A' m.blocks.length m.blocks ∧ Below w'.heap.size w' w2) := Lib.hid fun w' h => ref20_opened m A c w' (HI.out.below h) hlen
  have HFT : Hid (∀ (w' : World) A' c', Infs w' A' m.blocks.length m.blocks → Calls Tryz.prog 14 #[.agg (manV m (.slice A' m.blocks.length c'))] w' fun e w2 => e = .returned (.bool true) ∧ Below w'.heap.size w' w2) := Lib.hid fun w' A' c' h => (fit20_calls m A' c' w' h hlen).mono fun e w2 ⟨h1, h2⟩ => ⟨by rw [h1, hf], h2⟩
  have HWK : Hid (∀ w', Below W.heap.size W w' → Calls Tryz.prog 13 #[] w' fun e w2 => e = .returned (.bool true) ∧ Below w'.heap.size w' w2) := Lib.hid fun w' h => wakes20_calls w' HC.out (HE.out.low HC.out h)
  have HAL : Hid (∀ (w' : World) A1 c1, Below W.heap.size W w' → Infs w' A1 m.blocks.length m.blocks → Calls Tryz.prog 18 #[.agg (manV m (.slice A1 m.blocks.length c1)), .agg (manV m (.slice A m.blocks.length c))] w' fun e w2 => e = .returned (.bool true) ∧ Below w'.heap.size w' w2) := Lib.hid fun w' A1 c1 h h1 => lalike20_same m A1 A c1 c w' h1 (HI.out.below h) hlen
  have HDC : Hid (decM T.data.toList = (m, 0)) := Lib.hid (by rw [hTl]; exact decM_enc hsm hf)
  have HDC2 : Hid (decM (encM m) = (m, 0)) := Lib.hid (decM_enc hsm hf)
  obtain ⟨n, hn⟩ : ∃ n, m.blocks.length = n := ⟨_, rfl⟩
  have HN := Lib.hid hn
  rw [hn] at HK HEN HCO HRF HFT HW HAL ⊢
  clear hW hb hbl hinf hlen hsm hf hC hE hn hT hTl hTz hbig
  go_enter Tryz.func3, Tryz.ntmps3
  go_upto_region 1 with fail
  have hW2 := HW.out
  have hg2 := HG.out
  rw [hW2, hg2]
  clear hW2 hg2
  have HBW : Hid (Below W.heap.size W W) := Lib.hid (Below.refl _ _)
  have hbx := HBW.out
  have x0 : W.cell? ⟨b, 0, none⟩ = some (.int .i64 m.w0) := (HK.out.below hbx HK.out.lt).cell 0
  have x1 : W.cell? ⟨b, 1, none⟩ = some (.int .i64 m.w1) := (HK.out.below hbx HK.out.lt).cell 1
  have x2 : W.cell? ⟨b, 2, none⟩ = some (.int .i64 m.w2) := (HK.out.below hbx HK.out.lt).cell 2
  have x3 : W.cell? ⟨b, 3, none⟩ = some (.int .i64 m.next) := (HK.out.below hbx HK.out.lt).cell 3
  have x4 : W.cell? ⟨b, 4, none⟩ = some (.int .i64 m.log) := (HK.out.below hbx HK.out.lt).cell 4
  have x5 : W.cell? ⟨b, 5, none⟩ = some ((.slice A n c)) := (HK.out.below hbx HK.out.lt).cell 5
  have x6 : W.cell? ⟨b, 6, none⟩ = some (.int .i64 m.cut) := (HK.out.below hbx HK.out.lt).cell 6
  have x7 : W.cell? ⟨b, 7, none⟩ = some (.int .i64 m.r0) := (HK.out.below hbx HK.out.lt).cell 7
  have x8 : W.cell? ⟨b, 8, none⟩ = some (.int .i64 m.r1) := (HK.out.below hbx HK.out.lt).cell 8
  have x9 : W.cell? ⟨b, 9, none⟩ = some (.int .i64 m.r2) := (HK.out.below hbx HK.out.lt).cell 9
  have x10 : W.cell? ⟨b, 10, none⟩ = some (.int .i64 m.l0) := (HK.out.below hbx HK.out.lt).cell 10
  have x11 : W.cell? ⟨b, 11, none⟩ = some (.int .i64 m.l1) := (HK.out.below hbx HK.out.lt).cell 11
  have x12 : W.cell? ⟨b, 12, none⟩ = some (.int .i64 m.l2) := (HK.out.below hbx HK.out.lt).cell 12
  go_wp2_with fail
  refine HEN.out.mono ?_
  rintro e w1 ⟨rfl, hb1⟩
  have HBw1 := Lib.hid hb1
  clear x0 x1 x2 x3 x4 x5 x6 x7 x8 x9 x10 x11 x12
  clear hb1
  go_wp2_with fail
  refine (Dk.made 67108864 (by decide) (by decide) w1 (HE.out.low HC.out HBw1.out).hb).mono ?_
  rintro e w2 ⟨p, R, rfl, hd2, hb2, hz2⟩
  have HBw2 := Lib.hid (HBw1.out.trans (hb2.mono HBw1.out.size))
  have HZ : Hid (∀ k, k < W.heap.size → R k = 0) := Lib.hid fun k hk => hz2 k (by have := HBw1.out.size; omega)
  have HC2 := Lib.hid (HCO.out w2 p R HBw2.out hd2)
  have HD2 := Lib.hid hd2
  clear hd2 hb2 hz2
  have hbx := HBw2.out
  have x0 : w2.cell? ⟨b, 0, none⟩ = some (.int .i64 m.w0) := (HK.out.below hbx HK.out.lt).cell 0
  have x1 : w2.cell? ⟨b, 1, none⟩ = some (.int .i64 m.w1) := (HK.out.below hbx HK.out.lt).cell 1
  have x2 : w2.cell? ⟨b, 2, none⟩ = some (.int .i64 m.w2) := (HK.out.below hbx HK.out.lt).cell 2
  have x3 : w2.cell? ⟨b, 3, none⟩ = some (.int .i64 m.next) := (HK.out.below hbx HK.out.lt).cell 3
  have x4 : w2.cell? ⟨b, 4, none⟩ = some (.int .i64 m.log) := (HK.out.below hbx HK.out.lt).cell 4
  have x5 : w2.cell? ⟨b, 5, none⟩ = some ((.slice A n c)) := (HK.out.below hbx HK.out.lt).cell 5
  have x6 : w2.cell? ⟨b, 6, none⟩ = some (.int .i64 m.cut) := (HK.out.below hbx HK.out.lt).cell 6
  have x7 : w2.cell? ⟨b, 7, none⟩ = some (.int .i64 m.r0) := (HK.out.below hbx HK.out.lt).cell 7
  have x8 : w2.cell? ⟨b, 8, none⟩ = some (.int .i64 m.r1) := (HK.out.below hbx HK.out.lt).cell 8
  have x9 : w2.cell? ⟨b, 9, none⟩ = some (.int .i64 m.r2) := (HK.out.below hbx HK.out.lt).cell 9
  have x10 : w2.cell? ⟨b, 10, none⟩ = some (.int .i64 m.l0) := (HK.out.below hbx HK.out.lt).cell 10
  have x11 : w2.cell? ⟨b, 11, none⟩ = some (.int .i64 m.l1) := (HK.out.below hbx HK.out.lt).cell 11
  have x12 : w2.cell? ⟨b, 12, none⟩ = some (.int .i64 m.l2) := (HK.out.below hbx HK.out.lt).cell 12
  go_wp2_with fail
  refine HC2.out.mono ?_
  rintro e w3 ⟨v3, R3, rfl, hv3, hd3, ho3⟩
  clear hv3
  have HBw3 := Lib.hid (HBw2.out.trans (ho3.below HBw2.out.size HZ.out))
  have HD3 := Lib.hid hd3
  have HO3 := Lib.hid ho3
  clear x0 x1 x2 x3 x4 x5 x6 x7 x8 x9 x10 x11 x12
  clear hd3 ho3
  go_wp2_with fail
  refine (HWK.out w3 HBw3.out).mono ?_
  rintro e w4 ⟨rfl, hb4⟩
  have HBw4 := Lib.hid (HBw3.out.trans (hb4.mono HBw3.out.size))
  have HD4 := Lib.hid (HD3.out.below hb4)
  clear hb4
  have hbx := HBw4.out
  have x0 : w4.cell? ⟨b, 0, none⟩ = some (.int .i64 m.w0) := (HK.out.below hbx HK.out.lt).cell 0
  have x1 : w4.cell? ⟨b, 1, none⟩ = some (.int .i64 m.w1) := (HK.out.below hbx HK.out.lt).cell 1
  have x2 : w4.cell? ⟨b, 2, none⟩ = some (.int .i64 m.w2) := (HK.out.below hbx HK.out.lt).cell 2
  have x3 : w4.cell? ⟨b, 3, none⟩ = some (.int .i64 m.next) := (HK.out.below hbx HK.out.lt).cell 3
  have x4 : w4.cell? ⟨b, 4, none⟩ = some (.int .i64 m.log) := (HK.out.below hbx HK.out.lt).cell 4
  have x5 : w4.cell? ⟨b, 5, none⟩ = some ((.slice A n c)) := (HK.out.below hbx HK.out.lt).cell 5
  have x6 : w4.cell? ⟨b, 6, none⟩ = some (.int .i64 m.cut) := (HK.out.below hbx HK.out.lt).cell 6
  have x7 : w4.cell? ⟨b, 7, none⟩ = some (.int .i64 m.r0) := (HK.out.below hbx HK.out.lt).cell 7
  have x8 : w4.cell? ⟨b, 8, none⟩ = some (.int .i64 m.r1) := (HK.out.below hbx HK.out.lt).cell 8
  have x9 : w4.cell? ⟨b, 9, none⟩ = some (.int .i64 m.r2) := (HK.out.below hbx HK.out.lt).cell 9
  have x10 : w4.cell? ⟨b, 10, none⟩ = some (.int .i64 m.l0) := (HK.out.below hbx HK.out.lt).cell 10
  have x11 : w4.cell? ⟨b, 11, none⟩ = some (.int .i64 m.l1) := (HK.out.below hbx HK.out.lt).cell 11
  have x12 : w4.cell? ⟨b, 12, none⟩ = some (.int .i64 m.l2) := (HK.out.below hbx HK.out.lt).cell 12
  go_wp2_with fail
  refine (HRF.out w4 HBw4.out).mono ?_
  rintro e w5 ⟨u, rfl, A', c', rfl, hi5, hb5⟩
  have HBw5 := Lib.hid (HBw4.out.trans (hb5.mono HBw4.out.size))
  have HF5 := Lib.hid (HFT.out w5 A' c' hi5)
  have HD5 := Lib.hid (HD4.out.below hb5)
  clear x0 x1 x2 x3 x4 x5 x6 x7 x8 x9 x10 x11 x12
  clear hb5 hi5
  go_wp2_with fail
  refine HF5.out.mono ?_
  rintro e w6 ⟨rfl, hb6⟩
  have HBw6 := Lib.hid (HBw5.out.trans (hb6.mono HBw5.out.size))
  have HD6 := Lib.hid (HD5.out.below hb6)
  clear hb6
  have hbig : 1048576 < T.size := by have := HT.out.2; omega
  have d1 : decide ((1048576 : Int) < (T.size : Int)) = true := by simp; omega
  have d2 : decide (1048576 < T.size) = true := by simp; omega
  go_wp2_with fail
  go_ret
  exact ⟨rfl, HB.out.trans (HBw6.out.mono HB.out.size)⟩
theorem storeback_calls (m : Man) (A : Option Addr) (c : Nat) (w : World) (hinf : Infs w A m.blocks.length m.blocks) (hlen : m.blocks.length ≤ 3518437208780) (hsm : m.small) (hC : SCon B0 a) (hE : SEnv B0 a w) :
    Calls Tryz.prog 3 #[.agg (manV m (.slice A m.blocks.length c))] w fun e w' => e = .returned (.bool true) ∧ Below w.heap.size w w' := by
  by_cases hf : m.fit = true
  · by_cases hb : (encM m).length ≤ 67108864
    · exact storeback_yes m A c w hinf hlen hsm hf hb hC hE
    · exact storeback_big m A c w hinf hlen hsm hf (by omega) hC hE
  · exact storeback_no m A c w hinf hlen hsm (fit_false hf) hC hE
end
end Go.Proofs.YtfpgbhimgfdddaaGreatDoor
