/- The walk of the law StoreBack (layer 20): a fit manifest is read back from its bytes and from the disk, any other is refused (printed by gen_stoback.py). -/
import Derived.Test.YtfpgbhimgfdddaaGreatDoorStk34
import Derived.Test.YtfpgbhimgfdddaaGreatDoorStk35
import Derived.Lib.IfaceEq
set_option linter.unusedVariables false
set_option linter.unusedSimpArgs false
namespace Go.Proofs.YtfpgbhimgfdddaaGreatDoor
open Go.RowKit Go.Shelf Go.Sort
attribute [local go_sem ↓] Go.wp_at_zero Go.wp_at_succ
attribute [local go_sem] Later.cell Later.frozen

section
variable {B0 : Nat} {a : Nat → Addr}
set_option maxRecDepth 100000 in
set_option maxHeartbeats 8000000 in
theorem storeback_no (m : Man) (A : Option Addr) (c : Nat) (w : World) (hinf : Infs w A m.blocks.length m.blocks) (hlen : m.blocks.length ≤ 3518437208780) (hsm : m.small) (hf : m.fit = false) (hC : SCon B0 a) (hE : SEnv B0 a w) :
    Calls Tryz.prog 3 #[.agg (manV m (.slice A m.blocks.length c))] w fun e w' => e = .returned (.bool true) ∧ Below w.heap.size w w' := by
  obtain ⟨b, hb⟩ : ∃ b, w.heap.size = b := ⟨_, rfl⟩
  obtain ⟨W, hW⟩ : ∃ W, w.alloc (.cells (manV m (.slice A m.blocks.length c)) 25) = W := ⟨_, rfl⟩
  have hbl : Below w.heap.size w W := by rw [← hW]; exact (Below.refl _ _).alloc (Nat.le_refl _) _
  have HK : Hid (Blk W b 25 (manV m (.slice A m.blocks.length c))) := Lib.hid (by rw [← hW, ← hb]; exact Blk.new _ _ _)
  have HI := Lib.hid (hinf.below hbl)
  have HE := Lib.hid (hE.low hC hbl)
  have HC := Lib.hid hC
  have HW := Lib.hid hW
  have HG := Lib.hid hb
  have HB := Lib.hid hbl
  have HEN := Lib.hid (enc_no m A c W HI.out hlen hsm HE.out.nib hf)
  have HCO : Hid (∀ (w' : World) (P : Value), Below W.heap.size W w' → Calls Tryz.prog 12 #[P, .agg (manV m (.slice A m.blocks.length c))] w' fun e w2 => e = .returned (.iface 26 (.int .i64 150)) ∧ Below w'.heap.size w' w2) := Lib.hid fun w' P h => commit_no m A c P w' (HI.out.below h) hlen hsm HC.out (HE.out.low HC.out h) hf
  have HRF : Hid (∀ w' : World, Below W.heap.size W w' → Calls Tryz.prog 15 #[.agg (manV m (.slice A m.blocks.length c))] w' fun e w2 => ∃ u, e = .returned u ∧ ∃ A' c', u = .agg (manV m (.slice A' m.blocks.length c')) ∧ Infs w2 A' m.blocks.length m.blocks ∧ Below w'.heap.size w' w2) := Lib.hid fun w' h => ref20_opened m A c w' (HI.out.below h) hlen
  have HFT : Hid (∀ (w' : World) A' c', Infs w' A' m.blocks.length m.blocks → Calls Tryz.prog 14 #[.agg (manV m (.slice A' m.blocks.length c'))] w' fun e w2 => e = .returned (.bool false) ∧ Below w'.heap.size w' w2) := Lib.hid fun w' A' c' h => (fit20_calls m A' c' w' h hlen).mono fun e w2 ⟨h1, h2⟩ => ⟨by rw [h1, hf], h2⟩
  have HWK : Hid (∀ w', Below W.heap.size W w' → Calls Tryz.prog 13 #[] w' fun e w2 => e = .returned (.bool true) ∧ Below w'.heap.size w' w2) := Lib.hid fun w' h => wakes20_calls w' HC.out (HE.out.low HC.out h)
  obtain ⟨n, hn⟩ : ∃ n, m.blocks.length = n := ⟨_, rfl⟩
  rw [hn] at HK HEN HCO HRF HFT HW ⊢
  clear hW hb hbl hinf hlen hsm hf hC hE hn
  go_enter Tryz.func3, Tryz.ntmps3
  go_upto_region 1 with fail
  have hW2 := HW.out
  have hg2 := HG.out
  rw [hW2, hg2]
  clear hW2 hg2
  have HBW : Hid (Below W.heap.size W W) := Lib.hid (Below.refl _ _)
  have hbx := HBW.out
  have x0 : W.cell? ⟨b, 0, none⟩ = some (.int .i64 m.w0) := (HK.out.below hbx HK.out.lt).cell 0
  have x1 : W.cell? ⟨b, 1, none⟩ = some (.int .i64 m.w1) := (HK.out.below hbx HK.out.lt).cell 1
  have x2 : W.cell? ⟨b, 2, none⟩ = some (.int .i64 m.w2) := (HK.out.below hbx HK.out.lt).cell 2
  have x3 : W.cell? ⟨b, 3, none⟩ = some (.int .i64 m.next) := (HK.out.below hbx HK.out.lt).cell 3
  have x4 : W.cell? ⟨b, 4, none⟩ = some (.int .i64 m.log) := (HK.out.below hbx HK.out.lt).cell 4
  have x5 : W.cell? ⟨b, 5, none⟩ = some ((.slice A n c)) := (HK.out.below hbx HK.out.lt).cell 5
  have x6 : W.cell? ⟨b, 6, none⟩ = some (.int .i64 m.cut) := (HK.out.below hbx HK.out.lt).cell 6
  have x7 : W.cell? ⟨b, 7, none⟩ = some (.int .i64 m.r0) := (HK.out.below hbx HK.out.lt).cell 7
  have x8 : W.cell? ⟨b, 8, none⟩ = some (.int .i64 m.r1) := (HK.out.below hbx HK.out.lt).cell 8
  have x9 : W.cell? ⟨b, 9, none⟩ = some (.int .i64 m.r2) := (HK.out.below hbx HK.out.lt).cell 9
  have x10 : W.cell? ⟨b, 10, none⟩ = some (.int .i64 m.l0) := (HK.out.below hbx HK.out.lt).cell 10
  have x11 : W.cell? ⟨b, 11, none⟩ = some (.int .i64 m.l1) := (HK.out.below hbx HK.out.lt).cell 11
  have x12 : W.cell? ⟨b, 12, none⟩ = some (.int .i64 m.l2) := (HK.out.below hbx HK.out.lt).cell 12
  go_wp2_with fail
  refine HEN.out.mono ?_
  rintro e w1 ⟨rfl, hb1⟩
  have HBw1 := Lib.hid hb1
  clear x0 x1 x2 x3 x4 x5 x6 x7 x8 x9 x10 x11 x12
  clear hb1
  go_wp2_with fail
  refine (Dk.made 67108864 (by decide) (by decide) w1 (HE.out.low HC.out HBw1.out).hb).mono ?_
  rintro e w2 ⟨p, R, rfl, hd2, hb2, hz2⟩
  have HBw2 := Lib.hid (HBw1.out.trans (hb2.mono HBw1.out.size))
  clear hd2 hb2 hz2
  have hbx := HBw2.out
  have x0 : w2.cell? ⟨b, 0, none⟩ = some (.int .i64 m.w0) := (HK.out.below hbx HK.out.lt).cell 0
  have x1 : w2.cell? ⟨b, 1, none⟩ = some (.int .i64 m.w1) := (HK.out.below hbx HK.out.lt).cell 1
  have x2 : w2.cell? ⟨b, 2, none⟩ = some (.int .i64 m.w2) := (HK.out.below hbx HK.out.lt).cell 2
  have x3 : w2.cell? ⟨b, 3, none⟩ = some (.int .i64 m.next) := (HK.out.below hbx HK.out.lt).cell 3
  have x4 : w2.cell? ⟨b, 4, none⟩ = some (.int .i64 m.log) := (HK.out.below hbx HK.out.lt).cell 4
  have x5 : w2.cell? ⟨b, 5, none⟩ = some ((.slice A n c)) := (HK.out.below hbx HK.out.lt).cell 5
  have x6 : w2.cell? ⟨b, 6, none⟩ = some (.int .i64 m.cut) := (HK.out.below hbx HK.out.lt).cell 6
  have x7 : w2.cell? ⟨b, 7, none⟩ = some (.int .i64 m.r0) := (HK.out.below hbx HK.out.lt).cell 7
  have x8 : w2.cell? ⟨b, 8, none⟩ = some (.int .i64 m.r1) := (HK.out.below hbx HK.out.lt).cell 8
  have x9 : w2.cell? ⟨b, 9, none⟩ = some (.int .i64 m.r2) := (HK.out.below hbx HK.out.lt).cell 9
  have x10 : w2.cell? ⟨b, 10, none⟩ = some (.int .i64 m.l0) := (HK.out.below hbx HK.out.lt).cell 10
  have x11 : w2.cell? ⟨b, 11, none⟩ = some (.int .i64 m.l1) := (HK.out.below hbx HK.out.lt).cell 11
  have x12 : w2.cell? ⟨b, 12, none⟩ = some (.int .i64 m.l2) := (HK.out.below hbx HK.out.lt).cell 12
  go_wp2_with fail
  refine (HCO.out w2 _ HBw2.out).mono ?_
  rintro e w3 ⟨rfl, hb3⟩
  have HBw3 := Lib.hid (HBw2.out.trans (hb3.mono HBw2.out.size))
  clear x0 x1 x2 x3 x4 x5 x6 x7 x8 x9 x10 x11 x12
  clear hb3
  go_wp2_with fail
  refine (HWK.out w3 HBw3.out).mono ?_
  rintro e w4 ⟨rfl, hb4⟩
  have HBw4 := Lib.hid (HBw3.out.trans (hb4.mono HBw3.out.size))
  clear hb4
  have hbx := HBw4.out
  have x0 : w4.cell? ⟨b, 0, none⟩ = some (.int .i64 m.w0) := (HK.out.below hbx HK.out.lt).cell 0
  have x1 : w4.cell? ⟨b, 1, none⟩ = some (.int .i64 m.w1) := (HK.out.below hbx HK.out.lt).cell 1
  have x2 : w4.cell? ⟨b, 2, none⟩ = some (.int .i64 m.w2) := (HK.out.below hbx HK.out.lt).cell 2
  have x3 : w4.cell? ⟨b, 3, none⟩ = some (.int .i64 m.next) := (HK.out.below hbx HK.out.lt).cell 3
  have x4 : w4.cell? ⟨b, 4, none⟩ = some (.int .i64 m.log) := (HK.out.below hbx HK.out.lt).cell 4
  have x5 : w4.cell? ⟨b, 5, none⟩ = some ((.slice A n c)) := (HK.out.below hbx HK.out.lt).cell 5
  have x6 : w4.cell? ⟨b, 6, none⟩ = some (.int .i64 m.cut) := (HK.out.below hbx HK.out.lt).cell 6
  have x7 : w4.cell? ⟨b, 7, none⟩ = some (.int .i64 m.r0) := (HK.out.below hbx HK.out.lt).cell 7
  have x8 : w4.cell? ⟨b, 8, none⟩ = some (.int .i64 m.r1) := (HK.out.below hbx HK.out.lt).cell 8
  have x9 : w4.cell? ⟨b, 9, none⟩ = some (.int .i64 m.r2) := (HK.out.below hbx HK.out.lt).cell 9
  have x10 : w4.cell? ⟨b, 10, none⟩ = some (.int .i64 m.l0) := (HK.out.below hbx HK.out.lt).cell 10
  have x11 : w4.cell? ⟨b, 11, none⟩ = some (.int .i64 m.l1) := (HK.out.below hbx HK.out.lt).cell 11
  have x12 : w4.cell? ⟨b, 12, none⟩ = some (.int .i64 m.l2) := (HK.out.below hbx HK.out.lt).cell 12
  go_wp2_with fail
  refine (HRF.out w4 HBw4.out).mono ?_
  rintro e w5 ⟨u, rfl, A', c', rfl, hi5, hb5⟩
  have HBw5 := Lib.hid (HBw4.out.trans (hb5.mono HBw4.out.size))
  have HF5 := Lib.hid (HFT.out w5 A' c' hi5)
  clear x0 x1 x2 x3 x4 x5 x6 x7 x8 x9 x10 x11 x12
  clear hb5 hi5
  go_wp2_with fail
  refine HF5.out.mono ?_
  rintro e w6 ⟨rfl, hb6⟩
  have HBw6 := Lib.hid (HBw5.out.trans (hb6.mono HBw5.out.size))
  have hei := fun w => Lib.run_eql_iface_int (P := Tryz.prog) w (t := 32) (tx := 26) (k := .i64) (q := .i64) 150 150 Tryz.underlying32 (by kernel_rfl) Tryz.underlying26
  simp only [beq_self_eq_true] at hei
  clear hb6
  go_wp2_with fail
  go_ret
  exact ⟨rfl, HB.out.trans (HBw6.out.mono HB.out.size)⟩
/-- A fit manifest: for all that Commit answers. -/
theorem enc_dec (m : Man) (hsm : m.small) (hf : m.fit = true) : decM (encM m) = (m, 0) := decM_enc hsm hf
set_option maxRecDepth 100000 in
set_option maxHeartbeats 8000000 in
theorem storeback_yes (m : Man) (A : Option Addr) (c : Nat) (w : World) (hinf : Infs w A m.blocks.length m.blocks) (hlen : m.blocks.length ≤ 3518437208780) (hsm : m.small) (hf : m.fit = true) (hbig : (encM m).length ≤ 67108864) (hC : SCon B0 a) (hE : SEnv B0 a w) :
    Calls Tryz.prog 3 #[.agg (manV m (.slice A m.blocks.length c))] w fun e w' => e = .returned (.bool true) ∧ Below w.heap.size w w' := by
  obtain ⟨b, hb⟩ : ∃ b, w.heap.size = b := ⟨_, rfl⟩
  obtain ⟨W, hW⟩ : ∃ W, w.alloc (.cells (manV m (.slice A m.blocks.length c)) 25) = W := ⟨_, rfl⟩
  have hbl : Below w.heap.size w W := by rw [← hW]; exact (Below.refl _ _).alloc (Nat.le_refl _) _
  have HK : Hid (Blk W b 25 (manV m (.slice A m.blocks.length c))) := Lib.hid (by rw [← hW, ← hb]; exact Blk.new _ _ _)
  have HI := Lib.hid (hinf.below hbl)
  have HE := Lib.hid (hE.low hC hbl)
  have HC := Lib.hid hC
  have HW := Lib.hid hW
  have HG := Lib.hid hb
  have HB := Lib.hid hbl
  have HEN := Lib.hid (enc_yes m A c W HI.out hlen hsm HE.out.nib hf)
  obtain ⟨T, hT⟩ : ∃ T : ByteArray, (⟨(encM m).toArray⟩ : ByteArray) = T := ⟨_, rfl⟩
  have hTl : T.data.toList = encM m := by rw [← hT]
  have hTz : T.size = (encM m).length := by rw [← hT]; show (encM m).toArray.size = _; simp
  have HT := Lib.hid (⟨hTl, hTz, hbig⟩ : _ ∧ _ ∧ _)
  rw [hT] at HEN
  have HCO : Hid (∀ (w' : World) (p : Nat) (R : Nat → Nat), Below W.heap.size W w' → Dk B0 0 w' R p (newD 67108864) → Calls Tryz.prog 12 #[.pointer (some ⟨p, 0, none⟩), .agg (manV m (.slice A m.blocks.length c))] w' (DkOut a B0 (0 + (encM m).length + 7) R p (0, putX 67108864 sManifest (encM m)) w')) := Lib.hid fun w' p R h hd => by
    rw [← (back_all m hbig).1]
    exact commit_yes m A c w' (HI.out.below h) hlen hsm HC.out (HE.out.low HC.out h) hf hd (by omega)
  have HALL := Lib.hid (back_all m hbig).2
  have HRF : Hid (∀ w' : World, Below W.heap.size W w' → Calls Tryz.prog 15 #[.agg (manV m (.slice A m.blocks.length c))] w' fun e w2 => ∃ u, e = .returned u ∧ ∃ A' c', u = .agg (manV m (.slice A' m.blocks.length c')) ∧ Infs w2 A' m.blocks.length m.blocks ∧ Below w'.heap.size w' w2) := Lib.hid fun w' h => ref20_opened m A c w' (HI.out.below h) hlen
  have HFT : Hid (∀ (w' : World) A' c', Infs w' A' m.blocks.length m.blocks → Calls Tryz.prog 14 #[.agg (manV m (.slice A' m.blocks.length c'))] w' fun e w2 => e = .returned (.bool true) ∧ Below w'.heap.size w' w2) := Lib.hid fun w' A' c' h => (fit20_calls m A' c' w' h hlen).mono fun e w2 ⟨h1, h2⟩ => ⟨by rw [h1, hf], h2⟩
  have HWK : Hid (∀ w', Below W.heap.size W w' → Calls Tryz.prog 13 #[] w' fun e w2 => e = .returned (.bool true) ∧ Below w'.heap.size w' w2) := Lib.hid fun w' h => wakes20_calls w' HC.out (HE.out.low HC.out h)
  have HAL : Hid (∀ (w' : World) A1 c1, Below W.heap.size W w' → Infs w' A1 m.blocks.length m.blocks → Calls Tryz.prog 18 #[.agg (manV m (.slice A1 m.blocks.length c1)), .agg (manV m (.slice A m.blocks.length c))] w' fun e w2 => e = .returned (.bool true) ∧ Below w'.heap.size w' w2) := Lib.hid fun w' A1 c1 h h1 => lalike20_same m A1 A c1 c w' h1 (HI.out.below h) hlen
  have HDC : Hid (decM T.data.toList = (m, 0)) := Lib.hid (by rw [hTl]; exact decM_enc hsm hf)
  have HDC2 : Hid (decM (encM m) = (m, 0)) := Lib.hid (decM_enc hsm hf)
  obtain ⟨n, hn⟩ : ∃ n, m.blocks.length = n := ⟨_, rfl⟩
  have HN := Lib.hid hn
  rw [hn] at HK HEN HCO HRF HFT HW HAL ⊢
  clear hW hb hbl hinf hlen hsm hf hC hE hn hT hTl hTz hbig
  go_enter Tryz.func3, Tryz.ntmps3
  go_upto_region 1 with fail
  have hW2 := HW.out
  have hg2 := HG.out
  rw [hW2, hg2]
  clear hW2 hg2
  have HBW : Hid (Below W.heap.size W W) := Lib.hid (Below.refl _ _)
  have hbx := HBW.out
  have x0 : W.cell? ⟨b, 0, none⟩ = some (.int .i64 m.w0) := (HK.out.below hbx HK.out.lt).cell 0
  have x1 : W.cell? ⟨b, 1, none⟩ = some (.int .i64 m.w1) := (HK.out.below hbx HK.out.lt).cell 1
  have x2 : W.cell? ⟨b, 2, none⟩ = some (.int .i64 m.w2) := (HK.out.below hbx HK.out.lt).cell 2
  have x3 : W.cell? ⟨b, 3, none⟩ = some (.int .i64 m.next) := (HK.out.below hbx HK.out.lt).cell 3
  have x4 : W.cell? ⟨b, 4, none⟩ = some (.int .i64 m.log) := (HK.out.below hbx HK.out.lt).cell 4
  have x5 : W.cell? ⟨b, 5, none⟩ = some ((.slice A n c)) := (HK.out.below hbx HK.out.lt).cell 5
  have x6 : W.cell? ⟨b, 6, none⟩ = some (.int .i64 m.cut) := (HK.out.below hbx HK.out.lt).cell 6
  have x7 : W.cell? ⟨b, 7, none⟩ = some (.int .i64 m.r0) := (HK.out.below hbx HK.out.lt).cell 7
  have x8 : W.cell? ⟨b, 8, none⟩ = some (.int .i64 m.r1) := (HK.out.below hbx HK.out.lt).cell 8
  have x9 : W.cell? ⟨b, 9, none⟩ = some (.int .i64 m.r2) := (HK.out.below hbx HK.out.lt).cell 9
  have x10 : W.cell? ⟨b, 10, none⟩ = some (.int .i64 m.l0) := (HK.out.below hbx HK.out.lt).cell 10
  have x11 : W.cell? ⟨b, 11, none⟩ = some (.int .i64 m.l1) := (HK.out.below hbx HK.out.lt).cell 11
  have x12 : W.cell? ⟨b, 12, none⟩ = some (.int .i64 m.l2) := (HK.out.below hbx HK.out.lt).cell 12
  go_wp2_with fail
  refine HEN.out.mono ?_
  rintro e w1 ⟨rfl, hb1⟩
  have HBw1 := Lib.hid hb1
  clear x0 x1 x2 x3 x4 x5 x6 x7 x8 x9 x10 x11 x12
  clear hb1
  go_wp2_with fail
  refine (Dk.made 67108864 (by decide) (by decide) w1 (HE.out.low HC.out HBw1.out).hb).mono ?_
  rintro e w2 ⟨p, R, rfl, hd2, hb2, hz2⟩
  have HBw2 := Lib.hid (HBw1.out.trans (hb2.mono HBw1.out.size))
  have HZ : Hid (∀ k, k < W.heap.size → R k = 0) := Lib.hid fun k hk => hz2 k (by have := HBw1.out.size; omega)
  have HC2 := Lib.hid (HCO.out w2 p R HBw2.out hd2)
  have HD2 := Lib.hid hd2
  clear hd2 hb2 hz2
  have hbx := HBw2.out
  have x0 : w2.cell? ⟨b, 0, none⟩ = some (.int .i64 m.w0) := (HK.out.below hbx HK.out.lt).cell 0
  have x1 : w2.cell? ⟨b, 1, none⟩ = some (.int .i64 m.w1) := (HK.out.below hbx HK.out.lt).cell 1
  have x2 : w2.cell? ⟨b, 2, none⟩ = some (.int .i64 m.w2) := (HK.out.below hbx HK.out.lt).cell 2
  have x3 : w2.cell? ⟨b, 3, none⟩ = some (.int .i64 m.next) := (HK.out.below hbx HK.out.lt).cell 3
  have x4 : w2.cell? ⟨b, 4, none⟩ = some (.int .i64 m.log) := (HK.out.below hbx HK.out.lt).cell 4
  have x5 : w2.cell? ⟨b, 5, none⟩ = some ((.slice A n c)) := (HK.out.below hbx HK.out.lt).cell 5
  have x6 : w2.cell? ⟨b, 6, none⟩ = some (.int .i64 m.cut) := (HK.out.below hbx HK.out.lt).cell 6
  have x7 : w2.cell? ⟨b, 7, none⟩ = some (.int .i64 m.r0) := (HK.out.below hbx HK.out.lt).cell 7
  have x8 : w2.cell? ⟨b, 8, none⟩ = some (.int .i64 m.r1) := (HK.out.below hbx HK.out.lt).cell 8
  have x9 : w2.cell? ⟨b, 9, none⟩ = some (.int .i64 m.r2) := (HK.out.below hbx HK.out.lt).cell 9
  have x10 : w2.cell? ⟨b, 10, none⟩ = some (.int .i64 m.l0) := (HK.out.below hbx HK.out.lt).cell 10
  have x11 : w2.cell? ⟨b, 11, none⟩ = some (.int .i64 m.l1) := (HK.out.below hbx HK.out.lt).cell 11
  have x12 : w2.cell? ⟨b, 12, none⟩ = some (.int .i64 m.l2) := (HK.out.below hbx HK.out.lt).cell 12
  go_wp2_with fail
  refine HC2.out.mono ?_
  rintro e w3 ⟨v3, R3, rfl, hv3, hd3, ho3⟩
  obtain rfl : v3 = .nilIface := hv3
  have HBw3 := Lib.hid (HBw2.out.trans (ho3.below HBw2.out.size HZ.out))
  have HD3 := Lib.hid hd3
  have HO3 := Lib.hid ho3
  clear x0 x1 x2 x3 x4 x5 x6 x7 x8 x9 x10 x11 x12
  clear hd3 ho3
  go_wp2_with fail
  refine (HWK.out w3 HBw3.out).mono ?_
  rintro e w4 ⟨rfl, hb4⟩
  have HBw4 := Lib.hid (HBw3.out.trans (hb4.mono HBw3.out.size))
  have HD4 := Lib.hid (HD3.out.below hb4)
  clear hb4
  have hbx := HBw4.out
  have x0 : w4.cell? ⟨b, 0, none⟩ = some (.int .i64 m.w0) := (HK.out.below hbx HK.out.lt).cell 0
  have x1 : w4.cell? ⟨b, 1, none⟩ = some (.int .i64 m.w1) := (HK.out.below hbx HK.out.lt).cell 1
  have x2 : w4.cell? ⟨b, 2, none⟩ = some (.int .i64 m.w2) := (HK.out.below hbx HK.out.lt).cell 2
  have x3 : w4.cell? ⟨b, 3, none⟩ = some (.int .i64 m.next) := (HK.out.below hbx HK.out.lt).cell 3
  have x4 : w4.cell? ⟨b, 4, none⟩ = some (.int .i64 m.log) := (HK.out.below hbx HK.out.lt).cell 4
  have x5 : w4.cell? ⟨b, 5, none⟩ = some ((.slice A n c)) := (HK.out.below hbx HK.out.lt).cell 5
  have x6 : w4.cell? ⟨b, 6, none⟩ = some (.int .i64 m.cut) := (HK.out.below hbx HK.out.lt).cell 6
  have x7 : w4.cell? ⟨b, 7, none⟩ = some (.int .i64 m.r0) := (HK.out.below hbx HK.out.lt).cell 7
  have x8 : w4.cell? ⟨b, 8, none⟩ = some (.int .i64 m.r1) := (HK.out.below hbx HK.out.lt).cell 8
  have x9 : w4.cell? ⟨b, 9, none⟩ = some (.int .i64 m.r2) := (HK.out.below hbx HK.out.lt).cell 9
  have x10 : w4.cell? ⟨b, 10, none⟩ = some (.int .i64 m.l0) := (HK.out.below hbx HK.out.lt).cell 10
  have x11 : w4.cell? ⟨b, 11, none⟩ = some (.int .i64 m.l1) := (HK.out.below hbx HK.out.lt).cell 11
  have x12 : w4.cell? ⟨b, 12, none⟩ = some (.int .i64 m.l2) := (HK.out.below hbx HK.out.lt).cell 12
  go_wp2_with fail
  refine (HRF.out w4 HBw4.out).mono ?_
  rintro e w5 ⟨u, rfl, A', c', rfl, hi5, hb5⟩
  have HBw5 := Lib.hid (HBw4.out.trans (hb5.mono HBw4.out.size))
  have HF5 := Lib.hid (HFT.out w5 A' c' hi5)
  have HD5 := Lib.hid (HD4.out.below hb5)
  clear x0 x1 x2 x3 x4 x5 x6 x7 x8 x9 x10 x11 x12
  clear hb5 hi5
  go_wp2_with fail
  refine HF5.out.mono ?_
  rintro e w6 ⟨rfl, hb6⟩
  have HBw6 := Lib.hid (HBw5.out.trans (hb6.mono HBw5.out.size))
  have HD6 := Lib.hid (HD5.out.below hb6)
  clear hb6
  by_cases hbig : 1048576 < T.size
  · have d1 : decide ((1048576 : Int) < (T.size : Int)) = true := by simp; omega
    have d2 : decide (1048576 < T.size) = true := by simp; omega
    go_wp2_with fail
    go_ret
    exact ⟨rfl, HB.out.trans (HBw6.out.mono HB.out.size)⟩
  · have d1 : decide ((1048576 : Int) < (T.size : Int)) = false := by simp; omega
    have d2 : decide (1048576 < T.size) = false := by simp; omega
    have HDE : Hid (Calls Tryz.prog 16 #[.string T] w6 fun e w' => ∃ v, e = .returned (.tuple #[.agg (manV m v), .int .i64 0]) ∧ w'.ownsRow w6.heap.size 116 5 v m.blocks.length (m.blocks.flatMap encInf) ∧ Below w6.heap.size w6 w') := Lib.hid (by
      have h := decode_calls T (by omega) w6 (HE.out.low HC.out HBw6.out).nib
      rw [HDC.out] at h
      exact h)
    go_wp2_with fail
    refine HDE.out.mono ?_
    rintro e w7 ⟨v7, rfl, hown7, hb7⟩
    obtain ⟨A7, c7, rfl, _, _, _⟩ := Infs.of_own (l := m.blocks) hown7 rfl
    have HV7 : Hid (∀ g, (Value.slice A7 m.blocks.length c7).ownBlock = some g → R3 g = 0) := Lib.hid fun g hg => HD6.out.new (World.ownsRow.lt hown7 g hg).1
    have HOWN7 := Lib.hid hown7
    have HBw7 := Lib.hid (HBw6.out.trans (hb7.mono HBw6.out.size))
    have HD7 := Lib.hid (HD6.out.below hb7)
    rw [HN.out]
    clear hown7 hb7 d1 d2
    unfold manV
    go_upto_region 11 with fail
    obtain ⟨g7, hg7⟩ : ∃ x, w7.heap.size = x := ⟨_, rfl⟩
    obtain ⟨w8, hw8⟩ : ∃ x, w7.alloc (.cells (manV m (.slice A7 n c7)) 25) = x := ⟨_, rfl⟩
    have hb8 : Below w7.heap.size w7 w8 := by rw [← hw8]; exact (Below.refl _ _).alloc (Nat.le_refl _) _
    have HK8 : Hid (Blk w8 g7 25 (manV m (.slice A7 n c7)) ∧ R3 g7 = 0) := Lib.hid ⟨by rw [← hw8, ← hg7]; exact Blk.new _ _ _, HD7.out.new (by omega)⟩
    have HOWN8 := Lib.hid (ownsRow.same HOWN7.out fun k hk => hb8.block k (World.ownsRow.lt HOWN7.out k hk).2)
    have HBw8 := Lib.hid (HBw7.out.trans (hb8.mono HBw7.out.size))
    have HD8 := Lib.hid (HD7.out.below hb8)
    have HCU : Hid (Calls Tryz.prog 17 #[.pointer (some ⟨p, 0, none⟩)] w8 fun e w' => ∃ v R', e = .returned (.tuple #[.agg (manV m v), .nilIface]) ∧ w'.ownsRow w8.heap.size 116 5 v m.blocks.length (m.blocks.flatMap encInf) ∧ Out R3 R' w8 w') := Lib.hid ((current_calls (encM m) (by have := HT.out.2.2; omega) w8 HD8.out (by have := HT.out.2.2; omega) HC.out (HE.out.low HC.out HBw8.out) HALL.out).mono fun e w' h => by
      unfold CurOut at h
      rw [HDC2.out] at h
      obtain ⟨v, u, R', h1, h2, _, h3, _, h4⟩ := h
      obtain rfl : u = .nilIface := h3
      exact ⟨v, R', h1, h2, h4⟩)
    have hw9 := hw8
    unfold manV at hw9
    rw [hw9, hg7]
    clear hw8 hw9 hg7 hb8
    go_wp2_with fail
    refine HCU.out.mono ?_
    rintro e w9 ⟨v9, R9, rfl, hown9, ho9⟩
    obtain ⟨A9, c9, rfl, _, _, _⟩ := Infs.of_own (l := m.blocks) hown9 rfl
    have HZ3 : Hid (∀ k, k < W.heap.size → R3 k = 0) := Lib.hid fun k hk => HO3.out.old k (by have := HBw2.out.size; omega) (HZ.out k hk)
    have HBw9 := Lib.hid (HBw8.out.trans (ho9.below HBw8.out.size HZ3.out))
    have HK9 : Hid (Blk w9 g7 25 (manV m (.slice A7 n c7))) := Lib.hid (ho9.blk HK8.out.1 HK8.out.2)
    have HOWN9 := Lib.hid (ownsRow.same HOWN8.out fun k hk => ho9.block k (World.ownsRow.lt HOWN8.out k hk).2 (HV7.out k hk))
    have HOWNB := Lib.hid hown9
    rw [HN.out]
    clear hown9 ho9
    unfold manV
    go_upto_region 12 with fail
    obtain ⟨g9, hg9⟩ : ∃ x, w9.heap.size = x := ⟨_, rfl⟩
    obtain ⟨w10, hw10⟩ : ∃ x, w9.alloc (.cells (manV m (.slice A9 n c9)) 25) = x := ⟨_, rfl⟩
    have hb10 : Below w9.heap.size w9 w10 := by rw [← hw10]; exact (Below.refl _ _).alloc (Nat.le_refl _) _
    have HK10 : Hid (Blk w10 g7 25 (manV m (.slice A7 n c7)) ∧ Blk w10 g9 25 (manV m (.slice A9 n c9))) := Lib.hid ⟨HK9.out.below hb10 HK9.out.lt, by rw [← hw10, ← hg9]; exact Blk.new _ _ _⟩
    have HBw10 := Lib.hid (HBw9.out.trans (hb10.mono HBw9.out.size))
    have HI7 : Hid (Infs w10 A7 n m.blocks) := Lib.hid (by
      have h0 := ownsRow.same HOWN9.out fun k hk => hb10.block k (World.ownsRow.lt HOWN9.out k hk).2
      obtain ⟨A'', c'', e1, h1, _, _⟩ := Infs.of_own (l := m.blocks) h0 rfl
      injection e1 with e1 e2 e3
      subst e1
      rw [← HN.out]
      exact h1)
    have HI9 : Hid (Infs w10 A9 n m.blocks) := Lib.hid (by
      have h0 := ownsRow.same HOWNB.out fun k hk => hb10.block k (World.ownsRow.lt HOWNB.out k hk).2
      obtain ⟨A'', c'', e1, h1, _, _⟩ := Infs.of_own (l := m.blocks) h0 rfl
      injection e1 with e1 e2 e3
      subst e1
      rw [← HN.out]
      exact h1)
    have hw11 := hw10
    unfold manV at hw11
    rw [hw11, hg9]
    clear hw10 hw11 hg9 hb10
    have HALn : Hid (∀ (w' : World) A1 c1, Below W.heap.size W w' → Infs w' A1 n m.blocks → Calls Tryz.prog 18 #[.agg (manV m (.slice A1 n c1)), .agg (manV m (.slice A n c))] w' fun e w2 => e = .returned (.bool true) ∧ Below w'.heap.size w' w2) := Lib.hid fun w' A1 c1 h h1 => HAL.out w' A1 c1 h h1
    have HA1 := Lib.hid (HALn.out w10 A7 c7 HBw10.out HI7.out)
    have hbx := HBw10.out
    have x0 : w10.cell? ⟨b, 0, none⟩ = some (.int .i64 m.w0) := (HK.out.below hbx HK.out.lt).cell 0
    have x1 : w10.cell? ⟨b, 1, none⟩ = some (.int .i64 m.w1) := (HK.out.below hbx HK.out.lt).cell 1
    have x2 : w10.cell? ⟨b, 2, none⟩ = some (.int .i64 m.w2) := (HK.out.below hbx HK.out.lt).cell 2
    have x3 : w10.cell? ⟨b, 3, none⟩ = some (.int .i64 m.next) := (HK.out.below hbx HK.out.lt).cell 3
    have x4 : w10.cell? ⟨b, 4, none⟩ = some (.int .i64 m.log) := (HK.out.below hbx HK.out.lt).cell 4
    have x5 : w10.cell? ⟨b, 5, none⟩ = some ((.slice A n c)) := (HK.out.below hbx HK.out.lt).cell 5
    have x6 : w10.cell? ⟨b, 6, none⟩ = some (.int .i64 m.cut) := (HK.out.below hbx HK.out.lt).cell 6
    have x7 : w10.cell? ⟨b, 7, none⟩ = some (.int .i64 m.r0) := (HK.out.below hbx HK.out.lt).cell 7
    have x8 : w10.cell? ⟨b, 8, none⟩ = some (.int .i64 m.r1) := (HK.out.below hbx HK.out.lt).cell 8
    have x9 : w10.cell? ⟨b, 9, none⟩ = some (.int .i64 m.r2) := (HK.out.below hbx HK.out.lt).cell 9
    have x10 : w10.cell? ⟨b, 10, none⟩ = some (.int .i64 m.l0) := (HK.out.below hbx HK.out.lt).cell 10
    have x11 : w10.cell? ⟨b, 11, none⟩ = some (.int .i64 m.l1) := (HK.out.below hbx HK.out.lt).cell 11
    have x12 : w10.cell? ⟨b, 12, none⟩ = some (.int .i64 m.l2) := (HK.out.below hbx HK.out.lt).cell 12
    have y0 : w10.cell? ⟨g7, 0, none⟩ = some (.int .i64 m.w0) := HK10.out.1.cell 0
    have y1 : w10.cell? ⟨g7, 1, none⟩ = some (.int .i64 m.w1) := HK10.out.1.cell 1
    have y2 : w10.cell? ⟨g7, 2, none⟩ = some (.int .i64 m.w2) := HK10.out.1.cell 2
    have y3 : w10.cell? ⟨g7, 3, none⟩ = some (.int .i64 m.next) := HK10.out.1.cell 3
    have y4 : w10.cell? ⟨g7, 4, none⟩ = some (.int .i64 m.log) := HK10.out.1.cell 4
    have y5 : w10.cell? ⟨g7, 5, none⟩ = some ((.slice A7 n c7)) := HK10.out.1.cell 5
    have y6 : w10.cell? ⟨g7, 6, none⟩ = some (.int .i64 m.cut) := HK10.out.1.cell 6
    have y7 : w10.cell? ⟨g7, 7, none⟩ = some (.int .i64 m.r0) := HK10.out.1.cell 7
    have y8 : w10.cell? ⟨g7, 8, none⟩ = some (.int .i64 m.r1) := HK10.out.1.cell 8
    have y9 : w10.cell? ⟨g7, 9, none⟩ = some (.int .i64 m.r2) := HK10.out.1.cell 9
    have y10 : w10.cell? ⟨g7, 10, none⟩ = some (.int .i64 m.l0) := HK10.out.1.cell 10
    have y11 : w10.cell? ⟨g7, 11, none⟩ = some (.int .i64 m.l1) := HK10.out.1.cell 11
    have y12 : w10.cell? ⟨g7, 12, none⟩ = some (.int .i64 m.l2) := HK10.out.1.cell 12
    go_wp2_with fail
    refine HA1.out.mono ?_
    rintro e w11 ⟨rfl, hb11⟩
    have HBw11 := Lib.hid (HBw10.out.trans (hb11.mono HBw10.out.size))
    have HA2 := Lib.hid (HALn.out w11 A9 c9 HBw11.out (HI9.out.below hb11))
    have HK11 : Hid (Blk w11 g9 25 (manV m (.slice A9 n c9))) := Lib.hid (HK10.out.2.below hb11 HK10.out.2.lt)
    clear x0 x1 x2 x3 x4 x5 x6 x7 x8 x9 x10 x11 x12
    clear y0 y1 y2 y3 y4 y5 y6 y7 y8 y9 y10 y11 y12
    clear hb11
    have hbx := HBw11.out
    have x0 : w11.cell? ⟨b, 0, none⟩ = some (.int .i64 m.w0) := (HK.out.below hbx HK.out.lt).cell 0
    have x1 : w11.cell? ⟨b, 1, none⟩ = some (.int .i64 m.w1) := (HK.out.below hbx HK.out.lt).cell 1
    have x2 : w11.cell? ⟨b, 2, none⟩ = some (.int .i64 m.w2) := (HK.out.below hbx HK.out.lt).cell 2
    have x3 : w11.cell? ⟨b, 3, none⟩ = some (.int .i64 m.next) := (HK.out.below hbx HK.out.lt).cell 3
    have x4 : w11.cell? ⟨b, 4, none⟩ = some (.int .i64 m.log) := (HK.out.below hbx HK.out.lt).cell 4
    have x5 : w11.cell? ⟨b, 5, none⟩ = some ((.slice A n c)) := (HK.out.below hbx HK.out.lt).cell 5
    have x6 : w11.cell? ⟨b, 6, none⟩ = some (.int .i64 m.cut) := (HK.out.below hbx HK.out.lt).cell 6
    have x7 : w11.cell? ⟨b, 7, none⟩ = some (.int .i64 m.r0) := (HK.out.below hbx HK.out.lt).cell 7
    have x8 : w11.cell? ⟨b, 8, none⟩ = some (.int .i64 m.r1) := (HK.out.below hbx HK.out.lt).cell 8
    have x9 : w11.cell? ⟨b, 9, none⟩ = some (.int .i64 m.r2) := (HK.out.below hbx HK.out.lt).cell 9
    have x10 : w11.cell? ⟨b, 10, none⟩ = some (.int .i64 m.l0) := (HK.out.below hbx HK.out.lt).cell 10
    have x11 : w11.cell? ⟨b, 11, none⟩ = some (.int .i64 m.l1) := (HK.out.below hbx HK.out.lt).cell 11
    have x12 : w11.cell? ⟨b, 12, none⟩ = some (.int .i64 m.l2) := (HK.out.below hbx HK.out.lt).cell 12
    have y0 : w11.cell? ⟨g9, 0, none⟩ = some (.int .i64 m.w0) := HK11.out.cell 0
    have y1 : w11.cell? ⟨g9, 1, none⟩ = some (.int .i64 m.w1) := HK11.out.cell 1
    have y2 : w11.cell? ⟨g9, 2, none⟩ = some (.int .i64 m.w2) := HK11.out.cell 2
    have y3 : w11.cell? ⟨g9, 3, none⟩ = some (.int .i64 m.next) := HK11.out.cell 3
    have y4 : w11.cell? ⟨g9, 4, none⟩ = some (.int .i64 m.log) := HK11.out.cell 4
    have y5 : w11.cell? ⟨g9, 5, none⟩ = some ((.slice A9 n c9)) := HK11.out.cell 5
    have y6 : w11.cell? ⟨g9, 6, none⟩ = some (.int .i64 m.cut) := HK11.out.cell 6
    have y7 : w11.cell? ⟨g9, 7, none⟩ = some (.int .i64 m.r0) := HK11.out.cell 7
    have y8 : w11.cell? ⟨g9, 8, none⟩ = some (.int .i64 m.r1) := HK11.out.cell 8
    have y9 : w11.cell? ⟨g9, 9, none⟩ = some (.int .i64 m.r2) := HK11.out.cell 9
    have y10 : w11.cell? ⟨g9, 10, none⟩ = some (.int .i64 m.l0) := HK11.out.cell 10
    have y11 : w11.cell? ⟨g9, 11, none⟩ = some (.int .i64 m.l1) := HK11.out.cell 11
    have y12 : w11.cell? ⟨g9, 12, none⟩ = some (.int .i64 m.l2) := HK11.out.cell 12
    go_wp2_with fail
    refine HA2.out.mono ?_
    rintro e w12 ⟨rfl, hb12⟩
    have HBw12 := Lib.hid (HBw11.out.trans (hb12.mono HBw11.out.size))
    clear hb12
    go_wp2_with fail
    go_ret
    exact ⟨rfl, HB.out.trans (HBw12.out.mono HB.out.size)⟩
end
end Go.Proofs.YtfpgbhimgfdddaaGreatDoor
