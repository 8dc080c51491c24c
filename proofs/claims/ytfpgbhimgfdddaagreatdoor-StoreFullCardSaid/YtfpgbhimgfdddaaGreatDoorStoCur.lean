/- The walks of layer 20 (store): Current (printed by gen_stocur.py). -/
import Derived.Test.YtfpgbhimgfdddaaGreatDoorStoCurA
import Derived.Test.YtfpgbhimgfdddaaGreatDoorStoWalksJ
set_option linter.unusedVariables false
set_option linter.unusedSimpArgs false
namespace Go.Proofs.YtfpgbhimgfdddaaGreatDoor
open Go.RowKit Go.Shelf Go.Sort
attribute [local go_sem ↓] Go.wp_at_zero Go.wp_at_succ
attribute [local go_sem] Later.cell Later.frozen

section
variable {B0 M p : Nat} {a : Nat → Addr} {R R' : Nat → Nat} {d : Ds} {w w' : World}
/-- What Current says of the text's error. -/
def CurErr (w : World) (B : Nat) : Nat → Value → Prop
  | 0, u => u = .nilIface
  | k + 1, u => ∃ q, u = .iface 51 (.pointer (some ⟨q, 0, none⟩)) ∧ Blk w q 54 #[.string ⟨#[109, 97, 110, 105, 102, 101, 115, 116]⟩, .int .i64 ((k + 1 : Nat) : Int)] ∧ B ≤ q
def CurOut (B0 M p : Nat) (a : Nat → Addr) (R : Nat → Nat) (d : Ds) (s : Txt) (w : World) (e : Ending) (w' : World) : Prop :=
  ∃ v u R', e = .returned (.tuple #[.agg (manV (decM s).1 v), u]) ∧ w'.ownsRow w.heap.size 116 5 v (decM s).1.blocks.length ((decM s).1.blocks.flatMap encInf) ∧ (∀ g, v.ownBlock = some g → R' g = 0) ∧
    CurErr w' w.heap.size (decM s).2 u ∧ Dk B0 M w' R' p d ∧ Out R R' w w'
set_option maxRecDepth 100000 in
set_option maxHeartbeats 8000000 in
theorem current_calls (s : Txt) (hs : s.length ≤ 1073741824) (w : World) (hD : Dk B0 M w R p d) (hM : M ≤ 536870912) (hC : SCon B0 a) (hE : SEnv B0 a w) (hall : allD d sManifest = (s, 0)) :
    Calls Tryz.prog 17 #[.pointer (some ⟨p, 0, none⟩)] w (CurOut B0 M p a R d s w) := by
  obtain ⟨r2, hr2⟩ : ∃ b, w.heap.size = b := ⟨_, rfl⟩
  obtain ⟨W, hW⟩ : ∃ W, w.alloc (.cells (manV .zero (.slice none 0 0)) 25) = W := ⟨_, rfl⟩
  have hbl : Below w.heap.size w W := by rw [← hW]; exact (Below.refl _ _).alloc (Nat.le_refl _) _
  have HK : Hid (Blk W r2 25 (manV .zero (.slice none 0 0)) ∧ R r2 = 0) := Lib.hid (by rw [← hW, ← hr2]; exact ⟨Blk.new _ _ _, hD.new (Nat.le_refl _)⟩)
  have hDW := hD.below hbl
  have hEW := hE.low hC hbl
  have HA := Lib.hid (hDW.all hM hEW.hb hEW.e.f ⟨#[109, 97, 110, 105, 102, 101, 115, 116]⟩ (by decide))
  have HALL : Hid (allD d (⟨#[109, 97, 110, 105, 102, 101, 115, 116]⟩ : ByteArray).data.toList = (s, 0)) := Lib.hid hall
  rw [HALL.out] at HA
  obtain ⟨T, hT⟩ : ∃ T : ByteArray, (⟨s.toArray⟩ : ByteArray) = T := ⟨_, rfl⟩
  have hTl : T.data.toList = s := by rw [← hT]
  have hTz : T.size = s.length := by rw [← hT]; show s.toArray.size = _; simp
  have HT := Lib.hid (⟨hTl, hTz, hT⟩ : _ ∧ _ ∧ _)
  have HW := Lib.hid hW
  have HG := Lib.hid hr2
  have HEW := Lib.hid hEW
  have HDW := Lib.hid hDW
  have HO : Hid (Out R R w W) := Lib.hid (Out.of_below hbl)
  have HC := Lib.hid hC
  clear hE hC hbl hW hT hTl hTz hD hDW hEW hall hr2
  go_enter Tryz.func17, Tryz.ntmps17
  go_upto_region 1 with fail
  have hW2 := HW.out
  have hg2 := HG.out
  unfold manV at hW2
  simp only [Man.zero] at hW2
  rw [hW2, hg2]
  clear hW2 hg2
  go_wp2_with fail
  refine HA.out.mono ?_
  rintro e w1 ⟨u, v1, R1, rfl, hu, hv1, hd1, ho1⟩
  obtain rfl : v1 = .nilIface := hv1
  have hTT : txtV s = .string T := by rw [← HT.out.2.2]; rfl
  rw [hTT] at hu
  obtain rfl := hu
  clear hTT
  have HK1 : Hid (Blk w1 r2 25 (manV .zero (.slice none 0 0)) ∧ R1 r2 = 0) := Lib.hid ⟨ho1.blk HK.out.1 HK.out.2, ho1.old _ HK.out.1.lt HK.out.2⟩
  have HD1 := Lib.hid hd1
  have HE1 := Lib.hid (HEW.out.out HC.out HDW.out ho1)
  have HO1 := Lib.hid (HO.out.trans ho1)
  have HDEC := Lib.hid (decode_calls T (by have := HT.out.2.1; omega) w1 HE1.out.nib)
  rw [HT.out.1] at HDEC
  clear hd1 ho1
  go_wp2_with fail
  refine HDEC.out.mono ?_
  rintro e w2 ⟨v, rfl, hown, hb2⟩
  obtain ⟨AC, cc, rfl, _, _, _⟩ := Infs.of_own (l := (decM s).1.blocks) hown rfl
  have HK2 : Hid (Blk w2 r2 25 (manV .zero (.slice none 0 0))) := Lib.hid (HK1.out.1.below hb2 HK1.out.1.lt)
  have HOWN := Lib.hid hown
  have HD2 := Lib.hid (HD1.out.below hb2)
  have HO2 : Hid (Out R R1 w w2) := Lib.hid (HO1.out.trans (Out.of_below hb2))
  have HV : Hid (∀ g, (Value.slice AC (decM s).1.blocks.length cc).ownBlock = some g → R1 g = 0 ∧ w1.heap.size ≤ g) := Lib.hid fun g hg => ⟨HD1.out.new (World.ownsRow.lt hown g hg).1, (World.ownsRow.lt hown g hg).1⟩
  have HS2 := Lib.hid hb2.size
  obtain ⟨m, hm⟩ : ∃ m, (decM s).1 = m := ⟨_, rfl⟩
  obtain ⟨k, hk⟩ : ∃ k, (decM s).2 = k := ⟨_, rfl⟩
  have HMM := Lib.hid (⟨hm, hk⟩ : _ ∧ _)
  have HZM : Hid (k ≠ 0 → m = .zero) := Lib.hid fun h0 => by rw [← hm]; exact decM_zero (by rw [hk]; exact h0)
  rw [hm] at HOWN HV
  rw [hm, hk]
  obtain ⟨nb, hnb⟩ : ∃ n, m.blocks.length = n := ⟨_, rfl⟩
  have HNB := Lib.hid hnb
  rw [hnb] at HOWN HV ⊢
  clear hown hb2 hm hk hnb
  unfold manV
  go_upto_region 5 with fail
  obtain ⟨g6, hg6⟩ : ∃ g, w2.heap.size = g := ⟨_, rfl⟩
  obtain ⟨w3, hw3⟩ : ∃ X, w2.alloc (.cells (manV m (.slice AC nb cc)) 25) = X := ⟨_, rfl⟩
  have hb3 : Below w2.heap.size w2 w3 := by rw [← hw3]; exact (Below.refl _ _).alloc (Nat.le_refl _) _
  have HK3 : Hid (Blk w3 r2 25 (manV .zero (.slice none 0 0)) ∧ Blk w3 g6 25 (manV m (.slice AC nb cc))) := Lib.hid ⟨HK2.out.below hb3 HK2.out.lt, by rw [← hw3, ← hg6]; exact Blk.new _ _ _⟩
  have HOWN3 := Lib.hid (ownsRow.same HOWN.out fun k hk => hb3.block k (World.ownsRow.lt HOWN.out k hk).2)
  have HD3 := Lib.hid (HD2.out.below hb3)
  have HO3 : Hid (Out R R1 w w3) := Lib.hid (HO2.out.trans (Out.of_below hb3))
  have HS3 : Hid (w1.heap.size ≤ w3.heap.size) := Lib.hid (Nat.le_trans HS2.out hb3.size)
  have hw4 := hw3
  unfold manV at hw4
  rw [hw4, hg6]
  clear hw3 hw4 hg6 hb3
  have y0 : w3.cell? ⟨r2, 0, none⟩ = some (.int .i64 0) := HK3.out.1.cell 0
  have zy0 : w3.frozen? ⟨r2, 0, none⟩ = false := HK3.out.1.frozen 0
  have y1 : w3.cell? ⟨r2, 1, none⟩ = some (.int .i64 0) := HK3.out.1.cell 1
  have zy1 : w3.frozen? ⟨r2, 1, none⟩ = false := HK3.out.1.frozen 1
  have y2 : w3.cell? ⟨r2, 2, none⟩ = some (.int .i64 0) := HK3.out.1.cell 2
  have zy2 : w3.frozen? ⟨r2, 2, none⟩ = false := HK3.out.1.frozen 2
  have y3 : w3.cell? ⟨r2, 3, none⟩ = some (.int .i64 0) := HK3.out.1.cell 3
  have zy3 : w3.frozen? ⟨r2, 3, none⟩ = false := HK3.out.1.frozen 3
  have y4 : w3.cell? ⟨r2, 4, none⟩ = some (.int .i64 0) := HK3.out.1.cell 4
  have zy4 : w3.frozen? ⟨r2, 4, none⟩ = false := HK3.out.1.frozen 4
  have y5 : w3.cell? ⟨r2, 5, none⟩ = some (.slice none 0 0) := HK3.out.1.cell 5
  have zy5 : w3.frozen? ⟨r2, 5, none⟩ = false := HK3.out.1.frozen 5
  have y6 : w3.cell? ⟨r2, 6, none⟩ = some (.int .i64 0) := HK3.out.1.cell 6
  have zy6 : w3.frozen? ⟨r2, 6, none⟩ = false := HK3.out.1.frozen 6
  have y7 : w3.cell? ⟨r2, 7, none⟩ = some (.int .i64 0) := HK3.out.1.cell 7
  have zy7 : w3.frozen? ⟨r2, 7, none⟩ = false := HK3.out.1.frozen 7
  have y8 : w3.cell? ⟨r2, 8, none⟩ = some (.int .i64 0) := HK3.out.1.cell 8
  have zy8 : w3.frozen? ⟨r2, 8, none⟩ = false := HK3.out.1.frozen 8
  have y9 : w3.cell? ⟨r2, 9, none⟩ = some (.int .i64 0) := HK3.out.1.cell 9
  have zy9 : w3.frozen? ⟨r2, 9, none⟩ = false := HK3.out.1.frozen 9
  have y10 : w3.cell? ⟨r2, 10, none⟩ = some (.int .i64 0) := HK3.out.1.cell 10
  have zy10 : w3.frozen? ⟨r2, 10, none⟩ = false := HK3.out.1.frozen 10
  have y11 : w3.cell? ⟨r2, 11, none⟩ = some (.int .i64 0) := HK3.out.1.cell 11
  have zy11 : w3.frozen? ⟨r2, 11, none⟩ = false := HK3.out.1.frozen 11
  have y12 : w3.cell? ⟨r2, 12, none⟩ = some (.int .i64 0) := HK3.out.1.cell 12
  have zy12 : w3.frozen? ⟨r2, 12, none⟩ = false := HK3.out.1.frozen 12
  by_cases hk0 : k = 0
  · subst hk0
    have x0 : w3.cell? ⟨g6, 0, none⟩ = some (.int .i64 m.w0) := HK3.out.2.cell 0
    have x1 : w3.cell? ⟨g6, 1, none⟩ = some (.int .i64 m.w1) := HK3.out.2.cell 1
    have x2 : w3.cell? ⟨g6, 2, none⟩ = some (.int .i64 m.w2) := HK3.out.2.cell 2
    have x3 : w3.cell? ⟨g6, 3, none⟩ = some (.int .i64 m.next) := HK3.out.2.cell 3
    have x4 : w3.cell? ⟨g6, 4, none⟩ = some (.int .i64 m.log) := HK3.out.2.cell 4
    have x5 : w3.cell? ⟨g6, 5, none⟩ = some ((.slice AC nb cc)) := HK3.out.2.cell 5
    have x6 : w3.cell? ⟨g6, 6, none⟩ = some (.int .i64 m.cut) := HK3.out.2.cell 6
    have x7 : w3.cell? ⟨g6, 7, none⟩ = some (.int .i64 m.r0) := HK3.out.2.cell 7
    have x8 : w3.cell? ⟨g6, 8, none⟩ = some (.int .i64 m.r1) := HK3.out.2.cell 8
    have x9 : w3.cell? ⟨g6, 9, none⟩ = some (.int .i64 m.r2) := HK3.out.2.cell 9
    have x10 : w3.cell? ⟨g6, 10, none⟩ = some (.int .i64 m.l0) := HK3.out.2.cell 10
    have x11 : w3.cell? ⟨g6, 11, none⟩ = some (.int .i64 m.l1) := HK3.out.2.cell 11
    have x12 : w3.cell? ⟨g6, 12, none⟩ = some (.int .i64 m.l2) := HK3.out.2.cell 12
    go_wp2_with fail
    have hf := (fill13 (m' := m) (v' := .slice AC nb cc) HK3.out.1).1
    have ho := fillOnly w3 r2 (.int .i64 m.w0) (.int .i64 m.w1) (.int .i64 m.w2) (.int .i64 m.next) (.int .i64 m.log) ((.slice AC nb cc)) (.int .i64 m.cut) (.int .i64 m.r0) (.int .i64 m.r1) (.int .i64 m.r2) (.int .i64 m.l0) (.int .i64 m.l1) (.int .i64 m.l2)
    obtain ⟨wf, hwf⟩ : ∃ X, (((((((((((((w3.setCell ⟨r2, 0, none⟩ (.int .i64 m.w0)).setCell ⟨r2, 1, none⟩ (.int .i64 m.w1)).setCell ⟨r2, 2, none⟩ (.int .i64 m.w2)).setCell ⟨r2, 3, none⟩ (.int .i64 m.next)).setCell ⟨r2, 4, none⟩ (.int .i64 m.log)).setCell ⟨r2, 5, none⟩ ((.slice AC nb cc))).setCell ⟨r2, 6, none⟩ (.int .i64 m.cut)).setCell ⟨r2, 7, none⟩ (.int .i64 m.r0)).setCell ⟨r2, 8, none⟩ (.int .i64 m.r1)).setCell ⟨r2, 9, none⟩ (.int .i64 m.r2)).setCell ⟨r2, 10, none⟩ (.int .i64 m.l0)).setCell ⟨r2, 11, none⟩ (.int .i64 m.l1)).setCell ⟨r2, 12, none⟩ (.int .i64 m.l2)) = X := ⟨_, rfl⟩
    rw [hwf] at hf ho ⊢
    refine bodyPost_ret (results_cell1 rfl _ wf ⟨r2, 0, none⟩ (.agg (manV m (.slice AC nb cc))) rfl (run_loadVar_row wf r2 25 25 _ (0, 0) _ hf Tryz.underlying25 rfl (by kernel_rfl))) rfl ?_
    have hr2 : w.heap.size = r2 := HG.out
    have hs1 : r2 < w1.heap.size := HK1.out.1.lt
    refine ⟨.slice AC nb cc, .nilIface, R1, ?_, ?_, fun g hg => (HV.out g hg).1, ?_, HD3.out.only ho HK1.out.2, HO3.out.only ho (by omega)⟩
    · rw [HMM.out.1]
      rfl
    · rw [HMM.out.1, HNB.out]
      exact (ho.own HOWN3.out hs1).mono (by omega)
    · rw [HMM.out.2]
      rfl
  · have hm0 : m = .zero := HZM.out hk0
    subst hm0
    obtain ⟨kz, hkz⟩ : ∃ z : Int, (k : Int) = z := ⟨_, rfl⟩
    have dk1 : kz ≠ 0 := by omega
    have dk0 : decide (kz = 0) = false := by simpa using dk1
    have dk2 : (kz == 0) = false := by simpa using dk1
    have dk3 : (kz != 0) = true := by simpa using dk1
    rw [hkz]
    have HK0 := Lib.hid (⟨hk0, hkz⟩ : _ ∧ _)
    clear hkz
    obtain ⟨w4, hw4⟩ : ∃ X, w3.alloc (.cells #[.string ⟨#[109, 97, 110, 105, 102, 101, 115, 116]⟩, .int .i64 kz] 54) = X := ⟨_, rfl⟩
    have HB4 : Hid (Below w3.heap.size w3 w4) := Lib.hid (by rw [← hw4]; exact (Below.refl _ _).alloc (Nat.le_refl _) _)
    have HK4 : Hid (Blk w4 r2 25 (manV .zero (.slice none 0 0))) := Lib.hid (HK3.out.1.below HB4.out HK3.out.1.lt)
    clear y0 zy0 y1 zy1 y2 zy2 y3 zy3 y4 zy4 y5 zy5 y6 zy6 y7 zy7 y8 zy8 y9 zy9 y10 zy10 y11 zy11 y12 zy12
    clear hk0
    have y0 : w4.cell? ⟨r2, 0, none⟩ = some (.int .i64 0) := HK4.out.cell 0
    have zy0 : w4.frozen? ⟨r2, 0, none⟩ = false := HK4.out.frozen 0
    have y1 : w4.cell? ⟨r2, 1, none⟩ = some (.int .i64 0) := HK4.out.cell 1
    have zy1 : w4.frozen? ⟨r2, 1, none⟩ = false := HK4.out.frozen 1
    have y2 : w4.cell? ⟨r2, 2, none⟩ = some (.int .i64 0) := HK4.out.cell 2
    have zy2 : w4.frozen? ⟨r2, 2, none⟩ = false := HK4.out.frozen 2
    have y3 : w4.cell? ⟨r2, 3, none⟩ = some (.int .i64 0) := HK4.out.cell 3
    have zy3 : w4.frozen? ⟨r2, 3, none⟩ = false := HK4.out.frozen 3
    have y4 : w4.cell? ⟨r2, 4, none⟩ = some (.int .i64 0) := HK4.out.cell 4
    have zy4 : w4.frozen? ⟨r2, 4, none⟩ = false := HK4.out.frozen 4
    have y5 : w4.cell? ⟨r2, 5, none⟩ = some (.slice none 0 0) := HK4.out.cell 5
    have zy5 : w4.frozen? ⟨r2, 5, none⟩ = false := HK4.out.frozen 5
    have y6 : w4.cell? ⟨r2, 6, none⟩ = some (.int .i64 0) := HK4.out.cell 6
    have zy6 : w4.frozen? ⟨r2, 6, none⟩ = false := HK4.out.frozen 6
    have y7 : w4.cell? ⟨r2, 7, none⟩ = some (.int .i64 0) := HK4.out.cell 7
    have zy7 : w4.frozen? ⟨r2, 7, none⟩ = false := HK4.out.frozen 7
    have y8 : w4.cell? ⟨r2, 8, none⟩ = some (.int .i64 0) := HK4.out.cell 8
    have zy8 : w4.frozen? ⟨r2, 8, none⟩ = false := HK4.out.frozen 8
    have y9 : w4.cell? ⟨r2, 9, none⟩ = some (.int .i64 0) := HK4.out.cell 9
    have zy9 : w4.frozen? ⟨r2, 9, none⟩ = false := HK4.out.frozen 9
    have y10 : w4.cell? ⟨r2, 10, none⟩ = some (.int .i64 0) := HK4.out.cell 10
    have zy10 : w4.frozen? ⟨r2, 10, none⟩ = false := HK4.out.frozen 10
    have y11 : w4.cell? ⟨r2, 11, none⟩ = some (.int .i64 0) := HK4.out.cell 11
    have zy11 : w4.frozen? ⟨r2, 11, none⟩ = false := HK4.out.frozen 11
    have y12 : w4.cell? ⟨r2, 12, none⟩ = some (.int .i64 0) := HK4.out.cell 12
    have zy12 : w4.frozen? ⟨r2, 12, none⟩ = false := HK4.out.frozen 12
    go_wp2_with fail
    have hb4 := HB4.out
    have hq : Blk w4 w3.heap.size 54 #[.string ⟨#[109, 97, 110, 105, 102, 101, 115, 116]⟩, .int .i64 kz] := by rw [← hw4]; exact Blk.new _ _ _
    have hf := (fill13 (m' := .zero) (v' := .slice none 0 0) HK4.out).1
    have ho := fillOnly w4 r2 (.int .i64 0) (.int .i64 0) (.int .i64 0) (.int .i64 0) (.int .i64 0) (.slice none 0 0) (.int .i64 0) (.int .i64 0) (.int .i64 0) (.int .i64 0) (.int .i64 0) (.int .i64 0) (.int .i64 0)
    simp only [Man.zero] at hf
    obtain ⟨wf, hwf⟩ : ∃ X, (((((((((((((w4.setCell ⟨r2, 0, none⟩ (.int .i64 0)).setCell ⟨r2, 1, none⟩ (.int .i64 0)).setCell ⟨r2, 2, none⟩ (.int .i64 0)).setCell ⟨r2, 3, none⟩ (.int .i64 0)).setCell ⟨r2, 4, none⟩ (.int .i64 0)).setCell ⟨r2, 5, none⟩ (.slice none 0 0)).setCell ⟨r2, 6, none⟩ (.int .i64 0)).setCell ⟨r2, 7, none⟩ (.int .i64 0)).setCell ⟨r2, 8, none⟩ (.int .i64 0)).setCell ⟨r2, 9, none⟩ (.int .i64 0)).setCell ⟨r2, 10, none⟩ (.int .i64 0)).setCell ⟨r2, 11, none⟩ (.int .i64 0)).setCell ⟨r2, 12, none⟩ (.int .i64 0)) = X := ⟨_, rfl⟩
    rw [hwf] at hf ho ⊢
    refine bodyPost_ret (results_cell1 rfl _ wf ⟨r2, 0, none⟩ (.agg (manV .zero (.slice none 0 0))) rfl (run_loadVar_row wf r2 25 25 _ (0, 0) _ hf Tryz.underlying25 rfl (by kernel_rfl))) rfl ?_
    have hr2 : w.heap.size = r2 := HG.out
    have hs1 : r2 < w1.heap.size := HK1.out.1.lt
    have hs3 := HS3.out
    refine ⟨.slice none 0 0, .iface 51 (.pointer (some ⟨w3.heap.size, 0, none⟩)), R1, ?_, ?_, ?_, ?_, (HD3.out.below hb4).only ho HK1.out.2, (HO3.out.trans (Out.of_below hb4)).only ho (by omega)⟩
    · rw [HMM.out.1]
      rfl
    · rw [HMM.out.1]
      exact World.ownsRow_nil _ _ _ _
    · intro g hg
      cases hg
    · rw [HMM.out.2]
      obtain ⟨j, rfl⟩ : ∃ j, k = j + 1 := ⟨k - 1, by have := HK0.out.1; omega⟩
      rw [← HK0.out.2] at hq
      exact ⟨w3.heap.size, rfl, ho.blk hq (by omega), by omega⟩
end
end Go.Proofs.YtfpgbhimgfdddaaGreatDoor
