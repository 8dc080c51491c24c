/- Merged (what the claim wants of): StoCur, StoRef. -/
import Derived.Test.YtfpgbhimgfdddaaGreatDoorStk31
import Derived.Test.YtfpgbhimgfdddaaGreatDoorStk32
import Derived.Test.YtfpgbhimgfdddaaGreatDoorStk28
import Derived.Deep.AppendLies
set_option linter.unusedVariables false
set_option linter.unusedSimpArgs false
/- The walks of layer 20 (store): Current (printed by gen_stocur.py). -/
namespace Go.Proofs.YtfpgbhimgfdddaaGreatDoor
open Go.RowKit Go.Shelf Go.Sort
attribute [local go_sem ↓] Go.wp_at_zero Go.wp_at_succ
attribute [local go_sem] Later.cell Later.frozen

section
variable {B0 M p : Nat} {a : Nat → Addr} {R R' : Nat → Nat} {d : Ds} {w w' : World}
/-- What Current says of the text's error. -/
def CurErr (w : World) (B : Nat) : Nat → Value → Prop
  | 0, u => u = .nilIface
  | k + 1, u => ∃ q, u = .iface 51 (.pointer (some ⟨q, 0, none⟩)) ∧ Blk w q 54 #[.string ⟨#[109, 97, 110, 105, 102, 101, 115, 116]⟩, .int .i64 ((k + 1 : Nat) : Int)] ∧ B ≤ q
def CurOut (B0 M p : Nat) (a : Nat → Addr) (R : Nat → Nat) (d : Ds) (s : Txt) (w : World) (e : Ending) (w' : World) : Prop :=
  ∃ v u R', e = .returned (.tuple #[.agg (manV (decM s).1 v), u]) ∧ w'.ownsRow w.heap.size 116 5 v (decM s).1.blocks.length ((decM s).1.blocks.flatMap encInf) ∧ (∀ g, v.ownBlock = some g → R' g = 0) ∧
    CurErr w' w.heap.size (decM s).2 u ∧ Dk B0 M w' R' p d ∧ Out R R' w w'
set_option maxRecDepth 100000 in
set_option maxHeartbeats 8000000 in
theorem current_calls (s : Txt) (hs : s.length ≤ 1073741824) (w : World) (hD : Dk B0 M w R p d) (hM : M ≤ 536870912) (hC : SCon B0 a) (hE : SEnv B0 a w) (hall : allD d sManifest = (s, 0)) :
    Calls Tryz.prog 17 #[.pointer (some ⟨p, 0, none⟩)] w (CurOut B0 M p a R d s w) := by
  obtain ⟨r2, hr2⟩ : ∃ b, w.heap.size = b := ⟨_, rfl⟩
  obtain ⟨W, hW⟩ : ∃ W, w.alloc (.cells (manV .zero (.slice none 0 0)) 25) = W := ⟨_, rfl⟩
  have hbl : Below w.heap.size w W := by rw [← hW]; exact (Below.refl _ _).alloc (Nat.le_refl _) _
  have HK : Hid (Blk W r2 25 (manV .zero (.slice none 0 0)) ∧ R r2 = 0) := Lib.hid (by rw [← hW, ← hr2]; exact ⟨Blk.new _ _ _, hD.new (Nat.le_refl _)⟩)
  have hDW := hD.below hbl
  have hEW := hE.low hC hbl
  have HA := Lib.hid (hDW.all hM hEW.hb hEW.e.f ⟨#[109, 97, 110, 105, 102, 101, 115, 116]⟩ (by decide))
  have HALL : Hid (allD d (⟨#[109, 97, 110, 105, 102, 101, 115, 116]⟩ : ByteArray).data.toList = (s, 0)) := Lib.hid hall
  rw [HALL.out] at HA
  obtain ⟨T, hT⟩ : ∃ T : ByteArray, (⟨s.toArray⟩ : ByteArray) = T := ⟨_, rfl⟩
  have hTl : T.data.toList = s := by rw [← hT]
  have hTz : T.size = s.length := by rw [← hT]; show s.toArray.size = _; simp
  have HT := Lib.hid (⟨hTl, hTz, hT⟩ : _ ∧ _ ∧ _)
  have HW := Lib.hid hW
  have HG := Lib.hid hr2
  have HEW := Lib.hid hEW
  have HDW := Lib.hid hDW
  have HO : Hid (Out R R w W) := Lib.hid (Out.of_below hbl)
  have HC := Lib.hid hC
  clear hE hC hbl hW hT hTl hTz hD hDW hEW hall hr2
  go_enter Tryz.func17, Tryz.ntmps17
  go_upto_region 1 with fail
  have hW2 := HW.out
  have hg2 := HG.out
  unfold manV at hW2
  simp only [Man.zero] at hW2
  rw [hW2, hg2]
  clear hW2 hg2
  go_wp2_with fail
  refine HA.out.mono ?_
  rintro e w1 ⟨u, v1, R1, rfl, hu, hv1, hd1, ho1⟩
  obtain rfl : v1 = .nilIface := hv1
  have hTT : txtV s = .string T := by rw [← HT.out.2.2]; rfl
  rw [hTT] at hu
  obtain rfl := hu
  clear hTT
  have HK1 : Hid (Blk w1 r2 25 (manV .zero (.slice none 0 0)) ∧ R1 r2 = 0) := Lib.hid ⟨ho1.blk HK.out.1 HK.out.2, ho1.old _ HK.out.1.lt HK.out.2⟩
  have HD1 := Lib.hid hd1
  have HE1 := Lib.hid (HEW.out.out HC.out HDW.out ho1)
  have HO1 := Lib.hid (HO.out.trans ho1)
  have HDEC := Lib.hid (decode_calls T (by have := HT.out.2.1; omega) w1 HE1.out.nib)
  rw [HT.out.1] at HDEC
  clear hd1 ho1
  go_wp2_with fail
  refine HDEC.out.mono ?_
  rintro e w2 ⟨v, rfl, hown, hb2⟩
  obtain ⟨AC, cc, rfl, _, _, _⟩ := Infs.of_own (l := (decM s).1.blocks) hown rfl
  have HK2 : Hid (Blk w2 r2 25 (manV .zero (.slice none 0 0))) := Lib.hid (HK1.out.1.below hb2 HK1.out.1.lt)
  have HOWN := Lib.hid hown
  have HD2 := Lib.hid (HD1.out.below hb2)
  have HO2 : Hid (Out R R1 w w2) := Lib.hid (HO1.out.trans (Out.of_below hb2))
  have HV : Hid (∀ g, (Value.slice AC (decM s).1.blocks.length cc).ownBlock = some g → R1 g = 0 ∧ w1.heap.size ≤ g) := Lib.hid fun g hg => ⟨HD1.out.new (World.ownsRow.lt hown g hg).1, (World.ownsRow.lt hown g hg).1⟩
  have HS2 := Lib.hid hb2.size
  obtain ⟨m, hm⟩ : ∃ m, (decM s).1 = m := ⟨_, rfl⟩
  obtain ⟨k, hk⟩ : ∃ k, (decM s).2 = k := ⟨_, rfl⟩
  have HMM := Lib.hid (⟨hm, hk⟩ : _ ∧ _)
  have HZM : Hid (k ≠ 0 → m = .zero) := Lib.hid fun h0 => by rw [← hm]; exact decM_zero (by rw [hk]; exact h0)
  rw [hm] at HOWN HV
  rw [hm, hk]
  obtain ⟨nb, hnb⟩ : ∃ n, m.blocks.length = n := ⟨_, rfl⟩
  have HNB := Lib.hid hnb
  rw [hnb] at HOWN HV ⊢
  clear hown hb2 hm hk hnb
  unfold manV
  go_upto_region 5 with fail
  obtain ⟨g6, hg6⟩ : ∃ g, w2.heap.size = g := ⟨_, rfl⟩
  obtain ⟨w3, hw3⟩ : ∃ X, w2.alloc (.cells (manV m (.slice AC nb cc)) 25) = X := ⟨_, rfl⟩
  have hb3 : Below w2.heap.size w2 w3 := by rw [← hw3]; exact (Below.refl _ _).alloc (Nat.le_refl _) _
  have HK3 : Hid (Blk w3 r2 25 (manV .zero (.slice none 0 0)) ∧ Blk w3 g6 25 (manV m (.slice AC nb cc))) := Lib.hid ⟨HK2.out.below hb3 HK2.out.lt, by rw [← hw3, ← hg6]; exact Blk.new _ _ _⟩
  have HOWN3 := Lib.hid (ownsRow.same HOWN.out fun k hk => hb3.block k (World.ownsRow.lt HOWN.out k hk).2)
  have HD3 := Lib.hid (HD2.out.below hb3)
  have HO3 : Hid (Out R R1 w w3) := Lib.hid (HO2.out.trans (Out.of_below hb3))
  have HS3 : Hid (w1.heap.size ≤ w3.heap.size) := Lib.hid (Nat.le_trans HS2.out hb3.size)
  have hw4 := hw3
  unfold manV at hw4
  rw [hw4, hg6]
  clear hw3 hw4 hg6 hb3
  have y0 : w3.cell? ⟨r2, 0, none⟩ = some (.int .i64 0) := HK3.out.1.cell 0
  have zy0 : w3.frozen? ⟨r2, 0, none⟩ = false := HK3.out.1.frozen 0
  have y1 : w3.cell? ⟨r2, 1, none⟩ = some (.int .i64 0) := HK3.out.1.cell 1
  have zy1 : w3.frozen? ⟨r2, 1, none⟩ = false := HK3.out.1.frozen 1
  have y2 : w3.cell? ⟨r2, 2, none⟩ = some (.int .i64 0) := HK3.out.1.cell 2
  have zy2 : w3.frozen? ⟨r2, 2, none⟩ = false := HK3.out.1.frozen 2
  have y3 : w3.cell? ⟨r2, 3, none⟩ = some (.int .i64 0) := HK3.out.1.cell 3
  have zy3 : w3.frozen? ⟨r2, 3, none⟩ = false := HK3.out.1.frozen 3
  have y4 : w3.cell? ⟨r2, 4, none⟩ = some (.int .i64 0) := HK3.out.1.cell 4
  have zy4 : w3.frozen? ⟨r2, 4, none⟩ = false := HK3.out.1.frozen 4
  have y5 : w3.cell? ⟨r2, 5, none⟩ = some (.slice none 0 0) := HK3.out.1.cell 5
  have zy5 : w3.frozen? ⟨r2, 5, none⟩ = false := HK3.out.1.frozen 5
  have y6 : w3.cell? ⟨r2, 6, none⟩ = some (.int .i64 0) := HK3.out.1.cell 6
  have zy6 : w3.frozen? ⟨r2, 6, none⟩ = false := HK3.out.1.frozen 6
  have y7 : w3.cell? ⟨r2, 7, none⟩ = some (.int .i64 0) := HK3.out.1.cell 7
  have zy7 : w3.frozen? ⟨r2, 7, none⟩ = false := HK3.out.1.frozen 7
  have y8 : w3.cell? ⟨r2, 8, none⟩ = some (.int .i64 0) := HK3.out.1.cell 8
  have zy8 : w3.frozen? ⟨r2, 8, none⟩ = false := HK3.out.1.frozen 8
  have y9 : w3.cell? ⟨r2, 9, none⟩ = some (.int .i64 0) := HK3.out.1.cell 9
  have zy9 : w3.frozen? ⟨r2, 9, none⟩ = false := HK3.out.1.frozen 9
  have y10 : w3.cell? ⟨r2, 10, none⟩ = some (.int .i64 0) := HK3.out.1.cell 10
  have zy10 : w3.frozen? ⟨r2, 10, none⟩ = false := HK3.out.1.frozen 10
  have y11 : w3.cell? ⟨r2, 11, none⟩ = some (.int .i64 0) := HK3.out.1.cell 11
  have zy11 : w3.frozen? ⟨r2, 11, none⟩ = false := HK3.out.1.frozen 11
  have y12 : w3.cell? ⟨r2, 12, none⟩ = some (.int .i64 0) := HK3.out.1.cell 12
  have zy12 : w3.frozen? ⟨r2, 12, none⟩ = false := HK3.out.1.frozen 12
  by_cases hk0 : k = 0
  · subst hk0
    have x0 : w3.cell? ⟨g6, 0, none⟩ = some (.int .i64 m.w0) := HK3.out.2.cell 0
    have x1 : w3.cell? ⟨g6, 1, none⟩ = some (.int .i64 m.w1) := HK3.out.2.cell 1
    have x2 : w3.cell? ⟨g6, 2, none⟩ = some (.int .i64 m.w2) := HK3.out.2.cell 2
    have x3 : w3.cell? ⟨g6, 3, none⟩ = some (.int .i64 m.next) := HK3.out.2.cell 3
    have x4 : w3.cell? ⟨g6, 4, none⟩ = some (.int .i64 m.log) := HK3.out.2.cell 4
    have x5 : w3.cell? ⟨g6, 5, none⟩ = some ((.slice AC nb cc)) := HK3.out.2.cell 5
    have x6 : w3.cell? ⟨g6, 6, none⟩ = some (.int .i64 m.cut) := HK3.out.2.cell 6
    have x7 : w3.cell? ⟨g6, 7, none⟩ = some (.int .i64 m.r0) := HK3.out.2.cell 7
    have x8 : w3.cell? ⟨g6, 8, none⟩ = some (.int .i64 m.r1) := HK3.out.2.cell 8
    have x9 : w3.cell? ⟨g6, 9, none⟩ = some (.int .i64 m.r2) := HK3.out.2.cell 9
    have x10 : w3.cell? ⟨g6, 10, none⟩ = some (.int .i64 m.l0) := HK3.out.2.cell 10
    have x11 : w3.cell? ⟨g6, 11, none⟩ = some (.int .i64 m.l1) := HK3.out.2.cell 11
    have x12 : w3.cell? ⟨g6, 12, none⟩ = some (.int .i64 m.l2) := HK3.out.2.cell 12
    go_wp2_with fail
    have hf := (fill13 (m' := m) (v' := .slice AC nb cc) HK3.out.1).1
    have ho := fillOnly w3 r2 (.int .i64 m.w0) (.int .i64 m.w1) (.int .i64 m.w2) (.int .i64 m.next) (.int .i64 m.log) ((.slice AC nb cc)) (.int .i64 m.cut) (.int .i64 m.r0) (.int .i64 m.r1) (.int .i64 m.r2) (.int .i64 m.l0) (.int .i64 m.l1) (.int .i64 m.l2)
    obtain ⟨wf, hwf⟩ : ∃ X, (((((((((((((w3.setCell ⟨r2, 0, none⟩ (.int .i64 m.w0)).setCell ⟨r2, 1, none⟩ (.int .i64 m.w1)).setCell ⟨r2, 2, none⟩ (.int .i64 m.w2)).setCell ⟨r2, 3, none⟩ (.int .i64 m.next)).setCell ⟨r2, 4, none⟩ (.int .i64 m.log)).setCell ⟨r2, 5, none⟩ ((.slice AC nb cc))).setCell ⟨r2, 6, none⟩ (.int .i64 m.cut)).setCell ⟨r2, 7, none⟩ (.int .i64 m.r0)).setCell ⟨r2, 8, none⟩ (.int .i64 m.r1)).setCell ⟨r2, 9, none⟩ (.int .i64 m.r2)).setCell ⟨r2, 10, none⟩ (.int .i64 m.l0)).setCell ⟨r2, 11, none⟩ (.int .i64 m.l1)).setCell ⟨r2, 12, none⟩ (.int .i64 m.l2)) = X := ⟨_, rfl⟩
    rw [hwf] at hf ho ⊢
    refine bodyPost_ret (results_cell1 rfl _ wf ⟨r2, 0, none⟩ (.agg (manV m (.slice AC nb cc))) rfl (run_loadVar_row wf r2 25 25 _ (0, 0) _ hf Tryz.underlying25 rfl (by kernel_rfl))) rfl ?_
    have hr2 : w.heap.size = r2 := HG.out
    have hs1 : r2 < w1.heap.size := HK1.out.1.lt
    refine ⟨.slice AC nb cc, .nilIface, R1, ?_, ?_, fun g hg => (HV.out g hg).1, ?_, HD3.out.only ho HK1.out.2, HO3.out.only ho (by omega)⟩
    · rw [HMM.out.1]
      rfl
    · rw [HMM.out.1, HNB.out]
      exact (ho.own HOWN3.out hs1).mono (by omega)
    · rw [HMM.out.2]
      rfl
  · have hm0 : m = .zero := HZM.out hk0
    subst hm0
    obtain ⟨kz, hkz⟩ : ∃ z : Int, (k : Int) = z := ⟨_, rfl⟩
    have dk1 : kz ≠ 0 := by omega
    have dk0 : decide (kz = 0) = false := by simpa using dk1
    have dk2 : (kz == 0) = false := by simpa using dk1
    have dk3 : (kz != 0) = true := by simpa using dk1
    rw [hkz]
    have HK0 := Lib.hid (⟨hk0, hkz⟩ : _ ∧ _)
    clear hkz
    obtain ⟨w4, hw4⟩ : ∃ X, w3.alloc (.cells #[.string ⟨#[109, 97, 110, 105, 102, 101, 115, 116]⟩, .int .i64 kz] 54) = X := ⟨_, rfl⟩
    have HB4 : Hid (Below w3.heap.size w3 w4) := Lib.hid (by rw [← hw4]; exact (Below.refl _ _).alloc (Nat.le_refl _) _)
    have HK4 : Hid (Blk w4 r2 25 (manV .zero (.slice none 0 0))) := Lib.hid (HK3.out.1.below HB4.out HK3.out.1.lt)
    clear y0 zy0 y1 zy1 y2 zy2 y3 zy3 y4 zy4 y5 zy5 y6 zy6 y7 zy7 y8 zy8 y9 zy9 y10 zy10 y11 zy11 y12 zy12
    clear hk0
    have y0 : w4.cell? ⟨r2, 0, none⟩ = some (.int .i64 0) := HK4.out.cell 0
    have zy0 : w4.frozen? ⟨r2, 0, none⟩ = false := HK4.out.frozen 0
    have y1 : w4.cell? ⟨r2, 1, none⟩ = some (.int .i64 0) := HK4.out.cell 1
    have zy1 : w4.frozen? ⟨r2, 1, none⟩ = false := HK4.out.frozen 1
    have y2 : w4.cell? ⟨r2, 2, none⟩ = some (.int .i64 0) := HK4.out.cell 2
    have zy2 : w4.frozen? ⟨r2, 2, none⟩ = false := HK4.out.frozen 2
    have y3 : w4.cell? ⟨r2, 3, none⟩ = some (.int .i64 0) := HK4.out.cell 3
    have zy3 : w4.frozen? ⟨r2, 3, none⟩ = false := HK4.out.frozen 3
    have y4 : w4.cell? ⟨r2, 4, none⟩ = some (.int .i64 0) := HK4.out.cell 4
    have zy4 : w4.frozen? ⟨r2, 4, none⟩ = false := HK4.out.frozen 4
    have y5 : w4.cell? ⟨r2, 5, none⟩ = some (.slice none 0 0) := HK4.out.cell 5
    have zy5 : w4.frozen? ⟨r2, 5, none⟩ = false := HK4.out.frozen 5
    have y6 : w4.cell? ⟨r2, 6, none⟩ = some (.int .i64 0) := HK4.out.cell 6
    have zy6 : w4.frozen? ⟨r2, 6, none⟩ = false := HK4.out.frozen 6
    have y7 : w4.cell? ⟨r2, 7, none⟩ = some (.int .i64 0) := HK4.out.cell 7
    have zy7 : w4.frozen? ⟨r2, 7, none⟩ = false := HK4.out.frozen 7
    have y8 : w4.cell? ⟨r2, 8, none⟩ = some (.int .i64 0) := HK4.out.cell 8
    have zy8 : w4.frozen? ⟨r2, 8, none⟩ = false := HK4.out.frozen 8
    have y9 : w4.cell? ⟨r2, 9, none⟩ = some (.int .i64 0) := HK4.out.cell 9
    have zy9 : w4.frozen? ⟨r2, 9, none⟩ = false := HK4.out.frozen 9
    have y10 : w4.cell? ⟨r2, 10, none⟩ = some (.int .i64 0) := HK4.out.cell 10
    have zy10 : w4.frozen? ⟨r2, 10, none⟩ = false := HK4.out.frozen 10
    have y11 : w4.cell? ⟨r2, 11, none⟩ = some (.int .i64 0) := HK4.out.cell 11
    have zy11 : w4.frozen? ⟨r2, 11, none⟩ = false := HK4.out.frozen 11
    have y12 : w4.cell? ⟨r2, 12, none⟩ = some (.int .i64 0) := HK4.out.cell 12
    have zy12 : w4.frozen? ⟨r2, 12, none⟩ = false := HK4.out.frozen 12
    go_wp2_with fail
    have hb4 := HB4.out
    have hq : Blk w4 w3.heap.size 54 #[.string ⟨#[109, 97, 110, 105, 102, 101, 115, 116]⟩, .int .i64 kz] := by rw [← hw4]; exact Blk.new _ _ _
    have hf := (fill13 (m' := .zero) (v' := .slice none 0 0) HK4.out).1
    have ho := fillOnly w4 r2 (.int .i64 0) (.int .i64 0) (.int .i64 0) (.int .i64 0) (.int .i64 0) (.slice none 0 0) (.int .i64 0) (.int .i64 0) (.int .i64 0) (.int .i64 0) (.int .i64 0) (.int .i64 0) (.int .i64 0)
    simp only [Man.zero] at hf
    obtain ⟨wf, hwf⟩ : ∃ X, (((((((((((((w4.setCell ⟨r2, 0, none⟩ (.int .i64 0)).setCell ⟨r2, 1, none⟩ (.int .i64 0)).setCell ⟨r2, 2, none⟩ (.int .i64 0)).setCell ⟨r2, 3, none⟩ (.int .i64 0)).setCell ⟨r2, 4, none⟩ (.int .i64 0)).setCell ⟨r2, 5, none⟩ (.slice none 0 0)).setCell ⟨r2, 6, none⟩ (.int .i64 0)).setCell ⟨r2, 7, none⟩ (.int .i64 0)).setCell ⟨r2, 8, none⟩ (.int .i64 0)).setCell ⟨r2, 9, none⟩ (.int .i64 0)).setCell ⟨r2, 10, none⟩ (.int .i64 0)).setCell ⟨r2, 11, none⟩ (.int .i64 0)).setCell ⟨r2, 12, none⟩ (.int .i64 0)) = X := ⟨_, rfl⟩
    rw [hwf] at hf ho ⊢
    refine bodyPost_ret (results_cell1 rfl _ wf ⟨r2, 0, none⟩ (.agg (manV .zero (.slice none 0 0))) rfl (run_loadVar_row wf r2 25 25 _ (0, 0) _ hf Tryz.underlying25 rfl (by kernel_rfl))) rfl ?_
    have hr2 : w.heap.size = r2 := HG.out
    have hs1 : r2 < w1.heap.size := HK1.out.1.lt
    have hs3 := HS3.out
    refine ⟨.slice none 0 0, .iface 51 (.pointer (some ⟨w3.heap.size, 0, none⟩)), R1, ?_, ?_, ?_, ?_, (HD3.out.below hb4).only ho HK1.out.2, (HO3.out.trans (Out.of_below hb4)).only ho (by omega)⟩
    · rw [HMM.out.1]
      rfl
    · rw [HMM.out.1]
      exact World.ownsRow_nil _ _ _ _
    · intro g hg
      cases hg
    · rw [HMM.out.2]
      obtain ⟨j, rfl⟩ : ∃ j, k = j + 1 := ⟨k - 1, by have := HK0.out.1; omega⟩
      rw [← HK0.out.2] at hq
      exact ⟨w3.heap.size, rfl, ho.blk hq (by omega), by omega⟩
end
end Go.Proofs.YtfpgbhimgfdddaaGreatDoor

/- The walks of layer 20 (store): the law's ref, plain, alike; the document's time and Alike (printed by gen_storef.py). -/
namespace Go.Proofs.YtfpgbhimgfdddaaGreatDoor
open Go.RowKit Go.Shelf Go.Sort
attribute [local go_sem ↓] Go.wp_at_zero Go.wp_at_succ
attribute [local go_sem] Later.cell Later.frozen

theorem info_rinf : (Tryz.prog.info? 130).map (fun i => (i.zero, i.size, i.bytes)) = some (some (.agg #[.int .i64 0, .int .i64 0, .int .i64 0, .int .i64 0, .int .i64 0]), 5, 40) := by kernel_rfl
set_option maxHeartbeats 4000000 in
theorem time20_calls (t : Int) (w : World) : Calls Tryz.prog 55 #[.int .i64 t] w fun e w' => e = .returned (.bool (timeB t)) ∧ w = w' := by
  unfold timeB
  go_enter Tryz.func55, Tryz.ntmps55
  by_cases h1 : 0 ≤ t
  · have d1 : decide (0 ≤ t) = true := decide_eq_true h1
    have d2 : decide (t ≥ 0) = true := decide_eq_true h1
    go_wp2_with fail
    go_ret
    exact ⟨by simp [h1], rfl⟩
  · have d1 : decide (0 ≤ t) = false := decide_eq_false h1
    have d2 : decide (t ≥ 0) = false := decide_eq_false h1
    go_wp2_with fail
    go_ret
    exact ⟨by simp [h1], rfl⟩
theorem fill13T {W : World} {b : Nat} {T : TypeId} {m m' : Man} {v v' : Value} (h : Blk W b T (manV m v)) :
    Blk (((((((((((((W.setCell ⟨b, 0, none⟩ (.int .i64 m'.w0)).setCell ⟨b, 1, none⟩ (.int .i64 m'.w1)).setCell ⟨b, 2, none⟩ (.int .i64 m'.w2)).setCell ⟨b, 3, none⟩ (.int .i64 m'.next)).setCell ⟨b, 4, none⟩ (.int .i64 m'.log)).setCell ⟨b, 5, none⟩ v').setCell ⟨b, 6, none⟩ (.int .i64 m'.cut)).setCell ⟨b, 7, none⟩ (.int .i64 m'.r0)).setCell ⟨b, 8, none⟩ (.int .i64 m'.r1)).setCell ⟨b, 9, none⟩ (.int .i64 m'.r2)).setCell ⟨b, 10, none⟩ (.int .i64 m'.l0)).setCell ⟨b, 11, none⟩ (.int .i64 m'.l1)).setCell ⟨b, 12, none⟩ (.int .i64 m'.l2)) b T (manV m' v') ∧ Below b W (((((((((((((W.setCell ⟨b, 0, none⟩ (.int .i64 m'.w0)).setCell ⟨b, 1, none⟩ (.int .i64 m'.w1)).setCell ⟨b, 2, none⟩ (.int .i64 m'.w2)).setCell ⟨b, 3, none⟩ (.int .i64 m'.next)).setCell ⟨b, 4, none⟩ (.int .i64 m'.log)).setCell ⟨b, 5, none⟩ v').setCell ⟨b, 6, none⟩ (.int .i64 m'.cut)).setCell ⟨b, 7, none⟩ (.int .i64 m'.r0)).setCell ⟨b, 8, none⟩ (.int .i64 m'.r1)).setCell ⟨b, 9, none⟩ (.int .i64 m'.r2)).setCell ⟨b, 10, none⟩ (.int .i64 m'.l0)).setCell ⟨b, 11, none⟩ (.int .i64 m'.l1)).setCell ⟨b, 12, none⟩ (.int .i64 m'.l2)) :=
by
  have h0 : Blk (W.setCell ⟨b, 0, none⟩ (.int .i64 m'.w0)) b T (manV ⟨m'.w0, m.w1, m.w2, m.next, m.log, m'.blocks, m.cut, m.r0, m.r1, m.r2, m.l0, m.l1, m.l2⟩ v) := Blk.set_ h 0 (.int .i64 m'.w0)
  have h1 : Blk ((W.setCell ⟨b, 0, none⟩ (.int .i64 m'.w0)).setCell ⟨b, 1, none⟩ (.int .i64 m'.w1)) b T (manV ⟨m'.w0, m'.w1, m.w2, m.next, m.log, m'.blocks, m.cut, m.r0, m.r1, m.r2, m.l0, m.l1, m.l2⟩ v) := Blk.set_ h0 1 (.int .i64 m'.w1)
  have h2 : Blk (((W.setCell ⟨b, 0, none⟩ (.int .i64 m'.w0)).setCell ⟨b, 1, none⟩ (.int .i64 m'.w1)).setCell ⟨b, 2, none⟩ (.int .i64 m'.w2)) b T (manV ⟨m'.w0, m'.w1, m'.w2, m.next, m.log, m'.blocks, m.cut, m.r0, m.r1, m.r2, m.l0, m.l1, m.l2⟩ v) := Blk.set_ h1 2 (.int .i64 m'.w2)
  have h3 : Blk ((((W.setCell ⟨b, 0, none⟩ (.int .i64 m'.w0)).setCell ⟨b, 1, none⟩ (.int .i64 m'.w1)).setCell ⟨b, 2, none⟩ (.int .i64 m'.w2)).setCell ⟨b, 3, none⟩ (.int .i64 m'.next)) b T (manV ⟨m'.w0, m'.w1, m'.w2, m'.next, m.log, m'.blocks, m.cut, m.r0, m.r1, m.r2, m.l0, m.l1, m.l2⟩ v) := Blk.set_ h2 3 (.int .i64 m'.next)
  have h4 : Blk (((((W.setCell ⟨b, 0, none⟩ (.int .i64 m'.w0)).setCell ⟨b, 1, none⟩ (.int .i64 m'.w1)).setCell ⟨b, 2, none⟩ (.int .i64 m'.w2)).setCell ⟨b, 3, none⟩ (.int .i64 m'.next)).setCell ⟨b, 4, none⟩ (.int .i64 m'.log)) b T (manV ⟨m'.w0, m'.w1, m'.w2, m'.next, m'.log, m'.blocks, m.cut, m.r0, m.r1, m.r2, m.l0, m.l1, m.l2⟩ v) := Blk.set_ h3 4 (.int .i64 m'.log)
  have h5 : Blk ((((((W.setCell ⟨b, 0, none⟩ (.int .i64 m'.w0)).setCell ⟨b, 1, none⟩ (.int .i64 m'.w1)).setCell ⟨b, 2, none⟩ (.int .i64 m'.w2)).setCell ⟨b, 3, none⟩ (.int .i64 m'.next)).setCell ⟨b, 4, none⟩ (.int .i64 m'.log)).setCell ⟨b, 5, none⟩ v') b T (manV ⟨m'.w0, m'.w1, m'.w2, m'.next, m'.log, m'.blocks, m.cut, m.r0, m.r1, m.r2, m.l0, m.l1, m.l2⟩ v') := Blk.set_ h4 5 v'
  have h6 : Blk (((((((W.setCell ⟨b, 0, none⟩ (.int .i64 m'.w0)).setCell ⟨b, 1, none⟩ (.int .i64 m'.w1)).setCell ⟨b, 2, none⟩ (.int .i64 m'.w2)).setCell ⟨b, 3, none⟩ (.int .i64 m'.next)).setCell ⟨b, 4, none⟩ (.int .i64 m'.log)).setCell ⟨b, 5, none⟩ v').setCell ⟨b, 6, none⟩ (.int .i64 m'.cut)) b T (manV ⟨m'.w0, m'.w1, m'.w2, m'.next, m'.log, m'.blocks, m'.cut, m.r0, m.r1, m.r2, m.l0, m.l1, m.l2⟩ v') := Blk.set_ h5 6 (.int .i64 m'.cut)
  have h7 : Blk ((((((((W.setCell ⟨b, 0, none⟩ (.int .i64 m'.w0)).setCell ⟨b, 1, none⟩ (.int .i64 m'.w1)).setCell ⟨b, 2, none⟩ (.int .i64 m'.w2)).setCell ⟨b, 3, none⟩ (.int .i64 m'.next)).setCell ⟨b, 4, none⟩ (.int .i64 m'.log)).setCell ⟨b, 5, none⟩ v').setCell ⟨b, 6, none⟩ (.int .i64 m'.cut)).setCell ⟨b, 7, none⟩ (.int .i64 m'.r0)) b T (manV ⟨m'.w0, m'.w1, m'.w2, m'.next, m'.log, m'.blocks, m'.cut, m'.r0, m.r1, m.r2, m.l0, m.l1, m.l2⟩ v') := Blk.set_ h6 7 (.int .i64 m'.r0)
  have h8 : Blk (((((((((W.setCell ⟨b, 0, none⟩ (.int .i64 m'.w0)).setCell ⟨b, 1, none⟩ (.int .i64 m'.w1)).setCell ⟨b, 2, none⟩ (.int .i64 m'.w2)).setCell ⟨b, 3, none⟩ (.int .i64 m'.next)).setCell ⟨b, 4, none⟩ (.int .i64 m'.log)).setCell ⟨b, 5, none⟩ v').setCell ⟨b, 6, none⟩ (.int .i64 m'.cut)).setCell ⟨b, 7, none⟩ (.int .i64 m'.r0)).setCell ⟨b, 8, none⟩ (.int .i64 m'.r1)) b T (manV ⟨m'.w0, m'.w1, m'.w2, m'.next, m'.log, m'.blocks, m'.cut, m'.r0, m'.r1, m.r2, m.l0, m.l1, m.l2⟩ v') := Blk.set_ h7 8 (.int .i64 m'.r1)
  have h9 : Blk ((((((((((W.setCell ⟨b, 0, none⟩ (.int .i64 m'.w0)).setCell ⟨b, 1, none⟩ (.int .i64 m'.w1)).setCell ⟨b, 2, none⟩ (.int .i64 m'.w2)).setCell ⟨b, 3, none⟩ (.int .i64 m'.next)).setCell ⟨b, 4, none⟩ (.int .i64 m'.log)).setCell ⟨b, 5, none⟩ v').setCell ⟨b, 6, none⟩ (.int .i64 m'.cut)).setCell ⟨b, 7, none⟩ (.int .i64 m'.r0)).setCell ⟨b, 8, none⟩ (.int .i64 m'.r1)).setCell ⟨b, 9, none⟩ (.int .i64 m'.r2)) b T (manV ⟨m'.w0, m'.w1, m'.w2, m'.next, m'.log, m'.blocks, m'.cut, m'.r0, m'.r1, m'.r2, m.l0, m.l1, m.l2⟩ v') := Blk.set_ h8 9 (.int .i64 m'.r2)
  have h10 : Blk (((((((((((W.setCell ⟨b, 0, none⟩ (.int .i64 m'.w0)).setCell ⟨b, 1, none⟩ (.int .i64 m'.w1)).setCell ⟨b, 2, none⟩ (.int .i64 m'.w2)).setCell ⟨b, 3, none⟩ (.int .i64 m'.next)).setCell ⟨b, 4, none⟩ (.int .i64 m'.log)).setCell ⟨b, 5, none⟩ v').setCell ⟨b, 6, none⟩ (.int .i64 m'.cut)).setCell ⟨b, 7, none⟩ (.int .i64 m'.r0)).setCell ⟨b, 8, none⟩ (.int .i64 m'.r1)).setCell ⟨b, 9, none⟩ (.int .i64 m'.r2)).setCell ⟨b, 10, none⟩ (.int .i64 m'.l0)) b T (manV ⟨m'.w0, m'.w1, m'.w2, m'.next, m'.log, m'.blocks, m'.cut, m'.r0, m'.r1, m'.r2, m'.l0, m.l1, m.l2⟩ v') := Blk.set_ h9 10 (.int .i64 m'.l0)
  have h11 : Blk ((((((((((((W.setCell ⟨b, 0, none⟩ (.int .i64 m'.w0)).setCell ⟨b, 1, none⟩ (.int .i64 m'.w1)).setCell ⟨b, 2, none⟩ (.int .i64 m'.w2)).setCell ⟨b, 3, none⟩ (.int .i64 m'.next)).setCell ⟨b, 4, none⟩ (.int .i64 m'.log)).setCell ⟨b, 5, none⟩ v').setCell ⟨b, 6, none⟩ (.int .i64 m'.cut)).setCell ⟨b, 7, none⟩ (.int .i64 m'.r0)).setCell ⟨b, 8, none⟩ (.int .i64 m'.r1)).setCell ⟨b, 9, none⟩ (.int .i64 m'.r2)).setCell ⟨b, 10, none⟩ (.int .i64 m'.l0)).setCell ⟨b, 11, none⟩ (.int .i64 m'.l1)) b T (manV ⟨m'.w0, m'.w1, m'.w2, m'.next, m'.log, m'.blocks, m'.cut, m'.r0, m'.r1, m'.r2, m'.l0, m'.l1, m.l2⟩ v') := Blk.set_ h10 11 (.int .i64 m'.l1)
  have h12 : Blk (((((((((((((W.setCell ⟨b, 0, none⟩ (.int .i64 m'.w0)).setCell ⟨b, 1, none⟩ (.int .i64 m'.w1)).setCell ⟨b, 2, none⟩ (.int .i64 m'.w2)).setCell ⟨b, 3, none⟩ (.int .i64 m'.next)).setCell ⟨b, 4, none⟩ (.int .i64 m'.log)).setCell ⟨b, 5, none⟩ v').setCell ⟨b, 6, none⟩ (.int .i64 m'.cut)).setCell ⟨b, 7, none⟩ (.int .i64 m'.r0)).setCell ⟨b, 8, none⟩ (.int .i64 m'.r1)).setCell ⟨b, 9, none⟩ (.int .i64 m'.r2)).setCell ⟨b, 10, none⟩ (.int .i64 m'.l0)).setCell ⟨b, 11, none⟩ (.int .i64 m'.l1)).setCell ⟨b, 12, none⟩ (.int .i64 m'.l2)) b T (manV ⟨m'.w0, m'.w1, m'.w2, m'.next, m'.log, m'.blocks, m'.cut, m'.r0, m'.r1, m'.r2, m'.l0, m'.l1, m'.l2⟩ v') := Blk.set_ h11 12 (.int .i64 m'.l2)
  exact ⟨h12, (Below.setCell (Below.setCell (Below.setCell (Below.setCell (Below.setCell (Below.setCell (Below.setCell (Below.setCell (Below.setCell (Below.setCell (Below.setCell (Below.setCell (Below.setCell (Below.refl _ _) (p := ⟨b, 0, none⟩) (Nat.le_refl _) (.int .i64 m'.w0)) (p := ⟨b, 1, none⟩) (Nat.le_refl _) (.int .i64 m'.w1)) (p := ⟨b, 2, none⟩) (Nat.le_refl _) (.int .i64 m'.w2)) (p := ⟨b, 3, none⟩) (Nat.le_refl _) (.int .i64 m'.next)) (p := ⟨b, 4, none⟩) (Nat.le_refl _) (.int .i64 m'.log)) (p := ⟨b, 5, none⟩) (Nat.le_refl _) v') (p := ⟨b, 6, none⟩) (Nat.le_refl _) (.int .i64 m'.cut)) (p := ⟨b, 7, none⟩) (Nat.le_refl _) (.int .i64 m'.r0)) (p := ⟨b, 8, none⟩) (Nat.le_refl _) (.int .i64 m'.r1)) (p := ⟨b, 9, none⟩) (Nat.le_refl _) (.int .i64 m'.r2)) (p := ⟨b, 10, none⟩) (Nat.le_refl _) (.int .i64 m'.l0)) (p := ⟨b, 11, none⟩) (Nat.le_refl _) (.int .i64 m'.l1)) (p := ⟨b, 12, none⟩) (Nat.le_refl _) (.int .i64 m'.l2))⟩

theorem fill13L {W : World} {b : Nat} {T : TypeId} {m : Man} {v : Value} (h : Blk W b T (manV m v)) (x0 x1 x2 x3 x4 x6 x7 x8 x9 x10 x11 x12 : Int) (v' : Value) : Blk (((((((((((((W.setCell ⟨b, 0, none⟩ (.int .i64 x0)).setCell ⟨b, 1, none⟩ (.int .i64 x1)).setCell ⟨b, 2, none⟩ (.int .i64 x2)).setCell ⟨b, 3, none⟩ (.int .i64 x3)).setCell ⟨b, 4, none⟩ (.int .i64 x4)).setCell ⟨b, 5, none⟩ (v')).setCell ⟨b, 6, none⟩ (.int .i64 x6)).setCell ⟨b, 7, none⟩ (.int .i64 x7)).setCell ⟨b, 8, none⟩ (.int .i64 x8)).setCell ⟨b, 9, none⟩ (.int .i64 x9)).setCell ⟨b, 10, none⟩ (.int .i64 x10)).setCell ⟨b, 11, none⟩ (.int .i64 x11)).setCell ⟨b, 12, none⟩ (.int .i64 x12)) b T #[.int .i64 x0, .int .i64 x1, .int .i64 x2, .int .i64 x3, .int .i64 x4, v', .int .i64 x6, .int .i64 x7, .int .i64 x8, .int .i64 x9, .int .i64 x10, .int .i64 x11, .int .i64 x12] :=
  (fill13T (m' := ⟨x0, x1, x2, x3, x4, [], x6, x7, x8, x9, x10, x11, x12⟩) (v' := v') h).1
/-- ref at the head of its loop. -/
structure RefI (w : World) (m : Man) (i : Nat) (v : Value) (wr : World) : Prop where
  below : Below w.heap.size w wr
  box : Blk wr (w.heap.size + 2) 38 (manV m v)
  res : Blk wr (w.heap.size + 1) 38 (manV .zero (.slice none 0 0))
  own : wr.ownsRow (w.heap.size + 3) 130 5 v i ((m.blocks.take i).flatMap encInf)
set_option maxRecDepth 100000 in
set_option maxHeartbeats 8000000 in
theorem ref20_calls (m : Man) (A : Option Addr) (c : Nat) (w : World) (hinf : Infs w A m.blocks.length m.blocks) (hlen : m.blocks.length ≤ 3518437208780) :
    Calls Tryz.prog 15 #[.agg (manV m (.slice A m.blocks.length c))] w fun e w' => ∃ v, e = .returned (.agg (manV m v)) ∧ w'.ownsRow w.heap.size 130 5 v m.blocks.length (m.blocks.flatMap encInf) ∧ Below w.heap.size w w' := by
  obtain ⟨i0, hi0, hz0, hz1, hz2⟩ := info_parts info_rinf
  obtain ⟨b, hb⟩ : ∃ b, w.heap.size = b := ⟨_, rfl⟩
  obtain ⟨W, hW⟩ : ∃ W, (w.alloc (.cells (manV m (.slice A m.blocks.length c)) 25)).alloc (.cells (manV .zero (.slice none 0 0)) 38) = W := ⟨_, rfl⟩
  have hbl : Below w.heap.size w W := by rw [← hW]; exact ((Below.refl _ _).alloc (Nat.le_refl _) _).alloc (by simp) _
  have HK : Hid (Blk W b 25 (manV m (.slice A m.blocks.length c)) ∧ Blk W (b + 1) 38 (manV .zero (.slice none 0 0)) ∧ W.heap.size = b + 2) := Lib.hid (by rw [← hW, ← hb]; exact ⟨(Blk.new _ _ _).alloc _, Blk.newAt (by simp), by simp⟩)
  have HW := Lib.hid hW
  have HG := Lib.hid hb
  have HB := Lib.hid hbl
  have HI := Lib.hid hinf
  have HL := Lib.hid hlen
  clear hW hb hbl hinf hlen
  go_enter Tryz.func15, Tryz.ntmps15
  go_upto_region 1 with fail
  have hW2 : (w.alloc (.cells (manV m (.slice A m.blocks.length c)) 25)).alloc (.cells #[.int .i64 0, .int .i64 0, .int .i64 0, .int .i64 0, .int .i64 0, .slice none 0 0, .int .i64 0, .int .i64 0, .int .i64 0, .int .i64 0, .int .i64 0, .int .i64 0, .int .i64 0] 38) = W := HW.out
  have hg2 := HG.out
  rw [hW2, hg2]
  clear hW2 hg2
  have x0 : W.cell? ⟨b, 0, none⟩ = some (.int .i64 m.w0) := HK.out.1.cell 0
  have x1 : W.cell? ⟨b, 1, none⟩ = some (.int .i64 m.w1) := HK.out.1.cell 1
  have x2 : W.cell? ⟨b, 2, none⟩ = some (.int .i64 m.w2) := HK.out.1.cell 2
  have x3 : W.cell? ⟨b, 3, none⟩ = some (.int .i64 m.next) := HK.out.1.cell 3
  have x4 : W.cell? ⟨b, 4, none⟩ = some (.int .i64 m.log) := HK.out.1.cell 4
  have x5 : W.cell? ⟨b, 5, none⟩ = some ((.slice A m.blocks.length c)) := HK.out.1.cell 5
  have x6 : W.cell? ⟨b, 6, none⟩ = some (.int .i64 m.cut) := HK.out.1.cell 6
  have x7 : W.cell? ⟨b, 7, none⟩ = some (.int .i64 m.r0) := HK.out.1.cell 7
  have x8 : W.cell? ⟨b, 8, none⟩ = some (.int .i64 m.r1) := HK.out.1.cell 8
  have x9 : W.cell? ⟨b, 9, none⟩ = some (.int .i64 m.r2) := HK.out.1.cell 9
  have x10 : W.cell? ⟨b, 10, none⟩ = some (.int .i64 m.l0) := HK.out.1.cell 10
  have x11 : W.cell? ⟨b, 11, none⟩ = some (.int .i64 m.l1) := HK.out.1.cell 11
  have x12 : W.cell? ⟨b, 12, none⟩ = some (.int .i64 m.l2) := HK.out.1.cell 12
  go_upto_region 2 with fail
  obtain ⟨W1, hW1⟩ : ∃ X, W.alloc (.cells (manV m (.slice none 0 0)) 38) = X := ⟨_, rfl⟩
  have HR : Hid (RefI w m 0 (.slice none 0 0) W1) := Lib.hid (by
    rw [← hW1]
    have hg := HG.out
    refine ⟨HB.out.alloc HB.out.size _, ?_, ?_, World.ownsRow_nil _ _ _ _⟩
    · rw [hg]; exact Blk.newAt HK.out.2.2.symm
    · rw [hg]; exact HK.out.2.1.alloc _)
  have y5 : W1.cell? ⟨b, 5, none⟩ = some (.slice A m.blocks.length c) := by rw [← hW1]; exact (HK.out.1.alloc _).cell 5
  have hz := HK.out.2.2
  have hW2 := hW1
  unfold manV at hW2
  rw [hW2, hz]
  clear hW1 hW2 hz
  clear x0 x1 x2 x3 x4 x5 x6 x7 x8 x9 x10 x11 x12
  obtain ⟨n, hn⟩ : ∃ n, m.blocks.length = n := ⟨_, rfl⟩
  have HN := Lib.hid hn
  rw [hn] at y5 ⊢
  have hn40 : n ≤ 3518437208780 := by rw [← hn]; exact HL.out
  clear hn
  go_wp2_with fail
  clear y5
  go_loopg [22] n (fun g s22 wr => ∃ (i : Nat) (v : Value), i + g = n ∧ s22 = .int .i64 (i : Int) ∧ RefI w m i v wr)
  case atStart => exact ⟨0, _, by omega, rfl, HR.out⟩
  case round =>
    obtain ⟨i, v, hig, rfl, he⟩ := hrel
    have HIG := Lib.hid hig
    have HE2 := Lib.hid he
    clear hig he
    by_cases hi : i < n
    · have el : decide ((i : Int) < (n : Int)) = true := by simp; omega
      have e0 : (i : Int) < (n : Int) := by omega
      have e1 : (0 : Int) ≤ (i : Int) := by omega
      have hI2 : Infs wr A m.blocks.length m.blocks := HI.out.below HE2.out.below
      obtain ⟨bb, off, rfl, hbl, kc⟩ := hI2.at_ (i := i) (by rw [HN.out]; exact hi)
      have m0 : wr.cell? ⟨bb, off + i * 5, none⟩ = _ := kc 0 _ rfl
      have m1 := kc 1 _ rfl
      have m2 := kc 2 _ rfl
      have m3 := kc 3 _ rfl
      have m4 := kc 4 _ rfl
      have HX : Hid (m.blocks.take (i + 1) = m.blocks.take i ++ [m.blocks[i]!]) := Lib.hid (by
        have hl : i < m.blocks.length := by rw [HN.out]; exact hi
        rw [List.take_succ_eq_append_getElem hl, getElem!_pos m.blocks i hl])
      obtain ⟨x, hx⟩ : ∃ x, m.blocks[i]! = x := ⟨_, rfl⟩
      rw [hx] at HX
      simp only [hx] at m0 m1 m2 m3 m4
      clear hI2 kc hx
      go_upto_region 5 with fail
      obtain ⟨W7, hW7⟩ : ∃ X, wr.alloc (.cells #[.int .i64 x.id, .int .i64 x.res, .int .i64 x.frm, .int .i64 x.to_, .int .i64 x.bytes] 116) = X := ⟨_, rfl⟩
      have hb7 : Below wr.heap.size wr W7 := by rw [← hW7]; exact (Below.refl _ _).alloc (Nat.le_refl _) _
      have HE7 : Hid (RefI w m i v W7) := Lib.hid ⟨HE2.out.below.trans (hb7.mono HE2.out.below.size), HE2.out.box.below hb7 HE2.out.box.lt, HE2.out.res.below hb7 HE2.out.res.lt, ownsRow.same HE2.out.own fun k hk => hb7.block k (World.ownsRow.lt HE2.out.own k hk).2⟩
      have kx : Blk W7 wr.heap.size 116 #[.int .i64 x.id, .int .i64 x.res, .int .i64 x.frm, .int .i64 x.to_, .int .i64 x.bytes] := by rw [← hW7]; exact Blk.new wr _ _
      rw [hW7]
      clear hW7 m0 m1 m2 m3 m4 hb7
      obtain ⟨U, hU⟩ : ∃ Q, wr.heap.size = Q := ⟨_, rfl⟩
      rw [hU] at kx ⊢
      have m0 := kx.cell 0
      have m1 := kx.cell 1
      have m2 := kx.cell 2
      have m3 := kx.cell 3
      have m4 := kx.cell 4
      simp at m0 m1 m2 m3 m4
      have hgz : w.heap.size = b := HG.out
      have f5 : W7.cell? ⟨b + 2, 5, none⟩ = some v := by rw [← hgz]; exact HE7.out.box.cell 5
      have h8 : b + 2 < W7.heap.size := by rw [← hgz]; exact HE7.out.box.lt
      have HNW := Lib.hid (Blk.new W7 130 #[.int .i64 x.id, .int .i64 x.res, .int .i64 x.frm, .int .i64 x.to_, .int .i64 x.bytes])
      clear kx hU hbl hgz
      go_wp2_with (at_builtin; refine wpList_append_own_at _ rfl _ _ 36 rfl (w.heap.size + 3) 130 i0 (.agg #[.int .i64 0, .int .i64 0, .int .i64 0, .int .i64 0, .int .i64 0]) 5 40 Tryz.underlying36 hi0 hz0 hz1 hz2 rfl (by decide) _ _ _ rfl (HE7.out.own.alloc _) ⟨W7.heap.size, 0, none⟩ 1 1 (encInf x) rfl rfl ?p1 ?p2 ?p3 ?p4 ?p5 ?_)
      case p1 => exact news_of_blk (l := encInf x) HNW.out
      case p2 => intro u hu; simp [encInf] at hu; rcases hu with rfl | rfl | rfl | rfl | rfl <;> rfl
      case p3 => unfold maxLen; omega
      case p4 => omega
      case p5 => have := HE7.out.box.lt; simp; omega
      intro v' w9 hown' hgrow hx9 hat
      obtain ⟨A', c', rfl, _, _, _⟩ := Elems.of_own (enc := encInf) (xs := m.blocks.take (i + 1)) (fun _ _ => rfl) (by rw [HX.out, List.flatMap_append]; simp) hown' (by have := HN.out; simp; omega)
      have hgz : w.heap.size = b := HG.out
      have hne : ∀ k, k < w.heap.size + 3 → some k ≠ v.ownBlock := fun k hk e => by
        have := World.ownsRow.lt HE7.out.own k e.symm
        omega
      have hbox : Blk w9 (w.heap.size + 2) 38 (manV m v) := (HE7.out.box.alloc _).grown hgrow (hne _ (by omega))
      have hres : Blk w9 (w.heap.size + 1) 38 (manV .zero (.slice none 0 0)) := (HE7.out.res.alloc _).grown hgrow (hne _ (by omega))
      have hbel : Below w.heap.size w w9 := by
        have h0 := HE7.out.below.alloc HE7.out.below.size (.cells #[.int .i64 x.id, .int .i64 x.res, .int .i64 x.frm, .int .i64 x.to_, .int .i64 x.bytes] 130)
        exact ⟨hgrow.os.trans h0.os, hgrow.tape.trans h0.tape, hgrow.output.trans h0.output, Nat.le_trans h0.size hgrow.size, fun k hk => (hgrow.block k (by have := h0.size; omega) (hne k (by omega))).trans (h0.block k hk)⟩
      have c5 : w9.cell? ⟨b + 2, 5, none⟩ = some v := by rw [← hgz]; exact hbox.cell 5
      have z5 : w9.frozen? ⟨b + 2, 5, none⟩ = false := by rw [← hgz]; exact hbox.frozen 5
      have HE9 : Hid (RefI w m (i + 1) (.slice A' (i + 1) c') (w9.setCell ⟨b + 2, 5, none⟩ (.slice A' (i + 1) c'))) := Lib.hid (by
        rw [← hgz]
        refine ⟨hbel.setCell (by simp) _, hbox.set_ 5 (.slice A' (i + 1) c'), Blk.far hres (by simp) _, ?_⟩
        rw [HX.out, List.flatMap_append]
        refine ownsRow.same (v := .slice A' (i + 1) c') (by simpa using hown') fun k hk => Below.heap_setCell _ _ _ k ?_
        have := World.ownsRow.lt hown' k hk
        simp
        omega)
      clear hown' hgrow hx9 hat hbox hres hbel hne hgz f5 h8
      go_wp2_with fail
      go_roundg (gk - 1)
      case measure => have := HIG.out; omega
      case rel => exact ⟨i + 1, .slice A' (i + 1) c', by have := HIG.out; omega, by go_num, HE9.out⟩
    · have el : decide ((i : Int) < (n : Int)) = false := by simp; omega
      have hi3 : i = n := by have := HIG.out; omega
      subst hi3
      have hgz : w.heap.size = b := HG.out
      obtain ⟨A', c', rfl, _, _, _⟩ := Elems.of_own (enc := encInf) (xs := m.blocks.take i) (fun _ _ => rfl) rfl HE2.out.own (by have := HN.out; simp; omega)
      have kb : Blk wr (b + 2) 38 (manV m (.slice A' i c')) := by rw [← hgz]; exact HE2.out.box
      have kr : Blk wr (b + 1) 38 (manV .zero (.slice none 0 0)) := by rw [← hgz]; exact HE2.out.res
      have x0 : wr.cell? ⟨b + 2, 0, none⟩ = some (.int .i64 m.w0) := kb.cell 0
      have x1 : wr.cell? ⟨b + 2, 1, none⟩ = some (.int .i64 m.w1) := kb.cell 1
      have x2 : wr.cell? ⟨b + 2, 2, none⟩ = some (.int .i64 m.w2) := kb.cell 2
      have x3 : wr.cell? ⟨b + 2, 3, none⟩ = some (.int .i64 m.next) := kb.cell 3
      have x4 : wr.cell? ⟨b + 2, 4, none⟩ = some (.int .i64 m.log) := kb.cell 4
      have x5 : wr.cell? ⟨b + 2, 5, none⟩ = some ((.slice A' i c')) := kb.cell 5
      have x6 : wr.cell? ⟨b + 2, 6, none⟩ = some (.int .i64 m.cut) := kb.cell 6
      have x7 : wr.cell? ⟨b + 2, 7, none⟩ = some (.int .i64 m.r0) := kb.cell 7
      have x8 : wr.cell? ⟨b + 2, 8, none⟩ = some (.int .i64 m.r1) := kb.cell 8
      have x9 : wr.cell? ⟨b + 2, 9, none⟩ = some (.int .i64 m.r2) := kb.cell 9
      have x10 : wr.cell? ⟨b + 2, 10, none⟩ = some (.int .i64 m.l0) := kb.cell 10
      have x11 : wr.cell? ⟨b + 2, 11, none⟩ = some (.int .i64 m.l1) := kb.cell 11
      have x12 : wr.cell? ⟨b + 2, 12, none⟩ = some (.int .i64 m.l2) := kb.cell 12
      have HKR := Lib.hid kr
      have y0 : wr.cell? ⟨b + 1, 0, none⟩ = some (.int .i64 0) := kr.cell 0
      have zy0 : wr.frozen? ⟨b + 1, 0, none⟩ = false := kr.frozen 0
      have y1 : wr.cell? ⟨b + 1, 1, none⟩ = some (.int .i64 0) := kr.cell 1
      have zy1 : wr.frozen? ⟨b + 1, 1, none⟩ = false := kr.frozen 1
      have y2 : wr.cell? ⟨b + 1, 2, none⟩ = some (.int .i64 0) := kr.cell 2
      have zy2 : wr.frozen? ⟨b + 1, 2, none⟩ = false := kr.frozen 2
      have y3 : wr.cell? ⟨b + 1, 3, none⟩ = some (.int .i64 0) := kr.cell 3
      have zy3 : wr.frozen? ⟨b + 1, 3, none⟩ = false := kr.frozen 3
      have y4 : wr.cell? ⟨b + 1, 4, none⟩ = some (.int .i64 0) := kr.cell 4
      have zy4 : wr.frozen? ⟨b + 1, 4, none⟩ = false := kr.frozen 4
      have y5 : wr.cell? ⟨b + 1, 5, none⟩ = some (.slice none 0 0) := kr.cell 5
      have zy5 : wr.frozen? ⟨b + 1, 5, none⟩ = false := kr.frozen 5
      have y6 : wr.cell? ⟨b + 1, 6, none⟩ = some (.int .i64 0) := kr.cell 6
      have zy6 : wr.frozen? ⟨b + 1, 6, none⟩ = false := kr.frozen 6
      have y7 : wr.cell? ⟨b + 1, 7, none⟩ = some (.int .i64 0) := kr.cell 7
      have zy7 : wr.frozen? ⟨b + 1, 7, none⟩ = false := kr.frozen 7
      have y8 : wr.cell? ⟨b + 1, 8, none⟩ = some (.int .i64 0) := kr.cell 8
      have zy8 : wr.frozen? ⟨b + 1, 8, none⟩ = false := kr.frozen 8
      have y9 : wr.cell? ⟨b + 1, 9, none⟩ = some (.int .i64 0) := kr.cell 9
      have zy9 : wr.frozen? ⟨b + 1, 9, none⟩ = false := kr.frozen 9
      have y10 : wr.cell? ⟨b + 1, 10, none⟩ = some (.int .i64 0) := kr.cell 10
      have zy10 : wr.frozen? ⟨b + 1, 10, none⟩ = false := kr.frozen 10
      have y11 : wr.cell? ⟨b + 1, 11, none⟩ = some (.int .i64 0) := kr.cell 11
      have zy11 : wr.frozen? ⟨b + 1, 11, none⟩ = false := kr.frozen 11
      have y12 : wr.cell? ⟨b + 1, 12, none⟩ = some (.int .i64 0) := kr.cell 12
      have zy12 : wr.frozen? ⟨b + 1, 12, none⟩ = false := kr.frozen 12
      clear kb kr hgz
      go_wp2_with fail
      have hf := (fill13T (m' := m) (v' := .slice A' i c') HKR.out).1
      have ho := fillOnly wr (b + 1) (.int .i64 m.w0) (.int .i64 m.w1) (.int .i64 m.w2) (.int .i64 m.next) (.int .i64 m.log) ((.slice A' i c')) (.int .i64 m.cut) (.int .i64 m.r0) (.int .i64 m.r1) (.int .i64 m.r2) (.int .i64 m.l0) (.int .i64 m.l1) (.int .i64 m.l2)
      obtain ⟨wf, hwf⟩ : ∃ X, (((((((((((((wr.setCell ⟨b + 1, 0, none⟩ (.int .i64 m.w0)).setCell ⟨b + 1, 1, none⟩ (.int .i64 m.w1)).setCell ⟨b + 1, 2, none⟩ (.int .i64 m.w2)).setCell ⟨b + 1, 3, none⟩ (.int .i64 m.next)).setCell ⟨b + 1, 4, none⟩ (.int .i64 m.log)).setCell ⟨b + 1, 5, none⟩ ((.slice A' i c'))).setCell ⟨b + 1, 6, none⟩ (.int .i64 m.cut)).setCell ⟨b + 1, 7, none⟩ (.int .i64 m.r0)).setCell ⟨b + 1, 8, none⟩ (.int .i64 m.r1)).setCell ⟨b + 1, 9, none⟩ (.int .i64 m.r2)).setCell ⟨b + 1, 10, none⟩ (.int .i64 m.l0)).setCell ⟨b + 1, 11, none⟩ (.int .i64 m.l1)).setCell ⟨b + 1, 12, none⟩ (.int .i64 m.l2)) = X := ⟨_, rfl⟩
      rw [hwf] at hf ho ⊢
      refine bodyPost_ret (results_cell0 rfl _ wf ⟨b + 1, 0, none⟩ (.agg (manV m (.slice A' i c'))) rfl (run_loadVar_row wf (b + 1) 38 38 _ (0, 0) _ hf Tryz.underlying38 rfl (by kernel_rfl))) rfl ?_
      have hgz : w.heap.size = b := HG.out
      have hN : i = m.blocks.length := HN.out.symm
      refine ⟨_, rfl, ?_, ?_⟩
      · have h0 := HE2.out.own
        rw [hN, List.take_length] at h0
        have h1 := ho.own h0 (by omega)
        rw [hN]
        exact h1.mono (by omega)
      · have h0 := HE2.out.below
        exact ⟨ho.os.trans h0.os, ho.tape.trans h0.tape, ho.output.trans h0.output, by rw [ho.size]; exact h0.size, fun k hk => (ho.block k (by omega)).trans (h0.block k hk)⟩
theorem infs_one {w : World} {g : Nat} {T : TypeId} {x : Inf} (h : Blk w g T (encInf x).toArray) : Infs w (some ⟨g, 0, none⟩) 1 [x] :=
  ⟨rfl, fun _ => ⟨g, 0, rfl, h.lt, fun i y hy j v hv => by
    cases i with
    | zero =>
      simp at hy
      subst hy
      simp only [Nat.zero_mul, Nat.zero_add]
      rw [h.cell]
      simpa using hv
    | succ i => simp at hy⟩⟩
set_option maxHeartbeats 4000000 in
theorem plain20_calls (w : World) :
    Calls Tryz.prog 54 #[] w fun e w' => ∃ A c, e = .returned (.agg (manV plainM (.slice A 1 c))) ∧ Infs w' A 1 plainM.blocks ∧ (∀ x, A = some x → w.heap.size ≤ x.block) ∧ Below w.heap.size w w' := by
  obtain ⟨b, hb⟩ : ∃ b, w.heap.size = b := ⟨_, rfl⟩
  obtain ⟨W, hW⟩ : ∃ W, w.alloc (.cells (manV .zero (.slice none 0 0)) 25) = W := ⟨_, rfl⟩
  have HK : Hid (Blk W b 25 (manV .zero (.slice none 0 0)) ∧ W.heap.size = b + 1 ∧ Below w.heap.size w W) := Lib.hid (by rw [← hW, ← hb]; exact ⟨Blk.new _ _ _, by simp, (Below.refl _ _).alloc (Nat.le_refl _) _⟩)
  have HW := Lib.hid hW
  have HG := Lib.hid hb
  clear hW hb
  go_enter Tryz.func54, Tryz.ntmps54
  go_upto_region 1 with fail
  have hW2 := HW.out
  have hg2 := HG.out
  unfold manV at hW2
  simp only [Man.zero] at hW2
  rw [hW2, hg2]
  clear hW2 hg2
  obtain ⟨W2, hW2⟩ : ∃ X, W.alloc (.cells #[.int .i64 2, .int .i64 0, .int .i64 0, .int .i64 5, .int .i64 7] 116) = X := ⟨_, rfl⟩
  have HB2 : Hid (Below W.heap.size W W2) := Lib.hid (by rw [← hW2]; exact (Below.refl _ _).alloc (Nat.le_refl _) _)
  have HQ : Hid (Blk W2 (b + 1) 116 (encInf ⟨2, 0, 0, 5, 7⟩).toArray) := Lib.hid (by
    rw [← hW2, ← HK.out.2.1]
    exact Blk.new W 116 #[.int .i64 2, .int .i64 0, .int .i64 0, .int .i64 5, .int .i64 7])
  have HK2 : Hid (Blk W2 b 25 (manV .zero (.slice none 0 0))) := Lib.hid (HK.out.1.below HB2.out HK.out.1.lt)
  have y0 : W2.cell? ⟨b, 0, none⟩ = some (.int .i64 0) := HK2.out.cell 0
  have zy0 : W2.frozen? ⟨b, 0, none⟩ = false := HK2.out.frozen 0
  have y1 : W2.cell? ⟨b, 1, none⟩ = some (.int .i64 0) := HK2.out.cell 1
  have zy1 : W2.frozen? ⟨b, 1, none⟩ = false := HK2.out.frozen 1
  have y2 : W2.cell? ⟨b, 2, none⟩ = some (.int .i64 0) := HK2.out.cell 2
  have zy2 : W2.frozen? ⟨b, 2, none⟩ = false := HK2.out.frozen 2
  have y3 : W2.cell? ⟨b, 3, none⟩ = some (.int .i64 0) := HK2.out.cell 3
  have zy3 : W2.frozen? ⟨b, 3, none⟩ = false := HK2.out.frozen 3
  have y4 : W2.cell? ⟨b, 4, none⟩ = some (.int .i64 0) := HK2.out.cell 4
  have zy4 : W2.frozen? ⟨b, 4, none⟩ = false := HK2.out.frozen 4
  have y5 : W2.cell? ⟨b, 5, none⟩ = some (.slice none 0 0) := HK2.out.cell 5
  have zy5 : W2.frozen? ⟨b, 5, none⟩ = false := HK2.out.frozen 5
  have y6 : W2.cell? ⟨b, 6, none⟩ = some (.int .i64 0) := HK2.out.cell 6
  have zy6 : W2.frozen? ⟨b, 6, none⟩ = false := HK2.out.frozen 6
  have y7 : W2.cell? ⟨b, 7, none⟩ = some (.int .i64 0) := HK2.out.cell 7
  have zy7 : W2.frozen? ⟨b, 7, none⟩ = false := HK2.out.frozen 7
  have y8 : W2.cell? ⟨b, 8, none⟩ = some (.int .i64 0) := HK2.out.cell 8
  have zy8 : W2.frozen? ⟨b, 8, none⟩ = false := HK2.out.frozen 8
  have y9 : W2.cell? ⟨b, 9, none⟩ = some (.int .i64 0) := HK2.out.cell 9
  have zy9 : W2.frozen? ⟨b, 9, none⟩ = false := HK2.out.frozen 9
  have y10 : W2.cell? ⟨b, 10, none⟩ = some (.int .i64 0) := HK2.out.cell 10
  have zy10 : W2.frozen? ⟨b, 10, none⟩ = false := HK2.out.frozen 10
  have y11 : W2.cell? ⟨b, 11, none⟩ = some (.int .i64 0) := HK2.out.cell 11
  have zy11 : W2.frozen? ⟨b, 11, none⟩ = false := HK2.out.frozen 11
  have y12 : W2.cell? ⟨b, 12, none⟩ = some (.int .i64 0) := HK2.out.cell 12
  have zy12 : W2.frozen? ⟨b, 12, none⟩ = false := HK2.out.frozen 12
  have hz := HK.out.2.1
  go_wp2_with fail
  have hq := HQ.out
  have hb2 := HB2.out
  have hf := fill13L HK2.out 10 10 10 3 1 5 0 0 0 0 0 0 (.slice (some ⟨b + 1, 0, none⟩) 1 1)
  have ho := fillOnly W2 b (.int .i64 10) (.int .i64 10) (.int .i64 10) (.int .i64 3) (.int .i64 1) (.slice (some ⟨b + 1, 0, none⟩) 1 1) (.int .i64 5) (.int .i64 0) (.int .i64 0) (.int .i64 0) (.int .i64 0) (.int .i64 0) (.int .i64 0)
  obtain ⟨wf, hwf⟩ : ∃ X, (((((((((((((W2.setCell ⟨b, 0, none⟩ (.int .i64 10)).setCell ⟨b, 1, none⟩ (.int .i64 10)).setCell ⟨b, 2, none⟩ (.int .i64 10)).setCell ⟨b, 3, none⟩ (.int .i64 3)).setCell ⟨b, 4, none⟩ (.int .i64 1)).setCell ⟨b, 5, none⟩ (.slice (some ⟨b + 1, 0, none⟩) 1 1)).setCell ⟨b, 6, none⟩ (.int .i64 5)).setCell ⟨b, 7, none⟩ (.int .i64 0)).setCell ⟨b, 8, none⟩ (.int .i64 0)).setCell ⟨b, 9, none⟩ (.int .i64 0)).setCell ⟨b, 10, none⟩ (.int .i64 0)).setCell ⟨b, 11, none⟩ (.int .i64 0)).setCell ⟨b, 12, none⟩ (.int .i64 0)) = X := ⟨_, rfl⟩
  rw [hwf] at hf ho ⊢
  refine bodyPost_ret (results_cell0 rfl _ wf ⟨b, 0, none⟩ (.agg #[.int .i64 10, .int .i64 10, .int .i64 10, .int .i64 3, .int .i64 1, .slice (some ⟨b + 1, 0, none⟩) 1 1, .int .i64 5, .int .i64 0, .int .i64 0, .int .i64 0, .int .i64 0, .int .i64 0, .int .i64 0]) rfl (run_loadVar_row wf b 25 25 _ (0, 0) _ hf Tryz.underlying25 rfl (by kernel_rfl))) rfl ?_
  have hgz : w.heap.size = b := HG.out
  refine ⟨_, _, rfl, infs_one (ho.blk hq (by omega)), fun x hx => by injection hx with hx; subst hx; simp; omega, ?_⟩
  have h0 := HK.out.2.2.trans (hb2.mono (by omega))
  exact ⟨ho.os.trans h0.os, ho.tape.trans h0.tape, ho.output.trans h0.output, by rw [ho.size]; exact h0.size, fun k hk => (ho.block k (by omega)).trans (h0.block k hk)⟩
end Go.Proofs.YtfpgbhimgfdddaaGreatDoor
