/- Merged (what the claim wants of): StoSave, StoWalksA. -/
import Derived.Test.YtfpgbhimgfdddaaGreatDoorStk22
import Derived.Test.YtfpgbhimgfdddaaGreatDoorStk23
import Derived.Test.YtfpgbhimgfdddaaGreatDoorStk02
import Derived.Test.YtfpgbhimgfdddaaGreatDoorStk21
import Derived.Test.YtfpgbhimgfdddaaGreatDoorShelf
import Derived.Lib.LaidTab
set_option linter.unusedVariables false
set_option linter.unusedSimpArgs false
/- The walks of layer 20 (store): a block's files are written (printed by gen_stosave.py). -/
namespace Go.Proofs.YtfpgbhimgfdddaaGreatDoor
open Go.RowKit Go.Shelf Go.Sort
attribute [local go_sem ↓] Go.wp_at_zero Go.wp_at_succ
attribute [local go_sem] Later.cell Later.frozen

theorem names_at0 (w : World) : (Instr.index 152 (.agg #[.string ⟨#[47, 109, 101, 116, 97]⟩, .string ⟨#[47, 99, 104, 117, 110, 107, 115]⟩, .string ⟨#[47, 105, 110, 100, 101, 120]⟩]) (.int .i64 0)).run Tryz.prog w = .ok (.string ⟨#[47, 109, 101, 116, 97]⟩) w := by kernel_rfl
theorem names_at1 (w : World) : (Instr.index 152 (.agg #[.string ⟨#[47, 109, 101, 116, 97]⟩, .string ⟨#[47, 99, 104, 117, 110, 107, 115]⟩, .string ⟨#[47, 105, 110, 100, 101, 120]⟩]) (.int .i64 1)).run Tryz.prog w = .ok (.string ⟨#[47, 99, 104, 117, 110, 107, 115]⟩) w := by kernel_rfl
theorem names_at2 (w : World) : (Instr.index 152 (.agg #[.string ⟨#[47, 109, 101, 116, 97]⟩, .string ⟨#[47, 99, 104, 117, 110, 107, 115]⟩, .string ⟨#[47, 105, 110, 100, 101, 120]⟩]) (.int .i64 2)).run Tryz.prog w = .ok (.string ⟨#[47, 105, 110, 100, 101, 120]⟩) w := by kernel_rfl
def namesV : Value := .agg #[.string ⟨#[47, 109, 101, 116, 97]⟩, .string ⟨#[47, 99, 104, 117, 110, 107, 115]⟩, .string ⟨#[47, 105, 110, 100, 101, 120]⟩]
def textsV (g : Nat) : Value := .agg #[.pointer (some ⟨g, 0, none⟩), .pointer (some ⟨g, 1, none⟩), .pointer (some ⟨g, 2, none⟩)]
set_option maxHeartbeats 4000000 in
theorem files_calls (g : Nat) (w : World) : Calls Tryz.prog 70 #[.pointer (some ⟨g, 0, none⟩)] w fun e w' => e = .returned (.tuple #[namesV, textsV g]) ∧ Below w.heap.size w w' := by
  go_enter Tryz.func70, Tryz.ntmps70
  go_upto_region 1 with fail
  go_region
  go_wp2_with fail
  refine bodyPost_ret (results_cells2 rfl _ _ ⟨w.heap.size, 0, none⟩ ⟨w.heap.size + 1, 0, none⟩ namesV (textsV g) rfl rfl
    (run_loadVar_row _ w.heap.size 152 152 _ (0, 0) _ ((((Blk.new _ _ _).alloc _).drew : Blk _ _ _ _)) Tryz.underlying152 rfl (by kernel_rfl))
    (run_loadVar_row _ (w.heap.size + 1) 154 154 _ (0, 0) _ (((Blk.newAt (by simp)).drew : Blk _ _ _ _)) Tryz.underlying154 rfl (by kernel_rfl))) rfl ?_
  exact ⟨rfl, (((Below.refl _ _).alloc (Nat.le_refl _) _).alloc (by simp) _).drew⟩
def fsV (FA FB FC : ByteArray) : Value := .agg #[.string FA, .string FB, .string FC]
/-- What write keeps: the texts, their names, where they lie. -/
structure WrB (g bn bt : Nat) (FA FB FC : ByteArray) (w : World) (R : Nat → Nat) : Prop where
  bg : Blk w g 57 #[.string FA, .string FB, .string FC]
  kn : Blk w bn 152 #[.string ⟨#[47, 109, 101, 116, 97]⟩, .string ⟨#[47, 99, 104, 117, 110, 107, 115]⟩, .string ⟨#[47, 105, 110, 100, 101, 120]⟩]
  kt : Blk w bt 154 #[.pointer (some ⟨g, 0, none⟩), .pointer (some ⟨g, 1, none⟩), .pointer (some ⟨g, 2, none⟩)]
  rg : R g = 0
  rn : R bn = 0
  rt : R bt = 0
section
variable {B0 M p : Nat} {a : Nat → Addr} {R R' : Nat → Nat} {d : Ds} {w w' : World}
theorem WrB.out {g bn bt : Nat} {FA FB FC : ByteArray} (h : WrB g bn bt FA FB FC w R) (ho : Out R R' w w') : WrB g bn bt FA FB FC w' R' :=
  ⟨ho.blk h.bg h.rg, ho.blk h.kn h.rn, ho.blk h.kt h.rt, ho.old _ h.bg.lt h.rg, ho.old _ h.kn.lt h.rn, ho.old _ h.kt.lt h.rt⟩
def wrSteps (D : Txt) (f : Fs3) : Nat → List (Ds → Nat × Ds)
  | 0 => fileD3 (D ++ sMeta) f.a ++ fileD3 (D ++ sChunks) f.b ++ fileD3 (D ++ sIndex) f.c
  | 1 => fileD3 (D ++ sChunks) f.b ++ fileD3 (D ++ sIndex) f.c
  | 2 => fileD3 (D ++ sIndex) f.c
  | _ => []
def wrM (M a b c : Nat) : Nat → Nat
  | 0 => M + 2
  | 1 => M + 5 + a
  | 2 => M + 8 + a + b
  | _ => M + 11 + a + b + c
def fs3 (FA FB FC : ByteArray) : Fs3 := ⟨FA.data.toList, FB.data.toList, FC.data.toList⟩
/-- write at the head of its loop. -/
structure WrI (B0 M p : Nat) (a : Nat → Addr) (R : Nat → Nat) (w : World) (g bn bt : Nat) (D FA FB FC : ByteArray) (res : Nat × Ds) (i : Nat) (R' : Nat → Nat) (x : Ds) (wr : World) : Prop where
  blks : WrB g bn bt FA FB FC wr R'
  dk : Dk B0 (wrM M FA.size FB.size FC.size i) wr R' p x
  out : Out R R' w wr
  env : Env5 B0 a wr
  left : seqD (wrSteps D.data.toList (fs3 FA FB FC) i) (0, x) = res
theorem seqD_off {l : List (Ds → Nat × Ds)} {r : Nat × Ds} (h : r.1 ≠ 0) : seqD l r = r := by
  cases l with
  | nil => rfl
  | cons f l => rw [seqD, if_neg h]
theorem seqD_on {l : List (Ds → Nat × Ds)} {f : Ds → Nat × Ds} {x y : Ds} {k : Nat} (h : f x = (k, y)) : seqD (f :: l) (0, x) = seqD l (k, y) := by
  rw [seqD, if_pos rfl]
  simp only
  rw [h]
set_option maxRecDepth 100000 in
set_option maxHeartbeats 16000000 in
theorem write_calls (D FA FB FC : ByteArray) (w : World) (hD : Dk B0 M w R p d) (hM : M + FA.size + FB.size + FC.size + 12 ≤ 536870912) (hB : B0 ≤ w.heap.size) (hE : Env5 B0 a w) (hA : Apart a) (hDs : D.size ≤ 1000) :
    Calls Tryz.prog 72 #[.pointer (some ⟨p, 0, none⟩), .string D, fsV FA FB FC] w (DkOut a B0 (M + FA.size + FB.size + FC.size + 11) R p (writeD d D.data.toList (fs3 FA FB FC)) w) := by
  obtain ⟨g, hg⟩ : ∃ b, w.heap.size = b := ⟨_, rfl⟩
  obtain ⟨W, hW⟩ : ∃ W, w.alloc (.cells #[.string FA, .string FB, .string FC] 57) = W := ⟨_, rfl⟩
  have hbl : Below w.heap.size w W := by rw [← hW]; exact (Below.refl _ _).alloc (Nat.le_refl _) _
  have HBG : Hid (Blk W g 57 #[.string FA, .string FB, .string FC] ∧ R g = 0) := Lib.hid (by rw [← hW, ← hg]; exact ⟨Blk.new _ _ _, hD.new (Nat.le_refl _)⟩)
  have HD := Lib.hid (hD.below hbl)
  have HE := Lib.hid (hE.below (hbl.mono hB))
  have HO : Hid (Out R R w W) := Lib.hid (Out.of_below hbl)
  have HBW : Hid (B0 ≤ W.heap.size) := Lib.hid (Nat.le_trans hB hbl.size)
  have HA := Lib.hid hA
  have HB0 := Lib.hid hB
  have HW := Lib.hid hW
  have HG := Lib.hid hg
  clear hD hE hA hbl hg hW hB
  go_enter Tryz.func72, Tryz.ntmps72
  unfold fsV
  go_upto_region 1 with fail
  have hW2 : w.alloc (.cells #[.string FA, .string FB, .string FC] 57) = W := HW.out
  have hg2 : w.heap.size = g := HG.out
  rw [hW2, hg2]
  clear hW2 hg2
  go_upto_region 2 with (go_at_call 74; refine (HD.out.remove (by omega) HBW.out HE.out.f D (by omega)).mono ?_; rintro e w1 ⟨v1, R1, rfl, hv1, hd1, ho1⟩)
  have HBG1 : Hid (Blk w1 g 57 #[.string FA, .string FB, .string FC] ∧ R1 g = 0) := Lib.hid ⟨ho1.blk HBG.out.1 HBG.out.2, ho1.old _ HBG.out.1.lt HBG.out.2⟩
  have HO1 := Lib.hid (HO.out.trans ho1)
  have HE1 := Lib.hid (HE.out.out ho1 HBW.out HD.out)
  have HW1 : Hid (B0 ≤ w1.heap.size) := Lib.hid (Nat.le_trans HBW.out ho1.size)
  have HK := Lib.hid (removeD_le d D.data.toList)
  have HGN : Hid (goneD d D.data.toList = (if (removeD d D.data.toList).1 = 4 then 0 else (removeD d D.data.toList).1, (removeD d D.data.toList).2)) := Lib.hid rfl
  obtain ⟨r1, hr1⟩ : ∃ r, removeD d D.data.toList = r := ⟨_, rfl⟩
  rw [hr1] at hv1 hd1 HK HGN
  have HV1 := Lib.hid hv1
  have HD1 := Lib.hid hd1
  have HWD : Hid (writeD d D.data.toList (fs3 FA FB FC) = seqD ((mkdirD · D.data.toList) :: wrSteps D.data.toList (fs3 FA FB FC) 0) (goneD d D.data.toList)) := Lib.hid rfl
  have m4 : w1.cell? ⟨0, 0, none⟩ = some (.iface 306 (.pointer (some (a 4)))) := (HE1.out.f 4 (by decide)).2
  clear hr1 hv1 hd1 ho1
  go_cut [26] (fun s26 wz => wz = w1 ∧ s26 = .bool (decide (r1.1 ≠ 0 ∧ r1.1 ≠ 4)))
  case first =>
    rcases Nat.eq_zero_or_pos r1.1 with hz | hz
    · obtain rfl := HV1.out.nil hz
      have HZ := Lib.hid hz
      clear hz
      go_wp2_with fail
      go_meet
      exact ⟨rfl, vb (by rw [HZ.out]; rfl)⟩
    · obtain ⟨q, op, path, rfl, hq1, hq2⟩ := HV1.out.some_ (by omega)
      have HIS := Lib.hid (is_missing HV1.out HK.out HE1.out.s HA.out)
      have HZ := Lib.hid hz
      clear hz hq1 hq2
      go_wp2_with (go_at_call 87; refine HIS.out.mono ?_; rintro e w2 ⟨rfl, rfl⟩)
      go_meet
      refine ⟨rfl, vb ?_⟩
      have hz := HZ.out
      by_cases h4 : r1.1 = 4
      · rw [h4]; rfl
      · simp [h4]; omega
  case rest =>
    obtain ⟨rfl, rfl⟩ := hcut
    obtain ⟨w1, rfl⟩ : ∃ x, x = wc := ⟨_, rfl⟩
    by_cases hbad : r1.1 ≠ 0 ∧ r1.1 ≠ 4
    · have db : decide (r1.1 ≠ 0 ∧ r1.1 ≠ 4) = true := decide_eq_true hbad
      have HBAD := Lib.hid hbad
      clear hbad m4
      rw [db]
      go_wp2_with fail
      go_ret
      rw [HWD.out, HGN.out, if_neg HBAD.out.2, seqD_off HBAD.out.1]
      exact ⟨_, R1, rfl, HV1.out, HD1.out.more (by omega), HO1.out⟩
    · have db : decide (r1.1 ≠ 0 ∧ r1.1 ≠ 4) = false := decide_eq_false hbad
      have HX1 : Hid (goneD d D.data.toList = (0, r1.2)) := Lib.hid (by
        rw [HGN.out]
        by_cases h4 : r1.1 = 4
        · rw [if_pos h4]
        · rw [if_neg h4]
          have : r1.1 = 0 := by
            apply Classical.byContradiction
            intro h0
            exact hbad ⟨h0, h4⟩
          rw [this])
      obtain ⟨x1, hx1⟩ : ∃ x, r1.2 = x := ⟨_, rfl⟩
      rw [hx1] at HX1 HD1
      rw [db]
      clear hbad db m4 hx1
      go_upto_region 5 with (go_at_call 86; refine (HD1.out.mkdir (by omega) HW1.out HE1.out.f D (by omega)).mono ?_; rintro e w2 ⟨v2, R2, rfl, hv2, hd2, ho2⟩)
      have HBG2 : Hid (Blk w2 g 57 #[.string FA, .string FB, .string FC] ∧ R2 g = 0) := Lib.hid ⟨ho2.blk HBG1.out.1 HBG1.out.2, ho2.old _ HBG1.out.1.lt HBG1.out.2⟩
      have HO2 := Lib.hid (HO1.out.trans ho2)
      have HE2 := Lib.hid (HE1.out.out ho2 HW1.out HD1.out)
      have HW2 : Hid (B0 ≤ w2.heap.size) := Lib.hid (Nat.le_trans HW1.out ho2.size)
      obtain ⟨k2, x2, hr2⟩ : ∃ k y, mkdirD x1 D.data.toList = (k, y) := ⟨_, _, rfl⟩
      rw [hr2] at hv2 hd2
      have HR2 : Hid (writeD d D.data.toList (fs3 FA FB FC) = seqD (wrSteps D.data.toList (fs3 FA FB FC) 0) (k2, x2)) := Lib.hid (by rw [HWD.out, HX1.out, seqD_on hr2])
      have HD2 := Lib.hid hd2
      clear hr2 hd2 ho2
      by_cases hk2 : k2 = 0
      · subst hk2
        obtain rfl : v2 = .nilIface := hv2
        go_upto_region 8 with (go_at_call 70; refine (files_calls g w2).mono ?_; rintro e w3 ⟨rfl, hb3⟩; unfold namesV textsV)
        obtain ⟨bn, hbn⟩ : ∃ x, w3.heap.size = x := ⟨_, rfl⟩
        obtain ⟨w4, hw4⟩ : ∃ x, (w3.alloc (.cells #[.string ⟨#[47, 109, 101, 116, 97]⟩, .string ⟨#[47, 99, 104, 117, 110, 107, 115]⟩, .string ⟨#[47, 105, 110, 100, 101, 120]⟩] 152)).alloc (.cells #[.pointer (some ⟨g, 0, none⟩), .pointer (some ⟨g, 1, none⟩), .pointer (some ⟨g, 2, none⟩)] 154) = x := ⟨_, rfl⟩
        have hb4 : Below w2.heap.size w2 w4 := by rw [← hw4]; exact (hb3.alloc hb3.size _).alloc (by have := hb3.size; simp; omega) _
        obtain ⟨res, hres⟩ : ∃ r, seqD (wrSteps D.data.toList (fs3 FA FB FC) 0) (0, x2) = r := ⟨_, rfl⟩
        rw [hres] at HR2
        have HI : Hid (WrI B0 M p a R w g bn (bn + 1) D FA FB FC res 0 R2 x2 w4) := Lib.hid (by
          have ho := Out.of_below (R := R2) hb4
          refine ⟨⟨ho.blk HBG2.out.1 HBG2.out.2, ?_, ?_, HBG2.out.2, ?_, ?_⟩, HD2.out.below hb4, HO2.out.trans ho, HE2.out.below (hb4.mono HW2.out), hres⟩
          · rw [← hw4, ← hbn]; exact (Blk.new _ _ _).alloc _
          · rw [← hw4, ← hbn]; exact Blk.newAt (by simp)
          · exact HD2.out.new (by have := hb3.size; omega)
          · exact HD2.out.new (by have := hb3.size; omega))
        rw [hw4, hbn]
        clear hw4 hbn hb3 hb4 hres
        have y0 : w4.cell? ⟨bn, 0, none⟩ = some (.string ⟨#[47, 109, 101, 116, 97]⟩) := HI.out.blks.kn.cell 0
        have y1 : w4.cell? ⟨bn, 1, none⟩ = some (.string ⟨#[47, 99, 104, 117, 110, 107, 115]⟩) := HI.out.blks.kn.cell 1
        have y2 : w4.cell? ⟨bn, 2, none⟩ = some (.string ⟨#[47, 105, 110, 100, 101, 120]⟩) := HI.out.blks.kn.cell 2
        go_wp2_with fail
        clear y0 y1 y2
        go_loopg [39] 3 (fun gh s39 wr => ∃ (i : Nat) (R' : Nat → Nat) (x : Ds), i + gh = 3 ∧ s39 = .int .i64 (i : Int) ∧ WrI B0 M p a R w g bn (bn + 1) D FA FB FC res i R' x wr)
        case atStart => exact ⟨0, R2, x2, rfl, rfl, HI.out⟩
        case round =>
          obtain ⟨i, R', x, hig, rfl, hi⟩ := hrel
          by_cases h3 : i < 3
          · have el : decide ((i : Int) < 3) = true := by simp; omega
            rcases (by omega : i = 0 ∨ i = 1 ∨ i = 2) with rfl | rfl | rfl
            · -- round 0
              have hBr : B0 ≤ wr.heap.size := Nat.le_trans HB0.out hi.out.size
              have hSd : (D ++ (⟨#[47, 109, 101, 116, 97]⟩ : ByteArray)).data.toList = D.data.toList ++ sMeta := by simp [sMeta]
              have hSs : (D ++ (⟨#[47, 109, 101, 116, 97]⟩ : ByteArray)).size ≤ 1073741824 := by rw [ByteArray.size_append]; show D.size + 5 ≤ _; omega
              have HC := Lib.hid (hi.dk.create (a := a) (by show M + 2 ≤ _; omega) hBr hi.env.f (D ++ (⟨#[47, 109, 101, 116, 97]⟩ : ByteArray)) hSs)
              have HI2 := Lib.hid hi
              have HBR := Lib.hid hBr
              have HSD := Lib.hid hSd
              have HSS := Lib.hid hSs
              clear hi hBr hSd hSs el
              have hix := names_at0 wr
              rw [show ((0 : Nat) : Int) = 0 from rfl]
              go_wp2_with fail
              refine HC.out.mono ?_
              rintro e wa ⟨va, Ra, rfl, hva, hda, hoa⟩
              obtain ⟨ka, xa, hra⟩ : ∃ k y, createD x (D ++ (⟨#[47, 109, 101, 116, 97]⟩ : ByteArray)).data.toList = (k, y) := ⟨_, _, rfl⟩
              rw [hra] at hva hda
              have hla : res = seqD ((appendD · (D.data.toList ++ sMeta) FA.data.toList) :: (syncD · (D.data.toList ++ sMeta)) :: wrSteps D.data.toList (fs3 FA FB FC) 1) (ka, xa) := by
                rw [← HI2.out.left]
                exact seqD_on (f := (createD · (D.data.toList ++ sMeta))) (by rw [← HSD.out]; exact hra)
              have hoA := HI2.out.out.trans hoa
              by_cases hka : ka = 0
              · subst hka
                obtain rfl : va = .nilIface := hva
                have HBA := Lib.hid (HI2.out.blks.out hoa)
                have HEA := Lib.hid (HI2.out.env.out hoa HBR.out HI2.out.dk)
                have hba : Below wa.heap.size wa (wa.alloc (.cells #[.string FA] 9)) := (Below.refl _ _).alloc (Nat.le_refl _) _
                have HBRA : Hid (B0 ≤ wa.heap.size) := Lib.hid (Nat.le_trans HBR.out hoa.size)
                have HC2 := Lib.hid ((hda.below hba).append (a := a) (by show M + 2 + 1 ≤ _; omega) (by have := hba.size; have := HBRA.out; omega) (HEA.out.f.below (hba.mono HBRA.out)) (D ++ (⟨#[47, 109, 101, 116, 97]⟩ : ByteArray)) HSS.out _ _ (strs_one (Blk.new wa 9 #[.string FA])) (by show FA.size ≤ _; omega))
                have HDA := Lib.hid hda
                have HLA := Lib.hid hla
                have HOA := Lib.hid hoA
                have mt : wa.cell? ⟨bn + 1, 0, none⟩ = some (.pointer (some ⟨g, 0, none⟩)) := HBA.out.kt.cell 0
                have mg : wa.cell? ⟨g, 0, none⟩ = some (.string FA) := HBA.out.bg.cell 0
                have HBB := Lib.hid hba
                clear hda hla hoA hoa hra hba
                go_wp2_with fail
                refine HC2.out.mono ?_
                rintro e wb ⟨vb, Rb, rfl, hvb, hdb, hob⟩
                obtain ⟨kb, xb, hrb⟩ : ∃ k y, appendD xa (D ++ (⟨#[47, 109, 101, 116, 97]⟩ : ByteArray)).data.toList FA.data.toList = (k, y) := ⟨_, _, rfl⟩
                rw [hrb] at hvb hdb
                have hob2 := (Out.of_below (R := Ra) HBB.out).trans hob
                have hlb : res = seqD ((syncD · (D.data.toList ++ sMeta)) :: wrSteps D.data.toList (fs3 FA FB FC) 1) (kb, xb) := by
                  rw [HLA.out]
                  exact seqD_on (f := (appendD · (D.data.toList ++ sMeta) FA.data.toList)) (by rw [← HSD.out]; exact hrb)
                have hoB := HOA.out.trans hob2
                by_cases hkb : kb = 0
                · subst hkb
                  obtain rfl : vb = .nilIface := hvb
                  have HBB2 := Lib.hid (HBA.out.out hob2)
                  have HEB := Lib.hid (HEA.out.out hob2 HBRA.out HDA.out)
                  have HBRB : Hid (B0 ≤ wb.heap.size) := Lib.hid (Nat.le_trans HBRA.out hob2.size)
                  have HC3 := Lib.hid (hdb.sync (a := a) (by show M + 2 + 1 + FA.size + 1 ≤ _; omega) HBRB.out HEB.out.f (D ++ (⟨#[47, 109, 101, 116, 97]⟩ : ByteArray)) HSS.out)
                  have HDB := Lib.hid hdb
                  have HLB := Lib.hid hlb
                  have HOB := Lib.hid hoB
                  clear hdb hlb hoB hob hob2 hrb mt mg
                  go_wp2_with fail
                  refine HC3.out.mono ?_
                  rintro e wd ⟨vd, Rd, rfl, hvd, hdd, hod⟩
                  obtain ⟨kd, xd, hrd⟩ : ∃ k y, syncD xb (D ++ (⟨#[47, 109, 101, 116, 97]⟩ : ByteArray)).data.toList = (k, y) := ⟨_, _, rfl⟩
                  rw [hrd] at hvd hdd
                  have hld : res = seqD (wrSteps D.data.toList (fs3 FA FB FC) 1) (kd, xd) := by
                    rw [HLB.out]
                    exact seqD_on (f := (syncD · (D.data.toList ++ sMeta))) (by rw [← HSD.out]; exact hrd)
                  have hoD := HOB.out.trans hod
                  by_cases hkd : kd = 0
                  · subst hkd
                    obtain rfl : vd = .nilIface := hvd
                    have HI3 : Hid (WrI B0 M p a R w g bn (bn + 1) D FA FB FC res 1 Rd xd wd) := Lib.hid
                      ⟨HBB2.out.out hod, hdd.more (by show M + 2 + 1 + FA.size + 1 + 1 ≤ M + 5 + FA.size; omega), hoD, HEB.out.out hod HBRB.out HDB.out, hld.symm⟩
                    clear hdd hld hoD hod hrd
                    go_wp2_with fail
                    go_roundg (gk - 1)
                    case measure => omega
                    case rel => exact ⟨1, Rd, xd, by omega, by go_num, HI3.out⟩
                  · clear hod hrd
                    have HKx := Lib.hid hkd
                    have HVx := Lib.hid hvd
                    have HLx := Lib.hid hld
                    have HOx := Lib.hid hoD
                    have HDx := Lib.hid hdd
                    obtain ⟨q, op, path, rfl, hq1, hq2⟩ := hvd.some_ hkd
                    clear hkd hvd hld hoD hdd hq1 hq2
                    go_wp2_with fail
                    go_ret
                    rw [HR2.out, HLx.out, seqD_off HKx.out]
                    exact ⟨_, Rd, rfl, HVx.out, HDx.out.more (by show M + 2 + 1 + FA.size + 1 + 1 ≤ _; omega), HOx.out⟩
                · clear hob hob2 hrb mt mg
                  have HKx := Lib.hid hkb
                  have HVx := Lib.hid hvb
                  have HLx := Lib.hid hlb
                  have HOx := Lib.hid hoB
                  have HDx := Lib.hid hdb
                  obtain ⟨q, op, path, rfl, hq1, hq2⟩ := hvb.some_ hkb
                  clear hkb hvb hlb hoB hdb hq1 hq2
                  go_wp2_with fail
                  go_ret
                  rw [HR2.out, HLx.out, seqD_off HKx.out]
                  exact ⟨_, Rb, rfl, HVx.out, HDx.out.more (by show M + 2 + 1 + FA.size + 1 ≤ _; omega), HOx.out⟩
              · clear hoa hra
                have HKx := Lib.hid hka
                have HVx := Lib.hid hva
                have HLx := Lib.hid hla
                have HOx := Lib.hid hoA
                have HDx := Lib.hid hda
                obtain ⟨q, op, path, rfl, hq1, hq2⟩ := hva.some_ hka
                clear hka hva hla hoA hda hq1 hq2
                go_wp2_with fail
                go_ret
                rw [HR2.out, HLx.out, seqD_off HKx.out]
                exact ⟨_, Ra, rfl, HVx.out, HDx.out.more (by show M + 2 + 1 ≤ _; omega), HOx.out⟩
            · -- round 1
              have hBr : B0 ≤ wr.heap.size := Nat.le_trans HB0.out hi.out.size
              have hSd : (D ++ (⟨#[47, 99, 104, 117, 110, 107, 115]⟩ : ByteArray)).data.toList = D.data.toList ++ sChunks := by simp [sChunks]
              have hSs : (D ++ (⟨#[47, 99, 104, 117, 110, 107, 115]⟩ : ByteArray)).size ≤ 1073741824 := by rw [ByteArray.size_append]; show D.size + 7 ≤ _; omega
              have HC := Lib.hid (hi.dk.create (a := a) (by show M + 5 + FA.size ≤ _; omega) hBr hi.env.f (D ++ (⟨#[47, 99, 104, 117, 110, 107, 115]⟩ : ByteArray)) hSs)
              have HI2 := Lib.hid hi
              have HBR := Lib.hid hBr
              have HSD := Lib.hid hSd
              have HSS := Lib.hid hSs
              clear hi hBr hSd hSs el
              have hix := names_at1 wr
              rw [show ((1 : Nat) : Int) = 1 from rfl]
              go_wp2_with fail
              refine HC.out.mono ?_
              rintro e wa ⟨va, Ra, rfl, hva, hda, hoa⟩
              obtain ⟨ka, xa, hra⟩ : ∃ k y, createD x (D ++ (⟨#[47, 99, 104, 117, 110, 107, 115]⟩ : ByteArray)).data.toList = (k, y) := ⟨_, _, rfl⟩
              rw [hra] at hva hda
              have hla : res = seqD ((appendD · (D.data.toList ++ sChunks) FB.data.toList) :: (syncD · (D.data.toList ++ sChunks)) :: wrSteps D.data.toList (fs3 FA FB FC) 2) (ka, xa) := by
                rw [← HI2.out.left]
                exact seqD_on (f := (createD · (D.data.toList ++ sChunks))) (by rw [← HSD.out]; exact hra)
              have hoA := HI2.out.out.trans hoa
              by_cases hka : ka = 0
              · subst hka
                obtain rfl : va = .nilIface := hva
                have HBA := Lib.hid (HI2.out.blks.out hoa)
                have HEA := Lib.hid (HI2.out.env.out hoa HBR.out HI2.out.dk)
                have hba : Below wa.heap.size wa (wa.alloc (.cells #[.string FB] 9)) := (Below.refl _ _).alloc (Nat.le_refl _) _
                have HBRA : Hid (B0 ≤ wa.heap.size) := Lib.hid (Nat.le_trans HBR.out hoa.size)
                have HC2 := Lib.hid ((hda.below hba).append (a := a) (by show M + 5 + FA.size + 1 ≤ _; omega) (by have := hba.size; have := HBRA.out; omega) (HEA.out.f.below (hba.mono HBRA.out)) (D ++ (⟨#[47, 99, 104, 117, 110, 107, 115]⟩ : ByteArray)) HSS.out _ _ (strs_one (Blk.new wa 9 #[.string FB])) (by show FB.size ≤ _; omega))
                have HDA := Lib.hid hda
                have HLA := Lib.hid hla
                have HOA := Lib.hid hoA
                have mt : wa.cell? ⟨bn + 1, 1, none⟩ = some (.pointer (some ⟨g, 1, none⟩)) := HBA.out.kt.cell 1
                have mg : wa.cell? ⟨g, 1, none⟩ = some (.string FB) := HBA.out.bg.cell 1
                have HBB := Lib.hid hba
                clear hda hla hoA hoa hra hba
                go_wp2_with fail
                refine HC2.out.mono ?_
                rintro e wb ⟨vb, Rb, rfl, hvb, hdb, hob⟩
                obtain ⟨kb, xb, hrb⟩ : ∃ k y, appendD xa (D ++ (⟨#[47, 99, 104, 117, 110, 107, 115]⟩ : ByteArray)).data.toList FB.data.toList = (k, y) := ⟨_, _, rfl⟩
                rw [hrb] at hvb hdb
                have hob2 := (Out.of_below (R := Ra) HBB.out).trans hob
                have hlb : res = seqD ((syncD · (D.data.toList ++ sChunks)) :: wrSteps D.data.toList (fs3 FA FB FC) 2) (kb, xb) := by
                  rw [HLA.out]
                  exact seqD_on (f := (appendD · (D.data.toList ++ sChunks) FB.data.toList)) (by rw [← HSD.out]; exact hrb)
                have hoB := HOA.out.trans hob2
                by_cases hkb : kb = 0
                · subst hkb
                  obtain rfl : vb = .nilIface := hvb
                  have HBB2 := Lib.hid (HBA.out.out hob2)
                  have HEB := Lib.hid (HEA.out.out hob2 HBRA.out HDA.out)
                  have HBRB : Hid (B0 ≤ wb.heap.size) := Lib.hid (Nat.le_trans HBRA.out hob2.size)
                  have HC3 := Lib.hid (hdb.sync (a := a) (by show M + 5 + FA.size + 1 + FB.size + 1 ≤ _; omega) HBRB.out HEB.out.f (D ++ (⟨#[47, 99, 104, 117, 110, 107, 115]⟩ : ByteArray)) HSS.out)
                  have HDB := Lib.hid hdb
                  have HLB := Lib.hid hlb
                  have HOB := Lib.hid hoB
                  clear hdb hlb hoB hob hob2 hrb mt mg
                  go_wp2_with fail
                  refine HC3.out.mono ?_
                  rintro e wd ⟨vd, Rd, rfl, hvd, hdd, hod⟩
                  obtain ⟨kd, xd, hrd⟩ : ∃ k y, syncD xb (D ++ (⟨#[47, 99, 104, 117, 110, 107, 115]⟩ : ByteArray)).data.toList = (k, y) := ⟨_, _, rfl⟩
                  rw [hrd] at hvd hdd
                  have hld : res = seqD (wrSteps D.data.toList (fs3 FA FB FC) 2) (kd, xd) := by
                    rw [HLB.out]
                    exact seqD_on (f := (syncD · (D.data.toList ++ sChunks))) (by rw [← HSD.out]; exact hrd)
                  have hoD := HOB.out.trans hod
                  by_cases hkd : kd = 0
                  · subst hkd
                    obtain rfl : vd = .nilIface := hvd
                    have HI3 : Hid (WrI B0 M p a R w g bn (bn + 1) D FA FB FC res 2 Rd xd wd) := Lib.hid
                      ⟨HBB2.out.out hod, hdd.more (by show M + 5 + FA.size + 1 + FB.size + 1 + 1 ≤ M + 8 + FA.size + FB.size; omega), hoD, HEB.out.out hod HBRB.out HDB.out, hld.symm⟩
                    clear hdd hld hoD hod hrd
                    go_wp2_with fail
                    go_roundg (gk - 1)
                    case measure => omega
                    case rel => exact ⟨2, Rd, xd, by omega, by go_num, HI3.out⟩
                  · clear hod hrd
                    have HKx := Lib.hid hkd
                    have HVx := Lib.hid hvd
                    have HLx := Lib.hid hld
                    have HOx := Lib.hid hoD
                    have HDx := Lib.hid hdd
                    obtain ⟨q, op, path, rfl, hq1, hq2⟩ := hvd.some_ hkd
                    clear hkd hvd hld hoD hdd hq1 hq2
                    go_wp2_with fail
                    go_ret
                    rw [HR2.out, HLx.out, seqD_off HKx.out]
                    exact ⟨_, Rd, rfl, HVx.out, HDx.out.more (by show M + 5 + FA.size + 1 + FB.size + 1 + 1 ≤ _; omega), HOx.out⟩
                · clear hob hob2 hrb mt mg
                  have HKx := Lib.hid hkb
                  have HVx := Lib.hid hvb
                  have HLx := Lib.hid hlb
                  have HOx := Lib.hid hoB
                  have HDx := Lib.hid hdb
                  obtain ⟨q, op, path, rfl, hq1, hq2⟩ := hvb.some_ hkb
                  clear hkb hvb hlb hoB hdb hq1 hq2
                  go_wp2_with fail
                  go_ret
                  rw [HR2.out, HLx.out, seqD_off HKx.out]
                  exact ⟨_, Rb, rfl, HVx.out, HDx.out.more (by show M + 5 + FA.size + 1 + FB.size + 1 ≤ _; omega), HOx.out⟩
              · clear hoa hra
                have HKx := Lib.hid hka
                have HVx := Lib.hid hva
                have HLx := Lib.hid hla
                have HOx := Lib.hid hoA
                have HDx := Lib.hid hda
                obtain ⟨q, op, path, rfl, hq1, hq2⟩ := hva.some_ hka
                clear hka hva hla hoA hda hq1 hq2
                go_wp2_with fail
                go_ret
                rw [HR2.out, HLx.out, seqD_off HKx.out]
                exact ⟨_, Ra, rfl, HVx.out, HDx.out.more (by show M + 5 + FA.size + 1 ≤ _; omega), HOx.out⟩
            · -- round 2
              have hBr : B0 ≤ wr.heap.size := Nat.le_trans HB0.out hi.out.size
              have hSd : (D ++ (⟨#[47, 105, 110, 100, 101, 120]⟩ : ByteArray)).data.toList = D.data.toList ++ sIndex := by simp [sIndex]
              have hSs : (D ++ (⟨#[47, 105, 110, 100, 101, 120]⟩ : ByteArray)).size ≤ 1073741824 := by rw [ByteArray.size_append]; show D.size + 6 ≤ _; omega
              have HC := Lib.hid (hi.dk.create (a := a) (by show M + 8 + FA.size + FB.size ≤ _; omega) hBr hi.env.f (D ++ (⟨#[47, 105, 110, 100, 101, 120]⟩ : ByteArray)) hSs)
              have HI2 := Lib.hid hi
              have HBR := Lib.hid hBr
              have HSD := Lib.hid hSd
              have HSS := Lib.hid hSs
              clear hi hBr hSd hSs el
              have hix := names_at2 wr
              rw [show ((2 : Nat) : Int) = 2 from rfl]
              go_wp2_with fail
              refine HC.out.mono ?_
              rintro e wa ⟨va, Ra, rfl, hva, hda, hoa⟩
              obtain ⟨ka, xa, hra⟩ : ∃ k y, createD x (D ++ (⟨#[47, 105, 110, 100, 101, 120]⟩ : ByteArray)).data.toList = (k, y) := ⟨_, _, rfl⟩
              rw [hra] at hva hda
              have hla : res = seqD ((appendD · (D.data.toList ++ sIndex) FC.data.toList) :: (syncD · (D.data.toList ++ sIndex)) :: wrSteps D.data.toList (fs3 FA FB FC) 3) (ka, xa) := by
                rw [← HI2.out.left]
                exact seqD_on (f := (createD · (D.data.toList ++ sIndex))) (by rw [← HSD.out]; exact hra)
              have hoA := HI2.out.out.trans hoa
              by_cases hka : ka = 0
              · subst hka
                obtain rfl : va = .nilIface := hva
                have HBA := Lib.hid (HI2.out.blks.out hoa)
                have HEA := Lib.hid (HI2.out.env.out hoa HBR.out HI2.out.dk)
                have hba : Below wa.heap.size wa (wa.alloc (.cells #[.string FC] 9)) := (Below.refl _ _).alloc (Nat.le_refl _) _
                have HBRA : Hid (B0 ≤ wa.heap.size) := Lib.hid (Nat.le_trans HBR.out hoa.size)
                have HC2 := Lib.hid ((hda.below hba).append (a := a) (by show M + 8 + FA.size + FB.size + 1 ≤ _; omega) (by have := hba.size; have := HBRA.out; omega) (HEA.out.f.below (hba.mono HBRA.out)) (D ++ (⟨#[47, 105, 110, 100, 101, 120]⟩ : ByteArray)) HSS.out _ _ (strs_one (Blk.new wa 9 #[.string FC])) (by show FC.size ≤ _; omega))
                have HDA := Lib.hid hda
                have HLA := Lib.hid hla
                have HOA := Lib.hid hoA
                have mt : wa.cell? ⟨bn + 1, 2, none⟩ = some (.pointer (some ⟨g, 2, none⟩)) := HBA.out.kt.cell 2
                have mg : wa.cell? ⟨g, 2, none⟩ = some (.string FC) := HBA.out.bg.cell 2
                have HBB := Lib.hid hba
                clear hda hla hoA hoa hra hba
                go_wp2_with fail
                refine HC2.out.mono ?_
                rintro e wb ⟨vb, Rb, rfl, hvb, hdb, hob⟩
                obtain ⟨kb, xb, hrb⟩ : ∃ k y, appendD xa (D ++ (⟨#[47, 105, 110, 100, 101, 120]⟩ : ByteArray)).data.toList FC.data.toList = (k, y) := ⟨_, _, rfl⟩
                rw [hrb] at hvb hdb
                have hob2 := (Out.of_below (R := Ra) HBB.out).trans hob
                have hlb : res = seqD ((syncD · (D.data.toList ++ sIndex)) :: wrSteps D.data.toList (fs3 FA FB FC) 3) (kb, xb) := by
                  rw [HLA.out]
                  exact seqD_on (f := (appendD · (D.data.toList ++ sIndex) FC.data.toList)) (by rw [← HSD.out]; exact hrb)
                have hoB := HOA.out.trans hob2
                by_cases hkb : kb = 0
                · subst hkb
                  obtain rfl : vb = .nilIface := hvb
                  have HBB2 := Lib.hid (HBA.out.out hob2)
                  have HEB := Lib.hid (HEA.out.out hob2 HBRA.out HDA.out)
                  have HBRB : Hid (B0 ≤ wb.heap.size) := Lib.hid (Nat.le_trans HBRA.out hob2.size)
                  have HC3 := Lib.hid (hdb.sync (a := a) (by show M + 8 + FA.size + FB.size + 1 + FC.size + 1 ≤ _; omega) HBRB.out HEB.out.f (D ++ (⟨#[47, 105, 110, 100, 101, 120]⟩ : ByteArray)) HSS.out)
                  have HDB := Lib.hid hdb
                  have HLB := Lib.hid hlb
                  have HOB := Lib.hid hoB
                  clear hdb hlb hoB hob hob2 hrb mt mg
                  go_wp2_with fail
                  refine HC3.out.mono ?_
                  rintro e wd ⟨vd, Rd, rfl, hvd, hdd, hod⟩
                  obtain ⟨kd, xd, hrd⟩ : ∃ k y, syncD xb (D ++ (⟨#[47, 105, 110, 100, 101, 120]⟩ : ByteArray)).data.toList = (k, y) := ⟨_, _, rfl⟩
                  rw [hrd] at hvd hdd
                  have hld : res = seqD (wrSteps D.data.toList (fs3 FA FB FC) 3) (kd, xd) := by
                    rw [HLB.out]
                    exact seqD_on (f := (syncD · (D.data.toList ++ sIndex))) (by rw [← HSD.out]; exact hrd)
                  have hoD := HOB.out.trans hod
                  by_cases hkd : kd = 0
                  · subst hkd
                    obtain rfl : vd = .nilIface := hvd
                    have HI3 : Hid (WrI B0 M p a R w g bn (bn + 1) D FA FB FC res 3 Rd xd wd) := Lib.hid
                      ⟨HBB2.out.out hod, hdd.more (by show M + 8 + FA.size + FB.size + 1 + FC.size + 1 + 1 ≤ M + 11 + FA.size + FB.size + FC.size; omega), hoD, HEB.out.out hod HBRB.out HDB.out, hld.symm⟩
                    clear hdd hld hoD hod hrd
                    go_wp2_with fail
                    go_roundg (gk - 1)
                    case measure => omega
                    case rel => exact ⟨3, Rd, xd, by omega, by go_num, HI3.out⟩
                  · clear hod hrd
                    have HKx := Lib.hid hkd
                    have HVx := Lib.hid hvd
                    have HLx := Lib.hid hld
                    have HOx := Lib.hid hoD
                    have HDx := Lib.hid hdd
                    obtain ⟨q, op, path, rfl, hq1, hq2⟩ := hvd.some_ hkd
                    clear hkd hvd hld hoD hdd hq1 hq2
                    go_wp2_with fail
                    go_ret
                    rw [HR2.out, HLx.out, seqD_off HKx.out]
                    exact ⟨_, Rd, rfl, HVx.out, HDx.out.more (by show M + 8 + FA.size + FB.size + 1 + FC.size + 1 + 1 ≤ _; omega), HOx.out⟩
                · clear hob hob2 hrb mt mg
                  have HKx := Lib.hid hkb
                  have HVx := Lib.hid hvb
                  have HLx := Lib.hid hlb
                  have HOx := Lib.hid hoB
                  have HDx := Lib.hid hdb
                  obtain ⟨q, op, path, rfl, hq1, hq2⟩ := hvb.some_ hkb
                  clear hkb hvb hlb hoB hdb hq1 hq2
                  go_wp2_with fail
                  go_ret
                  rw [HR2.out, HLx.out, seqD_off HKx.out]
                  exact ⟨_, Rb, rfl, HVx.out, HDx.out.more (by show M + 8 + FA.size + FB.size + 1 + FC.size + 1 ≤ _; omega), HOx.out⟩
              · clear hoa hra
                have HKx := Lib.hid hka
                have HVx := Lib.hid hva
                have HLx := Lib.hid hla
                have HOx := Lib.hid hoA
                have HDx := Lib.hid hda
                obtain ⟨q, op, path, rfl, hq1, hq2⟩ := hva.some_ hka
                clear hka hva hla hoA hda hq1 hq2
                go_wp2_with fail
                go_ret
                rw [HR2.out, HLx.out, seqD_off HKx.out]
                exact ⟨_, Ra, rfl, HVx.out, HDx.out.more (by show M + 8 + FA.size + FB.size + 1 ≤ _; omega), HOx.out⟩
          · have el : decide ((i : Int) < 3) = false := by simp; omega
            obtain rfl : i = 3 := by omega
            have HI2 := Lib.hid hi
            clear hi
            go_wp2_with fail
            go_ret
            have hres : res = (0, x) := HI2.out.left.symm
            rw [HR2.out, hres]
            exact ⟨_, R', rfl, rfl, HI2.out.dk.more (by show M + 11 + FA.size + FB.size + FC.size ≤ _; omega), HI2.out.out⟩
      · have HK2 := Lib.hid hk2
        have HV2 := Lib.hid hv2
        obtain ⟨q, op, path, rfl, hq1, hq2⟩ := hv2.some_ hk2
        clear hk2 hv2 hq1 hq2
        go_wp2_with fail
        go_ret
        rw [HR2.out, seqD_off HK2.out]
        exact ⟨_, R2, rfl, HV2.out, HD2.out.more (by omega), HO2.out⟩
end
end Go.Proofs.YtfpgbhimgfdddaaGreatDoor

/- The walks of layer 20 (store): names. -/
namespace Go.Proofs.YtfpgbhimgfdddaaGreatDoor
open Go.RowKit Go.Shelf Go.Sort
attribute [local go_sem ↓] Go.wp_at_zero Go.wp_at_succ
attribute [local go_sem] Later.cell Later.frozen

/-! ### names, plain -/
/-- The last k digits of n. -/
def padN : Nat → Nat → Txt
  | 0, _ => []
  | k + 1, n => padN k (n / 10) ++ [UInt8.ofNat (48 + n % 10)]
def nameT (letter : Txt) (n : Int) : Txt := if n < 1 ∨ 99999999 < n then [] else letter ++ padN 8 n.toNat
theorem padN_len : ∀ k n, (padN k n).length = k
  | 0, _ => rfl
  | k + 1, n => by rw [padN, List.length_append, padN_len k]; rfl
theorem padN_zero : ∀ k, padN k 0 = List.replicate k 48
  | 0 => rfl
  | k + 1 => by rw [padN, Nat.zero_div, padN_zero k, List.replicate_succ']; rfl
theorem pad_dec : ∀ (k n : Nat), n < 10 ^ (k + 1) → (Lib.decDigits n).length ≤ k + 1 ∧ List.replicate (k + 1 - (Lib.decDigits n).length) 48 ++ Lib.decDigits n = padN (k + 1) n
  | 0, n, h => by
    rw [Lib.decDigits_one (by omega)]
    have : n % 10 = n := by omega
    simp [padN, this]
  | k + 1, n, h => by
    by_cases h10 : n < 10
    · rw [Lib.decDigits_one h10, padN, show n / 10 = 0 by omega, padN_zero, show n % 10 = n by omega]
      simp
    · have ih := pad_dec k (n / 10) (by rw [Nat.pow_succ] at h; omega)
      have e : Lib.decDigits n = Lib.decDigits (n / 10) ++ [UInt8.ofNat (48 + n % 10)] := by rw [Lib.decDigits, dif_neg h10]
      rw [e, List.length_append, padN, ← ih.2, ← List.append_assoc]
      have h1 := ih.1
      constructor
      · simp; omega
      · simp only [List.length_singleton]
        rw [show k + 1 + 1 - ((Lib.decDigits (n / 10)).length + 1) = k + 1 - (Lib.decDigits (n / 10)).length by omega]
theorem repeat_one (b : UInt8) : ∀ c, Lib.repeatL [b] c = List.replicate c b
  | 0 => rfl
  | c + 1 => by rw [Lib.repeatL, repeat_one b c, List.replicate_succ]; rfl

/-! ### the table of powers -/
def PowTab (w : World) : Prop := Lib.TabIs Tryz.prog w "internal/strconv.uint64pow10" .u64 Lib.pow10Tab
theorem var_below {P : Program} {B g : Nat} {W W' : World} {n : String} {cs : Array Value} (h : Below B W W') (hg : P.globalNamed n = some g) (hgB : g < B) (hv : W.var? P n = some cs) : W'.var? P n = some cs := by
  unfold World.var? at hv ⊢
  simp only [hg, Option.bind_some] at hv ⊢
  rw [h.block g hgB]
  exact hv
theorem PowTab.below {B : Nat} {w w' : World} (h : PowTab w) (hB : 9 < B) (hb : Below B w w') : PowTab w' := var_below hb (by kernel_rfl) hB h
theorem below_drewN (w : World) : ∀ k, Below w.heap.size w (w.drewN k)
  | 0 => Below.refl _ _
  | k + 1 => (below_drewN w k).drew
theorem below_grow {B : Nat} {w w' : World} (h : Below B w w') (hB : B ≤ w.heap.size) (os : Array Obj) : Below B w (grow w' os) :=
  ⟨h.os, h.tape, h.output, by have := h.size; simp [grow]; omega, fun k hk => by
    rw [← h.block k hk]
    simp only [grow]
    exact Array.getElem?_append_left (by have := h.size; omega)⟩
set_option maxRecDepth 100000 in
set_option maxHeartbeats 1000000 in
theorem sname_calls (L : ByteArray) (n : Int) (h1 : -9223372036854775808 ≤ n) (h2 : n ≤ 9223372036854775807) (hL : L.size ≤ 1000) (w : World) (hT : PowTab w) :
    Calls Tryz.prog 71 #[.string L, .int .i64 n] w fun e w' => e = .returned (.string ⟨(nameT L.data.toList n).toArray⟩) ∧ Below w.heap.size w w' := by
  by_cases hlo : n < 1
  · have d1 : decide (n < 1) = true := by simpa using hlo
    have hf : nameT L.data.toList n = [] := by unfold nameT; rw [if_pos (.inl hlo)]
    rw [hf]
    clear hf
    go_enter Tryz.func71, Tryz.ntmps71
    go_wp2_with fail
    go_ret
    exact ⟨rfl, Below.refl _ _⟩
  · have d1 : decide (n < 1) = false := by simpa using hlo
    by_cases hhi : 99999999 < n
    · have d2 : decide (99999999 < n) = true := by simpa using hhi
      have hf : nameT L.data.toList n = [] := by unfold nameT; rw [if_pos (.inr hhi)]
      rw [hf]
      clear hf
      go_enter Tryz.func71, Tryz.ntmps71
      go_wp2_with fail
      go_ret
      exact ⟨rfl, Below.refl _ _⟩
    · have d2 : decide (99999999 < n) = false := by simpa using hhi
      have hf : nameT L.data.toList n = L.data.toList ++ padN 8 n.toNat := by unfold nameT; rw [if_neg (by omega)]
      obtain ⟨hd1, hd2⟩ := pad_dec 7 n.toNat (by omega)
      have hit : Lib.itoa n = Lib.decDigits n.toNat := by unfold Lib.itoa; rw [if_neg (by omega)]
      obtain ⟨D, hD⟩ : ∃ D : ByteArray, (⟨(Lib.itoa n).toArray⟩ : ByteArray) = D := ⟨_, rfl⟩
      have hDl : D.data.toList = Lib.decDigits n.toNat := by rw [← hD, hit]
      have hDs : D.size ≤ 8 := by rw [← text_size3, hDl]; exact hd1
      obtain ⟨c, hc⟩ : ∃ c : Nat, (8 : Int) - (D.size : Int) = (c : Int) := ⟨8 - D.size, by omega⟩
      obtain ⟨Z, hZ⟩ : ∃ Z : ByteArray, (⟨(Lib.repeatL (⟨#[48]⟩ : ByteArray).data.toList c).toArray⟩ : ByteArray) = Z := ⟨_, rfl⟩
      have hZl : Z.data.toList = List.replicate c 48 := by rw [← hZ]; exact repeat_one 48 c
      have hZs : Z.size ≤ 8 := by rw [← text_size3, hZl, List.length_replicate]; omega
      have HIT := Lib.hid (Tryz.strconv_Itoa n h1 h2 w hT)
      have HRP := Lib.hid (fun w => Tryz.strings_Repeat ⟨#[48]⟩ c w (by omega) (by show 1 * c ≤ _; omega))
      rw [hD] at HIT
      rw [hZ] at HRP
      have hfin : L ++ Z ++ D = (⟨(nameT L.data.toList n).toArray⟩ : ByteArray) := by
        refine bytes_eq ?_
        have e : 7 + 1 - (Lib.decDigits n.toNat).length = c := by rw [← hDl, text_size3]; omega
        rw [e] at hd2
        rw [hf, ← hd2]
        simp [ByteArray.data_append, hZl, hDl]
      have HFIN := Lib.hid hfin
      clear hf hd1 hd2 hit hD hDl hZ hZl hfin
      go_enter Tryz.func71, Tryz.ntmps71
      go_wp2_with fail
      refine HIT.out.mono ?_
      rintro _ w1 ⟨rfl, k, os, rfl⟩
      have hb1 : Below w.heap.size w (grow (w.drewN k) os) := below_grow (below_drewN w k) (Nat.le_refl _) os
      obtain ⟨w1, hw1⟩ : ∃ x, grow (w.drewN k) os = x := ⟨_, rfl⟩
      rw [hw1] at hb1 ⊢
      clear hw1
      go_wp2_with fail
      refine (HRP.out w1).mono ?_
      rintro _ w2 ⟨rfl, hb2⟩
      have HB := Lib.hid (then_ hb1 hb2)
      clear hb1 hb2
      go_wp2_with fail
      rw [HFIN.out]
      go_ret
      exact ⟨rfl, HB.out⟩
end Go.Proofs.YtfpgbhimgfdddaaGreatDoor
