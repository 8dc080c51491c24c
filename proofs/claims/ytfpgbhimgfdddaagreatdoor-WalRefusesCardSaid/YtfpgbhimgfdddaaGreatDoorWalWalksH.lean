/- The walks of layer 16 (wal): Open of a directory that is there. -/
import Derived.Test.YtfpgbhimgfdddaaGreatDoorWalWalksG
set_option linter.unusedVariables false
set_option linter.unusedSimpArgs false
namespace Go.Proofs.YtfpgbhimgfdddaaGreatDoor
open Go.RowKit Go.Shelf Go.Sort
attribute [local go_sem ↓] Go.wp_at_zero Go.wp_at_succ
attribute [local go_sem] Later.cell Later.frozen

section
variable {B0 M p g : Nat} {a : Nat → Addr} {R R' R'' : Nat → Nat} {d : Ds} {w w' w'' : World} {D : ByteArray} {size last used : Int}
set_option maxRecDepth 100000 in
set_option maxHeartbeats 4000000 in
theorem open_there (good : Bool) (Q : Value → Value → Nat → (Nat → Nat) → World → World → Prop) (hDs : D.size ≤ 1000) (from_ : Nat) (hf1 : 1 ≤ from_) (hf : from_ ≤ 99999999) (hs1 : 1 ≤ size) (w : World) (hD : Dk B0 M w R p d) (hM : M + 4 ≤ 536870912) (hC : SCon B0 a) (hE : SEnv B0 a w) (h6 : Fail6 B0 a w)
    (hmk : mkdirD d D.data.toList = (5, d))
    (hK : ∀ (w' : World) (g : Nat) (R : Nat → Nat), WAt B0 a (M + 1) p g R D size 0 0 d w' → Calls Tryz.prog 88 #[.pointer (some ⟨g, 0, none⟩), .int .i64 (from_ : Int)] w' fun e w2 => ∃ u v, e = .returned (.tuple #[u, v]) ∧ (good = true → v = .nilIface) ∧ (good = false → ∃ t x, v = .iface t x) ∧ Q u v g R w' w2) :
    Calls Tryz.prog 32 #[.pointer (some ⟨p, 0, none⟩), .string D, .int .i64 (from_ : Int), .int .i64 size] w fun e w' => ∃ g u v R1 w1, e = .returned (.tuple #[if good then .pointer (some ⟨g, 0, none⟩) else .pointer none, if good then u else .slice none 0 0, v]) ∧
      w.heap.size ≤ g ∧ Q u v g R1 w1 w' ∧ Out R R1 w w1 ∧ w.heap.size ≤ w1.heap.size := by
  have HMK := Lib.hid (hD.mkdir (by omega) hE.hb hE.e.f D (by omega))
  rw [hmk] at HMK
  have HD := Lib.hid hD
  have HC := Lib.hid hC
  have HE := Lib.hid hE
  have H6 := Lib.hid h6
  have HMM := Lib.hid hM
  have HK := Lib.hid hK
  have z1 : decide ((from_ : Int) < 1) = false := by simp; omega
  have z2 : decide ((99999999 : Int) < (from_ : Int)) = false := by simp; omega
  have z3 : decide (size < 1) = false := by simp; omega
  obtain ⟨fz, hfz⟩ : ∃ z : Int, (from_ : Int) = z := ⟨_, rfl⟩
  rw [hfz] at HK z1 z2 ⊢
  clear hmk hD hC hE h6 hK hfz hf hf1 hs1 hDs hM
  go_enter Tryz.func32, Tryz.ntmps32
  go_wp2_with fail
  refine HMK.out.mono ?_
  rintro e w1 ⟨v1, R1, rfl, hv1, hd1, ho1⟩
  have HE1 := Lib.hid (HE.out.out HC.out HD.out ho1)
  obtain ⟨q, op, path, rfl, hq1, hq2⟩ := hv1.some_ (show (5 : Nat) ≠ 0 by decide)
  have HIS := Lib.hid (is_calls q 5 5 op path w1 hq1 HE1.out.e.s HC.out.ap (by decide) (by decide) (by decide) (by decide))
  have HD1 := Lib.hid hd1
  have HO1 := Lib.hid ho1
  have kg : w1.cell? ⟨1, 0, none⟩ = some (failV a 5) := (HE1.out.e.f 5 (by decide)).2
  unfold failV at kg HIS
  clear hd1 ho1 hq1 hq2 hv1
  go_wp2_with fail
  refine HIS.out.mono ?_
  rintro e w2 ⟨rfl, rfl⟩
  simp only [decide_true]
  clear kg
  go_upto_region 13 with fail
  obtain ⟨g, hg⟩ : ∃ g, w1.heap.size = g := ⟨_, rfl⟩
  obtain ⟨w3, hw3⟩ : ∃ x, w1.alloc (.cells #[.pointer (some ⟨p, 0, none⟩), .string D, .int .i64 size, .int .i64 0, .int .i64 0] 175) = x := ⟨_, rfl⟩
  have hb3 : Below w1.heap.size w1 w3 := by rw [← hw3]; exact (Below.refl _ _).alloc (Nat.le_refl _) _
  have HA3 : Hid (WAt B0 a (M + 1) p g R1 D size 0 0 d w3) := Lib.hid ⟨HD1.out.below hb3, by rw [← hw3, ← hg]; exact Blk.new _ _ _, HD1.out.new (by omega), by have := HE1.out.hb; omega, HE1.out.low HC.out hb3, H6.out.below ((HO1.out.below HE.out.hb HD.out.low).trans (hb3.mono HE1.out.hb))⟩
  have HO3 := Lib.hid (HO1.out.trans (Out.of_below (R := R1) hb3))
  have HGL : Hid (w.heap.size ≤ g) := Lib.hid (by rw [← hg]; exact HO1.out.size)
  rw [hw3, hg]
  clear hw3 hg hb3
  have HR3 := Lib.hid (HK.out w3 g R1 HA3.out)
  go_wp2_with fail
  refine HR3.out.mono ?_
  rintro e w4 ⟨u, v, rfl, hv1, hv2, hq4⟩
  have HQ4 := Lib.hid hq4
  cases good with
  | true =>
    obtain rfl := hv1 rfl
    clear hv1 hv2 hq4
    go_wp2_with fail
    go_ret3
    first | exact ⟨g, u, .nilIface, R1, w3, rfl, HGL.out, HQ4.out, HO3.out, HO3.out.size⟩ | exact ⟨g, u, .nilIface, rfl, HGL.out, R1, w3, HQ4.out, HO3.out, HO3.out.size⟩
  | false =>
    obtain ⟨t, x, rfl⟩ := hv2 rfl
    clear hv1 hv2 hq4
    go_wp2_with fail
    go_ret3
    first | exact ⟨g, u, _, R1, w3, rfl, HGL.out, HQ4.out, HO3.out, HO3.out.size⟩ | exact ⟨g, u, _, rfl, HGL.out, R1, w3, HQ4.out, HO3.out, HO3.out.size⟩
end
end Go.Proofs.YtfpgbhimgfdddaaGreatDoor
