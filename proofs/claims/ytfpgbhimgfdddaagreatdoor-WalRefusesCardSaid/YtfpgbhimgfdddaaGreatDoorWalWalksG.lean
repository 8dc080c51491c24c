/- The walks of layer 16 (wal): Open. -/
import Derived.Test.YtfpgbhimgfdddaaGreatDoorWalWalksF
import Derived.Test.YtfpgbhimgfdddaaGreatDoorWak16
set_option linter.unusedVariables false
set_option linter.unusedSimpArgs false
namespace Go.Proofs.YtfpgbhimgfdddaaGreatDoor
open Go.RowKit Go.Shelf Go.Sort
attribute [local go_sem ↓] Go.wp_at_zero Go.wp_at_succ
attribute [local go_sem] Later.cell Later.frozen

section
variable {B0 M p g : Nat} {a : Nat → Addr} {R R' R'' : Nat → Nat} {d : Ds} {w w' w'' : World} {D : ByteArray} {size last used : Int}
theorem OutG.out (h : OutG g R' R'' w' w'') (h0 : Out R R' w w') (hg : w.heap.size ≤ g) : Out R R'' w w'' :=
  ⟨h.os.trans h0.os, h.tape.trans h0.tape, h.output.trans h0.output, Nat.le_trans h0.size h.size,
   fun k hk hr => (h.block k (Nat.lt_of_lt_of_le hk h0.size) (h0.old k hk hr) (by omega)).trans (h0.block k hk hr),
   fun k hk hr => h.old k (Nat.lt_of_lt_of_le hk h0.size) (h0.old k hk hr)⟩
set_option maxHeartbeats 1000000 in
theorem open_nil (D : ByteArray) (from_ size : Int) (w : World) :
    Calls Tryz.prog 32 #[.pointer none, .string D, .int .i64 from_, .int .i64 size] w fun e w' => e = .returned (.tuple #[.pointer none, .slice none 0 0, .iface 26 (.int .i64 1)]) ∧ Below w.heap.size w w' := by
  go_enter Tryz.func32, Tryz.ntmps32
  go_wp2_with fail
  go_ret3
  exact ⟨rfl, Below.refl _ _⟩
set_option maxHeartbeats 1000000 in
theorem open_limits (D : ByteArray) (from_ size : Int) (hb : from_ < 1 ∨ 99999999 < from_ ∨ size < 1) (p : Nat) (w : World) :
    Calls Tryz.prog 32 #[.pointer (some ⟨p, 0, none⟩), .string D, .int .i64 from_, .int .i64 size] w fun e w' => e = .returned (.tuple #[.pointer none, .slice none 0 0, .iface 26 (.int .i64 2)]) ∧ Below w.heap.size w w' := by
  by_cases h1 : from_ < 1
  · have d1 : decide (from_ < 1) = true := by simpa using h1
    go_enter Tryz.func32, Tryz.ntmps32
    go_wp2_with fail
    go_ret3
    exact ⟨rfl, Below.refl _ _⟩
  · have d1 : decide (from_ < 1) = false := by simpa using h1
    by_cases h2 : 99999999 < from_
    · have d2 : decide (99999999 < from_) = true := by simpa using h2
      go_enter Tryz.func32, Tryz.ntmps32
      go_wp2_with fail
      go_ret3
      exact ⟨rfl, Below.refl _ _⟩
    · have d2 : decide (99999999 < from_) = false := by simpa using h2
      have h3 : size < 1 := by omega
      have d3 : decide (size < 1) = true := by simpa using h3
      go_enter Tryz.func32, Tryz.ntmps32
      go_wp2_with fail
      go_ret3
      exact ⟨rfl, Below.refl _ _⟩
set_option maxRecDepth 100000 in
set_option maxHeartbeats 4000000 in
theorem open_new (hDs : D.size ≤ 1000) (hDn : nameB D.data.toList = true) (from_ : Nat) (hf1 : 1 ≤ from_) (hf : from_ ≤ 99999999) (hs1 : 1 ≤ size) (w : World) (hD : Dk B0 M w R p d) (hM : M + 4 ≤ 536870912) (hC : SCon B0 a) (hE : SEnv B0 a w) (h6 : Fail6 B0 a w)
    (d1 d2 : Ds) (hmk : mkdirD d D.data.toList = (0, d1)) (hsy : syncNamesD d1 = (0, d2))
    (hl : listD d2 D.data.toList = ([], 0)) (hcr : (createD d2 (wP D.data.toList (from_ : Int))).1 = 0) (hsn : (syncNamesD (createD d2 (wP D.data.toList (from_ : Int))).2).1 = 0) :
    Calls Tryz.prog 32 #[.pointer (some ⟨p, 0, none⟩), .string D, .int .i64 (from_ : Int), .int .i64 size] w fun e w' => ∃ g R', e = .returned (.tuple #[.pointer (some ⟨g, 0, none⟩), .slice none 0 0, .nilIface]) ∧
      w.heap.size ≤ g ∧ WAt B0 a (M + 4) p g R' D size (from_ : Int) 0 (beginD D.data.toList d2 (from_ : Int)) w' ∧ Out R R' w w' := by
  have HMK := Lib.hid (hD.mkdir (by omega) hE.hb hE.e.f D (by omega))
  rw [hmk] at HMK
  have HD := Lib.hid hD
  have HC := Lib.hid hC
  have HE := Lib.hid hE
  have H6 := Lib.hid h6
  have HSY := Lib.hid hsy
  have HMM := Lib.hid hM
  have HRC : Hid (∀ (w' : World) (g : Nat) (R : Nat → Nat), WAt B0 a (M + 2) p g R D size 0 0 d2 w' → Calls Tryz.prog 88 #[.pointer (some ⟨g, 0, none⟩), .int .i64 (from_ : Int)] w' fun e w2 => e = .returned (.tuple #[.slice none 0 0, .nilIface]) ∧ ∃ R', WAt B0 a (M + 4) p g R' D size (from_ : Int) 0 (beginD D.data.toList d2 (from_ : Int)) w2 ∧ OutG g R R' w' w2) := Lib.hid fun w' g R h =>
    recover_new hDs hDn from_ hf w' h (by omega) hC hl hcr hsn
  have z1 : decide ((from_ : Int) < 1) = false := by simp; omega
  have z2 : decide ((99999999 : Int) < (from_ : Int)) = false := by simp; omega
  have z3 : decide (size < 1) = false := by simp; omega
  obtain ⟨fz, hfz⟩ : ∃ z : Int, (from_ : Int) = z := ⟨_, rfl⟩
  rw [hfz] at HRC z1 z2 ⊢
  clear hmk hD hC hE h6 hsy hl hcr hsn hfz hf hf1 hs1 hDs hDn hM
  go_enter Tryz.func32, Tryz.ntmps32
  go_wp2_with fail
  refine HMK.out.mono ?_
  rintro e w1 ⟨v1, R1, rfl, hv1, hd1, ho1⟩
  obtain rfl := hv1.z
  have HD1 := Lib.hid hd1
  have HO1 := Lib.hid ho1
  have HE1 := Lib.hid (HE.out.out HC.out HD.out ho1)
  have HSN := Lib.hid (HD1.out.syncNames (by have := HMM.out; omega) HE1.out.hb HE1.out.e.f)
  rw [HSY.out] at HSN
  clear hv1 hd1 ho1
  go_wp2_with fail
  refine HSN.out.mono ?_
  rintro e w2 ⟨v2, R2, rfl, hv2, hd2, ho2⟩
  obtain rfl := hv2.z
  have HD2 := Lib.hid hd2
  have HO2 := Lib.hid (HO1.out.trans ho2)
  have HE2 := Lib.hid (HE1.out.out HC.out HD1.out ho2)
  clear hv2 hd2 ho2
  go_upto_region 13 with fail
  obtain ⟨g, hg⟩ : ∃ g, w2.heap.size = g := ⟨_, rfl⟩
  obtain ⟨w3, hw3⟩ : ∃ x, w2.alloc (.cells #[.pointer (some ⟨p, 0, none⟩), .string D, .int .i64 size, .int .i64 0, .int .i64 0] 175) = x := ⟨_, rfl⟩
  have hb3 : Below w2.heap.size w2 w3 := by rw [← hw3]; exact (Below.refl _ _).alloc (Nat.le_refl _) _
  have HA3 : Hid (WAt B0 a (M + 2) p g R2 D size 0 0 d2 w3) := Lib.hid ⟨HD2.out.below hb3, by rw [← hw3, ← hg]; exact Blk.new _ _ _, HD2.out.new (by omega), by have := HE2.out.hb; omega, HE2.out.low HC.out hb3, H6.out.below ((HO2.out.below HE.out.hb HD.out.low).trans (hb3.mono HE2.out.hb))⟩
  have HO3 := Lib.hid (HO2.out.trans (Out.of_below (R := R2) hb3))
  have HGL : Hid (w.heap.size ≤ g) := Lib.hid (by rw [← hg]; exact HO2.out.size)
  rw [hw3, hg]
  clear hw3 hg hb3
  have HR3 := Lib.hid (HRC.out w3 g R2 HA3.out)
  go_wp2_with fail
  refine HR3.out.mono ?_
  rintro e w4 ⟨rfl, R4, hA4, hog4⟩
  have HA4 := Lib.hid hA4
  have HO4 := Lib.hid (hog4.out HO3.out HGL.out)
  clear hA4 hog4
  go_wp2_with fail
  go_ret3
  exact ⟨g, R4, rfl, HGL.out, HA4.out, HO4.out⟩
end
end Go.Proofs.YtfpgbhimgfdddaaGreatDoor
