/- The walk of the law StoreSaves (layer 20): a block stands on the disk whole or not at all, whatever step the power goes off at (printed by gen_stosaves.py). -/
import Derived.Test.YtfpgbhimgfdddaaGreatDoorStk34
import Derived.Test.YtfpgbhimgfdddaaGreatDoorStoName
import Derived.Test.YtfpgbhimgfdddaaGreatDoorStk25
import Derived.Test.YtfpgbhimgfdddaaGreatDoorStk19
import Derived.Deep.RegionHeldLaw
import Derived.Lib.IfaceEq
set_option linter.unusedVariables false
set_option linter.unusedSimpArgs false
namespace Go.Proofs.YtfpgbhimgfdddaaGreatDoor
open Go.RowKit Go.Shelf Go.Sort
attribute [local go_sem ↓] Go.wp_at_zero Go.wp_at_succ
attribute [local go_sem] Later.cell Later.frozen

section
variable {B0 M p : Nat} {a : Nat → Addr} {R : Nat → Nat} {d : Ds} {w : World}
theorem err_neq (i : Nat) (w : World) : (binOp .neq 32 (failV a i) (failV a i)).run Tryz.prog w = .ok (.bool false) w := by
  obtain ⟨i0, h1, h2⟩ := Option.map_eq_some_iff.1 info_ep
  obtain ⟨j0, h3, _⟩ := Option.map_eq_some_iff.1 info_es
  unfold failV
  simp only [binOp]
  simp [Op.equal, Op.maxDepth, run_equalIn_iface_ptr_same w 9998 (a i) Tryz.underlying32 Tryz.underlying306 h1 h2 h3]
theorem crash_fresh (n : Int) : ∃ aw, crashD (newD 67108864) n = freshD aw := ⟨_, rfl⟩
set_option maxRecDepth 100000 in
set_option maxHeartbeats 8000000 in
theorem storesaves_at (id at_ names : Int) (FA FB FC : ByteArray) (A : Option Addr) (nd c : Nat) (data : List Int) (z : Bool) (w : World)
    (hid : i64 id) (hat : i64 at_) (hnm : i64 names) (hAc : A = none → c = 0) (hda : Ints3 w A nd data) (hi : ∀ v ∈ data, i64 v)
    (hsa : FA.size ≤ 140737488351232) (hsb : FB.size ≤ 140737488351232) (hsc : FC.size ≤ 140737488351232) (hsd : nd * 8 ≤ 140737488351232) (hC : SCon B0 a) (hE : SEnv B0 a w) :
    Calls Tryz.prog 5 #[.agg #[.int .i64 id, .string FA, .string FB, .string FC, .int .i64 at_, .int .i64 names, .slice A nd c, .bool z]] w fun e w' => e = .returned (.bool true) ∧ Below w.heap.size w w' := by
  obtain ⟨W, hW⟩ : ∃ W, w.alloc (.cells #[.int .i64 id, .string FA, .string FB, .string FC, .int .i64 at_, .int .i64 names, .slice A nd c, .bool z] 60) = W := ⟨_, rfl⟩
  obtain ⟨b, hb⟩ : ∃ b, w.heap.size = b := ⟨_, rfl⟩
  have hbl : Below w.heap.size w W := by rw [← hW]; exact (Below.refl _ _).alloc (Nat.le_refl _) _
  have HK : Hid (Blk W b 60 #[.int .i64 id, .string FA, .string FB, .string FC, .int .i64 at_, .int .i64 names, .slice A nd c, .bool z]) := Lib.hid (by rw [← hW, ← hb]; exact Blk.new _ _ _)
  have HW := Lib.hid hW
  have HG := Lib.hid hb
  have HB := Lib.hid hbl
  have HC := Lib.hid hC
  have HE := Lib.hid (hE.low hC hbl)
  have HDA : Hid (∀ w', Below W.heap.size W w' → Ints3 w' A nd data) := Lib.hid fun w' h => ((hda.below hbl).more hbl.size |>.below h).more h.size
  have HWK : Hid (∀ w', Below W.heap.size W w' → Calls Tryz.prog 13 #[] w' fun e w2 => e = .returned (.bool true) ∧ Below w'.heap.size w' w2) := Lib.hid fun w' h => wakes20_calls w' HC.out (HE.out.low HC.out h)
  unfold i64 at hid hat hnm hi
  have HI := Lib.hid (⟨hid, hat, hnm⟩ : _ ∧ _ ∧ _)
  have HDI := Lib.hid hi
  have HSD := Lib.hid (⟨hsd, hAc⟩ : _ ∧ _)
  clear hC hE hbl hW hb hda hi hid hat hnm hsd hAc
  go_enter Tryz.func5, Tryz.ntmps5
  go_upto_region 1 with fail
  have hW2 : w.alloc (.cells #[.int .i64 id, .string FA, .string FB, .string FC, .int .i64 at_, .int .i64 names, .slice A nd c, .bool z] 60) = W := HW.out
  have hg2 : w.heap.size = b := HG.out
  rw [hW2, hg2]
  clear hW2 hg2
  go_wp2_with fail
  refine (HWK.out W (Below.refl _ _)).mono ?_
  rintro e w1 ⟨rfl, hb1⟩
  have HB1 := Lib.hid hb1
  clear hb1
  have x1 : w1.cell? ⟨b, 1, none⟩ = some (.string FA) := (HK.out.below HB1.out HK.out.lt).cell 1
  have x2 : w1.cell? ⟨b, 2, none⟩ = some (.string FB) := (HK.out.below HB1.out HK.out.lt).cell 2
  have x3 : w1.cell? ⟨b, 3, none⟩ = some (.string FC) := (HK.out.below HB1.out HK.out.lt).cell 3
  by_cases h20 : 1048576 < FA.size + FB.size + FC.size
  · have d1 : decide ((1048576 : Int) < (FA.size : Int) + (FB.size : Int) + (FC.size : Int)) = true := by simp; omega
    have e1 : (1048576 : Int) < (FA.size : Int) + (FB.size : Int) + (FC.size : Int) := by omega
    clear h20
    go_wp2_with fail
    refine (HWK.out w1 HB1.out).mono ?_
    rintro e w2 ⟨rfl, hb2⟩
    have HB2 := Lib.hid (HB1.out.trans (hb2.mono HB1.out.size))
    clear hb2 x1 x2 x3
    go_wp2_with fail
    go_ret
    exact ⟨rfl, HB.out.trans (HB2.out.mono HB.out.size)⟩
  have hn20 : FA.size + FB.size + FC.size ≤ 1048576 := by omega
  have d1 : decide ((1048576 : Int) < (FA.size : Int) + (FB.size : Int) + (FC.size : Int)) = false := by simp; omega
  have e1 : ¬ (1048576 : Int) < (FA.size : Int) + (FB.size : Int) + (FC.size : Int) := by omega
  have HN := Lib.hid hn20
  clear h20
  have HE1 := Lib.hid (HE.out.low HC.out HB1.out)
  have HNEW := Lib.hid (Dk.made 67108864 (by omega) (by omega) w1 HE1.out.hb)
  go_wp2_with fail
  refine HNEW.out.mono ?_
  rintro e w3 ⟨p, R, rfl, hd3, hb3, hz3⟩
  have HE3 := Lib.hid (HE1.out.low HC.out hb3)
  have HD3 := Lib.hid hd3
  have HB3 := Lib.hid (HB1.out.trans (hb3.mono HB1.out.size))
  have HZ3 : Hid (∀ k, k < W.heap.size → R k = 0) := Lib.hid fun k hk => hz3 k (by have := HB1.out.size; omega)
  clear hb3 hd3 hz3 x1 x2 x3 d1 e1
  have x0 : w3.cell? ⟨b, 0, none⟩ = some (.int .i64 id) := (HK.out.below HB3.out HK.out.lt).cell 0
  by_cases hlo : id < 1
  · have HBAD : Hid (id < 1 ∨ 99999999 < id) := Lib.hid (.inl hlo)
    have d2 : decide (id < 1) = true := by simpa using hlo
    have HLD := Lib.hid (load_bad id HI.out.1.1 HI.out.1.2 HBAD.out (.pointer (some ⟨p, 0, none⟩)) w3 HC.out HE3.out)
    go_wp2_with fail
    refine HLD.out.mono ?_
    rintro e w4 ⟨rfl, hb4⟩
    have HB4 := Lib.hid (HB3.out.trans (hb4.mono HB3.out.size))
    clear hb4 x0
    unfold fsV
    go_upto_region 6 with fail
    obtain ⟨g, hg⟩ : ∃ x, w4.heap.size = x := ⟨_, rfl⟩
    obtain ⟨w5, hw5⟩ : ∃ x, w4.alloc (.cells #[.string ⟨#[]⟩, .string ⟨#[]⟩, .string ⟨#[]⟩] 57) = x := ⟨_, rfl⟩
    have hb5 : Below w4.heap.size w4 w5 := by rw [← hw5]; exact (Below.refl _ _).alloc (Nat.le_refl _) _
    have HG5 : Hid (Blk w5 g 57 #[.string ⟨#[]⟩, .string ⟨#[]⟩, .string ⟨#[]⟩]) := Lib.hid (by rw [← hw5, ← hg]; exact Blk.new _ _ _)
    have HB5 := Lib.hid (HB4.out.trans (hb5.mono HB4.out.size))
    rw [hw5, hg]
    clear hw5 hg hb5
    have HSB := Lib.hid (save_bad id HI.out.1.1 HI.out.1.2 HBAD.out (.pointer (some ⟨p, 0, none⟩)) FA FB FC w5 HC.out (HE.out.low HC.out HB5.out))
    unfold fsV at HSB
    have x0 : w5.cell? ⟨b, 0, none⟩ = some (.int .i64 id) := (HK.out.below HB5.out HK.out.lt).cell 0
    have x1 : w5.cell? ⟨b, 1, none⟩ = some (.string FA) := (HK.out.below HB5.out HK.out.lt).cell 1
    have x2 : w5.cell? ⟨b, 2, none⟩ = some (.string FB) := (HK.out.below HB5.out HK.out.lt).cell 2
    have x3 : w5.cell? ⟨b, 3, none⟩ = some (.string FC) := (HK.out.below HB5.out HK.out.lt).cell 3
    go_wp2_with fail
    refine HSB.out.mono ?_
    rintro e w6 ⟨rfl, hb6⟩
    have HB6 := Lib.hid (HB5.out.trans (hb6.mono HB5.out.size))
    have HG6 := Lib.hid (HG5.out.below hb6 HG5.out.lt)
    clear hb6 x0 x1 x2 x3
    have hnb : (⟨(nameT sB id).toArray⟩ : ByteArray) = ⟨#[]⟩ := by rw [nameT_bad _ HBAD.out]
    have hnc : (⟨(nameT sC id).toArray⟩ : ByteArray) = ⟨#[]⟩ := by rw [nameT_bad _ HBAD.out]
    have HSD6 := Lib.hid (sdir_calls id HI.out.1.1 HI.out.1.2 w6 (HE.out.low HC.out HB6.out).pow)
    rw [hnb] at HSD6
    have HSC6 : Hid (∀ w', Below w6.heap.size w6 w' → Calls Tryz.prog 24 #[.int .i64 id] w' fun e w2 => e = .returned (.string ⟨#[]⟩) ∧ Below w'.heap.size w' w2) := Lib.hid fun w' h => by
      have h1 := sckpt_calls id HI.out.1.1 HI.out.1.2 w' ((HE.out.low HC.out HB6.out).low HC.out h).pow
      rw [hnc] at h1
      exact h1
    have y0 : w6.cell? ⟨g, 0, none⟩ = some (.string ⟨#[]⟩) := HG6.out.cell 0
    have y1 : w6.cell? ⟨g, 1, none⟩ = some (.string ⟨#[]⟩) := HG6.out.cell 1
    have y2 : w6.cell? ⟨g, 2, none⟩ = some (.string ⟨#[]⟩) := HG6.out.cell 2
    have x0 : w6.cell? ⟨b, 0, none⟩ = some (.int .i64 id) := (HK.out.below HB6.out HK.out.lt).cell 0
    have hei := fun w => Lib.run_eql_iface_int (P := Tryz.prog) w (t := 32) (tx := 26) (k := .i64) (q := .i64) 2 2 Tryz.underlying32 (by kernel_rfl) Tryz.underlying26
    simp only [beq_self_eq_true] at hei
    clear hnb hnc
    go_wp2_with fail
    refine HSD6.out.mono ?_
    rintro e w7 ⟨rfl, hb7⟩
    have HB7 := Lib.hid (HB6.out.trans (hb7.mono HB6.out.size))
    have HSC7 := Lib.hid (HSC6.out w7 hb7)
    clear hb7 x0 y0 y1 y2 hei
    have x0 : w7.cell? ⟨b, 0, none⟩ = some (.int .i64 id) := (HK.out.below HB7.out HK.out.lt).cell 0
    go_wp2_with fail
    refine HSC7.out.mono ?_
    rintro e w8 ⟨rfl, hb8⟩
    have HB8 := Lib.hid (HB7.out.trans (hb8.mono HB7.out.size))
    clear hb8 x0
    go_wp2_with fail
    go_ret
    exact ⟨rfl, HB.out.trans (HB8.out.mono HB.out.size)⟩
  by_cases hhi : 99999999 < id
  · have HBAD : Hid (id < 1 ∨ 99999999 < id) := Lib.hid (.inr hhi)
    have d2 : decide (id < 1) = false := by simpa using hlo
    have d3 : decide (99999999 < id) = true := by simpa using hhi
    have HLD := Lib.hid (load_bad id HI.out.1.1 HI.out.1.2 HBAD.out (.pointer (some ⟨p, 0, none⟩)) w3 HC.out HE3.out)
    go_wp2_with fail
    refine HLD.out.mono ?_
    rintro e w4 ⟨rfl, hb4⟩
    have HB4 := Lib.hid (HB3.out.trans (hb4.mono HB3.out.size))
    clear hb4 x0
    unfold fsV
    go_upto_region 6 with fail
    obtain ⟨g, hg⟩ : ∃ x, w4.heap.size = x := ⟨_, rfl⟩
    obtain ⟨w5, hw5⟩ : ∃ x, w4.alloc (.cells #[.string ⟨#[]⟩, .string ⟨#[]⟩, .string ⟨#[]⟩] 57) = x := ⟨_, rfl⟩
    have hb5 : Below w4.heap.size w4 w5 := by rw [← hw5]; exact (Below.refl _ _).alloc (Nat.le_refl _) _
    have HG5 : Hid (Blk w5 g 57 #[.string ⟨#[]⟩, .string ⟨#[]⟩, .string ⟨#[]⟩]) := Lib.hid (by rw [← hw5, ← hg]; exact Blk.new _ _ _)
    have HB5 := Lib.hid (HB4.out.trans (hb5.mono HB4.out.size))
    rw [hw5, hg]
    clear hw5 hg hb5
    have HSB := Lib.hid (save_bad id HI.out.1.1 HI.out.1.2 HBAD.out (.pointer (some ⟨p, 0, none⟩)) FA FB FC w5 HC.out (HE.out.low HC.out HB5.out))
    unfold fsV at HSB
    have x0 : w5.cell? ⟨b, 0, none⟩ = some (.int .i64 id) := (HK.out.below HB5.out HK.out.lt).cell 0
    have x1 : w5.cell? ⟨b, 1, none⟩ = some (.string FA) := (HK.out.below HB5.out HK.out.lt).cell 1
    have x2 : w5.cell? ⟨b, 2, none⟩ = some (.string FB) := (HK.out.below HB5.out HK.out.lt).cell 2
    have x3 : w5.cell? ⟨b, 3, none⟩ = some (.string FC) := (HK.out.below HB5.out HK.out.lt).cell 3
    go_wp2_with fail
    refine HSB.out.mono ?_
    rintro e w6 ⟨rfl, hb6⟩
    have HB6 := Lib.hid (HB5.out.trans (hb6.mono HB5.out.size))
    have HG6 := Lib.hid (HG5.out.below hb6 HG5.out.lt)
    clear hb6 x0 x1 x2 x3
    have hnb : (⟨(nameT sB id).toArray⟩ : ByteArray) = ⟨#[]⟩ := by rw [nameT_bad _ HBAD.out]
    have hnc : (⟨(nameT sC id).toArray⟩ : ByteArray) = ⟨#[]⟩ := by rw [nameT_bad _ HBAD.out]
    have HSD6 := Lib.hid (sdir_calls id HI.out.1.1 HI.out.1.2 w6 (HE.out.low HC.out HB6.out).pow)
    rw [hnb] at HSD6
    have HSC6 : Hid (∀ w', Below w6.heap.size w6 w' → Calls Tryz.prog 24 #[.int .i64 id] w' fun e w2 => e = .returned (.string ⟨#[]⟩) ∧ Below w'.heap.size w' w2) := Lib.hid fun w' h => by
      have h1 := sckpt_calls id HI.out.1.1 HI.out.1.2 w' ((HE.out.low HC.out HB6.out).low HC.out h).pow
      rw [hnc] at h1
      exact h1
    have y0 : w6.cell? ⟨g, 0, none⟩ = some (.string ⟨#[]⟩) := HG6.out.cell 0
    have y1 : w6.cell? ⟨g, 1, none⟩ = some (.string ⟨#[]⟩) := HG6.out.cell 1
    have y2 : w6.cell? ⟨g, 2, none⟩ = some (.string ⟨#[]⟩) := HG6.out.cell 2
    have x0 : w6.cell? ⟨b, 0, none⟩ = some (.int .i64 id) := (HK.out.below HB6.out HK.out.lt).cell 0
    have hei := fun w => Lib.run_eql_iface_int (P := Tryz.prog) w (t := 32) (tx := 26) (k := .i64) (q := .i64) 2 2 Tryz.underlying32 (by kernel_rfl) Tryz.underlying26
    simp only [beq_self_eq_true] at hei
    clear hnb hnc
    go_wp2_with fail
    refine HSD6.out.mono ?_
    rintro e w7 ⟨rfl, hb7⟩
    have HB7 := Lib.hid (HB6.out.trans (hb7.mono HB6.out.size))
    have HSC7 := Lib.hid (HSC6.out w7 hb7)
    clear hb7 x0 y0 y1 y2 hei
    have x0 : w7.cell? ⟨b, 0, none⟩ = some (.int .i64 id) := (HK.out.below HB7.out HK.out.lt).cell 0
    go_wp2_with fail
    refine HSC7.out.mono ?_
    rintro e w8 ⟨rfl, hb8⟩
    have HB8 := Lib.hid (HB7.out.trans (hb8.mono HB7.out.size))
    clear hb8 x0
    go_wp2_with fail
    go_ret
    exact ⟨rfl, HB.out.trans (HB8.out.mono HB.out.size)⟩
  have d2 : decide (id < 1) = false := by simpa using hlo
  have d3 : decide (99999999 < id) = false := by simpa using hhi
  have HID : Hid (1 ≤ id ∧ id ≤ 99999999) := Lib.hid (by omega)
  have x4 : w3.cell? ⟨b, 4, none⟩ = some (.int .i64 at_) := (HK.out.below HB3.out HK.out.lt).cell 4
  have HCR := Lib.hid (HD3.out.crash at_ HI.out.2.1.2 HI.out.2.1.1)
  obtain ⟨aw, haw⟩ := crash_fresh at_
  rw [haw] at HCR
  clear haw
  go_wp2_with fail
  refine HCR.out.mono ?_
  rintro e w4 ⟨rfl, hd4, ho4⟩
  have HO4 := Lib.hid ho4
  have HD4 := Lib.hid hd4
  have HB4 := Lib.hid (HB3.out.trans (ho4.below HB3.out.size HZ3.out))
  have HE4 := Lib.hid (HE.out.low HC.out HB4.out)
  clear hd4 ho4 x0 x4 hlo hhi d2 d3
  have HSV := Lib.hid (save_calls id HID.out.1 HID.out.2 FA FB FC w4 HD4.out (by have := HN.out; omega) HC.out HE4.out)
  have HT := Lib.hid (two_names HID.out.1 HID.out.2)
  have HP := Lib.hid (saves_plain (f := fs3 FA FB FC) HT.out (by have := HN.out; unfold Fs3.len fs3; simp; omega) aw names data z)
  obtain ⟨r5, hr5⟩ : ∃ r, saveD (freshD aw) (nameT sT id) (nameT sB id) (fs3 FA FB FC) = r := ⟨_, rfl⟩
  rw [hr5] at HSV HP
  clear hr5
  have x0 : w4.cell? ⟨b, 0, none⟩ = some (.int .i64 id) := (HK.out.below HB4.out HK.out.lt).cell 0
  have x1 : w4.cell? ⟨b, 1, none⟩ = some (.string FA) := (HK.out.below HB4.out HK.out.lt).cell 1
  have x2 : w4.cell? ⟨b, 2, none⟩ = some (.string FB) := (HK.out.below HB4.out HK.out.lt).cell 2
  have x3 : w4.cell? ⟨b, 3, none⟩ = some (.string FC) := (HK.out.below HB4.out HK.out.lt).cell 3
  unfold fsV at HSV
  go_wp2_with fail
  refine HSV.out.mono ?_
  rintro e w5 ⟨v5, R5, rfl, hv5, hd5, ho5⟩
  have HV5 := Lib.hid hv5
  have HD5 : Hid (Dk B0 2000000 w5 R5 p r5.2) := Lib.hid (hd5.more (by have := HN.out; omega))
  have HO5 := Lib.hid (HO4.out.trans ho5)
  have HB5 := Lib.hid (HB3.out.trans (HO5.out.below HB3.out.size HZ3.out))
  have HE5 := Lib.hid (HE.out.low HC.out HB5.out)
  clear hv5 hd5 ho5 x0 x1 x2 x3
  obtain ⟨hp1, hp2⟩ := HP.out
  have HP2 := Lib.hid hp2
  have HCO : Hid ((r5.1 = 0 ∧ v5 = .nilIface ∧ r5.2.off = false) ∨ (r5.1 = 1 ∧ (∃ q, v5 = .iface 68 (.pointer (some ⟨q, 0, none⟩))) ∧ r5.2.off = true)) := Lib.hid (by
    rcases hp1 with ⟨h1, h2⟩ | ⟨h1, h2⟩
    · exact .inl ⟨h1, HV5.out.nil h1, h2⟩
    · obtain ⟨q, op, path, e, _⟩ := HV5.out.some_ (by omega)
      exact .inr ⟨h1, ⟨q, e⟩, h2⟩)
  have HOF : Hid (∀ x : Later w5, Calls Tryz.prog 26 #[.pointer (some ⟨p, 0, none⟩)] x.w fun e w' => e = .returned (.bool r5.2.off) ∧ Below x.w.heap.size x.w w') := Lib.hid fun x => ((HD5.out.below x.h).off).mono fun e w' ⟨h1, h2⟩ => ⟨h1, h2 ▸ Below.refl _ _⟩
  clear hp1 hp2
  rcases HCO.out with ⟨hk0, hv0, hoff⟩ | ⟨hk1, ⟨q5, hv1⟩, hoff⟩
  · obtain rfl := hv0
    rw [hoff] at HOF
    go_wp2_with fail
    refine wp_region_later (by kernel_rfl) (by kernel_rfl) ?_
    repeat (go_big_quiet_step ((go_at_call 26; exact quiet_later _ (HOF.out _))))
    refine wpQuiet_nil ?_
    rintro w6 ⟨⟨_, hb6⟩, rfl⟩
    have HD6 := Lib.hid (HD5.out.below hb6)
    have HO6 := Lib.hid (HO5.out.trans (Out.of_below (R := R5) hb6))
    have HB6 := Lib.hid (HB5.out.trans (hb6.mono HB5.out.size))
    clear hb6 hoff
    go_upto_region 11 with fail
    obtain ⟨A7, c7, w7, hrun7, hint7, hb7, hA7⟩ := run_ints A nd c data w6.drew (HDA.out _ HB6.out.drew) HSD.out.2 (by have := HSD.out.1; omega)
    have HD6d := Lib.hid (HD6.out.below (Below.refl _ w6).drew)
    have HRUN := Lib.hid hrun7
    have HB7 := Lib.hid (HB6.out.drew.trans (hb7.mono HB6.out.drew.size))
    have HO7 : Hid (Out R R5 w3 w7) := Lib.hid (HO6.out.trans ((Out.of_below (R := R5) (Below.refl _ w6).drew).trans (Out.of_below (R := R5) hb7)))
    have HRS := Lib.hid ((HD6d.out.below hb7).restart (by decide) (HE.out.low HC.out HB7.out).hb names HI.out.2.2.1 HI.out.2.2.2 A7 nd c7 data z hint7 (fun x hx _ => HD6d.out.new (hA7 x hx)) HDI.out (by have := HSD.out.1; omega))
    have HX7 : Hid (w7.cell? ⟨b, 3 + 2, none⟩ = some (.int .i64 names) ∧ w7.cell? ⟨b, 6, none⟩ = some (.slice A nd c) ∧ w7.cell? ⟨b, 7, none⟩ = some (.bool z)) := Lib.hid ⟨(HK.out.below HB7.out HK.out.lt).cell 5, (HK.out.below HB7.out HK.out.lt).cell 6, (HK.out.below HB7.out HK.out.lt).cell 7⟩
    have x5 : w6.cell? ⟨b, 5, none⟩ = some (.int .i64 names) := (HK.out.below HB6.out HK.out.lt).cell 5
    have x6 : w6.cell? ⟨b, 6, none⟩ = some (.slice A nd c) := (HK.out.below HB6.out HK.out.lt).cell 6
    have x7 : w6.cell? ⟨b, 7, none⟩ = some (.bool z) := (HK.out.below HB6.out HK.out.lt).cell 7
    clear hrun7 hint7 hb7 hA7
    go_region_held_law (fun w' => w'.cell? ⟨b, 5, none⟩ = some (.int .i64 names) ∧ w'.cell? ⟨b, 6, none⟩ = some (.slice A nd c) ∧ w'.cell? ⟨b, 7, none⟩ = some (.bool z)) (first | (exact HX8.out) | (exact HX7.out) | go_keep) (first | (refine step_known rfl _ _ _ rfl _ _ _ rfl rfl HRUN.out ?_) | (go_at_call 27; refine HRS.out.mono ?_; rintro e w8 ⟨R8, rfl, hd8, ho8⟩; have HD8 := Lib.hid hd8; have HO8 := Lib.hid (HO7.out.trans ho8); have HB8 := Lib.hid (HB3.out.trans (HO8.out.below HB3.out.size HZ3.out)); have HX8 : Hid (w8.cell? ⟨b, 5, none⟩ = some (.int .i64 names) ∧ w8.cell? ⟨b, 6, none⟩ = some (.slice A nd c) ∧ w8.cell? ⟨b, 7, none⟩ = some (.bool z)) := Lib.hid ⟨(HK.out.below HB8.out HK.out.lt).cell 5, (HK.out.below HB8.out HK.out.lt).cell 6, (HK.out.below HB8.out HK.out.lt).cell 7⟩; clear hd8 ho8))
    clear x5 x6 x7
    have HE8 := Lib.hid (HE.out.low HC.out HB8.out)
    obtain ⟨y8, hy8⟩ : ∃ y, restartD r5.2 names data z = y := ⟨_, rfl⟩
    rw [hy8] at HD8 HP2
    clear hy8
    have HLD := Lib.hid (load_calls id HID.out.1 HID.out.2 w8 HD8.out (by decide) HC.out HE8.out)
    have x0 : w8.cell? ⟨b, 0, none⟩ = some (.int .i64 id) := (HK.out.below HB8.out HK.out.lt).cell 0
    go_wp2_with fail
    refine HLD.out.mono ?_
    rintro e w9 ⟨XA, XB, XC, v9, R9, rfl, hx9, hv9, hd9, ho9⟩
    have HV9 := Lib.hid hv9
    have HX9 := Lib.hid hx9
    have HD9 := Lib.hid hd9
    have HO9 := Lib.hid (HO8.out.trans ho9)
    have HB9 := Lib.hid (HB3.out.trans (HO9.out.below HB3.out.size HZ3.out))
    clear hx9 hv9 hd9 ho9 x0
    unfold fsV
    go_upto_region 13 with fail
    obtain ⟨g, hg⟩ : ∃ x, w9.heap.size = x := ⟨_, rfl⟩
    obtain ⟨w10, hw10⟩ : ∃ x, w9.alloc (.cells #[.string XA, .string XB, .string XC] 57) = x := ⟨_, rfl⟩
    have hb10 : Below w9.heap.size w9 w10 := by rw [← hw10]; exact (Below.refl _ _).alloc (Nat.le_refl _) _
    have HG10 : Hid (Blk w10 g 57 #[.string XA, .string XB, .string XC] ∧ R9 g = 0) := Lib.hid ⟨by rw [← hw10, ← hg]; exact Blk.new _ _ _, HD9.out.new (by omega)⟩
    have HD10 := Lib.hid (HD9.out.below hb10)
    have HV10 := Lib.hid (HV9.out.below hb10)
    have HO10 := Lib.hid (HO9.out.trans (Out.of_below (R := R9) hb10))
    have HB10 := Lib.hid (HB9.out.trans (hb10.mono HB9.out.size))
    have HE10 := Lib.hid (HE.out.low HC.out HB10.out)
    have HGW : Hid (W.heap.size ≤ g) := Lib.hid (by rw [← hg]; exact HB9.out.size)
    rw [hw10, hg]
    clear hw10 hg hb10
    have hl9 : loadD y8 (nameT sB id) = (fs3 FA FB FC, 0) := by
      rcases HP2.out with h | ⟨_, h, _⟩
      · exact h
      · rw [hk0] at h; cases h
    clear hk0
    have hq := HX9.out
    rw [hl9] at hq
    unfold fs3 at hq
    injection hq with ha hb_ hc
    obtain rfl : XA = FA := bytes_eq ha
    obtain rfl : XB = FB := bytes_eq hb_
    obtain rfl : XC = FC := bytes_eq hc
    obtain rfl : v9 = .nilIface := HV10.out.nil (by rw [hl9])
    clear ha hb_ hc hl9
    obtain ⟨DB, hDB⟩ : ∃ T : ByteArray, (⟨(nameT sB id).toArray⟩ : ByteArray) = T := ⟨_, rfl⟩
    obtain ⟨DC, hDC⟩ : ∃ T : ByteArray, (⟨(nameT sC id).toArray⟩ : ByteArray) = T := ⟨_, rfl⟩
    have HSD10 : Hid (∀ x : Later w10, Calls Tryz.prog 23 #[.int .i64 id] x.w fun e w' => e = .returned (.string DB) ∧ Below x.w.heap.size x.w w') := Lib.hid fun x => by rw [← hDB]; exact sdir_calls id HI.out.1.1 HI.out.1.2 x.w (HE10.out.low HC.out x.h).pow
    have HSC10 : Hid (∀ x : Later w10, Calls Tryz.prog 24 #[.int .i64 id] x.w fun e w' => e = .returned (.string DC) ∧ Below x.w.heap.size x.w w') := Lib.hid fun x => by rw [← hDC]; exact sckpt_calls id HI.out.1.1 HI.out.1.2 x.w (HE10.out.low HC.out x.h).pow
    have HNB : Hid (∀ x : Later w10, Calls Tryz.prog 28 #[.string ⟨#[98]⟩, .int .i64 id] x.w fun e w' => e = .returned (.string DB) ∧ Below x.w.heap.size x.w w') := Lib.hid fun x => by rw [← hDB]; exact rname20_calls ⟨#[98]⟩ id HI.out.1.1 HI.out.1.2 (by decide) x.w
    have HNC : Hid (∀ x : Later w10, Calls Tryz.prog 28 #[.string ⟨#[99]⟩, .int .i64 id] x.w fun e w' => e = .returned (.string DC) ∧ Below x.w.heap.size x.w w') := Lib.hid fun x => by rw [← hDC]; exact rname20_calls ⟨#[99]⟩ id HI.out.1.1 HI.out.1.2 (by decide) x.w
    clear hDB hDC
    have y0 : w10.cell? ⟨g, 0, none⟩ = some (.string XA) := HG10.out.1.cell 0
    have y1 : w10.cell? ⟨g, 1, none⟩ = some (.string XB) := HG10.out.1.cell 1
    have y2 : w10.cell? ⟨g, 2, none⟩ = some (.string XC) := HG10.out.1.cell 2
    have x0 : w10.cell? ⟨b, 0, none⟩ = some (.int .i64 id) := (HK.out.below HB10.out HK.out.lt).cell 0
    have x1 : w10.cell? ⟨b, 1, none⟩ = some (.string XA) := (HK.out.below HB10.out HK.out.lt).cell 1
    have x2 : w10.cell? ⟨b, 2, none⟩ = some (.string XB) := (HK.out.below HB10.out HK.out.lt).cell 2
    have x3 : w10.cell? ⟨b, 3, none⟩ = some (.string XC) := (HK.out.below HB10.out HK.out.lt).cell 3
    have gl : g < w10.heap.size := HG10.out.1.lt
    have bl : b < w10.heap.size := lt_of_cell x0
    go_upto_region 14 with fail
    refine wp_region_later (by kernel_rfl) (by kernel_rfl) ?_
    repeat (go_big_quiet_step (first | (go_at_call 23; exact quiet_later _ (HSD10.out _)) | (go_at_call 24; exact quiet_later _ (HSC10.out _)) | (go_at_call 28; first | with_reducible exact quiet_later _ (HNB.out _) | with_reducible exact quiet_later _ (HNC.out _))))
    refine wpQuiet_nil ?_
    rintro w11 ⟨⟨_, hb11⟩, rfl⟩
    have HFIN : Hid (Below w.heap.size w w11) := Lib.hid (HB.out.trans ((HB10.out.trans (hb11.mono HB10.out.size)).mono HB.out.size))
    clear hb11 x0 x1 x2 x3 y0 y1 y2 gl bl
    go_wp2_with fail
    go_ret
    exact ⟨rfl, HFIN.out⟩
  · obtain rfl := hv1
    rw [hoff] at HOF
    go_wp2_with fail
    refine wp_region_later (by kernel_rfl) (by kernel_rfl) ?_
    repeat (go_big_quiet_step ((go_at_call 26; exact quiet_later _ (HOF.out _))))
    refine wpQuiet_nil ?_
    rintro w6 ⟨⟨_, hb6⟩, rfl⟩
    have HD6 := Lib.hid (HD5.out.below hb6)
    have HO6 := Lib.hid (HO5.out.trans (Out.of_below (R := R5) hb6))
    have HB6 := Lib.hid (HB5.out.trans (hb6.mono HB5.out.size))
    clear hb6 hoff
    go_upto_region 11 with fail
    obtain ⟨A7, c7, w7, hrun7, hint7, hb7, hA7⟩ := run_ints A nd c data w6.drew (HDA.out _ HB6.out.drew) HSD.out.2 (by have := HSD.out.1; omega)
    have HD6d := Lib.hid (HD6.out.below (Below.refl _ w6).drew)
    have HRUN := Lib.hid hrun7
    have HB7 := Lib.hid (HB6.out.drew.trans (hb7.mono HB6.out.drew.size))
    have HO7 : Hid (Out R R5 w3 w7) := Lib.hid (HO6.out.trans ((Out.of_below (R := R5) (Below.refl _ w6).drew).trans (Out.of_below (R := R5) hb7)))
    have HRS := Lib.hid ((HD6d.out.below hb7).restart (by decide) (HE.out.low HC.out HB7.out).hb names HI.out.2.2.1 HI.out.2.2.2 A7 nd c7 data z hint7 (fun x hx _ => HD6d.out.new (hA7 x hx)) HDI.out (by have := HSD.out.1; omega))
    have HX7 : Hid (w7.cell? ⟨b, 3 + 2, none⟩ = some (.int .i64 names) ∧ w7.cell? ⟨b, 6, none⟩ = some (.slice A nd c) ∧ w7.cell? ⟨b, 7, none⟩ = some (.bool z)) := Lib.hid ⟨(HK.out.below HB7.out HK.out.lt).cell 5, (HK.out.below HB7.out HK.out.lt).cell 6, (HK.out.below HB7.out HK.out.lt).cell 7⟩
    have x5 : w6.cell? ⟨b, 5, none⟩ = some (.int .i64 names) := (HK.out.below HB6.out HK.out.lt).cell 5
    have x6 : w6.cell? ⟨b, 6, none⟩ = some (.slice A nd c) := (HK.out.below HB6.out HK.out.lt).cell 6
    have x7 : w6.cell? ⟨b, 7, none⟩ = some (.bool z) := (HK.out.below HB6.out HK.out.lt).cell 7
    clear hrun7 hint7 hb7 hA7
    go_region_held_law (fun w' => w'.cell? ⟨b, 5, none⟩ = some (.int .i64 names) ∧ w'.cell? ⟨b, 6, none⟩ = some (.slice A nd c) ∧ w'.cell? ⟨b, 7, none⟩ = some (.bool z)) (first | (exact HX8.out) | (exact HX7.out) | go_keep) (first | (refine step_known rfl _ _ _ rfl _ _ _ rfl rfl HRUN.out ?_) | (go_at_call 27; refine HRS.out.mono ?_; rintro e w8 ⟨R8, rfl, hd8, ho8⟩; have HD8 := Lib.hid hd8; have HO8 := Lib.hid (HO7.out.trans ho8); have HB8 := Lib.hid (HB3.out.trans (HO8.out.below HB3.out.size HZ3.out)); have HX8 : Hid (w8.cell? ⟨b, 5, none⟩ = some (.int .i64 names) ∧ w8.cell? ⟨b, 6, none⟩ = some (.slice A nd c) ∧ w8.cell? ⟨b, 7, none⟩ = some (.bool z)) := Lib.hid ⟨(HK.out.below HB8.out HK.out.lt).cell 5, (HK.out.below HB8.out HK.out.lt).cell 6, (HK.out.below HB8.out HK.out.lt).cell 7⟩; clear hd8 ho8))
    clear x5 x6 x7
    have HE8 := Lib.hid (HE.out.low HC.out HB8.out)
    obtain ⟨y8, hy8⟩ : ∃ y, restartD r5.2 names data z = y := ⟨_, rfl⟩
    rw [hy8] at HD8 HP2
    clear hy8
    have HLD := Lib.hid (load_calls id HID.out.1 HID.out.2 w8 HD8.out (by decide) HC.out HE8.out)
    have x0 : w8.cell? ⟨b, 0, none⟩ = some (.int .i64 id) := (HK.out.below HB8.out HK.out.lt).cell 0
    go_wp2_with fail
    refine HLD.out.mono ?_
    rintro e w9 ⟨XA, XB, XC, v9, R9, rfl, hx9, hv9, hd9, ho9⟩
    have HV9 := Lib.hid hv9
    have HX9 := Lib.hid hx9
    have HD9 := Lib.hid hd9
    have HO9 := Lib.hid (HO8.out.trans ho9)
    have HB9 := Lib.hid (HB3.out.trans (HO9.out.below HB3.out.size HZ3.out))
    clear hx9 hv9 hd9 ho9 x0
    unfold fsV
    go_upto_region 13 with fail
    obtain ⟨g, hg⟩ : ∃ x, w9.heap.size = x := ⟨_, rfl⟩
    obtain ⟨w10, hw10⟩ : ∃ x, w9.alloc (.cells #[.string XA, .string XB, .string XC] 57) = x := ⟨_, rfl⟩
    have hb10 : Below w9.heap.size w9 w10 := by rw [← hw10]; exact (Below.refl _ _).alloc (Nat.le_refl _) _
    have HG10 : Hid (Blk w10 g 57 #[.string XA, .string XB, .string XC] ∧ R9 g = 0) := Lib.hid ⟨by rw [← hw10, ← hg]; exact Blk.new _ _ _, HD9.out.new (by omega)⟩
    have HD10 := Lib.hid (HD9.out.below hb10)
    have HV10 := Lib.hid (HV9.out.below hb10)
    have HO10 := Lib.hid (HO9.out.trans (Out.of_below (R := R9) hb10))
    have HB10 := Lib.hid (HB9.out.trans (hb10.mono HB9.out.size))
    have HE10 := Lib.hid (HE.out.low HC.out HB10.out)
    have HGW : Hid (W.heap.size ≤ g) := Lib.hid (by rw [← hg]; exact HB9.out.size)
    rw [hw10, hg]
    clear hw10 hg hb10
    rcases HP2.out with hl9 | ⟨hl9, _, hs8, hl8⟩
    · have HFL := Lib.hid (rfl : (0 : Nat) = 0)
      have hq := HX9.out
      rw [hl9] at hq
      unfold fs3 at hq
      injection hq with ha hb_ hc
      obtain rfl : XA = FA := bytes_eq ha
      obtain rfl : XB = FB := bytes_eq hb_
      obtain rfl : XC = FC := bytes_eq hc
      obtain rfl : v9 = .nilIface := HV10.out.nil (by rw [hl9])
      clear ha hb_ hc hl9
      obtain ⟨DB, hDB⟩ : ∃ T : ByteArray, (⟨(nameT sB id).toArray⟩ : ByteArray) = T := ⟨_, rfl⟩
      obtain ⟨DC, hDC⟩ : ∃ T : ByteArray, (⟨(nameT sC id).toArray⟩ : ByteArray) = T := ⟨_, rfl⟩
      have HSD10 : Hid (∀ x : Later w10, Calls Tryz.prog 23 #[.int .i64 id] x.w fun e w' => e = .returned (.string DB) ∧ Below x.w.heap.size x.w w') := Lib.hid fun x => by rw [← hDB]; exact sdir_calls id HI.out.1.1 HI.out.1.2 x.w (HE10.out.low HC.out x.h).pow
      have HSC10 : Hid (∀ x : Later w10, Calls Tryz.prog 24 #[.int .i64 id] x.w fun e w' => e = .returned (.string DC) ∧ Below x.w.heap.size x.w w') := Lib.hid fun x => by rw [← hDC]; exact sckpt_calls id HI.out.1.1 HI.out.1.2 x.w (HE10.out.low HC.out x.h).pow
      have HNB : Hid (∀ x : Later w10, Calls Tryz.prog 28 #[.string ⟨#[98]⟩, .int .i64 id] x.w fun e w' => e = .returned (.string DB) ∧ Below x.w.heap.size x.w w') := Lib.hid fun x => by rw [← hDB]; exact rname20_calls ⟨#[98]⟩ id HI.out.1.1 HI.out.1.2 (by decide) x.w
      have HNC : Hid (∀ x : Later w10, Calls Tryz.prog 28 #[.string ⟨#[99]⟩, .int .i64 id] x.w fun e w' => e = .returned (.string DC) ∧ Below x.w.heap.size x.w w') := Lib.hid fun x => by rw [← hDC]; exact rname20_calls ⟨#[99]⟩ id HI.out.1.1 HI.out.1.2 (by decide) x.w
      clear hDB hDC
      have y0 : w10.cell? ⟨g, 0, none⟩ = some (.string XA) := HG10.out.1.cell 0
      have y1 : w10.cell? ⟨g, 1, none⟩ = some (.string XB) := HG10.out.1.cell 1
      have y2 : w10.cell? ⟨g, 2, none⟩ = some (.string XC) := HG10.out.1.cell 2
      have x0 : w10.cell? ⟨b, 0, none⟩ = some (.int .i64 id) := (HK.out.below HB10.out HK.out.lt).cell 0
      have x1 : w10.cell? ⟨b, 1, none⟩ = some (.string XA) := (HK.out.below HB10.out HK.out.lt).cell 1
      have x2 : w10.cell? ⟨b, 2, none⟩ = some (.string XB) := (HK.out.below HB10.out HK.out.lt).cell 2
      have x3 : w10.cell? ⟨b, 3, none⟩ = some (.string XC) := (HK.out.below HB10.out HK.out.lt).cell 3
      have gl : g < w10.heap.size := HG10.out.1.lt
      have bl : b < w10.heap.size := lt_of_cell x0
      go_upto_region 14 with fail
      refine wp_region_later (by kernel_rfl) (by kernel_rfl) ?_
      repeat (go_big_quiet_step (first | (go_at_call 23; exact quiet_later _ (HSD10.out _)) | (go_at_call 24; exact quiet_later _ (HSC10.out _)) | (go_at_call 28; first | with_reducible exact quiet_later _ (HNB.out _) | with_reducible exact quiet_later _ (HNC.out _))))
      refine wpQuiet_nil ?_
      rintro w11 ⟨⟨_, hb11⟩, rfl⟩
      have HFIN : Hid (Below w.heap.size w w11) := Lib.hid (HB.out.trans ((HB10.out.trans (hb11.mono HB10.out.size)).mono HB.out.size))
      clear hb11 x0 x1 x2 x3 y0 y1 y2 gl bl
      go_wp2_with fail
      go_ret
      exact ⟨rfl, HFIN.out⟩
    · have HFL := Lib.hid (rfl : (0 : Nat) = 0)
      have hq := HX9.out
      rw [hl9] at hq
      unfold fs3 at hq
      injection hq with ha hb_ hc
      obtain rfl : XA = ⟨#[]⟩ := bytes_eq ha
      obtain rfl : XB = ⟨#[]⟩ := bytes_eq hb_
      obtain rfl : XC = ⟨#[]⟩ := bytes_eq hc
      obtain ⟨q, op, path, rfl, hq1, hq2⟩ := HV10.out.some_ (by rw [hl9]; decide)
      rw [hl9] at hq1
      have HQ1 := Lib.hid hq1
      have hta := run_asserted (.pointer (some ⟨q, 0, none⟩))
      clear ha hb_ hc hl9 hq1 hq2
      go_upto_region 16 with fail
      have kq : w10.cell? ⟨q, 2, none⟩ = some (failV a 4) := HQ1.out.cell 2
      have kg : w10.cell? ⟨0, 0, none⟩ = some (failV a 4) := (HE10.out.e.f 4 (by decide)).2
      have hql := HQ1.out.lt
      have hgl : 0 < w10.heap.size := lt_of_cell kg
      have heq := fun w => err_neq (a := a) 4 w
      have y0 : w10.cell? ⟨g, 0, none⟩ = some (.string ⟨#[]⟩) := HG10.out.1.cell 0
      have y1 : w10.cell? ⟨g, 1, none⟩ = some (.string ⟨#[]⟩) := HG10.out.1.cell 1
      have y2 : w10.cell? ⟨g, 2, none⟩ = some (.string ⟨#[]⟩) := HG10.out.1.cell 2
      have gl : g < w10.heap.size := HG10.out.1.lt
      unfold failV at kq kg heq
      refine wp_region_later (by kernel_rfl) (by kernel_rfl) ?_
      repeat (go_big_quiet_step (fail))
      refine wpQuiet_nil ?_
      rintro w11 ⟨⟨_, hb11⟩, rfl⟩
      have HD11 := Lib.hid (HD10.out.below hb11)
      have HO11 := Lib.hid (HO10.out.trans (Out.of_below (R := R9) hb11))
      have HB11 := Lib.hid (HB10.out.trans (hb11.mono HB10.out.size))
      have HE11 := Lib.hid (HE.out.low HC.out HB11.out)
      have HG11 : Hid (Blk w11 g 57 #[.string ⟨#[]⟩, .string ⟨#[]⟩, .string ⟨#[]⟩]) := Lib.hid (HG10.out.1.below hb11 HG10.out.1.lt)
      clear hb11 kq kg hql hgl heq y0 y1 y2 gl hta
      have HSV2 := Lib.hid (save_calls id HID.out.1 HID.out.2 FA FB FC w11 HD11.out (by have := HN.out; omega) HC.out HE11.out)
      obtain ⟨r12, hr12⟩ : ∃ r, saveD y8 (nameT sT id) (nameT sB id) (fs3 FA FB FC) = r := ⟨_, rfl⟩
      rw [hr12] at HSV2 hs8 hl8
      clear hr12
      unfold fsV at HSV2
      have x0 : w11.cell? ⟨b, 0, none⟩ = some (.int .i64 id) := (HK.out.below HB11.out HK.out.lt).cell 0
      have x1 : w11.cell? ⟨b, 1, none⟩ = some (.string FA) := (HK.out.below HB11.out HK.out.lt).cell 1
      have x2 : w11.cell? ⟨b, 2, none⟩ = some (.string FB) := (HK.out.below HB11.out HK.out.lt).cell 2
      have x3 : w11.cell? ⟨b, 3, none⟩ = some (.string FC) := (HK.out.below HB11.out HK.out.lt).cell 3
      have HS8 := Lib.hid hs8
      have HL8 := Lib.hid hl8
      clear hs8 hl8
      go_wp2_with fail
      refine HSV2.out.mono ?_
      rintro e w12 ⟨v12, R12, rfl, hv12, hd12, ho12⟩
      obtain rfl : v12 = .nilIface := hv12.nil HS8.out
      have HD12 : Hid (Dk B0 8000000 w12 R12 p r12.2) := Lib.hid (hd12.more (by have := HN.out; omega))
      have HO12 := Lib.hid (HO11.out.trans ho12)
      have HB12 := Lib.hid (HB3.out.trans (HO12.out.below HB3.out.size HZ3.out))
      have HE12 := Lib.hid (HE.out.low HC.out HB12.out)
      have HG12 : Hid (Blk w12 g 57 #[.string ⟨#[]⟩, .string ⟨#[]⟩, .string ⟨#[]⟩] ∧ R12 g = 0) := Lib.hid ⟨ho12.blk HG11.out HG10.out.2, ho12.old _ HG11.out.lt HG10.out.2⟩
      clear hv12 hd12 ho12 x0 x1 x2 x3
      have HLD2 := Lib.hid (load_calls id HID.out.1 HID.out.2 w12 HD12.out (by decide) HC.out HE12.out)
      have x0 : w12.cell? ⟨b, 0, none⟩ = some (.int .i64 id) := (HK.out.below HB12.out HK.out.lt).cell 0
      go_wp2_with fail
      refine HLD2.out.mono ?_
      rintro e w13 ⟨YA, YB, YC, v13, R13, rfl, hx13, hv13, hd13, ho13⟩
      rw [HL8.out] at hx13 hv13
      unfold fs3 at hx13
      injection hx13 with ha hb_ hc
      obtain rfl : YA = FA := bytes_eq ha
      obtain rfl : YB = FB := bytes_eq hb_
      obtain rfl : YC = FC := bytes_eq hc
      obtain rfl : v13 = .nilIface := hv13.nil rfl
      have HO13 := Lib.hid (HO12.out.trans ho13)
      have HB13 := Lib.hid (HB3.out.trans (HO13.out.below HB3.out.size HZ3.out))
      have HG13 : Hid (Blk w13 g 57 #[.string ⟨#[]⟩, .string ⟨#[]⟩, .string ⟨#[]⟩]) := Lib.hid (ho13.blk HG12.out.1 HG12.out.2)
      clear ha hb_ hc hv13 hd13 ho13 x0
      unfold fsV
      have y0 : w13.cell? ⟨g, 0, none⟩ = some (.string ⟨#[]⟩) := HG13.out.cell 0
      have y1 : w13.cell? ⟨g, 1, none⟩ = some (.string ⟨#[]⟩) := HG13.out.cell 1
      have y2 : w13.cell? ⟨g, 2, none⟩ = some (.string ⟨#[]⟩) := HG13.out.cell 2
      have x0 : w13.cell? ⟨b, 0, none⟩ = some (.int .i64 id) := (HK.out.below HB13.out HK.out.lt).cell 0
      have x1 : w13.cell? ⟨b, 1, none⟩ = some (.string YA) := (HK.out.below HB13.out HK.out.lt).cell 1
      have x2 : w13.cell? ⟨b, 2, none⟩ = some (.string YB) := (HK.out.below HB13.out HK.out.lt).cell 2
      have x3 : w13.cell? ⟨b, 3, none⟩ = some (.string YC) := (HK.out.below HB13.out HK.out.lt).cell 3
      have z0 : w13.frozen? ⟨g, 0, none⟩ = false := HG13.out.frozen 0
      have z1 : w13.frozen? ⟨g, 1, none⟩ = false := HG13.out.frozen 1
      have z2 : w13.frozen? ⟨g, 2, none⟩ = false := HG13.out.frozen 2
      have hgb : g ≠ b := by have := HK.out.lt; have := HGW.out; omega
      have hbg : b ≠ g := Ne.symm hgb
      go_wp2_with fail
      go_ret
      refine ⟨rfl, ?_⟩
      have hgw := HGW.out
      have hww := HB.out.size
      exact HB.out.trans ((HB13.out.setCell (p := ⟨g, 0, none⟩) hgw _ |>.setCell (p := ⟨g, 1, none⟩) hgw _ |>.setCell (p := ⟨g, 2, none⟩) hgw _).mono hww)
end
end Go.Proofs.YtfpgbhimgfdddaaGreatDoor
