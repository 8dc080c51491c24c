/- The walks of the laws of layer 16: wakes, fit, small, texts. -/
import Derived.Test.YtfpgbhimgfdddaaGreatDoorWalLog
set_option linter.unusedVariables false
set_option linter.unusedSimpArgs false
namespace Go.Proofs.YtfpgbhimgfdddaaGreatDoor
open Go.RowKit Go.Shelf Go.Sort
attribute [local go_sem ↓] Go.wp_at_zero Go.wp_at_succ
attribute [local go_sem] Later.cell Later.frozen

section
variable {B0 : Nat} {a : Nat → Addr}
def wW : ByteArray := ⟨#[119]⟩
theorem wm_wakes : (WM.app (WM.app ⟨[], 1, []⟩ 20 [97, 97, 97, 97]) 20 [98, 98, 98, 98]) = ⟨[(1, [[97, 97, 97, 97]])], 2, [[98, 98, 98, 98]]⟩ := by
  have h1 : WM.app ⟨[], 1, []⟩ 20 [97, 97, 97, 97] = ⟨[], 1, [[97, 97, 97, 97]]⟩ := by
    unfold WM.app
    rw [if_neg]
    · rfl
    · unfold WM.full WM.used
      simp [framesT]
  rw [h1]
  unfold WM.app
  rw [if_pos]
  · rfl
  · unfold WM.full WM.used
    simp [framesT, frameT_len]
set_option maxRecDepth 100000 in
set_option maxHeartbeats 8000000 in
theorem wakes16_calls (w : World) (hC : SCon B0 a) (hE : SEnv B0 a w) (h6 : Fail6 B0 a w) :
    Calls Tryz.prog 31 #[] w fun e w' => e = .returned (.bool true) ∧ Below w.heap.size w w' := by
  have HC := Lib.hid hC
  have HE := Lib.hid hE
  have H6 := Lib.hid h6
  have HNEW := Lib.hid (Dk.made (B0 := B0) 1000 (by decide) (by decide) w hE.hb)
  have hn7 : (⟨(nameT sS 7).toArray⟩ : ByteArray) = ⟨#[115, 48, 48, 48, 48, 48, 48, 48, 55]⟩ := rfl
  have HN7 := Lib.hid hn7
  clear hC hE h6 hn7
  go_enter Tryz.func31, Tryz.ntmps31
  go_wp2_with fail
  refine HNEW.out.mono ?_
  rintro e w1 ⟨p, R, rfl, hd1, hb1, hz1⟩
  have HB1 := Lib.hid hb1
  have HZ := Lib.hid hz1
  have HE1 := Lib.hid (HE.out.low HC.out hb1)
  have HOP := Lib.hid (wl_new (D := wW) (size := 20) (by decide) (by decide) 1 (by decide) (by decide) (by decide) 1000 w1 hd1 (by decide) HC.out HE1.out (H6.out.below (hb1.mono HE.out.hb)))
  unfold wW at HOP
  clear hd1 hb1 hz1
  go_wp2_with fail
  refine HOP.out.mono ?_
  rintro e w2 ⟨g, R2, d2, rfl, hg2, hl2, hu2, ho2⟩
  have HG2 := Lib.hid hg2
  have HL2 := Lib.hid hl2
  have HO2 := Lib.hid ho2
  have HAP := Lib.hid (wl_append ⟨#[97, 97, 97, 97]⟩ (by decide) (by decide) (by decide) (by decide) (by decide) w2 hl2 (by decide) HC.out (by rw [hu2]; decide) (by decide))
  have HU2 := Lib.hid hu2
  clear hg2 hl2 hu2 ho2
  go_wp2_with fail
  refine HAP.out.mono ?_
  rintro e w3 ⟨rfl, R3, d3, hl3, hu3, hog3⟩
  have HL3 := Lib.hid hl3
  have HOG3 := Lib.hid hog3
  have hu3' : usedD d3 = 13 := by rw [hu3, HU2.out]; rfl
  have HAP2 := Lib.hid (wl_append ⟨#[98, 98, 98, 98]⟩ (by decide) (by decide) (by decide) (by decide) (by decide) w3 hl3 (by decide) HC.out (by rw [hu3']; decide) (by decide))
  clear hl3 hu3 hog3 hu3'
  go_wp2_with fail
  refine HAP2.out.mono ?_
  rintro e w4 ⟨rfl, R4, d4, hl4, hu4, hog4⟩
  have hmm : WM.app (WM.app ⟨[], 1, []⟩ 20 (⟨#[97, 97, 97, 97]⟩ : ByteArray).data.toList) 20 (⟨#[98, 98, 98, 98]⟩ : ByteArray).data.toList = ⟨[(1, [[97, 97, 97, 97]])], 2, [[98, 98, 98, 98]]⟩ := wm_wakes
  rw [hmm] at hl4
  have HL4 := Lib.hid hl4
  have HOG4 := Lib.hid (HOG3.out.trans hog4)
  have HSE := Lib.hid (segment_calls w4 hl4.wat.lg)
  have HBW4 : Hid (Below w.heap.size w w4) := Lib.hid (by
    have h1 : Below w.heap.size w1 w2 := HO2.out.below HB1.out.size HZ.out
    have h2 : Below w.heap.size w2 w4 := HOG4.out.below (by have := HB1.out.size; have := HO2.out.size; omega) (fun k hk => HO2.out.old k (by have := HB1.out.size; omega) (HZ.out k hk)) (by have := HG2.out; have := HB1.out.size; omega)
    exact (HB1.out.trans h1).trans h2)
  have HOP2 := Lib.hid (wl_open g (size := 20) (by decide) (by decide) w4 hl4.wat.dk hl4.ok hl4.rr hl4.cap hl4.us hl4.kb (by decide) HC.out hl4.wat.en hl4.wat.f6)
  have HZ4 : Hid (∀ k, k < w.heap.size → R4 k = 0) := Lib.hid fun k hk => HOG4.out.old k (by have := HB1.out.size; have := HO2.out.size; omega) (HO2.out.old k (by have := HB1.out.size; omega) (HZ.out k hk))
  clear hl4 hu4 hog4 hmm
  go_wp2_with fail
  refine HSE.out.mono ?_
  rintro e w5 ⟨rfl, rfl⟩
  go_wp2_with fail
  refine HOP2.out.mono ?_
  rintro e w6 ⟨g6, X, c, R6, rfl, hs6, hg6, hx6, hl6, ho6⟩
  have htx : (⟨[(1, [[97, 97, 97, 97]])], 2, [[98, 98, 98, 98]]⟩ : WM).texts = [[97, 97, 97, 97], [98, 98, 98, 98]] := rfl
  rw [htx] at hs6 ⊢
  obtain ⟨b, off, rfl, hbl, x0⟩ := hs6.at_ (i := 0) (by decide)
  obtain ⟨b2, off2, hbe, _, x1⟩ := hs6.at_ (i := 1) (by decide)
  injection hbe with hbe
  injection hbe with hb1e hb2e _
  subst hb1e hb2e
  have x0' : w6.cell? ⟨b, off, none⟩ = some (.string ⟨#[97, 97, 97, 97]⟩) := x0
  have x1' : w6.cell? ⟨b, off + 1, none⟩ = some (.string ⟨#[98, 98, 98, 98]⟩) := x1
  have HBW6 : Hid (Below w.heap.size w w6) := Lib.hid (HBW4.out.trans (ho6.below HBW4.out.size HZ4.out))
  have HN := Lib.hid (wname_calls 7 (by decide) (by decide) w6 hl6.wat.en.pow)
  rw [HN7.out] at HN
  have elen : ([[97, 97, 97, 97], [98, 98, 98, 98]] : List Txt).length = 2 := rfl
  rw [elen]
  clear hs6 hg6 hx6 hl6 ho6 htx x0 x1 elen
  go_wp2_with fail
  refine HN.out.mono ?_
  rintro e w7 ⟨rfl, hb7⟩
  have HB7 := Lib.hid (HBW6.out.trans (hb7.mono HBW6.out.size))
  clear hb7 x0' x1'
  go_wp2_with fail
  go_ret
  exact ⟨rfl, HB7.out⟩
theorem fit16_calls (S : ByteArray) (hS : S.size ≤ 140737488355328) (w : World) :
    Calls Tryz.prog 33 #[.string S] w fun e w' => e = .returned (.bool (decide (0 < S.size ∧ S.size ≤ 65536))) ∧ w = w' := by
  by_cases h0 : S.size = 0
  · have e : S = ⟨#[]⟩ := bytes_eq (List.eq_nil_of_length_eq_zero (by rw [text_size3]; exact h0))
    subst e
    go_enter Tryz.func33, Tryz.ntmps33
    go_wp2_with fail
    go_ret
    exact ⟨rfl, rfl⟩
  · have hn0 : S ≠ (⟨#[]⟩ : ByteArray) := by
      rintro rfl
      exact h0 rfl
    have hemp : S.toList.isEmpty = false := by
      rw [empty_size3]
      exact decide_eq_false h0
    have hl1 : (S.toList == (⟨#[]⟩ : ByteArray).toList) = false := by
      rw [ByteArray.toList_eq, ByteArray.toList_eq, beq_eq_false_iff_ne]
      intro e
      exact hn0 (bytes_eq e)
    have hl2 : (S == (⟨#[]⟩ : ByteArray)) = false := by rw [beq_toListBytes]; exact hl1
    have hne3 : decide (S = (⟨#[]⟩ : ByteArray)) = false := decide_eq_false hn0
    have hfin : decide (0 < S.size ∧ S.size ≤ 65536) = decide ((S.size : Int) ≤ 65536) := by
      rw [decide_eq_decide]
      omega
    rw [hfin]
    clear hfin
    go_enter Tryz.func33, Tryz.ntmps33
    go_wp2_with fail
    go_ret
    exact ⟨rfl, rfl⟩
end
end Go.Proofs.YtfpgbhimgfdddaaGreatDoor
