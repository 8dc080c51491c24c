/- The walk of the law StoreFull (layer 20): a block for which there is no room, or whose place is taken, is refused, and nothing is left of it. -/
import Derived.Test.YtfpgbhimgfdddaaGreatDoorStoWakes
import Derived.Test.YtfpgbhimgfdddaaGreatDoorStb20
set_option linter.unusedVariables false
set_option linter.unusedSimpArgs false
namespace Go.Proofs.YtfpgbhimgfdddaaGreatDoor
open Go.RowKit Go.Shelf Go.Sort
attribute [local go_sem ↓] Go.wp_at_zero Go.wp_at_succ
attribute [local go_sem] Later.cell Later.frozen

section
variable {B0 M p : Nat} {a : Nat → Addr} {R : Nat → Nat} {d : Ds} {w : World}
/-- List at the root: how many there are. -/
theorem Dk.listed (h : Dk B0 M w R p d) (hM : M ≤ 536870912) (hB : B0 ≤ w.heap.size) (hF : Fails B0 a w) :
    Calls Tryz.prog 29 #[.pointer (some ⟨p, 0, none⟩), .string ⟨#[]⟩] w fun e w' => ∃ A c u, e = .returned (.tuple #[.slice A (listD d []).1.length c, u]) ∧ Below w.heap.size w w' := by
  obtain ⟨A, hc, rfl⟩ := h.ex
  refine (list_root w hc (h.wf.fit hM) hB hF (fun i => by have := h.wf.nl hM i; omega)).mono ?_
  rintro e w' ⟨v, u, rfl, _, h2, h3⟩
  rcases h2.slice with ⟨h4, rfl⟩ | ⟨g, c, rfl⟩
  · exact ⟨none, 0, u, by rw [h4]; rfl, h3⟩
  · exact ⟨_, c, u, rfl, h3⟩
theorem newD_cap {c : Nat} (h : c ≤ 67108864) : newD (c : Int) = roomD c := by
  unfold newD roomD
  congr 1
  omega
set_option maxRecDepth 100000 in
set_option maxHeartbeats 8000000 in
theorem storefull_calls (FA FB FC : ByteArray) (room : Int) (hsa : FA.size ≤ 140737488351232) (hsb : FB.size ≤ 140737488351232) (hsc : FC.size ≤ 140737488351232) (hr1 : -9223372036854775808 ≤ room) (hr2 : room ≤ 9223372036854775807) (w : World) (hC : SCon B0 a) (hE : SEnv B0 a w) :
    Calls Tryz.prog 6 #[fsV FA FB FC, .int .i64 room] w fun e w' => e = .returned (.bool true) ∧ Below w.heap.size w w' := by
  obtain ⟨W, hW⟩ : ∃ W, w.alloc (.cells #[.string FA, .string FB, .string FC] 57) = W := ⟨_, rfl⟩
  obtain ⟨b, hb⟩ : ∃ b, w.heap.size = b := ⟨_, rfl⟩
  have hbl : Below w.heap.size w W := by rw [← hW]; exact (Below.refl _ _).alloc (Nat.le_refl _) _
  have HK : Hid (Blk W b 57 #[.string FA, .string FB, .string FC]) := Lib.hid (by rw [← hW, ← hb]; exact Blk.new _ _ _)
  have HW := Lib.hid hW
  have HG := Lib.hid hb
  have HB := Lib.hid hbl
  have HC := Lib.hid hC
  have HE := Lib.hid (hE.low hC hbl)
  have HWK : Hid (∀ w', Below W.heap.size W w' → Calls Tryz.prog 13 #[] w' fun e w2 => e = .returned (.bool true) ∧ Below w'.heap.size w' w2) := Lib.hid fun w' h => wakes20_calls w' HC.out (HE.out.low HC.out h)
  obtain ⟨n, hn⟩ : ∃ n, FA.size + FB.size + FC.size = n := ⟨_, rfl⟩
  have HN := Lib.hid hn
  have HNC : Hid (((FA.size : Int) + (FB.size : Int) + (FC.size : Int)) = (n : Int)) := Lib.hid (by omega)
  clear hC hE hbl hW hb hn
  go_enter Tryz.func6, Tryz.ntmps6
  unfold fsV
  go_upto_region 1 with fail
  have hW2 : w.alloc (.cells #[.string FA, .string FB, .string FC] 57) = W := HW.out
  have hg2 : w.heap.size = b := HG.out
  rw [hW2, hg2]
  clear hW2 hg2
  have x0 : W.cell? ⟨b, 0, none⟩ = some (.string FA) := HK.out.cell 0
  have x1 : W.cell? ⟨b, 1, none⟩ = some (.string FB) := HK.out.cell 1
  have x2 : W.cell? ⟨b, 2, none⟩ = some (.string FC) := HK.out.cell 2
  go_cut [5] (fun s5 wz => wz = W ∧ s5 = .int .i64 (n : Int))
  case first =>
    go_wp2_with fail
    go_meet
    exact ⟨rfl, vi HNC.out⟩
  case rest =>
    obtain ⟨rfl, rfl⟩ := hcut
    obtain ⟨W, rfl⟩ : ∃ x, x = wc := ⟨_, rfl⟩
    clear x0 x1 x2
    have hn47 : n ≤ 422212465053696 := by rw [← HN.out]; omega
    clear hsa hsb hsc
    by_cases h20 : 1048576 < n
    · have d1 : decide ((1048576 : Int) < (n : Int)) = true := by simp; omega
      clear h20
      go_wp2_with fail
      refine (HWK.out W (Below.refl _ _)).mono ?_
      rintro e w2 ⟨rfl, hb2⟩
      have HB2 := Lib.hid hb2
      clear hb2
      go_wp2_with fail
      refine (HWK.out w2 HB2.out).mono ?_
      rintro e w3 ⟨rfl, hb3⟩
      have HB3 := Lib.hid (HB2.out.trans (hb3.mono HB2.out.size))
      clear hb3
      go_wp2_with fail
      go_ret
      exact ⟨rfl, HB.out.trans (HB3.out.mono HB.out.size)⟩
    have d1 : decide ((1048576 : Int) < (n : Int)) = false := by simp; omega
    go_upto_region 4 with (go_at_call 13; refine (HWK.out W (Below.refl _ _)).mono ?_; rintro e w2 ⟨rfl, hb2⟩)
    have HB2 := Lib.hid hb2
    have hn20 : n ≤ 1048576 := by omega
    clear hb2 d1 h20
    go_cut [6] (fun s6 wz => ∃ c : Nat, c < 2000 ∧ s6 = .int .i64 (c : Int) ∧ wz = w2)
    case first =>
      go_wp2_with fail
      go_meet
      refine ⟨(max 0 room % 2000).toNat, by omega, vi ?_, rfl⟩
      first | omega | (have := Int.tmod_eq_emod_of_nonneg (b := 2000) (show (0 : Int) ≤ max 0 room by omega); omega)
    case rest =>
      obtain ⟨c, hc, rfl, rfl⟩ := hcut
      obtain ⟨w2, rfl⟩ : ∃ x, x = wc := ⟨_, rfl⟩
      have HE2 := Lib.hid (HE.out.low HC.out HB2.out)
      have HK2 := Lib.hid (HK.out.below HB2.out HK.out.lt)
      have HCP := Lib.hid (newD_cap (c := c) (by omega))
      have HNEW := Lib.hid (Dk.made (c : Int) (by omega) (by omega) w2 HE2.out.hb)
      rw [HCP.out] at HNEW
      go_wp2_with fail
      refine HNEW.out.mono ?_
      rintro e w3 ⟨p, R, rfl, hd3, hb3, hz3⟩
      have HE3 := Lib.hid (HE2.out.low HC.out hb3)
      have HD3 := Lib.hid hd3
      have HK3 := Lib.hid (⟨HK2.out.below hb3 HK2.out.lt, hz3 b HK2.out.lt⟩ : _ ∧ _)
      have HZ3 : Hid (∀ k, k < W.heap.size → R k = 0) := Lib.hid fun k hk => hz3 k (by have := HB2.out.size; omega)
      have HB3 := Lib.hid (HB2.out.trans (hb3.mono HB2.out.size))
      have HSV := Lib.hid (save_calls 7 (by decide) (by decide) FA FB FC w3 hd3 (by have := HN.out; omega) HC.out HE3.out)
      obtain ⟨r4, hr4⟩ : ∃ r, saveD (roomD c) (nameT sT 7) (nameT sB 7) (fs3 FA FB FC) = r := ⟨_, rfl⟩
      rw [hr4] at HSV
      have HR4 := Lib.hid hr4
      clear hr4
      have HT := Lib.hid (two_names (n := 7) (by decide) (by decide))
      have HFL : Hid ((fs3 FA FB FC).len = n) := Lib.hid (by
        have := HN.out
        unfold Fs3.len fs3
        simp
        omega)
      clear hd3 hb3 hz3
      have x0 : w3.cell? ⟨b, 0, none⟩ = some (.string FA) := HK3.out.1.cell 0
      have x1 : w3.cell? ⟨b, 1, none⟩ = some (.string FB) := HK3.out.1.cell 1
      have x2 : w3.cell? ⟨b, 2, none⟩ = some (.string FC) := HK3.out.1.cell 2
      go_wp2_with fail
      refine HSV.out.mono ?_
      rintro e w4 ⟨v4, R4, rfl, hv4, hd4, ho4⟩
      have HV4 := Lib.hid hv4
      have HD4 := Lib.hid hd4
      have HO4 := Lib.hid ho4
      have HE4 := Lib.hid (HE3.out.out HC.out HD3.out ho4)
      clear hv4 hd4 ho4 x0 x1 x2
      go_wp2_with fail
      refine (HD4.out.listed (a := a) (by have := HN.out; omega) HE4.out.hb HE4.out.e.f).mono ?_
      rintro e w5 ⟨A5, c5, u5, rfl, hb5⟩
      obtain ⟨l5, hl5⟩ : ∃ k, (listD r4.2 []).1.length = k := ⟨_, rfl⟩
      have HL5 := Lib.hid hl5
      rw [hl5]
      clear hl5
      have HD5 := Lib.hid (HD4.out.below hb5)
      have HE5 := Lib.hid (HE4.out.low HC.out hb5)
      have HV5 := Lib.hid (HV4.out.below hb5)
      have HO5 := Lib.hid (HO4.out.trans (Out.of_below (R := R4) hb5))
      clear hb5
      by_cases hle : n ≤ c
      · have d2 : decide ((n : Int) ≤ (c : Int)) = true := by simp; omega
        have d3 : decide (n ≤ c) = true := by simp; omega
        have d5 : (n : Int) ≤ (c : Int) := by omega
        obtain ⟨q1, q2, q3, q4, q5⟩ := full_twice (f := fs3 FA FB FC) HT.out c (by rw [HFL.out]; exact hle)
        rw [HR4.out] at q1
        subst q1
        obtain rfl : v4 = .nilIface := HV5.out
        have HSV2 := Lib.hid (save_calls 7 (by decide) (by decide) ⟨#[]⟩ ⟨#[]⟩ ⟨#[]⟩ w5 HD5.out (by have := HN.out; show _ + 0 + 0 + 0 + 16 ≤ _; omega) HC.out HE5.out)
        have hnn : fs3 ⟨#[]⟩ ⟨#[]⟩ ⟨#[]⟩ = Fs3.none := rfl
        rw [hnn] at HSV2
        obtain ⟨r6, hr6⟩ : ∃ r, saveD (doneD (roomD c) (nameT sT 7) (nameT sB 7) (fs3 FA FB FC)) (nameT sT 7) (nameT sB 7) .none = r := ⟨_, rfl⟩
        rw [hr6] at HSV2 q2 q3 q4 q5
        clear hr6
        have HQ2 := Lib.hid q2
        have HQ := Lib.hid (⟨q3, q4, q5⟩ : _ ∧ _ ∧ _)
        clear q2 q3 q4 q5 hnn
        go_wp2_with fail
        refine HSV2.out.mono ?_
        rintro e w6 ⟨v6, R6, rfl, hv6, hd6, ho6⟩
        rw [HQ2.out] at hv6
        obtain ⟨q, op, path, rfl, hq1, hq2⟩ := hv6
        have HD6 : Hid (Dk B0 4000000 w6 R6 p r6.2) := Lib.hid (hd6.more (by have := HN.out; show 0 + FA.size + FB.size + FC.size + 15 + 0 + 0 + 0 + 15 ≤ _; omega))
        have HO6 := Lib.hid (HO5.out.trans ho6)
        have HE6 := Lib.hid (HE5.out.out HC.out HD5.out ho6)
        have HF6 := Lib.hid hq1
        have hta := run_asserted (.pointer (some ⟨q, 0, none⟩))
        clear hq1 hq2 hd6 ho6
        go_wp2_with fail
        refine (HD6.out.listed (a := a) (by omega) HE6.out.hb HE6.out.e.f).mono ?_
        rintro e w7 ⟨A7, c7, u7, rfl, hb7⟩
        have hl7 : (listD r6.2 []).1.length = 1 := (list_one HQ.out.1 HT.out.bn HQ.out.2.1).1
        rw [hl7]
        have HD7 := Lib.hid (HD6.out.below hb7)
        have HE7 := Lib.hid (HE6.out.low HC.out hb7)
        have HF7 := Lib.hid (HF6.out.below hb7 HF6.out.lt)
        have HO7 := Lib.hid (HO6.out.trans (Out.of_below (R := R6) hb7))
        have HUS : Hid (∀ x : Later w7, Calls Tryz.prog 30 #[.pointer (some ⟨p, 0, none⟩)] x.w fun e w' => e = .returned (.int .i64 (n : Int)) ∧ Below x.w.heap.size x.w w') := Lib.hid fun x => by
          have h1 := (HD7.out.below x.h).used (by omega)
          rw [HQ.out.2.2, HFL.out] at h1
          exact h1
        clear hb7 hl7
        go_upto_region 11 with fail
        have kq : w7.cell? ⟨q, 2, none⟩ = some (failV a 5) := HF7.out.cell 2
        have kg : w7.cell? ⟨1, 0, none⟩ = some (failV a 5) := (HE7.out.e.f 5 (by decide)).2
        have hql := HF7.out.lt
        have hgl : 1 < w7.heap.size := lt_of_cell kg
        have heq := fun w => err_eq (a := a) 5 w
        unfold failV at kq kg heq
        refine wp_region_later (by kernel_rfl) (by kernel_rfl) ?_
        repeat (go_big_quiet_step ((go_at_call 30; exact quiet_later _ (HUS.out _))))
        refine wpQuiet_nil ?_
        rintro w8 ⟨⟨_, hb8⟩, rfl⟩
        have HFIN : Hid (Below w.heap.size w w8) := Lib.hid (by
          have h2 := (HO7.out.trans (Out.of_below (R := R6) hb8)).below HB3.out.size HZ3.out
          exact HB.out.trans ((HB3.out.trans h2).mono HB.out.size))
        clear hb8 kq kg hql hgl heq
        go_wp2_with fail
        go_ret
        exact ⟨rfl, HFIN.out⟩
      · have d2 : decide ((n : Int) ≤ (c : Int)) = false := by simp; omega
        have d3 : decide (n ≤ c) = false := by simp; omega
        have d4 : c < n := by omega
        obtain ⟨q1, q2, q3⟩ := full_bad (f := fs3 FA FB FC) HT.out c (by rw [HFL.out]; omega)
        rw [HR4.out] at q1 q2 q3
        have hl0 : l5 = 0 := by rw [← HL5.out, list_nil q3 q2]; rfl
        subst hl0
        have hu0 : usedD r4.2 = 0 := sused_nil q3 q2
        have HU0 := Lib.hid hu0
        obtain ⟨q, op, path, rfl, hq1, hq2⟩ := HV5.out.some_ (by omega)
        rw [q1] at hq1
        have HF5 := Lib.hid hq1
        have hta := run_asserted (.pointer (some ⟨q, 0, none⟩))
        have d5 : ¬ ((n : Int) ≤ (c : Int)) := by omega
        clear hq1 hq2 q1 q2 q3 hu0
        go_upto_region 13 with fail
        have HUS : Hid (∀ x : Later w5, Calls Tryz.prog 30 #[.pointer (some ⟨p, 0, none⟩)] x.w fun e w' => e = .returned (.int .i64 0) ∧ Below x.w.heap.size x.w w') := Lib.hid fun x => by
          have h1 := (HD5.out.below x.h).used (by have := HN.out; omega)
          rw [HU0.out] at h1
          exact h1
        have kq : w5.cell? ⟨q, 2, none⟩ = some (failV a 7) := HF5.out.cell 2
        have kg : w5.cell? ⟨2, 0, none⟩ = some (failV a 7) := (HE5.out.e.f 7 (by decide)).2
        have hql := HF5.out.lt
        have hgl : 2 < w5.heap.size := lt_of_cell kg
        have heq := fun w => err_eq (a := a) 7 w
        unfold failV at kq kg heq
        refine wp_region_later (by kernel_rfl) (by kernel_rfl) ?_
        repeat (go_big_quiet_step ((go_at_call 30; exact quiet_later _ (HUS.out _))))
        refine wpQuiet_nil ?_
        rintro w8 ⟨⟨_, hb8⟩, rfl⟩
        have HFIN : Hid (Below w.heap.size w w8) := Lib.hid (by
          have h2 := (HO5.out.trans (Out.of_below (R := R4) hb8)).below HB3.out.size HZ3.out
          exact HB.out.trans ((HB3.out.trans h2).mono HB.out.size))
        clear hb8 kq kg hql hgl heq
        go_wp2_with fail
        go_ret
        exact ⟨rfl, HFIN.out⟩
end
end Go.Proofs.YtfpgbhimgfdddaaGreatDoor
