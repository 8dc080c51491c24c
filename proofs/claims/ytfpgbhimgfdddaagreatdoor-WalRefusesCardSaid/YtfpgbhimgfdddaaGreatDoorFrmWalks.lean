/- The walks of layer 2 (enc): frames. -/
import Derived.Test.YtfpgbhimgfdddaaGreatDoorWak15
import Derived.Test.YtfpgbhimgfdddaaGreatDoorFrmPlain
set_option linter.unusedVariables false
set_option linter.unusedSimpArgs false
namespace Go.Proofs.YtfpgbhimgfdddaaGreatDoor
open Go.RowKit
attribute [local go_sem ↓] Go.wp_at_zero Go.wp_at_succ
attribute [local go_sem] Later.cell Later.frozen

theorem frame_nil (w : World) :
    Calls Tryz.prog 89 #[.string ⟨#[]⟩] w fun e w' => e = .returned (.tuple #[.string ⟨#[]⟩, .int .i64 21]) ∧ Below w.heap.size w w' := by
  go_enter Tryz.func89, Tryz.ntmps89
  go_wp2_with fail
  go_ret2
  exact ⟨rfl, Below.refl _ _⟩
set_option maxRecDepth 100000 in
set_option maxHeartbeats 1000000 in
theorem frame_good (s : ByteArray) (h0 : 0 < s.size) (h1 : s.size ≤ 1048576) (w : World) (hT : NibTab w) :
    Calls Tryz.prog 89 #[.string s] w fun e w' => e = .returned (.tuple #[.string ⟨(frameT s.data.toList).toArray⟩, .int .i64 0]) ∧ Below w.heap.size w w' := by
  obtain ⟨m, hm⟩ : ∃ m, s.size = m + 1 := ⟨s.size - 1, by omega⟩
  have HT := Lib.hid hT
  have HF1 := Lib.hid (fun w => four_calls (m + 1) (by omega) w)
  have HF2 := Lib.hid (fun w => four_calls (crcL s.data.toList) (crcL_lt _) w)
  obtain ⟨F, hF⟩ : ∃ F : ByteArray, (⟨(fourT (m + 1)).toArray⟩ : ByteArray) = F := ⟨_, rfl⟩
  have hF4 : F.size = 4 := by rw [← hF]; rfl
  obtain ⟨G, hG⟩ : ∃ F : ByteArray, (⟨(fourT (crcL s.data.toList)).toArray⟩ : ByteArray) = F := ⟨_, rfl⟩
  have hG4 : G.size = 4 := by rw [← hG]; rfl
  have hfin : F ++ s ++ G ++ (⟨#[1]⟩ : ByteArray) = (⟨(frameT s.data.toList).toArray⟩ : ByteArray) := bytes_eq (by rw [← hG, ← hF, ← hm]; simp [frameT, ByteArray.data_append])
  have HFIN := Lib.hid hfin
  rw [hF] at HF1
  rw [hG] at HF2
  have hm2 : m + 1 ≤ 1048576 := by omega
  have d1 : decide ((1048576 : Int) < (m : Int) + 1) = false := by simp; omega
  have d2 : decide ((1048576 : Int) < ((m + 1 : Nat) : Int)) = false := by simp; omega
  clear hfin hF hG h1 h0 hT
  go_enter Tryz.func89, Tryz.ntmps89
  go_wp2_with fail
  refine (HF1.out w).mono ?_
  rintro _ w1 ⟨rfl, hb1⟩
  have HB1 := Lib.hid hb1
  clear hb1
  go_wp2_with fail
  refine (crc_one (c := 1) (Blk.new w1 _ _) (by omega) ((HT.out.below HT.out.lt HB1.out).below (HT.out.below HT.out.lt HB1.out).lt ((Below.refl _ _).alloc (Nat.le_refl _) _))).mono ?_
  rintro _ w2 ⟨rfl, rfl⟩
  have HB2 : Hid (Below w.heap.size w (w1.alloc (.cells #[.string s] 9))) := Lib.hid (HB1.out.alloc HB1.out.size _)
  go_wp2_with fail
  refine (HF2.out _).mono ?_
  rintro _ w3 ⟨rfl, hb3⟩
  have HB3 := Lib.hid (then_ HB2.out hb3)
  clear hb3
  go_wp2_with fail
  rw [HFIN.out]
  go_ret2
  exact ⟨rfl, HB3.out⟩
set_option maxRecDepth 100000 in
set_option maxHeartbeats 4000000 in
theorem unframe_calls (s : ByteArray) (i : Nat) (hi : i ≤ s.size) (hs : s.size ≤ 140737488351232) (w : World) (hT : NibTab w) :
    Calls Tryz.prog 155 #[.string s, .int .i64 (i : Int)] w fun e w' => e = .returned (.tuple #[txtV (unframeT s.data.toList i).1, .int .i64 ((unframeT s.data.toList i).2.1 : Int), .int .i64 ((unframeT s.data.toList i).2.2 : Int)]) ∧ Below w.heap.size w w' := by
  obtain ⟨n, hn⟩ : ∃ n, s.size = n := ⟨_, rfl⟩
  obtain ⟨q, hq⟩ : ∃ q, n = i + q := ⟨n - i, by omega⟩
  have eq_ : (n : Int) - (i : Int) = (q : Int) := by omega
  have d1 : decide ((i : Int) < 0) = false := by simp
  have d2 : decide ((n : Int) < (i : Int)) = false := by simp; omega
  have HT := Lib.hid hT
  clear hT
  obtain ⟨r, hr⟩ : ∃ r, unframeT s.data.toList i = r := ⟨_, rfl⟩
  by_cases h4 : q < 4
  · have d3 : decide ((q : Int) < 4) = true := by simp; omega
    have hu : unframeT s.data.toList i = ([], 0, 20) := by unfold unframeT; rw [if_pos (by rw [text_size3]; omega)]
    rw [hu]
    clear hu hr
    go_enter Tryz.func155, Tryz.ntmps155
    go_wp2_with fail
    go_ret3
    exact ⟨rfl, Below.refl _ _⟩
  have d3 : decide ((q : Int) < 4) = false := by simp; omega
  obtain ⟨m, hm⟩ : ∃ m, q = m + 4 := ⟨q - 4, by omega⟩
  obtain ⟨j, hj⟩ : ∃ j, i + 4 = j := ⟨_, rfl⟩
  have e4 : (i : Int) + 4 = (j : Int) := by omega
  obtain ⟨X, hX⟩ : ∃ X, s.extract i n = X := ⟨_, rfl⟩
  obtain ⟨R, hR⟩ : ∃ X, s.extract j n = X := ⟨_, rfl⟩
  have hXl : X.data.toList = s.data.toList.drop i := by rw [← hX, ← hn]; exact drop_bytes s i
  have hRl : R.data.toList = s.data.toList.drop j := by rw [← hR, ← hn]; exact drop_bytes s j
  have hXs : X.size = q := by rw [← text_size3, hXl, List.length_drop, text_size3]; omega
  have hRs : R.size = m := by rw [← text_size3, hRl, List.length_drop, text_size3]; omega
  obtain ⟨k, hk⟩ : ∃ k, numT X.data.toList = k := ⟨_, rfl⟩
  have hu : r = if k = 0 ∨ 1048576 < k then ([], 0, 21) else if m < k + 5 then ([], 0, 20) else if R.data.toList.getD (k + 4) 0 ≠ 1 then ([], 0, 21) else
      if crcL (R.data.toList.take k) ≠ numT (R.data.toList.drop k) then ([], 0, 22) else (R.data.toList.take k, i + 9 + k, 0) := by
    rw [← hr]
    unfold unframeT
    rw [if_neg (by rw [text_size3]; omega), ← hXl, hk, hj, ← hRl, text_size3, hRs]
  have HM := Lib.hid (fun w' => number_calls X (by omega) (by omega) w')
  rw [hk] at HM
  have hk32 : k < 4294967296 := by rw [← hk]; exact numT_lt _
  have HU := Lib.hid hu
  have HX := Lib.hid hX
  have HR := Lib.hid hR
  rw [hr]
  have b0 : (0 : Int) ≤ (i : Int) := by omega
  have b1 : (i : Int) ≤ (n : Int) := by omega
  have b2 : (0 : Int) ≤ (j : Int) := by omega
  have b3 : (j : Int) ≤ (n : Int) := by omega
  have b4 : i ≤ n := by omega
  have b5 : j ≤ n := by omega
  have b6 : (i : Int) ≤ (s.size : Int) := by omega
  have b7 : (j : Int) ≤ (s.size : Int) := by omega
  have b8 : i ≤ s.size := by omega
  have b9 : j ≤ s.size := by omega
  have b10 : IntKind.i64.wrap ((i : Int) + 4) = (j : Int) := by rw [e4]; exact IntWalk.i64_in _ (by omega)
  have hmz : m ≤ 140737488351232 := by omega
  have hiz : i ≤ 140737488351232 := by omega
  have HM4 := Lib.hid hm
  have HQ := Lib.hid hq
  clear hu hr hk hXl hRl h4 hm hq
  go_enter Tryz.func155, Tryz.ntmps155
  go_upto_region 3 with fail
  refine wp_region_later (by kernel_rfl) (by kernel_rfl) ?_
  repeat (go_big_quiet_step ((go_at_call 109; (try rw [HX.out]); exact quiet_same _ (HM.out _))))
  refine wpQuiet_nil ?_
  rintro w1 ⟨⟨w1, hb1⟩, rfl⟩
  have HB1 := Lib.hid hb1
  have HT1 := Lib.hid (HT.out.below HT.out.lt hb1)
  clear hb1
  clear b0 b1 b2 b3 b4 b5 b6 b7 b8 b9 b10 d1 d2 d3 e4 eq_ hj hX hR hXs hn hi
  by_cases hk0 : k = 0
  · have hr0 : r = ([], 0, 21) := by rw [HU.out, if_pos (.inl hk0)]
    subst hk0
    subst hr0
    go_wp2_with fail
    go_ret3
    exact ⟨rfl, HB1.out⟩
  have f1 : (k : Int) ≠ 0 := by omega
  have f2 : ((k : Int) == 0) = false := by simpa using f1
  have f3 : decide ((k : Int) = 0) = false := by simpa using f1
  by_cases hk1 : 1048576 < k
  · have hr0 : r = ([], 0, 21) := by rw [HU.out, if_pos (.inr hk1)]
    have f4 : decide ((1048576 : Int) < (k : Int)) = true := by simp; omega
    subst hr0
    go_wp2_with fail
    go_ret3
    exact ⟨rfl, HB1.out⟩
  have f4 : decide ((1048576 : Int) < (k : Int)) = false := by simp; omega
  have hkn : ¬ (k = 0 ∨ 1048576 < k) := by omega
  by_cases hk2 : m < k + 5
  · have hr0 : r = ([], 0, 20) := by rw [HU.out, if_neg hkn, if_pos hk2]
    have f5 : decide ((m : Int) - 5 < (k : Int)) = true := by simp; omega
    subst hr0
    go_wp2_with fail
    go_ret3
    exact ⟨rfl, HB1.out⟩
  have f5 : decide ((m : Int) - 5 < (k : Int)) = false := by simp; omega
  obtain ⟨u, hu⟩ : ∃ u, k + 4 = u := ⟨_, rfl⟩
  have g1 : (k : Int) + 4 = (u : Int) := by omega
  have g2 : u < R.size := by omega
  have hb8 := UInt8.toNat_lt R[u]
  have hgd : R.data.toList.getD (k + 4) 0 = R[u] := by
    rw [List.getD_eq_getElem?_getD, hu, List.getElem?_eq_getElem (by rw [text_size3]; exact g2)]
    simp [ByteArray.getElem_eq_getElem_data]
  by_cases hk3 : R[u] = 1
  · have f6 : ((R[u].toNat : Int) != 1) = false := by rw [hk3]; rfl
    have f7 : ((R[u].toNat : Int) == 1) = true := by rw [hk3]; rfl
    have f8 : decide ((R[u].toNat : Int) = 1) = true := by rw [hk3]; rfl
    obtain ⟨P, hP⟩ : ∃ X, R.extract 0 k = X := ⟨_, rfl⟩
    obtain ⟨Y, hY⟩ : ∃ X, R.extract k m = X := ⟨_, rfl⟩
    have hPl : P.data.toList = R.data.toList.take k := by rw [← hP]; exact take_bytes R k
    have hYl : Y.data.toList = R.data.toList.drop k := by rw [← hY, ← hRs]; exact drop_bytes R k
    have hPs : P.size = k := by rw [← text_size3, hPl, List.length_take, text_size3]; omega
    have hYs : Y.size = m - k := by rw [← text_size3, hYl, List.length_drop, text_size3]; omega
    have hr1 : r = if crcL P.data.toList ≠ numT Y.data.toList then ([], 0, 22) else (P.data.toList, i + 9 + k, 0) := by
      rw [HU.out, if_neg hkn, if_neg hk2, if_neg (by rw [hgd]; simpa using hk3), hPl, hYl]
    have HP := Lib.hid hP
    have HY := Lib.hid hY
    have HR1 := Lib.hid hr1
    have HN2 := Lib.hid (fun w' => number_calls Y (by omega) (by have := HM4.out; have := HQ.out; omega) w')
    have b0 : (0 : Int) ≤ (k : Int) := by omega
    have b1 : (k : Int) ≤ (m : Int) := by omega
    have b2 : k ≤ m := by omega
    obtain ⟨c1, hc1⟩ : ∃ c, crcL P.data.toList = c := ⟨_, rfl⟩
    obtain ⟨c2, hc2⟩ : ∃ c, numT Y.data.toList = c := ⟨_, rfl⟩
    rw [hc2] at HN2
    rw [hc1, hc2] at HR1
    have HC1 := Lib.hid hc1
    clear hr1 hgd hPl hYl hP hY hc1 hc2 hk3 hkn hk0 hk1 hk2
    go_upto_region 10 with fail
    have hb2 : Below w1.heap.size w1 (w1.alloc (.cells #[.string P] 9)).drew := ((Below.refl _ _).alloc (Nat.le_refl _) _).drew
    have hk2 : Blk (w1.alloc (.cells #[.string P] 9)).drew w1.heap.size 9 #[.string P] := Blk.new _ _ _
    have HC := Lib.hid (crc_one (c := 1) hk2 (by omega) (HT1.out.below HT1.out.lt hb2))
    rw [HC1.out] at HC
    have HB2 := Lib.hid (then_ HB1.out hb2)
    clear hk2 hb2
    have hP := HP.out
    have hY := HY.out
    go_region_held3 (fun _ => True) (go_keep) (first | (go_at_call 102; (try rw [HP.out]); with_reducible refine HC.out.mono ?_; rintro e w2 ⟨rfl, rfl⟩) | (go_at_call 109; (try rw [HY.out]); with_reducible refine (HN2.out _).mono ?_; rintro e w3 ⟨rfl, rfl⟩))
    by_cases hcc : c1 = c2
    · subst hcc
      have e1 : ((c1 : Int) != (c1 : Int)) = false := by simp
      have hr0 : r = (P.data.toList, i + 9 + k, 0) := by rw [HR1.out, if_neg (by simp)]
      have hPv : txtV P.data.toList = .string P := by unfold txtV; rfl
      subst hr0
      have HPV := Lib.hid hPv
      clear hPv
      go_wp2_with fail
      go_ret3
      refine ⟨?_, HB2.out⟩
      rw [HPV.out]
      exact congrArg (fun x => Ending.returned (.tuple #[.string P, .int .i64 x, .int .i64 0])) (by omega)
    · have e1 : ((c1 : Int) != (c2 : Int)) = true := by simp; omega
      have hr0 : r = ([], 0, 22) := by rw [HR1.out, if_pos hcc]
      subst hr0
      go_wp2_with fail
      go_ret3
      exact ⟨rfl, HB2.out⟩
  · have hr0 : r = ([], 0, 21) := by rw [HU.out, if_neg hkn, if_neg hk2, if_pos (by rw [hgd]; exact hk3)]
    have hne : R[u].toNat ≠ 1 := fun e => hk3 (UInt8.toNat_inj.1 e)
    obtain ⟨b, hb⟩ : ∃ b, R[u].toNat = b := ⟨_, rfl⟩
    have f6 : ((R[u].toNat : Int) != 1) = true := by simp; omega
    have f7 : ((R[u].toNat : Int) == 1) = false := by simp; omega
    have f8 : decide ((R[u].toNat : Int) = 1) = false := by simp; omega
    subst hr0
    clear hb hk3 hne hgd
    go_wp2_with fail
    go_ret3
    exact ⟨rfl, HB1.out⟩
end Go.Proofs.YtfpgbhimgfdddaaGreatDoor
