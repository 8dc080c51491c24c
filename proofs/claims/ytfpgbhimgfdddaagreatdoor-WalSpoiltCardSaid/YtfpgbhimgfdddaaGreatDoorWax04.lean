/- Merged: WalWalksJ, WalWalksK, WalLog, WalLawA. -/
import Derived.Test.YtfpgbhimgfdddaaGreatDoorWax03
import Derived.Test.YtfpgbhimgfdddaaGreatDoorWax02
set_option linter.unusedVariables false
set_option linter.unusedSimpArgs false
/-! ## WalWalksJ -/
/- The walks of layer 16 (wal): Append of a payload (printed by gen_walapp.py). -/
namespace Go.Proofs.YtfpgbhimgfdddaaGreatDoor
open Go.RowKit Go.Shelf Go.Sort
attribute [local go_sem ↓] Go.wp_at_zero Go.wp_at_succ
attribute [local go_sem] Later.cell Later.frozen

section
variable {B0 M p g : Nat} {a : Nat → Addr} {R R' R'' : Nat → Nat} {d : Ds} {w w' w'' : World} {D : ByteArray} {size last used : Int}
theorem LogAt.c03 (h : LogAt w g p D size last used) : w.cell? ⟨g, 0, none⟩ = some (.pointer (some ⟨p, 0, none⟩)) ∧ w.cell? ⟨g, 3, none⟩ = some (.int .i64 last) := ⟨h.c0, h.c3⟩
set_option maxRecDepth 100000 in
set_option maxHeartbeats 8000000 in
theorem append_on (S : ByteArray) (hS0 : 0 < S.size) (hS1 : S.size ≤ 1048576) (n u : Nat) (hn : n ≤ 99999999) (huz : u ≤ 1073741824) (hs1 : 1 ≤ size) (hs2 : size ≤ 9223372036854775807) (hDs : D.size ≤ 1000) (w : World) (hA : WAt B0 a M p g R D size (n : Int) (u : Int) d w) (hM : M + S.size + 20 ≤ 536870912) (hC : SCon B0 a)
    (hnf : ¬ (0 < u ∧ size - ((S.size + 9 : Nat) : Int) < (u : Int)))
    (hap : (appendD d (wP D.data.toList (n : Int)) (frameT S.data.toList)).1 = 0) (hsy : (syncD (appendD d (wP D.data.toList (n : Int)) (frameT S.data.toList)).2 (wP D.data.toList (n : Int))).1 = 0) :
    Calls Tryz.prog 34 #[.pointer (some ⟨g, 0, none⟩), .string S] w fun e w' => e = .returned .nilIface ∧ ∃ R', WAt B0 a (M + S.size + 13) p g R' D size (n : Int) ((u + S.size + 9 : Nat) : Int) (putW D.data.toList d (n : Int) S.data.toList) w' ∧ OutG g R R' w w' := by
  obtain ⟨F, hF⟩ : ∃ F : ByteArray, (⟨(frameT S.data.toList).toArray⟩ : ByteArray) = F := ⟨_, rfl⟩
  have hFl : F.data.toList = frameT S.data.toList := by rw [← hF]
  have hFs : F.size = S.size + 9 := by rw [← text_size3, hFl, frameT_len, text_size3]
  obtain ⟨k, hk⟩ : ∃ k, F.size = k := ⟨_, rfl⟩
  have hks : S.size + 9 = k := by omega
  have HFR : Hid (∀ w', Below w.heap.size w w' → Calls Tryz.prog 89 #[.string S] w' fun e w2 => e = .returned (.tuple #[.string F, .int .i64 0]) ∧ Below w'.heap.size w' w2) := Lib.hid fun w' h => by
    rw [← hF]
    exact frame_good S hS0 hS1 w' (hA.en.low hC h).nib
  obtain ⟨P, hP⟩ := wP_bytes D (n : Int)
  have HPS := Lib.hid (wP_size hP hDs)
  have HA := Lib.hid hA
  have HC := Lib.hid hC
  have HD1K := Lib.hid hDs
  rw [← hP, ← hFl] at hap hsy
  have HAP := Lib.hid (⟨hap, hsy⟩ : _ ∧ _)
  have hput : putW D.data.toList d (n : Int) S.data.toList = (syncD (appendD d P.data.toList F.data.toList).2 P.data.toList).2 := by
    unfold putW
    rw [hP, hFl]
  have HPL := Lib.hid hP
  have HMM := Lib.hid hM
  have HKS := Lib.hid hks
  have HFK := Lib.hid hk
  have e9 : ((u + S.size + 9 : Nat) : Int) = ((u + k : Nat) : Int) := by omega
  rw [e9, hput]
  obtain ⟨uz, huzz⟩ : ∃ z : Int, (u : Int) = z := ⟨_, rfl⟩
  have HUZ := Lib.hid huzz
  have HZ0 : Hid (¬ (0 < uz ∧ size - (k : Int) < uz)) := Lib.hid (by rw [← hks]; omega)
  have z3 : -9223372036854775808 ≤ size - (k : Int) ∧ size - (k : Int) ≤ 9223372036854775807 := by omega
  have z4 : k ≤ 1073741824 := by omega
  obtain ⟨lz, hlz⟩ : ∃ z : Int, (n : Int) = z := ⟨_, rfl⟩
  have HLZ := Lib.hid hlz
  have hlr : -9223372036854775808 ≤ lz ∧ lz ≤ 9223372036854775807 := by omega
  have HLR := Lib.hid hlr
  have c2 := hA.lg.c2
  have c4 := hA.lg.c4
  have hgl := hA.lg.lt
  rw [hlz]
  clear huzz hF hFl hFs hP hap hsy hput hM hA hC e9 hlz hlr hDs hn hS0 hS1 hnf hks
  go_enter Tryz.func34, Tryz.ntmps34
  go_wp2_with fail
  refine (HFR.out w (Below.refl _ _)).mono ?_
  rintro _ w1 ⟨rfl, hb1⟩
  have HB1 := Lib.hid hb1
  have HA1 := Lib.hid (HA.out.below HC.out hb1)
  clear hb1 c2 c4 hgl
  have c2 := HA1.out.lg.c2
  have c4 := HA1.out.lg.c4
  have hgl := HA1.out.lg.lt
  rw [HUZ.out] at c4
  go_upto_region 6 with fail
  go_cut [40] (fun s40 wz => s40 = .bool false ∧ Below w1.heap.size w1 wz)
  case first =>
    have hz := HZ0.out
    by_cases h0 : 0 < uz
    · have y0 : decide ((0 : Int) < uz) = true := decide_eq_true h0
      have y1 : decide (size - (k : Int) < uz) = false := decide_eq_false (fun h => hz ⟨h0, h⟩)
      refine wp_region_later (by kernel_rfl) (by kernel_rfl) ?_
      repeat (go_big_quiet_step (fail))
      refine wpQuiet_nil ?_
      rintro w2 ⟨⟨w2, hb2⟩, rfl⟩
      go_wp2_with fail
      go_meet
      exact ⟨rfl, hb2⟩
    · have y0 : decide ((0 : Int) < uz) = false := decide_eq_false h0
      refine wp_region_later (by kernel_rfl) (by kernel_rfl) ?_
      repeat (go_big_quiet_step (fail))
      refine wpQuiet_nil ?_
      rintro w2 ⟨⟨w2, hb2⟩, rfl⟩
      go_wp2_with fail
      go_meet
      exact ⟨rfl, hb2⟩
  case rest =>
   obtain ⟨rfl, hb2⟩ := hcut
   obtain ⟨w2, rfl⟩ : ∃ x, x = wc := ⟨_, rfl⟩
   have HB2 := Lib.hid (HB1.out.trans (hb2.mono HB1.out.size))
   have HA2 := Lib.hid (HA.out.below HC.out HB2.out)
   clear hb2 c2 c4 hgl
   obtain ⟨R3, hR3⟩ : ∃ r, R = r := ⟨_, rfl⟩
   obtain ⟨w3, hw3⟩ : ∃ x, w2 = x := ⟨_, rfl⟩
   have HA3 : Hid (WAt B0 a M p g R3 D size lz (u : Int) d w3) := Lib.hid (by rw [← hw3, ← hR3, ← HLZ.out]; exact HA2.out)
   have HOG3 : Hid (OutG g R R3 w w3) := Lib.hid (by rw [← hw3, ← hR3]; exact OutG.of (Out.of_below HB2.out))
   rw [hw3]
   clear hw3 hR3
   go_upto_region 10 with fail
   have HAPP : Hid (∀ (w' : World) (b : Nat), Below w3.heap.size w3 w' → Blk w' b 9 #[.string F] → Calls Tryz.prog 20 #[.pointer (some ⟨p, 0, none⟩), .string P, .slice (some ⟨b, 0, none⟩) 1 1] w' fun e w2 => e = .returned .nilIface ∧ ∃ R', WAt B0 a (M + k + 1) p g R' D size lz (u : Int) (appendD d P.data.toList F.data.toList).2 w2 ∧ OutG g R R' w w2) := Lib.hid fun w' b hb hbk => by
     have hA' := HA3.out.below HC.out hb
     have h1 := hA'.dk.append (by have := HMM.out; omega) hA'.en.hb hA'.en.e.f P HPS.out (some ⟨b, 0, none⟩) F.data.toList (strs_one hbk) (by rw [text_size3, HFK.out]; omega)
     refine h1.mono ?_
     rintro e w2 ⟨v, R2, rfl, hv, hd, ho⟩
     rw [HAP.out.1] at hv
     obtain rfl := hv.z
     rw [text_size3, HFK.out] at hd
     exact ⟨rfl, R2, hA'.out HC.out hd ho, (HOG3.out.trans (OutG.of (Out.of_below hb))).trans (OutG.of ho)⟩
   go_cut [9] (fun s9 wz => s9 = .nilIface ∧ ∃ R', WAt B0 a (M + k + 1) p g R' D size lz (u : Int) (appendD d P.data.toList F.data.toList).2 wz ∧ OutG g R R' w wz)
   case first =>
     have hbd : Below w3.heap.size w3 w3.drew := (Below.refl _ _).drew
     have hq0 : LogAt w3.drew g p D size lz (u : Int) := HA3.out.lg.below hbd
     have HPA := Lib.hid (HA3.out.path HC.out lz HLR.out.1 HLR.out.2 HD1K.out P (by rw [← HLZ.out]; exact HPL.out))
     have HP0 := Lib.hid (HPA.out ⟨w3.drew, hbd⟩)
     have hba : Below w3.heap.size w3 (w3.drew.alloc (.cells #[.string F] 9)) := hbd.alloc hbd.size _
     have HP1 := Lib.hid (HPA.out ⟨w3.drew.alloc (.cells #[.string F] 9), hba⟩)
     dsimp only at HP0 HP1
     have hqa : LogAt (w3.drew.alloc (.cells #[.string F] 9)) g p D size lz (u : Int) := HA3.out.lg.below hba
     have hka : Blk (w3.drew.alloc (.cells #[.string F] 9)) w3.drew.heap.size 9 #[.string F] := Blk.new _ _ _
     have HBA := Lib.hid (⟨hbd, hba, hka⟩ : _ ∧ _ ∧ _)
     clear hbd hba hka
     go_region_held3 (fun w' => w'.cell? ⟨g, 0, none⟩ = some (.pointer (some ⟨p, 0, none⟩)) ∧ w'.cell? ⟨g, 3, none⟩ = some (.int .i64 lz)) (first | exact LogAt.c03 hq0 | exact LogAt.c03 hqa | exact LogAt.c03 hq1 | exact LogAt.c03 hqb | exact LogAt.c03 hq2 | go_keep)
       (first
         | (go_at_call 90; refine HP0.out.mono ?_; rintro e w4 ⟨rfl, hb4⟩; have hq1 := LogAt.below hq0 hb4; have hb5 := (Below.refl w4.heap.size w4).alloc (Nat.le_refl _) (.cells #[.string F] 9); have hqb := LogAt.below hq1 hb5)
         | (go_at_call 90; refine HP1.out.mono ?_; rintro e w4 ⟨rfl, hb4⟩; have hq1 := LogAt.below hqa hb4)
         | (go_at_call 20; refine (HAPP.out (w4.alloc (.cells #[.string F] 9)) w4.heap.size ((HBA.out.1.trans (hb4.mono HBA.out.1.size)).trans (hb5.mono (HBA.out.1.trans (hb4.mono HBA.out.1.size)).size)) (Blk.new _ _ _)).mono ?_; rintro e w5 ⟨rfl, R5, hA5, hog5⟩; have hq2 := hA5.lg)
         | (go_at_call 20; refine (HAPP.out w4 w3.drew.heap.size (HBA.out.2.1.trans (hb4.mono HBA.out.2.1.size)) (HBA.out.2.2.below hb4 HBA.out.2.2.lt)).mono ?_; rintro e w5 ⟨rfl, R5, hA5, hog5⟩; have hq2 := hA5.lg))
     all_goals
       have HA5 := Lib.hid hA5
       have HOG5 := Lib.hid hog5
       clear hA5 hog5 hq2
       go_wp2_with fail
       go_meet
       exact ⟨rfl, R5, HA5.out, HOG5.out⟩
   case rest =>
     obtain ⟨rfl, R5, hA5, hog5⟩ := hcut
     obtain ⟨w5, rfl⟩ : ∃ x, x = wc := ⟨_, rfl⟩
     have HA5 := Lib.hid hA5
     have HOG5 := Lib.hid hog5
     clear hA5 hog5
     have c4 := HA5.out.lg.c4
     have f4 : w5.frozen? ⟨g, 4, none⟩ = false := Blk.frozen HA5.out.lg 4
     obtain ⟨vz, hvz⟩ : ∃ z : Int, (u : Int) = z := ⟨_, rfl⟩
     have e5 : vz + (k : Int) = ((u + k : Nat) : Int) := by omega
     have e6 : -9223372036854775808 ≤ vz + (k : Int) ∧ vz + (k : Int) ≤ 9223372036854775807 := by omega
     rw [hvz] at c4
     have E5 := Lib.hid e5
     clear e5 hvz
     go_upto_region 14 with fail
     obtain ⟨w6, hw6⟩ : ∃ x, w5.setCell ⟨g, 4, none⟩ (.int .i64 (vz + (k : Int))) = x := ⟨_, rfl⟩
     have HA6 : Hid (WAt B0 a (M + k + 1) p g R5 D size lz ((u + k : Nat) : Int) (appendD d P.data.toList F.data.toList).2 w6) := Lib.hid (by rw [← hw6, E5.out]; exact HA5.out.setU HC.out _)
     have HOG6 : Hid (OutG g R R5 w w6) := Lib.hid (by rw [← hw6]; exact HOG5.out.trans (OutG.set g R5 w5 4 _))
     rw [hw6]
     clear hw6 c4 f4
     have c0 := HA6.out.lg.c0
     have c3 := HA6.out.lg.c3
     have hgl := HA6.out.lg.lt
     have HPA6 := Lib.hid (HA6.out.path HC.out lz HLR.out.1 HLR.out.2 HD1K.out P (by rw [← HLZ.out]; exact HPL.out))
     refine wp_region_later_tail 10 (by kernel_rfl) (by kernel_rfl) ?_
     simp only [List.take_succ_cons, List.take_zero, List.drop_succ_cons, List.drop_zero]
     repeat (go_big_quiet_step ((go_at_call 90; exact quiet_later _ (HPA6.out _))))
     refine wpQuiet_nil ?_
     rintro w7 ⟨⟨w7, hb7⟩, rfl⟩
     have HA7 := Lib.hid (HA6.out.below HC.out hb7)
     have HOG7 := Lib.hid (HOG6.out.then_ hb7)
     have HSY := Lib.hid (HA7.out.dk.sync (by have := HMM.out; have := HKS.out; omega) HA7.out.en.hb HA7.out.en.e.f P HPS.out)
     clear hb7 c0 c3 hgl
     go_wp2_with fail
     refine HSY.out.mono ?_
     rintro e w8 ⟨v8, R8, rfl, hv8, hd8, ho8⟩
     rw [HAP.out.2] at hv8
     obtain rfl := hv8.z
     have HA8 := Lib.hid (HA7.out.out HC.out hd8 ho8)
     have HOG8 := Lib.hid (HOG7.out.trans (OutG.of ho8))
     clear hv8 hd8 ho8
     go_wp2_with fail
     go_ret
     exact ⟨rfl, R8, HA8.out.more (by have := HKS.out; omega), HOG8.out⟩
set_option maxRecDepth 100000 in
set_option maxHeartbeats 8000000 in
theorem append_full (S : ByteArray) (hS0 : 0 < S.size) (hS1 : S.size ≤ 1048576) (n u : Nat) (hn : n ≤ 99999999) (huz : u ≤ 1073741824) (hs1 : 1 ≤ size) (hs2 : size ≤ 9223372036854775807) (hDs : D.size ≤ 1000) (w : World) (hA : WAt B0 a M p g R D size (n : Int) (u : Int) d w) (hM : M + S.size + 20 ≤ 536870912) (hC : SCon B0 a)
    (hu : 0 < u) (hfull : size - ((S.size + 9 : Nat) : Int) < (u : Int)) (hn1 : n + 1 ≤ 99999999)
    (hcr : (createD d (wP D.data.toList ((n + 1 : Nat) : Int))).1 = 0) (hsn : (syncNamesD (createD d (wP D.data.toList ((n + 1 : Nat) : Int))).2).1 = 0) (d1 : Ds) (hd1 : beginD D.data.toList d ((n + 1 : Nat) : Int) = d1)
    (hap : (appendD d1 (wP D.data.toList ((n + 1 : Nat) : Int)) (frameT S.data.toList)).1 = 0) (hsy : (syncD (appendD d1 (wP D.data.toList ((n + 1 : Nat) : Int)) (frameT S.data.toList)).2 (wP D.data.toList ((n + 1 : Nat) : Int))).1 = 0) :
    Calls Tryz.prog 34 #[.pointer (some ⟨g, 0, none⟩), .string S] w fun e w' => e = .returned .nilIface ∧ ∃ R', WAt B0 a (M + S.size + 13) p g R' D size ((n + 1 : Nat) : Int) ((0 + S.size + 9 : Nat) : Int) (putW D.data.toList d1 ((n + 1 : Nat) : Int) S.data.toList) w' ∧ OutG g R R' w w' := by
  obtain ⟨F, hF⟩ : ∃ F : ByteArray, (⟨(frameT S.data.toList).toArray⟩ : ByteArray) = F := ⟨_, rfl⟩
  have hFl : F.data.toList = frameT S.data.toList := by rw [← hF]
  have hFs : F.size = S.size + 9 := by rw [← text_size3, hFl, frameT_len, text_size3]
  obtain ⟨k, hk⟩ : ∃ k, F.size = k := ⟨_, rfl⟩
  have hks : S.size + 9 = k := by omega
  have HFR : Hid (∀ w', Below w.heap.size w w' → Calls Tryz.prog 89 #[.string S] w' fun e w2 => e = .returned (.tuple #[.string F, .int .i64 0]) ∧ Below w'.heap.size w' w2) := Lib.hid fun w' h => by
    rw [← hF]
    exact frame_good S hS0 hS1 w' (hA.en.low hC h).nib
  obtain ⟨P, hP⟩ := wP_bytes D ((n + 1 : Nat) : Int)
  have HPS := Lib.hid (wP_size hP hDs)
  have HA := Lib.hid hA
  have HC := Lib.hid hC
  have HD1K := Lib.hid hDs
  rw [← hP, ← hFl] at hap hsy
  have HAP := Lib.hid (⟨hap, hsy⟩ : _ ∧ _)
  have hput : putW D.data.toList d1 ((n + 1 : Nat) : Int) S.data.toList = (syncD (appendD d1 P.data.toList F.data.toList).2 P.data.toList).2 := by
    unfold putW
    rw [hP, hFl]
  have HPL := Lib.hid hP
  have HMM := Lib.hid hM
  have HKS := Lib.hid hks
  have HFK := Lib.hid hk
  have e9 : ((0 + S.size + 9 : Nat) : Int) = ((0 + k : Nat) : Int) := by omega
  rw [e9, hput]
  have HRO : Hid (∀ w', Below w.heap.size w w' → Calls Tryz.prog 42 #[.pointer (some ⟨g, 0, none⟩)] w' fun e w2 => e = .returned (.tuple #[.int .i64 ((n + 1 : Nat) : Int), .nilIface]) ∧ ∃ R', WAt B0 a (M + 2) p g R' D size ((n + 1 : Nat) : Int) 0 d1 w2 ∧ OutG g R R' w' w2) := Lib.hid fun w' h => by
    rw [← hd1]
    exact rotate_on n u hn1 hu hDs w' (HA.out.below HC.out h) (by omega) HC.out hcr hsn
  obtain ⟨uz, huzz⟩ : ∃ z : Int, (u : Int) = z := ⟨_, rfl⟩
  have HUZ := Lib.hid huzz
  have HZ0 : Hid (0 < uz ∧ size - (k : Int) < uz) := Lib.hid (by rw [← hks]; omega)
  have z3 : -9223372036854775808 ≤ size - (k : Int) ∧ size - (k : Int) ≤ 9223372036854775807 := by omega
  have z4 : k ≤ 1073741824 := by omega
  obtain ⟨lz, hlz⟩ : ∃ z : Int, ((n + 1 : Nat) : Int) = z := ⟨_, rfl⟩
  have HLZ := Lib.hid hlz
  have hlr : -9223372036854775808 ≤ lz ∧ lz ≤ 9223372036854775807 := by omega
  have HLR := Lib.hid hlr
  have c2 := hA.lg.c2
  have c4 := hA.lg.c4
  have hgl := hA.lg.lt
  rw [hlz] at HRO
  rw [hlz]
  clear huzz hF hFl hFs hP hap hsy hput hM hA hC e9 hlz hlr hDs hn hS0 hS1 hcr hsn hd1 hfull hu hn1 hks
  go_enter Tryz.func34, Tryz.ntmps34
  go_wp2_with fail
  refine (HFR.out w (Below.refl _ _)).mono ?_
  rintro _ w1 ⟨rfl, hb1⟩
  have HB1 := Lib.hid hb1
  have HA1 := Lib.hid (HA.out.below HC.out hb1)
  clear hb1 c2 c4 hgl
  have c2 := HA1.out.lg.c2
  have c4 := HA1.out.lg.c4
  have hgl := HA1.out.lg.lt
  rw [HUZ.out] at c4
  go_upto_region 6 with fail
  go_cut [40] (fun s40 wz => s40 = .bool true ∧ Below w1.heap.size w1 wz)
  case first =>
    have hz := HZ0.out
    · have y0 : decide ((0 : Int) < uz) = true := decide_eq_true hz.1
      have y1 : decide (size - (k : Int) < uz) = true := decide_eq_true hz.2
      refine wp_region_later (by kernel_rfl) (by kernel_rfl) ?_
      repeat (go_big_quiet_step (fail))
      refine wpQuiet_nil ?_
      rintro w2 ⟨⟨w2, hb2⟩, rfl⟩
      go_wp2_with fail
      go_meet
      exact ⟨rfl, hb2⟩
  case rest =>
   obtain ⟨rfl, hb2⟩ := hcut
   obtain ⟨w2, rfl⟩ : ∃ x, x = wc := ⟨_, rfl⟩
   have HB2 := Lib.hid (HB1.out.trans (hb2.mono HB1.out.size))
   have HA2 := Lib.hid (HA.out.below HC.out HB2.out)
   clear hb2 c2 c4 hgl
   have HRO2 := Lib.hid (HRO.out w2 HB2.out)
   go_wp2_with fail
   refine HRO2.out.mono ?_
   rintro _ w3 ⟨rfl, R3, hA3, hog3⟩
   have HA3 := Lib.hid hA3
   have HOG3 := Lib.hid ((OutG.of (Out.of_below HB2.out)).trans hog3)
   clear hA3 hog3
   go_upto_region 10 with fail
   have HAPP : Hid (∀ (w' : World) (b : Nat), Below w3.heap.size w3 w' → Blk w' b 9 #[.string F] → Calls Tryz.prog 20 #[.pointer (some ⟨p, 0, none⟩), .string P, .slice (some ⟨b, 0, none⟩) 1 1] w' fun e w2 => e = .returned .nilIface ∧ ∃ R', WAt B0 a ((M + 2) + k + 1) p g R' D size lz 0 (appendD d1 P.data.toList F.data.toList).2 w2 ∧ OutG g R R' w w2) := Lib.hid fun w' b hb hbk => by
     have hA' := HA3.out.below HC.out hb
     have h1 := hA'.dk.append (by have := HMM.out; omega) hA'.en.hb hA'.en.e.f P HPS.out (some ⟨b, 0, none⟩) F.data.toList (strs_one hbk) (by rw [text_size3, HFK.out]; omega)
     refine h1.mono ?_
     rintro e w2 ⟨v, R2, rfl, hv, hd, ho⟩
     rw [HAP.out.1] at hv
     obtain rfl := hv.z
     rw [text_size3, HFK.out] at hd
     exact ⟨rfl, R2, hA'.out HC.out hd ho, (HOG3.out.trans (OutG.of (Out.of_below hb))).trans (OutG.of ho)⟩
   go_cut [9] (fun s9 wz => s9 = .nilIface ∧ ∃ R', WAt B0 a ((M + 2) + k + 1) p g R' D size lz 0 (appendD d1 P.data.toList F.data.toList).2 wz ∧ OutG g R R' w wz)
   case first =>
     have hbd : Below w3.heap.size w3 w3.drew := (Below.refl _ _).drew
     have hq0 : LogAt w3.drew g p D size lz 0 := HA3.out.lg.below hbd
     have HPA := Lib.hid (HA3.out.path HC.out lz HLR.out.1 HLR.out.2 HD1K.out P (by rw [← HLZ.out]; exact HPL.out))
     have HP0 := Lib.hid (HPA.out ⟨w3.drew, hbd⟩)
     have hba : Below w3.heap.size w3 (w3.drew.alloc (.cells #[.string F] 9)) := hbd.alloc hbd.size _
     have HP1 := Lib.hid (HPA.out ⟨w3.drew.alloc (.cells #[.string F] 9), hba⟩)
     dsimp only at HP0 HP1
     have hqa : LogAt (w3.drew.alloc (.cells #[.string F] 9)) g p D size lz 0 := HA3.out.lg.below hba
     have hka : Blk (w3.drew.alloc (.cells #[.string F] 9)) w3.drew.heap.size 9 #[.string F] := Blk.new _ _ _
     have HBA := Lib.hid (⟨hbd, hba, hka⟩ : _ ∧ _ ∧ _)
     clear hbd hba hka
     go_region_held3 (fun w' => w'.cell? ⟨g, 0, none⟩ = some (.pointer (some ⟨p, 0, none⟩)) ∧ w'.cell? ⟨g, 3, none⟩ = some (.int .i64 lz)) (first | exact LogAt.c03 hq0 | exact LogAt.c03 hqa | exact LogAt.c03 hq1 | exact LogAt.c03 hqb | exact LogAt.c03 hq2 | go_keep)
       (first
         | (go_at_call 90; refine HP0.out.mono ?_; rintro e w4 ⟨rfl, hb4⟩; have hq1 := LogAt.below hq0 hb4; have hb5 := (Below.refl w4.heap.size w4).alloc (Nat.le_refl _) (.cells #[.string F] 9); have hqb := LogAt.below hq1 hb5)
         | (go_at_call 90; refine HP1.out.mono ?_; rintro e w4 ⟨rfl, hb4⟩; have hq1 := LogAt.below hqa hb4)
         | (go_at_call 20; refine (HAPP.out (w4.alloc (.cells #[.string F] 9)) w4.heap.size ((HBA.out.1.trans (hb4.mono HBA.out.1.size)).trans (hb5.mono (HBA.out.1.trans (hb4.mono HBA.out.1.size)).size)) (Blk.new _ _ _)).mono ?_; rintro e w5 ⟨rfl, R5, hA5, hog5⟩; have hq2 := hA5.lg)
         | (go_at_call 20; refine (HAPP.out w4 w3.drew.heap.size (HBA.out.2.1.trans (hb4.mono HBA.out.2.1.size)) (HBA.out.2.2.below hb4 HBA.out.2.2.lt)).mono ?_; rintro e w5 ⟨rfl, R5, hA5, hog5⟩; have hq2 := hA5.lg))
     all_goals
       have HA5 := Lib.hid hA5
       have HOG5 := Lib.hid hog5
       clear hA5 hog5 hq2
       go_wp2_with fail
       go_meet
       exact ⟨rfl, R5, HA5.out, HOG5.out⟩
   case rest =>
     obtain ⟨rfl, R5, hA5, hog5⟩ := hcut
     obtain ⟨w5, rfl⟩ : ∃ x, x = wc := ⟨_, rfl⟩
     have HA5 := Lib.hid hA5
     have HOG5 := Lib.hid hog5
     clear hA5 hog5
     have c4 := HA5.out.lg.c4
     have f4 : w5.frozen? ⟨g, 4, none⟩ = false := Blk.frozen HA5.out.lg 4
     obtain ⟨vz, hvz⟩ : ∃ z : Int, 0 = z := ⟨_, rfl⟩
     have e5 : vz + (k : Int) = ((0 + k : Nat) : Int) := by omega
     have e6 : -9223372036854775808 ≤ vz + (k : Int) ∧ vz + (k : Int) ≤ 9223372036854775807 := by omega
     rw [hvz] at c4
     have E5 := Lib.hid e5
     clear e5 hvz
     go_upto_region 14 with fail
     obtain ⟨w6, hw6⟩ : ∃ x, w5.setCell ⟨g, 4, none⟩ (.int .i64 (vz + (k : Int))) = x := ⟨_, rfl⟩
     have HA6 : Hid (WAt B0 a ((M + 2) + k + 1) p g R5 D size lz ((0 + k : Nat) : Int) (appendD d1 P.data.toList F.data.toList).2 w6) := Lib.hid (by rw [← hw6, E5.out]; exact HA5.out.setU HC.out _)
     have HOG6 : Hid (OutG g R R5 w w6) := Lib.hid (by rw [← hw6]; exact HOG5.out.trans (OutG.set g R5 w5 4 _))
     rw [hw6]
     clear hw6 c4 f4
     have c0 := HA6.out.lg.c0
     have c3 := HA6.out.lg.c3
     have hgl := HA6.out.lg.lt
     have HPA6 := Lib.hid (HA6.out.path HC.out lz HLR.out.1 HLR.out.2 HD1K.out P (by rw [← HLZ.out]; exact HPL.out))
     refine wp_region_later_tail 10 (by kernel_rfl) (by kernel_rfl) ?_
     simp only [List.take_succ_cons, List.take_zero, List.drop_succ_cons, List.drop_zero]
     repeat (go_big_quiet_step ((go_at_call 90; exact quiet_later _ (HPA6.out _))))
     refine wpQuiet_nil ?_
     rintro w7 ⟨⟨w7, hb7⟩, rfl⟩
     have HA7 := Lib.hid (HA6.out.below HC.out hb7)
     have HOG7 := Lib.hid (HOG6.out.then_ hb7)
     have HSY := Lib.hid (HA7.out.dk.sync (by have := HMM.out; have := HKS.out; omega) HA7.out.en.hb HA7.out.en.e.f P HPS.out)
     clear hb7 c0 c3 hgl
     go_wp2_with fail
     refine HSY.out.mono ?_
     rintro e w8 ⟨v8, R8, rfl, hv8, hd8, ho8⟩
     rw [HAP.out.2] at hv8
     obtain rfl := hv8.z
     have HA8 := Lib.hid (HA7.out.out HC.out hd8 ho8)
     have HOG8 := Lib.hid (HOG7.out.trans (OutG.of ho8))
     clear hv8 hd8 ho8
     go_wp2_with fail
     go_ret
     exact ⟨rfl, R8, HA8.out.more (by have := HKS.out; omega), HOG8.out⟩
end
end Go.Proofs.YtfpgbhimgfdddaaGreatDoor

/-! ## WalWalksK -/
/- The walks of layer 16 (wal): Drop. -/
namespace Go.Proofs.YtfpgbhimgfdddaaGreatDoor
open Go.RowKit Go.Shelf Go.Sort
attribute [local go_sem ↓] Go.wp_at_zero Go.wp_at_succ
attribute [local go_sem] Later.cell Later.frozen

/-- The segments of these numbers below a number (and below the last) removed. -/
def dropL (D : Txt) (before last : Int) : List Nat → Ds → Ds
  | [], d => d
  | n :: l, d => dropL D before last l (if (n : Int) < before ∧ (n : Int) < last then (removeD d (wP D (n : Int))).2 else d)
theorem dropL_snoc (D : Txt) (before last : Int) (n : Nat) : ∀ (l : List Nat) (d : Ds), dropL D before last (l ++ [n]) d = if (n : Int) < before ∧ (n : Int) < last then (removeD (dropL D before last l d) (wP D (n : Int))).2 else dropL D before last l d
  | [], d => rfl
  | x :: l, d => by rw [List.cons_append, dropL, dropL_snoc D before last n l, dropL]
section
variable {B0 M p g : Nat} {a : Nat → Addr} {R R' R'' : Nat → Nat} {d : Ds} {w w' w'' : World} {D : ByteArray} {size last used : Int}
set_option maxRecDepth 100000 in
set_option maxHeartbeats 8000000 in
theorem drop_calls (before : Int) (hDs : D.size ≤ 1000) (hDn : nameB D.data.toList = true) (w : World) (hA : WAt B0 a M p g R D size last used d w) (ns : List Nat) (hM : M + ns.countP (goB before last) + 2 ≤ 536870912) (hC : SCon B0 a)
    (le : List En) (hl : listD d D.data.toList = (le, 0)) (hns : entSegs le ns) (hr : ∀ n ∈ ns, 1 ≤ n ∧ n ≤ 99999999) (hz : ns.length ≤ 99999999)
    (hok : ∀ (i n : Nat), ns[i]? = some n → (n : Int) < before → (n : Int) < last → (removeD (dropL D.data.toList before last (ns.take i) d) (wP D.data.toList (n : Int))).1 = 0)
    (hsn : (syncNamesD (dropL D.data.toList before last ns d)).1 = 0) :
    Calls Tryz.prog 43 #[.pointer (some ⟨g, 0, none⟩), .int .i64 before] w fun e w' => e = .returned .nilIface ∧ ∃ R', WAt B0 a (M + ns.countP (goB before last) + 1) p g R' D size last used (syncNamesD (dropL D.data.toList before last ns d)).2 w' ∧ OutG g R R' w w' := by
  have HSEG := Lib.hid (segments_calls (D := D) hDs hDn w hA (by omega) hC le ns hl hns hr hz)
  have HA := Lib.hid hA
  have HC := Lib.hid hC
  have HP := Lib.hid hr
  have HOK := Lib.hid hok
  have HSN := Lib.hid hsn
  obtain ⟨dd, hdd⟩ : ∃ x, dropL D.data.toList before last = x := ⟨_, rfl⟩
  obtain ⟨ff, hff⟩ : ∃ f, goB before last = f := ⟨_, rfl⟩
  have HFF := Lib.hid hff
  have HCT : Hid (∀ i, (ns.take i).countP ff ≤ ns.countP ff) := Lib.hid fun i => (List.take_sublist i ns).countP_le
  rw [hff] at hM ⊢
  have HZ := Lib.hid (⟨hz, hDs, hM⟩ : _ ∧ _ ∧ _)
  have HDD := Lib.hid hdd
  rw [hdd] at HOK HSN ⊢
  clear hA hC hl hns hr hok hsn hDn hz hDs hM hdd hff
  go_enter Tryz.func43, Tryz.ntmps43
  go_wp2_with fail
  refine HSEG.out.mono ?_
  rintro e w2 ⟨X, c, rfl, hx2, hxf, hb2⟩
  obtain ⟨n, hn⟩ : ∃ n, ns.length = n := ⟨_, rfl⟩
  rw [hn] at hx2 ⊢
  have hnz : n ≤ 99999999 := by have := HZ.out.1; omega
  have HN := Lib.hid hn
  have HX2 := Lib.hid hx2
  have HB2 := Lib.hid hb2
  have HA2 := Lib.hid (HA.out.below HC.out hb2)
  have HXR : Hid (∀ x, X = some x → R x.block = 0 ∧ x.block ≠ g) := Lib.hid fun x hx => ⟨HA.out.dk.new (hxf x hx), by have := hxf x hx; have := HA.out.lg.lt; omega⟩
  clear hx2 hxf hb2 hn
  go_wp2_with fail
  go_loopg [23] n (fun gh s23 wr => ∃ (i : Nat) (Rr : Nat → Nat), i + gh = n ∧ s23 = .int .i64 (i : Int) ∧ WAt B0 a (M + (ns.take i).countP ff) p g Rr D size last used (dd (ns.take i) d) wr ∧ OutG g R Rr w2 wr)
  case atStart =>
    refine ⟨0, R, by omega, rfl, ?_, OutG.refl _ _ _⟩
    have e0 : dd (ns.take 0) d = d := by rw [← HDD.out]; rfl
    rw [e0]
    exact HA2.out
  case round =>
    obtain ⟨i, Rr, hig, rfl, hAr, hog⟩ := hrel
    have HIG := Lib.hid hig
    have HAR := Lib.hid hAr
    have HOG := Lib.hid hog
    clear hig hog
    by_cases hi : i < n
    · have el : decide ((i : Int) < (n : Int)) = true := by simp; omega
      have e0 : (i : Int) < (n : Int) := by omega
      have e1 : (0 : Int) ≤ (i : Int) := by omega
      have hil : i < ns.length := by rw [HN.out]; exact hi
      obtain ⟨y, hy⟩ : ∃ y, ns[i]? = some y := ⟨_, List.getElem?_eq_getElem hil⟩
      have hyr := HP.out y (List.mem_of_getElem? hy)
      obtain ⟨b, off, rfl, hbl, x0⟩ := (HX2.out.outg HOG.out HXR.out).at_ hy
      unfold natI at x0
      have htk : ns.take (i + 1) = ns.take i ++ [y] := by rw [List.take_add_one, hy]; rfl
      have hstep : dd (ns.take (i + 1)) d = if (y : Int) < before ∧ (y : Int) < last then (removeD (dd (ns.take i) d) (wP D.data.toList (y : Int))).2 else dd (ns.take i) d := by
        rw [htk, ← HDD.out, dropL_snoc]
      have HST := Lib.hid hstep
      have hcnt : (ns.take (i + 1)).countP ff = (ns.take i).countP ff + (if (y : Int) < before ∧ (y : Int) < last then 1 else 0) := by
        rw [htk, List.countP_append, ← HFF.out]
        unfold goB
        by_cases h1 : (y : Int) < before <;> by_cases h2 : (y : Int) < last <;> simp [h1, h2]
      have HCN := Lib.hid hcnt
      have hctl := HCT.out i
      have HCL := Lib.hid hctl
      have HY := Lib.hid (⟨hy, hyr⟩ : _ ∧ _)
      obtain ⟨yz, hyz⟩ : ∃ z : Int, (y : Int) = z := ⟨_, rfl⟩
      have HYZ := Lib.hid hyz
      rw [hyz] at x0
      have c3 := hAr.lg.c3
      clear hAr hy hyr htk hstep hyz hil hcnt hctl
      by_cases hgo : yz < before ∧ yz < last
      · have d1 : decide (yz < before) = true := decide_eq_true hgo.1
        have d2 : decide (yz < last) = true := decide_eq_true hgo.2
        obtain ⟨P, hP⟩ := wP_bytes D (y : Int)
        have HPA := Lib.hid (HAR.out.path HC.out (y : Int) (by have := HY.out.2; omega) (by have := HY.out.2; omega) HZ.out.2.1 P hP)
        rw [HYZ.out] at HPA
        have HPS := Lib.hid (wP_size hP HZ.out.2.1)
        have HRM : Hid ((removeD (dd (ns.take i) d) P.data.toList).1 = 0) := Lib.hid (by rw [hP]; exact HOK.out i y HY.out.1 (by rw [HYZ.out]; exact hgo.1) (by rw [HYZ.out]; exact hgo.2))
        have HC2 : Hid ((ns.take (i + 1)).countP ff = (ns.take i).countP ff + 1) := Lib.hid (by rw [HCN.out, HYZ.out, if_pos hgo])
        have HST2 : Hid (dd (ns.take (i + 1)) d = (removeD (dd (ns.take i) d) P.data.toList).2) := Lib.hid (by rw [HST.out, HYZ.out, if_pos hgo, hP, HYZ.out])
        have c0 := HAR.out.lg.c0
        have hgl := HAR.out.lg.lt
        clear hP hgo
        go_upto_region 10 with fail
        refine wp_region_later_tail 7 (by kernel_rfl) (by kernel_rfl) ?_
        simp only [List.take_succ_cons, List.take_zero, List.drop_succ_cons, List.drop_zero]
        repeat (go_big_quiet_step ((go_at_call 90; exact quiet_later _ (HPA.out _))))
        refine wpQuiet_nil ?_
        rintro w4 ⟨⟨w4, hb4⟩, rfl⟩
        have HA4 := Lib.hid (HAR.out.below HC.out hb4)
        have HOG4 := Lib.hid (HOG.out.then_ hb4)
        have HRMC := Lib.hid (HA4.out.dk.remove (by have := HZ.out.2.2; have := HCL.out; omega) HA4.out.en.hb HA4.out.en.e.f P HPS.out)
        clear hb4 c0 c3 hgl x0
        go_wp2_with fail
        refine HRMC.out.mono ?_
        rintro e w5 ⟨v5, R5, rfl, hv5, hd5, ho5⟩
        rw [HRM.out] at hv5
        obtain rfl := hv5.z
        have HA5 := Lib.hid (HA4.out.out HC.out hd5 ho5)
        have HOG5 := Lib.hid (HOG4.out.trans (OutG.of ho5))
        clear hv5 hd5 ho5
        go_wp2_with fail
        go_roundg (gk - 1)
        case measure => have := HIG.out; omega
        case rel =>
          refine ⟨i + 1, R5, by have := HIG.out; omega, by go_num, ?_, HOG5.out⟩
          rw [HST2.out, HC2.out]
          exact HA5.out
      · have HC2 : Hid ((ns.take (i + 1)).countP ff = (ns.take i).countP ff) := Lib.hid (by rw [HCN.out, HYZ.out, if_neg hgo, Nat.add_zero])
        have HST2 : Hid (dd (ns.take (i + 1)) d = dd (ns.take i) d) := Lib.hid (by rw [HST.out, HYZ.out, if_neg hgo])
        by_cases h1 : yz < before
        · have d1 : decide (yz < before) = true := decide_eq_true h1
          have d2 : decide (yz < last) = false := decide_eq_false (fun h => hgo ⟨h1, h⟩)
          go_wp2_with fail
          go_roundg (gk - 1)
          case measure => have := HIG.out; omega
          case rel =>
            refine ⟨i + 1, Rr, by have := HIG.out; omega, by go_num, ?_, HOG.out⟩
            rw [HST2.out, HC2.out]
            exact HAR.out
        · have d1 : decide (yz < before) = false := decide_eq_false h1
          go_wp2_with fail
          go_roundg (gk - 1)
          case measure => have := HIG.out; omega
          case rel =>
            refine ⟨i + 1, Rr, by have := HIG.out; omega, by go_num, ?_, HOG.out⟩
            rw [HST2.out, HC2.out]
            exact HAR.out
    · have el : decide ((i : Int) < (n : Int)) = false := by simp; omega
      have hi3 : i = n := by have := HIG.out; omega
      subst hi3
      have htk : ns.take i = ns := List.take_of_length_le (by rw [HN.out]; exact Nat.le_refl _)
      rw [htk] at HAR
      have c0 := HAR.out.lg.c0
      have HSY := Lib.hid (HAR.out.dk.syncNames (by have := HZ.out.2.2; omega) HAR.out.en.hb HAR.out.en.e.f)
      clear hAr htk
      go_wp2_with fail
      refine HSY.out.mono ?_
      rintro e w5 ⟨v5, R5, rfl, hv5, hd5, ho5⟩
      rw [HSN.out] at hv5
      obtain rfl := hv5.z
      have HA5 := Lib.hid (HAR.out.out HC.out hd5 ho5)
      have HOG5 := Lib.hid (HOG.out.trans (OutG.of ho5))
      clear hv5 hd5 ho5 c0
      go_wp2_with fail
      go_ret
      refine ⟨rfl, R5, ?_, (OutG.of (Out.of_below HB2.out)).trans HOG5.out⟩
      exact HA5.out
end
end Go.Proofs.YtfpgbhimgfdddaaGreatDoor

/-! ## WalLog -/
/- Layer 16 (wal): what each call of a log does, told of the log's payloads and segments. -/
namespace Go.Proofs.YtfpgbhimgfdddaaGreatDoor
open Go.RowKit Go.Shelf Go.Sort
attribute [local go_sem ↓] Go.wp_at_zero Go.wp_at_succ

theorem dropL_eq (D : Txt) (before last : Int) : ∀ (l : List Nat) (d : Ds), dropL D before last l d = dropsL D before last l d
  | [], _ => rfl
  | n :: l, d => by
    have e : (if (n : Int) < before ∧ (n : Int) < last then (removeD d (wP D (n : Int))).2 else d) = if goB before last n = true then (removeD d (wP D (n : Int))).2 else d := by
      unfold goB
      simp only [Bool.and_eq_true, decide_eq_true_eq]
    rw [dropL, dropsL, dropL_eq D before last l, e]
/-- A log at g on the disk at p: its payloads. -/
structure WL (B0 : Nat) (a : Nat → Addr) (K M p g : Nat) (R : Nat → Nat) (D : ByteArray) (size : Int) (m : WM) (d : Ds) (w : World) : Prop where
  wat : WAt B0 a M p g R D size (m.n : Int) (m.used : Int) d w
  ok : m.Ok
  rr : ∃ l i C, WalR D.data.toList m l i C d
  cap : d.cap = K
  us : usedD d ≤ K
  kb : K ≤ 67108864
section
variable {B0 K M M' p g : Nat} {a : Nat → Addr} {R R' : Nat → Nat} {d : Ds} {w w' : World} {D : ByteArray} {size : Int} {m : WM}
theorem WL.more (h : WL B0 a K M p g R D size m d w) (hM : M ≤ M') : WL B0 a K M' p g R D size m d w := ⟨h.wat.more hM, h.ok, h.rr, h.cap, h.us, h.kb⟩
theorem WL.below (h : WL B0 a K M p g R D size m d w) (hC : SCon B0 a) (hb : Below w.heap.size w w') : WL B0 a K M p g R D size m d w' := ⟨h.wat.below hC hb, h.ok, h.rr, h.cap, h.us, h.kb⟩
theorem WL.name (h : WL B0 a K M p g R D size m d w) : nameB D.data.toList = true := by
  obtain ⟨l, i, C, hr⟩ := h.rr
  exact hr.w.nm
theorem WL.rng (h : WL B0 a K M p g R D size m d w) : 1 ≤ m.n ∧ m.n ≤ 99999999 := by
  obtain ⟨l, i, C, hr⟩ := h.rr
  exact hr.rng
theorem WL.segR (h : WL B0 a K M p g R D size m d w) : ∀ n ∈ m.segs.map (·.1), 1 ≤ n ∧ n ≤ 99999999 := by
  intro n hn
  obtain ⟨s, hs, rfl⟩ := List.mem_map.1 hn
  have hr := h.rng
  rcases List.mem_append.1 hs with hs | hs
  · have := h.ok.lt s hs; omega
  · obtain rfl := List.mem_singleton.1 hs
    exact hr
theorem asc_from (k : Nat) : ∀ (l : List Nat) (x : Nat), l.Pairwise (· < ·) → (∀ n ∈ l, x < n ∧ n ≤ k) → l.length ≤ k - x
  | [], _, _, _ => Nat.zero_le _
  | y :: l, x, hp, hr => by
    obtain ⟨h1, h2⟩ := List.pairwise_cons.1 hp
    have hy := hr y (List.mem_cons_self ..)
    have := asc_from k l y h2 (fun n hn => ⟨h1 n hn, (hr n (List.mem_cons_of_mem _ hn)).2⟩)
    rw [List.length_cons]
    omega
theorem asc_len (l : List Nat) (k : Nat) (hp : l.Pairwise (· < ·)) (hr : ∀ n ∈ l, 1 ≤ n ∧ n ≤ k) : l.length ≤ k :=
  asc_from k l 0 hp fun n hn => ⟨(hr n hn).1, (hr n hn).2⟩
theorem WL.segL (h : WL B0 a K M p g R D size m d w) : (m.segs.map (·.1)).length ≤ 99999999 := by
  refine asc_len _ _ ?_ h.segR
  unfold WM.segs
  rw [List.map_append, List.pairwise_append]
  refine ⟨?_, by simp, ?_⟩
  · rw [List.pairwise_map]
    exact h.ok.asc
  · intro a ha b hb
    obtain ⟨s, hs, rfl⟩ := List.mem_map.1 ha
    have := (h.ok.lt s hs).2
    simp at hb
    omega
theorem wm_new_ok {n : Nat} (h : 1 ≤ n) : (⟨[], n, []⟩ : WM).Ok := ⟨(fun s hs => by cases hs), List.Pairwise.nil, h, fun s hs p hp => (by
  obtain rfl := List.mem_singleton.1 hs
  cases hp)⟩
theorem newD_le (cap : Int) : (newD cap).cap ≤ 67108864 := by
  show (min cap 67108864).toNat ≤ 67108864
  omega
/-- Open of a log on a new disk. -/
theorem wl_new (hDs : D.size ≤ 1000) (hDn : nameB D.data.toList = true) (from_ : Nat) (hf1 : 1 ≤ from_) (hf : from_ ≤ 99999999) (hs1 : 1 ≤ size) (cap : Int) (w : World) (hD : Dk B0 M w R p (newD cap)) (hM : M + 4 ≤ 536870912) (hC : SCon B0 a) (hE : SEnv B0 a w) (h6 : Fail6 B0 a w) :
    Calls Tryz.prog 32 #[.pointer (some ⟨p, 0, none⟩), .string D, .int .i64 (from_ : Int), .int .i64 size] w fun e w' => ∃ g R' d', e = .returned (.tuple #[.pointer (some ⟨g, 0, none⟩), .slice none 0 0, .nilIface]) ∧
      w.heap.size ≤ g ∧ WL B0 a (newD cap).cap (M + 4) p g R' D size ⟨[], from_, []⟩ d' w' ∧ usedD d' = 0 ∧ Out R R' w w' := by
  obtain ⟨d1, d2, h1, h2, h3, h4, h5, ⟨i, C, h6b⟩, h7⟩ := wal_new hDn from_ hf1 hf cap
  refine (open_new hDs hDn from_ hf1 hf hs1 w hD hM hC hE h6 d1 d2 h1 h2 h3 h4 h5).mono ?_
  rintro e w' ⟨g, R', rfl, k1, k2, k3⟩
  have hu : usedD (beginD D.data.toList d2 (from_ : Int)) = 0 := by rw [h6b.used2]; rfl
  exact ⟨g, R', _, rfl, k1, ⟨k2, wm_new_ok hf1, ⟨_, i, C, h6b⟩, h7, by rw [hu]; exact Nat.zero_le _, newD_le cap⟩, hu, k3⟩
/-- Append of a payload. -/
theorem wl_append (S : ByteArray) (hS0 : 0 < S.size) (hS1 : S.size ≤ 1048576) (hs1 : 1 ≤ size) (hs2 : size ≤ 9223372036854775807) (hDs : D.size ≤ 1000) (w : World) (h : WL B0 a K M p g R D size m d w) (hM : M + S.size + 20 ≤ 536870912) (hC : SCon B0 a)
    (hcap : usedD d + S.size + 9 ≤ K) (hn : m.n + 1 ≤ 99999999) :
    Calls Tryz.prog 34 #[.pointer (some ⟨g, 0, none⟩), .string S] w fun e w' => e = .returned .nilIface ∧ ∃ R' d', WL B0 a K (M + S.size + 13) p g R' D size (m.app size S.data.toList) d' w' ∧ usedD d' = usedD d + S.size + 9 ∧ OutG g R R' w w' := by
  obtain ⟨l, i, C, hr⟩ := h.rr
  have hne : S.data.toList ≠ [] := by
    intro e
    have := congrArg List.length e
    rw [text_size3] at this
    simp only [List.length_nil] at this
    omega
  have hfl : (frameT S.data.toList).length = S.size + 9 := by rw [frameT_len, text_size3]
  have hu : m.used ≤ 67108864 := by
    have h1 := hr.used
    have h2 := h.us
    have h3 := h.kb
    show (framesT m.ps).length ≤ _
    omega
  have hfinal : ∀ m1 : WM, (m1.put S.data.toList).used = m1.used + S.size + 9 := by
    intro m1
    show (framesT (m1.ps ++ [S.data.toList])).length = _
    rw [framesT_snoc, List.length_append, hfl]
    rfl
  by_cases hfull : m.full size (S.data.toList.length + 9) = true
  · have hf2 : 0 < m.used ∧ size - ((S.size + 9 : Nat) : Int) < (m.used : Int) := by
      unfold WM.full at hfull
      rw [text_size3] at hfull
      simpa using hfull
    obtain ⟨b1, b2, ⟨C1, b3⟩, b4⟩ := hr.begin_ hn
    have hub : usedD (beginD D.data.toList d ((m.n + 1 : Nat) : Int)) = usedD d := by
      rw [b3.used2, hr.used2]
      have e0 : m.begin_.segs = m.segs ++ [(m.n + 1, ([] : List Txt))] := rfl
      rw [e0, List.map_append, List.sum_append]
      rfl
    obtain ⟨p1, p2, ⟨C2, p3⟩, p4⟩ := b3.put S.data.toList (by rw [hub, b4, h.cap, hfl]; omega)
    refine (append_full S hS0 hS1 m.n m.used h.rng.2 (by omega) hs1 hs2 hDs w h.wat hM hC hf2.1 hf2.2 hn b1 b2 _ rfl p1 p2).mono ?_
    rintro e w' ⟨rfl, R', k1, k2⟩
    have happ : m.app size S.data.toList = m.begin_.put S.data.toList := by
      unfold WM.app
      rw [if_pos hfull]
    have hu2 : (m.begin_.put S.data.toList).used = 0 + S.size + 9 := hfinal m.begin_
    have hud : usedD (putW D.data.toList (beginD D.data.toList d ((m.n + 1 : Nat) : Int)) ((m.n + 1 : Nat) : Int) S.data.toList) = usedD d + S.size + 9 := by
      have e1 := p3.used2
      have e2 := b3.used2
      rw [hub] at e2
      have e3 : ((m.begin_.put S.data.toList).segs.map fun s => (framesT s.2).length).sum = (m.begin_.segs.map fun s => (framesT s.2).length).sum + (S.size + 9) := by
        show (((m.begin_.init ++ [(m.begin_.n, m.begin_.ps ++ [S.data.toList])]).map fun s => (framesT s.2).length)).sum = ((m.begin_.init ++ [(m.begin_.n, m.begin_.ps)]).map fun s => (framesT s.2).length).sum + _
        rw [List.map_append, List.map_append, List.sum_append, List.sum_append]
        simp only [List.map_cons, List.map_nil, List.sum_cons, List.sum_nil, framesT_snoc, List.length_append, hfl]
        omega
      have e4 : m.begin_.n = m.n + 1 := rfl
      rw [e4] at e1
      omega
    refine ⟨rfl, R', _, ?_, hud, k2⟩
    rw [happ]
    refine ⟨?_, h.ok.begin_.put hne (by rw [text_size3]; exact hS1), ⟨_, _, _, p3⟩, p4.trans (b4.trans h.cap), by rw [hud]; omega, h.kb⟩
    rw [hu2]
    exact k1
  · have hnf : ¬ (0 < m.used ∧ size - ((S.size + 9 : Nat) : Int) < (m.used : Int)) := by
      intro hf
      apply hfull
      unfold WM.full
      rw [text_size3]
      simpa using hf
    obtain ⟨p1, p2, ⟨C2, p3⟩, p4⟩ := hr.put S.data.toList (by rw [h.cap, hfl]; omega)
    refine (append_on S hS0 hS1 m.n m.used h.rng.2 (by omega) hs1 hs2 hDs w h.wat hM hC hnf p1 p2).mono ?_
    rintro e w' ⟨rfl, R', k1, k2⟩
    have happ : m.app size S.data.toList = m.put S.data.toList := by
      unfold WM.app
      rw [if_neg hfull]
    have hu2 : (m.put S.data.toList).used = m.used + S.size + 9 := hfinal m
    have hud : usedD (putW D.data.toList d (m.n : Int) S.data.toList) = usedD d + S.size + 9 := by
      have e1 := p3.used2
      have e2 := hr.used2
      have e3 : ((m.put S.data.toList).segs.map fun s => (framesT s.2).length).sum = (m.segs.map fun s => (framesT s.2).length).sum + (S.size + 9) := by
        show (((m.init ++ [(m.n, m.ps ++ [S.data.toList])]).map fun s => (framesT s.2).length)).sum = ((m.init ++ [(m.n, m.ps)]).map fun s => (framesT s.2).length).sum + _
        rw [List.map_append, List.map_append, List.sum_append, List.sum_append]
        simp only [List.map_cons, List.map_nil, List.sum_cons, List.sum_nil, framesT_snoc, List.length_append, hfl]
        omega
      omega
    refine ⟨rfl, R', _, ?_, hud, k2⟩
    rw [happ]
    refine ⟨?_, h.ok.put hne (by rw [text_size3]; exact hS1), ⟨_, _, _, p3⟩, p4.trans h.cap, by rw [hud]; omega, h.kb⟩
    rw [hu2]
    exact k1
/-- Rotate. -/
theorem wl_rotate (hDs : D.size ≤ 1000) (w : World) (h : WL B0 a K M p g R D size m d w) (hM : M + 2 ≤ 536870912) (hC : SCon B0 a) (hn : m.n + 1 ≤ 99999999) :
    Calls Tryz.prog 42 #[.pointer (some ⟨g, 0, none⟩)] w fun e w' => e = .returned (.tuple #[.int .i64 ((m.rot.n : Nat) : Int), .nilIface]) ∧ ∃ R' d', WL B0 a K (M + 2) p g R' D size m.rot d' w' ∧ usedD d' = usedD d ∧ OutG g R R' w w' := by
  obtain ⟨l, i, C, hr⟩ := h.rr
  by_cases hu : m.used = 0
  · have e : m.rot = m := by unfold WM.rot; rw [if_pos hu]
    have hl := h.wat.lg
    rw [hu] at hl
    refine (rotate_same w hl).mono ?_
    rintro e' w' ⟨rfl, rfl⟩
    rw [e]
    exact ⟨rfl, R, d, h.more (by omega), rfl, OutG.refl _ _ _⟩
  · have e : m.rot = m.begin_ := by unfold WM.rot; rw [if_neg hu]
    obtain ⟨b1, b2, ⟨C1, b3⟩, b4⟩ := hr.begin_ hn
    have hub : usedD (beginD D.data.toList d ((m.n + 1 : Nat) : Int)) = usedD d := by
      rw [b3.used2, hr.used2]
      have e0 : m.begin_.segs = m.segs ++ [(m.n + 1, ([] : List Txt))] := rfl
      rw [e0, List.map_append, List.sum_append]
      rfl
    refine (rotate_on m.n m.used hn (by omega) hDs w h.wat hM hC b1 b2).mono ?_
    rintro e' w' ⟨rfl, R', k1, k2⟩
    rw [e]
    exact ⟨rfl, R', _, ⟨k1, h.ok.begin_, ⟨_, _, _, b3⟩, b4.trans h.cap, by rw [hub]; exact h.us, h.kb⟩, hub, k2⟩
theorem WL.ents (h : WL B0 a K M p g R D size m d w) : ∃ le, listD d D.data.toList = (le, 0) ∧ entSegs le (m.segs.map (·.1)) := by
  obtain ⟨l, i, C, hr⟩ := h.rr
  obtain ⟨h1, h2⟩ := hr.list
  refine ⟨(listD d D.data.toList).1, Prod.ext rfl h1, ?_⟩
  unfold entSegs
  rw [h2, List.map_map]
  rfl
/-- Drop. -/
theorem wl_drop (before : Int) (hDs : D.size ≤ 1000) (w : World) (h : WL B0 a K M p g R D size m d w) (hM : M + m.segs.length + 2 ≤ 536870912) (hC : SCon B0 a) :
    Calls Tryz.prog 43 #[.pointer (some ⟨g, 0, none⟩), .int .i64 before] w fun e w' => e = .returned .nilIface ∧ ∃ R' d', WL B0 a K (M + (m.segs.length - (m.drop before).segs.length) + 1) p g R' D size (m.drop before) d' w' ∧ usedD d' ≤ usedD d ∧ OutG g R R' w w' := by
  obtain ⟨l, i, C, hr⟩ := h.rr
  obtain ⟨le, hl, hns⟩ := h.ents
  obtain ⟨d1, d2, ⟨l', d3⟩, d4⟩ := hr.drop h.ok before
  have hcnt : (m.segs.map (·.1)).countP (goB before (m.n : Int)) = m.segs.length - (m.drop before).segs.length := by
    have e1 : m.segs = m.init ++ [(m.n, m.ps)] := rfl
    have e2 : (m.drop before).segs = (m.init.filter fun s => !decide ((s.1 : Int) < before)) ++ [(m.n, m.ps)] := rfl
    have e3 : goB before (m.n : Int) m.n = false := by unfold goB; simp
    rw [e1, e2, List.map_append, List.countP_append]
    simp only [List.map_cons, List.map_nil, List.countP_cons, List.countP_nil, e3, List.length_append, List.length_cons, List.length_nil]
    have key : ∀ L : List (Nat × List Txt), (∀ s ∈ L, s.1 < m.n) → (L.map (·.1)).countP (goB before (m.n : Int)) + (L.filter fun s => !decide ((s.1 : Int) < before)).length = L.length := by
      intro L
      induction L with
      | nil => intro _; rfl
      | cons x L ih =>
        intro hL
        have ih := ih fun s hs => hL s (List.mem_cons_of_mem _ hs)
        have hx := hL x (List.mem_cons_self ..)
        have hx2 : decide ((x.1 : Int) < (m.n : Int)) = true := decide_eq_true (by omega)
        rw [List.map_cons, List.countP_cons, List.filter_cons]
        unfold goB at ih ⊢
        by_cases hb : (x.1 : Int) < before
        · simp only [hb, hx2, decide_true, Bool.and_self, if_true, Bool.not_true, Bool.false_eq_true, if_false, List.length_cons]
          omega
        · simp only [hb, decide_false, Bool.false_and, Bool.false_eq_true, if_false, Bool.not_false, if_true, List.length_cons]
          omega
    have := key m.init fun s hs => (h.ok.lt s hs).2
    simp only [Bool.false_eq_true, if_false, Nat.add_zero, Nat.zero_add]
    omega
  have hsl := h.segL
  refine (drop_calls before hDs h.name w h.wat (m.segs.map (·.1)) (by rw [hcnt]; omega) hC le hl hns h.segR hsl (fun k n hk hb1 hb2 => ?_) (by rw [dropL_eq]; exact d2)).mono ?_
  · rw [dropL_eq]
    exact d1 k n hk (by unfold goB; rw [decide_eq_true hb1, decide_eq_true hb2]; rfl)
  · rintro e w' ⟨rfl, R', k1, k2⟩
    rw [dropL_eq, hcnt] at k1
    have hud : usedD (syncNamesD (dropsL D.data.toList before (m.n : Int) (m.segs.map (·.1)) d)).2 ≤ usedD d := by
      rw [d3.used2, hr.used2]
      show (((m.init.filter fun s => !decide ((s.1 : Int) < before)) ++ [(m.n, m.ps)]).map fun s => (framesT s.2).length).sum ≤ ((m.init ++ [(m.n, m.ps)]).map fun s => (framesT s.2).length).sum
      rw [List.map_append, List.map_append, List.sum_append, List.sum_append]
      refine Nat.add_le_add_right ?_ _
      generalize m.init = L
      induction L with
      | nil => exact Nat.le_refl _
      | cons x L ih =>
        rw [List.filter_cons]
        split
        · rw [List.map_cons, List.map_cons, List.sum_cons, List.sum_cons]
          omega
        · rw [List.map_cons, List.sum_cons]
          omega
    exact ⟨rfl, R', _, ⟨k1, h.ok.drop before, ⟨_, _, _, d3⟩, d4.trans h.cap, by have := h.us; omega, h.kb⟩, hud, k2⟩
/-- Open of a log that is there. -/
theorem wl_open (g0 : Nat) (hDs : D.size ≤ 1000) (hs1 : 1 ≤ size) (w : World) (hD : Dk B0 M w R p d) (hok : m.Ok) (hrr : ∃ l i C, WalR D.data.toList m l i C d) (hcap : d.cap = K) (hus : usedD d ≤ K) (hkb : K ≤ 67108864) (hM : M + 4 ≤ 536870912) (hC : SCon B0 a) (hE : SEnv B0 a w) (h6 : Fail6 B0 a w) :
    Calls Tryz.prog 32 #[.pointer (some ⟨p, 0, none⟩), .string D, .int .i64 1, .int .i64 size] w fun e w' => ∃ g X c R', e = .returned (.tuple #[.pointer (some ⟨g, 0, none⟩), .slice X m.texts.length c, .nilIface]) ∧ Strs w' X m.texts.length m.texts ∧
      w.heap.size ≤ g ∧ (∀ x, X = some x → w.heap.size ≤ x.block ∧ R' x.block = 0) ∧ WL B0 a K (M + 4) p g R' D size m d w' ∧ Out R R' w w' := by
  obtain ⟨l, i, C, hr⟩ := hrr
  have hsum : ∀ s ∈ m.segs, (framesT s.2).length ≤ 67108864 := fun s hs => by
    have := sum_mem hs
    rw [← hr.used2] at this
    omega
  have hCn : ∀ n ∈ m.segs.map (·.1), ∃ s ∈ m.segs, s.1 = n ∧ C n = framesT s.2 := fun n hn => by
    obtain ⟨s, hs, rfl⟩ := List.mem_map.1 hn
    refine ⟨s, hs, rfl, ?_⟩
    rcases List.mem_append.1 hs with hs | hs
    · exact hr.head s hs
    · obtain rfl := List.mem_singleton.1 hs
      exact hr.last
  have hrd : ∀ s ∈ m.segs, rdT (framesT s.2) = (s.2, (framesT s.2).length, 0) := fun s hs => rdT_frames s.2 (hok.ne s hs)
  have hgen : ∀ L : List (Nat × List Txt), (∀ s ∈ L, (rdT (C s.1)).1 = s.2) → ((L.map (·.1)).flatMap fun n => (rdT (C n)).1) = L.flatMap (·.2) := by
    intro L
    induction L with
    | nil => intro _; rfl
    | cons x L ih =>
      intro hL
      rw [List.map_cons, List.flatMap_cons, List.flatMap_cons, hL x (List.mem_cons_self ..), ih fun s hs => hL s (List.mem_cons_of_mem _ hs)]
  have hCs : ∀ s ∈ m.segs, C s.1 = framesT s.2 := fun s hs => by
    rcases List.mem_append.1 hs with hs | hs
    · exact hr.head s hs
    · obtain rfl := List.mem_singleton.1 hs
      exact hr.last
  have htx : ((m.segs.map (·.1)).flatMap fun n => (rdT (C n)).1) = m.texts := hgen m.segs fun s hs => by rw [hCs s hs, hrd s hs]
  have htl : m.texts.length ≤ 1073741824 := by
    have := segs_count m.segs
    rw [← hr.used2] at this
    show (m.segs.flatMap (·.2)).length ≤ _
    omega
  have esg : m.segs.map (·.1) = m.init.map (·.1) ++ [m.n] := by unfold WM.segs; rw [List.map_append]; rfl
  have hlist := hr.list
  have hns : entSegs (listD d D.data.toList).1 (m.init.map (·.1) ++ [m.n]) := by
    unfold entSegs
    rw [hlist.2, ← esg, List.map_map]
    rfl
  have hsr : ∀ n ∈ m.init.map (·.1) ++ [m.n], 1 ≤ n ∧ n ≤ 99999999 := fun n hn => by
    have hrg := hr.rng
    rcases List.mem_append.1 hn with hn | hn
    · obtain ⟨s, hs, rfl⟩ := List.mem_map.1 hn
      have := hok.lt s hs
      omega
    · obtain rfl := List.mem_singleton.1 hn
      exact hrg
  have hsl : (m.init.map (·.1) ++ [m.n]).length ≤ 99999999 := by
    refine asc_len _ _ ?_ hsr
    rw [List.pairwise_append]
    refine ⟨?_, by simp, ?_⟩
    · rw [List.pairwise_map]
      exact hok.asc
    · intro a ha b hb
      obtain ⟨s, hs, rfl⟩ := List.mem_map.1 ha
      have := (hok.lt s hs).2
      simp at hb
      omega
  have hlast : (m.n, m.ps) ∈ m.segs := List.mem_append_right _ (List.mem_singleton.2 rfl)
  have hrl : rdT (C m.n) = (m.ps, (framesT m.ps).length, 0) := by
    rw [hr.last]
    exact hrd _ hlast
  refine (open_there true (fun u v g R1 w1 w2 => v = .nilIface ∧ ∃ X c n R', u = .slice X n c ∧ Strs w2 X n m.texts ∧ (∀ x, X = some x → w1.heap.size ≤ x.block ∧ R' x.block = 0) ∧ WAt B0 a (M + 1 + 2) p g R' D size (m.n : Int) (m.used : Int) d w2 ∧ OutG g R1 R' w1 w2) hDs 1 (by decide) (by decide) hs1 w hD hM hC hE h6 hr.w.mkdir_again ?_).mono ?_
  · intro w' g R1 hw
    refine (recover_good hDs hr.w.nm 1 w' hw (by omega) hC (listD d D.data.toList).1 (Prod.ext rfl hlist.1) (m.init.map (·.1)) m.n hns hsr hsl C (fun n hn => ?_) (fun n hn => ?_) (by rw [← esg, htx]; exact htl) (fun n hn => by have := hsr n hn; omega) (fun n hn => ?_) (fun h => absurd (by rw [hrl]) h)).mono ?_
    · rw [← esg] at hn
      obtain ⟨s, hs, rfl⟩ := List.mem_map.1 hn
      rw [hCs s hs]
      exact hr.all hs
    · rw [← esg] at hn
      obtain ⟨s, hs, rfl⟩ := List.mem_map.1 hn
      rw [hCs s hs]
      exact hsum s hs
    · obtain ⟨s, hs, rfl⟩ := List.mem_map.1 hn
      rw [hr.head s hs, hrd s (List.mem_append_left _ hs)]
    · rintro e w2 ⟨X, c, n, R', rfl, k1, k2, k3, k4⟩
      rw [← esg, htx] at k1
      rw [hrl] at k3
      have hm0 : mendD D.data.toList d m.n (m.ps, (framesT m.ps).length, 0) = d := by unfold mendD; rw [if_pos rfl]
      rw [hm0] at k3
      exact ⟨_, _, rfl, fun _ => rfl, (fun h => by cases h), rfl, X, c, n, R', rfl, k1, k2, k3, k4⟩
  · rintro e w' ⟨g, u, v, R1, w1, rfl, hg, ⟨rfl, X, c, n, R', rfl, k1, k2, k3, k4⟩, ho, hs⟩
    have hn : n = m.texts.length := (Elems.len k1).symm
    subst hn
    exact ⟨g, X, c, R', rfl, k1, hg, fun x hx => ⟨Nat.le_trans hs (k2 x hx).1, (k2 x hx).2⟩, ⟨k3.more (by omega), hok, ⟨l, i, C, hr⟩, hcap, hus, hkb⟩, k4.out ho hg⟩
end
end Go.Proofs.YtfpgbhimgfdddaaGreatDoor

/-! ## WalLawA -/
/- The walks of the laws of layer 16: wakes, fit, small, texts. -/
namespace Go.Proofs.YtfpgbhimgfdddaaGreatDoor
open Go.RowKit Go.Shelf Go.Sort
attribute [local go_sem ↓] Go.wp_at_zero Go.wp_at_succ
attribute [local go_sem] Later.cell Later.frozen

section
variable {B0 : Nat} {a : Nat → Addr}
def wW : ByteArray := ⟨#[119]⟩
theorem wm_wakes : (WM.app (WM.app ⟨[], 1, []⟩ 20 [97, 97, 97, 97]) 20 [98, 98, 98, 98]) = ⟨[(1, [[97, 97, 97, 97]])], 2, [[98, 98, 98, 98]]⟩ := by
  have h1 : WM.app ⟨[], 1, []⟩ 20 [97, 97, 97, 97] = ⟨[], 1, [[97, 97, 97, 97]]⟩ := by
    unfold WM.app
    rw [if_neg]
    · rfl
    · unfold WM.full WM.used
      simp [framesT]
  rw [h1]
  unfold WM.app
  rw [if_pos]
  · rfl
  · unfold WM.full WM.used
    simp [framesT, frameT_len]
set_option maxRecDepth 100000 in
set_option maxHeartbeats 8000000 in
theorem wakes16_calls (w : World) (hC : SCon B0 a) (hE : SEnv B0 a w) (h6 : Fail6 B0 a w) :
    Calls Tryz.prog 31 #[] w fun e w' => e = .returned (.bool true) ∧ Below w.heap.size w w' := by
  have HC := Lib.hid hC
  have HE := Lib.hid hE
  have H6 := Lib.hid h6
  have HNEW := Lib.hid (Dk.made (B0 := B0) 1000 (by decide) (by decide) w hE.hb)
  have hn7 : (⟨(nameT sS 7).toArray⟩ : ByteArray) = ⟨#[115, 48, 48, 48, 48, 48, 48, 48, 55]⟩ := rfl
  have HN7 := Lib.hid hn7
  clear hC hE h6 hn7
  go_enter Tryz.func31, Tryz.ntmps31
  go_wp2_with fail
  refine HNEW.out.mono ?_
  rintro e w1 ⟨p, R, rfl, hd1, hb1, hz1⟩
  have HB1 := Lib.hid hb1
  have HZ := Lib.hid hz1
  have HE1 := Lib.hid (HE.out.low HC.out hb1)
  have HOP := Lib.hid (wl_new (D := wW) (size := 20) (by decide) (by decide) 1 (by decide) (by decide) (by decide) 1000 w1 hd1 (by decide) HC.out HE1.out (H6.out.below (hb1.mono HE.out.hb)))
  unfold wW at HOP
  clear hd1 hb1 hz1
  go_wp2_with fail
  refine HOP.out.mono ?_
  rintro e w2 ⟨g, R2, d2, rfl, hg2, hl2, hu2, ho2⟩
  have HG2 := Lib.hid hg2
  have HL2 := Lib.hid hl2
  have HO2 := Lib.hid ho2
  have HAP := Lib.hid (wl_append ⟨#[97, 97, 97, 97]⟩ (by decide) (by decide) (by decide) (by decide) (by decide) w2 hl2 (by decide) HC.out (by rw [hu2]; decide) (by decide))
  have HU2 := Lib.hid hu2
  clear hg2 hl2 hu2 ho2
  go_wp2_with fail
  refine HAP.out.mono ?_
  rintro e w3 ⟨rfl, R3, d3, hl3, hu3, hog3⟩
  have HL3 := Lib.hid hl3
  have HOG3 := Lib.hid hog3
  have hu3' : usedD d3 = 13 := by rw [hu3, HU2.out]; rfl
  have HAP2 := Lib.hid (wl_append ⟨#[98, 98, 98, 98]⟩ (by decide) (by decide) (by decide) (by decide) (by decide) w3 hl3 (by decide) HC.out (by rw [hu3']; decide) (by decide))
  clear hl3 hu3 hog3 hu3'
  go_wp2_with fail
  refine HAP2.out.mono ?_
  rintro e w4 ⟨rfl, R4, d4, hl4, hu4, hog4⟩
  have hmm : WM.app (WM.app ⟨[], 1, []⟩ 20 (⟨#[97, 97, 97, 97]⟩ : ByteArray).data.toList) 20 (⟨#[98, 98, 98, 98]⟩ : ByteArray).data.toList = ⟨[(1, [[97, 97, 97, 97]])], 2, [[98, 98, 98, 98]]⟩ := wm_wakes
  rw [hmm] at hl4
  have HL4 := Lib.hid hl4
  have HOG4 := Lib.hid (HOG3.out.trans hog4)
  have HSE := Lib.hid (segment_calls w4 hl4.wat.lg)
  have HBW4 : Hid (Below w.heap.size w w4) := Lib.hid (by
    have h1 : Below w.heap.size w1 w2 := HO2.out.below HB1.out.size HZ.out
    have h2 : Below w.heap.size w2 w4 := HOG4.out.below (by have := HB1.out.size; have := HO2.out.size; omega) (fun k hk => HO2.out.old k (by have := HB1.out.size; omega) (HZ.out k hk)) (by have := HG2.out; have := HB1.out.size; omega)
    exact (HB1.out.trans h1).trans h2)
  have HOP2 := Lib.hid (wl_open g (size := 20) (by decide) (by decide) w4 hl4.wat.dk hl4.ok hl4.rr hl4.cap hl4.us hl4.kb (by decide) HC.out hl4.wat.en hl4.wat.f6)
  have HZ4 : Hid (∀ k, k < w.heap.size → R4 k = 0) := Lib.hid fun k hk => HOG4.out.old k (by have := HB1.out.size; have := HO2.out.size; omega) (HO2.out.old k (by have := HB1.out.size; omega) (HZ.out k hk))
  clear hl4 hu4 hog4 hmm
  go_wp2_with fail
  refine HSE.out.mono ?_
  rintro e w5 ⟨rfl, rfl⟩
  go_wp2_with fail
  refine HOP2.out.mono ?_
  rintro e w6 ⟨g6, X, c, R6, rfl, hs6, hg6, hx6, hl6, ho6⟩
  have htx : (⟨[(1, [[97, 97, 97, 97]])], 2, [[98, 98, 98, 98]]⟩ : WM).texts = [[97, 97, 97, 97], [98, 98, 98, 98]] := rfl
  rw [htx] at hs6 ⊢
  obtain ⟨b, off, rfl, hbl, x0⟩ := hs6.at_ (i := 0) (by decide)
  obtain ⟨b2, off2, hbe, _, x1⟩ := hs6.at_ (i := 1) (by decide)
  injection hbe with hbe
  injection hbe with hb1e hb2e _
  subst hb1e hb2e
  have x0' : w6.cell? ⟨b, off, none⟩ = some (.string ⟨#[97, 97, 97, 97]⟩) := x0
  have x1' : w6.cell? ⟨b, off + 1, none⟩ = some (.string ⟨#[98, 98, 98, 98]⟩) := x1
  have HBW6 : Hid (Below w.heap.size w w6) := Lib.hid (HBW4.out.trans (ho6.below HBW4.out.size HZ4.out))
  have HN := Lib.hid (wname_calls 7 (by decide) (by decide) w6 hl6.wat.en.pow)
  rw [HN7.out] at HN
  have elen : ([[97, 97, 97, 97], [98, 98, 98, 98]] : List Txt).length = 2 := rfl
  rw [elen]
  clear hs6 hg6 hx6 hl6 ho6 htx x0 x1 elen
  go_wp2_with fail
  refine HN.out.mono ?_
  rintro e w7 ⟨rfl, hb7⟩
  have HB7 := Lib.hid (HBW6.out.trans (hb7.mono HBW6.out.size))
  clear hb7 x0' x1'
  go_wp2_with fail
  go_ret
  exact ⟨rfl, HB7.out⟩
theorem fit16_calls (S : ByteArray) (hS : S.size ≤ 140737488355328) (w : World) :
    Calls Tryz.prog 33 #[.string S] w fun e w' => e = .returned (.bool (decide (0 < S.size ∧ S.size ≤ 65536))) ∧ w = w' := by
  by_cases h0 : S.size = 0
  · have e : S = ⟨#[]⟩ := bytes_eq (List.eq_nil_of_length_eq_zero (by rw [text_size3]; exact h0))
    subst e
    go_enter Tryz.func33, Tryz.ntmps33
    go_wp2_with fail
    go_ret
    exact ⟨rfl, rfl⟩
  · have hn0 : S ≠ (⟨#[]⟩ : ByteArray) := by
      rintro rfl
      exact h0 rfl
    have hemp : S.toList.isEmpty = false := by
      rw [empty_size3]
      exact decide_eq_false h0
    have hl1 : (S.toList == (⟨#[]⟩ : ByteArray).toList) = false := by
      rw [ByteArray.toList_eq, ByteArray.toList_eq, beq_eq_false_iff_ne]
      intro e
      exact hn0 (bytes_eq e)
    have hl2 : (S == (⟨#[]⟩ : ByteArray)) = false := by rw [beq_toListBytes]; exact hl1
    have hne3 : decide (S = (⟨#[]⟩ : ByteArray)) = false := decide_eq_false hn0
    have hfin : decide (0 < S.size ∧ S.size ≤ 65536) = decide ((S.size : Int) ≤ 65536) := by
      rw [decide_eq_decide]
      omega
    rw [hfin]
    clear hfin
    go_enter Tryz.func33, Tryz.ntmps33
    go_wp2_with fail
    go_ret
    exact ⟨rfl, rfl⟩
end
end Go.Proofs.YtfpgbhimgfdddaaGreatDoor
