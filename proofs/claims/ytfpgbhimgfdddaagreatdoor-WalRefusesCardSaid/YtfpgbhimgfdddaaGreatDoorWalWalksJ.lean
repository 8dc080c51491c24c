/- The walks of layer 16 (wal): Append of a payload (printed by gen_walapp.py). -/
import Derived.Test.YtfpgbhimgfdddaaGreatDoorWalWalksI
set_option linter.unusedVariables false
set_option linter.unusedSimpArgs false
namespace Go.Proofs.YtfpgbhimgfdddaaGreatDoor
open Go.RowKit Go.Shelf Go.Sort
attribute [local go_sem ↓] Go.wp_at_zero Go.wp_at_succ
attribute [local go_sem] Later.cell Later.frozen

section
variable {B0 M p g : Nat} {a : Nat → Addr} {R R' R'' : Nat → Nat} {d : Ds} {w w' w'' : World} {D : ByteArray} {size last used : Int}
theorem LogAt.c03 (h : LogAt w g p D size last used) : w.cell? ⟨g, 0, none⟩ = some (.pointer (some ⟨p, 0, none⟩)) ∧ w.cell? ⟨g, 3, none⟩ = some (.int .i64 last) := ⟨h.c0, h.c3⟩
set_option maxRecDepth 100000 in
set_option maxHeartbeats 8000000 in
theorem append_on (S : ByteArray) (hS0 : 0 < S.size) (hS1 : S.size ≤ 1048576) (n u : Nat) (hn : n ≤ 99999999) (huz : u ≤ 1073741824) (hs1 : 1 ≤ size) (hs2 : size ≤ 9223372036854775807) (hDs : D.size ≤ 1000) (w : World) (hA : WAt B0 a M p g R D size (n : Int) (u : Int) d w) (hM : M + S.size + 20 ≤ 536870912) (hC : SCon B0 a)
    (hnf : ¬ (0 < u ∧ size - ((S.size + 9 : Nat) : Int) < (u : Int)))
    (hap : (appendD d (wP D.data.toList (n : Int)) (frameT S.data.toList)).1 = 0) (hsy : (syncD (appendD d (wP D.data.toList (n : Int)) (frameT S.data.toList)).2 (wP D.data.toList (n : Int))).1 = 0) :
    Calls Tryz.prog 34 #[.pointer (some ⟨g, 0, none⟩), .string S] w fun e w' => e = .returned .nilIface ∧ ∃ R', WAt B0 a (M + S.size + 13) p g R' D size (n : Int) ((u + S.size + 9 : Nat) : Int) (putW D.data.toList d (n : Int) S.data.toList) w' ∧ OutG g R R' w w' := by
  obtain ⟨F, hF⟩ : ∃ F : ByteArray, (⟨(frameT S.data.toList).toArray⟩ : ByteArray) = F := ⟨_, rfl⟩
  have hFl : F.data.toList = frameT S.data.toList := by rw [← hF]
  have hFs : F.size = S.size + 9 := by rw [← text_size3, hFl, frameT_len, text_size3]
  obtain ⟨k, hk⟩ : ∃ k, F.size = k := ⟨_, rfl⟩
  have hks : S.size + 9 = k := by omega
  have HFR : Hid (∀ w', Below w.heap.size w w' → Calls Tryz.prog 89 #[.string S] w' fun e w2 => e = .returned (.tuple #[.string F, .int .i64 0]) ∧ Below w'.heap.size w' w2) := Lib.hid fun w' h => by
    rw [← hF]
    exact frame_good S hS0 hS1 w' (hA.en.low hC h).nib
  obtain ⟨P, hP⟩ := wP_bytes D (n : Int)
  have HPS := Lib.hid (wP_size hP hDs)
  have HA := Lib.hid hA
  have HC := Lib.hid hC
  have HD1K := Lib.hid hDs
  rw [← hP, ← hFl] at hap hsy
  have HAP := Lib.hid (⟨hap, hsy⟩ : _ ∧ _)
  have hput : putW D.data.toList d (n : Int) S.data.toList = (syncD (appendD d P.data.toList F.data.toList).2 P.data.toList).2 := by
    unfold putW
    rw [hP, hFl]
  have HPL := Lib.hid hP
  have HMM := Lib.hid hM
  have HKS := Lib.hid hks
  have HFK := Lib.hid hk
  have e9 : ((u + S.size + 9 : Nat) : Int) = ((u + k : Nat) : Int) := by omega
  rw [e9, hput]
  obtain ⟨uz, huzz⟩ : ∃ z : Int, (u : Int) = z := ⟨_, rfl⟩
  have HUZ := Lib.hid huzz
  have HZ0 : Hid (¬ (0 < uz ∧ size - (k : Int) < uz)) := Lib.hid (by rw [← hks]; omega)
  have z3 : -9223372036854775808 ≤ size - (k : Int) ∧ size - (k : Int) ≤ 9223372036854775807 := by omega
  have z4 : k ≤ 1073741824 := by omega
  obtain ⟨lz, hlz⟩ : ∃ z : Int, (n : Int) = z := ⟨_, rfl⟩
  have HLZ := Lib.hid hlz
  have hlr : -9223372036854775808 ≤ lz ∧ lz ≤ 9223372036854775807 := by omega
  have HLR := Lib.hid hlr
  have c2 := hA.lg.c2
  have c4 := hA.lg.c4
  have hgl := hA.lg.lt
  rw [hlz]
  clear huzz hF hFl hFs hP hap hsy hput hM hA hC e9 hlz hlr hDs hn hS0 hS1 hnf hks
  go_enter Tryz.func34, Tryz.ntmps34
  go_wp2_with fail
  refine (HFR.out w (Below.refl _ _)).mono ?_
  rintro _ w1 ⟨rfl, hb1⟩
  have HB1 := Lib.hid hb1
  have HA1 := Lib.hid (HA.out.below HC.out hb1)
  clear hb1 c2 c4 hgl
  have c2 := HA1.out.lg.c2
  have c4 := HA1.out.lg.c4
  have hgl := HA1.out.lg.lt
  rw [HUZ.out] at c4
  go_upto_region 6 with fail
  go_cut [40] (fun s40 wz => s40 = .bool false ∧ Below w1.heap.size w1 wz)
  case first =>
    have hz := HZ0.out
    by_cases h0 : 0 < uz
    · have y0 : decide ((0 : Int) < uz) = true := decide_eq_true h0
      have y1 : decide (size - (k : Int) < uz) = false := decide_eq_false (fun h => hz ⟨h0, h⟩)
      refine wp_region_later (by kernel_rfl) (by kernel_rfl) ?_
      repeat (go_big_quiet_step (fail))
      refine wpQuiet_nil ?_
      rintro w2 ⟨⟨w2, hb2⟩, rfl⟩
      go_wp2_with fail
      go_meet
      exact ⟨rfl, hb2⟩
    · have y0 : decide ((0 : Int) < uz) = false := decide_eq_false h0
      refine wp_region_later (by kernel_rfl) (by kernel_rfl) ?_
      repeat (go_big_quiet_step (fail))
      refine wpQuiet_nil ?_
      rintro w2 ⟨⟨w2, hb2⟩, rfl⟩
      go_wp2_with fail
      go_meet
      exact ⟨rfl, hb2⟩
  case rest =>
   obtain ⟨rfl, hb2⟩ := hcut
   obtain ⟨w2, rfl⟩ : ∃ x, x = wc := ⟨_, rfl⟩
   have HB2 := Lib.hid (HB1.out.trans (hb2.mono HB1.out.size))
   have HA2 := Lib.hid (HA.out.below HC.out HB2.out)
   clear hb2 c2 c4 hgl
   obtain ⟨R3, hR3⟩ : ∃ r, R = r := ⟨_, rfl⟩
   obtain ⟨w3, hw3⟩ : ∃ x, w2 = x := ⟨_, rfl⟩
   have HA3 : Hid (WAt B0 a M p g R3 D size lz (u : Int) d w3) := Lib.hid (by rw [← hw3, ← hR3, ← HLZ.out]; exact HA2.out)
   have HOG3 : Hid (OutG g R R3 w w3) := Lib.hid (by rw [← hw3, ← hR3]; exact OutG.of (Out.of_below HB2.out))
   rw [hw3]
   clear hw3 hR3
   go_upto_region 10 with fail
   have HAPP : Hid (∀ (w' : World) (b : Nat), Below w3.heap.size w3 w' → Blk w' b 9 #[.string F] → Calls Tryz.prog 20 #[.pointer (some ⟨p, 0, none⟩), .string P, .slice (some ⟨b, 0, none⟩) 1 1] w' fun e w2 => e = .returned .nilIface ∧ ∃ R', WAt B0 a (M + k + 1) p g R' D size lz (u : Int) (appendD d P.data.toList F.data.toList).2 w2 ∧ OutG g R R' w w2) := Lib.hid fun w' b hb hbk => by
     have hA' := HA3.out.below HC.out hb
     have h1 := hA'.dk.append (by have := HMM.out; omega) hA'.en.hb hA'.en.e.f P HPS.out (some ⟨b, 0, none⟩) F.data.toList (strs_one hbk) (by rw [text_size3, HFK.out]; omega)
     refine h1.mono ?_
     rintro e w2 ⟨v, R2, rfl, hv, hd, ho⟩
     rw [HAP.out.1] at hv
     obtain rfl := hv.z
     rw [text_size3, HFK.out] at hd
     exact ⟨rfl, R2, hA'.out HC.out hd ho, (HOG3.out.trans (OutG.of (Out.of_below hb))).trans (OutG.of ho)⟩
   go_cut [9] (fun s9 wz => s9 = .nilIface ∧ ∃ R', WAt B0 a (M + k + 1) p g R' D size lz (u : Int) (appendD d P.data.toList F.data.toList).2 wz ∧ OutG g R R' w wz)
   case first =>
     have hbd : Below w3.heap.size w3 w3.drew := (Below.refl _ _).drew
     have hq0 : LogAt w3.drew g p D size lz (u : Int) := HA3.out.lg.below hbd
     have HPA := Lib.hid (HA3.out.path HC.out lz HLR.out.1 HLR.out.2 HD1K.out P (by rw [← HLZ.out]; exact HPL.out))
     have HP0 := Lib.hid (HPA.out ⟨w3.drew, hbd⟩)
     have hba : Below w3.heap.size w3 (w3.drew.alloc (.cells #[.string F] 9)) := hbd.alloc hbd.size _
     have HP1 := Lib.hid (HPA.out ⟨w3.drew.alloc (.cells #[.string F] 9), hba⟩)
     dsimp only at HP0 HP1
     have hqa : LogAt (w3.drew.alloc (.cells #[.string F] 9)) g p D size lz (u : Int) := HA3.out.lg.below hba
     have hka : Blk (w3.drew.alloc (.cells #[.string F] 9)) w3.drew.heap.size 9 #[.string F] := Blk.new _ _ _
     have HBA := Lib.hid (⟨hbd, hba, hka⟩ : _ ∧ _ ∧ _)
     clear hbd hba hka
     go_region_held3 (fun w' => w'.cell? ⟨g, 0, none⟩ = some (.pointer (some ⟨p, 0, none⟩)) ∧ w'.cell? ⟨g, 3, none⟩ = some (.int .i64 lz)) (first | exact LogAt.c03 hq0 | exact LogAt.c03 hqa | exact LogAt.c03 hq1 | exact LogAt.c03 hqb | exact LogAt.c03 hq2 | go_keep)
       (first
         | (go_at_call 90; refine HP0.out.mono ?_; rintro e w4 ⟨rfl, hb4⟩; have hq1 := LogAt.below hq0 hb4; have hb5 := (Below.refl w4.heap.size w4).alloc (Nat.le_refl _) (.cells #[.string F] 9); have hqb := LogAt.below hq1 hb5)
         | (go_at_call 90; refine HP1.out.mono ?_; rintro e w4 ⟨rfl, hb4⟩; have hq1 := LogAt.below hqa hb4)
         | (go_at_call 20; refine (HAPP.out (w4.alloc (.cells #[.string F] 9)) w4.heap.size ((HBA.out.1.trans (hb4.mono HBA.out.1.size)).trans (hb5.mono (HBA.out.1.trans (hb4.mono HBA.out.1.size)).size)) (Blk.new _ _ _)).mono ?_; rintro e w5 ⟨rfl, R5, hA5, hog5⟩; have hq2 := hA5.lg)
         | (go_at_call 20; refine (HAPP.out w4 w3.drew.heap.size (HBA.out.2.1.trans (hb4.mono HBA.out.2.1.size)) (HBA.out.2.2.below hb4 HBA.out.2.2.lt)).mono ?_; rintro e w5 ⟨rfl, R5, hA5, hog5⟩; have hq2 := hA5.lg))
     all_goals
       have HA5 := Lib.hid hA5
       have HOG5 := Lib.hid hog5
       clear hA5 hog5 hq2
       go_wp2_with fail
       go_meet
       exact ⟨rfl, R5, HA5.out, HOG5.out⟩
   case rest =>
     obtain ⟨rfl, R5, hA5, hog5⟩ := hcut
     obtain ⟨w5, rfl⟩ : ∃ x, x = wc := ⟨_, rfl⟩
     have HA5 := Lib.hid hA5
     have HOG5 := Lib.hid hog5
     clear hA5 hog5
     have c4 := HA5.out.lg.c4
     have f4 : w5.frozen? ⟨g, 4, none⟩ = false := Blk.frozen HA5.out.lg 4
     obtain ⟨vz, hvz⟩ : ∃ z : Int, (u : Int) = z := ⟨_, rfl⟩
     have e5 : vz + (k : Int) = ((u + k : Nat) : Int) := by omega
     have e6 : -9223372036854775808 ≤ vz + (k : Int) ∧ vz + (k : Int) ≤ 9223372036854775807 := by omega
     rw [hvz] at c4
     have E5 := Lib.hid e5
     clear e5 hvz
     go_upto_region 14 with fail
     obtain ⟨w6, hw6⟩ : ∃ x, w5.setCell ⟨g, 4, none⟩ (.int .i64 (vz + (k : Int))) = x := ⟨_, rfl⟩
     have HA6 : Hid (WAt B0 a (M + k + 1) p g R5 D size lz ((u + k : Nat) : Int) (appendD d P.data.toList F.data.toList).2 w6) := Lib.hid (by rw [← hw6, E5.out]; exact HA5.out.setU HC.out _)
     have HOG6 : Hid (OutG g R R5 w w6) := Lib.hid (by rw [← hw6]; exact HOG5.out.trans (OutG.set g R5 w5 4 _))
     rw [hw6]
     clear hw6 c4 f4
     have c0 := HA6.out.lg.c0
     have c3 := HA6.out.lg.c3
     have hgl := HA6.out.lg.lt
     have HPA6 := Lib.hid (HA6.out.path HC.out lz HLR.out.1 HLR.out.2 HD1K.out P (by rw [← HLZ.out]; exact HPL.out))
     refine wp_region_later_tail 10 (by kernel_rfl) (by kernel_rfl) ?_
     simp only [List.take_succ_cons, List.take_zero, List.drop_succ_cons, List.drop_zero]
     repeat (go_big_quiet_step ((go_at_call 90; exact quiet_later _ (HPA6.out _))))
     refine wpQuiet_nil ?_
     rintro w7 ⟨⟨w7, hb7⟩, rfl⟩
     have HA7 := Lib.hid (HA6.out.below HC.out hb7)
     have HOG7 := Lib.hid (HOG6.out.then_ hb7)
     have HSY := Lib.hid (HA7.out.dk.sync (by have := HMM.out; have := HKS.out; omega) HA7.out.en.hb HA7.out.en.e.f P HPS.out)
     clear hb7 c0 c3 hgl
     go_wp2_with fail
     refine HSY.out.mono ?_
     rintro e w8 ⟨v8, R8, rfl, hv8, hd8, ho8⟩
     rw [HAP.out.2] at hv8
     obtain rfl := hv8.z
     have HA8 := Lib.hid (HA7.out.out HC.out hd8 ho8)
     have HOG8 := Lib.hid (HOG7.out.trans (OutG.of ho8))
     clear hv8 hd8 ho8
     go_wp2_with fail
     go_ret
     exact ⟨rfl, R8, HA8.out.more (by have := HKS.out; omega), HOG8.out⟩
set_option maxRecDepth 100000 in
set_option maxHeartbeats 8000000 in
theorem append_full (S : ByteArray) (hS0 : 0 < S.size) (hS1 : S.size ≤ 1048576) (n u : Nat) (hn : n ≤ 99999999) (huz : u ≤ 1073741824) (hs1 : 1 ≤ size) (hs2 : size ≤ 9223372036854775807) (hDs : D.size ≤ 1000) (w : World) (hA : WAt B0 a M p g R D size (n : Int) (u : Int) d w) (hM : M + S.size + 20 ≤ 536870912) (hC : SCon B0 a)
    (hu : 0 < u) (hfull : size - ((S.size + 9 : Nat) : Int) < (u : Int)) (hn1 : n + 1 ≤ 99999999)
    (hcr : (createD d (wP D.data.toList ((n + 1 : Nat) : Int))).1 = 0) (hsn : (syncNamesD (createD d (wP D.data.toList ((n + 1 : Nat) : Int))).2).1 = 0) (d1 : Ds) (hd1 : beginD D.data.toList d ((n + 1 : Nat) : Int) = d1)
    (hap : (appendD d1 (wP D.data.toList ((n + 1 : Nat) : Int)) (frameT S.data.toList)).1 = 0) (hsy : (syncD (appendD d1 (wP D.data.toList ((n + 1 : Nat) : Int)) (frameT S.data.toList)).2 (wP D.data.toList ((n + 1 : Nat) : Int))).1 = 0) :
    Calls Tryz.prog 34 #[.pointer (some ⟨g, 0, none⟩), .string S] w fun e w' => e = .returned .nilIface ∧ ∃ R', WAt B0 a (M + S.size + 13) p g R' D size ((n + 1 : Nat) : Int) ((0 + S.size + 9 : Nat) : Int) (putW D.data.toList d1 ((n + 1 : Nat) : Int) S.data.toList) w' ∧ OutG g R R' w w' := by
  obtain ⟨F, hF⟩ : ∃ F : ByteArray, (⟨(frameT S.data.toList).toArray⟩ : ByteArray) = F := ⟨_, rfl⟩
  have hFl : F.data.toList = frameT S.data.toList := by rw [← hF]
  have hFs : F.size = S.size + 9 := by rw [← text_size3, hFl, frameT_len, text_size3]
  obtain ⟨k, hk⟩ : ∃ k, F.size = k := ⟨_, rfl⟩
  have hks : S.size + 9 = k := by omega
  have HFR : Hid (∀ w', Below w.heap.size w w' → Calls Tryz.prog 89 #[.string S] w' fun e w2 => e = .returned (.tuple #[.string F, .int .i64 0]) ∧ Below w'.heap.size w' w2) := Lib.hid fun w' h => by
    rw [← hF]
    exact frame_good S hS0 hS1 w' (hA.en.low hC h).nib
  obtain ⟨P, hP⟩ := wP_bytes D ((n + 1 : Nat) : Int)
  have HPS := Lib.hid (wP_size hP hDs)
  have HA := Lib.hid hA
  have HC := Lib.hid hC
  have HD1K := Lib.hid hDs
  rw [← hP, ← hFl] at hap hsy
  have HAP := Lib.hid (⟨hap, hsy⟩ : _ ∧ _)
  have hput : putW D.data.toList d1 ((n + 1 : Nat) : Int) S.data.toList = (syncD (appendD d1 P.data.toList F.data.toList).2 P.data.toList).2 := by
    unfold putW
    rw [hP, hFl]
  have HPL := Lib.hid hP
  have HMM := Lib.hid hM
  have HKS := Lib.hid hks
  have HFK := Lib.hid hk
  have e9 : ((0 + S.size + 9 : Nat) : Int) = ((0 + k : Nat) : Int) := by omega
  rw [e9, hput]
  have HRO : Hid (∀ w', Below w.heap.size w w' → Calls Tryz.prog 42 #[.pointer (some ⟨g, 0, none⟩)] w' fun e w2 => e = .returned (.tuple #[.int .i64 ((n + 1 : Nat) : Int), .nilIface]) ∧ ∃ R', WAt B0 a (M + 2) p g R' D size ((n + 1 : Nat) : Int) 0 d1 w2 ∧ OutG g R R' w' w2) := Lib.hid fun w' h => by
    rw [← hd1]
    exact rotate_on n u hn1 hu hDs w' (HA.out.below HC.out h) (by omega) HC.out hcr hsn
  obtain ⟨uz, huzz⟩ : ∃ z : Int, (u : Int) = z := ⟨_, rfl⟩
  have HUZ := Lib.hid huzz
  have HZ0 : Hid (0 < uz ∧ size - (k : Int) < uz) := Lib.hid (by rw [← hks]; omega)
  have z3 : -9223372036854775808 ≤ size - (k : Int) ∧ size - (k : Int) ≤ 9223372036854775807 := by omega
  have z4 : k ≤ 1073741824 := by omega
  obtain ⟨lz, hlz⟩ : ∃ z : Int, ((n + 1 : Nat) : Int) = z := ⟨_, rfl⟩
  have HLZ := Lib.hid hlz
  have hlr : -9223372036854775808 ≤ lz ∧ lz ≤ 9223372036854775807 := by omega
  have HLR := Lib.hid hlr
  have c2 := hA.lg.c2
  have c4 := hA.lg.c4
  have hgl := hA.lg.lt
  rw [hlz] at HRO
  rw [hlz]
  clear huzz hF hFl hFs hP hap hsy hput hM hA hC e9 hlz hlr hDs hn hS0 hS1 hcr hsn hd1 hfull hu hn1 hks
  go_enter Tryz.func34, Tryz.ntmps34
  go_wp2_with fail
  refine (HFR.out w (Below.refl _ _)).mono ?_
  rintro _ w1 ⟨rfl, hb1⟩
  have HB1 := Lib.hid hb1
  have HA1 := Lib.hid (HA.out.below HC.out hb1)
  clear hb1 c2 c4 hgl
  have c2 := HA1.out.lg.c2
  have c4 := HA1.out.lg.c4
  have hgl := HA1.out.lg.lt
  rw [HUZ.out] at c4
  go_upto_region 6 with fail
  go_cut [40] (fun s40 wz => s40 = .bool true ∧ Below w1.heap.size w1 wz)
  case first =>
    have hz := HZ0.out
    · have y0 : decide ((0 : Int) < uz) = true := decide_eq_true hz.1
      have y1 : decide (size - (k : Int) < uz) = true := decide_eq_true hz.2
      refine wp_region_later (by kernel_rfl) (by kernel_rfl) ?_
      repeat (go_big_quiet_step (fail))
      refine wpQuiet_nil ?_
      rintro w2 ⟨⟨w2, hb2⟩, rfl⟩
      go_wp2_with fail
      go_meet
      exact ⟨rfl, hb2⟩
  case rest =>
   obtain ⟨rfl, hb2⟩ := hcut
   obtain ⟨w2, rfl⟩ : ∃ x, x = wc := ⟨_, rfl⟩
   have HB2 := Lib.hid (HB1.out.trans (hb2.mono HB1.out.size))
   have HA2 := Lib.hid (HA.out.below HC.out HB2.out)
   clear hb2 c2 c4 hgl
   have HRO2 := Lib.hid (HRO.out w2 HB2.out)
   go_wp2_with fail
   refine HRO2.out.mono ?_
   rintro _ w3 ⟨rfl, R3, hA3, hog3⟩
   have HA3 := Lib.hid hA3
   have HOG3 := Lib.hid ((OutG.of (Out.of_below HB2.out)).trans hog3)
   clear hA3 hog3
   go_upto_region 10 with fail
   have HAPP : Hid (∀ (w' : World) (b : Nat), Below w3.heap.size w3 w' → Blk w' b 9 #[.string F] → Calls Tryz.prog 20 #[.pointer (some ⟨p, 0, none⟩), .string P, .slice (some ⟨b, 0, none⟩) 1 1] w' fun e w2 => e = .returned .nilIface ∧ ∃ R', WAt B0 a ((M + 2) + k + 1) p g R' D size lz 0 (appendD d1 P.data.toList F.data.toList).2 w2 ∧ OutG g R R' w w2) := Lib.hid fun w' b hb hbk => by
     have hA' := HA3.out.below HC.out hb
     have h1 := hA'.dk.append (by have := HMM.out; omega) hA'.en.hb hA'.en.e.f P HPS.out (some ⟨b, 0, none⟩) F.data.toList (strs_one hbk) (by rw [text_size3, HFK.out]; omega)
     refine h1.mono ?_
     rintro e w2 ⟨v, R2, rfl, hv, hd, ho⟩
     rw [HAP.out.1] at hv
     obtain rfl := hv.z
     rw [text_size3, HFK.out] at hd
     exact ⟨rfl, R2, hA'.out HC.out hd ho, (HOG3.out.trans (OutG.of (Out.of_below hb))).trans (OutG.of ho)⟩
   go_cut [9] (fun s9 wz => s9 = .nilIface ∧ ∃ R', WAt B0 a ((M + 2) + k + 1) p g R' D size lz 0 (appendD d1 P.data.toList F.data.toList).2 wz ∧ OutG g R R' w wz)
   case first =>
     have hbd : Below w3.heap.size w3 w3.drew := (Below.refl _ _).drew
     have hq0 : LogAt w3.drew g p D size lz 0 := HA3.out.lg.below hbd
     have HPA := Lib.hid (HA3.out.path HC.out lz HLR.out.1 HLR.out.2 HD1K.out P (by rw [← HLZ.out]; exact HPL.out))
     have HP0 := Lib.hid (HPA.out ⟨w3.drew, hbd⟩)
     have hba : Below w3.heap.size w3 (w3.drew.alloc (.cells #[.string F] 9)) := hbd.alloc hbd.size _
     have HP1 := Lib.hid (HPA.out ⟨w3.drew.alloc (.cells #[.string F] 9), hba⟩)
     dsimp only at HP0 HP1
     have hqa : LogAt (w3.drew.alloc (.cells #[.string F] 9)) g p D size lz 0 := HA3.out.lg.below hba
     have hka : Blk (w3.drew.alloc (.cells #[.string F] 9)) w3.drew.heap.size 9 #[.string F] := Blk.new _ _ _
     have HBA := Lib.hid (⟨hbd, hba, hka⟩ : _ ∧ _ ∧ _)
     clear hbd hba hka
     go_region_held3 (fun w' => w'.cell? ⟨g, 0, none⟩ = some (.pointer (some ⟨p, 0, none⟩)) ∧ w'.cell? ⟨g, 3, none⟩ = some (.int .i64 lz)) (first | exact LogAt.c03 hq0 | exact LogAt.c03 hqa | exact LogAt.c03 hq1 | exact LogAt.c03 hqb | exact LogAt.c03 hq2 | go_keep)
       (first
         | (go_at_call 90; refine HP0.out.mono ?_; rintro e w4 ⟨rfl, hb4⟩; have hq1 := LogAt.below hq0 hb4; have hb5 := (Below.refl w4.heap.size w4).alloc (Nat.le_refl _) (.cells #[.string F] 9); have hqb := LogAt.below hq1 hb5)
         | (go_at_call 90; refine HP1.out.mono ?_; rintro e w4 ⟨rfl, hb4⟩; have hq1 := LogAt.below hqa hb4)
         | (go_at_call 20; refine (HAPP.out (w4.alloc (.cells #[.string F] 9)) w4.heap.size ((HBA.out.1.trans (hb4.mono HBA.out.1.size)).trans (hb5.mono (HBA.out.1.trans (hb4.mono HBA.out.1.size)).size)) (Blk.new _ _ _)).mono ?_; rintro e w5 ⟨rfl, R5, hA5, hog5⟩; have hq2 := hA5.lg)
         | (go_at_call 20; refine (HAPP.out w4 w3.drew.heap.size (HBA.out.2.1.trans (hb4.mono HBA.out.2.1.size)) (HBA.out.2.2.below hb4 HBA.out.2.2.lt)).mono ?_; rintro e w5 ⟨rfl, R5, hA5, hog5⟩; have hq2 := hA5.lg))
     all_goals
       have HA5 := Lib.hid hA5
       have HOG5 := Lib.hid hog5
       clear hA5 hog5 hq2
       go_wp2_with fail
       go_meet
       exact ⟨rfl, R5, HA5.out, HOG5.out⟩
   case rest =>
     obtain ⟨rfl, R5, hA5, hog5⟩ := hcut
     obtain ⟨w5, rfl⟩ : ∃ x, x = wc := ⟨_, rfl⟩
     have HA5 := Lib.hid hA5
     have HOG5 := Lib.hid hog5
     clear hA5 hog5
     have c4 := HA5.out.lg.c4
     have f4 : w5.frozen? ⟨g, 4, none⟩ = false := Blk.frozen HA5.out.lg 4
     obtain ⟨vz, hvz⟩ : ∃ z : Int, 0 = z := ⟨_, rfl⟩
     have e5 : vz + (k : Int) = ((0 + k : Nat) : Int) := by omega
     have e6 : -9223372036854775808 ≤ vz + (k : Int) ∧ vz + (k : Int) ≤ 9223372036854775807 := by omega
     rw [hvz] at c4
     have E5 := Lib.hid e5
     clear e5 hvz
     go_upto_region 14 with fail
     obtain ⟨w6, hw6⟩ : ∃ x, w5.setCell ⟨g, 4, none⟩ (.int .i64 (vz + (k : Int))) = x := ⟨_, rfl⟩
     have HA6 : Hid (WAt B0 a ((M + 2) + k + 1) p g R5 D size lz ((0 + k : Nat) : Int) (appendD d1 P.data.toList F.data.toList).2 w6) := Lib.hid (by rw [← hw6, E5.out]; exact HA5.out.setU HC.out _)
     have HOG6 : Hid (OutG g R R5 w w6) := Lib.hid (by rw [← hw6]; exact HOG5.out.trans (OutG.set g R5 w5 4 _))
     rw [hw6]
     clear hw6 c4 f4
     have c0 := HA6.out.lg.c0
     have c3 := HA6.out.lg.c3
     have hgl := HA6.out.lg.lt
     have HPA6 := Lib.hid (HA6.out.path HC.out lz HLR.out.1 HLR.out.2 HD1K.out P (by rw [← HLZ.out]; exact HPL.out))
     refine wp_region_later_tail 10 (by kernel_rfl) (by kernel_rfl) ?_
     simp only [List.take_succ_cons, List.take_zero, List.drop_succ_cons, List.drop_zero]
     repeat (go_big_quiet_step ((go_at_call 90; exact quiet_later _ (HPA6.out _))))
     refine wpQuiet_nil ?_
     rintro w7 ⟨⟨w7, hb7⟩, rfl⟩
     have HA7 := Lib.hid (HA6.out.below HC.out hb7)
     have HOG7 := Lib.hid (HOG6.out.then_ hb7)
     have HSY := Lib.hid (HA7.out.dk.sync (by have := HMM.out; have := HKS.out; omega) HA7.out.en.hb HA7.out.en.e.f P HPS.out)
     clear hb7 c0 c3 hgl
     go_wp2_with fail
     refine HSY.out.mono ?_
     rintro e w8 ⟨v8, R8, rfl, hv8, hd8, ho8⟩
     rw [HAP.out.2] at hv8
     obtain rfl := hv8.z
     have HA8 := Lib.hid (HA7.out.out HC.out hd8 ho8)
     have HOG8 := Lib.hid (HOG7.out.trans (OutG.of ho8))
     clear hv8 hd8 ho8
     go_wp2_with fail
     go_ret
     exact ⟨rfl, R8, HA8.out.more (by have := HKS.out; omega), HOG8.out⟩
end
end Go.Proofs.YtfpgbhimgfdddaaGreatDoor
