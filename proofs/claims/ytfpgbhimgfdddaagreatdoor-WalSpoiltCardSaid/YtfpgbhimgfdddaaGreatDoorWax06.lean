/- Merged: WalPlayW. -/
import Derived.Test.YtfpgbhimgfdddaaGreatDoorWax05
import Derived.Test.YtfpgbhimgfdddaaGreatDoorWak15
import Derived.Deep.RegionHeldLaw
set_option linter.unusedVariables false
set_option linter.unusedSimpArgs false
/-! ## WalPlayW -/
/- The walk of play of layer 16's laws. -/
namespace Go.Proofs.YtfpgbhimgfdddaaGreatDoor
open Go.RowKit Go.Shelf Go.Sort
attribute [local go_sem ↓] Go.wp_at_zero Go.wp_at_succ
attribute [local go_sem] Later.cell Later.frozen

theorem info_ent : (Tryz.prog.info? 87).map (fun i => (i.zero, i.size, i.bytes)) = some (some (.agg #[.string ⟨#[]⟩, .int .i64 0]), 2, 24) := by kernel_rfl
section
variable {B0 : Nat} {a : Nat → Addr}
set_option maxRecDepth 100000 in
set_option maxHeartbeats 16000000 in
theorem play_calls (p : Nat) (size : Int) (A : Option Addr) (n c : Nat) (l : List OpW16) (w : World) (R : Nat → Nat) (hD : Dk B0 0 w R p (newD 67108864)) (hs1 : 1 ≤ size) (hs2 : size ≤ 5000) (hl : Elems w w.heap.size 3 encOpW A n l) (hAz : ∀ x, A = some x → 0 < n → R x.block = 0)
    (hi : ∀ o ∈ l, i64 o.kind ∧ i64 o.n) (hsum : opSum l ≤ 1048576) (hC : SCon B0 a) (hE : SEnv B0 a w) (h6 : Fail6 B0 a w) :
    Calls Tryz.prog 41 #[.pointer (some ⟨p, 0, none⟩), .int .i64 size, .slice A n c] w fun e w' => ∃ ao cap k m d M R' g, e = .returned (.tuple #[.slice ao k.length cap, .string ⟨#[]⟩, .bool true]) ∧
      PlayI B0 a p size l R w n m k d M R' ao cap g w' := by
  obtain ⟨i0, hi0, hz0, hz1, hz2⟩ := info_parts info_ent
  have hkn : l.length = n := hl.1
  have HKN := Lib.hid hkn
  have hn9 := opSum_len l
  have hnz : n ≤ 116508 := by omega
  have HL := Lib.hid hl
  have HAZ := Lib.hid hAz
  have HI := Lib.hid hi
  have HSUM := Lib.hid hsum
  have HC := Lib.hid hC
  have HB0 : Hid (B0 ≤ w.heap.size) := Lib.hid hE.hb
  have HSS := Lib.hid (⟨hs1, hs2⟩ : _ ∧ _)
  have HOP := Lib.hid (wl_new (D := wW) (size := size) (by decide) (by decide) 1 (by decide) (by decide) hs1 67108864 w hD (by decide) hC hE h6)
  unfold wW at HOP
  clear hD hl hAz hi hsum hC hE h6 hkn hn9 hs1 hs2
  go_enter Tryz.func41, Tryz.ntmps41
  go_wp2_with fail
  refine HOP.out.mono ?_
  rintro e w1 ⟨g1, R1, d1, rfl, hg1, hl1, hu1, ho1⟩
  have HP1 : Hid (PlayI B0 a p size l R w 0 ⟨[], 1, []⟩ [] d1 4 R1 none 0 g1 w1) := Lib.hid ⟨hl1, rfl, KRow.nil _ _ _, (fun x hx => by cases hx), Nat.le_refl _, by rw [hu1]; exact Nat.zero_le _, by show 4 + 1 ≤ 10 + 2 * opSum (l.take 0); omega, ho1, hg1⟩
  clear hg1 hl1 hu1 ho1
  go_wp2_with fail
  go_loopg [6, 9, 42] n (fun gh s6 s9 s42 wr => ∃ (i : Nat) (m : WM) (k : List (Txt × Nat)) (d : Ds) (M : Nat) (Rr : Nat → Nat) (ao : Option Addr) (cap g : Nat), i + gh = n ∧ s42 = .int .i64 (i : Int) ∧ s9 = .pointer (some ⟨g, 0, none⟩) ∧ s6 = .slice ao k.length cap ∧ PlayI B0 a p size l R w i m k d M Rr ao cap g wr)
  case atStart => exact ⟨0, _, [], _, _, _, _, _, _, by omega, rfl, rfl, rfl, HP1.out⟩
  case round =>
    obtain ⟨i, m, k, d, M, Rr, ao, cap, g, hig, rfl, rfl, rfl, hP⟩ := hrel
    have HIG := Lib.hid hig
    have HP := Lib.hid hP
    clear hig
    by_cases hi : i < n
    · have el : decide ((i : Int) < (n : Int)) = true := by simp; omega
      have e0 : (i : Int) < (n : Int) := by omega
      have e1 : (0 : Int) ≤ (i : Int) := by omega
      obtain ⟨o, ho⟩ : ∃ o, l[i]? = some o := ⟨_, List.getElem?_eq_getElem (by rw [HKN.out]; exact hi)⟩
      have hkeep : Elems wr wr.heap.size 3 encOpW A n l := (Elems.keepAtW HL.out fun q hq hA => (by
        obtain ⟨y, hy, hyb⟩ : ∃ y, A = some y ∧ y.block = q.block := by
          cases A with
          | none => cases hA
          | some y => exact ⟨y, rfl, by injection hA⟩
        exact World.cell?_of_block (w := w) (hP.out.block q.block hq (by rw [← hyb]; exact HAZ.out y hy (by omega))))).more hP.out.size
      obtain ⟨b, off, rfl, hbl, x0, x1, x2⟩ := elems_op hkeep ho
      have hoi := HI.out o (List.mem_of_getElem? ho)
      have hst := opSum_step ho
      have hle := opSum_take l (i + 1)
      have HOA := Lib.hid ho
      obtain ⟨kd, nn, t⟩ := o
      dsimp only at x0 x1 x2 hoi hst
      obtain ⟨X, hX⟩ : ∃ X : ByteArray, (⟨t.toArray⟩ : ByteArray) = X := ⟨_, rfl⟩
      have hXv : txtV t = .string X := by rw [← hX]; rfl
      have hXl : X.data.toList = t := by rw [← hX]
      have hXs : t.length = X.size := by rw [← text_size3, ← hX]
      rw [hXv] at x2
      rw [hXs] at hst
      have HST := Lib.hid (⟨hst, hle, hoi, hXl⟩ : _ ∧ _ ∧ _ ∧ _)
      clear hX hXv hXs hst hle hXl hoi hkeep ho
      go_upto_region 9 with fail
      obtain ⟨U, hU⟩ : ∃ Q, wr.heap.size = Q := ⟨_, rfl⟩
      obtain ⟨w7, hw7⟩ : ∃ X', wr.alloc (.cells #[.int .i64 kd, .int .i64 nn, .string X] 179) = X' := ⟨_, rfl⟩
      have hb7 : Below wr.heap.size wr w7 := by rw [← hw7]; exact (Below.refl _ _).alloc (Nat.le_refl _) _
      have HU : Hid (Blk w7 U 179 #[.int .i64 kd, .int .i64 nn, .string X] ∧ Rr U = 0 ∧ U ≠ g) := Lib.hid ⟨by rw [← hw7, ← hU]; exact Blk.new wr _ _, hP.wl.wat.dk.new (by omega), by have := hP.wl.wat.lg.lt; omega⟩
      have HUW : Hid (∀ x, ao = some x → 0 < cap → x.block ≠ U) := Lib.hid fun x hx h0 => by have := (hP.kr.lt x hx h0).2; omega
      have HP7 := Lib.hid (HP.out.below HC.out hb7)
      have HNX : Hid (PlayI B0 a p size l R w (i + 1) m k d M Rr ao cap g w7) := Lib.hid (HP7.out.next HOA.out)
      rw [hw7, hU]
      clear hw7 hU x0 x1 x2 hb7 hP
      have m0 : w7.cell? ⟨U, 0, none⟩ = some (.int .i64 kd) := HU.out.1.cell 0
      have m1 : w7.cell? ⟨U, 1, none⟩ = some (.int .i64 nn) := HU.out.1.cell 1
      have m2 : w7.cell? ⟨U, 2, none⟩ = some (.string X) := HU.out.1.cell 2
      by_cases hk1 : kd = 1
      · subst hk1
        have HFT := Lib.hid (fit16_calls X (by have := HST.out.2.1; have := HST.out.1; have := HSUM.out; omega) w7)
        by_cases hfit : 0 < X.size ∧ X.size ≤ 65536
        · rw [decide_eq_true hfit] at HFT
          have HAP := Lib.hid (wl_append X hfit.1 (by omega) HSS.out.1 (by have := HSS.out.2; omega) (by decide) w7 HP7.out.wl (by have := HP7.out.mm; have := HST.out.1; have := HST.out.2.1; have := HSUM.out; omega) HC.out (by have := HP7.out.us; have := HST.out.1; have := HST.out.2.1; have := HSUM.out; omega) (by have := HP7.out.mn; omega))
          have HFI := Lib.hid hfit
          clear hfit
          go_wp2_with fail
          refine HFT.out.mono ?_
          rintro e w8 ⟨rfl, rfl⟩
          go_wp2_with fail
          refine HAP.out.mono ?_
          rintro e w9 ⟨rfl, R9, d9, hl9, hu9, hog9⟩
          obtain ⟨hkr9, hkz9, hout9⟩ := HP7.out.keep hog9
          have hU9 : Blk w9 U 179 #[.int .i64 1, .int .i64 nn, .string X] := hog9.blk HU.out.1 HU.out.2.1 HU.out.2.2
          have HSE := Lib.hid (fun w' (hb : Below w9.heap.size w9 w') => segment_calls w' (hl9.wat.lg.below hb))
          obtain ⟨q, hq⟩ : ∃ q, (m.app size X.data.toList).n = q := ⟨_, rfl⟩
          rw [hq] at HSE
          obtain ⟨qz, hqz⟩ : ∃ z : Int, (q : Int) = z := ⟨_, rfl⟩
          rw [hqz] at HSE
          have hb10 : Below w9.heap.size w9 (w9.drew.alloc (.cells #[.string X, .int .i64 qz] 87)) := ((Below.refl _ _).drew).alloc (Nat.le_refl _) _
          have hkr10 : KRow (w9.drew.alloc (.cells #[.string X, .int .i64 qz] 87)) w.heap.size 2 ao k.length cap (k.flatMap encEnt) := hkr9.keep hb10.size fun x hx h0 => hb10.block _ (hkr9.lt x hx h0).2
          have hkl : k.length ≤ 1048576 := by
            have h1 := HP7.out.kk
            have h2 : m.kept.length = m.texts.length := by rw [← WM.kept_texts, List.length_map]
            have h3 := segs_count m.segs
            obtain ⟨lw, iw, Cw, hrw⟩ := HP7.out.wl.rr
            have h4 := hrw.used2
            have h5 := HP7.out.us
            have h6 := HSUM.out
            have h7 := opSum_take l i
            rw [h1, h2]
            show (m.segs.flatMap (·.2)).length ≤ _
            omega
          obtain ⟨ao', cap', w11, hrun, hkr11, hgr11, hat11⟩ := run_append_krow (P := Tryz.prog) 84 84 87 i0 (.agg #[.string ⟨#[]⟩, .int .i64 0]) 24 Tryz.underlying84 hi0 hz0 hz1 hz2 rfl (by decide) hkr10 (by have := hout9.size; have := hb10.size; omega) ⟨w9.heap.size, 0, none⟩ 1 [.string X, .int .i64 qz] rfl (news_of_blk (l := [.string X, .int .i64 qz]) (Blk.new w9.drew _ _)) (by intro u hu; simp at hu; rcases hu with rfl | rfl <;> rfl) (by unfold maxLen; omega) (by omega)
          have HRUN := Lib.hid hrun
          have hent : k.flatMap encEnt ++ [.string X, .int .i64 qz] = (k ++ [(X.data.toList, q)]).flatMap encEnt := by
            rw [List.flatMap_append, ← hqz]
            rfl
          have HP11 : Hid (PlayI B0 a p size l R w (i + 1) (m.app size X.data.toList) (k ++ [(X.data.toList, q)]) d9 (M + X.size + 13) R9 ao' cap' g w11) := Lib.hid (by
            have hl10 := hl9.below HC.out hb10
            have hzz : ∀ x, ao = some x → 0 < cap → R9 x.block = 0 ∧ x.block ≠ g ∧ w.heap.size ≤ x.block := fun x hx h0 => ⟨(hkz9 x hx h0).1, (hkz9 x hx h0).2, (hkr9.lt x hx h0).1⟩
            have hu7 := HP7.out.us
            have hm7 := HP7.out.mm
            have hn7 := HP7.out.mn
            have hst := HST.out.1
            have hap := WM.app_n m size X.data.toList
            refine ⟨hl10.grown HC.out hgr11 hzz HB0.out, ?_, ?_, fun x hx h0 => ?_, by omega, by omega, by omega, (hout9.trans (Out.of_below hb10)).grown hgr11 (fun x hx h0 => (hzz x hx h0).2.2), HP7.out.gb⟩
            · rw [WM.kept_app, ← HP7.out.kk, hq]
            · rw [← hent, List.length_append]
              exact hkr11
            · rcases hat11 x hx with ⟨h1, h2⟩ | h2
              · cases ao with
                | none => cases h2
                | some y =>
                  injection h2 with h2
                  rw [← h2]
                  exact hkz9 y rfl h1
              · exact ⟨hl10.wat.dk.new h2, by have := hl10.wat.lg.lt; omega⟩)
          have hU11 : Blk w11 U 179 #[.int .i64 1, .int .i64 nn, .string X] := Blk.grown (hU9.below hb10 hU9.lt) hgr11 (fun e => by
            split at e
            · cases e
            · cases ao with
              | none => cases e
              | some x =>
                have e2 : U = x.block := Option.some.inj e
                exact HUW.out x rfl (by omega) e2.symm)
          have HU911 := Lib.hid (⟨hU9.cell 2, hU11.cell 2⟩ : _ ∧ _)
          have HKL : Hid ((k ++ [(X.data.toList, q)]).length = k.length + 1) := Lib.hid (by rw [List.length_append]; rfl)
          clear hl9 hu9 hog9 hkr9 hkz9 hout9 hU9 hU11 hrun hkr11 hgr11 hat11 hkr10 hb10 hent hq hqz m0 m1 m2
          go_upto_region 14 with fail
          have ma : w9.cell? ⟨U, 2, none⟩ = some (.string X) := HU911.out.1
          have mb : w11.cell? ⟨U, 2, none⟩ = some (.string X) := HU911.out.2
          have HSD := Lib.hid (HSE.out w9.drew ((Below.refl _ _).drew))
          go_region_held_law (fun w' => w'.cell? ⟨U, 2, none⟩ = some (.string X)) (first | exact ma | exact mb | go_keep)
            (first | (refine step_known rfl _ _ _ rfl _ _ _ rfl rfl HRUN.out ?_) | (go_at_call 35; refine HSD.out.mono ?_; rintro e w10 ⟨rfl, rfl⟩))
          clear ma mb
          go_wp2_with fail
          go_roundg (gk - 1)
          case measure => have := HIG.out; omega
          case rel => exact ⟨i + 1, _, _, d9, _, R9, ao', cap', g, by have := HIG.out; omega, by go_num, rfl, by rw [HKL.out], HP11.out⟩
        · rw [decide_eq_false hfit] at HFT
          clear hfit
          go_wp2_with fail
          refine HFT.out.mono ?_
          rintro e w8 ⟨rfl, rfl⟩
          go_wp2_with fail
          go_roundg (gk - 1)
          case measure => have := HIG.out; omega
          case rel => exact ⟨i + 1, m, k, d, M, Rr, ao, cap, g, by have := HIG.out; omega, by go_num, rfl, rfl, HNX.out⟩
      · have q1 : (kd == 1) = false := by simpa using hk1
        have q1' : decide (kd = 1) = false := decide_eq_false hk1
        by_cases hk2 : kd = 2
        · subst hk2
          have HRO := Lib.hid (wl_rotate (by decide) w7 HP7.out.wl (by have := HP7.out.mm; have := HST.out.1; have := HST.out.2.1; have := HSUM.out; omega) HC.out (by have := HP7.out.mn; omega))
          clear q1 q1' hk1
          go_wp2_with fail
          refine HRO.out.mono ?_
          rintro e w9 ⟨rfl, R9, d9, hl9, hu9, hog9⟩
          obtain ⟨hkr9, hkz9, hout9⟩ := HP7.out.keep hog9
          have HP9 : Hid (PlayI B0 a p size l R w (i + 1) m.rot k d9 (M + 2) R9 ao cap g w9) := Lib.hid (by
            have hu7 := HP7.out.us
            have hm7 := HP7.out.mm
            have hn7 := HP7.out.mn
            have hst := HST.out.1
            have hap := WM.rot_n m
            exact ⟨hl9, by rw [WM.kept_rot]; exact HP7.out.kk, hkr9, hkz9, by omega, by omega, by omega, hout9, HP7.out.gb⟩)
          have HSE := Lib.hid (segment_calls w9 hl9.wat.lg)
          obtain ⟨qz, hqz⟩ : ∃ z : Int, ((m.rot.n : Nat) : Int) = z := ⟨_, rfl⟩
          rw [hqz] at HSE ⊢
          have q3 : (qz == qz) = true := by simp
          have q4 : (qz != qz) = false := by simp
          clear hl9 hu9 hog9 hkr9 hkz9 hout9 hqz m0 m1 m2
          go_wp2_with fail
          refine HSE.out.mono ?_
          rintro e w10 ⟨rfl, rfl⟩
          go_wp2_with fail
          go_roundg (gk - 1)
          case measure => have := HIG.out; omega
          case rel => exact ⟨i + 1, _, k, d9, _, R9, ao, cap, g, by have := HIG.out; omega, by go_num, rfl, rfl, HP9.out⟩
        · have q2 : (kd == 2) = false := by simpa using hk2
          have q2' : decide (kd = 2) = false := decide_eq_false hk2
          by_cases hk3 : kd = 3
          · subst hk3
            have HDR := Lib.hid (wl_drop nn (by decide) w7 HP7.out.wl (by have := HP7.out.mm; have := HST.out.1; have := HST.out.2.1; have := HSUM.out; omega) HC.out)
            clear q1 q1' hk1 q2 q2' hk2
            go_wp2_with fail
            refine HDR.out.mono ?_
            rintro e w9 ⟨rfl, R9, d9, hl9, hu9, hog9⟩
            obtain ⟨hkr9, hkz9, hout9⟩ := HP7.out.keep hog9
            have HW9 := Lib.hid (⟨hl9, hu9, hout9⟩ : _ ∧ _ ∧ _)
            have HSEG := Lib.hid (fun w' (hb : Below w9.heap.size w9 w') => segment_calls w' (hl9.wat.lg.below hb))
            have hkd : (m.drop nn).kept = k.dropWhile (goK nn m.n) := by rw [HP7.out.wl.ok.kept_drop, ← HP7.out.kk]
            have HKD := Lib.hid hkd
            have HKR9 := Lib.hid (⟨hkr9, hkz9⟩ : _ ∧ _)
            have e5 : (((m.drop nn).n : Nat) : Int) = (m.n : Int) := rfl
            rw [e5] at HSEG
            obtain ⟨mz, hmz⟩ : ∃ z : Int, (m.n : Int) = z := ⟨_, rfl⟩
            have HMZ := Lib.hid hmz
            rw [hmz] at HSEG
            clear hl9 hu9 hog9 hkr9 hkz9 hout9 hkd e5 hmz m0 m1 m2
            go_wp2_with fail
            go_loopg [6] k.length (fun gh s6 wl => ∃ (k2 : List (Txt × Nat)) (ao2 : Option Addr) (cap2 : Nat), k2.length = gh ∧ s6 = .slice ao2 k2.length cap2 ∧ KRow wl w.heap.size 2 ao2 k2.length cap2 (k2.flatMap encEnt) ∧ (∀ x, ao2 = some x → 0 < cap2 → R9 x.block = 0 ∧ x.block ≠ g) ∧ k.dropWhile (goK nn m.n) = k2.dropWhile (goK nn m.n) ∧ Below w9.heap.size w9 wl)
            case atStart => exact ⟨k, ao, cap, rfl, rfl, HKR9.out.1, HKR9.out.2, rfl, Below.refl _ _⟩
            case round =>
              obtain ⟨k2, ao2, cap2, hgl, rfl, hkr2, hkz2, hdw, hb9⟩ := hrel
              have HB9 := Lib.hid hb9
              have HK2 := Lib.hid (⟨hkr2, hkz2, hdw⟩ : _ ∧ _ ∧ _)
              have HSG : Hid (∀ x : Later wr, Calls Tryz.prog 35 #[.pointer (some ⟨g, 0, none⟩)] x.w fun e w' => e = .returned (.int .i64 mz) ∧ x.w = w') := Lib.hid fun x => (HSEG.out x.w (then_ HB9.out x.h)).mono fun e w' h => h
              have HP9 : Hid (k.dropWhile (goK nn m.n) = k2 → ∀ w10, Below wr.heap.size wr w10 → PlayI B0 a p size l R w (i + 1) (m.drop nn) k2 d9 (M + (m.segs.length - (m.drop nn).segs.length) + 1) R9 ao2 cap2 g w10) := Lib.hid (by
                intro hk2 w10 hb
                have hu7 := HP7.out.us
                have hm7 := HP7.out.mm
                have hn7 := HP7.out.mn
                have hst := HST.out.1
                have hdn := WM.drop_n m nn
                have hu9 := HW9.out.2.1
                have hb' := hb
                replace hb := HB9.out.trans (hb.mono HB9.out.size)
                exact ⟨HW9.out.1.below HC.out hb, by rw [HKD.out, hk2], HK2.out.1.keep hb'.size (fun x hx h0 => hb'.block _ (HK2.out.1.lt x hx h0).2), HK2.out.2.1, by omega, by omega, by omega, HW9.out.2.2.trans (Out.of_below hb), HP7.out.gb⟩)
              obtain ⟨L, hL⟩ : ∃ L, k2.length = L := ⟨_, rfl⟩
              have HLL := Lib.hid hL
              have HGL := Lib.hid hgl
              rw [hL]
              clear hb9 hkr2 hkz2 hdw hL hgl
              cases k2 with
              | nil =>
                have HP9 := Lib.hid (HP9.out HK2.out.2.2)
                have e4 : decide ((0 : Int) < (L : Int)) = false := by rw [← HLL.out]; rfl
                have e4' : decide (0 < L) = false := by rw [← HLL.out]; rfl
                go_upto_region 24 with fail
                refine wp_region_later (by kernel_rfl) (by kernel_rfl) ?_
                repeat (go_big_quiet_step (first | (go_at_call 35; exact quiet_same _ (HSG.out _))))
                refine wpQuiet_nil ?_
                rintro w10 ⟨⟨w10, hb10⟩, rfl⟩
                have hb910 := hb10
                have HP10 := Lib.hid (HP9.out w10 hb910)
                clear hb10 hb910
                go_wp2_with fail
                go_roundg (n - (i + 1))
                case measure => have := HIG.out; omega
                case rel => exact ⟨i + 1, _, _, d9, _, R9, _, cap2, g, by have := HIG.out; omega, by go_num, rfl, by rw [← HLL.out], HP10.out⟩
              | cons en k3 =>
                obtain ⟨ep, es⟩ := en
                have hgo : goK nn m.n (ep, es) = (decide ((es : Int) < nn) && decide ((es : Int) < mz)) := by
                  rw [← HMZ.out]
                  unfold goK
                  congr 1
                  exact decide_eq_decide.2 (by show es < m.n ↔ _; omega)
                obtain ⟨b2, off2, hao2, hb2, hce⟩ := HK2.out.1.at_ (Nat.succ_pos _)
                have c1 : wr.cell? ⟨b2, off2 + 1, none⟩ = some (.int .i64 (es : Int)) := hce 1 _ (by simp [encEnt])
                have e5 : (0 : Int) < (L : Int) := by rw [← HLL.out, List.length_cons]; omega
                have e4 : decide ((0 : Int) < (L : Int)) = true := decide_eq_true e5
                have e5' : 0 < L := by omega
                have e4' : decide (0 < L) = true := decide_eq_true e5'
                subst hao2
                have HGO := Lib.hid hgo
                obtain ⟨ez, hez⟩ : ∃ z : Int, (es : Int) = z := ⟨_, rfl⟩
                rw [hez] at c1 HGO
                clear hez hgo hce
                have HX := Lib.hid HP9
                by_cases hs1 : ez < nn
                · have s1 : decide (ez < nn) = true := decide_eq_true hs1
                  by_cases hs2 : ez < mz
                  · have s2 : decide (ez < mz) = true := decide_eq_true hs2
                    rw [s1, s2] at HGO
                    clear hs1 hs2
                    have HT : Hid (∀ w10, Below wr.heap.size wr w10 → KRow w10 w.heap.size 2 (if cap2 = 1 then some ⟨b2, off2, none⟩ else some ⟨b2, off2 + 2, none⟩) k3.length (cap2 - 1) (k3.flatMap encEnt)) := Lib.hid fun w10 hb => by
                      have h1 := HK2.out.1.lt _ rfl
                      have h2 := HK2.out.1.tail
                      have h3 := h2.keep (w' := w10) hb.size fun x hx h0 => hb.block _ (h2.lt x hx h0).2
                      exact h3
                    have HDW := Lib.hid HK2.out.2.2
                    by_cases hc1 : cap2 = 1
                    · subst hc1
                      go_wp2_with fail
                      refine wp_region_later (by kernel_rfl) (by kernel_rfl) ?_
                      repeat (go_big_quiet_step (first | (go_at_call 35; exact quiet_same _ (HSG.out _))))
                      refine wpQuiet_nil ?_
                      rintro w10 ⟨⟨w10, hb10⟩, rfl⟩
                      have hkr := HT.out w10 hb10
                      have HBB := Lib.hid (⟨HB9.out.trans (hb10.mono HB9.out.size), HT.out w10 hb10⟩ : _ ∧ _)
                      clear c1 hkr hb10
                      go_wp2_with fail
                      go_roundg (gk - 1)
                      case measure => have := HGL.out; have := HLL.out; omega
                      case rel =>
                        refine ⟨k3, _, 0, by have := HGL.out; simp only [List.length_cons] at this; omega, by rw [← HLL.out]; rfl, HBB.out.2, fun x hx h0 => ?_, ?_, HBB.out.1⟩
                        · exact absurd h0 (Nat.lt_irrefl _)
                        · rw [HDW.out, List.dropWhile_cons_of_pos (by rw [HGO.out]; rfl)]
                    · have hc2 : (cap2 = 1) = False := eq_false hc1
                      rw [if_neg hc1] at HT
                      go_wp2_with fail
                      refine wp_region_later (by kernel_rfl) (by kernel_rfl) ?_
                      repeat (go_big_quiet_step (first | (go_at_call 35; exact quiet_same _ (HSG.out _))))
                      refine wpQuiet_nil ?_
                      rintro w10 ⟨⟨w10, hb10⟩, rfl⟩
                      have hkr := HT.out w10 hb10
                      have HBB := Lib.hid (⟨HB9.out.trans (hb10.mono HB9.out.size), HT.out w10 hb10⟩ : _ ∧ _)
                      clear c1 hkr hb10
                      go_wp2_with fail
                      go_roundg (gk - 1)
                      case measure => have := HGL.out; have := HLL.out; omega
                      case rel =>
                        refine ⟨k3, _, cap2 - 1, by have := HGL.out; simp only [List.length_cons] at this; omega, by rw [← HLL.out]; rfl, HBB.out.2, fun x hx h0 => ?_, ?_, HBB.out.1⟩
                        · obtain rfl := Option.some.inj hx
                          exact HK2.out.2.1 ⟨b2, off2, none⟩ rfl (by omega)
                        · rw [HDW.out, List.dropWhile_cons_of_pos (by rw [HGO.out]; rfl)]
                  · have s2 : decide (ez < mz) = false := decide_eq_false hs2
                    rw [s1, s2] at HGO
                    have HP9 := Lib.hid (HP9.out (by rw [HK2.out.2.2, List.dropWhile_cons_of_neg (by rw [HGO.out]; decide)]))
                    clear hs1 hs2
                    go_upto_region 24 with fail
                    refine wp_region_later (by kernel_rfl) (by kernel_rfl) ?_
                    repeat (go_big_quiet_step (first | (go_at_call 35; exact quiet_same _ (HSG.out _))))
                    refine wpQuiet_nil ?_
                    rintro w10 ⟨⟨w10, hb10⟩, rfl⟩
                    have hb910 := hb10
                    have HP10 := Lib.hid (HP9.out w10 hb910)
                    clear hb10 hb910
                    go_wp2_with fail
                    go_roundg (n - (i + 1))
                    case measure => have := HIG.out; omega
                    case rel => exact ⟨i + 1, _, _, d9, _, R9, _, cap2, g, by have := HIG.out; omega, by go_num, rfl, by rw [← HLL.out], HP10.out⟩
                · have s1 : decide (ez < nn) = false := decide_eq_false hs1
                  rw [s1, Bool.false_and] at HGO
                  have HP9 := Lib.hid (HP9.out (by rw [HK2.out.2.2, List.dropWhile_cons_of_neg (by rw [HGO.out]; decide)]))
                  clear hs1
                  go_upto_region 24 with fail
                  refine wp_region_later (by kernel_rfl) (by kernel_rfl) ?_
                  repeat (go_big_quiet_step (first | (go_at_call 35; exact quiet_same _ (HSG.out _))))
                  refine wpQuiet_nil ?_
                  rintro w10 ⟨⟨w10, hb10⟩, rfl⟩
                  have hb910 := hb10
                  have HP10 := Lib.hid (HP9.out w10 hb910)
                  clear hb10 hb910
                  go_wp2_with fail
                  go_roundg (n - (i + 1))
                  case measure => have := HIG.out; omega
                  case rel => exact ⟨i + 1, _, _, d9, _, R9, _, cap2, g, by have := HIG.out; omega, by go_num, rfl, by rw [← HLL.out], HP10.out⟩
          · have q3 : (kd == 3) = false := by simpa using hk3
            have q3' : decide (kd = 3) = false := decide_eq_false hk3
            by_cases hk4 : kd = 4
            · subst hk4
              have HWL := Lib.hid HP7.out.wl
              have HON := Lib.hid (wl_open g (by decide) HSS.out.1 w7 HWL.out.wat.dk HWL.out.ok HWL.out.rr HWL.out.cap HWL.out.us HWL.out.kb (by have := HP7.out.mm; have := HST.out.1; have := HST.out.2.1; have := HSUM.out; omega) HC.out HWL.out.wat.en HWL.out.wat.f6)
              unfold wW at HON
              clear q1 q1' hk1 q2 q2' hk2 q3 q3' hk3
              go_wp2_with fail
              refine HON.out.mono ?_
              rintro e w9 ⟨g9, X9, c9, R9, rfl, hx9, hg9, hxf9, hl9, ho9⟩
              have htl : m.texts.length = k.length := by rw [HP7.out.kk, ← WM.kept_texts, List.length_map]
              have htx : m.texts = k.map (·.1) := by rw [HP7.out.kk, ← WM.kept_texts]
              have hkm : k.length ≤ 1073741824 := by
                rw [← htl]
                have h3 := segs_count m.segs
                obtain ⟨lw, iw, Cw, hrw⟩ := HWL.out.rr
                have h4 := hrw.used2
                have h5 := HWL.out.us
                show (m.segs.flatMap (·.2)).length ≤ _
                omega
              rw [htl] at hx9 ⊢
              have hkr9 : KRow w9 w.heap.size 2 ao k.length cap (k.flatMap encEnt) := HP7.out.kr.keep ho9.size fun x hx h0 => ho9.block _ (HP7.out.kr.lt x hx h0).2 (HP7.out.kz x hx h0).1
              have HLG : Hid (LogAt w9 g p wW size ((m.n : Nat) : Int) ((framesT m.ps).length : Nat)) := Lib.hid (ho9.blk HWL.out.wat.lg HWL.out.wat.r0)
              have HTX : Hid (∀ x : Later w9, Calls Tryz.prog 38 #[.slice X9 k.length c9, .slice ao k.length cap] x.w fun e w' => e = .returned (.bool true) ∧ Below x.w.heap.size x.w w') := Lib.hid fun x =>
                texts16_calls X9 ao k.length c9 cap m.texts k x.w (hx9.below x.h) ((hkr9.keep x.h.size fun y hy h0 => x.h.block _ (hkr9.lt y hy h0).2).elems rfl) htx hkm
              have HP9 : Hid (PlayI B0 a p size l R w (i + 1) m k d (M + 4) R9 ao cap g9 w9) := Lib.hid (by
                have hu7 := HP7.out.us
                have hm7 := HP7.out.mm
                have hn7 := HP7.out.mn
                have hst := HST.out.1
                have hsz := HP7.out.out.size
                exact ⟨hl9, HP7.out.kk, hkr9, fun x hx h0 => ⟨ho9.old _ (HP7.out.kr.lt x hx h0).2 (HP7.out.kz x hx h0).1, by have := (HP7.out.kr.lt x hx h0).2; omega⟩, by omega, by omega, by omega, HP7.out.out.trans ho9, by omega⟩)
              obtain ⟨mz, hmz⟩ : ∃ z : Int, ((m.n : Nat) : Int) = z := ⟨_, rfl⟩
              have HSA : Hid (∀ x : Later w9, Calls Tryz.prog 35 #[.pointer (some ⟨g9, 0, none⟩)] x.w fun e w' => e = .returned (.int .i64 mz) ∧ x.w = w') := Lib.hid fun x => by
                rw [← hmz]
                exact segment_calls x.w (hl9.wat.lg.below x.h)
              have HSB : Hid (∀ x : Later w9, Calls Tryz.prog 35 #[.pointer (some ⟨g, 0, none⟩)] x.w fun e w' => e = .returned (.int .i64 mz) ∧ x.w = w') := Lib.hid fun x => by
                rw [← hmz]
                exact segment_calls x.w (HLG.out.below x.h)
              have HTX0 := Lib.hid (HTX.out ⟨w9, Below.refl _ _⟩)
              clear hl9 hx9 hxf9 hg9 ho9 hkr9 htl htx hkm hmz m0 m1 m2
              have q5 : (mz == mz) = true := by simp
              have q6 : (mz != mz) = false := by simp
              go_wp2_with fail
              refine HTX0.out.mono ?_
              rintro e w10 ⟨rfl, hb10⟩
              have HB10 := Lib.hid hb10
              clear hb10
              have HSA0 := Lib.hid (HSA.out ⟨w10, HB10.out⟩)
              have HSB0 := Lib.hid (HSB.out ⟨w10, HB10.out⟩)
              go_wp2_with fail
              refine HSA0.out.mono ?_
              rintro e w11 ⟨rfl, rfl⟩
              go_wp2_with fail
              refine HSB0.out.mono ?_
              rintro e w11 ⟨rfl, rfl⟩
              have HP10 := Lib.hid (HP9.out.below HC.out HB10.out)
              go_wp2_with fail
              go_roundg (gk - 1)
              case measure => have := HIG.out; omega
              case rel => exact ⟨i + 1, m, k, d, _, R9, ao, cap, g9, by have := HIG.out; omega, by go_num, rfl, rfl, HP10.out⟩
            · have q4 : (kd == 4) = false := by simpa using hk4
              have q4' : decide (kd = 4) = false := decide_eq_false hk4
              clear hk1 hk2 hk3 hk4
              go_wp2_with fail
              go_roundg (gk - 1)
              case measure => have := HIG.out; omega
              case rel => exact ⟨i + 1, m, k, d, M, Rr, ao, cap, g, by have := HIG.out; omega, by go_num, rfl, rfl, HNX.out⟩
    · have el : decide ((i : Int) < (n : Int)) = false := by simp; omega
      have hi3 : i = n := by have := HIG.out; omega
      subst hi3
      go_wp2_with fail
      go_ret3
      exact ⟨ao, cap, k, m, d, M, Rr, g, rfl, HP.out⟩
end
end Go.Proofs.YtfpgbhimgfdddaaGreatDoor
