/- The walks of layer 16 (wal): Drop. -/
import Derived.Test.YtfpgbhimgfdddaaGreatDoorWalWalksJ
set_option linter.unusedVariables false
set_option linter.unusedSimpArgs false
namespace Go.Proofs.YtfpgbhimgfdddaaGreatDoor
open Go.RowKit Go.Shelf Go.Sort
attribute [local go_sem ↓] Go.wp_at_zero Go.wp_at_succ
attribute [local go_sem] Later.cell Later.frozen

/-- The segments of these numbers below a number (and below the last) removed. -/
def dropL (D : Txt) (before last : Int) : List Nat → Ds → Ds
  | [], d => d
  | n :: l, d => dropL D before last l (if (n : Int) < before ∧ (n : Int) < last then (removeD d (wP D (n : Int))).2 else d)
theorem dropL_snoc (D : Txt) (before last : Int) (n : Nat) : ∀ (l : List Nat) (d : Ds), dropL D before last (l ++ [n]) d = if (n : Int) < before ∧ (n : Int) < last then (removeD (dropL D before last l d) (wP D (n : Int))).2 else dropL D before last l d
  | [], d => rfl
  | x :: l, d => by rw [List.cons_append, dropL, dropL_snoc D before last n l, dropL]
section
variable {B0 M p g : Nat} {a : Nat → Addr} {R R' R'' : Nat → Nat} {d : Ds} {w w' w'' : World} {D : ByteArray} {size last used : Int}
set_option maxRecDepth 100000 in
set_option maxHeartbeats 8000000 in
theorem drop_calls (before : Int) (hDs : D.size ≤ 1000) (hDn : nameB D.data.toList = true) (w : World) (hA : WAt B0 a M p g R D size last used d w) (ns : List Nat) (hM : M + ns.length + 2 ≤ 536870912) (hC : SCon B0 a)
    (le : List En) (hl : listD d D.data.toList = (le, 0)) (hns : entSegs le ns) (hr : ∀ n ∈ ns, 1 ≤ n ∧ n ≤ 99999999) (hz : ns.length ≤ 99999999)
    (hok : ∀ (i n : Nat), ns[i]? = some n → (n : Int) < before → (n : Int) < last → (removeD (dropL D.data.toList before last (ns.take i) d) (wP D.data.toList (n : Int))).1 = 0)
    (hsn : (syncNamesD (dropL D.data.toList before last ns d)).1 = 0) :
    Calls Tryz.prog 43 #[.pointer (some ⟨g, 0, none⟩), .int .i64 before] w fun e w' => e = .returned .nilIface ∧ ∃ R', WAt B0 a (M + ns.length + 1) p g R' D size last used (syncNamesD (dropL D.data.toList before last ns d)).2 w' ∧ OutG g R R' w w' := by
  have HSEG := Lib.hid (segments_calls (D := D) hDs hDn w hA (by omega) hC le ns hl hns hr hz)
  have HA := Lib.hid hA
  have HC := Lib.hid hC
  have HP := Lib.hid hr
  have HOK := Lib.hid hok
  have HSN := Lib.hid hsn
  have HZ := Lib.hid (⟨hz, hDs, hM⟩ : _ ∧ _ ∧ _)
  obtain ⟨dd, hdd⟩ : ∃ x, dropL D.data.toList before last = x := ⟨_, rfl⟩
  have HDD := Lib.hid hdd
  rw [hdd] at HOK HSN ⊢
  clear hA hC hl hns hr hok hsn hDn hz hDs hM hdd
  go_enter Tryz.func43, Tryz.ntmps43
  go_wp2_with fail
  refine HSEG.out.mono ?_
  rintro e w2 ⟨X, c, rfl, hx2, hxf, hb2⟩
  obtain ⟨n, hn⟩ : ∃ n, ns.length = n := ⟨_, rfl⟩
  rw [hn] at hx2 ⊢
  have hnz : n ≤ 99999999 := by have := HZ.out.1; omega
  have HN := Lib.hid hn
  have HX2 := Lib.hid hx2
  have HB2 := Lib.hid hb2
  have HA2 := Lib.hid (HA.out.below HC.out hb2)
  have HXR : Hid (∀ x, X = some x → R x.block = 0 ∧ x.block ≠ g) := Lib.hid fun x hx => ⟨HA.out.dk.new (hxf x hx), by have := hxf x hx; have := HA.out.lg.lt; omega⟩
  clear hx2 hxf hb2 hn
  go_wp2_with fail
  go_loopg [23] n (fun gh s23 wr => ∃ (i : Nat) (Rr : Nat → Nat), i + gh = n ∧ s23 = .int .i64 (i : Int) ∧ WAt B0 a (M + i) p g Rr D size last used (dd (ns.take i) d) wr ∧ OutG g R Rr w2 wr)
  case atStart =>
    refine ⟨0, R, by omega, rfl, ?_, OutG.refl _ _ _⟩
    have e0 : dd (ns.take 0) d = d := by rw [← HDD.out]; rfl
    rw [e0]
    exact HA2.out
  case round =>
    obtain ⟨i, Rr, hig, rfl, hAr, hog⟩ := hrel
    have HIG := Lib.hid hig
    have HAR := Lib.hid hAr
    have HOG := Lib.hid hog
    clear hig hog
    by_cases hi : i < n
    · have el : decide ((i : Int) < (n : Int)) = true := by simp; omega
      have e0 : (i : Int) < (n : Int) := by omega
      have e1 : (0 : Int) ≤ (i : Int) := by omega
      have hil : i < ns.length := by rw [HN.out]; exact hi
      obtain ⟨y, hy⟩ : ∃ y, ns[i]? = some y := ⟨_, List.getElem?_eq_getElem hil⟩
      have hyr := HP.out y (List.mem_of_getElem? hy)
      obtain ⟨b, off, rfl, hbl, x0⟩ := (HX2.out.outg HOG.out HXR.out).at_ hy
      unfold natI at x0
      have htk : ns.take (i + 1) = ns.take i ++ [y] := by rw [List.take_add_one, hy]; rfl
      have hstep : dd (ns.take (i + 1)) d = if (y : Int) < before ∧ (y : Int) < last then (removeD (dd (ns.take i) d) (wP D.data.toList (y : Int))).2 else dd (ns.take i) d := by
        rw [htk, ← HDD.out, dropL_snoc]
      have HST := Lib.hid hstep
      have HY := Lib.hid (⟨hy, hyr⟩ : _ ∧ _)
      obtain ⟨yz, hyz⟩ : ∃ z : Int, (y : Int) = z := ⟨_, rfl⟩
      have HYZ := Lib.hid hyz
      rw [hyz] at x0
      have c3 := hAr.lg.c3
      clear hAr hy hyr htk hstep hyz hil
      by_cases hgo : yz < before ∧ yz < last
      · have d1 : decide (yz < before) = true := decide_eq_true hgo.1
        have d2 : decide (yz < last) = true := decide_eq_true hgo.2
        obtain ⟨P, hP⟩ := wP_bytes D (y : Int)
        have HPA := Lib.hid (HAR.out.path HC.out (y : Int) (by have := HY.out.2; omega) (by have := HY.out.2; omega) HZ.out.2.1 P hP)
        rw [HYZ.out] at HPA
        have HPS := Lib.hid (wP_size hP HZ.out.2.1)
        have HRM : Hid ((removeD (dd (ns.take i) d) P.data.toList).1 = 0) := Lib.hid (by rw [hP]; exact HOK.out i y HY.out.1 (by rw [HYZ.out]; exact hgo.1) (by rw [HYZ.out]; exact hgo.2))
        have HST2 : Hid (dd (ns.take (i + 1)) d = (removeD (dd (ns.take i) d) P.data.toList).2) := Lib.hid (by rw [HST.out, HYZ.out, if_pos hgo, hP, HYZ.out])
        have c0 := HAR.out.lg.c0
        have hgl := HAR.out.lg.lt
        clear hP hgo
        go_upto_region 10 with fail
        refine wp_region_later_tail 7 (by kernel_rfl) (by kernel_rfl) ?_
        simp only [List.take_succ_cons, List.take_zero, List.drop_succ_cons, List.drop_zero]
        repeat (go_big_quiet_step ((go_at_call 90; exact quiet_later _ (HPA.out _))))
        refine wpQuiet_nil ?_
        rintro w4 ⟨⟨w4, hb4⟩, rfl⟩
        have HA4 := Lib.hid (HAR.out.below HC.out hb4)
        have HOG4 := Lib.hid (HOG.out.then_ hb4)
        have HRMC := Lib.hid (HA4.out.dk.remove (by have := HZ.out.2.2; have := HN.out; omega) HA4.out.en.hb HA4.out.en.e.f P HPS.out)
        clear hb4 c0 c3 hgl x0
        go_wp2_with fail
        refine HRMC.out.mono ?_
        rintro e w5 ⟨v5, R5, rfl, hv5, hd5, ho5⟩
        rw [HRM.out] at hv5
        obtain rfl := hv5.z
        have HA5 := Lib.hid (HA4.out.out HC.out hd5 ho5)
        have HOG5 := Lib.hid (HOG4.out.trans (OutG.of ho5))
        clear hv5 hd5 ho5
        go_wp2_with fail
        go_roundg (gk - 1)
        case measure => have := HIG.out; omega
        case rel =>
          refine ⟨i + 1, R5, by have := HIG.out; omega, by go_num, ?_, HOG5.out⟩
          rw [HST2.out]
          exact HA5.out
      · have HST2 : Hid (dd (ns.take (i + 1)) d = dd (ns.take i) d) := Lib.hid (by rw [HST.out, HYZ.out, if_neg hgo])
        by_cases h1 : yz < before
        · have d1 : decide (yz < before) = true := decide_eq_true h1
          have d2 : decide (yz < last) = false := decide_eq_false (fun h => hgo ⟨h1, h⟩)
          go_wp2_with fail
          go_roundg (gk - 1)
          case measure => have := HIG.out; omega
          case rel =>
            refine ⟨i + 1, Rr, by have := HIG.out; omega, by go_num, ?_, HOG.out⟩
            rw [HST2.out]
            exact HAR.out.more (by omega)
        · have d1 : decide (yz < before) = false := decide_eq_false h1
          go_wp2_with fail
          go_roundg (gk - 1)
          case measure => have := HIG.out; omega
          case rel =>
            refine ⟨i + 1, Rr, by have := HIG.out; omega, by go_num, ?_, HOG.out⟩
            rw [HST2.out]
            exact HAR.out.more (by omega)
    · have el : decide ((i : Int) < (n : Int)) = false := by simp; omega
      have hi3 : i = n := by have := HIG.out; omega
      subst hi3
      have htk : ns.take i = ns := List.take_of_length_le (by rw [HN.out]; exact Nat.le_refl _)
      rw [htk] at HAR
      have c0 := HAR.out.lg.c0
      have HSY := Lib.hid (HAR.out.dk.syncNames (by have := HZ.out.2.2; have := HN.out; omega) HAR.out.en.hb HAR.out.en.e.f)
      clear hAr htk
      go_wp2_with fail
      refine HSY.out.mono ?_
      rintro e w5 ⟨v5, R5, rfl, hv5, hd5, ho5⟩
      rw [HSN.out] at hv5
      obtain rfl := hv5.z
      have HA5 := Lib.hid (HAR.out.out HC.out hd5 ho5)
      have HOG5 := Lib.hid (HOG.out.trans (OutG.of ho5))
      clear hv5 hd5 ho5 c0
      go_wp2_with fail
      go_ret
      refine ⟨rfl, R5, ?_, (OutG.of (Out.of_below HB2.out)).trans HOG5.out⟩
      rw [HN.out]
      exact HA5.out
end
end Go.Proofs.YtfpgbhimgfdddaaGreatDoor
