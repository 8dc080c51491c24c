/- Layer 3's laws: DiskSafe. -/
import Derived.Test.YtdaidbnbfjgjeaaGreatDoorDskOne
set_option linter.unusedVariables false
set_option linter.unusedSimpArgs false
namespace Go.Proofs.YtdaidbnbfjgjeaaGreatDoor
open Go.RowKit Go.Shelf Go.Maps Go.Sort
attribute [local go_sem ↓] Go.wp_at_zero Go.wp_at_succ
attribute [local go_sem] Later.cell Later.frozen

theorem flat_takeN {l : List Txt} {i : Nat} (hi : i < l.length) : (l.take (i + 1)).flatten.length = (l.take i).flatten.length + l[i]!.length := by rw [flat_take hi, List.length_append]
theorem flat_le (l : List Txt) (i : Nat) : (l.take i).flatten.length ≤ l.flatten.length := by
  have h := congrArg (fun x : List Txt => x.flatten.length) (List.take_append_drop i l)
  simp only [List.flatten_append, List.length_append] at h
  omega
theorem kept_step {l : List Txt} {i u : Nat} {d : Ds} (h : KeptF (l.take i) u d) (hi : i < l.length) (h26 : i < 26) (hu : u + l[i]!.length ≤ 67108864) :
    ∃ d1 d2 d3, createD d (pthX i) = (0, d1) ∧ appendD d1 (pthX i) l[i]! = (0, d2) ∧ syncD d2 (pthX i) = (0, d3) ∧ KeptF (l.take (i + 1)) (u + l[i]!.length) d3 := by
  have hlen : (l.take i).length = i := by simp; omega
  obtain ⟨d1, d2, d3, h1, h2, h3, h4⟩ := h.more (by omega) l[i]! hu
  rw [hlen] at h1 h2 h3
  have e : l.take (i + 1) = l.take i ++ [l[i]!] := by rw [List.take_add_one, List.getElem?_eq_getElem hi, getElem!_pos l i hi]; rfl
  exact ⟨d1, d2, d3, h1, h2, h3, by rw [e]; exact h4⟩
/-- The path of the file with this letter. -/
def pthS (b : UInt8) : ByteArray := ⟨#[120, 47, b]⟩
theorem letter {i : Nat} (hi : i < 26) : ∃ b : UInt8, (b.toNat : Int) = 97 + (i : Int) ∧ (pthS b).data.toList = pthX i := ⟨UInt8.ofNat (97 + i), by rw [pthX_byte hi]; omega, rfl⟩
theorem pthS_eq (b : UInt8) : (⟨#[120, 47]⟩ : ByteArray) ++ ⟨#[b]⟩ = pthS b := rfl
section
variable {a : Nat → Addr} {W : World}
/-- Behind SyncNames. -/
structure Through (W w : World) (p K : Nat) (T : List Txt) (d : Ds) : Prop where
  one : One K W w p d
  kept : ∃ u, u ≤ K ∧ KeptF T u d
  safe : d.safe = thX T.length
  steps : d.steps = []
theorem Through.more {w : World} {p K K' : Nat} {T : List Txt} {d : Ds} (h : Through W w p K T d) (hK : K ≤ K') : Through W w p K' T d := by
  obtain ⟨u, h1, h2⟩ := h.kept
  exact ⟨h.one.more hK, ⟨u, Nat.le_trans h1 hK, h2⟩, h.safe, h.steps⟩
set_option maxRecDepth 100000 in
set_option maxHeartbeats 16000000 in
theorem safe_calls (A1 : Option Addr) (n1 c1 : Nat) (l1 : List Txt) (A2 : Option Addr) (n2 c2 : Nat) (l2 : List Txt) (A3 : Option Addr) (n3 c3 : Nat) (data : List Int) (W : World) (hF : Fails W.heap.size a W)
    (h1 : Strs W A1 n1 l1) (hA1 : A1 = none → c1 = 0) (h2 : Strs W A2 n2 l2) (hA2 : A2 = none → c2 = 0) (h3 : Ints3 W A3 n3 data) (hA3 : A3 = none → c3 = 0) (hdr : ∀ x ∈ data, -9223372036854775808 ≤ x ∧ x ≤ 9223372036854775807)
    (hL : l1.flatten.length + l1.length + (l2.flatten.length + l2.length) + data.length ≤ 1048576) :
    Calls Tryz.prog 3 #[.slice A1 n1 c1, .slice A2 n2 c2, .slice A3 n3 c3] W fun e w' => e = .returned (.bool true) ∧ Below W.heap.size W w' := by
  have hl1 := h1.len
  have hl2 := h2.len
  have hl3 : data.length = n3 := Elems.len h3
  have hn1 : n1 ≤ 1048576 := by omega
  have hn2 : n2 ≤ 1048576 := by omega
  have hn3 : n3 ≤ 1048576 := by omega
  have H1 := Lib.hid h1
  have H2 := Lib.hid h2
  have H3 := Lib.hid h3
  have HA := Lib.hid (⟨hA1, hA2, hA3⟩ : (A1 = none → c1 = 0) ∧ (A2 = none → c2 = 0) ∧ (A3 = none → c3 = 0))
  have HN := Lib.hid (⟨hl1, hl2, hl3⟩ : l1.length = n1 ∧ l2.length = n2 ∧ data.length = n3)
  have HL := Lib.hid hL
  have HDR := Lib.hid hdr
  have HF := Lib.hid hF
  clear h1 h2 h3 hA1 hA2 hA3 hl1 hl2 hl3 hL hdr hF
  go_enter Tryz.func3, Tryz.ntmps3
  go_wp2_with fail
  refine (wakes_calls (B0 := W.heap.size) (a := a) W (Nat.le_refl _) HF.out).mono ?_
  rintro e w1 ⟨rfl, hb1⟩
  have HB1 := Lib.hid hb1
  clear hb1
  go_wp2_with fail
  refine (one_new 67108864 (by decide) (by decide) w1 HB1.out).mono ?_
  rintro e w2 ⟨p, rfl, hone⟩
  have HONE := Lib.hid hone
  clear hone
  obtain ⟨v, wa, X, cX, w3, r1, r2, hsX, hb3⟩ := run_texts2 A1 n1 c1 l1 A2 n2 c2 l2 w2 (H1.out.below HONE.out.below) (H2.out.below HONE.out.below) HA.out.1 HA.out.2.1 (by omega)
  have HX := Lib.hid hsX
  have HB3 := Lib.hid hb3
  have HR1 := Lib.hid r1
  have HR2 := Lib.hid r2
  clear hsX hb3 r1 r2
  go_upto_block 0 with (at_builtin; first | refine wpList_append_known rfl _ _ 22 rfl rfl rfl HR1.out ?_ | refine wpList_append_known rfl _ _ 22 rfl rfl rfl HR2.out ?_)
  clear HR1 HR2
  go_cut [] (fun wz => Below w2.heap.size w2 wz)
  case first =>
    go_wp2_with fail
    go_loopg [8, 29] (n1 + n2) (fun g s8 s29 wr => ∃ i s : Nat, i + g = n1 + n2 ∧ s29 = .int .i64 (i : Int) ∧ s8 = .int .i64 (s : Int) ∧ ((l1 ++ l2).take i).flatten.length = s ∧ Below w3.heap.size w3 wr)
    case atStart => exact ⟨0, 0, by omega, rfl, rfl, by simp, Below.refl _ _⟩
    case round =>
      obtain ⟨i, s, hig, rfl, rfl, hs, hb⟩ := hrel
      have HIG := Lib.hid hig
      clear hig
      have hfl : (l1 ++ l2).flatten.length ≤ 1048576 := by rw [List.flatten_append, List.length_append]; have := HL.out; omega
      have hll : (l1 ++ l2).length = n1 + n2 := by rw [List.length_append, HN.out.1, HN.out.2.1]
      by_cases hi : i < n1 + n2
      · have el : decide ((i : Int) < ((n1 + n2 : Nat) : Int)) = true := by simp; omega
        have el' : decide (i < n1 + n2) = true := by simp; omega
        have hiin : (i : Int) < ((n1 + n2 : Nat) : Int) := by omega
        obtain ⟨b, off, hXe, hbl, x0⟩ := HX.out.at_ hi
        subst hXe
        have hft := flat_takeN (l := l1 ++ l2) (i := i) (by omega)
        have hfn := flat_le (l1 ++ l2) (i + 1)
        obtain ⟨T, hT⟩ : ∃ T : ByteArray, (⟨(l1 ++ l2)[i]!.toArray⟩ : ByteArray) = T := ⟨_, rfl⟩
        have hTs : (l1 ++ l2)[i]!.length = T.size := by rw [← hT]; simp [ByteArray.size]
        unfold txtV at x0
        rw [hT] at x0
        rw [hTs] at hft
        have x0 := (hb.cell (p := ⟨b, off + i, none⟩) hbl).trans x0
        rw [hs] at hft
        have hle : s + T.size ≤ 1048576 := by omega
        have hgt : decide ((1048576 : Int) < (s : Int) + (T.size : Int)) = false := by simp; omega
        have HFT := Lib.hid hft
        have HB := Lib.hid hb
        clear hft hfn hT hTs hs hfl hll hb
        go_wp2_with fail
        go_roundg (gk - 1)
        case measure => have := HIG.out; omega
        case rel => exact ⟨i + 1, s + T.size, by have := HIG.out; omega, by go_num, by go_num, HFT.out, HB.out⟩
      · have el : decide ((i : Int) < ((n1 + n2 : Nat) : Int)) = false := by simp; omega
        have el' : decide (i < n1 + n2) = false := by simp; omega
        have HB := Lib.hid (then_ HB3.out hb)
        clear hb hfl hll
        go_wp2_with fail
        go_meet
        exact HB.out
  case rest =>
    obtain ⟨w4, rfl⟩ : ∃ x, x = wc := ⟨_, rfl⟩
    have hone4 := HONE.out.later hcut
    clear hcut HX HB3
    obtain ⟨e0, l0, f0⟩ := mkdir_lay 67108864 rfl
    have k0 : KeptF (l1.take 0) 0 (mkdirD (newD 67108864) [120]).2 := ⟨l0, by simp, by intro j t h; simp at h, by rw [f0]; rfl⟩
    obtain ⟨d0, hd0⟩ : ∃ x, (mkdirD (newD 67108864) [120]).2 = x := ⟨_, rfl⟩
    rw [hd0] at k0
    have e1 : mkdirD (newD 67108864) [120] = (0, d0) := by rw [← hd0, e0]
    have HMK := Lib.hid (hone4.mkdir HF.out (by decide) ⟨#[120]⟩ (by decide) e1)
    have HK0 := Lib.hid k0
    clear hone4 e0 l0 f0 k0 hd0 e1
    go_wp2_with fail
    refine HMK.out.mono ?_
    clear HMK
    rintro e w5 ⟨rfl, hone5⟩
    have HONE5 := Lib.hid hone5
    clear hone5
    obtain ⟨n, hn⟩ : ∃ n, min n1 26 = n := ⟨_, rfl⟩
    have hnn : min (n1 : Int) 26 = (n : Int) := by omega
    have hn26 : n ≤ 26 := by omega
    have hnn1 : n ≤ n1 := by omega
    have HM := Lib.hid (⟨hn, hn26, hnn1⟩ : min n1 26 = n ∧ n ≤ 26 ∧ n ≤ n1)
    go_upto_block 2 with fail
    go_cut [] (fun wz => ∃ d, One (1 + 3 * n + (l1.take n).flatten.length) W wz p d ∧ KeptF (l1.take n) (l1.take n).flatten.length d)
    case first =>
      go_wp2_with fail
      go_loopg [51] n (fun g s51 wr => ∃ i : Nat, i + g = n ∧ s51 = .int .i64 (i : Int) ∧ ∃ d, One (1 + 3 * i + (l1.take i).flatten.length) W wr p d ∧ KeptF (l1.take i) (l1.take i).flatten.length d)
      case atStart => exact ⟨0, by omega, rfl, d0, HONE5.out, by simpa using HK0.out⟩
      case round =>
        obtain ⟨i, hig, rfl, d, hone, hkept⟩ := hrel
        have HIG := Lib.hid hig
        clear hig
        by_cases hi : i < n
        · have el : decide ((i : Int) < (n : Int)) = true := by simp; omega
          have el' : decide (i < n) = true := by simp; omega
          have hiin : (i : Int) < (n : Int) := by omega
          obtain ⟨b, off, hXe, hbl, x0⟩ := H1.out.at_ (i := i) (by omega)
          subst hXe
          have HBL := Lib.hid (fun (w' : World) (hb : Below W.heap.size W w') => (hb.cell (p := ⟨b, off + i, none⟩) hbl).trans x0)
          have x0 := (hone.below.cell (p := ⟨b, off + i, none⟩) hbl).trans x0
          have hil : i < l1.length := by rw [HN.out.1]; omega
          have hft := flat_takeN (l := l1) hil
          have hfn := flat_le l1 (i + 1)
          have hLL := HL.out
          have h26 : i < 26 := by omega
          obtain ⟨d1, d2, d3, e1, e2, e3, hk3⟩ := kept_step hkept hil h26 (by omega)
          obtain ⟨T, hT⟩ : ∃ T : ByteArray, (⟨l1[i]!.toArray⟩ : ByteArray) = T := ⟨_, rfl⟩
          have hTs : l1[i]!.length = T.size := by rw [← hT]; simp [ByteArray.size]
          have hTl : T.data.toList = l1[i]! := by rw [← hT]
          unfold txtV at x0 HBL
          rw [hT] at x0 HBL
          obtain ⟨b8, hb8, hp8⟩ := letter h26
          obtain ⟨S, hS⟩ : ∃ S, pthS b8 = S := ⟨_, rfl⟩
          have hcat : (⟨#[120, 47]⟩ : ByteArray) ++ ⟨#[b8]⟩ = S := hS
          rw [hS] at hp8
          rw [← hp8] at e1 e2 e3
          have hSz : S.size ≤ 1073741824 := by rw [← hS]; exact (by decide : 3 ≤ 1073741824)
          have hmod : (97 + (i : Int)) % 256 = (b8.toNat : Int) := by omega
          have hbr : b < wr.heap.size := lt_of_cell x0
          have HONE6 := Lib.hid hone
          have HE := Lib.hid (⟨e1, e2, e3, hk3⟩ : createD d S.data.toList = (0, d1) ∧ appendD d1 S.data.toList l1[i]! = (0, d2) ∧ syncD d2 S.data.toList = (0, d3) ∧ _)
          have HT := Lib.hid (⟨hTs, hTl, hSz⟩ : l1[i]!.length = T.size ∧ T.data.toList = l1[i]! ∧ S.size ≤ 1073741824)
          have HFT := Lib.hid (⟨hft, by omega⟩ : (l1.take (i + 1)).flatten.length = (l1.take i).flatten.length + l1[i]!.length ∧ (l1.take (i + 1)).flatten.length ≤ 1048576)
          clear hone hkept hk3 e1 e2 e3 hT hTs hTl hSz hp8 hft hfn hLL hS
          go_upto_region 18 with fail
          have hcv := one_byte b8 wr.heap.size (wr.alloc (.cells #[.int .u8 (97 + (i : Int))] 5)) (by rw [hb8]; simp [go_sem])
          go_upto_region 19 with fail
          have hb6 : Below wr.heap.size wr (wr.alloc (.cells #[.int .u8 (97 + (i : Int))] 5)) := (Below.refl _ _).alloc (Nat.le_refl _) _
          obtain ⟨w6, hw6⟩ : ∃ x, wr.alloc (.cells #[.int .u8 (97 + (i : Int))] 5) = x := ⟨_, rfl⟩
          rw [hw6] at hb6 ⊢
          have hone6 := HONE6.out.later hb6
          have x0 : w6.cell? ⟨b, off + i, none⟩ = some (.string T) := (hb6.cell (p := ⟨b, off + i, none⟩) hbr).trans x0
          have HCR := Lib.hid (hone6.create HF.out (by have := HFT.out; omega) S HT.out.2.2 HE.out.1)
          have HX0 := Lib.hid x0
          have HBR := Lib.hid hbr
          have HB6 := Lib.hid hb6
          clear hw6 hcv hone6 hb6 x0
          go_wp2_with fail
          refine HCR.out.mono ?_
          rintro e w7 ⟨rfl, hone7⟩
          have x0 : w7.cell? ⟨b, off + i, none⟩ = some (.string T) := (HBL.out w7 hone7.below)
          obtain ⟨w8, hw8⟩ : ∃ x, w7.alloc (.cells #[.string T] 9) = x := ⟨_, rfl⟩
          have hb8 : Below w7.heap.size w7 w8 := by rw [← hw8]; exact (Below.refl _ _).alloc (Nat.le_refl _) _
          have hk8 : Blk w8 w7.heap.size 9 #[.string T] := by rw [← hw8]; exact Blk.new _ _ _
          have hs8 : Strs w8 (some ⟨w7.heap.size, 0, none⟩) 1 [T.data.toList] := strs_of (by unfold txtV; exact hk8)
          have HAP := Lib.hid ((hone7.later hb8).append HF.out (by have := HFT.out; omega) S HT.out.2.2 _ T.data.toList hs8 (by have := HT.out; have := HFT.out; rw [HT.out.2.1]; omega) (by rw [HT.out.2.1]; exact HE.out.2.1))
          have HW8 := Lib.hid hw8
          clear hone7 hw8 hb8 hk8 hs8
          go_wp2_with fail
          rw [HW8.out]
          refine HAP.out.mono ?_
          rintro e w9 ⟨rfl, hone9⟩
          have HSY := Lib.hid (hone9.sync HF.out (by have := HFT.out; have := HT.out; rw [HT.out.2.1]; omega) S HT.out.2.2 HE.out.2.2.1)
          clear hone9 x0
          go_wp2_with fail
          refine HSY.out.mono ?_
          rintro e w10 ⟨rfl, hone10⟩
          have HO := Lib.hid hone10
          clear hone10
          go_wp2_with fail
          go_roundg (gk - 1)
          case measure => have := HIG.out; omega
          case rel => exact ⟨i + 1, by have := HIG.out; omega, by go_num, d3, HO.out.more (by have := HFT.out; have := HT.out; rw [HT.out.2.1]; omega), by rw [HFT.out.1]; exact HE.out.2.2.2⟩
        · have el : decide ((i : Int) < (n : Int)) = false := by simp; omega
          have el' : decide (i < n) = false := by simp; omega
          have hin : i = n := by have := HIG.out; omega
          subst hin
          have HFIN := Lib.hid (⟨d, hone, hkept⟩ : ∃ d, One (1 + 3 * i + (l1.take i).flatten.length) W wr p d ∧ KeptF (l1.take i) (l1.take i).flatten.length d)
          clear hone hkept
          go_wp2_with fail
          go_meet
          exact HFIN.out
    case rest =>
      obtain ⟨d1, hone, hkept⟩ := hcut
      obtain ⟨w5, rfl⟩ : ∃ x, x = wc := ⟨_, rfl⟩
      have hTn : (l1.take n).length = n := by rw [List.length_take, HN.out.1]; omega
      have hfn := flat_le l1 n
      have hLL := HL.out
      obtain ⟨d2, e1, hk2, hs2, h02⟩ := hkept.syncNames
      obtain ⟨K, hK⟩ : ∃ K, 1 + 3 * n + (l1.take n).flatten.length + 1 = K := ⟨_, rfl⟩
      have hKb : K ≤ 1048576 + 100 - l2.flatten.length - l2.length := by omega
      have HSN := Lib.hid (hone.syncNames HF.out (by omega) e1)
      rw [hK] at HSN
      have HK2 := Lib.hid (⟨hk2, hs2, h02, hTn, by omega⟩ : KeptF (l1.take n) (l1.take n).flatten.length d2 ∧ d2.safe = thX (l1.take n).length ∧ d2.steps = [] ∧ (l1.take n).length = n ∧ (l1.take n).flatten.length ≤ K)
      have HKB := Lib.hid (by omega : K + l2.flatten.length + l2.length ≤ 1048676)
      clear hone hkept hk2 hs2 h02 hTn hfn hLL hK hKb e1
      go_wp2_with fail
      refine HSN.out.mono ?_
      clear HSN
      rintro e w6 ⟨rfl, hone6⟩
      have HO6 := Lib.hid hone6
      clear hone6
      go_upto_block 4 with fail
      go_cut [] (fun wz => ∃ d, Through W wz p (K + l2.flatten.length + l2.length) (l1.take n) d)
      case first =>
        go_wp2_with fail
        go_loopg [87] n2 (fun g s87 wr => ∃ i : Nat, i + g = n2 ∧ s87 = .int .i64 (i : Int) ∧ ∃ d, Through W wr p (K + (l2.take i).flatten.length + i) (l1.take n) d)
        case atStart => exact ⟨0, by omega, rfl, d2, by simpa using HO6.out, ⟨_, by have := HK2.out.2.2.2.2; omega, HK2.out.1⟩, HK2.out.2.1, HK2.out.2.2.1⟩
        case round =>
          obtain ⟨i, hig, rfl, d, hthr⟩ := hrel
          have HIG := Lib.hid hig
          clear hig
          by_cases hi : i < n2
          · have el : decide ((i : Int) < (n2 : Int)) = true := by simp; omega
            have el' : decide (i < n2) = true := by simp; omega
            have hiin : (i : Int) < (n2 : Int) := by omega
            obtain ⟨b, off, hXe, hbl, x0⟩ := H2.out.at_ (i := i) (by omega)
            subst hXe
            have x0 := (hthr.one.below.cell (p := ⟨b, off + i, none⟩) hbl).trans x0
            have hil : i < l2.length := by rw [HN.out.2.1]; omega
            have hft := flat_takeN (l := l2) hil
            have hfn := flat_le l2 (i + 1)
            have hbr : b < wr.heap.size := lt_of_cell x0
            obtain ⟨T, hT⟩ : ∃ T : ByteArray, (⟨l2[i]!.toArray⟩ : ByteArray) = T := ⟨_, rfl⟩
            have hTs : l2[i]!.length = T.size := by rw [← hT]; simp [ByteArray.size]
            have hTl : T.data.toList = l2[i]! := by rw [← hT]
            unfold txtV at x0
            rw [hT] at x0
            have HT := Lib.hid (⟨hTs, hTl⟩ : l2[i]!.length = T.size ∧ T.data.toList = l2[i]!)
            have HFT := Lib.hid (⟨hft, hfn⟩ : (l2.take (i + 1)).flatten.length = (l2.take i).flatten.length + l2[i]!.length ∧ (l2.take (i + 1)).flatten.length ≤ l2.flatten.length)
            have HTHR := Lib.hid hthr
            clear hthr hft hfn hT hTs hTl
            by_cases h0 : 0 < n
            · have g0 : decide ((0 : Int) < (n : Int)) = true := by simp; omega
              have g0' : (0 : Int) < (n : Int) := by omega
              obtain ⟨r, hr⟩ : ∃ r, i % n = r := ⟨_, rfl⟩
              have hrn : r < n := by rw [← hr]; exact Nat.mod_lt _ h0
              have hrm : (i : Int).tmod (n : Int) = (r : Int) := by rw [← hr]; rfl
              obtain ⟨b8, hb8, hp8⟩ := letter (i := r) (by omega)
              obtain ⟨S, hS⟩ : ∃ S, pthS b8 = S := ⟨_, rfl⟩
              have hcat : (⟨#[120, 47]⟩ : ByteArray) ++ ⟨#[b8]⟩ = S := hS
              rw [hS] at hp8
              have hSz : S.size ≤ 1073741824 := by rw [← hS]; exact (by decide : 3 ≤ 1073741824)
              have hmod : (97 + (r : Int)) % 256 = (b8.toNat : Int) := by omega
              obtain ⟨u, hu, hkp⟩ := HTHR.out.kept
              obtain ⟨d', e1, k1, k2, k3⟩ := hkp.append (i := r) (by rw [HK2.out.2.2.2.1]; exact hrn) T.data.toList (by have := HFT.out; have := HT.out; have := HKB.out; rw [HT.out.2]; omega)
              rw [← hp8] at e1
              have hcv := one_byte b8 wr.heap.size (wr.alloc (.cells #[.int .u8 (97 + (r : Int))] 5)) (by rw [hb8]; simp [go_sem])
              obtain ⟨w8, hw8⟩ : ∃ x, (wr.alloc (.cells #[.int .u8 (97 + (r : Int))] 5)).alloc (.cells #[.string T] 9) = x := ⟨_, rfl⟩
              have hb8' : Below wr.heap.size wr w8 := by rw [← hw8]; exact ((Below.refl _ _).alloc (Nat.le_refl _) _).alloc (by simp) _
              have hk8 : Blk w8 (wr.heap.size + 1) 9 #[.string T] := by rw [← hw8]; exact Blk.newAt (by simp)
              have hs8 : Strs w8 (some ⟨wr.heap.size + 1, 0, none⟩) 1 [T.data.toList] := strs_of (by unfold txtV; exact hk8)
              have HAP := Lib.hid ((HTHR.out.one.later hb8').append HF.out (by have := HFT.out; have := HKB.out; omega) S hSz _ T.data.toList hs8 (by have := HT.out; have := HFT.out; have := HKB.out; rw [HT.out.2]; omega) e1)
              have HW8 := Lib.hid hw8
              have HKE := Lib.hid (⟨⟨u, hu, k1⟩, k2, k3⟩ : (∃ u, u ≤ K + (l2.take i).flatten.length + i ∧ KeptF (l1.take n) (u + T.data.toList.length) d') ∧ d'.safe = d.safe ∧ d'.steps = d.steps)
              clear hw8 hb8' hk8 hs8 hkp e1 k1 k2 k3 hS hp8
              go_wp2_with fail
              rw [HW8.out]
              refine HAP.out.mono ?_
              rintro e w9 ⟨rfl, hone9⟩
              have hthr9 : Through W w9 p (K + (l2.take (i + 1)).flatten.length + (i + 1)) (l1.take n) d' := by
                obtain ⟨⟨u, hu, k1⟩, k2, k3⟩ := HKE.out
                have hq := HFT.out
                have hq2 := HT.out.2
                exact ⟨hone9.more (by rw [hq2]; omega), ⟨_, by rw [hq2]; omega, k1⟩, by rw [k2]; exact HTHR.out.safe, by rw [k3]; exact HTHR.out.steps⟩
              have HT9 := Lib.hid hthr9
              clear hthr9 hone9 x0 hcv
              go_wp2_with fail
              go_roundg (gk - 1)
              case measure => have := HIG.out; omega
              case rel => exact ⟨i + 1, by have := HIG.out; omega, by go_num, d', HT9.out⟩
            · have g0 : decide ((0 : Int) < (n : Int)) = false := by simp; omega
              have g0' : ¬ (0 : Int) < (n : Int) := by omega
              go_wp2_with fail
              go_roundg (gk - 1)
              case measure => have := HIG.out; omega
              case rel => exact ⟨i + 1, by have := HIG.out; omega, by go_num, d, HTHR.out.more (by have := HFT.out; omega)⟩
          · have el : decide ((i : Int) < (n2 : Int)) = false := by simp; omega
            have el' : decide (i < n2) = false := by simp; omega
            have HFIN := Lib.hid (⟨d, hthr.more (by have := flat_le l2 i; have := HN.out.2.1; have := HIG.out; omega)⟩ : ∃ d, Through W wr p (K + l2.flatten.length + l2.length) (l1.take n) d)
            clear hthr
            go_wp2_with fail
            go_meet
            exact HFIN.out
      case rest =>
        obtain ⟨d, hthr⟩ := hcut
        obtain ⟨w7, rfl⟩ : ∃ x, x = wc := ⟨_, rfl⟩
        have hI7 : Ints3 w7 A3 n3 data := (Elems.below H3.out hthr.one.below).more hthr.one.below.size
        obtain ⟨A', c', w8, r8, hi8, hb8, hA8⟩ := run_ints A3 n3 c3 data w7 hI7 HA.out.2.2 (by omega)
        have hM : K + l2.flatten.length + l2.length ≤ 536870912 := by have := HKB.out; omega
        have HRS := Lib.hid (fun z : Bool => (hthr.one.restart hM 0 (by decide) (by decide) hb8 A' n3 c' data z hi8 hA8 HDR.out (by omega)).mono fun e w' h => (⟨z, h⟩ : ∃ z, e = .returned (.tuple #[]) ∧ One _ W w' p (restartD d 0 data z)))
        have HR8 := Lib.hid r8
        have HTHR := Lib.hid hthr
        have HM2 := Lib.hid hM
        clear hthr hI7 r8 hi8 hb8 hA8 hM
        go_wp2_with (at_builtin; refine wpList_append_known rfl _ _ 23 rfl rfl rfl HR8.out ?_)
        refine (HRS.out _).mono ?_
        rintro e w9 ⟨z, rfl, hone9⟩
        obtain ⟨d9, hd9⟩ : ∃ d9, restartD d 0 data z = d9 := ⟨_, rfl⟩
        rw [hd9] at hone9
        obtain ⟨u, hu, hkp⟩ := HTHR.out.kept
        obtain ⟨q1, ⟨el9, q2, q2l⟩, q3⟩ := hkp.restart HTHR.out.safe HTHR.out.steps data z
        rw [hd9] at q1 q2 q3
        have HO9 := Lib.hid hone9
        have HQ1 := Lib.hid q1
        have HQ2 := Lib.hid (⟨q2, q2l.trans HK2.out.2.2.2.1, q3⟩ : listD d9 [120] = (el9, 0) ∧ el9.length = n ∧ d9.off = false)
        clear hone9 q1 q2 q2l q3 hkp hd9 HRS HR8
        go_upto_block 6 with fail
        go_cut [] (fun wz => Below w9.heap.size w9 wz)
        case first =>
          go_wp2_with fail
          go_loopg [119] n (fun g s119 wr => ∃ i : Nat, i + g = n ∧ s119 = .int .i64 (i : Int) ∧ Below w9.heap.size w9 wr)
          case atStart => exact ⟨0, by omega, rfl, Below.refl _ _⟩
          case round =>
            obtain ⟨i, hig, rfl, hb⟩ := hrel
            have HIG := Lib.hid hig
            clear hig
            by_cases hi : i < n
            · have el : decide ((i : Int) < (n : Int)) = true := by simp; omega
              have el' : decide (i < n) = true := by simp; omega
              have hiin : (i : Int) < (n : Int) := by omega
              have hone := HO9.out.later hb
              obtain ⟨b, off, hXe, hbl, x0⟩ := H1.out.at_ (i := i) (by omega)
              subst hXe
              have hil : i < l1.length := by rw [HN.out.1]; omega
              obtain ⟨x, hx1, hx2⟩ := HQ1.out i l1[i]! (by rw [List.getElem?_take_of_lt hi, List.getElem?_eq_getElem hil, getElem!_pos l1 i hil])
              obtain ⟨T, hT⟩ : ∃ T : ByteArray, (⟨l1[i]!.toArray⟩ : ByteArray) = T := ⟨_, rfl⟩
              have hTl : T.data.toList = l1[i]! := by rw [← hT]
              have HBL := Lib.hid (fun (w' : World) (hb : Below W.heap.size W w') => (hb.cell (p := ⟨b, off + i, none⟩) hbl).trans x0)
              unfold txtV at HBL
              rw [hT] at HBL
              obtain ⟨X2, hX2⟩ : ∃ X : ByteArray, (⟨x.toArray⟩ : ByteArray) = X := ⟨_, rfl⟩
              have hXl : X2.data.toList = x := by rw [← hX2]
              rw [← hTl, ← hXl] at hx2
              have hle : T.size ≤ X2.size := by have := hx2.length_le; rw [text_size3, text_size3] at this; exact this
              have hext : X2.extract 0 T.size = T := by
                refine bytes_eq ?_
                have := take_bytes X2 T.size
                rw [this, ← text_size3]
                exact (List.prefix_iff_eq_take.1 hx2).symm
              have hlt : decide ((X2.size : Int) < (T.size : Int)) = false := by simp; omega
              have hlt' : decide (X2.size < T.size) = false := by simp; omega
              obtain ⟨q4, q5⟩ := eq_facts T
              obtain ⟨b8, hb8, hp8⟩ := letter (i := i) (by omega)
              obtain ⟨S, hS⟩ : ∃ S, pthS b8 = S := ⟨_, rfl⟩
              have hcat : (⟨#[120, 47]⟩ : ByteArray) ++ ⟨#[b8]⟩ = S := hS
              rw [hS] at hp8
              have hSz : S.size ≤ 1073741824 := by rw [← hS]; exact (by decide : 3 ≤ 1073741824)
              have hmod : (97 + (i : Int)) % 256 = (b8.toNat : Int) := by omega
              rw [← hp8] at hx1
              have hb8' : Below wr.heap.size wr (wr.alloc (.cells #[.int .u8 (97 + (i : Int))] 5)) := (Below.refl _ _).alloc (Nat.le_refl _) _
              have hcv := one_byte b8 wr.heap.size (wr.alloc (.cells #[.int .u8 (97 + (i : Int))] 5)) (by rw [hb8]; simp [go_sem])
              obtain ⟨w8, hw8⟩ : ∃ x, wr.alloc (.cells #[.int .u8 (97 + (i : Int))] 5) = x := ⟨_, rfl⟩
              have HAL := Lib.hid ((hone.later hb8').all HF.out (by have := HM2.out; have := HKB.out; omega) S hSz hx1)
              rw [hw8] at HAL hb8'
              unfold txtV at HAL
              rw [hX2] at HAL
              have HW8 := Lib.hid hw8
              have HB8 := Lib.hid (then_ hb hb8')
              have HON := Lib.hid hone.below
              clear hone hx1 hx2 hT hTl hX2 hXl hw8 hS hp8 hb8' x0 hb
              go_wp2_with fail
              rw [HW8.out]
              refine HAL.out.mono ?_
              rintro e w10 ⟨rfl, hb10⟩
              have hb11 := then_ HB8.out hb10
              have x0 := HBL.out w10 (HO9.out.below.trans (hb11.mono HO9.out.below.size))
              have hbr : b < w10.heap.size := lt_of_cell x0
              have HB11 := Lib.hid hb11
              clear hb10 hb11 hcv
              go_upto_region 35 with fail
              refine wp_region_later (by kernel_rfl) (by kernel_rfl) ?_
              repeat (go_big_quiet_step (fail))
              refine wpQuiet_nil ?_
              rintro w12 ⟨⟨_, hb12⟩, rfl⟩
              have HB12 := Lib.hid (then_ HB11.out hb12)
              clear hb12
              go_wp2_with fail
              go_roundg (gk - 1)
              case measure => have := HIG.out; omega
              case rel => exact ⟨i + 1, by have := HIG.out; omega, by go_num, HB12.out⟩
            · have el : decide ((i : Int) < (n : Int)) = false := by simp; omega
              have el' : decide (i < n) = false := by simp; omega
              have HB := Lib.hid hb
              clear hb
              go_wp2_with fail
              go_meet
              exact HB.out
        case rest =>
          have hone := HO9.out.later hcut
          obtain ⟨w10, rfl⟩ : ∃ x, x = wc := ⟨_, rfl⟩
          have HLS := Lib.hid (hone.list HF.out (by have := HM2.out; have := HKB.out; omega) ⟨#[120]⟩ (by decide) (by decide) HQ2.out.1)
          rw [HQ2.out.2.1] at HLS
          have HOF := Lib.hid (fun (w' : World) (hb : Below w10.heap.size w10 w') => (hone.later hb).off HQ2.out.2.2)
          have HB := Lib.hid hone.below
          clear hone hcut
          go_wp2_with fail
          refine HLS.out.mono ?_
          rintro e w11 ⟨X4, c4, rfl, hb11⟩
          go_wp2_with fail
          refine (HOF.out w11 hb11).mono ?_
          rintro e w12 ⟨rfl, rfl⟩
          have HB12 := Lib.hid (HB.out.trans (hb11.mono HB.out.size))
          clear hb11
          go_wp2_with fail
          go_ret
          exact ⟨rfl, HB12.out⟩
end
end Go.Proofs.YtdaidbnbfjgjeaaGreatDoor
