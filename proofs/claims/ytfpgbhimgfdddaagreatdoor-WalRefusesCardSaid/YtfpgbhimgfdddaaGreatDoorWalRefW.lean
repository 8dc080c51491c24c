/- The walk of the law WalRefuses (layer 16): numbers out of their ranges, a nil disk, a nil log; names of segments. -/
import Derived.Test.YtfpgbhimgfdddaaGreatDoorWalLawA
import Derived.Lib.IfaceNeq
import Derived.Lib.IfaceEq
set_option linter.unusedVariables false
set_option linter.unusedSimpArgs false
namespace Go.Proofs.YtfpgbhimgfdddaaGreatDoor
open Go.RowKit Go.Shelf Go.Sort
attribute [local go_sem ↓] Go.wp_at_zero Go.wp_at_succ
attribute [local go_sem] Later.cell Later.frozen

theorem pad_frontW : ∀ k n, padN (k + 1) n = UInt8.ofNat (48 + n / 10 ^ k % 10) :: padN k n
  | 0, n => by simp [padN]
  | k + 1, n => by
    have e : n / 10 / 10 ^ k = n / 10 ^ (k + 1) := by rw [Nat.div_div_eq_div_mul, Nat.pow_succ, Nat.mul_comm]
    rw [padN, pad_frontW k (n / 10), e, List.cons_append]
    rfl
theorem pad_at : ∀ (k j n : Nat), j < k → (padN k n)[j]? = some (UInt8.ofNat (48 + n / 10 ^ (k - 1 - j) % 10))
  | 0, j, n, h => by omega
  | k + 1, 0, n, h => by rw [pad_frontW]; simp
  | k + 1, j + 1, n, h => by
    rw [pad_frontW, List.getElem?_cons_succ, pad_at k j n (by omega)]
    congr 6
    omega
section
variable {B0 : Nat} {a : Nat → Addr}
theorem rframe_nil (w : World) :
    Calls Tryz.prog 44 #[.string ⟨#[]⟩] w fun e w' => e = .returned (.tuple #[.string ⟨#[]⟩, .int .i64 21]) ∧ Below w.heap.size w w' := by
  go_enter Tryz.func44, Tryz.ntmps44
  go_wp2_with fail
  go_ret2
  exact ⟨rfl, Below.refl _ _⟩
set_option maxRecDepth 100000 in
set_option maxHeartbeats 8000000 in
theorem walrefuses_calls (from_ size n : Int) (hf1 : -9223372036854775808 ≤ from_) (hf2 : from_ ≤ 9223372036854775807) (hs1 : -9223372036854775808 ≤ size) (hs2 : size ≤ 9223372036854775807) (hn1 : -9223372036854775808 ≤ n) (hn2 : n ≤ 9223372036854775807) (w : World) (hC : SCon B0 a) (hE : SEnv B0 a w) (h6 : Fail6 B0 a w) :
    Calls Tryz.prog 9 #[.int .i64 from_, .int .i64 size, .int .i64 n] w fun e w' => e = .returned (.bool true) ∧ Below w.heap.size w w' := by
  have HC := Lib.hid hC
  have HE := Lib.hid hE
  have H6 := Lib.hid h6
  have HR := Lib.hid (⟨⟨hf1, hf2⟩, ⟨hs1, hs2⟩, hn1, hn2⟩ : (_ ∧ _) ∧ (_ ∧ _) ∧ _ ∧ _)
  have HRO := Lib.hid (rotate_nil (w := w))
  have hne := fun (q : Int) w => Lib.run_neq_iface_int (P := Tryz.prog) w (t := 32) (tx := 26) (k := .i64) (q := .i64) q q Tryz.underlying32 (by kernel_rfl) Tryz.underlying26
  have hei := fun (q : Int) w => Lib.run_eql_iface_int (P := Tryz.prog) w (t := 32) (tx := 26) (k := .i64) (q := .i64) q q Tryz.underlying32 (by kernel_rfl) Tryz.underlying26
  simp only [beq_self_eq_true, Bool.not_true] at hei hne
  have HWK : Hid (∀ w', Below w.heap.size w w' → Calls Tryz.prog 31 #[] w' fun e w2 => e = .returned (.bool true) ∧ Below w'.heap.size w' w2) := Lib.hid fun w' h => wakes16_calls w' HC.out (HE.out.low HC.out h) (H6.out.below (h.mono HE.out.hb))
  clear hC hE h6 hf1 hf2 hs1 hs2 hn1 hn2
  go_enter Tryz.func9, Tryz.ntmps9
  go_wp2_with fail
  refine HRO.out.mono ?_
  rintro e w1 ⟨rfl, hb1⟩
  have HB1 := Lib.hid hb1
  have HWK1 := Lib.hid (HWK.out w1 hb1)
  clear hb1
  go_wp2_with fail
  refine HWK1.out.mono ?_
  rintro e w2 ⟨rfl, hb2⟩
  have HB2 := Lib.hid (HB1.out.trans (hb2.mono HB1.out.size))
  clear hb2
  go_wp2_with fail
  refine (wappend_nil ⟨#[97]⟩ w2).mono ?_
  rintro e w3 ⟨rfl, hb3⟩
  have HB3 := Lib.hid (HB2.out.trans (hb3.mono HB2.out.size))
  clear hb3
  go_wp2_with fail
  refine (drop_nil 1 w3).mono ?_
  rintro e w4 ⟨rfl, hb4⟩
  have HB4 := Lib.hid (HB3.out.trans (hb4.mono HB3.out.size))
  clear hb4
  go_wp2_with fail
  refine (segment_nil w4).mono ?_
  rintro e w5 ⟨rfl, rfl⟩
  go_wp2_with fail
  refine (open_nil ⟨#[119]⟩ 1 1 w4).mono ?_
  rintro e w6 ⟨rfl, hb6⟩
  have HB6 := Lib.hid (HB4.out.trans (hb6.mono HB4.out.size))
  have HE6 := Lib.hid (HE.out.low HC.out HB6.out)
  clear hb6
  go_wp2_with fail
  refine (Dk.made (B0 := B0) 1000 (by decide) (by decide) w6 HE6.out.hb).mono ?_
  rintro e w7 ⟨p, R, rfl, hd7, hb7, hz7⟩
  have HB7 := Lib.hid (HB6.out.trans (hb7.mono HB6.out.size))
  have HE7 := Lib.hid (HE.out.low HC.out HB7.out)
  have HD7 := Lib.hid hd7
  have HZ7 : Hid (∀ k, k < w.heap.size → R k = 0) := Lib.hid fun k hk => hz7 k (by have := HB6.out.size; omega)
  clear hd7 hb7 hz7
  by_cases hbad : from_ < 1 ∨ 99999999 < from_ ∨ size < 1
  · have HOL := Lib.hid (open_limits ⟨#[119]⟩ from_ size hbad p w7)
    go_wp2_with fail
    refine HOL.out.mono ?_
    rintro e w8 ⟨rfl, hb8⟩
    have HB8 := Lib.hid (HB7.out.trans (hb8.mono HB7.out.size))
    have HUS := Lib.hid ((HD7.out.below hb8).used (by decide))
    have hu0 : usedD (newD 1000) = 0 := rfl
    rw [hu0] at HUS
    clear hb8 hu0
    go_upto_region 10 with fail
    go_cut [85] (fun s85 wz => s85 = .bool true ∧ wz = w8)
    case first =>
      by_cases h1 : from_ < 1
      · have d1 : decide (from_ < 1) = true := decide_eq_true h1
        go_wp2_with fail
        go_meet
        exact ⟨rfl, rfl⟩
      · have d1 : decide (from_ < 1) = false := decide_eq_false h1
        by_cases h2 : 99999999 < from_
        · have d2 : decide (99999999 < from_) = true := decide_eq_true h2
          go_wp2_with fail
          go_meet
          exact ⟨rfl, rfl⟩
        · have d2 : decide (99999999 < from_) = false := decide_eq_false h2
          have d3 : decide (size < 1) = true := decide_eq_true (by omega)
          go_wp2_with fail
          go_meet
          exact ⟨rfl, rfl⟩
    case rest =>
      obtain ⟨rfl, rfl⟩ := hcut
      obtain ⟨w8, rfl⟩ : ∃ x, x = wc := ⟨_, rfl⟩
      go_wp2_with fail
      refine HUS.out.mono ?_
      rintro e w9 ⟨rfl, hb9⟩
      have HB9 := Lib.hid (HB8.out.trans (hb9.mono HB8.out.size))
      clear hb9
      go_wp2_with fail
      go_ret
      exact ⟨rfl, HB9.out⟩
  · have d1 : decide (from_ < 1) = false := decide_eq_false (by omega)
    have d2 : decide (99999999 < from_) = false := decide_eq_false (by omega)
    have d3 : decide (size < 1) = false := decide_eq_false (by omega)
    obtain ⟨f, hf⟩ : ∃ f : Nat, from_ = (f : Int) := ⟨from_.toNat, by omega⟩
    have HOP := Lib.hid (wl_new (D := wW) (size := size) (by decide) (by decide) f (by omega) (by omega) (by omega) 1000 w7 HD7.out (by decide) HC.out HE7.out (H6.out.below (HB7.out.mono HE.out.hb)))
    unfold wW at HOP
    rw [← hf] at HOP
    have HF := Lib.hid hf
    clear hf hbad
    go_wp2_with fail
    refine HOP.out.mono ?_
    rintro e w8 ⟨g, R8, d8, rfl, hg8, hl8, hu8, ho8⟩
    have HB8 := Lib.hid (HB7.out.trans (ho8.below HB7.out.size HZ7.out))
    have HSE := Lib.hid (segment_calls w8 hl8.wat.lg)
    have hsf : (((⟨[], f, []⟩ : WM).n : Nat) : Int) = from_ := HF.out.symm
    rw [hsf] at HSE
    have HE8 := Lib.hid hl8.wat.en
    clear hg8 hl8 hu8 ho8 hsf
    go_wp2_with fail
    refine HSE.out.mono ?_
    rintro e w9 ⟨rfl, rfl⟩
    have hff : (from_ == from_) = true := by simp
    go_wp2_with fail
    refine (wappend_form (g := g) w8).mono ?_
    rintro e w10 ⟨rfl, hb10⟩
    have HB10 := Lib.hid (HB8.out.trans (hb10.mono HB8.out.size))
    have HE10 := Lib.hid (HE8.out.low HC.out hb10)
    have HNM := Lib.hid (wname_calls n HR.out.2.2.1 HR.out.2.2.2 w10 HE10.out.pow)
    clear hb10
    go_wp2_with fail
    refine HNM.out.mono ?_
    rintro e w11 ⟨rfl, hb11⟩
    have HB11 := Lib.hid (HB10.out.trans (hb11.mono HB10.out.size))
    clear hb11
    by_cases hnb : n < 1 ∨ 99999999 < n
    · have he : (⟨(nameT sS n).toArray⟩ : ByteArray) = ⟨#[]⟩ := by rw [nameT_bad _ hnb]
      rw [he]
      clear he
      by_cases h1 : n < 1
      · have b1 : decide (n < 1) = true := decide_eq_true h1
        go_wp2_with fail
        go_ret
        exact ⟨rfl, HB11.out⟩
      · have b1 : decide (n < 1) = false := decide_eq_false h1
        have b2 : decide (99999999 < n) = true := decide_eq_true (by omega)
        go_wp2_with fail
        go_ret
        exact ⟨rfl, HB11.out⟩
    · have b1 : decide (n < 1) = false := decide_eq_false (by omega)
      have b2 : decide (99999999 < n) = false := decide_eq_false (by omega)
      obtain ⟨m, hm⟩ : ∃ m : Nat, n = (m : Int) := ⟨n.toNat, by omega⟩
      have hm1 : 1 ≤ m := by omega
      have hm2 : m ≤ 99999999 := by omega
      obtain ⟨N, hN⟩ : ∃ N : ByteArray, (⟨(nameT sS n).toArray⟩ : ByteArray) = N := ⟨_, rfl⟩
      have hNl : N.data.toList = 115 :: padN 8 m := by rw [← hN, hm, segT_good hm1 hm2]; rfl
      have hNs : N.size = 9 := by rw [← text_size3, hNl, List.length_cons, padN_len]
      have hat : ∀ j, (h : j < N.size) → N.data.toList[j]? = some N[j] := fun j h => by
        rw [List.getElem?_eq_getElem (by rw [text_size3]; exact h)]
        rfl
      have hn0 : N[0] = 115 := by
        have := hat 0 (by omega)
        rw [hNl] at this
        simpa using this.symm
      have HDG : Hid (∀ j, (h : j < N.size) → 1 ≤ j → (N[j]).toNat = 48 + m / 10 ^ (8 - j) % 10) := Lib.hid fun j h h1 => by
        have h2 := hat j h
        obtain ⟨i, rfl⟩ : ∃ i, j = i + 1 := ⟨j - 1, by omega⟩
        rw [hNl, List.getElem?_cons_succ, pad_at 8 i m (by omega)] at h2
        have h3 := Option.some.inj h2
        rw [← h3, show 8 - 1 - i = 8 - (i + 1) by omega, UInt8.toNat_ofNat']
        omega
      rw [hN]
      have HM := Lib.hid (⟨hm, hm1, hm2⟩ : _ ∧ _ ∧ _)
      have hn0i : ((N[0]'(by omega)).toNat : Int) = 115 := by rw [hn0]; rfl
      clear hN hNl hat hm hn0 hnb
      go_wp2_with fail
      go_loopg [17, 18] 8 (fun gh s17 s18 wr => ∃ i : Nat, i + gh = 9 ∧ 1 ≤ i ∧ s18 = .int .i64 (i : Int) ∧ s17 = .int .i64 ((m / 10 ^ (9 - i) : Nat) : Int) ∧ w11 = wr)
      case atStart =>
        refine ⟨1, by omega, by omega, rfl, ?_, rfl⟩
        have : m / 10 ^ (9 - 1) = 0 := Nat.div_eq_of_lt (Nat.lt_of_le_of_lt HM.out.2.2 (by decide))
        rw [this]
        rfl
      case round =>
        obtain ⟨i, hig, hi1, rfl, rfl, rfl⟩ := hrel
        have HIG := Lib.hid (⟨hig, hi1⟩ : _ ∧ _)
        clear hig
        by_cases hi : i < 9
        · have el : decide ((i : Int) < 9) = true := decide_eq_true (by omega)
          have hiN : i < N.size := by omega
          have hdg := HDG.out i hiN hi1
          obtain ⟨x, hx⟩ : ∃ x, m / 10 ^ (9 - i) = x := ⟨_, rfl⟩
          obtain ⟨y, hy⟩ : ∃ y, m / 10 ^ (8 - i) = y := ⟨_, rfl⟩
          have hxy : x = y / 10 := by
            rw [← hx, ← hy, show 9 - i = (8 - i) + 1 by omega, Nat.pow_succ, Nat.div_div_eq_div_mul]
          have hyz : y ≤ 99999999 := by rw [← hy]; exact Nat.le_trans (Nat.div_le_self _ _) HM.out.2.2
          rw [hy] at hdg
          obtain ⟨c, hc⟩ : ∃ c, y % 10 = c := ⟨_, rfl⟩
          rw [hc] at hdg
          have hcl : c < 10 := by omega
          have hfin : x * 10 + c = y := by omega
          obtain ⟨b, hb⟩ : ∃ b, N[i] = b := ⟨_, rfl⟩
          have hdb : b.toNat = 48 + c := by rw [← hb]; exact hdg
          have z1 : decide ((b.toNat : Int) < 48) = false := decide_eq_false (by omega)
          have z2 : decide ((57 : Int) < (b.toNat : Int)) = false := decide_eq_false (by omega)
          have z3 : (b.toNat : Int) - 48 = (c : Int) := by omega
          have HF := Lib.hid (⟨hfin, hy⟩ : _ ∧ _)
          have hxz : x ≤ 99999999 := by omega
          rw [hx]
          clear hfin hxy hdg hx hy hc hdb
          go_wp2_with fail
          go_roundg (gk - 1)
          case measure => have := HIG.out; omega
          case rel =>
            refine ⟨i + 1, by have := HIG.out; omega, by omega, by go_num, ?_, rfl⟩
            refine vi ?_
            rw [show 9 - (i + 1) = 8 - i by omega, HF.out.2, ← HF.out.1]
            omega
        · have el : decide ((i : Int) < 9) = false := decide_eq_false (by omega)
          have hi3 : i = 9 := by have := HIG.out; omega
          subst hi3
          have e9 : m / 10 ^ (9 - 9) = m := by simp
          rw [e9]
          clear e9
          have e10 : (n == (m : Int)) = true := by rw [HM.out.1]; simp
          have e11 : ((m : Int) == n) = true := by rw [HM.out.1]; simp
          have e12 : decide ((m : Int) = n) = true := decide_eq_true HM.out.1.symm
          go_wp2_with fail
          refine (rframe_nil w11).mono ?_
          rintro e w12 ⟨rfl, hb12⟩
          have HB12 := Lib.hid (HB11.out.trans (hb12.mono HB11.out.size))
          clear hb12
          go_wp2_with fail
          go_ret
          exact ⟨rfl, HB12.out⟩
end
end Go.Proofs.YtfpgbhimgfdddaaGreatDoor
