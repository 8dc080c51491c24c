/- The walks of layer 2 (enc): ReadUint, ReadText, and the document's. -/
import Derived.Test.YtpmahljbkgielaaEncWalksB
namespace Go.Proofs.Ytpmahljbkgielaa
open Go.RowKit
attribute [local go_sem ↓] Go.wp_at_zero Go.wp_at_succ
attribute [local go_sem] Later.cell Later.frozen

/-- What ReadUint answers: the number, the place behind it, the error. -/
def readAt (s : List UInt8) (k : Int) : Nat × Nat × Nat :=
  if k < 0 then (0, 0, 20) else match readU (s.drop k.toNat) with | .error e => (0, 0, e) | .ok (v, n) => (v, k.toNat + n, 0)
def outOf (j : Nat) (r : Except Nat (Nat × Nat)) : Nat × Nat × Nat := match r with | .error e => (0, 0, e) | .ok (v, n) => (v, j + n, 0)
theorem readAt_nat (s : List UInt8) (j : Nat) : readAt s (j : Int) = outOf j (readU (s.drop j)) := by
  unfold readAt outOf
  rw [if_neg (by omega), Int.toNat_natCast]
theorem drop_byte {s : ByteArray} {i : Nat} (h : i < s.size) : s.data.toList.drop i = s[i] :: s.data.toList.drop (i + 1) := by
  rw [List.drop_eq_getElem_cons (by simpa using h)]
  rfl

theorem and127 (b : Nat) (hb : b < 256) : bits .and .u8 (b : Int) 127 = ((b % 128 : Nat) : Int) := by
  have key : ∀ x : Fin 256, bits .and .u8 ((x.val : Nat) : Int) 127 = ((x.val % 128 : Nat) : Int) := by decide +kernel
  exact key ⟨b, hb⟩
theorem u64_small (x : Nat) (h : x < 2 ^ 64) : IntKind.u64.wrap (x : Int) = (x : Int) := by
  rw [IntKind.wrap_u64]
  rw [show (2 : Nat) ^ 64 = 18446744073709551616 by decide] at h
  omega
theorem or_next (acc b i : Nat) (hb : b < 256) (hi : i ≤ 9) (hacc : acc < 128 ^ i) (h9 : i = 9 → b % 128 ≤ 1) :
    bits .or .u64 (acc : Int) (IntKind.u64.wrap (IntKind.u64.wrap (bits .and .u8 (b : Int) 127) * 2 ^ (7 * i))) = ((acc + (b % 128) * 128 ^ i : Nat) : Int) := by
  have hp : (2 : Nat) ^ (7 * i) = 128 ^ i := by rw [Nat.pow_mul]
  have hx : (b % 128) * 128 ^ i < 2 ^ 64 := by
    by_cases h : i = 9
    · subst h
      have h1 := Nat.mul_le_mul_right (128 ^ 9) (h9 rfl)
      have h2 : 1 * 128 ^ 9 < 2 ^ 64 := by decide
      exact Nat.lt_of_le_of_lt h1 h2
    · have h1 : (b % 128) * 128 ^ i ≤ 127 * 128 ^ i := Nat.mul_le_mul_right _ (by omega)
      have h2 : 127 * 128 ^ i ≤ 127 * 128 ^ 8 := Nat.mul_le_mul_left _ (Nat.pow_le_pow_right (by omega) (by omega))
      have h3 : 127 * 128 ^ 8 < 2 ^ 64 := by decide
      exact Nat.lt_of_le_of_lt (Nat.le_trans h1 h2) h3
  have ha : acc < 2 ^ 64 := Nat.lt_of_lt_of_le hacc (Nat.le_trans (Nat.pow_le_pow_right (by omega) hi) (by decide))
  rw [and127 b hb, u64_small _ (Nat.lt_of_lt_of_le (Nat.mod_lt b (by omega : 128 > 0)) (by decide))]
  have e1 : (((b % 128 : Nat) : Int) * 2 ^ (7 * i)) = (((b % 128) * 128 ^ i : Nat) : Int) := by rw [← hp]; simp
  have e64 : (2 : Nat) ^ 64 = 18446744073709551616 := by decide
  rw [e1, u64_small _ hx, u64_or_nat _ _ (by rw [← e64]; exact ha) (by rw [← e64]; exact hx)]
  congr 1
  have := Nat.shiftLeft_add_eq_or_of_lt (i := 7 * i) (b := acc) (by rw [hp]; exact hacc) (b % 128)
  rw [Nat.shiftLeft_eq, hp] at this
  rw [Nat.or_comm, ← this, Nat.add_comm]

set_option maxRecDepth 100000 in
set_option maxHeartbeats 1000000 in
theorem readuint_calls (s : ByteArray) (k : Int) (v n e : Nat) (hr : readAt s.data.toList k = (v, n, e)) (hs : s.size ≤ 140737488351232) (w : World) :
    Calls Try.prog 45 #[.string s, .int .i64 k] w fun en w' => en = .returned (.tuple #[.int .u64 v, .int .i64 n, .int .i64 e]) ∧ w = w' := by
  by_cases hk : k < 0
  · have e0 : decide (k < 0) = true := by simpa using hk
    obtain ⟨rfl, rfl, rfl⟩ : 0 = v ∧ 0 = n ∧ 20 = e := by simpa [readAt, hk] using hr
    clear hr
    go_enter Try.func45, Try.ntmps45
    go_wp2_with fail
    go_ret3
    exact ⟨rfl, rfl⟩
  · obtain ⟨j, rfl⟩ := Int.eq_ofNat_of_zero_le (Int.not_lt.1 hk)
    rw [readAt_nat] at hr
    have e0 : decide ((j : Int) < 0) = false := by simp
    by_cases hj : j < s.size
    · have e1 : decide ((s.size : Int) ≤ (j : Int)) = false := by simp; omega
      have e1' : decide (s.size ≤ j) = false := by simp; omega
      have HR := Lib.hid hr
      clear hr hk
      go_enter Try.func45, Try.ntmps45
      go_wp2_with fail
      go_loopg [7, 18] 10 (fun g s7 s18 wr => wr = w ∧ ∃ i acc : Nat, i + g = 10 ∧ s18 = .int .i64 (i : Int) ∧ s7 = .int .u64 (acc : Int) ∧ i ≤ 9 ∧ acc < 128 ^ i ∧ j + i ≤ s.size ∧ outOf j (readG i acc (s.data.toList.drop (j + i))) = (v, n, e))
      case atStart => exact ⟨rfl, 0, 0, rfl, rfl, rfl, by omega, by simp, by omega, HR.out⟩
      case round =>
        obtain ⟨rfl, i, acc, hig, rfl, rfl, hi9, hacc, hjs, hout⟩ := hrel
        obtain ⟨w, rfl⟩ : ∃ x, x = wr := ⟨_, rfl⟩
        have HIG := Lib.hid hig
        clear hig
        have HACC := Lib.hid hacc
        clear hacc
        by_cases hend : j + i = s.size
        · have e2 : ((j : Int) + (i : Int) == (s.size : Int)) = true := by rw [beq_iff_eq]; omega
          rw [List.drop_of_length_le (by simp; omega)] at hout
          obtain ⟨rfl, rfl, rfl⟩ : 0 = v ∧ 0 = n ∧ 20 = e := by simpa [outOf, readG] using hout
          clear hout hend
          go_wp2_with fail
          go_ret3
          exact ⟨rfl, rfl⟩
        · have e2 : ((j : Int) + (i : Int) == (s.size : Int)) = false := by rw [beq_eq_false_iff_ne]; omega
          have hlt : j + i < s.size := by omega
          rw [drop_byte hlt] at hout
          obtain ⟨b, hb⟩ : ∃ b, s[j + i] = b := ⟨_, rfl⟩
          have hbl := UInt8.toNat_lt b
          rw [hb, readG] at hout
          have HO := Lib.hid hout
          clear hout hend
          go_upto_region 10 with fail
          clear e0 e1 e2 e1'
          go_cut [45] (fun s45 wz => s45 = .bool (decide ((i = 9 ∧ 1 < b.toNat) ∨ (0 < i ∧ b.toNat = 0))) ∧ wz = w)
          case first =>
            clear hb
            obtain ⟨x9, h9⟩ : ∃ x, ((i : Int) == 9) = x := ⟨_, rfl⟩
            obtain ⟨x1, h1⟩ : ∃ x, decide ((1 : Int) < (b.toNat : Int)) = x := ⟨_, rfl⟩
            obtain ⟨x0, h0⟩ : ∃ x, decide (0 < i) = x := ⟨_, rfl⟩
            obtain ⟨xb, hb⟩ : ∃ x, ((b.toNat : Int) == 0) = x := ⟨_, rfl⟩
            have hfin : decide ((i = 9 ∧ 1 < b.toNat) ∨ (0 < i ∧ b.toNat = 0)) = ((x9 && x1) || (x0 && xb)) := by
              rw [← h9, ← h1, ← h0, ← hb, Bool.eq_iff_iff]
              simp only [decide_eq_true_eq, Bool.or_eq_true, Bool.and_eq_true, beq_iff_eq]
              omega
            have HF := Lib.hid hfin
            clear hfin
            cases x9 <;> cases x1 <;> cases x0 <;> cases xb
            all_goals
              go_wp2_with fail
              go_meet
              exact ⟨vb (by rw [HF.out]; rfl), rfl⟩
          case rest =>
            obtain ⟨rfl, rfl⟩ := hcut
            have hout := HO.out
            by_cases hbad : (i = 9 ∧ 1 < b.toNat) ∨ (0 < i ∧ b.toNat = 0)
            · rw [if_pos hbad] at hout
              obtain ⟨rfl, rfl, rfl⟩ : 0 = v ∧ 0 = n ∧ 21 = e := by simpa [outOf] using hout
              rw [decide_eq_true hbad]
              clear hout hbad HO
              go_wp2_with fail
              go_ret3
              exact ⟨rfl, rfl⟩
            · rw [if_neg hbad] at hout
              rw [decide_eq_false hbad]
              have hval := or_next acc b.toNat i hbl hi9 HACC.out (fun h9 => by omega)
              have HV := Lib.hid hval
              have HO2 := Lib.hid hout
              have hn9 : ¬ b.toNat < 128 → i < 9 := fun h => by
                apply Classical.byContradiction
                intro h'
                exact hbad (.inl ⟨by omega, by omega⟩)
              have HN9 := Lib.hid hn9
              clear hout hbad HO hval hn9
              go_upto_region 13 with fail
              rw [HV.out]
              clear HV
              by_cases h128 : b.toNat < 128
              · have hout := HO2.out
                rw [if_pos h128, outOf] at hout
                obtain ⟨hv, hn, he⟩ : acc + b.toNat * 128 ^ i = v ∧ j + (i + 1) = n ∧ 0 = e := by simpa using hout
                have hq2 : acc + b.toNat % 128 * 128 ^ i = v := by rw [← hv, Nat.mod_eq_of_lt h128]
                rw [hq2]
                have HN := Lib.hid hn
                have HE := Lib.hid he
                clear hout HO2 hv hq2 hb hn he
                go_wp2_with fail
                go_ret3
                exact ⟨ret3 rfl (vi (by have := HN.out; omega)) (vi (by rw [← HE.out]; rfl)), rfl⟩
              · have hout := HO2.out
                rw [if_neg h128] at hout
                obtain ⟨q, hq⟩ : ∃ q, acc + b.toNat % 128 * 128 ^ i = q := ⟨_, rfl⟩
                have hq2 : acc + (b.toNat - 128) * 128 ^ i = q := by rw [← hq]; congr 2; omega
                rw [hq2] at hout
                have hql : q < 128 ^ (i + 1) := by
                  rw [← hq, Nat.pow_succ]
                  have h1 : (b.toNat % 128) * 128 ^ i ≤ 127 * 128 ^ i := Nat.mul_le_mul_right _ (by omega)
                  have := HACC.out
                  omega
                have h9 := HN9.out h128
                rw [hq]
                have HO3 := Lib.hid hout
                have HQL := Lib.hid hql
                clear hout HO2 hq hq2 hb hql HACC
                go_wp2_with fail
                go_roundg (gk - 1)
                case measure => have := HIG.out; omega
                case rel => exact ⟨rfl, i + 1, q, by have := HIG.out; omega, by go_num, rfl, by omega, HQL.out, by omega, HO3.out⟩
    · rw [List.drop_of_length_le (by simp; omega)] at hr
      obtain ⟨rfl, rfl, rfl⟩ : 0 = v ∧ 0 = n ∧ 20 = e := by simpa [outOf, readU, readG] using hr
      clear hr hk
      have e1 : decide ((s.size : Int) ≤ (j : Int)) = true := by simp; omega
      go_enter Try.func45, Try.ntmps45
      go_wp2_with fail
      go_ret3
      exact ⟨rfl, rfl⟩

theorem valL_drop : ∀ (m : Nat) (l : List UInt8), valL (l.drop m) ≤ valL l
  | 0, l => by simp
  | m + 1, [] => by simp
  | m + 1, b :: l => by
    rw [List.drop_succ_cons]
    have := valL_drop m l
    rw [valL]
    omega
theorem cont_drop {n i : Nat} {l : List UInt8} {b : UInt8} {r : List UInt8} (hl : l.drop i = b :: r) (hi : i < n) (hc : cont n l = i + cont (n - i) (l.drop i)) (hb : 127 < b.toNat) : cont n l = (i + 1) + cont (n - (i + 1)) (l.drop (i + 1)) := by
  rw [hc, hl]
  obtain ⟨m, hm⟩ : ∃ m, n - i = m + 1 := ⟨n - i - 1, by omega⟩
  rw [hm, cont, if_pos hb, show n - (i + 1) = m by omega]
  have : l.drop (i + 1) = r := by rw [← List.drop_drop, hl]; rfl
  rw [this]
  omega
theorem cont_stop {n i : Nat} {l : List UInt8} (hc : cont n l = i + cont (n - i) (l.drop i)) (h : n ≤ i ∨ l.drop i = [] ∨ ∃ b r, l.drop i = b :: r ∧ ¬ 127 < b.toNat) : cont n l = i := by
  rw [hc]
  rcases h with h | h | ⟨b, r, h, hb⟩
  · rw [show n - i = 0 by omega, cont]; rfl
  · rw [h]
    cases n - i <;> simp [cont]
  · rw [h]
    cases n - i <;> simp [cont, hb]

set_option maxRecDepth 100000 in
set_option maxHeartbeats 1000000 in
theorem rreaduint_calls (s : ByteArray) (k : Int) (v n e : Nat) (hr : readAt s.data.toList k = (v, n, e)) (hs : s.size ≤ 140737488351232) (w : World) :
    Calls Try.prog 48 #[.string s, .int .i64 k] w fun en w' => en = .returned (.tuple #[.int .u64 v, .int .i64 n, .int .i64 e]) ∧ w = w' := by
  by_cases hk : k < 0
  · have e0 : decide (k < 0) = true := by simpa using hk
    obtain ⟨rfl, rfl, rfl⟩ : 0 = v ∧ 0 = n ∧ 20 = e := by simpa [readAt, hk] using hr
    clear hr
    go_enter Try.func48, Try.ntmps48
    go_wp2_with fail
    go_ret3
    exact ⟨rfl, rfl⟩
  · obtain ⟨j, rfl⟩ := Int.eq_ofNat_of_zero_le (Int.not_lt.1 hk)
    rw [readAt_nat] at hr
    have e0 : decide ((j : Int) < 0) = false := by simp
    by_cases hj : j < s.size
    · have e1 : decide ((s.size : Int) ≤ (j : Int)) = false := by simp; omega
      have e1' : decide (s.size ≤ j) = false := by simp; omega
      obtain ⟨l, hl⟩ : ∃ l, s.data.toList.drop j = l := ⟨_, rfl⟩
      rw [hl, readU_cont] at hr
      have hle : ∀ i, l.drop i = s.data.toList.drop (j + i) := fun i => by rw [← hl, List.drop_drop]
      obtain ⟨c, hc⟩ : ∃ c, cont 9 l = c := ⟨_, rfl⟩
      rw [hc] at hr
      have hc9 := (cont_le 9 l).1
      rw [hc] at hc9
      have HR := Lib.hid hr
      have HLE := Lib.hid hle
      have HC := Lib.hid hc
      clear hr hk hle hc
      go_enter Try.func48, Try.ntmps48
      go_upto_block 0 with fail
      clear e0 e1 e1'
      go_cut [7] (fun s7 wz => wz = w ∧ s7 = .int .i64 ((j : Int) + (c : Int)) ∧ j + c ≤ s.size)
      case first =>
        go_wp2_with fail
        go_loopg [7] 10 (fun g s7 wr => wr = w ∧ ∃ i : Nat, i + g = 10 ∧ s7 = .int .i64 ((j : Int) + (i : Int)) ∧ i ≤ 9 ∧ j + i ≤ s.size ∧ cont 9 l = i + cont (9 - i) (l.drop i))
        case atStart => exact ⟨rfl, 0, rfl, by simp, by omega, by omega, by simp⟩
        case round =>
          obtain ⟨rfl, i, hig, rfl, hi9, hjs, hcc⟩ := hrel
          obtain ⟨w, rfl⟩ : ∃ x, x = wr := ⟨_, rfl⟩
          have HIG := Lib.hid hig
          have HCC := Lib.hid hcc
          clear hig hcc
          by_cases hend : j + i = s.size
          · have e2 : decide ((j : Int) + (i : Int) < (s.size : Int)) = false := by simp; omega
            have hci : c = i := by rw [← HC.out]; exact cont_stop HCC.out (.inr (.inl (by rw [HLE.out]; exact List.drop_of_length_le (by simp; omega))))
            have HCI := Lib.hid hci
            clear hci hend
            go_wp2_with fail
            go_meet
            exact ⟨rfl, vi (by rw [HCI.out]), by rw [HCI.out]; exact hjs⟩
          · have hlt : j + i < s.size := by omega
            have e2 : decide ((j : Int) + (i : Int) < (s.size : Int)) = true := by simp; omega
            obtain ⟨b, hb⟩ : ∃ b, s[j + i] = b := ⟨_, rfl⟩
            have hbl := UInt8.toNat_lt b
            have hdb : l.drop i = b :: s.data.toList.drop (j + i + 1) := by rw [HLE.out, drop_byte hlt, hb]
            have HDB := Lib.hid hdb
            clear hdb hend
            have hz : ((j : Int) + (i : Int)).toNat = j + i := by omega
            by_cases h9 : i < 9
            · have e3 : decide ((j : Int) + (i : Int) < (j : Int) + 9) = true := by simp; omega
              by_cases h127 : 127 < b.toNat
              · have e4 : decide ((127 : Int) < (b.toNat : Int)) = true := by simp; omega
                go_wp2_with fail
                go_roundg (gk - 1)
                case measure => have := HIG.out; omega
                case rel => exact ⟨rfl, i + 1, by have := HIG.out; omega, vi (by omega), by omega, by omega, cont_drop HDB.out h9 HCC.out h127⟩
              · have e4 : decide ((127 : Int) < (b.toNat : Int)) = false := by simp; omega
                have hci : c = i := by rw [← HC.out]; exact cont_stop HCC.out (.inr (.inr ⟨b, _, HDB.out, h127⟩))
                have HCI := Lib.hid hci
                clear hci
                go_wp2_with fail
                go_meet
                exact ⟨rfl, vi (by rw [HCI.out]), by rw [HCI.out]; exact hjs⟩
            · have e3 : decide ((j : Int) + (i : Int) < (j : Int) + 9) = false := by simp; omega
              have hci : c = i := by rw [← HC.out]; exact cont_stop HCC.out (.inl (by omega))
              have HCI := Lib.hid hci
              clear hci
              go_wp2_with fail
              go_meet
              exact ⟨rfl, vi (by rw [HCI.out]), by rw [HCI.out]; exact hjs⟩
      case rest =>
        obtain ⟨rfl, rfl, hjc⟩ := hcut
        obtain ⟨w, rfl⟩ : ∃ x, x = wc := ⟨_, rfl⟩
        by_cases hend : j + c = s.size
        · have e2 : ((j : Int) + (c : Int) == (s.size : Int)) = true := by rw [beq_iff_eq]; omega
          have hr := HR.out
          rw [readOut, HLE.out, List.drop_of_length_le (by simp; omega)] at hr
          obtain ⟨rfl, rfl, rfl⟩ : 0 = v ∧ 0 = n ∧ 20 = e := by simpa [outOf] using hr
          clear hr hend
          go_wp2_with fail
          go_ret3
          exact ⟨rfl, rfl⟩
        · have e2 : ((j : Int) + (c : Int) == (s.size : Int)) = false := by rw [beq_eq_false_iff_ne]; omega
          have hlt : j + c < s.size := by omega
          obtain ⟨b, hb⟩ : ∃ b, s[j + c] = b := ⟨_, rfl⟩
          have hbl := UInt8.toNat_lt b
          have hdb : l.drop c = b :: s.data.toList.drop (j + c + 1) := by rw [HLE.out, drop_byte hlt, hb]
          have hr := HR.out
          rw [readOut, hdb] at hr
          simp only [Nat.zero_add] at hr
          have HR2 := Lib.hid hr
          have HDB := Lib.hid hdb
          clear hr hdb hend HR
          have hz : ((j : Int) + (c : Int)).toNat = j + c := by omega
          obtain ⟨x9, h9⟩ : ∃ x, ((j : Int) + (c : Int) == (j : Int) + 9) = x := ⟨_, rfl⟩
          obtain ⟨x1, h1⟩ : ∃ x, decide ((1 : Int) < (b.toNat : Int)) = x := ⟨_, rfl⟩
          obtain ⟨x0, h0⟩ : ∃ x, decide ((j : Int) < (j : Int) + (c : Int)) = x := ⟨_, rfl⟩
          obtain ⟨xb, hxb⟩ : ∃ x, ((b.toNat : Int) == 0) = x := ⟨_, rfl⟩
          have hbad : decide ((c = 9 ∧ 1 < b.toNat) ∨ (0 < c ∧ b.toNat = 0)) = ((x9 && x1) || (x0 && xb)) := by
            rw [← h9, ← h1, ← h0, ← hxb, Bool.eq_iff_iff]
            simp only [decide_eq_true_eq, Bool.or_eq_true, Bool.and_eq_true, beq_iff_eq]
            omega
          have HBAD := Lib.hid hbad
          clear hbad
          go_upto_region 8 with fail
          go_cut [50] (fun s50 wz => s50 = .bool (x9 && x1) ∧ wz = w)
          case first =>
            cases x9 <;> cases x1
            all_goals
              go_wp2_with fail
              go_meet
              exact ⟨rfl, rfl⟩
          case rest =>
            obtain ⟨rfl, rfl⟩ := hcut
            obtain ⟨w, rfl⟩ : ∃ x, x = wc := ⟨_, rfl⟩
            obtain ⟨y1, hy1⟩ : ∃ y, (x9 && x1) = y := ⟨_, rfl⟩
            rw [hy1]
            have hbad := HBAD.out
            rw [hy1] at hbad
            have HB2 := Lib.hid hbad
            clear hbad HBAD h9 h1 hy1 e2
            cases y1 with
            | true =>
              have hr := HR2.out
              rw [if_pos (of_decide_eq_true (by rw [HB2.out]; rfl))] at hr
              obtain ⟨rfl, rfl, rfl⟩ : 0 = v ∧ 0 = n ∧ 21 = e := by simpa [outOf] using hr
              clear hr
              go_wp2_with fail
              go_ret3
              exact ⟨rfl, rfl⟩
            | false =>
              go_upto_region 10 with fail
              go_cut [59] (fun s59 wz => s59 = .bool (x0 && xb) ∧ wz = w)
              case first =>
                cases x0 <;> cases xb
                all_goals
                  go_wp2_with fail
                  go_meet
                  exact ⟨rfl, rfl⟩
              case rest =>
                obtain ⟨rfl, rfl⟩ := hcut
                obtain ⟨w, rfl⟩ : ∃ x, x = wc := ⟨_, rfl⟩
                obtain ⟨y0, hy0⟩ : ∃ y, (x0 && xb) = y := ⟨_, rfl⟩
                rw [hy0]
                have hbad := HB2.out
                rw [hy0] at hbad
                have HB3 := Lib.hid hbad
                clear hbad HB2 h0 hxb hy0
                cases y0 with
                | true =>
                  have hr := HR2.out
                  rw [if_pos (of_decide_eq_true (by rw [HB3.out]; rfl))] at hr
                  obtain ⟨rfl, rfl, rfl⟩ : 0 = v ∧ 0 = n ∧ 21 = e := by simpa [outOf] using hr
                  clear hr
                  go_wp2_with fail
                  go_ret3
                  exact ⟨rfl, rfl⟩
                | false =>
                  have hr := HR2.out
                  rw [if_neg (of_decide_eq_false (by rw [HB3.out]; rfl)), outOf] at hr
                  obtain ⟨L, hL⟩ : ∃ L, l.take (c + 1) = L := ⟨_, rfl⟩
                  obtain ⟨hv, hn, he⟩ : valL L = v ∧ j + (c + 1) = n ∧ 0 = e := by rw [hL] at hr; simpa using hr
                  have hlen : L.length = c + 1 := by
                    rw [← hL, List.length_take]
                    have := congrArg List.length HDB.out
                    rw [List.length_drop] at this
                    simp at this
                    omega
                  have hget : ∀ m, m < c + 1 → ∃ hm : j + m < s.size, L.drop m = s[j + m] :: L.drop (m + 1) := by
                    intro m hm
                    refine ⟨by omega, ?_⟩
                    rw [List.drop_eq_getElem_cons (by omega)]
                    congr 1
                    have h1 : l.drop m = s[j + m]'(by omega) :: s.data.toList.drop (j + m + 1) := by rw [HLE.out, drop_byte (by omega)]
                    have h2 : l[m]? = some (s[j + m]'(by omega)) := by
                      have := List.getElem?_drop (xs := l) (i := m) (j := 0)
                      rw [Nat.add_zero] at this
                      rw [← this, h1]; rfl
                    have h3 : L[m]? = some (s[j + m]'(by omega)) := by
                      have h4 : (l.take (c + 1))[m]? = l[m]? := List.getElem?_take_of_lt hm
                      rw [hL] at h4
                      rw [h4]; exact h2
                    rw [List.getElem?_eq_getElem (by omega)] at h3
                    exact Option.some.inj h3
                  have hv64 : valL L < 2 ^ 64 := by
                    have hro : readU l = .ok (valL L, c + 1) := by
                      rw [readU_cont, HC.out, readOut, HDB.out]
                      simp only [Nat.zero_add]
                      rw [if_neg (of_decide_eq_false (by rw [HB3.out]; rfl)), hL]
                      simp
                    exact (readU_lt hro).1
                  have hmono : ∀ m, valL (L.drop m) ≤ valL L := fun m => valL_drop m L
                  have HV := Lib.hid hv
                  have HN := Lib.hid hn
                  have HE := Lib.hid he
                  have HG := Lib.hid hget
                  have HMO := Lib.hid hmono
                  have HV64 := Lib.hid hv64
                  have HLEN := Lib.hid hlen
                  clear hr hv hn he hget hmono hv64 hlen HR2 hb hz hL hl
                  go_upto_block 2 with fail
                  go_cut [8] (fun s8 wz => s8 = .int .u64 v ∧ wz = w)
                  case first =>
                    go_wp2_with fail
                    go_loopg [8, 9] (c + 1) (fun g s8 s9 wr => wr = w ∧ s9 = .int .i64 ((j : Int) + (g : Int) - 1) ∧ g ≤ c + 1 ∧ s8 = .int .u64 (valL (L.drop g) : Nat))
                    case atStart =>
                      refine ⟨rfl, vi (by omega), Nat.le_refl _, ?_⟩
                      rw [List.drop_of_length_le (by rw [HLEN.out]; exact Nat.le_refl _)]
                      rfl
                    case round =>
                      obtain ⟨rfl, rfl, hg, rfl⟩ := hrel
                      obtain ⟨w, rfl⟩ : ∃ x, x = wr := ⟨_, rfl⟩
                      cases hgk : gk with
                      | zero =>
                        subst hgk
                        have e3 : decide ((j : Int) ≤ (j : Int) + ((0 : Nat) : Int) - 1) = false := by simp; omega
                        go_wp2_with fail
                        go_meet
                        exact ⟨vi (by rw [← HV.out]; rfl), rfl⟩
                      | succ m =>
                        subst hgk
                        obtain ⟨hms, hmd⟩ := HG.out m (by omega)
                        have hx : ((j : Int) + ((m + 1 : Nat) : Int) - 1) = (j : Int) + (m : Int) := by omega
                        rw [hx]
                        have e3 : decide ((j : Int) ≤ (j : Int) + (m : Int)) = true := by simp; omega
                        have hz : ((j : Int) + (m : Int)).toNat = j + m := by omega
                        obtain ⟨x, hxx⟩ : ∃ x, valL (L.drop (m + 1)) = x := ⟨_, rfl⟩
                        obtain ⟨b', hb'⟩ : ∃ b, s[j + m] = b := ⟨_, rfl⟩
                        have hbl' := UInt8.toNat_lt b'
                        have hst : valL (L.drop m) = b'.toNat % 128 + 128 * x := by rw [hmd, hb', valL, hxx]
                        have hlt64 : 128 * x + b'.toNat % 128 < 2 ^ 64 := by
                          have := HMO.out m
                          have := HV64.out
                          omega
                        rw [hxx]
                        have HST := Lib.hid hst
                        have h64 : 128 * x + b'.toNat % 128 ≤ 18446744073709551615 := by
                          rw [show (2 : Nat) ^ 64 = 18446744073709551616 by decide] at hlt64
                          omega
                        clear hst hxx hmd hx hlt64
                        go_wp2_with fail
                        go_roundg m
                        case measure => omega
                        case rel => exact ⟨rfl, rfl, by omega, vi (by rw [HST.out]; omega)⟩
                  case rest =>
                    obtain ⟨rfl, rfl⟩ := hcut
                    go_wp2_with fail
                    go_ret3
                    exact ⟨ret3 rfl (vi (by have := HN.out; omega)) (vi (by rw [← HE.out]; rfl)), rfl⟩
    · rw [List.drop_of_length_le (by simp; omega)] at hr
      obtain ⟨rfl, rfl, rfl⟩ : 0 = v ∧ 0 = n ∧ 20 = e := by simpa [outOf, readU, readG] using hr
      clear hr hk
      have e1 : decide ((s.size : Int) ≤ (j : Int)) = true := by simp; omega
      go_enter Try.func48, Try.ntmps48
      go_wp2_with fail
      go_ret3
      exact ⟨rfl, rfl⟩
end Go.Proofs.Ytpmahljbkgielaa
