/- The walks of layer 20: a checkpoint's name; the document's name: a letter and a number in eight digits. -/
import Derived.Test.YtfpgbhimgfdddaaGreatDoorStk25
set_option linter.unusedVariables false
set_option linter.unusedSimpArgs false
namespace Go.Proofs.YtfpgbhimgfdddaaGreatDoor
open Go.RowKit Go.Shelf Go.Sort
attribute [local go_sem ↓] Go.wp_at_zero Go.wp_at_succ
attribute [local go_sem] Later.cell Later.frozen

def sC : Txt := [99]
set_option maxHeartbeats 4000000 in
theorem sckpt_calls (n : Int) (h1 : -9223372036854775808 ≤ n) (h2 : n ≤ 9223372036854775807) (w : World) (hT : PowTab w) :
    Calls Tryz.prog 24 #[.int .i64 n] w fun e w' => e = .returned (.string ⟨(nameT sC n).toArray⟩) ∧ Below w.heap.size w w' := by
  have HC := Lib.hid (sname_calls ⟨#[99]⟩ n h1 h2 (by decide) w hT)
  clear hT
  go_enter Tryz.func24, Tryz.ntmps24
  go_wp2_with fail
  refine HC.out.mono ?_
  rintro e w1 ⟨rfl, hb⟩
  have HB := Lib.hid hb
  clear hb
  go_wp2_with fail
  go_ret
  exact ⟨rfl, HB.out⟩
/-- The digits from the front. -/
theorem pad_front : ∀ k n, padN (k + 1) n = UInt8.ofNat (48 + n / 10 ^ k % 10) :: padN k n
  | 0, n => by simp [padN]
  | k + 1, n => by
    have e : n / 10 / 10 ^ k = n / 10 ^ (k + 1) := by rw [Nat.div_div_eq_div_mul, Nat.pow_succ, Nat.mul_comm]
    rw [padN, pad_front k (n / 10), e, List.cons_append]
    rfl
set_option maxRecDepth 100000 in
set_option maxHeartbeats 4000000 in
theorem rname20_calls (L : ByteArray) (n : Int) (h1 : -9223372036854775808 ≤ n) (h2 : n ≤ 9223372036854775807) (hL : L.size ≤ 1000) (w : World) :
    Calls Tryz.prog 28 #[.string L, .int .i64 n] w fun e w' => e = .returned (.string ⟨(nameT L.data.toList n).toArray⟩) ∧ Below w.heap.size w w' := by
  by_cases hlo : n < 1
  · have d1 : decide (n < 1) = true := by simpa using hlo
    have hf : nameT L.data.toList n = [] := by unfold nameT; rw [if_pos (.inl hlo)]
    rw [hf]
    clear hf
    go_enter Tryz.func28, Tryz.ntmps28
    go_wp2_with fail
    go_ret
    exact ⟨rfl, Below.refl _ _⟩
  · have d1 : decide (n < 1) = false := by simpa using hlo
    by_cases hhi : 99999999 < n
    · have d2 : decide (99999999 < n) = true := by simpa using hhi
      have hf : nameT L.data.toList n = [] := by unfold nameT; rw [if_pos (.inr hhi)]
      rw [hf]
      clear hf
      go_enter Tryz.func28, Tryz.ntmps28
      go_wp2_with fail
      go_ret
      exact ⟨rfl, Below.refl _ _⟩
    · have d2 : decide (99999999 < n) = false := by simpa using hhi
      have hf : nameT L.data.toList n = L.data.toList ++ padN 8 n.toNat := by unfold nameT; rw [if_neg (by omega)]
      obtain ⟨m, rfl⟩ : ∃ m : Nat, n = (m : Int) := ⟨n.toNat, by omega⟩
      have hm : m ≤ 99999999 := by omega
      rw [Int.toNat_natCast] at hf
      have HF := Lib.hid hf
      clear hf h1 h2 hlo hhi
      go_enter Tryz.func28, Tryz.ntmps28
      go_wp2_with fail
      go_loopg [1, 5, 6] 8 (fun g s3 s5 s6 wr => ∃ (i : Nat) (S : ByteArray), i + g = 8 ∧ s3 = .int .i64 ((m / 10 ^ i : Nat) : Int) ∧ s5 = .string S ∧ s6 = .int .i64 (i : Int) ∧ S.data.toList = padN i m ∧ Below w.heap.size w wr)
      case atStart => exact ⟨0, ⟨#[]⟩, rfl, by simp, rfl, rfl, rfl, Below.refl _ _⟩
      case round =>
        obtain ⟨i, S, hig, rfl, rfl, rfl, hS, hb⟩ := hrel
        have HIG := Lib.hid hig
        have HS := Lib.hid hS
        have HB := Lib.hid hb
        have hSz : S.size = i := by rw [← text_size3, hS, padN_len]
        clear hig hS hb
        by_cases hi : i < 8
        · have el : decide ((i : Int) < 8) = true := by simp; omega
          obtain ⟨x, hx⟩ : ∃ x, m / 10 ^ i = x := ⟨_, rfl⟩
          have hxm : x ≤ 99999999 := by rw [← hx]; exact Nat.le_trans (Nat.div_le_self _ _) hm
          obtain ⟨c, hc⟩ : ∃ c, UInt8.ofNat (48 + x % 10) = c := ⟨_, rfl⟩
          have hcn : (48 : Int) + (x : Int) % 10 = (c.toNat : Int) := by rw [← hc, UInt8.toNat_ofNat']; omega
          have hstep : padN (i + 1) m = c :: padN i m := by rw [pad_front, hx, hc]
          have hdiv : m / 10 ^ (i + 1) = x / 10 := by rw [← hx, Nat.div_div_eq_div_mul, Nat.pow_succ]
          have hcv := one_byte c wr.heap.size (wr.alloc (.cells #[.int .u8 (c.toNat : Int)] 5)) (by simp [go_sem])
          have HST := Lib.hid (⟨hstep, hdiv⟩ : _ ∧ _)
          rw [hx]
          clear hstep hdiv hc hx
          go_wp2_with fail
          go_roundg (gk - 1)
          case measure => have := HIG.out; omega
          case rel =>
            refine ⟨i + 1, _, by have := HIG.out; omega, by rw [HST.out.2]; first | rfl | (congr 1), rfl, by go_num, ?_, HB.out.alloc HB.out.size _⟩
            rw [HST.out.1]
            simp [ByteArray.data_append, HS.out]
        · have el : decide ((i : Int) < 8) = false := by simp; omega
          have hi3 : i = 8 := by have := HIG.out; omega
          subst hi3
          go_wp2_with fail
          go_ret
          refine ⟨?_, HB.out⟩
          have hfin : L ++ S = (⟨(nameT L.data.toList (m : Int)).toArray⟩ : ByteArray) := bytes_eq (by rw [HF.out]; simp [ByteArray.data_append, HS.out])
          exact congrArg (fun x => Ending.returned (.string x)) hfin
end Go.Proofs.YtfpgbhimgfdddaaGreatDoor
