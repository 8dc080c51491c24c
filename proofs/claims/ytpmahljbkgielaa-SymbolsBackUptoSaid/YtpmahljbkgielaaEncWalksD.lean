/- The walk of enc.ReadText. -/
import Derived.Test.YtpmahljbkgielaaEncWalksC
namespace Go.Proofs.Ytpmahljbkgielaa
open Go.RowKit
attribute [local go_sem ↓] Go.wp_at_zero Go.wp_at_succ
attribute [local go_sem] Later.cell Later.frozen

/-- What ReadText answers: the text, the place behind it, the error. -/
def readTAt (s : List UInt8) (k : Int) : List UInt8 × Nat × Nat :=
  if k < 0 then ([], 0, 20) else match readT (s.drop k.toNat) with | .error e => ([], 0, e) | .ok (t, n) => (t, k.toNat + n, 0)

theorem cut_bytes (s : ByteArray) (a b : Nat) : (s.extract a b).data.toList = (s.data.toList.drop a).take (b - a) := by
  simp only [ByteArray.data_extract, Array.toList_extract]

set_option maxRecDepth 100000 in
set_option maxHeartbeats 1000000 in
theorem readtext_calls (s : ByteArray) (k : Int) (t : List UInt8) (n e : Nat) (hr : readTAt s.data.toList k = (t, n, e)) (hs : s.size ≤ 140737488351232) (w : World) :
    Calls Try.prog 54 #[.string s, .int .i64 k] w fun en w' => en = .returned (.tuple #[.string ⟨t.toArray⟩, .int .i64 n, .int .i64 e]) ∧ w = w' := by
  by_cases hk : k < 0
  · obtain ⟨rfl, rfl, rfl⟩ : [] = t ∧ 0 = n ∧ 20 = e := by simpa [readTAt, hk] using hr
    have hra : readAt s.data.toList k = (0, 0, 20) := by simp [readAt, hk]
    have HRA := Lib.hid hra
    clear hr hra
    go_enter Try.func54, Try.ntmps54
    go_wp2_with fail
    refine (readuint_calls s k 0 0 20 HRA.out hs w).mono ?_
    rintro en w1 ⟨rfl, rfl⟩
    go_wp2_with fail
    go_ret3
    exact ⟨rfl, rfl⟩
  · obtain ⟨j, rfl⟩ := Int.eq_ofNat_of_zero_le (Int.not_lt.1 hk)
    have hra := readAt_nat s.data.toList j
    rw [readTAt, if_neg hk, Int.toNat_natCast, readT] at hr
    obtain ⟨l, hl⟩ : ∃ l, s.data.toList.drop j = l := ⟨_, rfl⟩
    have hlen : l.length = s.size - j := by rw [← hl, List.length_drop]; rfl
    rw [hl] at hr hra
    cases hu : readU l with
    | error c =>
      rw [hu] at hr hra
      have hra' : readAt s.data.toList j = (0, 0, c) := hra
      obtain ⟨rfl, rfl, rfl⟩ : [] = t ∧ 0 = n ∧ c = e := by simpa using hr
      have hc0 : c ≠ 0 := readU_fault hu
      have e1 : ((c : Int) != 0) = true := by simp; omega
      have HRA := Lib.hid hra'
      clear hr hra hra' hl hu hlen hk
      go_enter Try.func54, Try.ntmps54
      go_wp2_with fail
      refine (readuint_calls s j 0 0 c HRA.out hs w).mono ?_
      rintro en w1 ⟨rfl, rfl⟩
      go_wp2_with fail
      go_ret3
      exact ⟨rfl, rfl⟩
    | ok vk =>
      obtain ⟨v, m⟩ := vk
      rw [hu] at hr hra
      have hra' : readAt s.data.toList j = (v, j + m, 0) := hra
      have hlt := readU_lt hu
      have hv64 : v ≤ 18446744073709551615 := by
        have := hlt.1
        rw [show (2 : Nat) ^ 64 = 18446744073709551616 by decide] at this
        omega
      have hm1 := hlt.2.1
      have hm2 := hlt.2.2.1
      have hmj : j + m ≤ s.size := by omega
      simp only at hr
      have HRA := Lib.hid hra'
      by_cases hshort : l.length - m < v
      · rw [if_pos hshort] at hr
        obtain ⟨rfl, rfl, rfl⟩ : [] = t ∧ 0 = n ∧ 20 = e := by simpa using hr
        have hsh : s.size - (j + m) < v := by omega
        have e1 : decide ((s.size : Int) - ((j : Int) + (m : Int)) < (v : Int)) = true := by simp; omega
        clear hr hra hra' hl hu hlen hk hshort hlt
        go_enter Try.func54, Try.ntmps54
        go_wp2_with fail
        refine (readuint_calls s j v (j + m) 0 HRA.out hs w).mono ?_
        rintro en w1 ⟨rfl, rfl⟩
        go_wp2_with fail
        go_ret3
        exact ⟨rfl, rfl⟩
      · rw [if_neg hshort] at hr
        obtain ⟨ht, hn, he⟩ : (l.drop m).take v = t ∧ j + (m + v) = n ∧ 0 = e := by simpa using hr
        have hsh : j + m + v ≤ s.size := by omega
        have e1 : decide ((s.size : Int) - ((j : Int) + (m : Int)) < (v : Int)) = false := by simp; omega
        have htt : (s.data.toList.drop (j + m)).take v = t := by rw [← ht, ← hl, List.drop_drop]
        have HT := Lib.hid htt
        have HN := Lib.hid hn
        have HE := Lib.hid he
        have z1 : (0 : Int) ≤ (j : Int) + (m : Int) := by omega
        have z2 : (j : Int) + (m : Int) ≤ (j : Int) + (m : Int) + (v : Int) := by omega
        have z3 : (j : Int) + (m : Int) + (v : Int) ≤ (s.size : Int) := by omega
        clear hr hra hra' hl hu hlen hk hshort hlt ht hn he htt
        go_enter Try.func54, Try.ntmps54
        go_wp2_with fail
        refine (readuint_calls s j v (j + m) 0 HRA.out hs w).mono ?_
        rintro en w1 ⟨rfl, rfl⟩
        go_wp2_with fail
        go_ret3
        refine ⟨ret3 (congrArg Value.string (str_eq (a := s.extract (j + m) (j + m + v)) ?_)) (vi (by have := HN.out; omega)) (vi (by rw [← HE.out]; rfl)), rfl⟩
        rw [cut_bytes, show j + m + v - (j + m) = v by omega, HT.out]
end Go.Proofs.Ytpmahljbkgielaa
