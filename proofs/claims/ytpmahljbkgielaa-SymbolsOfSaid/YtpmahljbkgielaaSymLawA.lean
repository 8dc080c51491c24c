/- SymbolsOf: what the statement's function computes is true. -/
import Derived.Test.YtpmahljbkgielaaSymWalksF
namespace Go.Proofs.Ytpmahljbkgielaa
open Go.RowKit Go.Sort
attribute [local go_sem ↓] Go.wp_at_zero Go.wp_at_succ
attribute [local go_sem] Later.cell Later.frozen

set_option maxRecDepth 100000 in
set_option maxHeartbeats 1000000 in
theorem symbolsOf_calls (l : List Txt) (A : Option Addr) (n c : Nat) (k : Int) (s : ByteArray) (w : World) (h : Strs w A n l) (hA : A = none → c = 0) (hc : n ≤ c) (hn : n * 16 ≤ 140737488351232) (hk1 : -9223372036854775808 ≤ k) (hk2 : k ≤ 9223372036854775807) :
    Calls Try.prog 3 #[.slice A n c, .int .i64 k, .string s] w fun e w' => e = .returned (.bool true) ∧ Below w.heap.size w w' := by
  have hl := h.len
  have HL := Lib.hid hl
  clear hl
  go_enter Try.func3, Try.ntmps3
  go_wp2_with fail
  refine (twin_calls l A n c w h hA hn).mono ?_
  rintro e w1 ⟨A1, c1, rfl, hs1, hc1, hb1, hoff, _⟩
  rw [HL.out] at hs1 hc1 ⊢
  go_wp2_with fail
  refine (of_calls l A1 n c1 w1 hs1 hn).mono ?_
  rintro e w2 ⟨p, t, rfl, htab2, hist, htl, hb2, _⟩
  have hB2 := then_ hb1 hb2
  have h2 := h.below hB2
  clear hs1 hc1 hb1 hoff hb2 h
  go_wp2_with fail
  refine (rof_calls n l A c w2 h2 hc hn).mono ?_
  rintro e w3 ⟨A3, c3, t', rfl, hs3, hist', _, hc3, hb3⟩
  obtain rfl : t' = t := hist'.one hist
  have htab3 := htab2.below hb3
  have hB3 := then_ hB2 hb3
  have hasc := hist.1
  rw [HL.out] at htl
  obtain ⟨m, hm⟩ : ∃ m, t'.length = m := ⟨_, rfl⟩
  have HM := Lib.hid hm
  rw [hm] at hs3 hc3 htl ⊢
  clear htab2 h2 hb3 hB2 hist hist' hm
  obtain ⟨x, e, hte⟩ : ∃ x e, textR t' k = (x, e) := ⟨_, _, rfl⟩
  obtain ⟨q, f, hnf⟩ : ∃ x e, numR t' s.data.toList = (x, e) := ⟨_, _, rfl⟩
  have HTE := Lib.hid hte
  have HNF := Lib.hid hnf
  clear hte hnf
  go_wp2_with fail
  refine (symtext_calls _ t' k w3 x e HTE.out htab3).mono ?_
  rintro _ w4 ⟨rfl, rfl⟩
  go_wp2_with fail
  refine (number_calls _ t' s w3 q f HNF.out htab3 hasc (by rw [HM.out]; omega)).mono ?_
  rintro _ w4 ⟨rfl, hb4⟩
  have hs4 := hs3.below hb4
  have htab4 := htab3.below hb4
  have hB4 := then_ hB3 hb4
  clear hs3 htab3 hb4 hB3
  go_wp2_with fail
  refine (rnumber_calls t' A3 m c3 s w4 q f HNF.out hs4 hasc (by omega)).mono ?_
  rintro _ w5 ⟨rfl, rfl⟩
  go_wp2_with fail
  refine (wakes05_calls w4).mono ?_
  rintro _ w5 ⟨rfl, hb5⟩
  have hs5 := hs4.below hb5
  have htab5 := htab4.below hb5
  have hB5 := then_ hB4 hb5
  clear hs4 htab4 hb5 hB4
  go_wp2_with fail
  refine (is_calls _ t' A3 m c3 w5 htab5 hs5 hasc (by omega)).mono ?_
  rintro _ w6 ⟨rfl, hb6⟩
  have hs6 := hs5.below hb6
  have hB6 := then_ hB5 hb6
  clear hs5 htab5 hb6 hB5 HNF
  by_cases hk : k < 0
  · have ek : decide (k < 0) = true := decide_eq_true hk
    have hx := HTE.out
    rw [textR, if_pos (.inl hk)] at hx
    obtain ⟨rfl, rfl⟩ : [] = x ∧ 50 = e := by simpa using hx
    clear hx HTE
    unfold txtV
    go_wp2_with fail
    go_ret
    exact ⟨rfl, hB6⟩
  · have ek : decide (k < 0) = false := decide_eq_false hk
    by_cases hkm : (m : Int) ≤ k
    · have em : decide ((m : Int) ≤ k) = true := decide_eq_true hkm
      have hx := HTE.out
      rw [textR, if_pos (.inr (by rw [HM.out]; exact hkm))] at hx
      obtain ⟨rfl, rfl⟩ : [] = x ∧ 50 = e := by simpa using hx
      clear hx HTE
      unfold txtV
      go_wp2_with fail
      go_ret
      exact ⟨rfl, hB6⟩
    · have em : decide ((m : Int) ≤ k) = false := decide_eq_false hkm
      obtain ⟨j, rfl⟩ : ∃ j : Nat, k = (j : Int) := ⟨k.toNat, by omega⟩
      have hjm : j < m := by omega
      have em' : decide (m ≤ j) = false := by simp; omega
      have hx := HTE.out
      rw [textR, if_neg (by rw [HM.out]; omega)] at hx
      obtain ⟨rfl, rfl⟩ : t'[j]! = x ∧ 0 = e := by simpa using hx
      obtain ⟨b, off, rfl, hbl, hcell⟩ := hs6.at_ hjm
      unfold txtV at hcell ⊢
      obtain ⟨X, hX⟩ : ∃ X : ByteArray, (⟨t'[j]!.toArray⟩ : ByteArray) = X := ⟨_, rfl⟩
      rw [hX] at hcell ⊢
      clear hx HTE hX
      go_wp2_with fail
      go_ret
      exact ⟨rfl, hB6⟩
end Go.Proofs.Ytpmahljbkgielaa
