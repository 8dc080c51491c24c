/- The plain law of layer 16 (wal): the number of a segment's name. No program in sight. -/
import Derived.Test.YtfpgbhimgfdddaaGreatDoorWalPlain3
import Derived.Lib.Atoi
import Derived.Lib.TrimByte
import Derived.Lib.Strings
set_option linter.unusedVariables false
set_option linter.unusedSimpArgs false
namespace Go.Proofs.YtfpgbhimgfdddaaGreatDoor

theorem ofDigit {d : Nat} (h : d < 10) : (UInt8.ofNat (48 + d)).toNat = 48 + d := by
  rw [UInt8.toNat_ofNat']
  omega
theorem dec_head : ∀ n : Nat, 1 ≤ n → ∃ c l, Lib.decDigits n = c :: l ∧ 49 ≤ c.toNat ∧ c.toNat ≤ 57 := by
  intro n
  induction n using Nat.strongRecOn with
  | _ n ih =>
    intro hn
    by_cases h : n < 10
    · rw [Lib.decDigits_one h]
      exact ⟨_, [], rfl, by rw [ofDigit h]; omega, by rw [ofDigit h]; omega⟩
    · obtain ⟨c, l, e, h1, h2⟩ := ih (n / 10) (by omega) (by omega)
      rw [Lib.decDigits, dif_neg h, e]
      exact ⟨c, l ++ [UInt8.ofNat (48 + n % 10)], rfl, h1, h2⟩
theorem drop_zeros (l : List UInt8) : ∀ c, (List.replicate c (48 : UInt8) ++ l).dropWhile (· == 48) = l.dropWhile (· == 48)
  | 0 => rfl
  | c + 1 => by
    rw [List.replicate_succ, List.cons_append, List.dropWhile_cons_of_pos (by simp), drop_zeros l c]
theorem trim_pad {n : Nat} (h1 : 1 ≤ n) (h2 : n ≤ 99999999) : Lib.trimLeftB (padN 8 n) 48 = Lib.decDigits n := by
  obtain ⟨_, hd⟩ := pad_dec 7 n (by omega)
  rw [← hd]
  unfold Lib.trimLeftB
  rw [drop_zeros]
  obtain ⟨c, l, e, h3, _⟩ := dec_head n h1
  rw [e, List.dropWhile_cons_of_neg]
  intro hc
  have : c = 48 := by simpa using hc
  rw [this] at h3
  exact absurd h3 (by decide)
theorem digit_val {d : Nat} (h : d < 10) : Lib.digitVal (UInt8.ofNat (48 + d)) = some d := by
  unfold Lib.digitVal
  rw [ofDigit h, if_pos (by omega)]
  congr 1
  omega
theorem decFrom_snoc : ∀ (l : List UInt8) (acc m : Nat) (b : UInt8) (d : Nat), Lib.decFrom acc l = some m → Lib.digitVal b = some d → Lib.decFrom acc (l ++ [b]) = some (m * 10 + d)
  | [], acc, m, b, d, h, hb => by
    obtain rfl : acc = m := by simpa [Lib.decFrom] using h
    simp [Lib.decFrom, hb]
  | x :: l, acc, m, b, d, h, hb => by
    rw [List.cons_append]
    simp only [Lib.decFrom] at h ⊢
    cases hx : Lib.digitVal x with
    | none => rw [hx] at h; cases h
    | some e =>
      rw [hx] at h
      simp only at h ⊢
      exact decFrom_snoc l _ m b d h hb
theorem decFrom_dec : ∀ n : Nat, Lib.decFrom 0 (Lib.decDigits n) = some n := by
  intro n
  induction n using Nat.strongRecOn with
  | _ n ih =>
    by_cases h : n < 10
    · rw [Lib.decDigits_one h]
      simp only [Lib.decFrom, digit_val h]
      simp
    · have h1 := ih (n / 10) (by omega)
      rw [Lib.decDigits, dif_neg h, decFrom_snoc _ _ _ _ _ h1 (digit_val (Nat.mod_lt _ (by decide)))]
      congr 1
      omega
theorem atoi_dec {n : Nat} (h1 : 1 ≤ n) : Lib.atoi (Lib.decDigits n) = some (n : Int) := by
  have hd := decFrom_dec n
  obtain ⟨c, l, e, h3, h4⟩ := dec_head n h1
  rw [e] at hd ⊢
  have c1 : (c == 45) = false := by
    rw [beq_eq_false_iff_ne]
    rintro rfl
    exact absurd h3 (by decide)
  have c2 : (c == 43) = false := by
    rw [beq_eq_false_iff_ne]
    rintro rfl
    exact absurd h3 (by decide)
  simp only [Lib.atoi, c1, c2]
  simp [Lib.decNat, hd]
theorem trim_name {n : Nat} (h1 : 1 ≤ n) (h2 : n ≤ 99999999) : Lib.trimPrefix (nameT sS (n : Int)) sS = padN 8 n := by
  rw [segT_good h1 h2]
  unfold Lib.trimPrefix
  rw [if_pos (by simp [Lib.hasPrefix])]
  simp
end Go.Proofs.YtfpgbhimgfdddaaGreatDoor
