/- The plain law of layer 2 (enc): numbers and texts as bytes. No program in sight. -/
import Derived.Test.YtpmahljbkgielaaWords
namespace Go.Proofs.Ytpmahljbkgielaa

/-! ### numbers -/
def uintF : Nat → Nat → List UInt8
  | 0, v => [UInt8.ofNat v]
  | f + 1, v => if 127 < v then UInt8.ofNat (v % 128 + 128) :: uintF f (v / 128) else [UInt8.ofNat v]
/-- The one form of a number. -/
def uintT (v : Nat) : List UInt8 := uintF 10 v
theorem uintF_more : ∀ (f v : Nat), v < 128 ^ (f + 1) → uintF f v = uintF (f + 1) v
  | 0, v, h => by rw [uintF, uintF, if_neg (by omega)]
  | f + 1, v, h => by
    rw [uintF, uintF]
    split
    · rw [uintF_more f (v / 128) (by rw [Nat.pow_succ] at h; omega)]
    · rfl
theorem uintT_step {v : Nat} (h : v < 2 ^ 64) (h1 : 127 < v) : uintT v = UInt8.ofNat (v % 128 + 128) :: uintT (v / 128) := by
  unfold uintT
  conv => lhs; rw [uintF, if_pos h1]
  rw [uintF_more 9 (v / 128) (by
    have : (2 : Nat) ^ 64 ≤ 128 ^ (9 + 1) * 128 := by decide
    omega)]
theorem uintT_end {v : Nat} (h1 : v ≤ 127) : uintT v = [UInt8.ofNat v] := by
  rw [uintT, uintF, if_neg (by omega)]
theorem uintF_len : ∀ (f v : Nat), 1 ≤ (uintF f v).length ∧ (uintF f v).length ≤ f + 1
  | 0, v => by simp [uintF]
  | f + 1, v => by
    rw [uintF]
    split
    · have := uintF_len f (v / 128)
      simp only [List.length_cons]; omega
    · simp
theorem uintT_len (v : Nat) : 1 ≤ (uintT v).length ∧ (uintT v).length ≤ 11 := uintF_len 10 v

/-! ### reading numbers -/
/-- A number read byte by byte, from byte i on: its value and how many bytes it has; or the error. -/
def readG : Nat → Nat → List UInt8 → Except Nat (Nat × Nat)
  | _, _, [] => .error 20
  | i, acc, b :: l => if (i = 9 ∧ 1 < b.toNat) ∨ (0 < i ∧ b.toNat = 0) then .error 21 else if b.toNat < 128 then .ok (acc + b.toNat * 128 ^ i, i + 1) else readG (i + 1) (acc + (b.toNat - 128) * 128 ^ i) l
def readU (l : List UInt8) : Except Nat (Nat × Nat) := readG 0 0 l
/-- How many bytes go on, n at most. -/
def cont : Nat → List UInt8 → Nat
  | 0, _ => 0
  | _ + 1, [] => 0
  | n + 1, b :: l => if 127 < b.toNat then cont n l + 1 else 0
def valL : List UInt8 → Nat
  | [] => 0
  | b :: l => b.toNat % 128 + 128 * valL l
theorem cont_le : ∀ (n : Nat) (l : List UInt8), cont n l ≤ n ∧ cont n l ≤ l.length
  | 0, _ => by simp [cont]
  | _ + 1, [] => by simp [cont]
  | n + 1, b :: l => by
    rw [cont]
    have := cont_le n l
    split <;> simp only [List.length_cons] <;> omega
def readOut (i acc j : Nat) (l : List UInt8) : Except Nat (Nat × Nat) :=
  match l.drop j with
  | [] => .error 20
  | b :: _ => if (i + j = 9 ∧ 1 < b.toNat) ∨ (0 < i + j ∧ b.toNat = 0) then .error 21 else .ok (acc + 128 ^ i * valL (l.take (j + 1)), i + j + 1)
theorem readG_cont : ∀ (l : List UInt8) (i acc : Nat), i ≤ 9 → readG i acc l = readOut i acc (cont (9 - i) l) l
  | [], i, acc, _ => by simp [readG, readOut]
  | b :: l, i, acc, hi => by
    rw [readG]
    by_cases h9 : i = 9
    · subst h9
      have e : cont (9 - 9) (b :: l) = 0 := rfl
      rw [e, readOut]
      simp only [List.drop_zero, Nat.add_zero, Nat.zero_add, List.take_succ_cons, List.take_zero, valL, Nat.mul_zero]
      split
      · rfl
      · rename_i h
        have hb : b.toNat < 128 := by
          apply Classical.byContradiction
          intro hh
          exact h (.inl ⟨by trivial, by omega⟩)
        rw [if_pos hb, Nat.mod_eq_of_lt hb, Nat.mul_comm]
    · obtain ⟨m, hm⟩ : ∃ m, 9 - i = m + 1 := ⟨9 - i - 1, by omega⟩
      rw [hm, cont]
      by_cases hb : 127 < b.toNat
      · rw [if_pos hb, if_neg (by omega), if_neg (by omega), readG_cont l (i + 1) _ (by omega), show 9 - (i + 1) = m by omega]
        unfold readOut
        rw [List.drop_succ_cons, List.take_succ_cons, valL]
        have hbl := UInt8.toNat_lt b
        have e1 : b.toNat % 128 = b.toNat - 128 := by omega
        rw [e1, show i + 1 + cont m l = i + (cont m l + 1) by omega]
        cases List.drop (cont m l) l with
        | nil => rfl
        | cons c l' =>
          have e : acc + (b.toNat - 128) * 128 ^ i + 128 ^ (i + 1) * valL (List.take (cont m l + 1) l) = acc + 128 ^ i * (b.toNat - 128 + 128 * valL (List.take (cont m l + 1) l)) := by
            rw [Nat.pow_succ, Nat.mul_add, Nat.mul_assoc, Nat.mul_comm (b.toNat - 128), Nat.add_assoc]
          simp only [e]
      · rw [if_neg hb]
        unfold readOut
        simp only [List.drop_zero, Nat.add_zero, Nat.zero_add, List.take_succ_cons, List.take_zero, valL, Nat.mul_zero]
        split
        · rfl
        · rw [if_pos (by omega), Nat.mod_eq_of_lt (by omega), Nat.mul_comm]
theorem readU_cont (l : List UInt8) : readU l = readOut 0 0 (cont 9 l) l := readG_cont l 0 0 (by omega)
theorem valL_lt : ∀ l : List UInt8, valL l < 128 ^ l.length
  | [] => by simp [valL]
  | b :: l => by
    have := valL_lt l
    rw [valL, List.length_cons, Nat.pow_succ]
    generalize 128 ^ l.length = x at *
    omega
theorem readG_lt : ∀ (l : List UInt8) (i acc v k : Nat), i ≤ 9 → acc < 128 ^ i → readG i acc l = .ok (v, k) → v < 2 ^ 64 ∧ i < k ∧ k ≤ i + l.length ∧ k ≤ 10
  | [], i, acc, v, k, _, _, h => by simp [readG] at h
  | b :: l, i, acc, v, k, hi, ha, h => by
    rw [readG] at h
    split at h
    · cases h
    · rename_i hn
      split at h
      · rename_i hb
        injection h with h
        injection h with h1 h2
        subst h1 h2
        refine ⟨?_, by omega, by simp, by omega⟩
        by_cases h9 : i = 9
        · subst h9
          have hb1 : b.toNat ≤ 1 := by omega
          have e : (128 : Nat) ^ 9 = 2 ^ 63 := by decide
          rw [e] at ha ⊢
          have e2 : (2 : Nat) ^ 64 = 2 * 2 ^ 63 := by decide
          rw [e2]
          have : b.toNat * 2 ^ 63 ≤ 1 * 2 ^ 63 := Nat.mul_le_mul_right _ hb1
          omega
        · have h1 : b.toNat * 128 ^ i ≤ 127 * 128 ^ i := Nat.mul_le_mul_right _ (by omega)
          have h2 : (128 : Nat) ^ (i + 1) ≤ 128 ^ 9 := Nat.pow_le_pow_right (by omega) (by omega)
          rw [Nat.pow_succ] at h2
          have e : (128 : Nat) ^ 9 < 2 ^ 64 := by decide
          omega
      · rename_i hb
        have h9 : i ≠ 9 := by
          intro e; apply hn; exact .inl ⟨e, by omega⟩
        have hbl := UInt8.toNat_lt b
        have h1 : (b.toNat - 128) * 128 ^ i ≤ 127 * 128 ^ i := Nat.mul_le_mul_right _ (by omega)
        have := readG_lt l (i + 1) _ v k (by omega) (by rw [Nat.pow_succ]; omega) h
        simp only [List.length_cons]
        omega
theorem readU_lt {l : List UInt8} {v k : Nat} (h : readU l = .ok (v, k)) : v < 2 ^ 64 ∧ 0 < k ∧ k ≤ l.length ∧ k ≤ 10 := by
  have := readG_lt l 0 0 v k (by omega) (by simp) h
  omega
theorem readG_fault : ∀ (l : List UInt8) (i acc c : Nat), readG i acc l = .error c → c ≠ 0
  | [], i, acc, c, h => by
    rw [readG] at h
    injection h with h
    omega
  | b :: l, i, acc, c, h => by
    rw [readG] at h
    split at h
    · injection h with h; omega
    · split at h
      · cases h
      · exact readG_fault l _ _ c h
theorem readU_fault {l : List UInt8} {c : Nat} (h : readU l = .error c) : c ≠ 0 := readG_fault l 0 0 c h
/-- What was written is read. -/
theorem readG_uint : ∀ (f i acc v : Nat) (l : List UInt8), i + f = 9 → v < 128 ^ f * 2 → (i = 0 ∨ 0 < v) → readG i acc (uintF f v ++ l) = .ok (acc + v * 128 ^ i, i + (uintF f v).length)
  | 0, i, acc, v, l, hi, hv, h0 => by
    have hv1 : v ≤ 1 := by simp at hv; omega
    have e : (UInt8.ofNat v).toNat = v := by simp [UInt8.toNat_ofNat']; omega
    simp only [uintF, List.singleton_append, readG, e, List.length_singleton]
    rw [if_neg (by omega), if_pos (by omega)]
  | f + 1, i, acc, v, l, hi, hv, h0 => by
    rw [uintF]
    split
    · rename_i hgt
      have e : (UInt8.ofNat (v % 128 + 128)).toNat = v % 128 + 128 := by simp [UInt8.toNat_ofNat']; omega
      simp only [List.cons_append, readG, e, List.length_cons]
      rw [if_neg (by omega), if_neg (by omega), readG_uint f (i + 1) _ (v / 128) l (by omega) (by rw [Nat.pow_succ] at hv; omega) (.inr (by omega))]
      congr 2
      · rw [Nat.add_sub_cancel, Nat.pow_succ, Nat.add_assoc]
        congr 1
        have := Nat.mod_add_div v 128
        conv => rhs; rw [← this]
        rw [Nat.add_mul]
        congr 1
        rw [Nat.mul_comm 128 (v / 128), Nat.mul_assoc]
        congr 1
        rw [Nat.mul_comm]
      · omega
    · have e : (UInt8.ofNat v).toNat = v := by simp [UInt8.toNat_ofNat']; omega
      simp only [List.singleton_append, readG, e, List.length_singleton]
      rw [if_neg (by omega), if_pos (by omega)]
theorem uintT_nine {v : Nat} (h : v < 2 ^ 64) : uintT v = uintF 9 v := (uintF_more 9 v (Nat.lt_of_lt_of_le h (by decide))).symm
theorem readU_uint {v : Nat} (h : v < 2 ^ 64) (l : List UInt8) : readU (uintT v ++ l) = .ok (v, (uintT v).length) := by
  rw [uintT_nine h, readU, readG_uint 9 0 0 v l (by omega) (by have : (128 : Nat) ^ 9 * 2 = 2 ^ 64 := by decide
                                                               omega) (.inl rfl)]
  simp

/-! ### texts -/
def textT (s : List UInt8) : List UInt8 := uintT s.length ++ s
/-- A text that is read: the text and how many bytes it took. -/
def readT (l : List UInt8) : Except Nat (List UInt8 × Nat) :=
  match readU l with
  | .error e => .error e
  | .ok (n, k) => if l.length - k < n then .error 20 else .ok ((l.drop k).take n, k + n)
theorem readT_text {s : List UInt8} (hs : s.length < 2 ^ 64) (l : List UInt8) : readT (textT s ++ l) = .ok (s, (textT s).length) := by
  unfold readT textT
  rw [List.append_assoc, readU_uint hs]
  simp only []
  rw [if_neg (by simp)]
  simp
end Go.Proofs.Ytpmahljbkgielaa
