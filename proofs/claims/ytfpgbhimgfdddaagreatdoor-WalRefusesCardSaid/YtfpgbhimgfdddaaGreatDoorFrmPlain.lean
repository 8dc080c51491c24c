/- The plain law of layer 2 (enc): frames; a sum tells one turned byte. No program in sight. -/
import Derived.Test.YtfpgbhimgfdddaaGreatDoorWak14
set_option linter.unusedVariables false
set_option linter.unusedSimpArgs false
namespace Go.Proofs.YtfpgbhimgfdddaaGreatDoor

/-! ### a sum tells one turned byte -/
theorem nibs_top (i : Nat) (h : i < 16) : nibs.getD i 0 >>> 28 = i := by
  revert i
  decide
theorem xor_left_eq {a b c : Nat} (h : a ^^^ b = a ^^^ c) : b = c := by
  have := congrArg (a ^^^ ·) h
  simpa [← Nat.xor_assoc] using this
theorem xor_right_eq {a b c : Nat} (h : b ^^^ a = c ^^^ a) : b = c := xor_left_eq (a := a) (by rwa [Nat.xor_comm a b, Nat.xor_comm a c])
theorem nibN_top {c : Nat} (h : c < 4294967296) : nibN c >>> 28 = c % 16 := by
  unfold nibN
  rw [Nat.shiftRight_xor_distrib, nibs_top _ (by omega), Nat.shiftRight_eq_div_pow, show c / 16 / 2 ^ 28 = 0 by omega, Nat.xor_zero]
theorem nibN_inj {c d : Nat} (hc : c < 4294967296) (hd : d < 4294967296) (h : nibN c = nibN d) : c = d := by
  have h1 : c % 16 = d % 16 := by rw [← nibN_top hc, ← nibN_top hd, h]
  unfold nibN at h
  rw [h1] at h
  have h2 := xor_left_eq h
  omega
theorem crcB_state {c d : Nat} (hc : c < 4294967296) (hd : d < 4294967296) (b : UInt8) (h : crcB c b = crcB d b) : c = d := by
  have hb : b.toNat < 4294967296 := by have := UInt8.toNat_lt b; omega
  exact xor_right_eq (nibN_inj (xor_lt32 hc hb) (xor_lt32 hd hb) (nibN_inj (nibN_lt (xor_lt32 hc hb)) (nibN_lt (xor_lt32 hd hb)) h))
theorem crcB_byte {c : Nat} (hc : c < 4294967296) {x y : UInt8} (h : crcB c x = crcB c y) : x = y := by
  have hx : x.toNat < 4294967296 := by have := UInt8.toNat_lt x; omega
  have hy : y.toNat < 4294967296 := by have := UInt8.toNat_lt y; omega
  exact UInt8.toNat_inj.1 (xor_left_eq (nibN_inj (xor_lt32 hc hx) (xor_lt32 hc hy) (nibN_inj (nibN_lt (xor_lt32 hc hx)) (nibN_lt (xor_lt32 hc hy)) h)))
theorem crcF_state : ∀ (l : List UInt8) {c d : Nat}, c < 4294967296 → d < 4294967296 → crcF c l = crcF d l → c = d
  | [], _, _, _, _, h => h
  | b :: l, _, _, hc, hd, h => crcB_state hc hd b (crcF_state l (crcB_lt hc b) (crcB_lt hd b) h)
/-- One byte turned turns the sum. -/
theorem crcL_turned (a b : List UInt8) {x y : UInt8} (h : x ≠ y) : crcL (a ++ x :: b) ≠ crcL (a ++ y :: b) := by
  intro he
  unfold crcL at he
  have h1 := xor_right_eq he
  rw [crcF_append, crcF_append] at h1
  have hc := crcF_lt a (show 4294967295 < 4294967296 by omega)
  exact h (crcB_byte hc (crcF_state b (crcB_lt hc x) (crcB_lt hc y) h1))
/-- What four bytes write tells them apart. -/
theorem numT_inj {a b c d a' b' c' d' : UInt8} {r r' : List UInt8} (h : numT (a :: b :: c :: d :: r) = numT (a' :: b' :: c' :: d' :: r')) : a = a' ∧ b = b' ∧ c = c' ∧ d = d' := by
  simp only [numT] at h
  have := UInt8.toNat_lt a; have := UInt8.toNat_lt b; have := UInt8.toNat_lt c; have := UInt8.toNat_lt d
  have := UInt8.toNat_lt a'; have := UInt8.toNat_lt b'; have := UInt8.toNat_lt c'; have := UInt8.toNat_lt d'
  refine ⟨UInt8.toNat_inj.1 ?_, UInt8.toNat_inj.1 ?_, UInt8.toNat_inj.1 ?_, UInt8.toNat_inj.1 ?_⟩ <;> omega

theorem numT_lt : ∀ l : List UInt8, numT l < 4294967296
  | a :: b :: c :: d :: r => by
    simp only [numT]
    have := UInt8.toNat_lt a; have := UInt8.toNat_lt b; have := UInt8.toNat_lt c; have := UInt8.toNat_lt d
    omega
  | [] => by simp [numT]
  | [_] => by simp [numT]
  | [_, _] => by simp [numT]
  | [_, _, _] => by simp [numT]

/-! ### frames -/
def frameT (p : Txt) : Txt := fourT p.length ++ p ++ fourT (crcL p) ++ [1]
/-- Unframe: the payload, the place behind it, the error. -/
def unframeT (s : Txt) (i : Nat) : Txt × Nat × Nat :=
  if s.length < i + 4 then ([], 0, 20) else
  if numT (s.drop i) = 0 ∨ 1048576 < numT (s.drop i) then ([], 0, 21) else
  if (s.drop (i + 4)).length < numT (s.drop i) + 5 then ([], 0, 20) else
  if (s.drop (i + 4)).getD (numT (s.drop i) + 4) 0 ≠ 1 then ([], 0, 21) else
  if crcL ((s.drop (i + 4)).take (numT (s.drop i))) ≠ numT ((s.drop (i + 4)).drop (numT (s.drop i))) then ([], 0, 22) else
  ((s.drop (i + 4)).take (numT (s.drop i)), i + 9 + numT (s.drop i), 0)
theorem frameT_len (p : Txt) : (frameT p).length = p.length + 9 := by simp [frameT, fourT] <;> omega
/-- A text that has the length, any payload of that length, any sum and the last byte. -/
theorem unframe_at (a q z c : Txt) (h0 : q ≠ []) (h1 : q.length ≤ 1048576) (hz : z.length = 4) :
    unframeT (a ++ (fourT q.length ++ q ++ z ++ [1]) ++ c) a.length = if crcL q = numT z then (q, a.length + 9 + q.length, 0) else ([], 0, 22) := by
  have hq : 0 < q.length := List.length_pos_iff.2 h0
  have e1 : (a ++ (fourT q.length ++ q ++ z ++ [1]) ++ c).drop a.length = fourT q.length ++ (q ++ z ++ [1] ++ c) := by simp
  have e2 : (a ++ (fourT q.length ++ q ++ z ++ [1]) ++ c).drop (a.length + 4) = q ++ z ++ [1] ++ c := by
    rw [← List.drop_drop, e1]
    exact List.drop_left' (fourT_len _)
  have e3 : numT ((a ++ (fourT q.length ++ q ++ z ++ [1]) ++ c).drop a.length) = q.length := by rw [e1]; exact numT_four (by omega) _
  unfold unframeT
  rw [e3, e2]
  have l1 : ¬ (a ++ (fourT q.length ++ q ++ z ++ [1]) ++ c).length < a.length + 4 := by simp [fourT] <;> omega
  have l2 : ¬ (q.length = 0 ∨ 1048576 < q.length) := by omega
  have l3 : ¬ (q ++ z ++ [1] ++ c).length < q.length + 5 := by simp [hz]; omega
  rw [if_neg l1, if_neg l2, if_neg l3]
  have e4 : (q ++ z ++ [1] ++ c).getD (q.length + 4) 0 = 1 := by
    rw [List.getD_eq_getElem?_getD, show q ++ z ++ [1] ++ c = (q ++ z) ++ ([1] ++ c) by simp, List.getElem?_append_right (by simp [hz])]
    simp [hz]
  have e5 : (q ++ z ++ [1] ++ c).take q.length = q := by simp
  have e6 : (q ++ z ++ [1] ++ c).drop q.length = z ++ ([1] ++ c) := by simp
  rw [if_neg (by rw [e4]; decide), e5, e6]
  have e7 : numT (z ++ ([1] ++ c)) = numT z := by
    match z, hz with
    | [z0, z1, z2, z3], _ => rfl
  rw [e7]
  by_cases hc : crcL q = numT z
  · rw [if_neg (by simp [hc]), if_pos hc]
  · rw [if_pos hc, if_neg hc]
theorem unframe_frame (a p c : Txt) (h0 : p ≠ []) (h1 : p.length ≤ 1048576) : unframeT (a ++ frameT p ++ c) a.length = (p, a.length + 9 + p.length, 0) := by
  have h := unframe_at a p (fourT (crcL p)) c h0 h1 (fourT_len _)
  have e : numT (fourT (crcL p)) = crcL p := by
    have := numT_four (crcL_lt p) []
    rwa [List.append_nil] at this
  rw [e, if_pos rfl] at h
  exact h
/-- One byte of the payload or of the sum turned: the frame is told as spoilt. -/
theorem unframe_turned (p : Txt) (h0 : p ≠ []) (h1 : p.length ≤ 1048576) (j : Nat) (hj1 : 4 ≤ j) (hj2 : j < p.length + 8) (y : UInt8) (hy : (frameT p)[j]? ≠ some y) :
    unframeT ((frameT p).set j y) 0 = ([], 0, 22) := by
  obtain ⟨i, rfl⟩ : ∃ i, j = 4 + i := ⟨j - 4, by omega⟩
  by_cases hi : i < p.length
  · have es : (frameT p).set (4 + i) y = fourT (p.set i y).length ++ p.set i y ++ fourT (crcL p) ++ [1] := by
      unfold frameT
      rw [List.length_set, List.append_assoc, List.append_assoc, List.set_append_right _ _ (by rw [fourT_len]; omega), fourT_len, Nat.add_sub_cancel_left, List.set_append_left _ _ hi]
      simp
    have hne : p.set i y ≠ [] := by
      intro h
      have := congrArg List.length h
      rw [List.length_set] at this
      exact h0 (List.eq_nil_of_length_eq_zero this)
    have h := unframe_at [] (p.set i y) (fourT (crcL p)) [] hne (by rw [List.length_set]; exact h1) (fourT_len _)
    rw [List.nil_append, List.append_nil, ← es, List.length_nil] at h
    rw [h]
    have e : numT (fourT (crcL p)) = crcL p := by
      have := numT_four (crcL_lt p) []
      rwa [List.append_nil] at this
    rw [e, if_neg]
    have hx : (frameT p)[4 + i]? = some p[i] := by
      unfold frameT
      rw [List.append_assoc, List.append_assoc, List.getElem?_append_right (by rw [fourT_len]; omega), fourT_len, Nat.add_sub_cancel_left, List.getElem?_append_left hi, List.getElem?_eq_getElem hi]
    have hxy : y ≠ p[i] := fun h => hy (by rw [hx, h])
    have ep : p = p.take i ++ p[i] :: p.drop (i + 1) := by rw [List.getElem_cons_drop, List.take_append_drop]
    have eq : p.set i y = p.take i ++ y :: p.drop (i + 1) := by rw [List.set_eq_take_append_cons_drop, if_pos hi]
    intro hcrc
    rw [eq] at hcrc
    have hcrc2 : crcL (p.take i ++ y :: p.drop (i + 1)) = crcL (p.take i ++ p[i] :: p.drop (i + 1)) := hcrc.trans (congrArg crcL ep)
    exact crcL_turned (p.take i) (p.drop (i + 1)) hxy hcrc2
  · obtain ⟨k, rfl⟩ : ∃ k, i = p.length + k := ⟨i - p.length, by omega⟩
    have hk : k < 4 := by omega
    have es : (frameT p).set (4 + (p.length + k)) y = fourT p.length ++ p ++ (fourT (crcL p)).set k y ++ [1] := by
      unfold frameT
      rw [show fourT p.length ++ p ++ fourT (crcL p) ++ [1] = (fourT p.length ++ p) ++ (fourT (crcL p) ++ [1]) by simp, List.set_append_right _ _ (by simp [fourT_len] <;> omega)]
      rw [show 4 + (p.length + k) - (fourT p.length ++ p).length = k by simp [fourT_len]; omega, List.set_append_left _ _ (by rw [fourT_len]; exact hk)]
      simp
    have h := unframe_at [] p ((fourT (crcL p)).set k y) [] h0 h1 (by rw [List.length_set, fourT_len])
    rw [List.nil_append, List.append_nil, ← es, List.length_nil] at h
    rw [h, if_neg]
    have hx : (frameT p)[4 + (p.length + k)]? = (fourT (crcL p))[k]? := by
      unfold frameT
      rw [show fourT p.length ++ p ++ fourT (crcL p) ++ [1] = (fourT p.length ++ p) ++ (fourT (crcL p) ++ [1]) by simp, List.getElem?_append_right (by simp [fourT_len] <;> omega)]
      rw [show 4 + (p.length + k) - (fourT p.length ++ p).length = k by simp [fourT_len]; omega, List.getElem?_append_left (by rw [fourT_len]; exact hk)]
    rw [hx] at hy
    intro hcrc
    have e : numT (fourT (crcL p)) = crcL p := by
      have := numT_four (crcL_lt p) []
      rwa [List.append_nil] at this
    rw [← e] at hcrc
    apply hy
    have ht := fun z0 z1 z2 z3 => @numT_inj (UInt8.ofNat (crcL p)) (UInt8.ofNat (crcL p / 256)) (UInt8.ofNat (crcL p / 65536)) (UInt8.ofNat (crcL p / 16777216)) z0 z1 z2 z3 [] []
    rcases (show k = 0 ∨ k = 1 ∨ k = 2 ∨ k = 3 by omega) with rfl | rfl | rfl | rfl
    · exact congrArg some (ht _ _ _ _ hcrc).1
    · exact congrArg some (ht _ _ _ _ hcrc).2.1
    · exact congrArg some (ht _ _ _ _ hcrc).2.2.1
    · exact congrArg some (ht _ _ _ _ hcrc).2.2.2
end Go.Proofs.YtfpgbhimgfdddaaGreatDoor
