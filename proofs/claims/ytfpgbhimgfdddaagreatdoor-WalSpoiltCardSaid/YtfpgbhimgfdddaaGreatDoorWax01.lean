/- Merged: FrmPlain, FrmWalks, WalPlain, WalPlain2, WalPlain3, WalNum. -/
import Derived.Test.YtfpgbhimgfdddaaGreatDoorWak14
import Derived.Test.YtfpgbhimgfdddaaGreatDoorWak15
import Derived.Test.YtfpgbhimgfdddaaGreatDoorWak17
import Derived.Lib.Atoi
import Derived.Lib.TrimByte
import Derived.Lib.Strings
set_option linter.unusedVariables false
set_option linter.unusedSimpArgs false
/-! ## FrmPlain -/
/- The plain law of layer 2 (enc): frames; a sum tells one turned byte. No program in sight. -/
namespace Go.Proofs.YtfpgbhimgfdddaaGreatDoor

/-! ### a sum tells one turned byte -/
theorem nibs_top (i : Nat) (h : i < 16) : nibs.getD i 0 >>> 28 = i := by
  revert i
  decide
theorem xor_left_eq {a b c : Nat} (h : a ^^^ b = a ^^^ c) : b = c := by
  have := congrArg (a ^^^ ·) h
  simpa [← Nat.xor_assoc] using this
theorem xor_right_eq {a b c : Nat} (h : b ^^^ a = c ^^^ a) : b = c := xor_left_eq (a := a) (by rwa [Nat.xor_comm a b, Nat.xor_comm a c])
theorem nibN_top {c : Nat} (h : c < 4294967296) : nibN c >>> 28 = c % 16 := by
  unfold nibN
  rw [Nat.shiftRight_xor_distrib, nibs_top _ (by omega), Nat.shiftRight_eq_div_pow, show c / 16 / 2 ^ 28 = 0 by omega, Nat.xor_zero]
theorem nibN_inj {c d : Nat} (hc : c < 4294967296) (hd : d < 4294967296) (h : nibN c = nibN d) : c = d := by
  have h1 : c % 16 = d % 16 := by rw [← nibN_top hc, ← nibN_top hd, h]
  unfold nibN at h
  rw [h1] at h
  have h2 := xor_left_eq h
  omega
theorem crcB_state {c d : Nat} (hc : c < 4294967296) (hd : d < 4294967296) (b : UInt8) (h : crcB c b = crcB d b) : c = d := by
  have hb : b.toNat < 4294967296 := by have := UInt8.toNat_lt b; omega
  exact xor_right_eq (nibN_inj (xor_lt32 hc hb) (xor_lt32 hd hb) (nibN_inj (nibN_lt (xor_lt32 hc hb)) (nibN_lt (xor_lt32 hd hb)) h))
theorem crcB_byte {c : Nat} (hc : c < 4294967296) {x y : UInt8} (h : crcB c x = crcB c y) : x = y := by
  have hx : x.toNat < 4294967296 := by have := UInt8.toNat_lt x; omega
  have hy : y.toNat < 4294967296 := by have := UInt8.toNat_lt y; omega
  exact UInt8.toNat_inj.1 (xor_left_eq (nibN_inj (xor_lt32 hc hx) (xor_lt32 hc hy) (nibN_inj (nibN_lt (xor_lt32 hc hx)) (nibN_lt (xor_lt32 hc hy)) h)))
theorem crcF_state : ∀ (l : List UInt8) {c d : Nat}, c < 4294967296 → d < 4294967296 → crcF c l = crcF d l → c = d
  | [], _, _, _, _, h => h
  | b :: l, _, _, hc, hd, h => crcB_state hc hd b (crcF_state l (crcB_lt hc b) (crcB_lt hd b) h)
/-- One byte turned turns the sum. -/
theorem crcL_turned (a b : List UInt8) {x y : UInt8} (h : x ≠ y) : crcL (a ++ x :: b) ≠ crcL (a ++ y :: b) := by
  intro he
  unfold crcL at he
  have h1 := xor_right_eq he
  rw [crcF_append, crcF_append] at h1
  have hc := crcF_lt a (show 4294967295 < 4294967296 by omega)
  exact h (crcB_byte hc (crcF_state b (crcB_lt hc x) (crcB_lt hc y) h1))
/-- What four bytes write tells them apart. -/
theorem numT_inj {a b c d a' b' c' d' : UInt8} {r r' : List UInt8} (h : numT (a :: b :: c :: d :: r) = numT (a' :: b' :: c' :: d' :: r')) : a = a' ∧ b = b' ∧ c = c' ∧ d = d' := by
  simp only [numT] at h
  have := UInt8.toNat_lt a; have := UInt8.toNat_lt b; have := UInt8.toNat_lt c; have := UInt8.toNat_lt d
  have := UInt8.toNat_lt a'; have := UInt8.toNat_lt b'; have := UInt8.toNat_lt c'; have := UInt8.toNat_lt d'
  refine ⟨UInt8.toNat_inj.1 ?_, UInt8.toNat_inj.1 ?_, UInt8.toNat_inj.1 ?_, UInt8.toNat_inj.1 ?_⟩ <;> omega

theorem numT_lt : ∀ l : List UInt8, numT l < 4294967296
  | a :: b :: c :: d :: r => by
    simp only [numT]
    have := UInt8.toNat_lt a; have := UInt8.toNat_lt b; have := UInt8.toNat_lt c; have := UInt8.toNat_lt d
    omega
  | [] => by simp [numT]
  | [_] => by simp [numT]
  | [_, _] => by simp [numT]
  | [_, _, _] => by simp [numT]

/-! ### frames -/
def frameT (p : Txt) : Txt := fourT p.length ++ p ++ fourT (crcL p) ++ [1]
/-- Unframe: the payload, the place behind it, the error. -/
def unframeT (s : Txt) (i : Nat) : Txt × Nat × Nat :=
  if s.length < i + 4 then ([], 0, 20) else
  if numT (s.drop i) = 0 ∨ 1048576 < numT (s.drop i) then ([], 0, 21) else
  if (s.drop (i + 4)).length < numT (s.drop i) + 5 then ([], 0, 20) else
  if (s.drop (i + 4)).getD (numT (s.drop i) + 4) 0 ≠ 1 then ([], 0, 21) else
  if crcL ((s.drop (i + 4)).take (numT (s.drop i))) ≠ numT ((s.drop (i + 4)).drop (numT (s.drop i))) then ([], 0, 22) else
  ((s.drop (i + 4)).take (numT (s.drop i)), i + 9 + numT (s.drop i), 0)
theorem frameT_len (p : Txt) : (frameT p).length = p.length + 9 := by simp [frameT, fourT] <;> omega
/-- A text that has the length, any payload of that length, any sum and the last byte. -/
theorem unframe_at (a q z c : Txt) (h0 : q ≠ []) (h1 : q.length ≤ 1048576) (hz : z.length = 4) :
    unframeT (a ++ (fourT q.length ++ q ++ z ++ [1]) ++ c) a.length = if crcL q = numT z then (q, a.length + 9 + q.length, 0) else ([], 0, 22) := by
  have hq : 0 < q.length := List.length_pos_iff.2 h0
  have e1 : (a ++ (fourT q.length ++ q ++ z ++ [1]) ++ c).drop a.length = fourT q.length ++ (q ++ z ++ [1] ++ c) := by simp
  have e2 : (a ++ (fourT q.length ++ q ++ z ++ [1]) ++ c).drop (a.length + 4) = q ++ z ++ [1] ++ c := by
    rw [← List.drop_drop, e1]
    exact List.drop_left' (fourT_len _)
  have e3 : numT ((a ++ (fourT q.length ++ q ++ z ++ [1]) ++ c).drop a.length) = q.length := by rw [e1]; exact numT_four (by omega) _
  unfold unframeT
  rw [e3, e2]
  have l1 : ¬ (a ++ (fourT q.length ++ q ++ z ++ [1]) ++ c).length < a.length + 4 := by simp [fourT] <;> omega
  have l2 : ¬ (q.length = 0 ∨ 1048576 < q.length) := by omega
  have l3 : ¬ (q ++ z ++ [1] ++ c).length < q.length + 5 := by simp [hz]; omega
  rw [if_neg l1, if_neg l2, if_neg l3]
  have e4 : (q ++ z ++ [1] ++ c).getD (q.length + 4) 0 = 1 := by
    rw [List.getD_eq_getElem?_getD, show q ++ z ++ [1] ++ c = (q ++ z) ++ ([1] ++ c) by simp, List.getElem?_append_right (by simp [hz])]
    simp [hz]
  have e5 : (q ++ z ++ [1] ++ c).take q.length = q := by simp
  have e6 : (q ++ z ++ [1] ++ c).drop q.length = z ++ ([1] ++ c) := by simp
  rw [if_neg (by rw [e4]; decide), e5, e6]
  have e7 : numT (z ++ ([1] ++ c)) = numT z := by
    match z, hz with
    | [z0, z1, z2, z3], _ => rfl
  rw [e7]
  by_cases hc : crcL q = numT z
  · rw [if_neg (by simp [hc]), if_pos hc]
  · rw [if_pos hc, if_neg hc]
theorem unframe_frame (a p c : Txt) (h0 : p ≠ []) (h1 : p.length ≤ 1048576) : unframeT (a ++ frameT p ++ c) a.length = (p, a.length + 9 + p.length, 0) := by
  have h := unframe_at a p (fourT (crcL p)) c h0 h1 (fourT_len _)
  have e : numT (fourT (crcL p)) = crcL p := by
    have := numT_four (crcL_lt p) []
    rwa [List.append_nil] at this
  rw [e, if_pos rfl] at h
  exact h
/-- One byte of the payload or of the sum turned: the frame is told as spoilt. -/
theorem unframe_turned (p : Txt) (h0 : p ≠ []) (h1 : p.length ≤ 1048576) (j : Nat) (hj1 : 4 ≤ j) (hj2 : j < p.length + 8) (y : UInt8) (hy : (frameT p)[j]? ≠ some y) :
    unframeT ((frameT p).set j y) 0 = ([], 0, 22) := by
  obtain ⟨i, rfl⟩ : ∃ i, j = 4 + i := ⟨j - 4, by omega⟩
  by_cases hi : i < p.length
  · have es : (frameT p).set (4 + i) y = fourT (p.set i y).length ++ p.set i y ++ fourT (crcL p) ++ [1] := by
      unfold frameT
      rw [List.length_set, List.append_assoc, List.append_assoc, List.set_append_right _ _ (by rw [fourT_len]; omega), fourT_len, Nat.add_sub_cancel_left, List.set_append_left _ _ hi]
      simp
    have hne : p.set i y ≠ [] := by
      intro h
      have := congrArg List.length h
      rw [List.length_set] at this
      exact h0 (List.eq_nil_of_length_eq_zero this)
    have h := unframe_at [] (p.set i y) (fourT (crcL p)) [] hne (by rw [List.length_set]; exact h1) (fourT_len _)
    rw [List.nil_append, List.append_nil, ← es, List.length_nil] at h
    rw [h]
    have e : numT (fourT (crcL p)) = crcL p := by
      have := numT_four (crcL_lt p) []
      rwa [List.append_nil] at this
    rw [e, if_neg]
    have hx : (frameT p)[4 + i]? = some p[i] := by
      unfold frameT
      rw [List.append_assoc, List.append_assoc, List.getElem?_append_right (by rw [fourT_len]; omega), fourT_len, Nat.add_sub_cancel_left, List.getElem?_append_left hi, List.getElem?_eq_getElem hi]
    have hxy : y ≠ p[i] := fun h => hy (by rw [hx, h])
    have ep : p = p.take i ++ p[i] :: p.drop (i + 1) := by rw [List.getElem_cons_drop, List.take_append_drop]
    have eq : p.set i y = p.take i ++ y :: p.drop (i + 1) := by rw [List.set_eq_take_append_cons_drop, if_pos hi]
    intro hcrc
    rw [eq] at hcrc
    have hcrc2 : crcL (p.take i ++ y :: p.drop (i + 1)) = crcL (p.take i ++ p[i] :: p.drop (i + 1)) := hcrc.trans (congrArg crcL ep)
    exact crcL_turned (p.take i) (p.drop (i + 1)) hxy hcrc2
  · obtain ⟨k, rfl⟩ : ∃ k, i = p.length + k := ⟨i - p.length, by omega⟩
    have hk : k < 4 := by omega
    have es : (frameT p).set (4 + (p.length + k)) y = fourT p.length ++ p ++ (fourT (crcL p)).set k y ++ [1] := by
      unfold frameT
      rw [show fourT p.length ++ p ++ fourT (crcL p) ++ [1] = (fourT p.length ++ p) ++ (fourT (crcL p) ++ [1]) by simp, List.set_append_right _ _ (by simp [fourT_len] <;> omega)]
      rw [show 4 + (p.length + k) - (fourT p.length ++ p).length = k by simp [fourT_len]; omega, List.set_append_left _ _ (by rw [fourT_len]; exact hk)]
      simp
    have h := unframe_at [] p ((fourT (crcL p)).set k y) [] h0 h1 (by rw [List.length_set, fourT_len])
    rw [List.nil_append, List.append_nil, ← es, List.length_nil] at h
    rw [h, if_neg]
    have hx : (frameT p)[4 + (p.length + k)]? = (fourT (crcL p))[k]? := by
      unfold frameT
      rw [show fourT p.length ++ p ++ fourT (crcL p) ++ [1] = (fourT p.length ++ p) ++ (fourT (crcL p) ++ [1]) by simp, List.getElem?_append_right (by simp [fourT_len] <;> omega)]
      rw [show 4 + (p.length + k) - (fourT p.length ++ p).length = k by simp [fourT_len]; omega, List.getElem?_append_left (by rw [fourT_len]; exact hk)]
    rw [hx] at hy
    intro hcrc
    have e : numT (fourT (crcL p)) = crcL p := by
      have := numT_four (crcL_lt p) []
      rwa [List.append_nil] at this
    rw [← e] at hcrc
    apply hy
    have ht := fun z0 z1 z2 z3 => @numT_inj (UInt8.ofNat (crcL p)) (UInt8.ofNat (crcL p / 256)) (UInt8.ofNat (crcL p / 65536)) (UInt8.ofNat (crcL p / 16777216)) z0 z1 z2 z3 [] []
    rcases (show k = 0 ∨ k = 1 ∨ k = 2 ∨ k = 3 by omega) with rfl | rfl | rfl | rfl
    · exact congrArg some (ht _ _ _ _ hcrc).1
    · exact congrArg some (ht _ _ _ _ hcrc).2.1
    · exact congrArg some (ht _ _ _ _ hcrc).2.2.1
    · exact congrArg some (ht _ _ _ _ hcrc).2.2.2
end Go.Proofs.YtfpgbhimgfdddaaGreatDoor

/-! ## FrmWalks -/
/- The walks of layer 2 (enc): frames. -/
namespace Go.Proofs.YtfpgbhimgfdddaaGreatDoor
open Go.RowKit
attribute [local go_sem ↓] Go.wp_at_zero Go.wp_at_succ
attribute [local go_sem] Later.cell Later.frozen

theorem frame_nil (w : World) :
    Calls Tryz.prog 89 #[.string ⟨#[]⟩] w fun e w' => e = .returned (.tuple #[.string ⟨#[]⟩, .int .i64 21]) ∧ Below w.heap.size w w' := by
  go_enter Tryz.func89, Tryz.ntmps89
  go_wp2_with fail
  go_ret2
  exact ⟨rfl, Below.refl _ _⟩
set_option maxRecDepth 100000 in
set_option maxHeartbeats 1000000 in
theorem frame_good (s : ByteArray) (h0 : 0 < s.size) (h1 : s.size ≤ 1048576) (w : World) (hT : NibTab w) :
    Calls Tryz.prog 89 #[.string s] w fun e w' => e = .returned (.tuple #[.string ⟨(frameT s.data.toList).toArray⟩, .int .i64 0]) ∧ Below w.heap.size w w' := by
  obtain ⟨m, hm⟩ : ∃ m, s.size = m + 1 := ⟨s.size - 1, by omega⟩
  have HT := Lib.hid hT
  have HF1 := Lib.hid (fun w => four_calls (m + 1) (by omega) w)
  have HF2 := Lib.hid (fun w => four_calls (crcL s.data.toList) (crcL_lt _) w)
  obtain ⟨F, hF⟩ : ∃ F : ByteArray, (⟨(fourT (m + 1)).toArray⟩ : ByteArray) = F := ⟨_, rfl⟩
  have hF4 : F.size = 4 := by rw [← hF]; rfl
  obtain ⟨G, hG⟩ : ∃ F : ByteArray, (⟨(fourT (crcL s.data.toList)).toArray⟩ : ByteArray) = F := ⟨_, rfl⟩
  have hG4 : G.size = 4 := by rw [← hG]; rfl
  have hfin : F ++ s ++ G ++ (⟨#[1]⟩ : ByteArray) = (⟨(frameT s.data.toList).toArray⟩ : ByteArray) := bytes_eq (by rw [← hG, ← hF, ← hm]; simp [frameT, ByteArray.data_append])
  have HFIN := Lib.hid hfin
  rw [hF] at HF1
  rw [hG] at HF2
  have hm2 : m + 1 ≤ 1048576 := by omega
  have d1 : decide ((1048576 : Int) < (m : Int) + 1) = false := by simp; omega
  have d2 : decide ((1048576 : Int) < ((m + 1 : Nat) : Int)) = false := by simp; omega
  clear hfin hF hG h1 h0 hT
  go_enter Tryz.func89, Tryz.ntmps89
  go_wp2_with fail
  refine (HF1.out w).mono ?_
  rintro _ w1 ⟨rfl, hb1⟩
  have HB1 := Lib.hid hb1
  clear hb1
  go_wp2_with fail
  refine (crc_one (c := 1) (Blk.new w1 _ _) (by omega) ((HT.out.below HT.out.lt HB1.out).below (HT.out.below HT.out.lt HB1.out).lt ((Below.refl _ _).alloc (Nat.le_refl _) _))).mono ?_
  rintro _ w2 ⟨rfl, rfl⟩
  have HB2 : Hid (Below w.heap.size w (w1.alloc (.cells #[.string s] 9))) := Lib.hid (HB1.out.alloc HB1.out.size _)
  go_wp2_with fail
  refine (HF2.out _).mono ?_
  rintro _ w3 ⟨rfl, hb3⟩
  have HB3 := Lib.hid (then_ HB2.out hb3)
  clear hb3
  go_wp2_with fail
  rw [HFIN.out]
  go_ret2
  exact ⟨rfl, HB3.out⟩
set_option maxRecDepth 100000 in
set_option maxHeartbeats 4000000 in
theorem unframe_calls (s : ByteArray) (i : Nat) (hi : i ≤ s.size) (hs : s.size ≤ 140737488351232) (w : World) (hT : NibTab w) :
    Calls Tryz.prog 155 #[.string s, .int .i64 (i : Int)] w fun e w' => e = .returned (.tuple #[txtV (unframeT s.data.toList i).1, .int .i64 ((unframeT s.data.toList i).2.1 : Int), .int .i64 ((unframeT s.data.toList i).2.2 : Int)]) ∧ Below w.heap.size w w' := by
  obtain ⟨n, hn⟩ : ∃ n, s.size = n := ⟨_, rfl⟩
  obtain ⟨q, hq⟩ : ∃ q, n = i + q := ⟨n - i, by omega⟩
  have eq_ : (n : Int) - (i : Int) = (q : Int) := by omega
  have d1 : decide ((i : Int) < 0) = false := by simp
  have d2 : decide ((n : Int) < (i : Int)) = false := by simp; omega
  have HT := Lib.hid hT
  clear hT
  obtain ⟨r, hr⟩ : ∃ r, unframeT s.data.toList i = r := ⟨_, rfl⟩
  by_cases h4 : q < 4
  · have d3 : decide ((q : Int) < 4) = true := by simp; omega
    have hu : unframeT s.data.toList i = ([], 0, 20) := by unfold unframeT; rw [if_pos (by rw [text_size3]; omega)]
    rw [hu]
    clear hu hr
    go_enter Tryz.func155, Tryz.ntmps155
    go_wp2_with fail
    go_ret3
    exact ⟨rfl, Below.refl _ _⟩
  have d3 : decide ((q : Int) < 4) = false := by simp; omega
  obtain ⟨m, hm⟩ : ∃ m, q = m + 4 := ⟨q - 4, by omega⟩
  obtain ⟨j, hj⟩ : ∃ j, i + 4 = j := ⟨_, rfl⟩
  have e4 : (i : Int) + 4 = (j : Int) := by omega
  obtain ⟨X, hX⟩ : ∃ X, s.extract i n = X := ⟨_, rfl⟩
  obtain ⟨R, hR⟩ : ∃ X, s.extract j n = X := ⟨_, rfl⟩
  have hXl : X.data.toList = s.data.toList.drop i := by rw [← hX, ← hn]; exact drop_bytes s i
  have hRl : R.data.toList = s.data.toList.drop j := by rw [← hR, ← hn]; exact drop_bytes s j
  have hXs : X.size = q := by rw [← text_size3, hXl, List.length_drop, text_size3]; omega
  have hRs : R.size = m := by rw [← text_size3, hRl, List.length_drop, text_size3]; omega
  obtain ⟨k, hk⟩ : ∃ k, numT X.data.toList = k := ⟨_, rfl⟩
  have hu : r = if k = 0 ∨ 1048576 < k then ([], 0, 21) else if m < k + 5 then ([], 0, 20) else if R.data.toList.getD (k + 4) 0 ≠ 1 then ([], 0, 21) else
      if crcL (R.data.toList.take k) ≠ numT (R.data.toList.drop k) then ([], 0, 22) else (R.data.toList.take k, i + 9 + k, 0) := by
    rw [← hr]
    unfold unframeT
    rw [if_neg (by rw [text_size3]; omega), ← hXl, hk, hj, ← hRl, text_size3, hRs]
  have HM := Lib.hid (fun w' => number_calls X (by omega) (by omega) w')
  rw [hk] at HM
  have hk32 : k < 4294967296 := by rw [← hk]; exact numT_lt _
  have HU := Lib.hid hu
  have HX := Lib.hid hX
  have HR := Lib.hid hR
  rw [hr]
  have b0 : (0 : Int) ≤ (i : Int) := by omega
  have b1 : (i : Int) ≤ (n : Int) := by omega
  have b2 : (0 : Int) ≤ (j : Int) := by omega
  have b3 : (j : Int) ≤ (n : Int) := by omega
  have b4 : i ≤ n := by omega
  have b5 : j ≤ n := by omega
  have b6 : (i : Int) ≤ (s.size : Int) := by omega
  have b7 : (j : Int) ≤ (s.size : Int) := by omega
  have b8 : i ≤ s.size := by omega
  have b9 : j ≤ s.size := by omega
  have b10 : IntKind.i64.wrap ((i : Int) + 4) = (j : Int) := by rw [e4]; exact IntWalk.i64_in _ (by omega)
  have hmz : m ≤ 140737488351232 := by omega
  have hiz : i ≤ 140737488351232 := by omega
  have HM4 := Lib.hid hm
  have HQ := Lib.hid hq
  clear hu hr hk hXl hRl h4 hm hq
  go_enter Tryz.func155, Tryz.ntmps155
  go_upto_region 3 with fail
  refine wp_region_later (by kernel_rfl) (by kernel_rfl) ?_
  repeat (go_big_quiet_step ((go_at_call 109; (try rw [HX.out]); exact quiet_same _ (HM.out _))))
  refine wpQuiet_nil ?_
  rintro w1 ⟨⟨w1, hb1⟩, rfl⟩
  have HB1 := Lib.hid hb1
  have HT1 := Lib.hid (HT.out.below HT.out.lt hb1)
  clear hb1
  clear b0 b1 b2 b3 b4 b5 b6 b7 b8 b9 b10 d1 d2 d3 e4 eq_ hj hX hR hXs hn hi
  by_cases hk0 : k = 0
  · have hr0 : r = ([], 0, 21) := by rw [HU.out, if_pos (.inl hk0)]
    subst hk0
    subst hr0
    go_wp2_with fail
    go_ret3
    exact ⟨rfl, HB1.out⟩
  have f1 : (k : Int) ≠ 0 := by omega
  have f2 : ((k : Int) == 0) = false := by simpa using f1
  have f3 : decide ((k : Int) = 0) = false := by simpa using f1
  by_cases hk1 : 1048576 < k
  · have hr0 : r = ([], 0, 21) := by rw [HU.out, if_pos (.inr hk1)]
    have f4 : decide ((1048576 : Int) < (k : Int)) = true := by simp; omega
    subst hr0
    go_wp2_with fail
    go_ret3
    exact ⟨rfl, HB1.out⟩
  have f4 : decide ((1048576 : Int) < (k : Int)) = false := by simp; omega
  have hkn : ¬ (k = 0 ∨ 1048576 < k) := by omega
  by_cases hk2 : m < k + 5
  · have hr0 : r = ([], 0, 20) := by rw [HU.out, if_neg hkn, if_pos hk2]
    have f5 : decide ((m : Int) - 5 < (k : Int)) = true := by simp; omega
    subst hr0
    go_wp2_with fail
    go_ret3
    exact ⟨rfl, HB1.out⟩
  have f5 : decide ((m : Int) - 5 < (k : Int)) = false := by simp; omega
  obtain ⟨u, hu⟩ : ∃ u, k + 4 = u := ⟨_, rfl⟩
  have g1 : (k : Int) + 4 = (u : Int) := by omega
  have g2 : u < R.size := by omega
  have hb8 := UInt8.toNat_lt R[u]
  have hgd : R.data.toList.getD (k + 4) 0 = R[u] := by
    rw [List.getD_eq_getElem?_getD, hu, List.getElem?_eq_getElem (by rw [text_size3]; exact g2)]
    simp [ByteArray.getElem_eq_getElem_data]
  by_cases hk3 : R[u] = 1
  · have f6 : ((R[u].toNat : Int) != 1) = false := by rw [hk3]; rfl
    have f7 : ((R[u].toNat : Int) == 1) = true := by rw [hk3]; rfl
    have f8 : decide ((R[u].toNat : Int) = 1) = true := by rw [hk3]; rfl
    obtain ⟨P, hP⟩ : ∃ X, R.extract 0 k = X := ⟨_, rfl⟩
    obtain ⟨Y, hY⟩ : ∃ X, R.extract k m = X := ⟨_, rfl⟩
    have hPl : P.data.toList = R.data.toList.take k := by rw [← hP]; exact take_bytes R k
    have hYl : Y.data.toList = R.data.toList.drop k := by rw [← hY, ← hRs]; exact drop_bytes R k
    have hPs : P.size = k := by rw [← text_size3, hPl, List.length_take, text_size3]; omega
    have hYs : Y.size = m - k := by rw [← text_size3, hYl, List.length_drop, text_size3]; omega
    have hr1 : r = if crcL P.data.toList ≠ numT Y.data.toList then ([], 0, 22) else (P.data.toList, i + 9 + k, 0) := by
      rw [HU.out, if_neg hkn, if_neg hk2, if_neg (by rw [hgd]; simpa using hk3), hPl, hYl]
    have HP := Lib.hid hP
    have HY := Lib.hid hY
    have HR1 := Lib.hid hr1
    have HN2 := Lib.hid (fun w' => number_calls Y (by omega) (by have := HM4.out; have := HQ.out; omega) w')
    have b0 : (0 : Int) ≤ (k : Int) := by omega
    have b1 : (k : Int) ≤ (m : Int) := by omega
    have b2 : k ≤ m := by omega
    obtain ⟨c1, hc1⟩ : ∃ c, crcL P.data.toList = c := ⟨_, rfl⟩
    obtain ⟨c2, hc2⟩ : ∃ c, numT Y.data.toList = c := ⟨_, rfl⟩
    rw [hc2] at HN2
    rw [hc1, hc2] at HR1
    have HC1 := Lib.hid hc1
    clear hr1 hgd hPl hYl hP hY hc1 hc2 hk3 hkn hk0 hk1 hk2
    go_upto_region 10 with fail
    have hb2 : Below w1.heap.size w1 (w1.alloc (.cells #[.string P] 9)).drew := ((Below.refl _ _).alloc (Nat.le_refl _) _).drew
    have hk2 : Blk (w1.alloc (.cells #[.string P] 9)).drew w1.heap.size 9 #[.string P] := Blk.new _ _ _
    have HC := Lib.hid (crc_one (c := 1) hk2 (by omega) (HT1.out.below HT1.out.lt hb2))
    rw [HC1.out] at HC
    have HB2 := Lib.hid (then_ HB1.out hb2)
    clear hk2 hb2
    have hP := HP.out
    have hY := HY.out
    go_region_held3 (fun _ => True) (go_keep) (first | (go_at_call 102; (try rw [HP.out]); with_reducible refine HC.out.mono ?_; rintro e w2 ⟨rfl, rfl⟩) | (go_at_call 109; (try rw [HY.out]); with_reducible refine (HN2.out _).mono ?_; rintro e w3 ⟨rfl, rfl⟩))
    by_cases hcc : c1 = c2
    · subst hcc
      have e1 : ((c1 : Int) != (c1 : Int)) = false := by simp
      have hr0 : r = (P.data.toList, i + 9 + k, 0) := by rw [HR1.out, if_neg (by simp)]
      have hPv : txtV P.data.toList = .string P := by unfold txtV; rfl
      subst hr0
      have HPV := Lib.hid hPv
      clear hPv
      go_wp2_with fail
      go_ret3
      refine ⟨?_, HB2.out⟩
      rw [HPV.out]
      exact congrArg (fun x => Ending.returned (.tuple #[.string P, .int .i64 x, .int .i64 0])) (by omega)
    · have e1 : ((c1 : Int) != (c2 : Int)) = true := by simp; omega
      have hr0 : r = ([], 0, 22) := by rw [HR1.out, if_pos hcc]
      subst hr0
      go_wp2_with fail
      go_ret3
      exact ⟨rfl, HB2.out⟩
  · have hr0 : r = ([], 0, 21) := by rw [HU.out, if_neg hkn, if_neg hk2, if_pos (by rw [hgd]; exact hk3)]
    have hne : R[u].toNat ≠ 1 := fun e => hk3 (UInt8.toNat_inj.1 e)
    obtain ⟨b, hb⟩ : ∃ b, R[u].toNat = b := ⟨_, rfl⟩
    have f6 : ((R[u].toNat : Int) != 1) = true := by simp; omega
    have f7 : ((R[u].toNat : Int) == 1) = false := by simp; omega
    have f8 : decide ((R[u].toNat : Int) = 1) = false := by simp; omega
    subst hr0
    clear hb hk3 hne hgd
    go_wp2_with fail
    go_ret3
    exact ⟨rfl, HB1.out⟩
end Go.Proofs.YtfpgbhimgfdddaaGreatDoor

/-! ## WalPlain -/
/- The plain law of layer 16 (wal): the names of segments and their order; a directory of segments. No program in sight. -/
namespace Go.Proofs.YtfpgbhimgfdddaaGreatDoor

/-! ### names of segments -/
def sS : Txt := [115]
theorem lt_app_left {x y : Txt} (h : x < y) : ∀ l : Txt, l ++ x < l ++ y
  | [] => h
  | c :: l => List.cons_lt_cons_iff.2 (.inr ⟨rfl, lt_app_left h l⟩)
theorem lt_app_right : ∀ {l m : Txt}, l.length = m.length → l < m → ∀ x y : Txt, l ++ x < m ++ y
  | [], [], _, h, _, _ => absurd h (List.not_lt_nil _)
  | c :: l, e :: m, hl, h, x, y => by
    rcases List.cons_lt_cons_iff.1 h with h1 | ⟨h0, h1⟩
    · exact List.cons_lt_cons_iff.2 (.inl h1)
    · exact List.cons_lt_cons_iff.2 (.inr ⟨h0, lt_app_right (by simpa using hl) h1 x y⟩)
  | [], _ :: _, hl, _, _, _ => by simp at hl
  | _ :: _, [], hl, _, _, _ => by simp at hl
theorem padN_lt : ∀ {k a b : Nat}, a < b → b < 10 ^ k → padN k a < padN k b
  | 0, a, b, h, hb => by simp at hb; omega
  | k + 1, a, b, h, hb => by
    rw [padN, padN]
    rw [Nat.pow_succ] at hb
    by_cases h1 : a / 10 < b / 10
    · exact lt_app_right (by rw [padN_len, padN_len]) (padN_lt h1 (by omega)) _ _
    · have e : a / 10 = b / 10 := by omega
      rw [e]
      refine lt_app_left (List.cons_lt_cons_iff.2 (.inl ?_)) _
      rw [UInt8.lt_iff_toNat_lt, UInt8.toNat_ofNat', UInt8.toNat_ofNat']
      omega
theorem padN_inj {k a b : Nat} (ha : a < 10 ^ k) (hb : b < 10 ^ k) (h : padN k a = padN k b) : a = b := by
  rcases Nat.lt_trichotomy a b with h1 | h1 | h1
  · have := padN_lt h1 hb
    rw [h] at this
    exact absurd this (List.lt_irrefl _)
  · exact h1
  · have := padN_lt h1 ha
    rw [h] at this
    exact absurd this (List.lt_irrefl _)
theorem segT_good {n : Nat} (h1 : 1 ≤ n) (h2 : n ≤ 99999999) : nameT sS (n : Int) = sS ++ padN 8 n := by
  unfold nameT
  rw [if_neg (by omega)]
  rfl
theorem segT_inj {a b : Nat} (ha1 : 1 ≤ a) (ha2 : a ≤ 99999999) (hb1 : 1 ≤ b) (hb2 : b ≤ 99999999) (h : nameT sS (a : Int) = nameT sS (b : Int)) : a = b := by
  rw [segT_good ha1 ha2, segT_good hb1 hb2] at h
  exact padN_inj (k := 8) (by omega) (by omega) (List.append_cancel_left h)
theorem segT_lt {a b : Nat} (ha1 : 1 ≤ a) (h : a < b) (hb2 : b ≤ 99999999) : nameT sS (a : Int) < nameT sS (b : Int) := by
  rw [segT_good ha1 (by omega), segT_good (by omega) hb2]
  exact lt_app_left (padN_lt h (by omega)) _
theorem segT_len {n : Nat} (h1 : 1 ≤ n) (h2 : n ≤ 99999999) : (nameT sS (n : Int)).length = 9 := by
  rw [segT_good h1 h2, List.length_append, padN_len]
  rfl

/-! ### a directory of segments -/
/-- A segment: its number, its file's. -/
structure Sg where
  n : Nat
  i : Nat
def wP (dir : Txt) (n : Int) : Txt := dir ++ [47] ++ nameT sS n
def wThings (dir : Txt) (l : List Sg) : List Th := ⟨dir, true, 0⟩ :: l.map fun g => ⟨wP dir (g.n : Int), false, g.i⟩
structure SgOk (l : List Sg) : Prop where
  asc : l.Pairwise fun a b => a.n < b.n
  rng : ∀ g ∈ l, 1 ≤ g.n ∧ g.n ≤ 99999999
theorem wP_inj {dir : Txt} {a b : Nat} (ha1 : 1 ≤ a) (ha2 : a ≤ 99999999) (hb1 : 1 ≤ b) (hb2 : b ≤ 99999999) (h : wP dir (a : Int) = wP dir (b : Int)) : a = b :=
  segT_inj ha1 ha2 hb1 hb2 (List.append_cancel_left h)
theorem wP_dir (dir : Txt) (n : Int) : wP dir n ≠ dir := by
  intro h
  have := congrArg List.length h
  simp [wP] at this
theorem sg_find {dir : Txt} : ∀ {l : List Sg} {g : Sg}, SgOk l → g ∈ l → (l.map fun g => (⟨wP dir (g.n : Int), false, g.i⟩ : Th)).find? (fun x => x.path == wP dir (g.n : Int)) = some ⟨wP dir (g.n : Int), false, g.i⟩
  | x :: l, g, h, hg => by
    rcases List.mem_cons.1 hg with rfl | hg'
    · simp
    · have hx := h.rng x (List.mem_cons_self ..)
      have hgr := h.rng g hg
      have hlt := (List.pairwise_cons.1 h.asc).1 g hg'
      have hne : ¬ wP dir (x.n : Int) = wP dir (g.n : Int) := fun e => by
        have := wP_inj hx.1 hx.2 hgr.1 hgr.2 e
        omega
      rw [List.map_cons, List.find?_cons_of_neg (by simpa using hne)]
      exact sg_find ⟨(List.pairwise_cons.1 h.asc).2, fun y hy => h.rng y (List.mem_cons_of_mem _ hy)⟩ hg'
theorem w_find {dir : Txt} {l : List Sg} {g : Sg} (h : SgOk l) (hg : g ∈ l) : findT (wThings dir l) (wP dir (g.n : Int)) = some ⟨wP dir (g.n : Int), false, g.i⟩ := by
  unfold findT wThings
  rw [List.find?_cons_of_neg (by simpa using (wP_dir dir g.n).symm)]
  exact sg_find h hg
theorem w_none {dir : Txt} {l : List Sg} {n : Nat} (h : SgOk l) (h1 : 1 ≤ n) (h2 : n ≤ 99999999) (hn : ∀ g ∈ l, g.n ≠ n) : findT (wThings dir l) (wP dir (n : Int)) = none := by
  unfold findT wThings
  rw [List.find?_cons_of_neg (by simpa using (wP_dir dir n).symm), List.find?_eq_none]
  intro x hx
  obtain ⟨g, hg, rfl⟩ := List.mem_map.1 hx
  have hr := h.rng g hg
  simp only [beq_iff_eq]
  exact fun e => hn g hg (wP_inj hr.1 hr.2 h1 h2 e)
theorem w_finddir (dir : Txt) (l : List Sg) : findT (wThings dir l) dir = some ⟨dir, true, 0⟩ := by
  unfold findT wThings
  rw [List.find?_cons_of_pos (by simp)]
theorem ins_last {x : En} : ∀ {acc : List En}, (∀ y ∈ acc, ¬ x.name < y.name) → insE x acc = acc ++ [x]
  | [], _ => rfl
  | y :: acc, h => by
    rw [insE, if_neg (h y (List.mem_cons_self ..)), ins_last fun z hz => h z (List.mem_cons_of_mem _ hz)]
    rfl
theorem sort_asc : ∀ (l acc : List En), (acc ++ l).Pairwise (fun a b => a.name < b.name) → l.foldl (fun acc x => insE x acc) acc = acc ++ l
  | [], acc, _ => by simp
  | x :: l, acc, h => by
    have h1 : ∀ y ∈ acc, ¬ x.name < y.name := fun y hy hlt => by
      have := (List.pairwise_append.1 h).2.2 y hy x (List.mem_cons_self ..)
      exact absurd hlt (List.lt_asymm this)
    rw [List.foldl_cons, ins_last h1, sort_asc l (acc ++ [x]) (by simpa using h)]
    simp
theorem inside_wP (dir : Txt) (n : Int) : insideB (wP dir n) dir = true := by
  unfold insideB wP
  simp
theorem inside_self (dir : Txt) : insideB dir dir = false := by
  unfold insideB
  rw [Bool.eq_false_iff]
  intro h
  have := (List.isPrefixOf_iff_prefix.1 h).length_le
  simp only [List.length_append, List.length_cons, List.length_nil] at this
  omega
theorem w_list {d : Ds} {dir : Txt} {l : List Sg} (hoff : d.off = false) (hdir : nameB dir = true) (ht : d.things = wThings dir l) (h : SgOk l) :
    listD d dir = (l.map fun g => ⟨nameT sS (g.n : Int), false, (nowAt d g.i).length⟩, 0) := by
  have hne : dir ≠ [] := by
    rintro rfl
    simp [nameB] at hdir
  have hent : entD d dir = l.map fun g => ⟨nameT sS (g.n : Int), false, (nowAt d g.i).length⟩ := by
    unfold entD
    rw [ht]
    unfold wThings
    rw [List.filterMap_cons]
    simp only [hne, if_false, inside_self]
    rw [List.filterMap_map]
    have : ∀ g : Sg, ((fun x : Th => if insideB x.path dir = true then some (⟨x.path.drop (dir.length + 1), x.dir, if x.dir then 0 else (nowAt d x.at_).length⟩ : En) else none) ∘ fun g : Sg => (⟨wP dir (g.n : Int), false, g.i⟩ : Th)) g = some ⟨nameT sS (g.n : Int), false, (nowAt d g.i).length⟩ := fun g => by
      have e : (wP dir (g.n : Int)).drop (dir.length + 1) = nameT sS (g.n : Int) := by
        unfold wP
        exact List.drop_left' (by simp)
      simp only [Function.comp, inside_wP, if_true, e]
      rfl
    simp only [Function.comp_def] at this ⊢
    simp only [this]
    exact List.filterMap_eq_map' |>.symm ▸ rfl
  unfold listD
  rw [hoff, ht]
  have h2 : isT (wThings dir l) dir = 2 := by unfold isT; rw [w_finddir]; rfl
  simp only [hdir, h2, hent]
  simp
  unfold sortE
  rw [sort_asc _ []]
  · simp
  · rw [List.nil_append, List.pairwise_map]
    refine h.asc.imp_of_mem fun ha hb hab => ?_
    exact segT_lt (h.rng _ ha).1 hab (h.rng _ hb).2
end Go.Proofs.YtfpgbhimgfdddaaGreatDoor

/-! ## WalPlain2 -/
/- The plain law of layer 16 (wal): what each call of the disk does to a directory of segments. No program in sight. -/
namespace Go.Proofs.YtfpgbhimgfdddaaGreatDoor

theorem segT_name {n : Nat} (h1 : 1 ≤ n) (h2 : n ≤ 99999999) : nameB (nameT sS (n : Int)) = true := by
  rw [segT_good h1 h2]
  unfold nameB
  rw [List.all_append, padN_name]
  simp [sS, padN_len, nameC]
theorem rest_wP {n : Nat} (h1 : 1 ≤ n) (h2 : n ≤ 99999999) : Rest ([47] ++ nameT sS (n : Int)) := ⟨⟨_, rfl, segT_name h1 h2⟩⟩
theorem wP_eq (dir : Txt) (n : Int) : wP dir n = dir ++ ([47] ++ nameT sS n) := by unfold wP; simp
/-- A disk whose things are one directory of segments; nothing is foreseen to go off. -/
structure WalD (dir : Txt) (l : List Sg) (C : Nat → Txt) (d : Ds) : Prop where
  off : d.off = false
  aw : d.await = 0
  nm : nameB dir = true
  th : d.things = wThings dir l
  ok : SgOk l
  lt : ∀ g ∈ l, g.i < d.files.length
  ne : l.Pairwise fun a b => a.i ≠ b.i
  now : ∀ g ∈ l, (fAt d g.i).now = C g.n
section
variable {dir : Txt} {l : List Sg} {C : Nat → Txt} {d : Ds} {g : Sg}
theorem WalD.path (h : WalD dir l C d) {n : Nat} (h1 : 1 ≤ n) (h2 : n ≤ 99999999) : pathB (wP dir (n : Int)) = true := by
  rw [wP_eq]
  exact (rest_wP h1 h2).path h.nm
theorem WalD.parent (h : WalD dir l C d) {n : Nat} (h1 : 1 ≤ n) (h2 : n ≤ 99999999) : parentB d.things (wP dir (n : Int)) = true := by
  unfold parentB
  rw [wP_eq, (rest_wP h1 h2).slash h.nm]
  simp only [List.take_left]
  rw [h.th]
  unfold isT
  rw [w_finddir]
  rfl
theorem WalD.file (h : WalD dir l C d) (hg : g ∈ l) : fileD d (wP dir (g.n : Int)) = .ok g.i :=
  file_ok h.off (h.path (h.ok.rng g hg).1 (h.ok.rng g hg).2) (by rw [h.th]; exact w_find h.ok hg)
theorem WalD.all (h : WalD dir l C d) (hg : g ∈ l) : allD d (wP dir (g.n : Int)) = (C g.n, 0) := by
  rw [all_some (h.file hg), h.now g hg]
theorem WalD.used (h : WalD dir l C d) : usedD d = (l.map fun g => (C g.n).length).sum := by
  unfold usedD usedL
  rw [h.off, h.th]
  simp only [Bool.false_eq_true, if_false]
  unfold wThings
  rw [List.map_cons, List.map_map, List.sum_cons, if_pos rfl, Nat.zero_add]
  congr 1
  refine List.map_congr_left fun g hg => ?_
  have := h.now g hg
  show (nowAt d g.i).length = _
  rw [← this]
  rfl
theorem WalD.list (h : WalD dir l C d) : listD d dir = (l.map fun g => ⟨nameT sS (g.n : Int), false, (nowAt d g.i).length⟩, 0) := w_list h.off h.nm h.th h.ok
theorem WalD.is_none (h : WalD dir l C d) {n : Nat} (h1 : 1 ≤ n) (h2 : n ≤ 99999999) (hn : ∀ g ∈ l, g.n ≠ n) : isT d.things (wP dir (n : Int)) = 0 := by
  unfold isT
  rw [h.th, w_none h.ok h1 h2 hn]
theorem WalD.syncNames (h : WalD dir l C d) : (syncNamesD d).1 = 0 ∧ WalD dir l C (syncNamesD d).2 ∧ (syncNamesD d).2.cap = d.cap := by
  have e : syncNamesD d = (0, { tickD d with safe := d.things, steps := [] }) := by
    rw [syncNames_ok h.off, if_neg (by rw [h.aw]; decide)]
  rw [e]
  exact ⟨rfl, ⟨h.off, by show d.await - 1 = 0; rw [h.aw], h.nm, h.th, h.ok, h.lt, h.ne, h.now⟩, rfl⟩
theorem WalD.create (h : WalD dir l C d) {n : Nat} (h1 : 1 ≤ n) (h2 : n ≤ 99999999) (hn : ∀ g ∈ l, g.n < n) :
    (createD d (wP dir (n : Int))).1 = 0 ∧ WalD dir (l ++ [⟨n, d.files.length⟩]) (fun k => if k = n then [] else C k) (createD d (wP dir (n : Int))).2 ∧ (createD d (wP dir (n : Int))).2.cap = d.cap := by
  have e := create_ok h.off (h.path h1 h2) (h.parent h1 h2) (h.is_none h1 h2 fun g hg => by have := hn g hg; omega)
  rw [if_neg (by rw [h.aw]; decide)] at e
  rw [e]
  refine ⟨rfl, ⟨h.off, by show d.await - 1 = 0; rw [h.aw], h.nm, ?_, ⟨?_, ?_⟩, ?_, ?_, ?_⟩, rfl⟩
  · show d.things ++ [_] = _
    rw [h.th]
    simp [wThings]
  · refine List.pairwise_append.2 ⟨h.ok.asc, List.pairwise_singleton _ _, fun a ha b hb => ?_⟩
    obtain rfl := List.mem_singleton.1 hb
    exact hn a ha
  · intro g hg
    rcases List.mem_append.1 hg with hg | hg
    · exact h.ok.rng g hg
    · obtain rfl := List.mem_singleton.1 hg
      exact ⟨h1, h2⟩
  · intro g hg
    show g.i < (d.files ++ [_]).length
    rw [List.length_append, List.length_singleton]
    rcases List.mem_append.1 hg with hg | hg
    · have := h.lt g hg; omega
    · obtain rfl := List.mem_singleton.1 hg
      dsimp only
      omega
  · refine List.pairwise_append.2 ⟨h.ne, List.pairwise_singleton _ _, fun a ha b hb => ?_⟩
    obtain rfl := List.mem_singleton.1 hb
    have := h.lt a ha
    dsimp only
    omega
  · intro g hg
    show (((d.files ++ [(⟨[], [], []⟩ : By)])[g.i]?).getD default).now = _
    rcases List.mem_append.1 hg with hg | hg
    · have h3 := h.lt g hg
      have h4 := hn g hg
      rw [List.getElem?_append_left h3, if_neg (by omega)]
      exact h.now g hg
    · obtain rfl := List.mem_singleton.1 hg
      rw [List.getElem?_append_right (Nat.le_refl _), if_pos rfl]
      simp
/-- A file set: its content is another. -/
theorem WalD.set (h : WalD dir l C d) (hg : g ∈ l) (f : By) : WalD dir l (fun k => if k = g.n then f.now else C k) (setF (tickD d) g.i f) := by
  refine ⟨h.off, by show d.await - 1 = 0; rw [h.aw], h.nm, h.th, h.ok, fun x hx => ?_, h.ne, fun x hx => ?_⟩
  · show x.i < (d.files.set _ _).length
    rw [List.length_set]
    exact h.lt x hx
  · show (((d.files.set g.i f)[x.i]?).getD default).now = _
    by_cases hxg : x.n = g.n
    · have hxe : x = g := by
        rcases List.mem_iff_getElem.1 hx with ⟨i, hi, rfl⟩
        rcases List.mem_iff_getElem.1 hg with ⟨j, hj, rfl⟩
        rcases Nat.lt_trichotomy i j with hij | rfl | hij
        · have := List.pairwise_iff_getElem.1 h.ok.asc i j hi hj hij; omega
        · rfl
        · have := List.pairwise_iff_getElem.1 h.ok.asc j i hj hi hij; omega
      subst hxe
      rw [if_pos rfl, List.getElem?_set_self (h.lt x hx)]
      rfl
    · have hi : g.i ≠ x.i := by
        rcases List.mem_iff_getElem.1 hx with ⟨i, hi, rfl⟩
        rcases List.mem_iff_getElem.1 hg with ⟨j, hj, rfl⟩
        rcases Nat.lt_trichotomy i j with hij | rfl | hij
        · exact (List.pairwise_iff_getElem.1 h.ne i j hi hj hij).symm
        · exact absurd rfl hxg
        · exact List.pairwise_iff_getElem.1 h.ne j i hj hi hij
      rw [if_neg hxg, List.getElem?_set_ne hi]
      exact h.now x hx
theorem WalD.append (h : WalD dir l C d) (hg : g ∈ l) (x : Txt) (hc : usedD d + x.length ≤ d.cap) :
    (appendD d (wP dir (g.n : Int)) x).1 = 0 ∧ WalD dir l (fun k => if k = g.n then C g.n ++ x else C k) (appendD d (wP dir (g.n : Int)) x).2 ∧ (appendD d (wP dir (g.n : Int)) x).2.cap = d.cap := by
  have e := append_ok (h.file hg) x hc
  rw [if_neg (by rw [h.aw]; decide)] at e
  rw [e]
  have h2 := h.set hg { fAt d g.i with now := (fAt d g.i).now ++ x, steps := (fAt d g.i).steps ++ [⟨x, false, 0⟩] }
  simp only [h.now g hg] at h2
  refine ⟨rfl, ?_, rfl⟩
  simp only [h.now g hg]
  exact h2
theorem WalD.sync (h : WalD dir l C d) (hg : g ∈ l) :
    (syncD d (wP dir (g.n : Int))).1 = 0 ∧ WalD dir l C (syncD d (wP dir (g.n : Int))).2 ∧ (syncD d (wP dir (g.n : Int))).2.cap = d.cap := by
  have e := sync_ok (h.file hg)
  rw [if_neg (by rw [h.aw]; decide)] at e
  rw [e]
  have h2 := h.set hg ⟨(fAt d g.i).now, (fAt d g.i).now, []⟩
  refine ⟨rfl, ⟨h2.off, h2.aw, h2.nm, h2.th, h2.ok, h2.lt, h2.ne, fun x hx => ?_⟩, rfl⟩
  rw [h2.now x hx]
  dsimp only
  split
  · rename_i e2
    rw [h.now g hg, e2]
  · rfl
theorem WalD.cut (h : WalD dir l C d) (hg : g ∈ l) (n : Nat) (hn : n ≤ (C g.n).length) :
    (cutD d (wP dir (g.n : Int)) (n : Int)).1 = 0 ∧ WalD dir l (fun k => if k = g.n then (C g.n).take n else C k) (cutD d (wP dir (g.n : Int)) (n : Int)).2 ∧ (cutD d (wP dir (g.n : Int)) (n : Int)).2.cap = d.cap := by
  have e : cutD d (wP dir (g.n : Int)) (n : Int) = (0, setF (tickD d) g.i { fAt d g.i with now := (C g.n).take n, steps := (fAt d g.i).steps ++ [⟨[], true, n⟩] }) := by
    have hst : stepD d = (0, tickD d) := by rw [step_ite, if_neg (by rw [h.aw]; decide)]
    unfold cutD
    rw [h.file hg]
    simp only [hst]
    rw [h.now g hg, if_neg (by omega)]
    simp
  rw [e]
  exact ⟨rfl, h.set hg { fAt d g.i with now := (C g.n).take n, steps := (fAt d g.i).steps ++ [⟨[], true, n⟩] }, rfl⟩
theorem WalD.mkdir_new (hd : nameB dir = true) (C : Nat → Txt) (cap : Int) : (mkdirD (newD cap) dir).1 = 0 ∧ WalD dir [] C (mkdirD (newD cap) dir).2 ∧ (mkdirD (newD cap) dir).2.cap = (newD cap).cap := by
  have e : mkdirD (newD cap) dir = namesD (newD cap) (.mkdir dir) := mkdir_ok rfl hd rfl
  rw [e, names_ite, if_neg (by show ¬ (0 : Nat) = 1; decide)]
  exact ⟨rfl, ⟨rfl, rfl, hd, rfl, ⟨List.Pairwise.nil, fun g hg => by cases hg⟩, fun g hg => (by cases hg), List.Pairwise.nil, fun g hg => by cases hg⟩, rfl⟩
theorem WalD.mkdir_again (h : WalD dir l C d) : mkdirD d dir = (5, d) := by
  unfold mkdirD
  have hi : isT d.things dir = 2 := by unfold isT; rw [h.th, w_finddir]; rfl
  rw [if_neg (by rw [h.off]; simp), if_neg (by rw [h.nm]; simp), if_pos (by rw [hi]; decide)]
theorem wP_pre {a b : Nat} (ha1 : 1 ≤ a) (ha2 : a ≤ 99999999) (hb1 : 1 ≤ b) (hb2 : b ≤ 99999999) : insideB (wP dir (a : Int)) (wP dir (b : Int)) = false := by
  unfold insideB
  rw [Bool.eq_false_iff]
  intro h
  have := (List.isPrefixOf_iff_prefix.1 h).length_le
  simp [wP, segT_len ha1 ha2, segT_len hb1 hb2] at this
theorem dir_pre {b : Nat} : insideB dir (wP dir (b : Int)) = false := by
  unfold insideB
  rw [Bool.eq_false_iff]
  intro h
  have := (List.isPrefixOf_iff_prefix.1 h).length_le
  simp [wP] at this
  omega
theorem WalD.remove (h : WalD dir l C d) (hg : g ∈ l) :
    (removeD d (wP dir (g.n : Int))).1 = 0 ∧ WalD dir (l.filter fun x => x.n != g.n) C (removeD d (wP dir (g.n : Int))).2 ∧ (removeD d (wP dir (g.n : Int))).2.cap = d.cap := by
  have hr := h.ok.rng g hg
  have hi : isT d.things (wP dir (g.n : Int)) = 1 := by unfold isT; rw [h.th, w_find h.ok hg]; rfl
  have e : removeD d (wP dir (g.n : Int)) = namesD d (.remove (wP dir (g.n : Int))) := by
    unfold removeD
    rw [if_neg (by rw [h.off]; simp), if_neg (by rw [h.path hr.1 hr.2]; simp), if_neg (by rw [hi]; decide)]
  rw [e, names_ite, if_neg (by rw [h.aw]; decide)]
  refine ⟨rfl, ⟨h.off, by show d.await - 1 = 0; rw [h.aw], h.nm, ?_, ⟨h.ok.asc.filter _, fun x hx => h.ok.rng x ((List.mem_filter.1 hx).1)⟩, fun x hx => h.lt x ((List.mem_filter.1 hx).1), h.ne.filter _, fun x hx => h.now x ((List.mem_filter.1 hx).1)⟩, rfl⟩
  show (d.things.filter _) = _
  rw [h.th]
  unfold wThings
  rw [List.filter_cons_of_pos (by simp [dir_pre, (wP_dir dir g.n).symm])]
  rw [List.filter_map]
  congr 2
  refine List.filter_congr fun x hx => ?_
  have hx2 := h.ok.rng x hx
  simp only [Function.comp, wP_pre hx2.1 hx2.2 hr.1 hr.2, Bool.or_false]
  have e2 : (wP dir (x.n : Int) == wP dir (g.n : Int)) = (x.n == g.n) := by
    by_cases hxg : x.n = g.n
    · rw [hxg]
      simp
    · rw [beq_eq_false_iff_ne.2 (fun e => hxg (wP_inj hx2.1 hx2.2 hr.1 hr.2 e)), beq_eq_false_iff_ne.2 hxg]
  simp [e2, bne]
end
end Go.Proofs.YtfpgbhimgfdddaaGreatDoor

/-! ## WalPlain3 -/
/- The plain law of layer 16 (wal): a log as segments of payloads, and the disk that holds it. No program in sight. -/
namespace Go.Proofs.YtfpgbhimgfdddaaGreatDoor

def framesT (l : List Txt) : Txt := (l.map frameT).flatten
theorem framesT_snoc (l : List Txt) (p : Txt) : framesT (l ++ [p]) = framesT l ++ frameT p := by simp [framesT]
theorem framesT_app (a b : List Txt) : framesT (a ++ b) = framesT a ++ framesT b := by simp [framesT]
theorem framesT_split {ps : List Txt} {k : Nat} {p : Txt} (h : ps[k]? = some p) : framesT ps = framesT (ps.take k) ++ frameT p ++ framesT (ps.drop (k + 1)) := by
  obtain ⟨hk, hp⟩ := List.getElem?_eq_some_iff.1 h
  have e : ps = ps.take k ++ ([p] ++ ps.drop (k + 1)) := by
    rw [← hp, List.singleton_append, List.getElem_cons_drop, List.take_append_drop]
  conv => lhs; rw [e]
  rw [framesT_app, framesT_app, List.append_assoc]
  congr 2
  simp [framesT]
theorem framesT_take {ps : List Txt} {k : Nat} {p : Txt} (h : ps[k]? = some p) : (framesT (ps.take (k + 1))).length = (framesT (ps.take k)).length + 9 + p.length := by
  rw [List.take_add_one, h]
  show (framesT (ps.take k ++ [p])).length = _
  rw [framesT_snoc, List.length_append, frameT_len]
  omega
/-- The frame at the place behind the first k. -/
theorem unframe_nth {ps : List Txt} {k : Nat} {p : Txt} (h : ps[k]? = some p) (h0 : p ≠ []) (h1 : p.length ≤ 1048576) (r : Txt) :
    unframeT (framesT ps ++ r) (framesT (ps.take k)).length = (p, (framesT (ps.take (k + 1))).length, 0) := by
  rw [framesT_split h, List.append_assoc, unframe_frame _ _ _ h0 h1, framesT_take h]
theorem framesT_lt {ps : List Txt} {k : Nat} (hk : k < ps.length) : (framesT (ps.take k)).length < (framesT ps).length := by
  rw [framesT_split (List.getElem?_eq_getElem hk)]
  simp only [List.length_append, frameT_len]
  omega
/-- A log: the segments ahead (number, payloads), the last one's number and payloads. -/
structure WM where
  init : List (Nat × List Txt)
  n : Nat
  ps : List Txt
def WM.used (m : WM) : Nat := (framesT m.ps).length
def WM.begin_ (m : WM) : WM := ⟨m.init ++ [(m.n, m.ps)], m.n + 1, []⟩
def WM.put (m : WM) (p : Txt) : WM := ⟨m.init, m.n, m.ps ++ [p]⟩
/-- Is the last segment too full for a frame so long? -/
def WM.full (m : WM) (size : Int) (k : Nat) : Bool := decide (0 < m.used) && decide (size - (k : Int) < (m.used : Int))
def WM.app (m : WM) (size : Int) (p : Txt) : WM := (if m.full size (p.length + 9) then m.begin_ else m).put p
def WM.rot (m : WM) : WM := if m.used = 0 then m else m.begin_
def WM.drop (m : WM) (before : Int) : WM := ⟨m.init.filter fun s => !decide ((s.1 : Int) < before), m.n, m.ps⟩
def WM.segs (m : WM) : List (Nat × List Txt) := m.init ++ [(m.n, m.ps)]
/-- The payloads with their segments. -/
def WM.kept (m : WM) : List (Txt × Nat) := m.segs.flatMap fun s => s.2.map fun p => (p, s.1)
def WM.texts (m : WM) : List Txt := m.segs.flatMap (·.2)
theorem WM.kept_texts (m : WM) : m.kept.map (·.1) = m.texts := by
  unfold WM.kept WM.texts
  rw [List.map_flatMap]
  congr 1
  funext s
  simp [Function.comp_def]
theorem WM.kept_begin (m : WM) : m.begin_.kept = m.kept := by simp [WM.kept, WM.begin_, WM.segs]
theorem WM.kept_put (m : WM) (p : Txt) : (m.put p).kept = m.kept ++ [(p, m.n)] := by simp [WM.kept, WM.put, WM.segs]
theorem WM.kept_drop (m : WM) (before : Int) (h : ∀ s ∈ m.init, s.1 < m.n) : (m.drop before).kept = m.kept.filter fun e => !(decide ((e.2 : Int) < before) && decide (e.2 < m.n)) := by
  have h1 : ∀ L : List (Nat × List Txt), (∀ s ∈ L, s.1 < m.n) → (L.filter fun s => !decide ((s.1 : Int) < before)).flatMap (fun s => s.2.map fun p => (p, s.1)) = (L.flatMap fun s => s.2.map fun p => (p, s.1)).filter fun e => !(decide ((e.2 : Int) < before) && decide (e.2 < m.n)) := by
    intro L
    induction L with
    | nil => intro _; rfl
    | cons s L ih =>
      intro hL
      have hs := hL s (List.mem_cons_self ..)
      have ih := ih fun x hx => hL x (List.mem_cons_of_mem _ hx)
      rw [List.flatMap_cons, List.filter_append, ← ih]
      by_cases hb : (s.1 : Int) < before
      · rw [List.filter_cons_of_neg (by simpa using hb)]
        have : (s.2.map fun p => (p, s.1)).filter (fun e => !(decide ((e.2 : Int) < before) && decide (e.2 < m.n))) = [] := by
          rw [List.filter_eq_nil_iff]
          intro e he
          obtain ⟨p, _, rfl⟩ := List.mem_map.1 he
          simp [hb, hs]
        rw [this, List.nil_append]
      · rw [List.filter_cons_of_pos (by simpa using hb), List.flatMap_cons]
        congr 1
        rw [List.filter_eq_self.2]
        intro e he
        obtain ⟨p, _, rfl⟩ := List.mem_map.1 he
        simp [hb]
  have h2 : (m.ps.map fun p => (p, m.n)).filter (fun e => !(decide ((e.2 : Int) < before) && decide (e.2 < m.n))) = m.ps.map fun p => (p, m.n) := by
    rw [List.filter_eq_self.2]
    intro e he
    obtain ⟨p, _, rfl⟩ := List.mem_map.1 he
    simp
  unfold WM.kept WM.segs WM.drop
  simp only [List.flatMap_append, List.filter_append, List.flatMap_cons, List.flatMap_nil, List.append_nil, h1 m.init h, h2]
/-- The segments' numbers rise; none is out of its range; each payload may stand in a frame. -/
structure WM.Ok (m : WM) : Prop where
  lt : ∀ s ∈ m.init, 1 ≤ s.1 ∧ s.1 < m.n
  asc : m.init.Pairwise fun a b => a.1 < b.1
  n1 : 1 ≤ m.n
  ne : ∀ s ∈ m.segs, ∀ p ∈ s.2, p ≠ [] ∧ p.length ≤ 1048576
theorem WM.Ok.begin_ {m : WM} (h : m.Ok) : m.begin_.Ok := by
  refine ⟨?_, ?_, ?_, ?_⟩
  · intro s hs
    show 1 ≤ s.1 ∧ s.1 < m.n + 1
    rcases List.mem_append.1 hs with hs | hs
    · have := h.lt s hs; omega
    · obtain rfl := List.mem_singleton.1 hs
      have := h.n1
      dsimp only
      omega
  · refine List.pairwise_append.2 ⟨h.asc, List.pairwise_singleton _ _, fun a ha b hb => ?_⟩
    obtain rfl := List.mem_singleton.1 hb
    exact (h.lt a ha).2
  · show 1 ≤ m.n + 1
    omega
  · intro s hs p hp
    rcases List.mem_append.1 hs with hs | hs
    · exact h.ne s hs p hp
    · obtain rfl := List.mem_singleton.1 hs
      cases hp
theorem WM.Ok.put {m : WM} (h : m.Ok) {p : Txt} (hp0 : p ≠ []) (hp1 : p.length ≤ 1048576) : (m.put p).Ok := by
  refine ⟨h.lt, h.asc, h.n1, fun s hs q hq => ?_⟩
  rcases List.mem_append.1 hs with hs | hs
  · exact h.ne s (List.mem_append_left _ hs) q hq
  · obtain rfl := List.mem_singleton.1 hs
    rcases List.mem_append.1 hq with hq | hq
    · exact h.ne (m.n, m.ps) (List.mem_append_right _ (List.mem_singleton.2 rfl)) q hq
    · obtain rfl := List.mem_singleton.1 hq
      exact ⟨hp0, hp1⟩
theorem WM.Ok.drop {m : WM} (h : m.Ok) (before : Int) : (m.drop before).Ok := by
  refine ⟨fun s hs => h.lt s ((List.mem_filter.1 hs).1), h.asc.filter _, h.n1, fun s hs p hp => ?_⟩
  rcases List.mem_append.1 hs with hs | hs
  · exact h.ne s (List.mem_append_left _ ((List.mem_filter.1 hs).1)) p hp
  · exact h.ne s (List.mem_append_right _ hs) p hp
/-- The disk holds the log: the segments' files are l, the last one's is i. -/
structure WalR (dir : Txt) (m : WM) (l : List Sg) (i : Nat) (C : Nat → Txt) (d : Ds) : Prop where
  w : WalD dir (l ++ [⟨m.n, i⟩]) C d
  nums : l.map (·.n) = m.init.map (·.1)
  head : ∀ s ∈ m.init, C s.1 = framesT s.2
  last : C m.n = framesT m.ps
section
variable {dir : Txt} {m : WM} {l : List Sg} {i : Nat} {C : Nat → Txt} {d : Ds}
theorem WalR.mem (_ : WalR dir m l i C d) : (⟨m.n, i⟩ : Sg) ∈ l ++ [⟨m.n, i⟩] := List.mem_append_right _ (List.mem_singleton.2 rfl)
theorem WalR.le (h : WalR dir m l i C d) : ∀ g ∈ l ++ [⟨m.n, i⟩], g.n < m.n + 1 := by
  intro g hg
  rcases List.mem_append.1 hg with hg | hg
  · have := (List.pairwise_append.1 h.w.ok.asc).2.2 g hg ⟨m.n, i⟩ (List.mem_singleton.2 rfl)
    dsimp only at this
    omega
  · obtain rfl := List.mem_singleton.1 hg
    exact Nat.lt_succ_self _
theorem WalR.rng (h : WalR dir m l i C d) : 1 ≤ m.n ∧ m.n ≤ 99999999 := h.w.ok.rng _ h.mem
theorem WalR.used (h : WalR dir m l i C d) : usedD d = ((m.init.map fun s => (framesT s.2).length).sum + (framesT m.ps).length) := by
  rw [h.w.used, List.map_append, List.sum_append]
  simp only [List.map_cons, List.map_nil, List.sum_cons, List.sum_nil, h.last, Nat.add_zero]
  congr 2
  have e : (l.map fun g => (C g.n).length) = (l.map (·.n)).map fun k => (C k).length := by rw [List.map_map]; rfl
  rw [e, h.nums, List.map_map]
  exact List.map_congr_left fun s hs => by simp only [Function.comp, h.head s hs]
/-- A new segment: its file made, its name safe. -/
def beginD (dir : Txt) (d : Ds) (n : Int) : Ds := (syncNamesD (createD d (wP dir n)).2).2
theorem WalR.begin_ (h : WalR dir m l i C d) (hn : m.n + 1 ≤ 99999999) :
    (createD d (wP dir ((m.n + 1 : Nat) : Int))).1 = 0 ∧ (syncNamesD (createD d (wP dir ((m.n + 1 : Nat) : Int))).2).1 = 0 ∧
    (∃ C', WalR dir m.begin_ (l ++ [⟨m.n, i⟩]) d.files.length C' (beginD dir d ((m.n + 1 : Nat) : Int))) ∧ (beginD dir d ((m.n + 1 : Nat) : Int)).cap = d.cap := by
  obtain ⟨h1, h2, h3⟩ := h.w.create (n := m.n + 1) (by omega) hn h.le
  obtain ⟨h4, h5, h6⟩ := h2.syncNames
  refine ⟨h1, h4, ⟨_, h5, ?_, ?_, ?_⟩, h6.trans h3⟩
  · show (l ++ [(⟨m.n, i⟩ : Sg)]).map (·.n) = (m.init ++ [(m.n, m.ps)]).map (·.1)
    rw [List.map_append, List.map_append, h.nums]
    rfl
  · intro s hs
    have hlt : s.1 ≠ m.n + 1 := by
      have hs' : s.1 ∈ (l ++ [(⟨m.n, i⟩ : Sg)]).map (·.n) := by
        have e : (l ++ [(⟨m.n, i⟩ : Sg)]).map (·.n) = (m.init ++ [(m.n, m.ps)]).map (·.1) := by rw [List.map_append, List.map_append, h.nums]; rfl
        rw [e]
        exact List.mem_map_of_mem hs
      obtain ⟨g, hg, hge⟩ := List.mem_map.1 hs'
      have := h.le g hg
      omega
    rw [if_neg hlt]
    rcases List.mem_append.1 hs with hs | hs
    · exact h.head s hs
    · obtain rfl := List.mem_singleton.1 hs
      exact h.last
  · show (if m.n + 1 = m.n + 1 then [] else C (m.n + 1)) = framesT []
    rw [if_pos rfl]
    rfl
/-- A payload more: its frame appended to the last file, the file made safe. -/
def putW (dir : Txt) (d : Ds) (n : Int) (p : Txt) : Ds := (syncD (appendD d (wP dir n) (frameT p)).2 (wP dir n)).2
theorem WalR.put (h : WalR dir m l i C d) (p : Txt) (hc : usedD d + (frameT p).length ≤ d.cap) :
    (appendD d (wP dir (m.n : Int)) (frameT p)).1 = 0 ∧ (syncD (appendD d (wP dir (m.n : Int)) (frameT p)).2 (wP dir (m.n : Int))).1 = 0 ∧
    (∃ C', WalR dir (m.put p) l i C' (putW dir d (m.n : Int) p)) ∧ (putW dir d (m.n : Int) p).cap = d.cap := by
  obtain ⟨h1, h2, h3⟩ := h.w.append h.mem (frameT p) hc
  obtain ⟨h4, h5, h6⟩ := h2.sync h.mem
  refine ⟨h1, h4, ⟨_, h5, h.nums, fun s hs => ?_, ?_⟩, h6.trans h3⟩
  · have hs' : s.1 ∈ l.map (·.n) := by rw [h.nums]; exact List.mem_map_of_mem hs
    obtain ⟨g, hg, hge⟩ := List.mem_map.1 hs'
    have := (List.pairwise_append.1 h.w.ok.asc).2.2 g hg ⟨m.n, i⟩ (List.mem_singleton.2 rfl)
    dsimp only at this ⊢
    rw [if_neg (by omega)]
    exact h.head s hs
  · show (if m.n = m.n then C m.n ++ frameT p else C m.n) = framesT (m.ps ++ [p])
    rw [if_pos rfl, h.last, framesT_snoc]
theorem WalR.all (h : WalR dir m l i C d) {s : Nat × List Txt} (hs : s ∈ m.segs) : allD d (wP dir (s.1 : Int)) = (framesT s.2, 0) := by
  rcases List.mem_append.1 hs with hs | hs
  · have hs' : s.1 ∈ l.map (·.n) := by rw [h.nums]; exact List.mem_map_of_mem hs
    obtain ⟨g, hg, hge⟩ := List.mem_map.1 hs'
    have := h.w.all (g := g) (List.mem_append_left _ hg)
    rw [hge, h.head s hs] at this
    exact this
  · obtain rfl := List.mem_singleton.1 hs
    have := h.w.all h.mem
    dsimp only at this ⊢
    rw [h.last] at this
    exact this
/-- What List tells of the directory: the segments' names. -/
theorem WalR.list (h : WalR dir m l i C d) : (listD d dir).2 = 0 ∧ (listD d dir).1.map (·.name) = m.segs.map fun s => nameT sS (s.1 : Int) := by
  rw [h.w.list]
  refine ⟨rfl, ?_⟩
  rw [List.map_map]
  have e : (l ++ [(⟨m.n, i⟩ : Sg)]).map (·.n) = m.segs.map (·.1) := by unfold WM.segs; rw [List.map_append, List.map_append, h.nums]; rfl
  have e2 : m.segs.map (fun s => nameT sS (s.1 : Int)) = (m.segs.map (·.1)).map fun k : Nat => nameT sS (k : Int) := by rw [List.map_map]; rfl
  rw [e2, ← e, List.map_map]
  rfl
end
end Go.Proofs.YtfpgbhimgfdddaaGreatDoor

/-! ## WalNum -/
/- The plain law of layer 16 (wal): the number of a segment's name. No program in sight. -/
namespace Go.Proofs.YtfpgbhimgfdddaaGreatDoor

theorem ofDigit {d : Nat} (h : d < 10) : (UInt8.ofNat (48 + d)).toNat = 48 + d := by
  rw [UInt8.toNat_ofNat']
  omega
theorem dec_head : ∀ n : Nat, 1 ≤ n → ∃ c l, Lib.decDigits n = c :: l ∧ 49 ≤ c.toNat ∧ c.toNat ≤ 57 := by
  intro n
  induction n using Nat.strongRecOn with
  | _ n ih =>
    intro hn
    by_cases h : n < 10
    · rw [Lib.decDigits_one h]
      exact ⟨_, [], rfl, by rw [ofDigit h]; omega, by rw [ofDigit h]; omega⟩
    · obtain ⟨c, l, e, h1, h2⟩ := ih (n / 10) (by omega) (by omega)
      rw [Lib.decDigits, dif_neg h, e]
      exact ⟨c, l ++ [UInt8.ofNat (48 + n % 10)], rfl, h1, h2⟩
theorem drop_zeros (l : List UInt8) : ∀ c, (List.replicate c (48 : UInt8) ++ l).dropWhile (· == 48) = l.dropWhile (· == 48)
  | 0 => rfl
  | c + 1 => by
    rw [List.replicate_succ, List.cons_append, List.dropWhile_cons_of_pos (by simp), drop_zeros l c]
theorem trim_pad {n : Nat} (h1 : 1 ≤ n) (h2 : n ≤ 99999999) : Lib.trimLeftB (padN 8 n) 48 = Lib.decDigits n := by
  obtain ⟨_, hd⟩ := pad_dec 7 n (by omega)
  rw [← hd]
  unfold Lib.trimLeftB
  rw [drop_zeros]
  obtain ⟨c, l, e, h3, _⟩ := dec_head n h1
  rw [e, List.dropWhile_cons_of_neg]
  intro hc
  have : c = 48 := by simpa using hc
  rw [this] at h3
  exact absurd h3 (by decide)
theorem digit_val {d : Nat} (h : d < 10) : Lib.digitVal (UInt8.ofNat (48 + d)) = some d := by
  unfold Lib.digitVal
  rw [ofDigit h, if_pos (by omega)]
  congr 1
  omega
theorem decFrom_snoc : ∀ (l : List UInt8) (acc m : Nat) (b : UInt8) (d : Nat), Lib.decFrom acc l = some m → Lib.digitVal b = some d → Lib.decFrom acc (l ++ [b]) = some (m * 10 + d)
  | [], acc, m, b, d, h, hb => by
    obtain rfl : acc = m := by simpa [Lib.decFrom] using h
    simp [Lib.decFrom, hb]
  | x :: l, acc, m, b, d, h, hb => by
    rw [List.cons_append]
    simp only [Lib.decFrom] at h ⊢
    cases hx : Lib.digitVal x with
    | none => rw [hx] at h; cases h
    | some e =>
      rw [hx] at h
      simp only at h ⊢
      exact decFrom_snoc l _ m b d h hb
theorem decFrom_dec : ∀ n : Nat, Lib.decFrom 0 (Lib.decDigits n) = some n := by
  intro n
  induction n using Nat.strongRecOn with
  | _ n ih =>
    by_cases h : n < 10
    · rw [Lib.decDigits_one h]
      simp only [Lib.decFrom, digit_val h]
      simp
    · have h1 := ih (n / 10) (by omega)
      rw [Lib.decDigits, dif_neg h, decFrom_snoc _ _ _ _ _ h1 (digit_val (Nat.mod_lt _ (by decide)))]
      congr 1
      omega
theorem atoi_dec {n : Nat} (h1 : 1 ≤ n) : Lib.atoi (Lib.decDigits n) = some (n : Int) := by
  have hd := decFrom_dec n
  obtain ⟨c, l, e, h3, h4⟩ := dec_head n h1
  rw [e] at hd ⊢
  have c1 : (c == 45) = false := by
    rw [beq_eq_false_iff_ne]
    rintro rfl
    exact absurd h3 (by decide)
  have c2 : (c == 43) = false := by
    rw [beq_eq_false_iff_ne]
    rintro rfl
    exact absurd h3 (by decide)
  simp only [Lib.atoi, c1, c2]
  simp [Lib.decNat, hd]
theorem trim_name {n : Nat} (h1 : 1 ≤ n) (h2 : n ≤ 99999999) : Lib.trimPrefix (nameT sS (n : Int)) sS = padN 8 n := by
  rw [segT_good h1 h2]
  unfold Lib.trimPrefix
  rw [if_pos (by simp [Lib.hasPrefix])]
  simp
end Go.Proofs.YtfpgbhimgfdddaaGreatDoor
