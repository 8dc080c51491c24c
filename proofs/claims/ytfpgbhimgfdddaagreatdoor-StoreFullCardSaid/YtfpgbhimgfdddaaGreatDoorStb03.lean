/- Merged: DskWalksA, DskWalksB, DskWalksC. -/
import Derived.Test.YtfpgbhimgfdddaaGreatDoorStb02
import Derived.Test.YtfpgbhimgfdddaaGreatDoorShelf
set_option linter.unusedVariables false
set_option linter.unusedSimpArgs false
/-! ## DskWalksA -/
/- The walks of layer 3 (disk): names, the code's and the document's. -/
namespace Go.Proofs.YtfpgbhimgfdddaaGreatDoor
open Go.RowKit
attribute [local go_sem ↓] Go.wp_at_zero Go.wp_at_succ
attribute [local go_sem] Later.cell Later.frozen

theorem text_size3 (s : ByteArray) : s.data.toList.length = s.size := rfl
theorem drop_byte3 {s : ByteArray} {i : Nat} (h : i < s.size) : s.data.toList.drop i = s[i] :: s.data.toList.drop (i + 1) := by
  rw [List.drop_eq_getElem_cons (by simpa using h)]
  rfl
theorem empty_size3 (s : ByteArray) : s.toList.isEmpty = decide (s.size = 0) := by
  rw [ByteArray.toList_eq, Bool.eq_iff_iff]
  simp only [List.isEmpty_iff, decide_eq_true_eq]
  rw [← text_size3]
  constructor
  · intro h; rw [h]; rfl
  · intro h; exact List.eq_nil_of_length_eq_zero h
theorem name_cases (b : UInt8) : (97 ≤ b.toNat ∧ b.toNat ≤ 122) ∨ (48 ≤ b.toNat ∧ b.toNat ≤ 57) ∨ (b.toNat = 46) ∨ (b.toNat = 45) ∨ (b.toNat < 48 ∧ b.toNat ≠ 46 ∧ b.toNat ≠ 45) ∨ (57 < b.toNat ∧ b.toNat < 97) ∨ (122 < b.toNat) := by omega

set_option maxRecDepth 100000 in
set_option maxHeartbeats 2000000 in
theorem name_calls (s : ByteArray) (r : Bool) (hr : nameB s.data.toList = r) (hs : s.size ≤ 1073741824) (w : World) :
    Calls Tryz.prog 80 #[.string s] w fun e w' => e = .returned (.bool r) ∧ w = w' := by
  obtain ⟨R, hR⟩ : ∃ R, s.data.toList.all nameC = R := ⟨_, rfl⟩
  have hrr : (R && (decide (1 ≤ s.size) && decide (s.size ≤ 32))) = r := by rw [← hr, ← hR, nameB, text_size3, Bool.and_assoc]
  have HRR := Lib.hid hrr
  have HR := Lib.hid hR
  clear hr hrr hR
  go_enter Tryz.func80, Tryz.ntmps80
  go_upto_block 0 with fail
  go_cut [] (fun wz => wz = w ∧ R = true)
  case first =>
    go_wp2_with fail
    go_loopg [7] s.size (fun g sx wr => wr = w ∧ ∃ i : Nat, i + g = s.size ∧ sx = .int .i64 (i : Int) ∧ (s.data.toList.drop i).all nameC = R)
    case atStart => exact ⟨rfl, 0, by omega, rfl, by simpa using HR.out⟩
    case round =>
      obtain ⟨rfl, i, hig, rfl, hall⟩ := hrel
      obtain ⟨w, rfl⟩ : ∃ x, x = wr := ⟨_, rfl⟩
      have HIG := Lib.hid hig
      by_cases hi : i < s.size
      · have hst : (nameC s[i] && (s.data.toList.drop (i + 1)).all nameC) = R := by rw [← hall, drop_byte3 hi, List.all_cons]
        obtain ⟨b, hb⟩ : ∃ b, s[i] = b := ⟨_, rfl⟩
        have hbl := UInt8.toNat_lt b
        rw [hb] at hst
        have HST := Lib.hid hst
        clear hst hig hall
        have el : decide ((i : Int) < (s.size : Int)) = true := by simp; omega
        have el' : decide (i < s.size) = true := by simp; omega
        go_upto_region 6 with fail
        clear hb
        rcases name_cases b with h | h | h | h | h | h | h
        · have hn : nameC b = true := by simp only [nameC]; simp; omega
          have d1 : decide ((97 : Int) ≤ (b.toNat : Int)) = true := by simp; omega
          have d2 : decide ((b.toNat : Int) ≤ 122) = true := by simp; omega
          have d3 : decide ((48 : Int) ≤ (b.toNat : Int)) = true := by simp; omega
          have d4 : decide ((b.toNat : Int) ≤ 57) = false := by simp; omega
          have d5 : ((b.toNat : Int) == 46) = false := by simp; omega
          have d6 : ((b.toNat : Int) != 46) = true := by simp; omega
          have d7 : ((b.toNat : Int) == 45) = false := by simp; omega
          have d8 : ((b.toNat : Int) != 45) = true := by simp; omega
          have hnx : (s.data.toList.drop (i + 1)).all nameC = R := by have := HST.out; rw [hn, Bool.true_and] at this; exact this
          have HNX := Lib.hid hnx
          clear hnx hn h
          go_wp2_with fail
          go_roundg (gk - 1)
          case measure => have := HIG.out; omega
          case rel => exact ⟨rfl, i + 1, by have := HIG.out; omega, by go_num, HNX.out⟩
        · have hn : nameC b = true := by simp only [nameC]; simp; omega
          have d1 : decide ((97 : Int) ≤ (b.toNat : Int)) = false := by simp; omega
          have d2 : decide ((b.toNat : Int) ≤ 122) = true := by simp; omega
          have d3 : decide ((48 : Int) ≤ (b.toNat : Int)) = true := by simp; omega
          have d4 : decide ((b.toNat : Int) ≤ 57) = true := by simp; omega
          have d5 : ((b.toNat : Int) == 46) = false := by simp; omega
          have d6 : ((b.toNat : Int) != 46) = true := by simp; omega
          have d7 : ((b.toNat : Int) == 45) = false := by simp; omega
          have d8 : ((b.toNat : Int) != 45) = true := by simp; omega
          have hnx : (s.data.toList.drop (i + 1)).all nameC = R := by have := HST.out; rw [hn, Bool.true_and] at this; exact this
          have HNX := Lib.hid hnx
          clear hnx hn h
          go_wp2_with fail
          go_roundg (gk - 1)
          case measure => have := HIG.out; omega
          case rel => exact ⟨rfl, i + 1, by have := HIG.out; omega, by go_num, HNX.out⟩
        · have hn : nameC b = true := by simp only [nameC]; simp; omega
          have d1 : decide ((97 : Int) ≤ (b.toNat : Int)) = false := by simp; omega
          have d2 : decide ((b.toNat : Int) ≤ 122) = true := by simp; omega
          have d3 : decide ((48 : Int) ≤ (b.toNat : Int)) = false := by simp; omega
          have d4 : decide ((b.toNat : Int) ≤ 57) = true := by simp; omega
          have d5 : ((b.toNat : Int) == 46) = true := by simp; omega
          have d6 : ((b.toNat : Int) != 46) = false := by simp; omega
          have d7 : ((b.toNat : Int) == 45) = false := by simp; omega
          have d8 : ((b.toNat : Int) != 45) = true := by simp; omega
          have hnx : (s.data.toList.drop (i + 1)).all nameC = R := by have := HST.out; rw [hn, Bool.true_and] at this; exact this
          have HNX := Lib.hid hnx
          clear hnx hn h
          go_wp2_with fail
          go_roundg (gk - 1)
          case measure => have := HIG.out; omega
          case rel => exact ⟨rfl, i + 1, by have := HIG.out; omega, by go_num, HNX.out⟩
        · have hn : nameC b = true := by simp only [nameC]; simp; omega
          have d1 : decide ((97 : Int) ≤ (b.toNat : Int)) = false := by simp; omega
          have d2 : decide ((b.toNat : Int) ≤ 122) = true := by simp; omega
          have d3 : decide ((48 : Int) ≤ (b.toNat : Int)) = false := by simp; omega
          have d4 : decide ((b.toNat : Int) ≤ 57) = true := by simp; omega
          have d5 : ((b.toNat : Int) == 46) = false := by simp; omega
          have d6 : ((b.toNat : Int) != 46) = true := by simp; omega
          have d7 : ((b.toNat : Int) == 45) = true := by simp; omega
          have d8 : ((b.toNat : Int) != 45) = false := by simp; omega
          have hnx : (s.data.toList.drop (i + 1)).all nameC = R := by have := HST.out; rw [hn, Bool.true_and] at this; exact this
          have HNX := Lib.hid hnx
          clear hnx hn h
          go_wp2_with fail
          go_roundg (gk - 1)
          case measure => have := HIG.out; omega
          case rel => exact ⟨rfl, i + 1, by have := HIG.out; omega, by go_num, HNX.out⟩
        · have hn : nameC b = false := by simp only [nameC]; simp; omega
          have d1 : decide ((97 : Int) ≤ (b.toNat : Int)) = false := by simp; omega
          have d2 : decide ((b.toNat : Int) ≤ 122) = true := by simp; omega
          have d3 : decide ((48 : Int) ≤ (b.toNat : Int)) = false := by simp; omega
          have d4 : decide ((b.toNat : Int) ≤ 57) = true := by simp; omega
          have d5 : ((b.toNat : Int) == 46) = false := by simp; omega
          have d6 : ((b.toNat : Int) != 46) = true := by simp; omega
          have d7 : ((b.toNat : Int) == 45) = false := by simp; omega
          have d8 : ((b.toNat : Int) != 45) = true := by simp; omega
          obtain rfl : false = R := by have := HST.out; rw [hn, Bool.false_and] at this; exact this
          obtain rfl : false = r := by have := HRR.out; rw [Bool.false_and] at this; exact this
          clear hn h
          go_wp2_with fail
          go_ret
          exact ⟨rfl, rfl⟩
        · have hn : nameC b = false := by simp only [nameC]; simp; omega
          have d1 : decide ((97 : Int) ≤ (b.toNat : Int)) = false := by simp; omega
          have d2 : decide ((b.toNat : Int) ≤ 122) = true := by simp; omega
          have d3 : decide ((48 : Int) ≤ (b.toNat : Int)) = true := by simp; omega
          have d4 : decide ((b.toNat : Int) ≤ 57) = false := by simp; omega
          have d5 : ((b.toNat : Int) == 46) = false := by simp; omega
          have d6 : ((b.toNat : Int) != 46) = true := by simp; omega
          have d7 : ((b.toNat : Int) == 45) = false := by simp; omega
          have d8 : ((b.toNat : Int) != 45) = true := by simp; omega
          obtain rfl : false = R := by have := HST.out; rw [hn, Bool.false_and] at this; exact this
          obtain rfl : false = r := by have := HRR.out; rw [Bool.false_and] at this; exact this
          clear hn h
          go_wp2_with fail
          go_ret
          exact ⟨rfl, rfl⟩
        · have hn : nameC b = false := by simp only [nameC]; simp; omega
          have d1 : decide ((97 : Int) ≤ (b.toNat : Int)) = true := by simp; omega
          have d2 : decide ((b.toNat : Int) ≤ 122) = false := by simp; omega
          have d3 : decide ((48 : Int) ≤ (b.toNat : Int)) = true := by simp; omega
          have d4 : decide ((b.toNat : Int) ≤ 57) = false := by simp; omega
          have d5 : ((b.toNat : Int) == 46) = false := by simp; omega
          have d6 : ((b.toNat : Int) != 46) = true := by simp; omega
          have d7 : ((b.toNat : Int) == 45) = false := by simp; omega
          have d8 : ((b.toNat : Int) != 45) = true := by simp; omega
          obtain rfl : false = R := by have := HST.out; rw [hn, Bool.false_and] at this; exact this
          obtain rfl : false = r := by have := HRR.out; rw [Bool.false_and] at this; exact this
          clear hn h
          go_wp2_with fail
          go_ret
          exact ⟨rfl, rfl⟩
      · have el : decide ((i : Int) < (s.size : Int)) = false := by simp; omega
        have el' : decide (i < s.size) = false := by simp; omega
        have hR1 : R = true := by rw [← hall, List.drop_of_length_le (by rw [text_size3]; omega)]; rfl
        clear hig hall
        go_wp2_with fail
        go_meet
        exact ⟨rfl, hR1⟩
  case rest =>
    obtain ⟨rfl, rfl⟩ := hcut
    obtain ⟨w, rfl⟩ : ∃ x, x = wc := ⟨_, rfl⟩
    have hrr := HRR.out
    rw [Bool.true_and] at hrr
    by_cases h0 : s.size = 0
    · obtain rfl : false = r := by rw [← hrr]; simp [h0]
      have e1 : s.toList.isEmpty = true := by rw [empty_size3]; simpa using h0
      have e2 : (!s.toList.isEmpty) = false := by rw [e1]; rfl
      have e3 : decide ((1 : Int) ≤ (s.size : Int)) = false := decide_eq_false (by omega)
      have e4 : decide (1 ≤ s.size) = false := decide_eq_false (by omega)
      have e5 : s.toList = [] := by simpa using e1
      clear hrr
      go_wp2_with fail
      go_ret
      exact ⟨rfl, rfl⟩
    · have e1 : s.toList.isEmpty = false := by rw [empty_size3]; simpa using h0
      have e2 : (!s.toList.isEmpty) = true := by rw [e1]; rfl
      have e3 : decide ((1 : Int) ≤ (s.size : Int)) = true := decide_eq_true (by omega)
      have e4 : decide (1 ≤ s.size) = true := decide_eq_true (by omega)
      rw [e4, Bool.true_and] at hrr
      by_cases h32 : s.size ≤ 32
      · obtain rfl : true = r := by rw [← hrr]; simp [h32]
        have e5 : decide ((s.size : Int) ≤ 32) = true := by simp; omega
        have e6 : decide (s.size ≤ 32) = true := by simp; omega
        clear hrr
        go_wp2_with fail
        go_ret
        exact ⟨rfl, rfl⟩
      · obtain rfl : false = r := by rw [← hrr]; simp [h32]
        have e5 : decide ((s.size : Int) ≤ 32) = false := by simp; omega
        have e6 : decide (s.size ≤ 32) = false := by simp; omega
        clear hrr
        go_wp2_with fail
        go_ret
        exact ⟨rfl, rfl⟩



end Go.Proofs.YtfpgbhimgfdddaaGreatDoor

/-! ## DskWalksB -/
/- The walks of layer 3 (disk): paths, the code's and the document's. -/
namespace Go.Proofs.YtfpgbhimgfdddaaGreatDoor
open Go.RowKit
attribute [local go_sem ↓] Go.wp_at_zero Go.wp_at_succ
attribute [local go_sem] Later.cell Later.frozen

theorem bytes_eq {a b : ByteArray} (h : a.data.toList = b.data.toList) : a = b := by
  cases a; cases b
  simp at h
  rw [h]
theorem bytes_of {a : ByteArray} {l : Txt} (h : a.data.toList = l) : a = ⟨l.toArray⟩ := bytes_eq (by simpa using h)
theorem take_bytes (s : ByteArray) (k : Nat) : (s.extract 0 k).data.toList = s.data.toList.take k := by
  simp only [ByteArray.data_extract, Array.toList_extract]
  simp
theorem drop_bytes (s : ByteArray) (k : Nat) : (s.extract k s.size).data.toList = s.data.toList.drop k := by
  simp only [ByteArray.data_extract, Array.toList_extract]
  rw [← text_size3, List.extract_eq_take_drop, List.take_of_length_le]
  simp
theorem index_slash : ∀ l : Txt, Lib.indexByte l 47 = match slashAt l with | none => -1 | some k => (k : Int)
  | [] => rfl
  | b :: l => by
    have ih := index_slash l
    rw [Lib.indexByte, slashAt]
    by_cases hb : b = 47
    · simp [hb]
    · rw [if_neg hb, if_neg (by simpa using hb), ih]
      cases slashAt l with
      | none => simp
      | some k =>
        simp only [Option.map_some]
        rw [if_neg (by simp)]
        simp
theorem slashAt_lt : ∀ {l : Txt} {k : Nat}, slashAt l = some k → k < l.length
  | b :: l, k, h => by
    rw [slashAt] at h
    split at h
    · injection h with h; subst h; simp
    · cases hs : slashAt l with
      | none => rw [hs] at h; cases h
      | some j =>
        rw [hs] at h
        injection h with h
        have := slashAt_lt hs
        simp at h ⊢
        omega
/-- The text cut at its first slash. -/
def cutR (l : Txt) : Txt × Txt × Bool := match slashAt l with | none => (l, [], false) | some k => (l.take k, l.drop (k + 1), true)

set_option maxRecDepth 100000 in
set_option maxHeartbeats 1000000 in
theorem scut_calls (s : ByteArray) (A B : ByteArray) (f : Bool) (hr : cutR s.data.toList = (A.data.toList, B.data.toList, f)) (hs : s.size ≤ 1073741824) (w : World) :
    Calls Tryz.prog 138 #[.string s, .string ⟨#[47]⟩] w fun e w' => e = .returned (.tuple #[.string A, .string B, .bool f]) ∧ Below w.heap.size w w' := by
  have hix := Tryz.stringslite_Index_one s 47 w
  rw [index_slash] at hix
  unfold cutR at hr
  cases hsl : slashAt s.data.toList with
  | none =>
    rw [hsl] at hix hr
    obtain ⟨h1, h2, rfl⟩ : s.data.toList = A.data.toList ∧ [] = B.data.toList ∧ false = f := by simpa using hr
    obtain rfl := bytes_eq h1
    obtain rfl : ⟨#[]⟩ = B := bytes_eq h2
    have HIX := Lib.hid hix
    clear hix hr hsl h1 h2
    go_enter Tryz.func138, Tryz.ntmps138
    go_wp2_with fail
    refine HIX.out.mono ?_
    rintro e w' ⟨rfl, rfl⟩
    go_wp2_with fail
    go_ret3
    exact ⟨rfl, Below.refl _ _⟩
  | some k =>
    rw [hsl] at hix hr
    have hk := slashAt_lt hsl
    rw [text_size3] at hk
    obtain ⟨h1, h2, rfl⟩ : s.data.toList.take k = A.data.toList ∧ s.data.toList.drop (k + 1) = B.data.toList ∧ true = f := by simpa using hr
    have e1 : s.extract 0 k = A := bytes_eq (by rw [take_bytes]; exact h1)
    have e2 : s.extract (k + 1) s.size = B := bytes_eq (by rw [drop_bytes]; exact h2)
    have HIX := Lib.hid hix
    have HE1 := Lib.hid e1
    have HE2 := Lib.hid e2
    have hk0 : decide ((0 : Int) ≤ (k : Int)) = true := by simp
    clear hix hr hsl h1 h2 e1 e2
    go_enter Tryz.func138, Tryz.ntmps138
    go_wp2_with fail
    refine HIX.out.mono ?_
    rintro e w' ⟨rfl, rfl⟩
    go_upto_region 3 with fail
    have z1 : IntKind.i64.wrap ((k : Int) + 1) = (k : Int) + 1 := IntWalk.i64_in _ (by omega)
    have z2 : (0 : Int) ≤ (k : Int) + 1 := by omega
    have z3 : ((k : Int) + 1).toNat = k + 1 := by omega
    have z4 : (k : Int) ≤ (s.size : Int) := by omega
    have z5 : (k : Int) + 1 ≤ (s.size : Int) := by omega
    refine wp_region_later (by kernel_rfl) (by kernel_rfl) ?_
    repeat (go_big_quiet_step (fail))
    refine wpQuiet_nil ?_
    rintro w2 ⟨⟨_, hb2⟩, rfl⟩
    clear z1 z2 z3 z4 z5
    go_wp2_with fail
    go_ret3
    exact ⟨ret3 (by rw [← HE1.out]; rfl) (by rw [← HE2.out]; rfl) rfl, hb2⟩
theorem cut3_calls (s : ByteArray) (A B : ByteArray) (f : Bool) (hr : cutR s.data.toList = (A.data.toList, B.data.toList, f)) (hs : s.size ≤ 1073741824) (w : World) :
    Calls Tryz.prog 111 #[.string s, .string ⟨#[47]⟩] w fun e w' => e = .returned (.tuple #[.string A, .string B, .bool f]) ∧ Below w.heap.size w w' := by
  have HC := Lib.hid (scut_calls s A B f hr hs w)
  clear hr
  go_enter Tryz.func111, Tryz.ntmps111
  go_wp2_with fail
  refine HC.out.mono ?_
  rintro e w' ⟨rfl, hb⟩
  go_wp2_with fail
  go_ret3
  exact ⟨rfl, hb⟩

theorem cut_pair (s : ByteArray) : ∃ (A B : ByteArray) (f : Bool), cutR s.data.toList = (A.data.toList, B.data.toList, f) ∧ A.size ≤ s.size ∧ B.size ≤ s.size ∧ pathB s.data.toList = (nameB A.data.toList && (!f || nameB B.data.toList)) := by
  unfold cutR pathB
  cases h : slashAt s.data.toList with
  | none => exact ⟨s, ⟨#[]⟩, false, rfl, Nat.le_refl _, Nat.zero_le _, by simp⟩
  | some k =>
    refine ⟨⟨(s.data.toList.take k).toArray⟩, ⟨(s.data.toList.drop (k + 1)).toArray⟩, true, rfl, ?_, ?_, by simp⟩
    · rw [← text_size3, ← text_size3]; simp; omega
    · rw [← text_size3, ← text_size3]; simp

set_option maxHeartbeats 1000000 in
theorem path_calls (s : ByteArray) (r : Bool) (hr : pathB s.data.toList = r) (hs : s.size ≤ 1073741824) (w : World) :
    Calls Tryz.prog 62 #[.string s] w fun e w' => e = .returned (.bool r) ∧ Below w.heap.size w w' := by
  obtain ⟨A, B, f, h1, h2, h3, h4⟩ := cut_pair s
  rw [hr] at h4
  have HC := Lib.hid (cut3_calls s A B f h1 hs w)
  obtain ⟨ra, hra⟩ : ∃ r, nameB A.data.toList = r := ⟨_, rfl⟩
  obtain ⟨rb, hrb⟩ : ∃ r, nameB B.data.toList = r := ⟨_, rfl⟩
  have HA := Lib.hid (fun w => name_calls A ra hra (by omega) w)
  have HB := Lib.hid (fun w => name_calls B rb hrb (by omega) w)
  rw [hra, hrb] at h4
  have H4 := Lib.hid h4
  clear h1 hra hrb hr h4
  go_enter Tryz.func62, Tryz.ntmps62
  go_wp2_with fail
  refine HC.out.mono ?_
  rintro e w1 ⟨rfl, hb⟩
  go_wp2_with fail
  refine (HA.out w1).mono ?_
  rintro e w1' ⟨rfl, rfl⟩
  cases ra with
  | false =>
    obtain rfl : r = false := by simpa using H4.out
    go_wp2_with fail
    go_ret
    exact ⟨rfl, hb⟩
  | true =>
    cases f with
    | false =>
      obtain rfl : r = true := by simpa using H4.out
      go_wp2_with fail
      go_ret
      exact ⟨rfl, hb⟩
    | true =>
      obtain rfl : r = rb := by simpa using H4.out
      go_wp2_with fail
      refine (HB.out w1).mono ?_
      rintro e w1' ⟨rfl, rfl⟩
      go_wp2_with fail
      go_ret
      exact ⟨rfl, hb⟩

/-! ### the document's -/
def slashI (l : Txt) : Int := match slashAt l with | none => -1 | some k => (k : Int)
theorem slash_step {b : UInt8} {l : Txt} {k : Nat} {R : Int} (h : (match slashAt (b :: l) with | none => -1 | some j => ((k + j : Nat) : Int)) = R) :
    (b = 47 → R = k) ∧ (b ≠ 47 → (match slashAt l with | none => -1 | some j => ((k + 1 + j : Nat) : Int)) = R) := by
  rw [slashAt] at h
  constructor
  · intro hb
    rw [if_pos hb] at h
    simpa using h.symm
  · intro hb
    rw [if_neg hb] at h
    cases hs : slashAt l with
    | none => rw [hs] at h; simpa using h
    | some j =>
      rw [hs] at h
      simp only [Option.map_some] at h
      rw [← h]
      show ((k + 1 + j : Nat) : Int) = ((k + (j + 1) : Nat) : Int)
      omega

end Go.Proofs.YtfpgbhimgfdddaaGreatDoor

/-! ## DskWalksC -/
/- The walks of layer 3 (disk): failures, ready, step, Off, Crash. -/
namespace Go.Proofs.YtfpgbhimgfdddaaGreatDoor
open Go.RowKit
attribute [local go_sem ↓] Go.wp_at_zero Go.wp_at_succ
attribute [local go_sem] Later.cell Later.frozen

section
variable {B0 : Nat} {a : Nat → Addr}
theorem fail_calls (op s : ByteArray) (k : Nat) (w : World) :
    Calls Tryz.prog 64 #[.string op, .string s, failV a (k + 1)] w fun e w' => ∃ v, e = .returned v ∧ ErrV a w' op s (k + 1) v ∧ Below w.heap.size w w' := by
  unfold failV
  obtain ⟨x, hx⟩ : ∃ x, a (k + 1) = x := ⟨_, rfl⟩
  have HX := Lib.hid hx
  rw [hx]
  clear hx
  go_enter Tryz.func64, Tryz.ntmps64
  go_wp2_with fail
  go_ret
  exact ⟨_, rfl, ⟨_, rfl, by unfold failV; rw [HX.out]; exact Blk.new _ _ _⟩, (Below.refl _ _).alloc (Nat.le_refl _) _⟩

def readyR (off ok : Bool) : Nat := if off then 1 else if ok then 0 else 2
set_option maxHeartbeats 1000000 in
theorem ready_calls (p : Nat) (off ok : Bool) (op s : ByteArray) (k : Nat) (hk : readyR off ok = k) (w : World) (hoff : w.cell? ⟨p, 6, none⟩ = some (.bool off)) (hF : Fails B0 a w) :
    Calls Tryz.prog 61 #[.pointer (some ⟨p, 0, none⟩), .string op, .string s, .bool ok] w fun e w' => ∃ v, e = .returned v ∧ ErrV a w' op s k v ∧ Below w.heap.size w w' := by
  have f1 : _ = some (failV a 1) := (hF 1 (by decide)).2
  have f2 : _ = some (failV a 2) := (hF 2 (by decide)).2
  have hfl := fun k w => fail_calls (a := a) op s k w
  unfold failV at f1 f2 hfl
  simp only [failG] at f1 f2
  have HF := Lib.hid hfl
  have HK := Lib.hid hk
  clear hk hF hfl
  cases off with
  | true =>
    obtain rfl : 1 = k := by have := HK.out; simpa [readyR] using this
    go_enter Tryz.func61, Tryz.ntmps61
    go_wp2_with fail
    refine (HF.out 0 w).mono ?_
    rintro e w1 ⟨v, rfl, hv, hb⟩
    have HV := Lib.hid hv
    clear hv
    go_wp2_with fail
    go_ret
    exact ⟨v, rfl, HV.out, hb⟩
  | false =>
    cases ok with
    | true =>
      obtain rfl : 0 = k := by have := HK.out; simpa [readyR] using this
      go_enter Tryz.func61, Tryz.ntmps61
      go_wp2_with fail
      go_ret
      exact ⟨_, rfl, rfl, Below.refl _ _⟩
    | false =>
      obtain rfl : 2 = k := by have := HK.out; simpa [readyR] using this
      go_enter Tryz.func61, Tryz.ntmps61
      go_wp2_with fail
      refine (HF.out 1 w).mono ?_
      rintro e w1 ⟨v, rfl, hv, hb⟩
      have HV := Lib.hid hv
      clear hv
      go_wp2_with fail
      go_ret
      exact ⟨v, rfl, HV.out, hb⟩

variable {R : Nat → Nat} {A : Adr} {d : Ds}
theorem DBlk.set (w : World) {d' : Ds} {i : Nat} {u : Value} (h : DBlk w A d) (he : (#[.map (some A.md), .map (some A.mf), .map (some A.sd), .map (some A.sf), A.sv, .int .i64 (d.cap : Int), .bool d.off, .int .i64 (d.await : Int)] : Array Value).setIfInBounds i u = #[.map (some A.md), .map (some A.mf), .map (some A.sd), .map (some A.sf), A.sv, .int .i64 (d'.cap : Int), .bool d'.off, .int .i64 (d'.await : Int)]) : DBlk (w.setCell ⟨A.p, i, none⟩ u) A d' := by
  have := Blk.set_ h i u
  rw [he] at this
  exact this
def StepOut (B0 : Nat) (a : Nat → Addr) (R : Nat → Nat) (A : Adr) (d : Ds) (op s : ByteArray) (w : World) (e : Ending) (w' : World) : Prop :=
  ∃ v, e = .returned v ∧ ErrV a w' op s (stepD d).1 v ∧ CD B0 w' R A (stepD d).2 ∧ Own R R w w' ∧ ∀ k, k < w.heap.size → k ≠ A.p → w'.heap[k]? = w.heap[k]?
set_option maxHeartbeats 1000000 in
theorem step_calls (op s : ByteArray) (w : World) (h : CD B0 w R A d) (haw : d.await ≤ 9223372036854775807) (hB : B0 ≤ w.heap.size) (hF : Fails B0 a w) :
    Calls Tryz.prog 69 #[.pointer (some ⟨A.p, 0, none⟩), .string op, .string s] w (StepOut B0 a R A d op s w) := by
  have c7 : _ = some (Value.int .i64 (d.await : Int)) := Blk.cell h.blk 7
  have g7 := Blk.frozen h.blk 7
  have hp1 : R A.p ≠ 0 := by rw [h.rp]; omega
  have hpl := Blk.lt h.blk
  by_cases h0 : d.await = 0
  · have e1 : decide ((0 : Int) < (d.await : Int)) = false := by simp; omega
    have e2 : decide (0 < d.await) = false := by simp; omega
    have hst : stepD d = (0, d) := by simp [stepD, h0]
    have HST := Lib.hid hst
    have H := Lib.hid h
    obtain ⟨n, hn⟩ : ∃ n, d.await = n := ⟨_, rfl⟩
    obtain ⟨p, hp⟩ : ∃ p, A.p = p := ⟨_, rfl⟩
    rw [hn] at c7 e1 e2
    rw [hp] at c7 g7 ⊢
    clear hst h h0 hn hp hp1 hpl hF g7
    go_enter Tryz.func69, Tryz.ntmps69
    go_wp2_with fail
    go_ret
    exact ⟨_, rfl, by rw [HST.out]; rfl, by rw [HST.out]; exact H.out, Own.refl _ _, fun _ _ _ => rfl⟩
  · have e1 : decide ((0 : Int) < (d.await : Int)) = true := by simp; omega
    have e2 : decide (0 < d.await) = true := by simp; omega
    by_cases hx1 : d.await = 1
    · have hst : stepD d = (1, { d with await := 0, off := true }) := by simp [stepD, hx1]
      have f1 : _ = some (failV a 1) := (hF 1 (by decide)).2
      have hf1 := (hF 1 (by decide)).1
      have hfl := fun w => fail_calls (a := a) op s 0 w
      have hne : failG 1 ≠ A.p := by
        intro e
        have := h.low A.p (by rw [← e]; exact hf1)
        exact hp1 this
      have hblk2 : DBlk ((w.setCell ⟨A.p, 7, none⟩ (.int .i64 0)).setCell ⟨A.p, 6, none⟩ (.bool true)) A { d with await := 0, off := true } := by
        have h1 : DBlk (w.setCell ⟨A.p, 7, none⟩ (.int .i64 0)) A { d with await := 0 } := DBlk.set w h.blk rfl
        exact DBlk.set _ h1 rfl
      have hCD : CD B0 ((w.setCell ⟨A.p, 7, none⟩ (.int .i64 0)).setCell ⟨A.p, 6, none⟩ (.bool true)) R A { d with await := 0, off := true } :=
        h.blk_only (fun k _ hk => (Below.heap_setCell _ _ _ k hk).trans (Below.heap_setCell _ _ _ k hk)) (by simp [World.setCell]) hblk2 rfl rfl rfl rfl
      have hO : Own R R w ((w.setCell ⟨A.p, 7, none⟩ (.int .i64 0)).setCell ⟨A.p, 6, none⟩ (.bool true)) := (Own.of_set _ hp1).trans (Own.of_set _ hp1)
      have hfc : ((w.setCell ⟨A.p, 7, none⟩ (.int .i64 0)).setCell ⟨A.p, 6, none⟩ (.bool true)).cell? ⟨failG 1, 0, none⟩ = some (failV a 1) := by
        rw [← f1]
        exact World.cell?_of_block ((Below.heap_setCell _ _ _ _ hne).trans (Below.heap_setCell _ _ _ _ hne))
      have c7' := c7
      rw [hx1] at c7'
      have g6 := Blk.frozen h.blk 6
      have c6 : _ = some (Value.bool d.off) := Blk.cell h.blk 6
      unfold failV at hfc hfl
      simp only [failG] at hfc
      have hfar : ∀ w1 : World, Below ((w.setCell ⟨A.p, 7, none⟩ (.int .i64 0)).setCell ⟨A.p, 6, none⟩ (.bool true)).heap.size ((w.setCell ⟨A.p, 7, none⟩ (.int .i64 0)).setCell ⟨A.p, 6, none⟩ (.bool true)) w1 → ∀ k, k < w.heap.size → k ≠ A.p → w1.heap[k]? = w.heap[k]? :=
        fun w1 hb k hk hne => (hb.block k (by simp [World.setCell]; exact hk)).trans ((Below.heap_setCell _ _ _ k hne).trans (Below.heap_setCell _ _ _ k hne))
      have HFAR := Lib.hid hfar
      have HST := Lib.hid hst
      have HC := Lib.hid hCD
      have HO := Lib.hid hO
      have HFL := Lib.hid hfl
      obtain ⟨p, hp⟩ : ∃ p, A.p = p := ⟨_, rfl⟩
      have HPP := Lib.hid hp
      rw [hp] at c7' g7 g6 c6 hpl hfc HC HO HFAR ⊢
      clear hfar
      clear hst h h0 hp hp1 hF hfl hCD hO hblk2 f1 hf1 hne c7 e1 e2 hx1
      go_enter Tryz.func69, Tryz.ntmps69
      go_wp2_with fail
      refine (HFL.out _).mono ?_
      rintro e w1 ⟨v, rfl, hv, hb⟩
      have HV := Lib.hid hv
      clear hv
      go_wp2_with fail
      go_ret
      exact ⟨v, rfl, by rw [HST.out]; exact HV.out, by rw [HST.out]; exact HC.out.below hb, HO.out.trans (Own.of_below hb), by rw [HPP.out]; exact HFAR.out _ hb⟩
    · have hst : stepD d = (0, { d with await := d.await - 1 }) := by simp [stepD, h0, hx1]
      have hval : (Value.int .i64 ((d.await : Int) - 1)) = .int .i64 ((d.await - 1 : Nat) : Int) := vi (by omega)
      have hblk2 : DBlk (w.setCell ⟨A.p, 7, none⟩ (.int .i64 ((d.await : Int) - 1))) A { d with await := d.await - 1 } := DBlk.set w h.blk (by rw [hval]; rfl)
      have hCD : CD B0 (w.setCell ⟨A.p, 7, none⟩ (.int .i64 ((d.await : Int) - 1))) R A { d with await := d.await - 1 } :=
        h.blk_only (fun k _ hk => Below.heap_setCell _ _ _ k hk) (by simp [World.setCell]) hblk2 rfl rfl rfl rfl
      have hO : Own R R w (w.setCell ⟨A.p, 7, none⟩ (.int .i64 ((d.await : Int) - 1))) := Own.of_set _ hp1
      have HST := Lib.hid hst
      have HC := Lib.hid hCD
      have HO := Lib.hid hO
      have e3 : (((d.await : Int) - 1) == 0) = false := by simp; omega
      have hn2 : 2 ≤ d.await := by omega
      obtain ⟨n, hn⟩ : ∃ n, d.await = n := ⟨_, rfl⟩
      obtain ⟨p, hp⟩ : ∃ p, A.p = p := ⟨_, rfl⟩
      have HPP := Lib.hid hp
      have hr := HST.out
      rw [hn] at c7 e1 e2 e3 HC HO haw hn2 hr
      rw [hp] at c7 g7 hpl HC HO ⊢
      have HR := Lib.hid hr
      clear hst h h0 hp hp1 hF hCD hO hblk2 hx1 hval hn hr HST
      go_enter Tryz.func69, Tryz.ntmps69
      go_wp2_with fail
      go_ret
      exact ⟨_, rfl, by rw [HR.out]; rfl, by rw [HR.out]; exact HC.out, HO.out, fun k _ hne => Below.heap_setCell _ _ _ k (by rw [← HPP.out]; exact hne)⟩
end

/-! ### Off, Crash -/
set_option maxHeartbeats 400000 in
theorem off_calls (p : Nat) (off : Bool) (w : World) (hoff : w.cell? ⟨p, 6, none⟩ = some (.bool off)) :
    Calls Tryz.prog 26 #[.pointer (some ⟨p, 0, none⟩)] w fun e w' => e = .returned (.bool off) ∧ w = w' := by
  go_enter Tryz.func26, Tryz.ntmps26
  go_wp2_with fail
  go_ret
  exact ⟨rfl, rfl⟩
theorem off_nil_calls (w : World) : Calls Tryz.prog 26 #[.pointer none] w fun e w' => e = .returned (.bool true) ∧ w = w' := by
  go_enter Tryz.func26, Tryz.ntmps26
  go_wp2_with fail
  go_ret
  exact ⟨rfl, rfl⟩
set_option maxHeartbeats 1000000 in
theorem crash_calls {B0 : Nat} {R : Nat → Nat} {A : Adr} {d : Ds} (n : Int) (w : World) (h : CD B0 w R A d) (hn : n ≤ 9223372036854775807) (hn' : -9223372036854775808 ≤ n) :
    Calls Tryz.prog 25 #[.pointer (some ⟨A.p, 0, none⟩), .int .i64 n] w fun e w' => e = .returned (.tuple #[]) ∧ CD B0 w' R A (crashD d n) ∧ Own R R w w' := by
  have c7 : _ = some (Value.int .i64 (d.await : Int)) := Blk.cell h.blk 7
  have g7 := Blk.frozen h.blk 7
  have hp1 : R A.p ≠ 0 := by rw [h.rp]; omega
  have hblk2 : ∀ v : Int, v = (n.toNat : Int) → DBlk (w.setCell ⟨A.p, 7, none⟩ (.int .i64 v)) A (crashD d n) := fun v hv => DBlk.set w h.blk (by rw [hv]; rfl)
  have hCD : ∀ v : Int, v = (n.toNat : Int) → CD B0 (w.setCell ⟨A.p, 7, none⟩ (.int .i64 v)) R A (crashD d n) := fun v hv =>
    h.blk_only (fun k _ hk => Below.heap_setCell _ _ _ k hk) (by simp [World.setCell]) (hblk2 v hv) rfl rfl rfl rfl
  have hO : ∀ v : Value, Own R R w (w.setCell ⟨A.p, 7, none⟩ v) := fun v => Own.of_set _ hp1
  have HC := Lib.hid hCD
  have HO := Lib.hid hO
  obtain ⟨p, hp⟩ : ∃ p, A.p = p := ⟨_, rfl⟩
  rw [hp] at c7 g7 HC HO ⊢
  clear h hp hp1 hCD hO hblk2
  by_cases hneg : n < 0
  · have e1 : decide ((0 : Int) < n) = false := by simp; omega
    have e2 : decide (n < 0) = true := by simpa using hneg
    have e3 : decide ((0 : Int) ≤ n) = false := by simp; omega
    have e4 : max 0 n = 0 := by omega
    go_enter Tryz.func25, Tryz.ntmps25
    go_wp2_with fail
    go_end0
    exact ⟨rfl, HC.out _ (by omega), HO.out _⟩
  · have e2 : decide (n < 0) = false := by simp; omega
    have e4 : max 0 n = n := by omega
    go_enter Tryz.func25, Tryz.ntmps25
    go_wp2_with fail
    go_end0
    exact ⟨rfl, HC.out _ (by omega), HO.out _⟩
end Go.Proofs.YtfpgbhimgfdddaaGreatDoor
