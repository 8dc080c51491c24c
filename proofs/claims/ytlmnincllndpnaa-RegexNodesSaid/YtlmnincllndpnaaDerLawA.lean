/- Match and Begins at a tree and at nil; the statement DerivBegins, walked. -/
import Derived.Test.YtlmnincllndpnaaDerMatch
namespace Go.Proofs.Ytlmnincllndpnaa
open Go.RowKit
attribute [local go_sem ↓] Go.wp_at_zero Go.wp_at_succ
attribute [local go_sem] Later.cell Later.frozen

theorem cut_data (s : ByteArray) (i j : Nat) : (s.extract i j).data.toList = (s.data.toList.drop i).take (j - i) := by
  rw [show (s.extract i j).data = s.data.extract i j from ByteArray.data_extract]
  rw [Array.toList_extract, List.extract_eq_take_drop]
theorem cut_size (s : ByteArray) (i j : Nat) : (s.extract i j).size ≤ s.size := by
  have h := congrArg List.length (cut_data s i j)
  rw [List.length_take, List.length_drop] at h
  have e1 : (s.extract i j).data.toList.length = (s.extract i j).size := rfl
  have e2 : s.data.toList.length = s.size := rfl
  omega

/-- Match's answer, as it is reckoned. -/
def matchC (t : Tr) (s : List UInt8) : Bool := (after [[t]] s).any (·.all null)
theorem matchC_iff (t : Tr) (s : List UInt8) : matchC t s = true ↔ Lg t s := by
  rw [← match_iff]
  unfold matchC
  simp only [List.any_eq_true]
theorem behind_tree (t : Tr) (p : Nat) (s : ByteArray) (w : World) (ht : TreeIs w t p) (hs : s.size ≤ 9223372036854775807) : BehindOk (some ⟨p, 0, none⟩) s (after [[t]] s.data.toList) w :=
  (behind_calls t p s w ht hs).mono fun _ _ ⟨m, h1, h2, h3, _⟩ => ⟨m, h1, h2, h3⟩
theorem behind_none (s : ByteArray) (w : World) : BehindOk none s [] w :=
  (behind_nil s w).mono fun _ _ ⟨h1, h2, h3⟩ => ⟨_, h1, h2, h3⟩
theorem match_tree (t : Tr) (p : Nat) (s : ByteArray) (r : Bool) (w : World) (ht : TreeIs w t p) (hs : s.size ≤ 9223372036854775807) (hr : matchC t s.data.toList = r) :
    Calls Try.prog 14 #[.pointer (some ⟨p, 0, none⟩), .string s] w fun e w' => e = .returned (.bool r) ∧ Below w.heap.size w w' :=
  match_any _ s _ w (behind_tree t p s w ht hs) r (by rw [← hr, matchC_iff, match_iff])
theorem match_none (s : ByteArray) (w : World) :
    Calls Try.prog 14 #[.pointer none, .string s] w fun e w' => e = .returned (.bool false) ∧ Below w.heap.size w w' :=
  match_any _ s _ w (behind_none s w) false (by simp)
theorem begins_tree (t : Tr) (p : Nat) (s : ByteArray) (r : Bool) (w : World) (ht : TreeIs w t p) (hs : s.size ≤ 9223372036854775807) (hr : beginsB t s.data.toList = r) :
    Calls Try.prog 15 #[.pointer (some ⟨p, 0, none⟩), .string s] w fun e w' => e = .returned (.bool r) ∧ Below w.heap.size w w' :=
  begins_any _ s _ w (behind_tree t p s w ht hs) r hr
theorem begins_none (s : ByteArray) (w : World) :
    Calls Try.prog 15 #[.pointer none, .string s] w fun e w' => e = .returned (.bool false) ∧ Below w.heap.size w w' :=
  begins_any _ s _ w (behind_none s w) false rfl
theorem nullable_tree (t : Tr) (p : Nat) (r : Bool) (w : World) (ht : TreeIs w t p) (hr : null t = r) :
    Calls Try.prog 26 #[.pointer (some ⟨p, 0, none⟩)] w fun e w' => e = .returned (.bool r) ∧ Below w.heap.size w w' :=
  (nullable_calls t p w ht).mono fun _ _ ⟨h1, h2⟩ => ⟨by rw [h1, hr], h2 ▸ Below.refl _ _⟩

def wakeT : Tr := .star (.alt (.cat (.cls (putR 0 97 97)) (.cls (putR 0 98 98))) (.cls (putR 0 97 97)))
theorem wake_parses : Parses [40, 97, 98, 124, 97, 41, 42] (.ok wakeT) := ⟨by decide, 30, [], by rfl⟩

set_option maxHeartbeats 400000 in
theorem wakes07_calls (w : World) : Calls Try.prog 11 #[] w fun e w' => e = .returned (.bool true) ∧ Below w.heap.size w w' := by
  go_enter Try.func11, Try.ntmps11
  go_wp2_with fail
  refine (parse_calls ⟨#[40, 97, 98, 124, 97, 41, 42]⟩ (.ok wakeT) wake_parses w).mono ?_
  rintro e w1 ⟨p, rfl, ht, hb1⟩
  have ht1 := ht.is
  go_wp2_with fail
  refine (match_tree wakeT p ⟨#[97, 97, 98]⟩ true w1 ht1 (by decide) (by decide +kernel)).mono ?_
  rintro e w2 ⟨rfl, hb2⟩
  have ht2 := ht1.keep (below_keeps hb2)
  go_wp2_with fail
  refine (match_tree wakeT p ⟨#[98]⟩ false w2 ht2 (by decide) (by decide +kernel)).mono ?_
  rintro e w3 ⟨rfl, hb3⟩
  have ht3 := ht2.keep (below_keeps hb3)
  go_wp2_with fail
  refine (begins_tree wakeT p ⟨#[97, 98]⟩ true w3 ht3 (by decide) (by decide +kernel)).mono ?_
  rintro e w4 ⟨rfl, hb4⟩
  have ht4 := ht3.keep (below_keeps hb4)
  go_wp2_with fail
  refine (nullable_tree wakeT p true w4 ht4 rfl).mono ?_
  rintro e w5 ⟨rfl, hb5⟩
  go_wp2_with fail
  go_ret
  exact ⟨rfl, then_ (then_ (then_ (then_ hb1 hb2) hb3) hb4) hb5⟩

theorem match_begins {t : Tr} {s : List UInt8} (h : matchC t s = true) : beginsB t s = true := by
  unfold matchC at h
  unfold beginsB
  cases hd : after [[t]] s with
  | nil => rw [hd] at h; cases h
  | cons => rfl
theorem begins_take {t : Tr} {s : List UInt8} (j : Nat) (h : beginsB t s = true) : beginsB t (s.take j) = true := by
  unfold beginsB at *
  cases hd : after [[t]] (s.take j) with
  | nil =>
    rw [← List.take_append_drop j s, after_append, hd, after_nil] at h
    cases h
  | cons => rfl

set_option maxHeartbeats 1000000 in
theorem derivBegins_calls (P s : ByteArray) (cut : Int) (w : World) (hs : s.size ≤ 9223372036854775807) (hc : -9223372036854775808 ≤ cut) (hc' : cut ≤ 9223372036854775807) :
    Calls Try.prog 4 #[.string P, .string s, .int .i64 cut] w fun e w' => e = .returned (.bool true) ∧ Below w.heap.size w w' := by
  obtain ⟨res, hres⟩ := parses_total P.data.toList
  cases res with
  | error c =>
    go_enter Try.func4, Try.ntmps4
    go_wp2_with fail
    refine (wakes07_calls w).mono ?_
    rintro e w1 ⟨rfl, hb1⟩
    go_wp2_with fail
    refine (parse_calls P _ hres w1).mono ?_
    rintro e w2 ⟨rfl, hb2⟩
    go_upto_region 4 with fail
    go_cut [2] (fun s2 wz => wz = w2 ∧ ∃ j : Nat, j ≤ s.size ∧ s2 = .int .i64 (j : Nat))
    case first =>
      go_wp2_with fail
      all_goals go_meet
      all_goals first | exact ⟨rfl, 0, by omega, rfl⟩ | exact ⟨rfl, s.size, by omega, rfl⟩ | exact ⟨rfl, cut.toNat, by omega, by rw [Int.toNat_of_nonneg (by omega)]⟩
    obtain ⟨rfl, j, hj, rfl⟩ := hcut
    go_wp2_with fail
    refine (begins_none _ _).mono ?_
    rintro e w3 ⟨rfl, hb3⟩
    go_wp2_with fail
    refine (match_none _ _).mono ?_
    rintro e w4 ⟨rfl, hb4⟩
    go_wp2_with fail
    go_ret
    exact ⟨rfl, then_ (then_ (then_ hb1 hb2) hb3) hb4⟩
  | ok t =>
    obtain ⟨r1, h1⟩ : ∃ r, beginsB t s.data.toList = r := ⟨_, rfl⟩
    obtain ⟨r2, h2⟩ : ∃ r, matchC t s.data.toList = r := ⟨_, rfl⟩
    have h12 : r2 = true → r1 = true := fun h => by rw [← h1]; exact match_begins (h2.trans h)
    have H12 := Lib.hid h12
    have H1 := Lib.hid h1
    have H2 := Lib.hid h2
    clear h1 h2 h12
    go_enter Try.func4, Try.ntmps4
    go_wp2_with fail
    refine (wakes07_calls w).mono ?_
    rintro e w1 ⟨rfl, hb1⟩
    go_wp2_with fail
    refine (parse_calls P _ hres w1).mono ?_
    rintro e w2 ⟨p, rfl, ht, hb2⟩
    have ht2 := ht.is
    go_upto_region 4 with fail
    go_cut [2] (fun s2 wz => wz = w2 ∧ ∃ j : Nat, j ≤ s.size ∧ s2 = .int .i64 (j : Nat))
    case first =>
      go_wp2_with fail
      all_goals go_meet
      all_goals first | exact ⟨rfl, 0, by omega, rfl⟩ | exact ⟨rfl, s.size, by omega, rfl⟩ | exact ⟨rfl, cut.toNat, by omega, by rw [Int.toNat_of_nonneg (by omega)]⟩
    obtain ⟨rfl, j, hj, rfl⟩ := hcut
    have h3 : beginsB t (s.data.toList.take j) = true ∨ r1 = false := by
      cases r1 with
      | false => exact .inr rfl
      | true => exact .inl (begins_take j H1.out)
    have H3 := Lib.hid h3
    clear h3
    go_wp2_with fail
    refine (begins_tree t p s r1 _ ht2 hs H1.out).mono ?_
    rintro e w3 ⟨rfl, hb3⟩
    have ht3 := ht2.keep (below_keeps hb3)
    go_wp2_with fail
    refine (match_tree t p s r2 w3 ht3 hs H2.out).mono ?_
    rintro e w4 ⟨rfl, hb4⟩
    have ht4 := ht3.keep (below_keeps hb4)
    have hB : Below w.heap.size w w4 := then_ (then_ (then_ hb1 hb2) hb3) hb4
    cases r1 with
    | false =>
      have hr2 : r2 = false := by
        cases r2 with
        | false => rfl
        | true => have := H12.out (by trivial); cases this
      subst hr2
      go_wp2_with fail
      go_ret
      exact ⟨rfl, hB⟩
    | true =>
      have hbt : beginsB t (s.data.toList.take j) = true := by
        rcases H3.out with h | h
        · exact h
        · cases h
      have HBT := Lib.hid hbt
      clear hbt
      have hex := cut_data s 0 j
      have hez : (s.extract 0 j).size ≤ 9223372036854775807 := by have := cut_size s 0 j; omega
      have HEX := Lib.hid hex
      have HEZ := Lib.hid hez
      clear hex hez
      cases r2
      all_goals
        go_wp2_with fail
        refine (begins_tree t p (s.extract 0 j) true _ ht4 HEZ.out (by rw [HEX.out]; simpa using HBT.out)).mono ?_
        rintro e w5 ⟨rfl, hb5⟩
        go_wp2_with fail
        go_ret
        exact ⟨rfl, then_ hB hb5⟩
end Go.Proofs.Ytlmnincllndpnaa
