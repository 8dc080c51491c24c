/- The statement RegexPlain, walked. -/
import Derived.Test.YtlmnincllndpnaaShow
import Derived.Test.YtlmnincllndpnaaDerLawB
namespace Go.Proofs.Ytlmnincllndpnaa
open Go.RowKit
attribute [local go_sem ↓] Go.wp_at_zero Go.wp_at_succ
attribute [local go_sem] Later.cell Later.frozen

theorem fold_snoc : ∀ (l : List UInt8) (t : Tr) (c : UInt8), foldT (some t) (l ++ [c]) = .cat (foldT (some t) l) (oneT c)
  | [], t, c => rfl
  | b :: l, t, c => fold_snoc l _ c
theorem plain_snoc (l : List UInt8) (c : UInt8) (h : l ≠ []) : foldT none (l ++ [c]) = .cat (foldT none l) (oneT c) := by
  cases l with
  | nil => exact absurd rfl h
  | cons b l => exact fold_snoc l _ c

set_option maxRecDepth 100000 in
set_option maxHeartbeats 1000000 in
theorem single_calls (b : UInt8) (p : Nat) (w : World) (ht : TreeIs w (oneT b) p) :
    Calls Try.prog 25 #[.pointer (some ⟨p, 0, none⟩), .int .u8 b.toNat] w fun e w' => e = .returned (.bool true) ∧ Below w.heap.size w w' := by
  obtain ⟨v, hv⟩ : ∃ v, putR 0 b.toNat b.toNat = v := ⟨_, rfl⟩
  have hb := UInt8.toNat_lt b
  have hp : Blk w p 52 (nodeCells 1 v (.slice none 0 0)) := by rw [← hv]; exact ht.2
  have hbit : ∀ k, v.testBit k = decide (k = b.toNat) := by intro k; rw [← hv]; exact oneT_bit b k
  have HBIT := Lib.hid hbit
  have c0 : _ = some (Value.int .i64 1) := hp.cell 0
  have c5 : _ = some (Value.slice none 0 0) := hp.cell 5
  clear hv ht hbit
  go_enter Try.func25, Try.ntmps25
  go_wp2_with fail
  clear c0 c5
  go_loopg [23] 256 (fun g s23 wr => ∃ k : Nat, k + g = 256 ∧ s23 = .int .i64 (k : Nat) ∧ Below w.heap.size w wr)
  case atStart => exact ⟨0, by omega, rfl, Below.refl _ _⟩
  case round =>
    obtain ⟨k, hkg, rfl, hB⟩ := hrel
    have HKG := Lib.hid hkg
    by_cases hk : k < 256
    · have hp1 := hp.below hB hp.lt
      have d1 : _ = some (Value.int .u64 (word v 0)) := hp1.cell 1
      have d2 : _ = some (Value.int .u64 (word v 1)) := hp1.cell 2
      have d3 : _ = some (Value.int .u64 (word v 2)) := hp1.cell 3
      have d4 : _ = some (Value.int .u64 (word v 3)) := hp1.cell 4
      obtain ⟨x, hx⟩ : ∃ x, decide (k = b.toNat) = x := ⟨_, rfl⟩
      have hcall := has_calls v k hk wr
      rw [HBIT.out k, hx] at hcall
      unfold setVal at hcall
      have heq : ((k : Int) == (b.toNat : Int)) = x := by rw [← hx, Bool.eq_iff_iff]; simp; omega
      have HC := Lib.hid hcall
      clear hcall hx hkg
      go_wp2_with fail
      refine HC.out.mono ?_
      rintro e w1 ⟨rfl, hb1⟩
      clear HC
      go_wp2_with fail
      go_roundg (gk - 1)
      case measure => have := HKG.out; omega
      case rel => exact ⟨k + 1, by have := HKG.out; omega, by go_num, then_ hB (hb1.mono (Nat.le_refl _))⟩
    · obtain rfl : k = 256 := by omega
      go_wp2_with fail
      go_ret
      exact ⟨rfl, hB⟩

set_option maxRecDepth 100000 in
set_option maxHeartbeats 2000000 in
theorem regexPlain_calls (s : ByteArray) (w : World) (hs : s.size ≤ 140737488351232) :
    Calls Try.prog 10 #[.string s] w fun e w' => e = .returned (.bool true) ∧ Below w.heap.size w w' := by
  go_enter Try.func10, Try.ntmps10
  go_wp2_with fail
  refine (wakes06_calls w).mono ?_
  rintro e w1 ⟨rfl, hb1⟩
  go_upto_region 4 with fail
  go_cut [0] (fun s0 wz => wz = w1 ∧ ∃ S : ByteArray, s0 = .string S ∧ S.size ≤ 32)
  case first =>
    go_wp2_with fail
    go_meet
    refine ⟨rfl, _, rfl, ?_⟩
    have := cut_le s (min (s.size : Int) 32).toNat
    omega
  case rest =>
    obtain ⟨rfl, S, rfl, hS⟩ := hcut
    obtain ⟨w1, rfl⟩ : ∃ x, x = wc := ⟨_, rfl⟩
    go_wp2_with fail
    go_loopg [3, 4] S.size (fun g s5 s6 wr => wr = w1 ∧ ∃ (P : ByteArray) (k : Nat), k + g = S.size ∧ s5 = .string P ∧ s6 = .int .i64 (k : Nat) ∧ P.data.toList = esc (S.data.toList.take k))
    case atStart => exact ⟨rfl, ⟨#[]⟩, 0, by omega, rfl, rfl, rfl⟩
    case round =>
      obtain ⟨rfl, P, k, hk, rfl, rfl, hP⟩ := hrel
      obtain ⟨w1, rfl⟩ : ∃ x, x = wr := ⟨_, rfl⟩
      have hPs : P.size ≤ 64 := by
        have e := congrArg List.length hP
        rw [esc_len, List.length_take] at e
        have e1 : P.data.toList.length = P.size := rfl
        have e2 : S.data.toList.length = S.size := rfl
        omega
      have HK := Lib.hid hk
      have HP := Lib.hid hP
      clear hk hP
      by_cases hlt : k < S.size
      · go_wp2_with fail
        go_roundg (gk - 1)
        case measure => have := HK.out; omega
        case rel =>
          refine ⟨rfl, _, k + 1, by have := HK.out; omega, rfl, by go_num, ?_⟩
          have hl : k < S.data.toList.length := hlt
          rw [List.take_succ_eq_append_getElem hl, esc_append, ← HP.out]
          simp only [ByteArray.data_append, Array.toList_append, cut_data]
          congr 1
          rw [show k + 1 - k = 1 by omega, List.drop_eq_getElem_cons hl]
          rfl
      · have hpt : P.data.toList = esc S.data.toList := by
          rw [HP.out, List.take_of_length_le]
          exact Nat.le_of_not_lt hlt
        have hpar : Parses P.data.toList (.ok (foldT none S.data.toList)) := by
          rw [hpt]
          refine parses_of_says (esc_branches _) ?_
          rw [esc_len]
          have e2 : S.data.toList.length = S.size := rfl
          omega
        have HPAR := Lib.hid hpar
        clear hpt hpar
        go_wp2_with fail
        refine (parse_calls P _ HPAR.out w1).mono ?_
        rintro e w2 ⟨p, rfl, htr, hb2⟩
        have ht2 := htr.is
        have hB2 := then_ hb1 hb2
        clear htr hb1 hb2 HPAR HP HK
        go_wp2_with fail
        go_loopg [5, 7] (S.size + 1) (fun g s5 s7 wr => ∃ (j pn : Nat), s5 = .pointer (some ⟨pn, 0, none⟩) ∧ s7 = .int .i64 ((j : Int) - 1) ∧ j ≤ S.size ∧ j < g ∧ (0 < S.size → 1 ≤ j) ∧ TreeIs wr (foldT none (S.data.toList.take j)) pn ∧ Below w.heap.size w wr)
        case atStart =>
          refine ⟨S.size, p, rfl, by simp, Nat.le_refl _, by omega, by omega, ?_, hB2⟩
          show TreeIs w2 (foldT none (S.data.toList.take S.data.toList.length)) p
          rw [List.take_length]
          exact ht2
        case round =>
          clear ht2 hB2
          obtain ⟨j, pn, rfl, rfl, hj, hjg, hj1, ht, hB⟩ := hrel
          by_cases hj2 : 2 ≤ j
          · obtain ⟨i, rfl⟩ : ∃ i, j = i + 2 := ⟨j - 2, by omega⟩
            have hil : i + 1 < S.size := by omega
            have hlen : S.data.toList.length = S.size := rfl
            have hsn : S.data.toList.take (i + 2) = S.data.toList.take (i + 1) ++ [S[i + 1]] := by
              rw [List.take_succ_eq_append_getElem (by rw [hlen]; exact hil)]; rfl
            rw [hsn, plain_snoc _ _ (by intro h; have h2 := congrArg List.length h; rw [List.length_take] at h2; simp only [List.length_nil] at h2; omega)] at ht
            obtain ⟨bk, pa, pb, ha, hb, hkk, hp⟩ := ht
            have c0 : _ = some (Value.int .i64 2) := Blk.cell hp 0
            have c5 : _ = some (Value.slice (some ⟨bk, 0, none⟩) 2 2) := Blk.cell hp 5
            have k0 : _ = some (Value.pointer (some ⟨pa, 0, none⟩)) := Blk.cell hkk 0
            have k1 : _ = some (Value.pointer (some ⟨pb, 0, none⟩)) := Blk.cell hkk 1
            have l1 := Blk.lt hp
            have l2 := Blk.lt hkk
            have hbv : ((i + 2 : Nat) : Int) - 1 = ((i + 1 : Nat) : Int) := by omega
            rw [hbv]
            have hcall := single_calls S[i + 1] pb wr hb
            have hsl : ∀ x : Later wr, Calls Try.prog 25 #[.pointer (some ⟨pb, 0, none⟩), .int .u8 S[i + 1].toNat] x.w fun e w' => e = .returned (.bool true) ∧ Below x.w.heap.size x.w w' := fun x => single_calls S[i + 1] pb x.w (hb.keep (below_keeps x.h))
            have HSL := Lib.hid hsl
            clear hsn hcall hsl hbv
            have z1 : (0 : Int) ≤ (i : Int) + 1 := by omega
            have z2 : ((i : Int) + 1).toNat = i + 1 := by omega
            have z3 : (i : Int) + 1 < (S.size : Int) := by omega
            go_upto_region 15 with fail
            refine wp_region_later (by kernel_rfl) (by kernel_rfl) ?_
            repeat (go_big_quiet_step (first | (go_at_call 25; exact quiet_later _ (HSL.out _))))
            refine wpQuiet_nil ?_
            rintro w3 ⟨⟨_, hb3⟩, rfl⟩
            clear c0 c5 k0 k1
            have hp3 := Blk.below hp hb3 l1
            have hk3 := Blk.below hkk hb3 l2
            have c5 : _ = some (Value.slice (some ⟨bk, 0, none⟩) 2 2) := Blk.cell hp3 5
            have k0 : _ = some (Value.pointer (some ⟨pa, 0, none⟩)) := Blk.cell hk3 0
            go_wp2_with fail
            go_roundg (gk - 1)
            case measure => omega
            case rel => exact ⟨i + 1, pa, rfl, by simp, by omega, by omega, by omega, ha.keep (below_keeps hb3), then_ hB (hb3.mono (Nat.le_refl _))⟩
          · by_cases hS0 : S.size = 0
            · obtain rfl : j = 0 := by omega
              have hse : S.toList = [] := by
                rw [ByteArray.toList_eq]
                exact List.length_eq_zero_iff.1 hS0
              have hp : Blk wr pn 52 (nodeCells 0 0 (.slice none 0 0)) := ht
              have c0 : _ = some (Value.int .i64 0) := hp.cell 0
              clear ht
              go_wp2_with fail
              go_ret
              exact ⟨rfl, hB⟩
            · obtain rfl : j = 1 := by omega
              have h0 : 0 < S.size := by omega
              have hse : ¬ S.toList = [] := by
                rw [ByteArray.toList_eq]
                intro h
                exact hS0 (by have := congrArg List.length h; exact this)
              have hse2 : (!S.toList.isEmpty) = true := by simpa using hse
              have hse3 : S.toList.isEmpty = false := by simpa using hse
              have ht1 : TreeIs wr (oneT S[0]) pn := by
                have e : S.data.toList.take 1 = [S[0]] := by
                  have hl : 0 < S.data.toList.length := h0
                  rw [show (1 : Nat) = 0 + 1 from rfl, List.take_succ_eq_append_getElem hl]
                  rfl
                rw [e] at ht
                exact ht
              have HC := Lib.hid (single_calls S[0] pn wr ht1)
              obtain ⟨cs, hpn⟩ := ht1.node
              clear ht
              go_wp2_with fail
              refine HC.out.mono ?_
              rintro e w3 ⟨rfl, hb3⟩
              go_wp2_with fail
              go_ret
              exact ⟨rfl, then_ hB (hb3.mono (Nat.le_refl _))⟩
end Go.Proofs.Ytlmnincllndpnaa
