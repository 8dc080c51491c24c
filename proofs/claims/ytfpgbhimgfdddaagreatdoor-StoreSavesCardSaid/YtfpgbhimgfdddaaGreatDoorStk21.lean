/- Merged (what the claim wants of): StgC. -/
import Derived.Test.YtfpgbhimgfdddaaGreatDoorStk02
import Derived.Test.YtfpgbhimgfdddaaGreatDoorStk20
import Derived.Test.YtfpgbhimgfdddaaGreatDoorStk03
import Derived.Deep.LoopGhost
import Derived.Deep.CutBlock
import Derived.IntWalk
import Derived.Maps.AppendAt
import Derived.Laws.IdiomStrings
import Derived.Test.YtfpgbhimgfdddaaGreatDoorStk19
set_option linter.unusedVariables false
set_option linter.unusedSimpArgs false
/- EncWalksA, EncWalksB, EncWalksC, EncWalksE, EncWalksF together. -/
namespace Go.Proofs.YtfpgbhimgfdddaaGreatDoor
section
open Go.RowKit
attribute [local go_sem ↓] Go.wp_at_zero Go.wp_at_succ
attribute [local go_sem] Later.cell Later.frozen

theorem or128 (g : Nat) : bits .or .u8 ((g : Int) % 256) 128 = ((UInt8.ofNat (g % 128 + 128)).toNat : Int) := by
  have key : ∀ x : Fin 256, bits .or .u8 ((x.val : Nat) : Int) 128 = ((x.val % 128 + 128 : Nat) : Int) := by decide +kernel
  have h := key ⟨g % 256, Nat.mod_lt _ (by omega)⟩
  simp only at h
  rw [show ((g : Int) % 256) = ((g % 256 : Nat) : Int) by omega, h]
  have : (UInt8.ofNat (g % 128 + 128)).toNat = g % 128 + 128 := by simp [UInt8.toNat_ofNat']; omega
  rw [this]
  omega
theorem wbyteN_calls (B b : Nat) (l : List UInt8) (n : Nat) (w : World) (h : Bld B b l w) (hn : n < 256) (hlen : l.length + 1 ≤ 140737488355328) (hBw : B ≤ w.heap.size) :
    Calls Tryz.prog 135 #[.pointer (some ⟨b, 0, none⟩), .int .u8 n] w fun e w' => e = .returned .nilIface ∧ Bld B b (l ++ [UInt8.ofNat n]) w' ∧ Below B w w' := by
  have := wbyte_calls B b l (UInt8.ofNat n) w h hlen hBw
  rw [show (UInt8.ofNat n).toNat = n by simp [UInt8.toNat_ofNat']; omega] at this
  exact this
theorem uint_end {l : List UInt8} {g v : Nat} (h : l ++ uintT g = uintT v) (hg : ¬ 127 < g) : l ++ [UInt8.ofNat g] = uintT v := by
  rw [← h, uintT_end (by omega)]
theorem uint_next {l : List UInt8} {g v : Nat} (h : l ++ uintT g = uintT v) (hl : g < 2 ^ 64) (hg : 127 < g) : (l ++ [UInt8.ofNat (g % 128 + 128)]) ++ uintT (g / 128) = uintT v := by
  rw [← h, uintT_step hl hg]
  simp

set_option maxHeartbeats 400000 in
theorem uint_calls (v : Nat) (hv : v < 2 ^ 64) (w : World) :
    Calls Tryz.prog 99 #[.int .u64 v] w fun e w' => e = .returned (.string ⟨(uintT v).toArray⟩) ∧ Below w.heap.size w w' := by
  go_enter Tryz.func99, Tryz.ntmps99
  go_upto_block 0 with fail
  have hb0 : Bld w.heap.size w.heap.size [] (w.alloc (.cells #[.pointer none, .slice none 0 0] 106)) := Bld.new w (Nat.le_refl _)
  have hw0 : Below w.heap.size w (w.alloc (.cells #[.pointer none, .slice none 0 0] 106)) := (Below.refl _ _).alloc (Nat.le_refl _) _
  obtain ⟨w0, hw⟩ : ∃ w0, w.alloc (.cells #[.pointer none, .slice none 0 0] 106) = w0 := ⟨_, rfl⟩
  rw [hw] at hb0 hw0 ⊢
  clear hw
  obtain ⟨b, hb⟩ : ∃ b, w.heap.size = b := ⟨_, rfl⟩
  rw [hb] at hb0 hw0 ⊢
  have HB := Lib.hid hb
  clear hb
  go_wp2_with fail
  go_loopg [0] v (fun g s0 wr => ∃ l, s0 = .int .u64 (g : Nat) ∧ g < 2 ^ 64 ∧ l ++ uintT g = uintT v ∧ Bld b b l wr ∧ Below b w wr ∧ b ≤ wr.heap.size)
  case atStart => exact ⟨[], rfl, hv, rfl, hb0, hw0, by have := hb0.lt; omega⟩
  case round =>
    obtain ⟨l, rfl, hg, hl, hbr, hwr, hbs⟩ := hrel
    have hlen : l.length ≤ 11 := by
      have := congrArg List.length hl
      have h2 := uintT_len v
      rw [List.length_append] at this
      omega
    have HL := Lib.hid hl
    clear hl
    by_cases h127 : 127 < gk
    · go_wp2_with fail
      rw [or128]
      refine (wbyte_calls b b l _ _ hbr (by omega) hbs).mono ?_
      rintro e w1 ⟨rfl, hb1, hw1⟩
      go_wp2_with fail
      go_roundg (gk / 128)
      case measure => omega
      case rel => exact ⟨_, by go_num, by omega, uint_next HL.out hg h127, hb1, hwr.trans hw1, Nat.le_trans hbs hw1.size⟩
    · go_wp2_with fail
      refine (wbyteN_calls b b l gk _ hbr (by omega) (by omega) hbs).mono ?_
      rintro e w1 ⟨rfl, hb1, hw1⟩
      rw [uint_end HL.out h127] at hb1
      go_wp2_with fail
      refine (bstring_calls b b _ _ hb1 (Nat.le_trans hbs hw1.size)).mono ?_
      rintro e w2 ⟨rfl, hw2⟩
      go_wp2_with fail
      go_ret
      refine ⟨rfl, ?_⟩
      rw [HB.out]
      exact (hwr.trans hw1).trans hw2

end

section
open Go.RowKit
attribute [local go_sem ↓] Go.wp_at_zero Go.wp_at_succ
attribute [local go_sem] Later.cell Later.frozen

/-- A slice of bytes of the call's own. -/
def BytesOwn (base : Nat) (w : World) (v : Value) (l : List UInt8) : Prop := w.ownsRow base 5 1 v l.length (Lib.byteCells l)
theorem BytesOwn.new (w : World) : BytesOwn w.heap.size (w.alloc (.cells #[] 5)) (.slice (some ⟨w.heap.size, 0, none⟩) 0 0) [] :=
  ⟨rfl, .inr ⟨w.heap.size, 0, #[], rfl, Nat.le_refl _, heap_alloc_new w _, Nat.le_refl _, by decide, rfl, rfl⟩⟩
theorem BytesOwn.text {base : Nat} {w : World} {v : Value} {l : List UInt8} (h : BytesOwn base w v l) (h0 : l ≠ []) : ∃ a cap, v = .slice (some a) l.length cap ∧ (convert 104 9 (.slice (some a) l.length cap)).run Tryz.prog w = .ok (.string ⟨l.toArray⟩) w := by
  rcases h.2 with ⟨_, hn⟩ | ⟨g, cap, cur, rfl, hb, hh, hnc, _, hsize, htk⟩
  · exact absurd (List.eq_nil_of_length_eq_zero hn) h0
  · refine ⟨⟨g, 0, none⟩, cap, rfl, run_convert_bytes_back w _ _ 5 _ cap l Tryz.underlying104 Tryz.underlying5 Tryz.underlying9 (fun j hj => ?_)⟩
    rw [Addr.add_lit, Nat.zero_add, cell_of_row w g j cur 5 (0, 0) hh]
    have e : (Lib.byteCells l)[j]? = some (.int .u8 (l[j].toNat : Int)) := by simp [Lib.byteCells, hj]
    rw [← htk, List.getElem?_take] at e
    split at e
    · simpa using e
    · cases e

end

section
open Go.RowKit
attribute [local go_sem ↓] Go.wp_at_zero Go.wp_at_succ
attribute [local go_sem] Later.cell Later.frozen

/-- What ReadUint answers: the number, the place behind it, the error. -/
def readAt (s : List UInt8) (k : Int) : Nat × Nat × Nat :=
  if k < 0 then (0, 0, 20) else match readU (s.drop k.toNat) with | .error e => (0, 0, e) | .ok (v, n) => (v, k.toNat + n, 0)
def outOf (j : Nat) (r : Except Nat (Nat × Nat)) : Nat × Nat × Nat := match r with | .error e => (0, 0, e) | .ok (v, n) => (v, j + n, 0)
theorem readAt_nat (s : List UInt8) (j : Nat) : readAt s (j : Int) = outOf j (readU (s.drop j)) := by
  unfold readAt outOf
  rw [if_neg (by omega), Int.toNat_natCast]
theorem drop_byte {s : ByteArray} {i : Nat} (h : i < s.size) : s.data.toList.drop i = s[i] :: s.data.toList.drop (i + 1) := by
  rw [List.drop_eq_getElem_cons (by simpa using h)]
  rfl

theorem and127 (b : Nat) (hb : b < 256) : bits .and .u8 (b : Int) 127 = ((b % 128 : Nat) : Int) := by
  have key : ∀ x : Fin 256, bits .and .u8 ((x.val : Nat) : Int) 127 = ((x.val % 128 : Nat) : Int) := by decide +kernel
  exact key ⟨b, hb⟩
theorem u64_small (x : Nat) (h : x < 2 ^ 64) : IntKind.u64.wrap (x : Int) = (x : Int) := by
  rw [IntKind.wrap_u64]
  rw [show (2 : Nat) ^ 64 = 18446744073709551616 by decide] at h
  omega
theorem or_next (acc b i : Nat) (hb : b < 256) (hi : i ≤ 9) (hacc : acc < 128 ^ i) (h9 : i = 9 → b % 128 ≤ 1) :
    bits .or .u64 (acc : Int) (IntKind.u64.wrap (IntKind.u64.wrap (bits .and .u8 (b : Int) 127) * 2 ^ (7 * i))) = ((acc + (b % 128) * 128 ^ i : Nat) : Int) := by
  have hp : (2 : Nat) ^ (7 * i) = 128 ^ i := by rw [Nat.pow_mul]
  have hx : (b % 128) * 128 ^ i < 2 ^ 64 := by
    by_cases h : i = 9
    · subst h
      have h1 := Nat.mul_le_mul_right (128 ^ 9) (h9 rfl)
      have h2 : 1 * 128 ^ 9 < 2 ^ 64 := by decide
      exact Nat.lt_of_le_of_lt h1 h2
    · have h1 : (b % 128) * 128 ^ i ≤ 127 * 128 ^ i := Nat.mul_le_mul_right _ (by omega)
      have h2 : 127 * 128 ^ i ≤ 127 * 128 ^ 8 := Nat.mul_le_mul_left _ (Nat.pow_le_pow_right (by omega) (by omega))
      have h3 : 127 * 128 ^ 8 < 2 ^ 64 := by decide
      exact Nat.lt_of_le_of_lt (Nat.le_trans h1 h2) h3
  have ha : acc < 2 ^ 64 := Nat.lt_of_lt_of_le hacc (Nat.le_trans (Nat.pow_le_pow_right (by omega) hi) (by decide))
  rw [and127 b hb, u64_small _ (Nat.lt_of_lt_of_le (Nat.mod_lt b (by omega : 128 > 0)) (by decide))]
  have e1 : (((b % 128 : Nat) : Int) * 2 ^ (7 * i)) = (((b % 128) * 128 ^ i : Nat) : Int) := by rw [← hp]; simp
  have e64 : (2 : Nat) ^ 64 = 18446744073709551616 := by decide
  rw [e1, u64_small _ hx, u64_or_nat _ _ (by rw [← e64]; exact ha) (by rw [← e64]; exact hx)]
  congr 1
  have := Nat.shiftLeft_add_eq_or_of_lt (i := 7 * i) (b := acc) (by rw [hp]; exact hacc) (b % 128)
  rw [Nat.shiftLeft_eq, hp] at this
  rw [Nat.or_comm, ← this, Nat.add_comm]

set_option maxRecDepth 100000 in
set_option maxHeartbeats 1000000 in
theorem readuint_calls (s : ByteArray) (k : Int) (v n e : Nat) (hr : readAt s.data.toList k = (v, n, e)) (hs : s.size ≤ 140737488351232) (w : World) :
    Calls Tryz.prog 110 #[.string s, .int .i64 k] w fun en w' => en = .returned (.tuple #[.int .u64 v, .int .i64 n, .int .i64 e]) ∧ w = w' := by
  by_cases hk : k < 0
  · have e0 : decide (k < 0) = true := by simpa using hk
    obtain ⟨rfl, rfl, rfl⟩ : 0 = v ∧ 0 = n ∧ 20 = e := by simpa [readAt, hk] using hr
    clear hr
    go_enter Tryz.func110, Tryz.ntmps110
    go_wp2_with fail
    go_ret3
    exact ⟨rfl, rfl⟩
  · obtain ⟨j, rfl⟩ := Int.eq_ofNat_of_zero_le (Int.not_lt.1 hk)
    rw [readAt_nat] at hr
    have e0 : decide ((j : Int) < 0) = false := by simp
    by_cases hj : j < s.size
    · have e1 : decide ((s.size : Int) ≤ (j : Int)) = false := by simp; omega
      have e1' : decide (s.size ≤ j) = false := by simp; omega
      have HR := Lib.hid hr
      clear hr hk
      go_enter Tryz.func110, Tryz.ntmps110
      go_wp2_with fail
      go_loopg [7, 18] 10 (fun g s7 s18 wr => wr = w ∧ ∃ i acc : Nat, i + g = 10 ∧ s18 = .int .i64 (i : Int) ∧ s7 = .int .u64 (acc : Int) ∧ i ≤ 9 ∧ acc < 128 ^ i ∧ j + i ≤ s.size ∧ outOf j (readG i acc (s.data.toList.drop (j + i))) = (v, n, e))
      case atStart => exact ⟨rfl, 0, 0, rfl, rfl, rfl, by omega, by simp, by omega, HR.out⟩
      case round =>
        obtain ⟨rfl, i, acc, hig, rfl, rfl, hi9, hacc, hjs, hout⟩ := hrel
        obtain ⟨w, rfl⟩ : ∃ x, x = wr := ⟨_, rfl⟩
        have HIG := Lib.hid hig
        clear hig
        have HACC := Lib.hid hacc
        clear hacc
        by_cases hend : j + i = s.size
        · have e2 : ((j : Int) + (i : Int) == (s.size : Int)) = true := by rw [beq_iff_eq]; omega
          rw [List.drop_of_length_le (by simp; omega)] at hout
          obtain ⟨rfl, rfl, rfl⟩ : 0 = v ∧ 0 = n ∧ 20 = e := by simpa [outOf, readG] using hout
          clear hout hend
          go_wp2_with fail
          go_ret3
          exact ⟨rfl, rfl⟩
        · have e2 : ((j : Int) + (i : Int) == (s.size : Int)) = false := by rw [beq_eq_false_iff_ne]; omega
          have hlt : j + i < s.size := by omega
          rw [drop_byte hlt] at hout
          obtain ⟨b, hb⟩ : ∃ b, s[j + i] = b := ⟨_, rfl⟩
          have hbl := UInt8.toNat_lt b
          rw [hb, readG] at hout
          have HO := Lib.hid hout
          clear hout hend
          go_upto_region 10 with fail
          clear e0 e1 e2 e1'
          go_cut [45] (fun s45 wz => s45 = .bool (decide ((i = 9 ∧ 1 < b.toNat) ∨ (0 < i ∧ b.toNat = 0))) ∧ wz = w)
          case first =>
            clear hb
            obtain ⟨x9, h9⟩ : ∃ x, ((i : Int) == 9) = x := ⟨_, rfl⟩
            obtain ⟨x1, h1⟩ : ∃ x, decide ((1 : Int) < (b.toNat : Int)) = x := ⟨_, rfl⟩
            obtain ⟨x0, h0⟩ : ∃ x, decide (0 < i) = x := ⟨_, rfl⟩
            obtain ⟨xb, hb⟩ : ∃ x, ((b.toNat : Int) == 0) = x := ⟨_, rfl⟩
            have hfin : decide ((i = 9 ∧ 1 < b.toNat) ∨ (0 < i ∧ b.toNat = 0)) = ((x9 && x1) || (x0 && xb)) := by
              rw [← h9, ← h1, ← h0, ← hb, Bool.eq_iff_iff]
              simp only [decide_eq_true_eq, Bool.or_eq_true, Bool.and_eq_true, beq_iff_eq]
              omega
            have HF := Lib.hid hfin
            clear hfin
            cases x9 <;> cases x1 <;> cases x0 <;> cases xb
            all_goals
              go_wp2_with fail
              go_meet
              exact ⟨vb (by rw [HF.out]; rfl), rfl⟩
          case rest =>
            obtain ⟨rfl, rfl⟩ := hcut
            have hout := HO.out
            by_cases hbad : (i = 9 ∧ 1 < b.toNat) ∨ (0 < i ∧ b.toNat = 0)
            · rw [if_pos hbad] at hout
              obtain ⟨rfl, rfl, rfl⟩ : 0 = v ∧ 0 = n ∧ 21 = e := by simpa [outOf] using hout
              rw [decide_eq_true hbad]
              clear hout hbad HO
              go_wp2_with fail
              go_ret3
              exact ⟨rfl, rfl⟩
            · rw [if_neg hbad] at hout
              rw [decide_eq_false hbad]
              have hval := or_next acc b.toNat i hbl hi9 HACC.out (fun h9 => by omega)
              have HV := Lib.hid hval
              have HO2 := Lib.hid hout
              have hn9 : ¬ b.toNat < 128 → i < 9 := fun h => by
                apply Classical.byContradiction
                intro h'
                exact hbad (.inl ⟨by omega, by omega⟩)
              have HN9 := Lib.hid hn9
              clear hout hbad HO hval hn9
              go_upto_region 13 with fail
              rw [HV.out]
              clear HV
              by_cases h128 : b.toNat < 128
              · have hout := HO2.out
                rw [if_pos h128, outOf] at hout
                obtain ⟨hv, hn, he⟩ : acc + b.toNat * 128 ^ i = v ∧ j + (i + 1) = n ∧ 0 = e := by simpa using hout
                have hq2 : acc + b.toNat % 128 * 128 ^ i = v := by rw [← hv, Nat.mod_eq_of_lt h128]
                rw [hq2]
                have HN := Lib.hid hn
                have HE := Lib.hid he
                clear hout HO2 hv hq2 hb hn he
                go_wp2_with fail
                go_ret3
                exact ⟨ret3 rfl (vi (by have := HN.out; omega)) (vi (by rw [← HE.out]; rfl)), rfl⟩
              · have hout := HO2.out
                rw [if_neg h128] at hout
                obtain ⟨q, hq⟩ : ∃ q, acc + b.toNat % 128 * 128 ^ i = q := ⟨_, rfl⟩
                have hq2 : acc + (b.toNat - 128) * 128 ^ i = q := by rw [← hq]; congr 2; omega
                rw [hq2] at hout
                have hql : q < 128 ^ (i + 1) := by
                  rw [← hq, Nat.pow_succ]
                  have h1 : (b.toNat % 128) * 128 ^ i ≤ 127 * 128 ^ i := Nat.mul_le_mul_right _ (by omega)
                  have := HACC.out
                  omega
                have h9 := HN9.out h128
                rw [hq]
                have HO3 := Lib.hid hout
                have HQL := Lib.hid hql
                clear hout HO2 hq hq2 hb hql HACC
                go_wp2_with fail
                go_roundg (gk - 1)
                case measure => have := HIG.out; omega
                case rel => exact ⟨rfl, i + 1, q, by have := HIG.out; omega, by go_num, rfl, by omega, HQL.out, by omega, HO3.out⟩
    · rw [List.drop_of_length_le (by simp; omega)] at hr
      obtain ⟨rfl, rfl, rfl⟩ : 0 = v ∧ 0 = n ∧ 20 = e := by simpa [outOf, readU, readG] using hr
      clear hr hk
      have e1 : decide ((s.size : Int) ≤ (j : Int)) = true := by simp; omega
      go_enter Tryz.func110, Tryz.ntmps110
      go_wp2_with fail
      go_ret3
      exact ⟨rfl, rfl⟩

end

section
open Go.RowKit
attribute [local go_sem ↓] Go.wp_at_zero Go.wp_at_succ
attribute [local go_sem] Later.cell Later.frozen

/-! ### bits -/
theorem xor_ones {n a : Nat} (ha : a < 2 ^ n) : a ^^^ (2 ^ n - 1) = 2 ^ n - 1 - a := by
  have h := BitVec.toNat_not (x := BitVec.ofNat n a)
  rw [← BitVec.xor_allOnes, BitVec.toNat_xor, BitVec.toNat_allOnes, BitVec.toNat_ofNat, Nat.mod_eq_of_lt ha] at h
  exact h
theorem xor_ones64 {a : Nat} (ha : a < 18446744073709551616) : a ^^^ 18446744073709551615 = 18446744073709551615 - a := xor_ones (n := 64) ha
theorem zig_bits {v : Int} (h1 : -9223372036854775808 ≤ v) (h2 : v ≤ 9223372036854775807) :
    bits .xor .u64 (IntKind.u64.wrap (wrap64 (v * 2))) (IntKind.u64.wrap (v / 9223372036854775808)) = ((zig v : Nat) : Int) := by
  rw [IntKind.wrap_u64, IntKind.wrap_u64]
  unfold wrap64
  by_cases h : 0 ≤ v
  · have e1 : ((v * 2 + 9223372036854775808) % 18446744073709551616 - 9223372036854775808) % 18446744073709551616 = ((zig v : Nat) : Int) := by unfold zig; rw [if_pos h]; omega
    have e2 : v / 9223372036854775808 % 18446744073709551616 = ((0 : Nat) : Int) := by omega
    rw [e1, e2, bits_xor_u64_nat _ _ (by have := zig_lt h1 h2; omega) (by decide), Nat.xor_zero]
  · have e1 : ((v * 2 + 9223372036854775808) % 18446744073709551616 - 9223372036854775808) % 18446744073709551616 = ((18446744073709551615 - zig v : Nat) : Int) := by unfold zig; rw [if_neg h]; omega
    have e2 : v / 9223372036854775808 % 18446744073709551616 = ((18446744073709551615 : Nat) : Int) := by omega
    rw [e1, e2, bits_xor_u64_nat _ _ (by omega) (by decide), xor_ones64 (by omega)]
    have := zig_lt h1 h2
    omega
theorem and_one64 (v : Nat) : bits .and .u64 (v : Int) 1 = ((v % 2 : Nat) : Int) := by
  unfold bits
  simp only [BitVec.ofInt_natCast]
  have e : (BitVec.ofInt 64 1 : BitVec 64) = BitVec.ofNat 64 1 := rfl
  show IntKind.u64.wrap (((BitVec.ofNat 64 v &&& BitVec.ofInt 64 1).toNat : Nat) : Int) = _
  rw [e, BitVec.toNat_and, BitVec.toNat_ofNat, BitVec.toNat_ofNat]
  have h1 : (v % 2 ^ 64) &&& (1 % 2 ^ 64) = v % 2 := by
    rw [show (1 % 2 ^ 64 : Nat) = 2 ^ 1 - 1 by decide, Nat.and_two_pow_sub_one_eq_mod]
    omega
  rw [h1, IntKind.wrap_u64]
  omega
theorem bits_xor_i64 (a b : Int) : bits .xor .i64 a b = IntKind.i64.wrap (((BitVec.ofInt 64 a ^^^ BitVec.ofInt 64 b).toNat : Nat) : Int) := rfl
theorem unzig_bits {v : Nat} (h : v < 18446744073709551616) :
    bits .xor .i64 (wrap64 ((v : Int) / 2)) (wrap64 (-wrap64 (bits .and .u64 (v : Int) 1))) = unzig v := by
  rw [and_one64, bits_xor_i64]
  unfold wrap64
  have e1 : ((v : Int) / 2 + 9223372036854775808) % 18446744073709551616 - 9223372036854775808 = ((v / 2 : Nat) : Int) := by omega
  rw [e1]
  rcases Nat.mod_two_eq_zero_or_one v with h2 | h2
  · have e2 : (-((((v % 2 : Nat) : Int) + 9223372036854775808) % 18446744073709551616 - 9223372036854775808) + 9223372036854775808) % 18446744073709551616 - 9223372036854775808 = ((0 : Nat) : Int) := by omega
    rw [e2, BitVec.ofInt_natCast, BitVec.ofInt_natCast, BitVec.toNat_xor, BitVec.toNat_ofNat, BitVec.toNat_ofNat, Nat.zero_mod, Nat.xor_zero, IntKind.wrap_i64]
    unfold unzig
    rw [if_pos h2]
    omega
  · have e2 : (-((((v % 2 : Nat) : Int) + 9223372036854775808) % 18446744073709551616 - 9223372036854775808) + 9223372036854775808) % 18446744073709551616 - 9223372036854775808 = -1 := by omega
    have e3 : (BitVec.ofInt 64 (-1) : BitVec 64) = BitVec.ofNat 64 18446744073709551615 := rfl
    rw [e2, e3, BitVec.ofInt_natCast, BitVec.toNat_xor, BitVec.toNat_ofNat, BitVec.toNat_ofNat]
    have e4 : (v / 2) % 2 ^ 64 = v / 2 := by omega
    have e5 : (18446744073709551615 : Nat) % 2 ^ 64 = 18446744073709551615 := by decide
    rw [e4, e5, xor_ones64 (by omega), IntKind.wrap_i64]
    unfold unzig
    rw [if_neg (by omega)]
    omega
theorem readAt_lt {s : List UInt8} {k : Int} {v n e : Nat} (h : readAt s k = (v, n, e)) : v < 18446744073709551616 := by
  unfold readAt at h
  split at h
  · injection h with h1 h2; omega
  · split at h
    · injection h with h1 h2; omega
    · rename_i v' n' hr
      injection h with h1 h2
      have := (readU_lt hr).1
      omega
theorem u32_keep (n : Int) (h0 : 0 ≤ n) (h1 : n < 2 ^ 32) : IntKind.u32.wrap n = n := by
  rw [IntKind.wrap_u32]
  omega
theorem and_u32 {a b : Nat} (ha : a < 4294967296) (hb : b < 4294967296) : bits .and .u32 (a : Int) (b : Int) = ((a &&& b : Nat) : Int) := (bits_nat .u32 32 (by decide) u32_keep a b ha hb).1
theorem or_u32 {a b : Nat} (ha : a < 4294967296) (hb : b < 4294967296) : bits .or .u32 (a : Int) (b : Int) = ((a ||| b : Nat) : Int) := (bits_nat .u32 32 (by decide) u32_keep a b ha hb).2
theorem xor_u32 {a b : Nat} (ha : a < 4294967296) (hb : b < 4294967296) : bits .xor .u32 (a : Int) (b : Int) = ((a ^^^ b : Nat) : Int) := by
  have h : bits .xor .u32 (a : Int) (b : Int) = IntKind.u32.wrap (((BitVec.ofInt 32 (a : Int) ^^^ BitVec.ofInt 32 (b : Int)).toNat : Nat) : Int) := rfl
  rw [h, BitVec.ofInt_natCast, BitVec.ofInt_natCast, BitVec.toNat_xor, BitVec.toNat_ofNat, BitVec.toNat_ofNat, Nat.mod_eq_of_lt (show a < 2 ^ 32 by omega), Nat.mod_eq_of_lt (show b < 2 ^ 32 by omega)]
  exact u32_keep _ (Int.natCast_nonneg _) (by have := xor_lt32 ha hb; omega)
theorem or_add {k x : Nat} (y : Nat) (h : x < 2 ^ k) : (y * 2 ^ k) ||| x = y * 2 ^ k + x := by
  have := Nat.shiftLeft_add_eq_or_of_lt h y
  rw [Nat.shiftLeft_eq] at this
  exact this.symm
theorem or_split {x1 x0 y1 y0 : Nat} (hx : x0 < 65536) (hy : y0 < 65536) : (x1 * 65536 + x0) ||| (y1 * 65536 + y0) = (x1 ||| y1) * 65536 + (x0 ||| y0) := by
  have e1 := or_add (k := 16) x1 (show x0 < 2 ^ 16 from hx)
  have e2 := or_add (k := 16) y1 (show y0 < 2 ^ 16 from hy)
  have e3 := or_add (k := 16) (x1 ||| y1) (Nat.or_lt_two_pow (show x0 < 2 ^ 16 from hx) (show y0 < 2 ^ 16 from hy))
  have e4 : (x1 ||| y1) * 2 ^ 16 = x1 * 2 ^ 16 ||| y1 * 2 ^ 16 := by
    rw [← Nat.shiftLeft_eq, ← Nat.shiftLeft_eq, ← Nat.shiftLeft_eq, Nat.shiftLeft_or_distrib]
  have e16 : (65536 : Nat) = 2 ^ 16 := by decide
  rw [e16, ← e1, ← e2, ← e3, e4, Nat.or_assoc, Nat.or_assoc]
  congr 1
  rw [← Nat.or_assoc, ← Nat.or_assoc, Nat.or_comm x0]
theorem and_mask (v : Nat) : v &&& 16711935 = v / 65536 % 256 * 65536 + v % 256 := by
  have h1 : (16711935 : Nat) = 255 <<< 16 ||| 255 := by decide
  have h2 : v &&& 255 = v % 256 := Nat.and_two_pow_sub_one_eq_mod v 8
  have h3 : v &&& (255 <<< 16) = ((v >>> 16) &&& 255) <<< 16 := by
    apply Nat.eq_of_testBit_eq
    intro i
    simp only [Nat.testBit_and, Nat.testBit_shiftLeft, Nat.testBit_shiftRight]
    by_cases h : 16 ≤ i
    · simp [h, Nat.add_sub_cancel' h]
    · simp [h]
  have h4 : (v >>> 16) &&& 255 = v / 65536 % 256 := by
    rw [Nat.shiftRight_eq_div_pow]
    exact Nat.and_two_pow_sub_one_eq_mod _ 8
  rw [h1, Nat.and_or_distrib_left, h2, h3, h4, Nat.shiftLeft_eq]
  exact or_add (k := 16) _ (by omega)
def revN (v : Nat) : Nat := v % 256 * 16777216 + v / 256 % 256 * 65536 + v / 65536 % 256 * 256 + v / 16777216
theorem rev_step {v : Nat} (hv : v < 4294967296) : ((v / 256) &&& 16711935) ||| ((v &&& 16711935) * 256) = (v / 65536 % 256 * 256 + v / 16777216) * 65536 + (v % 256 * 256 + v / 256 % 256) := by
  rw [and_mask, and_mask]
  have e1 : (v / 65536 % 256 * 65536 + v % 256) * 256 = (v / 65536 % 256 * 256) * 65536 + v % 256 * 256 := by omega
  have e2 : v / 256 / 65536 % 256 = v / 16777216 := by omega
  rw [e1, e2, or_split (by omega) (by omega)]
  have e3 := or_add (k := 8) (v / 65536 % 256) (show v / 16777216 < 2 ^ 8 by omega)
  have e4 := or_add (k := 8) (v % 256) (show v / 256 % 256 < 2 ^ 8 by omega)
  have e8 : (2 : Nat) ^ 8 = 256 := by decide
  rw [e8] at e3 e4
  rw [Nat.or_comm (v / 16777216), Nat.or_comm (v / 256 % 256), e3, e4]
set_option maxHeartbeats 400000 in
theorem int_calls (v : Int) (h1 : -9223372036854775808 ≤ v) (h2 : v ≤ 9223372036854775807) (w : World) :
    Calls Tryz.prog 48 #[.int .i64 v] w fun e w' => e = .returned (.string ⟨(intT v).toArray⟩) ∧ Below w.heap.size w w' := by
  have HU := Lib.hid (fun w => uint_calls (zig v) (zig_lt h1 h2) w)
  go_enter Tryz.func48, Tryz.ntmps48
  go_wp2_with fail
  rw [zig_bits h1 h2]
  refine (HU.out w).mono ?_
  rintro _ w1 ⟨rfl, hb⟩
  go_wp2_with fail
  go_ret
  exact ⟨rfl, hb⟩
set_option maxHeartbeats 400000 in
theorem readint_calls (s : ByteArray) (k : Int) (v n e : Nat) (hr : readAt s.data.toList k = (v, n, e)) (hs : s.size ≤ 140737488351232) (w : World) :
    Calls Tryz.prog 58 #[.string s, .int .i64 k] w fun en w' => en = .returned (.tuple #[.int .i64 (if e = 0 then unzig v else 0), .int .i64 (if e = 0 then (n : Int) else 0), .int .i64 e]) ∧ w = w' := by
  have HR := Lib.hid (readuint_calls s k v n e hr hs w)
  go_enter Tryz.func58, Tryz.ntmps58
  go_wp2_with fail
  refine HR.out.mono ?_
  rintro _ w1 ⟨rfl, rfl⟩
  cases e with
  | succ e =>
    go_wp2_with fail
    go_ret3
    exact ⟨by simp, rfl⟩
  | zero =>
    go_wp2_with fail
    rw [unzig_bits (by have := readAt_lt hr; omega)]
    go_ret3
    exact ⟨rfl, rfl⟩
theorem rev_half {v : Nat} (hv : v < 4294967296) : bits .or .u32 (bits .and .u32 ((v : Int) / 256) 16711935) (bits .and .u32 (v : Int) 16711935 * 256 % 4294967296) = (((v / 65536 % 256 * 256 + v / 16777216) * 65536 + (v % 256 * 256 + v / 256 % 256) : Nat) : Int) := by
  have e1 : (v : Int) / 256 = ((v / 256 : Nat) : Int) := by omega
  have e2 : ∀ x : Nat, x < 4294967296 → bits .and .u32 (x : Int) 16711935 = ((x &&& 16711935 : Nat) : Int) := fun x hx => and_u32 hx (by decide)
  have e3 : ((v &&& 16711935 : Nat) : Int) * 256 % 4294967296 = (((v &&& 16711935) * 256 : Nat) : Int) := by rw [and_mask]; omega
  rw [e1, e2 _ (by omega), e2 _ hv, e3, or_u32 (by rw [and_mask]; omega) (by rw [and_mask]; omega), rev_step hv]
theorem rev_bits {v : Nat} (hv : v < 4294967296) {T : Int} (hT : T = (((v / 65536 % 256 * 256 + v / 16777216) * 65536 + (v % 256 * 256 + v / 256 % 256) : Nat) : Int)) :
    bits .or .u32 (T / 65536) (T * 65536 % 4294967296) = ((revN v : Nat) : Int) := by
  subst hT
  have e1 : (((v / 65536 % 256 * 256 + v / 16777216) * 65536 + (v % 256 * 256 + v / 256 % 256) : Nat) : Int) / 65536 = ((v / 65536 % 256 * 256 + v / 16777216 : Nat) : Int) := by omega
  have e2 : (((v / 65536 % 256 * 256 + v / 16777216) * 65536 + (v % 256 * 256 + v / 256 % 256) : Nat) : Int) * 65536 % 4294967296 = (((v % 256 * 256 + v / 256 % 256) * 65536 : Nat) : Int) := by omega
  rw [e1, e2, or_u32 (by omega) (by omega), Nat.or_comm]
  have e3 := or_add (k := 16) (v % 256 * 256 + v / 256 % 256) (show v / 65536 % 256 * 256 + v / 16777216 < 2 ^ 16 by omega)
  have e16 : (2 : Nat) ^ 16 = 65536 := by decide
  rw [e16] at e3
  rw [e3]
  unfold revN
  omega
set_option maxHeartbeats 400000 in
theorem rev_calls (v : Nat) (hv : v < 4294967296) (w : World) :
    Calls Tryz.prog 136 #[.int .u32 v] w fun e w' => e = .returned (.int .u32 (revN v : Nat)) ∧ w = w' := by
  go_enter Tryz.func136, Tryz.ntmps136
  go_wp2_with fail
  rw [rev_bits hv (rev_half hv)]
  go_ret
  exact ⟨rfl, rfl⟩
theorem four_bytes (a b c d : UInt8) (g : Nat) (w : World) (h0 : w.cell? ⟨g, 0, none⟩ = some (.int .u8 (a.toNat : Int))) (h1 : w.cell? ⟨g, 1, none⟩ = some (.int .u8 (b.toNat : Int))) (h2 : w.cell? ⟨g, 2, none⟩ = some (.int .u8 (c.toNat : Int))) (h3 : w.cell? ⟨g, 3, none⟩ = some (.int .u8 (d.toNat : Int))) :
    (convert 104 9 (.slice (some ⟨g, 0, none⟩) 4 4)).run Tryz.prog w = .ok (.string ⟨#[a, b, c, d]⟩) w :=
  run_convert_bytes_back w _ _ 5 ⟨g, 0, none⟩ 4 [a, b, c, d] Tryz.underlying104 Tryz.underlying5 Tryz.underlying9 (fun j hj => by
    match j, hj with
    | 0, _ => exact h0
    | 1, _ => exact h1
    | 2, _ => exact h2
    | 3, _ => exact h3
    | _ + 4, hj => simp at hj; omega)
theorem rev_parts {a b c d r : Nat} (ha : a < 256) (hb : b < 256) (hc : c < 256) (hd : d < 256) (hr : a * 16777216 + b * 65536 + c * 256 + d = r) :
    (r : Int) / 16777216 = (a : Int) ∧ (r : Int) / 65536 % 256 = (b : Int) ∧ (r : Int) / 256 % 256 = (c : Int) ∧ (r : Int) % 256 = (d : Int) := by
  subst hr
  refine ⟨?_, ?_, ?_, ?_⟩ <;> omega
set_option maxRecDepth 100000 in
set_option maxHeartbeats 400000 in
theorem four_calls (v : Nat) (hv : v < 4294967296) (w : World) :
    Calls Tryz.prog 101 #[.int .u32 v] w fun e w' => e = .returned (.string ⟨(fourT v).toArray⟩) ∧ Below w.heap.size w w' := by
  have HR := Lib.hid (rev_calls v hv w)
  obtain ⟨r, hr⟩ : ∃ r, revN v = r := ⟨_, rfl⟩
  rw [hr] at HR
  have hr2 : r < 4294967296 := by rw [← hr]; unfold revN; omega
  obtain ⟨b0, h0⟩ : ∃ b, UInt8.ofNat v = b := ⟨_, rfl⟩
  obtain ⟨b1, h1⟩ : ∃ b, UInt8.ofNat (v / 256) = b := ⟨_, rfl⟩
  obtain ⟨b2, h2⟩ : ∃ b, UInt8.ofNat (v / 65536) = b := ⟨_, rfl⟩
  obtain ⟨b3, h3⟩ : ∃ b, UInt8.ofNat (v / 16777216) = b := ⟨_, rfl⟩
  obtain ⟨p0, p1, p2, p3⟩ := rev_parts (a := v % 256) (b := v / 256 % 256) (c := v / 65536 % 256) (d := v / 16777216) (by omega) (by omega) (by omega) (by omega) hr
  have k0 : (r : Int) / 16777216 = (b0.toNat : Int) := by rw [p0, ← h0, UInt8.toNat_ofNat']
  have k1 : (r : Int) / 65536 % 256 = (b1.toNat : Int) := by rw [p1, ← h1, UInt8.toNat_ofNat']
  have k2 : (r : Int) / 256 % 256 = (b2.toNat : Int) := by rw [p2, ← h2, UInt8.toNat_ofNat']
  have k3 : (r : Int) % 256 = (b3.toNat : Int) := by rw [p3, ← h3, UInt8.toNat_ofNat']; omega
  have hcv := four_bytes b0 b1 b2 b3 w.heap.size (w.alloc (.cells #[.int .u8 ((r : Int) / 16777216), .int .u8 ((r : Int) / 65536 % 256), .int .u8 ((r : Int) / 256 % 256), .int .u8 ((r : Int) % 256)] 5)) (by rw [k0]; simp [go_sem]) (by rw [k1]; simp [go_sem]) (by rw [k2]; simp [go_sem]) (by rw [k3]; simp [go_sem])
  have hb : Below w.heap.size w (w.alloc (.cells #[.int .u8 ((r : Int) / 16777216), .int .u8 ((r : Int) / 65536 % 256), .int .u8 ((r : Int) / 256 % 256), .int .u8 ((r : Int) % 256)] 5)) := (Below.refl _ _).alloc (Nat.le_refl _) _
  have hfin : (⟨#[b0, b1, b2, b3]⟩ : ByteArray) = ⟨(fourT v).toArray⟩ := by rw [← h0, ← h1, ← h2, ← h3]; rfl
  have HFIN := Lib.hid hfin
  have HB := Lib.hid hb
  clear k0 k1 k2 k3 h0 h1 h2 h3 hr hfin hb p0 p1 p2 p3
  go_enter Tryz.func101, Tryz.ntmps101
  go_wp2_with fail
  refine HR.out.mono ?_
  rintro _ w1 ⟨rfl, rfl⟩
  go_wp2_with fail
  go_ret
  exact ⟨by first | rfl | (rw [HFIN.out]; rfl), HB.out⟩

/-! ### sums -/
/-- The table of the remainders as it lies. -/
def NibTab (w : World) : Prop := ∀ i, i < 16 → w.cell? ⟨7, i, none⟩ = some (.int .u32 (nibs.getD i 0 : Nat))
theorem NibTab.below {B : Nat} {w w' : World} (h : NibTab w) (hB : 7 < B) (hb : Below B w w') : NibTab w' := fun i hi => (hb.cell (p := ⟨7, i, none⟩) hB).trans (h i hi)
theorem and15 {c : Nat} (h : c < 4294967296) : bits .and .u32 (c : Int) 15 = ((c % 16 : Nat) : Int) := by
  have h1 : bits .and .u32 (c : Int) 15 = ((c &&& 15 : Nat) : Int) := and_u32 h (by decide)
  rw [h1]
  congr 1
  exact Nat.and_two_pow_sub_one_eq_mod c 4
theorem nib_xor {c : Nat} (h : c < 4294967296) : bits .xor .u32 ((nibs.getD (c % 16) 0 : Nat) : Int) ((c : Int) / 16) = ((nibN c : Nat) : Int) := by
  have e1 : (c : Int) / 16 = ((c / 16 : Nat) : Int) := by omega
  rw [e1, xor_u32 (nibs_lt _) (by omega)]
  rfl
set_option maxRecDepth 100000 in
set_option maxHeartbeats 2000000 in
theorem crc_calls (Ao : Option Addr) (n c : Nat) (l : List Txt) (w : World) (h : Strs w Ao n l) (hn : n ≤ 140737488355328) (hs : ∀ s ∈ l, s.length ≤ 140737488355328) (hT : NibTab w) :
    Calls Tryz.prog 102 #[.slice Ao n c] w fun e w' => e = .returned (.int .u32 (crcL l.flatten : Nat)) ∧ w = w' := by
  have hln := h.len
  have HS := Lib.hid hs
  have HH := Lib.hid h
  have HT := Lib.hid hT
  clear hs h hT
  go_enter Tryz.func102, Tryz.ntmps102
  go_wp2_with fail
  go_loopg [3, 9] n (fun g s3 s9 wr => ∃ i c : Nat, i + g = n ∧ s9 = .int .i64 (i : Int) ∧ s3 = .int .u32 (c : Int) ∧ c < 4294967296 ∧ crcF 4294967295 (l.take i).flatten = c ∧ wr = w)
  case atStart => exact ⟨0, 4294967295, by omega, rfl, rfl, by decide, rfl, rfl⟩
  case round =>
    obtain ⟨i, c, hig, rfl, rfl, hc, hcr, rfl⟩ := hrel
    have HIG := Lib.hid hig
    have HCR := Lib.hid hcr
    clear hig hcr
    by_cases hi : i < n
    · have el : decide ((i : Int) < (n : Int)) = true := by simp; omega
      have el' : decide (i < n) = true := by simp; omega
      have hiin : (i : Int) < (n : Int) := by omega
      obtain ⟨b, off, hXe, hbl, x0⟩ := HH.out.at_ hi
      subst hXe
      have hil : i < l.length := by omega
      obtain ⟨T, hT⟩ : ∃ T : ByteArray, (⟨l[i]!.toArray⟩ : ByteArray) = T := ⟨_, rfl⟩
      have hTl : T.data.toList = l[i]! := by rw [← hT]
      have hTs : T.size ≤ 140737488355328 := by
        have := HS.out l[i]! (by rw [getElem!_pos l i hil]; exact List.getElem_mem _)
        rw [← hTl, text_size3] at this
        exact this
      unfold txtV at x0
      rw [hT] at x0
      have hft := flat_take hil
      rw [← hTl] at hft
      have HFT := Lib.hid hft
      obtain ⟨og, rfl⟩ : ∃ x, x = gk := ⟨_, rfl⟩
      clear hft hT hTl
      go_wp2_with fail
      go_loopg [3, 15] T.size (fun g s3 s15 wr2 => ∃ j c : Nat, j + g = T.size ∧ s15 = .int .i64 (j : Int) ∧ s3 = .int .u32 (c : Int) ∧ c < 4294967296 ∧ crcF 4294967295 ((l.take i).flatten ++ T.data.toList.take j) = c ∧ wr2 = wr)
      case atStart => exact ⟨0, c, by omega, rfl, rfl, hc, by rw [List.take_zero, List.append_nil]; exact HCR.out, rfl⟩
      case round =>
        obtain ⟨j, c', hjg, rfl, rfl, hc', hcr', rfl⟩ := hrel
        have HJG := Lib.hid hjg
        have HCR2 := Lib.hid hcr'
        clear hjg hcr'
        by_cases hj : j < T.size
        · have fl : decide ((j : Int) < (T.size : Int)) = true := by simp; omega
          have fl' : decide (j < T.size) = true := by simp; omega
          have hjin : (j : Int) < (T.size : Int) := by omega
          have hbt := UInt8.toNat_lt T[j]
          obtain ⟨c0, hc0⟩ : ∃ x, c' ^^^ T[j].toNat = x := ⟨_, rfl⟩
          have hx0 : bits .xor .u32 (c' : Int) (T[j].toNat : Int) = (c0 : Int) := by rw [← hc0]; exact xor_u32 hc' (by omega)
          have hl0 : c0 < 4294967296 := by rw [← hc0]; exact xor_lt32 hc' (by omega)
          obtain ⟨i0, hi0⟩ : ∃ x, c0 % 16 = x := ⟨_, rfl⟩
          have ha0 : bits .and .u32 (c0 : Int) 15 = (i0 : Int) := by rw [← hi0]; exact and15 hl0
          have hi16 : i0 < 16 := by omega
          obtain ⟨n0, hn0⟩ : ∃ x, nibs.getD i0 0 = x := ⟨_, rfl⟩
          have hm0 := HT.out i0 hi16
          rw [hn0] at hm0
          obtain ⟨c1, hc1⟩ : ∃ x, nibN c0 = x := ⟨_, rfl⟩
          have hy0 : bits .xor .u32 (n0 : Int) ((c0 : Int) / 16) = (c1 : Int) := by rw [← hn0, ← hi0, ← hc1]; exact nib_xor hl0
          have hl1 : c1 < 4294967296 := by rw [← hc1]; exact nibN_lt hl0
          obtain ⟨i1, hi1⟩ : ∃ x, c1 % 16 = x := ⟨_, rfl⟩
          have ha1 : bits .and .u32 (c1 : Int) 15 = (i1 : Int) := by rw [← hi1]; exact and15 hl1
          have hi17 : i1 < 16 := by omega
          obtain ⟨n1, hn1⟩ : ∃ x, nibs.getD i1 0 = x := ⟨_, rfl⟩
          have hm1 := HT.out i1 hi17
          rw [hn1] at hm1
          obtain ⟨c2, hc2⟩ : ∃ x, nibN c1 = x := ⟨_, rfl⟩
          have hy1 : bits .xor .u32 (n1 : Int) ((c1 : Int) / 16) = (c2 : Int) := by rw [← hn1, ← hi1, ← hc2]; exact nib_xor hl1
          have hl2 : c2 < 4294967296 := by rw [← hc2]; exact nibN_lt hl1
          have hnext : crcF 4294967295 ((l.take i).flatten ++ T.data.toList.take (j + 1)) = c2 := by
            have e : T.data.toList.take (j + 1) = T.data.toList.take j ++ [T[j]] := by
              rw [List.take_add_one, List.getElem?_eq_getElem (by simpa using hj)]
              simp [ByteArray.getElem_eq_getElem_data]
            rw [e, ← List.append_assoc, crcF_snoc, HCR2.out, ← hc2, ← hc1, ← hc0]
            rfl
          have HNX := Lib.hid hnext
          clear hnext hc0 hc1 hc2 hn0 hn1 hi0 hi1
          go_wp2_with fail
          go_roundg (gk - 1)
          case measure => have := HJG.out; omega
          case rel => exact ⟨j + 1, c2, by have := HJG.out; omega, by go_num, rfl, hl2, HNX.out, rfl⟩
        · have fl : decide ((j : Int) < (T.size : Int)) = false := by simp; omega
          have fl' : decide (j < T.size) = false := by simp; omega
          have hfull : crcF 4294967295 (l.take (i + 1)).flatten = c' := by
            have := HCR2.out
            have e : T.data.toList.take j = T.data.toList := List.take_of_length_le (by rw [text_size3]; omega)
            rw [e, ← HFT.out] at this
            exact this
          have HF := Lib.hid hfull
          clear hfull
          go_wp2_with fail
          go_roundg (og - 1)
          case measure => have := HIG.out; omega
          case rel => exact ⟨i + 1, c', by have := HIG.out; omega, by go_num, rfl, hc', HF.out, rfl⟩
    · have el : decide ((i : Int) < (n : Int)) = false := by simp; omega
      have el' : decide (i < n) = false := by simp; omega
      have hend : bits .xor .u32 IntKind.u32.max (c : Int) = ((crcL l.flatten : Nat) : Int) := by
        have h1 : bits .xor .u32 IntKind.u32.max (c : Int) = ((4294967295 ^^^ c : Nat) : Int) := xor_u32 (a := 4294967295) (by decide) hc
        have h2 := HCR.out
        rw [List.take_of_length_le (by omega)] at h2
        rw [h1]
        unfold crcL
        rw [h2, Nat.xor_comm]
      go_wp2_with fail
      go_ret
      exact ⟨rfl, rfl⟩
def leV : List UInt8 → Nat
  | [] => 0
  | b :: l => b.toNat + 256 * leV l
theorem leV_num {l : List UInt8} (h : 4 ≤ l.length) : leV (l.take 4) = numT l := by
  match l, h with
  | a :: b :: c :: d :: r, _ =>
    simp only [List.take_succ_cons, List.take_zero, leV, numT]
    omega
theorem leV_lt : ∀ l : List UInt8, leV l < 256 ^ l.length
  | [] => by simp [leV]
  | b :: l => by
    have := leV_lt l
    have := UInt8.toNat_lt b
    rw [leV, List.length_cons, Nat.pow_succ]
    omega
theorem or_byte {v b : Nat} (hv : v < 16777216) (hb : b < 256) : bits .or .u32 ((v : Int) * 256) (b : Int) = ((b + 256 * v : Nat) : Int) := by
  have e1 : (v : Int) * 256 = ((v * 256 : Nat) : Int) := by omega
  rw [e1, or_u32 (by omega) (by omega)]
  have e3 := or_add (k := 8) v (show b < 2 ^ 8 from hb)
  have e8 : (2 : Nat) ^ 8 = 256 := by decide
  rw [e8] at e3
  rw [e3]
  congr 1
  omega
set_option maxRecDepth 100000 in
set_option maxHeartbeats 1000000 in
theorem number_calls (s : ByteArray) (hs : 4 ≤ s.size) (hz : s.size ≤ 140737488355328) (w : World) :
    Calls Tryz.prog 109 #[.string s] w fun e w' => e = .returned (.int .u32 (numT s.data.toList : Nat)) ∧ w = w' := by
  have hfin := leV_num (l := s.data.toList) (by rw [text_size3]; exact hs)
  have HFIN := Lib.hid hfin
  clear hfin
  have hl4 : (s.data.toList.take 4).length = 4 := by rw [List.length_take, text_size3]; omega
  go_enter Tryz.func109, Tryz.ntmps109
  go_wp2_with fail
  go_loopg [3, 4] 4 (fun g s3 s4 wr => ∃ v : Nat, g ≤ 4 ∧ s4 = .int .i64 ((g : Int) - 1) ∧ s3 = .int .u32 (v : Int) ∧ leV ((s.data.toList.take 4).drop g) = v ∧ wr = w)
  case atStart => exact ⟨0, by omega, rfl, rfl, by rw [List.drop_of_length_le (by omega)]; rfl, rfl⟩
  case round =>
    obtain ⟨v, hg4, rfl, rfl, hv, rfl⟩ := hrel
    have hvl := leV_lt ((s.data.toList.take 4).drop gk)
    rw [hv, List.length_drop, hl4] at hvl
    by_cases hg : 0 < gk
    · obtain ⟨j, rfl⟩ : ∃ j, gk = j + 1 := ⟨gk - 1, by omega⟩
      have ej : ((j + 1 : Nat) : Int) - 1 = (j : Int) := by omega
      rw [ej]
      have el : decide ((0 : Int) ≤ (j : Int)) = true := by simp
      have hj : j < s.size := by omega
      have hbt := UInt8.toNat_lt s[j]
      have hv24 : v < 16777216 := by
        refine Nat.lt_of_lt_of_le hvl ?_
        have : 256 ^ (4 - (j + 1)) ≤ 256 ^ 3 := Nat.pow_le_pow_right (by decide) (by omega)
        exact this
      have hor := or_byte hv24 hbt
      have hn : leV ((s.data.toList.take 4).drop j) = s[j].toNat + 256 * v := by
        have hjl : j < (s.data.toList.take 4).length := by omega
        rw [List.drop_eq_getElem_cons hjl, leV, hv]
        congr 2
        rw [List.getElem_take]
        simp [ByteArray.getElem_eq_getElem_data]
      have HN := Lib.hid hn
      clear hn hv hvl
      go_wp2_with fail
      go_roundg j
      case measure => omega
      case rel => exact ⟨_, by omega, by go_num, rfl, HN.out, rfl⟩
    · obtain rfl : gk = 0 := by omega
      have el : decide ((0 : Int) ≤ ((0 : Nat) : Int) - 1) = false := by simp
      rw [List.drop_zero, HFIN.out] at hv
      subst hv
      go_wp2_with fail
      go_ret
      exact ⟨rfl, rfl⟩
end

section
open Go.RowKit
attribute [local go_sem ↓] Go.wp_at_zero Go.wp_at_succ
attribute [local go_sem] Later.cell Later.frozen

theorem NibTab.lt {w : World} (h : NibTab w) : 7 < w.heap.size := lt_of_cell (h 0 (by decide))
theorem strs_one {w : World} {b : Nat} {S : ByteArray} (h : Blk w b 9 #[.string S]) : Strs w (some ⟨b, 0, none⟩) 1 [S.data.toList] := strs_of (by unfold txtV; exact h)
/-- The sum of one text. -/
theorem crc_one {w : World} {b c : Nat} {S : ByteArray} (h : Blk w b 9 #[.string S]) (hS : S.size ≤ 140737488355328) (hT : NibTab w) :
    Calls Tryz.prog 102 #[.slice (some ⟨b, 0, none⟩) 1 c] w fun e w' => e = .returned (.int .u32 (crcL S.data.toList : Nat)) ∧ w = w' := by
  have h1 := crc_calls (some ⟨b, 0, none⟩) 1 c [S.data.toList] w (strs_one h) (by decide) (fun s hs => by rw [List.mem_singleton.1 hs, text_size3]; exact hS) hT
  have e : [S.data.toList].flatten = S.data.toList := by simp
  rw [e] at h1
  exact h1
set_option maxRecDepth 100000 in
set_option maxHeartbeats 1000000 in
theorem seal_calls (s : ByteArray) (hs : s.size ≤ 140737488351232) (w : World) (hT : NibTab w) :
    Calls Tryz.prog 50 #[.string s] w fun e w' => e = .returned (.string ⟨(sealT s.data.toList).toArray⟩) ∧ Below w.heap.size w w' := by
  obtain ⟨w1, hw1⟩ : ∃ x, w.alloc (.cells #[.string s] 9) = x := ⟨_, rfl⟩
  have hb1 : Below w.heap.size w w1 := by rw [← hw1]; exact (Below.refl _ _).alloc (Nat.le_refl _) _
  have hk1 : Blk w1 w.heap.size 9 #[.string s] := by rw [← hw1]; exact Blk.new _ _ _
  have HC := Lib.hid (crc_one (c := 1) hk1 (by omega) (hT.below hT.lt hb1))
  have HF := Lib.hid (fun w => four_calls (crcL s.data.toList) (crcL_lt _) w)
  have HW := Lib.hid hw1
  obtain ⟨F, hF⟩ : ∃ F : ByteArray, (⟨(fourT (crcL s.data.toList)).toArray⟩ : ByteArray) = F := ⟨_, rfl⟩
  have hF4 : F.size = 4 := by rw [← hF]; rfl
  have hfin : s ++ F = (⟨(sealT s.data.toList).toArray⟩ : ByteArray) := bytes_eq (by rw [← hF]; simp [sealT, ByteArray.data_append])
  rw [hF] at HF
  have HFIN := Lib.hid hfin
  clear hw1 hk1 hfin hF
  go_enter Tryz.func50, Tryz.ntmps50
  go_wp2_with fail
  rw [HW.out]
  refine HC.out.mono ?_
  rintro _ w2 ⟨rfl, rfl⟩
  go_wp2_with fail
  refine (HF.out w1).mono ?_
  rintro _ w2 ⟨rfl, hb2⟩
  go_wp2_with fail
  rw [HFIN.out]
  go_ret
  exact ⟨rfl, then_ hb1 hb2⟩
set_option maxRecDepth 100000 in
set_option maxHeartbeats 1000000 in
theorem unseal_calls (s : ByteArray) (hs : s.size ≤ 140737488351232) (w : World) (hT : NibTab w) :
    Calls Tryz.prog 56 #[.string s] w fun e w' => e = .returned (match unsealT s.data.toList with | .ok b => .tuple #[.string ⟨b.toArray⟩, .int .i64 0] | .error c => .tuple #[.string ⟨#[]⟩, .int .i64 (c : Int)]) ∧ Below w.heap.size w w' := by
  obtain ⟨n, hn⟩ : ∃ n, s.size = n := ⟨_, rfl⟩
  have HN := Lib.hid hn
  by_cases h4 : n < 4
  · have d1 : decide ((n : Int) - 4 < 0) = true := by simp; omega
    have hu : unsealT s.data.toList = .error 20 := by unfold unsealT; rw [if_pos (by rw [text_size3]; omega)]
    rw [hu]
    clear hu
    go_enter Tryz.func56, Tryz.ntmps56
    go_wp2_with fail
    go_ret2
    exact ⟨rfl, Below.refl _ _⟩
  · obtain ⟨m, rfl⟩ : ∃ m, n = m + 4 := ⟨n - 4, by omega⟩
    have ej : ((m + 4 : Nat) : Int) - 4 = (m : Int) := by omega
    have d1 : decide ((m : Int) < 0) = false := by simp
    obtain ⟨X, hX⟩ : ∃ X, s.extract 0 m = X := ⟨_, rfl⟩
    obtain ⟨Y, hY⟩ : ∃ Y, s.extract m (m + 4) = Y := ⟨_, rfl⟩
    have hXl : X.data.toList = s.data.toList.take m := by rw [← hX]; exact take_bytes s m
    have hYl : Y.data.toList = s.data.toList.drop m := by rw [← hY, ← hn]; exact drop_bytes s m
    have hXs : X.size = m := by rw [← text_size3, hXl, List.length_take, text_size3]; omega
    have hYs : Y.size = 4 := by rw [← text_size3, hYl, List.length_drop, text_size3]; omega
    have hu : unsealT s.data.toList = if crcL X.data.toList = numT Y.data.toList then .ok X.data.toList else .error 22 := by
      unfold unsealT
      rw [text_size3, hn, if_neg (by omega), show m + 4 - 4 = m by omega, ← hXl, ← hYl]
    have HU := Lib.hid hu
    have HM := Lib.hid (fun w' => number_calls Y (by omega) (by omega) w')
    have hb1 : Below w.heap.size w (w.alloc (.cells #[.string X] 9)).drew := ((Below.refl _ _).alloc (Nat.le_refl _) _).drew
    have hk1 : Blk (w.alloc (.cells #[.string X] 9)).drew w.heap.size 9 #[.string X] := Blk.new _ _ _
    have HC := Lib.hid (crc_one (c := 1) hk1 (by omega) (hT.below hT.lt hb1))
    have HB := Lib.hid hb1
    clear hk1
    have HX := Lib.hid hX
    have HY := Lib.hid hY
    obtain ⟨c1, hc1⟩ : ∃ c, crcL X.data.toList = c := ⟨_, rfl⟩
    obtain ⟨c2, hc2⟩ : ∃ c, numT Y.data.toList = c := ⟨_, rfl⟩
    rw [hc1] at HC
    rw [hc2] at HM
    rw [hc1, hc2] at HU
    rw [hu, hc1, hc2]
    clear hb1 hu hc1 hc2 hXl hYl
    go_enter Tryz.func56, Tryz.ntmps56
    have b0 : (0 : Int) ≤ (m : Int) := by omega
    have b1 : (m : Int) ≤ (s.size : Int) := by omega
    have b2 : (m : Int) ≤ ((m + 4 : Nat) : Int) := by omega
    have b3 : (m : Int) ≤ (m : Int) + 4 := by omega
    have b4 : m ≤ s.size := by omega
    have b5 : m ≤ m + 4 := by omega
    go_upto_region 4 with fail
    go_region_held3 (fun _ => True) (go_keep) (first | (go_at_call 102; (try rw [HX.out]); with_reducible refine HC.out.mono ?_; rintro e w2 ⟨rfl, rfl⟩) | (go_at_call 109; (try rw [HY.out]); with_reducible refine (HM.out _).mono ?_; rintro e w3 ⟨rfl, rfl⟩))
    by_cases hcc : c1 = c2
    · subst hcc
      have e1 : ((c1 : Int) != (c1 : Int)) = false := by simp
      have hfin : (match (if c1 = c1 then Except.ok X.data.toList else Except.error 22 : Except Nat (List UInt8)) with | .ok b => Value.tuple #[.string ⟨b.toArray⟩, .int .i64 0] | .error c => .tuple #[.string ⟨#[]⟩, .int .i64 (c : Int)]) = .tuple #[.string X, .int .i64 0] := by rw [if_pos rfl]
      have HFIN := Lib.hid hfin
      clear hfin
      go_wp2_with fail
      go_ret2
      exact ⟨congrArg Ending.returned HFIN.out.symm, HB.out⟩
    · have e1 : ((c1 : Int) != (c2 : Int)) = true := by simp; omega
      go_wp2_with fail
      go_ret2
      exact ⟨by first | rfl | (rw [if_neg hcc]; rfl), HB.out⟩
end
end Go.Proofs.YtfpgbhimgfdddaaGreatDoor
