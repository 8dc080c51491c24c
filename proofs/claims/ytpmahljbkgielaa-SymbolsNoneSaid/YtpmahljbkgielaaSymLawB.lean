/- SymbolsNone: what the statement's function computes is true. -/
import Derived.Test.YtpmahljbkgielaaRLabWalksC
namespace Go.Proofs.Ytpmahljbkgielaa
open Go.RowKit Go.Sort
attribute [local go_sem ↓] Go.wp_at_zero Go.wp_at_succ
attribute [local go_sem] Later.cell Later.frozen

theorem textR_none (k : Int) : textR [] k = ([], 50) := by
  unfold textR
  rw [if_pos]
  simp
  omega
theorem numR_none (s : Txt) : numR [] s = (0, 50) := by simp [numR]

set_option maxRecDepth 100000 in
set_option maxHeartbeats 1000000 in
theorem symbolsNone_calls (l : List Txt) (A : Option Addr) (n c : Nat) (k : Int) (L : List Lb) (B : Option Addr) (m d : Nat) (w : World) (h : Strs w A n l) (hA : A = none → c = 0) (hn : n * 16 ≤ 140737488351232)
    (hE : Elems w w.heap.size 2 encLb B m L) (hmd : m ≤ d) (hm : m * 32 ≤ 140737488351232) (hz : ∀ x ∈ L, x.n.length ≤ 140737488351232 ∧ x.v.length ≤ 140737488351232) (hk1 : -9223372036854775808 ≤ k) (hk2 : k ≤ 9223372036854775807) :
    Calls Try.prog 4 #[.slice A n c, .int .i64 k, .slice B m d] w fun e w' => e = .returned (.bool true) ∧ Below w.heap.size w w' := by
  have hl := h.len
  have HL := Lib.hid hl
  have HZ := Lib.hid hz
  have hml := hE.len
  have HML := Lib.hid hml
  obtain ⟨s, er, hp⟩ : ∃ s e, packR [] L = (s, e) := ⟨_, _, rfl⟩
  have HP := Lib.hid hp
  have hasc : Asc [] := List.Pairwise.nil
  clear hl hz hp hml
  go_enter Try.func4, Try.ntmps4
  go_wp2_with fail
  refine (symtext_calls _ [] k w [] 50 (textR_none k) (TabAt.none w)).mono ?_
  rintro _ w1 ⟨rfl, rfl⟩
  go_wp2_with fail
  refine (pack_calls _ [] L B m d w s er HP.out (TabAt.none w) hasc (by simp) hE hmd (by omega) HZ.out).mono ?_
  rintro _ w1 ⟨rfl, hb1⟩
  have hE1 : Elems w1 w1.heap.size 2 encLb B m L := (hE.below hb1).more hb1.size
  go_wp2_with fail
  refine (ref05_calls L B m d w1 hE1 hm).mono ?_
  rintro _ w2 ⟨A2, c2, rfl, hE2, hc2, hb2⟩
  have hB2 := then_ hb1 hb2
  rw [HML.out] at hE2 hc2 ⊢
  clear hE1 hb1 hb2
  go_wp2_with fail
  refine (rpack_calls none 0 0 [] L A2 m c2 w2 s er HP.out Strs.nil hasc (by omega) hE2 (by omega) HZ.out).mono ?_
  rintro _ w3 ⟨rfl, hb3⟩
  have hB3 := then_ hB2 hb3
  clear hE2 hc2 hb3 hB2
  obtain ⟨S, hS⟩ : ∃ S : ByteArray, (⟨s.toArray⟩ : ByteArray) = S := ⟨_, rfl⟩
  rw [hS]
  clear hS
  unfold txtV
  go_upto_block 0 with fail
  go_cut [] (fun wz => Below w.heap.size w wz)
  case first =>
    go_wp2_with fail
    go_loopg [40] n (fun g s40 wr => ∃ i : Nat, i + g = n ∧ s40 = .int .i64 (i : Int) ∧ Below w.heap.size w wr)
    case atStart => exact ⟨0, by omega, rfl, hB3⟩
    case round =>
      obtain ⟨i, hig, rfl, hB⟩ := hrel
      have HIG := Lib.hid hig
      clear hig
      by_cases hi : i < n
      · have el : decide ((i : Int) < (n : Int)) = true := by simp; omega
        have el' : decide (i < n) = true := by simp; omega
        obtain ⟨b, off, rfl, hbl, hcell⟩ := (h.below hB).at_ hi
        unfold txtV at hcell
        obtain ⟨X, hX⟩ : ∃ X : ByteArray, (⟨l[i]!.toArray⟩ : ByteArray) = X := ⟨_, rfl⟩
        rw [hX] at hcell
        clear hX
        go_wp2_with fail
        refine (number_calls _ [] X wr 0 50 (numR_none _) (TabAt.none wr) hasc (by simp)).mono ?_
        rintro _ w5 ⟨rfl, hb5⟩
        have hB5 := then_ hB hb5
        go_wp2_with fail
        go_roundg (gk - 1)
        case measure => have := HIG.out; omega
        case rel => exact ⟨i + 1, by have := HIG.out; omega, by go_num, hB5⟩
      · have el : decide ((i : Int) < (n : Int)) = false := by simp; omega
        have el' : decide (i < n) = false := by simp; omega
        go_wp2_with fail
        go_meet
        exact hB
  case rest =>
    have hB4 := hcut
    obtain ⟨w4, rfl⟩ : ∃ x, x = wc := ⟨_, rfl⟩
    have h4 := h.below hB4
    clear hcut hB3
    go_wp2_with fail
    refine (twin_calls l A n c w4 h4 hA hn).mono ?_
    rintro _ w5 ⟨A5, c5, rfl, hs5, hc5, hb5, _, _⟩
    rw [HL.out] at hs5 hc5 ⊢
    go_wp2_with fail
    refine (of_calls l A5 n c5 w5 hs5 hn).mono ?_
    rintro _ w6 ⟨p, t, rfl, _, _, _, hb6, _⟩
    have hs6 := hs5.below hb6
    have hB6 := then_ (then_ hB4 hb5) hb6
    clear hs5 hb5 hb6 hB4 h4
    go_upto_block 2 with fail
    go_cut [] (fun wz => Below w.heap.size w wz)
    case first =>
      go_wp2_with fail
      go_loopg [59] n (fun g s59 wr => ∃ i : Nat, i + g = n ∧ s59 = .int .i64 (i : Int) ∧ Below w.heap.size w wr ∧ Below w6.heap.size w6 wr)
      case atStart => exact ⟨0, by omega, rfl, hB6, Below.refl _ _⟩
      case round =>
        obtain ⟨i, hig, rfl, hB, hBB⟩ := hrel
        have HIG := Lib.hid hig
        clear hig
        by_cases hi : i < n
        · have el : decide ((i : Int) < (n : Int)) = true := by simp; omega
          have el' : decide (i < n) = true := by simp; omega
          obtain ⟨b, off, rfl, hbl, hcell⟩ := (h.below hB).at_ hi
          obtain ⟨b2, off2, rfl, hbl2, hcell2⟩ := (hs6.below hBB).at_ hi
          unfold txtV at hcell hcell2
          obtain ⟨X, hX⟩ : ∃ X : ByteArray, (⟨l[i]!.toArray⟩ : ByteArray) = X := ⟨_, rfl⟩
          rw [hX] at hcell hcell2
          clear hX
          go_upto_region 17 with fail
          refine wp_region_later (by kernel_rfl) (by kernel_rfl) ?_
          repeat (go_big_quiet_step (fail))
          refine wpQuiet_nil ?_
          rintro w7 ⟨⟨_, hb7⟩, rfl⟩
          have hB7 := then_ hB hb7
          have hBB7 := then_ hBB hb7
          go_wp2_with fail
          go_roundg (gk - 1)
          case measure => have := HIG.out; omega
          case rel => exact ⟨i + 1, by have := HIG.out; omega, by go_num, hB7, hBB7⟩
        · have el : decide ((i : Int) < (n : Int)) = false := by simp; omega
          have el' : decide (i < n) = false := by simp; omega
          go_wp2_with fail
          go_meet
          exact hB
    case rest =>
      have hB8 := hcut
      obtain ⟨w8, rfl⟩ : ∃ x, x = wc := ⟨_, rfl⟩
      clear hcut hB6 hs6
      go_wp2_with fail
      refine (wakes05_calls w8).mono ?_
      rintro _ w9 ⟨rfl, hb9⟩
      have hB9 := then_ hB8 hb9
      go_wp2_with fail
      refine (len_calls _ [] w9 (TabAt.none w9)).mono ?_
      rintro _ w10 ⟨rfl, rfl⟩
      have henc := symencode_calls (.pointer none) [] w9 (TabAt.none w9) (by simp) (by decide +kernel)
      rw [show tabT [] = [0] by decide +kernel] at henc
      have HE := Lib.hid henc
      clear henc
      go_wp2_with fail
      refine HE.out.mono ?_
      rintro _ w10 ⟨rfl, hb10⟩
      have hB10 := then_ hB9 hb10
      go_wp2_with fail
      go_ret
      exact ⟨rfl, hB10⟩
end Go.Proofs.Ytpmahljbkgielaa
