/- The walks of layer 2 (enc): Uint, Text, and the document's. -/
import Derived.Test.YtpmahljbkgielaaEncPlain
import Derived.Test.YtpmahljbkgielaaBuilder
import Derived.Test.YtpmahljbkgielaaRegion
import Derived.Deep.LoopGhost
import Derived.Deep.CutBlock
import Derived.IntWalk
namespace Go.Proofs.Ytpmahljbkgielaa
open Go.RowKit
attribute [local go_sem ↓] Go.wp_at_zero Go.wp_at_succ
attribute [local go_sem] Later.cell Later.frozen

theorem or128 (g : Nat) : bits .or .u8 ((g : Int) % 256) 128 = ((UInt8.ofNat (g % 128 + 128)).toNat : Int) := by
  have key : ∀ x : Fin 256, bits .or .u8 ((x.val : Nat) : Int) 128 = ((x.val % 128 + 128 : Nat) : Int) := by decide +kernel
  have h := key ⟨g % 256, Nat.mod_lt _ (by omega)⟩
  simp only at h
  rw [show ((g : Int) % 256) = ((g % 256 : Nat) : Int) by omega, h]
  have : (UInt8.ofNat (g % 128 + 128)).toNat = g % 128 + 128 := by simp [UInt8.toNat_ofNat']; omega
  rw [this]
  omega
theorem wbyteN_calls (B b : Nat) (l : List UInt8) (n : Nat) (w : World) (h : Bld B b l w) (hn : n < 256) (hlen : l.length + 1 ≤ 140737488355328) (hBw : B ≤ w.heap.size) :
    Calls Try.prog 63 #[.pointer (some ⟨b, 0, none⟩), .int .u8 n] w fun e w' => e = .returned .nilIface ∧ Bld B b (l ++ [UInt8.ofNat n]) w' ∧ Below B w w' := by
  have := wbyte_calls B b l (UInt8.ofNat n) w h hlen hBw
  rw [show (UInt8.ofNat n).toNat = n by simp [UInt8.toNat_ofNat']; omega] at this
  exact this
theorem uint_end {l : List UInt8} {g v : Nat} (h : l ++ uintT g = uintT v) (hg : ¬ 127 < g) : l ++ [UInt8.ofNat g] = uintT v := by
  rw [← h, uintT_end (by omega)]
theorem uint_next {l : List UInt8} {g v : Nat} (h : l ++ uintT g = uintT v) (hl : g < 2 ^ 64) (hg : 127 < g) : (l ++ [UInt8.ofNat (g % 128 + 128)]) ++ uintT (g / 128) = uintT v := by
  rw [← h, uintT_step hl hg]
  simp

set_option maxHeartbeats 400000 in
theorem uint_calls (v : Nat) (hv : v < 2 ^ 64) (w : World) :
    Calls Try.prog 37 #[.int .u64 v] w fun e w' => e = .returned (.string ⟨(uintT v).toArray⟩) ∧ Below w.heap.size w w' := by
  go_enter Try.func37, Try.ntmps37
  go_upto_block 0 with fail
  have hb0 : Bld w.heap.size w.heap.size [] (w.alloc (.cells #[.pointer none, .slice none 0 0] 78)) := Bld.new w (Nat.le_refl _)
  have hw0 : Below w.heap.size w (w.alloc (.cells #[.pointer none, .slice none 0 0] 78)) := (Below.refl _ _).alloc (Nat.le_refl _) _
  obtain ⟨w0, hw⟩ : ∃ w0, w.alloc (.cells #[.pointer none, .slice none 0 0] 78) = w0 := ⟨_, rfl⟩
  rw [hw] at hb0 hw0 ⊢
  clear hw
  obtain ⟨b, hb⟩ : ∃ b, w.heap.size = b := ⟨_, rfl⟩
  rw [hb] at hb0 hw0 ⊢
  have HB := Lib.hid hb
  clear hb
  go_wp2_with fail
  go_loopg [0] v (fun g s0 wr => ∃ l, s0 = .int .u64 (g : Nat) ∧ g < 2 ^ 64 ∧ l ++ uintT g = uintT v ∧ Bld b b l wr ∧ Below b w wr ∧ b ≤ wr.heap.size)
  case atStart => exact ⟨[], rfl, hv, rfl, hb0, hw0, by have := hb0.lt; omega⟩
  case round =>
    obtain ⟨l, rfl, hg, hl, hbr, hwr, hbs⟩ := hrel
    have hlen : l.length ≤ 11 := by
      have := congrArg List.length hl
      have h2 := uintT_len v
      rw [List.length_append] at this
      omega
    have HL := Lib.hid hl
    clear hl
    by_cases h127 : 127 < gk
    · go_wp2_with fail
      rw [or128]
      refine (wbyte_calls b b l _ _ hbr (by omega) hbs).mono ?_
      rintro e w1 ⟨rfl, hb1, hw1⟩
      go_wp2_with fail
      go_roundg (gk / 128)
      case measure => omega
      case rel => exact ⟨_, by go_num, by omega, uint_next HL.out hg h127, hb1, hwr.trans hw1, Nat.le_trans hbs hw1.size⟩
    · go_wp2_with fail
      refine (wbyteN_calls b b l gk _ hbr (by omega) (by omega) hbs).mono ?_
      rintro e w1 ⟨rfl, hb1, hw1⟩
      rw [uint_end HL.out h127] at hb1
      go_wp2_with fail
      refine (bstring_calls b b _ _ hb1 (Nat.le_trans hbs hw1.size)).mono ?_
      rintro e w2 ⟨rfl, hw2⟩
      go_wp2_with fail
      go_ret
      refine ⟨rfl, ?_⟩
      rw [HB.out]
      exact (hwr.trans hw1).trans hw2

theorem text_size (s : ByteArray) : s.data.toList.length = s.size := rfl
theorem str_eq {a b : ByteArray} (h : a.data.toList = b.data.toList) : a = b := by
  cases a; cases b
  exact congrArg ByteArray.mk (Array.toList_inj.1 h)
set_option maxHeartbeats 400000 in
theorem text_calls (s : ByteArray) (hs : s.size ≤ 140737488351232) (w : World) :
    Calls Try.prog 41 #[.string s] w fun e w' => e = .returned (.string ⟨(textT s.data.toList).toArray⟩) ∧ Below w.heap.size w w' := by
  have hu := uint_calls s.size (by omega) w
  have hl := uintT_len s.size
  obtain ⟨U, hU⟩ : ∃ U : ByteArray, (⟨(uintT s.size).toArray⟩ : ByteArray) = U := ⟨_, rfl⟩
  have hUz : U.size ≤ 11 := by rw [← hU]; simp only [ByteArray.size, List.size_toArray]; exact hl.2
  rw [hU] at hu
  have HU := Lib.hid hu
  have HUU := Lib.hid hU
  clear hu hU hl
  go_enter Try.func41, Try.ntmps41
  go_wp2_with fail
  refine HU.out.mono ?_
  rintro e w1 ⟨rfl, hb1⟩
  go_wp2_with fail
  go_ret
  refine ⟨congrArg (fun s => Ending.returned (Value.string s)) (str_eq ?_), hb1⟩
  rw [← HUU.out]
  simp [textT]
end Go.Proofs.Ytpmahljbkgielaa
