/- The statement RegexSets, walked. -/
import Derived.Test.YtlmnincllndpnaaShow
namespace Go.Proofs.Ytlmnincllndpnaa
open Go.RowKit
attribute [local go_sem ↓] Go.wp_at_zero Go.wp_at_succ
attribute [local go_sem] Later.cell Later.frozen

def setCells (v : Nat) : Array Value := #[.int .u64 (word v 0), .int .u64 (word v 1), .int .u64 (word v 2), .int .u64 (word v 3)]
theorem set_put (b : Nat) (hb : b < 256) : (setCells 0).setIfInBounds (b / 64) (.int .u64 ((2 ^ (b % 64) : Nat) : Int)) = setCells (2 ^ b) := by
  have : b / 64 = 0 ∨ b / 64 = 1 ∨ b / 64 = 2 ∨ b / 64 = 3 := by omega
  have e : (2 : Nat) ^ b = 0 ||| 2 ^ b := by simp
  have z : ∀ i, word 0 i = 0 := by intro i; simp [word]
  unfold setCells
  rw [e, word_or, word_or, word_or, word_or]
  rcases this with h | h | h | h <;> simp [h, z]
theorem set_cell (v b : Nat) (hb : b < 256) : (setCells v)[b / 64]? = some (.int .u64 (word v (b / 64))) := by
  have : b / 64 = 0 ∨ b / 64 = 1 ∨ b / 64 = 2 ∨ b / 64 = 3 := by omega
  rcases this with h | h | h | h <;> rw [h] <;> rfl
theorem bit_rem (v b : Nat) : (((word v (b / 64) : Int) / 2 ^ (b % 64)) % 2 == 1) = v.testBit b := by
  have e : ((word v (b / 64) : Int) / 2 ^ (b % 64)) % 2 = ((word v (b / 64) / 2 ^ (b % 64) % 2 : Nat) : Int) := by simp
  have hw := word_bit v b
  rw [Nat.shiftRight_eq_div_pow] at hw
  rw [e, hw]
  cases v.testBit b <;> rfl

theorem has_eq (v b : Nat) (r : Bool) (hb : b < 256) (hr : v.testBit b = r) (w : World) :
    Calls Try.prog 22 #[.agg #[.int .u64 (word v 0), .int .u64 (word v 1), .int .u64 (word v 2), .int .u64 (word v 3)], .int .u8 b] w fun e w' => e = .returned (.bool r) ∧ Below w.heap.size w w' := hr ▸ has_calls v b hb w

set_option maxRecDepth 100000 in
set_option maxHeartbeats 1000000 in
theorem regexSets_calls (v b : Nat) (hb : b < 256) (w : World) :
    Calls Try.prog 8 #[setVal v, .int .u8 b] w fun e w' => e = .returned (.bool true) ∧ Below w.heap.size w w' := by
  have hq0 : Blk ((w.alloc (.cells #[.int .u64 (word v 0), .int .u64 (word v 1), .int .u64 (word v 2), .int .u64 (word v 3)] 45)).alloc (.cells #[.int .u64 0, .int .u64 0, .int .u64 0, .int .u64 0] 45)) (w.heap.size + 1) 45 (setCells 0) := Blk.newAt (cs := setCells 0) (by simp)
  have hs0 : Blk ((w.alloc (.cells #[.int .u64 (word v 0), .int .u64 (word v 1), .int .u64 (word v 2), .int .u64 (word v 3)] 45)).alloc (.cells #[.int .u64 0, .int .u64 0, .int .u64 0, .int .u64 0] 45)) w.heap.size 45 (setCells v) := (Blk.new _ _ _).alloc _
  have hB0 : Below w.heap.size w ((w.alloc (.cells #[.int .u64 (word v 0), .int .u64 (word v 1), .int .u64 (word v 2), .int .u64 (word v 3)] 45)).alloc (.cells #[.int .u64 0, .int .u64 0, .int .u64 0, .int .u64 0] 45)) := by go_grown
  unfold setVal
  go_enter Try.func8, Try.ntmps8
  go_upto_region 2 with fail
  obtain ⟨W, hW⟩ : ∃ W, ((w.alloc (.cells #[.int .u64 (word v 0), .int .u64 (word v 1), .int .u64 (word v 2), .int .u64 (word v 3)] 45)).alloc (.cells #[.int .u64 0, .int .u64 0, .int .u64 0, .int .u64 0] 45)) = W := ⟨_, rfl⟩
  rw [hW] at hq0 hs0 hB0 ⊢
  clear hW
  go_cut [] (fun wz => Blk wz w.heap.size 45 (setCells v) ∧ Blk wz (w.heap.size + 1) 45 (setCells (2 ^ b)) ∧ Below w.heap.size w wz)
  case first =>
    have hc := (hq0.cell (b / 64)).trans (set_cell 0 b hb)
    have hf := hq0.frozen (b / 64)
    have hsh := shl_one (b % 64) (by omega)
    have HSH := Lib.hid hsh
    clear hsh
    go_wp2_with fail
    go_meet
    refine ⟨hs0.far (by simp) _, ?_, hB0.setCell (by simp) _⟩
    have := hq0.set_ (b / 64) (.int .u64 (IntKind.u64.wrap (2 ^ (b % 64))))
    rw [HSH.out, set_put b hb] at this
    rw [HSH.out]
    exact this
  case rest =>
    obtain ⟨hs1, hq1, hB1⟩ := hcut
    obtain ⟨wy, rfl⟩ : ∃ x, x = wc := ⟨_, rfl⟩
    have hl1 := hs1.lt
    have hl2 := hq1.lt
    have a0 : _ = some (Value.int .u64 (word v 0)) := hs1.cell 0
    have a1 : _ = some (Value.int .u64 (word v 1)) := hs1.cell 1
    have a2 : _ = some (Value.int .u64 (word v 2)) := hs1.cell 2
    have a3 : _ = some (Value.int .u64 (word v 3)) := hs1.cell 3
    have ab := (hs1.cell (b / 64)).trans (set_cell v b hb)
    obtain ⟨u, hu⟩ : ∃ u, 2 ^ b = u := ⟨_, rfl⟩
    rw [hu] at hq1
    have q0 : _ = some (Value.int .u64 (word u 0)) := hq1.cell 0
    have q1 : _ = some (Value.int .u64 (word u 1)) := hq1.cell 1
    have q2 : _ = some (Value.int .u64 (word u 2)) := hq1.cell 2
    have q3 : _ = some (Value.int .u64 (word u 3)) := hq1.cell 3
    have hbit : (((word v (b / 64) : Int) / 2 ^ (b % 64)).tmod 2 == 1) = v.testBit b := by
      rw [Int.tmod_eq_emod_of_nonneg (Int.ediv_nonneg (by omega) (Int.le_of_lt (Int.pow_pos (by omega))))]
      exact bit_rem v b
    have t1 : u.testBit b = true := by rw [← hu, Nat.testBit_two_pow]; simp
    have t2 : u.testBit ((b + 1) % 256) = false := by rw [← hu, Nat.testBit_two_pow]; simp; omega
    have t3 : u.testBit ((b + 64) % 256) = false := by rw [← hu, Nat.testBit_two_pow]; simp; omega
    obtain ⟨x, hx⟩ : ∃ x, v.testBit b = x := ⟨_, rfl⟩
    rw [hx] at hbit
    have HX := Lib.hid hx
    have T1 := Lib.hid t1
    have T2 := Lib.hid t2
    have T3 := Lib.hid t3
    clear hu hx t1 t2 t3
    obtain ⟨b1, hb1⟩ : ∃ x, (b + 1) % 256 = x := ⟨_, rfl⟩
    obtain ⟨b2, hb2⟩ : ∃ x, (b + 64) % 256 = x := ⟨_, rfl⟩
    rw [hb1] at T2
    rw [hb2] at T3
    have m1 : b1 < 256 := by omega
    have m2 : b2 < 256 := by omega
    have z1 : IntKind.u8.wrap ((b : Int) + 1) = (b1 : Int) := by rw [IntKind.wrap_u8]; omega
    have z2 : IntKind.u8.wrap ((b : Int) + 64) = (b2 : Int) := by rw [IntKind.wrap_u8]; omega
    clear hb1 hb2
    go_upto_region 3 with fail
    refine wp_region_later (by kernel_rfl) (by kernel_rfl) ?_
    repeat (go_big_quiet_step (first | (go_at_call 17; exact quiet_later _ (wakes06_calls _)) | (go_at_call 22; exact quiet_later _ (has_eq _ _ _ (by omega) (by first | exact HX.out | exact T1.out | exact T2.out | exact T3.out) _))))
    refine wpQuiet_nil ?_
    rintro w2 ⟨⟨_, hb2⟩, rfl⟩
    go_wp2_with fail
    go_ret
    exact ⟨rfl, then_ hB1 (hb2.mono (Nat.le_refl _))⟩

/-- Any four words are a set. -/
def mkSet (a b c d : Nat) : Nat := a + 18446744073709551616 * (b + 18446744073709551616 * (c + 18446744073709551616 * d))
theorem word_mk {a b c d : Nat} (ha : a < 18446744073709551616) (hb : b < 18446744073709551616) (hc : c < 18446744073709551616) (hd : d < 18446744073709551616) :
    word (mkSet a b c d) 0 = a ∧ word (mkSet a b c d) 1 = b ∧ word (mkSet a b c d) 2 = c ∧ word (mkSet a b c d) 3 = d := by
  have e : (2 : Nat) ^ 64 = 18446744073709551616 := by decide
  have key : ∀ (x y : Nat), x < 18446744073709551616 → (x + 18446744073709551616 * y) / 18446744073709551616 = y ∧ (x + 18446744073709551616 * y) % 18446744073709551616 = x := by
    intro x y hx
    omega
  have step : ∀ (x y i : Nat), x < 18446744073709551616 → word (x + 18446744073709551616 * y) (i + 1) = word y i := by
    intro x y i hx
    unfold word
    rw [show 64 * (i + 1) = 64 + 64 * i by omega, Nat.shiftRight_add, Nat.shiftRight_eq_div_pow _ 64, e, (key x y hx).1]
  have zero : ∀ (x y : Nat), x < 18446744073709551616 → word (x + 18446744073709551616 * y) 0 = x := by
    intro x y hx
    unfold word
    rw [show 64 * 0 = 0 from rfl, Nat.shiftRight_zero, e, (key x y hx).2]
  have last : word d 0 = d := by
    unfold word
    rw [show 64 * 0 = 0 from rfl, Nat.shiftRight_zero, e, Nat.mod_eq_of_lt hd]
  unfold mkSet
  exact ⟨zero _ _ ha, by rw [step _ _ 0 ha, zero _ _ hb], by rw [step _ _ 1 ha, step _ _ 0 hb, zero _ _ hc], by rw [step _ _ 2 ha, step _ _ 1 hb, step _ _ 0 hc, last]⟩
end Go.Proofs.Ytlmnincllndpnaa
