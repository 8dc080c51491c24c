/- The walks of layer 16 (wal): Rotate, Append. -/
import Derived.Test.YtfpgbhimgfdddaaGreatDoorWalWalksH
set_option linter.unusedVariables false
set_option linter.unusedSimpArgs false
namespace Go.Proofs.YtfpgbhimgfdddaaGreatDoor
open Go.RowKit Go.Shelf Go.Sort
attribute [local go_sem ↓] Go.wp_at_zero Go.wp_at_succ
attribute [local go_sem] Later.cell Later.frozen

section
variable {B0 M p g : Nat} {a : Nat → Addr} {R R' R'' : Nat → Nat} {d : Ds} {w w' w'' : World} {D : ByteArray} {size last used : Int}
set_option maxHeartbeats 1000000 in
theorem rotate_nil (w : World) :
    Calls Tryz.prog 42 #[.pointer none] w fun e w' => e = .returned (.tuple #[.int .i64 0, .iface 26 (.int .i64 1)]) ∧ Below w.heap.size w w' := by
  go_enter Tryz.func42, Tryz.ntmps42
  go_wp2_with fail
  go_ret2
  exact ⟨rfl, Below.refl _ _⟩
set_option maxHeartbeats 1000000 in
theorem wappend_nil (S : ByteArray) (w : World) :
    Calls Tryz.prog 34 #[.pointer none, .string S] w fun e w' => e = .returned (.iface 26 (.int .i64 1)) ∧ Below w.heap.size w w' := by
  go_enter Tryz.func34, Tryz.ntmps34
  go_wp2_with fail
  go_ret
  exact ⟨rfl, Below.refl _ _⟩
set_option maxHeartbeats 1000000 in
theorem drop_nil (n : Int) (w : World) :
    Calls Tryz.prog 43 #[.pointer none, .int .i64 n] w fun e w' => e = .returned (.iface 26 (.int .i64 1)) ∧ Below w.heap.size w w' := by
  go_enter Tryz.func43, Tryz.ntmps43
  go_wp2_with fail
  go_ret
  exact ⟨rfl, Below.refl _ _⟩
set_option maxHeartbeats 1000000 in
theorem wappend_form (w : World) :
    Calls Tryz.prog 34 #[.pointer (some ⟨g, 0, none⟩), .string ⟨#[]⟩] w fun e w' => e = .returned (.iface 26 (.int .i64 21)) ∧ Below w.heap.size w w' := by
  have HF := Lib.hid (frame_nil w)
  go_enter Tryz.func34, Tryz.ntmps34
  go_wp2_with fail
  refine HF.out.mono ?_
  rintro _ w1 ⟨rfl, hb1⟩
  go_wp2_with fail
  go_ret
  exact ⟨rfl, hb1⟩
/-- Rotate of a segment in which nothing stands. -/
theorem rotate_same (w : World) (hL : LogAt w g p D size last 0) :
    Calls Tryz.prog 42 #[.pointer (some ⟨g, 0, none⟩)] w fun e w' => e = .returned (.tuple #[.int .i64 last, .nilIface]) ∧ w = w' := by
  have c3 := hL.c3
  have c4 := hL.c4
  clear hL
  go_enter Tryz.func42, Tryz.ntmps42
  go_wp2_with fail
  go_ret2
  exact ⟨rfl, rfl⟩
set_option maxRecDepth 100000 in
set_option maxHeartbeats 4000000 in
theorem rotate_on (n u : Nat) (hn : n + 1 ≤ 99999999) (hu : 0 < u) (hDs : D.size ≤ 1000) (w : World) (hA : WAt B0 a M p g R D size (n : Int) (u : Int) d w) (hM : M + 2 ≤ 536870912) (hC : SCon B0 a)
    (hcr : (createD d (wP D.data.toList ((n + 1 : Nat) : Int))).1 = 0) (hsn : (syncNamesD (createD d (wP D.data.toList ((n + 1 : Nat) : Int))).2).1 = 0) :
    Calls Tryz.prog 42 #[.pointer (some ⟨g, 0, none⟩)] w fun e w' => e = .returned (.tuple #[.int .i64 ((n + 1 : Nat) : Int), .nilIface]) ∧ ∃ R', WAt B0 a (M + 2) p g R' D size ((n + 1 : Nat) : Int) 0 (beginD D.data.toList d ((n + 1 : Nat) : Int)) w' ∧ OutG g R R' w w' := by
  have HB := Lib.hid (begin_calls (n + 1) hn hDs w hA hM hC hcr hsn)
  have c3 := hA.lg.c3
  have c4 := hA.lg.c4
  obtain ⟨nz, hnz⟩ : ∃ z : Int, (n : Int) = z := ⟨_, rfl⟩
  obtain ⟨mz, hmz⟩ : ∃ z : Int, ((n + 1 : Nat) : Int) = z := ⟨_, rfl⟩
  obtain ⟨uz, huz⟩ : ∃ z : Int, (u : Int) = z := ⟨_, rfl⟩
  have e1 : nz + 1 = mz := by omega
  have e2 : IntKind.i64.wrap (nz + 1) = mz := by rw [e1]; exact IntWalk.i64_in _ (by omega)
  have u1 : uz ≠ 0 := by omega
  have u2 : (uz == 0) = false := by simpa using u1
  have u4 : decide (uz = 0) = false := by simpa using u1
  have n1 : nz ≠ 99999999 := by omega
  have n2 : (nz == 99999999) = false := by simpa using n1
  have n4 : decide (nz = 99999999) = false := by simpa using n1
  have n5 : -9223372036854775808 ≤ nz + 1 ∧ nz + 1 ≤ 9223372036854775807 := by omega
  rw [hnz] at c3
  rw [huz] at c4
  rw [hmz] at HB ⊢
  clear hA hC hcr hsn hnz hmz huz hn hu
  go_enter Tryz.func42, Tryz.ntmps42
  go_wp2_with fail
  refine HB.out.mono ?_
  rintro _ w1 ⟨rfl, R1, hA1, hog⟩
  have HA1 := Lib.hid hA1
  have HOG := Lib.hid hog
  clear hA1 hog c3 c4
  have c3 := HA1.out.lg.c3
  go_wp2_with fail
  go_ret2
  exact ⟨rfl, R1, HA1.out, HOG.out⟩
end
end Go.Proofs.YtfpgbhimgfdddaaGreatDoor
