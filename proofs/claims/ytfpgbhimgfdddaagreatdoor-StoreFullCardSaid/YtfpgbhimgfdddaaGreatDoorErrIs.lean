/- errors.Is, where the target is a sentinel of errors.New's make and the error is a call's failure on the disk. -/
import Derived.Test.YtfpgbhimgfdddaaGreatDoorStoDisk
import Derived.LaidEql
import Derived.Stop.Asserts
import Derived.RowKitTokens
set_option linter.unusedVariables false
set_option linter.unusedSimpArgs false
namespace Go.Proofs.YtfpgbhimgfdddaaGreatDoor
open Go.RowKit Go.Extern.Stop Go.Stop Go.Extern
attribute [local go_sem ↓] Go.wp_at_zero Go.wp_at_succ

theorem is_typeOf (v : Value) (w : World) : (Extern.ReflectliteType.typeOf #[.iface 306 v]).run Tryz.prog w = .ok (.iface 234 (.agg #[.pointer (some ⟨Tryz.prog.globals.size, 306, none⟩)])) w := by kernel_rfl
def cmpM : Array Value → Sem Value := Extern.ReflectliteType.method fun t => do Extern.Rtype.noPackHeld "Comparable" t; pure (.bool (← typeInfo t).comparable)
theorem is_comparable (w : World) : (cmpM #[.agg #[.pointer (some ⟨Tryz.prog.globals.size, 306, none⟩)]]).run Tryz.prog w = .ok (.bool true) w := by kernel_rfl
theorem is_noIsE (v : Value) (xT : TypeId) (w : World) : (Instr.typeAssert (.iface 306 v) xT 236 true).run Tryz.prog w = .ok (.tuple #[.nilIface, .bool false]) w := run_typeAssert_lacksB Tryz.underlying236 (by kernel_rfl) (by kernel_rfl) v xT w
theorem is_noUnwrapE (v : Value) (xT : TypeId) (w : World) : (Instr.typeAssert (.iface 306 v) xT 239 true).run Tryz.prog w = .ok (.tuple #[.nilIface, .bool false]) w := run_typeAssert_lacksB Tryz.underlying239 (by kernel_rfl) (by kernel_rfl) v xT w
theorem is_noUnwrapsE (v : Value) (xT : TypeId) (w : World) : (Instr.typeAssert (.iface 306 v) xT 240 true).run Tryz.prog w = .ok (.tuple #[.nilIface, .bool false]) w := run_typeAssert_lacksB Tryz.underlying240 (by kernel_rfl) (by kernel_rfl) v xT w
theorem is_noIsF (v : Value) (xT : TypeId) (w : World) : (Instr.typeAssert (.iface 68 v) xT 236 true).run Tryz.prog w = .ok (.tuple #[.nilIface, .bool false]) w := run_typeAssert_lacksB Tryz.underlying236 (by kernel_rfl) (by kernel_rfl) v xT w
theorem is_hasUnwrapF (v : Value) (xT : TypeId) (w : World) : (Instr.typeAssert (.iface 68 v) xT 239 true).run Tryz.prog w = .ok (.tuple #[.iface 68 v, .bool true]) w := run_typeAssert_hasB Tryz.underlying239 (by kernel_rfl) v xT w
section
variable {B0 : Nat} {a : Nat → Addr}
set_option maxHeartbeats 4000000 in
/-- errors.is of a failure and its own cause, or another. -/
theorem isin_calls (q i j : Nat) (op path : ByteArray) (w : World) (hq : Blk w q 71 #[.string op, .string path, failV a i]) (hs : Sents B0 a w) (ha : Apart a) (h1 : 1 ≤ i) (h2 : i ≤ 7) (h3 : 1 ≤ j) (h4 : j ≤ 7) :
    Calls Tryz.prog 126 #[.iface 68 (.pointer (some ⟨q, 0, none⟩)), failV a j, .bool true] w fun e w' => e = .returned (.bool (decide (i = j))) ∧ w = w' := by
  have m2 : w.cell? ⟨q, 2, none⟩ = some (failV a i) := hq.cell 2
  have nF := is_noIsF
  have uF := is_hasUnwrapF
  have nE := is_noIsE
  have uE := is_noUnwrapE
  have vE := is_noUnwrapsE
  have hty := run_eql_iface_types (P := Tryz.prog) 68 306 (.pointer (some ⟨q, 0, none⟩)) (.pointer (some (a j))) Tryz.underlying32 (by decide) w
  by_cases hij : i = j
  · subst hij
    have heq := err_eq (a := a) i w
    rw [decide_eq_true rfl]
    unfold failV at m2 heq ⊢
    clear hq hs ha
    go_enter Tryz.func126, Tryz.ntmps126
    go_wp2
    refine wp_loop_rounds 2 ?_
    rw [rounds_succ]
    go_wp2
    rw [rounds_succ]
    go_wp2
    go_ret
    exact ⟨rfl, rfl⟩
  · have hne := err_ne (w := w) hs ha h1 h2 h3 h4 hij
    rw [decide_eq_false hij]
    unfold failV at m2 hne ⊢
    clear hq hs ha
    go_enter Tryz.func126, Tryz.ntmps126
    go_wp2
    refine wp_loop_rounds 2 ?_
    rw [rounds_succ]
    go_wp2
    rw [rounds_succ]
    go_wp2
    go_ret
    exact ⟨rfl, rfl⟩
set_option maxHeartbeats 4000000 in
theorem is_calls (q i j : Nat) (op path : ByteArray) (w : World) (hq : Blk w q 71 #[.string op, .string path, failV a i]) (hs : Sents B0 a w) (ha : Apart a) (h1 : 1 ≤ i) (h2 : i ≤ 7) (h3 : 1 ≤ j) (h4 : j ≤ 7) :
    Calls Tryz.prog 87 #[.iface 68 (.pointer (some ⟨q, 0, none⟩)), failV a j] w fun e w' => e = .returned (.bool (decide (i = j))) ∧ w = w' := by
  have HI := Lib.hid (isin_calls q i j op path w hq hs ha h1 h2 h3 h4)
  have h8 := @run_callFunc_extern Tryz.prog 125 _ Extern.ReflectliteType.typeOf Tryz.func125 (by kernel_rfl) (by kernel_rfl) (by kernel_rfl) (by kernel_rfl)
  have h32 := @run_callFunc_extern Tryz.prog 248 _ cmpM Tryz.func248 (by kernel_rfl) (by kernel_rfl) (by kernel_rfl) (by kernel_rfl)
  have tT := is_typeOf
  have cT := is_comparable
  obtain ⟨gs, hgs⟩ : ∃ g, Tryz.prog.globals.size = g := ⟨_, rfl⟩
  rw [hgs] at cT
  simp only [hgs] at tT
  clear hgs
  unfold failV at HI ⊢
  clear hq hs ha
  go_enter Tryz.func87, Tryz.ntmps87
  go_wp2_with fail
  refine HI.out.mono ?_
  rintro e w' ⟨rfl, rfl⟩
  go_wp2_with fail
  go_ret
  exact ⟨rfl, rfl⟩
set_option maxHeartbeats 4000000 in
theorem is_nil_calls (j : Nat) (w : World) :
    Calls Tryz.prog 87 #[.nilIface, failV a j] w fun e w' => e = .returned (.bool false) ∧ w = w' := by
  have hn := run_eql_iface_nil_left (P := Tryz.prog) w 306 (.pointer (some (a j))) Tryz.underlying32
  unfold failV
  go_enter Tryz.func87, Tryz.ntmps87
  go_wp2_with fail
  go_ret
  exact ⟨rfl, rfl⟩
end
end Go.Proofs.YtfpgbhimgfdddaaGreatDoor
