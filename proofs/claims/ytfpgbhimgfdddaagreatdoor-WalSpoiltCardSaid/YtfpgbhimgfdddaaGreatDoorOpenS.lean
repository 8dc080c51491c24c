/- Small facts for opening the arguments of a statement whose parameters are strings and numbers. -/
import Derived.Test.YtfpgbhimgfdddaaGreatDoorRows
import Derived.ProofKit
import Derived.SizedLaws
import Derived.OpenShut
import Derived.ChangeMaps5
set_option linter.unusedVariables false
set_option linter.unusedSimpArgs false
namespace Go.Proofs.YtfpgbhimgfdddaaGreatDoor
open Go.ChangeShapes Go.WideShapes Go.ChangeAt Go.RowKit

theorem Tryz.own : ownKnob Tryz.prog.godebug = none := by kernel_rfl
theorem Tryz.laidOut : laidOutB Tryz.prog = true := by kernel_rfl
theorem wf_lo {n : Int} (h : (Lit.int .i64 n).wf = true) : -9223372036854775808 ≤ n ∧ n ≤ 9223372036854775807 := by
  have h1 : IntKind.i64.min = -9223372036854775808 := rfl
  have h2 : IntKind.i64.max = 9223372036854775807 := rfl
  simp only [Lit.wf, Bool.and_eq_true, decide_eq_true_eq] at h
  omega
theorem wf_u8 {n : Int} (h : (Lit.int .u8 n).wf = true) : 0 ≤ n ∧ n < 256 := by
  have h1 : IntKind.u8.min = 0 := rfl
  have h2 : IntKind.u8.max = 255 := rfl
  simp only [Lit.wf, Bool.and_eq_true, decide_eq_true_eq] at h
  omega
/-- A string's weight is its length. -/
theorem string_weight {H : Type} {s : ByteArray} (h : ((DataW.lit (.string s.data.toList) : DataW H).weights Tryz.prog 9).all (· ≤ reachBytes) = true) : s.size ≤ 140737488351232 := by
  have h3 : reachBytes = 140737488351232 := rfl
  simp only [DataW.weights, Tryz.underlying9] at h
  simp at h
  have e : s.data.toList.length = s.size := rfl
  omega
end Go.Proofs.YtfpgbhimgfdddaaGreatDoor
