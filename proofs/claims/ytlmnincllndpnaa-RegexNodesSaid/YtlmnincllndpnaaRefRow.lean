/- The document's nodes: one row of 259 cells each. -/
import Derived.Test.YtlmnincllndpnaaRefWalksA
namespace Go.Proofs.Ytlmnincllndpnaa
open Go.RowKit

/-- The cells of a node of the document's tree: kind, 256 flags, two numbers. -/
def rcell (k : Int) (S : Nat) (a b : Int) (i : Nat) : Value :=
  if i = 0 then .int .i64 k else if i < 257 then .bool (S.testBit (i - 1)) else if i = 257 then .int .i64 a else .int .i64 b
def nodeRow (k : Int) (S : Nat) (a b : Int) : Array Value := Array.ofFn (n := 259) fun i => rcell k S a b i.val
theorem nodeRow_size (k : Int) (S : Nat) (a b : Int) : (nodeRow k S a b).size = 259 := by simp [nodeRow]
theorem nodeRow_get (k : Int) (S : Nat) (a b : Int) (i : Nat) (hi : i < 259) : (nodeRow k S a b)[i]? = some (rcell k S a b i) := by
  simp [nodeRow, hi]
theorem nodeRow_one (k : Int) (S : Nat) (a b : Int) : ∀ u ∈ (nodeRow k S a b).toList, u.oneCell' = true := by
  intro u hu
  simp only [nodeRow, Array.toList_ofFn, List.mem_ofFn] at hu
  obtain ⟨i, rfl⟩ := hu
  unfold rcell
  repeat' split
  all_goals rfl
theorem nodeRow_set (k : Int) (S : Nat) (a b : Int) (j : Nat) (hj : j < 256) : (nodeRow k S a b).setIfInBounds (1 + j) (.bool true) = nodeRow k (S ||| 2 ^ j) a b := by
  apply Array.ext_getElem?
  intro i
  by_cases hi : i < 259
  · rw [Array.getElem?_setIfInBounds, nodeRow_get _ _ _ _ _ hi, nodeRow_get _ _ _ _ _ hi, nodeRow_size]
    by_cases e : 1 + j = i
    · subst e
      rw [if_pos rfl, if_pos hi]
      unfold rcell
      rw [if_neg (by omega), if_pos (by omega), Nat.testBit_or, Nat.testBit_two_pow]
      simp
    · rw [if_neg e]
      unfold rcell
      split
      · rfl
      · split
        · rw [Nat.testBit_or, Nat.testBit_two_pow]
          have : decide (j = i - 1) = false := by rw [decide_eq_false_iff_not]; omega
          simp [this]
        · rfl
  · rw [Array.getElem?_eq_none (by simp [nodeRow_size]; omega), Array.getElem?_eq_none (by simp [nodeRow_size]; omega)]
theorem built_two (k a b : Int) : Try.prog.built 68 [(0, .int .i64 k), (2, .int .i64 a), (3, .int .i64 b)] = some (nodeRow k 0 a b) := by kernel_rfl
theorem built_one (k a : Int) : Try.prog.built 68 [(0, .int .i64 k), (2, .int .i64 a)] = some (nodeRow k 0 a 0) := by kernel_rfl
theorem built_cls : Try.prog.built 68 [(0, .int .i64 1)] = some (nodeRow 1 0 0 0) := by kernel_rfl
theorem built_none : Try.prog.built 68 [] = some (nodeRow 0 0 0 0) := by kernel_rfl
end Go.Proofs.Ytlmnincllndpnaa
