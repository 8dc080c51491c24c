/- The plain law of layer 5: a packed set read back. No program in sight. -/
import Derived.Test.YtpmahljbkgielaaEncWalksC
import Derived.Test.YtpmahljbkgielaaLabPlain
namespace Go.Proofs.Ytpmahljbkgielaa

/-- The text whose number stands at k, the place behind it, the error. -/
def symR (t : List Txt) (s : List UInt8) (k : Int) : Txt × Nat × Nat :=
  if (readAt s k).2.2 ≠ 0 then ([], 0, (readAt s k).2.2) else if t.length ≤ (readAt s k).1 then ([], 0, 50) else (t[(readAt s k).1]!, (readAt s k).2.1, 0)
/-- Is there a last label whose name is not below x? -/
def tooLow (out : List Lb) (x : Txt) : Bool := decide (0 < out.length ∧ ¬ (out[out.length - 1]!).n < x)
def unpL (t : List Txt) (s : List UInt8) : Nat → List Lb → Nat → List Lb × Nat × Nat
  | 0, out, p => (out, p, 0)
  | g + 1, out, p =>
    if (symR t s p).2.2 ≠ 0 then ([], 0, (symR t s p).2.2) else
    if (symR t s (symR t s p).2.1).2.2 ≠ 0 then ([], 0, (symR t s (symR t s p).2.1).2.2) else
    if fitN (symR t s p).1 = false then ([], 0, 40) else
    if fitV (symR t s (symR t s p).2.1).1 = false then ([], 0, 41) else
    if tooLow out (symR t s p).1 = true then ([], 0, 42) else
    unpL t s g (out ++ [⟨(symR t s p).1, (symR t s (symR t s p).2.1).1⟩]) (symR t s (symR t s p).2.1).2.1
def unpR (t : List Txt) (s : List UInt8) (k : Int) : List Lb × Nat × Nat :=
  if (readAt s k).2.2 ≠ 0 then ([], 0, (readAt s k).2.2) else if (readAt s k).1 = 0 then ([], 0, 43) else if 8 < (readAt s k).1 then ([], 0, 44) else unpL t s (readAt s k).1 [] (readAt s k).2.1

theorem symR_mem {t : List Txt} {s : List UInt8} {k : Int} {x : Txt} {n e : Nat} (h : symR t s k = (x, n, e)) : x = [] ∨ x ∈ t := by
  unfold symR at h
  split at h
  · injection h with h _; exact .inl h.symm
  · split at h
    · injection h with h _; exact .inl h.symm
    · rename_i hlt
      injection h with h _
      right
      rw [← h, getElem!_pos t _ (by omega)]
      exact List.getElem_mem _
theorem makeErr_one (x : Lb) : makeErr [x] = if fitN x.n = false then 40 else if fitV x.v = false then 41 else 0 := by
  simp [makeErr, scanErr]
end Go.Proofs.Ytpmahljbkgielaa
