/-
  No cell of these rows narrows 'for every input' (looked for: loops, veiled, ifaces, maps, wideKeys, modest, calm, conditions, laid).
  DERIVED. THE GIVEN ROWS OF THIS SEAT. 3 by the template 'for every input the law returns true; each argument reads behind the call as it read before'; 0 by the template 'total and deterministic' (their statements: YtfokjcoiehgbpaaTotals.lean).
  GIVEN WITH THE SEED: the statements are not yours to turn. If you find one false, say at which input.
  Laid BY PROGRAM, IN A SANDBOX (cutbox-rows.mjs): the forced cells as the released guide's own fill.sh prints them over the translation 7c40345006e4a4b7… (all of the seat's roots in one cut). By AI agents, Wed Nov 11 2026. No macro, syntax, notation, axiom, sorry.
-/
import Derived.Test.YtfokjcoiehgbpaaChecked
import GoSem.Claim
import GoSem.ClaimJoined
import GoSem.ClaimMapViews
import Derived.JoinedTies
import Derived.KernelRfl
namespace Go.Proofs.Ytfokjcoiehgbpaa
/- THE CELL 'sum', in the pinned program and in every row, IS THE sha256 OF THE DUMP (.gsa) THAT YtfokjcoiehgbpaaProg.lean LOADS. Nothing in Lean hashes anything: it is a label: what it is worth is what the hold of that sum in a sandbox is worth. -/
noncomputable def Try.pinned : Pinned := { name := "ytfokjcoiehgbpaa", sum := "7c40345006e4a4b7bb1a748f72675be2c8ac43f878043fbbfafbbdfcefb55fd0", checked := Try.checked }
namespace Rows
def none {H : Type} : Left H := { results := [], args := [] }

/-- 'almanaclaw25.RetainDecides': WHATEVER THE INPUT: true; the input reads as it did. -/
def retainDecidesSpec : ChangeSpec := { name := "retainDecides", fn := fun _ => fun
  | [d1, d2, d3] => { results := [.lit (.bool true)], args := [d1, d2, d3] }
  | _ => none }
def retainDecidesRow : OpenClaim := { program := "ytfokjcoiehgbpaa", sum := "7c40345006e4a4b7bb1a748f72675be2c8ac43f878043fbbfafbbdfcefb55fd0", func := "almanac/almanaclaw25.RetainDecides", spec := "retainDecides", apart := false }
def RetainDecidesSaid : Prop := retainDecidesRow.holds Try.pinned (OpenSpec.ofChange retainDecidesSpec)

/-- ITS FALSE NEIGHBOUR: 'it returns false'. Refute it at one input. -/
def retainDecidesWrong : ChangeSpec := { name := "retainDecides", fn := fun _ => fun
  | [d1, d2, d3] => { results := [.lit (.bool false)], args := [d1, d2, d3] }
  | _ => none }
def RetainDecidesWrongFalsely : Prop := retainDecidesRow.holds Try.pinned (OpenSpec.ofChange retainDecidesWrong)

/-- 'almanaclaw25.RetainBounds': WHATEVER THE INPUT: true; the input reads as it did. -/
def retainBoundsSpec : ChangeSpec := { name := "retainBounds", fn := fun _ => fun
  | [d1, d2, d3] => { results := [.lit (.bool true)], args := [d1, d2, d3] }
  | _ => none }
def retainBoundsRow : OpenClaim := { program := "ytfokjcoiehgbpaa", sum := "7c40345006e4a4b7bb1a748f72675be2c8ac43f878043fbbfafbbdfcefb55fd0", func := "almanac/almanaclaw25.RetainBounds", spec := "retainBounds", apart := false }
def RetainBoundsSaid : Prop := retainBoundsRow.holds Try.pinned (OpenSpec.ofChange retainBoundsSpec)

/-- ITS FALSE NEIGHBOUR: 'it returns false'. Refute it at one input. -/
def retainBoundsWrong : ChangeSpec := { name := "retainBounds", fn := fun _ => fun
  | [d1, d2, d3] => { results := [.lit (.bool false)], args := [d1, d2, d3] }
  | _ => none }
def RetainBoundsWrongFalsely : Prop := retainBoundsRow.holds Try.pinned (OpenSpec.ofChange retainBoundsWrong)

/-- 'almanaclaw25.RetainAgain': WHATEVER THE INPUT: true; the input reads as it did. -/
def retainAgainSpec : ChangeSpec := { name := "retainAgain", fn := fun _ => fun
  | [d1, d2, d3] => { results := [.lit (.bool true)], args := [d1, d2, d3] }
  | _ => none }
def retainAgainRow : OpenClaim := { program := "ytfokjcoiehgbpaa", sum := "7c40345006e4a4b7bb1a748f72675be2c8ac43f878043fbbfafbbdfcefb55fd0", func := "almanac/almanaclaw25.RetainAgain", spec := "retainAgain", apart := false }
def RetainAgainSaid : Prop := retainAgainRow.holds Try.pinned (OpenSpec.ofChange retainAgainSpec)

/-- ITS FALSE NEIGHBOUR: 'it returns false'. Refute it at one input. -/
def retainAgainWrong : ChangeSpec := { name := "retainAgain", fn := fun _ => fun
  | [d1, d2, d3] => { results := [.lit (.bool false)], args := [d1, d2, d3] }
  | _ => none }
def RetainAgainWrongFalsely : Prop := retainAgainRow.holds Try.pinned (OpenSpec.ofChange retainAgainWrong)

/- THE SECOND FORM. 'bulk': how many values and letters a reading holds, each counted each time it is reached (what is shared counts as often as it is met; a slice's spare places count too). A statement '..UptoSaid' is the law's where the arguments, and the package variables that the reading takes, are together of bulk at most 1048576: NARROWER than '..Said'. Prove '..Said' where nothing that the law and all that it calls make is longer than what came in: it says more and counts as full. Else prove '..UptoSaid'. A law counts once. -/
mutual
def uptoBulk {H : Type} : DataW H → Nat
  | .lit (.string bytes) => bytes.length + 1
  | .lit _ => 1
  | .nil => 1
  | .ptr d => uptoBulk d + 1
  | .slice elems spare => uptoBulkAll elems + uptoBulkAll spare + 1
  | .agg parts => uptoBulkAll parts + 1
  | .iface _ d => uptoBulk d + 1
  | .map entries => uptoBulkEntries entries + 1
  | .held _ => 1
def uptoBulkAll {H : Type} : List (DataW H) → Nat
  | [] => 0
  | d :: r => uptoBulk d + uptoBulkAll r
def uptoBulkEntries {H : Type} : List (Lit × DataW H) → Nat
  | [] => 0
  | x :: r => uptoBulkEntry x + uptoBulkEntries r
def uptoBulkEntry {H : Type} : Lit × DataW H → Nat
  | (.string bytes, d) => bytes.length + uptoBulk d + 1
  | (_, d) => uptoBulk d + 1
 end
def uptoSmall : (H : Type) → List (DataW H) → Bool := fun _ ds => decide (uptoBulkAll ds ≤ 1048576)
def OpenSpec.upto (s : _root_.Go.ChangeSpec) : _root_.Go.OpenSpec := { _root_.Go.OpenSpec.ofChange s with cond := some uptoSmall }

/-- 'almanaclaw25.RetainDecides', WHERE WHAT IT READS IS OF BULK AT MOST 1048576: true; the input reads as it did. -/
def retainDecidesUptoRow : OpenClaim := { program := "ytfokjcoiehgbpaa", sum := "7c40345006e4a4b7bb1a748f72675be2c8ac43f878043fbbfafbbdfcefb55fd0", func := "almanac/almanaclaw25.RetainDecides", spec := "retainDecides", apart := false, narrowed := true }
def RetainDecidesUptoSaid : Prop := retainDecidesUptoRow.holds Try.pinned (OpenSpec.upto retainDecidesSpec)

/-- 'almanaclaw25.RetainBounds', WHERE WHAT IT READS IS OF BULK AT MOST 1048576: true; the input reads as it did. -/
def retainBoundsUptoRow : OpenClaim := { program := "ytfokjcoiehgbpaa", sum := "7c40345006e4a4b7bb1a748f72675be2c8ac43f878043fbbfafbbdfcefb55fd0", func := "almanac/almanaclaw25.RetainBounds", spec := "retainBounds", apart := false, narrowed := true }
def RetainBoundsUptoSaid : Prop := retainBoundsUptoRow.holds Try.pinned (OpenSpec.upto retainBoundsSpec)

/-- 'almanaclaw25.RetainAgain', WHERE WHAT IT READS IS OF BULK AT MOST 1048576: true; the input reads as it did. -/
def retainAgainUptoRow : OpenClaim := { program := "ytfokjcoiehgbpaa", sum := "7c40345006e4a4b7bb1a748f72675be2c8ac43f878043fbbfafbbdfcefb55fd0", func := "almanac/almanaclaw25.RetainAgain", spec := "retainAgain", apart := false, narrowed := true }
def RetainAgainUptoSaid : Prop := retainAgainUptoRow.holds Try.pinned (OpenSpec.upto retainAgainSpec)

end Rows
end Go.Proofs.Ytfokjcoiehgbpaa
