/-
  No cell of these rows narrows 'for every input' (looked for: loops, veiled, ifaces, maps, wideKeys, modest, calm, conditions, laid).
  DERIVED. THE GIVEN ROWS OF THIS SEAT. 8 by the template 'for every input the law returns true; each argument reads behind the call as it read before'; 0 by the template 'total and deterministic' (their statements: YtlmnincllndpnaaTotals.lean).
  GIVEN WITH THE SEED: the statements are not yours to turn. If you find one false, say at which input.
  Laid BY PROGRAM, IN A SANDBOX (cutbox-rows.mjs): the forced cells as the released guide's own fill.sh prints them over the translation 7af0e5d86b6d449f… (all of the seat's roots in one cut). By AI agents, Wed Nov 11 2026. No macro, syntax, notation, axiom, sorry.
-/
import Derived.Test.YtlmnincllndpnaaChecked
import GoSem.Claim
import GoSem.ClaimJoined
import GoSem.ClaimMapViews
import Derived.JoinedTies
import Derived.KernelRfl
namespace Go.Proofs.Ytlmnincllndpnaa
/- THE CELL 'sum', in the pinned program and in every row, IS THE sha256 OF THE DUMP (.gsa) THAT YtlmnincllndpnaaProg.lean LOADS. Nothing in Lean hashes anything: it is a label: what it is worth is what the hold of that sum in a sandbox is worth. -/
noncomputable def Try.pinned : Pinned := { name := "ytlmnincllndpnaa", sum := "7af0e5d86b6d449fe826843a630e7b224765e280afb6da25e4c360fedd3ae8ba", checked := Try.checked }
namespace Rows
def none {H : Type} : Left H := { results := [], args := [] }

/-- 'almanaclaw07.DerivJoins': WHATEVER THE INPUT: true; the input reads as it did. -/
def derivJoinsSpec : ChangeSpec := { name := "derivJoins", fn := fun _ => fun
  | [d1, d2, d3] => { results := [.lit (.bool true)], args := [d1, d2, d3] }
  | _ => none }
def derivJoinsRow : OpenClaim := { program := "ytlmnincllndpnaa", sum := "7af0e5d86b6d449fe826843a630e7b224765e280afb6da25e4c360fedd3ae8ba", func := "almanac/almanaclaw07.DerivJoins", spec := "derivJoins", unfollowed := true, recurses := true, plainKeys := false, apart := false }
def DerivJoinsSaid : Prop := derivJoinsRow.holds Try.pinned (OpenSpec.ofChange derivJoinsSpec)

/-- ITS FALSE NEIGHBOUR: 'it returns false'. Refute it at one input. -/
def derivJoinsWrong : ChangeSpec := { name := "derivJoins", fn := fun _ => fun
  | [d1, d2, d3] => { results := [.lit (.bool false)], args := [d1, d2, d3] }
  | _ => none }
def DerivJoinsWrongFalsely : Prop := derivJoinsRow.holds Try.pinned (OpenSpec.ofChange derivJoinsWrong)

/-- 'almanaclaw07.DerivBegins': WHATEVER THE INPUT: true; the input reads as it did. -/
def derivBeginsSpec : ChangeSpec := { name := "derivBegins", fn := fun _ => fun
  | [d1, d2, d3] => { results := [.lit (.bool true)], args := [d1, d2, d3] }
  | _ => none }
def derivBeginsRow : OpenClaim := { program := "ytlmnincllndpnaa", sum := "7af0e5d86b6d449fe826843a630e7b224765e280afb6da25e4c360fedd3ae8ba", func := "almanac/almanaclaw07.DerivBegins", spec := "derivBegins", unfollowed := true, recurses := true, plainKeys := false, apart := false }
def DerivBeginsSaid : Prop := derivBeginsRow.holds Try.pinned (OpenSpec.ofChange derivBeginsSpec)

/-- ITS FALSE NEIGHBOUR: 'it returns false'. Refute it at one input. -/
def derivBeginsWrong : ChangeSpec := { name := "derivBegins", fn := fun _ => fun
  | [d1, d2, d3] => { results := [.lit (.bool false)], args := [d1, d2, d3] }
  | _ => none }
def DerivBeginsWrongFalsely : Prop := derivBeginsRow.holds Try.pinned (OpenSpec.ofChange derivBeginsWrong)

/-- 'almanaclaw07.DerivPlain': WHATEVER THE INPUT: true; the input reads as it did. -/
def derivPlainSpec : ChangeSpec := { name := "derivPlain", fn := fun _ => fun
  | [d1, d2] => { results := [.lit (.bool true)], args := [d1, d2] }
  | _ => none }
def derivPlainRow : OpenClaim := { program := "ytlmnincllndpnaa", sum := "7af0e5d86b6d449fe826843a630e7b224765e280afb6da25e4c360fedd3ae8ba", func := "almanac/almanaclaw07.DerivPlain", spec := "derivPlain", unfollowed := true, recurses := true, plainKeys := false, apart := false }
def DerivPlainSaid : Prop := derivPlainRow.holds Try.pinned (OpenSpec.ofChange derivPlainSpec)

/-- ITS FALSE NEIGHBOUR: 'it returns false'. Refute it at one input. -/
def derivPlainWrong : ChangeSpec := { name := "derivPlain", fn := fun _ => fun
  | [d1, d2] => { results := [.lit (.bool false)], args := [d1, d2] }
  | _ => none }
def DerivPlainWrongFalsely : Prop := derivPlainRow.holds Try.pinned (OpenSpec.ofChange derivPlainWrong)

/-- 'almanaclaw06.RegexParses': WHATEVER THE INPUT: true; the input reads as it did. -/
def regexParsesSpec : ChangeSpec := { name := "regexParses", fn := fun _ => fun
  | [d] => { results := [.lit (.bool true)], args := [d] }
  | _ => none }
def regexParsesRow : OpenClaim := { program := "ytlmnincllndpnaa", sum := "7af0e5d86b6d449fe826843a630e7b224765e280afb6da25e4c360fedd3ae8ba", func := "almanac/almanaclaw06.RegexParses", spec := "regexParses", inPlace := ["internal/abi.NoEscape", "internal/bytealg.MakeNoZero"], unfollowed := true, recurses := true, plainKeys := false, apart := false }
def RegexParsesSaid : Prop := regexParsesRow.holds Try.pinned (OpenSpec.ofChange regexParsesSpec)

/-- ITS FALSE NEIGHBOUR: 'it returns false'. Refute it at one input. -/
def regexParsesWrong : ChangeSpec := { name := "regexParses", fn := fun _ => fun
  | [d] => { results := [.lit (.bool false)], args := [d] }
  | _ => none }
def RegexParsesWrongFalsely : Prop := regexParsesRow.holds Try.pinned (OpenSpec.ofChange regexParsesWrong)

/-- 'almanaclaw06.RegexNodes': WHATEVER THE INPUT: true; the input reads as it did. -/
def regexNodesSpec : ChangeSpec := { name := "regexNodes", fn := fun _ => fun
  | [d] => { results := [.lit (.bool true)], args := [d] }
  | _ => none }
def regexNodesRow : OpenClaim := { program := "ytlmnincllndpnaa", sum := "7af0e5d86b6d449fe826843a630e7b224765e280afb6da25e4c360fedd3ae8ba", func := "almanac/almanaclaw06.RegexNodes", spec := "regexNodes", inPlace := ["internal/abi.NoEscape", "internal/bytealg.MakeNoZero"], unfollowed := true, recurses := true, plainKeys := false, apart := false }
def RegexNodesSaid : Prop := regexNodesRow.holds Try.pinned (OpenSpec.ofChange regexNodesSpec)

/-- ITS FALSE NEIGHBOUR: 'it returns false'. Refute it at one input. -/
def regexNodesWrong : ChangeSpec := { name := "regexNodes", fn := fun _ => fun
  | [d] => { results := [.lit (.bool false)], args := [d] }
  | _ => none }
def RegexNodesWrongFalsely : Prop := regexNodesRow.holds Try.pinned (OpenSpec.ofChange regexNodesWrong)

/-- 'almanaclaw06.RegexSets': WHATEVER THE INPUT: true; the input reads as it did. -/
def regexSetsSpec : ChangeSpec := { name := "regexSets", fn := fun _ => fun
  | [d1, d2] => { results := [.lit (.bool true)], args := [d1, d2] }
  | _ => none }
def regexSetsRow : OpenClaim := { program := "ytlmnincllndpnaa", sum := "7af0e5d86b6d449fe826843a630e7b224765e280afb6da25e4c360fedd3ae8ba", func := "almanac/almanaclaw06.RegexSets", spec := "regexSets", inPlace := ["internal/abi.NoEscape", "internal/bytealg.MakeNoZero"], unfollowed := true, recurses := true, plainKeys := false, apart := false }
def RegexSetsSaid : Prop := regexSetsRow.holds Try.pinned (OpenSpec.ofChange regexSetsSpec)

/-- ITS FALSE NEIGHBOUR: 'it returns false'. Refute it at one input. -/
def regexSetsWrong : ChangeSpec := { name := "regexSets", fn := fun _ => fun
  | [d1, d2] => { results := [.lit (.bool false)], args := [d1, d2] }
  | _ => none }
def RegexSetsWrongFalsely : Prop := regexSetsRow.holds Try.pinned (OpenSpec.ofChange regexSetsWrong)

/-- 'almanaclaw06.RegexGroups': WHATEVER THE INPUT: true; the input reads as it did. -/
def regexGroupsSpec : ChangeSpec := { name := "regexGroups", fn := fun _ => fun
  | [d1, d2] => { results := [.lit (.bool true)], args := [d1, d2] }
  | _ => none }
def regexGroupsRow : OpenClaim := { program := "ytlmnincllndpnaa", sum := "7af0e5d86b6d449fe826843a630e7b224765e280afb6da25e4c360fedd3ae8ba", func := "almanac/almanaclaw06.RegexGroups", spec := "regexGroups", inPlace := ["internal/abi.NoEscape", "internal/bytealg.MakeNoZero"], unfollowed := true, recurses := true, plainKeys := false, apart := false }
def RegexGroupsSaid : Prop := regexGroupsRow.holds Try.pinned (OpenSpec.ofChange regexGroupsSpec)

/-- ITS FALSE NEIGHBOUR: 'it returns false'. Refute it at one input. -/
def regexGroupsWrong : ChangeSpec := { name := "regexGroups", fn := fun _ => fun
  | [d1, d2] => { results := [.lit (.bool false)], args := [d1, d2] }
  | _ => none }
def RegexGroupsWrongFalsely : Prop := regexGroupsRow.holds Try.pinned (OpenSpec.ofChange regexGroupsWrong)

/-- 'almanaclaw06.RegexPlain': WHATEVER THE INPUT: true; the input reads as it did. -/
def regexPlainSpec : ChangeSpec := { name := "regexPlain", fn := fun _ => fun
  | [d] => { results := [.lit (.bool true)], args := [d] }
  | _ => none }
def regexPlainRow : OpenClaim := { program := "ytlmnincllndpnaa", sum := "7af0e5d86b6d449fe826843a630e7b224765e280afb6da25e4c360fedd3ae8ba", func := "almanac/almanaclaw06.RegexPlain", spec := "regexPlain", inPlace := ["internal/abi.NoEscape", "internal/bytealg.MakeNoZero"], unfollowed := true, recurses := true, plainKeys := false, apart := false }
def RegexPlainSaid : Prop := regexPlainRow.holds Try.pinned (OpenSpec.ofChange regexPlainSpec)

/-- ITS FALSE NEIGHBOUR: 'it returns false'. Refute it at one input. -/
def regexPlainWrong : ChangeSpec := { name := "regexPlain", fn := fun _ => fun
  | [d] => { results := [.lit (.bool false)], args := [d] }
  | _ => none }
def RegexPlainWrongFalsely : Prop := regexPlainRow.holds Try.pinned (OpenSpec.ofChange regexPlainWrong)

/- THE SECOND FORM. 'bulk': how many values and letters a reading holds, each counted each time it is reached (what is shared counts as often as it is met; a slice's spare places count too). A statement '..UptoSaid' is the law's where the arguments, and the package variables that the reading takes, are together of bulk at most 1048576: NARROWER than '..Said'. Prove '..Said' where nothing that the law and all that it calls make is longer than what came in: it says more and counts as full. Else prove '..UptoSaid'. A law counts once. -/
mutual
def uptoBulk {H : Type} : DataW H → Nat
  | .lit (.string bytes) => bytes.length + 1
  | .lit _ => 1
  | .nil => 1
  | .ptr d => uptoBulk d + 1
  | .slice elems spare => uptoBulkAll elems + uptoBulkAll spare + 1
  | .agg parts => uptoBulkAll parts + 1
  | .iface _ d => uptoBulk d + 1
  | .map entries => uptoBulkEntries entries + 1
  | .held _ => 1
def uptoBulkAll {H : Type} : List (DataW H) → Nat
  | [] => 0
  | d :: r => uptoBulk d + uptoBulkAll r
def uptoBulkEntries {H : Type} : List (Lit × DataW H) → Nat
  | [] => 0
  | x :: r => uptoBulkEntry x + uptoBulkEntries r
def uptoBulkEntry {H : Type} : Lit × DataW H → Nat
  | (.string bytes, d) => bytes.length + uptoBulk d + 1
  | (_, d) => uptoBulk d + 1
 end
def uptoSmall : (H : Type) → List (DataW H) → Bool := fun _ ds => decide (uptoBulkAll ds ≤ 1048576)
def OpenSpec.upto (s : _root_.Go.ChangeSpec) : _root_.Go.OpenSpec := { _root_.Go.OpenSpec.ofChange s with cond := some uptoSmall }

/-- 'almanaclaw07.DerivJoins', WHERE WHAT IT READS IS OF BULK AT MOST 1048576: true; the input reads as it did. -/
def derivJoinsUptoRow : OpenClaim := { program := "ytlmnincllndpnaa", sum := "7af0e5d86b6d449fe826843a630e7b224765e280afb6da25e4c360fedd3ae8ba", func := "almanac/almanaclaw07.DerivJoins", spec := "derivJoins", unfollowed := true, recurses := true, plainKeys := false, apart := false, narrowed := true }
def DerivJoinsUptoSaid : Prop := derivJoinsUptoRow.holds Try.pinned (OpenSpec.upto derivJoinsSpec)

/-- 'almanaclaw07.DerivBegins', WHERE WHAT IT READS IS OF BULK AT MOST 1048576: true; the input reads as it did. -/
def derivBeginsUptoRow : OpenClaim := { program := "ytlmnincllndpnaa", sum := "7af0e5d86b6d449fe826843a630e7b224765e280afb6da25e4c360fedd3ae8ba", func := "almanac/almanaclaw07.DerivBegins", spec := "derivBegins", unfollowed := true, recurses := true, plainKeys := false, apart := false, narrowed := true }
def DerivBeginsUptoSaid : Prop := derivBeginsUptoRow.holds Try.pinned (OpenSpec.upto derivBeginsSpec)

/-- 'almanaclaw07.DerivPlain', WHERE WHAT IT READS IS OF BULK AT MOST 1048576: true; the input reads as it did. -/
def derivPlainUptoRow : OpenClaim := { program := "ytlmnincllndpnaa", sum := "7af0e5d86b6d449fe826843a630e7b224765e280afb6da25e4c360fedd3ae8ba", func := "almanac/almanaclaw07.DerivPlain", spec := "derivPlain", unfollowed := true, recurses := true, plainKeys := false, apart := false, narrowed := true }
def DerivPlainUptoSaid : Prop := derivPlainUptoRow.holds Try.pinned (OpenSpec.upto derivPlainSpec)

/-- 'almanaclaw06.RegexParses', WHERE WHAT IT READS IS OF BULK AT MOST 1048576: true; the input reads as it did. -/
def regexParsesUptoRow : OpenClaim := { program := "ytlmnincllndpnaa", sum := "7af0e5d86b6d449fe826843a630e7b224765e280afb6da25e4c360fedd3ae8ba", func := "almanac/almanaclaw06.RegexParses", spec := "regexParses", inPlace := ["internal/abi.NoEscape", "internal/bytealg.MakeNoZero"], unfollowed := true, recurses := true, plainKeys := false, apart := false, narrowed := true }
def RegexParsesUptoSaid : Prop := regexParsesUptoRow.holds Try.pinned (OpenSpec.upto regexParsesSpec)

/-- 'almanaclaw06.RegexNodes', WHERE WHAT IT READS IS OF BULK AT MOST 1048576: true; the input reads as it did. -/
def regexNodesUptoRow : OpenClaim := { program := "ytlmnincllndpnaa", sum := "7af0e5d86b6d449fe826843a630e7b224765e280afb6da25e4c360fedd3ae8ba", func := "almanac/almanaclaw06.RegexNodes", spec := "regexNodes", inPlace := ["internal/abi.NoEscape", "internal/bytealg.MakeNoZero"], unfollowed := true, recurses := true, plainKeys := false, apart := false, narrowed := true }
def RegexNodesUptoSaid : Prop := regexNodesUptoRow.holds Try.pinned (OpenSpec.upto regexNodesSpec)

/-- 'almanaclaw06.RegexSets', WHERE WHAT IT READS IS OF BULK AT MOST 1048576: true; the input reads as it did. -/
def regexSetsUptoRow : OpenClaim := { program := "ytlmnincllndpnaa", sum := "7af0e5d86b6d449fe826843a630e7b224765e280afb6da25e4c360fedd3ae8ba", func := "almanac/almanaclaw06.RegexSets", spec := "regexSets", inPlace := ["internal/abi.NoEscape", "internal/bytealg.MakeNoZero"], unfollowed := true, recurses := true, plainKeys := false, apart := false, narrowed := true }
def RegexSetsUptoSaid : Prop := regexSetsUptoRow.holds Try.pinned (OpenSpec.upto regexSetsSpec)

/-- 'almanaclaw06.RegexGroups', WHERE WHAT IT READS IS OF BULK AT MOST 1048576: true; the input reads as it did. -/
def regexGroupsUptoRow : OpenClaim := { program := "ytlmnincllndpnaa", sum := "7af0e5d86b6d449fe826843a630e7b224765e280afb6da25e4c360fedd3ae8ba", func := "almanac/almanaclaw06.RegexGroups", spec := "regexGroups", inPlace := ["internal/abi.NoEscape", "internal/bytealg.MakeNoZero"], unfollowed := true, recurses := true, plainKeys := false, apart := false, narrowed := true }
def RegexGroupsUptoSaid : Prop := regexGroupsUptoRow.holds Try.pinned (OpenSpec.upto regexGroupsSpec)

/-- 'almanaclaw06.RegexPlain', WHERE WHAT IT READS IS OF BULK AT MOST 1048576: true; the input reads as it did. -/
def regexPlainUptoRow : OpenClaim := { program := "ytlmnincllndpnaa", sum := "7af0e5d86b6d449fe826843a630e7b224765e280afb6da25e4c360fedd3ae8ba", func := "almanac/almanaclaw06.RegexPlain", spec := "regexPlain", inPlace := ["internal/abi.NoEscape", "internal/bytealg.MakeNoZero"], unfollowed := true, recurses := true, plainKeys := false, apart := false, narrowed := true }
def RegexPlainUptoSaid : Prop := regexPlainUptoRow.holds Try.pinned (OpenSpec.upto regexPlainSpec)

end Rows
end Go.Proofs.Ytlmnincllndpnaa
