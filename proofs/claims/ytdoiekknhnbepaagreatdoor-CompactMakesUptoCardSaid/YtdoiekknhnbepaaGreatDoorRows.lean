/-
  NARROWER THAN 'FOR EVERY INPUT', by the rows' own cells (each row's printed sentence says how): CompactMakes: laid · CompactFits: laid · CompactSplits: laid · CompactBack: laid · BlockBack: laid · BlockOne: laid · BlockApart: laid · BlockPosts: laid · BlockSpoilt: laid.
  DERIVED. THE GIVEN ROWS OF THIS SEAT. 9 by the template 'for every input the law returns true; each argument reads behind the call as it read before'; 0 by the template 'total and deterministic' (their statements: YtdoiekknhnbepaaGreatDoorTotals.lean).
  GIVEN WITH THE SEED: the statements are not yours to turn. If you find one false, say at which input.
  Laid BY PROGRAM, IN A SANDBOX (cutbox-rows.mjs): the forced cells as the released guide's own fill.sh prints them over the translation 26c0b3241b861986… (all of the seat's roots in one cut). By AI agents, Wed Nov 11 2026. No macro, syntax, notation, axiom, sorry.
-/
import Derived.Test.YtdoiekknhnbepaaGreatDoorChecked
import GoSem.Claim
import GoSem.ClaimJoined
import GoSem.ClaimMapViews
import Derived.JoinedTies
import Derived.KernelRfl
namespace Go.Proofs.YtdoiekknhnbepaaGreatDoor
/- THE CELL 'sum', in the pinned program and in every row, IS THE sha256 OF THE DUMP (.gsa) THAT YtdoiekknhnbepaaGreatDoorProg.lean LOADS. Nothing in Lean hashes anything: it is a label: what it is worth is what the hold of that sum in a sandbox is worth. -/
noncomputable def Tryz.pinned : Pinned := { name := "ytdoiekknhnbepaagreatdoor", sum := "26c0b3241b861986b7cde5749a4e562fd7acaa40db476828752ed40d9f573b25", checked := Tryz.checked }
namespace Rows
def none {H : Type} : Left H := { results := [], args := [] }

/- WHAT THE LISTED PACKAGE-LEVEL VARIABLES READ AS WHEN THE CALL BEGINS. Each datum BY PROGRAM (the guide's laid-datum.mjs) off the statement by which the dump's own 'gosem.cut.vars' lays the variable. In a bare row this is a premise. The card (YtdoiekknhnbepaaGreatDoorCards.lean) ties it to the program's text. -/
def laid_math_bits_deBruijn64tab {H : Type} : DataW H := .agg [.lit (.int .u8 0), .lit (.int .u8 1), .lit (.int .u8 56), .lit (.int .u8 2), .lit (.int .u8 57), .lit (.int .u8 49), .lit (.int .u8 28), .lit (.int .u8 3), .lit (.int .u8 61), .lit (.int .u8 58), .lit (.int .u8 42), .lit (.int .u8 50), .lit (.int .u8 38), .lit (.int .u8 29), .lit (.int .u8 17), .lit (.int .u8 4), .lit (.int .u8 62), .lit (.int .u8 47), .lit (.int .u8 59), .lit (.int .u8 36), .lit (.int .u8 45), .lit (.int .u8 43), .lit (.int .u8 51), .lit (.int .u8 22), .lit (.int .u8 53), .lit (.int .u8 39), .lit (.int .u8 33), .lit (.int .u8 30), .lit (.int .u8 24), .lit (.int .u8 18), .lit (.int .u8 12), .lit (.int .u8 5), .lit (.int .u8 63), .lit (.int .u8 55), .lit (.int .u8 48), .lit (.int .u8 27), .lit (.int .u8 60), .lit (.int .u8 41), .lit (.int .u8 37), .lit (.int .u8 16), .lit (.int .u8 46), .lit (.int .u8 35), .lit (.int .u8 44), .lit (.int .u8 21), .lit (.int .u8 52), .lit (.int .u8 32), .lit (.int .u8 23), .lit (.int .u8 11), .lit (.int .u8 54), .lit (.int .u8 26), .lit (.int .u8 40), .lit (.int .u8 15), .lit (.int .u8 34), .lit (.int .u8 20), .lit (.int .u8 31), .lit (.int .u8 10), .lit (.int .u8 25), .lit (.int .u8 14), .lit (.int .u8 19), .lit (.int .u8 9), .lit (.int .u8 13), .lit (.int .u8 8), .lit (.int .u8 7), .lit (.int .u8 6)]
def laid_almanac_enc_nibbles {H : Type} : DataW H := .agg [.lit (.int .u32 0), .lit (.int .u32 274646895), .lit (.int .u32 549293790), .lit (.int .u32 820201905), .lit (.int .u32 1098587580), .lit (.int .u32 1361435347), .lit (.int .u32 1640403810), .lit (.int .u32 1905808397), .lit (.int .u32 2197175160), .lit (.int .u32 2460548119), .lit (.int .u32 2722870694), .lit (.int .u32 2987750089), .lit (.int .u32 3280807620), .lit (.int .u32 3553878443), .lit (.int .u32 3811616794), .lit (.int .u32 4084100981)]

/-- 'almanaclaw23.CompactMakes': WHATEVER THE INPUT: true; the input reads as it did. -/
def compactMakesSpec : ChangeSpec := { name := "compactMakes", fn := fun _ => fun
  | [d1, d2] => { results := [.lit (.bool true)], args := [d1, d2] }
  | _ => none }
def compactMakesRow : OpenClaim := { program := "ytdoiekknhnbepaagreatdoor", sum := "26c0b3241b861986b7cde5749a4e562fd7acaa40db476828752ed40d9f573b25", func := "almanac/almanaclaw23.CompactMakes", spec := "compactMakes", inPlace := ["internal/bytealg.abigen_runtime_cmpstring", "internal/abi.NoEscape"], unfollowed := true, recurses := true, named := ["math/bits.deBruijn64tab", "almanac/enc.nibbles"], plainKeys := false, apart := false, laid := [("math/bits.deBruijn64tab", laid_math_bits_deBruijn64tab), ("almanac/enc.nibbles", laid_almanac_enc_nibbles)] }
def CompactMakesSaid : Prop := compactMakesRow.holds Tryz.pinned (OpenSpec.ofChange compactMakesSpec)

/-- ITS FALSE NEIGHBOUR: 'it returns false'. Refute it at one input. -/
def compactMakesWrong : ChangeSpec := { name := "compactMakes", fn := fun _ => fun
  | [d1, d2] => { results := [.lit (.bool false)], args := [d1, d2] }
  | _ => none }
def CompactMakesWrongFalsely : Prop := compactMakesRow.holds Tryz.pinned (OpenSpec.ofChange compactMakesWrong)

/-- 'almanaclaw23.CompactFits': WHATEVER THE INPUT: true; the input reads as it did. -/
def compactFitsSpec : ChangeSpec := { name := "compactFits", fn := fun _ => fun
  | [d1, d2] => { results := [.lit (.bool true)], args := [d1, d2] }
  | _ => none }
def compactFitsRow : OpenClaim := { program := "ytdoiekknhnbepaagreatdoor", sum := "26c0b3241b861986b7cde5749a4e562fd7acaa40db476828752ed40d9f573b25", func := "almanac/almanaclaw23.CompactFits", spec := "compactFits", inPlace := ["internal/bytealg.abigen_runtime_cmpstring", "internal/abi.NoEscape"], unfollowed := true, recurses := true, named := ["math/bits.deBruijn64tab", "almanac/enc.nibbles"], plainKeys := false, apart := false, laid := [("math/bits.deBruijn64tab", laid_math_bits_deBruijn64tab), ("almanac/enc.nibbles", laid_almanac_enc_nibbles)] }
def CompactFitsSaid : Prop := compactFitsRow.holds Tryz.pinned (OpenSpec.ofChange compactFitsSpec)

/-- ITS FALSE NEIGHBOUR: 'it returns false'. Refute it at one input. -/
def compactFitsWrong : ChangeSpec := { name := "compactFits", fn := fun _ => fun
  | [d1, d2] => { results := [.lit (.bool false)], args := [d1, d2] }
  | _ => none }
def CompactFitsWrongFalsely : Prop := compactFitsRow.holds Tryz.pinned (OpenSpec.ofChange compactFitsWrong)

/-- 'almanaclaw23.CompactSplits': WHATEVER THE INPUT: true; the input reads as it did. -/
def compactSplitsSpec : ChangeSpec := { name := "compactSplits", fn := fun _ => fun
  | [d1, d2, d3] => { results := [.lit (.bool true)], args := [d1, d2, d3] }
  | _ => none }
def compactSplitsRow : OpenClaim := { program := "ytdoiekknhnbepaagreatdoor", sum := "26c0b3241b861986b7cde5749a4e562fd7acaa40db476828752ed40d9f573b25", func := "almanac/almanaclaw23.CompactSplits", spec := "compactSplits", inPlace := ["internal/bytealg.abigen_runtime_cmpstring", "internal/abi.NoEscape"], unfollowed := true, recurses := true, named := ["math/bits.deBruijn64tab", "almanac/enc.nibbles"], plainKeys := false, apart := false, laid := [("math/bits.deBruijn64tab", laid_math_bits_deBruijn64tab), ("almanac/enc.nibbles", laid_almanac_enc_nibbles)] }
def CompactSplitsSaid : Prop := compactSplitsRow.holds Tryz.pinned (OpenSpec.ofChange compactSplitsSpec)

/-- ITS FALSE NEIGHBOUR: 'it returns false'. Refute it at one input. -/
def compactSplitsWrong : ChangeSpec := { name := "compactSplits", fn := fun _ => fun
  | [d1, d2, d3] => { results := [.lit (.bool false)], args := [d1, d2, d3] }
  | _ => none }
def CompactSplitsWrongFalsely : Prop := compactSplitsRow.holds Tryz.pinned (OpenSpec.ofChange compactSplitsWrong)

/-- 'almanaclaw23.CompactBack': WHATEVER THE INPUT: true; the input reads as it did. -/
def compactBackSpec : ChangeSpec := { name := "compactBack", fn := fun _ => fun
  | [d1, d2] => { results := [.lit (.bool true)], args := [d1, d2] }
  | _ => none }
def compactBackRow : OpenClaim := { program := "ytdoiekknhnbepaagreatdoor", sum := "26c0b3241b861986b7cde5749a4e562fd7acaa40db476828752ed40d9f573b25", func := "almanac/almanaclaw23.CompactBack", spec := "compactBack", inPlace := ["internal/bytealg.abigen_runtime_cmpstring", "internal/abi.NoEscape"], unfollowed := true, recurses := true, named := ["math/bits.deBruijn64tab", "almanac/enc.nibbles"], plainKeys := false, apart := false, laid := [("math/bits.deBruijn64tab", laid_math_bits_deBruijn64tab), ("almanac/enc.nibbles", laid_almanac_enc_nibbles)] }
def CompactBackSaid : Prop := compactBackRow.holds Tryz.pinned (OpenSpec.ofChange compactBackSpec)

/-- ITS FALSE NEIGHBOUR: 'it returns false'. Refute it at one input. -/
def compactBackWrong : ChangeSpec := { name := "compactBack", fn := fun _ => fun
  | [d1, d2] => { results := [.lit (.bool false)], args := [d1, d2] }
  | _ => none }
def CompactBackWrongFalsely : Prop := compactBackRow.holds Tryz.pinned (OpenSpec.ofChange compactBackWrong)

/-- 'almanaclaw19.BlockBack': WHATEVER THE INPUT: true; the input reads as it did. -/
def blockBackSpec : ChangeSpec := { name := "blockBack", fn := fun _ => fun
  | [d] => { results := [.lit (.bool true)], args := [d] }
  | _ => none }
def blockBackRow : OpenClaim := { program := "ytdoiekknhnbepaagreatdoor", sum := "26c0b3241b861986b7cde5749a4e562fd7acaa40db476828752ed40d9f573b25", func := "almanac/almanaclaw19.BlockBack", spec := "blockBack", inPlace := ["internal/bytealg.abigen_runtime_cmpstring", "internal/abi.NoEscape"], unfollowed := true, recurses := true, named := ["math/bits.deBruijn64tab", "almanac/enc.nibbles"], plainKeys := false, apart := false, laid := [("math/bits.deBruijn64tab", laid_math_bits_deBruijn64tab), ("almanac/enc.nibbles", laid_almanac_enc_nibbles)] }
def BlockBackSaid : Prop := blockBackRow.holds Tryz.pinned (OpenSpec.ofChange blockBackSpec)

/-- ITS FALSE NEIGHBOUR: 'it returns false'. Refute it at one input. -/
def blockBackWrong : ChangeSpec := { name := "blockBack", fn := fun _ => fun
  | [d] => { results := [.lit (.bool false)], args := [d] }
  | _ => none }
def BlockBackWrongFalsely : Prop := blockBackRow.holds Tryz.pinned (OpenSpec.ofChange blockBackWrong)

/-- 'almanaclaw19.BlockOne': WHATEVER THE INPUT: true; the input reads as it did. -/
def blockOneSpec : ChangeSpec := { name := "blockOne", fn := fun _ => fun
  | [d1, d2, d3] => { results := [.lit (.bool true)], args := [d1, d2, d3] }
  | _ => none }
def blockOneRow : OpenClaim := { program := "ytdoiekknhnbepaagreatdoor", sum := "26c0b3241b861986b7cde5749a4e562fd7acaa40db476828752ed40d9f573b25", func := "almanac/almanaclaw19.BlockOne", spec := "blockOne", inPlace := ["internal/bytealg.abigen_runtime_cmpstring", "internal/abi.NoEscape"], unfollowed := true, recurses := true, named := ["math/bits.deBruijn64tab", "almanac/enc.nibbles"], plainKeys := false, apart := false, laid := [("math/bits.deBruijn64tab", laid_math_bits_deBruijn64tab), ("almanac/enc.nibbles", laid_almanac_enc_nibbles)] }
def BlockOneSaid : Prop := blockOneRow.holds Tryz.pinned (OpenSpec.ofChange blockOneSpec)

/-- ITS FALSE NEIGHBOUR: 'it returns false'. Refute it at one input. -/
def blockOneWrong : ChangeSpec := { name := "blockOne", fn := fun _ => fun
  | [d1, d2, d3] => { results := [.lit (.bool false)], args := [d1, d2, d3] }
  | _ => none }
def BlockOneWrongFalsely : Prop := blockOneRow.holds Tryz.pinned (OpenSpec.ofChange blockOneWrong)

/-- 'almanaclaw19.BlockApart': WHATEVER THE INPUT: true; the input reads as it did. -/
def blockApartSpec : ChangeSpec := { name := "blockApart", fn := fun _ => fun
  | [d1, d2] => { results := [.lit (.bool true)], args := [d1, d2] }
  | _ => none }
def blockApartRow : OpenClaim := { program := "ytdoiekknhnbepaagreatdoor", sum := "26c0b3241b861986b7cde5749a4e562fd7acaa40db476828752ed40d9f573b25", func := "almanac/almanaclaw19.BlockApart", spec := "blockApart", inPlace := ["internal/bytealg.abigen_runtime_cmpstring", "internal/abi.NoEscape"], unfollowed := true, recurses := true, named := ["math/bits.deBruijn64tab", "almanac/enc.nibbles"], plainKeys := false, apart := false, laid := [("math/bits.deBruijn64tab", laid_math_bits_deBruijn64tab), ("almanac/enc.nibbles", laid_almanac_enc_nibbles)] }
def BlockApartSaid : Prop := blockApartRow.holds Tryz.pinned (OpenSpec.ofChange blockApartSpec)

/-- ITS FALSE NEIGHBOUR: 'it returns false'. Refute it at one input. -/
def blockApartWrong : ChangeSpec := { name := "blockApart", fn := fun _ => fun
  | [d1, d2] => { results := [.lit (.bool false)], args := [d1, d2] }
  | _ => none }
def BlockApartWrongFalsely : Prop := blockApartRow.holds Tryz.pinned (OpenSpec.ofChange blockApartWrong)

/-- 'almanaclaw19.BlockPosts': WHATEVER THE INPUT: true; the input reads as it did. -/
def blockPostsSpec : ChangeSpec := { name := "blockPosts", fn := fun _ => fun
  | [d1, d2, d3] => { results := [.lit (.bool true)], args := [d1, d2, d3] }
  | _ => none }
def blockPostsRow : OpenClaim := { program := "ytdoiekknhnbepaagreatdoor", sum := "26c0b3241b861986b7cde5749a4e562fd7acaa40db476828752ed40d9f573b25", func := "almanac/almanaclaw19.BlockPosts", spec := "blockPosts", inPlace := ["internal/bytealg.abigen_runtime_cmpstring", "internal/abi.NoEscape"], unfollowed := true, recurses := true, named := ["math/bits.deBruijn64tab", "almanac/enc.nibbles"], plainKeys := false, apart := false, laid := [("math/bits.deBruijn64tab", laid_math_bits_deBruijn64tab), ("almanac/enc.nibbles", laid_almanac_enc_nibbles)] }
def BlockPostsSaid : Prop := blockPostsRow.holds Tryz.pinned (OpenSpec.ofChange blockPostsSpec)

/-- ITS FALSE NEIGHBOUR: 'it returns false'. Refute it at one input. -/
def blockPostsWrong : ChangeSpec := { name := "blockPosts", fn := fun _ => fun
  | [d1, d2, d3] => { results := [.lit (.bool false)], args := [d1, d2, d3] }
  | _ => none }
def BlockPostsWrongFalsely : Prop := blockPostsRow.holds Tryz.pinned (OpenSpec.ofChange blockPostsWrong)

/-- 'almanaclaw19.BlockSpoilt': WHATEVER THE INPUT: true; the input reads as it did. -/
def blockSpoiltSpec : ChangeSpec := { name := "blockSpoilt", fn := fun _ => fun
  | [d1, d2, d3] => { results := [.lit (.bool true)], args := [d1, d2, d3] }
  | _ => none }
def blockSpoiltRow : OpenClaim := { program := "ytdoiekknhnbepaagreatdoor", sum := "26c0b3241b861986b7cde5749a4e562fd7acaa40db476828752ed40d9f573b25", func := "almanac/almanaclaw19.BlockSpoilt", spec := "blockSpoilt", inPlace := ["internal/bytealg.abigen_runtime_cmpstring", "internal/abi.NoEscape"], unfollowed := true, recurses := true, named := ["math/bits.deBruijn64tab", "almanac/enc.nibbles"], plainKeys := false, apart := false, laid := [("math/bits.deBruijn64tab", laid_math_bits_deBruijn64tab), ("almanac/enc.nibbles", laid_almanac_enc_nibbles)] }
def BlockSpoiltSaid : Prop := blockSpoiltRow.holds Tryz.pinned (OpenSpec.ofChange blockSpoiltSpec)

/-- ITS FALSE NEIGHBOUR: 'it returns false'. Refute it at one input. -/
def blockSpoiltWrong : ChangeSpec := { name := "blockSpoilt", fn := fun _ => fun
  | [d1, d2, d3] => { results := [.lit (.bool false)], args := [d1, d2, d3] }
  | _ => none }
def BlockSpoiltWrongFalsely : Prop := blockSpoiltRow.holds Tryz.pinned (OpenSpec.ofChange blockSpoiltWrong)

/- THE SECOND FORM. 'bulk': how many values and letters a reading holds, each counted each time it is reached (what is shared counts as often as it is met; a slice's spare places count too). A statement '..UptoSaid' is the law's where the arguments, and the package variables that the reading takes, are together of bulk at most 1048576: NARROWER than '..Said'. Prove '..Said' where nothing that the law and all that it calls make is longer than what came in: it says more and counts as full. Else prove '..UptoSaid'. A law counts once. -/
mutual
def uptoBulk {H : Type} : DataW H → Nat
  | .lit (.string bytes) => bytes.length + 1
  | .lit _ => 1
  | .nil => 1
  | .ptr d => uptoBulk d + 1
  | .slice elems spare => uptoBulkAll elems + uptoBulkAll spare + 1
  | .agg parts => uptoBulkAll parts + 1
  | .iface _ d => uptoBulk d + 1
  | .map entries => uptoBulkEntries entries + 1
  | .held _ => 1
def uptoBulkAll {H : Type} : List (DataW H) → Nat
  | [] => 0
  | d :: r => uptoBulk d + uptoBulkAll r
def uptoBulkEntries {H : Type} : List (Lit × DataW H) → Nat
  | [] => 0
  | x :: r => uptoBulkEntry x + uptoBulkEntries r
def uptoBulkEntry {H : Type} : Lit × DataW H → Nat
  | (.string bytes, d) => bytes.length + uptoBulk d + 1
  | (_, d) => uptoBulk d + 1
 end
def uptoSmall : (H : Type) → List (DataW H) → Bool := fun _ ds => decide (uptoBulkAll ds ≤ 1048576)
def OpenSpec.upto (s : _root_.Go.ChangeSpec) : _root_.Go.OpenSpec := { _root_.Go.OpenSpec.ofChange s with cond := some uptoSmall }

/-- 'almanaclaw23.CompactMakes', WHERE WHAT IT READS IS OF BULK AT MOST 1048576: true; the input reads as it did. -/
def compactMakesUptoRow : OpenClaim := { program := "ytdoiekknhnbepaagreatdoor", sum := "26c0b3241b861986b7cde5749a4e562fd7acaa40db476828752ed40d9f573b25", func := "almanac/almanaclaw23.CompactMakes", spec := "compactMakes", inPlace := ["internal/bytealg.abigen_runtime_cmpstring", "internal/abi.NoEscape"], unfollowed := true, recurses := true, named := ["math/bits.deBruijn64tab", "almanac/enc.nibbles"], plainKeys := false, apart := false, laid := [("math/bits.deBruijn64tab", laid_math_bits_deBruijn64tab), ("almanac/enc.nibbles", laid_almanac_enc_nibbles)], narrowed := true }
def CompactMakesUptoSaid : Prop := compactMakesUptoRow.holds Tryz.pinned (OpenSpec.upto compactMakesSpec)

/-- 'almanaclaw23.CompactFits', WHERE WHAT IT READS IS OF BULK AT MOST 1048576: true; the input reads as it did. -/
def compactFitsUptoRow : OpenClaim := { program := "ytdoiekknhnbepaagreatdoor", sum := "26c0b3241b861986b7cde5749a4e562fd7acaa40db476828752ed40d9f573b25", func := "almanac/almanaclaw23.CompactFits", spec := "compactFits", inPlace := ["internal/bytealg.abigen_runtime_cmpstring", "internal/abi.NoEscape"], unfollowed := true, recurses := true, named := ["math/bits.deBruijn64tab", "almanac/enc.nibbles"], plainKeys := false, apart := false, laid := [("math/bits.deBruijn64tab", laid_math_bits_deBruijn64tab), ("almanac/enc.nibbles", laid_almanac_enc_nibbles)], narrowed := true }
def CompactFitsUptoSaid : Prop := compactFitsUptoRow.holds Tryz.pinned (OpenSpec.upto compactFitsSpec)

/-- 'almanaclaw23.CompactSplits', WHERE WHAT IT READS IS OF BULK AT MOST 1048576: true; the input reads as it did. -/
def compactSplitsUptoRow : OpenClaim := { program := "ytdoiekknhnbepaagreatdoor", sum := "26c0b3241b861986b7cde5749a4e562fd7acaa40db476828752ed40d9f573b25", func := "almanac/almanaclaw23.CompactSplits", spec := "compactSplits", inPlace := ["internal/bytealg.abigen_runtime_cmpstring", "internal/abi.NoEscape"], unfollowed := true, recurses := true, named := ["math/bits.deBruijn64tab", "almanac/enc.nibbles"], plainKeys := false, apart := false, laid := [("math/bits.deBruijn64tab", laid_math_bits_deBruijn64tab), ("almanac/enc.nibbles", laid_almanac_enc_nibbles)], narrowed := true }
def CompactSplitsUptoSaid : Prop := compactSplitsUptoRow.holds Tryz.pinned (OpenSpec.upto compactSplitsSpec)

/-- 'almanaclaw23.CompactBack', WHERE WHAT IT READS IS OF BULK AT MOST 1048576: true; the input reads as it did. -/
def compactBackUptoRow : OpenClaim := { program := "ytdoiekknhnbepaagreatdoor", sum := "26c0b3241b861986b7cde5749a4e562fd7acaa40db476828752ed40d9f573b25", func := "almanac/almanaclaw23.CompactBack", spec := "compactBack", inPlace := ["internal/bytealg.abigen_runtime_cmpstring", "internal/abi.NoEscape"], unfollowed := true, recurses := true, named := ["math/bits.deBruijn64tab", "almanac/enc.nibbles"], plainKeys := false, apart := false, laid := [("math/bits.deBruijn64tab", laid_math_bits_deBruijn64tab), ("almanac/enc.nibbles", laid_almanac_enc_nibbles)], narrowed := true }
def CompactBackUptoSaid : Prop := compactBackUptoRow.holds Tryz.pinned (OpenSpec.upto compactBackSpec)

/-- 'almanaclaw19.BlockBack', WHERE WHAT IT READS IS OF BULK AT MOST 1048576: true; the input reads as it did. -/
def blockBackUptoRow : OpenClaim := { program := "ytdoiekknhnbepaagreatdoor", sum := "26c0b3241b861986b7cde5749a4e562fd7acaa40db476828752ed40d9f573b25", func := "almanac/almanaclaw19.BlockBack", spec := "blockBack", inPlace := ["internal/bytealg.abigen_runtime_cmpstring", "internal/abi.NoEscape"], unfollowed := true, recurses := true, named := ["math/bits.deBruijn64tab", "almanac/enc.nibbles"], plainKeys := false, apart := false, laid := [("math/bits.deBruijn64tab", laid_math_bits_deBruijn64tab), ("almanac/enc.nibbles", laid_almanac_enc_nibbles)], narrowed := true }
def BlockBackUptoSaid : Prop := blockBackUptoRow.holds Tryz.pinned (OpenSpec.upto blockBackSpec)

/-- 'almanaclaw19.BlockOne', WHERE WHAT IT READS IS OF BULK AT MOST 1048576: true; the input reads as it did. -/
def blockOneUptoRow : OpenClaim := { program := "ytdoiekknhnbepaagreatdoor", sum := "26c0b3241b861986b7cde5749a4e562fd7acaa40db476828752ed40d9f573b25", func := "almanac/almanaclaw19.BlockOne", spec := "blockOne", inPlace := ["internal/bytealg.abigen_runtime_cmpstring", "internal/abi.NoEscape"], unfollowed := true, recurses := true, named := ["math/bits.deBruijn64tab", "almanac/enc.nibbles"], plainKeys := false, apart := false, laid := [("math/bits.deBruijn64tab", laid_math_bits_deBruijn64tab), ("almanac/enc.nibbles", laid_almanac_enc_nibbles)], narrowed := true }
def BlockOneUptoSaid : Prop := blockOneUptoRow.holds Tryz.pinned (OpenSpec.upto blockOneSpec)

/-- 'almanaclaw19.BlockApart', WHERE WHAT IT READS IS OF BULK AT MOST 1048576: true; the input reads as it did. -/
def blockApartUptoRow : OpenClaim := { program := "ytdoiekknhnbepaagreatdoor", sum := "26c0b3241b861986b7cde5749a4e562fd7acaa40db476828752ed40d9f573b25", func := "almanac/almanaclaw19.BlockApart", spec := "blockApart", inPlace := ["internal/bytealg.abigen_runtime_cmpstring", "internal/abi.NoEscape"], unfollowed := true, recurses := true, named := ["math/bits.deBruijn64tab", "almanac/enc.nibbles"], plainKeys := false, apart := false, laid := [("math/bits.deBruijn64tab", laid_math_bits_deBruijn64tab), ("almanac/enc.nibbles", laid_almanac_enc_nibbles)], narrowed := true }
def BlockApartUptoSaid : Prop := blockApartUptoRow.holds Tryz.pinned (OpenSpec.upto blockApartSpec)

/-- 'almanaclaw19.BlockPosts', WHERE WHAT IT READS IS OF BULK AT MOST 1048576: true; the input reads as it did. -/
def blockPostsUptoRow : OpenClaim := { program := "ytdoiekknhnbepaagreatdoor", sum := "26c0b3241b861986b7cde5749a4e562fd7acaa40db476828752ed40d9f573b25", func := "almanac/almanaclaw19.BlockPosts", spec := "blockPosts", inPlace := ["internal/bytealg.abigen_runtime_cmpstring", "internal/abi.NoEscape"], unfollowed := true, recurses := true, named := ["math/bits.deBruijn64tab", "almanac/enc.nibbles"], plainKeys := false, apart := false, laid := [("math/bits.deBruijn64tab", laid_math_bits_deBruijn64tab), ("almanac/enc.nibbles", laid_almanac_enc_nibbles)], narrowed := true }
def BlockPostsUptoSaid : Prop := blockPostsUptoRow.holds Tryz.pinned (OpenSpec.upto blockPostsSpec)

/-- 'almanaclaw19.BlockSpoilt', WHERE WHAT IT READS IS OF BULK AT MOST 1048576: true; the input reads as it did. -/
def blockSpoiltUptoRow : OpenClaim := { program := "ytdoiekknhnbepaagreatdoor", sum := "26c0b3241b861986b7cde5749a4e562fd7acaa40db476828752ed40d9f573b25", func := "almanac/almanaclaw19.BlockSpoilt", spec := "blockSpoilt", inPlace := ["internal/bytealg.abigen_runtime_cmpstring", "internal/abi.NoEscape"], unfollowed := true, recurses := true, named := ["math/bits.deBruijn64tab", "almanac/enc.nibbles"], plainKeys := false, apart := false, laid := [("math/bits.deBruijn64tab", laid_math_bits_deBruijn64tab), ("almanac/enc.nibbles", laid_almanac_enc_nibbles)], narrowed := true }
def BlockSpoiltUptoSaid : Prop := blockSpoiltUptoRow.holds Tryz.pinned (OpenSpec.upto blockSpoiltSpec)

end Rows
end Go.Proofs.YtdoiekknhnbepaaGreatDoor
