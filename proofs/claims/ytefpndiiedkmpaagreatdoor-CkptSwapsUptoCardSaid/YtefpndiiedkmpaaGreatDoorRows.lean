/-
  NARROWER THAN 'FOR EVERY INPUT', by the rows' own cells (each row's printed sentence says how): CkptBack: laid · CkptOne: laid · CkptApart: laid · CkptSpoilt: laid · CkptFull: laid · CkptSwaps: laid.
  DERIVED. THE GIVEN ROWS OF THIS SEAT. 6 by the template 'for every input the law returns true; each argument reads behind the call as it read before'; 0 by the template 'total and deterministic' (their statements: YtefpndiiedkmpaaGreatDoorTotals.lean).
  GIVEN WITH THE SEED: the statements are not yours to turn. If you find one false, say at which input.
  Laid BY PROGRAM, IN A SANDBOX (cutbox-rows.mjs): the forced cells as the released guide's own fill.sh prints them over the translation e82b47fa6ab1b24d… (all of the seat's roots in one cut). By AI agents, Wed Nov 11 2026. No macro, syntax, notation, axiom, sorry.
-/
import Derived.Test.YtefpndiiedkmpaaGreatDoorChecked
import GoSem.Claim
import GoSem.ClaimJoined
import GoSem.ClaimMapViews
import Derived.JoinedTies
import Derived.KernelRfl
namespace Go.Proofs.YtefpndiiedkmpaaGreatDoor
/- THE CELL 'sum', in the pinned program and in every row, IS THE sha256 OF THE DUMP (.gsa) THAT YtefpndiiedkmpaaGreatDoorProg.lean LOADS. Nothing in Lean hashes anything: it is a label: what it is worth is what the hold of that sum in a sandbox is worth. -/
noncomputable def Tryz.pinned : Pinned := { name := "ytefpndiiedkmpaagreatdoor", sum := "e82b47fa6ab1b24d5e1d178add37aaa0a5fcd0d0d74bb65544ec7324bbfcccbf", checked := Tryz.checked }
namespace Rows
def none {H : Type} : Left H := { results := [], args := [] }

/- WHAT THE LISTED PACKAGE-LEVEL VARIABLES READ AS WHEN THE CALL BEGINS. Each datum BY PROGRAM (the guide's laid-datum.mjs) off the statement by which the dump's own 'gosem.cut.vars' lays the variable. In a bare row this is a premise. The card (YtefpndiiedkmpaaGreatDoorCards.lean) ties it to the program's text. -/
def laid_math_bits_deBruijn64tab {H : Type} : DataW H := .agg [.lit (.int .u8 0), .lit (.int .u8 1), .lit (.int .u8 56), .lit (.int .u8 2), .lit (.int .u8 57), .lit (.int .u8 49), .lit (.int .u8 28), .lit (.int .u8 3), .lit (.int .u8 61), .lit (.int .u8 58), .lit (.int .u8 42), .lit (.int .u8 50), .lit (.int .u8 38), .lit (.int .u8 29), .lit (.int .u8 17), .lit (.int .u8 4), .lit (.int .u8 62), .lit (.int .u8 47), .lit (.int .u8 59), .lit (.int .u8 36), .lit (.int .u8 45), .lit (.int .u8 43), .lit (.int .u8 51), .lit (.int .u8 22), .lit (.int .u8 53), .lit (.int .u8 39), .lit (.int .u8 33), .lit (.int .u8 30), .lit (.int .u8 24), .lit (.int .u8 18), .lit (.int .u8 12), .lit (.int .u8 5), .lit (.int .u8 63), .lit (.int .u8 55), .lit (.int .u8 48), .lit (.int .u8 27), .lit (.int .u8 60), .lit (.int .u8 41), .lit (.int .u8 37), .lit (.int .u8 16), .lit (.int .u8 46), .lit (.int .u8 35), .lit (.int .u8 44), .lit (.int .u8 21), .lit (.int .u8 52), .lit (.int .u8 32), .lit (.int .u8 23), .lit (.int .u8 11), .lit (.int .u8 54), .lit (.int .u8 26), .lit (.int .u8 40), .lit (.int .u8 15), .lit (.int .u8 34), .lit (.int .u8 20), .lit (.int .u8 31), .lit (.int .u8 10), .lit (.int .u8 25), .lit (.int .u8 14), .lit (.int .u8 19), .lit (.int .u8 9), .lit (.int .u8 13), .lit (.int .u8 8), .lit (.int .u8 7), .lit (.int .u8 6)]
def laid_almanac_api_FailOff {H : Type} : DataW H := .iface "*errors.errorString" (.ptr (.agg [.lit (.string [116, 104, 101, 32, 112, 111, 119, 101, 114, 32, 105, 115, 32, 111, 102, 102])]))
def laid_almanac_api_FailName {H : Type} : DataW H := .iface "*errors.errorString" (.ptr (.agg [.lit (.string [110, 111, 32, 112, 97, 116, 104])]))
def laid_almanac_api_FailKind {H : Type} : DataW H := .iface "*errors.errorString" (.ptr (.agg [.lit (.string [97, 32, 100, 105, 114, 101, 99, 116, 111, 114, 121])]))
def laid_almanac_api_FailMissing {H : Type} : DataW H := .iface "*errors.errorString" (.ptr (.agg [.lit (.string [110, 111, 116, 32, 116, 104, 101, 114, 101])]))
def laid_almanac_api_FailExists {H : Type} : DataW H := .iface "*errors.errorString" (.ptr (.agg [.lit (.string [116, 104, 101, 114, 101, 32, 97, 108, 114, 101, 97, 100, 121])]))
def laid_almanac_api_FailSpace {H : Type} : DataW H := .iface "*errors.errorString" (.ptr (.agg [.lit (.string [110, 111, 32, 115, 112, 97, 99, 101])]))
def laid_almanac_enc_nibbles {H : Type} : DataW H := .agg [.lit (.int .u32 0), .lit (.int .u32 274646895), .lit (.int .u32 549293790), .lit (.int .u32 820201905), .lit (.int .u32 1098587580), .lit (.int .u32 1361435347), .lit (.int .u32 1640403810), .lit (.int .u32 1905808397), .lit (.int .u32 2197175160), .lit (.int .u32 2460548119), .lit (.int .u32 2722870694), .lit (.int .u32 2987750089), .lit (.int .u32 3280807620), .lit (.int .u32 3553878443), .lit (.int .u32 3811616794), .lit (.int .u32 4084100981)]
def laid_almanac_api_FailRange {H : Type} : DataW H := .iface "*errors.errorString" (.ptr (.agg [.lit (.string [111, 117, 116, 32, 111, 102, 32, 114, 97, 110, 103, 101])]))

/-- 'almanaclaw17.CkptBack': WHATEVER THE INPUT: true; the input reads as it did. -/
def ckptBackSpec : ChangeSpec := { name := "ckptBack", fn := fun _ => fun
  | [d] => { results := [.lit (.bool true)], args := [d] }
  | _ => none }
def ckptBackRow : OpenClaim := { program := "ytefpndiiedkmpaagreatdoor", sum := "e82b47fa6ab1b24d5e1d178add37aaa0a5fcd0d0d74bb65544ec7324bbfcccbf", func := "almanac/almanaclaw17.CkptBack", spec := "ckptBack", inPlace := ["internal/bytealg.abigen_runtime_cmpstring", "internal/abi.NoEscape", "maps.clone", "internal/bytealg.IndexByteString", "internal/bytealg.IndexString", "internal/reflectlite.TypeOf", "internal/bytealg.MakeNoZero"], unfollowed := true, recurses := true, named := ["math/bits.deBruijn64tab", "almanac/enc.nibbles", "almanac/api.FailMissing", "internal/bytealg.MaxLen", "almanac/api.FailOff", "almanac/api.FailName", "almanac/api.FailExists", "almanac/api.FailSpace", "almanac/api.FailKind"], apart := false, laid := [("math/bits.deBruijn64tab", laid_math_bits_deBruijn64tab), ("almanac/api.FailOff", laid_almanac_api_FailOff), ("almanac/api.FailName", laid_almanac_api_FailName), ("almanac/api.FailKind", laid_almanac_api_FailKind), ("almanac/api.FailMissing", laid_almanac_api_FailMissing), ("almanac/api.FailExists", laid_almanac_api_FailExists), ("almanac/api.FailSpace", laid_almanac_api_FailSpace), ("almanac/enc.nibbles", laid_almanac_enc_nibbles)] }
def CkptBackSaid : Prop := ckptBackRow.holds Tryz.pinned (OpenSpec.ofChange ckptBackSpec)

/-- ITS FALSE NEIGHBOUR: 'it returns false'. Refute it at one input. -/
def ckptBackWrong : ChangeSpec := { name := "ckptBack", fn := fun _ => fun
  | [d] => { results := [.lit (.bool false)], args := [d] }
  | _ => none }
def CkptBackWrongFalsely : Prop := ckptBackRow.holds Tryz.pinned (OpenSpec.ofChange ckptBackWrong)

/-- 'almanaclaw17.CkptOne': WHATEVER THE INPUT: true; the input reads as it did. -/
def ckptOneSpec : ChangeSpec := { name := "ckptOne", fn := fun _ => fun
  | [d1, d2] => { results := [.lit (.bool true)], args := [d1, d2] }
  | _ => none }
def ckptOneRow : OpenClaim := { program := "ytefpndiiedkmpaagreatdoor", sum := "e82b47fa6ab1b24d5e1d178add37aaa0a5fcd0d0d74bb65544ec7324bbfcccbf", func := "almanac/almanaclaw17.CkptOne", spec := "ckptOne", inPlace := ["maps.clone", "internal/bytealg.abigen_runtime_cmpstring", "internal/abi.NoEscape", "internal/bytealg.IndexByteString", "internal/bytealg.IndexString", "internal/reflectlite.TypeOf", "internal/bytealg.MakeNoZero"], unfollowed := true, recurses := true, named := ["math/bits.deBruijn64tab", "almanac/enc.nibbles", "almanac/api.FailMissing", "internal/bytealg.MaxLen", "almanac/api.FailOff", "almanac/api.FailName", "almanac/api.FailExists", "almanac/api.FailSpace", "almanac/api.FailKind"], apart := false, laid := [("math/bits.deBruijn64tab", laid_math_bits_deBruijn64tab), ("almanac/api.FailOff", laid_almanac_api_FailOff), ("almanac/api.FailName", laid_almanac_api_FailName), ("almanac/api.FailKind", laid_almanac_api_FailKind), ("almanac/api.FailMissing", laid_almanac_api_FailMissing), ("almanac/api.FailExists", laid_almanac_api_FailExists), ("almanac/api.FailSpace", laid_almanac_api_FailSpace), ("almanac/enc.nibbles", laid_almanac_enc_nibbles)] }
def CkptOneSaid : Prop := ckptOneRow.holds Tryz.pinned (OpenSpec.ofChange ckptOneSpec)

/-- ITS FALSE NEIGHBOUR: 'it returns false'. Refute it at one input. -/
def ckptOneWrong : ChangeSpec := { name := "ckptOne", fn := fun _ => fun
  | [d1, d2] => { results := [.lit (.bool false)], args := [d1, d2] }
  | _ => none }
def CkptOneWrongFalsely : Prop := ckptOneRow.holds Tryz.pinned (OpenSpec.ofChange ckptOneWrong)

/-- 'almanaclaw17.CkptApart': WHATEVER THE INPUT: true; the input reads as it did. -/
def ckptApartSpec : ChangeSpec := { name := "ckptApart", fn := fun _ => fun
  | [d1, d2] => { results := [.lit (.bool true)], args := [d1, d2] }
  | _ => none }
def ckptApartRow : OpenClaim := { program := "ytefpndiiedkmpaagreatdoor", sum := "e82b47fa6ab1b24d5e1d178add37aaa0a5fcd0d0d74bb65544ec7324bbfcccbf", func := "almanac/almanaclaw17.CkptApart", spec := "ckptApart", inPlace := ["internal/bytealg.abigen_runtime_cmpstring", "internal/abi.NoEscape", "maps.clone", "internal/bytealg.IndexByteString", "internal/bytealg.IndexString", "internal/reflectlite.TypeOf", "internal/bytealg.MakeNoZero"], unfollowed := true, recurses := true, named := ["math/bits.deBruijn64tab", "almanac/enc.nibbles", "almanac/api.FailMissing", "internal/bytealg.MaxLen", "almanac/api.FailOff", "almanac/api.FailName", "almanac/api.FailExists", "almanac/api.FailSpace", "almanac/api.FailKind"], apart := false, laid := [("math/bits.deBruijn64tab", laid_math_bits_deBruijn64tab), ("almanac/api.FailOff", laid_almanac_api_FailOff), ("almanac/api.FailName", laid_almanac_api_FailName), ("almanac/api.FailKind", laid_almanac_api_FailKind), ("almanac/api.FailMissing", laid_almanac_api_FailMissing), ("almanac/api.FailExists", laid_almanac_api_FailExists), ("almanac/api.FailSpace", laid_almanac_api_FailSpace), ("almanac/enc.nibbles", laid_almanac_enc_nibbles)] }
def CkptApartSaid : Prop := ckptApartRow.holds Tryz.pinned (OpenSpec.ofChange ckptApartSpec)

/-- ITS FALSE NEIGHBOUR: 'it returns false'. Refute it at one input. -/
def ckptApartWrong : ChangeSpec := { name := "ckptApart", fn := fun _ => fun
  | [d1, d2] => { results := [.lit (.bool false)], args := [d1, d2] }
  | _ => none }
def CkptApartWrongFalsely : Prop := ckptApartRow.holds Tryz.pinned (OpenSpec.ofChange ckptApartWrong)

/-- 'almanaclaw17.CkptSpoilt': WHATEVER THE INPUT: true; the input reads as it did. -/
def ckptSpoiltSpec : ChangeSpec := { name := "ckptSpoilt", fn := fun _ => fun
  | [d1, d2, d3] => { results := [.lit (.bool true)], args := [d1, d2, d3] }
  | _ => none }
def ckptSpoiltRow : OpenClaim := { program := "ytefpndiiedkmpaagreatdoor", sum := "e82b47fa6ab1b24d5e1d178add37aaa0a5fcd0d0d74bb65544ec7324bbfcccbf", func := "almanac/almanaclaw17.CkptSpoilt", spec := "ckptSpoilt", inPlace := ["maps.clone", "internal/bytealg.abigen_runtime_cmpstring", "internal/abi.NoEscape", "internal/bytealg.IndexByteString", "internal/bytealg.IndexString", "internal/reflectlite.TypeOf", "internal/bytealg.MakeNoZero"], unfollowed := true, recurses := true, named := ["math/bits.deBruijn64tab", "almanac/enc.nibbles", "almanac/api.FailMissing", "internal/bytealg.MaxLen", "almanac/api.FailOff", "almanac/api.FailName", "almanac/api.FailExists", "almanac/api.FailSpace", "almanac/api.FailKind", "almanac/api.FailRange"], apart := false, laid := [("math/bits.deBruijn64tab", laid_math_bits_deBruijn64tab), ("almanac/api.FailOff", laid_almanac_api_FailOff), ("almanac/api.FailName", laid_almanac_api_FailName), ("almanac/api.FailKind", laid_almanac_api_FailKind), ("almanac/api.FailMissing", laid_almanac_api_FailMissing), ("almanac/api.FailExists", laid_almanac_api_FailExists), ("almanac/api.FailRange", laid_almanac_api_FailRange), ("almanac/api.FailSpace", laid_almanac_api_FailSpace), ("almanac/enc.nibbles", laid_almanac_enc_nibbles)] }
def CkptSpoiltSaid : Prop := ckptSpoiltRow.holds Tryz.pinned (OpenSpec.ofChange ckptSpoiltSpec)

/-- ITS FALSE NEIGHBOUR: 'it returns false'. Refute it at one input. -/
def ckptSpoiltWrong : ChangeSpec := { name := "ckptSpoilt", fn := fun _ => fun
  | [d1, d2, d3] => { results := [.lit (.bool false)], args := [d1, d2, d3] }
  | _ => none }
def CkptSpoiltWrongFalsely : Prop := ckptSpoiltRow.holds Tryz.pinned (OpenSpec.ofChange ckptSpoiltWrong)

/-- 'almanaclaw17.CkptFull': WHATEVER THE INPUT: true; the input reads as it did. -/
def ckptFullSpec : ChangeSpec := { name := "ckptFull", fn := fun _ => fun
  | [d1, d2, d3] => { results := [.lit (.bool true)], args := [d1, d2, d3] }
  | _ => none }
def ckptFullRow : OpenClaim := { program := "ytefpndiiedkmpaagreatdoor", sum := "e82b47fa6ab1b24d5e1d178add37aaa0a5fcd0d0d74bb65544ec7324bbfcccbf", func := "almanac/almanaclaw17.CkptFull", spec := "ckptFull", inPlace := ["maps.clone", "internal/bytealg.abigen_runtime_cmpstring", "internal/abi.NoEscape", "internal/bytealg.IndexByteString", "internal/bytealg.IndexString", "internal/reflectlite.TypeOf", "internal/bytealg.MakeNoZero"], unfollowed := true, recurses := true, named := ["almanac/api.FailSpace", "math/bits.deBruijn64tab", "almanac/enc.nibbles", "almanac/api.FailMissing", "internal/bytealg.MaxLen", "almanac/api.FailOff", "almanac/api.FailName", "almanac/api.FailExists", "almanac/api.FailKind"], apart := false, laid := [("math/bits.deBruijn64tab", laid_math_bits_deBruijn64tab), ("almanac/api.FailOff", laid_almanac_api_FailOff), ("almanac/api.FailName", laid_almanac_api_FailName), ("almanac/api.FailKind", laid_almanac_api_FailKind), ("almanac/api.FailMissing", laid_almanac_api_FailMissing), ("almanac/api.FailExists", laid_almanac_api_FailExists), ("almanac/api.FailSpace", laid_almanac_api_FailSpace), ("almanac/enc.nibbles", laid_almanac_enc_nibbles)] }
def CkptFullSaid : Prop := ckptFullRow.holds Tryz.pinned (OpenSpec.ofChange ckptFullSpec)

/-- ITS FALSE NEIGHBOUR: 'it returns false'. Refute it at one input. -/
def ckptFullWrong : ChangeSpec := { name := "ckptFull", fn := fun _ => fun
  | [d1, d2, d3] => { results := [.lit (.bool false)], args := [d1, d2, d3] }
  | _ => none }
def CkptFullWrongFalsely : Prop := ckptFullRow.holds Tryz.pinned (OpenSpec.ofChange ckptFullWrong)

/-- 'almanaclaw17.CkptSwaps': WHATEVER THE INPUT: true; the input reads as it did. -/
def ckptSwapsSpec : ChangeSpec := { name := "ckptSwaps", fn := fun _ => fun
  | [d] => { results := [.lit (.bool true)], args := [d] }
  | _ => none }
def ckptSwapsRow : OpenClaim := { program := "ytefpndiiedkmpaagreatdoor", sum := "e82b47fa6ab1b24d5e1d178add37aaa0a5fcd0d0d74bb65544ec7324bbfcccbf", func := "almanac/almanaclaw17.CkptSwaps", spec := "ckptSwaps", inPlace := ["maps.clone", "internal/bytealg.abigen_runtime_cmpstring", "internal/abi.NoEscape", "internal/bytealg.IndexByteString", "internal/bytealg.IndexString", "internal/reflectlite.TypeOf", "internal/bytealg.MakeNoZero"], unfollowed := true, recurses := true, named := ["math/bits.deBruijn64tab", "almanac/enc.nibbles", "almanac/api.FailMissing", "internal/bytealg.MaxLen", "almanac/api.FailOff", "almanac/api.FailName", "almanac/api.FailExists", "almanac/api.FailSpace", "almanac/api.FailKind"], apart := false, laid := [("math/bits.deBruijn64tab", laid_math_bits_deBruijn64tab), ("almanac/api.FailOff", laid_almanac_api_FailOff), ("almanac/api.FailName", laid_almanac_api_FailName), ("almanac/api.FailKind", laid_almanac_api_FailKind), ("almanac/api.FailMissing", laid_almanac_api_FailMissing), ("almanac/api.FailExists", laid_almanac_api_FailExists), ("almanac/api.FailSpace", laid_almanac_api_FailSpace), ("almanac/enc.nibbles", laid_almanac_enc_nibbles)] }
def CkptSwapsSaid : Prop := ckptSwapsRow.holds Tryz.pinned (OpenSpec.ofChange ckptSwapsSpec)

/-- ITS FALSE NEIGHBOUR: 'it returns false'. Refute it at one input. -/
def ckptSwapsWrong : ChangeSpec := { name := "ckptSwaps", fn := fun _ => fun
  | [d] => { results := [.lit (.bool false)], args := [d] }
  | _ => none }
def CkptSwapsWrongFalsely : Prop := ckptSwapsRow.holds Tryz.pinned (OpenSpec.ofChange ckptSwapsWrong)

/- THE SECOND FORM. 'bulk': how many values and letters a reading holds, each counted each time it is reached (what is shared counts as often as it is met; a slice's spare places count too). A statement '..UptoSaid' is the law's where the arguments, and the package variables that the reading takes, are together of bulk at most 1048576: NARROWER than '..Said'. Prove '..Said' where nothing that the law and all that it calls make is longer than what came in: it says more and counts as full. Else prove '..UptoSaid'. A law counts once. -/
mutual
def uptoBulk {H : Type} : DataW H → Nat
  | .lit (.string bytes) => bytes.length + 1
  | .lit _ => 1
  | .nil => 1
  | .ptr d => uptoBulk d + 1
  | .slice elems spare => uptoBulkAll elems + uptoBulkAll spare + 1
  | .agg parts => uptoBulkAll parts + 1
  | .iface _ d => uptoBulk d + 1
  | .map entries => uptoBulkEntries entries + 1
  | .held _ => 1
def uptoBulkAll {H : Type} : List (DataW H) → Nat
  | [] => 0
  | d :: r => uptoBulk d + uptoBulkAll r
def uptoBulkEntries {H : Type} : List (Lit × DataW H) → Nat
  | [] => 0
  | x :: r => uptoBulkEntry x + uptoBulkEntries r
def uptoBulkEntry {H : Type} : Lit × DataW H → Nat
  | (.string bytes, d) => bytes.length + uptoBulk d + 1
  | (_, d) => uptoBulk d + 1
 end
def uptoSmall : (H : Type) → List (DataW H) → Bool := fun _ ds => decide (uptoBulkAll ds ≤ 1048576)
def OpenSpec.upto (s : _root_.Go.ChangeSpec) : _root_.Go.OpenSpec := { _root_.Go.OpenSpec.ofChange s with cond := some uptoSmall }

/-- 'almanaclaw17.CkptBack', WHERE WHAT IT READS IS OF BULK AT MOST 1048576: true; the input reads as it did. -/
def ckptBackUptoRow : OpenClaim := { program := "ytefpndiiedkmpaagreatdoor", sum := "e82b47fa6ab1b24d5e1d178add37aaa0a5fcd0d0d74bb65544ec7324bbfcccbf", func := "almanac/almanaclaw17.CkptBack", spec := "ckptBack", inPlace := ["internal/bytealg.abigen_runtime_cmpstring", "internal/abi.NoEscape", "maps.clone", "internal/bytealg.IndexByteString", "internal/bytealg.IndexString", "internal/reflectlite.TypeOf", "internal/bytealg.MakeNoZero"], unfollowed := true, recurses := true, named := ["math/bits.deBruijn64tab", "almanac/enc.nibbles", "almanac/api.FailMissing", "internal/bytealg.MaxLen", "almanac/api.FailOff", "almanac/api.FailName", "almanac/api.FailExists", "almanac/api.FailSpace", "almanac/api.FailKind"], apart := false, laid := [("math/bits.deBruijn64tab", laid_math_bits_deBruijn64tab), ("almanac/api.FailOff", laid_almanac_api_FailOff), ("almanac/api.FailName", laid_almanac_api_FailName), ("almanac/api.FailKind", laid_almanac_api_FailKind), ("almanac/api.FailMissing", laid_almanac_api_FailMissing), ("almanac/api.FailExists", laid_almanac_api_FailExists), ("almanac/api.FailSpace", laid_almanac_api_FailSpace), ("almanac/enc.nibbles", laid_almanac_enc_nibbles)], narrowed := true }
def CkptBackUptoSaid : Prop := ckptBackUptoRow.holds Tryz.pinned (OpenSpec.upto ckptBackSpec)

/-- 'almanaclaw17.CkptOne', WHERE WHAT IT READS IS OF BULK AT MOST 1048576: true; the input reads as it did. -/
def ckptOneUptoRow : OpenClaim := { program := "ytefpndiiedkmpaagreatdoor", sum := "e82b47fa6ab1b24d5e1d178add37aaa0a5fcd0d0d74bb65544ec7324bbfcccbf", func := "almanac/almanaclaw17.CkptOne", spec := "ckptOne", inPlace := ["maps.clone", "internal/bytealg.abigen_runtime_cmpstring", "internal/abi.NoEscape", "internal/bytealg.IndexByteString", "internal/bytealg.IndexString", "internal/reflectlite.TypeOf", "internal/bytealg.MakeNoZero"], unfollowed := true, recurses := true, named := ["math/bits.deBruijn64tab", "almanac/enc.nibbles", "almanac/api.FailMissing", "internal/bytealg.MaxLen", "almanac/api.FailOff", "almanac/api.FailName", "almanac/api.FailExists", "almanac/api.FailSpace", "almanac/api.FailKind"], apart := false, laid := [("math/bits.deBruijn64tab", laid_math_bits_deBruijn64tab), ("almanac/api.FailOff", laid_almanac_api_FailOff), ("almanac/api.FailName", laid_almanac_api_FailName), ("almanac/api.FailKind", laid_almanac_api_FailKind), ("almanac/api.FailMissing", laid_almanac_api_FailMissing), ("almanac/api.FailExists", laid_almanac_api_FailExists), ("almanac/api.FailSpace", laid_almanac_api_FailSpace), ("almanac/enc.nibbles", laid_almanac_enc_nibbles)], narrowed := true }
def CkptOneUptoSaid : Prop := ckptOneUptoRow.holds Tryz.pinned (OpenSpec.upto ckptOneSpec)

/-- 'almanaclaw17.CkptApart', WHERE WHAT IT READS IS OF BULK AT MOST 1048576: true; the input reads as it did. -/
def ckptApartUptoRow : OpenClaim := { program := "ytefpndiiedkmpaagreatdoor", sum := "e82b47fa6ab1b24d5e1d178add37aaa0a5fcd0d0d74bb65544ec7324bbfcccbf", func := "almanac/almanaclaw17.CkptApart", spec := "ckptApart", inPlace := ["internal/bytealg.abigen_runtime_cmpstring", "internal/abi.NoEscape", "maps.clone", "internal/bytealg.IndexByteString", "internal/bytealg.IndexString", "internal/reflectlite.TypeOf", "internal/bytealg.MakeNoZero"], unfollowed := true, recurses := true, named := ["math/bits.deBruijn64tab", "almanac/enc.nibbles", "almanac/api.FailMissing", "internal/bytealg.MaxLen", "almanac/api.FailOff", "almanac/api.FailName", "almanac/api.FailExists", "almanac/api.FailSpace", "almanac/api.FailKind"], apart := false, laid := [("math/bits.deBruijn64tab", laid_math_bits_deBruijn64tab), ("almanac/api.FailOff", laid_almanac_api_FailOff), ("almanac/api.FailName", laid_almanac_api_FailName), ("almanac/api.FailKind", laid_almanac_api_FailKind), ("almanac/api.FailMissing", laid_almanac_api_FailMissing), ("almanac/api.FailExists", laid_almanac_api_FailExists), ("almanac/api.FailSpace", laid_almanac_api_FailSpace), ("almanac/enc.nibbles", laid_almanac_enc_nibbles)], narrowed := true }
def CkptApartUptoSaid : Prop := ckptApartUptoRow.holds Tryz.pinned (OpenSpec.upto ckptApartSpec)

/-- 'almanaclaw17.CkptSpoilt', WHERE WHAT IT READS IS OF BULK AT MOST 1048576: true; the input reads as it did. -/
def ckptSpoiltUptoRow : OpenClaim := { program := "ytefpndiiedkmpaagreatdoor", sum := "e82b47fa6ab1b24d5e1d178add37aaa0a5fcd0d0d74bb65544ec7324bbfcccbf", func := "almanac/almanaclaw17.CkptSpoilt", spec := "ckptSpoilt", inPlace := ["maps.clone", "internal/bytealg.abigen_runtime_cmpstring", "internal/abi.NoEscape", "internal/bytealg.IndexByteString", "internal/bytealg.IndexString", "internal/reflectlite.TypeOf", "internal/bytealg.MakeNoZero"], unfollowed := true, recurses := true, named := ["math/bits.deBruijn64tab", "almanac/enc.nibbles", "almanac/api.FailMissing", "internal/bytealg.MaxLen", "almanac/api.FailOff", "almanac/api.FailName", "almanac/api.FailExists", "almanac/api.FailSpace", "almanac/api.FailKind", "almanac/api.FailRange"], apart := false, laid := [("math/bits.deBruijn64tab", laid_math_bits_deBruijn64tab), ("almanac/api.FailOff", laid_almanac_api_FailOff), ("almanac/api.FailName", laid_almanac_api_FailName), ("almanac/api.FailKind", laid_almanac_api_FailKind), ("almanac/api.FailMissing", laid_almanac_api_FailMissing), ("almanac/api.FailExists", laid_almanac_api_FailExists), ("almanac/api.FailRange", laid_almanac_api_FailRange), ("almanac/api.FailSpace", laid_almanac_api_FailSpace), ("almanac/enc.nibbles", laid_almanac_enc_nibbles)], narrowed := true }
def CkptSpoiltUptoSaid : Prop := ckptSpoiltUptoRow.holds Tryz.pinned (OpenSpec.upto ckptSpoiltSpec)

/-- 'almanaclaw17.CkptFull', WHERE WHAT IT READS IS OF BULK AT MOST 1048576: true; the input reads as it did. -/
def ckptFullUptoRow : OpenClaim := { program := "ytefpndiiedkmpaagreatdoor", sum := "e82b47fa6ab1b24d5e1d178add37aaa0a5fcd0d0d74bb65544ec7324bbfcccbf", func := "almanac/almanaclaw17.CkptFull", spec := "ckptFull", inPlace := ["maps.clone", "internal/bytealg.abigen_runtime_cmpstring", "internal/abi.NoEscape", "internal/bytealg.IndexByteString", "internal/bytealg.IndexString", "internal/reflectlite.TypeOf", "internal/bytealg.MakeNoZero"], unfollowed := true, recurses := true, named := ["almanac/api.FailSpace", "math/bits.deBruijn64tab", "almanac/enc.nibbles", "almanac/api.FailMissing", "internal/bytealg.MaxLen", "almanac/api.FailOff", "almanac/api.FailName", "almanac/api.FailExists", "almanac/api.FailKind"], apart := false, laid := [("math/bits.deBruijn64tab", laid_math_bits_deBruijn64tab), ("almanac/api.FailOff", laid_almanac_api_FailOff), ("almanac/api.FailName", laid_almanac_api_FailName), ("almanac/api.FailKind", laid_almanac_api_FailKind), ("almanac/api.FailMissing", laid_almanac_api_FailMissing), ("almanac/api.FailExists", laid_almanac_api_FailExists), ("almanac/api.FailSpace", laid_almanac_api_FailSpace), ("almanac/enc.nibbles", laid_almanac_enc_nibbles)], narrowed := true }
def CkptFullUptoSaid : Prop := ckptFullUptoRow.holds Tryz.pinned (OpenSpec.upto ckptFullSpec)

/-- 'almanaclaw17.CkptSwaps', WHERE WHAT IT READS IS OF BULK AT MOST 1048576: true; the input reads as it did. -/
def ckptSwapsUptoRow : OpenClaim := { program := "ytefpndiiedkmpaagreatdoor", sum := "e82b47fa6ab1b24d5e1d178add37aaa0a5fcd0d0d74bb65544ec7324bbfcccbf", func := "almanac/almanaclaw17.CkptSwaps", spec := "ckptSwaps", inPlace := ["maps.clone", "internal/bytealg.abigen_runtime_cmpstring", "internal/abi.NoEscape", "internal/bytealg.IndexByteString", "internal/bytealg.IndexString", "internal/reflectlite.TypeOf", "internal/bytealg.MakeNoZero"], unfollowed := true, recurses := true, named := ["math/bits.deBruijn64tab", "almanac/enc.nibbles", "almanac/api.FailMissing", "internal/bytealg.MaxLen", "almanac/api.FailOff", "almanac/api.FailName", "almanac/api.FailExists", "almanac/api.FailSpace", "almanac/api.FailKind"], apart := false, laid := [("math/bits.deBruijn64tab", laid_math_bits_deBruijn64tab), ("almanac/api.FailOff", laid_almanac_api_FailOff), ("almanac/api.FailName", laid_almanac_api_FailName), ("almanac/api.FailKind", laid_almanac_api_FailKind), ("almanac/api.FailMissing", laid_almanac_api_FailMissing), ("almanac/api.FailExists", laid_almanac_api_FailExists), ("almanac/api.FailSpace", laid_almanac_api_FailSpace), ("almanac/enc.nibbles", laid_almanac_enc_nibbles)], narrowed := true }
def CkptSwapsUptoSaid : Prop := ckptSwapsUptoRow.holds Tryz.pinned (OpenSpec.upto ckptSwapsSpec)

end Rows
end Go.Proofs.YtefpndiiedkmpaaGreatDoor
