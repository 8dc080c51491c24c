/-
  DERIVED. GIVEN WITH THE SEED: THE CARDS: each row of YtdoiekknhnbepaaGreatDoorRows.lean that lists a variable, with what it lists TIED to the program's text (the seventh form; the later family's looks); each row that meets fmt, with fmt's text TOLD by the authors' own Lean function (tested against real Go, not proved from fmt's source: count such statements apart). THE CARD IS WHAT COUNTS. Prove the row's statement (the work); the ties are given (YtdoiekknhnbepaaGreatDoorTie.lean); close each card by the builder's one call (the guide's Derived/Test/ToyasCard.lean, 'card_holds'). Laid BY PROGRAM, IN A SANDBOX (cutbox-door.mjs). By AI agents, Wed Nov 11 2026. No macro, syntax, notation, axiom, sorry.
-/
import Derived.Test.YtdoiekknhnbepaaGreatDoorRows
import GoSem.ClaimSeven
namespace Go.Proofs.YtdoiekknhnbepaaGreatDoor
namespace Rows

/-- THE TIED CARD OF 'almanaclaw23.CompactMakes'. -/
def compactMakesCard : Claim7 := { stood := { row := compactMakesRow, standIns := [], harness := (true, "4dbf2ee2c6f54f9fd4d68aba6f8b8dc5e7c84a38d120a76a96e4bfcdb402f0dc"), looks := true }, kinds := [], alts := [], laidByText := true, laidKinds := [.data, .data], laidTests := true, laidLooks := .later }
def CompactMakesCardSaid : Prop := Claim7.holds Tryz.pinned (.plain (OpenSpec.ofChange compactMakesSpec)) compactMakesCard

/-- THE TIED CARD OF 'almanaclaw23.CompactFits'. -/
def compactFitsCard : Claim7 := { stood := { row := compactFitsRow, standIns := [], harness := (true, "4dbf2ee2c6f54f9fd4d68aba6f8b8dc5e7c84a38d120a76a96e4bfcdb402f0dc"), looks := true }, kinds := [], alts := [], laidByText := true, laidKinds := [.data, .data], laidTests := true, laidLooks := .later }
def CompactFitsCardSaid : Prop := Claim7.holds Tryz.pinned (.plain (OpenSpec.ofChange compactFitsSpec)) compactFitsCard

/-- THE TIED CARD OF 'almanaclaw23.CompactSplits'. -/
def compactSplitsCard : Claim7 := { stood := { row := compactSplitsRow, standIns := [], harness := (true, "4dbf2ee2c6f54f9fd4d68aba6f8b8dc5e7c84a38d120a76a96e4bfcdb402f0dc"), looks := true }, kinds := [], alts := [], laidByText := true, laidKinds := [.data, .data], laidTests := true, laidLooks := .later }
def CompactSplitsCardSaid : Prop := Claim7.holds Tryz.pinned (.plain (OpenSpec.ofChange compactSplitsSpec)) compactSplitsCard

/-- THE TIED CARD OF 'almanaclaw23.CompactBack'. -/
def compactBackCard : Claim7 := { stood := { row := compactBackRow, standIns := [], harness := (true, "4dbf2ee2c6f54f9fd4d68aba6f8b8dc5e7c84a38d120a76a96e4bfcdb402f0dc"), looks := true }, kinds := [], alts := [], laidByText := true, laidKinds := [.data, .data], laidTests := true, laidLooks := .later }
def CompactBackCardSaid : Prop := Claim7.holds Tryz.pinned (.plain (OpenSpec.ofChange compactBackSpec)) compactBackCard

/-- THE TIED CARD OF 'almanaclaw19.BlockBack'. -/
def blockBackCard : Claim7 := { stood := { row := blockBackRow, standIns := [], harness := (true, "4dbf2ee2c6f54f9fd4d68aba6f8b8dc5e7c84a38d120a76a96e4bfcdb402f0dc"), looks := true }, kinds := [], alts := [], laidByText := true, laidKinds := [.data, .data], laidTests := true, laidLooks := .later }
def BlockBackCardSaid : Prop := Claim7.holds Tryz.pinned (.plain (OpenSpec.ofChange blockBackSpec)) blockBackCard

/-- THE TIED CARD OF 'almanaclaw19.BlockOne'. -/
def blockOneCard : Claim7 := { stood := { row := blockOneRow, standIns := [], harness := (true, "4dbf2ee2c6f54f9fd4d68aba6f8b8dc5e7c84a38d120a76a96e4bfcdb402f0dc"), looks := true }, kinds := [], alts := [], laidByText := true, laidKinds := [.data, .data], laidTests := true, laidLooks := .later }
def BlockOneCardSaid : Prop := Claim7.holds Tryz.pinned (.plain (OpenSpec.ofChange blockOneSpec)) blockOneCard

/-- THE TIED CARD OF 'almanaclaw19.BlockApart'. -/
def blockApartCard : Claim7 := { stood := { row := blockApartRow, standIns := [], harness := (true, "4dbf2ee2c6f54f9fd4d68aba6f8b8dc5e7c84a38d120a76a96e4bfcdb402f0dc"), looks := true }, kinds := [], alts := [], laidByText := true, laidKinds := [.data, .data], laidTests := true, laidLooks := .later }
def BlockApartCardSaid : Prop := Claim7.holds Tryz.pinned (.plain (OpenSpec.ofChange blockApartSpec)) blockApartCard

/-- THE TIED CARD OF 'almanaclaw19.BlockPosts'. -/
def blockPostsCard : Claim7 := { stood := { row := blockPostsRow, standIns := [], harness := (true, "4dbf2ee2c6f54f9fd4d68aba6f8b8dc5e7c84a38d120a76a96e4bfcdb402f0dc"), looks := true }, kinds := [], alts := [], laidByText := true, laidKinds := [.data, .data], laidTests := true, laidLooks := .later }
def BlockPostsCardSaid : Prop := Claim7.holds Tryz.pinned (.plain (OpenSpec.ofChange blockPostsSpec)) blockPostsCard

/-- THE TIED CARD OF 'almanaclaw19.BlockSpoilt'. -/
def blockSpoiltCard : Claim7 := { stood := { row := blockSpoiltRow, standIns := [], harness := (true, "4dbf2ee2c6f54f9fd4d68aba6f8b8dc5e7c84a38d120a76a96e4bfcdb402f0dc"), looks := true }, kinds := [], alts := [], laidByText := true, laidKinds := [.data, .data], laidTests := true, laidLooks := .later }
def BlockSpoiltCardSaid : Prop := Claim7.holds Tryz.pinned (.plain (OpenSpec.ofChange blockSpoiltSpec)) blockSpoiltCard

/-- THE SECOND FORM's CARD OF 'almanaclaw23.CompactMakes'. -/
def compactMakesUptoCard : Claim7 := { stood := { row := compactMakesUptoRow, standIns := [], harness := (true, "4dbf2ee2c6f54f9fd4d68aba6f8b8dc5e7c84a38d120a76a96e4bfcdb402f0dc"), looks := true }, kinds := [], alts := [], laidByText := true, laidKinds := [.data, .data], laidTests := true, laidLooks := .later }
def CompactMakesUptoCardSaid : Prop := Claim7.holds Tryz.pinned (.plain (OpenSpec.upto compactMakesSpec)) compactMakesUptoCard

/-- THE SECOND FORM's CARD OF 'almanaclaw23.CompactFits'. -/
def compactFitsUptoCard : Claim7 := { stood := { row := compactFitsUptoRow, standIns := [], harness := (true, "4dbf2ee2c6f54f9fd4d68aba6f8b8dc5e7c84a38d120a76a96e4bfcdb402f0dc"), looks := true }, kinds := [], alts := [], laidByText := true, laidKinds := [.data, .data], laidTests := true, laidLooks := .later }
def CompactFitsUptoCardSaid : Prop := Claim7.holds Tryz.pinned (.plain (OpenSpec.upto compactFitsSpec)) compactFitsUptoCard

/-- THE SECOND FORM's CARD OF 'almanaclaw23.CompactSplits'. -/
def compactSplitsUptoCard : Claim7 := { stood := { row := compactSplitsUptoRow, standIns := [], harness := (true, "4dbf2ee2c6f54f9fd4d68aba6f8b8dc5e7c84a38d120a76a96e4bfcdb402f0dc"), looks := true }, kinds := [], alts := [], laidByText := true, laidKinds := [.data, .data], laidTests := true, laidLooks := .later }
def CompactSplitsUptoCardSaid : Prop := Claim7.holds Tryz.pinned (.plain (OpenSpec.upto compactSplitsSpec)) compactSplitsUptoCard

/-- THE SECOND FORM's CARD OF 'almanaclaw23.CompactBack'. -/
def compactBackUptoCard : Claim7 := { stood := { row := compactBackUptoRow, standIns := [], harness := (true, "4dbf2ee2c6f54f9fd4d68aba6f8b8dc5e7c84a38d120a76a96e4bfcdb402f0dc"), looks := true }, kinds := [], alts := [], laidByText := true, laidKinds := [.data, .data], laidTests := true, laidLooks := .later }
def CompactBackUptoCardSaid : Prop := Claim7.holds Tryz.pinned (.plain (OpenSpec.upto compactBackSpec)) compactBackUptoCard

/-- THE SECOND FORM's CARD OF 'almanaclaw19.BlockBack'. -/
def blockBackUptoCard : Claim7 := { stood := { row := blockBackUptoRow, standIns := [], harness := (true, "4dbf2ee2c6f54f9fd4d68aba6f8b8dc5e7c84a38d120a76a96e4bfcdb402f0dc"), looks := true }, kinds := [], alts := [], laidByText := true, laidKinds := [.data, .data], laidTests := true, laidLooks := .later }
def BlockBackUptoCardSaid : Prop := Claim7.holds Tryz.pinned (.plain (OpenSpec.upto blockBackSpec)) blockBackUptoCard

/-- THE SECOND FORM's CARD OF 'almanaclaw19.BlockOne'. -/
def blockOneUptoCard : Claim7 := { stood := { row := blockOneUptoRow, standIns := [], harness := (true, "4dbf2ee2c6f54f9fd4d68aba6f8b8dc5e7c84a38d120a76a96e4bfcdb402f0dc"), looks := true }, kinds := [], alts := [], laidByText := true, laidKinds := [.data, .data], laidTests := true, laidLooks := .later }
def BlockOneUptoCardSaid : Prop := Claim7.holds Tryz.pinned (.plain (OpenSpec.upto blockOneSpec)) blockOneUptoCard

/-- THE SECOND FORM's CARD OF 'almanaclaw19.BlockApart'. -/
def blockApartUptoCard : Claim7 := { stood := { row := blockApartUptoRow, standIns := [], harness := (true, "4dbf2ee2c6f54f9fd4d68aba6f8b8dc5e7c84a38d120a76a96e4bfcdb402f0dc"), looks := true }, kinds := [], alts := [], laidByText := true, laidKinds := [.data, .data], laidTests := true, laidLooks := .later }
def BlockApartUptoCardSaid : Prop := Claim7.holds Tryz.pinned (.plain (OpenSpec.upto blockApartSpec)) blockApartUptoCard

/-- THE SECOND FORM's CARD OF 'almanaclaw19.BlockPosts'. -/
def blockPostsUptoCard : Claim7 := { stood := { row := blockPostsUptoRow, standIns := [], harness := (true, "4dbf2ee2c6f54f9fd4d68aba6f8b8dc5e7c84a38d120a76a96e4bfcdb402f0dc"), looks := true }, kinds := [], alts := [], laidByText := true, laidKinds := [.data, .data], laidTests := true, laidLooks := .later }
def BlockPostsUptoCardSaid : Prop := Claim7.holds Tryz.pinned (.plain (OpenSpec.upto blockPostsSpec)) blockPostsUptoCard

/-- THE SECOND FORM's CARD OF 'almanaclaw19.BlockSpoilt'. -/
def blockSpoiltUptoCard : Claim7 := { stood := { row := blockSpoiltUptoRow, standIns := [], harness := (true, "4dbf2ee2c6f54f9fd4d68aba6f8b8dc5e7c84a38d120a76a96e4bfcdb402f0dc"), looks := true }, kinds := [], alts := [], laidByText := true, laidKinds := [.data, .data], laidTests := true, laidLooks := .later }
def BlockSpoiltUptoCardSaid : Prop := Claim7.holds Tryz.pinned (.plain (OpenSpec.upto blockSpoiltSpec)) blockSpoiltUptoCard
end Rows
end Go.Proofs.YtdoiekknhnbepaaGreatDoor
