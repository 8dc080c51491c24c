/-
  DERIVED. GIVEN WITH THE SEED: THE CARDS: each row of YtefpndiiedkmpaaGreatDoorRows.lean that lists a variable, with what it lists TIED to the program's text (the seventh form; the later family's looks); each row that meets fmt, with fmt's text TOLD by the authors' own Lean function (tested against real Go, not proved from fmt's source: count such statements apart). THE CARD IS WHAT COUNTS. Prove the row's statement (the work); the ties are given (YtefpndiiedkmpaaGreatDoorTie.lean); close each card by the builder's one call (the guide's Derived/Test/ToyasCard.lean, 'card_holds'). Laid BY PROGRAM, IN A SANDBOX (cutbox-door.mjs). By AI agents, Wed Nov 11 2026. No macro, syntax, notation, axiom, sorry.
-/
import Derived.Test.YtefpndiiedkmpaaGreatDoorRows
import GoSem.ClaimSeven
namespace Go.Proofs.YtefpndiiedkmpaaGreatDoor
namespace Rows

/-- THE TIED CARD OF 'almanaclaw17.CkptBack'. -/
def ckptBackCard : Claim7 := { stood := { row := ckptBackRow, standIns := [], harness := (true, "dba68161ccc0fb3d1ca9e6485f02d6ecce9e64125c35d0308142f87e45fffa4e"), looks := true }, kinds := [], alts := [], laidByText := true, laidKinds := [.data, .sentinel, .sentinel, .sentinel, .sentinel, .sentinel, .sentinel, .data], laidTests := true, laidLooks := .later }
def CkptBackCardSaid : Prop := Claim7.holds Tryz.pinned (.plain (OpenSpec.ofChange ckptBackSpec)) ckptBackCard

/-- THE TIED CARD OF 'almanaclaw17.CkptOne'. -/
def ckptOneCard : Claim7 := { stood := { row := ckptOneRow, standIns := [], harness := (true, "dba68161ccc0fb3d1ca9e6485f02d6ecce9e64125c35d0308142f87e45fffa4e"), looks := true }, kinds := [], alts := [], laidByText := true, laidKinds := [.data, .sentinel, .sentinel, .sentinel, .sentinel, .sentinel, .sentinel, .data], laidTests := true, laidLooks := .later }
def CkptOneCardSaid : Prop := Claim7.holds Tryz.pinned (.plain (OpenSpec.ofChange ckptOneSpec)) ckptOneCard

/-- THE TIED CARD OF 'almanaclaw17.CkptApart'. -/
def ckptApartCard : Claim7 := { stood := { row := ckptApartRow, standIns := [], harness := (true, "dba68161ccc0fb3d1ca9e6485f02d6ecce9e64125c35d0308142f87e45fffa4e"), looks := true }, kinds := [], alts := [], laidByText := true, laidKinds := [.data, .sentinel, .sentinel, .sentinel, .sentinel, .sentinel, .sentinel, .data], laidTests := true, laidLooks := .later }
def CkptApartCardSaid : Prop := Claim7.holds Tryz.pinned (.plain (OpenSpec.ofChange ckptApartSpec)) ckptApartCard

/-- THE TIED CARD OF 'almanaclaw17.CkptSpoilt'. -/
def ckptSpoiltCard : Claim7 := { stood := { row := ckptSpoiltRow, standIns := [], harness := (true, "dba68161ccc0fb3d1ca9e6485f02d6ecce9e64125c35d0308142f87e45fffa4e"), looks := true }, kinds := [], alts := [], laidByText := true, laidKinds := [.data, .sentinel, .sentinel, .sentinel, .sentinel, .sentinel, .sentinel, .sentinel, .data], laidTests := true, laidLooks := .later }
def CkptSpoiltCardSaid : Prop := Claim7.holds Tryz.pinned (.plain (OpenSpec.ofChange ckptSpoiltSpec)) ckptSpoiltCard

/-- THE TIED CARD OF 'almanaclaw17.CkptFull'. -/
def ckptFullCard : Claim7 := { stood := { row := ckptFullRow, standIns := [], harness := (true, "dba68161ccc0fb3d1ca9e6485f02d6ecce9e64125c35d0308142f87e45fffa4e"), looks := true }, kinds := [], alts := [], laidByText := true, laidKinds := [.data, .sentinel, .sentinel, .sentinel, .sentinel, .sentinel, .sentinel, .data], laidTests := true, laidLooks := .later }
def CkptFullCardSaid : Prop := Claim7.holds Tryz.pinned (.plain (OpenSpec.ofChange ckptFullSpec)) ckptFullCard

/-- THE TIED CARD OF 'almanaclaw17.CkptSwaps'. -/
def ckptSwapsCard : Claim7 := { stood := { row := ckptSwapsRow, standIns := [], harness := (true, "dba68161ccc0fb3d1ca9e6485f02d6ecce9e64125c35d0308142f87e45fffa4e"), looks := true }, kinds := [], alts := [], laidByText := true, laidKinds := [.data, .sentinel, .sentinel, .sentinel, .sentinel, .sentinel, .sentinel, .data], laidTests := true, laidLooks := .later }
def CkptSwapsCardSaid : Prop := Claim7.holds Tryz.pinned (.plain (OpenSpec.ofChange ckptSwapsSpec)) ckptSwapsCard

/-- THE SECOND FORM's CARD OF 'almanaclaw17.CkptBack'. -/
def ckptBackUptoCard : Claim7 := { stood := { row := ckptBackUptoRow, standIns := [], harness := (true, "dba68161ccc0fb3d1ca9e6485f02d6ecce9e64125c35d0308142f87e45fffa4e"), looks := true }, kinds := [], alts := [], laidByText := true, laidKinds := [.data, .sentinel, .sentinel, .sentinel, .sentinel, .sentinel, .sentinel, .data], laidTests := true, laidLooks := .later }
def CkptBackUptoCardSaid : Prop := Claim7.holds Tryz.pinned (.plain (OpenSpec.upto ckptBackSpec)) ckptBackUptoCard

/-- THE SECOND FORM's CARD OF 'almanaclaw17.CkptOne'. -/
def ckptOneUptoCard : Claim7 := { stood := { row := ckptOneUptoRow, standIns := [], harness := (true, "dba68161ccc0fb3d1ca9e6485f02d6ecce9e64125c35d0308142f87e45fffa4e"), looks := true }, kinds := [], alts := [], laidByText := true, laidKinds := [.data, .sentinel, .sentinel, .sentinel, .sentinel, .sentinel, .sentinel, .data], laidTests := true, laidLooks := .later }
def CkptOneUptoCardSaid : Prop := Claim7.holds Tryz.pinned (.plain (OpenSpec.upto ckptOneSpec)) ckptOneUptoCard

/-- THE SECOND FORM's CARD OF 'almanaclaw17.CkptApart'. -/
def ckptApartUptoCard : Claim7 := { stood := { row := ckptApartUptoRow, standIns := [], harness := (true, "dba68161ccc0fb3d1ca9e6485f02d6ecce9e64125c35d0308142f87e45fffa4e"), looks := true }, kinds := [], alts := [], laidByText := true, laidKinds := [.data, .sentinel, .sentinel, .sentinel, .sentinel, .sentinel, .sentinel, .data], laidTests := true, laidLooks := .later }
def CkptApartUptoCardSaid : Prop := Claim7.holds Tryz.pinned (.plain (OpenSpec.upto ckptApartSpec)) ckptApartUptoCard

/-- THE SECOND FORM's CARD OF 'almanaclaw17.CkptSpoilt'. -/
def ckptSpoiltUptoCard : Claim7 := { stood := { row := ckptSpoiltUptoRow, standIns := [], harness := (true, "dba68161ccc0fb3d1ca9e6485f02d6ecce9e64125c35d0308142f87e45fffa4e"), looks := true }, kinds := [], alts := [], laidByText := true, laidKinds := [.data, .sentinel, .sentinel, .sentinel, .sentinel, .sentinel, .sentinel, .sentinel, .data], laidTests := true, laidLooks := .later }
def CkptSpoiltUptoCardSaid : Prop := Claim7.holds Tryz.pinned (.plain (OpenSpec.upto ckptSpoiltSpec)) ckptSpoiltUptoCard

/-- THE SECOND FORM's CARD OF 'almanaclaw17.CkptFull'. -/
def ckptFullUptoCard : Claim7 := { stood := { row := ckptFullUptoRow, standIns := [], harness := (true, "dba68161ccc0fb3d1ca9e6485f02d6ecce9e64125c35d0308142f87e45fffa4e"), looks := true }, kinds := [], alts := [], laidByText := true, laidKinds := [.data, .sentinel, .sentinel, .sentinel, .sentinel, .sentinel, .sentinel, .data], laidTests := true, laidLooks := .later }
def CkptFullUptoCardSaid : Prop := Claim7.holds Tryz.pinned (.plain (OpenSpec.upto ckptFullSpec)) ckptFullUptoCard

/-- THE SECOND FORM's CARD OF 'almanaclaw17.CkptSwaps'. -/
def ckptSwapsUptoCard : Claim7 := { stood := { row := ckptSwapsUptoRow, standIns := [], harness := (true, "dba68161ccc0fb3d1ca9e6485f02d6ecce9e64125c35d0308142f87e45fffa4e"), looks := true }, kinds := [], alts := [], laidByText := true, laidKinds := [.data, .sentinel, .sentinel, .sentinel, .sentinel, .sentinel, .sentinel, .data], laidTests := true, laidLooks := .later }
def CkptSwapsUptoCardSaid : Prop := Claim7.holds Tryz.pinned (.plain (OpenSpec.upto ckptSwapsSpec)) ckptSwapsUptoCard
end Rows
end Go.Proofs.YtefpndiiedkmpaaGreatDoor
